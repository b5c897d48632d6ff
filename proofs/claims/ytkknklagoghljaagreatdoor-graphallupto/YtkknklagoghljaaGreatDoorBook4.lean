/- One more list into the book. -/
import Derived.Test.YtkknklagoghljaaGreatDoorBook3
import Derived.Lib.Hide
import Derived.Deep.RegionWith
import Derived.Deep.DeepCutAuto
import Derived.Deep.RegionLaw
namespace Go.Proofs.YtkknklagoghljaaGreatDoor
open Go.RowKit
def AddPost (j : Nat) (bk B : Nat) (hv : Nat → Value) (ls : Nat → List Lst) (v : Value) (n : Nat) (cs : List Value) (w : World) (e : Ending) (w' : World) : Prop :=
  e = .returned (.tuple #[]) ∧ ∃ hv' ls', BookMem w' bk B hv' ls' ∧ BookStep w bk hv w' hv' ∧ (ls' = ls ∨ ((ls j).length < 400 ∧ ∃ v2, (∀ q, myBlock v2 = some q → w.heap.size ≤ q) ∧ ls' = upd (upd ls j (ls j ++ [⟨v, n, cs⟩])) (j + 1) (ls (j + 1) ++ [⟨v2, n, cs⟩])))
set_option maxRecDepth 100000 in
set_option maxHeartbeats 2000000 in
theorem addI (w : World) (bk B : Nat) (hv : Nat → Value) (ls : Nat → List Lst) (v : Value) (n : Nat) (cs : List Value) (hM : BookMem w bk B hv ls) (hx : Owned w B 3 1 v n cs) (hf : ∀ q, myBlock v = some q → Apt bk hv ls q)
    (h1 : ∀ u ∈ cs, u.oneCell' = true) (hn : n < 100000000000) (hl0 : (ls 0).length ≤ 400) (hl1 : (ls 1).length ≤ 400) :
    Calls Tryz.prog 10 #[.pointer (some ⟨bk, 0, none⟩), v] w (AddPost 0 bk B hv ls v n cs w) := by
  obtain ⟨adv, capv, rfl⟩ := hx.form
  obtain ⟨adh, caph, hh⟩ := (hM.hdr 0).form
  have hho := hM.hdr 0
  have c0 := hM.cell (j := 0) (by decide)
  have f0 := hM.free 0
  have lB := hM.lt
  have lB2 := hM.base
  rw [hh] at c0
  have hho' : Owned w B 49 1 (.slice adh (ls 0).length caph) (ls 0).length ((ls 0).map Lst.v) := by rw [← hh]; exact hho
  obtain ⟨m, hm⟩ : ∃ m, m = (ls 0).length := ⟨_, rfl⟩
  have hm' : Hid (m = (ls 0).length) := hm
  rw [← hm] at c0 hho' hl0
  have hh' : Hid (hv 0 = .slice adh m caph) := by rw [Hid, hh, ← hm]
  clear hm hh hho
  go_enter Tryz.func10, Tryz.ntmps10
  by_cases hlt : m < 400
  · have e1 : (m : Int) < 400 := by omega
    go_wp2_with (first | (refine app32 rfl rfl _ _ rfl B _ _ _ rfl w hho' #[.slice adv n capv] _ rfl w.heap.size rfl rfl rfl (by simp [Value.oneCell']) (by omega) (by omega) ?_) | fail)
    intro v' w1 ho1 hg1 hm1
    obtain ⟨ad', cap', rfl⟩ := ho1.form
    have hadd := hM.add 0 (.slice ad' (m + 1) cap') ⟨.slice adv n capv, n, cs⟩ (w1 := w1) (by rw [← hm'.out]; exact ho1) (by rw [hh'.out]; exact hg1) (by rw [hh'.out]; exact hm1) hx hf
    have hrw1 := hM.row.grown hg1 (by rw [← hh'.out]; exact hM.s1 0)
    have c0' : w1.cell? ⟨bk, 0, none⟩ = some (.slice adh m caph) := by rw [hrw1.cell 0, List.getElem?_map, List.getElem?_range (by decide), Option.map_some, hh'.out]
    have f0' := hrw1.free 0
    have lB' := hrw1.lt
    clear c0 f0 hho'
    go_wp2_with fail
    obtain ⟨W1, hW1⟩ : ∃ W1, W1 = w1.setCell ⟨bk, 0, none⟩ (.slice ad' (m + 1) cap') := ⟨_, rfl⟩
    rw [← hW1] at hadd ⊢
    obtain ⟨hM1, hS1⟩ := hadd
    clear hW1 c0' f0' lB' hrw1 hg1 hm1 ho1
    obtain ⟨hv1, hhv1⟩ : ∃ hv1, hv1 = upd hv 0 (.slice ad' (m + 1) cap') := ⟨_, rfl⟩
    obtain ⟨ls1, hls1⟩ : ∃ ls1, ls1 = upd ls 0 (ls 0 ++ [⟨.slice adv n capv, n, cs⟩]) := ⟨_, rfl⟩
    rw [← hhv1, ← hls1] at hM1
    rw [← hhv1] at hS1
    have hl1' : Hid (ls1 1 = ls 1) := by rw [Hid, hls1, upd_other _ _ (by decide)]
    have hlsr : Hid (ls1 = upd ls 0 (ls 0 ++ [⟨.slice adv n capv, n, cs⟩])) := hls1
    clear hhv1 hls1
    have hin : (⟨.slice adv n capv, n, cs⟩ : Lst) ∈ ls1 0 := by rw [hlsr.out, upd_same]; simp
    have hrv := Lib.hid (hM1.itm 0 _ hin).reads
    obtain ⟨adk, capk, hk⟩ := (hM1.hdr 1).form
    have c1 := hM1.cell (j := 1) (by decide)
    have f1 := hM1.free 1
    have lB1 := hM1.lt
    rw [hk] at c1
    rw [hl1'.out] at c1 hk
    obtain ⟨p, hp⟩ : ∃ p, p = (ls 1).length := ⟨_, rfl⟩
    rw [← hp] at c1 hk hl1
    have hp' : Hid (p = (ls1 1).length) := by rw [Hid, hp, hl1'.out]
    have hk' : Hid (hv1 1 = .slice adk p capk) := hk
    clear hp hk hin
    have hone : Hid (∀ u ∈ cs, u.oneCell' = true) := h1
    clear h1 hx hf hM
    have hext : Hid (∀ w2, Below W1.heap.size W1 w2 → Owned w2 B 49 1 (.slice adk p capk) p ((ls1 1).map Lst.v)) := fun w2 hb => by
      have := (hM1.ext hb).hdr 1
      rw [hk'.out, ← hp'.out] at this
      exact this
    go_region_law (first | (refine sappn49 rfl rfl _ _ rfl W1.heap.size (.slice none 0 0) 0 [] rfl (Owned.nil _ _ _ _ _) (.slice adv n capv) n cs rfl hrv.out hone.out (by omega) (by simp) ?_; intro ad2 cap2 w2 ho2 hg2 hmb2 hr2; have hb2 : Below W1.heap.size W1 w2 := ((Below.refl W1.heap.size W1).drew).grown hg2 (Nat.le_refl _) (fun q hq => by simp [myBlock] at hq); have hM2 := hM1.ext hb2; have c2 := hM2.cell (j := 1) (by decide); rw [hk'.out] at c2; have f2 := hM2.free 1; have lB2 := hM2.lt) | (refine sapp32 rfl rfl _ _ rfl B _ p _ (by rfl) w2 (hext.out _ hb2) #[.slice ad2 n cap2] _ (by rfl) w2.heap.size rfl (by rfl) rfl (by simp [Value.oneCell']) (by omega) (by omega) ?_; intro ad3 cap3 w3 ho3 hg3 hmb3; have hrw3 := hM2.row.grown hg3 (by rw [← hk'.out]; exact hM2.s1 1); have c3 := hrw3.cell 1; have f3 := hrw3.free 1; have lB3 := hrw3.lt))
    all_goals
      go_wp2_with fail
      go_end0
      have ho2' : Owned w2 W1.heap.size 3 1 (.slice ad2 n cap2) n cs := by simpa using ho2
      have hadd2 := hM2.add 1 (.slice ad3 (p + 1) cap3) ⟨.slice ad2 n cap2, n, cs⟩ (w1 := w3) (by rw [← hp'.out]; exact ho3) (by rw [hk'.out]; exact hg3) (by rw [hk'.out]; exact hmb3) (ho2'.mono (by omega)) (fun q hq => hM1.fresh (ho2'.lt hq).1)
      obtain ⟨hM3, hS3⟩ := hadd2
      refine ⟨rfl, _, _, hM3, (hS1.trans (BookStep.ofBelow hb2)).trans hS3, .inr ⟨by rw [← hm'.out]; exact hlt, .slice ad2 n cap2, (fun q hq => Nat.le_trans hS1.size (ho2'.lt hq).1), ?_⟩⟩
      rw [hl1'.out, hlsr.out]
  · have e1 : ¬ ((m : Int) < 400) := by omega
    go_wp2_with fail
    go_end0
    exact ⟨rfl, hv, ls, hM, BookStep.refl _ _ _, .inl rfl⟩
set_option maxRecDepth 100000 in
set_option maxHeartbeats 2000000 in
theorem addS (w : World) (bk B : Nat) (hv : Nat → Value) (ls : Nat → List Lst) (v : Value) (n : Nat) (cs : List Value) (hM : BookMem w bk B hv ls) (hx : Owned w B 85 2 v n cs) (hf : ∀ q, myBlock v = some q → Apt bk hv ls q)
    (h1 : ∀ u ∈ cs, u.oneCell' = true) (hn : n < 100000000000) (hl0 : (ls 8).length ≤ 400) (hl1 : (ls 9).length ≤ 400) :
    Calls Tryz.prog 7 #[.pointer (some ⟨bk, 0, none⟩), v] w (AddPost 8 bk B hv ls v n cs w) := by
  obtain ⟨adv, capv, rfl⟩ := hx.form
  obtain ⟨adh, caph, hh⟩ := (hM.hdr 8).form
  have hho := hM.hdr 8
  have c0 := hM.cell (j := 8) (by decide)
  have f0 := hM.free 8
  have lB := hM.lt
  have lB2 := hM.base
  rw [hh] at c0
  have hho' : Owned w B 46 1 (.slice adh (ls 8).length caph) (ls 8).length ((ls 8).map Lst.v) := by rw [← hh]; exact hho
  obtain ⟨m, hm⟩ : ∃ m, m = (ls 8).length := ⟨_, rfl⟩
  have hm' : Hid (m = (ls 8).length) := hm
  rw [← hm] at c0 hho' hl0
  have hh' : Hid (hv 8 = .slice adh m caph) := by rw [Hid, hh, ← hm]
  clear hm hh hho
  go_enter Tryz.func7, Tryz.ntmps7
  by_cases hlt : m < 400
  · have e1 : (m : Int) < 400 := by omega
    go_wp2_with (first | (refine app36 rfl rfl _ _ rfl B _ _ _ rfl w hho' #[.slice adv n capv] _ rfl w.heap.size rfl rfl rfl (by simp [Value.oneCell']) (by omega) (by omega) ?_) | fail)
    intro v' w1 ho1 hg1 hm1
    obtain ⟨ad', cap', rfl⟩ := ho1.form
    have hadd := hM.add 8 (.slice ad' (m + 1) cap') ⟨.slice adv n capv, n, cs⟩ (w1 := w1) (by rw [← hm'.out]; exact ho1) (by rw [hh'.out]; exact hg1) (by rw [hh'.out]; exact hm1) hx hf
    have hrw1 := hM.row.grown hg1 (by rw [← hh'.out]; exact hM.s1 8)
    have c0' : w1.cell? ⟨bk, 8, none⟩ = some (.slice adh m caph) := by rw [hrw1.cell 8, List.getElem?_map, List.getElem?_range (by decide), Option.map_some, hh'.out]
    have f0' := hrw1.free 8
    have lB' := hrw1.lt
    clear c0 f0 hho'
    go_wp2_with fail
    obtain ⟨W1, hW1⟩ : ∃ W1, W1 = w1.setCell ⟨bk, 8, none⟩ (.slice ad' (m + 1) cap') := ⟨_, rfl⟩
    rw [← hW1] at hadd ⊢
    obtain ⟨hM1, hS1⟩ := hadd
    clear hW1 c0' f0' lB' hrw1 hg1 hm1 ho1
    obtain ⟨hv1, hhv1⟩ : ∃ hv1, hv1 = upd hv 8 (.slice ad' (m + 1) cap') := ⟨_, rfl⟩
    obtain ⟨ls1, hls1⟩ : ∃ ls1, ls1 = upd ls 8 (ls 8 ++ [⟨.slice adv n capv, n, cs⟩]) := ⟨_, rfl⟩
    rw [← hhv1, ← hls1] at hM1
    rw [← hhv1] at hS1
    have hl1' : Hid (ls1 9 = ls 9) := by rw [Hid, hls1, upd_other _ _ (by decide)]
    have hlsr : Hid (ls1 = upd ls 8 (ls 8 ++ [⟨.slice adv n capv, n, cs⟩])) := hls1
    clear hhv1 hls1
    have hin : (⟨.slice adv n capv, n, cs⟩ : Lst) ∈ ls1 8 := by rw [hlsr.out, upd_same]; simp
    have hrv := Lib.hid (hM1.itm 8 _ hin).reads
    obtain ⟨adk, capk, hk⟩ := (hM1.hdr 9).form
    have c1 := hM1.cell (j := 9) (by decide)
    have f1 := hM1.free 9
    have lB1 := hM1.lt
    rw [hk] at c1
    rw [hl1'.out] at c1 hk
    obtain ⟨p, hp⟩ : ∃ p, p = (ls 9).length := ⟨_, rfl⟩
    rw [← hp] at c1 hk hl1
    have hp' : Hid (p = (ls1 9).length) := by rw [Hid, hp, hl1'.out]
    have hk' : Hid (hv1 9 = .slice adk p capk) := hk
    clear hp hk hin
    have hone : Hid (∀ u ∈ cs, u.oneCell' = true) := h1
    clear h1 hx hf hM
    have hext : Hid (∀ w2, Below W1.heap.size W1 w2 → Owned w2 B 46 1 (.slice adk p capk) p ((ls1 9).map Lst.v)) := fun w2 hb => by
      have := (hM1.ext hb).hdr 9
      rw [hk'.out, ← hp'.out] at this
      exact this
    go_region_law (first | (refine sappn46 rfl rfl _ _ rfl W1.heap.size (.slice none 0 0) 0 [] rfl (Owned.nil _ _ _ _ _) (.slice adv n capv) n cs rfl hrv.out hone.out (by omega) (by simp) ?_; intro ad2 cap2 w2 ho2 hg2 hmb2 hr2; have hb2 : Below W1.heap.size W1 w2 := ((Below.refl W1.heap.size W1).drew).grown hg2 (Nat.le_refl _) (fun q hq => by simp [myBlock] at hq); have hM2 := hM1.ext hb2; have c2 := hM2.cell (j := 9) (by decide); rw [hk'.out] at c2; have f2 := hM2.free 9; have lB2 := hM2.lt) | (refine sapp36 rfl rfl _ _ rfl B _ p _ (by rfl) w2 (hext.out _ hb2) #[.slice ad2 n cap2] _ (by rfl) w2.heap.size rfl (by rfl) rfl (by simp [Value.oneCell']) (by omega) (by omega) ?_; intro ad3 cap3 w3 ho3 hg3 hmb3; have hrw3 := hM2.row.grown hg3 (by rw [← hk'.out]; exact hM2.s1 9); have c3 := hrw3.cell 9; have f3 := hrw3.free 9; have lB3 := hrw3.lt))
    all_goals
      go_wp2_with fail
      go_end0
      have ho2' : Owned w2 W1.heap.size 85 2 (.slice ad2 n cap2) n cs := by simpa using ho2
      have hadd2 := hM2.add 9 (.slice ad3 (p + 1) cap3) ⟨.slice ad2 n cap2, n, cs⟩ (w1 := w3) (by rw [← hp'.out]; exact ho3) (by rw [hk'.out]; exact hg3) (by rw [hk'.out]; exact hmb3) (ho2'.mono (by omega)) (fun q hq => hM1.fresh (ho2'.lt hq).1)
      obtain ⟨hM3, hS3⟩ := hadd2
      refine ⟨rfl, _, _, hM3, (hS1.trans (BookStep.ofBelow hb2)).trans hS3, .inr ⟨by rw [← hm'.out]; exact hlt, .slice ad2 n cap2, (fun q hq => Nat.le_trans hS1.size (ho2'.lt hq).1), ?_⟩⟩
      rw [hl1'.out, hlsr.out]
  · have e1 : ¬ ((m : Int) < 400) := by omega
    go_wp2_with fail
    go_end0
    exact ⟨rfl, hv, ls, hM, BookStep.refl _ _ _, .inl rfl⟩
set_option maxRecDepth 100000 in
set_option maxHeartbeats 2000000 in
theorem addE (w : World) (bk B : Nat) (hv : Nat → Value) (ls : Nat → List Lst) (v : Value) (n : Nat) (cs : List Value) (hM : BookMem w bk B hv ls) (hx : Owned w B 71 3 v n cs) (hf : ∀ q, myBlock v = some q → Apt bk hv ls q)
    (h1 : ∀ u ∈ cs, u.oneCell' = true) (hn : n < 100000000000) (hl0 : (ls 10).length ≤ 400) (hl1 : (ls 11).length ≤ 400) :
    Calls Tryz.prog 13 #[.pointer (some ⟨bk, 0, none⟩), v] w (AddPost 10 bk B hv ls v n cs w) := by
  obtain ⟨adv, capv, rfl⟩ := hx.form
  obtain ⟨adh, caph, hh⟩ := (hM.hdr 10).form
  have hho := hM.hdr 10
  have c0 := hM.cell (j := 10) (by decide)
  have f0 := hM.free 10
  have lB := hM.lt
  have lB2 := hM.base
  rw [hh] at c0
  have hho' : Owned w B 22 1 (.slice adh (ls 10).length caph) (ls 10).length ((ls 10).map Lst.v) := by rw [← hh]; exact hho
  obtain ⟨m, hm⟩ : ∃ m, m = (ls 10).length := ⟨_, rfl⟩
  have hm' : Hid (m = (ls 10).length) := hm
  rw [← hm] at c0 hho' hl0
  have hh' : Hid (hv 10 = .slice adh m caph) := by rw [Hid, hh, ← hm]
  clear hm hh hho
  go_enter Tryz.func13, Tryz.ntmps13
  by_cases hlt : m < 400
  · have e1 : (m : Int) < 400 := by omega
    go_wp2_with (first | (refine app37 rfl rfl _ _ rfl B _ _ _ rfl w hho' #[.slice adv n capv] _ rfl w.heap.size rfl rfl rfl (by simp [Value.oneCell']) (by omega) (by omega) ?_) | fail)
    intro v' w1 ho1 hg1 hm1
    obtain ⟨ad', cap', rfl⟩ := ho1.form
    have hadd := hM.add 10 (.slice ad' (m + 1) cap') ⟨.slice adv n capv, n, cs⟩ (w1 := w1) (by rw [← hm'.out]; exact ho1) (by rw [hh'.out]; exact hg1) (by rw [hh'.out]; exact hm1) hx hf
    have hrw1 := hM.row.grown hg1 (by rw [← hh'.out]; exact hM.s1 10)
    have c0' : w1.cell? ⟨bk, 10, none⟩ = some (.slice adh m caph) := by rw [hrw1.cell 10, List.getElem?_map, List.getElem?_range (by decide), Option.map_some, hh'.out]
    have f0' := hrw1.free 10
    have lB' := hrw1.lt
    clear c0 f0 hho'
    go_wp2_with fail
    obtain ⟨W1, hW1⟩ : ∃ W1, W1 = w1.setCell ⟨bk, 10, none⟩ (.slice ad' (m + 1) cap') := ⟨_, rfl⟩
    rw [← hW1] at hadd ⊢
    obtain ⟨hM1, hS1⟩ := hadd
    clear hW1 c0' f0' lB' hrw1 hg1 hm1 ho1
    obtain ⟨hv1, hhv1⟩ : ∃ hv1, hv1 = upd hv 10 (.slice ad' (m + 1) cap') := ⟨_, rfl⟩
    obtain ⟨ls1, hls1⟩ : ∃ ls1, ls1 = upd ls 10 (ls 10 ++ [⟨.slice adv n capv, n, cs⟩]) := ⟨_, rfl⟩
    rw [← hhv1, ← hls1] at hM1
    rw [← hhv1] at hS1
    have hl1' : Hid (ls1 11 = ls 11) := by rw [Hid, hls1, upd_other _ _ (by decide)]
    have hlsr : Hid (ls1 = upd ls 10 (ls 10 ++ [⟨.slice adv n capv, n, cs⟩])) := hls1
    clear hhv1 hls1
    have hin : (⟨.slice adv n capv, n, cs⟩ : Lst) ∈ ls1 10 := by rw [hlsr.out, upd_same]; simp
    have hrv := Lib.hid (hM1.itm 10 _ hin).reads
    obtain ⟨adk, capk, hk⟩ := (hM1.hdr 11).form
    have c1 := hM1.cell (j := 11) (by decide)
    have f1 := hM1.free 11
    have lB1 := hM1.lt
    rw [hk] at c1
    rw [hl1'.out] at c1 hk
    obtain ⟨p, hp⟩ : ∃ p, p = (ls 11).length := ⟨_, rfl⟩
    rw [← hp] at c1 hk hl1
    have hp' : Hid (p = (ls1 11).length) := by rw [Hid, hp, hl1'.out]
    have hk' : Hid (hv1 11 = .slice adk p capk) := hk
    clear hp hk hin
    have hone : Hid (∀ u ∈ cs, u.oneCell' = true) := h1
    clear h1 hx hf hM
    have hext : Hid (∀ w2, Below W1.heap.size W1 w2 → Owned w2 B 22 1 (.slice adk p capk) p ((ls1 11).map Lst.v)) := fun w2 hb => by
      have := (hM1.ext hb).hdr 11
      rw [hk'.out, ← hp'.out] at this
      exact this
    go_region_law (first | (refine sappn22 rfl rfl _ _ rfl W1.heap.size (.slice none 0 0) 0 [] rfl (Owned.nil _ _ _ _ _) (.slice adv n capv) n cs rfl hrv.out hone.out (by omega) (by simp) ?_; intro ad2 cap2 w2 ho2 hg2 hmb2 hr2; have hb2 : Below W1.heap.size W1 w2 := ((Below.refl W1.heap.size W1).drew).grown hg2 (Nat.le_refl _) (fun q hq => by simp [myBlock] at hq); have hM2 := hM1.ext hb2; have c2 := hM2.cell (j := 11) (by decide); rw [hk'.out] at c2; have f2 := hM2.free 11; have lB2 := hM2.lt) | (refine sapp37 rfl rfl _ _ rfl B _ p _ (by rfl) w2 (hext.out _ hb2) #[.slice ad2 n cap2] _ (by rfl) w2.heap.size rfl (by rfl) rfl (by simp [Value.oneCell']) (by omega) (by omega) ?_; intro ad3 cap3 w3 ho3 hg3 hmb3; have hrw3 := hM2.row.grown hg3 (by rw [← hk'.out]; exact hM2.s1 11); have c3 := hrw3.cell 11; have f3 := hrw3.free 11; have lB3 := hrw3.lt))
    all_goals
      go_wp2_with fail
      go_end0
      have ho2' : Owned w2 W1.heap.size 71 3 (.slice ad2 n cap2) n cs := by simpa using ho2
      have hadd2 := hM2.add 11 (.slice ad3 (p + 1) cap3) ⟨.slice ad2 n cap2, n, cs⟩ (w1 := w3) (by rw [← hp'.out]; exact ho3) (by rw [hk'.out]; exact hg3) (by rw [hk'.out]; exact hmb3) (ho2'.mono (by omega)) (fun q hq => hM1.fresh (ho2'.lt hq).1)
      obtain ⟨hM3, hS3⟩ := hadd2
      refine ⟨rfl, _, _, hM3, (hS1.trans (BookStep.ofBelow hb2)).trans hS3, .inr ⟨by rw [← hm'.out]; exact hlt, .slice ad2 n cap2, (fun q hq => Nat.le_trans hS1.size (ho2'.lt hq).1), ?_⟩⟩
      rw [hl1'.out, hlsr.out]
  · have e1 : ¬ ((m : Int) < 400) := by omega
    go_wp2_with fail
    go_end0
    exact ⟨rfl, hv, ls, hM, BookStep.refl _ _ _, .inl rfl⟩
end Go.Proofs.YtkknklagoghljaaGreatDoor
