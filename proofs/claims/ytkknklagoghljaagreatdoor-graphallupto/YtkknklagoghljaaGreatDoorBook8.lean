/- The lists grown. -/
import Derived.Test.YtkknklagoghljaaGreatDoorBook7
import Derived.Test.YtkknklagoghljaaGreatDoorSort
namespace Go.Proofs.YtkknklagoghljaaGreatDoor
open Go.RowKit
open Go.RowKit (Below)
theorem one_cellI (l : List Int) : ∀ u ∈ l.flatMap encI, u.oneCell' = true := by
  intro u hu
  rw [encI_flat, List.mem_map] at hu
  obtain ⟨x, _, rfl⟩ := hu
  rfl
theorem reads_kept {w0 w w' : World} {B : Nat} {e : TypeId} {k n : Nat} {v : Value} {cs0 cs : List Value} (hx : Owned w0 B e k v n cs0) (h : Reads w v n k cs) (hk : ∀ q, myBlock v = some q → w'.heap[q]? = w.heap[q]?) : Reads w' v n k cs := by
  obtain ⟨hl, ad, cp, hv, hc⟩ := h
  refine ⟨hl, ad, cp, hv, fun h0 => ?_⟩
  obtain ⟨b, o, rfl, hcell⟩ := hc h0
  obtain ⟨g, cap, hv2, hmb, _⟩ := owned_addr hx h0
  rw [hv] at hv2
  cases hv2
  exact ⟨b, 0, rfl, hcell.same (hk b hmb)⟩
theorem markMI_app (k a b : Nat) : (marksI k 0 a).flatMap encI ++ (marksI k a b).flatMap encI = (marksI k 0 (a + b)).flatMap encI := by
  have := marksI_append k 0 a b
  rw [Nat.zero_add] at this
  rw [← List.flatMap_append, this]
def GrownI (w0 w : World) (B : Nat) (l : List Lst) (us : List Value) : Prop := ∀ (a : Nat) (u : Value), us[a]? = some u → ∃ x, l[a]? = some x ∧ Owned w B 3 1 u (x.n + 96) ((marksI a 0 (x.n + 96)).flatMap encI) ∧ (∀ q, myBlock u = some q → myBlock x.v = some q ∨ w0.heap.size ≤ q) ∧ Reads w x.v x.n 1 x.cs
set_option maxRecDepth 100000 in
set_option maxHeartbeats 2000000 in
theorem growI (w : World) (bk B : Nat) (l : List Lst) (adh : Option Addr) (cph : Nat) (c0 : w.cell? ⟨bk, 0, none⟩ = some (.slice adh l.length cph)) (hh : 0 < l.length → ∃ b o, adh = some ⟨b, o, none⟩ ∧ CellsAt w b o (l.map Lst.v)) (lB : bk < w.heap.size) (hbk : B ≤ bk)
    (hi : ∀ x ∈ l, Owned w B 3 1 x.v x.n x.cs ∧ x.n < 100000000) (hc : ∀ (a : Nat) (x : Lst), l[a]? = some x → x.cs = (marksI a 0 x.n).flatMap encI)
    (s2 : ∀ x ∈ l, myBlock x.v ≠ some bk) (s4 : ∀ x ∈ l, ∀ b o, adh = some ⟨b, o, none⟩ → myBlock x.v ≠ some b) (s5 : ∀ (a a' : Nat) (x x' : Lst) (q : Nat), l[a]? = some x → l[a']? = some x' → myBlock x.v = some q → myBlock x'.v = some q → a = a') (hl : l.length ≤ 400) :
    Calls Tryz.prog 77 #[.pointer (some ⟨bk, 0, none⟩)] w (fun e w' => ∃ ad cap us, e = .returned (.slice ad l.length cap) ∧ us.length = l.length ∧ Owned w' w.heap.size 49 1 (.slice ad l.length cap) l.length us ∧ Below B w w' ∧
      (∀ q, q < w.heap.size → (∀ x ∈ l, myBlock x.v ≠ some q) → w'.heap[q]? = w.heap[q]?) ∧ GrownI w w' B l us) := by
  obtain ⟨m, hm⟩ : ∃ m, m = l.length := ⟨_, rfl⟩
  rw [← hm] at c0 hh hl ⊢
  have hm' : Hid (m = l.length) := hm
  have hhb : ∀ b o, adh = some ⟨b, o, none⟩ → 0 < m → b < w.heap.size := by
    intro b o he h0
    obtain ⟨b', o', he', hcl⟩ := hh h0
    rw [he] at he'; cases he'
    exact hcl.lt (by rw [List.length_map, ← hm]; exact h0)
  clear hm
  go_enter Tryz.func77, Tryz.ntmps77
  go_wp2_with fail
  go_loopw [3, 4] (fun o i wr => ∃ (k : Nat) (us : List Value), k ≤ m ∧ i = .int .i64 k ∧ us.length = k ∧ Owned wr w.heap.size 49 1 o k us ∧ Below B w wr ∧ (∀ q, q < w.heap.size → (∀ x ∈ l, myBlock x.v ≠ some q) → wr.heap[q]? = w.heap[q]?) ∧
    (∀ (a : Nat) (x : Lst) (q : Nat), k ≤ a → l[a]? = some x → myBlock x.v = some q → wr.heap[q]? = w.heap[q]?) ∧ GrownI w wr B l us ∧ (∀ (a : Nat) (u : Value) (q : Nat), us[a]? = some u → myBlock o = some q → myBlock u ≠ some q)) (fun _ i _ => m - (intOf i).toNat)
  case atStart => exact ⟨0, [], by omega, rfl, rfl, Owned.nil _ _ _ _ _, Below.refl _ _, fun _ _ _ => rfl, fun _ _ _ _ _ _ => rfl, fun a u h => by simp at h, fun a u q h => by simp at h⟩
  case round =>
    obtain ⟨k, us, hk, rfl, hul, hoo, hbl, hfr, hlat, hgr, hsep⟩ := hrel
    have hsz := hbl.size
    have d0 : wr.cell? ⟨bk, 0, none⟩ = some (.slice adh m cph) := (World.cell?_of_block (w := w) (a := ⟨bk, 0, none⟩) (hfr bk lB s2)).trans c0
    have lB1 : bk < wr.heap.size := by omega
    by_cases hlt : k < m
    · obtain ⟨b0, o0, rfl, hr0⟩ := hh (by omega)
      obtain ⟨x, hx⟩ : ∃ x, l[k]? = some x := ⟨l[k]'(by have := hm'.out; omega), by have := hm'.out; simp [show k < l.length by omega]⟩
      have hxm := List.mem_of_getElem? hx
      have hb0 := hhb b0 o0 rfl (by omega)
      have i0 := (World.cell?_of_block (w := w) (a := ⟨b0, o0 + k, none⟩) (hfr b0 hb0 (fun y hy => s4 y hy b0 o0 rfl))).trans (item_cell hr0 hx)
      have hx0 := (hi x hxm).1
      have hxn := (hi x hxm).2
      rw [hc k x hx] at hx0
      have hxo : Owned wr B 3 1 x.v x.n ((marksI k 0 x.n).flatMap encI) := hx0.kept fun q hq => hlat k x q (Nat.le_refl _) hx hq
      obtain ⟨adx, capx, hvx⟩ := hxo.form
      have hG0 := GrowIn.start (M := fun c => (marksI k 0 c).flatMap encI) hxo
      rw [hvx] at i0
      have hvx' : Hid (x.v = .slice adx x.n capx) := hvx
      rw [hvx] at hG0
      have hx' : Hid (l[k]? = some x) := hx
      have hBw : B ≤ wr.heap.size := by omega
      clear hvx hr0 hx hh
      go_wp2_with fail
      obtain ⟨wo, hwo⟩ : ∃ wo : World, wo = wr := ⟨_, rfl⟩
      rw [← hwo] at hoo hbl hfr hlat hgr hsz d0 lB1 i0 hxo hG0 hBw ⊢
      clear hwo
      go_loopw [5, 6] (fun lv n wz => ∃ c : Nat, c ≤ 16 ∧ n = .int .i64 c ∧ GrowIn wo wz B 3 1 x (fun c => (marksI k 0 c).flatMap encI) lv c) (fun _ n _ => 16 - (intOf n).toNat)
      case atStart => exact ⟨0, by omega, rfl, hG0⟩
      case round =>
        obtain ⟨c, hc16, rfl, hG⟩ := hrel
        clear hG0 d0 i0
        obtain ⟨adl, capl, rfl⟩ := hG.own.form
        obtain ⟨N, hN⟩ : ∃ N, N = x.n + c := ⟨_, rfl⟩
        have hG' : Hid (GrowIn wo wr B 3 1 x (fun c => (marksI k 0 c).flatMap encI) (.slice adl N capl) c) := by rw [Hid, hN]; exact hG
        have hown := hG.own
        rw [← hN] at hown ⊢
        have hzs := hG.bel.size
        by_cases hlt2 : c < 16
        · have hmk := Lib.hid (markI k N 1 wr (by omega) (by omega))
          have hNx : Hid (N = x.n + c) := hN
          have hNb : N < 200000000 := by omega
          clear hN hG
          go_wp2_with fail
          refine hmk.out.mono ?_
          rintro e w1 ⟨vm, rfl, hb1, hom⟩
          obtain ⟨adm, cm, rfl⟩ := hom.form
          have hown1 := hown.ext hb1
          have h1s := hb1.size
          clear hmk
          go_wp2_with (first | (refine appk49 rfl rfl _ _ rfl B _ N _ rfl hown1 _ 1 _ rfl hom.reads (one_cellI _) (by omega) (by omega) ?_) | fail)
          intro l' w2 ho2 hg2 hb2 hr2
          have hG2 := (hG'.out.ext hb1 hBw).app (d := 1) (news := (marksI k N 1).flatMap encI) hxo (fun a b => ⟨_, (markMI_app k a b).symm⟩) (by rw [← hNx.out, markMI_app, hNx.out, Nat.add_assoc]) (by rw [← hNx.out]; exact ho2) hg2 hb2 (by rw [← hNx.out]; exact hr2) hBw
          go_wp2_with fail
          go_roundw
          case rel => exact ⟨c + 1, by omega, by go_num, hG2⟩
          case measure => simp [intOf]; omega
        · have hcc : c = 16 := by omega
          subst hcc
          have hmk := Lib.hid (markI k N 80 wr (by omega) (by omega))
          have hNx : Hid (N = x.n + 16) := hN
          have hNb : N < 200000000 := by omega
          clear hN hG
          obtain ⟨ado, capo, rfl⟩ := hoo.form
          go_wp2_with fail
          refine hmk.out.mono ?_
          rintro e w1 ⟨vm, rfl, hb1, hom⟩
          obtain ⟨adm, cm, rfl⟩ := hom.form
          have hown1 := hown.ext hb1
          have h1s := hb1.size
          clear hmk
          go_wp2_with (first | (refine appk49 rfl rfl _ _ rfl B _ N _ rfl hown1 _ 80 _ rfl hom.reads (one_cellI _) (by omega) (by omega) ?_) | fail)
          intro l' w2 ho2 hg2 hb2 hr2
          have hG2 := (hG'.out.ext hb1 hBw).app (d := 80) (news := (marksI k N 80).flatMap encI) hxo (fun a b => ⟨_, (markMI_app k a b).symm⟩) (by rw [← hNx.out, markMI_app, hNx.out, Nat.add_assoc]) (by rw [← hNx.out]; exact ho2) hg2 hb2 (by rw [← hNx.out]; exact hr2) hBw
          obtain ⟨ad2, cap2, rfl⟩ := ho2.form
          have hxw : Hid (∀ q, myBlock x.v = some q → q < w.heap.size) := fun q hq => ((hi x hxm).1.lt hq).2
          have hoo2 : Owned w2 w.heap.size 49 1 (.slice ado k capo) k us := hoo.kept fun q hq => hG2.fr q (hoo.lt hq).2 (fun e => by have := hxw.out q e; have := (hoo.lt hq).1; omega)
          have h2s := hG2.bel.size
          have hG2' := Lib.hid hG2
          clear hG2 hr2 hg2 hb2 hown hown1
          go_wp2_with (first | (refine app32 rfl rfl _ _ rfl w.heap.size _ _ _ rfl w2 hoo2 #[.slice ad2 (N + 80) cap2] _ rfl w2.heap.size rfl rfl rfl (by simp [Value.oneCell']) (by omega) (by omega) ?_) | fail)
          intro o' w3 ho3 hg3 hb3
          have hG2 := hG2'.out
          have h3s := hg3.size
          have hkeep : ∀ q, q < wo.heap.size → myBlock x.v ≠ some q → myBlock (.slice ado k capo) ≠ some q → w3.heap[q]? = wo.heap[q]? := fun q hq h1 h2 =>
            (hg3.block q (by omega) (fun e => h2 e.symm)).trans (hG2.fr q hq h1)
          have hob : ∀ q, myBlock (.slice ado k capo) = some q → w.heap.size ≤ q ∧ q < wo.heap.size := fun q hq => hoo.lt hq
          have hxle : ∀ q, myBlock x.v = some q → q < w.heap.size := hxw.out
          have hl2 : ∀ q, myBlock (.slice ad2 (N + 80) cap2) = some q → myBlock x.v = some q ∨ wo.heap.size ≤ q := by
            intro q hq
            rcases hG2.blk with h | ⟨g', h, hle⟩
            · exact .inl (by rw [← h, hq])
            · rw [hq] at h; injection h with h; exact .inr (by omega)
          have hlo : Owned w2 B 3 1 (.slice ad2 (N + 80) cap2) (x.n + 96) ((marksI k 0 (x.n + 96)).flatMap encI) := hG2.own
          have hbl3 : Below B w w3 := (hbl.trans (hG2.bel)).grown hg3 (by omega) (fun q hq => by have := hob q hq; omega)
          have hgr3 : GrownI w w3 B l (us ++ [.slice ad2 (N + 80) cap2]) := by
            intro a u hu
            rcases Nat.lt_trichotomy a us.length with h | h | h
            · rw [List.getElem?_append_left h] at hu
              obtain ⟨y, y1, y2, y3, y4⟩ := hgr a u hu
              refine ⟨y, y1, y2.kept fun q hq => hkeep q (y2.lt hq).2 ?_ (fun e => hsep a u q hu e hq), y3, reads_kept (hi y (List.mem_of_getElem? y1)).1 y4 fun q hq => hkeep q (by have := ((hi y (List.mem_of_getElem? y1)).1.lt hq).2; omega) (fun e => by have := s5 _ _ _ _ q y1 hx'.out hq e; omega) (fun e => by have := (hob q e).1; have := ((hi y (List.mem_of_getElem? y1)).1.lt hq).2; omega)⟩
              intro e
              rcases y3 q hq with h' | h'
              · have := s5 _ _ _ _ q y1 hx'.out h' e; omega
              · have := hxle q e; omega
            · rw [List.getElem?_append_right (by omega), h, Nat.sub_self] at hu
              simp only [List.getElem?_cons_zero, Option.some.injEq] at hu
              subst hu
              rw [h, hul]
              have hlk : ∀ q, myBlock (.slice ad2 (N + 80) cap2) = some q → w3.heap[q]? = w2.heap[q]? := fun q hq => hg3.block q (hlo.lt hq).2 (fun e => by
                have h1 := hob q e.symm
                rcases hl2 q hq with h' | h'
                · have := hxle q h'; omega
                · omega)
              refine ⟨x, hx'.out, hlo.kept hlk, fun q hq => (hl2 q hq).imp id (fun h => by omega), ?_⟩
              rw [hc k x hx'.out]
              exact reads_kept hxo hG2.sh fun q hq => hg3.block q (by have := hxle q hq; omega) (fun e => by have := hob q e.symm; have := hxle q hq; omega)
            · rw [List.getElem?_eq_none (by simp; omega)] at hu; cases hu
          have hsep3 : ∀ (a : Nat) (u : Value) (q : Nat), (us ++ [.slice ad2 (N + 80) cap2])[a]? = some u → myBlock o' = some q → myBlock u ≠ some q := by
            intro a u q hu hq hq2
            have hult : q < w2.heap.size := by
              rcases Nat.lt_trichotomy a us.length with h | h | h
              · rw [List.getElem?_append_left h] at hu
                obtain ⟨y, y1, y2, _⟩ := hgr a u hu
                have := (y2.lt hq2).2; omega
              · rw [List.getElem?_append_right (by omega), h, Nat.sub_self] at hu
                simp only [List.getElem?_cons_zero, Option.some.injEq] at hu
                subst hu
                exact (hlo.lt hq2).2
              · rw [List.getElem?_eq_none (by simp; omega)] at hu; cases hu
            rcases hb3 with h3 | ⟨g', h3, hle⟩
            · rw [h3] at hq
              rcases Nat.lt_trichotomy a us.length with h | h | h
              · rw [List.getElem?_append_left h] at hu
                exact hsep a u q hu hq hq2
              · rw [List.getElem?_append_right (by omega), h, Nat.sub_self] at hu
                simp only [List.getElem?_cons_zero, Option.some.injEq] at hu
                subst hu
                have h1 := hob q hq
                rcases hl2 q hq2 with h' | h'
                · have := hxle q h'; omega
                · omega
              · rw [List.getElem?_eq_none (by simp; omega)] at hu; cases hu
            · rw [h3] at hq; injection hq with hq; omega
          have hfr3 : ∀ q, q < w.heap.size → (∀ x ∈ l, myBlock x.v ≠ some q) → w3.heap[q]? = w.heap[q]? := fun q hq hn =>
            (hkeep q (by omega) (hn x hxm) (fun e => by have := hob q e; omega)).trans (hfr q hq hn)
          have hlat3 : ∀ (a : Nat) (y : Lst) (q : Nat), k + 1 ≤ a → l[a]? = some y → myBlock y.v = some q → w3.heap[q]? = w.heap[q]? := fun a y q ha hy hq =>
            (hkeep q (by have := ((hi y (List.mem_of_getElem? hy)).1.lt hq).2; omega) (fun e => by have := s5 _ _ _ _ q hy hx'.out hq e; omega) (fun e => by have := hob q e; have := ((hi y (List.mem_of_getElem? hy)).1.lt hq).2; omega)).trans (hlat a y q (by omega) hy hq)
          have ho3' := Lib.hid ho3
          clear hG2 hG2' hkeep hob hxle hl2 hlo ho3 hg3 hb3 hgr hsep hfr hlat hoo hoo2
          go_wp2_with fail
          go_roundw
          case rel => exact ⟨k + 1, _, by omega, by go_num, by simp [hul], ho3'.out, hbl3, hfr3, hlat3, hgr3, hsep3⟩
          case measure => simp [intOf]; omega
    · have hkm : k = m := by omega
      subst hkm
      obtain ⟨ado, capo, rfl⟩ := hoo.form
      go_wp2_with fail
      go_ret
      exact ⟨_, _, us, rfl, hul, hoo, hbl, hfr, hgr⟩
theorem markMS_app (k a b : Nat) : (marksS k 0 a).flatMap encS ++ (marksS k a b).flatMap encS = (marksS k 0 (a + b)).flatMap encS := by
  have := marksS_append k 0 a b
  rw [Nat.zero_add] at this
  rw [← List.flatMap_append, this]
def GrownS (w0 w : World) (B : Nat) (l : List Lst) (us : List Value) : Prop := ∀ (a : Nat) (u : Value), us[a]? = some u → ∃ x, l[a]? = some x ∧ Owned w B 85 2 u (x.n + 96) ((marksS a 0 (x.n + 96)).flatMap encS) ∧ (∀ q, myBlock u = some q → myBlock x.v = some q ∨ w0.heap.size ≤ q) ∧ Reads w x.v x.n 2 x.cs
set_option maxRecDepth 100000 in
set_option maxHeartbeats 2000000 in
theorem growS (w : World) (bk B : Nat) (l : List Lst) (adh : Option Addr) (cph : Nat) (c0 : w.cell? ⟨bk, 8, none⟩ = some (.slice adh l.length cph)) (hh : 0 < l.length → ∃ b o, adh = some ⟨b, o, none⟩ ∧ CellsAt w b o (l.map Lst.v)) (lB : bk < w.heap.size) (hbk : B ≤ bk)
    (hi : ∀ x ∈ l, Owned w B 85 2 x.v x.n x.cs ∧ x.n < 100000000) (hc : ∀ (a : Nat) (x : Lst), l[a]? = some x → x.cs = (marksS a 0 x.n).flatMap encS)
    (s2 : ∀ x ∈ l, myBlock x.v ≠ some bk) (s4 : ∀ x ∈ l, ∀ b o, adh = some ⟨b, o, none⟩ → myBlock x.v ≠ some b) (s5 : ∀ (a a' : Nat) (x x' : Lst) (q : Nat), l[a]? = some x → l[a']? = some x' → myBlock x.v = some q → myBlock x'.v = some q → a = a') (hl : l.length ≤ 400) :
    Calls Tryz.prog 81 #[.pointer (some ⟨bk, 0, none⟩)] w (fun e w' => ∃ ad cap us, e = .returned (.slice ad l.length cap) ∧ us.length = l.length ∧ Owned w' w.heap.size 46 1 (.slice ad l.length cap) l.length us ∧ Below B w w' ∧
      (∀ q, q < w.heap.size → (∀ x ∈ l, myBlock x.v ≠ some q) → w'.heap[q]? = w.heap[q]?) ∧ GrownS w w' B l us) := by
  obtain ⟨m, hm⟩ : ∃ m, m = l.length := ⟨_, rfl⟩
  rw [← hm] at c0 hh hl ⊢
  have hm' : Hid (m = l.length) := hm
  have hhb : ∀ b o, adh = some ⟨b, o, none⟩ → 0 < m → b < w.heap.size := by
    intro b o he h0
    obtain ⟨b', o', he', hcl⟩ := hh h0
    rw [he] at he'; cases he'
    exact hcl.lt (by rw [List.length_map, ← hm]; exact h0)
  clear hm
  go_enter Tryz.func81, Tryz.ntmps81
  go_wp2_with fail
  go_loopw [3, 4] (fun o i wr => ∃ (k : Nat) (us : List Value), k ≤ m ∧ i = .int .i64 k ∧ us.length = k ∧ Owned wr w.heap.size 46 1 o k us ∧ Below B w wr ∧ (∀ q, q < w.heap.size → (∀ x ∈ l, myBlock x.v ≠ some q) → wr.heap[q]? = w.heap[q]?) ∧
    (∀ (a : Nat) (x : Lst) (q : Nat), k ≤ a → l[a]? = some x → myBlock x.v = some q → wr.heap[q]? = w.heap[q]?) ∧ GrownS w wr B l us ∧ (∀ (a : Nat) (u : Value) (q : Nat), us[a]? = some u → myBlock o = some q → myBlock u ≠ some q)) (fun _ i _ => m - (intOf i).toNat)
  case atStart => exact ⟨0, [], by omega, rfl, rfl, Owned.nil _ _ _ _ _, Below.refl _ _, fun _ _ _ => rfl, fun _ _ _ _ _ _ => rfl, fun a u h => by simp at h, fun a u q h => by simp at h⟩
  case round =>
    obtain ⟨k, us, hk, rfl, hul, hoo, hbl, hfr, hlat, hgr, hsep⟩ := hrel
    have hsz := hbl.size
    have d0 : wr.cell? ⟨bk, 8, none⟩ = some (.slice adh m cph) := (World.cell?_of_block (w := w) (a := ⟨bk, 8, none⟩) (hfr bk lB s2)).trans c0
    have lB1 : bk < wr.heap.size := by omega
    by_cases hlt : k < m
    · obtain ⟨b0, o0, rfl, hr0⟩ := hh (by omega)
      obtain ⟨x, hx⟩ : ∃ x, l[k]? = some x := ⟨l[k]'(by have := hm'.out; omega), by have := hm'.out; simp [show k < l.length by omega]⟩
      have hxm := List.mem_of_getElem? hx
      have hb0 := hhb b0 o0 rfl (by omega)
      have i0 := (World.cell?_of_block (w := w) (a := ⟨b0, o0 + k, none⟩) (hfr b0 hb0 (fun y hy => s4 y hy b0 o0 rfl))).trans (item_cell hr0 hx)
      have hx0 := (hi x hxm).1
      have hxn := (hi x hxm).2
      rw [hc k x hx] at hx0
      have hxo : Owned wr B 85 2 x.v x.n ((marksS k 0 x.n).flatMap encS) := hx0.kept fun q hq => hlat k x q (Nat.le_refl _) hx hq
      obtain ⟨adx, capx, hvx⟩ := hxo.form
      have hG0 := GrowIn.start (M := fun c => (marksS k 0 c).flatMap encS) hxo
      rw [hvx] at i0
      have hvx' : Hid (x.v = .slice adx x.n capx) := hvx
      rw [hvx] at hG0
      have hx' : Hid (l[k]? = some x) := hx
      have hBw : B ≤ wr.heap.size := by omega
      clear hvx hr0 hx hh
      go_wp2_with fail
      obtain ⟨wo, hwo⟩ : ∃ wo : World, wo = wr := ⟨_, rfl⟩
      rw [← hwo] at hoo hbl hfr hlat hgr hsz d0 lB1 i0 hxo hG0 hBw ⊢
      clear hwo
      go_loopw [5, 6] (fun lv n wz => ∃ c : Nat, c ≤ 16 ∧ n = .int .i64 c ∧ GrowIn wo wz B 85 2 x (fun c => (marksS k 0 c).flatMap encS) lv c) (fun _ n _ => 16 - (intOf n).toNat)
      case atStart => exact ⟨0, by omega, rfl, hG0⟩
      case round =>
        obtain ⟨c, hc16, rfl, hG⟩ := hrel
        clear hG0 d0 i0
        obtain ⟨adl, capl, rfl⟩ := hG.own.form
        obtain ⟨N, hN⟩ : ∃ N, N = x.n + c := ⟨_, rfl⟩
        have hG' : Hid (GrowIn wo wr B 85 2 x (fun c => (marksS k 0 c).flatMap encS) (.slice adl N capl) c) := by rw [Hid, hN]; exact hG
        have hown := hG.own
        rw [← hN] at hown ⊢
        have hzs := hG.bel.size
        by_cases hlt2 : c < 16
        · have hmk := Lib.hid (markS k N 1 wr (by omega) (by omega))
          have hNx : Hid (N = x.n + c) := hN
          have hNb : N < 200000000 := by omega
          clear hN hG
          go_wp2_with fail
          refine hmk.out.mono ?_
          rintro e w1 ⟨vm, rfl, hb1, hom⟩
          obtain ⟨adm, cm, rfl⟩ := hom.form
          have hown1 := hown.ext hb1
          have h1s := hb1.size
          clear hmk
          go_wp2_with (first | (refine appk46 rfl rfl _ _ rfl B _ N _ rfl hown1 _ 1 _ rfl hom.reads (one_cellS _) (by omega) (by omega) ?_) | fail)
          intro l' w2 ho2 hg2 hb2 hr2
          have hG2 := (hG'.out.ext hb1 hBw).app (d := 1) (news := (marksS k N 1).flatMap encS) hxo (fun a b => ⟨_, (markMS_app k a b).symm⟩) (by rw [← hNx.out, markMS_app, hNx.out, Nat.add_assoc]) (by rw [← hNx.out]; exact ho2) hg2 hb2 (by rw [← hNx.out]; exact hr2) hBw
          go_wp2_with fail
          go_roundw
          case rel => exact ⟨c + 1, by omega, by go_num, hG2⟩
          case measure => simp [intOf]; omega
        · have hcc : c = 16 := by omega
          subst hcc
          have hmk := Lib.hid (markS k N 80 wr (by omega) (by omega))
          have hNx : Hid (N = x.n + 16) := hN
          have hNb : N < 200000000 := by omega
          clear hN hG
          obtain ⟨ado, capo, rfl⟩ := hoo.form
          go_wp2_with fail
          refine hmk.out.mono ?_
          rintro e w1 ⟨vm, rfl, hb1, hom⟩
          obtain ⟨adm, cm, rfl⟩ := hom.form
          have hown1 := hown.ext hb1
          have h1s := hb1.size
          clear hmk
          go_wp2_with (first | (refine appk46 rfl rfl _ _ rfl B _ N _ rfl hown1 _ 80 _ rfl hom.reads (one_cellS _) (by omega) (by omega) ?_) | fail)
          intro l' w2 ho2 hg2 hb2 hr2
          have hG2 := (hG'.out.ext hb1 hBw).app (d := 80) (news := (marksS k N 80).flatMap encS) hxo (fun a b => ⟨_, (markMS_app k a b).symm⟩) (by rw [← hNx.out, markMS_app, hNx.out, Nat.add_assoc]) (by rw [← hNx.out]; exact ho2) hg2 hb2 (by rw [← hNx.out]; exact hr2) hBw
          obtain ⟨ad2, cap2, rfl⟩ := ho2.form
          have hxw : Hid (∀ q, myBlock x.v = some q → q < w.heap.size) := fun q hq => ((hi x hxm).1.lt hq).2
          have hoo2 : Owned w2 w.heap.size 46 1 (.slice ado k capo) k us := hoo.kept fun q hq => hG2.fr q (hoo.lt hq).2 (fun e => by have := hxw.out q e; have := (hoo.lt hq).1; omega)
          have h2s := hG2.bel.size
          have hG2' := Lib.hid hG2
          clear hG2 hr2 hg2 hb2 hown hown1
          go_wp2_with (first | (refine app36 rfl rfl _ _ rfl w.heap.size _ _ _ rfl w2 hoo2 #[.slice ad2 (N + 80) cap2] _ rfl w2.heap.size rfl rfl rfl (by simp [Value.oneCell']) (by omega) (by omega) ?_) | fail)
          intro o' w3 ho3 hg3 hb3
          have hG2 := hG2'.out
          have h3s := hg3.size
          have hkeep : ∀ q, q < wo.heap.size → myBlock x.v ≠ some q → myBlock (.slice ado k capo) ≠ some q → w3.heap[q]? = wo.heap[q]? := fun q hq h1 h2 =>
            (hg3.block q (by omega) (fun e => h2 e.symm)).trans (hG2.fr q hq h1)
          have hob : ∀ q, myBlock (.slice ado k capo) = some q → w.heap.size ≤ q ∧ q < wo.heap.size := fun q hq => hoo.lt hq
          have hxle : ∀ q, myBlock x.v = some q → q < w.heap.size := hxw.out
          have hl2 : ∀ q, myBlock (.slice ad2 (N + 80) cap2) = some q → myBlock x.v = some q ∨ wo.heap.size ≤ q := by
            intro q hq
            rcases hG2.blk with h | ⟨g', h, hle⟩
            · exact .inl (by rw [← h, hq])
            · rw [hq] at h; injection h with h; exact .inr (by omega)
          have hlo : Owned w2 B 85 2 (.slice ad2 (N + 80) cap2) (x.n + 96) ((marksS k 0 (x.n + 96)).flatMap encS) := hG2.own
          have hbl3 : Below B w w3 := (hbl.trans (hG2.bel)).grown hg3 (by omega) (fun q hq => by have := hob q hq; omega)
          have hgr3 : GrownS w w3 B l (us ++ [.slice ad2 (N + 80) cap2]) := by
            intro a u hu
            rcases Nat.lt_trichotomy a us.length with h | h | h
            · rw [List.getElem?_append_left h] at hu
              obtain ⟨y, y1, y2, y3, y4⟩ := hgr a u hu
              refine ⟨y, y1, y2.kept fun q hq => hkeep q (y2.lt hq).2 ?_ (fun e => hsep a u q hu e hq), y3, reads_kept (hi y (List.mem_of_getElem? y1)).1 y4 fun q hq => hkeep q (by have := ((hi y (List.mem_of_getElem? y1)).1.lt hq).2; omega) (fun e => by have := s5 _ _ _ _ q y1 hx'.out hq e; omega) (fun e => by have := (hob q e).1; have := ((hi y (List.mem_of_getElem? y1)).1.lt hq).2; omega)⟩
              intro e
              rcases y3 q hq with h' | h'
              · have := s5 _ _ _ _ q y1 hx'.out h' e; omega
              · have := hxle q e; omega
            · rw [List.getElem?_append_right (by omega), h, Nat.sub_self] at hu
              simp only [List.getElem?_cons_zero, Option.some.injEq] at hu
              subst hu
              rw [h, hul]
              have hlk : ∀ q, myBlock (.slice ad2 (N + 80) cap2) = some q → w3.heap[q]? = w2.heap[q]? := fun q hq => hg3.block q (hlo.lt hq).2 (fun e => by
                have h1 := hob q e.symm
                rcases hl2 q hq with h' | h'
                · have := hxle q h'; omega
                · omega)
              refine ⟨x, hx'.out, hlo.kept hlk, fun q hq => (hl2 q hq).imp id (fun h => by omega), ?_⟩
              rw [hc k x hx'.out]
              exact reads_kept hxo hG2.sh fun q hq => hg3.block q (by have := hxle q hq; omega) (fun e => by have := hob q e.symm; have := hxle q hq; omega)
            · rw [List.getElem?_eq_none (by simp; omega)] at hu; cases hu
          have hsep3 : ∀ (a : Nat) (u : Value) (q : Nat), (us ++ [.slice ad2 (N + 80) cap2])[a]? = some u → myBlock o' = some q → myBlock u ≠ some q := by
            intro a u q hu hq hq2
            have hult : q < w2.heap.size := by
              rcases Nat.lt_trichotomy a us.length with h | h | h
              · rw [List.getElem?_append_left h] at hu
                obtain ⟨y, y1, y2, _⟩ := hgr a u hu
                have := (y2.lt hq2).2; omega
              · rw [List.getElem?_append_right (by omega), h, Nat.sub_self] at hu
                simp only [List.getElem?_cons_zero, Option.some.injEq] at hu
                subst hu
                exact (hlo.lt hq2).2
              · rw [List.getElem?_eq_none (by simp; omega)] at hu; cases hu
            rcases hb3 with h3 | ⟨g', h3, hle⟩
            · rw [h3] at hq
              rcases Nat.lt_trichotomy a us.length with h | h | h
              · rw [List.getElem?_append_left h] at hu
                exact hsep a u q hu hq hq2
              · rw [List.getElem?_append_right (by omega), h, Nat.sub_self] at hu
                simp only [List.getElem?_cons_zero, Option.some.injEq] at hu
                subst hu
                have h1 := hob q hq
                rcases hl2 q hq2 with h' | h'
                · have := hxle q h'; omega
                · omega
              · rw [List.getElem?_eq_none (by simp; omega)] at hu; cases hu
            · rw [h3] at hq; injection hq with hq; omega
          have hfr3 : ∀ q, q < w.heap.size → (∀ x ∈ l, myBlock x.v ≠ some q) → w3.heap[q]? = w.heap[q]? := fun q hq hn =>
            (hkeep q (by omega) (hn x hxm) (fun e => by have := hob q e; omega)).trans (hfr q hq hn)
          have hlat3 : ∀ (a : Nat) (y : Lst) (q : Nat), k + 1 ≤ a → l[a]? = some y → myBlock y.v = some q → w3.heap[q]? = w.heap[q]? := fun a y q ha hy hq =>
            (hkeep q (by have := ((hi y (List.mem_of_getElem? hy)).1.lt hq).2; omega) (fun e => by have := s5 _ _ _ _ q hy hx'.out hq e; omega) (fun e => by have := hob q e; have := ((hi y (List.mem_of_getElem? hy)).1.lt hq).2; omega)).trans (hlat a y q (by omega) hy hq)
          have ho3' := Lib.hid ho3
          clear hG2 hG2' hkeep hob hxle hl2 hlo ho3 hg3 hb3 hgr hsep hfr hlat hoo hoo2
          go_wp2_with fail
          go_roundw
          case rel => exact ⟨k + 1, _, by omega, by go_num, by simp [hul], ho3'.out, hbl3, hfr3, hlat3, hgr3, hsep3⟩
          case measure => simp [intOf]; omega
    · have hkm : k = m := by omega
      subst hkm
      obtain ⟨ado, capo, rfl⟩ := hoo.form
      go_wp2_with fail
      go_ret
      exact ⟨_, _, us, rfl, hul, hoo, hbl, hfr, hgr⟩
theorem markME_app (k a b : Nat) : (marksE k 0 a).flatMap encE ++ (marksE k a b).flatMap encE = (marksE k 0 (a + b)).flatMap encE := by
  have := marksE_append k 0 a b
  rw [Nat.zero_add] at this
  rw [← List.flatMap_append, this]
def GrownE (w0 w : World) (B : Nat) (l : List Lst) (us : List Value) : Prop := ∀ (a : Nat) (u : Value), us[a]? = some u → ∃ x, l[a]? = some x ∧ Owned w B 71 3 u (x.n + 96) ((marksE a 0 (x.n + 96)).flatMap encE) ∧ (∀ q, myBlock u = some q → myBlock x.v = some q ∨ w0.heap.size ≤ q) ∧ Reads w x.v x.n 3 x.cs
set_option maxRecDepth 100000 in
set_option maxHeartbeats 2000000 in
theorem growE (w : World) (bk B : Nat) (l : List Lst) (adh : Option Addr) (cph : Nat) (c0 : w.cell? ⟨bk, 10, none⟩ = some (.slice adh l.length cph)) (hh : 0 < l.length → ∃ b o, adh = some ⟨b, o, none⟩ ∧ CellsAt w b o (l.map Lst.v)) (lB : bk < w.heap.size) (hbk : B ≤ bk)
    (hi : ∀ x ∈ l, Owned w B 71 3 x.v x.n x.cs ∧ x.n < 100000000) (hc : ∀ (a : Nat) (x : Lst), l[a]? = some x → x.cs = (marksE a 0 x.n).flatMap encE)
    (s2 : ∀ x ∈ l, myBlock x.v ≠ some bk) (s4 : ∀ x ∈ l, ∀ b o, adh = some ⟨b, o, none⟩ → myBlock x.v ≠ some b) (s5 : ∀ (a a' : Nat) (x x' : Lst) (q : Nat), l[a]? = some x → l[a']? = some x' → myBlock x.v = some q → myBlock x'.v = some q → a = a') (hl : l.length ≤ 400) :
    Calls Tryz.prog 82 #[.pointer (some ⟨bk, 0, none⟩)] w (fun e w' => ∃ ad cap us, e = .returned (.slice ad l.length cap) ∧ us.length = l.length ∧ Owned w' w.heap.size 22 1 (.slice ad l.length cap) l.length us ∧ Below B w w' ∧
      (∀ q, q < w.heap.size → (∀ x ∈ l, myBlock x.v ≠ some q) → w'.heap[q]? = w.heap[q]?) ∧ GrownE w w' B l us) := by
  obtain ⟨m, hm⟩ : ∃ m, m = l.length := ⟨_, rfl⟩
  rw [← hm] at c0 hh hl ⊢
  have hm' : Hid (m = l.length) := hm
  have hhb : ∀ b o, adh = some ⟨b, o, none⟩ → 0 < m → b < w.heap.size := by
    intro b o he h0
    obtain ⟨b', o', he', hcl⟩ := hh h0
    rw [he] at he'; cases he'
    exact hcl.lt (by rw [List.length_map, ← hm]; exact h0)
  clear hm
  go_enter Tryz.func82, Tryz.ntmps82
  go_wp2_with fail
  go_loopw [3, 4] (fun o i wr => ∃ (k : Nat) (us : List Value), k ≤ m ∧ i = .int .i64 k ∧ us.length = k ∧ Owned wr w.heap.size 22 1 o k us ∧ Below B w wr ∧ (∀ q, q < w.heap.size → (∀ x ∈ l, myBlock x.v ≠ some q) → wr.heap[q]? = w.heap[q]?) ∧
    (∀ (a : Nat) (x : Lst) (q : Nat), k ≤ a → l[a]? = some x → myBlock x.v = some q → wr.heap[q]? = w.heap[q]?) ∧ GrownE w wr B l us ∧ (∀ (a : Nat) (u : Value) (q : Nat), us[a]? = some u → myBlock o = some q → myBlock u ≠ some q)) (fun _ i _ => m - (intOf i).toNat)
  case atStart => exact ⟨0, [], by omega, rfl, rfl, Owned.nil _ _ _ _ _, Below.refl _ _, fun _ _ _ => rfl, fun _ _ _ _ _ _ => rfl, fun a u h => by simp at h, fun a u q h => by simp at h⟩
  case round =>
    obtain ⟨k, us, hk, rfl, hul, hoo, hbl, hfr, hlat, hgr, hsep⟩ := hrel
    have hsz := hbl.size
    have d0 : wr.cell? ⟨bk, 10, none⟩ = some (.slice adh m cph) := (World.cell?_of_block (w := w) (a := ⟨bk, 10, none⟩) (hfr bk lB s2)).trans c0
    have lB1 : bk < wr.heap.size := by omega
    by_cases hlt : k < m
    · obtain ⟨b0, o0, rfl, hr0⟩ := hh (by omega)
      obtain ⟨x, hx⟩ : ∃ x, l[k]? = some x := ⟨l[k]'(by have := hm'.out; omega), by have := hm'.out; simp [show k < l.length by omega]⟩
      have hxm := List.mem_of_getElem? hx
      have hb0 := hhb b0 o0 rfl (by omega)
      have i0 := (World.cell?_of_block (w := w) (a := ⟨b0, o0 + k, none⟩) (hfr b0 hb0 (fun y hy => s4 y hy b0 o0 rfl))).trans (item_cell hr0 hx)
      have hx0 := (hi x hxm).1
      have hxn := (hi x hxm).2
      rw [hc k x hx] at hx0
      have hxo : Owned wr B 71 3 x.v x.n ((marksE k 0 x.n).flatMap encE) := hx0.kept fun q hq => hlat k x q (Nat.le_refl _) hx hq
      obtain ⟨adx, capx, hvx⟩ := hxo.form
      have hG0 := GrowIn.start (M := fun c => (marksE k 0 c).flatMap encE) hxo
      rw [hvx] at i0
      have hvx' : Hid (x.v = .slice adx x.n capx) := hvx
      rw [hvx] at hG0
      have hx' : Hid (l[k]? = some x) := hx
      have hBw : B ≤ wr.heap.size := by omega
      clear hvx hr0 hx hh
      go_wp2_with fail
      obtain ⟨wo, hwo⟩ : ∃ wo : World, wo = wr := ⟨_, rfl⟩
      rw [← hwo] at hoo hbl hfr hlat hgr hsz d0 lB1 i0 hxo hG0 hBw ⊢
      clear hwo
      go_loopw [5, 6] (fun lv n wz => ∃ c : Nat, c ≤ 16 ∧ n = .int .i64 c ∧ GrowIn wo wz B 71 3 x (fun c => (marksE k 0 c).flatMap encE) lv c) (fun _ n _ => 16 - (intOf n).toNat)
      case atStart => exact ⟨0, by omega, rfl, hG0⟩
      case round =>
        obtain ⟨c, hc16, rfl, hG⟩ := hrel
        clear hG0 d0 i0
        obtain ⟨adl, capl, rfl⟩ := hG.own.form
        obtain ⟨N, hN⟩ : ∃ N, N = x.n + c := ⟨_, rfl⟩
        have hG' : Hid (GrowIn wo wr B 71 3 x (fun c => (marksE k 0 c).flatMap encE) (.slice adl N capl) c) := by rw [Hid, hN]; exact hG
        have hown := hG.own
        rw [← hN] at hown ⊢
        have hzs := hG.bel.size
        by_cases hlt2 : c < 16
        · have hmk := Lib.hid (markE k N 1 wr (by omega) (by omega))
          have hNx : Hid (N = x.n + c) := hN
          have hNb : N < 200000000 := by omega
          clear hN hG
          go_wp2_with fail
          refine hmk.out.mono ?_
          rintro e w1 ⟨vm, rfl, hb1, hom⟩
          obtain ⟨adm, cm, rfl⟩ := hom.form
          have hown1 := hown.ext hb1
          have h1s := hb1.size
          clear hmk
          go_wp2_with (first | (refine appk22 rfl rfl _ _ rfl B _ N _ rfl hown1 _ 1 _ rfl hom.reads (one_cellE _) (by omega) (by omega) ?_) | fail)
          intro l' w2 ho2 hg2 hb2 hr2
          have hG2 := (hG'.out.ext hb1 hBw).app (d := 1) (news := (marksE k N 1).flatMap encE) hxo (fun a b => ⟨_, (markME_app k a b).symm⟩) (by rw [← hNx.out, markME_app, hNx.out, Nat.add_assoc]) (by rw [← hNx.out]; exact ho2) hg2 hb2 (by rw [← hNx.out]; exact hr2) hBw
          go_wp2_with fail
          go_roundw
          case rel => exact ⟨c + 1, by omega, by go_num, hG2⟩
          case measure => simp [intOf]; omega
        · have hcc : c = 16 := by omega
          subst hcc
          have hmk := Lib.hid (markE k N 80 wr (by omega) (by omega))
          have hNx : Hid (N = x.n + 16) := hN
          have hNb : N < 200000000 := by omega
          clear hN hG
          obtain ⟨ado, capo, rfl⟩ := hoo.form
          go_wp2_with fail
          refine hmk.out.mono ?_
          rintro e w1 ⟨vm, rfl, hb1, hom⟩
          obtain ⟨adm, cm, rfl⟩ := hom.form
          have hown1 := hown.ext hb1
          have h1s := hb1.size
          clear hmk
          go_wp2_with (first | (refine appk22 rfl rfl _ _ rfl B _ N _ rfl hown1 _ 80 _ rfl hom.reads (one_cellE _) (by omega) (by omega) ?_) | fail)
          intro l' w2 ho2 hg2 hb2 hr2
          have hG2 := (hG'.out.ext hb1 hBw).app (d := 80) (news := (marksE k N 80).flatMap encE) hxo (fun a b => ⟨_, (markME_app k a b).symm⟩) (by rw [← hNx.out, markME_app, hNx.out, Nat.add_assoc]) (by rw [← hNx.out]; exact ho2) hg2 hb2 (by rw [← hNx.out]; exact hr2) hBw
          obtain ⟨ad2, cap2, rfl⟩ := ho2.form
          have hxw : Hid (∀ q, myBlock x.v = some q → q < w.heap.size) := fun q hq => ((hi x hxm).1.lt hq).2
          have hoo2 : Owned w2 w.heap.size 22 1 (.slice ado k capo) k us := hoo.kept fun q hq => hG2.fr q (hoo.lt hq).2 (fun e => by have := hxw.out q e; have := (hoo.lt hq).1; omega)
          have h2s := hG2.bel.size
          have hG2' := Lib.hid hG2
          clear hG2 hr2 hg2 hb2 hown hown1
          go_wp2_with (first | (refine app37 rfl rfl _ _ rfl w.heap.size _ _ _ rfl w2 hoo2 #[.slice ad2 (N + 80) cap2] _ rfl w2.heap.size rfl rfl rfl (by simp [Value.oneCell']) (by omega) (by omega) ?_) | fail)
          intro o' w3 ho3 hg3 hb3
          have hG2 := hG2'.out
          have h3s := hg3.size
          have hkeep : ∀ q, q < wo.heap.size → myBlock x.v ≠ some q → myBlock (.slice ado k capo) ≠ some q → w3.heap[q]? = wo.heap[q]? := fun q hq h1 h2 =>
            (hg3.block q (by omega) (fun e => h2 e.symm)).trans (hG2.fr q hq h1)
          have hob : ∀ q, myBlock (.slice ado k capo) = some q → w.heap.size ≤ q ∧ q < wo.heap.size := fun q hq => hoo.lt hq
          have hxle : ∀ q, myBlock x.v = some q → q < w.heap.size := hxw.out
          have hl2 : ∀ q, myBlock (.slice ad2 (N + 80) cap2) = some q → myBlock x.v = some q ∨ wo.heap.size ≤ q := by
            intro q hq
            rcases hG2.blk with h | ⟨g', h, hle⟩
            · exact .inl (by rw [← h, hq])
            · rw [hq] at h; injection h with h; exact .inr (by omega)
          have hlo : Owned w2 B 71 3 (.slice ad2 (N + 80) cap2) (x.n + 96) ((marksE k 0 (x.n + 96)).flatMap encE) := hG2.own
          have hbl3 : Below B w w3 := (hbl.trans (hG2.bel)).grown hg3 (by omega) (fun q hq => by have := hob q hq; omega)
          have hgr3 : GrownE w w3 B l (us ++ [.slice ad2 (N + 80) cap2]) := by
            intro a u hu
            rcases Nat.lt_trichotomy a us.length with h | h | h
            · rw [List.getElem?_append_left h] at hu
              obtain ⟨y, y1, y2, y3, y4⟩ := hgr a u hu
              refine ⟨y, y1, y2.kept fun q hq => hkeep q (y2.lt hq).2 ?_ (fun e => hsep a u q hu e hq), y3, reads_kept (hi y (List.mem_of_getElem? y1)).1 y4 fun q hq => hkeep q (by have := ((hi y (List.mem_of_getElem? y1)).1.lt hq).2; omega) (fun e => by have := s5 _ _ _ _ q y1 hx'.out hq e; omega) (fun e => by have := (hob q e).1; have := ((hi y (List.mem_of_getElem? y1)).1.lt hq).2; omega)⟩
              intro e
              rcases y3 q hq with h' | h'
              · have := s5 _ _ _ _ q y1 hx'.out h' e; omega
              · have := hxle q e; omega
            · rw [List.getElem?_append_right (by omega), h, Nat.sub_self] at hu
              simp only [List.getElem?_cons_zero, Option.some.injEq] at hu
              subst hu
              rw [h, hul]
              have hlk : ∀ q, myBlock (.slice ad2 (N + 80) cap2) = some q → w3.heap[q]? = w2.heap[q]? := fun q hq => hg3.block q (hlo.lt hq).2 (fun e => by
                have h1 := hob q e.symm
                rcases hl2 q hq with h' | h'
                · have := hxle q h'; omega
                · omega)
              refine ⟨x, hx'.out, hlo.kept hlk, fun q hq => (hl2 q hq).imp id (fun h => by omega), ?_⟩
              rw [hc k x hx'.out]
              exact reads_kept hxo hG2.sh fun q hq => hg3.block q (by have := hxle q hq; omega) (fun e => by have := hob q e.symm; have := hxle q hq; omega)
            · rw [List.getElem?_eq_none (by simp; omega)] at hu; cases hu
          have hsep3 : ∀ (a : Nat) (u : Value) (q : Nat), (us ++ [.slice ad2 (N + 80) cap2])[a]? = some u → myBlock o' = some q → myBlock u ≠ some q := by
            intro a u q hu hq hq2
            have hult : q < w2.heap.size := by
              rcases Nat.lt_trichotomy a us.length with h | h | h
              · rw [List.getElem?_append_left h] at hu
                obtain ⟨y, y1, y2, _⟩ := hgr a u hu
                have := (y2.lt hq2).2; omega
              · rw [List.getElem?_append_right (by omega), h, Nat.sub_self] at hu
                simp only [List.getElem?_cons_zero, Option.some.injEq] at hu
                subst hu
                exact (hlo.lt hq2).2
              · rw [List.getElem?_eq_none (by simp; omega)] at hu; cases hu
            rcases hb3 with h3 | ⟨g', h3, hle⟩
            · rw [h3] at hq
              rcases Nat.lt_trichotomy a us.length with h | h | h
              · rw [List.getElem?_append_left h] at hu
                exact hsep a u q hu hq hq2
              · rw [List.getElem?_append_right (by omega), h, Nat.sub_self] at hu
                simp only [List.getElem?_cons_zero, Option.some.injEq] at hu
                subst hu
                have h1 := hob q hq
                rcases hl2 q hq2 with h' | h'
                · have := hxle q h'; omega
                · omega
              · rw [List.getElem?_eq_none (by simp; omega)] at hu; cases hu
            · rw [h3] at hq; injection hq with hq; omega
          have hfr3 : ∀ q, q < w.heap.size → (∀ x ∈ l, myBlock x.v ≠ some q) → w3.heap[q]? = w.heap[q]? := fun q hq hn =>
            (hkeep q (by omega) (hn x hxm) (fun e => by have := hob q e; omega)).trans (hfr q hq hn)
          have hlat3 : ∀ (a : Nat) (y : Lst) (q : Nat), k + 1 ≤ a → l[a]? = some y → myBlock y.v = some q → w3.heap[q]? = w.heap[q]? := fun a y q ha hy hq =>
            (hkeep q (by have := ((hi y (List.mem_of_getElem? hy)).1.lt hq).2; omega) (fun e => by have := s5 _ _ _ _ q hy hx'.out hq e; omega) (fun e => by have := hob q e; have := ((hi y (List.mem_of_getElem? hy)).1.lt hq).2; omega)).trans (hlat a y q (by omega) hy hq)
          have ho3' := Lib.hid ho3
          clear hG2 hG2' hkeep hob hxle hl2 hlo ho3 hg3 hb3 hgr hsep hfr hlat hoo hoo2
          go_wp2_with fail
          go_roundw
          case rel => exact ⟨k + 1, _, by omega, by go_num, by simp [hul], ho3'.out, hbl3, hfr3, hlat3, hgr3, hsep3⟩
          case measure => simp [intOf]; omega
    · have hkm : k = m := by omega
      subst hkm
      obtain ⟨ado, capo, rfl⟩ := hoo.form
      go_wp2_with fail
      go_ret
      exact ⟨_, _, us, rfl, hul, hoo, hbl, hfr, hgr⟩
end Go.Proofs.YtkknklagoghljaaGreatDoor
