/- Out, In, with, By, From, Degree. -/
import Derived.Test.YtkknklagoghljaaGreatDoorOps
namespace Go.Proofs.YtkknklagoghljaaGreatDoor
open Go.RowKit
def withL (l : List Stp) (label : Int) : List Int := (l.filter (fun p => p.lab == label)).map (·.to)
theorem withL_len (l : List Stp) (label : Int) : (withL l label).length ≤ l.length := by
  unfold withL; simp only [List.length_map]; exact List.length_filter_le _ _
theorem withL_snoc (l : List Stp) (s : Stp) (label : Int) : withL (l ++ [s]) label = withL l label ++ (if (s.lab == label) = true then [s.to] else []) := by
  unfold withL; rw [List.filter_append]; by_cases h : s.lab = label <;> simp [h]
set_option maxRecDepth 100000 in
theorem outs_c {g N : Nat} {L st : Int} {E : List Edg} {w : World} (i : Int) (h : GraphAt w g N L st E) (hn : (outs E i).length < 1099511627776) :
    Calls Tryz.prog 8 #[.pointer (some ⟨g, 0, none⟩), .int .i64 i] w (fun e w' => ∃ v, e = .returned v ∧ Below w.heap.size w w' ∧ Owned w' w.heap.size 85 2 v (outs E i).length ((outs E i).flatMap encS)) := by
  go_enter Tryz.func8, Tryz.ntmps8
  go_wp2_with fail
  refine (each_any i h).mono ?_
  rintro e w1 ⟨ad, rfl, hb, hr⟩
  go_wp2_with fail
  refine (cloneS _ (outs E i).length _ w1 hr (one_cellS _) hn).mono ?_
  rintro e w2 ⟨v, rfl, hb2, ho⟩
  have hB := Below.chain hb hb2
  go_wp2_with fail
  go_ret
  exact ⟨_, rfl, hB, ho.mono hb.size⟩
set_option maxRecDepth 100000 in
theorem ins_c {g N : Nat} {L st : Int} {E : List Edg} {w : World} (i : Int) (h : GraphAt w g N L st E) (hn : (ins E i).length < 1099511627776) :
    Calls Tryz.prog 9 #[.pointer (some ⟨g, 0, none⟩), .int .i64 i] w (fun e w' => ∃ v, e = .returned v ∧ Below w.heap.size w w' ∧ Owned w' w.heap.size 85 2 v (ins E i).length ((ins E i).flatMap encS)) := by
  go_enter Tryz.func9, Tryz.ntmps9
  go_wp2_with fail
  refine (back_any i h).mono ?_
  rintro e w1 ⟨ad, rfl, hb, hr⟩
  go_wp2_with fail
  refine (cloneS _ (ins E i).length _ w1 hr (one_cellS _) hn).mono ?_
  rintro e w2 ⟨v, rfl, hb2, ho⟩
  have hB := Below.chain hb hb2
  go_wp2_with fail
  go_ret
  exact ⟨_, rfl, hB, ho.mono hb.size⟩
set_option maxRecDepth 100000 in
set_option maxHeartbeats 1000000 in
theorem with_any (w : World) (label : Int) (ad : Option Addr) (c : Nat) (l : List Stp) (hr : Reads w (.slice ad l.length c) l.length 2 (l.flatMap encS)) (hm : l.length ≤ 1000000000) :
    Calls Tryz.prog 50 #[.slice ad l.length c, .int .i64 label] w fun e w' => ∃ v', e = .returned v' ∧ Below w.heap.size w w' ∧ Owned w' w.heap.size 3 1 v' (withL l label).length ((withL l label).map (Value.int .i64)) := by
  obtain ⟨hl, ad', c', hv, hr⟩ := hr
  cases hv
  obtain ⟨n, hn⟩ : ∃ n, n = l.length := ⟨_, rfl⟩
  rw [← hn] at hm hr ⊢
  have hn' : Hid (n = l.length) := hn
  clear hn hl
  go_enter Tryz.func50, Tryz.ntmps50
  go_wp2
  go_loopw [5, 10] (fun v i wr => ∃ k : Nat, k ≤ n ∧ i = .int .i64 k ∧ Below w.heap.size w wr ∧ Owned wr w.heap.size 3 1 v (withL (l.take k) label).length ((withL (l.take k) label).map (Value.int .i64))) (fun _ i _ => n - (intOf i).toNat)
  case atStart => exact ⟨0, Nat.zero_le _, rfl, Below.refl _ _, by simpa [withL] using Owned.nil _ _ _ _ _⟩
  case round =>
    obtain ⟨k, hk, rfl, hbl, hown⟩ := hrel
    have hlk := withL_len (l.take k) label
    have hlk2 := List.length_take_le k l
    have hbs := hbl.size
    by_cases hlt : k < n
    · obtain ⟨b, off, rfl, hc⟩ := hr (by omega)
      obtain ⟨⟨sl, st⟩, hs⟩ : ∃ s, l[k]? = some s := ⟨l[k]'(by have := hn'.out; omega), by have := hn'.out; simp [show k < l.length by omega]⟩
      have hc' := hc.ext hbl
      have h1 := hc' (k * 2) (.int .i64 sl) (by simpa [encS] using flat_get encS 2 encS_len l k _ hs 0 (by decide) [])
      have h2 := hc' (k * 2 + 1) (.int .i64 st) (by simpa [encS] using flat_get encS 2 encS_len l k _ hs 1 (by decide) [])
      simp only [← Nat.add_assoc] at h2
      have hsn := withL_snoc (l.take k) ⟨sl, st⟩ label
      have htk : Hid (l.take (k+1) = l.take k ++ [⟨sl, st⟩]) := by rw [Hid, List.take_add_one, hs]; rfl
      have hsn' : Hid (withL (l.take (k+1)) label = withL (l.take k) label ++ (if (sl == label) = true then [st] else [])) := by rw [Hid, htk.out, hsn]
      clear hsn hs hc' hc hr htk
      go_wp2_with (first | (refine app49 rfl rfl _ _ rfl w.heap.size _ _ _ rfl (wr.alloc _) (hown.alloc _) #[.int .i64 st] _ rfl (wr.heap.size + 1) (by simp) rfl rfl (by simp [Value.oneCell']) (by omega) (by omega) ?_) | fail)
      · intro v' w1 hown1 hg hmb
        have hbl' := (hbl.alloc (o := .cells #[.int .i64 sl, .int .i64 st] 85) hbs).grown hg (by simp; omega) (fun q hq => (hown.lt hq).1)
        clear hg hmb hown
        go_wp2
        go_roundw
        case rel => exact ⟨k + 1, by omega, by go_num, hbl', by rw [hsn'.out, if_pos ‹_›]; simpa using hown1⟩
        case measure => simp [intOf]; omega
      · go_roundw
        case rel => exact ⟨k + 1, by omega, by go_num, hbl.alloc hbs _, by rw [hsn'.out, if_neg (by simp [*])]; simpa using hown.alloc _⟩
        case measure => simp [intOf]; omega
    · have htk : Hid (l.take k = l) := List.take_of_length_le (by have := hn'.out; omega)
      go_wp2
      go_ret
      exact ⟨_, rfl, hbl, by rw [htk.out] at hown; exact hown⟩
set_option maxRecDepth 100000 in
theorem outs_by {g N : Nat} {L st : Int} {E : List Edg} {w : World} (i x : Int) (h : GraphAt w g N L st E) (hn : (outs E i).length ≤ 1000000000) :
    Calls Tryz.prog 11 #[.pointer (some ⟨g, 0, none⟩), .int .i64 i, .int .i64 x] w (fun e w' => ∃ v, e = .returned v ∧ Below w.heap.size w w' ∧ Owned w' w.heap.size 3 1 v (withL (outs E i) x).length ((withL (outs E i) x).map (Value.int .i64))) := by
  go_enter Tryz.func11, Tryz.ntmps11
  go_wp2_with fail
  refine (each_any i h).mono ?_
  rintro e w1 ⟨ad, rfl, hb, hr⟩
  go_wp2_with fail
  refine (with_any w1 x ad _ (outs E i) hr hn).mono ?_
  rintro e w2 ⟨v, rfl, hb2, ho⟩
  have hB := Below.chain hb hb2
  go_wp2_with fail
  go_ret
  exact ⟨_, rfl, hB, ho.mono hb.size⟩
set_option maxRecDepth 100000 in
theorem ins_by {g N : Nat} {L st : Int} {E : List Edg} {w : World} (i x : Int) (h : GraphAt w g N L st E) (hn : (ins E i).length ≤ 1000000000) :
    Calls Tryz.prog 12 #[.pointer (some ⟨g, 0, none⟩), .int .i64 i, .int .i64 x] w (fun e w' => ∃ v, e = .returned v ∧ Below w.heap.size w w' ∧ Owned w' w.heap.size 3 1 v (withL (ins E i) x).length ((withL (ins E i) x).map (Value.int .i64))) := by
  go_enter Tryz.func12, Tryz.ntmps12
  go_wp2_with fail
  refine (back_any i h).mono ?_
  rintro e w1 ⟨ad, rfl, hb, hr⟩
  go_wp2_with fail
  refine (with_any w1 x ad _ (ins E i) hr hn).mono ?_
  rintro e w2 ⟨v, rfl, hb2, ho⟩
  have hB := Below.chain hb hb2
  go_wp2_with fail
  go_ret
  exact ⟨_, rfl, hB, ho.mono hb.size⟩
end Go.Proofs.YtkknklagoghljaaGreatDoor
