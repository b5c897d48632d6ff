/- Is each list of the book as it was? -/
import Derived.Test.YtkknklagoghljaaGreatDoorBook4
namespace Go.Proofs.YtkknklagoghljaaGreatDoor
open Go.RowKit
theorem drew_cell {w wr : World} {m : Nat} (h : wr = w.drewN m) {a : Addr} {v : Option Value} (hc : w.cell? a = v) : wr.cell? a = v := by rw [h]; exact hc
theorem item_cell {w : World} {b o : Nat} {l : List Lst} (h : CellsAt w b o (l.map Lst.v)) {k : Nat} {x : Lst} (hx : l[k]? = some x) : w.cell? ⟨b, o + k, none⟩ = some x.v :=
  h k x.v (by rw [List.getElem?_map, hx]; rfl)
/-- The lists and what they were: alike. -/
def AlikeI (l l' : List Lst) : Prop := l'.length = l.length ∧ ∀ (i : Nat) (x y : Lst), l[i]? = some x → l'[i]? = some y → ∃ L : List Int, x.cs = L.flatMap encI ∧ y.cs = L.flatMap encI ∧ x.n = L.length ∧ y.n = L.length ∧ L.length < 100000000000
set_option maxRecDepth 100000 in
set_option maxHeartbeats 1000000 in
theorem stillI (w : World) (bk B : Nat) (hv : Nat → Value) (ls : Nat → List Lst) (hM : BookMem w bk B hv ls) (hA : AlikeI (ls 0) (ls 1)) (hl : (ls 0).length ≤ 400) :
    Calls Tryz.prog 55 #[.pointer (some ⟨bk, 0, none⟩)] w (fun e w' => e = .returned (.bool true) ∧ ∃ m, w' = w.drewN m) := by
  obtain ⟨m, hm⟩ : ∃ m, m = (ls 0).length := ⟨_, rfl⟩
  have hm' : Hid (m = (ls 0).length) := hm
  have hA' : Hid (AlikeI (ls 0) (ls 1)) := hA
  obtain ⟨_, ad0, cp0, hh0, hc0⟩ := (hM.hdr 0).reads
  obtain ⟨_, ad1, cp1, hh1, hc1⟩ := (hM.hdr 1).reads
  rw [hA.1] at hh1 hc1
  have c0 := hM.cell (j := 0) (by decide)
  have c1 := hM.cell (j := 1) (by decide)
  rw [hh0] at c0
  rw [hh1] at c1
  rw [← hm] at c0 c1 hc0 hc1 hl
  have lB := hM.lt
  clear hh0 hh1 hm hA
  go_enter Tryz.func55, Tryz.ntmps55
  go_wp2_with fail
  go_loopw [3] (fun i wr => ∃ k m0 : Nat, k ≤ m ∧ i = .int .i64 k ∧ wr = w.drewN m0) (fun i _ => m - (intOf i).toNat)
  case atStart => exact ⟨0, 0, by omega, rfl, rfl⟩
  case round =>
    obtain ⟨k, m0, hk, rfl, hwr⟩ := hrel
    have d0 := drew_cell hwr c0
    have d1 := drew_cell hwr c1
    have hwr' : Hid (wr = w.drewN m0) := hwr
    by_cases hlt : k < m
    · obtain ⟨b0, o0, rfl, hr0⟩ := hc0 (by omega)
      obtain ⟨b1, o1, rfl, hr1⟩ := hc1 (by omega)
      obtain ⟨x, hx⟩ : ∃ x, (ls 0)[k]? = some x := ⟨(ls 0)[k]'(by have := hm'.out; omega), by have := hm'.out; simp [show k < (ls 0).length by omega]⟩
      obtain ⟨y, hy⟩ : ∃ y, (ls 1)[k]? = some y := ⟨(ls 1)[k]'(by have := hm'.out; have := hA'.out.1; omega), by have := hm'.out; have := hA'.out.1; simp [show k < (ls 1).length by omega]⟩
      obtain ⟨L, a1, a2, a3, a4, a5⟩ := hA'.out.2 k x y hx hy
      have i0 := item_cell hr0 hx
      have i1 := item_cell hr1 hy
      have rx := (hM.itm 0 x (List.mem_of_getElem? hx)).reads
      have ry := (hM.itm 1 y (List.mem_of_getElem? hy)).reads
      rw [a1, a3] at rx
      rw [a2, a4] at ry
      obtain ⟨adx, cx, hvx⟩ : ∃ adx cx, x.v = .slice adx L.length cx := by obtain ⟨_, a, c, h, _⟩ := rx; exact ⟨a, c, h⟩
      obtain ⟨ady, cy, hvy⟩ : ∃ ady cy, y.v = .slice ady L.length cy := by obtain ⟨_, a, c, h, _⟩ := ry; exact ⟨a, c, h⟩
      rw [hvx] at i0 rx
      rw [hvy] at i1 ry
      have hsm : ∀ n, Calls Tryz.prog 32 #[.slice adx L.length cx, .slice ady L.length cy] (wr.drewN n) (fun e w' => e = .returned (.bool true) ∧ ∃ m, w' = (wr.drewN n).drewN m) := fun n => by
        have h := sameI L L (.slice adx L.length cx) (.slice ady L.length cy) (wr.drewN n) (by rw [hwr]; exact (rx.drewN m0).drewN n) (by rw [hwr]; exact (ry.drewN m0).drewN n) (by omega)
        rwa [decide_eq_true rfl] at h
      have hsm' := Lib.hid hsm
      have j0 := drew_cell hwr i0
      have j1 := drew_cell hwr i1
      have lB' : bk < wr.heap.size := by rw [hwr]; exact lB
      obtain ⟨n, hn⟩ : ∃ n, n = L.length := ⟨_, rfl⟩
      rw [← hn] at hsm' j0 j1
      clear hwr i0 i1 c0 c1 rx ry a1 a2 a3 a4 a5 hx hy hr0 hr1 hc0 hc1 hsm hvx hvy hM hn
      go_wp2_with fail
      go_quiet (first | (go_at_call 32; exact Calls.quiet_of (hsm'.out _)))
      go_wp2_with fail
      go_roundw
      case rel => exact ⟨k + 1, m0 + nq, by omega, by go_num, by rw [hwr'.out]; exact World.drewN_drewN _ _ _⟩
      case measure => simp [intOf]; omega
    · have hkm : k = m := by omega
      subst hkm
      clear hwr
      go_wp2_with fail
      go_ret
      exact ⟨rfl, m0, hwr'.out⟩
/-- The lists and what they were: alike. -/
def AlikeS (l l' : List Lst) : Prop := l'.length = l.length ∧ ∀ (i : Nat) (x y : Lst), l[i]? = some x → l'[i]? = some y → ∃ L : List Stp, x.cs = L.flatMap encS ∧ y.cs = L.flatMap encS ∧ x.n = L.length ∧ y.n = L.length ∧ L.length < 100000000000
set_option maxRecDepth 100000 in
set_option maxHeartbeats 1000000 in
theorem stillS (w : World) (bk B : Nat) (hv : Nat → Value) (ls : Nat → List Lst) (hM : BookMem w bk B hv ls) (hA : AlikeS (ls 8) (ls 9)) (hl : (ls 8).length ≤ 400) :
    Calls Tryz.prog 59 #[.pointer (some ⟨bk, 0, none⟩)] w (fun e w' => e = .returned (.bool true) ∧ ∃ m, w' = w.drewN m) := by
  obtain ⟨m, hm⟩ : ∃ m, m = (ls 8).length := ⟨_, rfl⟩
  have hm' : Hid (m = (ls 8).length) := hm
  have hA' : Hid (AlikeS (ls 8) (ls 9)) := hA
  obtain ⟨_, ad0, cp0, hh0, hc0⟩ := (hM.hdr 8).reads
  obtain ⟨_, ad1, cp1, hh1, hc1⟩ := (hM.hdr 9).reads
  rw [hA.1] at hh1 hc1
  have c0 := hM.cell (j := 8) (by decide)
  have c1 := hM.cell (j := 9) (by decide)
  rw [hh0] at c0
  rw [hh1] at c1
  rw [← hm] at c0 c1 hc0 hc1 hl
  have lB := hM.lt
  clear hh0 hh1 hm hA
  go_enter Tryz.func59, Tryz.ntmps59
  go_wp2_with fail
  go_loopw [3] (fun i wr => ∃ k m0 : Nat, k ≤ m ∧ i = .int .i64 k ∧ wr = w.drewN m0) (fun i _ => m - (intOf i).toNat)
  case atStart => exact ⟨0, 0, by omega, rfl, rfl⟩
  case round =>
    obtain ⟨k, m0, hk, rfl, hwr⟩ := hrel
    have d0 := drew_cell hwr c0
    have d1 := drew_cell hwr c1
    have hwr' : Hid (wr = w.drewN m0) := hwr
    by_cases hlt : k < m
    · obtain ⟨b0, o0, rfl, hr0⟩ := hc0 (by omega)
      obtain ⟨b1, o1, rfl, hr1⟩ := hc1 (by omega)
      obtain ⟨x, hx⟩ : ∃ x, (ls 8)[k]? = some x := ⟨(ls 8)[k]'(by have := hm'.out; omega), by have := hm'.out; simp [show k < (ls 8).length by omega]⟩
      obtain ⟨y, hy⟩ : ∃ y, (ls 9)[k]? = some y := ⟨(ls 9)[k]'(by have := hm'.out; have := hA'.out.1; omega), by have := hm'.out; have := hA'.out.1; simp [show k < (ls 9).length by omega]⟩
      obtain ⟨L, a1, a2, a3, a4, a5⟩ := hA'.out.2 k x y hx hy
      have i0 := item_cell hr0 hx
      have i1 := item_cell hr1 hy
      have rx := (hM.itm 8 x (List.mem_of_getElem? hx)).reads
      have ry := (hM.itm 9 y (List.mem_of_getElem? hy)).reads
      rw [a1, a3] at rx
      rw [a2, a4] at ry
      obtain ⟨adx, cx, hvx⟩ : ∃ adx cx, x.v = .slice adx L.length cx := by obtain ⟨_, a, c, h, _⟩ := rx; exact ⟨a, c, h⟩
      obtain ⟨ady, cy, hvy⟩ : ∃ ady cy, y.v = .slice ady L.length cy := by obtain ⟨_, a, c, h, _⟩ := ry; exact ⟨a, c, h⟩
      rw [hvx] at i0 rx
      rw [hvy] at i1 ry
      have hsm : ∀ n, Calls Tryz.prog 21 #[.slice adx L.length cx, .slice ady L.length cy] (wr.drewN n) (fun e w' => e = .returned (.bool true) ∧ ∃ m, w' = (wr.drewN n).drewN m) := fun n => by
        have h := sameS L L (.slice adx L.length cx) (.slice ady L.length cy) (wr.drewN n) (by rw [hwr]; exact (rx.drewN m0).drewN n) (by rw [hwr]; exact (ry.drewN m0).drewN n) (by omega)
        rwa [decide_eq_true rfl] at h
      have hsm' := Lib.hid hsm
      have j0 := drew_cell hwr i0
      have j1 := drew_cell hwr i1
      have lB' : bk < wr.heap.size := by rw [hwr]; exact lB
      obtain ⟨n, hn⟩ : ∃ n, n = L.length := ⟨_, rfl⟩
      rw [← hn] at hsm' j0 j1
      clear hwr i0 i1 c0 c1 rx ry a1 a2 a3 a4 a5 hx hy hr0 hr1 hc0 hc1 hsm hvx hvy hM hn
      go_wp2_with fail
      go_quiet (first | (go_at_call 21; exact Calls.quiet_of (hsm'.out _)))
      go_wp2_with fail
      go_roundw
      case rel => exact ⟨k + 1, m0 + nq, by omega, by go_num, by rw [hwr'.out]; exact World.drewN_drewN _ _ _⟩
      case measure => simp [intOf]; omega
    · have hkm : k = m := by omega
      subst hkm
      clear hwr
      go_wp2_with fail
      go_ret
      exact ⟨rfl, m0, hwr'.out⟩
/-- The lists and what they were: alike. -/
def AlikeE (l l' : List Lst) : Prop := l'.length = l.length ∧ ∀ (i : Nat) (x y : Lst), l[i]? = some x → l'[i]? = some y → ∃ L : List Edg, x.cs = L.flatMap encE ∧ y.cs = L.flatMap encE ∧ x.n = L.length ∧ y.n = L.length ∧ L.length < 100000000000
set_option maxRecDepth 100000 in
set_option maxHeartbeats 1000000 in
theorem stillE (w : World) (bk B : Nat) (hv : Nat → Value) (ls : Nat → List Lst) (hM : BookMem w bk B hv ls) (hA : AlikeE (ls 10) (ls 11)) (hl : (ls 10).length ≤ 400) :
    Calls Tryz.prog 60 #[.pointer (some ⟨bk, 0, none⟩)] w (fun e w' => e = .returned (.bool true) ∧ ∃ m, w' = w.drewN m) := by
  obtain ⟨m, hm⟩ : ∃ m, m = (ls 10).length := ⟨_, rfl⟩
  have hm' : Hid (m = (ls 10).length) := hm
  have hA' : Hid (AlikeE (ls 10) (ls 11)) := hA
  obtain ⟨_, ad0, cp0, hh0, hc0⟩ := (hM.hdr 10).reads
  obtain ⟨_, ad1, cp1, hh1, hc1⟩ := (hM.hdr 11).reads
  rw [hA.1] at hh1 hc1
  have c0 := hM.cell (j := 10) (by decide)
  have c1 := hM.cell (j := 11) (by decide)
  rw [hh0] at c0
  rw [hh1] at c1
  rw [← hm] at c0 c1 hc0 hc1 hl
  have lB := hM.lt
  clear hh0 hh1 hm hA
  go_enter Tryz.func60, Tryz.ntmps60
  go_wp2_with fail
  go_loopw [3] (fun i wr => ∃ k m0 : Nat, k ≤ m ∧ i = .int .i64 k ∧ wr = w.drewN m0) (fun i _ => m - (intOf i).toNat)
  case atStart => exact ⟨0, 0, by omega, rfl, rfl⟩
  case round =>
    obtain ⟨k, m0, hk, rfl, hwr⟩ := hrel
    have d0 := drew_cell hwr c0
    have d1 := drew_cell hwr c1
    have hwr' : Hid (wr = w.drewN m0) := hwr
    by_cases hlt : k < m
    · obtain ⟨b0, o0, rfl, hr0⟩ := hc0 (by omega)
      obtain ⟨b1, o1, rfl, hr1⟩ := hc1 (by omega)
      obtain ⟨x, hx⟩ : ∃ x, (ls 10)[k]? = some x := ⟨(ls 10)[k]'(by have := hm'.out; omega), by have := hm'.out; simp [show k < (ls 10).length by omega]⟩
      obtain ⟨y, hy⟩ : ∃ y, (ls 11)[k]? = some y := ⟨(ls 11)[k]'(by have := hm'.out; have := hA'.out.1; omega), by have := hm'.out; have := hA'.out.1; simp [show k < (ls 11).length by omega]⟩
      obtain ⟨L, a1, a2, a3, a4, a5⟩ := hA'.out.2 k x y hx hy
      have i0 := item_cell hr0 hx
      have i1 := item_cell hr1 hy
      have rx := (hM.itm 10 x (List.mem_of_getElem? hx)).reads
      have ry := (hM.itm 11 y (List.mem_of_getElem? hy)).reads
      rw [a1, a3] at rx
      rw [a2, a4] at ry
      obtain ⟨adx, cx, hvx⟩ : ∃ adx cx, x.v = .slice adx L.length cx := by obtain ⟨_, a, c, h, _⟩ := rx; exact ⟨a, c, h⟩
      obtain ⟨ady, cy, hvy⟩ : ∃ ady cy, y.v = .slice ady L.length cy := by obtain ⟨_, a, c, h, _⟩ := ry; exact ⟨a, c, h⟩
      rw [hvx] at i0 rx
      rw [hvy] at i1 ry
      have hsm : ∀ n, Calls Tryz.prog 22 #[.slice adx L.length cx, .slice ady L.length cy] (wr.drewN n) (fun e w' => e = .returned (.bool true) ∧ ∃ m, w' = (wr.drewN n).drewN m) := fun n => by
        have h := sameE L L (.slice adx L.length cx) (.slice ady L.length cy) (wr.drewN n) (by rw [hwr]; exact (rx.drewN m0).drewN n) (by rw [hwr]; exact (ry.drewN m0).drewN n) (by omega)
        rwa [decide_eq_true rfl] at h
      have hsm' := Lib.hid hsm
      have j0 := drew_cell hwr i0
      have j1 := drew_cell hwr i1
      have lB' : bk < wr.heap.size := by rw [hwr]; exact lB
      obtain ⟨n, hn⟩ : ∃ n, n = L.length := ⟨_, rfl⟩
      rw [← hn] at hsm' j0 j1
      clear hwr i0 i1 c0 c1 rx ry a1 a2 a3 a4 a5 hx hy hr0 hr1 hc0 hc1 hsm hvx hvy hM hn
      go_wp2_with fail
      go_quiet (first | (go_at_call 22; exact Calls.quiet_of (hsm'.out _)))
      go_wp2_with fail
      go_roundw
      case rel => exact ⟨k + 1, m0 + nq, by omega, by go_num, by rw [hwr'.out]; exact World.drewN_drewN _ _ _⟩
      case measure => simp [intOf]; omega
    · have hkm : k = m := by omega
      subst hkm
      clear hwr
      go_wp2_with fail
      go_ret
      exact ⟨rfl, m0, hwr'.out⟩
end Go.Proofs.YtkknklagoghljaaGreatDoor
