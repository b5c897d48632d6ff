/- system.Normal; rows of steps; system.New. -/
import Derived.Test.YtkknklagoghljaaGreatDoorSort
import Derived.Deep.RegionHeld3
namespace Go.Proofs.YtkknklagoghljaaGreatDoor
open Go.RowKit
def zeroSys : Value := .agg #[.int .i64 0, .int .i64 0, .int .i64 0, .slice none 0 0]
def sysV (S : Sys) (v : Value) : Value := .agg #[.int .i64 S.n, .int .i64 S.L, .int .i64 S.st, v]
def NormPost (S : Sys) (ev : Value) (w : World) (e : Ending) (w' : World) : Prop :=
  Below w.heap.size w w' ∧ ((rightB S = true ∧ ∃ ad cap, e = .returned (.tuple #[.agg #[.int .i64 S.n, .int .i64 S.L, .int .i64 S.st, .slice ad (normE S.E).length cap], .nilIface]) ∧ Owned w' w.heap.size 71 3 (.slice ad (normE S.E).length cap) (normE S.E).length ((normE S.E).flatMap encE)) ∨
    (rightB S = false ∧ ∃ v, e = .returned (.tuple #[.agg #[.int .i64 0, .int .i64 0, .int .i64 0, .slice none 0 0], v]) ∧ FaultAt w' w.heap.size v sSystem 0 0 ev))
theorem right_len {S : Sys} (h : rightB S = true) : S.E.length ≤ 10000 := by
  simp only [rightB, headB, Bool.and_eq_true, decide_eq_true_eq] at h; omega
set_option maxRecDepth 100000 in
set_option maxHeartbeats 1000000 in
theorem normal_any (n L st : Int) (E : List Edg) (ad : Option Addr) (c : Nat) (t0 : TypeId) (x0 : Value) (w : World) (hr : Reads w (.slice ad E.length c) E.length 3 (E.flatMap encE)) (hg : w.cell? ⟨0, 0, none⟩ = some (.iface t0 x0)) :
    Calls Tryz.prog 17 #[.agg #[.int .i64 n, .int .i64 L, .int .i64 st, .slice ad E.length c]] w (NormPost ⟨n, L, st, E⟩ (.iface t0 x0) w) := by
  have hgb := World.block_lt_of_cell? _ _ hg
  generalize hm : E.length = m at *
  have hm' : Hid (E.length = m) := hm
  go_enter Tryz.func17, Tryz.ntmps17
  go_wp2_with fail
  obtain ⟨W, hW⟩ : ∃ W, W = (w.alloc (.cells #[.int .i64 n, .int .i64 L, .int .i64 st, .slice ad m c] 24)).alloc (.cells #[.int .i64 0, .int .i64 0, .int .i64 0, .slice none 0 0] 24) := ⟨_, rfl⟩
  have hbW : Below w.heap.size w W := by rw [hW]; exact (by repeat (first | exact Below.refl _ _ | (refine Below.alloc ?_ (by simp <;> omega) _) | (refine Below.drew ?_) | (refine Below.setCell ?_ (by simp <;> omega) _)))
  have hrW := hr.ext hbW
  have hgW : W.cell? ⟨0, 0, none⟩ = some (.iface t0 x0) := (hbW.cell (by simpa using hgb)).trans hg
  have hr1 : Row W w.heap.size 24 [.int .i64 n, .int .i64 L, .int .i64 st, .slice ad m c] := by rw [hW]; exact (Row.newA w _ _).alloc _
  have hr2 : Row W (w.heap.size + 1) 24 [.int .i64 0, .int .i64 0, .int .i64 0, .slice none 0 0] := by
    rw [hW]; have := Row.newA (w.alloc (.cells #[.int .i64 n, .int .i64 L, .int .i64 st, .slice ad m c] 24)) #[.int .i64 0, .int .i64 0, .int .i64 0, .slice none 0 0] 24
    simpa using this
  rw [← hW]
  rw [← hm'.out] at hrW
  have hch := check_any ⟨n, L, st, E⟩ (.slice ad m c) t0 x0 W (by rw [← hm'.out]; exact hrW) hgW
  refine hch.mono ?_
  rintro e w1 ⟨hb1, ⟨hyes, rfl⟩ | ⟨hno, v, rfl, hf⟩⟩
  · have hb2 : Below w.heap.size w w1 := Below.chain hbW hb1
    have hm10 := right_len hyes
    simp only at hm10
    have hr1' := hr1.ext hb1
    have hr2' := hr2.ext hb1
    have hrE := hrW.ext hb1
    obtain ⟨c0, c1, c2, c3⟩ := hr1'.c4
    obtain ⟨d0, d1, d2, d3⟩ := hr2'.c4
    have f1 := hr1'.free 3
    obtain ⟨f2, f3, f4, f5⟩ := hr2'.f4
    have hs1 := hr1'.lt
    have hs2 := hr2'.lt
    have hm2 : Hid (m ≤ 10000) := by rw [← hm'.out]; exact hm10
    clear hg hgW hr hch hm10
    go_wp2_with fail
    rw [hm'.out] at hrE
    refine (sorted_any E _ w1 (by rw [hm'.out]; exact hrE) (by rw [hm'.out]; have := hm2.out; omega)).mono ?_
    rintro e w2 ⟨ad2, cap2, rfl, hb3, ho⟩
    have hr1'' := hr1'.ext hb3
    have hr2'' := hr2'.ext hb3
    clear c0 c1 c2 c3 d0 d1 d2 d3 f1 f2 f3 f4 f5
    obtain ⟨c0, c1, c2, c3⟩ := hr1''.c4
    obtain ⟨d0, d1, d2, d3⟩ := hr2''.c4
    have f1 := hr1''.free 3
    obtain ⟨f2, f3, f4, f5⟩ := hr2''.f4
    go_wp2_with fail
    have hne : w.heap.size + 1 ≠ w.heap.size := by omega
    have hrA := ((((hr2''.other ⟨w.heap.size, 3, none⟩ (.slice ad2 (normE E).length cap2) hne).set 0 (.int .i64 n)).set 1 (.int .i64 L)).set 2 (.int .i64 st)).set 3 (.slice ad2 (normE E).length cap2)
    refine bodyPost_ret (results_cell2 Tryz.results17 hrA Tryz.isAgg24 Tryz.sizeOf24 rfl rfl rfl) rfl ?_
    have hbF := Below.chain hb2 hb3
    have hs0 := hbF.size
    refine ⟨((((hbF.setCell (Nat.le_refl _) _).setCell (by simp) _).setCell (by simp) _).setCell (by simp) _).setCell (by simp) _, .inl ⟨hyes, ad2, cap2, rfl, ?_⟩⟩
    refine (ho.kept fun q hq => ?_).mono hb2.size
    have hq2 := (ho.lt hq).1
    rw [Below.heap_setCell _ _ _ _ (by simp; omega), Below.heap_setCell _ _ _ _ (by simp; omega), Below.heap_setCell _ _ _ _ (by simp; omega), Below.heap_setCell _ _ _ _ (by simp; omega), Below.heap_setCell _ _ _ _ (by simp; omega)]
  · have hr2' := hr2.ext hb1
    obtain ⟨d0, d1, d2, d3⟩ := hr2'.c4
    obtain ⟨f2, f3, f4, f5⟩ := hr2'.f4
    clear hg hgW hr hch
    obtain ⟨g, rfl, hgB, hgr⟩ := hf
    go_wp2_with fail
    have hrA := (((hr2'.set 0 (.int .i64 0)).set 1 (.int .i64 0)).set 2 (.int .i64 0)).set 3 (.slice none 0 0)
    refine bodyPost_ret (results_cell2 Tryz.results17 hrA Tryz.isAgg24 Tryz.sizeOf24 rfl rfl rfl) rfl ?_
    have hb2 : Below w.heap.size w w1 := Below.chain hbW hb1
    have hWs : W.heap.size = w.heap.size + 2 := by rw [hW]; simp
    refine ⟨(((hb2.setCell (by simp) _).setCell (by simp) _).setCell (by simp) _).setCell (by simp) _, .inr ⟨hno, _, rfl, g, rfl, by omega, ?_⟩⟩
    exact (((hgr.other _ _ (by simp; omega)).other _ _ (by simp; omega)).other _ _ (by simp; omega)).other _ _ (by simp; omega)
end Go.Proofs.YtkknklagoghljaaGreatDoor
