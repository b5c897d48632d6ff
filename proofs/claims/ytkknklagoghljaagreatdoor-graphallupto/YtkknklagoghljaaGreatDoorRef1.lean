/- The document's own: less. -/
import Derived.Test.YtkknklagoghljaaGreatDoorSys2
import Derived.WalkSmall
namespace Go.Proofs.YtkknklagoghljaaGreatDoor
open Go.RowKit
set_option maxRecDepth 100000 in
theorem less_any (a b c d e f : Int) (w : World) :
    Calls Tryz.prog 99 #[.agg #[.int .i64 a, .int .i64 b, .int .i64 c], .agg #[.int .i64 d, .int .i64 e, .int .i64 f]] w (fun r w' => r = .returned (.bool (ltE ⟨a, b, c⟩ ⟨d, e, f⟩)) ∧ Below w.heap.size w w') := by
  go_enter Tryz.func99, Tryz.ntmps99
  go_wp2
  all_goals (go_ret; refine ⟨ret_bool ?_, (by repeat (first | exact Below.refl _ _ | (refine Below.alloc ?_ (by simp <;> omega) _) | (refine Below.drew ?_) | (refine Below.setCell ?_ (by simp <;> omega) _)))⟩; rw [Bool.eq_iff_iff]; simp only [ltE, decide_eq_true_eq]; simp at *; omega)
end Go.Proofs.YtkknklagoghljaaGreatDoor
