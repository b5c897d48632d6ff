/- Chapter 7's first call. -/
import Derived.Test.YtkknklagoghljaaGreatDoorCut
import Derived.Test.YtkknklagoghljaaGreatDoorDegree
namespace Go.Proofs.YtkknklagoghljaaGreatDoor
open Go.RowKit
open Go.RowKit (Below)
def alE : List Edg := [⟨0, 1, 1⟩, ⟨1, 0, 0⟩, ⟨2, 1, 0⟩]
theorem al_right : rightB ⟨3, 2, 0, alE⟩ = true := by decide
theorem al_norm : normE alE = alE := by decide
theorem al_out : (outs alE 0).length = 1 := by decide
theorem al_in : (ins alE 0).length = 2 := by decide
theorem al_reach : (reachL alE 3 0).length = 2 := by
  unfold reachL sortL
  rw [if_neg (by decide), List.length_mergeSort]
  decide
theorem al_deg : degL alE 3 = 1 := by decide
set_option maxRecDepth 100000 in
set_option maxHeartbeats 1000000 in
theorem alive_any (t0 : TypeId) (x0 : Value) (w : World) (hg : w.cell? ⟨0, 0, none⟩ = some (.iface t0 x0)) :
    Calls Tryz.prog 5 #[] w (fun e w' => e = .returned (.bool true) ∧ Below w.heap.size w w') := by
  have hgb := World.block_lt_of_cell? _ _ hg
  have hr := Reads.new w #[.int .i64 0, .int .i64 1, .int .i64 1, .int .i64 1, .int .i64 0, .int .i64 0, .int .i64 2, .int .i64 1, .int .i64 0] 71 3 3 3 rfl
  have hb0 : Below w.heap.size w (w.alloc (.cells #[.int .i64 0, .int .i64 1, .int .i64 1, .int .i64 1, .int .i64 0, .int .i64 0, .int .i64 2, .int .i64 1, .int .i64 0] 71)) := (Below.refl _ _).alloc (Nat.le_refl _) _
  have hnew := Lib.hid (new_any 3 2 0 alE _ 3 t0 x0 _ hr ((hb0.cell (by exact hgb)).trans hg))
  clear hr hg
  go_enter Tryz.func5, Tryz.ntmps5
  go_wp2_with fail
  refine (hnew.out).mono ?_
  rintro e w1 ⟨hb1, ⟨-, g, N, hN, rfl, -, hG⟩ | ⟨hno, -⟩⟩
  · have hN3 : N = 3 := by have : (3 : Int) = (N : Int) := hN; omega
    subst hN3
    simp only [al_norm] at hG
    have hb1' := Below.chain hb0 hb1
    clear hN hb1 hb0 hnew
    go_wp2_with fail
    refine (outs_c 0 hG (by rw [al_out]; decide)).mono ?_
    rintro e w2 ⟨v2, rfl, hb2, ho2⟩
    obtain ⟨a2, c2, rfl⟩ := ho2.form
    rw [al_out]
    have hG2 := hG.ext hb2
    have hb2' := hb1'.trans (hb2.mono hb1'.size)
    clear hG hb2 ho2 hb1'
    go_wp2_with fail
    refine (ins_c 0 hG2 (by rw [al_in]; decide)).mono ?_
    rintro e w3 ⟨v3, rfl, hb3, ho3⟩
    obtain ⟨a3, c3, rfl⟩ := ho3.form
    rw [al_in]
    have hG3 := hG2.ext hb3
    have hb3' := hb2'.trans (hb3.mono hb2'.size)
    clear hG2 hb3 ho3 hb2'
    go_wp2_with fail
    refine (reach_any hG3).mono ?_
    rintro e w4 ⟨v4, rfl, hb4, ho4⟩
    obtain ⟨a4, c4, rfl⟩ := ho4.form
    have hr4 : (reachL alE 3 0).length = 2 := al_reach
    rw [hr4]
    have hG4 := hG3.ext hb4
    have hb4' := hb3'.trans (hb4.mono hb3'.size)
    clear hG3 hb4 ho4 hb3' hr4
    go_wp2_with fail
    refine (degree_any hG4).mono ?_
    rintro e w5 ⟨rfl, hb5⟩
    rw [al_deg]
    have hb5' := hb4'.trans (hb5.mono hb4'.size)
    clear hG4 hb5 hb4'
    go_wp2_with fail
    go_ret
    exact ⟨rfl, hb5'⟩
  · exact absurd hno (by rw [al_right]; decide)
end Go.Proofs.YtkknklagoghljaaGreatDoor
