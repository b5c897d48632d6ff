/- Degree. -/
import Derived.Test.YtkknklagoghljaaGreatDoorWith
namespace Go.Proofs.YtkknklagoghljaaGreatDoor
open Go.RowKit
def degL (E : List Edg) (n : Nat) : Nat := (List.range n).foldl (fun a (i : Nat) => max a (outs E (i : Int)).length) 0
theorem degL_succ (E : List Edg) (n : Nat) : degL E (n + 1) = max (degL E n) (outs E n).length := by simp [degL, List.range_succ]
theorem degL_le (E : List Edg) (n : Nat) : degL E n ≤ E.length := by
  induction n with
  | zero => simp [degL]
  | succ n ih => rw [degL_succ]; have := toF_map_len E n; omega
set_option maxRecDepth 100000 in
theorem degree_any {g N : Nat} {L st : Int} {E : List Edg} {w : World} (h : GraphAt w g N L st E) :
    Calls Tryz.prog 36 #[.pointer (some ⟨g, 0, none⟩)] w (fun e w' => e = .returned (.int .i64 (degL E N : Nat)) ∧ Below w.heap.size w w') := by
  have hsm := h.small
  go_enter Tryz.func36, Tryz.ntmps36
  go_wp2_with fail
  refine (num0 h).mono ?_
  rintro e w1 ⟨rfl, hb1⟩
  have h1 := h.ext hb1
  go_wp2_with fail
  go_loopw [3, 7] (fun d i wr => ∃ k : Nat, k ≤ N ∧ i = .int .i64 k ∧ d = .int .i64 (degL E k : Nat) ∧ Below w.heap.size w wr ∧ GraphAt wr g N L st E) (fun _ i _ => N - (intOf i).toNat)
  case atStart => exact ⟨0, by omega, rfl, rfl, hb1, h1⟩
  case round =>
    obtain ⟨k, hk, rfl, rfl, hbl, hg⟩ := hrel
    have hN := hsm.1
    have hd := degL_le E k
    have ho := toF_map_len E k
    by_cases hlt : k < N
    · obtain ⟨d, hd2⟩ : ∃ d, d = degL E k := ⟨_, rfl⟩
      rw [← hd2] at hd ⊢
      have hd2' := Lib.hid hd2
      clear hd2 h1
      go_wp2_with fail
      refine (each_any k hg).mono ?_
      rintro e w2 ⟨ad, rfl, hb2, -⟩
      obtain ⟨q, hq⟩ : ∃ q, q = (outs E k).length := ⟨_, rfl⟩
      rw [← hq] at ho ⊢
      have hq' := Lib.hid hq
      have hbl2 := hbl.trans (hb2.mono hbl.size)
      have hg2 := hg.ext hb2
      clear hq
      go_wp2_with fail
      all_goals
        go_roundw
        case rel => exact ⟨k + 1, by omega, by go_num, by rw [degL_succ, ← hd2'.out, ← hq'.out]; congr 1 <;> omega, hbl2, hg2⟩
        case measure => simp [intOf]; omega
    · have hkn : k = N := by omega
      subst hkn
      go_wp2_with fail
      go_ret
      exact ⟨rfl, hbl⟩
end Go.Proofs.YtkknklagoghljaaGreatDoor
