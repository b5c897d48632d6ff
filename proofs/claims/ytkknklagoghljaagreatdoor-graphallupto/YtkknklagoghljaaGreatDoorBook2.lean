/- The book's marks. -/
import Derived.Test.YtkknklagoghljaaGreatDoorBook1
namespace Go.Proofs.YtkknklagoghljaaGreatDoor
open Go.RowKit
def mkI (i k : Nat) : Int := -1000000 * (i : Int) - k - 7
def mkS (i k : Nat) : Stp := ⟨-1 - (i : Int), k⟩
def mkE (i k : Nat) : Edg := ⟨-1 - (i : Int), k, 7⟩
def marksI (i fr n : Nat) : List Int := (List.range' fr n).map (mkI i)
theorem marksI_len (i fr n : Nat) : (marksI i fr n).length = n := by simp [marksI]
theorem marksI_snoc (i fr n : Nat) : marksI i fr (n + 1) = marksI i fr n ++ [mkI i (fr + n)] := by
  unfold marksI; rw [List.range'_1_concat, List.map_append]; rfl
theorem marksI_append (i fr n m : Nat) : marksI i fr n ++ marksI i (fr + n) m = marksI i fr (n + m) := by
  unfold marksI; rw [← List.map_append, List.range'_append_1]
set_option maxRecDepth 100000 in
set_option maxHeartbeats 1000000 in
theorem markI (i fr n : Nat) (w : World) (hi : i ≤ 1000) (hn : fr + n ≤ 1000000000) :
    Calls Tryz.prog 120 #[.int .i64 i, .int .i64 fr, .int .i64 n] w (fun e w' => ∃ v, e = .returned v ∧ Below w.heap.size w w' ∧ Owned w' w.heap.size 3 1 v n ((marksI i fr n).flatMap encI)) := by
  have e0 : IntKind.i64.wrap ((fr : Int) + (n : Int)) = (fr : Int) + (n : Int) := IntWalk.i64_in _ (by omega)
  go_enter Tryz.func120, Tryz.ntmps120
  go_wp2_with fail
  go_loopw [7, 8] (fun v x wr => ∃ j : Nat, j ≤ n ∧ x = .int .i64 ((fr : Int) + (j : Int)) ∧ Below w.heap.size w wr ∧ Owned wr w.heap.size 3 1 v j ((marksI i fr j).flatMap encI)) (fun _ x _ => fr + n - (intOf x).toNat)
  case atStart => exact ⟨0, by omega, by simp, Below.refl _ _, by simpa [marksI] using Owned.nil _ _ _ _ _⟩
  case round =>
    obtain ⟨j, hj, rfl, hbl, ho⟩ := hrel
    obtain ⟨K, hK⟩ : ∃ K : Int, K = (fr : Int) + (j : Int) := ⟨_, rfl⟩
    rw [← hK]
    have hs := hbl.size
    have hKn : K.toNat = fr + j := by omega
    by_cases hlt : j < n
    · have hsn : Hid ((marksI i fr (j + 1)).flatMap encI = (marksI i fr j).flatMap encI ++ (#[.int .i64 (-1000000 * (i : Int) - K - 7)] : Array Value).toList) := by
        rw [Hid, marksI_snoc, List.flatMap_append, hK]
        simp [mkI, encI]
      obtain ⟨e1, e2, e3⟩ : (IntKind.i64.wrap (-1000000 * (i : Int)) = -1000000 * (i : Int) ∧ IntKind.i64.wrap (-1000000 * (i : Int) - K) = -1000000 * (i : Int) - K ∧ IntKind.i64.wrap (-1000000 * (i : Int) - K - 7) = -1000000 * (i : Int) - K - 7) := by refine ⟨?_, ?_, ?_⟩ <;> first | trivial | exact IntWalk.i64_in _ (by omega)
      have e4 : IntKind.i64.wrap (K + 1) = K + 1 := IntWalk.i64_in _ (by omega)
      have e5 : K < (fr : Int) + (n : Int) := by omega
      have hK' : Hid (K = (fr : Int) + (j : Int)) := hK
      clear hK
      go_wp2_with (first | (refine app49 rfl rfl _ _ rfl w.heap.size _ _ _ rfl wr ho #[.int .i64 (-1000000 * (i : Int) - K - 7)] _ rfl wr.heap.size rfl rfl rfl (by simp [Value.oneCell']) (by omega) hs ?_) | fail)
      intro v' w1 ho1 hg hmb
      have hbl' := hbl.grown hg hs (fun q hq => (ho.lt hq).1)
      go_wp2_with fail
      go_roundw
      case rel => exact ⟨j + 1, by omega, by rw [hK'.out]; go_num, hbl', by rw [hsn.out]; exact ho1⟩
      case measure => have := hK'.out; simp [intOf]; omega
    · have hjn : j = n := by omega
      subst hjn
      have e5 : ¬ (K < (fr : Int) + (j : Int)) := by omega
      go_wp2_with fail
      go_ret
      exact ⟨_, rfl, hbl, ho⟩
theorem mark0I (i n : Nat) (w : World) (hi : i ≤ 1000) (hn : n ≤ 1000000000) :
    Calls Tryz.prog 120 #[.int .i64 i, .int .i64 0, .int .i64 n] w (fun e w' => ∃ v, e = .returned v ∧ Below w.heap.size w w' ∧ Owned w' w.heap.size 3 1 v n ((marksI i 0 n).flatMap encI)) := markI i 0 n w hi (by omega)
def marksS (i fr n : Nat) : List Stp := (List.range' fr n).map (mkS i)
theorem marksS_len (i fr n : Nat) : (marksS i fr n).length = n := by simp [marksS]
theorem marksS_snoc (i fr n : Nat) : marksS i fr (n + 1) = marksS i fr n ++ [mkS i (fr + n)] := by
  unfold marksS; rw [List.range'_1_concat, List.map_append]; rfl
theorem marksS_append (i fr n m : Nat) : marksS i fr n ++ marksS i (fr + n) m = marksS i fr (n + m) := by
  unfold marksS; rw [← List.map_append, List.range'_append_1]
set_option maxRecDepth 100000 in
set_option maxHeartbeats 1000000 in
theorem markS (i fr n : Nat) (w : World) (hi : i ≤ 1000) (hn : fr + n ≤ 1000000000) :
    Calls Tryz.prog 124 #[.int .i64 i, .int .i64 fr, .int .i64 n] w (fun e w' => ∃ v, e = .returned v ∧ Below w.heap.size w w' ∧ Owned w' w.heap.size 85 2 v n ((marksS i fr n).flatMap encS)) := by
  have e0 : IntKind.i64.wrap ((fr : Int) + (n : Int)) = (fr : Int) + (n : Int) := IntWalk.i64_in _ (by omega)
  go_enter Tryz.func124, Tryz.ntmps124
  go_wp2_with fail
  go_loopw [7, 8] (fun v x wr => ∃ j : Nat, j ≤ n ∧ x = .int .i64 ((fr : Int) + (j : Int)) ∧ Below w.heap.size w wr ∧ Owned wr w.heap.size 85 2 v j ((marksS i fr j).flatMap encS)) (fun _ x _ => fr + n - (intOf x).toNat)
  case atStart => exact ⟨0, by omega, by simp, Below.refl _ _, by simpa [marksS] using Owned.nil _ _ _ _ _⟩
  case round =>
    obtain ⟨j, hj, rfl, hbl, ho⟩ := hrel
    obtain ⟨K, hK⟩ : ∃ K : Int, K = (fr : Int) + (j : Int) := ⟨_, rfl⟩
    rw [← hK]
    have hs := hbl.size
    have hKn : K.toNat = fr + j := by omega
    by_cases hlt : j < n
    · have hsn : Hid ((marksS i fr (j + 1)).flatMap encS = (marksS i fr j).flatMap encS ++ (#[.int .i64 (-1 - (i : Int)), .int .i64 K] : Array Value).toList) := by
        rw [Hid, marksS_snoc, List.flatMap_append, hK]
        simp [mkS, encS]
      obtain ⟨e1, e2, e3⟩ : (IntKind.i64.wrap (-1 - (i : Int)) = -1 - (i : Int) ∧ True ∧ True) := by refine ⟨?_, ?_, ?_⟩ <;> first | trivial | exact IntWalk.i64_in _ (by omega)
      have e4 : IntKind.i64.wrap (K + 1) = K + 1 := IntWalk.i64_in _ (by omega)
      have e5 : K < (fr : Int) + (n : Int) := by omega
      have hK' : Hid (K = (fr : Int) + (j : Int)) := hK
      clear hK
      go_wp2_with (first | (refine app46 rfl rfl _ _ rfl w.heap.size _ _ _ rfl wr ho #[.int .i64 (-1 - (i : Int)), .int .i64 K] _ rfl wr.heap.size rfl rfl rfl (by simp [Value.oneCell']) (by omega) hs ?_) | fail)
      intro v' w1 ho1 hg hmb
      have hbl' := hbl.grown hg hs (fun q hq => (ho.lt hq).1)
      go_wp2_with fail
      go_roundw
      case rel => exact ⟨j + 1, by omega, by rw [hK'.out]; go_num, hbl', by rw [hsn.out]; exact ho1⟩
      case measure => have := hK'.out; simp [intOf]; omega
    · have hjn : j = n := by omega
      subst hjn
      have e5 : ¬ (K < (fr : Int) + (j : Int)) := by omega
      go_wp2_with fail
      go_ret
      exact ⟨_, rfl, hbl, ho⟩
theorem mark0S (i n : Nat) (w : World) (hi : i ≤ 1000) (hn : n ≤ 1000000000) :
    Calls Tryz.prog 124 #[.int .i64 i, .int .i64 0, .int .i64 n] w (fun e w' => ∃ v, e = .returned v ∧ Below w.heap.size w w' ∧ Owned w' w.heap.size 85 2 v n ((marksS i 0 n).flatMap encS)) := markS i 0 n w hi (by omega)
def marksE (i fr n : Nat) : List Edg := (List.range' fr n).map (mkE i)
theorem marksE_len (i fr n : Nat) : (marksE i fr n).length = n := by simp [marksE]
theorem marksE_snoc (i fr n : Nat) : marksE i fr (n + 1) = marksE i fr n ++ [mkE i (fr + n)] := by
  unfold marksE; rw [List.range'_1_concat, List.map_append]; rfl
theorem marksE_append (i fr n m : Nat) : marksE i fr n ++ marksE i (fr + n) m = marksE i fr (n + m) := by
  unfold marksE; rw [← List.map_append, List.range'_append_1]
set_option maxRecDepth 100000 in
set_option maxHeartbeats 1000000 in
theorem markE (i fr n : Nat) (w : World) (hi : i ≤ 1000) (hn : fr + n ≤ 1000000000) :
    Calls Tryz.prog 125 #[.int .i64 i, .int .i64 fr, .int .i64 n] w (fun e w' => ∃ v, e = .returned v ∧ Below w.heap.size w w' ∧ Owned w' w.heap.size 71 3 v n ((marksE i fr n).flatMap encE)) := by
  have e0 : IntKind.i64.wrap ((fr : Int) + (n : Int)) = (fr : Int) + (n : Int) := IntWalk.i64_in _ (by omega)
  go_enter Tryz.func125, Tryz.ntmps125
  go_wp2_with fail
  go_loopw [7, 8] (fun v x wr => ∃ j : Nat, j ≤ n ∧ x = .int .i64 ((fr : Int) + (j : Int)) ∧ Below w.heap.size w wr ∧ Owned wr w.heap.size 71 3 v j ((marksE i fr j).flatMap encE)) (fun _ x _ => fr + n - (intOf x).toNat)
  case atStart => exact ⟨0, by omega, by simp, Below.refl _ _, by simpa [marksE] using Owned.nil _ _ _ _ _⟩
  case round =>
    obtain ⟨j, hj, rfl, hbl, ho⟩ := hrel
    obtain ⟨K, hK⟩ : ∃ K : Int, K = (fr : Int) + (j : Int) := ⟨_, rfl⟩
    rw [← hK]
    have hs := hbl.size
    have hKn : K.toNat = fr + j := by omega
    by_cases hlt : j < n
    · have hsn : Hid ((marksE i fr (j + 1)).flatMap encE = (marksE i fr j).flatMap encE ++ (#[.int .i64 (-1 - (i : Int)), .int .i64 K, .int .i64 7] : Array Value).toList) := by
        rw [Hid, marksE_snoc, List.flatMap_append, hK]
        simp [mkE, encE]
      obtain ⟨e1, e2, e3⟩ : (IntKind.i64.wrap (-1 - (i : Int)) = -1 - (i : Int) ∧ True ∧ True) := by refine ⟨?_, ?_, ?_⟩ <;> first | trivial | exact IntWalk.i64_in _ (by omega)
      have e4 : IntKind.i64.wrap (K + 1) = K + 1 := IntWalk.i64_in _ (by omega)
      have e5 : K < (fr : Int) + (n : Int) := by omega
      have hK' : Hid (K = (fr : Int) + (j : Int)) := hK
      clear hK
      go_wp2_with (first | (refine app22 rfl rfl _ _ rfl w.heap.size _ _ _ rfl wr ho #[.int .i64 (-1 - (i : Int)), .int .i64 K, .int .i64 7] _ rfl wr.heap.size rfl rfl rfl (by simp [Value.oneCell']) (by omega) hs ?_) | fail)
      intro v' w1 ho1 hg hmb
      have hbl' := hbl.grown hg hs (fun q hq => (ho.lt hq).1)
      go_wp2_with fail
      go_roundw
      case rel => exact ⟨j + 1, by omega, by rw [hK'.out]; go_num, hbl', by rw [hsn.out]; exact ho1⟩
      case measure => have := hK'.out; simp [intOf]; omega
    · have hjn : j = n := by omega
      subst hjn
      have e5 : ¬ (K < (fr : Int) + (j : Int)) := by omega
      go_wp2_with fail
      go_ret
      exact ⟨_, rfl, hbl, ho⟩
theorem mark0E (i n : Nat) (w : World) (hi : i ≤ 1000) (hn : n ≤ 1000000000) :
    Calls Tryz.prog 125 #[.int .i64 i, .int .i64 0, .int .i64 n] w (fun e w' => ∃ v, e = .returned v ∧ Below w.heap.size w w' ∧ Owned w' w.heap.size 71 3 v n ((marksE i 0 n).flatMap encE)) := markE i 0 n w hi (by omega)
end Go.Proofs.YtkknklagoghljaaGreatDoor
