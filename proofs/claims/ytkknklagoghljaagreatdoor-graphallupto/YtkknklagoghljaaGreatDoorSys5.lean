/- Rows of steps: what the closures tell; newRows. -/
import Derived.Test.YtkknklagoghljaaGreatDoorSys4
namespace Go.Proofs.YtkknklagoghljaaGreatDoor
open Go.RowKit
set_option maxRecDepth 100000 in
theorem keyF (f1 l1 t1 : Int) (w : World) :
    Calls Tryz.prog 38 #[.agg #[.int .i64 f1, .int .i64 l1, .int .i64 t1]] w (fun e w' => e = .returned (.int .i64 f1) ∧ w.alloc (.cells #[.int .i64 f1, .int .i64 l1, .int .i64 t1] 71) = w') := by
  go_enter Tryz.func38, Tryz.ntmps38
  go_wp2
  go_ret
  exact ⟨rfl, rfl⟩
set_option maxRecDepth 100000 in
theorem keyT (f1 l1 t1 : Int) (w : World) :
    Calls Tryz.prog 45 #[.agg #[.int .i64 f1, .int .i64 l1, .int .i64 t1]] w (fun e w' => e = .returned (.int .i64 t1) ∧ w.alloc (.cells #[.int .i64 f1, .int .i64 l1, .int .i64 t1] 71) = w') := by
  go_enter Tryz.func45, Tryz.ntmps45
  go_wp2
  go_ret
  exact ⟨rfl, rfl⟩
set_option maxRecDepth 100000 in
theorem stepF (f1 l1 t1 : Int) (w : World) :
    Calls Tryz.prog 39 #[.agg #[.int .i64 f1, .int .i64 l1, .int .i64 t1]] w (fun e w' => e = .returned (.agg #[.int .i64 l1, .int .i64 t1]) ∧
      (w.alloc (.cells #[.int .i64 f1, .int .i64 l1, .int .i64 t1] 71)).alloc (.cells #[.int .i64 l1, .int .i64 t1] 85) = w') := by
  go_enter Tryz.func39, Tryz.ntmps39
  go_wp2
  have hr := Row.newA (w.alloc (.cells #[.int .i64 f1, .int .i64 l1, .int .i64 t1] 71)) #[.int .i64 l1, .int .i64 t1] 85
  simp only [World.size_alloc] at hr
  refine bodyPost_ret (results_cell1 Tryz.results39 hr Tryz.isAgg85 Tryz.sizeOf85 rfl rfl) rfl ⟨rfl, rfl⟩
set_option maxRecDepth 100000 in
theorem stepT (f1 l1 t1 : Int) (w : World) :
    Calls Tryz.prog 46 #[.agg #[.int .i64 f1, .int .i64 l1, .int .i64 t1]] w (fun e w' => e = .returned (.agg #[.int .i64 l1, .int .i64 f1]) ∧
      (w.alloc (.cells #[.int .i64 f1, .int .i64 l1, .int .i64 t1] 71)).alloc (.cells #[.int .i64 l1, .int .i64 f1] 85) = w') := by
  go_enter Tryz.func46, Tryz.ntmps46
  go_wp2
  have hr := Row.newA (w.alloc (.cells #[.int .i64 f1, .int .i64 l1, .int .i64 t1] 71)) #[.int .i64 l1, .int .i64 f1] 85
  simp only [World.size_alloc] at hr
  refine bodyPost_ret (results_cell1 Tryz.results46 hr Tryz.isAgg85 Tryz.sizeOf85 rfl rfl) rfl ⟨rfl, rfl⟩
/-! Rows: how many edges have a key, how many a lower one. -/
def cnt (key : Edg → Int) (l : List Edg) (j : Nat) : Int := (l.countP (fun e => key e == (j : Int)) : Nat)
def cntL (key : Edg → Int) (l : List Edg) (j : Nat) : Int := (l.countP (fun e => decide (key e < (j : Int))) : Nat)
/-- behind the first loop: at 0 nothing, at j + 1 how many have the key j -/
def tally (key : Edg → Int) (l : List Edg) (n : Nat) : List Int := (List.range (n + 1)).map (fun j => match j with | 0 => 0 | j + 1 => cnt key l j)
/-- behind i rounds of the second loop -/
def sums (key : Edg → Int) (l : List Edg) (n i : Nat) : List Int := (List.range (n + 1)).map (fun j => if j ≤ i then cntL key l j else match j with | 0 => 0 | j + 1 => cnt key l j)
theorem tally_len (key : Edg → Int) (l : List Edg) (n : Nat) : (tally key l n).length = n + 1 := by simp [tally]
theorem sums_len (key : Edg → Int) (l : List Edg) (n i : Nat) : (sums key l n i).length = n + 1 := by simp [sums]
theorem tally_nil (key : Edg → Int) (n : Nat) : tally key [] n = List.replicate (n + 1) 0 := by
  apply List.ext_getElem
  · simp [tally]
  · intro i h1 h2
    simp only [tally, List.getElem_map, List.getElem_range, List.getElem_replicate]
    cases i <;> simp [cnt]
theorem tally_get (key : Edg → Int) (l : List Edg) (n k : Nat) (hk : k < n) : (tally key l n)[k + 1]? = some (cnt key l k) := by
  simp [tally, List.getElem?_map, List.getElem?_range (show k + 1 < n + 1 by omega)]
theorem tally_snoc (key : Edg → Int) (l : List Edg) (n k : Nat) (x : Edg) (hx : key x = (k : Int)) (hk : k < n) : tally key (l ++ [x]) n = (tally key l n).set (k + 1) (cnt key l k + 1) := by
  apply List.ext_getElem
  · simp [tally]
  · intro i h1 h2
    rw [List.getElem_set]
    simp only [tally, List.getElem_map, List.getElem_range]
    match i with
    | 0 => simp
    | i + 1 =>
      simp only [cnt, List.countP_append, List.countP_singleton]
      by_cases h : k = i
      · subst h; simp [hx]
      · have hne : ¬ ((k : Int) == (i : Int)) = true := by simp; omega
        simp only [hx]
        rw [if_neg (c := k + 1 = i + 1) (by omega), if_neg hne]; simp
theorem sums_zero (key : Edg → Int) (l : List Edg) (n : Nat) (h : ∀ e ∈ l, 0 ≤ key e) : sums key l n 0 = tally key l n := by
  apply List.ext_getElem
  · simp [tally, sums]
  · intro i h1 h2
    simp only [tally, sums, List.getElem_map, List.getElem_range]
    match i with
    | 0 =>
      simp only [Nat.le_refl, if_true, cntL]
      have : l.countP (fun e => decide (key e < ((0 : Nat) : Int))) = 0 := by
        rw [List.countP_eq_zero]; intro e he; have := h e he; simp; omega
      rw [this]; rfl
    | i + 1 => simp
theorem cntL_succ (key : Edg → Int) (l : List Edg) (j : Nat) : cntL key l (j + 1) = cnt key l j + cntL key l j := by
  unfold cntL cnt
  induction l with
  | nil => simp
  | cons x l ih =>
    simp only [List.countP_cons]
    by_cases h1 : key x = (j : Int)
    · rw [if_pos (by rw [decide_eq_true_eq]; omega), if_pos (by simpa using h1), if_neg (by rw [decide_eq_true_eq]; omega)]; omega
    · by_cases h2 : key x < (j : Int)
      · rw [if_pos (by rw [decide_eq_true_eq]; omega), if_neg (by simpa using h1), if_pos (by simpa using h2)]; omega
      · rw [if_neg (by rw [decide_eq_true_eq]; omega), if_neg (by simpa using h1), if_neg (by simpa using h2)]; omega
theorem sums_get (key : Edg → Int) (l : List Edg) (n i : Nat) (hi : i < n) : (sums key l n i)[i]? = some (cntL key l i) ∧ (sums key l n i)[i + 1]? = some (cnt key l i) := by
  constructor
  · simp [sums, List.getElem?_map, List.getElem?_range (show i < n + 1 by omega)]
  · simp only [sums, List.getElem?_map, List.getElem?_range (show i + 1 < n + 1 by omega), Option.map_some]
    rw [if_neg (by omega)]
theorem sums_succ (key : Edg → Int) (l : List Edg) (n i : Nat) : sums key l n (i + 1) = (sums key l n i).set (i + 1) (cnt key l i + cntL key l i) := by
  apply List.ext_getElem
  · simp [sums]
  · intro j h1 h2
    rw [List.getElem_set]
    simp only [sums, List.getElem_map, List.getElem_range]
    by_cases h : i + 1 = j
    · subst h; rw [if_pos rfl, if_pos (Nat.le_refl _), cntL_succ]
    · rw [if_neg h]
      by_cases h2 : j ≤ i
      · rw [if_pos h2, if_pos (by omega)]
      · rw [if_neg h2, if_neg (by omega)]
theorem cnt_le (key : Edg → Int) (l : List Edg) (j : Nat) : 0 ≤ cnt key l j ∧ cnt key l j ≤ l.length := by
  unfold cnt; have := List.countP_le_length (p := fun e => key e == (j : Int)) (l := l); omega
theorem cntL_le (key : Edg → Int) (l : List Edg) (j : Nat) : 0 ≤ cntL key l j ∧ cntL key l j ≤ l.length := by
  unfold cntL; have := List.countP_le_length (p := fun e => decide (key e < (j : Int))) (l := l); omega
theorem cnt_take_le (key : Edg → Int) (l : List Edg) (k j : Nat) : cnt key (l.take k) j ≤ k := by
  have := (cnt_le key (l.take k) j).2; have h := List.length_take_le k l; omega
end Go.Proofs.YtkknklagoghljaaGreatDoor
