/- Chapter 7, the leaves: what offends a system, the order of edges, what steps with a label lead to. -/
import Derived.Test.YtkknklagoghljaaGreatDoorBase
import Derived.Test.YtkknklagoghljaaGreatDoorPure
import Derived.Outline
import Derived.StillTailTactics
import Derived.Deep.QuietTactic
import Derived.BigQuiet
import Derived.Deep.RegionWith
import Derived.WalkSpells
import Derived.Sort.Grow
import Derived.Laws.StructEq
namespace Go.Proofs.YtkknklagoghljaaGreatDoor
open Go.RowKit
def encE (e : Edg) : List Value := [.int .i64 e.fr, .int .i64 e.lab, .int .i64 e.to]
def encS (s : Stp) : List Value := [.int .i64 s.lab, .int .i64 s.to]
def OffPost (n L fr lab to : Int) (w : World) (e : Ending) (w' : World) : Prop := e = .returned (.bool (offB n L fr lab to)) ∧ Below w.heap.size w w'
theorem ret_bool {a b : Bool} (h : a = b) : Ending.returned (.bool a) = .returned (.bool b) := by rw [h]
theorem ret_int {k : IntKind} {a b : Int} (h : a = b) : Ending.returned (.int k a) = .returned (.int k b) := by rw [h]
theorem ret_slice {a : Option Addr} {n m c : Nat} (h : n = m) : Ending.returned (.slice a n c) = .returned (.slice a m c) := by rw [h]
set_option maxRecDepth 100000 in
theorem offends_any (n L st : Int) (sv : Value) (fr lab to : Int) (w : World) :
    Calls Tryz.prog 109 #[.agg #[.int .i64 n, .int .i64 L, .int .i64 st, sv], .agg #[.int .i64 fr, .int .i64 lab, .int .i64 to]] w (OffPost n L fr lab to w) := by
  go_enter Tryz.func109, Tryz.ntmps109
  go_wp2
  all_goals (go_ret; exact ⟨ret_bool (by unfold offB; simp <;> omega), (by repeat (first | exact Below.refl _ _ | (refine Below.alloc ?_ (by simp <;> omega) _) | (refine Below.drew ?_) | (refine Below.setCell ?_ (by simp <;> omega) _)))⟩)
def cmpI (a b : Int) : Int := if a < b then -1 else if b < a then 1 else 0
set_option maxRecDepth 100000 in
theorem compare_any (a b : Int) (w : World) :
    Calls Tryz.prog 44 #[.int .i64 a, .int .i64 b] w (fun e w' => e = .returned (.int .i64 (cmpI a b)) ∧ w' = w) := by
  go_enter Tryz.func44, Tryz.ntmps44
  go_wp2
  all_goals (go_ret; exact ⟨ret_int (by unfold cmpI; first | omega | (split <;> first | omega | (split <;> omega))), rfl⟩)
/-- the first that is not 0 -/
def orI (l : List Int) : Int := (l.find? (fun x => x != 0)).getD 0
theorem orI_hit (l : List Int) (k : Nat) (x : Int) (h0 : ∀ (j : Nat) y, j < k → l[j]? = some y → y = 0) (hk : l[k]? = some x) (hx : x ≠ 0) : orI l = x := by
  induction l generalizing k with
  | nil => simp at hk
  | cons y l ih =>
    cases k with
    | zero => simp at hk; subst hk; simp [orI, hx]
    | succ k =>
      have hy : y = 0 := h0 0 y (by omega) (by simp)
      subst hy
      have := ih k (fun j z hj hz => h0 (j + 1) z (by omega) (by simpa using hz)) (by simpa using hk)
      simpa [orI] using this
theorem orI_none (l : List Int) (h0 : ∀ (j : Nat) y, l[j]? = some y → y = 0) : orI l = 0 := by
  induction l with
  | nil => rfl
  | cons y l ih =>
    have hy : y = 0 := h0 0 y (by simp)
    subst hy
    have := ih (fun j z hz => h0 (j + 1) z (by simpa using hz))
    simpa [orI] using this
set_option maxRecDepth 100000 in
theorem or_any (l : List Int) (v : Value) (w : World) (hr : Reads w v l.length 1 (l.map (Value.int .i64))) (hm : l.length ≤ 1000000000) :
    Calls Tryz.prog 43 #[v] w (fun e w' => e = .returned (.int .i64 (orI l)) ∧ w' = w) := by
  obtain ⟨_, ad, c, rfl, hr⟩ := hr
  generalize hn : l.length = n at *
  have hn' : Hid (l.length = n) := hn
  clear hn
  go_enter Tryz.func43, Tryz.ntmps43
  go_wp2
  go_loop [8] (fun i => ∃ k : Nat, k ≤ n ∧ i = .int .i64 k ∧ Hid (∀ j y, j < k → l[j]? = some y → y = 0)) (fun i => n - (intOf i).toNat)
  case atStart => exact ⟨0, Nat.zero_le _, rfl, fun j y h => by omega⟩
  case round =>
    obtain ⟨k, hk, rfl, h0⟩ := hrel
    by_cases hlt : k < n
    · obtain ⟨b, off, rfl, hc⟩ := hr (by omega)
      obtain ⟨x, hx⟩ : ∃ s, l[k]? = some s := ⟨l[k]'(by rw [hn'.out]; exact hlt), by simp [hn'.out, hlt]⟩
      have hc1 := hc k _ (by rw [List.getElem?_map, hx]; rfl)
      clear hc hr
      have hx' : Hid (l[k]? = some x) := hx
      clear hx
      by_cases hz : x = 0
      · subst hz
        go_wp2
        go_round
        case rel => exact ⟨k + 1, by omega, by go_num, fun j y hj hy => by
          by_cases hjk : j = k
          · subst hjk; rw [hx'.out] at hy; cases hy; rfl
          · exact h0 j y (by omega) hy⟩
        case measure => simp [intOf]; omega
      · have hz' : (x != 0) = true := by simpa using hz
        go_wp2
        go_ret
        exact ⟨ret_int (orI_hit l k x h0.out hx'.out hz).symm, rfl⟩
    · go_wp2
      go_ret
      exact ⟨ret_int (orI_none l (fun j y hy => h0 j y (by
        have := (List.getElem?_eq_some_iff.1 hy).1
        rw [hn'.out] at this; omega) hy)).symm, rfl⟩
def cmpE (a b : Edg) : Int := orI [cmpI a.fr b.fr, cmpI a.lab b.lab, cmpI a.to b.to]
def cmpB (a b : Edg) : Int := orI [cmpI a.to b.to, cmpI a.lab b.lab, cmpI a.fr b.fr]
/-- a region that draws its order, its world under a name -/
theorem wp_still_tail {P : Program} {id : Nat} {Q : Exit → Act → World → Prop} {a : Act} {w : World} {l : List Oper} (n : Nat) (hm : P.follows .mixedOrders = true) (hB : Region.lexTailB .any l.toArray n = true)
    (h : ∀ W, W = w.drew → wpStill P l.toArray W (fun a' => wpList P l.toArray Q (l.drop n) a' W) (l.take n) a) : (Code.region id l.toArray true).wp P Q a w :=
  wp_region_still_tail n hm hB (h _ rfl)
theorem cells3 {W : World} {g : Nat} {cur : Array Value} {e : TypeId} {x : Nat × Nat} (h : W.heap[g]? = some (.cells cur e x)) (j : Nat) : W.cell? ⟨g, j, none⟩ = cur[j]? := by
  simp [World.cell?, h]
theorem grow_below (w : World) (q : Nat) (os : Array Obj) : Below w.heap.size w (Sort.grow (w.drewN q) os) :=
  ⟨rfl, rfl, rfl, by simp [Sort.grow, World.drewN], fun k hk => by
    show (w.heap ++ os)[k]? = _
    rw [Array.getElem?_append_left hk]⟩
set_option maxRecDepth 100000 in
set_option maxHeartbeats 400000 in
theorem orderE (f1 l1 t1 f2 l2 t2 : Int) (w : World) :
    Calls Tryz.prog 110 #[.agg #[.int .i64 f1, .int .i64 l1, .int .i64 t1], .agg #[.int .i64 f2, .int .i64 l2, .int .i64 t2]] w (fun e w' => e = .returned (.int .i64 (cmpE ⟨f1, l1, t1⟩ ⟨f2, l2, t2⟩)) ∧ ∃ q os, w' = Sort.grow (w.drewN q) os) := by
  go_enter Tryz.func110, Tryz.ntmps110
  go_wp2
  refine wp_still_tail 15 (by kernel_rfl) (by kernel_rfl) (fun W hW => ?_)
  have hg : ∃ os, W = Sort.grow (w.drewN 1) os := ⟨_, by rw [hW, Sort.alloc_eq_grow, Sort.alloc_eq_grow, Sort.grow_grow]; rfl⟩
  have hg' : Hid (∃ os, W = Sort.grow (w.drewN 1) os) := hg
  have a1 : W.cell? ⟨w.heap.size, 0, none⟩ = some (.int .i64 f1) := by rw [hW]; go_simp
  have a2 : W.cell? ⟨w.heap.size, 1, none⟩ = some (.int .i64 l1) := by rw [hW]; go_simp
  have a3 : W.cell? ⟨w.heap.size, 2, none⟩ = some (.int .i64 t1) := by rw [hW]; go_simp
  have b1 : W.cell? ⟨w.heap.size + 1, 0, none⟩ = some (.int .i64 f2) := by rw [hW]; go_simp
  have b2 : W.cell? ⟨w.heap.size + 1, 1, none⟩ = some (.int .i64 l2) := by rw [hW]; go_simp
  have b3 : W.cell? ⟨w.heap.size + 1, 2, none⟩ = some (.int .i64 t2) := by rw [hW]; go_simp
  clear hW hg
  simp only [List.take_succ_cons, List.take_zero, List.drop_succ_cons, List.drop_zero]
  repeat still_step
  still_call (compare_any _ _ _)
  repeat still_step
  still_call (compare_any _ _ _)
  repeat still_step
  still_call (compare_any _ _ _)
  repeat still_step
  refine wpStill_nil ?_
  go_wp2_with fail
  refine (or_any [cmpI f1 f2, cmpI l1 l2, cmpI t1 t2] _ _ (Reads.new W _ _ 3 1 3 (by simp)) (by simp)).mono ?_
  rintro e w' ⟨rfl, rfl⟩
  go_wp2
  go_ret
  obtain ⟨os, h⟩ := hg'.out
  exact ⟨rfl, 1, _, by rw [Sort.alloc_eq_grow, h, Sort.grow_grow]⟩
set_option maxRecDepth 100000 in
set_option maxHeartbeats 400000 in
theorem orderB (f1 l1 t1 f2 l2 t2 : Int) (w : World) :
    Calls Tryz.prog 42 #[.agg #[.int .i64 f1, .int .i64 l1, .int .i64 t1], .agg #[.int .i64 f2, .int .i64 l2, .int .i64 t2]] w (fun e w' => e = .returned (.int .i64 (cmpB ⟨f1, l1, t1⟩ ⟨f2, l2, t2⟩)) ∧ ∃ q os, w' = Sort.grow (w.drewN q) os) := by
  go_enter Tryz.func42, Tryz.ntmps42
  go_wp2
  refine wp_still_tail 15 (by kernel_rfl) (by kernel_rfl) (fun W hW => ?_)
  have hg : ∃ os, W = Sort.grow (w.drewN 1) os := ⟨_, by rw [hW, Sort.alloc_eq_grow, Sort.alloc_eq_grow, Sort.grow_grow]; rfl⟩
  have hg' : Hid (∃ os, W = Sort.grow (w.drewN 1) os) := hg
  have a1 : W.cell? ⟨w.heap.size, 0, none⟩ = some (.int .i64 f1) := by rw [hW]; go_simp
  have a2 : W.cell? ⟨w.heap.size, 1, none⟩ = some (.int .i64 l1) := by rw [hW]; go_simp
  have a3 : W.cell? ⟨w.heap.size, 2, none⟩ = some (.int .i64 t1) := by rw [hW]; go_simp
  have b1 : W.cell? ⟨w.heap.size + 1, 0, none⟩ = some (.int .i64 f2) := by rw [hW]; go_simp
  have b2 : W.cell? ⟨w.heap.size + 1, 1, none⟩ = some (.int .i64 l2) := by rw [hW]; go_simp
  have b3 : W.cell? ⟨w.heap.size + 1, 2, none⟩ = some (.int .i64 t2) := by rw [hW]; go_simp
  clear hW hg
  simp only [List.take_succ_cons, List.take_zero, List.drop_succ_cons, List.drop_zero]
  repeat still_step
  still_call (compare_any _ _ _)
  repeat still_step
  still_call (compare_any _ _ _)
  repeat still_step
  still_call (compare_any _ _ _)
  repeat still_step
  refine wpStill_nil ?_
  go_wp2_with fail
  refine (or_any [cmpI t1 t2, cmpI l1 l2, cmpI f1 f2] _ _ (Reads.new W _ _ 3 1 3 (by simp)) (by simp)).mono ?_
  rintro e w' ⟨rfl, rfl⟩
  go_wp2
  go_ret
  obtain ⟨os, h⟩ := hg'.out
  exact ⟨rfl, 1, _, by rw [Sort.alloc_eq_grow, h, Sort.grow_grow]⟩
set_option maxRecDepth 100000 in
theorem cloneE (v : Value) (n : Nat) (cs : List Value) (w : World) (hr : Reads w v n 3 cs) (h1 : ∀ u ∈ cs, u.oneCell' = true) (hn : n < 1099511627776) :
    Calls Tryz.prog 40 #[v] w (fun e w' => ∃ v', e = .returned v' ∧ Below w.heap.size w w' ∧ Owned w' w.heap.size 71 3 v' n cs) := by
  have hq := fun (w : World) (a : Option Addr) (n c : Nat) => Lib.run_eql_slice_nil (P := Tryz.prog) w 22 71 a n c 0 0 Tryz.underlying22
  obtain ⟨hl, ad, c, rfl, hc⟩ := hr
  cases ad with
  | none =>
    have h0 : n = 0 := by
      rcases Nat.eq_zero_or_pos n with h | h
      · exact h
      · obtain ⟨b, o, h, _⟩ := hc h; cases h
    subst h0
    have hcs : cs = [] := List.eq_nil_of_length_eq_zero (by simpa using hl)
    subst hcs
    go_enter Tryz.func40, Tryz.ntmps40
    go_wp2
    go_ret
    exact ⟨_, rfl, Below.refl _ _, Owned.nil _ _ _ _ _⟩
  | some a0 =>
    have hr : Reads w (.slice (some a0) n c) n 3 cs := ⟨hl, _, _, rfl, hc⟩
    clear hc hl
    go_enter Tryz.func40, Tryz.ntmps40
    go_wp2_with (first | (at_builtin; refine appn22 rfl rfl _ _ rfl w.heap.size _ 0 [] rfl (Owned.nil _ _ _ _ _) _ n cs rfl (hr.ext (by simpa using (Below.refl w.heap.size w).alloc (Nat.le_refl _) _)) h1 (by omega) (by simp <;> omega) ?_))
    intro v' w1 hown hg _
    go_wp2
    go_ret
    exact ⟨_, rfl, ((Below.refl _ _).alloc (Nat.le_refl _) _).grown hg (by simp) (fun q hq => by simp [myBlock] at hq), hown⟩
set_option maxRecDepth 100000 in
theorem cloneS (v : Value) (n : Nat) (cs : List Value) (w : World) (hr : Reads w v n 2 cs) (h1 : ∀ u ∈ cs, u.oneCell' = true) (hn : n < 1099511627776) :
    Calls Tryz.prog 47 #[v] w (fun e w' => ∃ v', e = .returned v' ∧ Below w.heap.size w w' ∧ Owned w' w.heap.size 85 2 v' n cs) := by
  have hq := fun (w : World) (a : Option Addr) (n c : Nat) => Lib.run_eql_slice_nil (P := Tryz.prog) w 46 85 a n c 0 0 Tryz.underlying46
  obtain ⟨hl, ad, c, rfl, hc⟩ := hr
  cases ad with
  | none =>
    have h0 : n = 0 := by
      rcases Nat.eq_zero_or_pos n with h | h
      · exact h
      · obtain ⟨b, o, h, _⟩ := hc h; cases h
    subst h0
    have hcs : cs = [] := List.eq_nil_of_length_eq_zero (by simpa using hl)
    subst hcs
    go_enter Tryz.func47, Tryz.ntmps47
    go_wp2
    go_ret
    exact ⟨_, rfl, Below.refl _ _, Owned.nil _ _ _ _ _⟩
  | some a0 =>
    have hr : Reads w (.slice (some a0) n c) n 2 cs := ⟨hl, _, _, rfl, hc⟩
    clear hc hl
    go_enter Tryz.func47, Tryz.ntmps47
    go_wp2_with (first | (at_builtin; refine appn46 rfl rfl _ _ rfl w.heap.size _ 0 [] rfl (Owned.nil _ _ _ _ _) _ n cs rfl (hr.ext (by simpa using (Below.refl w.heap.size w).alloc (Nat.le_refl _) _)) h1 (by omega) (by simp <;> omega) ?_))
    intro v' w1 hown hg _
    go_wp2
    go_ret
    exact ⟨_, rfl, ((Below.refl _ _).alloc (Nat.le_refl _) _).grown hg (by simp) (fun q hq => by simp [myBlock] at hq), hown⟩
end Go.Proofs.YtkknklagoghljaaGreatDoor
