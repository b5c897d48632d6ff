/- The book in memory, and one more list. -/
import Derived.Test.YtkknklagoghljaaGreatDoorBook2
namespace Go.Proofs.YtkknklagoghljaaGreatDoor
open Go.RowKit
structure Lst where
  v : Value
  n : Nat
  cs : List Value
def upd {α : Type} (f : Nat → α) (j : Nat) (x : α) : Nat → α := fun i => if i = j then x else f i
theorem upd_same {α : Type} (f : Nat → α) (j : Nat) (x : α) : upd f j x j = x := by simp [upd]
theorem upd_other {α : Type} (f : Nat → α) {i j : Nat} (x : α) (h : i ≠ j) : upd f j x i = f i := by simp [upd, h]
def HT (j : Nat) : TypeId := if j / 2 = 0 then 49 else if j / 2 = 4 then 46 else if j / 2 = 5 then 22 else 0
def ET (j : Nat) : TypeId := if j / 2 = 0 then 3 else if j / 2 = 4 then 85 else if j / 2 = 5 then 71 else 0
def EK (j : Nat) : Nat := if j / 2 = 4 then 2 else if j / 2 = 5 then 3 else 1
structure BookMem (w : World) (bk B : Nat) (hv : Nat → Value) (ls : Nat → List Lst) : Prop where
  base : B ≤ bk
  row : Row w bk 44 ((List.range 22).map hv)
  hdr : ∀ j, Owned w B (HT j) 1 (hv j) (ls j).length ((ls j).map Lst.v)
  itm : ∀ j x, x ∈ ls j → Owned w B (ET j) (EK j) x.v x.n x.cs
  s1 : ∀ j, myBlock (hv j) ≠ some bk
  s2 : ∀ j x, x ∈ ls j → myBlock x.v ≠ some bk
  s3 : ∀ j j' q, myBlock (hv j) = some q → myBlock (hv j') = some q → j = j'
  s4 : ∀ j j' x q, x ∈ ls j' → myBlock (hv j) = some q → myBlock x.v ≠ some q
  s5 : ∀ (j j' i i' : Nat) (x x' : Lst) (q : Nat), (ls j)[i]? = some x → (ls j')[i']? = some x' → myBlock x.v = some q → myBlock x'.v = some q → j = j' ∧ i = i'
/-- A block that is none of the book's. -/
def Apt (bk : Nat) (hv : Nat → Value) (ls : Nat → List Lst) (q : Nat) : Prop := q ≠ bk ∧ (∀ j, myBlock (hv j) ≠ some q) ∧ ∀ j x, x ∈ ls j → myBlock x.v ≠ some q
structure BookStep (w : World) (bk : Nat) (hv : Nat → Value) (w' : World) (hv' : Nat → Value) : Prop where
  os : w'.os = w.os
  tape : w'.tape = w.tape
  output : w'.output = w.output
  size : w.heap.size ≤ w'.heap.size
  kept : ∀ q, q < w.heap.size → q ≠ bk → (∀ j, myBlock (hv j) ≠ some q) → w'.heap[q]? = w.heap[q]?
  hdrs : ∀ j q, myBlock (hv' j) = some q → myBlock (hv j) = some q ∨ w.heap.size ≤ q
theorem BookStep.refl (w : World) (bk : Nat) (hv : Nat → Value) : BookStep w bk hv w hv := ⟨rfl, rfl, rfl, Nat.le_refl _, fun _ _ _ _ => rfl, fun _ _ h => .inl h⟩
theorem BookStep.trans {w w1 w2 : World} {bk : Nat} {hv hv1 hv2 : Nat → Value} (h : BookStep w bk hv w1 hv1) (h2 : BookStep w1 bk hv1 w2 hv2) : BookStep w bk hv w2 hv2 := by
  refine ⟨h2.os.trans h.os, h2.tape.trans h.tape, h2.output.trans h.output, Nat.le_trans h.size h2.size, fun q hq h0 hn => ?_, fun j q hj => ?_⟩
  · have hs := h.size
    refine (h2.kept q (by omega) h0 fun j hj => ?_).trans (h.kept q hq h0 hn)
    rcases h.hdrs j q hj with h' | h'
    · exact hn j h'
    · omega
  · rcases h2.hdrs j q hj with h' | h'
    · exact h.hdrs j q h'
    · have := h.size; exact .inr (by omega)
theorem BookStep.ofBelow {w w' : World} {bk : Nat} {hv : Nat → Value} (h : Below w.heap.size w w') : BookStep w bk hv w' hv := ⟨h.os, h.tape, h.output, h.size, fun q hq _ _ => h.block q hq, fun _ _ h => .inl h⟩
theorem BookMem.ext {w w' : World} {bk B : Nat} {hv : Nat → Value} {ls : Nat → List Lst} (h : BookMem w bk B hv ls) (hb : Below w.heap.size w w') : BookMem w' bk B hv ls :=
  ⟨h.base, h.row.ext hb, fun j => (h.hdr j).ext hb, fun j x hx => (h.itm j x hx).ext hb, h.s1, h.s2, h.s3, h.s4, h.s5⟩
theorem BookMem.cell {w : World} {bk B : Nat} {hv : Nat → Value} {ls : Nat → List Lst} (h : BookMem w bk B hv ls) {j : Nat} (hj : j < 22) : w.cell? ⟨bk, j, none⟩ = some (hv j) := by
  rw [h.row.cell j, List.getElem?_map, List.getElem?_range hj]; rfl
theorem BookMem.free {w : World} {bk B : Nat} {hv : Nat → Value} {ls : Nat → List Lst} (h : BookMem w bk B hv ls) (j : Nat) : w.frozen? ⟨bk, j, none⟩ = false := h.row.free j
theorem BookMem.lt {w : World} {bk B : Nat} {hv : Nat → Value} {ls : Nat → List Lst} (h : BookMem w bk B hv ls) : bk < w.heap.size := h.row.lt
theorem BookMem.fresh {w : World} {bk B : Nat} {hv : Nat → Value} {ls : Nat → List Lst} (h : BookMem w bk B hv ls) {q : Nat} (hq : w.heap.size ≤ q) : Apt bk hv ls q := by
  refine ⟨by have := h.lt; omega, fun j hj => ?_, fun j x hx hj => ?_⟩
  · have := ((h.hdr j).lt hj).2; omega
  · have := ((h.itm j x hx).lt hj).2; omega
theorem range_upd (hv : Nat → Value) (j : Nat) (v : Value) (n : Nat) : ((List.range n).map hv).set j v = (List.range n).map (upd hv j v) := by
  apply List.ext_getElem?
  intro i
  rw [List.getElem?_set]
  by_cases hi : i < n
  · rw [List.getElem?_map, List.getElem?_map, List.getElem?_range hi]
    by_cases hij : j = i
    · subst hij; simp [upd, hi]
    · rw [if_neg hij]; simp [upd, show i ≠ j from fun e => hij e.symm]
  · by_cases hij : j = i
    · subst hij; simp [hi]
    · rw [if_neg hij]; simp [List.getElem?_map, hi]
theorem BookStep.below {w w' : World} {bk B : Nat} {hv hv' : Nat → Value} {ls : Nat → List Lst} (h : BookStep w bk hv w' hv') (hM : BookMem w bk B hv ls) : Below B w w' := by
  have h1 := hM.lt
  have h2 := hM.base
  refine ⟨h.os, h.tape, h.output, h.size, fun q hq => h.kept q (by omega) (by omega) fun j hj => ?_⟩
  have := ((hM.hdr j).lt hj).1
  omega
/-- An item's cells written over. -/
theorem BookMem.put {w w' : World} {bk B : Nat} {hv : Nat → Value} {ls : Nat → List Lst} (h : BookMem w bk B hv ls) (j i : Nat) (x : Lst) (hx : (ls j)[i]? = some x) (cs' : List Value)
    (ho : Owned w' B (ET j) (EK j) x.v x.n cs') (hk : ∀ q, q < w.heap.size → myBlock x.v ≠ some q → w'.heap[q]? = w.heap[q]?) : BookMem w' bk B hv (upd ls j ((ls j).set i ⟨x.v, x.n, cs'⟩)) := by
  have hmem := List.mem_of_getElem? hx
  have hkey : ∀ i' a y, (upd ls j ((ls j).set i ⟨x.v, x.n, cs'⟩) i')[a]? = some y → ∃ y', (ls i')[a]? = some y' ∧ y'.v = y.v ∧ ((i' = j ∧ a = i ∧ y = ⟨x.v, x.n, cs'⟩) ∨ y' = y ∧ ¬ (i' = j ∧ a = i)) := by
    intro i' a y hy
    by_cases hi : i' = j
    · subst hi
      rw [upd_same, List.getElem?_set] at hy
      by_cases ha : i = a
      · subst ha
        rw [if_pos rfl] at hy
        split at hy
        · injection hy with hy; subst hy; exact ⟨x, hx, rfl, .inl ⟨rfl, rfl, rfl⟩⟩
        · cases hy
      · rw [if_neg ha] at hy; exact ⟨y, hy, rfl, .inr ⟨rfl, fun e => ha e.2.symm⟩⟩
    · rw [upd_other _ _ hi] at hy; exact ⟨y, hy, rfl, .inr ⟨rfl, fun e => hi e.1⟩⟩
  have hmk : ∀ i' y, y ∈ upd ls j ((ls j).set i ⟨x.v, x.n, cs'⟩) i' → ∃ y', y' ∈ ls i' ∧ y'.v = y.v := by
    intro i' y hy
    obtain ⟨a, ha⟩ := List.getElem?_of_mem hy
    obtain ⟨y', h1, h2, _⟩ := hkey i' a y ha
    exact ⟨y', List.mem_of_getElem? h1, h2⟩
  refine ⟨h.base, ?_, ?_, ?_, h.s1, ?_, h.s3, ?_, ?_⟩
  · exact h.row.same (hk bk h.lt (h.s2 j x hmem))
  · intro i'
    have hl : (upd ls j ((ls j).set i ⟨x.v, x.n, cs'⟩) i').length = (ls i').length ∧ (upd ls j ((ls j).set i ⟨x.v, x.n, cs'⟩) i').map Lst.v = (ls i').map Lst.v := by
      by_cases hi : i' = j
      · subst hi
        rw [upd_same]
        refine ⟨by simp, ?_⟩
        rw [List.map_set]
        apply List.ext_getElem?
        intro a
        rw [List.getElem?_set]
        by_cases ha : i = a
        · subst ha; rw [if_pos rfl, List.getElem?_map, hx]; simp [(List.getElem?_eq_some_iff.1 hx).1]
        · rw [if_neg ha]
      · rw [upd_other _ _ hi]; exact ⟨rfl, rfl⟩
    rw [hl.1, hl.2]
    exact (h.hdr i').kept fun q hq => hk q ((h.hdr i').lt hq).2 (h.s4 i' j x q hmem hq)
  · intro i' y hy
    obtain ⟨a, ha⟩ := List.getElem?_of_mem hy
    obtain ⟨y', h1, h2, h3 | h3⟩ := hkey i' a y ha
    · obtain ⟨rfl, rfl, rfl⟩ := h3; exact ho
    · obtain ⟨rfl, hne⟩ := h3
      refine (h.itm i' y' (List.mem_of_getElem? h1)).kept fun q hq => hk q ((h.itm i' y' (List.mem_of_getElem? h1)).lt hq).2 fun e => ?_
      obtain ⟨rfl, rfl⟩ := h.s5 i' j a i y' x q h1 hx hq e
      exact hne ⟨rfl, rfl⟩
  · intro i' y hy
    obtain ⟨y', h1, h2⟩ := hmk i' y hy
    rw [← h2]; exact h.s2 i' y' h1
  · intro j1 i' y q hy h1
    obtain ⟨y', h3, h2⟩ := hmk i' y hy
    rw [← h2]; exact h.s4 j1 i' y' q h3 h1
  · intro j1 j2 a1 a2 y1 y2 q h1 h2 m1 m2
    obtain ⟨z1, p1, p2, _⟩ := hkey j1 a1 y1 h1
    obtain ⟨z2, q1, q2, _⟩ := hkey j2 a2 y2 h2
    exact h.s5 j1 j2 a1 a2 z1 z2 q p1 q1 (by rw [p2]; exact m1) (by rw [q2]; exact m2)
/-- One more list at a header that has grown. -/
theorem BookMem.add {w w1 : World} {bk B : Nat} {hv : Nat → Value} {ls : Nat → List Lst} (h : BookMem w bk B hv ls) (j : Nat) (v' : Value) (x : Lst)
    (ho : Owned w1 B (HT j) 1 v' ((ls j).length + 1) ((ls j).map Lst.v ++ [x.v])) (hg : w.grownBy w1 (myBlock (hv j))) (hm : myBlock v' = myBlock (hv j) ∨ ∃ g', myBlock v' = some g' ∧ w.heap.size ≤ g')
    (hx : Owned w B (ET j) (EK j) x.v x.n x.cs) (hf : ∀ q, myBlock x.v = some q → Apt bk hv ls q) :
    BookMem (w1.setCell ⟨bk, j, none⟩ v') bk B (upd hv j v') (upd ls j (ls j ++ [x])) ∧ BookStep w bk hv (w1.setCell ⟨bk, j, none⟩ v') (upd hv j v') := by
  have hsz := hg.size
  have hlt := h.lt
  have hvb : ∀ q, myBlock v' = some q → q ≠ bk := by
    intro q hq hb
    rcases hm with hm | ⟨g', hm, hle⟩
    · exact h.s1 j (by rw [← hm, hq, hb])
    · rw [hm] at hq; injection hq with hq; omega
  have hvi : ∀ q, myBlock v' = some q → myBlock (hv j) = some q ∨ w.heap.size ≤ q := by
    intro q hq
    rcases hm with hm | ⟨g', hm, hle⟩
    · exact .inl (by rw [← hm, hq])
    · rw [hm] at hq; injection hq with hq; exact .inr (by omega)
  -- what is kept
  have hk : ∀ q, q < w.heap.size → q ≠ bk → myBlock (hv j) ≠ some q → (w1.setCell ⟨bk, j, none⟩ v').heap[q]? = w.heap[q]? := fun q hq h0 hn =>
    (Below.heap_setCell _ _ _ _ h0).trans (hg.block q hq (fun e => hn e.symm))
  refine ⟨⟨h.base, ?_, ?_, ?_, ?_, ?_, ?_, ?_, ?_⟩, ⟨hg.os, hg.tape, hg.output, by simpa using hsz, fun q hq h0 hn => hk q hq h0 (hn j), ?_⟩⟩
  · rw [← range_upd]; exact (h.row.grown hg (h.s1 j)).set j v'
  · intro i
    by_cases hi : i = j
    · subst hi
      rw [upd_same, upd_same, List.length_append, List.map_append]
      exact ho.kept fun q hq => Below.heap_setCell _ _ _ _ (hvb q hq)
    · rw [upd_other _ _ hi, upd_other _ _ hi]
      exact (h.hdr i).kept fun q hq => hk q ((h.hdr i).lt hq).2 (fun e => h.s1 i (by rw [hq, e])) (fun e => hi (h.s3 i j q hq e))
  · intro i y hy
    by_cases hi : i = j
    · subst hi
      rw [upd_same, List.mem_append, List.mem_singleton] at hy
      rcases hy with hy | rfl
      · exact (h.itm i y hy).kept fun q hq => hk q ((h.itm i y hy).lt hq).2 (fun e => h.s2 i y hy (by rw [hq, e])) (fun e => h.s4 i i y q hy e hq)
      · exact hx.kept fun q hq => hk q (hx.lt hq).2 (hf q hq).1 ((hf q hq).2.1 i)
    · rw [upd_other _ _ hi] at hy
      exact (h.itm i y hy).kept fun q hq => hk q ((h.itm i y hy).lt hq).2 (fun e => h.s2 i y hy (by rw [hq, e])) (fun e => h.s4 j i y q hy e hq)
  · intro i
    by_cases hi : i = j
    · subst hi; rw [upd_same]; exact fun e => hvb _ e rfl
    · rw [upd_other _ _ hi]; exact h.s1 i
  · intro i y hy
    by_cases hi : i = j
    · subst hi
      rw [upd_same, List.mem_append, List.mem_singleton] at hy
      rcases hy with hy | rfl
      · exact h.s2 i y hy
      · exact fun e => (hf _ e).1 rfl
    · rw [upd_other _ _ hi] at hy; exact h.s2 i y hy
  · intro i i' q h1 h2
    by_cases hi : i = j
    · subst hi
      by_cases hi' : i' = i
      · exact hi'.symm
      · rw [upd_same] at h1
        rw [upd_other _ _ hi'] at h2
        rcases hvi q h1 with h' | h'
        · exact h.s3 i i' q h' h2
        · have := ((h.hdr i').lt h2).2; omega
    · rw [upd_other _ _ hi] at h1
      by_cases hi' : i' = j
      · subst hi'
        rw [upd_same] at h2
        rcases hvi q h2 with h' | h'
        · exact h.s3 i i' q h1 h'
        · have := ((h.hdr i).lt h1).2; omega
      · rw [upd_other _ _ hi'] at h2
        exact h.s3 i i' q h1 h2
  · intro i i' y q hy h1 h2
    have hy' : y ∈ ls i' ∨ y = x := by
      by_cases hi' : i' = j
      · subst hi'
        rw [upd_same, List.mem_append, List.mem_singleton] at hy
        exact hy
      · rw [upd_other _ _ hi'] at hy; exact .inl hy
    have hlt2 : q < w.heap.size := by
      rcases hy' with hy' | rfl
      · exact ((h.itm i' y hy').lt h2).2
      · exact (hx.lt h2).2
    have h1' : ∃ i0, myBlock (hv i0) = some q := by
      by_cases hi : i = j
      · subst hi
        rw [upd_same] at h1
        rcases hvi q h1 with h' | h'
        · exact ⟨_, h'⟩
        · omega
      · rw [upd_other _ _ hi] at h1; exact ⟨_, h1⟩
    obtain ⟨i0, h1'⟩ := h1'
    rcases hy' with hy' | rfl
    · exact h.s4 i0 i' y q hy' h1' h2
    · exact (hf q h2).2.1 i0 h1'
  · intro i i' a a' y y' q hy hy' h1 h2
    have key : ∀ i a y, (upd ls j (ls j ++ [x]) i)[a]? = some y → (ls i)[a]? = some y ∨ (i = j ∧ a = (ls j).length ∧ y = x) := by
      intro i a y hy
      by_cases hi : i = j
      · subst hi
        rw [upd_same] at hy
        rcases Nat.lt_trichotomy a (ls i).length with h | h | h
        · rw [List.getElem?_append_left h] at hy; exact .inl hy
        · subst h; rw [List.getElem?_append_right (Nat.le_refl _)] at hy; simp at hy; exact .inr ⟨rfl, rfl, hy.symm⟩
        · rw [List.getElem?_eq_none (by simp; omega)] at hy; cases hy
      · rw [upd_other _ _ hi] at hy; exact .inl hy
    rcases key i a y hy with k1 | ⟨rfl, rfl, rfl⟩
    · rcases key i' a' y' hy' with k2 | ⟨rfl, rfl, rfl⟩
      · exact h.s5 i i' a a' y y' q k1 k2 h1 h2
      · exact absurd h1 ((hf q h2).2.2 i y (List.mem_of_getElem? k1))
    · rcases key i' a' y' hy' with k2 | ⟨rfl, rfl, rfl⟩
      · exact absurd h2 ((hf q h1).2.2 i' y' (List.mem_of_getElem? k2))
      · exact ⟨rfl, rfl⟩
  · intro i q hq
    by_cases hi : i = j
    · subst hi; rw [upd_same] at hq; exact hvi q hq
    · rw [upd_other _ _ hi] at hq; exact .inl hq
end Go.Proofs.YtkknklagoghljaaGreatDoor
