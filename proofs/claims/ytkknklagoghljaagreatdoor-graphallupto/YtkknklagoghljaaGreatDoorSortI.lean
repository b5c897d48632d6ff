/- slices.Sort at ints. -/
import Derived.Test.YtkknklagoghljaaGreatDoorSort
import Derived.Test.YtkknklagoghljaaGreatDoorBook1
import Derived.Shelf.Sort.Plain
import Derived.Shelf.Slices.In.SortNone
namespace Go.Proofs.YtkknklagoghljaaGreatDoor
open Go.RowKit Go.Shelf Go.Sort Go.Lib
open Go.RowKit (Below)
theorem Row.holdsI {w : World} {g : Nat} {e : TypeId} {l : List Int} {rest : List Value} (h : Row w g e (l.map (Value.int .i64) ++ rest)) : Holds (Value.int .i64) w g 0 l.toArray := by
  intro j hj
  have hj' : j < l.length := by simpa using hj
  refine ⟨?_, by rw [Nat.zero_add]; exact h.free j⟩
  rw [Nat.zero_add, h.cell, List.getElem?_append_left (by simpa using hj'), List.getElem?_map, List.getElem?_eq_getElem hj']
  simp [getElem!_pos l.toArray j hj]
theorem putI_row {w : World} {g : Nat} {e : TypeId} {l : List Int} {rest : List Value} (h : Row w g e (l.map (Value.int .i64) ++ rest)) (n : Nat) (d : List Int) (hd : d.length = l.length) (os : Array Obj) :
    Row (grow (putRow (Value.int .i64) (Sort.ahead w n) g 0 d.toArray) os) g e (d.map (Value.int .i64) ++ rest) ∧ w.grownBy (grow (putRow (Value.int .i64) (Sort.ahead w n) g 0 d.toArray) os) (some g) := by
  have hlt := h.lt
  constructor
  · unfold Row grow putRow mapBlock
    simp only
    rw [Array.getElem?_append_left (by simp only [Array.size_modify]; exact hlt), Array.getElem?_modify, if_pos rfl]
    show Option.map _ w.heap[g]? = _
    unfold Row at h
    rw [h]
    simp only [Option.map_some, onCells, Option.some.injEq, Obj.cells.injEq, and_true]
    apply Array.ext_getElem?
    intro j
    simp only [putCells, Array.getElem?_mapIdx, Nat.zero_le, true_and, Nat.zero_add, Nat.sub_zero, List.getElem?_toArray, List.size_toArray]
    by_cases hj : j < d.length
    · have : j < (l.map (Value.int .i64) ++ rest).length := by simp; omega
      rw [List.getElem?_eq_getElem this, List.getElem?_append_left (by simpa using hj), List.getElem?_map, List.getElem?_eq_getElem hj]
      simp [hj]
    · have hjl : ¬ j < l.length := by rw [← hd]; exact hj
      rw [List.getElem?_append_right (by simp; omega), List.getElem?_append_right (by simp; omega), List.length_map, List.length_map, hd]
      cases rest[j - l.length]? <;> simp [hjl]
  · refine ⟨rfl, rfl, rfl, by simp [grow, putRow, mapBlock, Sort.ahead], fun q hq hne => ?_⟩
    unfold grow putRow mapBlock
    simp only
    rw [Array.getElem?_append_left (by simp only [Array.size_modify]; exact hq), Array.getElem?_modify, if_neg (fun e => hne (by rw [e]))]
    rfl
def sortL (l : List Int) : List Int := l.mergeSort fun x y => decide (x ≤ y)
theorem sortI_any {w : World} {g : Nat} {e : TypeId} {l : List Int} {rest : List Value} (cap : Nat) (h : Row w g e (l.map (Value.int .i64) ++ rest)) (hn : l.length < 1099511627776) :
    Calls Tryz.prog 52 #[.slice (some ⟨g, 0, none⟩) l.length cap] w (fun r w' => r = .returned (.tuple #[]) ∧ w.grownBy w' (some g) ∧ Row w' g e ((sortL l).map (Value.int .i64) ++ rest)) := by
  refine (Any.slices_Sort_int Tryz.sortI g 0 cap l w h.holdsI h.lt (by omega)).mono ?_
  rintro r w' ⟨hr, n, os, rfl⟩
  have := putI_row h n (sortL l) (by simp [sortL, List.length_mergeSort]) os
  exact ⟨hr, this.2, this.1⟩
end Go.Proofs.YtkknklagoghljaaGreatDoor
