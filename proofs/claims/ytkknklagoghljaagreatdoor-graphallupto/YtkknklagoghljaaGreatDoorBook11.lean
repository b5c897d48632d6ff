/- After the growth: every list is marked, and the book's own lists too. -/
import Derived.Test.YtkknklagoghljaaGreatDoorBook10
namespace Go.Proofs.YtkknklagoghljaaGreatDoor
open Go.RowKit
open Go.RowKit (Below)
/-- What a kind's growth may change: its items' blocks alone. -/
def Fr (w w' : World) (l : List Lst) : Prop := ∀ q, q < w.heap.size → (∀ x ∈ l, myBlock x.v ≠ some q) → w'.heap[q]? = w.heap[q]?
def AllMarkedI (l : List Lst) : Prop := ∀ (a : Nat) (x : Lst), l[a]? = some x → x.cs = (marksI a 0 x.n).flatMap encI ∧ x.n < 100000000
/-- growth, at a world in which what it needs is as it was when the book was known whole. -/
theorem growBInts {w0 w : World} {bk B : Nat} {hv : Nat → Value} {ls : Nat → List Lst} (hM : BookMem w0 bk B hv ls) (hs : w0.heap.size ≤ w.heap.size) (hA : AllMarkedI (ls 0)) (hl : (ls 0).length ≤ 400)
    (hk : ∀ q, q < w0.heap.size → (q = bk ∨ (∃ j, myBlock (hv j) = some q) ∨ ∃ x ∈ ls 0, myBlock x.v = some q) → w.heap[q]? = w0.heap[q]?) :
    Calls Tryz.prog 77 #[.pointer (some ⟨bk, 0, none⟩)] w (fun e w' => ∃ v us, e = .returned v ∧ us.length = (ls 0).length ∧ Owned w' w.heap.size 49 1 v (ls 0).length us ∧ Below B w w' ∧ Fr w w' (ls 0) ∧ GrownI w w' B (ls 0) us) := by
  obtain ⟨ad, cap, hv1, hc, hr⟩ := hM.cellV (j := 0) (by decide)
  have hlt := hM.lt
  have hbk : w.heap[bk]? = w0.heap[bk]? := hk bk hlt (.inl rfl)
  refine (growI w bk B (ls 0) ad cap ((World.cell?_of_block (w := w0) (a := ⟨bk, 0, none⟩) hbk).trans hc) ?_ (by omega) hM.base ?_ ?_ ?_ ?_ ?_ hl).mono ?_
  · intro h0
    obtain ⟨b, o, he, hcl, hmb⟩ := hr h0
    exact ⟨b, o, he, hcl.same (hk b ((hM.hdr 0).lt hmb).2 (.inr (.inl ⟨_, hmb⟩)))⟩
  · intro x hx
    obtain ⟨a, ha⟩ := List.getElem?_of_mem hx
    exact ⟨(hM.itm 0 x hx).kept fun q hq => hk q ((hM.itm 0 x hx).lt hq).2 (.inr (.inr ⟨x, hx, hq⟩)), (hA a x ha).2⟩
  · exact fun a x hx => (hA a x hx).1
  · exact fun x hx => hM.s2 0 x hx
  · intro x hx b o he
    rcases Nat.eq_zero_or_pos (ls 0).length with h0 | h0
    · have := List.eq_nil_of_length_eq_zero h0; rw [this] at hx; cases hx
    · obtain ⟨b', o', he', _, hmb⟩ := hr h0
      rw [he] at he'; cases he'
      exact hM.s4 0 0 x b hx hmb
  · intro a a' x x' q h1 h2 h3 h4
    exact (hM.s5 0 0 a a' x x' q h1 h2 h3 h4).2
  · rintro e w' ⟨ad', cap', us, rfl, h1, h2, h3, h4, h5⟩
    exact ⟨_, us, rfl, h1, h2, h3, h4, h5⟩
/-- The out list and the book's own list, later on: both marked. -/
theorem marked_outI {w w' w'' : World} {B : Nat} {l : List Lst} {v : Value} {us : List Value} (hA : AllMarkedI l) (hl : l.length ≤ 400) (hul : us.length = l.length) (ho : Owned w' w.heap.size 49 1 v l.length us) (hG : GrownI w w' B l us)
    (hk : ∀ q, q < w'.heap.size → ((∃ x ∈ l, myBlock x.v = some q) ∨ w.heap.size ≤ q) → w''.heap[q]? = w'.heap[q]?) : MarkedAtI w'' v := by
  obtain ⟨ad, cap, rfl⟩ := ho.form
  refine ⟨ad, cap, us, by rw [hul], ?_, fun a u hu => ?_, by omega⟩
  · rw [hul]
    exact (ho.kept fun q hq => hk q (ho.lt hq).2 (.inr (ho.lt hq).1)).reads
  · obtain ⟨x, hx, h1, h2, _⟩ := hG a u hu
    refine ⟨x.n + 96, (h1.kept fun q hq => hk q (h1.lt hq).2 ?_).reads, by have := (hA a x hx).2; omega⟩
    rcases h2 q hq with h | h
    · exact .inl ⟨x, List.mem_of_getElem? hx, h⟩
    · exact .inr h
theorem marked_ownI {w0 w w' w'' : World} {bk B : Nat} {hv : Nat → Value} {ls : Nat → List Lst} (hM : BookMem w0 bk B hv ls) {us : List Value} (hA : AllMarkedI (ls 0)) (hl : (ls 0).length ≤ 400) (hul : us.length = (ls 0).length) (hG : GrownI w w' B (ls 0) us)
    (hs : w0.heap.size ≤ w'.heap.size) (hk1 : ∀ q, q < w0.heap.size → (∃ j, myBlock (hv j) = some q) → w''.heap[q]? = w0.heap[q]?)
    (hk : ∀ q, q < w'.heap.size → (∃ x ∈ ls 0, myBlock x.v = some q) → w''.heap[q]? = w'.heap[q]?) : MarkedAtI w'' (hv 0) := by
  have hH := (hM.hdr 0).kept (w' := w'') fun q hq => hk1 q ((hM.hdr 0).lt hq).2 ⟨_, hq⟩
  obtain ⟨ad, cap, hv1⟩ := hH.form
  refine ⟨ad, cap, (ls 0).map Lst.v, by rw [hv1, List.length_map], by rw [List.length_map]; exact hH.reads, fun a u hu => ?_, by rw [List.length_map]; exact hl⟩
  rw [List.getElem?_map] at hu
  obtain ⟨x, hx, rfl⟩ : ∃ x, (ls 0)[a]? = some x ∧ x.v = u := by
    cases h : (ls 0)[a]? with
    | none => rw [h] at hu; cases hu
    | some x => rw [h] at hu; exact ⟨x, rfl, Option.some.inj hu⟩
  have ha : a < us.length := by rw [hul]; exact (List.getElem?_eq_some_iff.1 hx).1
  obtain ⟨x', hx', _, _, hr⟩ := hG a us[a] (by simp [ha])
  rw [hx] at hx'
  cases hx'
  refine ⟨x.n, ?_, by have := (hA a x hx).2; omega⟩
  have := reads_kept (w' := w'') (hM.itm 0 x (List.mem_of_getElem? hx)) (cs := x.cs) hr fun q hq => hk q (by have := ((hM.itm 0 x (List.mem_of_getElem? hx)).lt hq).2; omega) ⟨x, List.mem_of_getElem? hx, hq⟩
  rw [(hA a x hx).1] at this
  exact this
theorem allMarkedI {l : List Lst} (h : TypedI l) : AllMarkedI (l.mapIdx markedI) := by
  intro a x hx
  rw [List.getElem?_mapIdx] at hx
  cases hy : l[a]? with
  | none => rw [hy] at hx; cases hx
  | some y =>
    rw [hy] at hx
    simp only [Option.map_some, Option.some.injEq] at hx
    subst hx
    obtain ⟨L, _, h2, h3⟩ := h y (List.mem_of_getElem? hy)
    exact ⟨rfl, by simp only [markedI]; omega⟩
def AllMarkedS (l : List Lst) : Prop := ∀ (a : Nat) (x : Lst), l[a]? = some x → x.cs = (marksS a 0 x.n).flatMap encS ∧ x.n < 100000000
/-- growth, at a world in which what it needs is as it was when the book was known whole. -/
theorem growBSteps {w0 w : World} {bk B : Nat} {hv : Nat → Value} {ls : Nat → List Lst} (hM : BookMem w0 bk B hv ls) (hs : w0.heap.size ≤ w.heap.size) (hA : AllMarkedS (ls 8)) (hl : (ls 8).length ≤ 400)
    (hk : ∀ q, q < w0.heap.size → (q = bk ∨ (∃ j, myBlock (hv j) = some q) ∨ ∃ x ∈ ls 8, myBlock x.v = some q) → w.heap[q]? = w0.heap[q]?) :
    Calls Tryz.prog 81 #[.pointer (some ⟨bk, 0, none⟩)] w (fun e w' => ∃ v us, e = .returned v ∧ us.length = (ls 8).length ∧ Owned w' w.heap.size 46 1 v (ls 8).length us ∧ Below B w w' ∧ Fr w w' (ls 8) ∧ GrownS w w' B (ls 8) us) := by
  obtain ⟨ad, cap, hv1, hc, hr⟩ := hM.cellV (j := 8) (by decide)
  have hlt := hM.lt
  have hbk : w.heap[bk]? = w0.heap[bk]? := hk bk hlt (.inl rfl)
  refine (growS w bk B (ls 8) ad cap ((World.cell?_of_block (w := w0) (a := ⟨bk, 8, none⟩) hbk).trans hc) ?_ (by omega) hM.base ?_ ?_ ?_ ?_ ?_ hl).mono ?_
  · intro h0
    obtain ⟨b, o, he, hcl, hmb⟩ := hr h0
    exact ⟨b, o, he, hcl.same (hk b ((hM.hdr 8).lt hmb).2 (.inr (.inl ⟨_, hmb⟩)))⟩
  · intro x hx
    obtain ⟨a, ha⟩ := List.getElem?_of_mem hx
    exact ⟨(hM.itm 8 x hx).kept fun q hq => hk q ((hM.itm 8 x hx).lt hq).2 (.inr (.inr ⟨x, hx, hq⟩)), (hA a x ha).2⟩
  · exact fun a x hx => (hA a x hx).1
  · exact fun x hx => hM.s2 8 x hx
  · intro x hx b o he
    rcases Nat.eq_zero_or_pos (ls 8).length with h0 | h0
    · have := List.eq_nil_of_length_eq_zero h0; rw [this] at hx; cases hx
    · obtain ⟨b', o', he', _, hmb⟩ := hr h0
      rw [he] at he'; cases he'
      exact hM.s4 8 8 x b hx hmb
  · intro a a' x x' q h1 h2 h3 h4
    exact (hM.s5 8 8 a a' x x' q h1 h2 h3 h4).2
  · rintro e w' ⟨ad', cap', us, rfl, h1, h2, h3, h4, h5⟩
    exact ⟨_, us, rfl, h1, h2, h3, h4, h5⟩
/-- The out list and the book's own list, later on: both marked. -/
theorem marked_outS {w w' w'' : World} {B : Nat} {l : List Lst} {v : Value} {us : List Value} (hA : AllMarkedS l) (hl : l.length ≤ 400) (hul : us.length = l.length) (ho : Owned w' w.heap.size 46 1 v l.length us) (hG : GrownS w w' B l us)
    (hk : ∀ q, q < w'.heap.size → ((∃ x ∈ l, myBlock x.v = some q) ∨ w.heap.size ≤ q) → w''.heap[q]? = w'.heap[q]?) : MarkedAtS w'' v := by
  obtain ⟨ad, cap, rfl⟩ := ho.form
  refine ⟨ad, cap, us, by rw [hul], ?_, fun a u hu => ?_, by omega⟩
  · rw [hul]
    exact (ho.kept fun q hq => hk q (ho.lt hq).2 (.inr (ho.lt hq).1)).reads
  · obtain ⟨x, hx, h1, h2, _⟩ := hG a u hu
    refine ⟨x.n + 96, (h1.kept fun q hq => hk q (h1.lt hq).2 ?_).reads, by have := (hA a x hx).2; omega⟩
    rcases h2 q hq with h | h
    · exact .inl ⟨x, List.mem_of_getElem? hx, h⟩
    · exact .inr h
theorem marked_ownS {w0 w w' w'' : World} {bk B : Nat} {hv : Nat → Value} {ls : Nat → List Lst} (hM : BookMem w0 bk B hv ls) {us : List Value} (hA : AllMarkedS (ls 8)) (hl : (ls 8).length ≤ 400) (hul : us.length = (ls 8).length) (hG : GrownS w w' B (ls 8) us)
    (hs : w0.heap.size ≤ w'.heap.size) (hk1 : ∀ q, q < w0.heap.size → (∃ j, myBlock (hv j) = some q) → w''.heap[q]? = w0.heap[q]?)
    (hk : ∀ q, q < w'.heap.size → (∃ x ∈ ls 8, myBlock x.v = some q) → w''.heap[q]? = w'.heap[q]?) : MarkedAtS w'' (hv 8) := by
  have hH := (hM.hdr 8).kept (w' := w'') fun q hq => hk1 q ((hM.hdr 8).lt hq).2 ⟨_, hq⟩
  obtain ⟨ad, cap, hv1⟩ := hH.form
  refine ⟨ad, cap, (ls 8).map Lst.v, by rw [hv1, List.length_map], by rw [List.length_map]; exact hH.reads, fun a u hu => ?_, by rw [List.length_map]; exact hl⟩
  rw [List.getElem?_map] at hu
  obtain ⟨x, hx, rfl⟩ : ∃ x, (ls 8)[a]? = some x ∧ x.v = u := by
    cases h : (ls 8)[a]? with
    | none => rw [h] at hu; cases hu
    | some x => rw [h] at hu; exact ⟨x, rfl, Option.some.inj hu⟩
  have ha : a < us.length := by rw [hul]; exact (List.getElem?_eq_some_iff.1 hx).1
  obtain ⟨x', hx', _, _, hr⟩ := hG a us[a] (by simp [ha])
  rw [hx] at hx'
  cases hx'
  refine ⟨x.n, ?_, by have := (hA a x hx).2; omega⟩
  have := reads_kept (w' := w'') (hM.itm 8 x (List.mem_of_getElem? hx)) (cs := x.cs) hr fun q hq => hk q (by have := ((hM.itm 8 x (List.mem_of_getElem? hx)).lt hq).2; omega) ⟨x, List.mem_of_getElem? hx, hq⟩
  rw [(hA a x hx).1] at this
  exact this
theorem allMarkedS {l : List Lst} (h : TypedS l) : AllMarkedS (l.mapIdx markedS) := by
  intro a x hx
  rw [List.getElem?_mapIdx] at hx
  cases hy : l[a]? with
  | none => rw [hy] at hx; cases hx
  | some y =>
    rw [hy] at hx
    simp only [Option.map_some, Option.some.injEq] at hx
    subst hx
    obtain ⟨L, _, h2, h3⟩ := h y (List.mem_of_getElem? hy)
    exact ⟨rfl, by simp only [markedS]; omega⟩
def AllMarkedE (l : List Lst) : Prop := ∀ (a : Nat) (x : Lst), l[a]? = some x → x.cs = (marksE a 0 x.n).flatMap encE ∧ x.n < 100000000
/-- growth, at a world in which what it needs is as it was when the book was known whole. -/
theorem growBEdges {w0 w : World} {bk B : Nat} {hv : Nat → Value} {ls : Nat → List Lst} (hM : BookMem w0 bk B hv ls) (hs : w0.heap.size ≤ w.heap.size) (hA : AllMarkedE (ls 10)) (hl : (ls 10).length ≤ 400)
    (hk : ∀ q, q < w0.heap.size → (q = bk ∨ (∃ j, myBlock (hv j) = some q) ∨ ∃ x ∈ ls 10, myBlock x.v = some q) → w.heap[q]? = w0.heap[q]?) :
    Calls Tryz.prog 82 #[.pointer (some ⟨bk, 0, none⟩)] w (fun e w' => ∃ v us, e = .returned v ∧ us.length = (ls 10).length ∧ Owned w' w.heap.size 22 1 v (ls 10).length us ∧ Below B w w' ∧ Fr w w' (ls 10) ∧ GrownE w w' B (ls 10) us) := by
  obtain ⟨ad, cap, hv1, hc, hr⟩ := hM.cellV (j := 10) (by decide)
  have hlt := hM.lt
  have hbk : w.heap[bk]? = w0.heap[bk]? := hk bk hlt (.inl rfl)
  refine (growE w bk B (ls 10) ad cap ((World.cell?_of_block (w := w0) (a := ⟨bk, 10, none⟩) hbk).trans hc) ?_ (by omega) hM.base ?_ ?_ ?_ ?_ ?_ hl).mono ?_
  · intro h0
    obtain ⟨b, o, he, hcl, hmb⟩ := hr h0
    exact ⟨b, o, he, hcl.same (hk b ((hM.hdr 10).lt hmb).2 (.inr (.inl ⟨_, hmb⟩)))⟩
  · intro x hx
    obtain ⟨a, ha⟩ := List.getElem?_of_mem hx
    exact ⟨(hM.itm 10 x hx).kept fun q hq => hk q ((hM.itm 10 x hx).lt hq).2 (.inr (.inr ⟨x, hx, hq⟩)), (hA a x ha).2⟩
  · exact fun a x hx => (hA a x hx).1
  · exact fun x hx => hM.s2 10 x hx
  · intro x hx b o he
    rcases Nat.eq_zero_or_pos (ls 10).length with h0 | h0
    · have := List.eq_nil_of_length_eq_zero h0; rw [this] at hx; cases hx
    · obtain ⟨b', o', he', _, hmb⟩ := hr h0
      rw [he] at he'; cases he'
      exact hM.s4 10 10 x b hx hmb
  · intro a a' x x' q h1 h2 h3 h4
    exact (hM.s5 10 10 a a' x x' q h1 h2 h3 h4).2
  · rintro e w' ⟨ad', cap', us, rfl, h1, h2, h3, h4, h5⟩
    exact ⟨_, us, rfl, h1, h2, h3, h4, h5⟩
/-- The out list and the book's own list, later on: both marked. -/
theorem marked_outE {w w' w'' : World} {B : Nat} {l : List Lst} {v : Value} {us : List Value} (hA : AllMarkedE l) (hl : l.length ≤ 400) (hul : us.length = l.length) (ho : Owned w' w.heap.size 22 1 v l.length us) (hG : GrownE w w' B l us)
    (hk : ∀ q, q < w'.heap.size → ((∃ x ∈ l, myBlock x.v = some q) ∨ w.heap.size ≤ q) → w''.heap[q]? = w'.heap[q]?) : MarkedAtE w'' v := by
  obtain ⟨ad, cap, rfl⟩ := ho.form
  refine ⟨ad, cap, us, by rw [hul], ?_, fun a u hu => ?_, by omega⟩
  · rw [hul]
    exact (ho.kept fun q hq => hk q (ho.lt hq).2 (.inr (ho.lt hq).1)).reads
  · obtain ⟨x, hx, h1, h2, _⟩ := hG a u hu
    refine ⟨x.n + 96, (h1.kept fun q hq => hk q (h1.lt hq).2 ?_).reads, by have := (hA a x hx).2; omega⟩
    rcases h2 q hq with h | h
    · exact .inl ⟨x, List.mem_of_getElem? hx, h⟩
    · exact .inr h
theorem marked_ownE {w0 w w' w'' : World} {bk B : Nat} {hv : Nat → Value} {ls : Nat → List Lst} (hM : BookMem w0 bk B hv ls) {us : List Value} (hA : AllMarkedE (ls 10)) (hl : (ls 10).length ≤ 400) (hul : us.length = (ls 10).length) (hG : GrownE w w' B (ls 10) us)
    (hs : w0.heap.size ≤ w'.heap.size) (hk1 : ∀ q, q < w0.heap.size → (∃ j, myBlock (hv j) = some q) → w''.heap[q]? = w0.heap[q]?)
    (hk : ∀ q, q < w'.heap.size → (∃ x ∈ ls 10, myBlock x.v = some q) → w''.heap[q]? = w'.heap[q]?) : MarkedAtE w'' (hv 10) := by
  have hH := (hM.hdr 10).kept (w' := w'') fun q hq => hk1 q ((hM.hdr 10).lt hq).2 ⟨_, hq⟩
  obtain ⟨ad, cap, hv1⟩ := hH.form
  refine ⟨ad, cap, (ls 10).map Lst.v, by rw [hv1, List.length_map], by rw [List.length_map]; exact hH.reads, fun a u hu => ?_, by rw [List.length_map]; exact hl⟩
  rw [List.getElem?_map] at hu
  obtain ⟨x, hx, rfl⟩ : ∃ x, (ls 10)[a]? = some x ∧ x.v = u := by
    cases h : (ls 10)[a]? with
    | none => rw [h] at hu; cases hu
    | some x => rw [h] at hu; exact ⟨x, rfl, Option.some.inj hu⟩
  have ha : a < us.length := by rw [hul]; exact (List.getElem?_eq_some_iff.1 hx).1
  obtain ⟨x', hx', _, _, hr⟩ := hG a us[a] (by simp [ha])
  rw [hx] at hx'
  cases hx'
  refine ⟨x.n, ?_, by have := (hA a x hx).2; omega⟩
  have := reads_kept (w' := w'') (hM.itm 10 x (List.mem_of_getElem? hx)) (cs := x.cs) hr fun q hq => hk q (by have := ((hM.itm 10 x (List.mem_of_getElem? hx)).lt hq).2; omega) ⟨x, List.mem_of_getElem? hx, hq⟩
  rw [(hA a x hx).1] at this
  exact this
theorem allMarkedE {l : List Lst} (h : TypedE l) : AllMarkedE (l.mapIdx markedE) := by
  intro a x hx
  rw [List.getElem?_mapIdx] at hx
  cases hy : l[a]? with
  | none => rw [hy] at hx; cases hx
  | some y =>
    rw [hy] at hx
    simp only [Option.map_some, Option.some.injEq] at hx
    subst hx
    obtain ⟨L, _, h2, h3⟩ := h y (List.mem_of_getElem? hy)
    exact ⟨rfl, by simp only [markedE]; omega⟩
end Go.Proofs.YtkknklagoghljaaGreatDoor
