/- One more list: the book is what it must be still. -/
import Derived.Test.YtkknklagoghljaaGreatDoorBook10
namespace Go.Proofs.YtkknklagoghljaaGreatDoor
open Go.RowKit
theorem snoc_get {α : Type} {l : List α} {x y : α} {i : Nat} (h : (l ++ [x])[i]? = some y) : l[i]? = some y ∨ (i = l.length ∧ y = x) := by
  rcases Nat.lt_trichotomy i l.length with h1 | h1 | h1
  · rw [List.getElem?_append_left h1] at h; exact .inl h
  · subst h1; rw [List.getElem?_append_right (Nat.le_refl _), Nat.sub_self] at h
    simp only [List.getElem?_cons_zero, Option.some.injEq] at h
    exact .inr ⟨rfl, h.symm⟩
  · rw [List.getElem?_eq_none (by simp; omega)] at h; cases h
theorem alikeI_add {l l' : List Lst} (h : AlikeI l l') (L : List Int) (v v' : Value) (hL : L.length < 100000000) : AlikeI (l ++ [⟨v, L.length, L.flatMap encI⟩]) (l' ++ [⟨v', L.length, L.flatMap encI⟩]) := by
  refine ⟨by simp [h.1], fun i x y hx hy => ?_⟩
  rcases snoc_get hx with h1 | ⟨h1, rfl⟩
  · rcases snoc_get hy with h2 | ⟨h2, rfl⟩
    · exact h.2 i x y h1 h2
    · have := (List.getElem?_eq_some_iff.1 h1).1; have := h.1; omega
  · rcases snoc_get hy with h2 | ⟨h2, rfl⟩
    · have := (List.getElem?_eq_some_iff.1 h2).1; have := h.1; omega
    · exact ⟨L, rfl, rfl, rfl, rfl, by omega⟩
theorem typedI_add {l : List Lst} (h : TypedI l) (L : List Int) (v : Value) (hL : L.length < 100000000) : TypedI (l ++ [⟨v, L.length, L.flatMap encI⟩]) := by
  intro x hx
  rw [List.mem_append, List.mem_singleton] at hx
  rcases hx with hx | rfl
  · exact h x hx
  · exact ⟨L, rfl, rfl, hL⟩
theorem alikeS_add {l l' : List Lst} (h : AlikeS l l') (L : List Stp) (v v' : Value) (hL : L.length < 100000000) : AlikeS (l ++ [⟨v, L.length, L.flatMap encS⟩]) (l' ++ [⟨v', L.length, L.flatMap encS⟩]) := by
  refine ⟨by simp [h.1], fun i x y hx hy => ?_⟩
  rcases snoc_get hx with h1 | ⟨h1, rfl⟩
  · rcases snoc_get hy with h2 | ⟨h2, rfl⟩
    · exact h.2 i x y h1 h2
    · have := (List.getElem?_eq_some_iff.1 h1).1; have := h.1; omega
  · rcases snoc_get hy with h2 | ⟨h2, rfl⟩
    · have := (List.getElem?_eq_some_iff.1 h2).1; have := h.1; omega
    · exact ⟨L, rfl, rfl, rfl, rfl, by omega⟩
theorem typedS_add {l : List Lst} (h : TypedS l) (L : List Stp) (v : Value) (hL : L.length < 100000000) : TypedS (l ++ [⟨v, L.length, L.flatMap encS⟩]) := by
  intro x hx
  rw [List.mem_append, List.mem_singleton] at hx
  rcases hx with hx | rfl
  · exact h x hx
  · exact ⟨L, rfl, rfl, hL⟩
theorem alikeE_add {l l' : List Lst} (h : AlikeE l l') (L : List Edg) (v v' : Value) (hL : L.length < 100000000) : AlikeE (l ++ [⟨v, L.length, L.flatMap encE⟩]) (l' ++ [⟨v', L.length, L.flatMap encE⟩]) := by
  refine ⟨by simp [h.1], fun i x y hx hy => ?_⟩
  rcases snoc_get hx with h1 | ⟨h1, rfl⟩
  · rcases snoc_get hy with h2 | ⟨h2, rfl⟩
    · exact h.2 i x y h1 h2
    · have := (List.getElem?_eq_some_iff.1 h1).1; have := h.1; omega
  · rcases snoc_get hy with h2 | ⟨h2, rfl⟩
    · have := (List.getElem?_eq_some_iff.1 h2).1; have := h.1; omega
    · exact ⟨L, rfl, rfl, rfl, rfl, by omega⟩
theorem typedE_add {l : List Lst} (h : TypedE l) (L : List Edg) (v : Value) (hL : L.length < 100000000) : TypedE (l ++ [⟨v, L.length, L.flatMap encE⟩]) := by
  intro x hx
  rw [List.mem_append, List.mem_singleton] at hx
  rcases hx with hx | rfl
  · exact h x hx
  · exact ⟨L, rfl, rfl, hL⟩
theorem BookOk.addI {ls : Nat → List Lst} (h : BookOk ls) (L : List Int) (v v2 : Value) (hL : L.length < 100000000) (hl : (ls 0).length < 400) :
    BookOk (upd (upd ls 0 (ls 0 ++ [⟨v, L.length, L.flatMap encI⟩])) (0 + 1) (ls (0 + 1) ++ [⟨v2, L.length, L.flatMap encI⟩])) := by
  obtain ⟨ls', hls⟩ : ∃ ls', ls' = upd (upd ls 0 (ls 0 ++ [⟨v, L.length, L.flatMap encI⟩])) (0 + 1) (ls (0 + 1) ++ [⟨v2, L.length, L.flatMap encI⟩]) := ⟨_, rfl⟩
  rw [← hls]
  have e0 : ls' 0 = ls 0 ++ [⟨v, L.length, L.flatMap encI⟩] := by rw [hls, upd_other _ _ (by decide), upd_same]
  have e1 : ls' 1 = ls 1 ++ [⟨v2, L.length, L.flatMap encI⟩] := by rw [hls]; exact upd_same _ _ _
  have eo : ∀ j, j ≠ 0 → j ≠ 1 → ls' j = ls j := fun j h0 h1 => by rw [hls, upd_other _ _ h1, upd_other _ _ h0]
  have hle := h.aI.1
  exact {
    aI := by first | (rw [e0, e1]; exact alikeI_add h.aI L v v2 hL) | (rw [eo 0 (by decide) (by decide), eo 1 (by decide) (by decide)]; exact h.aI)
    tI := by first | (rw [e0]; exact typedI_add h.tI L v hL) | (rw [eo 0 (by decide) (by decide)]; exact h.tI)
    lI := by first | (rw [e0, e1]; simp only [List.length_append, List.length_cons, List.length_nil]; omega) | (rw [eo 0 (by decide) (by decide), eo 1 (by decide) (by decide)]; exact h.lI)
    aS := by first | (rw [e0, e1]; exact alikeI_add h.aI L v v2 hL) | (rw [eo 8 (by decide) (by decide), eo 9 (by decide) (by decide)]; exact h.aS)
    tS := by first | (rw [e0]; exact typedI_add h.tI L v hL) | (rw [eo 8 (by decide) (by decide)]; exact h.tS)
    lS := by first | (rw [e0, e1]; simp only [List.length_append, List.length_cons, List.length_nil]; omega) | (rw [eo 8 (by decide) (by decide), eo 9 (by decide) (by decide)]; exact h.lS)
    aE := by first | (rw [e0, e1]; exact alikeI_add h.aI L v v2 hL) | (rw [eo 10 (by decide) (by decide), eo 11 (by decide) (by decide)]; exact h.aE)
    tE := by first | (rw [e0]; exact typedI_add h.tI L v hL) | (rw [eo 10 (by decide) (by decide)]; exact h.tE)
    lE := by first | (rw [e0, e1]; simp only [List.length_append, List.length_cons, List.length_nil]; omega) | (rw [eo 10 (by decide) (by decide), eo 11 (by decide) (by decide)]; exact h.lE)
    other := fun j h0 h1 h2 h3 h4 h5 => by rw [eo j (by omega) (by omega)]; exact h.other j h0 h1 h2 h3 h4 h5 }
theorem BookOk.addS {ls : Nat → List Lst} (h : BookOk ls) (L : List Stp) (v v2 : Value) (hL : L.length < 100000000) (hl : (ls 8).length < 400) :
    BookOk (upd (upd ls 8 (ls 8 ++ [⟨v, L.length, L.flatMap encS⟩])) (8 + 1) (ls (8 + 1) ++ [⟨v2, L.length, L.flatMap encS⟩])) := by
  obtain ⟨ls', hls⟩ : ∃ ls', ls' = upd (upd ls 8 (ls 8 ++ [⟨v, L.length, L.flatMap encS⟩])) (8 + 1) (ls (8 + 1) ++ [⟨v2, L.length, L.flatMap encS⟩]) := ⟨_, rfl⟩
  rw [← hls]
  have e0 : ls' 8 = ls 8 ++ [⟨v, L.length, L.flatMap encS⟩] := by rw [hls, upd_other _ _ (by decide), upd_same]
  have e1 : ls' 9 = ls 9 ++ [⟨v2, L.length, L.flatMap encS⟩] := by rw [hls]; exact upd_same _ _ _
  have eo : ∀ j, j ≠ 8 → j ≠ 9 → ls' j = ls j := fun j h0 h1 => by rw [hls, upd_other _ _ h1, upd_other _ _ h0]
  have hle := h.aS.1
  exact {
    aI := by first | (rw [e0, e1]; exact alikeS_add h.aS L v v2 hL) | (rw [eo 0 (by decide) (by decide), eo 1 (by decide) (by decide)]; exact h.aI)
    tI := by first | (rw [e0]; exact typedS_add h.tS L v hL) | (rw [eo 0 (by decide) (by decide)]; exact h.tI)
    lI := by first | (rw [e0, e1]; simp only [List.length_append, List.length_cons, List.length_nil]; omega) | (rw [eo 0 (by decide) (by decide), eo 1 (by decide) (by decide)]; exact h.lI)
    aS := by first | (rw [e0, e1]; exact alikeS_add h.aS L v v2 hL) | (rw [eo 8 (by decide) (by decide), eo 9 (by decide) (by decide)]; exact h.aS)
    tS := by first | (rw [e0]; exact typedS_add h.tS L v hL) | (rw [eo 8 (by decide) (by decide)]; exact h.tS)
    lS := by first | (rw [e0, e1]; simp only [List.length_append, List.length_cons, List.length_nil]; omega) | (rw [eo 8 (by decide) (by decide), eo 9 (by decide) (by decide)]; exact h.lS)
    aE := by first | (rw [e0, e1]; exact alikeS_add h.aS L v v2 hL) | (rw [eo 10 (by decide) (by decide), eo 11 (by decide) (by decide)]; exact h.aE)
    tE := by first | (rw [e0]; exact typedS_add h.tS L v hL) | (rw [eo 10 (by decide) (by decide)]; exact h.tE)
    lE := by first | (rw [e0, e1]; simp only [List.length_append, List.length_cons, List.length_nil]; omega) | (rw [eo 10 (by decide) (by decide), eo 11 (by decide) (by decide)]; exact h.lE)
    other := fun j h0 h1 h2 h3 h4 h5 => by rw [eo j (by omega) (by omega)]; exact h.other j h0 h1 h2 h3 h4 h5 }
theorem BookOk.addE {ls : Nat → List Lst} (h : BookOk ls) (L : List Edg) (v v2 : Value) (hL : L.length < 100000000) (hl : (ls 10).length < 400) :
    BookOk (upd (upd ls 10 (ls 10 ++ [⟨v, L.length, L.flatMap encE⟩])) (10 + 1) (ls (10 + 1) ++ [⟨v2, L.length, L.flatMap encE⟩])) := by
  obtain ⟨ls', hls⟩ : ∃ ls', ls' = upd (upd ls 10 (ls 10 ++ [⟨v, L.length, L.flatMap encE⟩])) (10 + 1) (ls (10 + 1) ++ [⟨v2, L.length, L.flatMap encE⟩]) := ⟨_, rfl⟩
  rw [← hls]
  have e0 : ls' 10 = ls 10 ++ [⟨v, L.length, L.flatMap encE⟩] := by rw [hls, upd_other _ _ (by decide), upd_same]
  have e1 : ls' 11 = ls 11 ++ [⟨v2, L.length, L.flatMap encE⟩] := by rw [hls]; exact upd_same _ _ _
  have eo : ∀ j, j ≠ 10 → j ≠ 11 → ls' j = ls j := fun j h0 h1 => by rw [hls, upd_other _ _ h1, upd_other _ _ h0]
  have hle := h.aE.1
  exact {
    aI := by first | (rw [e0, e1]; exact alikeE_add h.aE L v v2 hL) | (rw [eo 0 (by decide) (by decide), eo 1 (by decide) (by decide)]; exact h.aI)
    tI := by first | (rw [e0]; exact typedE_add h.tE L v hL) | (rw [eo 0 (by decide) (by decide)]; exact h.tI)
    lI := by first | (rw [e0, e1]; simp only [List.length_append, List.length_cons, List.length_nil]; omega) | (rw [eo 0 (by decide) (by decide), eo 1 (by decide) (by decide)]; exact h.lI)
    aS := by first | (rw [e0, e1]; exact alikeE_add h.aE L v v2 hL) | (rw [eo 8 (by decide) (by decide), eo 9 (by decide) (by decide)]; exact h.aS)
    tS := by first | (rw [e0]; exact typedE_add h.tE L v hL) | (rw [eo 8 (by decide) (by decide)]; exact h.tS)
    lS := by first | (rw [e0, e1]; simp only [List.length_append, List.length_cons, List.length_nil]; omega) | (rw [eo 8 (by decide) (by decide), eo 9 (by decide) (by decide)]; exact h.lS)
    aE := by first | (rw [e0, e1]; exact alikeE_add h.aE L v v2 hL) | (rw [eo 10 (by decide) (by decide), eo 11 (by decide) (by decide)]; exact h.aE)
    tE := by first | (rw [e0]; exact typedE_add h.tE L v hL) | (rw [eo 10 (by decide) (by decide)]; exact h.tE)
    lE := by first | (rw [e0, e1]; simp only [List.length_append, List.length_cons, List.length_nil]; omega) | (rw [eo 10 (by decide) (by decide), eo 11 (by decide) (by decide)]; exact h.lE)
    other := fun j h0 h1 h2 h3 h4 h5 => by rw [eo j (by omega) (by omega)]; exact h.other j h0 h1 h2 h3 h4 h5 }
/-- One more list: what the law needs of it, in one piece. -/
theorem bookAddI {w : World} {bk B : Nat} {hv : Nat → Value} {ls : Nat → List Lst} {v : Value} (L : List Int) (hM : BookMem w bk B hv ls) (hO : BookOk ls) (hx : Owned w B (ET 0) (EK 0) v L.length (L.flatMap encI)) (hf : ∀ q, myBlock v = some q → Apt bk hv ls q) (hL : L.length < 100000000) :
    Calls Tryz.prog 10 #[.pointer (some ⟨bk, 0, none⟩), v] w (fun e w' => e = .returned (.tuple #[]) ∧ ∃ hv' ls', BookMem w' bk B hv' ls' ∧ BookOk ls' ∧ BookStep w bk hv w' hv' ∧ ∀ q, q < w.heap.size → myBlock v ≠ some q → Apt bk hv ls q → Apt bk hv' ls' q) := by
  refine (addI w bk B hv ls v L.length (L.flatMap encI) hM hx hf (one_cellI L) (by omega) hO.lI.1 hO.lI.2).mono ?_
  rintro e w' ⟨he, hv', ls', hM', hS, h2⟩
  have hdr : ∀ q, q < w.heap.size → (∀ j, myBlock (hv j) ≠ some q) → ∀ j, myBlock (hv' j) ≠ some q := fun q hq h j hj => by
    rcases hS.hdrs j q hj with h' | h'
    · exact h j h'
    · omega
  rcases h2 with rfl | ⟨hlt, v2, hv2, rfl⟩
  · exact ⟨he, hv', ls', hM', hO, hS, fun q hq _ ha => ⟨ha.1, hdr q hq ha.2.1, ha.2.2⟩⟩
  · refine ⟨he, hv', _, hM', hO.addI L v v2 hL hlt, hS, fun q hq hne ha => ⟨ha.1, hdr q hq ha.2.1, fun i x hx => ?_⟩⟩
    by_cases h1 : i = 0 + 1
    · subst h1
      rw [upd_same, List.mem_append, List.mem_singleton] at hx
      rcases hx with hx | rfl
      · exact ha.2.2 _ x hx
      · exact fun e => by have := hv2 q e; omega
    · rw [upd_other _ _ h1] at hx
      by_cases h2 : i = 0
      · subst h2
        rw [upd_same, List.mem_append, List.mem_singleton] at hx
        rcases hx with hx | rfl
        · exact ha.2.2 _ x hx
        · exact hne
      · rw [upd_other _ _ h2] at hx; exact ha.2.2 i x hx
/-- One more list: what the law needs of it, in one piece. -/
theorem bookAddS {w : World} {bk B : Nat} {hv : Nat → Value} {ls : Nat → List Lst} {v : Value} (L : List Stp) (hM : BookMem w bk B hv ls) (hO : BookOk ls) (hx : Owned w B (ET 8) (EK 8) v L.length (L.flatMap encS)) (hf : ∀ q, myBlock v = some q → Apt bk hv ls q) (hL : L.length < 100000000) :
    Calls Tryz.prog 7 #[.pointer (some ⟨bk, 0, none⟩), v] w (fun e w' => e = .returned (.tuple #[]) ∧ ∃ hv' ls', BookMem w' bk B hv' ls' ∧ BookOk ls' ∧ BookStep w bk hv w' hv' ∧ ∀ q, q < w.heap.size → myBlock v ≠ some q → Apt bk hv ls q → Apt bk hv' ls' q) := by
  refine (addS w bk B hv ls v L.length (L.flatMap encS) hM hx hf (one_cellS L) (by omega) hO.lS.1 hO.lS.2).mono ?_
  rintro e w' ⟨he, hv', ls', hM', hS, h2⟩
  have hdr : ∀ q, q < w.heap.size → (∀ j, myBlock (hv j) ≠ some q) → ∀ j, myBlock (hv' j) ≠ some q := fun q hq h j hj => by
    rcases hS.hdrs j q hj with h' | h'
    · exact h j h'
    · omega
  rcases h2 with rfl | ⟨hlt, v2, hv2, rfl⟩
  · exact ⟨he, hv', ls', hM', hO, hS, fun q hq _ ha => ⟨ha.1, hdr q hq ha.2.1, ha.2.2⟩⟩
  · refine ⟨he, hv', _, hM', hO.addS L v v2 hL hlt, hS, fun q hq hne ha => ⟨ha.1, hdr q hq ha.2.1, fun i x hx => ?_⟩⟩
    by_cases h1 : i = 8 + 1
    · subst h1
      rw [upd_same, List.mem_append, List.mem_singleton] at hx
      rcases hx with hx | rfl
      · exact ha.2.2 _ x hx
      · exact fun e => by have := hv2 q e; omega
    · rw [upd_other _ _ h1] at hx
      by_cases h2 : i = 8
      · subst h2
        rw [upd_same, List.mem_append, List.mem_singleton] at hx
        rcases hx with hx | rfl
        · exact ha.2.2 _ x hx
        · exact hne
      · rw [upd_other _ _ h2] at hx; exact ha.2.2 i x hx
/-- One more list: what the law needs of it, in one piece. -/
theorem bookAddE {w : World} {bk B : Nat} {hv : Nat → Value} {ls : Nat → List Lst} {v : Value} (L : List Edg) (hM : BookMem w bk B hv ls) (hO : BookOk ls) (hx : Owned w B (ET 10) (EK 10) v L.length (L.flatMap encE)) (hf : ∀ q, myBlock v = some q → Apt bk hv ls q) (hL : L.length < 100000000) :
    Calls Tryz.prog 13 #[.pointer (some ⟨bk, 0, none⟩), v] w (fun e w' => e = .returned (.tuple #[]) ∧ ∃ hv' ls', BookMem w' bk B hv' ls' ∧ BookOk ls' ∧ BookStep w bk hv w' hv' ∧ ∀ q, q < w.heap.size → myBlock v ≠ some q → Apt bk hv ls q → Apt bk hv' ls' q) := by
  refine (addE w bk B hv ls v L.length (L.flatMap encE) hM hx hf (one_cellE L) (by omega) hO.lE.1 hO.lE.2).mono ?_
  rintro e w' ⟨he, hv', ls', hM', hS, h2⟩
  have hdr : ∀ q, q < w.heap.size → (∀ j, myBlock (hv j) ≠ some q) → ∀ j, myBlock (hv' j) ≠ some q := fun q hq h j hj => by
    rcases hS.hdrs j q hj with h' | h'
    · exact h j h'
    · omega
  rcases h2 with rfl | ⟨hlt, v2, hv2, rfl⟩
  · exact ⟨he, hv', ls', hM', hO, hS, fun q hq _ ha => ⟨ha.1, hdr q hq ha.2.1, ha.2.2⟩⟩
  · refine ⟨he, hv', _, hM', hO.addE L v v2 hL hlt, hS, fun q hq hne ha => ⟨ha.1, hdr q hq ha.2.1, fun i x hx => ?_⟩⟩
    by_cases h1 : i = 10 + 1
    · subst h1
      rw [upd_same, List.mem_append, List.mem_singleton] at hx
      rcases hx with hx | rfl
      · exact ha.2.2 _ x hx
      · exact fun e => by have := hv2 q e; omega
    · rw [upd_other _ _ h1] at hx
      by_cases h2 : i = 10
      · subst h2
        rw [upd_same, List.mem_append, List.mem_singleton] at hx
        rcases hx with hx | rfl
        · exact ha.2.2 _ x hx
        · exact hne
      · rw [upd_other _ _ h2] at hx; exact ha.2.2 i x hx
end Go.Proofs.YtkknklagoghljaaGreatDoor
