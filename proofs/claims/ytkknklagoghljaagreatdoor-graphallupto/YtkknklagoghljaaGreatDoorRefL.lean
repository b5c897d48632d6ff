/- Merging two rows in order, in plain Lean. -/
import Derived.Test.YtkknklagoghljaaGreatDoorPure
namespace Go.Proofs.YtkknklagoghljaaGreatDoor
section
variable {α : Type} [DecidableEq α] {lt : α → α → Bool}
def addL (out : List α) (e : α) : List α := if out.getLast? = some e then out else out ++ [e]
theorem addL_len (out : List α) (e : α) : (addL out e).length ≤ out.length + 1 := by unfold addL; split <;> simp
theorem addL_ok (h : STO lt) {out : List α} {e : α} (hs : Srt lt out) (hlow : ∀ x ∈ out, lt e x = false) : Srt lt (addL out e) ∧ ∀ x, x ∈ addL out e ↔ x ∈ out ∨ x = e := by
  unfold addL
  split
  · rename_i hl
    refine ⟨hs, fun x => ⟨.inl, ?_⟩⟩
    rintro (h1 | rfl)
    · exact h1
    · exact List.mem_of_getLast? hl
  · rename_i hl
    refine ⟨List.pairwise_append.2 ⟨hs, by simp, fun a ha b hb => ?_⟩, fun x => by simp⟩
    have hb' : b = e := by simpa using hb
    subst hb'
    rcases h.total a b with h1 | h1 | h1
    · exact h1
    · subst h1
      exfalso
      obtain ⟨z, hz⟩ : ∃ z, out.getLast? = some z := by
        cases hg : out.getLast? with
        | none => rw [List.getLast?_eq_none_iff] at hg; subst hg; cases ha
        | some z => exact ⟨z, rfl⟩
      have hne : a ≠ z := fun e => hl (by rw [hz, e])
      obtain ⟨ys, rfl⟩ := List.getLast?_eq_some_iff.1 hz
      have hp := List.pairwise_append.1 hs
      rcases List.mem_append.1 ha with ha' | ha'
      · have h2 := hp.2.2 a ha' z (by simp)
        have := hlow z (by simp)
        rw [this] at h2; cases h2
      · exact hne (by simpa using ha')
    · rw [hlow a ha] at h1; cases h1
/-- What the merge has made of the first i and the first k. -/
structure MInv (lt : α → α → Bool) (A B : List α) (i k : Nat) (out : List α) : Prop where
  srt : Srt lt out
  mem : ∀ x, x ∈ out ↔ x ∈ A.take i ∨ x ∈ B.take k
  low : ∀ x ∈ out, ∀ y, y ∈ A.drop i ∨ y ∈ B.drop k → lt y x = false
  len : out.length ≤ i + k
omit [DecidableEq α] in
theorem MInv.start (A B : List α) : MInv lt A B 0 0 [] := ⟨by simp [Srt], by simp, fun x hx => (by cases hx), by simp⟩
omit [DecidableEq α] in
theorem mem_drop_cons {l : List α} {i : Nat} {e : α} (h : l[i]? = some e) (y : α) : y ∈ l.drop i ↔ y = e ∨ y ∈ l.drop (i + 1) := by
  obtain ⟨h1, h2⟩ := List.getElem?_eq_some_iff.1 h
  rw [List.drop_eq_getElem_cons h1, h2, List.mem_cons]
omit [DecidableEq α] in
theorem srt_drop {l : List α} (hs : Srt lt l) {i : Nat} {e : α} (h : l[i]? = some e) {y : α} (hy : y ∈ l.drop (i + 1)) : lt e y = true := by
  obtain ⟨h1, h2⟩ := List.getElem?_eq_some_iff.1 h
  have h3 : Srt lt (l.drop i) := List.Pairwise.sublist (List.drop_sublist i l) hs
  rw [List.drop_eq_getElem_cons h1, h2] at h3
  exact (List.pairwise_cons.1 h3).1 y hy
theorem MInv.left (h : STO lt) {A B : List α} {i k : Nat} {out : List α} (hA : Srt lt A) (hB : Srt lt B) (hi : MInv lt A B i k out) {e : α} (he : A[i]? = some e) (hb : ∀ b, B[k]? = some b → lt b e = false) : MInv lt A B (i + 1) k (addL out e) := by
  have hm := addL_ok h hi.srt (e := e) (fun x hx => hi.low x hx e (.inl ((mem_drop_cons he e).2 (.inl rfl))))
  refine ⟨hm.1, fun x => ?_, fun x hx y hy => ?_, by have := addL_len out e; have := hi.len; omega⟩
  · rw [hm.2, hi.mem, List.take_add_one, he]
    simp only [Option.toList_some, List.mem_append, List.mem_singleton]
    constructor
    · rintro ((h1 | h1) | h1) <;> simp [h1]
    · rintro ((h1 | h1) | h1) <;> simp [h1]
  · rcases (hm.2 x).1 hx with h1 | rfl
    · refine hi.low x h1 y ?_
      rcases hy with hy | hy
      · exact .inl ((mem_drop_cons he y).2 (.inr hy))
      · exact .inr hy
    · rcases hy with hy | hy
      · exact h.asymm (srt_drop hA he hy)
      · obtain ⟨b, hbk⟩ : ∃ b, B[k]? = some b := by
          cases hq : B[k]? with
          | some b => exact ⟨b, rfl⟩
          | none => rw [List.getElem?_eq_none_iff] at hq; rw [List.drop_of_length_le hq] at hy; cases hy
        have h2 := hb b hbk
        rcases (mem_drop_cons hbk y).1 hy with rfl | h3
        · exact h2
        · have h4 := srt_drop hB hbk h3
          cases h5 : lt y x with
          | false => rfl
          | true => rw [h.trans _ _ _ h4 h5] at h2; cases h2
theorem MInv.right (h : STO lt) {A B : List α} {i k : Nat} {out : List α} (hA : Srt lt A) (hB : Srt lt B) (hi : MInv lt A B i k out) {e : α} (he : B[k]? = some e) (ha : ∀ a, A[i]? = some a → lt e a = true) : MInv lt A B i (k + 1) (addL out e) := by
  have hm := addL_ok h hi.srt (e := e) (fun x hx => hi.low x hx e (.inr ((mem_drop_cons he e).2 (.inl rfl))))
  refine ⟨hm.1, fun x => ?_, fun x hx y hy => ?_, by have := addL_len out e; have := hi.len; omega⟩
  · rw [hm.2, hi.mem, List.take_add_one (i := k), he]
    simp only [Option.toList_some, List.mem_append, List.mem_singleton]
    constructor
    · rintro ((h1 | h1) | h1) <;> simp [h1]
    · rintro (h1 | (h1 | h1)) <;> simp [h1]
  · rcases (hm.2 x).1 hx with h1 | rfl
    · refine hi.low x h1 y ?_
      rcases hy with hy | hy
      · exact .inl hy
      · exact .inr ((mem_drop_cons he y).2 (.inr hy))
    · rcases hy with hy | hy
      · obtain ⟨a, hak⟩ : ∃ a, A[i]? = some a := by
          cases hq : A[i]? with
          | some b => exact ⟨b, rfl⟩
          | none => rw [List.getElem?_eq_none_iff] at hq; rw [List.drop_of_length_le hq] at hy; cases hy
        have h2 := ha a hak
        rcases (mem_drop_cons hak y).1 hy with rfl | h3
        · exact h.asymm h2
        · exact h.asymm (h.trans _ _ _ h2 (srt_drop hA hak h3))
      · exact h.asymm (srt_drop hB he hy)
theorem MInv.fin (h : STO lt) {A B l : List α} {i k : Nat} {out : List α} (hi : MInv lt A B i k out) (h1 : A.length ≤ i) (h2 : B.length ≤ k) (hm : ∀ x, x ∈ l ↔ x ∈ A ∨ x ∈ B) : out = snorm lt l :=
  snorm_eq h hi.srt (fun x => by rw [hi.mem, List.take_of_length_le h1, List.take_of_length_le h2, hm])
end
theorem normE_halves (l : List Edg) (k : Nat) (x : Edg) : x ∈ l ↔ x ∈ normE (l.take k) ∨ x ∈ normE (l.drop k) := by
  unfold normE
  rw [mem_snorm, mem_snorm, ← List.mem_append, List.take_append_drop]
theorem normE_one (l : List Edg) (h : l.length < 2) : normE l = l := by
  match l, h with
  | [], _ => rfl
  | [x], _ => rfl
end Go.Proofs.YtkknklagoghljaaGreatDoor
