/- Plain lists: sorted without repetition; steps, edges, systems. -/
namespace Go.Proofs.YtkknklagoghljaaGreatDoor
/-! Sorted lists without repetition over a strict total order. -/
structure STO {α : Type} (lt : α → α → Bool) : Prop where
  irrefl : ∀ a, lt a a = false
  trans : ∀ a b c, lt a b = true → lt b c = true → lt a c = true
  total : ∀ a b, lt a b = true ∨ a = b ∨ lt b a = true
section
variable {α : Type} {lt : α → α → Bool}
theorem STO.asymm (h : STO lt) {a b : α} (h1 : lt a b = true) : lt b a = false := by
  cases h2 : lt b a with
  | false => rfl
  | true => have := h.trans _ _ _ h1 h2; rw [h.irrefl] at this; cases this
def Srt (lt : α → α → Bool) (l : List α) : Prop := l.Pairwise (fun a b => lt a b = true)
/-- Two sorted lists with the same members are one. -/
theorem Srt.unique (h : STO lt) : ∀ {a b : List α}, Srt lt a → Srt lt b → (∀ x, x ∈ a ↔ x ∈ b) → a = b
  | [], [], _, _, _ => rfl
  | [], y :: b, _, _, hm => by have := (hm y).2 (by simp); simp at this
  | x :: a, [], _, _, hm => by have := (hm x).1 (by simp); simp at this
  | x :: a, y :: b, ha, hb, hm => by
    have ha' := List.pairwise_cons.1 ha
    have hb' := List.pairwise_cons.1 hb
    have hxy : x = y := by
      have h1 : x ∈ y :: b := (hm x).1 (by simp)
      have h2 : y ∈ x :: a := (hm y).2 (by simp)
      rcases List.mem_cons.1 h1 with h1 | h1
      · exact h1
      · rcases List.mem_cons.1 h2 with h2 | h2
        · exact h2.symm
        · have e1 := hb'.1 x h1
          have e2 := ha'.1 y h2
          have := h.asymm e1
          rw [this] at e2; cases e2
    subst hxy
    have : a = b := Srt.unique h ha'.2 hb'.2 (fun z => by
      have hz := hm z
      simp only [List.mem_cons] at hz
      constructor
      · intro hza
        rcases hz.1 (.inr hza) with h1 | h1
        · subst h1; have := ha'.1 z hza; rw [h.irrefl] at this; cases this
        · exact h1
      · intro hzb
        rcases hz.2 (.inr hzb) with h1 | h1
        · subst h1; have := hb'.1 z hzb; rw [h.irrefl] at this; cases this
        · exact h1)
    rw [this]
/-- Insertion into a sorted list; what is there is not put in again. -/
def sins [DecidableEq α] (lt : α → α → Bool) (e : α) : List α → List α
  | [] => [e]
  | x :: l => if lt e x = true then e :: x :: l else if e = x then x :: l else x :: sins lt e l
def snorm [DecidableEq α] (lt : α → α → Bool) (l : List α) : List α := l.foldr (sins lt) []
theorem mem_sins [DecidableEq α] (e : α) (l : List α) (x : α) : x ∈ sins lt e l ↔ x = e ∨ x ∈ l := by
  induction l with
  | nil => simp [sins]
  | cons y l ih =>
    unfold sins
    split
    · simp
    · split
      · rename_i h; subst h; simp
      · simp only [List.mem_cons, ih]
        constructor
        · rintro (h | h | h) <;> simp [h]
        · rintro (h | h | h) <;> simp [h]
theorem mem_snorm [DecidableEq α] (l : List α) (x : α) : x ∈ snorm lt l ↔ x ∈ l := by
  induction l with
  | nil => simp [snorm]
  | cons y l ih => show x ∈ sins lt y (snorm lt l) ↔ _; rw [mem_sins, ih]; simp
theorem srt_sins [DecidableEq α] (h : STO lt) (e : α) (l : List α) (hs : Srt lt l) : Srt lt (sins lt e l) := by
  induction l with
  | nil => simp [sins, Srt]
  | cons y l ih =>
    have hs' := List.pairwise_cons.1 hs
    unfold sins
    split
    · rename_i hlt
      refine List.pairwise_cons.2 ⟨fun z hz => ?_, hs⟩
      rcases List.mem_cons.1 hz with rfl | hz
      · exact hlt
      · exact h.trans _ _ _ hlt (hs'.1 z hz)
    · split
      · exact hs
      · rename_i h1 h2
        refine List.pairwise_cons.2 ⟨fun z hz => ?_, ih hs'.2⟩
        rcases (mem_sins _ _ _).1 hz with rfl | hz
        · rcases h.total z y with h3 | h3 | h3
          · exact absurd h3 h1
          · exact absurd h3 h2
          · exact h3
        · exact hs'.1 z hz
theorem srt_snorm [DecidableEq α] (h : STO lt) (l : List α) : Srt lt (snorm lt l) := by
  induction l with
  | nil => simp [snorm, Srt]
  | cons y l ih => exact srt_sins h _ _ ih
theorem snorm_eq [DecidableEq α] (h : STO lt) {l l' : List α} (hs : Srt lt l') (hm : ∀ x, x ∈ l' ↔ x ∈ l) : l' = snorm lt l :=
  Srt.unique h hs (srt_snorm h l) (fun x => by rw [hm, mem_snorm])
theorem snorm_self [DecidableEq α] (h : STO lt) {l : List α} (hs : Srt lt l) : snorm lt l = l := (snorm_eq h hs (fun _ => Iff.rfl)).symm
theorem snorm_congr [DecidableEq α] (h : STO lt) {l l' : List α} (hm : ∀ x, x ∈ l ↔ x ∈ l') : snorm lt l = snorm lt l' :=
  Srt.unique h (srt_snorm h l) (srt_snorm h l') (fun x => by rw [mem_snorm, mem_snorm, hm])
theorem length_sins_le [DecidableEq α] (e : α) (l : List α) : (sins lt e l).length ≤ l.length + 1 := by
  induction l with
  | nil => simp [sins]
  | cons y l ih => unfold sins; split <;> (try split) <;> simp <;> omega
theorem length_snorm_le [DecidableEq α] (l : List α) : (snorm lt l).length ≤ l.length := by
  induction l with
  | nil => simp [snorm]
  | cons y l ih => show (sins lt y (snorm lt l)).length ≤ _; have := length_sins_le (lt := lt) y (snorm lt l); simp; omega
/-- Sorted, with repetitions: no later one is smaller. -/
def SrtLe (lt : α → α → Bool) (l : List α) : Prop := l.Pairwise (fun a b => lt b a = false)
end
/-! Steps and edges. -/
structure Stp where
  lab : Int
  to : Int
  deriving DecidableEq
structure Edg where
  fr : Int
  lab : Int
  to : Int
  deriving DecidableEq
structure Sys where
  n : Int
  L : Int
  st : Int
  E : List Edg
def ltE (a b : Edg) : Bool := decide (a.fr < b.fr ∨ a.fr = b.fr ∧ (a.lab < b.lab ∨ a.lab = b.lab ∧ a.to < b.to))
def ltS (a b : Stp) : Bool := decide (a.lab < b.lab ∨ a.lab = b.lab ∧ a.to < b.to)
def ltI (a b : Int) : Bool := decide (a < b)
theorem stoE : STO ltE where
  irrefl a := by simp [ltE]
  trans a b c := by simp only [ltE, decide_eq_true_eq]; omega
  total a b := by
    simp only [ltE, decide_eq_true_eq]
    obtain ⟨f, l, t⟩ := a; obtain ⟨f', l', t'⟩ := b
    simp only [Edg.mk.injEq]; omega
theorem stoS : STO ltS where
  irrefl a := by simp [ltS]
  trans a b c := by simp only [ltS, decide_eq_true_eq]; omega
  total a b := by
    simp only [ltS, decide_eq_true_eq]
    obtain ⟨l, t⟩ := a; obtain ⟨l', t'⟩ := b
    simp only [Stp.mk.injEq]; omega
theorem stoI : STO ltI where
  irrefl a := by simp [ltI]
  trans a b c := by simp only [ltI, decide_eq_true_eq]; omega
  total a b := by simp only [ltI, decide_eq_true_eq]; omega
def normE (l : List Edg) : List Edg := snorm ltE l
/-! Neighbours that are alike, once. -/
section
variable {α : Type} [DecidableEq α]
def dda (l : List α) : List α := l.foldl (fun acc x => if acc.getLast? = some x then acc else acc ++ [x]) []
theorem dda_nil : dda ([] : List α) = [] := rfl
theorem dda_step (l : List α) (x : α) : dda (l ++ [x]) = if (dda l).getLast? = some x then dda l else dda l ++ [x] := by
  unfold dda; rw [List.foldl_append]; rfl
theorem dda_last (l : List α) : (dda l).getLast? = l.getLast? := by
  rcases List.eq_nil_or_concat l with rfl | ⟨l', x, rfl⟩
  · rfl
  · rw [List.concat_eq_append, dda_step]; split <;> simp_all
theorem dda_snoc (l : List α) (x : α) : dda (l ++ [x]) = if l.getLast? = some x then dda l else dda l ++ [x] := by rw [dda_step, dda_last]
theorem dda_len (l : List α) : (dda l).length ≤ l.length := by
  suffices h : ∀ n, ∀ l : List α, l.length = n → (dda l).length ≤ n from h _ l rfl
  intro n
  induction n with
  | zero => intro l h; have := List.eq_nil_of_length_eq_zero h; subst this; simp [dda]
  | succ n ih =>
    intro l h
    rcases List.eq_nil_or_concat l with rfl | ⟨l', x, rfl⟩
    · simp [dda]
    · rw [List.concat_eq_append] at h ⊢
      have := ih l' (by simp at h; omega)
      rw [dda_snoc]; split
      · omega
      · simp; omega
theorem mem_dda (l : List α) (x : α) : x ∈ dda l ↔ x ∈ l := by
  suffices h : ∀ n, ∀ l : List α, l.length = n → (x ∈ dda l ↔ x ∈ l) from h _ l rfl
  intro n
  induction n with
  | zero => intro l h; have := List.eq_nil_of_length_eq_zero h; subst this; simp [dda]
  | succ n ih =>
    intro l h
    rcases List.eq_nil_or_concat l with rfl | ⟨l', y, rfl⟩
    · simp [dda]
    · rw [List.concat_eq_append] at h ⊢
      have := ih l' (by simp at h; omega)
      rw [dda_snoc]; split
      · rename_i hl
        rw [this]; simp only [List.mem_append, List.mem_singleton]
        constructor
        · exact .inl
        · rintro (h | rfl)
          · exact h
          · exact List.mem_of_getLast? hl
      · simp [this]
/-- of a list in order nothing but what stands twice goes -/
theorem srt_dda {lt : α → α → Bool} (h : STO lt) (l : List α) (hs : SrtLe lt l) : Srt lt (dda l) := by
  suffices hh : ∀ n, ∀ l : List α, l.length = n → SrtLe lt l → Srt lt (dda l) from hh _ l rfl hs
  intro n
  induction n with
  | zero => intro l h _; have := List.eq_nil_of_length_eq_zero h; subst this; simp [dda, Srt]
  | succ n ih =>
    intro l hl hs
    rcases List.eq_nil_or_concat l with rfl | ⟨l', y, rfl⟩
    · simp [dda, Srt]
    · rw [List.concat_eq_append] at hl hs ⊢
      have hs' := List.pairwise_append.1 hs
      have := ih l' (by simp at hl; omega) hs'.1
      rw [dda_snoc]; split
      · exact this
      · rename_i hne
        refine List.pairwise_append.2 ⟨this, by simp, fun a ha b hb => ?_⟩
        rw [mem_dda] at ha
        have hb' : b = y := by simpa using hb
        subst hb'
        have h1 := hs'.2.2 a ha b (by simp)
        rcases h.total a b with h2 | h2 | h2
        · exact h2
        · subst h2
          -- then the last of l' is a, too
          exfalso
          apply hne
          obtain ⟨z, hz⟩ : ∃ z, l'.getLast? = some z := by
            cases hg : l'.getLast? with
            | none => rw [List.getLast?_eq_none_iff] at hg; subst hg; simp at ha
            | some z => exact ⟨z, rfl⟩
          rw [hz]
          have hz' := List.mem_of_getLast? hz
          have h3 := hs'.2.2 z hz' a (by simp)
          have h4 : lt z a = false := by
            by_cases hza : z = a
            · subst hza; exact h.irrefl z
            · obtain ⟨ys, rfl⟩ := List.getLast?_eq_some_iff.1 hz
              have hp := List.pairwise_append.1 hs'.1
              rcases List.mem_append.1 ha with ha' | ha'
              · exact hp.2.2 a ha' z (by simp)
              · exact absurd (by simpa using ha') (fun e : a = z => hza e.symm)
          rcases h.total z a with h5 | h5 | h5
          · rw [h4] at h5; cases h5
          · rw [h5]
          · rw [h3] at h5; cases h5
        · rw [h1] at h2; cases h2
theorem dda_sorted {lt : α → α → Bool} (h : STO lt) (l l' : List α) (hs : SrtLe lt l) (hm : ∀ x, x ∈ l ↔ x ∈ l') : dda l = snorm lt l' :=
  snorm_eq h (srt_dda h l hs) (fun x => by rw [mem_dda, hm])
end
/-! The inner loop of Compact. -/
theorem take_getLast {α : Type} (l : List α) (k : Nat) (x : α) (h : l[k]? = some x) : (l.take (k + 1)).getLast? = some x := by
  rw [List.take_add_one, h]; simp
section
variable {α : Type} [DecidableEq α]
structure CI (l D : List α) (p m : Nat) : Prop where
  len : D.length = l.length
  lt : p < l.length
  le : m ≤ p
  take : D.take m = dda (l.take (p + 1))
  drop : D.drop p = l.drop p
theorem CI.init {l : List α} {k : Nat} {x : α} (hd : dda (l.take (k + 1)) = l.take (k + 1)) (h0 : l[k]? = some x) (h1 : l[k + 1]? = some x) : CI l l (k + 1) (k + 1) := by
  have hlt := (List.getElem?_eq_some_iff.1 h1).1
  refine ⟨rfl, hlt, Nat.le_refl _, ?_, rfl⟩
  rw [List.take_add_one (i := k + 1), h1]
  simp only [Option.toList_some]
  rw [dda_snoc, if_pos (take_getLast l k x h0), hd]
theorem CI.get {l D : List α} {p m : Nat} (h : CI l D p m) (j : Nat) (hj : p ≤ j) : D[j]? = l[j]? := by
  have := congrArg (fun q => q[j - p]?) h.drop
  simp only [List.getElem?_drop] at this
  rwa [show p + (j - p) = j by omega] at this
theorem CI.skip {l D : List α} {p m : Nat} {x : α} (h : CI l D p m) (h0 : l[p]? = some x) (h1 : l[p + 1]? = some x) : CI l D (p + 1) m := by
  have hlt := (List.getElem?_eq_some_iff.1 h1).1
  refine ⟨h.len, hlt, by have := h.le; omega, ?_, ?_⟩
  · rw [List.take_add_one (i := p + 1), h1]
    simp only [Option.toList_some]
    rw [dda_snoc, if_pos (take_getLast l p x h0), h.take]
  · have := congrArg (List.drop 1) h.drop
    simpa [List.drop_drop] using this
theorem CI.put {l D : List α} {p m : Nat} {x y : α} (h : CI l D p m) (h0 : l[p]? = some y) (h1 : l[p + 1]? = some x) (hne : x ≠ y) : CI l (D.set m x) (p + 1) (m + 1) := by
  have hlt := (List.getElem?_eq_some_iff.1 h1).1
  have hle := h.le
  have hlen := h.len
  refine ⟨by simp [hlen], hlt, by omega, ?_, ?_⟩
  · rw [List.take_add_one (i := p + 1), h1]
    simp only [Option.toList_some]
    rw [dda_snoc, if_neg (by rw [take_getLast l p y h0]; intro e; cases e; exact hne rfl), ← h.take, List.take_add_one, List.take_set_of_le (Nat.le_refl _), List.getElem?_set_self (by omega)]
    rfl
  · rw [List.drop_set_of_lt (by omega)]
    have := congrArg (List.drop 1) h.drop
    simpa [List.drop_drop] using this
theorem CI.fin {l D : List α} {p m : Nat} (h : CI l D p m) (hp : p + 1 = l.length) : D.take m = dda l ∧ m = (dda l).length := by
  have := h.take
  rw [List.take_of_length_le (l := l) (by omega)] at this
  refine ⟨this, ?_⟩
  rw [← this, List.length_take, h.len]; have := h.le; omega
theorem dda_take_step {l : List α} {k : Nat} {x y : α} (hd : dda (l.take (k + 1)) = l.take (k + 1)) (h0 : l[k]? = some y) (h1 : l[k + 1]? = some x) (hne : x ≠ y) : dda (l.take (k + 1 + 1)) = l.take (k + 1 + 1) := by
  rw [List.take_add_one (i := k + 1), h1]
  simp only [Option.toList_some]
  rw [dda_snoc, if_neg (by rw [take_getLast l k y h0]; intro e; cases e; exact hne rfl), hd]
end
/-! What a right system is. -/
def offB (n L fr lab to : Int) : Bool := decide (fr < 0 ∨ to < 0 ∨ lab < 0 ∨ n ≤ fr ∨ n ≤ to ∨ L ≤ lab)
def headB (S : Sys) : Bool := decide (0 ≤ S.n ∧ S.n ≤ 1000 ∧ 1 ≤ S.L ∧ S.L ≤ 201 ∧ 0 ≤ S.st ∧ (S.st = 0 ∨ S.st < S.n) ∧ S.E.length ≤ 10000)
def edgesB (S : Sys) : Bool := S.E.all (fun e => !offB S.n S.L e.fr e.lab e.to)
def rightB (S : Sys) : Bool := headB S && edgesB S
end Go.Proofs.YtkknklagoghljaaGreatDoor
