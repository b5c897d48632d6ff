/- The reachable states, in plain Lean: breadth first, as the program and the document go. -/
import Derived.Test.YtkknklagoghljaaGreatDoorPure
namespace Go.Proofs.YtkknklagoghljaaGreatDoor
def bStep (p : List Bool × List Int) (s : Stp) : List Bool × List Int := if p.1.getD s.to.toNat false = true then p else (p.1.set s.to.toNat true, p.2 ++ [s.to])
def bRow (p : List Bool × List Int) (row : List Stp) : List Bool × List Int := row.foldl bStep p
def bfs (out : Int → List Stp) : Nat → Nat → List Bool × List Int → List Bool × List Int
  | 0, _, p => p
  | f + 1, i, p => match p.2[i]? with
    | none => p
    | some x => bfs out f (i + 1) (bRow p (out x))
structure BInv (N : Nat) (p : List Bool × List Int) : Prop where
  len : p.1.length = N
  nd : p.2.Nodup
  rng : ∀ x ∈ p.2, 0 ≤ x ∧ x < N
  seen : ∀ k, k < N → (p.1.getD k false = true ↔ (k : Int) ∈ p.2)
theorem nodup_lt (N : Nat) : ∀ l : List Nat, l.Nodup → (∀ x ∈ l, x < N) → l.length ≤ N := by
  induction N with
  | zero =>
    intro l _ h
    cases l with
    | nil => simp
    | cons a l => have := h a List.mem_cons_self; omega
  | succ N ih =>
    intro l hn h
    have h2 := ih (l.erase N) (hn.erase N) (fun x hx => by
      have := h x (List.mem_of_mem_erase hx)
      have hne : x ≠ N := fun e => by subst e; exact (hn.mem_erase_iff.1 hx).1 rfl
      omega)
    have h3 := List.length_erase (a := N) (l := l)
    split at h3 <;> omega
theorem BInv.le {N : Nat} {p : List Bool × List Int} (h : BInv N p) : p.2.length ≤ N := by
  have h1 : (p.2.map Int.toNat).Nodup := by
    unfold List.Nodup
    rw [List.pairwise_map]
    refine List.Pairwise.imp_of_mem (fun {a b} ha hb hne e => hne ?_) h.nd
    have := (h.rng a ha).1; have := (h.rng b hb).1; omega
  have h2 : (p.2.map Int.toNat) ⊆ List.range N := by
    intro x hx
    rw [List.mem_map] at hx
    obtain ⟨y, hy, rfl⟩ := hx
    rw [List.mem_range]
    have := h.rng y hy; omega
  have := nodup_lt N _ h1 (fun x hx => List.mem_range.1 (h2 hx))
  simpa using this
theorem BInv.step {N : Nat} {p : List Bool × List Int} (h : BInv N p) (s : Stp) (hs : 0 ≤ s.to ∧ s.to < N) : BInv N (bStep p s) := by
  unfold bStep
  split
  · exact h
  · rename_i hn
    have hk : ((s.to.toNat : Nat) : Int) = s.to := by omega
    have hns : s.to ∉ p.2 := by
      intro hm
      exact hn ((h.seen s.to.toNat (by omega)).2 (by rw [hk]; exact hm))
    refine ⟨by simp [h.len], ?_, ?_, ?_⟩
    · rw [List.nodup_append]
      refine ⟨h.nd, by simp, fun a ha b hb e => ?_⟩
      rw [List.mem_singleton] at hb
      subst hb; subst e; exact hns ha
    · intro x hx
      rw [List.mem_append, List.mem_singleton] at hx
      rcases hx with hx | rfl
      · exact h.rng x hx
      · exact hs
    · intro k hkN
      rw [List.mem_append, List.mem_singleton]
      simp only [List.getD_eq_getElem?_getD, List.getElem?_set]
      by_cases hek : s.to.toNat = k
      · subst hek
        rw [if_pos rfl, if_pos (by rw [h.len]; exact hkN)]
        simp [hk]
      · rw [if_neg hek]
        have := h.seen k hkN
        rw [List.getD_eq_getElem?_getD] at this
        rw [this]
        constructor
        · exact .inl
        · rintro (h' | h')
          · exact h'
          · omega
theorem BInv.row {N : Nat} {p : List Bool × List Int} (h : BInv N p) (row : List Stp) (hr : ∀ s ∈ row, 0 ≤ s.to ∧ s.to < N) : BInv N (bRow p row) := by
  induction row generalizing p with
  | nil => exact h
  | cons s row ih => exact ih (h.step s (hr s List.mem_cons_self)) (fun x hx => hr x (List.mem_cons_of_mem _ hx))
theorem bfs_done {out : Int → List Stp} {f i : Nat} {p : List Bool × List Int} (h : p.2.length ≤ i) : bfs out f i p = p := by
  cases f with
  | zero => rfl
  | succ f => simp only [bfs]; rw [List.getElem?_eq_none h]
theorem bfs_next {out : Int → List Stp} {f i : Nat} {p : List Bool × List Int} {x : Int} (h : p.2[i]? = some x) : bfs out (f + 1) i p = bfs out f (i + 1) (bRow p (out x)) := by
  simp only [bfs]; rw [h]
def bStart (N : Nat) (st : Int) : List Bool × List Int := ((List.replicate N false).set st.toNat true, [st])
theorem bStart_inv {N : Nat} {st : Int} (h : 0 ≤ st ∧ st < N) : BInv N (bStart N st) := by
  refine ⟨by simp [bStart], by simp [bStart], by simp [bStart]; exact h, fun k hk => ?_⟩
  simp only [bStart, List.getD_eq_getElem?_getD, List.getElem?_set, List.mem_singleton, List.length_replicate]
  by_cases hek : st.toNat = k
  · subst hek; rw [if_pos rfl, if_pos hk]; simp; omega
  · rw [if_neg hek]; simp [hk]; omega
/-- Which states are reachable, by breadth first. -/
def reached (out : Int → List Stp) (N : Nat) (st : Int) : List Bool × List Int := bfs out (N + 1) 0 (bStart N st)
theorem bfs_inv {out : Int → List Stp} {N : Nat} (ho : ∀ i, ∀ s ∈ out i, 0 ≤ s.to ∧ s.to < N) (f i : Nat) {p : List Bool × List Int} (h : BInv N p) : BInv N (bfs out f i p) := by
  induction f generalizing i p with
  | zero => exact h
  | succ f ih =>
    simp only [bfs]
    split
    · exact h
    · exact ih _ (h.row _ (ho _))
theorem reached_inv {out : Int → List Stp} {N : Nat} {st : Int} (ho : ∀ i, ∀ s ∈ out i, 0 ≤ s.to ∧ s.to < N) (h : 0 ≤ st ∧ st < N) : BInv N (reached out N st) := bfs_inv ho _ _ (bStart_inv h)
/-- The flags' list, rising. -/
def flagged (l : List Bool) (N : Nat) : List Int := ((List.range N).filter (fun i => l.getD i false)).map Int.ofNat
theorem flagged_mem (l : List Bool) (N : Nat) (x : Int) : x ∈ flagged l N ↔ ∃ k : Nat, k < N ∧ l.getD k false = true ∧ x = k := by
  simp only [flagged, List.mem_map, List.mem_filter, List.mem_range]
  constructor
  · rintro ⟨k, ⟨h1, h2⟩, rfl⟩; exact ⟨k, h1, h2, rfl⟩
  · rintro ⟨k, h1, h2, rfl⟩; exact ⟨k, ⟨h1, h2⟩, rfl⟩
theorem flagged_srt (l : List Bool) (N : Nat) : Srt ltI (flagged l N) := by
  unfold Srt flagged
  rw [List.pairwise_map]
  refine (List.pairwise_lt_range.sublist List.filter_sublist).imp (fun {a b} h => ?_)
  simp only [ltI, decide_eq_true_eq]
  exact Int.ofNat_lt.2 h
theorem flagged_len (l : List Bool) (N : Nat) : (flagged l N).length ≤ N := by
  unfold flagged
  rw [List.length_map]
  exact Nat.le_trans (List.length_filter_le _ _) (by simp)
theorem flagged_snoc (l : List Bool) (k : Nat) : flagged l (k + 1) = flagged l k ++ (if l.getD k false = true then [(k : Int)] else []) := by
  unfold flagged
  rw [List.range_succ, List.filter_append, List.map_append]
  cases h : l.getD k false <;> simp only [List.filter_cons, List.filter_nil, h] <;> simp
/-- A list of the flagged states, put in order. -/
theorem sorted_flagged {N : Nat} {p : List Bool × List Int} (h : BInv N p) {l : List Int} (hp : l.Perm p.2) (hs : l.Pairwise (fun a b => a ≤ b)) : l = flagged p.1 N := by
  refine Srt.unique stoI ?_ (flagged_srt _ _) (fun x => ?_)
  · have hnd : l.Nodup := hp.nodup_iff.2 h.nd
    refine (hnd.and hs).imp (fun {a b} hab => ?_)
    simp only [ltI, decide_eq_true_eq]
    have := hab.1; have := hab.2; omega
  · rw [hp.mem_iff, flagged_mem]
    constructor
    · intro hx
      have hr := h.rng x hx
      exact ⟨x.toNat, by omega, (h.seen _ (by omega)).2 (by rw [show ((x.toNat : Nat) : Int) = x by omega]; exact hx), by omega⟩
    · rintro ⟨k, hk, hb, rfl⟩
      exact (h.seen k hk).1 hb
/-! The numbers of classes, by where they stand first. -/
def pos (c : Int) : List Int → Nat
  | [] => 0
  | x :: l => if x = c then 0 else pos c l + 1
theorem pos_le (c : Int) (l : List Int) : pos c l ≤ l.length := by
  induction l with
  | nil => simp [pos]
  | cons x l ih => unfold pos; split <;> simp <;> omega
theorem pos_lt (c : Int) (l : List Int) : pos c l < l.length ↔ c ∈ l := by
  induction l with
  | nil => simp [pos]
  | cons x l ih =>
    unfold pos
    split
    · rename_i h; subst h; simp
    · rename_i h
      simp only [List.length_cons, List.mem_cons, Nat.add_lt_add_iff_right, ih]
      constructor
      · exact .inr
      · rintro (rfl | h')
        · exact absurd rfl h
        · exact h'
theorem pos_not {c : Int} {l : List Int} (h : c ∉ l) : pos c l = l.length := by
  have h1 := pos_le c l
  have h2 := (pos_lt c l).1
  rcases Nat.lt_or_ge (pos c l) l.length with h3 | h3
  · exact absurd (h2 h3) h
  · omega
theorem pos_append {c : Int} {l : List Int} (h : c ∈ l) (m : List Int) : pos c (l ++ m) = pos c l := by
  induction l with
  | nil => cases h
  | cons x l ih =>
    unfold pos
    simp only [List.cons_append]
    by_cases hx : x = c
    · simp [hx]
    · rcases List.mem_cons.1 h with h' | h'
      · exact absurd h'.symm hx
      · simp [hx, ih h']
theorem pos_snoc {c : Int} {l : List Int} (h : c ∉ l) : pos c (l ++ [c]) = l.length := by
  induction l with
  | nil => simp [pos]
  | cons x l ih =>
    rw [List.mem_cons, not_or] at h
    simp only [List.cons_append, pos, List.length_cons]
    rw [if_neg (fun e => h.1 e.symm), ih h.2]
theorem pos_get {c : Int} {l : List Int} (h : c ∈ l) : l[pos c l]? = some c := by
  induction l with
  | nil => cases h
  | cons x l ih =>
    unfold pos
    split
    · rename_i e; subst e; rfl
    · rename_i e
      rcases List.mem_cons.1 h with h' | h'
      · exact absurd h'.symm e
      · simpa using ih h'
/-- those that were met, each once -/
def metL : List Int → List Int := fun l => l.foldl (fun s c => if c ∈ s then s else s ++ [c]) []
theorem metL_snoc (l : List Int) (c : Int) : metL (l ++ [c]) = if c ∈ metL l then metL l else metL l ++ [c] := by
  unfold metL; rw [List.foldl_append]; rfl
theorem metL_mem (l : List Int) (c : Int) : c ∈ metL l ↔ c ∈ l := by
  suffices h : ∀ n, ∀ l : List Int, l.length = n → (c ∈ metL l ↔ c ∈ l) from h _ l rfl
  intro n
  induction n with
  | zero => intro l h; have := List.eq_nil_of_length_eq_zero h; subst this; simp [metL]
  | succ n ih =>
    intro l h
    rcases List.eq_nil_or_concat l with rfl | ⟨l', x, rfl⟩
    · simp [metL]
    · rw [List.concat_eq_append] at h ⊢
      have := ih l' (by simp at h; omega)
      rw [metL_snoc]
      split
      · rename_i hx
        rw [this]
        simp only [List.mem_append, List.mem_singleton]
        constructor
        · exact .inl
        · rintro (h' | rfl)
          · exact h'
          · exact this.1 hx
      · simp [this]
theorem metL_len (l : List Int) : (metL l).length ≤ l.length := by
  suffices h : ∀ n, ∀ l : List Int, l.length = n → (metL l).length ≤ n from h _ l rfl
  intro n
  induction n with
  | zero => intro l h; have := List.eq_nil_of_length_eq_zero h; subst this; simp [metL]
  | succ n ih =>
    intro l h
    rcases List.eq_nil_or_concat l with rfl | ⟨l', x, rfl⟩
    · simp [metL]
    · rw [List.concat_eq_append] at h ⊢
      have := ih l' (by simp at h; omega)
      rw [metL_snoc]
      split
      · omega
      · simp; omega
/-- The one form of classes. -/
def canonL (l : List Int) : List Int := l.map (fun c => (pos c (metL l) : Int))
def canonK (l : List Int) (k : Nat) : List Int := (l.take k).map (fun c => (pos c (metL (l.take k)) : Int))
theorem canonK_all (l : List Int) : canonK l l.length = canonL l := by simp [canonK, canonL]
theorem canonK_len (l : List Int) (k : Nat) (h : k ≤ l.length) : (canonK l k).length = k := by simp [canonK]; omega
theorem canonL_len (l : List Int) : (canonL l).length = l.length := by simp [canonL]
theorem canonK_succ (l : List Int) (k : Nat) (c : Int) (h : l[k]? = some c) : canonK l (k + 1) = canonK l k ++ [(pos c (metL (l.take k)) : Int)] := by
  have ht : l.take (k + 1) = l.take k ++ [c] := by rw [List.take_add_one, h]; rfl
  unfold canonK
  rw [ht, List.map_append, metL_snoc]
  by_cases hc : c ∈ metL (l.take k)
  · rw [if_pos hc]; rfl
  · rw [if_neg hc]
    congr 1
    · refine List.map_congr_left (fun x hx => ?_)
      rw [pos_append ((metL_mem _ _).2 hx)]
    · simp [pos_snoc hc, pos_not hc]
end Go.Proofs.YtkknklagoghljaaGreatDoor
