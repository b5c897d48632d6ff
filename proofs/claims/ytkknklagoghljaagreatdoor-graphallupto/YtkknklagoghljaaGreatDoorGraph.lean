/- What a graph is in memory; system.New. -/
import Derived.Test.YtkknklagoghljaaGreatDoorSys6
import Derived.Lib.Hide
namespace Go.Proofs.YtkknklagoghljaaGreatDoor
open Go.RowKit
/-! The plain side: edges by their ends; rows. -/
def ltB (a b : Edg) : Bool := ltE (flipE a) (flipE b)
theorem flip_inj {a b : Edg} (h : flipE a = flipE b) : a = b := by
  obtain ⟨f, l, t⟩ := a; obtain ⟨f', l', t'⟩ := b
  simp [flipE] at h ⊢; omega
theorem stoB : STO ltB where
  irrefl a := stoE.irrefl _
  trans a b c := stoE.trans _ _ _
  total a b := by
    rcases stoE.total (flipE a) (flipE b) with h | h | h
    · exact .inl h
    · exact .inr (.inl (flip_inj h))
    · exact .inr (.inr h)
def bkE (l : List Edg) : List Edg := snorm ltB l
theorem srt_nodup {α : Type} {lt : α → α → Bool} (h : STO lt) {l : List α} (hs : Srt lt l) : l.Nodup :=
  hs.imp (fun {a b} hab e => by subst e; rw [h.irrefl] at hab; cases hab)
theorem srt_normE (l : List Edg) : Srt ltE (normE l) := srt_snorm stoE l
theorem perm_bk {l l' : List Edg} (hn : Srt ltE l) (hp : l'.Perm l) (hs : SrtLe (ltOf cmpB) l') : l' = bkE l := by
  have hnd : l'.Nodup := hp.nodup_iff.2 (srt_nodup stoE hn)
  refine snorm_eq stoB ?_ (fun x => hp.mem_iff)
  have h2 := hnd.and hs
  refine h2.imp (fun {a b} hab => ?_)
  obtain ⟨hne, hle⟩ := hab
  rw [cmpB_lt] at hle
  rcases stoB.total a b with h | h | h
  · exact h
  · exact absurd h hne
  · have h' : ltE (flipE b) (flipE a) = true := h
    rw [hle] at h'; cases h'
theorem bk_mem (l : List Edg) (x : Edg) : x ∈ bkE l ↔ x ∈ l := mem_snorm l x
theorem normE_mem (l : List Edg) (x : Edg) : x ∈ normE l ↔ x ∈ l := mem_snorm l x
theorem seg {α : Type} (key : α → Int) (l : List α) (hs : l.Pairwise (fun a b => key a ≤ key b)) (i : Int) :
    (l.drop (l.countP (fun e => decide (key e < i)))).take (l.countP (fun e => key e == i)) = l.filter (fun e => key e == i) := by
  induction l with
  | nil => rfl
  | cons x l ih =>
    have hs' := List.pairwise_cons.1 hs
    have ih := ih hs'.2
    have c1 : ∀ (p : α → Bool), (x :: l).countP p = l.countP p + if p x = true then 1 else 0 := fun p => List.countP_cons
    rcases Int.lt_trichotomy (key x) i with h | h | h
    · have e1 := c1 (fun e => decide (key e < i))
      have e2 := c1 (fun e => key e == i)
      rw [if_pos (by simpa using h)] at e1
      rw [if_neg (by simp; omega)] at e2
      rw [e1, e2, List.filter_cons_of_neg (by simp; omega)]
      simpa using ih
    · have h0 : l.countP (fun e => decide (key e < i)) = 0 := by
        rw [List.countP_eq_zero]; intro e he; have := hs'.1 e he; simp; omega
      have e1 := c1 (fun e => decide (key e < i))
      have e2 := c1 (fun e => key e == i)
      rw [if_neg (by simp; omega)] at e1
      rw [if_pos (by simpa using h)] at e2
      rw [h0] at ih
      rw [e1, e2, h0, List.filter_cons_of_pos (by simpa using h)]
      simp only [Nat.add_zero, List.drop_zero, List.take_succ_cons] at ih ⊢
      rw [ih]
    · have h0 : l.countP (fun e => decide (key e < i)) = 0 := by
        rw [List.countP_eq_zero]; intro e he; have := hs'.1 e he; simp; omega
      have h1 : l.countP (fun e => key e == i) = 0 := by
        rw [List.countP_eq_zero]; intro e he; have := hs'.1 e he; simp; omega
      have e1 := c1 (fun e => decide (key e < i))
      have e2 := c1 (fun e => key e == i)
      rw [if_neg (by simp; omega)] at e1
      rw [if_neg (by simp; omega)] at e2
      rw [e1, e2, h0, h1, List.filter_cons_of_neg (by simp; omega)]
      symm
      simp only [Nat.add_zero, List.drop_zero, List.take_zero, List.filter_eq_nil_iff]
      intro e he; have := hs'.1 e he; simp; omega
/-- a state's steps, and those to it -/
def rowF (E : List Edg) (i : Int) : List Stp := (E.filter (fun e => e.fr == i)).map toF
def rowT (E : List Edg) (i : Int) : List Stp := ((bkE E).filter (fun e => e.to == i)).map toT
theorem srt_key {l : List Edg} (hs : Srt ltE l) : l.Pairwise (fun a b => a.fr ≤ b.fr) :=
  hs.imp (fun {a b} hab => by simp only [ltE, decide_eq_true_eq] at hab; omega)
theorem bk_key (l : List Edg) : (bkE l).Pairwise (fun a b => a.to ≤ b.to) :=
  (srt_snorm stoB l).imp (fun {a b} hab => by
    have h2 : ltB a b = true := hab
    unfold ltB ltE flipE at h2
    simp only [decide_eq_true_eq] at h2
    omega)
theorem bk_len {l : List Edg} (hn : Srt ltE l) : (bkE l).length = l.length := by
  have h1 := srt_nodup stoE hn
  have h2 := srt_nodup stoB (srt_snorm stoB l)
  have : (bkE l).Perm l := (List.perm_ext_iff_of_nodup h2 h1).2 (bk_mem l)
  exact this.length_eq
/-! In memory. -/
structure GraphAt (w : World) (g : Nat) (N : Nat) (L st : Int) (E : List Edg) : Prop where
  srt : Srt ltE E
  rng : ∀ e ∈ E, 0 ≤ e.fr ∧ e.fr < N ∧ 0 ≤ e.to ∧ e.to < N ∧ 0 ≤ e.lab ∧ e.lab < L
  small : N ≤ 1000 ∧ E.length ≤ 10000 ∧ 1 ≤ L ∧ L ≤ 201 ∧ 0 ≤ st ∧ (st = 0 ∨ st < N)
  mem : ∃ ade ce ado co fo adi ci fi,
    Row w g 81 [.int .i64 N, .int .i64 L, .int .i64 st, .slice ade E.length ce, .slice ado E.length co, .slice (some ⟨fo, 0, none⟩) (N + 1) (N + 1), .slice adi E.length ci, .slice (some ⟨fi, 0, none⟩) (N + 1) (N + 1)] ∧
    Reads w (.slice ade E.length ce) E.length 3 (E.flatMap encE) ∧
    (Reads w (.slice ado E.length co) E.length 2 ((E.map toF).flatMap encS) ∧ E.length ≤ co) ∧ Row w fo 3 (ints (sums Edg.fr E N N)) ∧
    (Reads w (.slice adi E.length ci) E.length 2 (((bkE E).map toT).flatMap encS) ∧ E.length ≤ ci) ∧ Row w fi 3 (ints (sums Edg.to (bkE E) N N))
theorem GraphAt.ext {w w' : World} {g N : Nat} {L st : Int} {E : List Edg} (h : GraphAt w g N L st E) (hb : Below w.heap.size w w') : GraphAt w' g N L st E := by
  obtain ⟨h1, h2, h3, ade, ce, ado, co, fo, adi, ci, fi, r1, r2, ⟨r3, c3⟩, r4, ⟨r5, c5⟩, r6⟩ := h
  exact ⟨h1, h2, h3, ade, ce, ado, co, fo, adi, ci, fi, r1.ext hb, r2.ext hb, ⟨r3.ext hb, c3⟩, r4.ext hb, ⟨r5.ext hb, c5⟩, r6.ext hb⟩
end Go.Proofs.YtkknklagoghljaaGreatDoor
