/- The book, in one word: one more list; a list that is read on while others are put in. -/
import Derived.Test.YtkknklagoghljaaGreatDoorBook13
import Derived.Test.YtkknklagoghljaaGreatDoorBook12
namespace Go.Proofs.YtkknklagoghljaaGreatDoor
open Go.RowKit
open Go.RowKit (Below)
/-- The book stands at bk; what stood ahead of it is as it was. -/
def BkAt (W0 w : World) (bk : Nat) : Prop := ∃ hv ls, BookMem w bk bk hv ls ∧ BookOk ls ∧ Below bk W0 w
/-- .. and a list of numbers that is not in it yet. -/
def BkAtO (W0 w : World) (bk : Nat) (v : Value) (n : Nat) (cs : List Value) : Prop := ∃ hv ls, BookMem w bk bk hv ls ∧ BookOk ls ∧ Below bk W0 w ∧ Owned w bk 3 1 v n cs ∧ ∀ q, myBlock v = some q → Apt bk hv ls q
/-- .. and a list of numbers that lies where the book's own headers don't. -/
def BkAtR (W0 w : World) (bk : Nat) (v : Value) (n : Nat) (cs : List Value) : Prop := ∃ hv ls, BookMem w bk bk hv ls ∧ BookOk ls ∧ Below bk W0 w ∧ Owned w bk 3 1 v n cs ∧ ∀ q, myBlock v = some q → q ≠ bk ∧ ∀ j, myBlock (hv j) ≠ some q
theorem BkAt.below {W0 w : World} {bk : Nat} (h : BkAt W0 w bk) : Below bk W0 w := by obtain ⟨_, _, _, _, h⟩ := h; exact h
theorem BkAtO.below {W0 w : World} {bk : Nat} {v : Value} {n : Nat} {cs : List Value} (h : BkAtO W0 w bk v n cs) : Below bk W0 w := by obtain ⟨_, _, _, _, h, _⟩ := h; exact h
theorem BkAtR.below {W0 w : World} {bk : Nat} {v : Value} {n : Nat} {cs : List Value} (h : BkAtR W0 w bk v n cs) : Below bk W0 w := by obtain ⟨_, _, _, _, h, _⟩ := h; exact h
theorem BkAtR.reads {W0 w : World} {bk : Nat} {v : Value} {n : Nat} {cs : List Value} (h : BkAtR W0 w bk v n cs) : Reads w v n 1 cs := by obtain ⟨_, _, _, _, _, h, _⟩ := h; exact h.reads
theorem BkAtR.toAt {W0 w : World} {bk : Nat} {v : Value} {n : Nat} {cs : List Value} (h : BkAtR W0 w bk v n cs) : BkAt W0 w bk := by obtain ⟨hv, ls, h1, h2, h3, _⟩ := h; exact ⟨hv, ls, h1, h2, h3⟩
theorem BkAt.ext {W0 w w' : World} {bk : Nat} (h : BkAt W0 w bk) (hb : Below w.heap.size w w') : BkAt W0 w' bk := by
  obtain ⟨hv, ls, h1, h2, h3⟩ := h
  exact ⟨hv, ls, h1.ext hb, h2, h3.trans (hb.mono (by have := h1.lt; omega))⟩
theorem BkAtO.ext {W0 w w' : World} {bk : Nat} {v : Value} {n : Nat} {cs : List Value} (h : BkAtO W0 w bk v n cs) (hb : Below w.heap.size w w') : BkAtO W0 w' bk v n cs := by
  obtain ⟨hv, ls, h1, h2, h3, h4, h5⟩ := h
  exact ⟨hv, ls, h1.ext hb, h2, h3.trans (hb.mono (by have := h1.lt; omega)), h4.ext hb, h5⟩
theorem BkAtR.ext {W0 w w' : World} {bk : Nat} {v : Value} {n : Nat} {cs : List Value} (h : BkAtR W0 w bk v n cs) (hb : Below w.heap.size w w') : BkAtR W0 w' bk v n cs := by
  obtain ⟨hv, ls, h1, h2, h3, h4, h5⟩ := h
  exact ⟨hv, ls, h1.ext hb, h2, h3.trans (hb.mono (by have := h1.lt; omega)), h4.ext hb, h5⟩
theorem BkAt.start (W : World) : BkAt W (W.alloc (.cells (List.replicate 22 (Value.slice none 0 0)).toArray 44)) W.heap.size := by
  refine ⟨fun _ => .slice none 0 0, fun _ => [], ⟨Nat.le_refl _, ?_, fun j => Owned.nil _ _ _ _ _, fun j x hx => (by cases hx), fun j => by simp [myBlock], fun j x hx => (by cases hx), fun j j' q h => by simp [myBlock] at h, fun j j' x q hx => (by cases hx), fun j j' i i' x x' q hx => by simp at hx⟩, ?_, (Below.refl _ _).alloc (Nat.le_refl _) _⟩
  · have := Row.newA W (List.replicate 22 (Value.slice none 0 0)).toArray 44
    exact this
  · refine ⟨⟨rfl, fun i x y hx => by simp at hx⟩, fun x hx => (by cases hx), by simp, ⟨rfl, fun i x y hx => by simp at hx⟩, fun x hx => (by cases hx), by simp, ⟨rfl, fun i x y hx => by simp at hx⟩, fun x hx => (by cases hx), by simp, fun _ _ _ _ _ _ _ => rfl⟩
theorem BkAt.addI {W0 w w1 : World} {bk : Nat} (h : BkAt W0 w bk) (hb : Below w.heap.size w w1) {v : Value} {n : Nat} {cs : List Value} (L : List Int) (ho : Owned w1 w.heap.size 3 1 v n cs) (hn : n = L.length) (hcs : cs = L.flatMap encI) (hl : L.length < 100000000) :
    Calls Tryz.prog 10 #[.pointer (some ⟨bk, 0, none⟩), v] w1 (fun e w2 => e = .returned (.tuple #[]) ∧ BkAt W0 w2 bk) := by
  obtain ⟨hv, ls, h1, h2, h3⟩ := h
  subst hn; subst hcs
  have hlt := h1.lt
  refine (bookAddI L (h1.ext hb) h2 (ho.mono (by omega)) (fun q hq => h1.fresh (ho.lt hq).1) hl).mono ?_
  rintro e w2 ⟨rfl, hv', ls', hM', hO', hS, _⟩
  exact ⟨rfl, hv', ls', hM', hO', (h3.trans (hb.mono (by omega))).trans (hS.below (h1.ext hb))⟩
theorem BkAtR.addI {W0 w w1 : World} {bk : Nat} {vT : Value} {nT : Nat} {cT : List Value} (h : BkAtR W0 w bk vT nT cT) (hb : Below w.heap.size w w1) {v : Value} {n : Nat} {cs : List Value} (L : List Int) (ho : Owned w1 w.heap.size 3 1 v n cs) (hn : n = L.length) (hcs : cs = L.flatMap encI) (hl : L.length < 100000000) :
    Calls Tryz.prog 10 #[.pointer (some ⟨bk, 0, none⟩), v] w1 (fun e w2 => e = .returned (.tuple #[]) ∧ BkAtR W0 w2 bk vT nT cT) := by
  obtain ⟨hv, ls, h1, h2, h3, h4, h5⟩ := h
  subst hn; subst hcs
  have hlt := h1.lt
  refine (bookAddI L (h1.ext hb) h2 (ho.mono (by omega)) (fun q hq => h1.fresh (ho.lt hq).1) hl).mono ?_
  rintro e w2 ⟨rfl, hv', ls', hM', hO', hS, _⟩
  refine ⟨rfl, hv', ls', hM', hO', (h3.trans (hb.mono (by omega))).trans (hS.below (h1.ext hb)), (h4.ext hb).kept fun q hq => hS.kept q ((h4.ext hb).lt hq).2 (h5 q hq).1 (h5 q hq).2, fun q hq => ⟨(h5 q hq).1, fun j hj => ?_⟩⟩
  rcases hS.hdrs j q hj with h' | h'
  · exact (h5 q hq).2 j h'
  · have := ((h4.ext hb).lt hq).2; omega
/-- A list into the book; a list of numbers beside it stays apart. -/
theorem BkAt.keepI {W0 w w1 : World} {bk : Nat} (h : BkAt W0 w bk) (hb : Below w.heap.size w w1) {v : Value} {n : Nat} {cs : List Value} (L : List Int) (ho : Owned w1 w.heap.size 3 1 v n cs) (hn : n = L.length) (hcs : cs = L.flatMap encI) (hl : L.length < 100000000)
    {vT : Value} {nT : Nat} {cT : List Value} (hoT : Owned w1 w.heap.size 3 1 vT nT cT) (hd : ∀ q, myBlock v = some q → myBlock vT ≠ some q) :
    Calls Tryz.prog 10 #[.pointer (some ⟨bk, 0, none⟩), v] w1 (fun e w2 => e = .returned (.tuple #[]) ∧ BkAtO W0 w2 bk vT nT cT) := by
  obtain ⟨hv, ls, h1, h2, h3⟩ := h
  subst hn; subst hcs
  have hlt := h1.lt
  refine (bookAddI L (h1.ext hb) h2 (ho.mono (by omega)) (fun q hq => h1.fresh (ho.lt hq).1) hl).mono ?_
  rintro e w2 ⟨rfl, hv', ls', hM', hO', hS, hA⟩
  have hap : ∀ q, myBlock vT = some q → Apt bk hv ls q := fun q hq => h1.fresh (hoT.lt hq).1
  refine ⟨rfl, hv', ls', hM', hO', (h3.trans (hb.mono (by omega))).trans (hS.below (h1.ext hb)), (hoT.mono (by omega)).kept fun q hq => hS.kept q (hoT.lt hq).2 (hap q hq).1 (hap q hq).2.1, fun q hq => hA q (hoT.lt hq).2 (fun e => hd q e hq) (hap q hq)⟩
theorem BkAt.addS {W0 w w1 : World} {bk : Nat} (h : BkAt W0 w bk) (hb : Below w.heap.size w w1) {v : Value} {n : Nat} {cs : List Value} (L : List Stp) (ho : Owned w1 w.heap.size 85 2 v n cs) (hn : n = L.length) (hcs : cs = L.flatMap encS) (hl : L.length < 100000000) :
    Calls Tryz.prog 7 #[.pointer (some ⟨bk, 0, none⟩), v] w1 (fun e w2 => e = .returned (.tuple #[]) ∧ BkAt W0 w2 bk) := by
  obtain ⟨hv, ls, h1, h2, h3⟩ := h
  subst hn; subst hcs
  have hlt := h1.lt
  refine (bookAddS L (h1.ext hb) h2 (ho.mono (by omega)) (fun q hq => h1.fresh (ho.lt hq).1) hl).mono ?_
  rintro e w2 ⟨rfl, hv', ls', hM', hO', hS, _⟩
  exact ⟨rfl, hv', ls', hM', hO', (h3.trans (hb.mono (by omega))).trans (hS.below (h1.ext hb))⟩
theorem BkAtR.addS {W0 w w1 : World} {bk : Nat} {vT : Value} {nT : Nat} {cT : List Value} (h : BkAtR W0 w bk vT nT cT) (hb : Below w.heap.size w w1) {v : Value} {n : Nat} {cs : List Value} (L : List Stp) (ho : Owned w1 w.heap.size 85 2 v n cs) (hn : n = L.length) (hcs : cs = L.flatMap encS) (hl : L.length < 100000000) :
    Calls Tryz.prog 7 #[.pointer (some ⟨bk, 0, none⟩), v] w1 (fun e w2 => e = .returned (.tuple #[]) ∧ BkAtR W0 w2 bk vT nT cT) := by
  obtain ⟨hv, ls, h1, h2, h3, h4, h5⟩ := h
  subst hn; subst hcs
  have hlt := h1.lt
  refine (bookAddS L (h1.ext hb) h2 (ho.mono (by omega)) (fun q hq => h1.fresh (ho.lt hq).1) hl).mono ?_
  rintro e w2 ⟨rfl, hv', ls', hM', hO', hS, _⟩
  refine ⟨rfl, hv', ls', hM', hO', (h3.trans (hb.mono (by omega))).trans (hS.below (h1.ext hb)), (h4.ext hb).kept fun q hq => hS.kept q ((h4.ext hb).lt hq).2 (h5 q hq).1 (h5 q hq).2, fun q hq => ⟨(h5 q hq).1, fun j hj => ?_⟩⟩
  rcases hS.hdrs j q hj with h' | h'
  · exact (h5 q hq).2 j h'
  · have := ((h4.ext hb).lt hq).2; omega
/-- A list into the book; a list of numbers beside it stays apart. -/
theorem BkAt.keepS {W0 w w1 : World} {bk : Nat} (h : BkAt W0 w bk) (hb : Below w.heap.size w w1) {v : Value} {n : Nat} {cs : List Value} (L : List Stp) (ho : Owned w1 w.heap.size 85 2 v n cs) (hn : n = L.length) (hcs : cs = L.flatMap encS) (hl : L.length < 100000000)
    {vT : Value} {nT : Nat} {cT : List Value} (hoT : Owned w1 w.heap.size 3 1 vT nT cT) (hd : ∀ q, myBlock v = some q → myBlock vT ≠ some q) :
    Calls Tryz.prog 7 #[.pointer (some ⟨bk, 0, none⟩), v] w1 (fun e w2 => e = .returned (.tuple #[]) ∧ BkAtO W0 w2 bk vT nT cT) := by
  obtain ⟨hv, ls, h1, h2, h3⟩ := h
  subst hn; subst hcs
  have hlt := h1.lt
  refine (bookAddS L (h1.ext hb) h2 (ho.mono (by omega)) (fun q hq => h1.fresh (ho.lt hq).1) hl).mono ?_
  rintro e w2 ⟨rfl, hv', ls', hM', hO', hS, hA⟩
  have hap : ∀ q, myBlock vT = some q → Apt bk hv ls q := fun q hq => h1.fresh (hoT.lt hq).1
  refine ⟨rfl, hv', ls', hM', hO', (h3.trans (hb.mono (by omega))).trans (hS.below (h1.ext hb)), (hoT.mono (by omega)).kept fun q hq => hS.kept q (hoT.lt hq).2 (hap q hq).1 (hap q hq).2.1, fun q hq => hA q (hoT.lt hq).2 (fun e => hd q e hq) (hap q hq)⟩
theorem BkAt.addE {W0 w w1 : World} {bk : Nat} (h : BkAt W0 w bk) (hb : Below w.heap.size w w1) {v : Value} {n : Nat} {cs : List Value} (L : List Edg) (ho : Owned w1 w.heap.size 71 3 v n cs) (hn : n = L.length) (hcs : cs = L.flatMap encE) (hl : L.length < 100000000) :
    Calls Tryz.prog 13 #[.pointer (some ⟨bk, 0, none⟩), v] w1 (fun e w2 => e = .returned (.tuple #[]) ∧ BkAt W0 w2 bk) := by
  obtain ⟨hv, ls, h1, h2, h3⟩ := h
  subst hn; subst hcs
  have hlt := h1.lt
  refine (bookAddE L (h1.ext hb) h2 (ho.mono (by omega)) (fun q hq => h1.fresh (ho.lt hq).1) hl).mono ?_
  rintro e w2 ⟨rfl, hv', ls', hM', hO', hS, _⟩
  exact ⟨rfl, hv', ls', hM', hO', (h3.trans (hb.mono (by omega))).trans (hS.below (h1.ext hb))⟩
theorem BkAtR.addE {W0 w w1 : World} {bk : Nat} {vT : Value} {nT : Nat} {cT : List Value} (h : BkAtR W0 w bk vT nT cT) (hb : Below w.heap.size w w1) {v : Value} {n : Nat} {cs : List Value} (L : List Edg) (ho : Owned w1 w.heap.size 71 3 v n cs) (hn : n = L.length) (hcs : cs = L.flatMap encE) (hl : L.length < 100000000) :
    Calls Tryz.prog 13 #[.pointer (some ⟨bk, 0, none⟩), v] w1 (fun e w2 => e = .returned (.tuple #[]) ∧ BkAtR W0 w2 bk vT nT cT) := by
  obtain ⟨hv, ls, h1, h2, h3, h4, h5⟩ := h
  subst hn; subst hcs
  have hlt := h1.lt
  refine (bookAddE L (h1.ext hb) h2 (ho.mono (by omega)) (fun q hq => h1.fresh (ho.lt hq).1) hl).mono ?_
  rintro e w2 ⟨rfl, hv', ls', hM', hO', hS, _⟩
  refine ⟨rfl, hv', ls', hM', hO', (h3.trans (hb.mono (by omega))).trans (hS.below (h1.ext hb)), (h4.ext hb).kept fun q hq => hS.kept q ((h4.ext hb).lt hq).2 (h5 q hq).1 (h5 q hq).2, fun q hq => ⟨(h5 q hq).1, fun j hj => ?_⟩⟩
  rcases hS.hdrs j q hj with h' | h'
  · exact (h5 q hq).2 j h'
  · have := ((h4.ext hb).lt hq).2; omega
/-- A list into the book; a list of numbers beside it stays apart. -/
theorem BkAt.keepE {W0 w w1 : World} {bk : Nat} (h : BkAt W0 w bk) (hb : Below w.heap.size w w1) {v : Value} {n : Nat} {cs : List Value} (L : List Edg) (ho : Owned w1 w.heap.size 71 3 v n cs) (hn : n = L.length) (hcs : cs = L.flatMap encE) (hl : L.length < 100000000)
    {vT : Value} {nT : Nat} {cT : List Value} (hoT : Owned w1 w.heap.size 3 1 vT nT cT) (hd : ∀ q, myBlock v = some q → myBlock vT ≠ some q) :
    Calls Tryz.prog 13 #[.pointer (some ⟨bk, 0, none⟩), v] w1 (fun e w2 => e = .returned (.tuple #[]) ∧ BkAtO W0 w2 bk vT nT cT) := by
  obtain ⟨hv, ls, h1, h2, h3⟩ := h
  subst hn; subst hcs
  have hlt := h1.lt
  refine (bookAddE L (h1.ext hb) h2 (ho.mono (by omega)) (fun q hq => h1.fresh (ho.lt hq).1) hl).mono ?_
  rintro e w2 ⟨rfl, hv', ls', hM', hO', hS, hA⟩
  have hap : ∀ q, myBlock vT = some q → Apt bk hv ls q := fun q hq => h1.fresh (hoT.lt hq).1
  refine ⟨rfl, hv', ls', hM', hO', (h3.trans (hb.mono (by omega))).trans (hS.below (h1.ext hb)), (hoT.mono (by omega)).kept fun q hq => hS.kept q (hoT.lt hq).2 (hap q hq).1 (hap q hq).2.1, fun q hq => hA q (hoT.lt hq).2 (fun e => hd q e hq) (hap q hq)⟩
theorem BkAtO.put {W0 w : World} {bk : Nat} {v : Value} {n : Nat} {cs : List Value} (h : BkAtO W0 w bk v n cs) (L : List Int) (hn : n = L.length) (hcs : cs = L.flatMap encI) (hl : L.length < 100000000) :
    Calls Tryz.prog 10 #[.pointer (some ⟨bk, 0, none⟩), v] w (fun e w2 => e = .returned (.tuple #[]) ∧ BkAtR W0 w2 bk v n cs) := by
  obtain ⟨hv, ls, h1, h2, h3, h4, h5⟩ := h
  subst hn; subst hcs
  refine (bookAddI L h1 h2 h4 h5 hl).mono ?_
  rintro e w2 ⟨rfl, hv', ls', hM', hO', hS, hA⟩
  refine ⟨rfl, hv', ls', hM', hO', h3.trans (hS.below h1), h4.kept fun q hq => hS.kept q (h4.lt hq).2 (h5 q hq).1 (h5 q hq).2.1, fun q hq => ⟨(h5 q hq).1, fun j hj => ?_⟩⟩
  rcases hS.hdrs j q hj with h' | h'
  · exact (h5 q hq).2.1 j h'
  · have := (h4.lt hq).2; omega
theorem BkAt.apart {W0 w : World} {bk : Nat} (h : BkAt W0 w bk) :
    Calls Tryz.prog 19 #[.pointer (some ⟨bk, 0, none⟩)] w (fun e w' => e = .returned (.bool true) ∧ Below bk W0 w') := by
  obtain ⟨hv, ls, h1, h2, h3⟩ := h
  refine (apart_any h1 h2).mono ?_
  rintro e w' ⟨rfl, hb⟩
  exact ⟨rfl, h3.trans hb⟩
end Go.Proofs.YtkknklagoghljaaGreatDoor
