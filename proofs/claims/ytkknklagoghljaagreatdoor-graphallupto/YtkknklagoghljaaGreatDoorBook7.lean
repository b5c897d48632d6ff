/- A list that grows: what becomes of it and of the memory about it. -/
import Derived.Test.YtkknklagoghljaaGreatDoorBook6
namespace Go.Proofs.YtkknklagoghljaaGreatDoor
open Go.RowKit
theorem owned_addr {w : World} {B : Nat} {e : TypeId} {k : Nat} {v : Value} {n : Nat} {cs : List Value} (h : Owned w B e k v n cs) (hn : 0 < n) : ∃ g cap, v = .slice (some ⟨g, 0, none⟩) n cap ∧ myBlock v = some g ∧ g < w.heap.size ∧ B ≤ g := by
  obtain ⟨g, cap, rest, hv, _, _, hB, hr, _, hm⟩ := h.row hn
  exact ⟨g, cap, hv, hm, hr.lt, hB⟩
structure GrowIn (wo w : World) (B : Nat) (T : TypeId) (K : Nat) (x : Lst) (M : Nat → List Value) (l : Value) (c : Nat) : Prop where
  own : Owned w B T K l (x.n + c) (M (x.n + c))
  fr : ∀ q, q < wo.heap.size → myBlock x.v ≠ some q → w.heap[q]? = wo.heap[q]?
  blk : myBlock l = myBlock x.v ∨ ∃ g', myBlock l = some g' ∧ wo.heap.size ≤ g'
  sh : Reads w x.v x.n K (M x.n)
  bel : Below B wo w
theorem GrowIn.start {wo : World} {B : Nat} {T : TypeId} {K : Nat} {x : Lst} {M : Nat → List Value} (h : Owned wo B T K x.v x.n (M x.n)) : GrowIn wo wo B T K x M x.v 0 :=
  ⟨h, fun _ _ _ => rfl, .inl rfl, h.reads, Below.refl _ _⟩
theorem GrowIn.ext {wo w w1 : World} {B : Nat} {T : TypeId} {K : Nat} {x : Lst} {M : Nat → List Value} {l : Value} {c : Nat} (h : GrowIn wo w B T K x M l c) (hb : Below w.heap.size w w1) (hB : B ≤ wo.heap.size) : GrowIn wo w1 B T K x M l c :=
  ⟨h.own.ext hb, fun q hq hn => (hb.block q (by have := h.bel.size; omega)).trans (h.fr q hq hn), h.blk, h.sh.ext hb, h.bel.trans (hb.mono (by have := h.bel.size; omega))⟩
theorem GrowIn.app {wo w w2 : World} {B : Nat} {T : TypeId} {K : Nat} {x : Lst} {M : Nat → List Value} {l l' : Value} {c d : Nat} {news cs0 : List Value} (h : GrowIn wo w B T K x M l c) (hx : Owned wo B T K x.v x.n cs0) (hM : ∀ a b, ∃ r, M (a + b) = M a ++ r)
    (hm : M (x.n + c) ++ news = M (x.n + (c + d))) (ho : Owned w2 B T K l' (x.n + c + d) (M (x.n + c) ++ news)) (hg : w.grownBy w2 (myBlock l)) (hb : myBlock l' = myBlock l ∨ ∃ g', myBlock l' = some g' ∧ w.heap.size ≤ g') (hr : Reads w2 l (x.n + c) K (M (x.n + c))) (hB : B ≤ wo.heap.size) :
    GrowIn wo w2 B T K x M l' (c + d) := by
  have hs := h.bel.size
  refine ⟨by rw [← hm, ← Nat.add_assoc]; exact ho, fun q hq hn => (hg.block q (by omega) ?_).trans (h.fr q hq hn), ?_, ?_, ?_⟩
  · rcases h.blk with h' | ⟨g', h', hle⟩
    · rw [h']; exact fun e => hn e.symm
    · rw [h']; intro e; injection e with e; omega
  · rcases hb with hb | ⟨g', hb, hle⟩
    · rw [hb]; exact h.blk
    · exact .inr ⟨g', hb, by omega⟩
  · rcases Nat.eq_zero_or_pos x.n with h0 | h0
    · obtain ⟨hl, ad, cp, hv, _⟩ := h.sh
      exact ⟨hl, ad, cp, hv, fun e => by omega⟩
    · obtain ⟨g, cap, hv, hmb, hlt, _⟩ := owned_addr hx h0
      obtain ⟨hl, ad, cp, hv2, hc⟩ := h.sh
      refine ⟨hl, ad, cp, hv2, fun e => ?_⟩
      obtain ⟨b, o, rfl, hcell⟩ := hc e
      rw [hv] at hv2
      cases hv2
      refine ⟨g, 0, rfl, ?_⟩
      rcases h.blk with h' | ⟨g', h', hle⟩
      · obtain ⟨g2, cap2, hv3, hmb3, _⟩ := owned_addr h.own (by omega)
        rw [h', hmb] at hmb3
        cases hmb3
        obtain ⟨hl4, ad4, cp4, hv4, hc4⟩ := hr
        rw [hv3] at hv4
        cases hv4
        obtain ⟨b5, o5, he, hc5⟩ := hc4 (by omega)
        cases he
        obtain ⟨r, hMr⟩ := hM x.n c
        intro j u hu
        refine hc5 j u ?_
        rw [hMr, List.getElem?_append_left (List.getElem?_eq_some_iff.1 hu).1]
        exact hu
      · exact hcell.same (hg.block g (by omega) (by rw [h']; intro e; injection e with e; omega))
  · refine h.bel.grown hg (by omega) fun q hq => ?_
    exact (h.own.lt hq).1
end Go.Proofs.YtkknklagoghljaaGreatDoor
