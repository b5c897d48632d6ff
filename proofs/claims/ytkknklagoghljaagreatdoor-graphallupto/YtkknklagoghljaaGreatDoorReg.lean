/- A region that draws its order: reads first, in the text's order; then a forced tail, of which the last operation may undo what the reads saw. Free of the program. -/
import Derived.OrdersHeld
import Derived.StillTail
import Derived.Test.YtkknklagoghljaaGreatDoorLib
namespace Go.Proofs.YtkknklagoghljaaGreatDoor
open Go.RowKit
theorem cell_alloc {w : World} {a : Addr} {v : Value} (h : w.cell? a = some v) (o : Obj) : (w.alloc o).cell? a = some v := (World.cell?_alloc_lt _ _ _ (World.block_lt_of_cell? w a h)).trans h
theorem grown_cell {w w' : World} {row : Option Nat} (hg : w.grownBy w' row) (a : Addr) (hlt : a.block < w.heap.size) (hne : some a.block ≠ row) : w'.cell? a = w.cell? a := World.cell?_of_block (w := w) (hg.block _ hlt hne)
section
variable {P : Program} {ops : Array Oper} {Q : Exit → Act → World → Prop} {md : Region.Mode} {S : World → Prop} {m : Nat}
/-- Whatever order is picked, and S holds behind every operation but the last one. -/
def wpAnyX (P : Program) (md : Region.Mode) (ops : Array Oper) (Q : Exit → Act → World → Prop) (S : World → Prop) (m : Nat) : Nat → Array Bool → Act → World → Prop
  | 0, listed, a, w => Region.ready md ops listed = [] ∧ Q .normal a w
  | f + 1, listed, a, w => (Region.ready md ops listed = [] → Q .normal a w) ∧
    ∀ i ∈ Region.ready md ops listed, wpOp P ops Q i (fun a' w' => (i = m ∨ S w') ∧ wpAnyX P md ops Q S m f (listed.setIfInBounds i true) a' w') a w
theorem wpAny_of_X : ∀ (f : Nat) (listed : Array Bool) (a : Act) (w : World), wpAnyX P md ops Q S m f listed a w → wpAny P md ops Q f listed a w
  | 0, _, _, _, h => h
  | f + 1, _, _, _, h => ⟨h.1, fun i hi => wpOp_mono (fun a' w' h' => wpAny_of_X f _ a' w' h'.2) (h.2 i hi)⟩
theorem wpAnyX_first {i : Nat} {oi : Oper} {v : Value} (hi : ops[i]? = some oi) (hsel : ∀ (j : Nat) (o : Oper) cs b, ops[j]? = some o → o.op ≠ .select cs b)
    (hQ : ∀ c a w, Q (.panic c) (a.put oi.dst v) w → Q (.panic c) a w) (hm : Region.waitsFor md ops m i = true ∨ ops.size ≤ m) :
    ∀ (f : Nat) (listed : Array Bool) (a : Act) (w : World),
      (∀ j oj, ops[j]? = some oj → j ≠ i → listed.getD j true = false → (∀ e ∈ oj.after, Region.binds md e = true → e.on ≠ i) → oi.apart ops oj = true) →
      i ∈ Region.ready md ops listed → YieldsIf P ops S oi v a → S w →
      wpAnyX P md ops Q S m f (listed.setIfInBounds i true) (a.put oi.dst v) w → wpAnyX P md ops Q S m (f + 1) listed a w := by
  intro f
  induction f with
  | zero =>
    intro listed a w _ hr hy hS H
    refine ⟨fun h => (by rw [h] at hr; cases hr), fun j hj => ?_⟩
    by_cases hji : j = i
    · subst hji; exact hy.wpOp hi hS ⟨.inr hS, H⟩
    · have := ready_mono hj hji
      rw [H.1] at this
      cases this
  | succ f ih =>
    intro listed a w hfree hr hy hS H
    refine ⟨fun h => (by rw [h] at hr; cases hr), fun j hj => ?_⟩
    by_cases hji : j = i
    · subst hji; exact hy.wpOp hi hS ⟨.inr hS, H⟩
    · have h1 := H.2 j (ready_mono hj hji)
      obtain ⟨hjun, oj, hoj, hall⟩ := mem_ready.1 hj
      have hnot : ∀ e ∈ oj.after, Region.binds md e = true → e.on ≠ i := fun e he hb heq => by
        have h1 := hall e he hb
        have h0 := (mem_ready.1 hr).1
        rw [heq] at h1
        rcases Nat.lt_or_ge i listed.size with h' | h'
        · simp [h'] at h0 h1; rw [h0] at h1; cases h1
        · simp [Array.getElem?_eq_none h'] at h1
      have hjm : j ≠ m := fun e => by
        subst e
        have hm := hm.resolve_right (by have := (Array.getElem?_eq_some_iff.1 hoj).1; omega)
        obtain ⟨om, hom, e, he, hb, hon⟩ := Region.waitsFor_spec hm
        have : om = oj := Option.some.inj (hom.symm.trans hoj)
        subst this
        exact hnot e he hb hon
      have h2 := wpOp_putIf hoj (hfree j oj hoj hji hjun hnot) (fun cs b => hsel i oi cs b hi) (fun cs b => hsel j oj cs b hoj) hQ hy h1
      have hfree' : ∀ k ok, ops[k]? = some ok → k ≠ i → (listed.setIfInBounds j true).getD k true = false →
          (∀ e ∈ ok.after, Region.binds md e = true → e.on ≠ i) → oi.apart ops ok = true := fun k ok hk hki hun hno => by
        refine hfree k ok hk hki ?_ hno
        by_cases hjk : j = k
        · subst hjk; exact hjun
        · rw [getD_set_ne true hjk] at hun; exact hun
      refine wpOp_mono (fun a' w' h3 => ⟨h3.2.1, ih (listed.setIfInBounds j true) a' w' hfree' (ready_mono hr (Ne.symm hji)) h3.1 (h3.2.1.resolve_left hjm) ?_⟩) h2
      rw [Array.setIfInBounds_comm _ _ hji]
      exact h3.2.2
/-- The reads, in the text's order. -/
def wpYld (P : Program) (ops : Array Oper) (S : World → Prop) (K : Act → Prop) : List Oper → Act → Prop
  | [], a => K a
  | o :: rest, a => ∃ v, YieldsIf P ops S o v a ∧ wpYld P ops S K rest (a.put o.dst v)
theorem wpYld_nil {K : Act → Prop} {a : Act} (h : K a) : wpYld P ops S K [] a := h
theorem wpYld_stepG {K : Act → Prop} {a : Act} {o : Oper} {rest : List Oper} {v : Value} (hg : Region.wanted o (yielded ops a.tmps) = true) (hv : ∀ w, S w → (execOp a.eval o).run P w = .ok (.value v) w)
    (h : wpYld P ops S K rest (a.put o.dst v)) : wpYld P ops S K (o :: rest) a := ⟨v, .inl ⟨hg, hv⟩, h⟩
theorem wpYld_skip {K : Act → Prop} {a : Act} {o : Oper} {rest : List Oper} (hg : Region.wanted o (yielded ops a.tmps) = false) (h : wpYld P ops S K rest (a.put o.dst undef)) : wpYld P ops S K (o :: rest) a := ⟨undef, .inr ⟨hg, rfl⟩, h⟩
theorem wpYld_step {K : Act → Prop} {a : Act} {o : Oper} {rest : List Oper} {v : Value} (hg : o.guard = none) (hv : ∀ w, S w → (execOp a.eval o).run P w = .ok (.value v) w)
    (h : wpYld P ops S K rest (a.put o.dst v)) : wpYld P ops S K (o :: rest) a := ⟨v, .inl ⟨by simp [Region.wanted, hg], hv⟩, h⟩
/-- The tail: one after the other; S behind each but the last. -/
def wpTl (P : Program) (ops : Array Oper) (Q : Exit → Act → World → Prop) (S : World → Prop) : List Oper → Act → World → Prop
  | [], a, w => Q .normal a w
  | o :: rest, a, w => if Region.wanted o (yielded ops a.tmps) = true then Oper.wp P o a w (fun a' w' => (rest = [] ∨ S w') ∧ wpTl P ops Q S rest a' w') Q else (rest = [] ∨ S w) ∧ wpTl P ops Q S rest (a.put o.dst undef) w
theorem wpTl_nil {a : Act} {w : World} (h : Q .normal a w) : wpTl P ops Q S [] a w := h
theorem wpTl_step {a : Act} {w : World} {o : Oper} {rest : List Oper}
    (h : ∀ K : Act → World → Prop, (∀ a' w', (rest = [] ∨ S w') → wpTl P ops Q S rest a' w' → K a' w') → if Region.wanted o (yielded ops a.tmps) = true then Oper.wp P o a w K Q else K (a.put o.dst undef) w) : wpTl P ops Q S (o :: rest) a w :=
  h _ (fun _ _ h1 h2 => ⟨h1, h2⟩)
theorem wpAnyX_tail (hm : m + 1 = ops.size) : ∀ (l : List Oper) (k : Nat) (listed : Array Bool) (a : Act) (w : World), (∀ j, l[j]? = ops[k + j]?) → k + l.length = ops.size →
    Region.seqB md ops l.length k listed = true → wpTl P ops Q S l a w → wpAnyX P md ops Q S m l.length listed a w
  | [], _, _, _, _, _, _, hB, h => ⟨by simpa [Region.seqB] using hB, h⟩
  | o :: l, k, listed, a, w, hl, hk, hB, h => by
    have h0 : ops[k]? = some o := by simpa using (hl 0).symm
    simp only [List.length_cons, Region.seqB, Bool.and_eq_true, decide_eq_true_eq] at hB
    refine ⟨fun h1 => (by rw [hB.1] at h1; cases h1), fun i hi => ?_⟩
    rw [hB.1] at hi
    have hik : i = k := by simpa using hi
    subst hik
    have hw : wpOp P ops Q i (fun a' w' => (l = [] ∨ S w') ∧ wpTl P ops Q S l a' w') a w := by
      unfold wpOp
      simp only [h0]
      unfold wpTl at h
      split
      · rename_i hw; rw [if_pos hw] at h; exact .inl h
      · rename_i hw; rw [if_neg hw] at h; exact h
    refine wpOp_mono (fun a' w' h' => ⟨?_, wpAnyX_tail hm l (i + 1) _ a' w' (fun j => by have := hl (j + 1); simpa [Nat.add_assoc, Nat.add_comm 1 j] using this) (by simp only [List.length_cons] at hk; omega) hB.2 h'.2⟩) hw
    rcases h'.1 with h1 | h1
    · subst h1; simp only [List.length_cons, List.length_nil] at hk; exact .inl (by omega)
    · exact .inr h1
theorem wpAnyX_head {n g : Nat} {w : World} {K : Act → Prop} (hsel : Region.noSelect ops = true) (hm : ∀ i, i < n → Region.waitsFor md ops m i = true ∨ ops.size ≤ m) (hQ : ∀ c a d v w, Q (.panic c) (Act.put a d v) w → Q (.panic c) a w) (hS : S w)
    (hK : ∀ listed a, Region.seqB md ops g n listed = true → K a → wpAnyX P md ops Q S m g listed a w) :
    ∀ (l : List Oper) (k : Nat) (listed : Array Bool) (a : Act), (∀ j, j < l.length → l[j]? = ops[k + j]?) → k + l.length = n →
    Region.lexHead md ops g l.length k listed = true → wpYld P ops S K l a → wpAnyX P md ops Q S m (l.length + g) listed a w
  | [], k, listed, a, _, hk, hB, h => by
    have : k = n := by simpa using hk
    subst this
    rw [List.length_nil, Nat.zero_add]
    exact hK _ _ (by simpa [Region.lexHead] using hB) h
  | o :: l, k, listed, a, hl, hk, hB, h => by
    have h0 : ops[k]? = some o := by simpa using (hl 0 (by simp)).symm
    simp only [List.length_cons, Region.lexHead, Bool.and_eq_true] at hB
    obtain ⟨⟨hr, hf⟩, hB'⟩ := hB
    obtain ⟨v, hy, hn⟩ := h
    rw [List.length_cons, show l.length + 1 + g = (l.length + g) + 1 by omega]
    exact wpAnyX_first h0 (Region.noSelect_spec hsel) (fun c a w => hQ c a _ _ w) (hm k (by simp only [List.length_cons] at hk; omega)) (l.length + g) listed a w (Region.free_spec h0 hf) (by simpa using hr) hy hS
      (wpAnyX_head hsel hm hQ hS hK l (k + 1) _ _ (fun j hj => by have := hl (j + 1) (by simp; omega); simpa [Nat.add_assoc, Nat.add_comm 1 j] using this) (by simp only [List.length_cons] at hk; omega) hB' hn)
def readTailB (md : Region.Mode) (ops : Array Oper) (n : Nat) : Bool :=
  Region.noSelect ops && decide (n < ops.size) && (List.range n).all (fun i => Region.waitsFor md ops (ops.size - 1) i) && Region.lexHead md ops (ops.size - n) n 0 (Array.replicate ops.size false)
/-- A region that draws: n operations that read, in the text's order; then the rest, which comes in its own order. -/
theorem wp_region_reads {id : Nat} {a : Act} {w : World} {l : List Oper} (n : Nat) (S : World → Prop) (hm : P.follows .mixedOrders = true) (hB : readTailB .any l.toArray n = true)
    (hQ : ∀ c a d v w, Q (.panic c) (Act.put a d v) w → Q (.panic c) a w) (h : ∀ W, W = w.drew → S W ∧ wpYld P l.toArray S (fun a' => wpTl P l.toArray Q S (l.drop n) a' W) (l.take n) a) : (Code.region id l.toArray true).wp P Q a w := by
  simp only [readTailB, Bool.and_eq_true, decide_eq_true_eq, List.all_eq_true, List.mem_range] at hB
  obtain ⟨⟨⟨hsel, hn⟩, hw⟩, hlex⟩ := hB
  have hn' : n < l.length := by simpa using hn
  have htl : (l.take n).length = n := by simp; omega
  have hdl : (l.drop n).length = l.toArray.size - n := by simp
  obtain ⟨hS, hY⟩ := h _ rfl
  refine wp_region_any hm (wpAny_of_X (S := S) (m := l.toArray.size - 1) _ _ _ _ ?_)
  have H := wpAnyX_head (md := .any) (m := l.toArray.size - 1) (g := l.toArray.size - n) (n := n) hsel (fun i hi => .inl (hw i hi)) hQ hS (fun listed a' hB hK => by
    have := wpAnyX_tail (md := .any) (m := l.toArray.size - 1) (by omega) (l.drop n) n listed a' w.drew (fun j => by simp [List.getElem?_drop]) (by rw [hdl]; omega) (by rw [hdl]; exact hB) hK
    rwa [hdl] at this) (l.take n) 0 (Array.replicate l.toArray.size false) a (fun j hj => by
      have hj' : j < n := by rw [htl] at hj; exact hj
      simp [hj']) (by simpa using htl) (by rw [htl]; exact hlex) hY
  rw [htl, show n + (l.toArray.size - n) = l.toArray.size by omega] at H
  exact H
/-- The tail, S behind every operation. -/
def wpTlS (P : Program) (ops : Array Oper) (Q : Exit → Act → World → Prop) (S : World → Prop) : List Oper → Act → World → Prop
  | [], a, w => Q .normal a w
  | o :: rest, a, w => if Region.wanted o (yielded ops a.tmps) = true then Oper.wp P o a w (fun a' w' => S w' ∧ wpTlS P ops Q S rest a' w') Q else S w ∧ wpTlS P ops Q S rest (a.put o.dst undef) w
theorem wpTlS_nil {a : Act} {w : World} (h : Q .normal a w) : wpTlS P ops Q S [] a w := h
theorem wpTlS_step {a : Act} {w : World} {o : Oper} {rest : List Oper}
    (h : ∀ K : Act → World → Prop, (∀ a' w', S w' → wpTlS P ops Q S rest a' w' → K a' w') → if Region.wanted o (yielded ops a.tmps) = true then Oper.wp P o a w K Q else K (a.put o.dst undef) w) : wpTlS P ops Q S (o :: rest) a w :=
  h _ (fun _ _ h1 h2 => ⟨h1, h2⟩)
theorem wpAnyX_tailS : ∀ (l : List Oper) (k : Nat) (listed : Array Bool) (a : Act) (w : World), (∀ j, l[j]? = ops[k + j]?) →
    Region.seqB md ops l.length k listed = true → wpTlS P ops Q S l a w → wpAnyX P md ops Q S m l.length listed a w
  | [], _, _, _, _, _, hB, h => ⟨by simpa [Region.seqB] using hB, h⟩
  | o :: l, k, listed, a, w, hl, hB, h => by
    have h0 : ops[k]? = some o := by simpa using (hl 0).symm
    simp only [List.length_cons, Region.seqB, Bool.and_eq_true, decide_eq_true_eq] at hB
    refine ⟨fun h1 => (by rw [hB.1] at h1; cases h1), fun i hi => ?_⟩
    rw [hB.1] at hi
    have hik : i = k := by simpa using hi
    subst hik
    have hw : wpOp P ops Q i (fun a' w' => S w' ∧ wpTlS P ops Q S l a' w') a w := by
      unfold wpOp
      simp only [h0]
      unfold wpTlS at h
      split
      · rename_i hw; rw [if_pos hw] at h; exact .inl h
      · rename_i hw; rw [if_neg hw] at h; exact h
    exact wpOp_mono (fun a' w' h' => ⟨.inr h'.1, wpAnyX_tailS l (i + 1) _ a' w' (fun j => by have := hl (j + 1); simpa [Nat.add_assoc, Nat.add_comm 1 j] using this) hB.2 h'.2⟩) hw
def readTailSB (md : Region.Mode) (ops : Array Oper) (n : Nat) : Bool :=
  Region.noSelect ops && decide (n < ops.size) && Region.lexHead md ops (ops.size - n) n 0 (Array.replicate ops.size false)
/-- A region that draws: n operations that read, in the text's order; then the rest, which comes in its own order; S holds throughout. -/
theorem wp_region_readsS {id : Nat} {a : Act} {w : World} {l : List Oper} (n : Nat) (S : World → Prop) (hm : P.follows .mixedOrders = true) (hB : readTailSB .any l.toArray n = true)
    (hQ : ∀ c a d v w, Q (.panic c) (Act.put a d v) w → Q (.panic c) a w) (h : ∀ W, W = w.drew → S W ∧ wpYld P l.toArray S (fun a' => wpTlS P l.toArray Q S (l.drop n) a' W) (l.take n) a) : (Code.region id l.toArray true).wp P Q a w := by
  simp only [readTailSB, Bool.and_eq_true, decide_eq_true_eq] at hB
  obtain ⟨⟨hsel, hn⟩, hlex⟩ := hB
  have hn' : n < l.length := by simpa using hn
  have htl : (l.take n).length = n := by simp; omega
  have hdl : (l.drop n).length = l.toArray.size - n := by simp
  obtain ⟨hS, hY⟩ := h _ rfl
  refine wp_region_any hm (wpAny_of_X (S := S) (m := l.toArray.size) _ _ _ _ ?_)
  have H := wpAnyX_head (md := .any) (m := l.toArray.size) (g := l.toArray.size - n) (n := n) hsel (fun _ _ => .inr (Nat.le_refl _)) hQ hS (fun listed a' hB hK => by
    have := wpAnyX_tailS (md := .any) (m := l.toArray.size) (l.drop n) n listed a' w.drew (fun j => by simp [List.getElem?_drop]) (by rw [hdl]; exact hB) hK
    rwa [hdl] at this) (l.take n) 0 (Array.replicate l.toArray.size false) a (fun j hj => by
      have hj' : j < n := by rw [htl] at hj; exact hj
      simp [hj']) (by simpa using htl) (by rw [htl]; exact hlex) hY
  rw [htl, show n + (l.toArray.size - n) = l.toArray.size by omega] at H
  exact H
end
end Go.Proofs.YtkknklagoghljaaGreatDoor
