/- Laws over the model that speak of no program: slices that read as lists, slices that own their block, append and make. -/
import Derived.WalkKit
import Derived.Laws.StructEq
import Derived.Deep.Draws
namespace Go.Proofs.YtkknklagoghljaaGreatDoor
open Go.RowKit
/-- Cells from an address on. -/
def CellsAt (w : World) (b o : Nat) (cs : List Value) : Prop := ∀ j u, cs[j]? = some u → w.cell? ⟨b, o + j, none⟩ = some u
/-- A slice value of n elements, k cells each, that reads as the cells cs. -/
def Reads (w : World) (v : Value) (n k : Nat) (cs : List Value) : Prop :=
  cs.length = n * k ∧ ∃ ad c, v = .slice ad n c ∧ (0 < n → ∃ b o, ad = some ⟨b, o, none⟩ ∧ CellsAt w b o cs)
/-- A slice value that is the only one over its block (or has no room at all). -/
def Owned (w : World) (B : Nat) (e : TypeId) (k : Nat) (v : Value) (n : Nat) (cs : List Value) : Prop :=
  cs.length = n * k ∧ ∃ ad cap, v = .slice ad n cap ∧ n ≤ cap ∧ cap ≤ maxLen ∧
    (cap = 0 ∨ ∃ g cur, ad = some ⟨g, 0, none⟩ ∧ B ≤ g ∧ w.heap[g]? = some (.cells cur e (0, 0)) ∧ cur.size = cap * k ∧ cur.toList.take (n * k) = cs)
def myBlock : Value → Option Nat
  | .slice (some a) _ cap => if cap = 0 then none else some a.block
  | _ => none
theorem CellsAt.same {w w' : World} {b o : Nat} {cs : List Value} (h : CellsAt w b o cs) (hb : w'.heap[b]? = w.heap[b]?) : CellsAt w' b o cs :=
  fun j u hu => (World.cell?_of_block (w := w) (a := ⟨b, o + j, none⟩) hb).trans (h j u hu)
theorem CellsAt.lt {w : World} {b o : Nat} {cs : List Value} (h : CellsAt w b o cs) (hn : 0 < cs.length) : b < w.heap.size := by
  obtain ⟨u, hu⟩ : ∃ u, cs[0]? = some u := ⟨cs[0], by simp [hn]⟩
  exact World.block_lt_of_cell? (a := ⟨b, o + 0, none⟩) _ (h 0 u hu)
theorem CellsAt.below {w w' : World} {b o : Nat} {cs : List Value} {B : Nat} (h : CellsAt w b o cs) (hbl : Below B w w') (hb : b < B) : CellsAt w' b o cs := h.same (hbl.block b hb)
theorem CellsAt.ext {w w' : World} {b o : Nat} {cs : List Value} (h : CellsAt w b o cs) (hbl : Below w.heap.size w w') : CellsAt w' b o cs := by
  intro j u hu
  have := h j u hu
  have hb : b < w.heap.size := World.block_lt_of_cell? (a := ⟨b, o + j, none⟩) _ this
  exact (h.below hbl hb) j u hu
theorem CellsAt.drop {w : World} {b o : Nat} {cs : List Value} (h : CellsAt w b o cs) (m : Nat) : CellsAt w b (o + m) (cs.drop m) := by
  intro j u hu
  rw [List.getElem?_drop] at hu
  have := h _ u hu
  rw [show o + m + j = o + (m + j) by omega]; exact this
theorem CellsAt.take {w : World} {b o : Nat} {cs : List Value} (h : CellsAt w b o cs) (m : Nat) : CellsAt w b o (cs.take m) := by
  intro j u hu
  rw [List.getElem?_take] at hu
  split at hu
  · exact h j u hu
  · cases hu
theorem Reads.ext {w w' : World} {v : Value} {n k : Nat} {cs : List Value} (h : Reads w v n k cs) (hbl : Below w.heap.size w w') : Reads w' v n k cs := by
  obtain ⟨hl, ad, c, rfl, hr⟩ := h
  exact ⟨hl, ad, c, rfl, fun h0 => let ⟨b, o, ha, hc⟩ := hr h0; ⟨b, o, ha, hc.ext hbl⟩⟩
theorem Owned.reads {w : World} {B : Nat} {e : TypeId} {k : Nat} {v : Value} {n : Nat} {cs : List Value} (h : Owned w B e k v n cs) : Reads w v n k cs := by
  obtain ⟨hl, ad, cap, rfl, hn, _, hc⟩ := h
  refine ⟨hl, ad, cap, rfl, fun h0 => ?_⟩
  rcases hc with rfl | ⟨g, cur, rfl, _, hg, hs, ht⟩
  · omega
  · refine ⟨g, 0, rfl, fun j u hu => ?_⟩
    rw [← ht, List.getElem?_take] at hu
    split at hu
    · simpa [World.cell?, hg] using hu
    · cases hu
theorem Owned.form {w : World} {B : Nat} {e : TypeId} {k : Nat} {v : Value} {n : Nat} {cs : List Value} (h : Owned w B e k v n cs) : ∃ ad cap, v = .slice ad n cap := by
  obtain ⟨_, ad, cap, rfl, _⟩ := h; exact ⟨ad, cap, rfl⟩
theorem Owned.kept {w w' : World} {B : Nat} {e : TypeId} {k : Nat} {v : Value} {n : Nat} {cs : List Value} (h : Owned w B e k v n cs)
    (hb : ∀ g, myBlock v = some g → w'.heap[g]? = w.heap[g]?) : Owned w' B e k v n cs := by
  obtain ⟨hl, ad, cap, rfl, hn, hm, hc⟩ := h
  refine ⟨hl, ad, cap, rfl, hn, hm, ?_⟩
  rcases hc with hc | ⟨g, cur, rfl, hB, hg, hs, ht⟩
  · exact .inl hc
  · by_cases h0 : cap = 0
    · exact .inl h0
    · exact .inr ⟨g, cur, rfl, hB, by rw [hb g (by simp [myBlock, h0])]; exact hg, hs, ht⟩
theorem Owned.lt {w : World} {B : Nat} {e : TypeId} {k : Nat} {v : Value} {n : Nat} {cs : List Value} (h : Owned w B e k v n cs) {g : Nat} (hg : myBlock v = some g) : B ≤ g ∧ g < w.heap.size := by
  obtain ⟨hl, ad, cap, rfl, hn, hm, hc⟩ := h
  rcases hc with rfl | ⟨g', cur, rfl, hB, hg', hs, ht⟩
  · cases ad <;> simp [myBlock] at hg
  · by_cases h0 : cap = 0
    · subst h0; simp [myBlock] at hg
    · simp [myBlock, h0] at hg
      subst hg
      exact ⟨hB, (Array.getElem?_eq_some_iff.1 hg').1⟩
theorem Owned.ext {w w' : World} {B : Nat} {e : TypeId} {k : Nat} {v : Value} {n : Nat} {cs : List Value} (h : Owned w B e k v n cs) (hbl : Below w.heap.size w w') : Owned w' B e k v n cs :=
  h.kept fun g hg => hbl.block g (h.lt hg).2
theorem Owned.mono {w : World} {B B' : Nat} {e : TypeId} {k : Nat} {v : Value} {n : Nat} {cs : List Value} (h : Owned w B e k v n cs) (hB : B' ≤ B) : Owned w B' e k v n cs := by
  obtain ⟨hl, ad, cap, rfl, hn, hm, hc⟩ := h
  refine ⟨hl, ad, cap, rfl, hn, hm, ?_⟩
  rcases hc with hc | ⟨g, cur, rfl, hB', hg, hs, ht⟩
  · exact .inl hc
  · exact .inr ⟨g, cur, rfl, by omega, hg, hs, ht⟩
theorem Owned.alloc {w : World} {B : Nat} {e : TypeId} {k : Nat} {v : Value} {n : Nat} {cs : List Value} (h : Owned w B e k v n cs) (o : Obj) : Owned (w.alloc o) B e k v n cs :=
  h.ext ((Below.refl _ _).alloc (Nat.le_refl _) _)
theorem Reads.new (w : World) (cur : Array Value) (e : TypeId) (n k c : Nat) (h : cur.size = n * k) : Reads (w.alloc (.cells cur e)) (.slice (some ⟨w.heap.size, 0, none⟩) n c) n k cur.toList :=
  ⟨by simpa using h, _, _, rfl, fun _ => ⟨_, _, rfl, fun j u hu => by rw [World.cell?_alloc_new]; simpa using hu⟩⟩
theorem Owned.nil (w : World) (B : Nat) (e : TypeId) (k : Nat) (ad : Option Addr) : Owned w B e k (.slice ad 0 0) 0 [] :=
  ⟨by simp, ad, 0, rfl, Nat.le_refl _, by simp [maxLen], .inl rfl⟩
/-- What stood ahead is read still, through the older header. -/
theorem reads_of_prefix {w : World} {B : Nat} {e : TypeId} {k g m cap' n cap : Nat} {cs news : List Value} (h : Owned w B e k (.slice (some ⟨g, 0, none⟩) m cap') m (cs ++ news)) (hl : cs.length = n * k) : Reads w (.slice (some ⟨g, 0, none⟩) n cap) n k cs := by
  refine ⟨hl, _, _, rfl, fun _ => ⟨g, 0, rfl, fun j u hu => ?_⟩⟩
  obtain ⟨h1, ad, c, hv, h4⟩ := h.reads
  cases hv
  have hj : j < cs.length := (List.getElem?_eq_some_iff.1 hu).1
  have hm : 0 < m := by
    rcases Nat.eq_zero_or_pos m with h0 | h0
    · subst h0; simp at h1; rw [h1.1] at hj; simp at hj
    · exact h0
  obtain ⟨b, o, hb, hc⟩ := h4 hm
  cases hb
  exact hc j u (by rw [List.getElem?_append_left hj]; exact hu)
section
variable {P : Program} (w : World)
theorem run_append_owned (B : Nat) (t ty e : TypeId) (i : TypeInfo) (z : Value) (k bytes : Nat) (ht : P.underlying t = some (.slice e)) (hi : P.info? e = some i) (hz : i.zero = some z)
    (hsize : i.size = k) (hby : i.bytes = bytes) (hzs : z.cells.size = k) (hsz : 0 < k)
    (v : Value) (n : Nat) (cs : List Value) (hown : Owned w B e k v n cs)
    (a : Addr) (m c : Nat) (news : List Value) (hl : news.length = m * k) (hnews : ∀ j u, news[j]? = some u → w.cell? (a.add j) = some u) (h1 : ∀ u ∈ news, u.oneCell' = true)
    (h63 : n + m ≤ maxLen) (hbytes : (n + m) * bytes ≤ 140737488355328) (hbase : B ≤ w.heap.size) :
    ∃ v' w', (Builtin.append_ #[t, t] ty #[v, .slice (some a) m c]).run P w = .ok v' w' ∧ Owned w' B e k v' (n + m) (cs ++ news) ∧ w.grownBy w' (myBlock v) ∧
      (myBlock v' = myBlock v ∨ ∃ g, myBlock v' = some g ∧ w.heap.size ≤ g) ∧ (v = .slice none 0 0 → m ≠ 0 → ∃ g cap, v' = .slice (some ⟨g, 0, none⟩) m cap ∧ w.heap.size ≤ g) ∧ Reads w' v n k cs := by
  have hrd := hown.reads
  subst hsize
  subst hby
  have hsmall : n + m ≤ 9223372036854775807 := by simp only [maxLen] at h63; omega
  have hcl := hown.1
  have hlen : (cs ++ news).length = (n + m) * i.size := by rw [List.length_append, hcl, hl, Nat.add_mul]
  have grown : ∀ (old : Nat), old < n + m → ∀ (row : Option Nat),
      Owned (w.drew.alloc (.cells (cs.toArray ++ news.toArray ++ Builtin.zeroCells z.cells (grownCap w (n + m) old e - (n + m))) e)) B e i.size
        (.slice (some ⟨w.heap.size, 0, none⟩) (n + m) (grownCap w (n + m) old e)) (n + m) (cs ++ news) ∧
      w.grownBy (w.drew.alloc (.cells (cs.toArray ++ news.toArray ++ Builtin.zeroCells z.cells (grownCap w (n + m) old e - (n + m))) e)) row := by
    intro old ho row
    have hge := grownCap_ge w (n + m) old e
    have hcm : grownCap w (n + m) old e ≤ maxLen := grownCap_le_maxLen w (n + m) old e h63
    refine ⟨⟨hlen, _, _, rfl, hge, hcm, .inr ⟨w.heap.size, _, rfl, hbase, heap_alloc_new w.drew _, ?_, ?_⟩⟩, ⟨rfl, rfl, rfl, by simp, fun q hq _ => Below.heap_alloc w.drew _ q hq⟩⟩
    · simp only [Array.size_append, List.size_toArray, size_zeroCells, hzs, hcl, hl, ← Nat.add_mul]
      congr 1
      omega
    · simp only [Array.toList_append, List.append_assoc]
      rw [← List.append_assoc, ← hlen]
      exact List.take_left
  have hmine : ∀ old, old < n + m → myBlock (.slice (some ⟨w.heap.size, 0, none⟩) (n + m) (grownCap w (n + m) old e)) = some w.heap.size := by
    intro old ho
    have hge := grownCap_ge w (n + m) old e
    simp only [myBlock]
    rw [if_neg (by omega)]
  obtain ⟨_, ad, cap, rfl, hnc, hcm, hc⟩ := hown
  have hold : cap < n + m → ∃ a0 : Option Addr, ad = a0 := fun _ => ⟨ad, rfl⟩
  by_cases hroom : n + m ≤ cap
  · rcases hc with rfl | ⟨g, cur, rfl, hbg, hg, hcs, htake⟩
    · have hn0 : n = 0 := by omega
      have hm0 : m = 0 := by omega
      subst hn0; subst hm0
      have hx : cs = [] := List.eq_nil_of_length_eq_zero (by simpa using hcl)
      have hn : news = [] := List.eq_nil_of_length_eq_zero (by simpa using hl)
      subst hx; subst hn
      refine ⟨.slice ad 0 0, w, ?_, Owned.nil w B e _ ad, ⟨rfl, rfl, rfl, Nat.le_refl _, fun _ _ _ => rfl⟩, .inl rfl, fun _ h => absurd rfl h, hrd⟩
      cases ad <;> simp [Builtin.append_, run_underlying ht, sizeOf, typeInfo, hi, Builtin.lenOf, Builtin.firstCells, loadCells, loadCellsFrom, storeCells]
    · have hfit : n * i.size + news.length ≤ cur.size := by rw [hl, hcs, ← Nat.add_mul]; exact Nat.mul_le_mul_right _ hroom
      have hr := run_append_room (P := P) w t ty e i ht hi g n cap cur hg a m c news hl hnews h1 hroom hfit
      by_cases h0 : cap = 0
      · have hn0 : n = 0 := by omega
        have hm0 : m = 0 := by omega
        subst hn0; subst hm0; subst h0
        have hx : cs = [] := List.eq_nil_of_length_eq_zero (by simpa using hcl)
        have hn : news = [] := List.eq_nil_of_length_eq_zero (by simpa using hl)
        subst hx; subst hn
        have hcur : (List.take (0 * i.size) cur.toList ++ ([] : List Value) ++ List.drop (0 * i.size + ([] : List Value).length) cur.toList).toArray = cur := by simp
        refine ⟨_, _, hr, Owned.nil _ B e _ _, ?_, .inl rfl, (fun h => by cases h), (Owned.nil _ B e _ _).reads⟩
        rw [hcur, setRow_self w g cur e _ hg]
        exact ⟨rfl, rfl, rfl, Nat.le_refl _, fun _ _ _ => rfl⟩
      · have hnew : Owned (w.setRow g (cur.toList.take (n * i.size) ++ news ++ cur.toList.drop (n * i.size + news.length)).toArray) B e i.size (.slice (some ⟨g, 0, none⟩) (n + m) cap) (n + m) (cs ++ news) := by
          refine ⟨hlen, _, _, rfl, hroom, hcm, .inr ⟨g, _, rfl, hbg, setRow_heap w g cur _ e _ hg, ?_, ?_⟩⟩
          · simp only [List.size_toArray, List.length_append, List.length_take, List.length_drop, Array.length_toList]
            omega
          · rw [htake, ← hlen]
            exact List.take_left
        exact ⟨_, _, hr, hnew, ⟨rfl, rfl, rfl, by simp, fun q _ hq => setRow_other w g q _ (fun e => hq (by simp [myBlock, e, h0]))⟩, .inl (by simp [myBlock]), (fun h => by cases h), reads_of_prefix hnew hcl⟩
  · have hgr := grown cap (by omega) (myBlock (.slice ad n cap))
    have hkeep := hrd.ext ((Below.refl _ _).grown (grown cap (by omega) none).2 (Nat.le_refl _) (fun q hq => by cases hq))
    have hm' := hmine cap (by omega)
    cases ad with
    | none =>
      have hc0 : cap = 0 := by
        rcases hc with rfl | ⟨g, cur, hx, _⟩
        · rfl
        · cases hx
      subst hc0
      have hn0 : n = 0 := by omega
      subst hn0
      have hx : cs = [] := List.eq_nil_of_length_eq_zero (by simpa using hcl)
      subst hx
      have hr := run_append_nil (P := P) w t ty e i z ht hi hz a m c news hl hnews (by omega) (by omega) (by have hb := hbytes; simp only [Nat.zero_add] at hb; omega)
      simp only [Nat.zero_add, List.nil_append, Array.empty_append] at hgr hm' ⊢
      exact ⟨_, _, hr, hgr.1, hgr.2, .inr ⟨_, hm', Nat.le_refl _⟩, fun _ _ => ⟨_, _, rfl, Nat.le_refl _⟩, by simpa using hkeep⟩
    | some a0 =>
      have holds : ∀ j u, cs[j]? = some u → w.cell? (a0.add j) = some u := by
        rcases hc with rfl | ⟨g, cur, hx, _, hg, _, htake⟩
        · have hn0 : n = 0 := by omega
          subst hn0
          have hx : cs = [] := List.eq_nil_of_length_eq_zero (by simpa using hcl)
          subst hx
          intro j u hj; simp at hj
        · cases hx
          intro j u hu
          have hadd : (⟨g, 0, none⟩ : Addr).add j = ⟨g, j, none⟩ := by unfold Addr.add; split <;> simp_all
          rw [hadd, cell_of_row w g j cur e (0, 0) hg]
          rw [← htake, List.getElem?_take] at hu
          split at hu
          · simpa using hu
          · cases hu
      have hr := run_append_grow (P := P) w t ty e i z ht hi hz a0 n cap cs hcl holds a m c news hl hnews (by omega) (by omega) (growslice_fits (by omega) hbytes)
      exact ⟨_, _, hr, hgr.1, hgr.2, .inr ⟨_, hm', Nat.le_refl _⟩, (fun h => by cases h), hkeep⟩
theorem wpList_append_owned {ops : Array Oper} {rest : List Oper} {o : Oper} {a : Act} {Q : Exit → Act → World → Prop} (hgd : o.guard = none) (s x : Operand) (t : TypeId)
    (ho : o.op = .call { callee := .builtin .append, args := #[s, x], argTypes := #[t, t] })
    (B : Nat) (e : TypeId) (i : TypeInfo) (z : Value) (k bytes : Nat) (ht : P.underlying t = some (.slice e)) (hi : P.info? e = some i) (hz : i.zero = some z)
    (hsize : i.size = k) (hby : i.bytes = bytes) (hzs : z.cells.size = k) (hsz : 0 < k)
    (v : Value) (n : Nat) (cs : List Value) (hs : a.eval s = v) (hown : Owned w B e k v n cs)
    (ad : Addr) (m c : Nat) (news : List Value) (hx : a.eval x = .slice (some ad) m c) (hl : news.length = m * k) (hnews : ∀ j u, news[j]? = some u → w.cell? (ad.add j) = some u) (h1 : ∀ u ∈ news, u.oneCell' = true)
    (h63 : n + m ≤ maxLen) (hbytes : (n + m) * bytes ≤ 140737488355328) (hbase : B ≤ w.heap.size)
    (h : ∀ v' w', Owned w' B e k v' (n + m) (cs ++ news) → w.grownBy w' (myBlock v) → (myBlock v' = myBlock v ∨ ∃ g, myBlock v' = some g ∧ w.heap.size ≤ g) → wpList P ops Q rest (a.put o.dst v') w') : wpList P ops Q (o :: rest) a w := by
  refine wpList_plain hgd fun K hK => ?_
  obtain ⟨v', w', hr, h2, h3, h4, _⟩ := run_append_owned (P := P) w B t o.type e i z k bytes ht hi hz hsize hby hzs hsz v n cs hown ad m c news hl hnews h1 h63 hbytes hbase
  unfold Oper.wp execOp
  simp only [ho, resolve, invoke, builtin, Sem.run_bind, Sem.run_pure, Result.andThen_ok, List.map_toArray, List.map_cons, List.map_nil, hs, hx, hr]
  exact hK _ _ (h v' w' h2 h3 h4)
theorem grownBy_trans {a b c : World} {row : Option Nat} (h : a.grownBy b row) (h2 : b.grownBy c row) : a.grownBy c row :=
  ⟨h2.os.trans h.os, h2.tape.trans h.tape, h2.output.trans h.output, Nat.le_trans h.size h2.size, fun k hk hr => (h2.block k (Nat.lt_of_lt_of_le hk h.size) hr).trans (h.block k hk hr)⟩
theorem grownBy_drewN {a b : World} {row : Option Nat} (h : a.grownBy b row) (n : Nat) : a.grownBy (b.drewN n) row := ⟨h.os, h.tape, h.output, h.size, h.block⟩
theorem grownBy_set {a b : World} {g : Nat} (h : a.grownBy b (some g)) (i : Nat) (v : Value) : a.grownBy (b.setCell ⟨g, i, none⟩ v) (some g) :=
  ⟨h.os, h.tape, h.output, by simpa using h.size, fun k hk hr => (Below.heap_setCell _ _ _ _ (fun e => hr (by rw [e]))).trans (h.block k hk hr)⟩
/-- append of one element that was just laid in a block of its own. -/
theorem wpList_append1 {ops : Array Oper} {rest : List Oper} {o : Oper} {a : Act} {Q : Exit → Act → World → Prop} (hgd : o.guard = none) (s x : Operand) (t : TypeId)
    (ho : o.op = .call { callee := .builtin .append, args := #[s, x], argTypes := #[t, t] })
    (B : Nat) (e : TypeId) (i : TypeInfo) (z : Value) (k bytes : Nat) (ht : P.underlying t = some (.slice e)) (hi : P.info? e = some i) (hz : i.zero = some z)
    (hsize : i.size = k) (hby : i.bytes = bytes) (hzs : z.cells.size = k) (hsz : 0 < k)
    (v : Value) (n : Nat) (cs : List Value) (hs : a.eval s = v) (W : World) (hown : Owned W B e k v n cs)
    (cur : Array Value) (e' : TypeId) (hw : w = W.alloc (.cells cur e')) (g : Nat) (hg : W.heap.size = g) (hx : a.eval x = .slice (some ⟨g, 0, none⟩) 1 1) (hcur : cur.size = k) (h1 : ∀ u ∈ cur.toList, u.oneCell' = true)
    (h63 : n < 9007199254740992) (hbytes : (n + 1) * bytes ≤ 140737488355328) (hbase : B ≤ g)
    (h : ∀ v' w', Owned w' B e k v' (n + 1) (cs ++ cur.toList) → W.grownBy w' (myBlock v) → (myBlock v' = myBlock v ∨ ∃ g', myBlock v' = some g' ∧ g ≤ g') → wpList P ops Q rest (a.put o.dst v') w') : wpList P ops Q (o :: rest) a w := by
  subst hw; subst hg
  refine wpList_append_owned _ hgd s x t ho B e i z k bytes ht hi hz hsize hby hzs hsz v n cs hs (hown.alloc _) ⟨W.heap.size, 0, none⟩ 1 1 cur.toList hx (by simp [hcur]) ?_ h1 (by simp only [maxLen]; omega) hbytes (by simp; omega) ?_
  · intro j u hu
    have hadd : (⟨W.heap.size, 0, none⟩ : Addr).add j = ⟨W.heap.size, j, none⟩ := by unfold Addr.add; split <;> simp_all
    rw [hadd, World.cell?_alloc_new]
    simpa using hu
  · intro v' w' ho' hg' hb'
    refine h v' w' ho' (grownBy_trans (World.grownBy_alloc W _ _) hg') ?_
    rcases hb' with hb' | ⟨g', hb', hle⟩
    · exact .inl hb'
    · exact .inr ⟨g', hb', by simp at hle; omega⟩
theorem run_append_none (B : Nat) (t ty e : TypeId) (i : TypeInfo) (k : Nat) (ht : P.underlying t = some (.slice e)) (hi : P.info? e = some i) (_hsize : i.size = k)
    (v : Value) (n : Nat) (cs : List Value) (hown : Owned w B e k v n cs) (l c : Nat) (hl : l = 0) :
    (Builtin.append_ #[t, t] ty #[v, .slice none l c]).run P w = .ok v w := by
  subst hl
  obtain ⟨_, ad, cap, rfl, hnc, hcm, hc⟩ := hown
  cases ad <;> simp [Builtin.append_, run_underlying ht, sizeOf, typeInfo, hi, Builtin.lenOf, Builtin.firstCells, storeCells, hnc]
theorem Addr_add_lit (b o j : Nat) : (⟨b, o, none⟩ : Addr).add j = ⟨b, o + j, none⟩ := by unfold Addr.add; split <;> simp_all
/-- append of whatever slice reads as news. -/
theorem wpList_appendR {ops : Array Oper} {rest : List Oper} {o : Oper} {a : Act} {Q : Exit → Act → World → Prop} (hgd : o.guard = none) (s x : Operand) (t : TypeId)
    (ho : o.op = .call { callee := .builtin .append, args := #[s, x], argTypes := #[t, t] })
    (B : Nat) (e : TypeId) (i : TypeInfo) (z : Value) (k bytes : Nat) (ht : P.underlying t = some (.slice e)) (hi : P.info? e = some i) (hz : i.zero = some z)
    (hsize : i.size = k) (hby : i.bytes = bytes) (hzs : z.cells.size = k) (hsz : 0 < k)
    (v : Value) (n : Nat) (cs : List Value) (hs : a.eval s = v) (hown : Owned w B e k v n cs)
    (vx : Value) (m : Nat) (news : List Value) (hx : a.eval x = vx) (hr : Reads w vx m k news) (h1 : ∀ u ∈ news, u.oneCell' = true)
    (h63 : n + m ≤ maxLen) (hbytes : (n + m) * bytes ≤ 140737488355328) (hbase : B ≤ w.heap.size)
    (h : ∀ v' w', Owned w' B e k v' (n + m) (cs ++ news) → w.grownBy w' (myBlock v) → (myBlock v' = myBlock v ∨ ∃ g, myBlock v' = some g ∧ w.heap.size ≤ g) → wpList P ops Q rest (a.put o.dst v') w') : wpList P ops Q (o :: rest) a w := by
  obtain ⟨hl, ad, c, rfl, hc⟩ := hr
  rcases Nat.eq_zero_or_pos m with rfl | hm
  · have hn : news = [] := List.eq_nil_of_length_eq_zero (by simpa using hl)
    subst hn
    cases ad with
    | none =>
      refine wpList_plain hgd fun K hK => ?_
      have hr := run_append_none (P := P) w B t o.type e i k ht hi hsize v n cs hown 0 c rfl
      unfold Oper.wp execOp
      simp only [ho, resolve, invoke, builtin, Sem.run_bind, Sem.run_pure, Result.andThen_ok, List.map_toArray, List.map_cons, List.map_nil, hs, hx, hr]
      exact hK _ _ (h v w (by simpa using hown) ⟨rfl, rfl, rfl, Nat.le_refl _, fun _ _ _ => rfl⟩ (.inl rfl))
    | some a0 => exact wpList_append_owned w hgd s x t ho B e i z k bytes ht hi hz hsize hby hzs hsz v n cs hs hown a0 0 c [] hx (by simp) (by intro j u hj; simp at hj) h1 h63 hbytes hbase h
  · obtain ⟨b, o', rfl, hcell⟩ := hc hm
    exact wpList_append_owned w hgd s x t ho B e i z k bytes ht hi hz hsize hby hzs hsz v n cs hs hown _ m c news hx hl (by intro j u hj; rw [Addr_add_lit]; exact hcell j u hj) h1 h63 hbytes hbase h
theorem madeCells_eq (z : Array Value) (k n : Nat) (hz : z.size = k) (hk : 0 < k) : madeCells z (n * k) = (List.replicate n z.toList).flatten.toArray := by
  apply Array.toList_inj.1
  simp only [madeCells, Array.toList_map, Array.toList_range]
  subst hz
  induction n with
  | zero => simp
  | succ n ih =>
    rw [List.replicate_succ', List.flatten_append, Nat.succ_mul, List.range_add, List.map_append, ih]
    congr 1
    simp only [List.flatten_cons, List.flatten_nil, List.append_nil, List.map_map]
    apply List.ext_getElem
    · simp
    · intro i h1 h2
      simp only [List.getElem_map, List.getElem_range, Function.comp, Array.getElem_toList]
      have hi : i < z.size := by simpa using h1
      have : (n * z.size + i) % z.size = i := by rw [Nat.mul_comm, Nat.mul_add_mod]; exact Nat.mod_eq_of_lt hi
      rw [this]; exact getElem!_pos z i hi
/-- make of n elements. -/
theorem wpList_makeR {ops : Array Oper} {rest : List Oper} {o : Oper} {a : Act} {Q : Exit → Act → World → Prop} (hgd : o.guard = none) (x y : Operand) (t : TypeId)
    (ho : o.op = .makeSlice t x y) (e : TypeId) (i : TypeInfo) (z : Value) (k bytes : Nat) (ht : P.underlying t = some (.slice e)) (hi : P.info? e = some i) (hz : i.zero = some z)
    (hsize : i.size = k) (hby : i.bytes = bytes) (hzs : z.cells.size = k) (hsz : 0 < k) (n : Nat) (hx : a.eval x = .int .i64 n) (hy : a.eval y = .int .i64 n)
    (h63 : n ≤ 9223372036854775807) (hbytes : n * bytes ≤ 281474976710656)
    (h : wpList P ops Q rest (a.put o.dst (.slice (some ⟨w.heap.size, 0, none⟩) n n)) (w.alloc (.cells (List.replicate n z.cells.toList).flatten.toArray e))) : wpList P ops Q (o :: rest) a w := by
  refine wpList_plain hgd fun K hK => ?_
  subst hsize; subst hby
  have hb' : (i.bytes : Int) * (n : Int) ≤ 281474976710656 := by
    have h : ((i.bytes * n : Nat) : Int) ≤ 281474976710656 := by rw [Nat.mul_comm]; omega
    rwa [Int.natCast_mul] at h
  have hr := run_make (P := P) w t e i z ht hi hz .i64 .i64 n n (by omega) (Int.le_refl _) hb' (by omega)
  simp only [Int.toNat_natCast] at hr
  rw [madeCells_eq z.cells i.size n hzs hsz] at hr
  unfold Oper.wp
  simp [execOp, ho, hx, hy, hr, Result.andThen]
  exact hK _ _ h
end
/-! A block that is known whole. -/
def Row (w : World) (g : Nat) (e : TypeId) (cs : List Value) : Prop := w.heap[g]? = some (.cells cs.toArray e (0, 0))
theorem Row.lt {w : World} {g : Nat} {e : TypeId} {cs : List Value} (h : Row w g e cs) : g < w.heap.size := (Array.getElem?_eq_some_iff.1 h).1
theorem Row.cell {w : World} {g : Nat} {e : TypeId} {cs : List Value} (h : Row w g e cs) (i : Nat) : w.cell? ⟨g, i, none⟩ = cs[i]? := by
  unfold Row at h; simp [World.cell?, h]
theorem Row.free {w : World} {g : Nat} {e : TypeId} {cs : List Value} (h : Row w g e cs) (i : Nat) : w.frozen? ⟨g, i, none⟩ = false := by
  unfold Row at h; simp [World.frozen?, h]
theorem Row.same {w w' : World} {g : Nat} {e : TypeId} {cs : List Value} (h : Row w g e cs) (hb : w'.heap[g]? = w.heap[g]?) : Row w' g e cs := hb.trans h
theorem Row.ext {w w' : World} {g : Nat} {e : TypeId} {cs : List Value} (h : Row w g e cs) (hb : Below w.heap.size w w') : Row w' g e cs := h.same (hb.block g h.lt)
theorem Row.below {w w' : World} {g : Nat} {e : TypeId} {cs : List Value} {B : Nat} (h : Row w g e cs) (hb : Below B w w') (hg : g < B) : Row w' g e cs := h.same (hb.block g hg)
theorem Row.alloc {w : World} {g : Nat} {e : TypeId} {cs : List Value} (h : Row w g e cs) (o : Obj) : Row (w.alloc o) g e cs := h.ext ((Below.refl _ _).alloc (Nat.le_refl _) _)
theorem Row.drew {w : World} {g : Nat} {e : TypeId} {cs : List Value} (h : Row w g e cs) : Row w.drew g e cs := h
theorem Row.grown {w w' : World} {g : Nat} {e : TypeId} {cs : List Value} {r : Option Nat} (h : Row w g e cs) (hg : w.grownBy w' r) (hr : r ≠ some g) : Row w' g e cs :=
  h.same (hg.block g h.lt (fun e => hr e.symm))
theorem Row.new (w : World) (cs : List Value) (e : TypeId) : Row (w.alloc (.cells cs.toArray e)) w.heap.size e cs := heap_alloc_new w _
theorem Row.newA (w : World) (cur : Array Value) (e : TypeId) : Row (w.alloc (.cells cur e)) w.heap.size e cur.toList := heap_alloc_new w _
theorem Row.set {w : World} {g : Nat} {e : TypeId} {cs : List Value} (h : Row w g e cs) (i : Nat) (v : Value) : Row (w.setCell ⟨g, i, none⟩ v) g e (cs.set i v) := by
  unfold Row at *
  simp [World.setCell, Array.getElem?_modify, h]
theorem Row.other {w : World} {g : Nat} {e : TypeId} {cs : List Value} (h : Row w g e cs) (a : Addr) (v : Value) (hne : g ≠ a.block) : Row (w.setCell a v) g e cs := by
  unfold Row at *
  rw [Below.heap_setCell _ _ _ _ hne]; exact h
theorem Row.cellsAt {w : World} {g : Nat} {e : TypeId} {cs : List Value} (h : Row w g e cs) (o n : Nat) : CellsAt w g o ((cs.drop o).take n) := by
  intro j u hu
  rw [List.getElem?_take] at hu
  split at hu
  · rw [List.getElem?_drop] at hu; rw [h.cell, hu]
  · cases hu
theorem Row.cellsAt' {w : World} {g : Nat} {e : TypeId} {a b : List Value} (h : Row w g e (a ++ b)) : CellsAt w g 0 a := by
  intro j u hu
  rw [h.cell, Nat.zero_add, List.getElem?_append_left (List.getElem?_eq_some_iff.1 hu).1]; exact hu
theorem Owned.row {w : World} {B : Nat} {e : TypeId} {k : Nat} {v : Value} {n : Nat} {cs : List Value} (h : Owned w B e k v n cs) (h0 : 0 < n) :
    ∃ g cap rest, v = .slice (some ⟨g, 0, none⟩) n cap ∧ n ≤ cap ∧ cap ≤ maxLen ∧ B ≤ g ∧ Row w g e (cs ++ rest) ∧ rest.length = (cap - n) * k ∧ myBlock v = some g := by
  obtain ⟨hl, ad, cap, rfl, hn, hm, hc⟩ := h
  rcases hc with rfl | ⟨g, cur, rfl, hB, hg, hs, ht⟩
  · omega
  · refine ⟨g, cap, cur.toList.drop (n * k), rfl, hn, hm, hB, ?_, ?_, ?_⟩
    · unfold Row; rw [← ht, List.take_append_drop]; exact hg
    · simp [hs, Nat.sub_mul]
    · simp only [myBlock]; rw [if_neg (by omega)]
theorem Owned.ofRow {w : World} {B : Nat} {e : TypeId} {k n cap g : Nat} {cs rest : List Value} (h : Row w g e (cs ++ rest)) (hl : cs.length = n * k) (hr : rest.length = (cap - n) * k) (hn : n ≤ cap) (hm : cap ≤ maxLen) (hB : B ≤ g) :
    Owned w B e k (.slice (some ⟨g, 0, none⟩) n cap) n cs :=
  ⟨hl, _, _, rfl, hn, hm, .inr ⟨g, _, rfl, hB, h, by simp only [List.size_toArray, List.length_append, hl, hr, ← Nat.add_mul]; congr 1; omega, by simp [← hl]⟩⟩
/-- What a list of encoded things has at a place. -/
theorem flat_get {α : Type} (enc : α → List Value) (k : Nat) (hk : ∀ x, (enc x).length = k) (l : List α) (i : Nat) (x : α) (hx : l[i]? = some x) (j : Nat) (hj : j < k) (rest : List Value) :
    (l.flatMap enc ++ rest)[i * k + j]? = (enc x)[j]? := by
  induction l generalizing i with
  | nil => simp at hx
  | cons y l ih =>
    cases i with
    | zero =>
      simp at hx; subst hx
      simp only [List.flatMap_cons, List.append_assoc, Nat.zero_mul, Nat.zero_add]
      rw [List.getElem?_append_left (by rw [hk]; exact hj)]
    | succ i =>
      simp only [List.flatMap_cons, List.append_assoc]
      rw [List.getElem?_append_right (by rw [hk, Nat.succ_mul]; omega), hk, show (i + 1) * k + j - k = i * k + j by rw [Nat.succ_mul]; omega]
      exact ih i (by simpa using hx)
theorem flat_len {α : Type} (enc : α → List Value) (k : Nat) (hk : ∀ x, (enc x).length = k) (l : List α) : (l.flatMap enc).length = l.length * k := by
  induction l with
  | nil => simp
  | cons y l ih => simp only [List.flatMap_cons, List.length_append, hk, ih, List.length_cons, Nat.succ_mul]; omega
theorem flat_take {α : Type} (enc : α → List Value) (k : Nat) (hk : ∀ x, (enc x).length = k) (l : List α) (n : Nat) : (l.take n).flatMap enc = (l.flatMap enc).take (n * k) := by
  induction l generalizing n with
  | nil => simp
  | cons y l ih =>
    cases n with
    | zero => simp
    | succ n =>
      simp only [List.take_succ_cons, List.flatMap_cons, ih]
      rw [List.take_append, hk, Nat.succ_mul, show n * k + k - k = n * k by omega, List.take_of_length_le (l := enc y) (by rw [hk]; omega)]
theorem flat_drop {α : Type} (enc : α → List Value) (k : Nat) (hk : ∀ x, (enc x).length = k) (l : List α) (n : Nat) : (l.drop n).flatMap enc = (l.flatMap enc).drop (n * k) := by
  induction l generalizing n with
  | nil => simp
  | cons y l ih =>
    cases n with
    | zero => simp
    | succ n =>
      simp only [List.drop_succ_cons, List.flatMap_cons, ih]
      rw [List.drop_append, hk, Nat.succ_mul, show n * k + k - k = n * k by omega, List.drop_of_length_le (l := enc y) (by rw [hk]; omega), List.nil_append]
/-- Cells from a place on written over. -/
def putAll (l : List Value) (s : Nat) : List Value → List Value
  | [] => l
  | v :: vs => putAll (l.set s v) (s + 1) vs
theorem putAll_eq (l : List Value) (s : Nat) (vs : List Value) (h : s + vs.length ≤ l.length) : putAll l s vs = l.take s ++ vs ++ l.drop (s + vs.length) := by
  induction vs generalizing l s with
  | nil => simp [putAll]
  | cons v vs ih =>
    simp only [List.length_cons] at h
    rw [putAll, ih _ _ (by simp; omega)]
    rw [show s + (v :: vs).length = s + 1 + vs.length by simp; omega]
    rw [List.drop_set_of_lt (by omega), List.take_add_one, List.take_set_of_le (by omega)]
    simp [List.getElem?_set_self (show s < l.length by omega)]
theorem flat_set {α : Type} (enc : α → List Value) (k : Nat) (hk : ∀ x, (enc x).length = k) (l : List α) (i : Nat) (x : α) (hi : i < l.length) (rest : List Value) :
    putAll (l.flatMap enc ++ rest) (i * k) (enc x) = (l.set i x).flatMap enc ++ rest := by
  have hl := flat_len enc k hk l
  have h2 : (i + 1) * k ≤ l.length * k := Nat.mul_le_mul_right _ hi
  rw [Nat.succ_mul] at h2
  rw [putAll_eq _ _ _ (by rw [List.length_append, hl, hk]; omega), hk]
  rw [List.take_append_of_le_length (by omega), List.drop_append_of_le_length (by omega)]
  rw [List.set_eq_take_append_cons_drop, if_pos hi, List.flatMap_append, List.flatMap_cons, flat_take enc k hk, flat_drop enc k hk, Nat.succ_mul]
  simp [List.append_assoc]
section
variable {P : Program} (w : World)
theorem zeroCells_eq (z : Array Value) (n : Nat) (hz : 0 < z.size) : Builtin.zeroCells z n = (List.replicate n z.toList).flatten.toArray := by
  rw [← madeCells_eq z z.size n rfl hz]; rfl
/-- clear over part of a block that is known whole. -/
theorem wpList_clearR {ops : Array Oper} {rest : List Oper} {o : Oper} {a : Act} {Q : Exit → Act → World → Prop} (hgd : o.guard = none) (x : Operand) (t : TypeId)
    (ho : o.op = .call { callee := .builtin .clear, args := #[x], argTypes := #[t] }) (e : TypeId) (i : TypeInfo) (z : Value) (k : Nat) (ht : P.underlying t = some (.slice e)) (hi : P.info? e = some i) (hz : i.zero = some z)
    (hzs : z.cells.size = k) (hsz : 0 < k) (h1 : ∀ u ∈ z.cells.toList, u.oneCell' = true) (g off n c : Nat) (e' : TypeId) (cs : List Value) (hx : a.eval x = .slice (some ⟨g, off, none⟩) n c) (hrow : Row w g e' cs) (hn : 0 < n) (hfit : off + n * k ≤ cs.length)
    (h : ∀ w', Row w' g e' (cs.take off ++ (List.replicate n z.cells.toList).flatten ++ cs.drop (off + n * k)) → w.grownBy w' (some g) → wpList P ops Q rest (a.put o.dst (.tuple #[])) w') : wpList P ops Q (o :: rest) a w := by
  refine wpList_plain hgd fun K hK => ?_
  obtain ⟨m, rfl⟩ : ∃ m, n = m + 1 := ⟨n - 1, by omega⟩
  have hfl : (List.replicate (m + 1) z.cells.toList).flatten.length = (m + 1) * k := by simp [List.length_flatten, hzs]
  have hst := run_storeCells_at P g off e' (List.replicate (m + 1) z.cells.toList).flatten 0 cs.toArray w hrow (by simp only [hfl, List.size_toArray]; omega) (by
    intro v hv
    simp only [List.mem_flatten, List.mem_replicate] at hv
    obtain ⟨l, ⟨_, rfl⟩, hv⟩ := hv
    exact h1 v hv)
  simp only [Nat.add_zero] at hst
  have hr : (Builtin.clear_ #[t] o.type #[.slice (some ⟨g, off, none⟩) (m + 1) c]).run P w = .ok (.tuple #[]) (w.setRow g (cs.take off ++ (List.replicate (m + 1) z.cells.toList).flatten ++ cs.drop (off + (List.replicate (m + 1) z.cells.toList).flatten.length)).toArray) := by
    simp [Builtin.clear_, run_underlying ht, zeroValue, typeInfo, hi, hz, zeroCells_eq z.cells (m + 1) (by omega), hst]
  unfold Oper.wp execOp
  simp only [ho, resolve, invoke, builtin, Sem.run_bind, Sem.run_pure, Result.andThen_ok, List.map_toArray, List.map_cons, List.map_nil, hx, hr]
  refine hK _ _ (h _ ?_ ⟨rfl, rfl, rfl, by simp, fun q _ hq => setRow_other w g q _ (fun e => hq (by rw [e]))⟩)
  rw [hfl]
  exact setRow_heap w g cs.toArray _ e' _ hrow
end
/-! '==' and '!=' at structs of ints. -/
section
variable {P : Program} (w : World)
theorem run_part_int (T : TypeId) (k : IntKind) (hT : P.underlying T = some (.int k)) (xs : Array Value) (o : Nat) (v : Value) (h : xs[o]? = some v) : (part T xs o).run P w = .ok v w := by
  simp [part, isAgg, run_underlying hT, h]
theorem eqFields_cons (d : Nat) (xs ys : Array Value) (f : Field) (fs : List Field) (T : TypeId) (hT : P.underlying T = some (.int .i64)) (o : Nat) (a b : Int) (h0 : (f.name != "_", f.type, f.offset) = (true, T, o))
    (hx : xs[o]? = some (.int .i64 a)) (hy : ys[o]? = some (.int .i64 b)) :
    (Op.eqFields (d + 1) xs ys (f :: fs)).run P w = if (a == b) = true then (Op.eqFields (d + 1) xs ys fs).run P w else .ok false w := by
  simp only [Prod.mk.injEq] at h0
  obtain ⟨h1, h2, h3⟩ := h0
  subst h3; subst h2
  have hn : f.name ≠ "_" := by simpa using h1
  simp only [Op.eqFields, hn, ne_eq, not_false_eq_true, if_true, Sem.run_bind, run_part_int w f.type .i64 hT _ _ _ hx, run_part_int w f.type .i64 hT _ _ _ hy, Result.andThen_ok, run_equalIn_int w d f.type .i64 .i64 a b hT, Sem.run_ite]
  by_cases h : a = b <;> simp [h]
theorem run_eqlF (t T : TypeId) (hT : P.underlying T = some (.int .i64)) (ht : P.underlying t = some (.struct (P.fieldsOf t))) (hp : P.stoodInHeld t = false) (l : List Nat) (hf : (P.fieldsOf t).toList.map (fun f => (f.name != "_", f.type, f.offset)) = l.map (fun o => (true, T, o)))
    (xs ys : Array Value) (as bs : Nat → Int) (hx : ∀ o ∈ l, xs[o]? = some (.int .i64 (as o))) (hy : ∀ o ∈ l, ys[o]? = some (.int .i64 (bs o))) :
    (Op.equalIn 10000 t (.agg xs) (.agg ys)).run P w = .ok (l.all (fun o => as o == bs o)) w := by
  rw [show (10000 : Nat) = 9999 + 1 from rfl, run_equalIn_struct w 9999 t xs ys ht hp]
  generalize (P.fieldsOf t).toList = fs at hf
  clear ht
  induction fs generalizing l with
  | nil =>
    cases l with
    | nil => simp [Op.eqFields]
    | cons o l => simp at hf
  | cons f fs ih =>
    cases l with
    | nil => simp at hf
    | cons o l =>
      simp only [List.map_cons, List.cons.injEq] at hf
      rw [show (9999 : Nat) = 9998 + 1 from rfl, eqFields_cons w 9998 xs ys f fs T hT o (as o) (bs o) hf.1 (hx o (by simp)) (hy o (by simp))]
      by_cases h : as o = bs o
      · simp only [h, beq_self_eq_true, if_true, List.all_cons, Bool.true_and]
        exact ih l (fun q hq => hx q (by simp [hq])) (fun q hq => hy q (by simp [hq])) hf.2
      · simp [h]
end
theorem Row.c2 {w : World} {g : Nat} {e : TypeId} {a b : Value} (h : Row w g e [a, b]) : w.cell? ⟨g, 0, none⟩ = some a ∧ w.cell? ⟨g, 1, none⟩ = some b := ⟨h.cell 0, h.cell 1⟩
theorem Row.c3 {w : World} {g : Nat} {e : TypeId} {a b c : Value} (h : Row w g e [a, b, c]) : w.cell? ⟨g, 0, none⟩ = some a ∧ w.cell? ⟨g, 1, none⟩ = some b ∧ w.cell? ⟨g, 2, none⟩ = some c := ⟨h.cell 0, h.cell 1, h.cell 2⟩
theorem Row.c4 {w : World} {g : Nat} {e : TypeId} {a b c d : Value} (h : Row w g e [a, b, c, d]) : w.cell? ⟨g, 0, none⟩ = some a ∧ w.cell? ⟨g, 1, none⟩ = some b ∧ w.cell? ⟨g, 2, none⟩ = some c ∧ w.cell? ⟨g, 3, none⟩ = some d := ⟨h.cell 0, h.cell 1, h.cell 2, h.cell 3⟩
theorem Row.f2 {w : World} {g : Nat} {e : TypeId} {cs : List Value} (h : Row w g e cs) : w.frozen? ⟨g, 0, none⟩ = false ∧ w.frozen? ⟨g, 1, none⟩ = false := ⟨h.free 0, h.free 1⟩
theorem Row.f3 {w : World} {g : Nat} {e : TypeId} {cs : List Value} (h : Row w g e cs) : w.frozen? ⟨g, 0, none⟩ = false ∧ w.frozen? ⟨g, 1, none⟩ = false ∧ w.frozen? ⟨g, 2, none⟩ = false := ⟨h.free 0, h.free 1, h.free 2⟩
theorem Row.f4 {w : World} {g : Nat} {e : TypeId} {cs : List Value} (h : Row w g e cs) : w.frozen? ⟨g, 0, none⟩ = false ∧ w.frozen? ⟨g, 1, none⟩ = false ∧ w.frozen? ⟨g, 2, none⟩ = false ∧ w.frozen? ⟨g, 3, none⟩ = false := ⟨h.free 0, h.free 1, h.free 2, h.free 3⟩
theorem Below.chain {w w1 w2 : World} (h : Below w.heap.size w w1) (h2 : Below w1.heap.size w1 w2) : Below w.heap.size w w2 := h.trans (h2.mono h.size)
/-! Results that lie in memory. -/
theorem run_loadCells_row {P : Program} {w : World} {g : Nat} {e : TypeId} {cs : List Value} (h : Row w g e cs) : (loadCells ⟨g, 0, none⟩ cs.length).run P w = .ok cs.toArray w := by
  have hr := run_firstCells_some (P := P) w 1 cs.length ⟨g, 0, none⟩ 0 0 cs (by simp) (fun j v hv => by rw [Addr_add_lit, Nat.zero_add, h.cell]; exact hv)
  simpa [Builtin.firstCells] using hr
theorem run_loadVar_row {P : Program} {w : World} {g : Nat} {e : TypeId} {cs : List Value} (h : Row w g e cs) {ty : TypeId} {k : Nat} (ha : ∀ w, (isAgg ty).run P w = .ok true w) (hz : ∀ w, (sizeOf ty).run P w = .ok k w) (hk : cs.length = k) :
    (loadVar ty ⟨g, 0, none⟩).run P w = .ok (.agg cs.toArray) w := by
  subst hk
  simp [loadVar, Sem.run_bind, ha, hz, run_loadCells_row h, Result.andThen]
theorem results_cell1 {P : Program} {fn : Func} {p : Tmp} {ty : TypeId} (hres : fn.results = #[.cell p ty]) {a : Act} {w : World} {g : Nat} {e : TypeId} {cs : List Value} {k : Nat} (h : Row w g e cs)
    (ha : ∀ w, (isAgg ty).run P w = .ok true w) (hz : ∀ w, (sizeOf ty).run P w = .ok k w) (hk : cs.length = k) (hp : a.tmps.getD p undef = .pointer (some ⟨g, 0, none⟩)) :
    (results fn a.tmps).run P w = .ok (.agg cs.toArray) w := by
  have hp' : a.tmps[p]?.getD undef = .pointer (some ⟨g, 0, none⟩) := by simpa using hp
  simp [results, hres, hp', Sem.run_bind, Result.andThen, asAddr, run_loadVar_row h ha hz hk]
theorem results_cell2 {P : Program} {fn : Func} {p u : Tmp} {ty : TypeId} (hres : fn.results = #[.cell p ty, .tmp u]) {a : Act} {w : World} {g : Nat} {e : TypeId} {cs : List Value} {k : Nat} {v : Value} (h : Row w g e cs)
    (ha : ∀ w, (isAgg ty).run P w = .ok true w) (hz : ∀ w, (sizeOf ty).run P w = .ok k w) (hk : cs.length = k) (hp : a.tmps.getD p undef = .pointer (some ⟨g, 0, none⟩)) (hu : a.tmps.getD u undef = v) :
    (results fn a.tmps).run P w = .ok (.tuple #[.agg cs.toArray, v]) w := by
  rw [results_cell_tmp hres, hp, hu]
  simp [Result.andThen, asAddr, run_loadVar_row h ha hz hk]
end Go.Proofs.YtkknklagoghljaaGreatDoor
