/- The document's own: Out. -/
import Derived.Test.YtkknklagoghljaaGreatDoorRefSort
import Derived.Test.YtkknklagoghljaaGreatDoorOps
import Derived.Test.YtkknklagoghljaaGreatDoorBook3
namespace Go.Proofs.YtkknklagoghljaaGreatDoor
open Go.RowKit
open Go.RowKit (Below)
theorem outs_snoc (l : List Edg) (e : Edg) (i : Int) : outs (l ++ [e]) i = outs l i ++ (if e.fr = i then [toF e] else []) := by
  unfold outs; rw [List.filter_append]; by_cases h : e.fr = i <;> simp [h]
/-- Rows of steps, one behind the other, apart. -/
structure RowsMem (w : World) (B B1 g N : Nat) (hv : Nat → Value) (R : Nat → List Stp) : Prop where
  base : B ≤ g
  low : g < B1
  row : Row w g 46 ((List.range N).map hv)
  itm : ∀ i, i < N → Owned w B1 85 2 (hv i) (R i).length ((R i).flatMap encS)
  apt : ∀ i j q, i < N → j < N → myBlock (hv i) = some q → myBlock (hv j) = some q → i = j
theorem RowsMem.ext {w w' : World} {B B1 g N : Nat} {hv : Nat → Value} {R : Nat → List Stp} (h : RowsMem w B B1 g N hv R) (hb : Below w.heap.size w w') : RowsMem w' B B1 g N hv R :=
  ⟨h.base, h.low, h.row.ext hb, fun i hi => (h.itm i hi).ext hb, h.apt⟩
theorem RowsMem.cell {w : World} {B B1 g N : Nat} {hv : Nat → Value} {R : Nat → List Stp} (h : RowsMem w B B1 g N hv R) {i : Nat} (hi : i < N) : w.cell? ⟨g, i, none⟩ = some (hv i) := by
  rw [h.row.cell i, List.getElem?_map, List.getElem?_range hi]; rfl
theorem RowsMem.put {w w1 : World} {B B1 g N : Nat} {hv : Nat → Value} {R : Nat → List Stp} (h : RowsMem w B B1 g N hv R) (f : Nat) (hf : f < N) (v : Value) (l : List Stp)
    (ho : Owned w1 B1 85 2 v l.length (l.flatMap encS)) (hg : w.grownBy w1 (myBlock (hv f))) (hm : myBlock v = myBlock (hv f) ∨ ∃ q, myBlock v = some q ∧ w.heap.size ≤ q) :
    RowsMem (w1.setCell ⟨g, f, none⟩ v) B B1 g N (upd hv f v) (upd R f l) := by
  have hne : myBlock (hv f) ≠ some g := fun e => by have := ((h.itm f hf).lt e).1; have := h.low; omega
  have hlow := h.low
  refine ⟨h.base, h.low, ?_, fun i hi => ?_, fun i j q hi hj h1 h2 => ?_⟩
  · rw [← range_upd]; exact (h.row.grown hg hne).set f v
  · by_cases hif : i = f
    · subst hif; rw [upd_same, upd_same]
      exact ho.kept fun q hq => Below.heap_setCell _ _ _ _ (by have := (ho.lt hq).1; simp only; omega)
    · rw [upd_other _ _ hif, upd_other _ _ hif]
      refine ((h.itm i hi).kept (w' := w1) fun q hq => hg.block q ((h.itm i hi).lt hq).2 fun e => hif (h.apt i f q hi hf hq e.symm)).kept fun q hq => ?_
      exact Below.heap_setCell _ _ _ _ (by have := ((h.itm i hi).lt hq).1; simp only; omega)
  · by_cases hif : i = f
    · by_cases hjf : j = f
      · omega
      · subst hif
        rw [upd_same] at h1
        rw [upd_other _ _ hjf] at h2
        rcases hm with hm | ⟨q', hm, hq'⟩
        · rw [hm] at h1; exact (h.apt j i q hj hi h2 h1).symm
        · rw [hm] at h1; injection h1 with h1; have := ((h.itm j hj).lt h2).2; omega
    · rw [upd_other _ _ hif] at h1
      by_cases hjf : j = f
      · subst hjf
        rw [upd_same] at h2
        rcases hm with hm | ⟨q', hm, hq'⟩
        · rw [hm] at h2; exact h.apt i j q hi hj h1 h2
        · rw [hm] at h2; injection h2 with h2; have := ((h.itm i hi).lt h1).2; omega
      · rw [upd_other _ _ hjf] at h2
        exact h.apt i j q hi hj h1 h2
/-- All that stood is as it was, but for one block. -/
def Kp (w w' : World) (g : Nat) : Prop := w.heap.size ≤ w'.heap.size ∧ ∀ q, q < w.heap.size → q ≠ g → w'.heap[q]? = w.heap[q]?
theorem Kp.refl (w : World) (g : Nat) : Kp w w g := ⟨Nat.le_refl _, fun _ _ _ => rfl⟩
theorem Kp.drew {w w' : World} {g : Nat} (h : Kp w w' g) : Kp w w'.drew g := h
theorem Kp.grown {w w1 w2 : World} {g : Nat} {r : Option Nat} (h : Kp w w1 g) (hg : w1.grownBy w2 r) (hr : ∀ q, r = some q → w.heap.size ≤ q) : Kp w w2 g :=
  ⟨Nat.le_trans h.1 hg.size, fun q hq hne => (hg.block q (Nat.lt_of_lt_of_le hq h.1) fun e => by have := hr q e.symm; omega).trans (h.2 q hq hne)⟩
theorem Kp.set {w w1 : World} {g : Nat} (h : Kp w w1 g) (i : Nat) (v : Value) : Kp w (w1.setCell ⟨g, i, none⟩ v) g :=
  ⟨by simpa using h.1, fun q hq hne => (Below.heap_setCell _ _ _ _ (by simpa using hne)).trans (h.2 q hq hne)⟩
theorem CellsAt.kp {w w1 : World} {g b o : Nat} {cs : List Value} (h : CellsAt w b o cs) (hk : Kp w w1 g) (hb : b < w.heap.size) (hne : b ≠ g) : CellsAt w1 b o cs := h.same (hk.2 b hb hne)
def OutPost (E : List Edg) (N : Nat) (w : World) (e : Ending) (w' : World) : Prop :=
  ∃ g hv, e = .returned (.slice (some ⟨g, 0, none⟩) N N) ∧ Below w.heap.size w w' ∧ ∃ B1, RowsMem w' w.heap.size B1 g N hv (fun i => outs (normE E) i)
set_option maxRecDepth 100000 in
set_option maxHeartbeats 4000000 in
theorem outR_any (N : Nat) (L st : Int) (E : List Edg) (ad : Option Addr) (c : Nat) (w : World) (hr : Reads w (.slice ad E.length c) E.length 3 (E.flatMap encE)) (hc : E.length ≤ c) (hE : E.length ≤ 100000000) (hN : N ≤ 100000000)
    (hrng : ∀ e ∈ E, 0 ≤ e.fr ∧ e.fr < N) :
    Calls Tryz.prog 20 #[.agg #[.int .i64 N, .int .i64 L, .int .i64 st, .slice ad E.length c]] w (OutPost E N w) := by
  have hrB := Row.newA w #[.int .i64 N, .int .i64 L, .int .i64 st, .slice ad E.length c] 24
  have hbB : Below w.heap.size w (w.alloc (.cells #[.int .i64 N, .int .i64 L, .int .i64 st, .slice ad E.length c] 24)) := (Below.refl _ _).alloc (Nat.le_refl _) _
  have hsort := Lib.hid (fun w' (hb : Below w.heap.size w w') => sortedR_any E.length E ad c w' (Nat.le_refl _) hE hc (hr.ext hb))
  obtain ⟨m0, hm0⟩ : ∃ m0, m0 = E.length := ⟨_, rfl⟩
  rw [← hm0] at hrB hbB hsort ⊢
  have hm0' := Lib.hid hm0
  clear hm0 hr
  obtain ⟨cb0, cb1, cb2, cb3⟩ := hrB.c4
  have lB := hrB.lt
  go_enter Tryz.func20, Tryz.ntmps20
  go_wp2_with (first | (refine mk36 rfl rfl _ _ rfl N rfl rfl (by omega) ?_) | fail)
  have hbM : Below w.heap.size w ((w.alloc (.cells #[.int .i64 N, .int .i64 L, .int .i64 st, .slice ad m0 c] 24)).alloc (.cells (List.replicate N (Value.slice none 0 0)).toArray 46)) := hbB.alloc (by simp) _
  have hrM := Row.newA (w.alloc (.cells #[.int .i64 N, .int .i64 L, .int .i64 st, .slice ad m0 c] 24)) (List.replicate N (Value.slice none 0 0)).toArray 46
  refine (hsort.out _ hbM).mono ?_
  rintro e w1 ⟨vL, rfl, hb1, hoL⟩
  have hrM1 := hrM.ext hb1
  have hbL : Below w.heap.size w w1 := hbM.trans (hb1.mono hbM.size)
  simp only [World.size_alloc] at hrM1
  obtain ⟨Lr, hL⟩ : ∃ Lr, Lr = normE E := ⟨_, rfl⟩
  have hLr : Hid (∀ e ∈ Lr, 0 ≤ e.fr ∧ e.fr < N) := by rw [Hid, hL]; exact fun e he => hrng e ((mem_snorm E e).1 he)
  have hLl := length_snorm_le (lt := ltE) E
  unfold normE at hL
  rw [← hL] at hLl
  have hL2 : Lr = normE E := hL
  rw [← hL2] at hoL
  obtain ⟨m, hm⟩ : ∃ m, m = Lr.length := ⟨_, rfl⟩
  rw [← hm] at hoL hLl
  have hm' := Lib.hid hm
  have hL' := Lib.hid hL2
  obtain ⟨adL, cL, rfl⟩ := hoL.form
  have hrL := Lib.hid hoL.reads
  have hbne : Hid (∀ b o, adL = some ⟨b, o, none⟩ → 0 < m → b ≠ w.heap.size + 1) := fun b o he h0 => by
    obtain ⟨g, cap, rest, hv, _, _, hB, _, _, _⟩ := hoL.row h0
    cases hv; cases he
    simp at hB; omega
  have hm0b : m ≤ 100000000 := by omega
  have hM0 : RowsMem w1 w.heap.size w1.heap.size (w.heap.size + 1) N (fun _ => .slice none 0 0) (fun i => outs (Lr.take 0) i) := by
    refine ⟨by omega, by have := hrM1.lt; simpa using this, ?_, fun i _ => by simpa [outs] using Owned.nil _ _ _ _ _, fun i j q _ _ h => by simp [myBlock] at h⟩
    have : (List.range N).map (fun _ => (Value.slice none 0 0)) = List.replicate N (Value.slice none 0 0) := by
      rw [List.map_const']; simp
    rw [this]; simpa using hrM1
  clear hm hL hL2 hLl hb1 hoL hrM1 hrM hbM hrB hbB hsort cb0 cb1 cb2 cb3 lB hrng
  go_wp2_with fail
  go_loopw [5] (fun i wr => ∃ (k : Nat) (hv : Nat → Value), k ≤ m ∧ i = .int .i64 k ∧ Below w.heap.size w wr ∧ Kp w1 wr (w.heap.size + 1) ∧ RowsMem wr w.heap.size w1.heap.size (w.heap.size + 1) N hv (fun i => outs (Lr.take k) i)) (fun i _ => m - (intOf i).toNat)
  case atStart => exact ⟨0, _, by omega, rfl, hbL, Kp.refl _ _, hM0⟩
  case round =>
    obtain ⟨k, hv, hk, rfl, hbl, hbl1, hM⟩ := hrel
    clear hM0 hbL
    by_cases hlt : k < m
    · obtain ⟨⟨f, l, t⟩, hx⟩ : ∃ s, Lr[k]? = some s := ⟨Lr[k]'(by have := hm'.out; omega), by have := hm'.out; simp [show k < Lr.length by omega]⟩
      have hfr := hLr.out _ (List.mem_of_getElem? hx)
      simp only at hfr
      obtain ⟨f, rfl⟩ : ∃ f' : Nat, f = f' := ⟨f.toNat, by omega⟩
      have hfN : f < N := by omega
      have e1 : (f : Int) < (N : Int) := hfr.2
      have e2 : (k : Int) < (m : Int) := by omega
      obtain ⟨-, ad', c', hv', hcL⟩ := hrL.out
      cases hv'
      obtain ⟨b, o, rfl, hcl⟩ := hcL (by omega)
      have lb := hcl.lt (by rw [flat_len encE 3 encE_len]; have := hm'.out; omega)
      have hcl2 := hcl.kp hbl1 lb (hbne.out b o rfl (by omega))
      obtain ⟨ca1, ca2, ca3⟩ := hcl2.e1 hx
      have hbs1 := hbl1.1
      have hbs := hbl.size
      have ch := hM.cell hfN
      have hoH := hM.itm f hfN
      have hlow := hM.low
      have lg := hM.row.lt
      have fh := hM.row.free f
      obtain ⟨nH, hnH⟩ : ∃ nH, nH = (outs (Lr.take k) f).length := ⟨_, rfl⟩
      rw [← hnH] at hoH
      obtain ⟨adH, cH, hH⟩ := hoH.form
      rw [hH] at ch hoH
      have hnHk : nH ≤ m := by
        have := toF_map_len (Lr.take k) f
        rw [← hnH, List.length_take] at this
        omega
      have hx' := Lib.hid hx
      have hH' := Lib.hid hH
      have hnH' := Lib.hid hnH
      have hM' := Lib.hid hM
      have nb : some b ≠ myBlock (.slice adH nH cH) := fun e => by have := (hoH.lt e.symm).1; omega
      have ng : some (w.heap.size + 1) ≠ myBlock (.slice adH nH cH) := fun e => by have := (hoH.lt e.symm).1; omega
      clear hx hH hnH hcl hcl2 hcL hM
      go_wp2_with fail
      refine wp_region_reads 25 (fun w' => w'.cell? ⟨b, o + k * 3, none⟩ = some (.int .i64 (f : Int)) ∧ w'.cell? ⟨b, o + k * 3 + 1, none⟩ = some (.int .i64 l) ∧ w'.cell? ⟨b, o + k * 3 + 2, none⟩ = some (.int .i64 t) ∧
          w'.cell? ⟨w.heap.size + 1, f, none⟩ = some (.slice adH nH cH)) (by kernel_rfl) (by kernel_rfl) (fun _ _ d _ _ h => by cases d <;> exact h) (fun V hV => ?_)
      have hbV : Below w.heap.size w V := by rw [hV]; exact hbl.drew
      have hbV1 : Kp w1 V (w.heap.size + 1) := by rw [hV]; exact hbl1.drew
      have hMV : RowsMem V w.heap.size w1.heap.size (w.heap.size + 1) N hv (fun i => outs (Lr.take k) i) := by rw [hV]; exact hM'.out.ext ((Below.refl _ _).drew)
      have hoV : Owned V w1.heap.size 85 2 (.slice adH nH cH) nH ((outs (Lr.take k) f).flatMap encS) := by rw [hV]; exact hoH
      have v1 : V.cell? ⟨b, o + k * 3, none⟩ = some (.int .i64 (f : Int)) := by rw [hV]; exact ca1
      have v2 : V.cell? ⟨b, o + k * 3 + 1, none⟩ = some (.int .i64 l) := by rw [hV]; exact ca2
      have v3 : V.cell? ⟨b, o + k * 3 + 2, none⟩ = some (.int .i64 t) := by rw [hV]; exact ca3
      have v4 : V.cell? ⟨w.heap.size + 1, f, none⟩ = some (.slice adH nH cH) := by rw [hV]; exact ch
      have lV1 : b < V.heap.size := by have := hbV1.1; omega
      have lV2 : w.heap.size + 1 < V.heap.size := by have := hbV1.1; omega
      have hMV' := Lib.hid hMV
      have hbVs := hbV1.1
      clear hV ca1 ca2 ca3 ch hoH hbl hbl1 hM' fh lg hMV
      refine ⟨⟨v1, v2, v3, v4⟩, ?_⟩
      simp only [List.take_succ_cons, List.take_zero, List.drop_succ_cons, List.drop_zero]
      repeat
        refine wpYld_stepG (v := ?_) rfl ?_ ?_
        rotate_left
        · intro wy hSy
          obtain ⟨y0, y1, y2, y3⟩ := hSy
          go_simp
          try with_reducible rfl
        rotate_right
        try simp only [Act.put, List.setIfInBounds_toArray, List.set_cons_zero, List.set_cons_succ]
      refine wpYld_nil ?_
      refine wpTl_step (fun K hK => ?_)
      go_simp
      refine hK _ _ (Or.inr ⟨cell_alloc v1 _, cell_alloc v2 _, cell_alloc v3 _, cell_alloc v4 _⟩) ?_
      clear hK K
      refine wpTl_step (fun K hK => ?_)
      refine sapp46 rfl rfl _ _ rfl w1.heap.size (.slice adH nH cH) nH _ rfl V hoV #[.int .i64 l, .int .i64 t] _ rfl V.heap.size rfl rfl rfl (by simp [Value.oneCell']) (by omega) hbVs ?_
      intro ad8 cap8 w8 ho8 hg8 hm8
      have hS8 := And.intro ((grown_cell hg8 _ lV1 nb).trans v1) (And.intro ((grown_cell hg8 _ lV1 nb).trans v2) (And.intro ((grown_cell hg8 _ lV1 nb).trans v3) ((grown_cell hg8 _ lV2 ng).trans v4)))
      refine hK _ _ (Or.inr hS8) ?_
      clear hK K
      have hrw8 := hMV'.out.row.grown hg8 (Ne.symm ng)
      have f8 := hrw8.free f
      have l8 := hrw8.lt
      obtain ⟨s1, s2, s3, s4⟩ := hS8
      have hb8 : Below w.heap.size w w8 := hbV.grown hg8 hbV.size (fun q hq => by have := (hoV.lt hq).1; omega)
      have hb81 : Kp w1 w8 (w.heap.size + 1) := hbV1.grown hg8 (fun q hq => (hoV.lt hq).1)
      have hput := Lib.hid (hMV'.out.put f hfN (.slice ad8 (nH + 1) cap8) (outs (Lr.take k) f ++ [⟨l, t⟩]) (w1 := w8) (by rw [List.length_append, ← hnH'.out, List.flatMap_append]; exact ho8) (by rw [hH'.out]; exact hg8) (by rw [hH'.out]; exact hm8))
      clear hg8 hm8 ho8 hrw8 v1 v2 v3 v4 hoV
      refine wpTl_step (fun K hK => ?_)
      go_simp
      refine hK _ _ (Or.inr ⟨s1, s2, s3, s4⟩) ?_
      clear hK K
      refine wpTl_step (fun K hK => ?_)
      go_simp
      refine hK _ _ (Or.inl rfl) (wpTl_nil ?_)
      clear hK K
      go_wp2_with fail
      go_roundw
      case rel =>
        refine ⟨k + 1, upd hv f (.slice ad8 (nH + 1) cap8), by omega, by go_num, hb8.setCell (by simp only; omega) _, hb81.set _ _, ?_⟩
        have hR : (fun i : Nat => outs (Lr.take (k + 1)) i) = upd (fun i : Nat => outs (Lr.take k) i) f (outs (Lr.take k) f ++ [⟨l, t⟩]) := by
          funext i
          rw [List.take_add_one, hx'.out]
          simp only [Option.toList_some]
          rw [outs_snoc]
          by_cases hif : i = f
          · subst hif; rw [upd_same]; simp [toF]
          · rw [upd_other _ _ hif, if_neg (by simp only; omega), List.append_nil]
        rw [hR]
        exact hput.out
      case measure => simp [intOf]; omega
    · have hkm : k = m := by omega
      subst hkm
      have hfin : Hid (Lr.take k = normE E) := by rw [Hid, hm'.out, List.take_length, hL'.out]
      rw [hfin.out] at hM
      go_wp2_with fail
      go_ret
      exact ⟨_, hv, rfl, hbl, _, hM⟩
end Go.Proofs.YtkknklagoghljaaGreatDoor
