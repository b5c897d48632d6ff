/- What comes in, opened; the arguments read again; the row's last step. Free of the law. -/
import Derived.Test.YtkknklagoghljaaGreatDoorProg
import Derived.Test.YtkknklagoghljaaGreatDoorLib
import Derived.Test.YtkknklagoghljaaGreatDoorBook1
import Derived.Deep.Slices
import Derived.Deep.Fields
import Derived.ChangeSame
import Derived.ChangeStays
import Derived.ReadAgain
import Derived.Lib.SmallJoins
import Derived.WalkKit
import Derived.OpenShut
import Derived.KernelRfl
namespace Go.Proofs.YtkknklagoghljaaGreatDoor
open Go.ChangeShapes Go.WideShapes Go.RowKit Go.Deep
section
variable {H : Type} {enc : TypeId × Value → H} {P : Program} {w : World} {base : Nat} {spare : Nat → Bool} {held : Bool}
theorem open_slice_fields {t e : TypeId} {fs : Array Field} {fuel : Nat} {cs : List Value} {x : DataW H × List MemPlace} (ht : P.underlying t = some (.slice e)) (he : P.underlying e = some (.struct fs))
    (hone : oneCellFields P fs = true) (hC : P.cellsOf e = fs.size) (h : DataW.trod enc P w base spare held fuel t cs = some x) :
    (cs = [.slice none 0 0] ∧ x = (.nil, [])) ∨
    ∃ (a : Addr) (len cap m : Nat) (D : Nat → DataW H) (Pl : Nat → List MemPlace), cs = [.slice (some a) len cap] ∧ base ≤ a.block ∧ len ≤ cap ∧ cap ≤ maxLen ∧ m = (if spare a.block then cap else len) ∧
      x = (.slice ((List.range len).map D) ((List.range (m - len)).map fun j => D (len + j)), MemPlace.row a (m * fs.size) ++ (List.range m).flatMap Pl) ∧
      ∀ i, i < m → ∃ (ys : List (DataW H × List MemPlace)) (n : Nat), D i = .agg (ys.map (·.1)) ∧ Pl i = ys.flatMap (·.2) ∧ ys.length = fs.size ∧
        ∀ (j : Nat) (f : Field), fs[j]? = some f → ∃ (v : Value) (y : DataW H × List MemPlace), w.cell? (a.add (i * fs.size + j)) = some v ∧ ys[j]? = some y ∧ DataW.trod enc P w base spare held n f.type [v] = some y := by
  rcases open_slice ht h with h0 | ⟨a, len, cap, m, n, D, Pl, hcs, hb, hl, hm, hmm, hx, hi⟩
  · exact .inl h0
  · refine .inr ⟨a, len, cap, m, D, Pl, hcs, hb, hl, hm, hmm, by rw [hC] at hx; exact hx, fun i him => ?_⟩
    obtain ⟨cs', hc, ht'⟩ := hi i him
    rw [hC] at hc
    obtain ⟨ys, n', hn', hy, hlen, hyl, hf⟩ := DataW.trod_struct he ht'
    obtain ⟨_, hcl, hat⟩ := World.cells?_some hc
    simp only [Prod.mk.injEq] at hy
    refine ⟨ys, n', hy.1, hy.2, hyl, fun j f hj => ?_⟩
    obtain ⟨ho, hk⟩ := hone_of hone j f hj
    have hjl : j < fs.size := (Array.getElem?_eq_some_iff.1 hj).1
    have hcell := hat j hjl
    have hv : cs'[j]? = some (cs'[j]'(by omega)) := List.getElem?_eq_getElem (by omega)
    have h1 := hf j f hj
    rw [ho, hk] at h1
    have hone' : (cs'.drop j).take 1 = [cs'[j]'(by omega)] := by
      rw [List.drop_eq_getElem_cons (by omega)]
      rfl
    rw [hone'] at h1
    have hys : ys[j]? = some (ys[j]'(by omega)) := List.getElem?_eq_getElem (by omega)
    refine ⟨_, _, ?_, hys, h1.trans hys⟩
    rw [← Go.Deep.add_add, hcell, hv]
theorem post_of_below {f : Func} {s : ChangeSpec} {apart fresh handsOn again : Bool} {W W' : World} {args : Array Value} {v : Value} {ds gs : List (DataW H)} {before pa pv : List MemPlace}
    (hW : DataW.Whole enc P f.params.toList s.vars apart W args.toList ds gs before)
    (hres : ∀ (b : Nat) (sp : Nat → Bool) (hd : Bool), DataW.TrodAll enc P W' b sp hd f.resultTypes.toList (v.resultList f.resultTypes.size) (s.fn H (ds ++ gs)).results [])
    (hargs : ∀ sp : Nat → Bool, (∀ p ∈ before, sp p.block = true) → DataW.TrodAll enc P W' 0 sp true f.params.toList args.toList (s.fn H (ds ++ gs)).args pa)
    (hvars : ∀ sp : Nat → Bool, (∀ p ∈ before, sp p.block = true) → DataW.TrodVars enc P W' sp s.vars (s.fn H (ds ++ gs)).vars pv)
    (hps : before = pa ++ pv) (hb : Below W.heap.size W W')
    (hok : ∀ (j : Nat) (t : TypeId) (r : Value), f.resultTypes[j]? = some t → (v.resultList f.resultTypes.size)[j]? = some r → Value.okWide P W' .any 0 t r) :
    s.post enc P f apart fresh handsOn again W args v W' := by
  have hlt : ∀ p ∈ before, p.block < W.heap.size := fun p hp => hW.lt p hp
  have hold : ∀ p ∈ before, (fun b => decide (b < W.heap.size)) p.block = true := fun p hp => by simpa using hlt p hp
  refine ⟨ds, gs, before, [], pa, pv, hW, hres _ _ _, hargs _ hold, hvars _ hold, World.keptBut_mono (fun p hp => ⟨hp, ?_⟩) (hb.frame (· ∈ before)), fun _ => ?_⟩
  · rw [hps, List.mem_append] at hp
    exact Or.inr hp
  · obtain ⟨_, _, _, _, _, hz, hn⟩ := hW
    refine ⟨hok, _, _, ([] ++ pa) ++ pv, ⟨[] ++ pa, pv, trodAll_append (hargs _ (fun _ _ => rfl)) (hres _ _ _), hvars _ (fun _ _ => rfl), rfl, ?_, ?_⟩, ?_⟩
    · intro b off hp
      have hin : MemPlace.cell b off ∈ before := by rw [hps]; simpa using hp
      rw [hb.frozen (hlt _ hin)]
      exact hz b off hin
    · intro ha
      have := hn ha
      rw [hps] at this
      simpa using this
    · intro p hp _
      rw [hps]
      simpa using hp
theorem below_sameAt {W W' : World} {n : Nat} (hb : Below n W W') : ∀ p : MemPlace, p.block < n → W.sameAt W' p
  | .cell _ _, h => hb.cell h
  | .map _, h => hb.block _ h
theorem trodAll_carry {W W' : World} : ∀ {ts : List TypeId} {vs : List Value} {ds : List (DataW H)} {ps : List MemPlace}, DataW.TrodAll enc P W base spare held ts vs ds ps → (∀ p ∈ ps, W.sameAt W' p) → DataW.TrodAll enc P W' base spare held ts vs ds ps
  | [], [], [], _, h, _ => h
  | _ :: _, _ :: _, _ :: _, _, ⟨p, q, ⟨n, h1⟩, h2, e⟩, hs =>
    ⟨p, q, ⟨n, DataW.trod_carry n _ _ _ h1 (fun x hx => hs x (by rw [e]; exact List.mem_append_left _ hx))⟩, trodAll_carry h2 (fun x hx => hs x (by rw [e]; exact List.mem_append_right _ hx)), e⟩
end
theorem kidsT : Kids Tryz.prog (· < Tryz.prog.types.size) := kids_rows (by kernel_rfl) (by kernel_rfl)
theorem fullT : ∀ t e, t < Tryz.prog.types.size → Tryz.prog.underlying t = some (.slice e) → 0 < Tryz.prog.cellsOf e := slices_full_of Tryz.prog (by kernel_rfl)
/-- The arguments, read again behind a call that has left all that stood as it was. -/
theorem args_again {H : Type} {enc : TypeId × Value → H} {W W' : World} {ts : List TypeId} {vs : List Value} {ds : List (DataW H)} {ps : List MemPlace} (h : DataW.TrodAll enc Tryz.prog W 0 (fun _ => true) true ts vs ds ps) (hts : ∀ t ∈ ts, t < Tryz.prog.types.size)
    (hlt : ∀ p ∈ ps, p.block < W.heap.size) (hb : Below W.heap.size W W') (sp : Nat → Bool) (hsp : ∀ p ∈ ps, sp p.block = true) : DataW.TrodAll enc Tryz.prog W' 0 sp true ts vs ds ps :=
  (trodAll_carry h (fun p hp => below_sameAt hb p (hlt p hp))).respare kidsT fullT hts hsp
/-! Edges, systems. -/
theorem list_of {α : Type} {Q : Nat → α → Prop} : ∀ n, (∀ i, i < n → ∃ x, Q i x) → ∃ l : List α, l.length = n ∧ ∀ i x, l[i]? = some x → Q i x
  | 0, _ => ⟨[], rfl, fun i x h => by simp at h⟩
  | n + 1, h => by
    obtain ⟨l, hl, hq⟩ := list_of n (fun i hi => h i (by omega))
    obtain ⟨x, hx⟩ := h n (by omega)
    refine ⟨l ++ [x], by simp [hl], fun i y hy => ?_⟩
    rcases Nat.lt_trichotomy i l.length with h1 | h1 | h1
    · rw [List.getElem?_append_left h1] at hy; exact hq i y hy
    · subst h1; rw [List.getElem?_append_right (Nat.le_refl _), Nat.sub_self] at hy; simp at hy; subst hy; rw [hl]; exact hx
    · rw [List.getElem?_eq_none (by simp; omega)] at hy; cases hy
theorem addr_plain {w : World} {a : Addr} {v : Value} (h : w.cell? (a.add 0) = some v) : a = ⟨a.block, a.off, none⟩ := by
  obtain ⟨b, o, s⟩ := a
  cases s with
  | none => rfl
  | some s =>
    exfalso
    simp only [Addr.add, if_true] at h
    unfold World.cell? at h
    split at h <;> simp at h
theorem cellsOfE : Tryz.prog.cellsOf 71 = 3 := by kernel_rfl
set_option maxRecDepth 100000 in
theorem open_edges {H : Type} {enc : TypeId × Value → H} {w : World} {n : Nat} {v : Value} {x : DataW H × List MemPlace} (h : DataW.trod enc Tryz.prog w 0 (fun _ => true) true n 22 [v] = some x) :
    ∃ (E : List Edg) (ad : Option Addr) (c : Nat), v = .slice ad E.length c ∧ E.length ≤ c ∧ Reads w (.slice ad E.length c) E.length 3 (E.flatMap encE) ∧ ∀ e ∈ E, (Lit.int .i64 e.fr).wf = true ∧ (Lit.int .i64 e.lab).wf = true ∧ (Lit.int .i64 e.to).wf = true := by
  rcases open_slice_fields (fs := #[_, _, _]) Tryz.underlying22 Tryz.underlying71 (by kernel_rfl) cellsOfE h with ⟨hcs, _⟩ | ⟨a, len, cap, m, D, Pl, hcs, _, hl, _, hm, _, hi⟩
  · injection hcs with hv _
    subst hv
    exact ⟨[], none, 0, rfl, Nat.le_refl _, ⟨rfl, none, 0, rfl, fun h => by simp at h⟩, fun e he => by cases he⟩
  · injection hcs with hv _
    subst hv
    have hlm : len ≤ m := by rw [hm]; simpa using hl
    obtain ⟨E, hEl, hE⟩ := list_of (Q := fun i (e : Edg) => w.cell? (a.add (i * 3 + 0)) = some (.int .i64 e.fr) ∧ w.cell? (a.add (i * 3 + 1)) = some (.int .i64 e.lab) ∧ w.cell? (a.add (i * 3 + 2)) = some (.int .i64 e.to) ∧ (Lit.int .i64 e.fr).wf = true ∧ (Lit.int .i64 e.lab).wf = true ∧ (Lit.int .i64 e.to).wf = true) len (fun i hlt => by
      obtain ⟨ys, n', _, _, _, hf⟩ := hi i (by omega)
      obtain ⟨v0, y0, c0, _, t0⟩ := hf 0 _ rfl
      obtain ⟨v1, y1, c1, _, t1⟩ := hf 1 _ rfl
      obtain ⟨v2, y2, c2, _, t2⟩ := hf 2 _ rfl
      obtain ⟨z0, e0, _, w0⟩ := DataW.trod_int Tryz.underlying3 t0
      obtain ⟨z1, e1, _, w1⟩ := DataW.trod_int Tryz.underlying3 t1
      obtain ⟨z2, e2, _, w2⟩ := DataW.trod_int Tryz.underlying3 t2
      injection e0 with e0 _; injection e1 with e1 _; injection e2 with e2 _
      subst e0; subst e1; subst e2
      exact ⟨⟨z0, z1, z2⟩, c0, c1, c2, w0, w1, w2⟩)
    refine ⟨E, some a, cap, by rw [hEl], by omega, ?_, fun e he => ?_⟩
    · refine ⟨by rw [flat_len encE 3 encE_len], some a, cap, rfl, fun h0 => ?_⟩
      obtain ⟨e0, he0⟩ : ∃ e, E[0]? = some e := ⟨E[0], by simp [h0]⟩
      have hp := addr_plain (hE 0 e0 he0).1
      refine ⟨a.block, a.off, by rw [← hp], fun j u hj => ?_⟩
      have hjl : j < E.length * 3 := by rw [← flat_len encE 3 encE_len]; exact (List.getElem?_eq_some_iff.1 hj).1
      obtain ⟨e, he⟩ : ∃ e, E[j / 3]? = some e := ⟨E[j / 3]'(by omega), by simp [show j / 3 < E.length by omega]⟩
      have hq := hE _ e he
      have hfl := flat_get encE 3 encE_len E (j / 3) e he (j % 3) (by omega) []
      rw [List.append_nil, show j / 3 * 3 + j % 3 = j by omega, hj] at hfl
      have hcell : w.cell? (a.add j) = some u := by
        have h3 : j % 3 = 0 ∨ j % 3 = 1 ∨ j % 3 = 2 := by omega
        rcases h3 with h3 | h3 | h3
        · rw [h3] at hfl; simp [encE] at hfl; subst hfl; have := hq.1; rwa [show j / 3 * 3 + 0 = j by omega] at this
        · rw [h3] at hfl; simp [encE] at hfl; subst hfl; have := hq.2.1; rwa [show j / 3 * 3 + 1 = j by omega] at this
        · rw [h3] at hfl; simp [encE] at hfl; subst hfl; have := hq.2.2.1; rwa [show j / 3 * 3 + 2 = j by omega] at this
      rw [hp, Addr_add_lit] at hcell
      exact hcell
    · obtain ⟨i, hi'⟩ := List.getElem?_of_mem he
      exact (hE i e hi').2.2.2
set_option maxRecDepth 100000 in
theorem open_sys {H : Type} {enc : TypeId × Value → H} {w : World} {r : Reach} {b0 : Nat} {v : Value} {d : DataW H} {p : List MemPlace} (hv : Value.okWide Tryz.prog w r b0 24 v) (h : DataW.Trod enc Tryz.prog w 0 (fun _ => true) true 24 v d p) :
    ∃ (n L st : Int) (E : List Edg) (ad : Option Addr) (c : Nat), v = .agg #[.int .i64 n, .int .i64 L, .int .i64 st, .slice ad E.length c] ∧ E.length ≤ c ∧ Reads w (.slice ad E.length c) E.length 3 (E.flatMap encE) ∧ ∀ e ∈ E, (Lit.int .i64 e.fr).wf = true ∧ (Lit.int .i64 e.lab).wf = true ∧ (Lit.int .i64 e.to).wf = true := by
  obtain ⟨v0, v1, v2, v3, y0, y1, y2, y3, n, rfl, _, _, h0, h1, h2, h3⟩ := Go.Joins.open_agg4 Tryz.underlying24 (by kernel_rfl) (by kernel_rfl) hv h
  obtain ⟨z0, e0, _, w0⟩ := DataW.trod_int Tryz.underlying3 h0
  obtain ⟨z1, e1, _, w1⟩ := DataW.trod_int Tryz.underlying3 h1
  obtain ⟨z2, e2, _, w2⟩ := DataW.trod_int Tryz.underlying3 h2
  injection e0 with e0 _; injection e1 with e1 _; injection e2 with e2 _
  subst e0; subst e1; subst e2
  obtain ⟨E, ad, c, rfl, hc, hr, hw⟩ := open_edges h3
  exact ⟨z0, z1, z2, E, ad, c, rfl, hc, hr, hw⟩
end Go.Proofs.YtkknklagoghljaaGreatDoor
