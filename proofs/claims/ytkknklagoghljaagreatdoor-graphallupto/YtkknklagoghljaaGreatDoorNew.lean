/- system.New. -/
import Derived.Test.YtkknklagoghljaaGreatDoorGraph
namespace Go.Proofs.YtkknklagoghljaaGreatDoor
open Go.RowKit
theorem Row.c8 {w : World} {g : Nat} {e : TypeId} {a b c d p q r s : Value} (h : Row w g e [a, b, c, d, p, q, r, s]) : w.cell? ⟨g, 0, none⟩ = some a ∧ w.cell? ⟨g, 1, none⟩ = some b ∧ w.cell? ⟨g, 2, none⟩ = some c ∧ w.cell? ⟨g, 3, none⟩ = some d ∧
    w.cell? ⟨g, 4, none⟩ = some p ∧ w.cell? ⟨g, 5, none⟩ = some q ∧ w.cell? ⟨g, 6, none⟩ = some r ∧ w.cell? ⟨g, 7, none⟩ = some s := ⟨h.cell 0, h.cell 1, h.cell 2, h.cell 3, h.cell 4, h.cell 5, h.cell 6, h.cell 7⟩
def NewPost (S : Sys) (ev : Value) (w : World) (e : Ending) (w' : World) : Prop :=
  Below w.heap.size w w' ∧ ((rightB S = true ∧ ∃ (g N : Nat), S.n = (N : Int) ∧ e = .returned (.tuple #[.pointer (some ⟨g, 0, none⟩), .nilIface]) ∧ w.heap.size ≤ g ∧ GraphAt w' g N S.L S.st (normE S.E)) ∨
    (rightB S = false ∧ ∃ v, e = .returned (.tuple #[.pointer none, v]) ∧ FaultAt w' w.heap.size v sSystem 0 0 ev))
theorem right_facts {S : Sys} (h : rightB S = true) : ∃ N : Nat, S.n = (N : Int) ∧ (N ≤ 1000 ∧ S.E.length ≤ 10000 ∧ 1 ≤ S.L ∧ S.L ≤ 201 ∧ 0 ≤ S.st ∧ (S.st = 0 ∨ S.st < N)) ∧
    ∀ e ∈ S.E, 0 ≤ e.fr ∧ e.fr < N ∧ 0 ≤ e.to ∧ e.to < N ∧ 0 ≤ e.lab ∧ e.lab < S.L := by
  simp only [rightB, headB, edgesB, Bool.and_eq_true, decide_eq_true_eq, List.all_eq_true, Bool.not_eq_true', offB, decide_eq_false_iff_not] at h
  obtain ⟨h1, h2⟩ := h
  refine ⟨S.n.toNat, by omega, by omega, fun e he => ?_⟩
  have := h2 e he
  omega
theorem sortB_own (l : List Edg) (ad : Option Addr) (cap B : Nat) (w : World) (hs : Srt ltE l) (ho : Owned w B 71 3 (.slice ad l.length cap) l.length (l.flatMap encE)) (hn : l.length < 1099511627776) :
    Calls Tryz.prog 41 #[.slice ad l.length cap, .func (.func 42) #[] #[]] w (fun e w' => e = .returned (.tuple #[]) ∧ w.grownBy w' (myBlock (.slice ad l.length cap)) ∧
      Owned w' B 71 3 (.slice ad l.length cap) l.length ((bkE l).flatMap encE)) := by
  rcases Nat.eq_zero_or_pos l.length with h0 | h0
  · have hl : l = [] := List.eq_nil_of_length_eq_zero h0
    subst hl
    refine (sort0E ad cap _ w).mono ?_
    rintro e w' ⟨he, rfl⟩
    exact ⟨he, World.grownBy.refl _ _, ho⟩
  · obtain ⟨g, cap', rest, hv, hnc, hcm, hB, hrow, hrl, hmb⟩ := ho.row h0
    cases hv
    refine (sortB g cap l rest w hrow (by omega)).mono ?_
    rintro e w' ⟨he, hg, l', hp, hsl, hrow'⟩
    have hbk := perm_bk hs hp hsl
    subst hbk
    exact ⟨he, by rw [hmb]; exact hg, Owned.ofRow hrow' (by rw [flat_len encE 3 encE_len, bk_len hs]) hrl hnc hcm hB⟩
theorem owned_capE {w : World} {B : Nat} {e : TypeId} {k : Nat} {ad : Option Addr} {n cap : Nat} {cs : List Value} (h : Owned w B e k (.slice ad n cap) n cs) : n ≤ cap := by
  obtain ⟨_, ad', cap', hv, h2, _⟩ := h
  cases hv; exact h2
set_option maxRecDepth 100000 in
set_option maxHeartbeats 2000000 in
theorem new_any (n L st : Int) (E : List Edg) (ad : Option Addr) (c : Nat) (t0 : TypeId) (x0 : Value) (w : World) (hr : Reads w (.slice ad E.length c) E.length 3 (E.flatMap encE)) (hg : w.cell? ⟨0, 0, none⟩ = some (.iface t0 x0)) :
    Calls Tryz.prog 6 #[.agg #[.int .i64 n, .int .i64 L, .int .i64 st, .slice ad E.length c]] w (NewPost ⟨n, L, st, E⟩ (.iface t0 x0) w) := by
  have hgb := World.block_lt_of_cell? _ _ hg
  generalize hm : E.length = m at *
  have hm' : Hid (E.length = m) := hm
  have hrA := (hr.ext ((Below.refl w.heap.size w).alloc (Nat.le_refl _) (.cells #[.int .i64 n, .int .i64 L, .int .i64 st, .slice ad m c] 24)))
  have hgA : (w.alloc (.cells #[.int .i64 n, .int .i64 L, .int .i64 st, .slice ad m c] 24)).cell? ⟨0, 0, none⟩ = some (.iface t0 x0) := (World.cell?_alloc_lt _ _ _ hgb).trans hg
  have hrP := Row.newA w #[.int .i64 n, .int .i64 L, .int .i64 st, .slice ad m c] 24
  rw [← hm'.out] at hrA hgA
  have hnorm := normal_any n L st E ad c t0 x0 _ hrA hgA
  rw [hm'.out] at hnorm
  have hnorm' := Lib.hid hnorm
  clear hnorm hrA hgA hr hg
  go_enter Tryz.func6, Tryz.ntmps6
  go_wp2_with fail
  refine (hnorm'.out).mono ?_
  rintro e w1 ⟨hb1, ⟨hyes, ad1, c1, rfl, ho1⟩ | ⟨hno, v, rfl, g, rfl, hgB, hgr⟩⟩
  · have hb0 : Below w.heap.size w w1 := Below.chain ((Below.refl _ _).alloc (Nat.le_refl _) _) hb1
    have hrP1 := hrP.ext hb1
    obtain ⟨p0, p1, p2, p3⟩ := hrP1.c4
    obtain ⟨f0, f1, f2, f3⟩ := hrP1.f4
    have lP := hrP1.lt
    obtain ⟨N, hN, hsm, hrg⟩ := right_facts hyes
    simp only at hN hsm hrg
    subst hN
    have hle := normE_len E
    have hsE := srt_normE E
    have hrgE : ∀ e ∈ normE E, 0 ≤ e.fr ∧ e.fr < N ∧ 0 ≤ e.to ∧ e.to < N ∧ 0 ≤ e.lab ∧ e.lab < L := fun e he => hrg e ((normE_mem E e).1 he)
    obtain ⟨F, hF⟩ : ∃ F, F = normE E := ⟨_, rfl⟩
    rw [← hF] at ho1 hle hsE hrgE ⊢
    have hF' : Hid (F = normE E) := hF
    have hsm' : Hid (N ≤ 1000 ∧ F.length ≤ 10000 ∧ 1 ≤ L ∧ L ≤ 201 ∧ 0 ≤ st ∧ (st = 0 ∨ st < N)) := ⟨hsm.1, by omega, hsm.2.2⟩
    have hrgE' : Hid (∀ e ∈ F, 0 ≤ e.fr ∧ e.fr < N ∧ 0 ≤ e.to ∧ e.to < N ∧ 0 ≤ e.lab ∧ e.lab < L) := hrgE
    have hsE' : Hid (Srt ltE F) := hsE
    clear hb1 hrP hnorm' hF hsm hrg hrgE hsE hle
    go_wp2_with fail
    obtain ⟨W2, hW2⟩ : ∃ W2, W2 = ((((w1.setCell ⟨w.heap.size, 0, none⟩ (.int .i64 (N : Int))).setCell ⟨w.heap.size, 1, none⟩ (.int .i64 L)).setCell ⟨w.heap.size, 2, none⟩ (.int .i64 st)).setCell ⟨w.heap.size, 3, none⟩ (.slice ad1 F.length c1)).alloc
      (.cells #[.int .i64 (N : Int), .int .i64 L, .int .i64 st, .slice ad1 F.length c1, .slice none 0 0, .slice none 0 0, .slice none 0 0, .slice none 0 0] 81) := ⟨_, rfl⟩
    rw [← hW2]
    obtain ⟨gb, hgb2⟩ : ∃ gb, gb = w1.heap.size := ⟨_, rfl⟩
    obtain ⟨pb, hpb⟩ : ∃ pb, pb = w.heap.size := ⟨_, rfl⟩
    have hb2 : Below w.heap.size w W2 := by
      rw [hW2]
      exact ((((hb0.setCell (by simp) _).setCell (by simp) _).setCell (by simp) _).setCell (by simp) _).alloc (by simpa using hb0.size) _
    have hrP2 : Row W2 pb 24 [.int .i64 (N : Int), .int .i64 L, .int .i64 st, .slice ad1 F.length c1] := by
      rw [hW2, hpb]; exact ((((hrP1.set 0 _).set 1 _).set 2 _).set 3 _).alloc _
    have hrG2 : Row W2 gb 81 [.int .i64 (N : Int), .int .i64 L, .int .i64 st, .slice ad1 F.length c1, .slice none 0 0, .slice none 0 0, .slice none 0 0, .slice none 0 0] := by
      rw [hW2, hgb2]
      have := Row.newA ((((w1.setCell ⟨w.heap.size, 0, none⟩ (.int .i64 (N : Int))).setCell ⟨w.heap.size, 1, none⟩ (.int .i64 L)).setCell ⟨w.heap.size, 2, none⟩ (.int .i64 st)).setCell ⟨w.heap.size, 3, none⟩ (.slice ad1 F.length c1)) #[.int .i64 (N : Int), .int .i64 L, .int .i64 st, .slice ad1 F.length c1, .slice none 0 0, .slice none 0 0, .slice none 0 0, .slice none 0 0] 81
      simpa using this
    have ho2 : Owned W2 (pb + 1) 71 3 (.slice ad1 F.length c1) F.length (F.flatMap encE) := by
      rw [hW2, hpb]
      have hk := ho1.mono (B' := w.heap.size + 1) (by simp)
      refine Owned.alloc (hk.kept fun q hq => ?_) _
      have hq2 := (hk.lt hq).1
      rw [Below.heap_setCell _ _ _ _ (by simp; omega), Below.heap_setCell _ _ _ _ (by simp; omega), Below.heap_setCell _ _ _ _ (by simp; omega), Below.heap_setCell _ _ _ _ (by simp; omega)]
    have hpg : pb < gb := by omega
    have hlt1 : Hid (∀ q, myBlock (.slice ad1 F.length c1) = some q → q < gb) := fun q hq => by have := (ho1.lt hq).2; omega
    rw [← hpb] at hb2
    rw [← hpb, ← hgb2]
    have hpb' : Hid (pb = w.heap.size) := hpb
    have hB2 : Below pb w W2 := hb2
    clear hW2 hrP1 ho1 p0 p1 p2 p3 f0 f1 f2 f3 hb0 lP hgb2 hpb hb2
    refine (newRowsF N F _ W2 hsm'.out.1 hsm'.out.2.1 (fun e he => ⟨(hrgE'.out e he).1, (hrgE'.out e he).2.1⟩) ho2.reads).mono ?_
    rintro e W3 ⟨ado, co, fo, rfl, hb3, hfo, hoo, hrfo⟩
    have hrP3 := hrP2.ext hb3
    have hrG3 := hrG2.ext hb3
    have ho3 := ho2.ext hb3
    have hB3 : Below pb w W3 := hB2.trans (hb3.mono (by have := hrP2.lt; omega))
    obtain ⟨p0, p1, p2, p3⟩ := hrP3.c4
    obtain ⟨g0, g1, g2, g3, g4, g5, g6, g7⟩ := hrG3.c8
    have f4 := hrG3.free 4
    have f5 := hrG3.free 5
    have lP := hrP3.lt
    have lG := hrG3.lt
    have hne : pb ≠ gb := by omega
    have hsz2 : Hid (gb < W2.heap.size) := hrG2.lt
    have hne1 : Hid (∀ q, myBlock (.slice ad1 F.length c1) = some q → q ≠ gb) := fun q hq e => by have := hlt1.out q hq; omega
    clear hrP2 hrG2 ho2 hB2
    go_wp2_with fail
    obtain ⟨W4, hW4⟩ : ∃ W4, W4 = (W3.setCell ⟨gb, 4, none⟩ (.slice ado F.length co)).setCell ⟨gb, 5, none⟩ (.slice (some ⟨fo, 0, none⟩) (N + 1) (N + 1)) := ⟨_, rfl⟩
    rw [← hW4]
    have hB4 : Below pb w W4 := by rw [hW4]; exact (hB3.setCell (by simp; omega) _).setCell (by simp; omega) _
    have hz4 : W4.heap.size = W3.heap.size := by rw [hW4]; simp
    have hrP4 : Row W4 pb 24 [.int .i64 (N : Int), .int .i64 L, .int .i64 st, .slice ad1 F.length c1] := by rw [hW4]; exact (hrP3.other _ _ hne).other _ _ hne
    have hrG4 : Row W4 gb 81 [.int .i64 (N : Int), .int .i64 L, .int .i64 st, .slice ad1 F.length c1, .slice ado F.length co, .slice (some ⟨fo, 0, none⟩) (N + 1) (N + 1), .slice none 0 0, .slice none 0 0] := by
      rw [hW4]; exact (hrG3.set 4 _).set 5 _
    have hk4 : ∀ q, q ≠ gb → W4.heap[q]? = W3.heap[q]? := fun q hq => by rw [hW4, Below.heap_setCell _ _ _ _ hq, Below.heap_setCell _ _ _ _ hq]
    have hgW2 : gb < W2.heap.size := hsz2.out
    have ho4 : Owned W4 (pb + 1) 71 3 (.slice ad1 F.length c1) F.length (F.flatMap encE) := ho3.kept fun q hq => hk4 q (fun e => hne1.out q hq e)
    have hoo4 : Owned W4 W2.heap.size 85 2 (.slice ado F.length co) F.length ((F.map toF).flatMap encS) := hoo.kept fun q hq => hk4 q (by have := (hoo.lt hq).1; omega)
    have hrfo4 : Row W4 fo 3 (ints (sums Edg.fr F N N)) := hrfo.same (hk4 fo (by omega))
    have hoo4' := hoo4.mono (B' := pb + 1) (by omega)
    have hfar : Hid (∀ q, myBlock (.slice ado F.length co) = some q → q ≠ gb) := fun q hq e => by have := (hoo4.lt hq).1; omega
    have hfog : Hid (fo ≠ gb) := fun e => by have := hfo; omega
    have lP4 := hrP4.lt
    have lG4 := hrG4.lt
    have hn40 := hsm'.out.2.1
    have hn41 : Hid (F.length ≤ 10000) := hn40
    have hco := owned_capE hoo4
    have hco' : Hid (F.length ≤ co) := hco
    clear hW4 hrP3 hrG3 ho3 hoo hrfo hB3 p0 p1 p2 p3 g0 g1 g2 g3 g4 g5 g6 g7 f4 f5 lP lG hz4 hk4 hn40 hco hoo4 hfo hgW2
    refine (cloneE _ F.length _ W4 ho4.reads (one_cellE F) (by have := hn41.out; omega)).mono ?_
    rintro e W5 ⟨v5, rfl, hb5, ho5⟩
    obtain ⟨ad5, c5, rfl⟩ := ho5.form
    have hrP5 := hrP4.ext hb5
    have hrG5 := hrG4.ext hb5
    obtain ⟨p0, p1, p2, p3⟩ := hrP5.c4
    have lP := hrP5.lt
    go_wp2_with fail
    refine (sortB_own F ad5 c5 _ W5 hsE'.out ho5 (by have := hn41.out; omega)).mono ?_
    rintro e W6 ⟨rfl, hg6, ho6⟩
    have hz4 : pb < W4.heap.size := lP4
    have hmy : ∀ q, myBlock (.slice ad5 F.length c5) = some q → W4.heap.size ≤ q := fun q hq => (ho5.lt hq).1
    have hkeep6 : ∀ q, q < W4.heap.size → W6.heap[q]? = W4.heap[q]? := fun q hq => (hg6.block q (by have := hb5.size; omega) (fun e => by have := hmy q e.symm; omega)).trans (hb5.block q hq)
    have hb6 : Below W4.heap.size W4 W6 := hb5.grown hg6 hb5.size (fun q hq => hmy q hq)
    have hrP6 := hrP4.ext hb6
    have hrG6 := hrG4.ext hb6
    clear p0 p1 p2 p3 lP hrP5 hrG5
    obtain ⟨p0, p1, p2, p3⟩ := hrP6.c4
    have lP := hrP6.lt
    go_wp2_with fail
    have hbkl : (bkE F).length = F.length := bk_len hsE'.out
    have hrows := newRowsT N (bkE F) (.slice ad5 F.length c5) W6 hsm'.out.1 (by rw [hbkl]; exact hn41.out) (fun e he => ⟨(hrgE'.out e ((bk_mem F e).1 he)).2.2.1, (hrgE'.out e ((bk_mem F e).1 he)).2.2.2.1⟩) (by rw [hbkl]; exact ho6.reads)
    refine hrows.mono ?_
    rintro e W7 ⟨adi, ci, fi, rfl, hb7, hfi, hoi, hrfi⟩
    rw [hbkl] at hoi ⊢
    have hb8 : Below W4.heap.size W4 W7 := Below.chain hb6 hb7
    have hrP7 := hrP4.ext hb8
    have hrG7 := hrG4.ext hb8
    clear p0 p1 p2 p3 lP hrows
    obtain ⟨p0, p1, p2, p3⟩ := hrP7.c4
    obtain ⟨g0, g1, g2, g3, g4, g5, g6, g7⟩ := hrG7.c8
    have f6 := hrG7.free 6
    have f7 := hrG7.free 7
    have lP := hrP7.lt
    have lG := hrG7.lt
    go_wp2_with fail
    go_ret2
    have hpb := hpb'.out
    have hB7 : Below w.heap.size w W7 := by rw [← hpb]; exact hB4.trans (hb8.mono (by omega))
    have hk8 : ∀ (x y : Value) q, q ≠ gb → ((W7.setCell ⟨gb, 6, none⟩ x).setCell ⟨gb, 7, none⟩ y).heap[q]? = W7.heap[q]? := fun x y q hq => by rw [Below.heap_setCell _ _ _ _ hq, Below.heap_setCell _ _ _ _ hq]
    have s6 := hb5.size
    have s7 := hg6.size
    refine ⟨(hB7.setCell (by simp; omega) _).setCell (by simp; omega) _, .inl ⟨hyes, gb, N, rfl, rfl, by omega, ?_⟩⟩
    have hF0 := hF'.out
    simp only
    rw [← hF0]
    refine ⟨hsE'.out, hrgE'.out, hsm'.out, ad1, c1, ado, co, fo, adi, ci, fi, (hrG7.set 6 _).set 7 _, ?_, ⟨?_, hco'.out⟩, ?_, ⟨?_, owned_capE hoi⟩, ?_⟩
    · exact ((ho4.ext hb8).kept fun q hq => hk8 _ _ q (by have := hne1.out q hq; omega)).reads
    · exact ((hoo4'.ext hb8).kept fun q hq => hk8 _ _ q (fun e => hfar.out q hq e)).reads
    · exact (hrfo4.ext hb8).same (hk8 _ _ fo hfog.out)
    · exact (hoi.kept fun q hq => hk8 _ _ q (by have := (hoi.lt hq).1; omega)).reads
    · exact hrfi.same (hk8 _ _ fi (by omega))
  · have hrP1 := hrP.ext hb1
    obtain ⟨p0, p1, p2, p3⟩ := hrP1.c4
    obtain ⟨f0, f1, f2, f3⟩ := hrP1.f4
    have hb0 : Below w.heap.size w w1 := Below.chain ((Below.refl _ _).alloc (Nat.le_refl _) _) hb1
    have hgne : g ≠ w.heap.size := by simp at hgB; omega
    clear hb1 hrP hnorm'
    go_wp2_with fail
    go_ret2
    refine ⟨(((hb0.setCell (by simp) _).setCell (by simp) _).setCell (by simp) _).setCell (by simp) _, .inr ⟨hno, _, rfl, g, rfl, by simp at hgB; omega, ?_⟩⟩
    exact (((hgr.other _ _ hgne).other _ _ hgne).other _ _ hgne).other _ _ hgne
end Go.Proofs.YtkknklagoghljaaGreatDoor
