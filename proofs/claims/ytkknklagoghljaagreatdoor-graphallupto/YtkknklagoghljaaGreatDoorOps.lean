/- What a graph's calls answer: own, States, Labels, Start, Each, Back, Out, In, with, By, From, Edges. -/
import Derived.Test.YtkknklagoghljaaGreatDoorRowsM
namespace Go.Proofs.YtkknklagoghljaaGreatDoor
open Go.RowKit
def outs (E : List Edg) (i : Int) : List Stp := (E.filter (fun e => e.fr == i)).map toF
def ins (E : List Edg) (i : Int) : List Stp := ((bkE E).filter (fun e => e.to == i)).map toT
theorem toF_map_len (E : List Edg) (i : Int) : (outs E i).length ≤ E.length := by
  unfold outs; rw [List.length_map]; exact List.length_filter_le _ _
/-- A list of steps is told, somewhere. -/
def StepsAt (w : World) (x : List Stp) (ad : Option Addr) : Prop := Reads w (.slice ad x.length x.length) x.length 2 (x.flatMap encS)
theorem rowpost_out {E : List Edg} {i : Int} {w0 w w' : World} {e : Ending} (h : RowPost Edg.fr toF E i w0 w e w') : ∃ ad, e = .returned (.slice ad (outs E i).length (outs E i).length) ∧ Below w.heap.size w w' ∧ ∀ w'', Below w0.heap.size w0 w'' → StepsAt w'' (outs E i) ad := h
theorem rowpost_in {E : List Edg} {i : Int} {w0 w w' : World} {e : Ending} (h : RowPost Edg.to toT (bkE E) i w0 w e w') : ∃ ad, e = .returned (.slice ad (ins E i).length (ins E i).length) ∧ Below w.heap.size w w' ∧ ∀ w'', Below w0.heap.size w0 w'' → StepsAt w'' (ins E i) ad := h
theorem fieldSys0 (a b c d : Value) (w : World) : (Instr.field 24 (.agg #[a, b, c, d]) 0).run Tryz.prog w = .ok a w := by kernel_rfl
theorem fieldSys1 (a b c d : Value) (w : World) : (Instr.field 24 (.agg #[a, b, c, d]) 1).run Tryz.prog w = .ok b w := by kernel_rfl
theorem fieldSys2 (a b c d : Value) (w : World) : (Instr.field 24 (.agg #[a, b, c, d]) 2).run Tryz.prog w = .ok c w := by kernel_rfl
theorem fieldSys3 (a b c d : Value) (w : World) : (Instr.field 24 (.agg #[a, b, c, d]) 3).run Tryz.prog w = .ok d w := by kernel_rfl
set_option maxRecDepth 100000 in
set_option maxHeartbeats 1000000 in
theorem own0_any {g N : Nat} {L st : Int} {E : List Edg} {w0 w : World} (h : GraphAt w0 g N L st E) (hw : Below w0.heap.size w0 w) :
    Calls Tryz.prog 51 #[.pointer (some ⟨g, 0, none⟩)] w (fun e w' => Below w.heap.size w w' ∧ ∃ ad c, e = .returned (.agg #[.int .i64 N, .int .i64 L, .int .i64 st, .slice ad E.length c]) ∧ ∀ w'', Below w0.heap.size w0 w'' → Reads w'' (.slice ad E.length c) E.length 3 (E.flatMap encE)) := by
  obtain ⟨_, _, _, ade, ce, ado, co, fo, adi, ci, fi, r1, r2, _⟩ := h
  have r2' : Hid (∀ w'', Below w0.heap.size w0 w'' → Reads w'' (.slice ade E.length ce) E.length 3 (E.flatMap encE)) := fun w'' hb => r2.ext hb
  have r1 := r1.ext hw
  have lg := r1.lt
  have hrP := Row.newA w #[.int .i64 0, .int .i64 0, .int .i64 0, .slice none 0 0] 24
  have hrG := r1.ext ((Below.refl w.heap.size w).alloc (Nat.le_refl _) (.cells #[.int .i64 0, .int .i64 0, .int .i64 0, .slice none 0 0] 24))
  clear r2
  generalize hm : E.length = m at *
  clear hm r1
  obtain ⟨g0, g1, g2, g3, _⟩ := hrG.c8
  obtain ⟨f0, f1, f2, f3⟩ := hrP.f4
  obtain ⟨c0, c1, c2, c3⟩ := hrP.c4
  have lP := hrP.lt
  have lG := hrG.lt
  go_enter Tryz.func51, Tryz.ntmps51
  go_wp2_with fail
  have hrA := Row.newA w #[.int .i64 N, .int .i64 L, .int .i64 st, .slice ade m ce] 24
  refine bodyPost_ret (results_cell1 Tryz.results51 hrA Tryz.isAgg24 Tryz.sizeOf24 rfl rfl) rfl ?_
  have hbF : Below w.heap.size w (w.alloc (.cells #[.int .i64 N, .int .i64 L, .int .i64 st, .slice ade m ce] 24)) := (Below.refl _ _).alloc (Nat.le_refl _) _
  exact ⟨hbF, ade, ce, rfl, r2'.out⟩
theorem own_any {g N : Nat} {L st : Int} {E : List Edg} {w : World} (h : GraphAt w g N L st E) :
    Calls Tryz.prog 51 #[.pointer (some ⟨g, 0, none⟩)] w (fun e w' => Below w.heap.size w w' ∧ ∃ ad c, e = .returned (.agg #[.int .i64 N, .int .i64 L, .int .i64 st, .slice ad E.length c]) ∧ Reads w' (.slice ad E.length c) E.length 3 (E.flatMap encE)) :=
  (own0_any h (Below.refl _ _)).mono fun e w' ⟨hb, ad, c, h1, h2⟩ => ⟨hb, ad, c, h1, h2 w' hb⟩
set_option maxRecDepth 100000 in
theorem num0 {g N : Nat} {L st : Int} {E : List Edg} {w : World} (h : GraphAt w g N L st E) :
    Calls Tryz.prog 33 #[.pointer (some ⟨g, 0, none⟩)] w (fun e w' => e = .returned (.int .i64 (N : Int)) ∧ Below w.heap.size w w') := by
  go_enter Tryz.func33, Tryz.ntmps33
  go_wp2_with fail
  refine (own_any h).mono ?_
  rintro e w1 ⟨hb, ad, c, rfl, _⟩
  have hfd := fun w => fieldSys0 (.int .i64 N) (.int .i64 L) (.int .i64 st) (.slice ad E.length c) w
  go_wp2_with fail
  go_ret
  exact ⟨rfl, hb⟩
set_option maxRecDepth 100000 in
theorem num1 {g N : Nat} {L st : Int} {E : List Edg} {w : World} (h : GraphAt w g N L st E) :
    Calls Tryz.prog 34 #[.pointer (some ⟨g, 0, none⟩)] w (fun e w' => e = .returned (.int .i64 L) ∧ Below w.heap.size w w') := by
  go_enter Tryz.func34, Tryz.ntmps34
  go_wp2_with fail
  refine (own_any h).mono ?_
  rintro e w1 ⟨hb, ad, c, rfl, _⟩
  have hfd := fun w => fieldSys1 (.int .i64 N) (.int .i64 L) (.int .i64 st) (.slice ad E.length c) w
  go_wp2_with fail
  go_ret
  exact ⟨rfl, hb⟩
set_option maxRecDepth 100000 in
theorem num2 {g N : Nat} {L st : Int} {E : List Edg} {w : World} (h : GraphAt w g N L st E) :
    Calls Tryz.prog 35 #[.pointer (some ⟨g, 0, none⟩)] w (fun e w' => e = .returned (.int .i64 st) ∧ Below w.heap.size w w') := by
  go_enter Tryz.func35, Tryz.ntmps35
  go_wp2_with fail
  refine (own_any h).mono ?_
  rintro e w1 ⟨hb, ad, c, rfl, _⟩
  have hfd := fun w => fieldSys2 (.int .i64 N) (.int .i64 L) (.int .i64 st) (.slice ad E.length c) w
  go_wp2_with fail
  go_ret
  exact ⟨rfl, hb⟩
set_option maxRecDepth 100000 in
theorem edges_any {g N : Nat} {L st : Int} {E : List Edg} {w : World} (h : GraphAt w g N L st E) :
    Calls Tryz.prog 14 #[.pointer (some ⟨g, 0, none⟩)] w (fun e w' => ∃ v, e = .returned v ∧ Below w.heap.size w w' ∧ Owned w' w.heap.size 71 3 v E.length (E.flatMap encE)) := by
  have hn := h.small
  go_enter Tryz.func14, Tryz.ntmps14
  go_wp2_with fail
  refine (own_any h).mono ?_
  rintro e w1 ⟨hb, ad, c, rfl, hr⟩
  have hfd := fun w => fieldSys3 (.int .i64 N) (.int .i64 L) (.int .i64 st) (.slice ad E.length c) w
  go_wp2_with fail
  refine (cloneE _ E.length _ w1 hr (one_cellE E) (by omega)).mono ?_
  rintro e w2 ⟨v, rfl, hb2, ho⟩
  have hB := Below.chain hb hb2
  go_wp2_with fail
  go_ret
  exact ⟨_, rfl, hB, ho.mono hb.size⟩
theorem graph_small {w : World} {g N : Nat} {L st : Int} {E : List Edg} (h : GraphAt w g N L st E) : E.length ≤ 10000 := h.small.2.1
set_option maxRecDepth 100000 in
theorem each0_any {g N : Nat} {L st : Int} {E : List Edg} {w0 w : World} (i : Int) (h : GraphAt w0 g N L st E) (hw : Below w0.heap.size w0 w) :
    Calls Tryz.prog 48 #[.pointer (some ⟨g, 0, none⟩), .int .i64 i] w (fun e w' => ∃ ad, e = .returned (.slice ad (outs E i).length (outs E i).length) ∧ Below w.heap.size w w' ∧ ∀ w'', Below w0.heap.size w0 w'' → StepsAt w'' (outs E i) ad) := by
  have hcall : ∀ m, m = E.length → ∀ (ado : Option Addr) (co fo : Nat), Reads w0 (.slice ado m co) m 2 ((E.map toF).flatMap encS) → m ≤ co → Row w fo 3 (ints (sums Edg.fr E N N)) →
      Calls Tryz.prog 106 #[.agg #[.slice ado m co, .slice (some ⟨fo, 0, none⟩) (N + 1) (N + 1)], .int .i64 i] w (RowPost Edg.fr toF E i w0 w) := by
    intro m hm ado co fo h1 h2 h3
    have hs := h.small
    by_cases hi : i < 0 ∨ (N : Int) ≤ i
    · exact row_out Edg.fr toF E N i m ado co fo w0 w (fun e he => ⟨(h.rng e he).1, (h.rng e he).2.1⟩) hs.1 hi
    · obtain ⟨k, rfl⟩ : ∃ k : Nat, i = k := ⟨i.toNat, by omega⟩
      exact row_in Edg.fr toF E N k m ado co fo w0 w (srt_key h.srt) hm (by omega) h2 hs.1 (by omega) h1 h3
  obtain ⟨_, _, _, ade, ce, ado, co, fo, adi, ci, fi, r1, r2, ⟨r3, c3⟩, r4, _⟩ := h
  have hc := Lib.hid (hcall E.length rfl ado co fo r3 c3 (r4.ext hw))
  generalize hm : E.length = m at *
  clear hcall hm r2 r3 r4
  have r1 := r1.ext hw
  obtain ⟨g0, g1, g2, g3, g4, g5, g6, g7⟩ := r1.c8
  have lG := r1.lt
  go_enter Tryz.func48, Tryz.ntmps48
  go_wp2_with fail
  refine (hc.out).mono ?_
  rintro e w1 hq
  obtain ⟨ad1, rfl, hb, hr⟩ := rowpost_out hq
  go_wp2_with fail
  go_ret
  exact ⟨_, rfl, hb, hr⟩
theorem each_any {g N : Nat} {L st : Int} {E : List Edg} {w : World} (i : Int) (h : GraphAt w g N L st E) :
    Calls Tryz.prog 48 #[.pointer (some ⟨g, 0, none⟩), .int .i64 i] w (fun e w' => ∃ ad, e = .returned (.slice ad (outs E i).length (outs E i).length) ∧ Below w.heap.size w w' ∧ StepsAt w' (outs E i) ad) :=
  (each0_any i h (Below.refl _ _)).mono fun e w' ⟨ad, h1, h2, h3⟩ => ⟨ad, h1, h2, h3 w' h2⟩
set_option maxRecDepth 100000 in
theorem back0_any {g N : Nat} {L st : Int} {E : List Edg} {w0 w : World} (i : Int) (h : GraphAt w0 g N L st E) (hw : Below w0.heap.size w0 w) :
    Calls Tryz.prog 49 #[.pointer (some ⟨g, 0, none⟩), .int .i64 i] w (fun e w' => ∃ ad, e = .returned (.slice ad (ins E i).length (ins E i).length) ∧ Below w.heap.size w w' ∧ ∀ w'', Below w0.heap.size w0 w'' → StepsAt w'' (ins E i) ad) := by
  have hl := bk_len h.srt
  have hcall : ∀ m, m = E.length → ∀ (ado : Option Addr) (co fo : Nat), Reads w0 (.slice ado m co) m 2 (((bkE E).map toT).flatMap encS) → m ≤ co → Row w fo 3 (ints (sums Edg.to (bkE E) N N)) →
      Calls Tryz.prog 106 #[.agg #[.slice ado m co, .slice (some ⟨fo, 0, none⟩) (N + 1) (N + 1)], .int .i64 i] w (RowPost Edg.to toT (bkE E) i w0 w) := by
    intro m hm ado co fo h1 h2 h3
    have hs := h.small
    have hr : ∀ e ∈ bkE E, 0 ≤ e.to ∧ e.to < N := fun e he => by have := h.rng e ((bk_mem E e).1 he); omega
    by_cases hi : i < 0 ∨ (N : Int) ≤ i
    · exact row_out Edg.to toT (bkE E) N i m ado co fo w0 w hr hs.1 hi
    · obtain ⟨k, rfl⟩ : ∃ k : Nat, i = k := ⟨i.toNat, by omega⟩
      exact row_in Edg.to toT (bkE E) N k m ado co fo w0 w (bk_key E) (by omega) (by omega) h2 hs.1 (by omega) h1 h3
  obtain ⟨_, _, _, ade, ce, ado, co, fo, adi, ci, fi, r1, r2, ⟨r3, c3⟩, r4, ⟨r5, c5⟩, r6⟩ := h
  have hc := Lib.hid (hcall E.length rfl adi ci fi r5 c5 (r6.ext hw))
  generalize hm : E.length = m at *
  clear hcall hm r2 r3 r4 r5 r6 hl
  have r1 := r1.ext hw
  obtain ⟨g0, g1, g2, g3, g4, g5, g6, g7⟩ := r1.c8
  have lG := r1.lt
  go_enter Tryz.func49, Tryz.ntmps49
  go_wp2_with fail
  refine (hc.out).mono ?_
  rintro e w1 hq
  obtain ⟨ad1, rfl, hb, hr⟩ := rowpost_in hq
  go_wp2_with fail
  go_ret
  exact ⟨_, rfl, hb, hr⟩
theorem back_any {g N : Nat} {L st : Int} {E : List Edg} {w : World} (i : Int) (h : GraphAt w g N L st E) :
    Calls Tryz.prog 49 #[.pointer (some ⟨g, 0, none⟩), .int .i64 i] w (fun e w' => ∃ ad, e = .returned (.slice ad (ins E i).length (ins E i).length) ∧ Below w.heap.size w w' ∧ StepsAt w' (ins E i) ad) :=
  (back0_any i h (Below.refl _ _)).mono fun e w' ⟨ad, h1, h2, h3⟩ => ⟨ad, h1, h2, h3 w' h2⟩
end Go.Proofs.YtkknklagoghljaaGreatDoor
