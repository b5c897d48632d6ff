/- The document's own: Sorted. -/
import Derived.Test.YtkknklagoghljaaGreatDoorRef1
import Derived.Test.YtkknklagoghljaaGreatDoorRefL
import Derived.Test.YtkknklagoghljaaGreatDoorBook1
import Derived.Test.YtkknklagoghljaaGreatDoorReg
import Derived.Lib.Hide
import Derived.Deep.RegionWith
import Derived.Deep.DeepCutAuto
namespace Go.Proofs.YtkknklagoghljaaGreatDoor
open Go.RowKit
open Go.RowKit (Below)
theorem neqE_f (a b c : Int) (w : World) : (binOp .neq 71 (.agg #[.int .i64 a, .int .i64 b, .int .i64 c]) (.agg #[.int .i64 a, .int .i64 b, .int .i64 c])).run Tryz.prog w = .ok (.bool false) w := by rw [neqE]; simp
theorem neqE_t (a b c d e f : Int) (h : ¬ (a = d ∧ b = e ∧ c = f)) (w : World) : (binOp .neq 71 (.agg #[.int .i64 a, .int .i64 b, .int .i64 c]) (.agg #[.int .i64 d, .int .i64 e, .int .i64 f])).run Tryz.prog w = .ok (.bool true) w := by
  rw [neqE, show (a == d && (b == e && c == f)) = false by simp only [Bool.and_eq_false_iff, beq_eq_false_iff_ne]; by_cases a = d <;> by_cases b = e <;> simp_all]; rfl
/-- Which of the two comes next. -/
def pickB (A B : List Edg) (i k : Nat) : Bool := match A[i]?, B[k]? with
  | some a, some b => !ltE b a
  | some _, none => true
  | none, _ => false
def SortedPostR (l : List Edg) (w : World) (e : Ending) (w' : World) : Prop := ∃ v', e = .returned v' ∧ Below w.heap.size w w' ∧ Owned w' w.heap.size 71 3 v' (normE l).length ((normE l).flatMap encE)
theorem half_le (n : Nat) (h : 2 ≤ n) : n / 2 < n ∧ 1 ≤ n / 2 ∧ n - n / 2 < n := by omega
set_option maxRecDepth 100000 in
set_option maxHeartbeats 1000000 in
theorem sortedR_small (l : List Edg) (ad : Option Addr) (c : Nat) (w : World) (h2 : l.length < 2) (hr : Reads w (.slice ad l.length c) l.length 3 (l.flatMap encE)) :
    Calls Tryz.prog 23 #[.slice ad l.length c] w (SortedPostR l w) := by
  have hn := Lib.hid (normE_one l h2)
  obtain ⟨n, hn0⟩ : ∃ n, n = l.length := ⟨_, rfl⟩
  have hpost : Hid (∀ v' w', Below w.heap.size w w' → Owned w' w.heap.size 71 3 v' n (l.flatMap encE) → SortedPostR l w (.returned v') w') := by
    intro v' w' h1 h3
    refine ⟨v', rfl, h1, ?_⟩
    rw [hn.out, ← hn0]; exact h3
  rw [← hn0] at hr h2 ⊢
  have h1c := Lib.hid (one_cellE l)
  clear hn hn0
  go_enter Tryz.func23, Tryz.ntmps23
  go_wp2_with (first | (refine appn22 rfl rfl _ _ rfl w.heap.size (.slice none 0 0) 0 [] rfl (Owned.nil _ _ _ _ _) _ n _ rfl hr h1c.out (by omega) (Nat.le_refl _) ?_) | fail)
  intro v' w1 ho hg hm
  have hb := (Below.refl w.heap.size w).grown hg (Nat.le_refl _) (fun q hq => by cases hq)
  clear hg hm
  go_wp2_with fail
  go_ret
  exact hpost.out _ _ hb ho
set_option maxRecDepth 100000 in
set_option maxHeartbeats 8000000 in
theorem sortedR_any (N : Nat) : ∀ (l : List Edg) (ad : Option Addr) (c : Nat) (w : World), l.length ≤ N → l.length ≤ 100000000 → l.length ≤ c → Reads w (.slice ad l.length c) l.length 3 (l.flatMap encE) →
    Calls Tryz.prog 23 #[.slice ad l.length c] w (SortedPostR l w) := by
  induction N with
  | zero => exact fun l ad c w hl _ _ hr => sortedR_small l ad c w (by omega) hr
  | succ N ih =>
    intro l ad c w hl hbig hc hr
    by_cases h2 : l.length < 2
    · exact sortedR_small l ad c w h2 hr
    · obtain ⟨n, hn0⟩ : ∃ n, n = l.length := ⟨_, rfl⟩
      obtain ⟨-, ad', c', hv, hr'⟩ := hr
      cases hv
      obtain ⟨b, o, rfl, hcell⟩ := hr' (by omega)
      obtain ⟨hh1, hh2, hh3⟩ := half_le l.length (by omega)
      obtain ⟨md, hh⟩ : ∃ md, md = l.length / 2 := ⟨_, rfl⟩
      rw [← hh] at hh1 hh2 hh3
      have hlA : (l.take md).length = md := by rw [List.length_take]; omega
      have hlB : (l.drop md).length = l.length - md := by rw [List.length_drop]
      have hcA : CellsAt w b o ((l.take md).flatMap encE) := by rw [flat_take encE 3 encE_len]; exact hcell.take _
      have hcB : CellsAt w b (o + md * 3) ((l.drop md).flatMap encE) := by rw [flat_drop encE 3 encE_len]; exact hcell.drop _
      have ihA : Hid (∀ w', Below w.heap.size w w' → Calls Tryz.prog 23 #[.slice (some ⟨b, o, none⟩) md c] w' (SortedPostR (l.take md) w')) := fun w' hb => by
        have := ih (l.take md) (some ⟨b, o, none⟩) c w' (by omega) (by omega) (by omega) ⟨by rw [flat_len encE 3 encE_len], _, _, rfl, fun _ => ⟨b, o, rfl, hcA.ext hb⟩⟩
        rwa [hlA] at this
      have ihB : Hid (∀ w', Below w.heap.size w w' → Calls Tryz.prog 23 #[.slice (some ⟨b, o + md * 3, none⟩) (n - md) (c - md)] w' (SortedPostR (l.drop md) w')) := fun w' hb => by
        have := ih (l.drop md) (some ⟨b, o + md * 3, none⟩) (c - md) w' (by omega) (by omega) (by omega) ⟨by rw [flat_len encE 3 encE_len], _, _, rfl, fun _ => ⟨b, _, rfl, hcB.ext hb⟩⟩
        rwa [hlB, ← hn0] at this
      have hm := Lib.hid (normE_halves l md)
      have hpost : Hid (∀ v' w', Below w.heap.size w w' → Owned w' w.heap.size 71 3 v' (normE l).length ((normE l).flatMap encE) → SortedPostR l w (.returned v') w') := fun v' w' h1 h3 => ⟨v', rfl, h1, h3⟩
      have hn' := Lib.hid hn0
      rw [← hn0] at h2 hbig hc hh1 hh3 hh ⊢
      have hh' : ((n : Int) / 2) = (md : Int) := by omega
      have hb0 := hcell.lt (by rw [flat_len encE 3 encE_len, ← hn0]; omega)
      clear ih hl hr' hlA hlB hcA hcB hcell hn0 hh
      go_enter Tryz.func23, Tryz.ntmps23
      have e1 : (0 : Int) ≤ (md : Int) := by omega
      have e2 : (md : Int) ≤ (c : Int) := by omega
      have e3 : (md : Int) ≤ (n : Int) := by omega
      have e4 : (n : Int) ≤ (c : Int) := by omega
      have e5 : md ≤ c := by omega
      have e6 : md ≤ n := by omega
      have e7 : (n : Int).tdiv 2 = (md : Int) := by rw [Int.tdiv_eq_ediv_of_nonneg (by omega)]; omega
      have e8 : IntKind.i64.wrap (md : Int) = (md : Int) := IntWalk.i64_in _ (by omega)
      go_wp2_with fail
      go_region_with (first | (go_at_call_of 23 (Value.slice (some ⟨b, o, none⟩) md c); refine (ihA.out _ ((Below.refl _ _).drew)).mono ?_; rintro e w1 ⟨vA, rfl, hb1, hoA⟩; have hb1' : Below w.heap.size w w1 := ((Below.refl w.heap.size w).drew).trans hb1) | (go_at_call_of 23 (Value.slice (some ⟨b, o + md * 3, none⟩) (n - md) (c - md)); refine (ihB.out _ hb1').mono ?_; rintro e w2 ⟨vB, rfl, hb2, hoB⟩))
      obtain ⟨A, hA⟩ : ∃ A, A = normE (l.take md) := ⟨_, rfl⟩
      obtain ⟨B, hB⟩ : ∃ B, B = normE (l.drop md) := ⟨_, rfl⟩
      have hsA : Hid (Srt ltE A) := by rw [Hid, hA]; exact srt_snorm stoE _
      have hsB : Hid (Srt ltE B) := by rw [Hid, hB]; exact srt_snorm stoE _
      have hlA := length_snorm_le (lt := ltE) (l.take md)
      have hlB := length_snorm_le (lt := ltE) (l.drop md)
      rw [List.length_take] at hlA
      rw [List.length_drop] at hlB
      have hmem : Hid (∀ x, x ∈ l ↔ x ∈ A ∨ x ∈ B) := by rw [Hid, hA, hB]; exact hm.out
      rw [← hA] at hoA
      rw [← hB] at hoB
      unfold normE at hA hB
      rw [← hA] at hlA
      rw [← hB] at hlB
      obtain ⟨na, hna⟩ : ∃ na, na = A.length := ⟨_, rfl⟩
      obtain ⟨nb, hnb⟩ : ∃ nb, nb = B.length := ⟨_, rfl⟩
      rw [← hna] at hoA hlA
      rw [← hnb] at hoB hlB
      have hna' := Lib.hid hna
      have hnb' := Lib.hid hnb
      obtain ⟨adA, cA, rfl⟩ := hoA.form
      obtain ⟨adB, cB, rfl⟩ := hoB.form
      have hrA := Lib.hid (hoA.ext hb2).reads
      have hrB := Lib.hid hoB.reads
      have hb2' : Below w.heap.size w w2 := hb1'.trans (hb2.mono hb1'.size)
      have hnl : na ≤ n ∧ nb ≤ n := by have := hn'.out; omega
      have hbs0 := hb2'.size
      clear hm hA hB hlA hlB hna hnb hoA hoB hb1 hb2 hb1' ihA ihB e1 e2 e3 e4 e5 e6 e7 e8 hh' hh1 hh2 hh3 hc
      go_wp2_with fail
      go_loopw [5, 6, 7] (fun so si sk wr => ∃ (i k : Nat) (out : List Edg), i ≤ na ∧ k ≤ nb ∧ si = .int .i64 i ∧ sk = .int .i64 k ∧ MInv ltE A B i k out ∧ Below w.heap.size w wr ∧ Below w2.heap.size w2 wr ∧
        Owned wr w2.heap.size 71 3 so out.length (out.flatMap encE)) (fun _ si sk _ => na + nb - ((intOf si).toNat + (intOf sk).toNat))
      case atStart => exact ⟨0, 0, [], by omega, by omega, rfl, rfl, MInv.start A B, hb2', Below.refl _ _, Owned.nil _ _ _ _ _⟩
      case round =>
        obtain ⟨i, k, out, hi, hk, rfl, rfl, hI, hbl, hbl2, ho⟩ := hrel
        have hIl := hI.len
        have hI' := Lib.hid hI
        obtain ⟨no, hno⟩ : ∃ no, no = out.length := ⟨_, rfl⟩
        rw [← hno] at ho hIl
        have hno' := Lib.hid hno
        obtain ⟨adO, cO, rfl⟩ := ho.form
        have hbs := hbl.size
        have hbs2 := hbl2.size
        clear hI hno hb2'
        by_cases hend : i < na ∨ k < nb
        --BEGIN
        · by_cases q1 : i < na
          · by_cases q2 : k < nb
            · obtain ⟨⟨fa, la, ta⟩, hx1⟩ : ∃ s, A[i]? = some s := ⟨A[i]'(by have := hna'.out; omega), by have := hna'.out; simp [show i < A.length by omega]⟩
              obtain ⟨-, ad1, c1, hv1, hc1⟩ := hrA.out.ext hbl2
              cases hv1
              obtain ⟨b1, o1, rfl, hcl1⟩ := hc1 (by omega)
              obtain ⟨ca11, ca12, ca13⟩ := hcl1.e1 hx1
              have lb1 := hcl1.lt (by rw [flat_len encE 3 encE_len]; have := hna'.out; omega)
              have hx1' := Lib.hid hx1
              have m1 : (i : Int) < (na : Int) := by omega
              clear hx1 hc1 hcl1
              obtain ⟨⟨fb, lb, tb⟩, hx2⟩ : ∃ s, B[k]? = some s := ⟨B[k]'(by have := hnb'.out; omega), by have := hnb'.out; simp [show k < B.length by omega]⟩
              obtain ⟨-, ad2, c2, hv2, hc2⟩ := hrB.out.ext hbl2
              cases hv2
              obtain ⟨b2, o2, rfl, hcl2⟩ := hc2 (by omega)
              obtain ⟨ca21, ca22, ca23⟩ := hcl2.e1 hx2
              have lb2 := hcl2.lt (by rw [flat_len encE 3 encE_len]; have := hnb'.out; omega)
              have hx2' := Lib.hid hx2
              have m2 : (k : Int) < (nb : Int) := by omega
              clear hx2 hc2 hcl2
              by_cases hlt : ltE ⟨fb, lb, tb⟩ ⟨fa, la, ta⟩ = true
              · skip
                have hless : Hid (∀ w, Calls Tryz.prog 99 #[.agg #[.int .i64 fb, .int .i64 lb, .int .i64 tb], .agg #[.int .i64 fa, .int .i64 la, .int .i64 ta]] w (fun r w' => r = .returned (.bool true) ∧ Below w.heap.size w w')) := fun w => by
                  have h := less_any fb lb tb fa la ta w
                  rw [hlt] at h; exact h
                have hst : MInv ltE A B i (k + 1) (addL out ⟨fb, lb, tb⟩) := by
                  exact hI'.out.right stoE hsA.out hsB.out hx2'.out (fun a ha => by have := ha.symm.trans hx1'.out; injection this with this; rw [this]; exact hlt)
                clear hlt
                have d1 : decide (nb ≤ k) = false := decide_eq_false (by omega)
                have d2 : decide (i < na) = true := decide_eq_true (by omega)
                go_wp2_with fail
                refine wp_region_readsS 18 (fun w' => w'.cell? ⟨b1, o1 + i * 3, none⟩ = some (.int .i64 fa) ∧ w'.cell? ⟨b1, o1 + i * 3 + 1, none⟩ = some (.int .i64 la) ∧ w'.cell? ⟨b1, o1 + i * 3 + 2, none⟩ = some (.int .i64 ta) ∧
                    w'.cell? ⟨b2, o2 + k * 3, none⟩ = some (.int .i64 fb) ∧ w'.cell? ⟨b2, o2 + k * 3 + 1, none⟩ = some (.int .i64 lb) ∧ w'.cell? ⟨b2, o2 + k * 3 + 2, none⟩ = some (.int .i64 tb)) (by kernel_rfl) (by kernel_rfl) (fun _ _ d _ _ h => by cases d <;> exact h) (fun V hV => ?_)
                have hbV : Below wr.heap.size wr V := by rw [hV]; exact ((Below.refl _ _).alloc (Nat.le_refl _) _).drew
                have hrV : Row V wr.heap.size 71 [.int .i64 0, .int .i64 0, .int .i64 0] := by rw [hV]; exact (Row.newA wr #[.int .i64 0, .int .i64 0, .int .i64 0] 71).drew
                have hSV := And.intro ((hbV.cell (p := ⟨b1, o1 + i * 3, none⟩) lb1).trans ca11) (And.intro ((hbV.cell (p := ⟨b1, o1 + i * 3 + 1, none⟩) lb1).trans ca12) (And.intro ((hbV.cell (p := ⟨b1, o1 + i * 3 + 2, none⟩) lb1).trans ca13) (And.intro ((hbV.cell (p := ⟨b2, o2 + k * 3, none⟩) lb2).trans ca21) (And.intro ((hbV.cell (p := ⟨b2, o2 + k * 3 + 1, none⟩) lb2).trans ca22) ((hbV.cell (p := ⟨b2, o2 + k * 3 + 2, none⟩) lb2).trans ca23)))))
                clear hV
                refine ⟨hSV, ?_⟩
                simp only [List.take_succ_cons, List.take_zero, List.drop_succ_cons, List.drop_zero]
                repeat
                  refine wpYld_stepG (v := ?_) rfl ?_ ?_
                  rotate_left
                  · intro wy hSy
                    obtain ⟨y0, y1, y2, y3, y4, y5⟩ := hSy
                    go_simp
                    try with_reducible rfl
                  rotate_right
                  try simp only [Act.put, List.setIfInBounds_toArray, List.set_cons_zero, List.set_cons_succ]
                refine wpYld_nil ?_
                refine wpTlS_step (fun K hK => ?_)
                go_simp
                go_at_call 99
                refine (hless.out _).mono ?_
                rintro e w7 ⟨rfl, hbL⟩
                have hb7 : Below wr.heap.size wr w7 := hbV.trans (hbL.mono hbV.size)
                have hr7 := hrV.ext hbL
                have hS7 := And.intro ((hb7.cell (p := ⟨b1, o1 + i * 3, none⟩) lb1).trans ca11) (And.intro ((hb7.cell (p := ⟨b1, o1 + i * 3 + 1, none⟩) lb1).trans ca12) (And.intro ((hb7.cell (p := ⟨b1, o1 + i * 3 + 2, none⟩) lb1).trans ca13) (And.intro ((hb7.cell (p := ⟨b2, o2 + k * 3, none⟩) lb2).trans ca21) (And.intro ((hb7.cell (p := ⟨b2, o2 + k * 3 + 1, none⟩) lb2).trans ca22) ((hb7.cell (p := ⟨b2, o2 + k * 3 + 2, none⟩) lb2).trans ca23)))))
                refine hK _ _ hS7 ?_
                clear hK K hless
                refine wpTlS_step (fun K hK => ?_)
                go_simp
                refine hK _ _ hS7 ?_
                clear hK K
                refine wpTlS_step (fun K hK => ?_)
                go_simp
                refine hK _ _ hS7 ?_
                clear hK K
                refine wpTlS_step (fun K hK => ?_)
                go_simp
                refine hK _ _ hS7 ?_
                clear hK K
                refine wpTlS_nil ?_
                obtain ⟨dd1, dd2, dd3, dd4, dd5, dd6⟩ := hS7
                have l7 := hr7.lt
                obtain ⟨f70, f71, f72⟩ := hr7.f3
                obtain ⟨g70, g71, g72⟩ := hr7.c3
                have lb1' := Nat.lt_of_lt_of_le lb1 hb7.size
                have lb2' := Nat.lt_of_lt_of_le lb2 hb7.size
                go_wp2_with fail
                have hWr : Row (w7) wr.heap.size 71 [.int .i64 0, .int .i64 0, .int .i64 0] := hr7
                have hbW : Below wr.heap.size wr (w7) := hb7
                obtain ⟨V, hV⟩ : ∃ V, V = w7 := ⟨_, rfl⟩
                rw [← hV] at hWr hbW ⊢
                have hWr := ((hWr.set 0 (.int .i64 fb)).set 1 (.int .i64 lb)).set 2 (.int .i64 tb)
                have hbW := ((hbW.setCell (p := ⟨wr.heap.size, 0, none⟩) (Nat.le_refl _) (.int .i64 fb)).setCell (p := ⟨wr.heap.size, 1, none⟩) (Nat.le_refl _) (.int .i64 lb)).setCell (p := ⟨wr.heap.size, 2, none⟩) (Nat.le_refl _) (.int .i64 tb)
                simp only [List.set_cons_succ, List.set_cons_zero] at hWr
                obtain ⟨W, hW⟩ : ∃ W, W = ((V.setCell ⟨wr.heap.size, 0, none⟩ (.int .i64 fb)).setCell ⟨wr.heap.size, 1, none⟩ (.int .i64 lb)).setCell ⟨wr.heap.size, 2, none⟩ (.int .i64 tb) := ⟨_, rfl⟩
                rw [← hW] at hWr hbW ⊢
                clear hV hW
                have hoW := ho.ext hbW
                have hbw : Below w.heap.size w W := hbl.trans (hbW.mono hbs)
                have hbw2 : Below w2.heap.size w2 W := hbl2.trans (hbW.mono hbs2)
                obtain ⟨s0, s1, s2⟩ := hWr.c3
                have lS := hWr.lt
                have hst' := Lib.hid hst
                have hbWs := hbW.size
                clear ho hbl hbl2 hI' hst hbW
                rcases Nat.eq_zero_or_pos no with hz | hz
                · have hout : Hid (addL out ⟨fb, lb, tb⟩ = out ++ [⟨fb, lb, tb⟩]) := by
                    have : out = [] := List.eq_nil_of_length_eq_zero (by have := hno'.out; omega)
                    rw [Hid, this]; simp [addL]
                  subst hz
                  go_wp2_with fail
                  go_quiet (fail)
                  obtain ⟨V, hV⟩ : ∃ V, V = W.drewN nq := ⟨_, rfl⟩
                  have vs0 : V.cell? ⟨wr.heap.size, 0, none⟩ = some (.int .i64 fb) := by rw [hV]; exact s0
                  have vs1 : V.cell? ⟨wr.heap.size, 1, none⟩ = some (.int .i64 lb) := by rw [hV]; exact s1
                  have vs2 : V.cell? ⟨wr.heap.size, 2, none⟩ = some (.int .i64 tb) := by rw [hV]; exact s2
                  have hoV : Owned V w2.heap.size 71 3 (.slice adO 0 cO) 0 (out.flatMap encE) := by rw [hV]; exact hoW
                  have hbv : Below w.heap.size w V := by rw [hV]; exact below_drewN hbw nq
                  have hbv2 : Below w2.heap.size w2 V := by rw [hV]; exact below_drewN hbw2 nq
                  have lV : wr.heap.size < V.heap.size := by rw [hV]; exact lS
                  have lV2 : w2.heap.size ≤ V.heap.size := hbv2.size
                  rw [← hV]
                  clear hV hoW hbw hbw2 s0 s1 s2 lS 
                  go_wp2_with (first | (refine app22 rfl rfl _ _ rfl w2.heap.size _ 0 _ rfl V hoV #[.int .i64 fb, .int .i64 lb, .int .i64 tb] _ rfl V.heap.size rfl rfl rfl (by simp [Value.oneCell']) (by omega) (by omega) ?_) | fail)
                  intro v9 w9 ho9 hg9 hm9
                  have hb9 := hbv.grown hg9 hbv.size (fun q hq => by have := (hoV.lt hq).1; omega)
                  have hb92 := hbv2.grown hg9 hbv2.size (fun q hq => (hoV.lt hq).1)
                  clear hg9 hm9 hoV vs0 vs1 vs2
                  go_wp2_with fail
                  go_roundw
                  case rel =>
                    have hfin : Owned w9 w2.heap.size 71 3 v9 (addL out ⟨fb, lb, tb⟩).length ((addL out ⟨fb, lb, tb⟩).flatMap encE) := by
                      rw [hout.out, List.length_append, List.flatMap_append, ← hno'.out]; exact ho9
                    exact ⟨i, k + 1, _, by omega, by omega, by first | rfl | go_num, by first | rfl | go_num, hst'.out, hb9, hb92, hfin⟩
                  case measure => simp [intOf]; omega
                · obtain ⟨p, rfl⟩ : ∃ p, no = p + 1 := ⟨no - 1, by omega⟩
                  obtain ⟨gO, cpO, restO, hvO, hncO, hcmO, hBO, hrO, hrlO, -⟩ := hoW.row (by omega)
                  cases hvO
                  obtain ⟨⟨f2, l2, t2⟩, hzl⟩ : ∃ s, out[p]? = some s := ⟨out[p]'(by have := hno'.out; omega), by have := hno'.out; simp [show p < out.length by omega]⟩
                  have hze := hrO.cellsAt'.e1 hzl
                  simp only [Nat.zero_add] at hze
                  obtain ⟨z1, z2, z3⟩ := hze
                  have hlast : Hid (out.getLast? = some ⟨f2, l2, t2⟩) := by
                    rw [Hid, List.getLast?_eq_getElem?, ← hno'.out]; exact hzl
                  have lO := hrO.lt
                  have k1 : IntKind.i64.wrap ((p : Int) + 1 - 1) = (p : Int) := by rw [show (p : Int) + 1 - 1 = p by omega]; exact IntWalk.i64_in _ (by omega)
                  have k2 : (p : Int) + 1 - 1 = (p : Int) := by omega
                  have k3 : (0 : Int) ≤ (p : Int) := by omega
                  have k4 : (p : Int) < (p : Int) + 1 := by omega
                  have k5 : ((p : Int) + 1 == 0) = false := by simp; omega
                  have k6 : IntKind.i64.wrap (p : Int) = (p : Int) := IntWalk.i64_in _ (by omega)
                  have g2 := fun op x y => guardRunE op x y #[.int .i64 f2, .int .i64 l2, .int .i64 t2] #[.int .i64 fb, .int .i64 lb, .int .i64 tb]
                  clear hzl hrO
                  by_cases heq : f2 = fb ∧ l2 = lb ∧ t2 = tb
                  · have g1 : ∀ w, (binOp .neq 71 (.agg #[.int .i64 f2, .int .i64 l2, .int .i64 t2]) (.agg #[.int .i64 fb, .int .i64 lb, .int .i64 tb])).run Tryz.prog w = .ok (.bool false) w := fun w => by
                      obtain ⟨rfl, rfl, rfl⟩ := heq; exact neqE_f _ _ _ w
                    have hout : Hid (addL out ⟨fb, lb, tb⟩ = out) := by
                      rw [Hid]; unfold addL; rw [if_pos (by rw [hlast.out]; obtain ⟨rfl, rfl, rfl⟩ := heq; rfl)]
                    clear heq
                    go_wp2_with fail
                    go_quiet (fail)
                    have hbv : Below w.heap.size w (W.drewN nq) := below_drewN hbw nq
                    have hbv2 : Below w2.heap.size w2 (W.drewN nq) := below_drewN hbw2 nq
                    go_wp2_with fail
                    go_roundw
                    case rel =>
                      have hfin : Owned (W.drewN nq) w2.heap.size 71 3 (.slice (some ⟨gO, 0, none⟩) (p + 1) cO) (addL out ⟨fb, lb, tb⟩).length ((addL out ⟨fb, lb, tb⟩).flatMap encE) := by
                        rw [hout.out, ← hno'.out]; exact hoW
                      exact ⟨i, k + 1, _, by omega, by omega, by first | rfl | go_num, by first | rfl | go_num, hst'.out, hbv, hbv2, hfin⟩
                    case measure => simp [intOf]; omega
                  · have g1 := neqE_t f2 l2 t2 fb lb tb heq
                    have hout : Hid (addL out ⟨fb, lb, tb⟩ = out ++ [⟨fb, lb, tb⟩]) := by
                      rw [Hid]; unfold addL; rw [if_neg (by rw [hlast.out]; intro e; injection e with e; injection e with e1 e2 e3; exact heq ⟨e1, e2, e3⟩)]
                    clear heq
                    go_wp2_with fail
                    go_quiet (fail)
                    obtain ⟨V, hV⟩ : ∃ V, V = W.drewN nq := ⟨_, rfl⟩
                    have vs0 : V.cell? ⟨wr.heap.size, 0, none⟩ = some (.int .i64 fb) := by rw [hV]; exact s0
                    have vs1 : V.cell? ⟨wr.heap.size, 1, none⟩ = some (.int .i64 lb) := by rw [hV]; exact s1
                    have vs2 : V.cell? ⟨wr.heap.size, 2, none⟩ = some (.int .i64 tb) := by rw [hV]; exact s2
                    have hoV : Owned V w2.heap.size 71 3 (.slice (some ⟨gO, 0, none⟩) (p + 1) cO) (p + 1) (out.flatMap encE) := by rw [hV]; exact hoW
                    have hbv : Below w.heap.size w V := by rw [hV]; exact below_drewN hbw nq
                    have hbv2 : Below w2.heap.size w2 V := by rw [hV]; exact below_drewN hbw2 nq
                    have lV : wr.heap.size < V.heap.size := by rw [hV]; exact lS
                    have lV2 : w2.heap.size ≤ V.heap.size := hbv2.size
                    rw [← hV]
                    clear hV hoW hbw hbw2 s0 s1 s2 lS z1 z2 z3 k1 k2 k3 k4 k5 k6 g1 g2 lO
                    go_wp2_with (first | (refine app22 rfl rfl _ _ rfl w2.heap.size _ (p + 1) _ rfl V hoV #[.int .i64 fb, .int .i64 lb, .int .i64 tb] _ rfl V.heap.size rfl rfl rfl (by simp [Value.oneCell']) (by omega) (by omega) ?_) | fail)
                    intro v9 w9 ho9 hg9 hm9
                    have hb9 := hbv.grown hg9 hbv.size (fun q hq => by have := (hoV.lt hq).1; omega)
                    have hb92 := hbv2.grown hg9 hbv2.size (fun q hq => (hoV.lt hq).1)
                    clear hg9 hm9 hoV vs0 vs1 vs2
                    go_wp2_with fail
                    go_roundw
                    case rel =>
                      have hfin : Owned w9 w2.heap.size 71 3 v9 (addL out ⟨fb, lb, tb⟩).length ((addL out ⟨fb, lb, tb⟩).flatMap encE) := by
                        rw [hout.out, List.length_append, List.flatMap_append, ← hno'.out]; exact ho9
                      exact ⟨i, k + 1, _, by omega, by omega, by first | rfl | go_num, by first | rfl | go_num, hst'.out, hb9, hb92, hfin⟩
                    case measure => simp [intOf]; omega
              · skip
                have hless : Hid (∀ w, Calls Tryz.prog 99 #[.agg #[.int .i64 fb, .int .i64 lb, .int .i64 tb], .agg #[.int .i64 fa, .int .i64 la, .int .i64 ta]] w (fun r w' => r = .returned (.bool false) ∧ Below w.heap.size w w')) := fun w => by
                  have h := less_any fb lb tb fa la ta w
                  rw [Bool.eq_false_iff.2 hlt] at h; exact h
                have hst : MInv ltE A B (i + 1) k (addL out ⟨fa, la, ta⟩) := by
                  exact hI'.out.left stoE hsA.out hsB.out hx1'.out (fun b hb => by have := hb.symm.trans hx2'.out; injection this with this; rw [this]; exact Bool.eq_false_iff.2 hlt)
                clear hlt
                have d1 : decide (nb ≤ k) = false := decide_eq_false (by omega)
                have d2 : decide (i < na) = true := decide_eq_true (by omega)
                go_wp2_with fail
                refine wp_region_readsS 18 (fun w' => w'.cell? ⟨b1, o1 + i * 3, none⟩ = some (.int .i64 fa) ∧ w'.cell? ⟨b1, o1 + i * 3 + 1, none⟩ = some (.int .i64 la) ∧ w'.cell? ⟨b1, o1 + i * 3 + 2, none⟩ = some (.int .i64 ta) ∧
                    w'.cell? ⟨b2, o2 + k * 3, none⟩ = some (.int .i64 fb) ∧ w'.cell? ⟨b2, o2 + k * 3 + 1, none⟩ = some (.int .i64 lb) ∧ w'.cell? ⟨b2, o2 + k * 3 + 2, none⟩ = some (.int .i64 tb)) (by kernel_rfl) (by kernel_rfl) (fun _ _ d _ _ h => by cases d <;> exact h) (fun V hV => ?_)
                have hbV : Below wr.heap.size wr V := by rw [hV]; exact ((Below.refl _ _).alloc (Nat.le_refl _) _).drew
                have hrV : Row V wr.heap.size 71 [.int .i64 0, .int .i64 0, .int .i64 0] := by rw [hV]; exact (Row.newA wr #[.int .i64 0, .int .i64 0, .int .i64 0] 71).drew
                have hSV := And.intro ((hbV.cell (p := ⟨b1, o1 + i * 3, none⟩) lb1).trans ca11) (And.intro ((hbV.cell (p := ⟨b1, o1 + i * 3 + 1, none⟩) lb1).trans ca12) (And.intro ((hbV.cell (p := ⟨b1, o1 + i * 3 + 2, none⟩) lb1).trans ca13) (And.intro ((hbV.cell (p := ⟨b2, o2 + k * 3, none⟩) lb2).trans ca21) (And.intro ((hbV.cell (p := ⟨b2, o2 + k * 3 + 1, none⟩) lb2).trans ca22) ((hbV.cell (p := ⟨b2, o2 + k * 3 + 2, none⟩) lb2).trans ca23)))))
                clear hV
                refine ⟨hSV, ?_⟩
                simp only [List.take_succ_cons, List.take_zero, List.drop_succ_cons, List.drop_zero]
                repeat
                  refine wpYld_stepG (v := ?_) rfl ?_ ?_
                  rotate_left
                  · intro wy hSy
                    obtain ⟨y0, y1, y2, y3, y4, y5⟩ := hSy
                    go_simp
                    try with_reducible rfl
                  rotate_right
                  try simp only [Act.put, List.setIfInBounds_toArray, List.set_cons_zero, List.set_cons_succ]
                refine wpYld_nil ?_
                refine wpTlS_step (fun K hK => ?_)
                go_simp
                go_at_call 99
                refine (hless.out _).mono ?_
                rintro e w7 ⟨rfl, hbL⟩
                have hb7 : Below wr.heap.size wr w7 := hbV.trans (hbL.mono hbV.size)
                have hr7 := hrV.ext hbL
                have hS7 := And.intro ((hb7.cell (p := ⟨b1, o1 + i * 3, none⟩) lb1).trans ca11) (And.intro ((hb7.cell (p := ⟨b1, o1 + i * 3 + 1, none⟩) lb1).trans ca12) (And.intro ((hb7.cell (p := ⟨b1, o1 + i * 3 + 2, none⟩) lb1).trans ca13) (And.intro ((hb7.cell (p := ⟨b2, o2 + k * 3, none⟩) lb2).trans ca21) (And.intro ((hb7.cell (p := ⟨b2, o2 + k * 3 + 1, none⟩) lb2).trans ca22) ((hb7.cell (p := ⟨b2, o2 + k * 3 + 2, none⟩) lb2).trans ca23)))))
                refine hK _ _ hS7 ?_
                clear hK K hless
                refine wpTlS_step (fun K hK => ?_)
                go_simp
                refine hK _ _ hS7 ?_
                clear hK K
                refine wpTlS_step (fun K hK => ?_)
                go_simp
                refine hK _ _ hS7 ?_
                clear hK K
                refine wpTlS_step (fun K hK => ?_)
                go_simp
                refine hK _ _ hS7 ?_
                clear hK K
                refine wpTlS_nil ?_
                obtain ⟨dd1, dd2, dd3, dd4, dd5, dd6⟩ := hS7
                have l7 := hr7.lt
                obtain ⟨f70, f71, f72⟩ := hr7.f3
                obtain ⟨g70, g71, g72⟩ := hr7.c3
                have lb1' := Nat.lt_of_lt_of_le lb1 hb7.size
                have lb2' := Nat.lt_of_lt_of_le lb2 hb7.size
                go_wp2_with fail
                have hWr : Row (w7) wr.heap.size 71 [.int .i64 0, .int .i64 0, .int .i64 0] := hr7
                have hbW : Below wr.heap.size wr (w7) := hb7
                obtain ⟨V, hV⟩ : ∃ V, V = w7 := ⟨_, rfl⟩
                rw [← hV] at hWr hbW ⊢
                have hWr := ((hWr.set 0 (.int .i64 fa)).set 1 (.int .i64 la)).set 2 (.int .i64 ta)
                have hbW := ((hbW.setCell (p := ⟨wr.heap.size, 0, none⟩) (Nat.le_refl _) (.int .i64 fa)).setCell (p := ⟨wr.heap.size, 1, none⟩) (Nat.le_refl _) (.int .i64 la)).setCell (p := ⟨wr.heap.size, 2, none⟩) (Nat.le_refl _) (.int .i64 ta)
                simp only [List.set_cons_succ, List.set_cons_zero] at hWr
                obtain ⟨W, hW⟩ : ∃ W, W = ((V.setCell ⟨wr.heap.size, 0, none⟩ (.int .i64 fa)).setCell ⟨wr.heap.size, 1, none⟩ (.int .i64 la)).setCell ⟨wr.heap.size, 2, none⟩ (.int .i64 ta) := ⟨_, rfl⟩
                rw [← hW] at hWr hbW ⊢
                clear hV hW
                have hoW := ho.ext hbW
                have hbw : Below w.heap.size w W := hbl.trans (hbW.mono hbs)
                have hbw2 : Below w2.heap.size w2 W := hbl2.trans (hbW.mono hbs2)
                obtain ⟨s0, s1, s2⟩ := hWr.c3
                have lS := hWr.lt
                have hst' := Lib.hid hst
                have hbWs := hbW.size
                clear ho hbl hbl2 hI' hst hbW
                rcases Nat.eq_zero_or_pos no with hz | hz
                · have hout : Hid (addL out ⟨fa, la, ta⟩ = out ++ [⟨fa, la, ta⟩]) := by
                    have : out = [] := List.eq_nil_of_length_eq_zero (by have := hno'.out; omega)
                    rw [Hid, this]; simp [addL]
                  subst hz
                  go_wp2_with fail
                  go_quiet (fail)
                  obtain ⟨V, hV⟩ : ∃ V, V = W.drewN nq := ⟨_, rfl⟩
                  have vs0 : V.cell? ⟨wr.heap.size, 0, none⟩ = some (.int .i64 fa) := by rw [hV]; exact s0
                  have vs1 : V.cell? ⟨wr.heap.size, 1, none⟩ = some (.int .i64 la) := by rw [hV]; exact s1
                  have vs2 : V.cell? ⟨wr.heap.size, 2, none⟩ = some (.int .i64 ta) := by rw [hV]; exact s2
                  have hoV : Owned V w2.heap.size 71 3 (.slice adO 0 cO) 0 (out.flatMap encE) := by rw [hV]; exact hoW
                  have hbv : Below w.heap.size w V := by rw [hV]; exact below_drewN hbw nq
                  have hbv2 : Below w2.heap.size w2 V := by rw [hV]; exact below_drewN hbw2 nq
                  have lV : wr.heap.size < V.heap.size := by rw [hV]; exact lS
                  have lV2 : w2.heap.size ≤ V.heap.size := hbv2.size
                  rw [← hV]
                  clear hV hoW hbw hbw2 s0 s1 s2 lS 
                  go_wp2_with (first | (refine app22 rfl rfl _ _ rfl w2.heap.size _ 0 _ rfl V hoV #[.int .i64 fa, .int .i64 la, .int .i64 ta] _ rfl V.heap.size rfl rfl rfl (by simp [Value.oneCell']) (by omega) (by omega) ?_) | fail)
                  intro v9 w9 ho9 hg9 hm9
                  have hb9 := hbv.grown hg9 hbv.size (fun q hq => by have := (hoV.lt hq).1; omega)
                  have hb92 := hbv2.grown hg9 hbv2.size (fun q hq => (hoV.lt hq).1)
                  clear hg9 hm9 hoV vs0 vs1 vs2
                  go_wp2_with fail
                  go_roundw
                  case rel =>
                    have hfin : Owned w9 w2.heap.size 71 3 v9 (addL out ⟨fa, la, ta⟩).length ((addL out ⟨fa, la, ta⟩).flatMap encE) := by
                      rw [hout.out, List.length_append, List.flatMap_append, ← hno'.out]; exact ho9
                    exact ⟨i + 1, k, _, by omega, by omega, by first | rfl | go_num, by first | rfl | go_num, hst'.out, hb9, hb92, hfin⟩
                  case measure => simp [intOf]; omega
                · obtain ⟨p, rfl⟩ : ∃ p, no = p + 1 := ⟨no - 1, by omega⟩
                  obtain ⟨gO, cpO, restO, hvO, hncO, hcmO, hBO, hrO, hrlO, -⟩ := hoW.row (by omega)
                  cases hvO
                  obtain ⟨⟨f2, l2, t2⟩, hzl⟩ : ∃ s, out[p]? = some s := ⟨out[p]'(by have := hno'.out; omega), by have := hno'.out; simp [show p < out.length by omega]⟩
                  have hze := hrO.cellsAt'.e1 hzl
                  simp only [Nat.zero_add] at hze
                  obtain ⟨z1, z2, z3⟩ := hze
                  have hlast : Hid (out.getLast? = some ⟨f2, l2, t2⟩) := by
                    rw [Hid, List.getLast?_eq_getElem?, ← hno'.out]; exact hzl
                  have lO := hrO.lt
                  have k1 : IntKind.i64.wrap ((p : Int) + 1 - 1) = (p : Int) := by rw [show (p : Int) + 1 - 1 = p by omega]; exact IntWalk.i64_in _ (by omega)
                  have k2 : (p : Int) + 1 - 1 = (p : Int) := by omega
                  have k3 : (0 : Int) ≤ (p : Int) := by omega
                  have k4 : (p : Int) < (p : Int) + 1 := by omega
                  have k5 : ((p : Int) + 1 == 0) = false := by simp; omega
                  have k6 : IntKind.i64.wrap (p : Int) = (p : Int) := IntWalk.i64_in _ (by omega)
                  have g2 := fun op x y => guardRunE op x y #[.int .i64 f2, .int .i64 l2, .int .i64 t2] #[.int .i64 fa, .int .i64 la, .int .i64 ta]
                  clear hzl hrO
                  by_cases heq : f2 = fa ∧ l2 = la ∧ t2 = ta
                  · have g1 : ∀ w, (binOp .neq 71 (.agg #[.int .i64 f2, .int .i64 l2, .int .i64 t2]) (.agg #[.int .i64 fa, .int .i64 la, .int .i64 ta])).run Tryz.prog w = .ok (.bool false) w := fun w => by
                      obtain ⟨rfl, rfl, rfl⟩ := heq; exact neqE_f _ _ _ w
                    have hout : Hid (addL out ⟨fa, la, ta⟩ = out) := by
                      rw [Hid]; unfold addL; rw [if_pos (by rw [hlast.out]; obtain ⟨rfl, rfl, rfl⟩ := heq; rfl)]
                    clear heq
                    go_wp2_with fail
                    go_quiet (fail)
                    have hbv : Below w.heap.size w (W.drewN nq) := below_drewN hbw nq
                    have hbv2 : Below w2.heap.size w2 (W.drewN nq) := below_drewN hbw2 nq
                    go_wp2_with fail
                    go_roundw
                    case rel =>
                      have hfin : Owned (W.drewN nq) w2.heap.size 71 3 (.slice (some ⟨gO, 0, none⟩) (p + 1) cO) (addL out ⟨fa, la, ta⟩).length ((addL out ⟨fa, la, ta⟩).flatMap encE) := by
                        rw [hout.out, ← hno'.out]; exact hoW
                      exact ⟨i + 1, k, _, by omega, by omega, by first | rfl | go_num, by first | rfl | go_num, hst'.out, hbv, hbv2, hfin⟩
                    case measure => simp [intOf]; omega
                  · have g1 := neqE_t f2 l2 t2 fa la ta heq
                    have hout : Hid (addL out ⟨fa, la, ta⟩ = out ++ [⟨fa, la, ta⟩]) := by
                      rw [Hid]; unfold addL; rw [if_neg (by rw [hlast.out]; intro e; injection e with e; injection e with e1 e2 e3; exact heq ⟨e1, e2, e3⟩)]
                    clear heq
                    go_wp2_with fail
                    go_quiet (fail)
                    obtain ⟨V, hV⟩ : ∃ V, V = W.drewN nq := ⟨_, rfl⟩
                    have vs0 : V.cell? ⟨wr.heap.size, 0, none⟩ = some (.int .i64 fa) := by rw [hV]; exact s0
                    have vs1 : V.cell? ⟨wr.heap.size, 1, none⟩ = some (.int .i64 la) := by rw [hV]; exact s1
                    have vs2 : V.cell? ⟨wr.heap.size, 2, none⟩ = some (.int .i64 ta) := by rw [hV]; exact s2
                    have hoV : Owned V w2.heap.size 71 3 (.slice (some ⟨gO, 0, none⟩) (p + 1) cO) (p + 1) (out.flatMap encE) := by rw [hV]; exact hoW
                    have hbv : Below w.heap.size w V := by rw [hV]; exact below_drewN hbw nq
                    have hbv2 : Below w2.heap.size w2 V := by rw [hV]; exact below_drewN hbw2 nq
                    have lV : wr.heap.size < V.heap.size := by rw [hV]; exact lS
                    have lV2 : w2.heap.size ≤ V.heap.size := hbv2.size
                    rw [← hV]
                    clear hV hoW hbw hbw2 s0 s1 s2 lS z1 z2 z3 k1 k2 k3 k4 k5 k6 g1 g2 lO
                    go_wp2_with (first | (refine app22 rfl rfl _ _ rfl w2.heap.size _ (p + 1) _ rfl V hoV #[.int .i64 fa, .int .i64 la, .int .i64 ta] _ rfl V.heap.size rfl rfl rfl (by simp [Value.oneCell']) (by omega) (by omega) ?_) | fail)
                    intro v9 w9 ho9 hg9 hm9
                    have hb9 := hbv.grown hg9 hbv.size (fun q hq => by have := (hoV.lt hq).1; omega)
                    have hb92 := hbv2.grown hg9 hbv2.size (fun q hq => (hoV.lt hq).1)
                    clear hg9 hm9 hoV vs0 vs1 vs2
                    go_wp2_with fail
                    go_roundw
                    case rel =>
                      have hfin : Owned w9 w2.heap.size 71 3 v9 (addL out ⟨fa, la, ta⟩).length ((addL out ⟨fa, la, ta⟩).flatMap encE) := by
                        rw [hout.out, List.length_append, List.flatMap_append, ← hno'.out]; exact ho9
                      exact ⟨i + 1, k, _, by omega, by omega, by first | rfl | go_num, by first | rfl | go_num, hst'.out, hb9, hb92, hfin⟩
                    case measure => simp [intOf]; omega
            · obtain ⟨⟨f1, l1, t1⟩, hx1⟩ : ∃ s, A[i]? = some s := ⟨A[i]'(by have := hna'.out; omega), by have := hna'.out; simp [show i < A.length by omega]⟩
              obtain ⟨-, ad1, c1, hv1, hc1⟩ := hrA.out.ext hbl2
              cases hv1
              obtain ⟨b1, o1, rfl, hcl1⟩ := hc1 (by omega)
              obtain ⟨ca11, ca12, ca13⟩ := hcl1.e1 hx1
              have lb1 := hcl1.lt (by rw [flat_len encE 3 encE_len]; have := hna'.out; omega)
              have hx1' := Lib.hid hx1
              have m1 : (i : Int) < (na : Int) := by omega
              clear hx1 hc1 hcl1
              have hst : MInv ltE A B (i + 1) k (addL out ⟨f1, l1, t1⟩) := hI'.out.left stoE hsA.out hsB.out hx1'.out (fun b hb => by have := (List.getElem?_eq_some_iff.1 hb).1; have := hnb'.out; omega)
              have hkn : k = nb := by omega
              subst hkn
              go_wp2_with fail
              go_quiet (fail)
              go_wp2_with fail
              have hWr : Row ((wr.alloc (.cells #[.int .i64 0, .int .i64 0, .int .i64 0] 71)).drewN nq) wr.heap.size 71 [.int .i64 0, .int .i64 0, .int .i64 0] := Row.newA wr #[.int .i64 0, .int .i64 0, .int .i64 0] 71
              have hbW : Below wr.heap.size wr ((wr.alloc (.cells #[.int .i64 0, .int .i64 0, .int .i64 0] 71)).drewN nq) := below_drewN ((Below.refl _ _).alloc (Nat.le_refl _) _) nq
              obtain ⟨V, hV⟩ : ∃ V, V = (wr.alloc (.cells #[.int .i64 0, .int .i64 0, .int .i64 0] 71)).drewN nq := ⟨_, rfl⟩
              rw [← hV] at hWr hbW ⊢
              have hWr := ((hWr.set 0 (.int .i64 f1)).set 1 (.int .i64 l1)).set 2 (.int .i64 t1)
              have hbW := ((hbW.setCell (p := ⟨wr.heap.size, 0, none⟩) (Nat.le_refl _) (.int .i64 f1)).setCell (p := ⟨wr.heap.size, 1, none⟩) (Nat.le_refl _) (.int .i64 l1)).setCell (p := ⟨wr.heap.size, 2, none⟩) (Nat.le_refl _) (.int .i64 t1)
              simp only [List.set_cons_succ, List.set_cons_zero] at hWr
              obtain ⟨W, hW⟩ : ∃ W, W = ((V.setCell ⟨wr.heap.size, 0, none⟩ (.int .i64 f1)).setCell ⟨wr.heap.size, 1, none⟩ (.int .i64 l1)).setCell ⟨wr.heap.size, 2, none⟩ (.int .i64 t1) := ⟨_, rfl⟩
              rw [← hW] at hWr hbW ⊢
              clear hV hW
              have hoW := ho.ext hbW
              have hbw : Below w.heap.size w W := hbl.trans (hbW.mono hbs)
              have hbw2 : Below w2.heap.size w2 W := hbl2.trans (hbW.mono hbs2)
              obtain ⟨s0, s1, s2⟩ := hWr.c3
              have lS := hWr.lt
              have hst' := Lib.hid hst
              have hbWs := hbW.size
              clear ho hbl hbl2 hI' hst hbW
              rcases Nat.eq_zero_or_pos no with hz | hz
              · have hout : Hid (addL out ⟨f1, l1, t1⟩ = out ++ [⟨f1, l1, t1⟩]) := by
                  have : out = [] := List.eq_nil_of_length_eq_zero (by have := hno'.out; omega)
                  rw [Hid, this]; simp [addL]
                subst hz
                go_wp2_with fail
                go_quiet (fail)
                obtain ⟨V, hV⟩ : ∃ V, V = W.drewN nq := ⟨_, rfl⟩
                have vs0 : V.cell? ⟨wr.heap.size, 0, none⟩ = some (.int .i64 f1) := by rw [hV]; exact s0
                have vs1 : V.cell? ⟨wr.heap.size, 1, none⟩ = some (.int .i64 l1) := by rw [hV]; exact s1
                have vs2 : V.cell? ⟨wr.heap.size, 2, none⟩ = some (.int .i64 t1) := by rw [hV]; exact s2
                have hoV : Owned V w2.heap.size 71 3 (.slice adO 0 cO) 0 (out.flatMap encE) := by rw [hV]; exact hoW
                have hbv : Below w.heap.size w V := by rw [hV]; exact below_drewN hbw nq
                have hbv2 : Below w2.heap.size w2 V := by rw [hV]; exact below_drewN hbw2 nq
                have lV : wr.heap.size < V.heap.size := by rw [hV]; exact lS
                have lV2 : w2.heap.size ≤ V.heap.size := hbv2.size
                rw [← hV]
                clear hV hoW hbw hbw2 s0 s1 s2 lS 
                go_wp2_with (first | (refine app22 rfl rfl _ _ rfl w2.heap.size _ 0 _ rfl V hoV #[.int .i64 f1, .int .i64 l1, .int .i64 t1] _ rfl V.heap.size rfl rfl rfl (by simp [Value.oneCell']) (by omega) (by omega) ?_) | fail)
                intro v9 w9 ho9 hg9 hm9
                have hb9 := hbv.grown hg9 hbv.size (fun q hq => by have := (hoV.lt hq).1; omega)
                have hb92 := hbv2.grown hg9 hbv2.size (fun q hq => (hoV.lt hq).1)
                clear hg9 hm9 hoV vs0 vs1 vs2
                go_wp2_with fail
                go_roundw
                case rel =>
                  have hfin : Owned w9 w2.heap.size 71 3 v9 (addL out ⟨f1, l1, t1⟩).length ((addL out ⟨f1, l1, t1⟩).flatMap encE) := by
                    rw [hout.out, List.length_append, List.flatMap_append, ← hno'.out]; exact ho9
                  exact ⟨i + 1, k, _, by omega, by omega, by first | rfl | go_num, by first | rfl | go_num, hst'.out, hb9, hb92, hfin⟩
                case measure => simp [intOf]; omega
              · obtain ⟨p, rfl⟩ : ∃ p, no = p + 1 := ⟨no - 1, by omega⟩
                obtain ⟨gO, cpO, restO, hvO, hncO, hcmO, hBO, hrO, hrlO, -⟩ := hoW.row (by omega)
                cases hvO
                obtain ⟨⟨f2, l2, t2⟩, hzl⟩ : ∃ s, out[p]? = some s := ⟨out[p]'(by have := hno'.out; omega), by have := hno'.out; simp [show p < out.length by omega]⟩
                have hze := hrO.cellsAt'.e1 hzl
                simp only [Nat.zero_add] at hze
                obtain ⟨z1, z2, z3⟩ := hze
                have hlast : Hid (out.getLast? = some ⟨f2, l2, t2⟩) := by
                  rw [Hid, List.getLast?_eq_getElem?, ← hno'.out]; exact hzl
                have lO := hrO.lt
                have k1 : IntKind.i64.wrap ((p : Int) + 1 - 1) = (p : Int) := by rw [show (p : Int) + 1 - 1 = p by omega]; exact IntWalk.i64_in _ (by omega)
                have k2 : (p : Int) + 1 - 1 = (p : Int) := by omega
                have k3 : (0 : Int) ≤ (p : Int) := by omega
                have k4 : (p : Int) < (p : Int) + 1 := by omega
                have k5 : ((p : Int) + 1 == 0) = false := by simp; omega
                have k6 : IntKind.i64.wrap (p : Int) = (p : Int) := IntWalk.i64_in _ (by omega)
                have g2 := fun op x y => guardRunE op x y #[.int .i64 f2, .int .i64 l2, .int .i64 t2] #[.int .i64 f1, .int .i64 l1, .int .i64 t1]
                clear hzl hrO
                by_cases heq : f2 = f1 ∧ l2 = l1 ∧ t2 = t1
                · have g1 : ∀ w, (binOp .neq 71 (.agg #[.int .i64 f2, .int .i64 l2, .int .i64 t2]) (.agg #[.int .i64 f1, .int .i64 l1, .int .i64 t1])).run Tryz.prog w = .ok (.bool false) w := fun w => by
                    obtain ⟨rfl, rfl, rfl⟩ := heq; exact neqE_f _ _ _ w
                  have hout : Hid (addL out ⟨f1, l1, t1⟩ = out) := by
                    rw [Hid]; unfold addL; rw [if_pos (by rw [hlast.out]; obtain ⟨rfl, rfl, rfl⟩ := heq; rfl)]
                  clear heq
                  go_wp2_with fail
                  go_quiet (fail)
                  have hbv : Below w.heap.size w (W.drewN nq) := below_drewN hbw nq
                  have hbv2 : Below w2.heap.size w2 (W.drewN nq) := below_drewN hbw2 nq
                  go_wp2_with fail
                  go_roundw
                  case rel =>
                    have hfin : Owned (W.drewN nq) w2.heap.size 71 3 (.slice (some ⟨gO, 0, none⟩) (p + 1) cO) (addL out ⟨f1, l1, t1⟩).length ((addL out ⟨f1, l1, t1⟩).flatMap encE) := by
                      rw [hout.out, ← hno'.out]; exact hoW
                    exact ⟨i + 1, k, _, by omega, by omega, by first | rfl | go_num, by first | rfl | go_num, hst'.out, hbv, hbv2, hfin⟩
                  case measure => simp [intOf]; omega
                · have g1 := neqE_t f2 l2 t2 f1 l1 t1 heq
                  have hout : Hid (addL out ⟨f1, l1, t1⟩ = out ++ [⟨f1, l1, t1⟩]) := by
                    rw [Hid]; unfold addL; rw [if_neg (by rw [hlast.out]; intro e; injection e with e; injection e with e1 e2 e3; exact heq ⟨e1, e2, e3⟩)]
                  clear heq
                  go_wp2_with fail
                  go_quiet (fail)
                  obtain ⟨V, hV⟩ : ∃ V, V = W.drewN nq := ⟨_, rfl⟩
                  have vs0 : V.cell? ⟨wr.heap.size, 0, none⟩ = some (.int .i64 f1) := by rw [hV]; exact s0
                  have vs1 : V.cell? ⟨wr.heap.size, 1, none⟩ = some (.int .i64 l1) := by rw [hV]; exact s1
                  have vs2 : V.cell? ⟨wr.heap.size, 2, none⟩ = some (.int .i64 t1) := by rw [hV]; exact s2
                  have hoV : Owned V w2.heap.size 71 3 (.slice (some ⟨gO, 0, none⟩) (p + 1) cO) (p + 1) (out.flatMap encE) := by rw [hV]; exact hoW
                  have hbv : Below w.heap.size w V := by rw [hV]; exact below_drewN hbw nq
                  have hbv2 : Below w2.heap.size w2 V := by rw [hV]; exact below_drewN hbw2 nq
                  have lV : wr.heap.size < V.heap.size := by rw [hV]; exact lS
                  have lV2 : w2.heap.size ≤ V.heap.size := hbv2.size
                  rw [← hV]
                  clear hV hoW hbw hbw2 s0 s1 s2 lS z1 z2 z3 k1 k2 k3 k4 k5 k6 g1 g2 lO
                  go_wp2_with (first | (refine app22 rfl rfl _ _ rfl w2.heap.size _ (p + 1) _ rfl V hoV #[.int .i64 f1, .int .i64 l1, .int .i64 t1] _ rfl V.heap.size rfl rfl rfl (by simp [Value.oneCell']) (by omega) (by omega) ?_) | fail)
                  intro v9 w9 ho9 hg9 hm9
                  have hb9 := hbv.grown hg9 hbv.size (fun q hq => by have := (hoV.lt hq).1; omega)
                  have hb92 := hbv2.grown hg9 hbv2.size (fun q hq => (hoV.lt hq).1)
                  clear hg9 hm9 hoV vs0 vs1 vs2
                  go_wp2_with fail
                  go_roundw
                  case rel =>
                    have hfin : Owned w9 w2.heap.size 71 3 v9 (addL out ⟨f1, l1, t1⟩).length ((addL out ⟨f1, l1, t1⟩).flatMap encE) := by
                      rw [hout.out, List.length_append, List.flatMap_append, ← hno'.out]; exact ho9
                    exact ⟨i + 1, k, _, by omega, by omega, by first | rfl | go_num, by first | rfl | go_num, hst'.out, hb9, hb92, hfin⟩
                  case measure => simp [intOf]; omega
          · have q2 : k < nb := by omega
            obtain ⟨⟨f1, l1, t1⟩, hx2⟩ : ∃ s, B[k]? = some s := ⟨B[k]'(by have := hnb'.out; omega), by have := hnb'.out; simp [show k < B.length by omega]⟩
            obtain ⟨-, ad2, c2, hv2, hc2⟩ := hrB.out.ext hbl2
            cases hv2
            obtain ⟨b2, o2, rfl, hcl2⟩ := hc2 (by omega)
            obtain ⟨ca21, ca22, ca23⟩ := hcl2.e1 hx2
            have lb2 := hcl2.lt (by rw [flat_len encE 3 encE_len]; have := hnb'.out; omega)
            have hx2' := Lib.hid hx2
            have m2 : (k : Int) < (nb : Int) := by omega
            clear hx2 hc2 hcl2
            have hst : MInv ltE A B i (k + 1) (addL out ⟨f1, l1, t1⟩) := hI'.out.right stoE hsA.out hsB.out hx2'.out (fun b hb => by have := (List.getElem?_eq_some_iff.1 hb).1; have := hna'.out; omega)
            have hkn : i = na := by omega
            subst hkn
            have d1 : decide (nb ≤ k) = false := decide_eq_false (by omega)
            go_wp2_with fail
            go_quiet (fail)
            go_wp2_with fail
            have hWr : Row ((wr.alloc (.cells #[.int .i64 0, .int .i64 0, .int .i64 0] 71)).drewN nq) wr.heap.size 71 [.int .i64 0, .int .i64 0, .int .i64 0] := Row.newA wr #[.int .i64 0, .int .i64 0, .int .i64 0] 71
            have hbW : Below wr.heap.size wr ((wr.alloc (.cells #[.int .i64 0, .int .i64 0, .int .i64 0] 71)).drewN nq) := below_drewN ((Below.refl _ _).alloc (Nat.le_refl _) _) nq
            obtain ⟨V, hV⟩ : ∃ V, V = (wr.alloc (.cells #[.int .i64 0, .int .i64 0, .int .i64 0] 71)).drewN nq := ⟨_, rfl⟩
            rw [← hV] at hWr hbW ⊢
            have hWr := ((hWr.set 0 (.int .i64 f1)).set 1 (.int .i64 l1)).set 2 (.int .i64 t1)
            have hbW := ((hbW.setCell (p := ⟨wr.heap.size, 0, none⟩) (Nat.le_refl _) (.int .i64 f1)).setCell (p := ⟨wr.heap.size, 1, none⟩) (Nat.le_refl _) (.int .i64 l1)).setCell (p := ⟨wr.heap.size, 2, none⟩) (Nat.le_refl _) (.int .i64 t1)
            simp only [List.set_cons_succ, List.set_cons_zero] at hWr
            obtain ⟨W, hW⟩ : ∃ W, W = ((V.setCell ⟨wr.heap.size, 0, none⟩ (.int .i64 f1)).setCell ⟨wr.heap.size, 1, none⟩ (.int .i64 l1)).setCell ⟨wr.heap.size, 2, none⟩ (.int .i64 t1) := ⟨_, rfl⟩
            rw [← hW] at hWr hbW ⊢
            clear hV hW
            have hoW := ho.ext hbW
            have hbw : Below w.heap.size w W := hbl.trans (hbW.mono hbs)
            have hbw2 : Below w2.heap.size w2 W := hbl2.trans (hbW.mono hbs2)
            obtain ⟨s0, s1, s2⟩ := hWr.c3
            have lS := hWr.lt
            have hst' := Lib.hid hst
            have hbWs := hbW.size
            clear ho hbl hbl2 hI' hst hbW
            rcases Nat.eq_zero_or_pos no with hz | hz
            · have hout : Hid (addL out ⟨f1, l1, t1⟩ = out ++ [⟨f1, l1, t1⟩]) := by
                have : out = [] := List.eq_nil_of_length_eq_zero (by have := hno'.out; omega)
                rw [Hid, this]; simp [addL]
              subst hz
              go_wp2_with fail
              go_quiet (fail)
              obtain ⟨V, hV⟩ : ∃ V, V = W.drewN nq := ⟨_, rfl⟩
              have vs0 : V.cell? ⟨wr.heap.size, 0, none⟩ = some (.int .i64 f1) := by rw [hV]; exact s0
              have vs1 : V.cell? ⟨wr.heap.size, 1, none⟩ = some (.int .i64 l1) := by rw [hV]; exact s1
              have vs2 : V.cell? ⟨wr.heap.size, 2, none⟩ = some (.int .i64 t1) := by rw [hV]; exact s2
              have hoV : Owned V w2.heap.size 71 3 (.slice adO 0 cO) 0 (out.flatMap encE) := by rw [hV]; exact hoW
              have hbv : Below w.heap.size w V := by rw [hV]; exact below_drewN hbw nq
              have hbv2 : Below w2.heap.size w2 V := by rw [hV]; exact below_drewN hbw2 nq
              have lV : wr.heap.size < V.heap.size := by rw [hV]; exact lS
              have lV2 : w2.heap.size ≤ V.heap.size := hbv2.size
              rw [← hV]
              clear hV hoW hbw hbw2 s0 s1 s2 lS 
              go_wp2_with (first | (refine app22 rfl rfl _ _ rfl w2.heap.size _ 0 _ rfl V hoV #[.int .i64 f1, .int .i64 l1, .int .i64 t1] _ rfl V.heap.size rfl rfl rfl (by simp [Value.oneCell']) (by omega) (by omega) ?_) | fail)
              intro v9 w9 ho9 hg9 hm9
              have hb9 := hbv.grown hg9 hbv.size (fun q hq => by have := (hoV.lt hq).1; omega)
              have hb92 := hbv2.grown hg9 hbv2.size (fun q hq => (hoV.lt hq).1)
              clear hg9 hm9 hoV vs0 vs1 vs2
              go_wp2_with fail
              go_roundw
              case rel =>
                have hfin : Owned w9 w2.heap.size 71 3 v9 (addL out ⟨f1, l1, t1⟩).length ((addL out ⟨f1, l1, t1⟩).flatMap encE) := by
                  rw [hout.out, List.length_append, List.flatMap_append, ← hno'.out]; exact ho9
                exact ⟨i, k + 1, _, by omega, by omega, by first | rfl | go_num, by first | rfl | go_num, hst'.out, hb9, hb92, hfin⟩
              case measure => simp [intOf]; omega
            · obtain ⟨p, rfl⟩ : ∃ p, no = p + 1 := ⟨no - 1, by omega⟩
              obtain ⟨gO, cpO, restO, hvO, hncO, hcmO, hBO, hrO, hrlO, -⟩ := hoW.row (by omega)
              cases hvO
              obtain ⟨⟨f2, l2, t2⟩, hzl⟩ : ∃ s, out[p]? = some s := ⟨out[p]'(by have := hno'.out; omega), by have := hno'.out; simp [show p < out.length by omega]⟩
              have hze := hrO.cellsAt'.e1 hzl
              simp only [Nat.zero_add] at hze
              obtain ⟨z1, z2, z3⟩ := hze
              have hlast : Hid (out.getLast? = some ⟨f2, l2, t2⟩) := by
                rw [Hid, List.getLast?_eq_getElem?, ← hno'.out]; exact hzl
              have lO := hrO.lt
              have k1 : IntKind.i64.wrap ((p : Int) + 1 - 1) = (p : Int) := by rw [show (p : Int) + 1 - 1 = p by omega]; exact IntWalk.i64_in _ (by omega)
              have k2 : (p : Int) + 1 - 1 = (p : Int) := by omega
              have k3 : (0 : Int) ≤ (p : Int) := by omega
              have k4 : (p : Int) < (p : Int) + 1 := by omega
              have k5 : ((p : Int) + 1 == 0) = false := by simp; omega
              have k6 : IntKind.i64.wrap (p : Int) = (p : Int) := IntWalk.i64_in _ (by omega)
              have g2 := fun op x y => guardRunE op x y #[.int .i64 f2, .int .i64 l2, .int .i64 t2] #[.int .i64 f1, .int .i64 l1, .int .i64 t1]
              clear hzl hrO
              by_cases heq : f2 = f1 ∧ l2 = l1 ∧ t2 = t1
              · have g1 : ∀ w, (binOp .neq 71 (.agg #[.int .i64 f2, .int .i64 l2, .int .i64 t2]) (.agg #[.int .i64 f1, .int .i64 l1, .int .i64 t1])).run Tryz.prog w = .ok (.bool false) w := fun w => by
                  obtain ⟨rfl, rfl, rfl⟩ := heq; exact neqE_f _ _ _ w
                have hout : Hid (addL out ⟨f1, l1, t1⟩ = out) := by
                  rw [Hid]; unfold addL; rw [if_pos (by rw [hlast.out]; obtain ⟨rfl, rfl, rfl⟩ := heq; rfl)]
                clear heq
                go_wp2_with fail
                go_quiet (fail)
                have hbv : Below w.heap.size w (W.drewN nq) := below_drewN hbw nq
                have hbv2 : Below w2.heap.size w2 (W.drewN nq) := below_drewN hbw2 nq
                go_wp2_with fail
                go_roundw
                case rel =>
                  have hfin : Owned (W.drewN nq) w2.heap.size 71 3 (.slice (some ⟨gO, 0, none⟩) (p + 1) cO) (addL out ⟨f1, l1, t1⟩).length ((addL out ⟨f1, l1, t1⟩).flatMap encE) := by
                    rw [hout.out, ← hno'.out]; exact hoW
                  exact ⟨i, k + 1, _, by omega, by omega, by first | rfl | go_num, by first | rfl | go_num, hst'.out, hbv, hbv2, hfin⟩
                case measure => simp [intOf]; omega
              · have g1 := neqE_t f2 l2 t2 f1 l1 t1 heq
                have hout : Hid (addL out ⟨f1, l1, t1⟩ = out ++ [⟨f1, l1, t1⟩]) := by
                  rw [Hid]; unfold addL; rw [if_neg (by rw [hlast.out]; intro e; injection e with e; injection e with e1 e2 e3; exact heq ⟨e1, e2, e3⟩)]
                clear heq
                go_wp2_with fail
                go_quiet (fail)
                obtain ⟨V, hV⟩ : ∃ V, V = W.drewN nq := ⟨_, rfl⟩
                have vs0 : V.cell? ⟨wr.heap.size, 0, none⟩ = some (.int .i64 f1) := by rw [hV]; exact s0
                have vs1 : V.cell? ⟨wr.heap.size, 1, none⟩ = some (.int .i64 l1) := by rw [hV]; exact s1
                have vs2 : V.cell? ⟨wr.heap.size, 2, none⟩ = some (.int .i64 t1) := by rw [hV]; exact s2
                have hoV : Owned V w2.heap.size 71 3 (.slice (some ⟨gO, 0, none⟩) (p + 1) cO) (p + 1) (out.flatMap encE) := by rw [hV]; exact hoW
                have hbv : Below w.heap.size w V := by rw [hV]; exact below_drewN hbw nq
                have hbv2 : Below w2.heap.size w2 V := by rw [hV]; exact below_drewN hbw2 nq
                have lV : wr.heap.size < V.heap.size := by rw [hV]; exact lS
                have lV2 : w2.heap.size ≤ V.heap.size := hbv2.size
                rw [← hV]
                clear hV hoW hbw hbw2 s0 s1 s2 lS z1 z2 z3 k1 k2 k3 k4 k5 k6 g1 g2 lO
                go_wp2_with (first | (refine app22 rfl rfl _ _ rfl w2.heap.size _ (p + 1) _ rfl V hoV #[.int .i64 f1, .int .i64 l1, .int .i64 t1] _ rfl V.heap.size rfl rfl rfl (by simp [Value.oneCell']) (by omega) (by omega) ?_) | fail)
                intro v9 w9 ho9 hg9 hm9
                have hb9 := hbv.grown hg9 hbv.size (fun q hq => by have := (hoV.lt hq).1; omega)
                have hb92 := hbv2.grown hg9 hbv2.size (fun q hq => (hoV.lt hq).1)
                clear hg9 hm9 hoV vs0 vs1 vs2
                go_wp2_with fail
                go_roundw
                case rel =>
                  have hfin : Owned w9 w2.heap.size 71 3 v9 (addL out ⟨f1, l1, t1⟩).length ((addL out ⟨f1, l1, t1⟩).flatMap encE) := by
                    rw [hout.out, List.length_append, List.flatMap_append, ← hno'.out]; exact ho9
                  exact ⟨i, k + 1, _, by omega, by omega, by first | rfl | go_num, by first | rfl | go_num, hst'.out, hb9, hb92, hfin⟩
                case measure => simp [intOf]; omega
        --END
        · have hia : i = na := by omega
          have hkb : k = nb := by omega
          subst hia
          subst hkb
          have hfin : Hid (out = normE l) := hI'.out.fin stoE (by rw [← hna'.out]; exact Nat.le_refl _) (by rw [← hnb'.out]; exact Nat.le_refl _) hmem.out
          go_wp2_with fail
          go_ret
          exact hpost.out _ _ hbl (by rw [← hfin.out, ← hno'.out]; exact ho.mono (by omega))
end Go.Proofs.YtkknklagoghljaaGreatDoor
