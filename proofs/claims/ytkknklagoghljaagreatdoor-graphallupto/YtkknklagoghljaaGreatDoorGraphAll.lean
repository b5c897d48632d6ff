/- GraphAll walked. -/
import Derived.Test.YtkknklagoghljaaGreatDoorBook14
import Derived.Test.YtkknklagoghljaaGreatDoorAlive7
import Derived.Test.YtkknklagoghljaaGreatDoorRefOut
import Derived.Test.YtkknklagoghljaaGreatDoorCanon
namespace Go.Proofs.YtkknklagoghljaaGreatDoor
open Go.RowKit
open Go.RowKit (Below)
set_option maxRecDepth 100000 in
set_option maxHeartbeats 8000000 in
theorem graphAll_any (n L st : Int) (E : List Edg) (ad : Option Addr) (c : Nat) (t0 : TypeId) (x0 : Value) (w : World) (hr : Reads w (.slice ad E.length c) E.length 3 (E.flatMap encE)) (hc : E.length ≤ c)
    (hg : w.cell? ⟨0, 0, none⟩ = some (.iface t0 x0)) :
    Calls Tryz.prog 3 #[.agg #[.int .i64 n, .int .i64 L, .int .i64 st, .slice ad E.length c]] w (fun e w' => e = .returned (.bool true) ∧ Below w.heap.size w w') := by
  have hgb := World.block_lt_of_cell? _ _ hg
  have hgb' : 0 < w.heap.size := hgb
  have hrX := Row.newA w #[.int .i64 n, .int .i64 L, .int .i64 st, .slice ad E.length c] 24
  have hb0 : Below w.heap.size w (w.alloc (.cells #[.int .i64 n, .int .i64 L, .int .i64 st, .slice ad E.length c] 24)) := (Below.refl _ _).alloc (Nat.le_refl _) _
  have hnew := new_any n L st E ad c t0 x0 _ (hr.ext hb0) ((hb0.cell (by exact hgb)).trans hg)
  have halv := alive_any t0 x0 _ ((hb0.cell (by exact hgb)).trans hg)
  have hgg : Hid (∀ w', Below w.heap.size w w' → w'.cell? ⟨0, 0, none⟩ = some (.iface t0 x0)) := fun w' hb => (hb.cell (by exact hgb)).trans hg
  obtain ⟨m, hm⟩ : ∃ m, m = E.length := ⟨_, rfl⟩
  rw [← hm] at hrX hb0 hnew hr hc halv ⊢
  have hm' := Lib.hid hm
  have hrr : Hid (∀ w', Below w.heap.size w w' → Reads w' (.slice ad m c) m 3 (E.flatMap encE)) := fun w' hb => hr.ext hb
  have hnew' := Lib.hid hnew
  have halv' := Lib.hid halv
  obtain ⟨cX0, cX1, cX2, cX3⟩ := hrX.c4
  have lX := hrX.lt
  clear hm hr hnew halv hg hgb
  by_cases q1 : 300 < m
  · have e1 : (300 : Int) < (m : Int) := by omega
    go_enter Tryz.func3, Tryz.ntmps3
    go_wp2_with fail
    refine (halv'.out).mono ?_
    rintro e w1 ⟨rfl, hb1⟩
    have hbF := Below.chain hb0 hb1
    go_wp2_with fail
    go_ret
    exact ⟨rfl, hbF⟩
  · by_cases q2 : 40 < n
    · have e1 : ¬ (300 : Int) < (m : Int) := by omega
      go_enter Tryz.func3, Tryz.ntmps3
      go_wp2_with fail
      refine (halv'.out).mono ?_
      rintro e w1 ⟨rfl, hb1⟩
      have hbF := Below.chain hb0 hb1
      go_wp2_with fail
      go_ret
      exact ⟨rfl, hbF⟩
    · have e1 : ¬ (300 : Int) < (m : Int) := by omega
      go_enter Tryz.func3, Tryz.ntmps3
      go_wp2_with fail
      refine (hnew'.out).mono ?_
      rintro e w1 ⟨hb1, ⟨hyes, g, N, hN, rfl, hgw, hG⟩ | ⟨hno, v, rfl, hF⟩⟩
      · have hb1' := Below.chain hb0 hb1
        simp only at hN hG
        subst hN
        obtain ⟨EN, hEN⟩ : ∃ EN, EN = normE E := ⟨_, rfl⟩
        rw [← hEN] at hG
        have hENl : EN.length ≤ m := by rw [hEN, hm'.out]; exact length_snorm_le E
        have hEN' := Lib.hid hEN
        have hsm := hG.small
        have hN40 : N ≤ 40 := by omega
        have hX : Hid (∀ w', Below w1.heap.size w1 w' → Row w' w.heap.size 24 [.int .i64 N, .int .i64 L, .int .i64 st, .slice ad m c]) := fun w' hb => (hrX.ext hb1).ext hb
        have hGG : Hid (∀ w', Below w1.heap.size w1 w' → GraphAt w' g N L st EN) := fun w' hb => hG.ext hb
        have hout : Hid (∀ i, (outs EN i).length ≤ 300) := fun i => by have := toF_map_len EN i; omega
        have hins : Hid (∀ i, (ins EN i).length ≤ 300) := fun i => by
          unfold ins; rw [List.length_map]
          have h1 := List.length_filter_le (fun e : Edg => e.to == i) (bkE EN)
          have h2 := bk_len hG.srt
          omega
        have hb1s := hb1'.size
        have hB0 := BkAt.start w1
        clear hrX hb1 hb0 cX0 cX1 cX2 cX3 lX hEN hG hnew' halv'
        go_wp2_with fail
        go_loopw [6] (fun sk wr => ∃ k : Nat, k ≤ 2 ∧ sk = .int .i64 k ∧ BkAt w1 wr w1.heap.size) (fun sk _ => 2 - (intOf sk).toNat)
        case atStart => exact ⟨0, by omega, rfl, hB0⟩
        case round =>
          obtain ⟨k, hk, rfl, hB⟩ := hrel
          clear hB0
          by_cases hlt : k < 2
          · go_wp2_with fail
            go_loopw [7] (fun si wz => ∃ i : Nat, i ≤ N ∧ si = .int .i64 i ∧ BkAt w1 wz w1.heap.size) (fun si _ => N - (intOf si).toNat)
            case atStart => exact ⟨0, by omega, rfl, hB⟩
            case round =>
              clear hB
              obtain ⟨i, hi, rfl, hB⟩ := hrel
              have hXr := hX.out wr hB.below
              obtain ⟨cX0, cX1, cX2, cX3⟩ := hXr.c4
              have lXr := hXr.lt
              have hGr := Lib.hid (hGG.out wr hB.below)
              clear hXr
              by_cases hiN : i < N
              · have hoi := hout.out i
                have hii := hins.out i
                go_wp2_with fail
                refine (outs_c (i : Int) hGr.out (by omega)).mono ?_
                rintro e w2 ⟨v2, rfl, hb2, ho2⟩
                go_wp2_with fail
                refine (hB.addS hb2 (outs EN i) ho2 rfl rfl (by omega)).mono ?_
                rintro e w3 ⟨rfl, hB3⟩
                have hG3 := Lib.hid (hGG.out w3 hB3.below)
                clear hB hb2 ho2 hGr cX0 cX1 cX2 cX3 lXr
                go_wp2_with fail
                refine (ins_c (i : Int) hG3.out (by omega)).mono ?_
                rintro e w4 ⟨v4, rfl, hb4, ho4⟩
                go_wp2_with fail
                refine (hB3.addS hb4 (ins EN i) ho4 rfl rfl (by omega)).mono ?_
                rintro e w5 ⟨rfl, hB5⟩
                clear hB3 hb4 ho4 hG3
                go_wp2_with fail
                go_loopw [8] (fun sx wz => ∃ x : Nat, x ≤ 3 ∧ sx = .int .i64 x ∧ BkAt w1 wz w1.heap.size) (fun sx _ => 3 - (intOf sx).toNat)
                case atStart => exact ⟨0, by omega, rfl, hB5⟩
                case round =>
                  clear hB5
                  obtain ⟨x, hx, rfl, hB⟩ := hrel
                  have hXr := hX.out wr hB.below
                  obtain ⟨cX0, cX1, cX2, cX3⟩ := hXr.c4
                  have lXr := hXr.lt
                  have hGr := Lib.hid (hGG.out wr hB.below)
                  clear hXr
                  by_cases hxL : (x : Int) < L
                  · by_cases hx3 : x < 3
                    · have hx3' : (x : Int) < 3 := by omega
                      have l1 := withL_len (outs EN i) x
                      have l2 := withL_len (ins EN i) x
                      go_wp2_with fail
                      refine (outs_by (i : Int) (x : Int) hGr.out (by omega)).mono ?_
                      rintro e w2 ⟨v2, rfl, hb2, ho2⟩
                      go_wp2_with fail
                      refine (hB.addI hb2 (withL (outs EN i) x) ho2 rfl (encI_flat _).symm (by omega)).mono ?_
                      rintro e w3 ⟨rfl, hB3⟩
                      have hG3 := Lib.hid (hGG.out w3 hB3.below)
                      clear hB hb2 ho2 hGr cX0 cX1 cX2 cX3 lXr
                      go_wp2_with fail
                      refine (ins_by (i : Int) (x : Int) hG3.out (by omega)).mono ?_
                      rintro e w4 ⟨v4, rfl, hb4, ho4⟩
                      go_wp2_with fail
                      refine (hB3.addI hb4 (withL (ins EN i) x) ho4 rfl (encI_flat _).symm (by omega)).mono ?_
                      rintro e w5 ⟨rfl, hB5⟩
                      clear hB3 hb4 ho4 hG3
                      go_wp2_with fail
                      go_roundw
                      case rel => exact ⟨x + 1, by omega, by go_num, hB5⟩
                      case measure => simp [intOf]; omega
                    · have hx3' : ¬ (x : Int) < 3 := by omega
                      go_wp2_with fail
                      go_roundw
                      case rel => first | exact ⟨i + 1, by omega, by go_num, hB⟩ | exact ⟨i + 1, by omega, by omega⟩
                      case measure => simp [intOf]; omega
                  · go_wp2_with fail
                    go_roundw
                    case rel => first | exact ⟨i + 1, by omega, by go_num, hB⟩ | exact ⟨i + 1, by omega, by omega⟩
                    case measure => simp [intOf]; omega
              · have hGr' := hGr
                go_wp2_with fail
                refine (edges_any hGr.out).mono ?_
                rintro e w2 ⟨v2, rfl, hb2, ho2⟩
                go_wp2_with fail
                refine (hB.addE hb2 EN ho2 rfl rfl (by omega)).mono ?_
                rintro e w3 ⟨rfl, hB3⟩
                have hG3 := Lib.hid (hGG.out w3 hB3.below)
                clear hB hb2 ho2 hGr hGr' cX0 cX1 cX2 cX3 lXr
                go_wp2_with fail
                refine (reach_any hG3.out).mono ?_
                rintro e w4 ⟨v4, rfl, hb4, ho4⟩
                have hrl := (reachL_rng hG3.out).2
                go_wp2_with fail
                refine (hB3.addI hb4 (reachL EN N st) ho4 rfl (encI_flat _).symm (by omega)).mono ?_
                rintro e w5 ⟨rfl, hB5⟩
                have hG5 := Lib.hid (hGG.out w5 hB5.below)
                clear hB3 hb4 ho4 hG3
                go_wp2_with fail
                refine (cut_any hG5.out).mono ?_
                rintro e w6 ⟨T, C, nC, sC, vE, vT, rfl, hb6, hT, hC, hoE, hoT, hd⟩
                obtain ⟨adE, cE, rfl⟩ := hoE.form
                have hb7 : Below w5.heap.size w5 (w6.alloc (.cells #[.int .i64 nC, .int .i64 L, .int .i64 sC, .slice adE C.length cE] 24)) := hb6.alloc hb6.size _
                have hoE7 := hoE.alloc (.cells #[.int .i64 nC, .int .i64 L, .int .i64 sC, .slice adE C.length cE] 24)
                have hoT7 := hoT.alloc (.cells #[.int .i64 nC, .int .i64 L, .int .i64 sC, .slice adE C.length cE] 24)
                have hCl : C.length < 100000000 := by omega
                clear hb6 hoE hoT hG5
                go_wp2_with fail
                refine (hB5.keepE hb7 C hoE7 rfl rfl hCl hoT7 hd).mono ?_
                rintro e w8 ⟨rfl, hBO⟩
                clear hB5 hb7 hoE7 hoT7 hd
                go_wp2_with fail
                refine (hBO.put T hT.1.symm (encI_flat _).symm (by rw [hT.1]; omega)).mono ?_
                rintro e w9 ⟨rfl, hBR⟩
                have hb9 := hBR.below
                have hb9w := hb1'.trans (hb9.mono hb1s)
                have hnm := normal_any (N : Int) L st E ad c t0 x0 w9 (by rw [← hm'.out]; exact hrr.out w9 hb9w) (hgg.out w9 hb9w)
                rw [← hm'.out] at hnm
                have hnm' := Lib.hid hnm
                have hX9 := hX.out w9 hb9
                obtain ⟨cX0, cX1, cX2, cX3⟩ := hX9.c4
                have lX9 := hX9.lt
                clear hBO hnm hX9 hb9 hb9w
                go_wp2_with fail
                refine (hnm'.out).mono ?_
                rintro e w10 ⟨hb10, ⟨-, ad10, c10, rfl, ho10⟩ | ⟨hno, -⟩⟩
                · simp only at ho10 ⊢
                  rw [← hEN'.out] at ho10 ⊢
                  obtain ⟨nE, hnE⟩ : ∃ nE, nE = EN.length := ⟨_, rfl⟩
                  rw [← hnE] at ho10 ⊢
                  have hnE' := Lib.hid hnE
                  have hb11 : Below w9.heap.size w9 (w10.alloc (.cells #[.int .i64 (N : Int), .int .i64 L, .int .i64 st, .slice ad10 nE c10] 24)) := hb10.alloc hb10.size _
                  have ho11 := ho10.alloc (.cells #[.int .i64 (N : Int), .int .i64 L, .int .i64 st, .slice ad10 nE c10] 24)
                  have hEl : EN.length < 100000000 := by omega
                  clear hnE hb10 ho10 cX0 cX1 cX2 cX3 lX9 hnm'
                  go_wp2_with fail
                  refine (hBR.addE hb11 EN ho11 hnE'.out rfl hEl).mono ?_
                  rintro e w12 ⟨rfl, hBR2⟩
                  clear hBR hb11 ho11
                  have hrT := hBR2.reads
                  rw [← hT.1] at hrT
                  have hwf : ∀ x ∈ T, (Lit.int .i64 x).wf = true := fun x hx => WalkArith.wf_i64 (by have := hT.2 x hx; omega)
                  have hcan := Lib.hid (canon_any T vT w12 hrT hwf (by rw [hT.1]; omega))
                  have hTl := hT.1
                  have hTl' := Lib.hid hTl
                  clear hrT hwf hT hTl
                  go_wp2_with fail
                  refine (hcan.out).mono ?_
                  rintro e w13 ⟨v13, rfl, hb13, ho13⟩
                  go_wp2_with fail
                  refine (hBR2.toAt.addI hb13 (canonL T) ho13 (canonL_len T).symm (encI_flat _).symm (by rw [canonL_len, hTl'.out]; omega)).mono ?_
                  rintro e w14 ⟨rfl, hB14⟩
                  clear hBR2 hb13 ho13 hcan
                  go_wp2_with fail
                  go_roundw
                  case rel => first | exact ⟨k + 1, by omega, by go_num, hB14⟩ | ((repeat apply Exists.intro); exact ⟨⟨k + 1, by omega, by go_num, hB14⟩, rfl⟩)
                  case measure => simp [intOf]; omega
                · exact absurd hno (by rw [hyes]; decide)
          · have hk2 : k = 2 := by omega
            subst hk2
            go_wp2_with fail
            refine hB.apart.mono ?_
            rintro e w2 ⟨rfl, hb2⟩
            clear hB
            have hX2 := hX.out w2 hb2
            have hb2' := hb1'.trans (hb2.mono hb1s)
            obtain ⟨cX0, cX1, cX2, cX3⟩ := hX2.c4
            have lX2 := hX2.lt
            have hrd := hrr.out w2 hb2'
            rw [hm'.out] at hrd hc
            have hrg := (right_facts hyes)
            obtain ⟨N', hN', -, hrg⟩ := hrg
            simp only at hN' hrg
            have hNN : N' = N := by omega
            subst hNN
            have hroff := outR_any N' L st E ad c w2 hrd hc (by rw [← hm'.out]; omega) (by omega) (fun e he => ⟨(hrg e he).1, (hrg e he).2.1⟩)
            rw [← hm'.out] at hroff hc
            have hro' := Lib.hid hroff
            clear hroff hrd hrg hN'
            go_wp2_with fail
            refine (hro'.out).mono ?_
            rintro e w3 ⟨g3, hv3, rfl, hb3, B3, hM3⟩
            rw [← hEN'.out] at hM3
            have hb3' := hb2.trans (hb3.mono (by have := hb2.size; omega))
            have hM3' := Lib.hid hM3
            clear hro' hX2 cX0 cX1 cX2 cX3 lX2 hb2' hM3 hb2 hb3
            go_wp2_with fail
            go_loopw [14] (fun si wr => ∃ i : Nat, i ≤ N' ∧ si = .int .i64 i ∧ Below w3.heap.size w3 wr) (fun si _ => N' - (intOf si).toNat)
            case atStart => exact ⟨0, by omega, rfl, Below.refl _ _⟩
            case round =>
              obtain ⟨i, hi, rfl, hbl⟩ := hrel
              have hbl1 := hb3'.trans (hbl.mono hb3'.size)
              have hXr := hX.out wr hbl1
              obtain ⟨cX0, cX1, cX2, cX3⟩ := hXr.c4
              have lXr := hXr.lt
              have hGr := Lib.hid (hGG.out wr hbl1)
              clear hXr
              by_cases hiN : i < N'
              · have hMr := hM3'.out.ext hbl
                have ch := hMr.cell hiN
                have hoH := hMr.itm i hiN
                obtain ⟨adH, cH, hH⟩ := hoH.form
                rw [hH] at ch hoH
                have lM := hMr.row.lt
                have hoi := hout.out i
                have hoHr := Lib.hid hoH.reads
                have e2 : (0 : Int) ≤ (i : Int) := by omega
                have e3 : (i : Int) < (N' : Int) := by omega
                have hsame : Hid (∀ v5 w5, Reads w5 v5 (outs EN i).length 2 ((outs EN i).flatMap encS) → Below wr.heap.size wr w5 → Calls Tryz.prog 21 #[v5, .slice adH (outs EN i).length cH] w5 (fun e w' => e = .returned (.bool true) ∧ ∃ m, w' = w5.drewN m)) := fun v5 w5 h1 h2 => by
                  have h := sameS (outs EN i) (outs EN i) v5 (.slice adH (outs EN i).length cH) w5 h1 (hoHr.out.ext h2) (by omega)
                  rwa [decide_eq_true rfl] at h
                clear hMr hoH hH
                go_wp2_with fail
                go_region_with (first | (go_at_call 8; refine (outs_c (i : Int) (hGr.out.ext ((Below.refl _ _).drew)) (by omega)).mono ?_; rintro e w5 ⟨v5, rfl, hb5, ho5⟩; have hb5' : Below wr.heap.size wr w5 := ((Below.refl wr.heap.size wr).drew).trans hb5; have ch5 := (hb5'.cell (p := ⟨g3, i, none⟩) lM).trans ch) | (go_at_call 21; refine (hsame.out _ _ ho5.reads hb5').mono ?_; rintro e w6 ⟨rfl, mm, rfl⟩))
                all_goals
                  have hb6 : Below w3.heap.size w3 (w5.drewN mm) := below_drewN (hbl.trans (hb5'.mono hbl.size)) mm
                  clear ch ch5 hb5 ho5 hb5'
                  go_wp2_with fail
                  go_roundw
                  case rel => first | exact ⟨i + 1, by omega, by go_num, hb6⟩ | exact ⟨i + 1, by omega, by omega⟩
                  case measure => simp [intOf]; omega
              · have hsrt : Hid (∀ w', Below w.heap.size w w' → Calls Tryz.prog 23 #[.slice ad m c] w' (fun e w'' => ∃ v', e = .returned v' ∧ Below w'.heap.size w' w'' ∧ Owned w'' w'.heap.size 71 3 v' EN.length (EN.flatMap encE))) := fun w' hb => by
                  have hrd := hrr.out w' hb
                  rw [hm'.out] at hrd hc ⊢
                  rw [hEN'.out]
                  exact sortedR_any E.length E ad c w' (Nat.le_refl _) (by rw [← hm'.out]; omega) hc hrd
                have hsame : Hid (∀ v5 v6 w5, Reads w5 v5 EN.length 3 (EN.flatMap encE) → Reads w5 v6 EN.length 3 (EN.flatMap encE) → Calls Tryz.prog 22 #[v5, v6] w5 (fun e w' => e = .returned (.bool true) ∧ ∃ m, w' = w5.drewN m)) := fun v5 v6 w5 h1 h2 => by
                  have h := sameE EN EN v5 v6 w5 h1 h2 (by omega)
                  rwa [decide_eq_true rfl] at h
                have hblw := hb1'.trans (hbl1.mono hb1s)
                have hGw := Lib.hid (fun w' (hb : Below wr.heap.size wr w') => hGr.out.ext hb)
                clear hGr
                go_wp2_with fail
                go_region_with (first | (go_at_call 5; refine (alive_any t0 x0 _ (hgg.out _ hblw.drew)).mono ?_; rintro e w4 ⟨rfl, hb4⟩; have hb4' : Below wr.heap.size wr w4 := ((Below.refl wr.heap.size wr).drew).trans hb4; have c4 := (hb4'.cell (p := ⟨w.heap.size, 3, none⟩) lXr).trans cX3) | (go_at_call 14; refine (edges_any (hGw.out _ hb4')).mono ?_; rintro e w5 ⟨v5, rfl, hb5, ho5⟩; have hb5' : Below wr.heap.size wr w5 := hb4'.trans (hb5.mono hb4'.size); have c5 := (hb5'.cell (p := ⟨w.heap.size, 3, none⟩) lXr).trans cX3) | (go_at_call 23; refine (hsrt.out _ (hblw.trans (hb5'.mono hblw.size))).mono ?_; rintro e w6 ⟨v6, rfl, hb6, ho6⟩; have hb6' : Below wr.heap.size wr w6 := hb5'.trans (hb6.mono hb5'.size)) | (go_at_call 22; refine (hsame.out _ _ _ (ho5.reads.ext hb6) ho6.reads).mono ?_; rintro e w7 ⟨rfl, mm, rfl⟩))
                all_goals
                  have hbF : Below w.heap.size w (w6.drewN mm) := below_drewN (hblw.trans (hb6'.mono hblw.size)) mm
                  go_wp2_with fail
                  go_ret
                  exact ⟨rfl, hbF⟩
      · obtain ⟨gf, rfl, -, -⟩ := hF
        have hb1' := Below.chain hb0 hb1
        go_wp2_with fail
        refine (alive_any t0 x0 w1 (hgg.out w1 hb1')).mono ?_
        rintro e w2 ⟨rfl, hb2⟩
        have hbF := Below.chain hb1' hb2
        go_wp2_with fail
        go_ret
        exact ⟨rfl, hbF⟩
end Go.Proofs.YtkknklagoghljaaGreatDoor
