/- Apart: each list is as it was, and none shares memory with another one. -/
import Derived.Test.YtkknklagoghljaaGreatDoorBook11
namespace Go.Proofs.YtkknklagoghljaaGreatDoor
open Go.RowKit
open Go.RowKit (Below)
def p1 (ls : Nat → List Lst) : Nat → List Lst := upd ls 0 ((ls 0).mapIdx markedI)
def p2 (ls : Nat → List Lst) : Nat → List Lst := upd (p1 ls) 8 ((ls 8).mapIdx markedS)
def p3 (ls : Nat → List Lst) : Nat → List Lst := upd (p2 ls) 10 ((ls 10).mapIdx markedE)
theorem p1_o (ls : Nat → List Lst) {j : Nat} (h : j ≠ 0) : p1 ls j = ls j := upd_other _ _ h
theorem p2_o (ls : Nat → List Lst) {j : Nat} (h : j ≠ 0) (h8 : j ≠ 8) : p2 ls j = ls j := (upd_other _ _ h8).trans (p1_o ls h)
theorem p3_o (ls : Nat → List Lst) {j : Nat} (h : j ≠ 0) (h8 : j ≠ 8) (h10 : j ≠ 10) : p3 ls j = ls j := (upd_other _ _ h10).trans (p2_o ls h h8)
theorem p3_I (ls : Nat → List Lst) : p3 ls 0 = (ls 0).mapIdx markedI := (upd_other _ _ (by decide)).trans ((upd_other _ _ (by decide)).trans (upd_same _ _ _))
theorem p3_S (ls : Nat → List Lst) : p3 ls 8 = (ls 8).mapIdx markedS := (upd_other _ _ (by decide)).trans (upd_same _ _ _)
theorem p3_E (ls : Nat → List Lst) : p3 ls 10 = (ls 10).mapIdx markedE := upd_same _ _ _
theorem BookOk.no {ls : Nat → List Lst} (h : BookOk ls) {j : Nat} (hj : j = 2 ∨ j = 4 ∨ j = 6 ∨ j = 12 ∨ j = 14 ∨ j = 16 ∨ j = 18 ∨ j = 20) : ls j = [] := h.other j (by omega) (by omega) (by omega) (by omega) (by omega) (by omega)
theorem put1 {w : World} {bk B : Nat} {hv : Nat → Value} {ls : Nat → List Lst} (hM : BookMem w bk B hv ls) (hO : BookOk ls) :
    Calls Tryz.prog 66 #[.pointer (some ⟨bk, 0, none⟩)] w (fun e w' => e = .returned (.tuple #[]) ∧ Below B w w' ∧ BookMem w' bk B hv (p1 ls)) := putI w bk B hv ls hM hO.tI hO.lI.1
theorem put2 {w : World} {bk B : Nat} {hv : Nat → Value} {ls : Nat → List Lst} (hM : BookMem w bk B hv (p1 ls)) (hO : BookOk ls) :
    Calls Tryz.prog 70 #[.pointer (some ⟨bk, 0, none⟩)] w (fun e w' => e = .returned (.tuple #[]) ∧ Below B w w' ∧ BookMem w' bk B hv (p2 ls)) := by
  have h := putS w bk B hv (p1 ls) hM (by rw [p1_o _ (by decide)]; exact hO.tS) (by rw [p1_o _ (by decide)]; exact hO.lS.1)
  rw [p1_o ls (j := 8) (by decide)] at h
  exact h
theorem put3 {w : World} {bk B : Nat} {hv : Nat → Value} {ls : Nat → List Lst} (hM : BookMem w bk B hv (p2 ls)) (hO : BookOk ls) :
    Calls Tryz.prog 71 #[.pointer (some ⟨bk, 0, none⟩)] w (fun e w' => e = .returned (.tuple #[]) ∧ Below B w w' ∧ BookMem w' bk B hv (p3 ls)) := by
  have h := putE w bk B hv (p2 ls) hM (by rw [p2_o _ (by decide) (by decide)]; exact hO.tE) (by rw [p2_o _ (by decide) (by decide)]; exact hO.lE.1)
  rw [p2_o ls (j := 10) (by decide) (by decide)] at h
  exact h
theorem fr_keep {w0 w : World} {bk B : Nat} {hv : Nat → Value} {ls : Nat → List Lst} (hM : BookMem w0 bk B hv ls) {j j' : Nat} (hne : j ≠ j') (hf : Fr w0 w (ls j)) (q : Nat) (hq : q < w0.heap.size)
    (h : q = bk ∨ (∃ i, myBlock (hv i) = some q) ∨ ∃ x ∈ ls j', myBlock x.v = some q) : w.heap[q]? = w0.heap[q]? := by
  refine hf q hq fun x hx e => ?_
  rcases h with rfl | ⟨i, hi⟩ | ⟨y, hy, hyq⟩
  · exact hM.s2 j x hx e
  · exact hM.s4 i j x q hx hi e
  · obtain ⟨a, ha⟩ := List.getElem?_of_mem hx
    obtain ⟨a', ha'⟩ := List.getElem?_of_mem hy
    exact hne (hM.s5 j j' a a' x y q ha ha' e hyq).1
theorem calls_flip {P : Program} {f : FuncId} {args : Array Value} {w : World} {v : Ending} (h : Calls P f args w fun e w' => e = v ∧ w' = w) : Calls P f args w (fun e w' => e = v ∧ w = w') := h.mono fun _ _ ⟨a, b⟩ => ⟨a, b.symm⟩
theorem not_item {w0 : World} {bk B : Nat} {hv : Nat → Value} {ls : Nat → List Lst} (hM : BookMem w0 bk B hv ls) {j j' : Nat} (hne : j ≠ j') {q : Nat}
    (h : q = bk ∨ (∃ i, myBlock (hv i) = some q) ∨ ∃ x ∈ ls j', myBlock x.v = some q) : ∀ x ∈ ls j, myBlock x.v ≠ some q := by
  intro x hx e
  rcases h with rfl | ⟨i, hi⟩ | ⟨y, hy, hyq⟩
  · exact hM.s2 j x hx e
  · exact hM.s4 i j x q hx hi e
  · obtain ⟨a, ha⟩ := List.getElem?_of_mem hx
    obtain ⟨a', ha'⟩ := List.getElem?_of_mem hy
    exact hne (hM.s5 j j' a a' x y q ha ha' e hyq).1
theorem not_item2 {w0 : World} {bk B : Nat} {hv : Nat → Value} {ls : Nat → List Lst} (hM : BookMem w0 bk B hv ls) {j j' : Nat} (hne : j ≠ j') {q : Nat}
    (h : (∃ x ∈ ls j', myBlock x.v = some q) ∨ w0.heap.size ≤ q) : ∀ x ∈ ls j, myBlock x.v ≠ some q := by
  rcases h with h | h
  · exact not_item hM hne (.inr (.inr h))
  · intro x hx e
    have := ((hM.itm j x hx).lt e).2
    omega
theorem growNB_cell {w0 w : World} {bk B : Nat} {hv : Nat → Value} {ls : Nat → List Lst} (hM : BookMem w0 bk B hv ls) {j : Nat} (hj : j < 22) (he : ls j = []) (hk : w.heap[bk]? = w0.heap[bk]?) : ∃ ad cap, w.cell? ⟨bk, j, none⟩ = some (.slice ad 0 cap) := by
  obtain ⟨ad, cap, h⟩ := hM.cellN hj he
  exact ⟨ad, cap, (World.cell?_of_block (w := w0) (a := ⟨bk, j, none⟩) hk).trans h⟩
set_option maxRecDepth 100000 in
set_option maxHeartbeats 4000000 in
theorem apart_any {w : World} {bk B : Nat} {hv : Nat → Value} {ls : Nat → List Lst} (hM0 : BookMem w bk B hv ls) (hO : BookOk ls) :
    Calls Tryz.prog 19 #[.pointer (some ⟨bk, 0, none⟩)] w (fun e w' => e = .returned (.bool true) ∧ Below B w w') := by
  have hb0 : Below B w w := Below.refl _ _
  go_enter Tryz.func19, Tryz.ntmps19
  go_wp2_with fail
  refine (stillBInts hM0 hO).mono ?_
  rintro e w1 ⟨rfl, hx, hM1⟩
  have hb1 := hb0.trans hx
  clear hx hM0 hb0
  go_wp2_with fail
  refine (stillBTokens hM1 hO).mono ?_
  rintro e w2 ⟨rfl, hx, hM2⟩
  have hb2 := hb1.trans hx
  clear hx hM1 hb1
  go_wp2_with fail
  refine (stillBTexts hM2 hO).mono ?_
  rintro e w3 ⟨rfl, hx, hM3⟩
  have hb3 := hb2.trans hx
  clear hx hM2 hb2
  go_wp2_with fail
  refine (stillBBools hM3 hO).mono ?_
  rintro e w4 ⟨rfl, hx, hM4⟩
  have hb4 := hb3.trans hx
  clear hx hM3 hb3
  go_wp2_with fail
  refine (stillBSteps hM4 hO).mono ?_
  rintro e w5 ⟨rfl, hx, hM5⟩
  have hb5 := hb4.trans hx
  clear hx hM4 hb4
  go_wp2_with fail
  refine (stillBEdges hM5 hO).mono ?_
  rintro e w6 ⟨rfl, hx, hM6⟩
  have hb6 := hb5.trans hx
  clear hx hM5 hb5
  go_wp2_with fail
  refine (stillBNodes hM6 hO).mono ?_
  rintro e w7 ⟨rfl, hx, hM7⟩
  have hb7 := hb6.trans hx
  clear hx hM6 hb6
  go_wp2_with fail
  refine (stillBPairs hM7 hO).mono ?_
  rintro e w8 ⟨rfl, hx, hM8⟩
  have hb8 := hb7.trans hx
  clear hx hM7 hb7
  go_wp2_with fail
  refine (stillBRows hM8 hO).mono ?_
  rintro e w9 ⟨rfl, hx, hM9⟩
  have hb9 := hb8.trans hx
  clear hx hM8 hb8
  go_wp2_with fail
  refine (stillBLines hM9 hO).mono ?_
  rintro e w10 ⟨rfl, hx, hM10⟩
  have hb10 := hb9.trans hx
  clear hx hM9 hb9
  go_wp2_with fail
  refine (stillBWalks hM10 hO).mono ?_
  rintro e w11 ⟨rfl, hx, hM11⟩
  have hb11 := hb10.trans hx
  clear hx hM10 hb10
  go_wp2_with fail
  refine (put1 hM11 hO).mono ?_
  rintro e w12 ⟨rfl, hx, hM12⟩
  have hb12 := hb11.trans hx
  clear hx hM11 hb11
  go_wp2_with fail
  refine (putBTokens hM12 ((p1_o ls (by decide)).trans (hO.no (by decide)))).mono ?_
  rintro e w13 ⟨rfl, hx, hM13⟩
  have hb13 := hb12.trans hx
  clear hx hM12 hb12
  go_wp2_with fail
  refine (putBTexts hM13 ((p1_o ls (by decide)).trans (hO.no (by decide)))).mono ?_
  rintro e w14 ⟨rfl, hx, hM14⟩
  have hb14 := hb13.trans hx
  clear hx hM13 hb13
  go_wp2_with fail
  refine (putBBools hM14 ((p1_o ls (by decide)).trans (hO.no (by decide)))).mono ?_
  rintro e w15 ⟨rfl, hx, hM15⟩
  have hb15 := hb14.trans hx
  clear hx hM14 hb14
  go_wp2_with fail
  refine (put2 hM15 hO).mono ?_
  rintro e w16 ⟨rfl, hx, hM16⟩
  have hb16 := hb15.trans hx
  clear hx hM15 hb15
  go_wp2_with fail
  refine (put3 hM16 hO).mono ?_
  rintro e w17 ⟨rfl, hx, hM17⟩
  have hb17 := hb16.trans hx
  clear hx hM16 hb16
  go_wp2_with fail
  refine (putBNodes hM17 ((p3_o ls (by decide) (by decide) (by decide)).trans (hO.no (by decide)))).mono ?_
  rintro e w18 ⟨rfl, hx, hM18⟩
  have hb18 := hb17.trans hx
  clear hx hM17 hb17
  go_wp2_with fail
  refine (putBPairs hM18 ((p3_o ls (by decide) (by decide) (by decide)).trans (hO.no (by decide)))).mono ?_
  rintro e w19 ⟨rfl, hx, hM19⟩
  have hb19 := hb18.trans hx
  clear hx hM18 hb18
  go_wp2_with fail
  refine (putBRows hM19 ((p3_o ls (by decide) (by decide) (by decide)).trans (hO.no (by decide)))).mono ?_
  rintro e w20 ⟨rfl, hx, hM20⟩
  have hb20 := hb19.trans hx
  clear hx hM19 hb19
  go_wp2_with fail
  refine (putBLines hM20 ((p3_o ls (by decide) (by decide) (by decide)).trans (hO.no (by decide)))).mono ?_
  rintro e w21 ⟨rfl, hx, hM21⟩
  have hb21 := hb20.trans hx
  clear hx hM20 hb20
  go_wp2_with fail
  refine (putBWalks hM21 ((p3_o ls (by decide) (by decide) (by decide)).trans (hO.no (by decide)))).mono ?_
  rintro e w22 ⟨rfl, hx, hM22⟩
  have hb22 := hb21.trans hx
  clear hx hM21 hb21
  go_wp2_with fail
  have hMp := Lib.hid hM22
  have hAI : Hid (AllMarkedI (p3 ls 0)) := by rw [Hid, p3_I]; exact allMarkedI hO.tI
  have hAS : Hid (AllMarkedS (p3 ls 8)) := by rw [Hid, p3_S]; exact allMarkedS hO.tS
  have hAE : Hid (AllMarkedE (p3 ls 10)) := by rw [Hid, p3_E]; exact allMarkedE hO.tE
  have hLI : (p3 ls 0).length ≤ 400 := by rw [p3_I, List.length_mapIdx]; exact hO.lI.1
  have hLS : (p3 ls 8).length ≤ 400 := by rw [p3_S, List.length_mapIdx]; exact hO.lS.1
  have hLE : (p3 ls 10).length ≤ 400 := by rw [p3_E, List.length_mapIdx]; exact hO.lE.1
  have lb0 : bk < w22.heap.size := hM22.lt
  clear hM22
  refine (growBInts (w0 := w22) hMp.out (Nat.le_refl _) hAI.out hLI (fun _ _ _ => rfl)).mono ?_
  rintro e wa ⟨gI, usI, rfl, hulI0, hoI0, hx, hfI0, hGI0⟩
  obtain ⟨adI, cgI, rfl⟩ := hoI0.form
  have hulI := Lib.hid hulI0
  have hoI := Lib.hid hoI0
  have hfI := Lib.hid hfI0
  have hGI := Lib.hid hGI0
  have s1 := hx.size
  have hbg1 := hb22.trans hx
  have hrowI := Lib.hid (hfI.out bk lb0 (not_item hMp.out (j := 0) (j' := 1) (by decide) (.inl rfl)))
  have lb1 : bk < wa.heap.size := by omega
  clear hx hulI0 hoI0 hfI0 hGI0 hb22
  go_wp2_with fail
  obtain ⟨ad0, cp0, hc⟩ := growNB_cell (w := wa) hMp.out (j := 2) (by decide) ((p3_o ls (by decide) (by decide) (by decide)).trans (hO.no (by decide))) hrowI.out
  refine (calls_flip (growNTokens wa bk ad0 cp0 hc lb1)).mono ?_
  rintro e w' ⟨rfl, rfl⟩
  clear hc
  go_wp2_with fail
  obtain ⟨ad0, cp0, hc⟩ := growNB_cell (w := wa) hMp.out (j := 4) (by decide) ((p3_o ls (by decide) (by decide) (by decide)).trans (hO.no (by decide))) hrowI.out
  refine (calls_flip (growNTexts wa bk ad0 cp0 hc lb1)).mono ?_
  rintro e w' ⟨rfl, rfl⟩
  clear hc
  go_wp2_with fail
  obtain ⟨ad0, cp0, hc⟩ := growNB_cell (w := wa) hMp.out (j := 6) (by decide) ((p3_o ls (by decide) (by decide) (by decide)).trans (hO.no (by decide))) hrowI.out
  refine (calls_flip (growNBools wa bk ad0 cp0 hc lb1)).mono ?_
  rintro e w' ⟨rfl, rfl⟩
  clear hc
  go_wp2_with fail
  refine (growBSteps (w0 := w22) hMp.out s1 hAS.out hLS (fr_keep hMp.out (j := 0) (j' := 8) (by decide) hfI.out)).mono ?_
  rintro e wb ⟨gS, usS, rfl, hulS0, hoS0, hx, hfS0, hGS0⟩
  obtain ⟨adS, cgS, rfl⟩ := hoS0.form
  have hulS := Lib.hid hulS0
  have hoS := Lib.hid hoS0
  have hfS := Lib.hid hfS0
  have hGS := Lib.hid hGS0
  have s2 := hx.size
  have hbg2 := hbg1.trans hx
  have hrowS := Lib.hid ((hfS.out bk (by omega) (not_item hMp.out (j := 8) (j' := 1) (by decide) (.inl rfl))).trans hrowI.out)
  have lb2 : bk < wb.heap.size := by omega
  clear hx hulS0 hoS0 hfS0 hGS0 hbg1
  go_wp2_with fail
  refine (growBEdges (w0 := w22) hMp.out (by omega) hAE.out hLE (fun q hq h => (hfS.out q (by omega) (not_item hMp.out (j := 8) (j' := 10) (by decide) h)).trans (hfI.out q hq (not_item hMp.out (j := 0) (j' := 10) (by decide) h)))).mono ?_
  rintro e wc ⟨gE, usE, rfl, hulE0, hoE0, hx, hfE0, hGE0⟩
  obtain ⟨adE, cgE, rfl⟩ := hoE0.form
  have hulE := Lib.hid hulE0
  have hoE := Lib.hid hoE0
  have hfE := Lib.hid hfE0
  have hGE := Lib.hid hGE0
  have s3 := hx.size
  have hbg3 := hbg2.trans hx
  have hrowE := Lib.hid ((hfE.out bk (by omega) (not_item hMp.out (j := 10) (j' := 1) (by decide) (.inl rfl))).trans hrowS.out)
  have lb3 : bk < wc.heap.size := by omega
  clear hx hulE0 hoE0 hfE0 hGE0 hbg2
  go_wp2_with fail
  obtain ⟨ad0, cp0, hc⟩ := growNB_cell (w := wc) hMp.out (j := 12) (by decide) ((p3_o ls (by decide) (by decide) (by decide)).trans (hO.no (by decide))) hrowE.out
  refine (calls_flip (growNNodes wc bk ad0 cp0 hc lb3)).mono ?_
  rintro e w' ⟨rfl, rfl⟩
  clear hc
  go_wp2_with fail
  obtain ⟨ad0, cp0, hc⟩ := growNB_cell (w := wc) hMp.out (j := 14) (by decide) ((p3_o ls (by decide) (by decide) (by decide)).trans (hO.no (by decide))) hrowE.out
  refine (calls_flip (growNPairs wc bk ad0 cp0 hc lb3)).mono ?_
  rintro e w' ⟨rfl, rfl⟩
  clear hc
  go_wp2_with fail
  obtain ⟨ad0, cp0, hc⟩ := growNB_cell (w := wc) hMp.out (j := 16) (by decide) ((p3_o ls (by decide) (by decide) (by decide)).trans (hO.no (by decide))) hrowE.out
  refine (calls_flip (growNRows wc bk ad0 cp0 hc lb3)).mono ?_
  rintro e w' ⟨rfl, rfl⟩
  clear hc
  go_wp2_with fail
  obtain ⟨ad0, cp0, hc⟩ := growNB_cell (w := wc) hMp.out (j := 18) (by decide) ((p3_o ls (by decide) (by decide) (by decide)).trans (hO.no (by decide))) hrowE.out
  refine (calls_flip (growNLines wc bk ad0 cp0 hc lb3)).mono ?_
  rintro e w' ⟨rfl, rfl⟩
  clear hc
  go_wp2_with fail
  obtain ⟨ad0, cp0, hc⟩ := growNB_cell (w := wc) hMp.out (j := 20) (by decide) ((p3_o ls (by decide) (by decide) (by decide)).trans (hO.no (by decide))) hrowE.out
  refine (calls_flip (growNWalks wc bk ad0 cp0 hc lb3)).mono ?_
  rintro e w' ⟨rfl, rfl⟩
  clear hc
  have mIg : MarkedAtI wc _ := marked_outI hAI.out hLI hulI.out hoI.out hGI.out (fun q hq h => (hfE.out q (by omega) (not_item2 hMp.out (j := 10) (j' := 0) (by decide) h)).trans (hfS.out q hq (not_item2 hMp.out (j := 8) (j' := 0) (by decide) h)))
  have mSg : MarkedAtS wc _ := marked_outS hAS.out hLS hulS.out hoS.out hGS.out (fun q hq h => hfE.out q hq (not_item2 hMp.out (j := 10) (j' := 8) (by decide) (h.imp id (fun h => by omega))))
  have mEg : MarkedAtE wc _ := marked_outE hAE.out hLE hulE.out hoE.out hGE.out (fun _ _ _ => rfl)
  have hhd : ∀ q, q < w22.heap.size → (∃ i, myBlock (hv i) = some q) → wc.heap[q]? = w22.heap[q]? := fun q hq h => ((hfE.out q (by omega) (not_item hMp.out (j := 10) (j' := 1) (by decide) (.inr (.inl h)))).trans (hfS.out q (by omega) (not_item hMp.out (j := 8) (j' := 1) (by decide) (.inr (.inl h))))).trans (hfI.out q hq (not_item hMp.out (j := 0) (j' := 1) (by decide) (.inr (.inl h))))
  have mIo : MarkedAtI wc (hv 0) := marked_ownI hMp.out hAI.out hLI hulI.out hGI.out s1 hhd (fun q hq h => (hfE.out q (by omega) (not_item2 hMp.out (j := 10) (j' := 0) (by decide) (.inl h))).trans (hfS.out q hq (not_item2 hMp.out (j := 8) (j' := 0) (by decide) (.inl h))))
  have mSo : MarkedAtS wc (hv 8) := marked_ownS hMp.out hAS.out hLS hulS.out hGS.out (by omega) hhd (fun q hq h => hfE.out q hq (not_item2 hMp.out (j := 10) (j' := 8) (by decide) (.inl h)))
  have mEo : MarkedAtE wc (hv 10) := marked_ownE hMp.out hAE.out hLE hulE.out hGE.out (by omega) hhd (fun _ _ _ => rfl)
  obtain ⟨avI, cvI, hvI0, ccI, -⟩ := hMp.out.cellV (j := 0) (by decide)
  rw [hvI0] at mIo
  have cwI := Lib.hid ccI
  clear hvI0 ccI
  obtain ⟨avS, cvS, hvS0, ccS, -⟩ := hMp.out.cellV (j := 8) (by decide)
  rw [hvS0] at mSo
  have cwS := Lib.hid ccS
  clear hvS0 ccS
  obtain ⟨avE, cvE, hvE0, ccE, -⟩ := hMp.out.cellV (j := 10) (by decide)
  rw [hvE0] at mEo
  have cwE := Lib.hid ccE
  clear hvE0 ccE
  have hrow := hrowE
  clear hulI hoI hfI hGI hulS hoS hfS hGS hulE hoE hfE hGE hrowI hrowS hrowE hAI hAS hAE hhd
  go_wp2_with fail
  refine (markedBInts mIg).mono ?_
  rintro e wm1 ⟨rfl, hx⟩
  replace mIo := mIo.ext hx
  replace mSg := mSg.ext hx
  replace mSo := mSo.ext hx
  replace mEg := mEg.ext hx
  replace mEo := mEo.ext hx
  have hbm1 := hbg3.trans (hx.mono (by have := hMp.out.base; omega))
  have hrow2 := Lib.hid ((hx.block bk lb3).trans hrow.out)
  have lbm1 : bk < wm1.heap.size := by have := hx.size; omega
  clear hrow
  have hrow := hrow2
  clear hrow2 hx hbg3
  have hc := (World.cell?_of_block (w := w22) (a := ⟨bk, 0, none⟩) hrow.out).trans cwI.out
  go_wp2_with fail
  refine (markedBInts mIo).mono ?_
  rintro e wm2 ⟨rfl, hx⟩
  replace mSg := mSg.ext hx
  replace mSo := mSo.ext hx
  replace mEg := mEg.ext hx
  replace mEo := mEo.ext hx
  have hbm2 := hbm1.trans (hx.mono (by have := hMp.out.base; omega))
  have hrow2 := Lib.hid ((hx.block bk lbm1).trans hrow.out)
  have lbm2 : bk < wm2.heap.size := by have := hx.size; omega
  clear hrow
  have hrow := hrow2
  clear hrow2 hx hbm1
  clear hc
  go_wp2_with fail
  refine (calls_flip (markedNTokens wm2 none 0)).mono ?_
  rintro e w' ⟨rfl, rfl⟩
  obtain ⟨ado, cpo, hc⟩ := growNB_cell (w := wm2) hMp.out (j := 2) (by decide) ((p3_o ls (by decide) (by decide) (by decide)).trans (hO.no (by decide))) hrow.out
  go_wp2_with fail
  refine (calls_flip (markedNTokens wm2 ado cpo)).mono ?_
  rintro e w' ⟨rfl, rfl⟩
  clear hc
  go_wp2_with fail
  refine (calls_flip (markedNTexts wm2 none 0)).mono ?_
  rintro e w' ⟨rfl, rfl⟩
  obtain ⟨ado, cpo, hc⟩ := growNB_cell (w := wm2) hMp.out (j := 4) (by decide) ((p3_o ls (by decide) (by decide) (by decide)).trans (hO.no (by decide))) hrow.out
  go_wp2_with fail
  refine (calls_flip (markedNTexts wm2 ado cpo)).mono ?_
  rintro e w' ⟨rfl, rfl⟩
  clear hc
  go_wp2_with fail
  refine (calls_flip (markedNBools wm2 none 0)).mono ?_
  rintro e w' ⟨rfl, rfl⟩
  obtain ⟨ado, cpo, hc⟩ := growNB_cell (w := wm2) hMp.out (j := 6) (by decide) ((p3_o ls (by decide) (by decide) (by decide)).trans (hO.no (by decide))) hrow.out
  go_wp2_with fail
  refine (calls_flip (markedNBools wm2 ado cpo)).mono ?_
  rintro e w' ⟨rfl, rfl⟩
  clear hc
  go_wp2_with fail
  refine (markedBSteps mSg).mono ?_
  rintro e wm3 ⟨rfl, hx⟩
  replace mSo := mSo.ext hx
  replace mEg := mEg.ext hx
  replace mEo := mEo.ext hx
  have hbm3 := hbm2.trans (hx.mono (by have := hMp.out.base; omega))
  have hrow2 := Lib.hid ((hx.block bk lbm2).trans hrow.out)
  have lbm3 : bk < wm3.heap.size := by have := hx.size; omega
  clear hrow
  have hrow := hrow2
  clear hrow2 hx hbm2
  have hc := (World.cell?_of_block (w := w22) (a := ⟨bk, 8, none⟩) hrow.out).trans cwS.out
  go_wp2_with fail
  refine (markedBSteps mSo).mono ?_
  rintro e wm4 ⟨rfl, hx⟩
  replace mEg := mEg.ext hx
  replace mEo := mEo.ext hx
  have hbm4 := hbm3.trans (hx.mono (by have := hMp.out.base; omega))
  have hrow2 := Lib.hid ((hx.block bk lbm3).trans hrow.out)
  have lbm4 : bk < wm4.heap.size := by have := hx.size; omega
  clear hrow
  have hrow := hrow2
  clear hrow2 hx hbm3
  clear hc
  go_wp2_with fail
  refine (markedBEdges mEg).mono ?_
  rintro e wm5 ⟨rfl, hx⟩
  replace mEo := mEo.ext hx
  have hbm5 := hbm4.trans (hx.mono (by have := hMp.out.base; omega))
  have hrow2 := Lib.hid ((hx.block bk lbm4).trans hrow.out)
  have lbm5 : bk < wm5.heap.size := by have := hx.size; omega
  clear hrow
  have hrow := hrow2
  clear hrow2 hx hbm4
  have hc := (World.cell?_of_block (w := w22) (a := ⟨bk, 10, none⟩) hrow.out).trans cwE.out
  go_wp2_with fail
  refine (markedBEdges mEo).mono ?_
  rintro e wm6 ⟨rfl, hx⟩
  have hbm6 := hbm5.trans (hx.mono (by have := hMp.out.base; omega))
  have hrow2 := Lib.hid ((hx.block bk lbm5).trans hrow.out)
  have lbm6 : bk < wm6.heap.size := by have := hx.size; omega
  clear hrow
  have hrow := hrow2
  clear hrow2 hx hbm5
  clear hc
  go_wp2_with fail
  refine (calls_flip (markedNNodes wm6 none 0)).mono ?_
  rintro e w' ⟨rfl, rfl⟩
  obtain ⟨ado, cpo, hc⟩ := growNB_cell (w := wm6) hMp.out (j := 12) (by decide) ((p3_o ls (by decide) (by decide) (by decide)).trans (hO.no (by decide))) hrow.out
  go_wp2_with fail
  refine (calls_flip (markedNNodes wm6 ado cpo)).mono ?_
  rintro e w' ⟨rfl, rfl⟩
  clear hc
  go_wp2_with fail
  refine (calls_flip (markedNPairs wm6 none 0)).mono ?_
  rintro e w' ⟨rfl, rfl⟩
  obtain ⟨ado, cpo, hc⟩ := growNB_cell (w := wm6) hMp.out (j := 14) (by decide) ((p3_o ls (by decide) (by decide) (by decide)).trans (hO.no (by decide))) hrow.out
  go_wp2_with fail
  refine (calls_flip (markedNPairs wm6 ado cpo)).mono ?_
  rintro e w' ⟨rfl, rfl⟩
  clear hc
  go_wp2_with fail
  refine (calls_flip (markedNRows wm6 none 0)).mono ?_
  rintro e w' ⟨rfl, rfl⟩
  obtain ⟨ado, cpo, hc⟩ := growNB_cell (w := wm6) hMp.out (j := 16) (by decide) ((p3_o ls (by decide) (by decide) (by decide)).trans (hO.no (by decide))) hrow.out
  go_wp2_with fail
  refine (calls_flip (markedNRows wm6 ado cpo)).mono ?_
  rintro e w' ⟨rfl, rfl⟩
  clear hc
  go_wp2_with fail
  refine (calls_flip (markedNLines wm6 none 0)).mono ?_
  rintro e w' ⟨rfl, rfl⟩
  obtain ⟨ado, cpo, hc⟩ := growNB_cell (w := wm6) hMp.out (j := 18) (by decide) ((p3_o ls (by decide) (by decide) (by decide)).trans (hO.no (by decide))) hrow.out
  go_wp2_with fail
  refine (calls_flip (markedNLines wm6 ado cpo)).mono ?_
  rintro e w' ⟨rfl, rfl⟩
  clear hc
  go_wp2_with fail
  refine (calls_flip (markedNWalks wm6 none 0)).mono ?_
  rintro e w' ⟨rfl, rfl⟩
  obtain ⟨ado, cpo, hc⟩ := growNB_cell (w := wm6) hMp.out (j := 20) (by decide) ((p3_o ls (by decide) (by decide) (by decide)).trans (hO.no (by decide))) hrow.out
  go_wp2_with fail
  refine (calls_flip (markedNWalks wm6 ado cpo)).mono ?_
  rintro e w' ⟨rfl, rfl⟩
  clear hc
  go_wp2_with fail
  go_ret
  exact ⟨rfl, hbm6⟩
end Go.Proofs.YtkknklagoghljaaGreatDoor
