/- The marks put into the lists. -/
import Derived.Test.YtkknklagoghljaaGreatDoorBook5
namespace Go.Proofs.YtkknklagoghljaaGreatDoor
open Go.RowKit
theorem upd_upd {α : Type} (f : Nat → α) (j : Nat) (x y : α) : upd (upd f j x) j y = upd f j y := by funext i; by_cases h : i = j <;> simp [upd, h]
theorem upd_self {α : Type} (f : Nat → α) (j : Nat) : upd f j (f j) = f := by funext i; by_cases h : i = j <;> simp [upd, h]
/-- Every list's cells are gone over, one list after the other: what stands after i of them. -/
def partly (f : Nat → Lst → Lst) (l : List Lst) (i : Nat) : List Lst := l.mapIdx (fun a x => if a < i then f a x else x)
theorem partly_zero (f : Nat → Lst → Lst) (l : List Lst) : partly f l 0 = l := by
  apply List.ext_getElem?
  intro a; simp [partly]
theorem partly_len (f : Nat → Lst → Lst) (l : List Lst) (i : Nat) : (partly f l i).length = l.length := by simp [partly]
theorem partly_get (f : Nat → Lst → Lst) (l : List Lst) (i a : Nat) (x : Lst) (h : l[a]? = some x) : (partly f l i)[a]? = some (if a < i then f a x else x) := by simp [partly, h]
theorem partly_succ (f : Nat → Lst → Lst) (l : List Lst) (i : Nat) (x : Lst) (h : l[i]? = some x) : (partly f l i).set i (f i x) = partly f l (i + 1) := by
  apply List.ext_getElem?
  intro a
  rw [List.getElem?_set]
  have hi := (List.getElem?_eq_some_iff.1 h).1
  by_cases ha : i = a
  · subst ha; rw [if_pos rfl, if_pos (by rw [partly_len]; exact hi), partly_get f l (i + 1) i x h, if_pos (by omega)]
  · rw [if_neg ha]
    by_cases hal : a < l.length
    · obtain ⟨y, hy⟩ : ∃ y, l[a]? = some y := ⟨l[a], by simp [hal]⟩
      rw [partly_get f l i a y hy, partly_get f l (i + 1) a y hy]
      by_cases hlt : a < i
      · rw [if_pos hlt, if_pos (by omega)]
      · rw [if_neg hlt, if_neg (by omega)]
    · rw [List.getElem?_eq_none (by rw [partly_len]; omega), List.getElem?_eq_none (by rw [partly_len]; omega)]
theorem set_same {α : Type} {l : List α} {i : Nat} {x : α} (h : l[i]? = some x) : l.set i x = l := by
  apply List.ext_getElem?
  intro a
  rw [List.getElem?_set]
  by_cases ha : i = a
  · subst ha; rw [h]; simp [(List.getElem?_eq_some_iff.1 h).1]
  · rw [if_neg ha]
/-- Each list holds such elements. -/
def TypedI (l : List Lst) : Prop := ∀ x ∈ l, ∃ L : List Int, x.cs = L.flatMap encI ∧ x.n = L.length ∧ L.length < 100000000
def markedI (i : Nat) (x : Lst) : Lst := ⟨x.v, x.n, (marksI i 0 x.n).flatMap encI⟩
theorem stepI_set (i k : Nat) (L : List Int) (h : k < L.length) : (marksI i 0 k ++ L.drop k).set k (mkI i k) = marksI i 0 (k + 1) ++ L.drop (k + 1) := by
  rw [List.set_append_right _ _ (by rw [marksI_len]; exact Nat.le_refl _), marksI_len, Nat.sub_self, marksI_snoc, List.drop_eq_getElem_cons h, List.set_cons_zero]
  simp
set_option maxRecDepth 100000 in
set_option maxHeartbeats 2000000 in
theorem putI (w : World) (bk B : Nat) (hv : Nat → Value) (ls : Nat → List Lst) (hM : BookMem w bk B hv ls) (hT : TypedI (ls 0)) (hl : (ls 0).length ≤ 400) :
    Calls Tryz.prog 66 #[.pointer (some ⟨bk, 0, none⟩)] w (fun e w' => e = .returned (.tuple #[]) ∧ Below B w w' ∧ BookMem w' bk B hv (upd ls 0 ((ls 0).mapIdx markedI))) := by
  obtain ⟨m, hm⟩ : ∃ m, m = (ls 0).length := ⟨_, rfl⟩
  have hm' : Hid (m = (ls 0).length) := hm
  have hT' : Hid (TypedI (ls 0)) := hT
  obtain ⟨-, ad0, cp0, hh0, -⟩ := (hM.hdr 0).reads
  rw [← hm] at hh0 hl
  have hh0' : Hid (hv 0 = .slice ad0 m cp0) := hh0
  clear hm hT hh0
  go_enter Tryz.func66, Tryz.ntmps66
  go_wp2_with fail
  go_loopw [2] (fun i wr => ∃ k : Nat, k ≤ m ∧ i = .int .i64 k ∧ Below B w wr ∧ BookMem wr bk B hv (upd ls 0 (partly markedI (ls 0) k))) (fun i _ => m - (intOf i).toNat)
  case atStart => exact ⟨0, by omega, rfl, Below.refl _ _, by rw [partly_zero, upd_self]; exact hM⟩
  case round =>
    obtain ⟨i, hi, rfl, hbl, hMi⟩ := hrel
    clear hM
    have d0 := hMi.cell (j := 0) (by decide)
    rw [hh0'.out] at d0
    have lB := hMi.lt
    by_cases hlt : i < m
    · obtain ⟨x, hx⟩ : ∃ x, (ls 0)[i]? = some x := ⟨(ls 0)[i]'(by have := hm'.out; omega), by have := hm'.out; simp [show i < (ls 0).length by omega]⟩
      obtain ⟨L, a1, a2, a3⟩ := hT'.out x (List.mem_of_getElem? hx)
      have hxi : (upd ls 0 (partly markedI (ls 0) i) 0)[i]? = some x := by rw [upd_same, partly_get _ _ _ _ x hx, if_neg (by omega)]
      obtain ⟨-, ad1, cp1, hh1, hc1⟩ := (hMi.hdr 0).reads
      rw [hh0'.out, upd_same, partly_len, ← hm'.out] at hh1
      cases hh1
      obtain ⟨b0, o0, rfl, hr0⟩ := hc1 (by rw [upd_same, partly_len, ← hm'.out]; omega)
      have i0 := item_cell hr0 hxi
      obtain ⟨adx, cx, hvx⟩ := (hMi.itm 0 x (List.mem_of_getElem? hxi)).form
      obtain ⟨n, hn⟩ : ∃ n, n = x.n := ⟨_, rfl⟩
      rw [← hn] at hvx a2
      rw [hvx] at i0
      have hx' : Hid ((ls 0)[i]? = some x) := hx
      have hxi' : Hid ((upd ls 0 (partly markedI (ls 0) i) 0)[i]? = some x) := hxi
      have hn' : Hid (n = x.n) := hn
      have hvx' : Hid (x.v = .slice adx n cx) := hvx
      have a1' : Hid (x.cs = L.flatMap encI) := a1
      have a2' : Hid (n = L.length) := a2
      have hmk := Lib.hid (mark0I i n wr (by omega) (by have := a2'.out; omega))
      clear hr0 hc1 hx hxi hn hvx a1 a2
      go_wp2_with fail
      refine hmk.out.mono ?_
      rintro e w1 ⟨vm, rfl, hb1, hom⟩
      obtain ⟨adm, cm, rfl⟩ := hom.form
      have hM1 := hMi.ext hb1
      have hbl1 : Below B w w1 := hbl.trans (hb1.mono (by have := hMi.base; omega))
      have hxlt : Hid (∀ q, myBlock x.v = some q → q < wr.heap.size) := fun q hq => ((hMi.itm 0 x (List.mem_of_getElem? hxi'.out)).lt hq).2
      obtain ⟨wo, hwo⟩ : ∃ wo : World, wo = wr := ⟨_, rfl⟩
      rw [← hwo] at hb1 hom hxlt
      have hlo := hb1.size
      have hn8 : n < 100000000 := by have := a2'.out; omega
      have hB1 : B ≤ wo.heap.size := by rw [hwo]; have := hMi.base; omega
      clear d0 i0 lB hmk hbl hMi hwo hb1
      go_wp2_with fail
      obtain ⟨wp, hwp⟩ : ∃ wp : World, wp = w1 := ⟨_, rfl⟩
      rw [← hwp] at hom hM1 hbl1 hlo ⊢
      clear hwp
      go_loopw [4] (fun q wz => ∃ k : Nat, k ≤ n ∧ q = .int .i64 k ∧ Below B w wz ∧ Owned wz wo.heap.size 3 1 (.slice adm n cm) n ((marksI i 0 n).flatMap encI) ∧ BookMem wz bk B hv (upd ls 0 ((partly markedI (ls 0) i).set i ⟨x.v, x.n, (marksI i 0 k ++ L.drop k).flatMap encI⟩))) (fun q _ => n - (intOf q).toNat)
      case atStart =>
        refine ⟨0, by omega, rfl, hbl1, hom, ?_⟩
        have hxe : x = ⟨x.v, x.n, (marksI i 0 0 ++ L.drop 0).flatMap encI⟩ := by
          have := a1'.out
          cases x; simp [marksI] at this ⊢; exact this
        have hp : (partly markedI (ls 0) i)[i]? = some x := by have := hxi'.out; rwa [upd_same] at this
        rw [← hxe, set_same hp]
        exact hM1
      case round =>
        obtain ⟨k, hk, rfl, hblz, homz, hMz⟩ := hrel
        clear hom hM1 hbl1
        obtain ⟨D, hD⟩ : ∃ D, D = (partly markedI (ls 0) i).set i ⟨x.v, x.n, (marksI i 0 k ++ L.drop k).flatMap encI⟩ := ⟨_, rfl⟩
        rw [← hD] at hMz
        have hD' : Hid (D = (partly markedI (ls 0) i).set i ⟨x.v, x.n, (marksI i 0 k ++ L.drop k).flatMap encI⟩) := hD
        have hDl : D.length = m := by rw [hD, List.length_set, partly_len, hm'.out]
        have hDi : D[i]? = some ⟨x.v, x.n, (marksI i 0 k ++ L.drop k).flatMap encI⟩ := by rw [hD, List.getElem?_set, if_pos rfl, if_pos (by rw [partly_len, ← hm'.out]; exact hlt)]
        clear hD
        by_cases hkn : k < n
        · have d0 := hMz.cell (j := 0) (by decide)
          rw [hh0'.out] at d0
          obtain ⟨-, ad1, cp1, hh1, hc1⟩ := (hMz.hdr 0).reads
          rw [hh0'.out, upd_same, hDl] at hh1
          cases hh1
          obtain ⟨b1, o1, he, hr0⟩ := hc1 (by rw [upd_same, hDl]; omega)
          cases he
          rw [upd_same] at hr0
          have i0 := item_cell hr0 hDi
          simp only at i0
          rw [hvx'.out] at i0
          have hitm := hMz.itm 0 ⟨x.v, x.n, (marksI i 0 k ++ L.drop k).flatMap encI⟩ (List.mem_of_getElem? (by rw [upd_same]; exact hDi))
          obtain ⟨g, cap', rest, hv1, hnc, hcm, hBg, hrw, hrl, hmb⟩ := hitm.row (by have := hn'.out; simp only; omega)
          simp only at hv1 hnc hrl hmb
          have hglt := hxlt.out g hmb
          rw [hvx'.out, ← hn'.out] at hv1
          cases hv1
          obtain ⟨-, adm', cm', hvm, hcm'⟩ := homz.reads
          cases hvm
          obtain ⟨bm, om, rfl, hmr⟩ := hcm' (by omega)
          obtain ⟨x1, hy⟩ : ∃ y, (marksI i 0 n)[k]? = some y := ⟨(marksI i 0 n)[k]'(by rw [marksI_len]; exact hkn), by simp [marksI_len, hkn]⟩
          have hyk : Hid (mkI i k = x1) := by
            rw [Hid]
            have : (marksI i 0 n)[k]? = some (mkI i k) := by simp [marksI, hkn]
            rw [this] at hy; exact Option.some.inj hy
          obtain ⟨ca1, _⟩ := hmr.i1 hy
          have fr1 := hrw.free k
          obtain ⟨z1, hoe⟩ : ∃ y, (marksI i 0 k ++ L.drop k)[k]? = some y := ⟨(marksI i 0 k ++ L.drop k)[k]'(by rw [List.length_append, marksI_len, List.length_drop, ← a2'.out]; omega), by simp [List.length_append, marksI_len, List.length_drop, ← a2'.out, show k < k + (n - k) by omega]⟩
          have hz := hrw.cellsAt'.i1 hoe
          simp only [Nat.zero_add] at hz
          obtain ⟨cg1, _⟩ := hz
          have lg := hrw.lt
          have lbk := hMz.lt
          have hbkg : bk ≠ g := fun e => by have := hMz.s2 0 ⟨x.v, x.n, (marksI i 0 k ++ L.drop k).flatMap encI⟩ (List.mem_of_getElem? (by rw [upd_same]; exact hDi)); simp only at this; rw [hmb, e] at this; exact this rfl
          have hrw' := Lib.hid hrw
          have hDi' := Lib.hid hDi
          clear hr0 hc1 hcm' hmr hy hDi hrw hitm hoe
          go_wp2_with fail
          refine wp_still_tail 13 (by kernel_rfl) (by kernel_rfl) (fun V hV => ?_)
          have hV' : Hid (V = wr.drew) := hV
          subst hV
          simp only [List.take_succ_cons, List.take_zero, List.drop_succ_cons, List.drop_zero]
          repeat still_step
          refine wpStill_nil ?_
          go_wp2_with fail
          go_roundw
          case measure => simp [intOf]; omega
          case rel =>
            have hrw := hrw'.out
            have hrwS := (hrw.set k (.int .i64 x1))
            have hset : putAll ((marksI i 0 k ++ L.drop k).flatMap encI ++ rest) (k * 1) (encI x1) = (marksI i 0 (k + 1) ++ L.drop (k + 1)).flatMap encI ++ rest := by
              have hLk : k < L.length := by rw [← a2'.out]; exact hkn
              rw [flat_set encI 1 encI_len _ k _ (by rw [List.length_append, marksI_len, List.length_drop]; omega) rest, ← hyk.out, stepI_set i k L hLk]
            have hkeep : ∀ q, q ≠ g → (wr.drew.setCell ⟨g, k, none⟩ (.int .i64 x1)).heap[q]? = wr.heap[q]? := by
              intro q hq
              repeat rw [Below.heap_setCell _ _ _ _ (by exact hq)]
              rfl
            refine ⟨k + 1, by omega, by go_num, (by repeat (first | exact hblz | (refine Below.drew ?_) | (refine Below.setCell ?_ (by simp <;> omega) _))), homz.kept (fun q hq => hkeep q (by have := (homz.lt hq).1; omega)), ?_⟩
            have hro : Row (wr.drew.setCell ⟨g, k, none⟩ (.int .i64 x1)) g _ _ := hrwS
            have hcs : ((marksI i 0 (k + 1) ++ L.drop (k + 1)).flatMap encI).length = n * 1 := by
              rw [flat_len encI 1 encI_len, List.length_append, marksI_len, List.length_drop, ← a2'.out]; congr 1; omega
            have hro2 : Row (wr.drew.setCell ⟨g, k, none⟩ (.int .i64 x1)) g (ET 0) ((marksI i 0 (k + 1) ++ L.drop (k + 1)).flatMap encI ++ rest) := by
              rw [← hset]; simpa only [putAll, encI, Nat.mul_one] using hro
            have ho2 : Owned (wr.drew.setCell ⟨g, k, none⟩ (.int .i64 x1)) B (ET 0) (EK 0) x.v x.n ((marksI i 0 (k + 1) ++ L.drop (k + 1)).flatMap encI) := by
              rw [hvx'.out, ← hn'.out]
              exact Owned.ofRow hro2 hcs (by rw [hn'.out]; exact hrl) (by rw [hn'.out]; exact hnc) hcm hBg
            have hfin := hMz.put 0 i ⟨x.v, x.n, (marksI i 0 k ++ L.drop k).flatMap encI⟩ (by rw [upd_same]; exact hDi'.out) _ ho2 (fun q _ hq => hkeep q (fun e => hq (by show myBlock x.v = some q; rw [hmb, e])))
            rw [upd_upd, upd_same, hD'.out, List.set_set] at hfin
            exact hfin
        · have hkn2 : k = n := by omega
          subst hkn2
          have d0 := hMz.cell (j := 0) (by decide)
          have hlast : Hid (D = partly markedI (ls 0) (i + 1)) := by
            rw [Hid, hD'.out, List.drop_of_length_le (by rw [← a2'.out]; exact Nat.le_refl _), List.append_nil, hn'.out, ← partly_succ markedI _ _ x hx'.out]
            rfl
          clear hDi
          go_wp2_with fail
          go_roundw
          case measure => simp [intOf]; omega
          case rel => exact ⟨i + 1, by omega, by go_num, hblz, by rw [← hlast.out]; exact hMz⟩
    · have him : i = m := by omega
      subst him
      have hfin : Hid (partly markedI (ls 0) i = (ls 0).mapIdx markedI) := by
        rw [Hid]
        apply List.ext_getElem?
        intro a
        by_cases hal : a < (ls 0).length
        · obtain ⟨y, hy⟩ : ∃ y, (ls 0)[a]? = some y := ⟨(ls 0)[a], by simp [hal]⟩
          rw [partly_get _ _ _ a y hy, if_pos (by have := hm'.out; omega)]
          simp [hy]
        · rw [List.getElem?_eq_none (by rw [partly_len]; omega), List.getElem?_eq_none (by simp; omega)]
      go_wp2_with fail
      go_end0
      exact ⟨rfl, hbl, by rw [← hfin.out]; exact hMi⟩
/-- Each list holds such elements. -/
def TypedS (l : List Lst) : Prop := ∀ x ∈ l, ∃ L : List Stp, x.cs = L.flatMap encS ∧ x.n = L.length ∧ L.length < 100000000
def markedS (i : Nat) (x : Lst) : Lst := ⟨x.v, x.n, (marksS i 0 x.n).flatMap encS⟩
theorem stepS_set (i k : Nat) (L : List Stp) (h : k < L.length) : (marksS i 0 k ++ L.drop k).set k (mkS i k) = marksS i 0 (k + 1) ++ L.drop (k + 1) := by
  rw [List.set_append_right _ _ (by rw [marksS_len]; exact Nat.le_refl _), marksS_len, Nat.sub_self, marksS_snoc, List.drop_eq_getElem_cons h, List.set_cons_zero]
  simp
set_option maxRecDepth 100000 in
set_option maxHeartbeats 2000000 in
theorem putS (w : World) (bk B : Nat) (hv : Nat → Value) (ls : Nat → List Lst) (hM : BookMem w bk B hv ls) (hT : TypedS (ls 8)) (hl : (ls 8).length ≤ 400) :
    Calls Tryz.prog 70 #[.pointer (some ⟨bk, 0, none⟩)] w (fun e w' => e = .returned (.tuple #[]) ∧ Below B w w' ∧ BookMem w' bk B hv (upd ls 8 ((ls 8).mapIdx markedS))) := by
  obtain ⟨m, hm⟩ : ∃ m, m = (ls 8).length := ⟨_, rfl⟩
  have hm' : Hid (m = (ls 8).length) := hm
  have hT' : Hid (TypedS (ls 8)) := hT
  obtain ⟨-, ad0, cp0, hh0, -⟩ := (hM.hdr 8).reads
  rw [← hm] at hh0 hl
  have hh0' : Hid (hv 8 = .slice ad0 m cp0) := hh0
  clear hm hT hh0
  go_enter Tryz.func70, Tryz.ntmps70
  go_wp2_with fail
  go_loopw [2] (fun i wr => ∃ k : Nat, k ≤ m ∧ i = .int .i64 k ∧ Below B w wr ∧ BookMem wr bk B hv (upd ls 8 (partly markedS (ls 8) k))) (fun i _ => m - (intOf i).toNat)
  case atStart => exact ⟨0, by omega, rfl, Below.refl _ _, by rw [partly_zero, upd_self]; exact hM⟩
  case round =>
    obtain ⟨i, hi, rfl, hbl, hMi⟩ := hrel
    clear hM
    have d0 := hMi.cell (j := 8) (by decide)
    rw [hh0'.out] at d0
    have lB := hMi.lt
    by_cases hlt : i < m
    · obtain ⟨x, hx⟩ : ∃ x, (ls 8)[i]? = some x := ⟨(ls 8)[i]'(by have := hm'.out; omega), by have := hm'.out; simp [show i < (ls 8).length by omega]⟩
      obtain ⟨L, a1, a2, a3⟩ := hT'.out x (List.mem_of_getElem? hx)
      have hxi : (upd ls 8 (partly markedS (ls 8) i) 8)[i]? = some x := by rw [upd_same, partly_get _ _ _ _ x hx, if_neg (by omega)]
      obtain ⟨-, ad1, cp1, hh1, hc1⟩ := (hMi.hdr 8).reads
      rw [hh0'.out, upd_same, partly_len, ← hm'.out] at hh1
      cases hh1
      obtain ⟨b0, o0, rfl, hr0⟩ := hc1 (by rw [upd_same, partly_len, ← hm'.out]; omega)
      have i0 := item_cell hr0 hxi
      obtain ⟨adx, cx, hvx⟩ := (hMi.itm 8 x (List.mem_of_getElem? hxi)).form
      obtain ⟨n, hn⟩ : ∃ n, n = x.n := ⟨_, rfl⟩
      rw [← hn] at hvx a2
      rw [hvx] at i0
      have hx' : Hid ((ls 8)[i]? = some x) := hx
      have hxi' : Hid ((upd ls 8 (partly markedS (ls 8) i) 8)[i]? = some x) := hxi
      have hn' : Hid (n = x.n) := hn
      have hvx' : Hid (x.v = .slice adx n cx) := hvx
      have a1' : Hid (x.cs = L.flatMap encS) := a1
      have a2' : Hid (n = L.length) := a2
      have hmk := Lib.hid (mark0S i n wr (by omega) (by have := a2'.out; omega))
      clear hr0 hc1 hx hxi hn hvx a1 a2
      go_wp2_with fail
      refine hmk.out.mono ?_
      rintro e w1 ⟨vm, rfl, hb1, hom⟩
      obtain ⟨adm, cm, rfl⟩ := hom.form
      have hM1 := hMi.ext hb1
      have hbl1 : Below B w w1 := hbl.trans (hb1.mono (by have := hMi.base; omega))
      have hxlt : Hid (∀ q, myBlock x.v = some q → q < wr.heap.size) := fun q hq => ((hMi.itm 8 x (List.mem_of_getElem? hxi'.out)).lt hq).2
      obtain ⟨wo, hwo⟩ : ∃ wo : World, wo = wr := ⟨_, rfl⟩
      rw [← hwo] at hb1 hom hxlt
      have hlo := hb1.size
      have hn8 : n < 100000000 := by have := a2'.out; omega
      have hB1 : B ≤ wo.heap.size := by rw [hwo]; have := hMi.base; omega
      clear d0 i0 lB hmk hbl hMi hwo hb1
      go_wp2_with fail
      obtain ⟨wp, hwp⟩ : ∃ wp : World, wp = w1 := ⟨_, rfl⟩
      rw [← hwp] at hom hM1 hbl1 hlo ⊢
      clear hwp
      go_loopw [4] (fun q wz => ∃ k : Nat, k ≤ n ∧ q = .int .i64 k ∧ Below B w wz ∧ Owned wz wo.heap.size 85 2 (.slice adm n cm) n ((marksS i 0 n).flatMap encS) ∧ BookMem wz bk B hv (upd ls 8 ((partly markedS (ls 8) i).set i ⟨x.v, x.n, (marksS i 0 k ++ L.drop k).flatMap encS⟩))) (fun q _ => n - (intOf q).toNat)
      case atStart =>
        refine ⟨0, by omega, rfl, hbl1, hom, ?_⟩
        have hxe : x = ⟨x.v, x.n, (marksS i 0 0 ++ L.drop 0).flatMap encS⟩ := by
          have := a1'.out
          cases x; simp [marksS] at this ⊢; exact this
        have hp : (partly markedS (ls 8) i)[i]? = some x := by have := hxi'.out; rwa [upd_same] at this
        rw [← hxe, set_same hp]
        exact hM1
      case round =>
        obtain ⟨k, hk, rfl, hblz, homz, hMz⟩ := hrel
        clear hom hM1 hbl1
        obtain ⟨D, hD⟩ : ∃ D, D = (partly markedS (ls 8) i).set i ⟨x.v, x.n, (marksS i 0 k ++ L.drop k).flatMap encS⟩ := ⟨_, rfl⟩
        rw [← hD] at hMz
        have hD' : Hid (D = (partly markedS (ls 8) i).set i ⟨x.v, x.n, (marksS i 0 k ++ L.drop k).flatMap encS⟩) := hD
        have hDl : D.length = m := by rw [hD, List.length_set, partly_len, hm'.out]
        have hDi : D[i]? = some ⟨x.v, x.n, (marksS i 0 k ++ L.drop k).flatMap encS⟩ := by rw [hD, List.getElem?_set, if_pos rfl, if_pos (by rw [partly_len, ← hm'.out]; exact hlt)]
        clear hD
        by_cases hkn : k < n
        · have d0 := hMz.cell (j := 8) (by decide)
          rw [hh0'.out] at d0
          obtain ⟨-, ad1, cp1, hh1, hc1⟩ := (hMz.hdr 8).reads
          rw [hh0'.out, upd_same, hDl] at hh1
          cases hh1
          obtain ⟨b1, o1, he, hr0⟩ := hc1 (by rw [upd_same, hDl]; omega)
          cases he
          rw [upd_same] at hr0
          have i0 := item_cell hr0 hDi
          simp only at i0
          rw [hvx'.out] at i0
          have hitm := hMz.itm 8 ⟨x.v, x.n, (marksS i 0 k ++ L.drop k).flatMap encS⟩ (List.mem_of_getElem? (by rw [upd_same]; exact hDi))
          obtain ⟨g, cap', rest, hv1, hnc, hcm, hBg, hrw, hrl, hmb⟩ := hitm.row (by have := hn'.out; simp only; omega)
          simp only at hv1 hnc hrl hmb
          have hglt := hxlt.out g hmb
          rw [hvx'.out, ← hn'.out] at hv1
          cases hv1
          obtain ⟨-, adm', cm', hvm, hcm'⟩ := homz.reads
          cases hvm
          obtain ⟨bm, om, rfl, hmr⟩ := hcm' (by omega)
          obtain ⟨⟨l1, t1⟩, hy⟩ : ∃ y, (marksS i 0 n)[k]? = some y := ⟨(marksS i 0 n)[k]'(by rw [marksS_len]; exact hkn), by simp [marksS_len, hkn]⟩
          have hyk : Hid (mkS i k = ⟨l1, t1⟩) := by
            rw [Hid]
            have : (marksS i 0 n)[k]? = some (mkS i k) := by simp [marksS, hkn]
            rw [this] at hy; exact Option.some.inj hy
          obtain ⟨ca1, ca2⟩ := hmr.s1 hy
          obtain ⟨fr1, fr2⟩ : _ ∧ _ := ⟨hrw.free (k * 2), hrw.free (k * 2 + 1)⟩
          obtain ⟨⟨z1, z2⟩, hoe⟩ : ∃ y, (marksS i 0 k ++ L.drop k)[k]? = some y := ⟨(marksS i 0 k ++ L.drop k)[k]'(by rw [List.length_append, marksS_len, List.length_drop, ← a2'.out]; omega), by simp [List.length_append, marksS_len, List.length_drop, ← a2'.out, show k < k + (n - k) by omega]⟩
          have hz := hrw.cellsAt'.s1 hoe
          simp only [Nat.zero_add] at hz
          obtain ⟨cg1, cg2⟩ := hz
          have lg := hrw.lt
          have lbk := hMz.lt
          have hbkg : bk ≠ g := fun e => by have := hMz.s2 8 ⟨x.v, x.n, (marksS i 0 k ++ L.drop k).flatMap encS⟩ (List.mem_of_getElem? (by rw [upd_same]; exact hDi)); simp only at this; rw [hmb, e] at this; exact this rfl
          have hrw' := Lib.hid hrw
          have hDi' := Lib.hid hDi
          clear hr0 hc1 hcm' hmr hy hDi hrw hitm hoe
          go_wp2_with fail
          refine wp_still_tail 13 (by kernel_rfl) (by kernel_rfl) (fun V hV => ?_)
          have hV' : Hid (V = wr.drew) := hV
          subst hV
          simp only [List.take_succ_cons, List.take_zero, List.drop_succ_cons, List.drop_zero]
          repeat still_step
          refine wpStill_nil ?_
          go_wp2_with fail
          go_roundw
          case measure => simp [intOf]; omega
          case rel =>
            have hrw := hrw'.out
            have hrwS := ((hrw.set (k * 2) (.int .i64 l1)).set (k * 2 + 1) (.int .i64 t1))
            have hset : putAll ((marksS i 0 k ++ L.drop k).flatMap encS ++ rest) (k * 2) (encS ⟨l1, t1⟩) = (marksS i 0 (k + 1) ++ L.drop (k + 1)).flatMap encS ++ rest := by
              have hLk : k < L.length := by rw [← a2'.out]; exact hkn
              rw [flat_set encS 2 encS_len _ k _ (by rw [List.length_append, marksS_len, List.length_drop]; omega) rest, ← hyk.out, stepS_set i k L hLk]
            have hkeep : ∀ q, q ≠ g → ((wr.drew.setCell ⟨g, k * 2, none⟩ (.int .i64 l1)).setCell ⟨g, k * 2 + 1, none⟩ (.int .i64 t1)).heap[q]? = wr.heap[q]? := by
              intro q hq
              repeat rw [Below.heap_setCell _ _ _ _ (by exact hq)]
              rfl
            refine ⟨k + 1, by omega, by go_num, (by repeat (first | exact hblz | (refine Below.drew ?_) | (refine Below.setCell ?_ (by simp <;> omega) _))), homz.kept (fun q hq => hkeep q (by have := (homz.lt hq).1; omega)), ?_⟩
            have hro : Row ((wr.drew.setCell ⟨g, k * 2, none⟩ (.int .i64 l1)).setCell ⟨g, k * 2 + 1, none⟩ (.int .i64 t1)) g _ _ := hrwS
            have hcs : ((marksS i 0 (k + 1) ++ L.drop (k + 1)).flatMap encS).length = n * 2 := by
              rw [flat_len encS 2 encS_len, List.length_append, marksS_len, List.length_drop, ← a2'.out]; congr 1; omega
            have hro2 : Row ((wr.drew.setCell ⟨g, k * 2, none⟩ (.int .i64 l1)).setCell ⟨g, k * 2 + 1, none⟩ (.int .i64 t1)) g (ET 8) ((marksS i 0 (k + 1) ++ L.drop (k + 1)).flatMap encS ++ rest) := by
              rw [← hset]; simpa only [putAll, encS, Nat.mul_one] using hro
            have ho2 : Owned ((wr.drew.setCell ⟨g, k * 2, none⟩ (.int .i64 l1)).setCell ⟨g, k * 2 + 1, none⟩ (.int .i64 t1)) B (ET 8) (EK 8) x.v x.n ((marksS i 0 (k + 1) ++ L.drop (k + 1)).flatMap encS) := by
              rw [hvx'.out, ← hn'.out]
              exact Owned.ofRow hro2 hcs (by rw [hn'.out]; exact hrl) (by rw [hn'.out]; exact hnc) hcm hBg
            have hfin := hMz.put 8 i ⟨x.v, x.n, (marksS i 0 k ++ L.drop k).flatMap encS⟩ (by rw [upd_same]; exact hDi'.out) _ ho2 (fun q _ hq => hkeep q (fun e => hq (by show myBlock x.v = some q; rw [hmb, e])))
            rw [upd_upd, upd_same, hD'.out, List.set_set] at hfin
            exact hfin
        · have hkn2 : k = n := by omega
          subst hkn2
          have d0 := hMz.cell (j := 8) (by decide)
          have hlast : Hid (D = partly markedS (ls 8) (i + 1)) := by
            rw [Hid, hD'.out, List.drop_of_length_le (by rw [← a2'.out]; exact Nat.le_refl _), List.append_nil, hn'.out, ← partly_succ markedS _ _ x hx'.out]
            rfl
          clear hDi
          go_wp2_with fail
          go_roundw
          case measure => simp [intOf]; omega
          case rel => exact ⟨i + 1, by omega, by go_num, hblz, by rw [← hlast.out]; exact hMz⟩
    · have him : i = m := by omega
      subst him
      have hfin : Hid (partly markedS (ls 8) i = (ls 8).mapIdx markedS) := by
        rw [Hid]
        apply List.ext_getElem?
        intro a
        by_cases hal : a < (ls 8).length
        · obtain ⟨y, hy⟩ : ∃ y, (ls 8)[a]? = some y := ⟨(ls 8)[a], by simp [hal]⟩
          rw [partly_get _ _ _ a y hy, if_pos (by have := hm'.out; omega)]
          simp [hy]
        · rw [List.getElem?_eq_none (by rw [partly_len]; omega), List.getElem?_eq_none (by simp; omega)]
      go_wp2_with fail
      go_end0
      exact ⟨rfl, hbl, by rw [← hfin.out]; exact hMi⟩
/-- Each list holds such elements. -/
def TypedE (l : List Lst) : Prop := ∀ x ∈ l, ∃ L : List Edg, x.cs = L.flatMap encE ∧ x.n = L.length ∧ L.length < 100000000
def markedE (i : Nat) (x : Lst) : Lst := ⟨x.v, x.n, (marksE i 0 x.n).flatMap encE⟩
theorem stepE_set (i k : Nat) (L : List Edg) (h : k < L.length) : (marksE i 0 k ++ L.drop k).set k (mkE i k) = marksE i 0 (k + 1) ++ L.drop (k + 1) := by
  rw [List.set_append_right _ _ (by rw [marksE_len]; exact Nat.le_refl _), marksE_len, Nat.sub_self, marksE_snoc, List.drop_eq_getElem_cons h, List.set_cons_zero]
  simp
set_option maxRecDepth 100000 in
set_option maxHeartbeats 2000000 in
theorem putE (w : World) (bk B : Nat) (hv : Nat → Value) (ls : Nat → List Lst) (hM : BookMem w bk B hv ls) (hT : TypedE (ls 10)) (hl : (ls 10).length ≤ 400) :
    Calls Tryz.prog 71 #[.pointer (some ⟨bk, 0, none⟩)] w (fun e w' => e = .returned (.tuple #[]) ∧ Below B w w' ∧ BookMem w' bk B hv (upd ls 10 ((ls 10).mapIdx markedE))) := by
  obtain ⟨m, hm⟩ : ∃ m, m = (ls 10).length := ⟨_, rfl⟩
  have hm' : Hid (m = (ls 10).length) := hm
  have hT' : Hid (TypedE (ls 10)) := hT
  obtain ⟨-, ad0, cp0, hh0, -⟩ := (hM.hdr 10).reads
  rw [← hm] at hh0 hl
  have hh0' : Hid (hv 10 = .slice ad0 m cp0) := hh0
  clear hm hT hh0
  go_enter Tryz.func71, Tryz.ntmps71
  go_wp2_with fail
  go_loopw [2] (fun i wr => ∃ k : Nat, k ≤ m ∧ i = .int .i64 k ∧ Below B w wr ∧ BookMem wr bk B hv (upd ls 10 (partly markedE (ls 10) k))) (fun i _ => m - (intOf i).toNat)
  case atStart => exact ⟨0, by omega, rfl, Below.refl _ _, by rw [partly_zero, upd_self]; exact hM⟩
  case round =>
    obtain ⟨i, hi, rfl, hbl, hMi⟩ := hrel
    clear hM
    have d0 := hMi.cell (j := 10) (by decide)
    rw [hh0'.out] at d0
    have lB := hMi.lt
    by_cases hlt : i < m
    · obtain ⟨x, hx⟩ : ∃ x, (ls 10)[i]? = some x := ⟨(ls 10)[i]'(by have := hm'.out; omega), by have := hm'.out; simp [show i < (ls 10).length by omega]⟩
      obtain ⟨L, a1, a2, a3⟩ := hT'.out x (List.mem_of_getElem? hx)
      have hxi : (upd ls 10 (partly markedE (ls 10) i) 10)[i]? = some x := by rw [upd_same, partly_get _ _ _ _ x hx, if_neg (by omega)]
      obtain ⟨-, ad1, cp1, hh1, hc1⟩ := (hMi.hdr 10).reads
      rw [hh0'.out, upd_same, partly_len, ← hm'.out] at hh1
      cases hh1
      obtain ⟨b0, o0, rfl, hr0⟩ := hc1 (by rw [upd_same, partly_len, ← hm'.out]; omega)
      have i0 := item_cell hr0 hxi
      obtain ⟨adx, cx, hvx⟩ := (hMi.itm 10 x (List.mem_of_getElem? hxi)).form
      obtain ⟨n, hn⟩ : ∃ n, n = x.n := ⟨_, rfl⟩
      rw [← hn] at hvx a2
      rw [hvx] at i0
      have hx' : Hid ((ls 10)[i]? = some x) := hx
      have hxi' : Hid ((upd ls 10 (partly markedE (ls 10) i) 10)[i]? = some x) := hxi
      have hn' : Hid (n = x.n) := hn
      have hvx' : Hid (x.v = .slice adx n cx) := hvx
      have a1' : Hid (x.cs = L.flatMap encE) := a1
      have a2' : Hid (n = L.length) := a2
      have hmk := Lib.hid (mark0E i n wr (by omega) (by have := a2'.out; omega))
      clear hr0 hc1 hx hxi hn hvx a1 a2
      go_wp2_with fail
      refine hmk.out.mono ?_
      rintro e w1 ⟨vm, rfl, hb1, hom⟩
      obtain ⟨adm, cm, rfl⟩ := hom.form
      have hM1 := hMi.ext hb1
      have hbl1 : Below B w w1 := hbl.trans (hb1.mono (by have := hMi.base; omega))
      have hxlt : Hid (∀ q, myBlock x.v = some q → q < wr.heap.size) := fun q hq => ((hMi.itm 10 x (List.mem_of_getElem? hxi'.out)).lt hq).2
      obtain ⟨wo, hwo⟩ : ∃ wo : World, wo = wr := ⟨_, rfl⟩
      rw [← hwo] at hb1 hom hxlt
      have hlo := hb1.size
      have hn8 : n < 100000000 := by have := a2'.out; omega
      have hB1 : B ≤ wo.heap.size := by rw [hwo]; have := hMi.base; omega
      clear d0 i0 lB hmk hbl hMi hwo hb1
      go_wp2_with fail
      obtain ⟨wp, hwp⟩ : ∃ wp : World, wp = w1 := ⟨_, rfl⟩
      rw [← hwp] at hom hM1 hbl1 hlo ⊢
      clear hwp
      go_loopw [4] (fun q wz => ∃ k : Nat, k ≤ n ∧ q = .int .i64 k ∧ Below B w wz ∧ Owned wz wo.heap.size 71 3 (.slice adm n cm) n ((marksE i 0 n).flatMap encE) ∧ BookMem wz bk B hv (upd ls 10 ((partly markedE (ls 10) i).set i ⟨x.v, x.n, (marksE i 0 k ++ L.drop k).flatMap encE⟩))) (fun q _ => n - (intOf q).toNat)
      case atStart =>
        refine ⟨0, by omega, rfl, hbl1, hom, ?_⟩
        have hxe : x = ⟨x.v, x.n, (marksE i 0 0 ++ L.drop 0).flatMap encE⟩ := by
          have := a1'.out
          cases x; simp [marksE] at this ⊢; exact this
        have hp : (partly markedE (ls 10) i)[i]? = some x := by have := hxi'.out; rwa [upd_same] at this
        rw [← hxe, set_same hp]
        exact hM1
      case round =>
        obtain ⟨k, hk, rfl, hblz, homz, hMz⟩ := hrel
        clear hom hM1 hbl1
        obtain ⟨D, hD⟩ : ∃ D, D = (partly markedE (ls 10) i).set i ⟨x.v, x.n, (marksE i 0 k ++ L.drop k).flatMap encE⟩ := ⟨_, rfl⟩
        rw [← hD] at hMz
        have hD' : Hid (D = (partly markedE (ls 10) i).set i ⟨x.v, x.n, (marksE i 0 k ++ L.drop k).flatMap encE⟩) := hD
        have hDl : D.length = m := by rw [hD, List.length_set, partly_len, hm'.out]
        have hDi : D[i]? = some ⟨x.v, x.n, (marksE i 0 k ++ L.drop k).flatMap encE⟩ := by rw [hD, List.getElem?_set, if_pos rfl, if_pos (by rw [partly_len, ← hm'.out]; exact hlt)]
        clear hD
        by_cases hkn : k < n
        · have d0 := hMz.cell (j := 10) (by decide)
          rw [hh0'.out] at d0
          obtain ⟨-, ad1, cp1, hh1, hc1⟩ := (hMz.hdr 10).reads
          rw [hh0'.out, upd_same, hDl] at hh1
          cases hh1
          obtain ⟨b1, o1, he, hr0⟩ := hc1 (by rw [upd_same, hDl]; omega)
          cases he
          rw [upd_same] at hr0
          have i0 := item_cell hr0 hDi
          simp only at i0
          rw [hvx'.out] at i0
          have hitm := hMz.itm 10 ⟨x.v, x.n, (marksE i 0 k ++ L.drop k).flatMap encE⟩ (List.mem_of_getElem? (by rw [upd_same]; exact hDi))
          obtain ⟨g, cap', rest, hv1, hnc, hcm, hBg, hrw, hrl, hmb⟩ := hitm.row (by have := hn'.out; simp only; omega)
          simp only at hv1 hnc hrl hmb
          have hglt := hxlt.out g hmb
          rw [hvx'.out, ← hn'.out] at hv1
          cases hv1
          obtain ⟨-, adm', cm', hvm, hcm'⟩ := homz.reads
          cases hvm
          obtain ⟨bm, om, rfl, hmr⟩ := hcm' (by omega)
          obtain ⟨⟨f1, l1, t1⟩, hy⟩ : ∃ y, (marksE i 0 n)[k]? = some y := ⟨(marksE i 0 n)[k]'(by rw [marksE_len]; exact hkn), by simp [marksE_len, hkn]⟩
          have hyk : Hid (mkE i k = ⟨f1, l1, t1⟩) := by
            rw [Hid]
            have : (marksE i 0 n)[k]? = some (mkE i k) := by simp [marksE, hkn]
            rw [this] at hy; exact Option.some.inj hy
          obtain ⟨ca1, ca2, ca3⟩ := hmr.e1 hy
          obtain ⟨fr1, fr2, fr3⟩ : _ ∧ _ ∧ _ := ⟨hrw.free (k * 3), hrw.free (k * 3 + 1), hrw.free (k * 3 + 2)⟩
          obtain ⟨⟨z1, z2, z3⟩, hoe⟩ : ∃ y, (marksE i 0 k ++ L.drop k)[k]? = some y := ⟨(marksE i 0 k ++ L.drop k)[k]'(by rw [List.length_append, marksE_len, List.length_drop, ← a2'.out]; omega), by simp [List.length_append, marksE_len, List.length_drop, ← a2'.out, show k < k + (n - k) by omega]⟩
          have hz := hrw.cellsAt'.e1 hoe
          simp only [Nat.zero_add] at hz
          obtain ⟨cg1, cg2, cg3⟩ := hz
          have lg := hrw.lt
          have lbk := hMz.lt
          have hbkg : bk ≠ g := fun e => by have := hMz.s2 10 ⟨x.v, x.n, (marksE i 0 k ++ L.drop k).flatMap encE⟩ (List.mem_of_getElem? (by rw [upd_same]; exact hDi)); simp only at this; rw [hmb, e] at this; exact this rfl
          have hrw' := Lib.hid hrw
          have hDi' := Lib.hid hDi
          clear hr0 hc1 hcm' hmr hy hDi hrw hitm hoe
          go_wp2_with fail
          refine wp_still_tail 13 (by kernel_rfl) (by kernel_rfl) (fun V hV => ?_)
          have hV' : Hid (V = wr.drew) := hV
          subst hV
          simp only [List.take_succ_cons, List.take_zero, List.drop_succ_cons, List.drop_zero]
          repeat still_step
          refine wpStill_nil ?_
          go_wp2_with fail
          go_roundw
          case measure => simp [intOf]; omega
          case rel =>
            have hrw := hrw'.out
            have hrwS := (((hrw.set (k * 3) (.int .i64 f1)).set (k * 3 + 1) (.int .i64 l1)).set (k * 3 + 2) (.int .i64 t1))
            have hset : putAll ((marksE i 0 k ++ L.drop k).flatMap encE ++ rest) (k * 3) (encE ⟨f1, l1, t1⟩) = (marksE i 0 (k + 1) ++ L.drop (k + 1)).flatMap encE ++ rest := by
              have hLk : k < L.length := by rw [← a2'.out]; exact hkn
              rw [flat_set encE 3 encE_len _ k _ (by rw [List.length_append, marksE_len, List.length_drop]; omega) rest, ← hyk.out, stepE_set i k L hLk]
            have hkeep : ∀ q, q ≠ g → (((wr.drew.setCell ⟨g, k * 3, none⟩ (.int .i64 f1)).setCell ⟨g, k * 3 + 1, none⟩ (.int .i64 l1)).setCell ⟨g, k * 3 + 2, none⟩ (.int .i64 t1)).heap[q]? = wr.heap[q]? := by
              intro q hq
              repeat rw [Below.heap_setCell _ _ _ _ (by exact hq)]
              rfl
            refine ⟨k + 1, by omega, by go_num, (by repeat (first | exact hblz | (refine Below.drew ?_) | (refine Below.setCell ?_ (by simp <;> omega) _))), homz.kept (fun q hq => hkeep q (by have := (homz.lt hq).1; omega)), ?_⟩
            have hro : Row (((wr.drew.setCell ⟨g, k * 3, none⟩ (.int .i64 f1)).setCell ⟨g, k * 3 + 1, none⟩ (.int .i64 l1)).setCell ⟨g, k * 3 + 2, none⟩ (.int .i64 t1)) g _ _ := hrwS
            have hcs : ((marksE i 0 (k + 1) ++ L.drop (k + 1)).flatMap encE).length = n * 3 := by
              rw [flat_len encE 3 encE_len, List.length_append, marksE_len, List.length_drop, ← a2'.out]; congr 1; omega
            have hro2 : Row (((wr.drew.setCell ⟨g, k * 3, none⟩ (.int .i64 f1)).setCell ⟨g, k * 3 + 1, none⟩ (.int .i64 l1)).setCell ⟨g, k * 3 + 2, none⟩ (.int .i64 t1)) g (ET 10) ((marksE i 0 (k + 1) ++ L.drop (k + 1)).flatMap encE ++ rest) := by
              rw [← hset]; simpa only [putAll, encE, Nat.mul_one] using hro
            have ho2 : Owned (((wr.drew.setCell ⟨g, k * 3, none⟩ (.int .i64 f1)).setCell ⟨g, k * 3 + 1, none⟩ (.int .i64 l1)).setCell ⟨g, k * 3 + 2, none⟩ (.int .i64 t1)) B (ET 10) (EK 10) x.v x.n ((marksE i 0 (k + 1) ++ L.drop (k + 1)).flatMap encE) := by
              rw [hvx'.out, ← hn'.out]
              exact Owned.ofRow hro2 hcs (by rw [hn'.out]; exact hrl) (by rw [hn'.out]; exact hnc) hcm hBg
            have hfin := hMz.put 10 i ⟨x.v, x.n, (marksE i 0 k ++ L.drop k).flatMap encE⟩ (by rw [upd_same]; exact hDi'.out) _ ho2 (fun q _ hq => hkeep q (fun e => hq (by show myBlock x.v = some q; rw [hmb, e])))
            rw [upd_upd, upd_same, hD'.out, List.set_set] at hfin
            exact hfin
        · have hkn2 : k = n := by omega
          subst hkn2
          have d0 := hMz.cell (j := 10) (by decide)
          have hlast : Hid (D = partly markedE (ls 10) (i + 1)) := by
            rw [Hid, hD'.out, List.drop_of_length_le (by rw [← a2'.out]; exact Nat.le_refl _), List.append_nil, hn'.out, ← partly_succ markedE _ _ x hx'.out]
            rfl
          clear hDi
          go_wp2_with fail
          go_roundw
          case measure => simp [intOf]; omega
          case rel => exact ⟨i + 1, by omega, by go_num, hblz, by rw [← hlast.out]; exact hMz⟩
    · have him : i = m := by omega
      subst him
      have hfin : Hid (partly markedE (ls 10) i = (ls 10).mapIdx markedE) := by
        rw [Hid]
        apply List.ext_getElem?
        intro a
        by_cases hal : a < (ls 10).length
        · obtain ⟨y, hy⟩ : ∃ y, (ls 10)[a]? = some y := ⟨(ls 10)[a], by simp [hal]⟩
          rw [partly_get _ _ _ a y hy, if_pos (by have := hm'.out; omega)]
          simp [hy]
        · rw [List.getElem?_eq_none (by rw [partly_len]; omega), List.getElem?_eq_none (by simp; omega)]
      go_wp2_with fail
      go_end0
      exact ⟨rfl, hbl, by rw [← hfin.out]; exact hMi⟩
end Go.Proofs.YtkknklagoghljaaGreatDoor
