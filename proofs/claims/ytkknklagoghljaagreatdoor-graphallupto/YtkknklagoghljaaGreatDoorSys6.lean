/- system.newRows, by either key. -/
import Derived.Test.YtkknklagoghljaaGreatDoorSys5
import Derived.Test.YtkknklagoghljaaGreatDoorBase2
import Derived.Deep.RegionWith
import Derived.Deep.DeepCutAuto
import Derived.Deep.RegionLaw
namespace Go.Proofs.YtkknklagoghljaaGreatDoor
open Go.RowKit
def ints (l : List Int) : List Value := l.map (Value.int .i64)
theorem ints_get (l : List Int) (i : Nat) (x : Int) (h : l[i]? = some x) (rest : List Value) : (ints l ++ rest)[i]? = some (.int .i64 x) := by
  rw [List.getElem?_append_left (by simp [ints]; exact (List.getElem?_eq_some_iff.1 h).1)]; simp [ints, h]
theorem ints_set (l : List Int) (i : Nat) (x : Int) (_h : i < l.length) : (ints l).set i (.int .i64 x) = ints (l.set i x) := by simp [ints, List.map_set]
def toF (e : Edg) : Stp := ⟨e.lab, e.to⟩
def toT (e : Edg) : Stp := ⟨e.lab, e.fr⟩
def RowsPost (key : Edg → Int) (stp : Edg → Stp) (n : Nat) (l : List Edg) (w : World) (e : Ending) (w' : World) : Prop :=
  ∃ ad cap fb, e = .returned (.agg #[.slice ad l.length cap, .slice (some ⟨fb, 0, none⟩) (n + 1) (n + 1)]) ∧ Below w.heap.size w w' ∧ w.heap.size ≤ fb ∧
    Owned w' w.heap.size 85 2 (.slice ad l.length cap) l.length ((l.map stp).flatMap encS) ∧ Row w' fb 3 (ints (sums key l n n))
set_option maxRecDepth 100000 in
set_option maxHeartbeats 2000000 in
theorem newRowsF (n : Nat) (l : List Edg) (v : Value) (w : World) (hn : n ≤ 1000) (hm : l.length ≤ 10000) (hk : ∀ e ∈ l, 0 ≤ Edg.fr e ∧ Edg.fr e < n) (hr : Reads w v l.length 3 (l.flatMap encE)) :
    Calls Tryz.prog 37 #[.int .i64 n, v, .func (.func 38) #[] #[], .func (.func 39) #[] #[]] w (RowsPost Edg.fr toF n l w) := by
  obtain ⟨_, ad, c, rfl, hr⟩ := hr
  generalize hm' : l.length = m at *
  have hlm : Hid (l.length = m) := hm'
  have hk' : Hid (∀ e ∈ l, 0 ≤ Edg.fr e ∧ Edg.fr e < n) := hk
  clear hm' hk
  go_enter Tryz.func37, Tryz.ntmps37
  go_wp2_with (first | (with_reducible refine mk49 rfl rfl _ _ rfl (n + 1) rfl rfl (by omega) ?_))
  obtain ⟨W, hW⟩ : ∃ W, W = ((w.alloc (.cells #[.slice none 0 0, .slice none 0 0] 79)).alloc (.cells (Array.replicate (n + 1) (.int .i64 0)) 3)).alloc (.cells #[.slice none 0 0, .slice (some ⟨w.heap.size + 1, 0, none⟩) (n + 1) (n + 1)] 79) := ⟨_, rfl⟩
  have hbW : Below w.heap.size w W := by rw [hW]; exact (by repeat (first | exact Below.refl _ _ | (refine Below.alloc ?_ (by simp <;> omega) _) | (refine Below.drew ?_) | (refine Below.setCell ?_ (by simp <;> omega) _)))
  have hr0 : Row W w.heap.size 79 [.slice none 0 0, .slice none 0 0] := by rw [hW]; exact ((Row.newA w _ _).alloc _).alloc _
  have hr1 : Row W (w.heap.size + 1) 3 (ints (tally Edg.fr (l.take 0) n)) := by
    rw [hW, List.take_zero, tally_nil]
    have := (Row.newA (w.alloc (.cells #[.slice none 0 0, .slice none 0 0] 79)) (Array.replicate (n + 1) (.int .i64 0)) 3).alloc (.cells #[.slice none 0 0, .slice (some ⟨w.heap.size + 1, 0, none⟩) (n + 1) (n + 1)] 79)
    simpa [ints] using this
  have hr2 : Row W (w.heap.size + 1 + 1) 79 [.slice none 0 0, .slice (some ⟨w.heap.size + 1, 0, none⟩) (n + 1) (n + 1)] := by
    rw [hW]
    have := Row.newA ((w.alloc (.cells #[.slice none 0 0, .slice none 0 0] 79)).alloc (.cells (Array.replicate (n + 1) (.int .i64 0)) 3)) #[.slice none 0 0, .slice (some ⟨w.heap.size + 1, 0, none⟩) (n + 1) (n + 1)] 79
    simpa using this
  rw [← hW]
  have hWs : W.heap.size = w.heap.size + 3 := by rw [hW]; simp
  obtain ⟨fb, hfb⟩ : ∃ fb, fb = w.heap.size + 1 := ⟨_, rfl⟩
  obtain ⟨rb, hrb⟩ : ∃ rb, rb = w.heap.size + 1 + 1 := ⟨_, rfl⟩
  obtain ⟨tb, htb⟩ : ∃ tb, tb = w.heap.size := ⟨_, rfl⟩
  obtain ⟨B, hB⟩ : ∃ B, B = w.heap.size + 3 := ⟨_, rfl⟩
  rw [← hrb, ← hfb] at hr2
  rw [← hfb] at hr1
  rw [← htb] at hr0
  rw [← hrb, ← hfb, ← htb]
  have hord : tb < fb ∧ fb < rb ∧ rb < B ∧ tb + 1 = fb ∧ fb + 1 = rb ∧ rb + 1 = B := by omega
  have hord2 : Hid (w.heap.size = tb ∧ W.heap.size = B) := ⟨htb.symm, by omega⟩
  have hrW := fun h => hr h
  clear hW hWs hfb hrb htb hB
  obtain ⟨o1, o2, o3, _, _, _⟩ := hord
  go_loopw [19] (fun i wr => ∃ (k : Nat) (ada : Option Addr) (cap : Nat), k ≤ m ∧ i = .int .i64 k ∧ Below w.heap.size w wr ∧ B ≤ wr.heap.size ∧ Row wr tb 79 [.slice none 0 0, .slice none 0 0] ∧ Row wr fb 3 (ints (tally Edg.fr (l.take k) n)) ∧
      Row wr rb 79 [.slice ada k cap, .slice (some ⟨fb, 0, none⟩) (n + 1) (n + 1)] ∧ Owned wr B 85 2 (.slice ada k cap) k (((l.take k).map toF).flatMap encS)) (fun i _ => m - (intOf i).toNat)
  case atStart => exact ⟨0, none, 0, by omega, rfl, hbW, by have := hord2.out; omega, hr0, hr1, hr2, by simpa using Owned.nil _ _ _ _ _⟩
  case round =>
    obtain ⟨k, ada, cap, hkm, rfl, hbl, hBr, hr0, hr1, hr2, hown⟩ := hrel
    by_cases hlt : k < m
    · obtain ⟨b, off, rfl, hc⟩ := hr (by omega)
      obtain ⟨⟨f1, l1, t1⟩, hx⟩ : ∃ s, l[k]? = some s := ⟨l[k]'(by rw [hlm.out]; exact hlt), by simp [hlm.out, hlt]⟩
      obtain ⟨K, hK⟩ : ∃ K : Nat, f1 = (K : Int) ∧ K < n := by
        have := hk'.out _ (List.mem_of_getElem? hx)
        exact ⟨f1.toNat, by simp at this; omega, by simp at this; omega⟩
      obtain ⟨hKe, hKn⟩ := hK
      have hc' := hc.ext hbl
      have hfl := fun j hj => flat_get encE 3 encE_len l k _ hx j hj []
      simp only [List.append_nil] at hfl
      have a1 := hc' _ _ (hfl 0 (by omega))
      have a2 := hc' _ _ (hfl 1 (by omega))
      have a3 := hc' _ _ (hfl 2 (by omega))
      simp only [Nat.add_zero, ← Nat.add_assoc] at a1 a2 a3
      have hx' : Hid (l[k]? = some ⟨f1, l1, t1⟩) := hx
      subst hKe
      clear hx hfl hc' hc hr hrW
      go_wp2_with fail
      obtain ⟨U, hU⟩ : ∃ U, U = wr.alloc (.cells #[.int .i64 (K : Int), .int .i64 l1, .int .i64 t1] 71) := ⟨_, rfl⟩
      obtain ⟨eb, heb⟩ : ∃ eb, eb = wr.heap.size := ⟨_, rfl⟩
      have hblU : Below w.heap.size w U := by rw [hU]; exact hbl.alloc hbl.size _
      have hownU : Owned U B 85 2 (.slice ada k cap) k (((l.take k).map toF).flatMap encS) := by rw [hU]; exact hown.alloc _
      have hr0U : Row U tb 79 [.slice none 0 0, .slice none 0 0] := by rw [hU]; exact hr0.alloc _
      have hr1U : Row U fb 3 (ints (tally Edg.fr (l.take k) n)) := by rw [hU]; exact hr1.alloc _
      have hr2U : Row U rb 79 [.slice ada k cap, .slice (some ⟨fb, 0, none⟩) (n + 1) (n + 1)] := by rw [hU]; exact hr2.alloc _
      have hr3U : Row U eb 71 [.int .i64 (K : Int), .int .i64 l1, .int .i64 t1] := by rw [hU, heb]; exact Row.newA wr #[.int .i64 (K : Int), .int .i64 l1, .int .i64 t1] 71
      have hUs : Hid (U.heap.size = eb + 1 ∧ B ≤ eb) := ⟨by rw [hU, heb]; simp, by omega⟩
      rw [← hU, ← heb]
      clear a1 a2 a3 hr0 hr1 hr2 hown hbl hU heb
      have b0 := hr2U.c2
      have b1 := hr3U.c3
      have b2 : U.cell? ⟨fb, K + 1, none⟩ = some (.int .i64 (cnt Edg.fr (l.take k) K)) := by rw [hr1U.cell]; have := ints_get _ _ _ (tally_get Edg.fr (l.take k) n K hKn) []; simpa using this
      have b3 := hr1U.free (K + 1)
      have hcl := cnt_le Edg.fr (l.take k) K
      have hcl2 := cnt_take_le Edg.fr l k K
      obtain ⟨C, hC⟩ : ∃ C, C = cnt Edg.fr (l.take k) K := ⟨_, rfl⟩
      rw [← hC] at b2 hcl hcl2
      have hC' : Hid (C = cnt Edg.fr (l.take k) K) := hC
      have lU1 := hr1U.lt
      have lU2 := hr2U.lt
      have lU3 := hr3U.lt
      obtain ⟨b00, b01⟩ := b0
      obtain ⟨b10, b11, b12⟩ := b1
      have e1 : (0 : Int) ≤ (K : Int) + 1 := by omega
      have e2 : (K : Int) + 1 < ((n + 1 : Nat) : Int) := by omega
      have e3 : ((K : Int) + 1).toNat = K + 1 := by omega
      have e4 : IntKind.i64.wrap ((K : Int) + 1) = (K : Int) + 1 := IntWalk.i64_in _ (by omega)
      have e5 : IntKind.i64.wrap (C + 1) = C + 1 := IntWalk.i64_in _ (by omega)
      clear hC
      have n1 : rb ≠ fb := by omega
      have n2 : eb ≠ fb := by have := hUs.out; omega
      go_cut [] (fun wx => Below w.heap.size w wx ∧ eb < wx.heap.size ∧ Row wx tb 79 [.slice none 0 0, .slice none 0 0] ∧ Row wx fb 3 ((ints (tally Edg.fr (l.take k) n)).set (K + 1) (.int .i64 (C + 1))) ∧
        Row wx rb 79 [.slice ada k cap, .slice (some ⟨fb, 0, none⟩) (n + 1) (n + 1)] ∧ Row wx eb 71 [.int .i64 (K : Int), .int .i64 l1, .int .i64 t1] ∧ Owned wx B 85 2 (.slice ada k cap) k (((l.take k).map toF).flatMap encS))
      case first =>
        go_region_with (go_at_call 38; refine (keyF _ _ _ _).mono ?_; rintro e w' ⟨rfl, rfl⟩)
        all_goals
          go_wp2_with fail
          go_meet
          have hUs1 := hUs.out
          have n0 : tb ≠ fb := by omega
          refine ⟨((hblU.setCell (by have := hord2.out; simp; omega) _).alloc (by have := hblU.size; simp; omega) _).drew, by simp; omega, ((hr0U.other _ _ n0).alloc _).drew, ((hr1U.set _ _).alloc _).drew, ((hr2U.other _ _ n1).alloc _).drew, ((hr3U.other _ _ n2).alloc _).drew, ?_⟩
          refine (hownU.kept fun q hq => ?_)
          have hq2 := hownU.lt hq
          show ((U.setCell _ _).alloc _).heap[q]? = _
          rw [Below.heap_alloc _ _ _ (by simp; omega), Below.heap_setCell _ _ _ _ (by simp; omega)]
      case rest =>
        obtain ⟨hblX, hebX, hr0, hr1, hr2, hr3, hown⟩ := hcut
        clear hr0U hr1U hr2U hr3U hownU hblU b00 b01 b10 b11 b12 b2 b3 e1 e2 e3 e4 e5 lU1 lU2 lU3
        obtain ⟨b00, b01⟩ := hr2.c2
        obtain ⟨f00, f01⟩ := hr2.f2
        obtain ⟨b10, b11, b12⟩ := hr3.c3
        have lX := hr2.lt
        have n3 : rb ≠ wc.heap.size := by omega
        have n4 : rb ≠ wc.heap.size + 1 := by omega
        have n5 : rb ≠ wc.heap.size + 1 + 1 := by omega
        have q3 : ∀ x y z : Obj, (((wc.alloc x).alloc y).alloc z).cell? ⟨rb, 0, none⟩ = some (.slice ada k cap) := fun x y z => (((hr2.alloc x).alloc y).alloc z).c2.1
        go_wp2_with fail
        go_region_law (first | (refine sapp46 rfl rfl _ _ rfl B _ k _ (by rfl) (((wc.alloc (.cells #[.int .i64 (K : Int), .int .i64 l1, .int .i64 t1] 71)).alloc (.cells #[.int .i64 l1, .int .i64 t1] 85)).drew) ((hown.alloc _).alloc _) #[.int .i64 l1, .int .i64 t1] 85 (by rfl) (wc.heap.size + 1 + 1) (by simp) (by rfl) rfl (by simp [Value.oneCell']) (by omega) (by have := hUs.out; omega) ?_; intro ad' cap' w1 hown1 hg1 hmb; have hrbW := (((hr2.alloc _).alloc _).drew).grown hg1 (fun e => by have := (hown.lt e).1; omega); obtain ⟨s0, s1⟩ := hrbW.c2; obtain ⟨s2, s3⟩ := hrbW.f2) | (go_simp; go_at_call 39; refine (stepF _ _ _ _).mono ?_; rintro e w' ⟨rfl, rfl⟩))
        all_goals
          go_wp2_with fail
          go_roundw
          case measure => simp [intOf]; omega
          case rel =>
            have hUs1 := hUs.out
            have hsn : l.take (k + 1) = l.take k ++ [⟨(K : Int), l1, t1⟩] := by rw [List.take_add_one, hx'.out]; rfl
            have hmy : ∀ q, myBlock (.slice ada k cap) = some q → B ≤ q := fun q hq => (hown.lt hq).1
            have hg2 := hg1.size
            have hne1 : myBlock (.slice ada k cap) ≠ some tb := fun e => by have := hmy _ e; omega
            have hne2 : myBlock (.slice ada k cap) ≠ some fb := fun e => by have := hmy _ e; omega
            have hne3 : myBlock (.slice ada k cap) ≠ some rb := fun e => by have := hmy _ e; omega
            have hbl2 : Below w.heap.size w w1 := (((hblX.alloc hblX.size _).alloc (by have := hblX.size; simp; omega) _).drew).grown hg1 (by have := hblX.size; simp; omega) (fun q hq => by have := hmy _ hq; have := hord2.out; omega)
            refine ⟨k + 1, ad', cap', by omega, by go_num, hbl2.setCell (by have := hord2.out; simp; omega) _, by simp at hg2 ⊢; omega, ?_, ?_, ?_, ?_⟩
            · exact ((((hr0.alloc _).alloc _).drew).grown hg1 hne1).other _ _ (by simp; omega)
            · rw [hsn, tally_snoc Edg.fr _ n K _ rfl hKn, ← hC'.out, ← ints_set _ _ _ (by rw [tally_len]; omega)]
              exact ((((hr1.alloc _).alloc _).drew).grown hg1 hne2).other _ _ (by simp; omega)
            · exact hrbW.set 0 _
            · rw [hsn, List.map_append, List.flatMap_append]
              refine (hown1.kept fun q hq => ?_)
              have hq2 := hown1.lt hq
              exact Below.heap_setCell _ _ _ _ (by simp; omega)
    · have hkm2 : k = m := by omega
      subst hkm2
      have htk : l.take k = l := List.take_of_length_le (by rw [hlm.out]; omega)
      rw [htk] at hr1 hown
      have hsz0 : sums Edg.fr l n 0 = tally Edg.fr l n := sums_zero Edg.fr l n (fun e he => (hk'.out e he).1)
      rw [← hsz0] at hr1
      clear htk hsz0 hr
      go_wp2_with fail
      obtain ⟨wo, hwo⟩ : ∃ wo : World, wo = wr := ⟨_, rfl⟩
      rw [← hwo] at hbl hr0 hr1 hr2 hown ⊢
      clear hwo
      go_loopw [43] (fun i wz => ∃ q : Nat, q ≤ n ∧ i = .int .i64 q ∧ Below w.heap.size w wz ∧ Row wz tb 79 [.slice none 0 0, .slice none 0 0] ∧ Row wz fb 3 (ints (sums Edg.fr l n q)) ∧
        Row wz rb 79 [.slice ada k cap, .slice (some ⟨fb, 0, none⟩) (n + 1) (n + 1)] ∧ Owned wz B 85 2 (.slice ada k cap) k ((l.map toF).flatMap encS)) (fun i _ => n - (intOf i).toNat)
      case atStart => exact ⟨0, by omega, rfl, hbl, hr0, hr1, hr2, hown⟩
      case round =>
        clear hr0 hr1 hr2 hown hbl
        obtain ⟨q, hq, rfl, hbl, hr0, hr1, hr2, hown⟩ := hrel
        by_cases hlt2 : q < n
        · have g1 := sums_get Edg.fr l n q hlt2
          have b1 := (hr1.cell q).trans (by have := ints_get _ _ _ g1.1 []; simpa using this)
          have b2 := (hr1.cell (q + 1)).trans (by have := ints_get _ _ _ g1.2 []; simpa using this)
          have b3 := hr1.free (q + 1)
          obtain ⟨b00, b01⟩ := hr2.c2
          have k1 := cnt_le Edg.fr l q
          have k2 := cntL_le Edg.fr l q
          rw [hlm.out] at k1 k2
          obtain ⟨C1, hC1⟩ : ∃ C1, C1 = cnt Edg.fr l q := ⟨_, rfl⟩
          obtain ⟨C2, hC2⟩ : ∃ C2, C2 = cntL Edg.fr l q := ⟨_, rfl⟩
          rw [← hC1] at b2 k1
          rw [← hC2] at b1 k2
          have hC' : Hid (C1 = cnt Edg.fr l q ∧ C2 = cntL Edg.fr l q) := ⟨hC1, hC2⟩
          have e1 : (0 : Int) ≤ (q : Int) + 1 := by omega
          have e2 : (q : Int) + 1 < ((n + 1 : Nat) : Int) := by omega
          have e2' : (q : Int) < ((n + 1 : Nat) : Int) := by omega
          have e6 : (q : Int) < (n : Int) + 1 := by omega
          have e7 : (0 : Int) ≤ (q : Int) := by omega
          have e3 : ((q : Int) + 1).toNat = q + 1 := by omega
          have e4 : IntKind.i64.wrap ((q : Int) + 1) = (q : Int) + 1 := IntWalk.i64_in _ (by omega)
          have e5 : IntKind.i64.wrap (C1 + C2) = C1 + C2 := IntWalk.i64_in _ (by omega)
          clear hC1 hC2 g1
          go_wp2_with fail
          refine wp_still_tail 13 (by kernel_rfl) (by kernel_rfl) (fun V hV => ?_)
          have v1 : V.cell? ⟨fb, q, none⟩ = some (.int .i64 C2) := by rw [hV]; exact b1
          have v2 : V.cell? ⟨fb, q + 1, none⟩ = some (.int .i64 C1) := by rw [hV]; exact b2
          have v3 : V.frozen? ⟨fb, q + 1, none⟩ = false := by rw [hV]; exact b3
          have v4 : V.cell? ⟨rb, 1, none⟩ = some (.slice (some ⟨fb, 0, none⟩) (n + 1) (n + 1)) := by rw [hV]; exact b01
          have hV' : Hid (V = wr.drew) := hV
          clear hV b1 b2 b3 b00 b01
          simp only [List.take_succ_cons, List.take_zero, List.drop_succ_cons, List.drop_zero]
          repeat still_step
          refine wpStill_nil ?_
          go_wp2_with fail
          go_roundw
          case measure => simp [intOf]; omega
          case rel =>
            rw [hV'.out]
            have n0 : tb ≠ fb := by omega
            have n1 : rb ≠ fb := by omega
            refine ⟨q + 1, by omega, by go_num, hbl.drew.setCell (by have := hord2.out; simp; omega) _, (hr0.drew.other _ _ n0), ?_, (hr2.drew.other _ _ n1), ?_⟩
            · rw [sums_succ, ← hC'.out.1, ← hC'.out.2, ← ints_set _ _ _ (by rw [sums_len]; omega)]
              exact hr1.drew.set _ _
            · refine (hown.kept fun q' hq' => ?_)
              have hq2 := hown.lt hq'
              exact Below.heap_setCell wr.drew _ _ _ (by simp; omega)
        · have hqn : q = n := by omega
          subst hqn
          obtain ⟨b00, b01⟩ := hr2.c2
          obtain ⟨c00, c01⟩ := hr0.c2
          obtain ⟨f00, f01⟩ := hr0.f2
          go_wp2_with fail
          have hrF := (hr0.set 0 (.slice ada k cap)).set 1 (.slice (some ⟨fb, 0, none⟩) (q + 1) (q + 1))
          refine bodyPost_ret (results_cell1 Tryz.results37 hrF Tryz.isAgg79 Tryz.sizeOf79 rfl rfl) rfl ?_
          have hbF := (hbl.setCell (p := ⟨tb, 0, none⟩) (by have := hord2.out; simp; omega) (.slice ada k cap)).setCell (p := ⟨tb, 1, none⟩) (by have := hord2.out; simp; omega) (.slice (some ⟨fb, 0, none⟩) (q + 1) (q + 1))
          have hlm2 := hlm.out
          subst hlm2
          refine ⟨ada, cap, fb, rfl, hbF, by have := hord2.out; omega, ?_, ?_⟩
          · refine (hown.kept fun q' hq' => ?_).mono (by have := hord2.out; omega)
            have hq2 := hown.lt hq'
            rw [Below.heap_setCell _ _ _ _ (by simp; omega), Below.heap_setCell _ _ _ _ (by simp; omega)]
          · exact (hr1.other _ _ (by simp; omega)).other _ _ (by simp; omega)
set_option maxRecDepth 100000 in
set_option maxHeartbeats 2000000 in
theorem newRowsT (n : Nat) (l : List Edg) (v : Value) (w : World) (hn : n ≤ 1000) (hm : l.length ≤ 10000) (hk : ∀ e ∈ l, 0 ≤ Edg.to e ∧ Edg.to e < n) (hr : Reads w v l.length 3 (l.flatMap encE)) :
    Calls Tryz.prog 37 #[.int .i64 n, v, .func (.func 45) #[] #[], .func (.func 46) #[] #[]] w (RowsPost Edg.to toT n l w) := by
  obtain ⟨_, ad, c, rfl, hr⟩ := hr
  generalize hm' : l.length = m at *
  have hlm : Hid (l.length = m) := hm'
  have hk' : Hid (∀ e ∈ l, 0 ≤ Edg.to e ∧ Edg.to e < n) := hk
  clear hm' hk
  go_enter Tryz.func37, Tryz.ntmps37
  go_wp2_with (first | (with_reducible refine mk49 rfl rfl _ _ rfl (n + 1) rfl rfl (by omega) ?_))
  obtain ⟨W, hW⟩ : ∃ W, W = ((w.alloc (.cells #[.slice none 0 0, .slice none 0 0] 79)).alloc (.cells (Array.replicate (n + 1) (.int .i64 0)) 3)).alloc (.cells #[.slice none 0 0, .slice (some ⟨w.heap.size + 1, 0, none⟩) (n + 1) (n + 1)] 79) := ⟨_, rfl⟩
  have hbW : Below w.heap.size w W := by rw [hW]; exact (by repeat (first | exact Below.refl _ _ | (refine Below.alloc ?_ (by simp <;> omega) _) | (refine Below.drew ?_) | (refine Below.setCell ?_ (by simp <;> omega) _)))
  have hr0 : Row W w.heap.size 79 [.slice none 0 0, .slice none 0 0] := by rw [hW]; exact ((Row.newA w _ _).alloc _).alloc _
  have hr1 : Row W (w.heap.size + 1) 3 (ints (tally Edg.to (l.take 0) n)) := by
    rw [hW, List.take_zero, tally_nil]
    have := (Row.newA (w.alloc (.cells #[.slice none 0 0, .slice none 0 0] 79)) (Array.replicate (n + 1) (.int .i64 0)) 3).alloc (.cells #[.slice none 0 0, .slice (some ⟨w.heap.size + 1, 0, none⟩) (n + 1) (n + 1)] 79)
    simpa [ints] using this
  have hr2 : Row W (w.heap.size + 1 + 1) 79 [.slice none 0 0, .slice (some ⟨w.heap.size + 1, 0, none⟩) (n + 1) (n + 1)] := by
    rw [hW]
    have := Row.newA ((w.alloc (.cells #[.slice none 0 0, .slice none 0 0] 79)).alloc (.cells (Array.replicate (n + 1) (.int .i64 0)) 3)) #[.slice none 0 0, .slice (some ⟨w.heap.size + 1, 0, none⟩) (n + 1) (n + 1)] 79
    simpa using this
  rw [← hW]
  have hWs : W.heap.size = w.heap.size + 3 := by rw [hW]; simp
  obtain ⟨fb, hfb⟩ : ∃ fb, fb = w.heap.size + 1 := ⟨_, rfl⟩
  obtain ⟨rb, hrb⟩ : ∃ rb, rb = w.heap.size + 1 + 1 := ⟨_, rfl⟩
  obtain ⟨tb, htb⟩ : ∃ tb, tb = w.heap.size := ⟨_, rfl⟩
  obtain ⟨B, hB⟩ : ∃ B, B = w.heap.size + 3 := ⟨_, rfl⟩
  rw [← hrb, ← hfb] at hr2
  rw [← hfb] at hr1
  rw [← htb] at hr0
  rw [← hrb, ← hfb, ← htb]
  have hord : tb < fb ∧ fb < rb ∧ rb < B ∧ tb + 1 = fb ∧ fb + 1 = rb ∧ rb + 1 = B := by omega
  have hord2 : Hid (w.heap.size = tb ∧ W.heap.size = B) := ⟨htb.symm, by omega⟩
  have hrW := fun h => hr h
  clear hW hWs hfb hrb htb hB
  obtain ⟨o1, o2, o3, _, _, _⟩ := hord
  go_loopw [19] (fun i wr => ∃ (k : Nat) (ada : Option Addr) (cap : Nat), k ≤ m ∧ i = .int .i64 k ∧ Below w.heap.size w wr ∧ B ≤ wr.heap.size ∧ Row wr tb 79 [.slice none 0 0, .slice none 0 0] ∧ Row wr fb 3 (ints (tally Edg.to (l.take k) n)) ∧
      Row wr rb 79 [.slice ada k cap, .slice (some ⟨fb, 0, none⟩) (n + 1) (n + 1)] ∧ Owned wr B 85 2 (.slice ada k cap) k (((l.take k).map toT).flatMap encS)) (fun i _ => m - (intOf i).toNat)
  case atStart => exact ⟨0, none, 0, by omega, rfl, hbW, by have := hord2.out; omega, hr0, hr1, hr2, by simpa using Owned.nil _ _ _ _ _⟩
  case round =>
    obtain ⟨k, ada, cap, hkm, rfl, hbl, hBr, hr0, hr1, hr2, hown⟩ := hrel
    by_cases hlt : k < m
    · obtain ⟨b, off, rfl, hc⟩ := hr (by omega)
      obtain ⟨⟨f1, l1, t1⟩, hx⟩ : ∃ s, l[k]? = some s := ⟨l[k]'(by rw [hlm.out]; exact hlt), by simp [hlm.out, hlt]⟩
      obtain ⟨K, hK⟩ : ∃ K : Nat, t1 = (K : Int) ∧ K < n := by
        have := hk'.out _ (List.mem_of_getElem? hx)
        exact ⟨t1.toNat, by simp at this; omega, by simp at this; omega⟩
      obtain ⟨hKe, hKn⟩ := hK
      have hc' := hc.ext hbl
      have hfl := fun j hj => flat_get encE 3 encE_len l k _ hx j hj []
      simp only [List.append_nil] at hfl
      have a1 := hc' _ _ (hfl 0 (by omega))
      have a2 := hc' _ _ (hfl 1 (by omega))
      have a3 := hc' _ _ (hfl 2 (by omega))
      simp only [Nat.add_zero, ← Nat.add_assoc] at a1 a2 a3
      have hx' : Hid (l[k]? = some ⟨f1, l1, t1⟩) := hx
      subst hKe
      clear hx hfl hc' hc hr hrW
      go_wp2_with fail
      obtain ⟨U, hU⟩ : ∃ U, U = wr.alloc (.cells #[.int .i64 f1, .int .i64 l1, .int .i64 (K : Int)] 71) := ⟨_, rfl⟩
      obtain ⟨eb, heb⟩ : ∃ eb, eb = wr.heap.size := ⟨_, rfl⟩
      have hblU : Below w.heap.size w U := by rw [hU]; exact hbl.alloc hbl.size _
      have hownU : Owned U B 85 2 (.slice ada k cap) k (((l.take k).map toT).flatMap encS) := by rw [hU]; exact hown.alloc _
      have hr0U : Row U tb 79 [.slice none 0 0, .slice none 0 0] := by rw [hU]; exact hr0.alloc _
      have hr1U : Row U fb 3 (ints (tally Edg.to (l.take k) n)) := by rw [hU]; exact hr1.alloc _
      have hr2U : Row U rb 79 [.slice ada k cap, .slice (some ⟨fb, 0, none⟩) (n + 1) (n + 1)] := by rw [hU]; exact hr2.alloc _
      have hr3U : Row U eb 71 [.int .i64 f1, .int .i64 l1, .int .i64 (K : Int)] := by rw [hU, heb]; exact Row.newA wr #[.int .i64 f1, .int .i64 l1, .int .i64 (K : Int)] 71
      have hUs : Hid (U.heap.size = eb + 1 ∧ B ≤ eb) := ⟨by rw [hU, heb]; simp, by omega⟩
      rw [← hU, ← heb]
      clear a1 a2 a3 hr0 hr1 hr2 hown hbl hU heb
      have b0 := hr2U.c2
      have b1 := hr3U.c3
      have b2 : U.cell? ⟨fb, K + 1, none⟩ = some (.int .i64 (cnt Edg.to (l.take k) K)) := by rw [hr1U.cell]; have := ints_get _ _ _ (tally_get Edg.to (l.take k) n K hKn) []; simpa using this
      have b3 := hr1U.free (K + 1)
      have hcl := cnt_le Edg.to (l.take k) K
      have hcl2 := cnt_take_le Edg.to l k K
      obtain ⟨C, hC⟩ : ∃ C, C = cnt Edg.to (l.take k) K := ⟨_, rfl⟩
      rw [← hC] at b2 hcl hcl2
      have hC' : Hid (C = cnt Edg.to (l.take k) K) := hC
      have lU1 := hr1U.lt
      have lU2 := hr2U.lt
      have lU3 := hr3U.lt
      obtain ⟨b00, b01⟩ := b0
      obtain ⟨b10, b11, b12⟩ := b1
      have e1 : (0 : Int) ≤ (K : Int) + 1 := by omega
      have e2 : (K : Int) + 1 < ((n + 1 : Nat) : Int) := by omega
      have e3 : ((K : Int) + 1).toNat = K + 1 := by omega
      have e4 : IntKind.i64.wrap ((K : Int) + 1) = (K : Int) + 1 := IntWalk.i64_in _ (by omega)
      have e5 : IntKind.i64.wrap (C + 1) = C + 1 := IntWalk.i64_in _ (by omega)
      clear hC
      have n1 : rb ≠ fb := by omega
      have n2 : eb ≠ fb := by have := hUs.out; omega
      go_cut [] (fun wx => Below w.heap.size w wx ∧ eb < wx.heap.size ∧ Row wx tb 79 [.slice none 0 0, .slice none 0 0] ∧ Row wx fb 3 ((ints (tally Edg.to (l.take k) n)).set (K + 1) (.int .i64 (C + 1))) ∧
        Row wx rb 79 [.slice ada k cap, .slice (some ⟨fb, 0, none⟩) (n + 1) (n + 1)] ∧ Row wx eb 71 [.int .i64 f1, .int .i64 l1, .int .i64 (K : Int)] ∧ Owned wx B 85 2 (.slice ada k cap) k (((l.take k).map toT).flatMap encS))
      case first =>
        go_region_with (go_at_call 45; refine (keyT _ _ _ _).mono ?_; rintro e w' ⟨rfl, rfl⟩)
        all_goals
          go_wp2_with fail
          go_meet
          have hUs1 := hUs.out
          have n0 : tb ≠ fb := by omega
          refine ⟨((hblU.setCell (by have := hord2.out; simp; omega) _).alloc (by have := hblU.size; simp; omega) _).drew, by simp; omega, ((hr0U.other _ _ n0).alloc _).drew, ((hr1U.set _ _).alloc _).drew, ((hr2U.other _ _ n1).alloc _).drew, ((hr3U.other _ _ n2).alloc _).drew, ?_⟩
          refine (hownU.kept fun q hq => ?_)
          have hq2 := hownU.lt hq
          show ((U.setCell _ _).alloc _).heap[q]? = _
          rw [Below.heap_alloc _ _ _ (by simp; omega), Below.heap_setCell _ _ _ _ (by simp; omega)]
      case rest =>
        obtain ⟨hblX, hebX, hr0, hr1, hr2, hr3, hown⟩ := hcut
        clear hr0U hr1U hr2U hr3U hownU hblU b00 b01 b10 b11 b12 b2 b3 e1 e2 e3 e4 e5 lU1 lU2 lU3
        obtain ⟨b00, b01⟩ := hr2.c2
        obtain ⟨f00, f01⟩ := hr2.f2
        obtain ⟨b10, b11, b12⟩ := hr3.c3
        have lX := hr2.lt
        have n3 : rb ≠ wc.heap.size := by omega
        have n4 : rb ≠ wc.heap.size + 1 := by omega
        have n5 : rb ≠ wc.heap.size + 1 + 1 := by omega
        have q3 : ∀ x y z : Obj, (((wc.alloc x).alloc y).alloc z).cell? ⟨rb, 0, none⟩ = some (.slice ada k cap) := fun x y z => (((hr2.alloc x).alloc y).alloc z).c2.1
        go_wp2_with fail
        go_region_law (first | (refine sapp46 rfl rfl _ _ rfl B _ k _ (by rfl) (((wc.alloc (.cells #[.int .i64 f1, .int .i64 l1, .int .i64 (K : Int)] 71)).alloc (.cells #[.int .i64 l1, .int .i64 f1] 85)).drew) ((hown.alloc _).alloc _) #[.int .i64 l1, .int .i64 f1] 85 (by rfl) (wc.heap.size + 1 + 1) (by simp) (by rfl) rfl (by simp [Value.oneCell']) (by omega) (by have := hUs.out; omega) ?_; intro ad' cap' w1 hown1 hg1 hmb; have hrbW := (((hr2.alloc _).alloc _).drew).grown hg1 (fun e => by have := (hown.lt e).1; omega); obtain ⟨s0, s1⟩ := hrbW.c2; obtain ⟨s2, s3⟩ := hrbW.f2) | (go_simp; go_at_call 46; refine (stepT _ _ _ _).mono ?_; rintro e w' ⟨rfl, rfl⟩))
        all_goals
          go_wp2_with fail
          go_roundw
          case measure => simp [intOf]; omega
          case rel =>
            have hUs1 := hUs.out
            have hsn : l.take (k + 1) = l.take k ++ [⟨f1, l1, (K : Int)⟩] := by rw [List.take_add_one, hx'.out]; rfl
            have hmy : ∀ q, myBlock (.slice ada k cap) = some q → B ≤ q := fun q hq => (hown.lt hq).1
            have hg2 := hg1.size
            have hne1 : myBlock (.slice ada k cap) ≠ some tb := fun e => by have := hmy _ e; omega
            have hne2 : myBlock (.slice ada k cap) ≠ some fb := fun e => by have := hmy _ e; omega
            have hne3 : myBlock (.slice ada k cap) ≠ some rb := fun e => by have := hmy _ e; omega
            have hbl2 : Below w.heap.size w w1 := (((hblX.alloc hblX.size _).alloc (by have := hblX.size; simp; omega) _).drew).grown hg1 (by have := hblX.size; simp; omega) (fun q hq => by have := hmy _ hq; have := hord2.out; omega)
            refine ⟨k + 1, ad', cap', by omega, by go_num, hbl2.setCell (by have := hord2.out; simp; omega) _, by simp at hg2 ⊢; omega, ?_, ?_, ?_, ?_⟩
            · exact ((((hr0.alloc _).alloc _).drew).grown hg1 hne1).other _ _ (by simp; omega)
            · rw [hsn, tally_snoc Edg.to _ n K _ rfl hKn, ← hC'.out, ← ints_set _ _ _ (by rw [tally_len]; omega)]
              exact ((((hr1.alloc _).alloc _).drew).grown hg1 hne2).other _ _ (by simp; omega)
            · exact hrbW.set 0 _
            · rw [hsn, List.map_append, List.flatMap_append]
              refine (hown1.kept fun q hq => ?_)
              have hq2 := hown1.lt hq
              exact Below.heap_setCell _ _ _ _ (by simp; omega)
    · have hkm2 : k = m := by omega
      subst hkm2
      have htk : l.take k = l := List.take_of_length_le (by rw [hlm.out]; omega)
      rw [htk] at hr1 hown
      have hsz0 : sums Edg.to l n 0 = tally Edg.to l n := sums_zero Edg.to l n (fun e he => (hk'.out e he).1)
      rw [← hsz0] at hr1
      clear htk hsz0 hr
      go_wp2_with fail
      obtain ⟨wo, hwo⟩ : ∃ wo : World, wo = wr := ⟨_, rfl⟩
      rw [← hwo] at hbl hr0 hr1 hr2 hown ⊢
      clear hwo
      go_loopw [43] (fun i wz => ∃ q : Nat, q ≤ n ∧ i = .int .i64 q ∧ Below w.heap.size w wz ∧ Row wz tb 79 [.slice none 0 0, .slice none 0 0] ∧ Row wz fb 3 (ints (sums Edg.to l n q)) ∧
        Row wz rb 79 [.slice ada k cap, .slice (some ⟨fb, 0, none⟩) (n + 1) (n + 1)] ∧ Owned wz B 85 2 (.slice ada k cap) k ((l.map toT).flatMap encS)) (fun i _ => n - (intOf i).toNat)
      case atStart => exact ⟨0, by omega, rfl, hbl, hr0, hr1, hr2, hown⟩
      case round =>
        clear hr0 hr1 hr2 hown hbl
        obtain ⟨q, hq, rfl, hbl, hr0, hr1, hr2, hown⟩ := hrel
        by_cases hlt2 : q < n
        · have g1 := sums_get Edg.to l n q hlt2
          have b1 := (hr1.cell q).trans (by have := ints_get _ _ _ g1.1 []; simpa using this)
          have b2 := (hr1.cell (q + 1)).trans (by have := ints_get _ _ _ g1.2 []; simpa using this)
          have b3 := hr1.free (q + 1)
          obtain ⟨b00, b01⟩ := hr2.c2
          have k1 := cnt_le Edg.to l q
          have k2 := cntL_le Edg.to l q
          rw [hlm.out] at k1 k2
          obtain ⟨C1, hC1⟩ : ∃ C1, C1 = cnt Edg.to l q := ⟨_, rfl⟩
          obtain ⟨C2, hC2⟩ : ∃ C2, C2 = cntL Edg.to l q := ⟨_, rfl⟩
          rw [← hC1] at b2 k1
          rw [← hC2] at b1 k2
          have hC' : Hid (C1 = cnt Edg.to l q ∧ C2 = cntL Edg.to l q) := ⟨hC1, hC2⟩
          have e1 : (0 : Int) ≤ (q : Int) + 1 := by omega
          have e2 : (q : Int) + 1 < ((n + 1 : Nat) : Int) := by omega
          have e2' : (q : Int) < ((n + 1 : Nat) : Int) := by omega
          have e6 : (q : Int) < (n : Int) + 1 := by omega
          have e7 : (0 : Int) ≤ (q : Int) := by omega
          have e3 : ((q : Int) + 1).toNat = q + 1 := by omega
          have e4 : IntKind.i64.wrap ((q : Int) + 1) = (q : Int) + 1 := IntWalk.i64_in _ (by omega)
          have e5 : IntKind.i64.wrap (C1 + C2) = C1 + C2 := IntWalk.i64_in _ (by omega)
          clear hC1 hC2 g1
          go_wp2_with fail
          refine wp_still_tail 13 (by kernel_rfl) (by kernel_rfl) (fun V hV => ?_)
          have v1 : V.cell? ⟨fb, q, none⟩ = some (.int .i64 C2) := by rw [hV]; exact b1
          have v2 : V.cell? ⟨fb, q + 1, none⟩ = some (.int .i64 C1) := by rw [hV]; exact b2
          have v3 : V.frozen? ⟨fb, q + 1, none⟩ = false := by rw [hV]; exact b3
          have v4 : V.cell? ⟨rb, 1, none⟩ = some (.slice (some ⟨fb, 0, none⟩) (n + 1) (n + 1)) := by rw [hV]; exact b01
          have hV' : Hid (V = wr.drew) := hV
          clear hV b1 b2 b3 b00 b01
          simp only [List.take_succ_cons, List.take_zero, List.drop_succ_cons, List.drop_zero]
          repeat still_step
          refine wpStill_nil ?_
          go_wp2_with fail
          go_roundw
          case measure => simp [intOf]; omega
          case rel =>
            rw [hV'.out]
            have n0 : tb ≠ fb := by omega
            have n1 : rb ≠ fb := by omega
            refine ⟨q + 1, by omega, by go_num, hbl.drew.setCell (by have := hord2.out; simp; omega) _, (hr0.drew.other _ _ n0), ?_, (hr2.drew.other _ _ n1), ?_⟩
            · rw [sums_succ, ← hC'.out.1, ← hC'.out.2, ← ints_set _ _ _ (by rw [sums_len]; omega)]
              exact hr1.drew.set _ _
            · refine (hown.kept fun q' hq' => ?_)
              have hq2 := hown.lt hq'
              exact Below.heap_setCell wr.drew _ _ _ (by simp; omega)
        · have hqn : q = n := by omega
          subst hqn
          obtain ⟨b00, b01⟩ := hr2.c2
          obtain ⟨c00, c01⟩ := hr0.c2
          obtain ⟨f00, f01⟩ := hr0.f2
          go_wp2_with fail
          have hrF := (hr0.set 0 (.slice ada k cap)).set 1 (.slice (some ⟨fb, 0, none⟩) (q + 1) (q + 1))
          refine bodyPost_ret (results_cell1 Tryz.results37 hrF Tryz.isAgg79 Tryz.sizeOf79 rfl rfl) rfl ?_
          have hbF := (hbl.setCell (p := ⟨tb, 0, none⟩) (by have := hord2.out; simp; omega) (.slice ada k cap)).setCell (p := ⟨tb, 1, none⟩) (by have := hord2.out; simp; omega) (.slice (some ⟨fb, 0, none⟩) (q + 1) (q + 1))
          have hlm2 := hlm.out
          subst hlm2
          refine ⟨ada, cap, fb, rfl, hbF, by have := hord2.out; omega, ?_, ?_⟩
          · refine (hown.kept fun q' hq' => ?_).mono (by have := hord2.out; omega)
            have hq2 := hown.lt hq'
            rw [Below.heap_setCell _ _ _ _ (by simp; omega), Below.heap_setCell _ _ _ _ (by simp; omega)]
          · exact (hr1.other _ _ (by simp; omega)).other _ _ (by simp; omega)
end Go.Proofs.YtkknklagoghljaaGreatDoor
