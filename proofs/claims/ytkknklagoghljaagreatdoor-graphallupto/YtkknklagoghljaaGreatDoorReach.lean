/- Reach. -/
import Derived.Test.YtkknklagoghljaaGreatDoorWith
import Derived.Test.YtkknklagoghljaaGreatDoorReachL
import Derived.Test.YtkknklagoghljaaGreatDoorSortI
namespace Go.Proofs.YtkknklagoghljaaGreatDoor
open Go.RowKit
open Go.RowKit (Below)
/-- The states that a graph's Reach tells. -/
def reachL (E : List Edg) (N : Nat) (st : Int) : List Int := if N = 0 then [] else sortL (reached (outs E) N st).2
theorem outs_rng {w : World} {g N : Nat} {L st : Int} {E : List Edg} (h : GraphAt w g N L st E) (i : Int) : ∀ s ∈ outs E i, 0 ≤ s.to ∧ s.to < N := by
  intro s hs
  unfold outs at hs
  rw [List.mem_map] at hs
  obtain ⟨e, he, rfl⟩ := hs
  have := h.rng e (List.mem_filter.1 he).1
  exact ⟨this.2.2.1, this.2.2.2.1⟩
theorem bools_get (l : List Bool) (k : Nat) (b : Bool) (h : l[k]? = some b) : (l.map Value.bool)[k]? = some (.bool b) := by rw [List.getElem?_map, h]; rfl
theorem reachL_flagged {E : List Edg} {N : Nat} {st : Int} (hE : ∀ e ∈ E, 0 ≤ e.to ∧ e.to < N) (hst : 0 ≤ st ∧ st < N) : reachL E N st = flagged (reached (outs E) N st).1 N := by
  have hi : BInv N (reached (outs E) N st) := reached_inv (fun i s hs => by
    unfold outs at hs
    rw [List.mem_map] at hs
    obtain ⟨e, he, rfl⟩ := hs
    exact hE e (List.mem_filter.1 he).1) hst
  unfold reachL
  rw [if_neg (by omega)]
  refine sorted_flagged hi (List.mergeSort_perm _ _) ?_
  have := List.pairwise_mergeSort (le := fun (x y : Int) => decide (x ≤ y)) (fun a b c h1 h2 => by simp at *; omega) (fun a b => by simp; omega) (reached (outs E) N st).2
  exact this.imp (fun {a b} h => by simpa using h)
theorem bools_set (l : List Bool) (k : Nat) (b : Bool) : (l.map Value.bool).set k (.bool b) = (l.set k b).map Value.bool := by rw [List.map_set]
set_option maxRecDepth 100000 in
set_option maxHeartbeats 2000000 in
theorem reach_any {g N : Nat} {L st : Int} {E : List Edg} {w : World} (h : GraphAt w g N L st E) :
    Calls Tryz.prog 15 #[.pointer (some ⟨g, 0, none⟩)] w (fun e w' => ∃ v, e = .returned v ∧ Below w.heap.size w w' ∧ Owned w' w.heap.size 3 1 v (reachL E N st).length ((reachL E N st).map (Value.int .i64))) := by
  have hsm := h.small
  have hN1 := hsm.1
  go_enter Tryz.func15, Tryz.ntmps15
  go_wp2_with fail
  refine (num0 h).mono ?_
  rintro e w1 ⟨rfl, hb1⟩
  have h1 := h.ext hb1
  by_cases hN0 : N = 0
  · subst hN0
    go_wp2_with fail
    go_ret
    exact ⟨_, rfl, hb1, by simpa [reachL] using Owned.nil _ _ _ _ _⟩
  · have hr0 : reachL E N st = sortL (reached (outs E) N st).2 := by simp [reachL, hN0]
    have hst : 0 ≤ st ∧ st < N := by omega
    have hr0' := Lib.hid hr0
    have e1 : ¬ ((N : Int) = 0) := by omega
    clear hr0
    go_wp2_with fail
    refine (num0 h1).mono ?_
    rintro e w2 ⟨rfl, hb2⟩
    have h2 := h1.ext hb2
    have hb2' := hb1.trans (hb2.mono hb1.size)
    have hG0 := Lib.hid h
    clear hb1 hb2 h h1
    go_wp2_with (first | (refine mk73 rfl rfl _ _ rfl N rfl rfl (by omega) ?_) | fail)
    obtain ⟨s, hs⟩ : ∃ s : Nat, st = s := ⟨st.toNat, by omega⟩
    subst hs
    have hs2 : s < N := by omega
    have hbA : Below w2.heap.size w2 (w2.alloc (.cells (List.replicate N (Value.bool false)).toArray 4)) := (Below.refl _ _).alloc (Nat.le_refl _) _
    have hrS := Row.newA w2 (List.replicate N (Value.bool false)).toArray 4
    have h3 := h2.ext hbA
    go_wp2_with fail
    refine (num2 h3).mono ?_
    rintro e w3 ⟨rfl, hb3⟩
    have hrS3 := hrS.ext hb3
    have hb3' := Below.chain hbA hb3
    have c1 : w3.cell? ⟨w2.heap.size, s, none⟩ = some (.bool false) := by rw [hrS3.cell s]; simp [hs2]
    have f1 := hrS3.free s
    have l1 := hrS3.lt
    have e2 : (s : Int) < (N : Int) := by omega
    have hrS4 := hrS3.set s (.bool true)
    have hb4' : Below w2.heap.size w2 (w3.setCell ⟨w2.heap.size, s, none⟩ (.bool true)) := hb3'.setCell (by simp) _
    have h4 := h2.ext hb4'
    clear h3 hb3 hrS3 hrS hb3' hbA
    go_wp2_with fail
    refine (num2 h4).mono ?_
    rintro e w5 ⟨rfl, hb5⟩
    have hrS5 := hrS4.ext hb5
    have h5 := h4.ext hb5
    have hb5' := Below.chain hb4' hb5
    clear h4 hrS4 hb4' c1 f1 hb5 h2
    go_wp2_with fail
    have hsz5 : w.heap.size ≤ w2.heap.size := hb2'.size
    have hsz52 : w2.heap.size < w5.heap.size := hrS5.lt
    have hb6 : Below w.heap.size w (w5.alloc (.cells #[.int .i64 (s : Int)] 3)) := (hb2'.trans (hb5'.mono hsz5)).alloc (by omega) _
    have h6 := h5.ext ((Below.refl w5.heap.size w5).alloc (Nat.le_refl _) (.cells #[.int .i64 (s : Int)] 3))
    have hrS6 := hrS5.alloc (.cells #[.int .i64 (s : Int)] 3)
    have ho6 : Owned (w5.alloc (.cells #[.int .i64 (s : Int)] 3)) (w2.heap.size + 1) 3 1 (.slice (some ⟨w5.heap.size, 0, none⟩) 1 1) 1 [.int .i64 (s : Int)] :=
      Owned.ofRow (rest := []) (Row.newA w5 #[.int .i64 (s : Int)] 3) rfl rfl (Nat.le_refl _) (by decide) (by omega)
    go_loopw [4, 5] (fun lv i wr => ∃ (k : Nat) (p : List Bool × List Int), 0 < p.2.length ∧ k ≤ p.2.length ∧ i = .int .i64 k ∧ BInv N p ∧ bfs (outs E) (N + 1 - k) k p = reached (outs E) N s ∧ Below w.heap.size w wr ∧ GraphAt wr g N L s E ∧
      Row wr w2.heap.size 4 (p.1.map Value.bool) ∧ Owned wr (w2.heap.size + 1) 3 1 lv p.2.length (p.2.map (Value.int .i64))) (fun _ i _ => N - (intOf i).toNat)
    case atStart =>
      refine ⟨0, bStart N s, by simp [bStart], by simp, rfl, bStart_inv hst, rfl, hb6, h6, ?_, ho6⟩
      have : (bStart N (s : Int)).1.map Value.bool = (List.replicate N (Value.bool false)).set s (.bool true) := by simp [bStart, List.map_set]
      rw [this]; exact hrS6
    case round =>
      obtain ⟨k, p, hp0, hk, rfl, hI, hbf, hbl, hG, hrS, ho⟩ := hrel
      have hle := hI.le
      have hbf' := Lib.hid hbf
      obtain ⟨n, hn⟩ : ∃ n, n = p.2.length := ⟨_, rfl⟩
      rw [← hn] at hk hle ho hp0
      have hn' := Lib.hid hn
      obtain ⟨lb, capl, rest, rfl, hnc, hcm, hBl, hrl, hrr, hml⟩ := ho.row hp0
      clear hbf hn hrS5 hrS6 h5 h6 ho6 hb6
      by_cases hlt : k < n
      · obtain ⟨x, hx⟩ : ∃ x, p.2[k]? = some x := ⟨p.2[k]'(by have := hn'.out; omega), by have := hn'.out; simp [show k < p.2.length by omega]⟩
        have cx : wr.cell? ⟨lb, k, none⟩ = some (.int .i64 x) := by
          rw [hrl.cell k, List.getElem?_append_left (by simp; have := hn'.out; omega), List.getElem?_map, hx]; rfl
        have lbl := hrl.lt
        have hx' := Lib.hid hx
        have e9 : (k : Int) < (n : Int) := by omega
        clear hx hrl
        go_wp2_with fail
        refine (each0_any x hG0.out hbl).mono ?_
        rintro e w6 ⟨ad, rfl, hb7, hst7⟩
        have hG7 := hG.ext hb7
        have hrS7 := hrS.ext hb7
        have ho7 := ho.ext hb7
        have hbl7 : Below w.heap.size w w6 := hbl.trans (hb7.mono hbl.size)
        clear hG hrS ho hbl cx hG7
        obtain ⟨R, hR⟩ : ∃ R, R = outs E x := ⟨_, rfl⟩
        obtain ⟨m, hm⟩ : ∃ m, m = (outs E x).length := ⟨_, rfl⟩
        rw [← hm]
        rw [← hR] at hm hst7
        have hm' := Lib.hid hm
        have hR' := Lib.hid hR
        have hrg := Lib.hid (outs_rng hG0.out x)
        have hm9 : m ≤ 10000 := by have := toF_map_len E x; rw [← hR] at this; omega
        have hst' := Lib.hid hst7
        have hn1 : n ≤ 1000 := by omega
        clear hm hR hst7
        go_wp2_with fail
        go_loopw [4, 34] (fun lv j wz => ∃ (q : Nat) (p' : List Bool × List Int), q ≤ m ∧ j = .int .i64 q ∧ BInv N p' ∧ bRow p' (R.drop q) = bRow p R ∧ n ≤ p'.2.length ∧ Below w.heap.size w wz ∧
          Row wz w2.heap.size 4 (p'.1.map Value.bool) ∧ Owned wz (w2.heap.size + 1) 3 1 lv p'.2.length (p'.2.map (Value.int .i64))) (fun _ j _ => m - (intOf j).toNat)
        case atStart => exact ⟨0, p, by omega, rfl, hI, by simp, by rw [← hn'.out]; exact Nat.le_refl _, hbl7, hrS7, by rw [← hn'.out]; exact ho7⟩
        case round =>
          obtain ⟨q, p', hq, rfl, hI', hbr, hnp, hblz, hrSz, hoz⟩ := hrel
          clear hbl7 hrS7 ho7
          have hbr' := Lib.hid hbr
          have hlen' := hI'.le
          have hszz := hblz.size
          have hszz2 := hrSz.lt
          obtain ⟨n', hn2⟩ : ∃ n', n' = p'.2.length := ⟨_, rfl⟩
          rw [← hn2] at hlen' hnp hoz
          have hn2' := Lib.hid hn2
          have hI2 := Lib.hid hI'
          clear hbr hn2 hI'
          by_cases hqm : q < m
          · obtain ⟨⟨sl, st'⟩, hs⟩ : ∃ s, R[q]? = some s := ⟨R[q]'(by have := hm'.out; omega), by have := hm'.out; simp [show q < R.length by omega]⟩
            have hrt := hrg.out ⟨sl, st'⟩ (by rw [← hR'.out]; exact List.mem_of_getElem? hs)
            simp only at hrt
            obtain ⟨t, rfl⟩ : ∃ t : Nat, st' = t := ⟨st'.toNat, by omega⟩
            have hstz := hst'.out wr hblz
            unfold StepsAt at hstz
            obtain ⟨-, ad', c', hv, hr⟩ := hstz
            cases hv
            obtain ⟨b, o, rfl, hc⟩ := hr (by have := hm'.out; omega)
            obtain ⟨c1, c2⟩ := hc.s1 hs
            have htN : (t : Int) < (N : Int) := hrt.2
            have htN' : t < N := by omega
            have lb := hc.lt (by rw [flat_len encS 2 encS_len]; have := hm'.out; omega)
            have hdrop : Hid (R.drop q = ⟨sl, t⟩ :: R.drop (q + 1)) := by
              have hql := (List.getElem?_eq_some_iff.1 hs)
              obtain ⟨h1, h2⟩ := hql
              rw [Hid, List.drop_eq_getElem_cons h1, h2]
            have hfree := hrSz.free t
            have hrSz' := Lib.hid hrSz
            have e5 : (q : Int) < (m : Int) := by omega
            obtain ⟨bv, hbv⟩ : ∃ bv, p'.1[t]? = some bv := ⟨p'.1[t]'(by rw [hI2.out.len]; exact htN'), by simp [hI2.out.len, htN']⟩
            have ct := hrSz.cell t
            rw [List.getElem?_map, hbv, Option.map_some] at ct
            have hgd : Hid (p'.1.getD t false = bv) := by rw [Hid, List.getD_eq_getElem?_getD, hbv]; rfl
            clear hr hc hs hrt hrSz hbv
            cases bv with
            | true =>
              have hstep : Hid (bStep p' ⟨sl, t⟩ = p') := by
                rw [Hid]; unfold bStep; simp only [Int.toNat_natCast]; rw [if_pos hgd.out]
              go_wp2_with fail
              go_roundw
              case rel => exact ⟨q + 1, p', by omega, by go_num, hI2.out, by rw [← hbr'.out, hdrop.out]; show _ = bRow (bStep p' ⟨sl, t⟩) _; rw [hstep.out], by rw [← hn2'.out]; exact hnp, hblz.alloc hszz _, hrSz'.out.alloc _, by rw [← hn2'.out]; exact hoz.alloc _⟩
              case measure => simp [intOf]; omega
            | false =>
              have hstep : Hid (bStep p' ⟨sl, t⟩ = (p'.1.set t true, p'.2 ++ [(t : Int)])) := by
                rw [Hid]; unfold bStep; simp only [Int.toNat_natCast]; rw [if_neg (by rw [hgd.out]; decide)]
              have hoz' : Owned ((wr.setCell ⟨w2.heap.size, t, none⟩ (.bool true)).alloc (.cells #[.int .i64 sl, .int .i64 (t : Int)] 85)) (w2.heap.size + 1) 3 1 _ n' (p'.2.map (Value.int .i64)) :=
                (hoz.kept (fun g hg => Below.heap_setCell _ _ _ _ (by have := (hoz.lt hg).1; simp only; omega))).alloc _
              go_wp2_with (first | (refine app49 rfl rfl _ _ rfl (w2.heap.size + 1) _ _ _ rfl _ hoz' #[.int .i64 (t : Int)] _ rfl (wr.heap.size + 1) (by simp) rfl rfl (by simp [Value.oneCell']) (by omega) (by omega) ?_) | fail)
              intro v' w8 ho8 hg8 hm8
              have hbl8 : Below w.heap.size w w8 := ((hblz.setCell (by simp only; omega) _).alloc (by simp; omega) _).grown hg8 (by simp; omega) (fun q hq => by have := (hoz.lt hq).1; omega)
              have hrS8 : Row w8 w2.heap.size 4 ((p'.1.set t true).map Value.bool) := by
                rw [← bools_set]
                exact ((hrSz'.out.set t _).alloc _).grown hg8 (fun e => by have := (hoz.lt e).1; omega)
              clear hg8 hm8 hoz hoz' c1 c2 ct hfree hrSz'
              go_wp2_with fail
              go_roundw
              case rel =>
                refine ⟨q + 1, (p'.1.set t true, p'.2 ++ [(t : Int)]), by omega, by go_num, ?_, ?_, ?_, hbl8, hrS8, ?_⟩
                · rw [← hstep.out]; exact hI2.out.step _ (by simp only; omega)
                · rw [← hbr'.out, hdrop.out]; show _ = bRow (bStep p' ⟨sl, t⟩) _; rw [hstep.out]
                · simp only [List.length_append, List.length_cons, List.length_nil]; rw [← hn2'.out]; omega
                · simp only [List.length_append, List.length_cons, List.length_nil, List.map_append, List.map_cons, List.map_nil]; rw [← hn2'.out]; exact ho8
              case measure => simp [intOf]; omega
          · have hqe : q = m := by omega
            subst hqe
            have hpe : Hid (p' = bRow p R) := by
              rw [Hid, ← hbr'.out, List.drop_of_length_le (by rw [← hm'.out]; exact Nat.le_refl _)]; rfl
            have hGz := hG0.out.ext hblz
            go_wp2_with fail
            go_roundw
            case rel =>
              refine ⟨k + 1, p', by rw [← hn2'.out]; omega, by rw [← hn2'.out]; omega, by go_num, hI2.out, ?_, hblz, hGz, hrSz, by rw [← hn2'.out]; exact hoz⟩
              have h1 := hbf'.out
              rw [show N + 1 - k = (N + 1 - (k + 1)) + 1 by omega, bfs_next hx'.out] at h1
              rw [hpe.out, hR'.out]; exact h1
            case measure => simp [intOf]; omega
      · have hkn : k = n := by omega
        subst hkn
        have hdone : Hid (reached (outs E) N s = p) := by rw [Hid, ← hbf'.out]; exact bfs_done (by rw [← hn'.out]; exact Nat.le_refl _)
        go_wp2_with fail
        have hsrt := sortI_any (l := p.2) capl hrl (by rw [← hn'.out]; omega)
        rw [← hn'.out] at hsrt
        refine hsrt.mono ?_
        rintro e w6 ⟨rfl, hg6, hr6⟩
        have hb7 : Below w.heap.size w w6 := hbl.grown hg6 hbl.size (fun q hq => by injection hq with hq; omega)
        have hlen : (sortL p.2).length = k := by rw [hn'.out]; simp [sortL, List.length_mergeSort]
        have hfin : Owned w6 w.heap.size 3 1 (.slice (some ⟨lb, 0, none⟩) k capl) k ((sortL p.2).map (Value.int .i64)) := Owned.ofRow hr6 (by rw [List.length_map, hlen]; simp) hrr hnc hcm (by omega)
        clear hsrt hr6 hg6 hrl
        go_wp2_with fail
        go_ret
        exact ⟨_, rfl, hb7, by rw [hr0'.out, hdone.out, hlen]; exact hfin⟩
end Go.Proofs.YtkknklagoghljaaGreatDoor
