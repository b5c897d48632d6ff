/- slices.Compact at edges and steps: neighbours that are alike once. -/
import Derived.Test.YtkknklagoghljaaGreatDoorSys1
namespace Go.Proofs.YtkknklagoghljaaGreatDoor
open Go.RowKit
theorem encE_len (x : Edg) : (encE x).length = 3 := rfl
theorem encS_len (x : Stp) : (encS x).length = 2 := rfl
set_option maxRecDepth 100000 in
set_option maxHeartbeats 1000000 in
theorem compactE (g cap : Nat) (l : List Edg) (rest : List Value) (w : World) (hrow : Row w g 71 (l.flatMap encE ++ rest)) (hcap : l.length ≤ cap) (hn : l.length < 1099511627776) :
    Calls Tryz.prog 111 #[.slice (some ⟨g, 0, none⟩) l.length cap] w (fun e w' => e = .returned (.slice (some ⟨g, 0, none⟩) (dda l).length cap) ∧ w.grownBy w' (some g) ∧
      ∃ rest', Row w' g 71 ((dda l).flatMap encE ++ rest') ∧ rest'.length = (l.length - (dda l).length) * 3 + rest.length) := by
  generalize hl : l.length = n at *
  have hl' : Hid (l.length = n) := hl
  clear hl
  by_cases h2 : n < 2
  · have hd : Hid (dda l = l) := by
      match l, hl'.out with
      | [], _ => rfl
      | [x], _ => rfl
      | _ :: _ :: _, h => simp at h; omega
    have h2' : decide ((n : Int) < 2) = true := by simp; omega
    go_enter Tryz.func111, Tryz.ntmps111
    go_wp2_with fail
    go_ret
    exact ⟨ret_slice (by rw [hd.out, hl'.out]), World.grownBy.refl _ _, rest, by rw [hd.out]; exact hrow, by rw [hd.out, hl'.out]; omega⟩
  · go_enter Tryz.func111, Tryz.ntmps111
    go_wp2
    go_loopw [3] (fun i wr => ∃ k : Nat, k + 1 ≤ n ∧ i = .int .i64 ((k : Int) + 1) ∧ Hid (dda (l.take (k + 1)) = l.take (k + 1)) ∧ Row wr g 71 (l.flatMap encE ++ rest) ∧ w.grownBy wr (some g)) (fun i _ => n - (intOf i).toNat)
    case atStart =>
      refine ⟨0, by omega, by go_num, ?_, hrow, World.grownBy.refl _ _⟩
      match l, hl'.out with
      | [], _ => rfl
      | x :: _, _ => rfl
    case round =>
      obtain ⟨k, hk, rfl, hd, hrow', hgr⟩ := hrel
      by_cases hlt : k + 1 < n
      · obtain ⟨⟨f1, l1, t1⟩, hx⟩ : ∃ s, l[k+1]? = some s := ⟨l[k+1]'(by rw [hl'.out]; exact hlt), by simp [hl'.out, hlt]⟩
        obtain ⟨⟨f0, l0, t0⟩, hy⟩ : ∃ s, l[k]? = some s := ⟨l[k]'(by rw [hl'.out]; omega), by simp [hl'.out, show k < n by omega]⟩
        have a1 := (hrow'.cell ((k+1) * 3 + 0)).trans (flat_get encE 3 encE_len l _ _ hx 0 (by omega) rest)
        have a2 := (hrow'.cell ((k+1) * 3 + 1)).trans (flat_get encE 3 encE_len l _ _ hx 1 (by omega) rest)
        have a3 := (hrow'.cell ((k+1) * 3 + 2)).trans (flat_get encE 3 encE_len l _ _ hx 2 (by omega) rest)
        have b1 := (hrow'.cell (k * 3 + 0)).trans (flat_get encE 3 encE_len l _ _ hy 0 (by omega) rest)
        have b2 := (hrow'.cell (k * 3 + 1)).trans (flat_get encE 3 encE_len l _ _ hy 1 (by omega) rest)
        have b3 := (hrow'.cell (k * 3 + 2)).trans (flat_get encE 3 encE_len l _ _ hy 2 (by omega) rest)
        simp only [encE, Nat.add_zero, List.getElem?_cons_zero, List.getElem?_cons_succ] at a1 a2 a3 b1 b2 b3
        have e1 : (0 : Int) ≤ (k : Int) + 1 := by omega
        have e2 : (k : Int) + 1 < (n : Int) := by omega
        have e3 : (0 : Int) ≤ (k : Int) := by omega
        have e4 : (k : Int) < (n : Int) := by omega
        have e5 : IntKind.i64.wrap (k : Int) = (k : Int) := IntWalk.i64_in _ (by omega)
        have e6 : ((k : Int) + 1).toNat = k + 1 := by omega
        have q1 := eqlE f1 l1 t1 f0 l0 t0
        have q2 := fun op x y => guardRunE op x y #[.int .i64 f1, .int .i64 l1, .int .i64 t1] #[.int .i64 f0, .int .i64 l0, .int .i64 t0]
        have hx' : Hid (l[k+1]? = some ⟨f1, l1, t1⟩) := hx
        have hy' : Hid (l[k]? = some ⟨f0, l0, t0⟩) := hy
        clear hx hy
        by_cases heq : f1 = f0 ∧ l1 = l0 ∧ t1 = t0
        · obtain ⟨rfl, rfl, rfl⟩ := heq
          have hci := CI.init hd.out hy'.out hx'.out
          go_wp2_with fail
          go_quiet (fail)
          go_wp2_with fail
          clear a1 a2 a3 b1 b2 b3 q1 q2 e1 e2 e3 e4 e5 e6 hd hx' hy'
          go_loopw [3, 5] (fun i j wi => ∃ (q m : Nat) (D : List Edg), k + 1 + q + 1 ≤ n ∧ i = .int .i64 (m : Int) ∧ j = .int .i64 ((q : Int) + 1) ∧ CI l D (k + 1 + q) m ∧ Row wi g 71 (D.flatMap encE ++ rest) ∧ w.grownBy wi (some g)) (fun _ j _ => n - (intOf j).toNat)
          case atStart => exact ⟨0, k + 1, l, by omega, by go_num, by go_num, hci, hrow', grownBy_drewN hgr _⟩
          case round =>
            obtain ⟨q, m, D, hq, rfl, rfl, hc, hrowi, hgri⟩ := hrel
            clear hrow' hgr
            have hci' : Hid (CI l D (k + 1 + q) m) := hc
            have hmle := hc.le
            have hDl : D.length = n := hc.len.trans hl'.out
            have hDl' : Hid (D.length = n) := hDl
            clear hDl hci
            by_cases hlq : k + 1 + q + 1 < n
            · obtain ⟨⟨f1, l1, t1⟩, hx⟩ : ∃ s, l[k+1+q+1]? = some s := ⟨l[k+1+q+1]'(by rw [hl'.out]; exact hlq), by simp [hl'.out, hlq]⟩
              obtain ⟨⟨f0, l0, t0⟩, hy⟩ : ∃ s, l[k+1+q]? = some s := ⟨l[k+1+q]'(by rw [hl'.out]; omega), by simp [hl'.out, show k + 1 + q < n by omega]⟩
              obtain ⟨⟨f2, l2, t2⟩, hz⟩ : ∃ s, D[m]? = some s := ⟨D[m]'(by rw [hDl'.out]; omega), by simp [hDl'.out, show m < n by omega]⟩
              have hx2 := (hc.get (k+1+q+1) (by omega)).trans hx
              have hy2 := (hc.get (k+1+q) (by omega)).trans hy
              have a1 := (hrowi.cell ((k+1+q+1) * 3 + 0)).trans (flat_get encE 3 encE_len D _ _ hx2 0 (by omega) rest)
              have a2 := (hrowi.cell ((k+1+q+1) * 3 + 1)).trans (flat_get encE 3 encE_len D _ _ hx2 1 (by omega) rest)
              have a3 := (hrowi.cell ((k+1+q+1) * 3 + 2)).trans (flat_get encE 3 encE_len D _ _ hx2 2 (by omega) rest)
              have b1 := (hrowi.cell ((k+1+q) * 3 + 0)).trans (flat_get encE 3 encE_len D _ _ hy2 0 (by omega) rest)
              have b2 := (hrowi.cell ((k+1+q) * 3 + 1)).trans (flat_get encE 3 encE_len D _ _ hy2 1 (by omega) rest)
              have b3 := (hrowi.cell ((k+1+q) * 3 + 2)).trans (flat_get encE 3 encE_len D _ _ hy2 2 (by omega) rest)
              have c1 := (hrowi.cell (m * 3 + 0)).trans (flat_get encE 3 encE_len D _ _ hz 0 (by omega) rest)
              have c2 := (hrowi.cell (m * 3 + 1)).trans (flat_get encE 3 encE_len D _ _ hz 1 (by omega) rest)
              have c3 := (hrowi.cell (m * 3 + 2)).trans (flat_get encE 3 encE_len D _ _ hz 2 (by omega) rest)
              have d1 := hrowi.free (m * 3)
              have d2 := hrowi.free (m * 3 + 1)
              have d3 := hrowi.free (m * 3 + 2)
              simp only [encE, Nat.add_zero, List.getElem?_cons_zero, List.getElem?_cons_succ] at a1 a2 a3 b1 b2 b3 c1 c2 c3
              rw [show (k+1+q+1) * 3 = (k+1) * 3 + (q+1) * 3 by omega] at a1 a2 a3
              rw [show (k+1+q) * 3 = (k+1) * 3 + q * 3 by omega] at b1 b2 b3
              have e1 : (0 : Int) ≤ (q : Int) + 1 := by omega
              have e2 : (q : Int) + 1 < ((n - (k + 1) : Nat) : Int) := by omega
              have e3 : (0 : Int) ≤ (q : Int) := by omega
              have e4 : (q : Int) < ((n - (k + 1) : Nat) : Int) := by omega
              have e5 : IntKind.i64.wrap (q : Int) = (q : Int) := IntWalk.i64_in _ (by omega)
              have e6 : ((q : Int) + 1).toNat = q + 1 := by omega
              have q1 := neqE f1 l1 t1 f0 l0 t0
              have q2 := fun op x y => guardRunE op x y #[.int .i64 f1, .int .i64 l1, .int .i64 t1] #[.int .i64 f0, .int .i64 l0, .int .i64 t0]
              have hx' : Hid (l[k+1+q+1]? = some ⟨f1, l1, t1⟩) := hx
              have hy' : Hid (l[k+1+q]? = some ⟨f0, l0, t0⟩) := hy
              clear hx hy hx2 hy2 hz hc
              by_cases heq : f1 = f0 ∧ l1 = l0 ∧ t1 = t0
              · obtain ⟨rfl, rfl, rfl⟩ := heq
                go_wp2_with fail
                go_quiet (fail)
                go_wp2_with fail
                go_roundw
                case rel => exact ⟨q + 1, m, D, by omega, rfl, by go_num, hci'.out.skip hy'.out hx'.out, hrowi, grownBy_drewN hgri _⟩
                case measure => simp [intOf]; omega
              · have hne : (f1 == f0 && (l1 == l0 && t1 == t0)) = false := by simpa using heq
                go_wp2_with fail
                go_quiet (fail)
                go_wp2_with fail
                go_roundw
                case rel =>
                  refine ⟨q + 1, m + 1, D.set m ⟨f1, l1, t1⟩, by omega, by go_num, by go_num, hci'.out.put hy'.out hx'.out (by intro e; simp at e; exact heq e), ?_, ?_⟩
                  · have := ((hrowi.set (m * 3) (.int .i64 f1)).set (m * 3 + 1) (.int .i64 l1)).set (m * 3 + 2) (.int .i64 t1)
                    rw [← flat_set encE 3 encE_len D m ⟨f1, l1, t1⟩ (by rw [hDl'.out]; omega) rest]
                    exact this
                  · exact grownBy_set (grownBy_set (grownBy_set (grownBy_drewN hgri _) _ _) _ _) _ _
                case measure => simp [intOf]; omega
            · have hlast : n = k + 1 + q + 1 := by omega
              have hln := flat_len encE 3 encE_len D
              rw [hDl'.out] at hln
              have hmn : m < n := by omega
              have hfin : Hid (D.take m = dda l ∧ m = (dda l).length) := hc.fin (by rw [hl'.out]; exact hlast.symm)
              have hfl : Hid ((D.flatMap encE ++ rest).length = n * 3 + rest.length) := by rw [Hid, List.length_append, hln]
              clear hlast hln hc
              go_wp2_with (with_reducible refine clr22 rfl rfl _ rfl g (m * 3) (n - m) (cap - m) _ _ rfl hrowi (by omega) (by rw [hfl.out]; omega) ?_)
              intro w1 zs hzs hrow1 hgr1
              go_wp2_with fail
              go_ret
              refine ⟨ret_slice hfin.out.2, grownBy_trans hgri hgr1, zs ++ rest, ?_, ?_⟩
              · rw [← hfin.out.1, flat_take encE 3 encE_len]
                have hf := hfl.out
                rw [List.length_append] at hf
                rw [List.take_append_of_le_length (by omega), show m * 3 + (n - m) * 3 = (D.flatMap encE).length by omega, List.drop_left] at hrow1
                exact hrow1
              · rw [← hfin.out.2, List.length_append, hzs]
        · have hne : (f1 == f0 && (l1 == l0 && t1 == t0)) = false := by simpa using heq
          go_wp2_with fail
          go_quiet (fail)
          go_wp2_with fail
          go_roundw
          case rel => exact ⟨k + 1, by omega, by go_num, dda_take_step hd.out hy'.out hx'.out (by intro e; simp at e; exact heq e), hrow', grownBy_drewN hgr _⟩
          case measure => simp [intOf]; omega
      · have hd' : Hid (dda l = l) := by
          have := hd.out
          rwa [List.take_of_length_le (by rw [hl'.out]; omega)] at this
        go_wp2_with fail
        go_ret
        exact ⟨ret_slice (by rw [hd'.out, hl'.out]), hgr, rest, by rw [hd'.out]; exact hrow', by rw [hd'.out, hl'.out]; omega⟩
end Go.Proofs.YtkknklagoghljaaGreatDoor
