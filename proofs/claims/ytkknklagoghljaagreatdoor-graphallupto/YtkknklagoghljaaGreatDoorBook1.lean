/- The book's small functions: are two lists alike; the marks. -/
import Derived.Test.YtkknklagoghljaaGreatDoorBase2
import Derived.Test.YtkknklagoghljaaGreatDoorSys5
import Derived.WalkSmall
namespace Go.Proofs.YtkknklagoghljaaGreatDoor
open Go.RowKit
def encI (x : Int) : List Value := [.int .i64 x]
theorem encI_len (x : Int) : (encI x).length = 1 := rfl
theorem encI_flat (l : List Int) : l.flatMap encI = l.map (Value.int .i64) := by
  induction l with
  | nil => rfl
  | cons a l ih => rw [List.flatMap_cons, ih]; rfl
theorem CellsAt.drewN {w : World} {b o : Nat} {cs : List Value} (h : CellsAt w b o cs) (m : Nat) : CellsAt (w.drewN m) b o cs := h
theorem Reads.drewN {w : World} {v : Value} {n k : Nat} {cs : List Value} (h : Reads w v n k cs) (m : Nat) : Reads (w.drewN m) v n k cs := h
theorem CellsAt.i1 {w : World} {b o : Nat} {l : List Int} (h : CellsAt w b o (l.flatMap encI)) {k : Nat} {x1 : Int} (hx : l[k]? = some x1) : w.cell? ⟨b, o + k, none⟩ = some (.int .i64 x1) ∧ True := by
  have := h (k * 1 + 0) (.int .i64 x1) (by simpa [encI] using flat_get encI 1 encI_len l k _ hx 0 (by decide) [])
  exact ⟨by simpa using this, trivial⟩
theorem CellsAt.s1 {w : World} {b o : Nat} {l : List Stp} (h : CellsAt w b o (l.flatMap encS)) {k : Nat} {l1 t1 : Int} (hx : l[k]? = some ⟨l1, t1⟩) : w.cell? ⟨b, o + k * 2, none⟩ = some (.int .i64 l1) ∧ w.cell? ⟨b, o + k * 2 + 1, none⟩ = some (.int .i64 t1) := by
  have h1 := h (k * 2 + 0) (.int .i64 l1) (by simpa [encS] using flat_get encS 2 encS_len l k _ hx 0 (by decide) [])
  have h2 := h (k * 2 + 1) (.int .i64 t1) (by simpa [encS] using flat_get encS 2 encS_len l k _ hx 1 (by decide) [])
  exact ⟨by simpa using h1, by simpa [Nat.add_assoc] using h2⟩
theorem CellsAt.e1 {w : World} {b o : Nat} {l : List Edg} (h : CellsAt w b o (l.flatMap encE)) {k : Nat} {f1 l1 t1 : Int} (hx : l[k]? = some ⟨f1, l1, t1⟩) : w.cell? ⟨b, o + k * 3, none⟩ = some (.int .i64 f1) ∧ w.cell? ⟨b, o + k * 3 + 1, none⟩ = some (.int .i64 l1) ∧ w.cell? ⟨b, o + k * 3 + 2, none⟩ = some (.int .i64 t1) := by
  have h1 := h (k * 3 + 0) (.int .i64 f1) (by simpa [encE] using flat_get encE 3 encE_len l k _ hx 0 (by decide) [])
  have h2 := h (k * 3 + 1) (.int .i64 l1) (by simpa [encE] using flat_get encE 3 encE_len l k _ hx 1 (by decide) [])
  have h3 := h (k * 3 + 2) (.int .i64 t1) (by simpa [encE] using flat_get encE 3 encE_len l k _ hx 2 (by decide) [])
  exact ⟨by simpa using h1, by simpa [Nat.add_assoc] using h2, by simpa [Nat.add_assoc] using h3⟩
theorem take_ne {α : Type} {l1 l2 : List α} {k : Nat} {x y : α} (h1 : l1[k]? = some x) (h2 : l2[k]? = some y) (h : x ≠ y) : l1 ≠ l2 := by
  rintro rfl; rw [h1] at h2; exact h (Option.some.inj h2)
theorem take_eq {α : Type} {l1 l2 : List α} {k : Nat} {x : α} (h1 : l1[k]? = some x) (h2 : l2[k]? = some x) (h : l1.take k = l2.take k) : l1.take (k + 1) = l2.take (k + 1) := by
  rw [List.take_add_one, List.take_add_one, h1, h2, h]
theorem eqlS_t (a b : Int) (w : World) : (binOp .eql 85 (.agg #[.int .i64 a, .int .i64 b]) (.agg #[.int .i64 a, .int .i64 b])).run Tryz.prog w = .ok (.bool true) w := by rw [eqlS]; simp
theorem eqlS_f (a b c d : Int) (h : ¬ (a = c ∧ b = d)) (w : World) : (binOp .eql 85 (.agg #[.int .i64 a, .int .i64 b]) (.agg #[.int .i64 c, .int .i64 d])).run Tryz.prog w = .ok (.bool false) w := by
  rw [eqlS, show (a == c && b == d) = false by simp only [Bool.and_eq_false_iff, beq_eq_false_iff_ne]; by_cases a = c <;> simp_all]
theorem eqlE_t (a b c : Int) (w : World) : (binOp .eql 71 (.agg #[.int .i64 a, .int .i64 b, .int .i64 c]) (.agg #[.int .i64 a, .int .i64 b, .int .i64 c])).run Tryz.prog w = .ok (.bool true) w := by rw [eqlE]; simp
theorem eqlE_f (a b c d e f : Int) (h : ¬ (a = d ∧ b = e ∧ c = f)) (w : World) : (binOp .eql 71 (.agg #[.int .i64 a, .int .i64 b, .int .i64 c]) (.agg #[.int .i64 d, .int .i64 e, .int .i64 f])).run Tryz.prog w = .ok (.bool false) w := by
  rw [eqlE, show (a == d && (b == e && c == f)) = false by simp only [Bool.and_eq_false_iff, beq_eq_false_iff_ne]; by_cases a = d <;> by_cases b = e <;> simp_all]
set_option maxRecDepth 100000 in
set_option maxHeartbeats 1000000 in
theorem sameI (L1 L2 : List Int) (v1 v2 : Value) (w : World) (h1 : Reads w v1 L1.length 1 (L1.flatMap encI)) (h2 : Reads w v2 L2.length 1 (L2.flatMap encI)) (hs : L1.length < 1099511627776) :
    Calls Tryz.prog 32 #[v1, v2] w (fun e w' => e = .returned (.bool (decide (L1 = L2))) ∧ ∃ m, w' = w.drewN m) := by
  obtain ⟨_, ad1, c1, rfl, hc1⟩ := h1
  obtain ⟨_, ad2, c2, rfl, hc2⟩ := h2
  obtain ⟨n, hn⟩ : ∃ n, n = L1.length := ⟨_, rfl⟩
  obtain ⟨n2, hn2⟩ : ∃ n2, n2 = L2.length := ⟨_, rfl⟩
  rw [← hn] at hc1 hs ⊢
  rw [← hn2] at hc2 ⊢
  have hn' : Hid (n = L1.length) := hn
  have hn2' : Hid (n2 = L2.length) := hn2
  clear hn hn2
  by_cases hne : n = n2
  · subst hne
    go_enter Tryz.func32, Tryz.ntmps32
    go_wp2_with fail
    go_loopw [5] (fun i wr => ∃ k m : Nat, k ≤ n ∧ i = .int .i64 k ∧ wr = w.drewN m ∧ Hid (L1.take k = L2.take k)) (fun i _ => n - (intOf i).toNat)
    case atStart => exact ⟨0, 0, by omega, rfl, rfl, rfl⟩
    case round =>
      obtain ⟨k, m, hk, rfl, rfl, ht⟩ := hrel
      by_cases hlt : k < n
      · obtain ⟨b1, o1, rfl, hr1⟩ := hc1 (by omega)
        obtain ⟨b2, o2, rfl, hr2⟩ := hc2 (by omega)
        obtain ⟨x1, hx⟩ : ∃ s, L1[k]? = some s := ⟨L1[k]'(by have := hn'.out; omega), by have := hn'.out; simp [show k < L1.length by omega]⟩
        obtain ⟨y1, hy⟩ : ∃ s, L2[k]? = some s := ⟨L2[k]'(by have := hn2'.out; omega), by have := hn2'.out; simp [show k < L2.length by omega]⟩
        obtain ⟨ca1, _⟩ := hr1.i1 hx
        obtain ⟨cb1, _⟩ := hr2.i1 hy
        have hx' : Hid (L1[k]? = some x1) := hx
        have hy' : Hid (L2[k]? = some y1) := hy
        clear hx hy hr1 hr2 hc1 hc2
        by_cases heq : x1 = y1
        · obtain rfl := heq
          have q1 := trivial
          have q2 := trivial
          have hnew : Hid (L1.take (k + 1) = L2.take (k + 1)) := take_eq hx'.out hy'.out ht.out
          go_wp2_with fail
          go_quiet (fail)
          go_wp2_with fail
          go_roundw
          case rel => exact ⟨k + 1, _, by omega, by go_num, rfl, hnew⟩
          case measure => simp [intOf]; omega
        · have q1 := (by simpa using heq : (x1 == y1) = false)
          have q2 := trivial
          have hnew : Hid (false = decide (L1 = L2)) := (decide_eq_false (take_ne hx'.out hy'.out (by simpa using heq))).symm
          go_wp2_with fail
          go_quiet (fail)
          go_wp2_with fail
          go_ret
          exact ⟨ret_bool hnew.out, _, World.drewN_drewN _ _ _⟩
      · have hkn : k = n := by omega
        subst hkn
        have hnew : Hid (true = decide (L1 = L2)) := by
          have h1 := ht.out
          rw [List.take_of_length_le (by have := hn'.out; omega), List.take_of_length_le (by have := hn2'.out; omega)] at h1
          exact (decide_eq_true h1).symm
        go_wp2_with fail
        go_ret
        exact ⟨ret_bool hnew.out, _, rfl⟩
  · have hnew : Hid (false = decide (L1 = L2)) := (decide_eq_false (fun h => hne (by rw [hn'.out, hn2'.out, h]))).symm
    go_enter Tryz.func32, Tryz.ntmps32
    go_wp2_with fail
    go_ret
    exact ⟨ret_bool hnew.out, 0, rfl⟩
set_option maxRecDepth 100000 in
set_option maxHeartbeats 1000000 in
theorem sameS (L1 L2 : List Stp) (v1 v2 : Value) (w : World) (h1 : Reads w v1 L1.length 2 (L1.flatMap encS)) (h2 : Reads w v2 L2.length 2 (L2.flatMap encS)) (hs : L1.length < 1099511627776) :
    Calls Tryz.prog 21 #[v1, v2] w (fun e w' => e = .returned (.bool (decide (L1 = L2))) ∧ ∃ m, w' = w.drewN m) := by
  obtain ⟨_, ad1, c1, rfl, hc1⟩ := h1
  obtain ⟨_, ad2, c2, rfl, hc2⟩ := h2
  obtain ⟨n, hn⟩ : ∃ n, n = L1.length := ⟨_, rfl⟩
  obtain ⟨n2, hn2⟩ : ∃ n2, n2 = L2.length := ⟨_, rfl⟩
  rw [← hn] at hc1 hs ⊢
  rw [← hn2] at hc2 ⊢
  have hn' : Hid (n = L1.length) := hn
  have hn2' : Hid (n2 = L2.length) := hn2
  clear hn hn2
  by_cases hne : n = n2
  · subst hne
    go_enter Tryz.func21, Tryz.ntmps21
    go_wp2_with fail
    go_loopw [5] (fun i wr => ∃ k m : Nat, k ≤ n ∧ i = .int .i64 k ∧ wr = w.drewN m ∧ Hid (L1.take k = L2.take k)) (fun i _ => n - (intOf i).toNat)
    case atStart => exact ⟨0, 0, by omega, rfl, rfl, rfl⟩
    case round =>
      obtain ⟨k, m, hk, rfl, rfl, ht⟩ := hrel
      by_cases hlt : k < n
      · obtain ⟨b1, o1, rfl, hr1⟩ := hc1 (by omega)
        obtain ⟨b2, o2, rfl, hr2⟩ := hc2 (by omega)
        obtain ⟨⟨l1, t1⟩, hx⟩ : ∃ s, L1[k]? = some s := ⟨L1[k]'(by have := hn'.out; omega), by have := hn'.out; simp [show k < L1.length by omega]⟩
        obtain ⟨⟨l2, t2⟩, hy⟩ : ∃ s, L2[k]? = some s := ⟨L2[k]'(by have := hn2'.out; omega), by have := hn2'.out; simp [show k < L2.length by omega]⟩
        obtain ⟨ca1, ca2⟩ := hr1.s1 hx
        obtain ⟨cb1, cb2⟩ := hr2.s1 hy
        have hx' : Hid (L1[k]? = some ⟨l1, t1⟩) := hx
        have hy' : Hid (L2[k]? = some ⟨l2, t2⟩) := hy
        clear hx hy hr1 hr2 hc1 hc2
        by_cases heq : l1 = l2 ∧ t1 = t2
        · obtain ⟨rfl, rfl⟩ := heq
          have q1 := eqlS_t l1 t1
          have q2 := fun op x y => guardRunS op x y #[.int .i64 l1, .int .i64 t1] #[.int .i64 l1, .int .i64 t1]
          have hnew : Hid (L1.take (k + 1) = L2.take (k + 1)) := take_eq hx'.out hy'.out ht.out
          go_wp2_with fail
          go_quiet (fail)
          go_wp2_with fail
          go_roundw
          case rel => exact ⟨k + 1, _, by omega, by go_num, rfl, hnew⟩
          case measure => simp [intOf]; omega
        · have q1 := eqlS_f l1 t1 l2 t2 heq
          have q2 := fun op x y => guardRunS op x y #[.int .i64 l1, .int .i64 t1] #[.int .i64 l2, .int .i64 t2]
          have hnew : Hid (false = decide (L1 = L2)) := (decide_eq_false (take_ne hx'.out hy'.out (by simpa using heq))).symm
          go_wp2_with fail
          go_quiet (fail)
          go_wp2_with fail
          go_ret
          exact ⟨ret_bool hnew.out, _, World.drewN_drewN _ _ _⟩
      · have hkn : k = n := by omega
        subst hkn
        have hnew : Hid (true = decide (L1 = L2)) := by
          have h1 := ht.out
          rw [List.take_of_length_le (by have := hn'.out; omega), List.take_of_length_le (by have := hn2'.out; omega)] at h1
          exact (decide_eq_true h1).symm
        go_wp2_with fail
        go_ret
        exact ⟨ret_bool hnew.out, _, rfl⟩
  · have hnew : Hid (false = decide (L1 = L2)) := (decide_eq_false (fun h => hne (by rw [hn'.out, hn2'.out, h]))).symm
    go_enter Tryz.func21, Tryz.ntmps21
    go_wp2_with fail
    go_ret
    exact ⟨ret_bool hnew.out, 0, rfl⟩
set_option maxRecDepth 100000 in
set_option maxHeartbeats 1000000 in
theorem sameE (L1 L2 : List Edg) (v1 v2 : Value) (w : World) (h1 : Reads w v1 L1.length 3 (L1.flatMap encE)) (h2 : Reads w v2 L2.length 3 (L2.flatMap encE)) (hs : L1.length < 1099511627776) :
    Calls Tryz.prog 22 #[v1, v2] w (fun e w' => e = .returned (.bool (decide (L1 = L2))) ∧ ∃ m, w' = w.drewN m) := by
  obtain ⟨_, ad1, c1, rfl, hc1⟩ := h1
  obtain ⟨_, ad2, c2, rfl, hc2⟩ := h2
  obtain ⟨n, hn⟩ : ∃ n, n = L1.length := ⟨_, rfl⟩
  obtain ⟨n2, hn2⟩ : ∃ n2, n2 = L2.length := ⟨_, rfl⟩
  rw [← hn] at hc1 hs ⊢
  rw [← hn2] at hc2 ⊢
  have hn' : Hid (n = L1.length) := hn
  have hn2' : Hid (n2 = L2.length) := hn2
  clear hn hn2
  by_cases hne : n = n2
  · subst hne
    go_enter Tryz.func22, Tryz.ntmps22
    go_wp2_with fail
    go_loopw [5] (fun i wr => ∃ k m : Nat, k ≤ n ∧ i = .int .i64 k ∧ wr = w.drewN m ∧ Hid (L1.take k = L2.take k)) (fun i _ => n - (intOf i).toNat)
    case atStart => exact ⟨0, 0, by omega, rfl, rfl, rfl⟩
    case round =>
      obtain ⟨k, m, hk, rfl, rfl, ht⟩ := hrel
      by_cases hlt : k < n
      · obtain ⟨b1, o1, rfl, hr1⟩ := hc1 (by omega)
        obtain ⟨b2, o2, rfl, hr2⟩ := hc2 (by omega)
        obtain ⟨⟨f1, l1, t1⟩, hx⟩ : ∃ s, L1[k]? = some s := ⟨L1[k]'(by have := hn'.out; omega), by have := hn'.out; simp [show k < L1.length by omega]⟩
        obtain ⟨⟨f2, l2, t2⟩, hy⟩ : ∃ s, L2[k]? = some s := ⟨L2[k]'(by have := hn2'.out; omega), by have := hn2'.out; simp [show k < L2.length by omega]⟩
        obtain ⟨ca1, ca2, ca3⟩ := hr1.e1 hx
        obtain ⟨cb1, cb2, cb3⟩ := hr2.e1 hy
        have hx' : Hid (L1[k]? = some ⟨f1, l1, t1⟩) := hx
        have hy' : Hid (L2[k]? = some ⟨f2, l2, t2⟩) := hy
        clear hx hy hr1 hr2 hc1 hc2
        by_cases heq : f1 = f2 ∧ l1 = l2 ∧ t1 = t2
        · obtain ⟨rfl, rfl, rfl⟩ := heq
          have q1 := eqlE_t f1 l1 t1
          have q2 := fun op x y => guardRunE op x y #[.int .i64 f1, .int .i64 l1, .int .i64 t1] #[.int .i64 f1, .int .i64 l1, .int .i64 t1]
          have hnew : Hid (L1.take (k + 1) = L2.take (k + 1)) := take_eq hx'.out hy'.out ht.out
          go_wp2_with fail
          go_quiet (fail)
          go_wp2_with fail
          go_roundw
          case rel => exact ⟨k + 1, _, by omega, by go_num, rfl, hnew⟩
          case measure => simp [intOf]; omega
        · have q1 := eqlE_f f1 l1 t1 f2 l2 t2 heq
          have q2 := fun op x y => guardRunE op x y #[.int .i64 f1, .int .i64 l1, .int .i64 t1] #[.int .i64 f2, .int .i64 l2, .int .i64 t2]
          have hnew : Hid (false = decide (L1 = L2)) := (decide_eq_false (take_ne hx'.out hy'.out (by simpa using heq))).symm
          go_wp2_with fail
          go_quiet (fail)
          go_wp2_with fail
          go_ret
          exact ⟨ret_bool hnew.out, _, World.drewN_drewN _ _ _⟩
      · have hkn : k = n := by omega
        subst hkn
        have hnew : Hid (true = decide (L1 = L2)) := by
          have h1 := ht.out
          rw [List.take_of_length_le (by have := hn'.out; omega), List.take_of_length_le (by have := hn2'.out; omega)] at h1
          exact (decide_eq_true h1).symm
        go_wp2_with fail
        go_ret
        exact ⟨ret_bool hnew.out, _, rfl⟩
  · have hnew : Hid (false = decide (L1 = L2)) := (decide_eq_false (fun h => hne (by rw [hn'.out, hn2'.out, h]))).symm
    go_enter Tryz.func22, Tryz.ntmps22
    go_wp2_with fail
    go_ret
    exact ⟨ret_bool hnew.out, 0, rfl⟩
end Go.Proofs.YtkknklagoghljaaGreatDoor
