/- Are all lists marked? -/
import Derived.Test.YtkknklagoghljaaGreatDoorBook5
import Derived.Test.YtkknklagoghljaaGreatDoorBook2
namespace Go.Proofs.YtkknklagoghljaaGreatDoor
open Go.RowKit
set_option maxRecDepth 100000 in
set_option maxHeartbeats 2000000 in
theorem markedLI (w : World) (ad : Option Addr) (cap : Nat) (us : List Value) (hr : Reads w (.slice ad us.length cap) us.length 1 us) (hu : ∀ (a : Nat) (u : Value), us[a]? = some u → ∃ n, Reads w u n 1 ((marksI a 0 n).flatMap encI) ∧ n < 200000000) (hl : us.length ≤ 400) :
    Calls Tryz.prog 88 #[.slice ad us.length cap] w (fun e w' => e = .returned (.bool true) ∧ Below w.heap.size w w') := by
  obtain ⟨m, hm⟩ : ∃ m, m = us.length := ⟨_, rfl⟩
  have hm' : Hid (m = us.length) := hm
  obtain ⟨-, ad0, cp0, hh0, hc0⟩ := hr
  cases hh0
  rw [← hm] at hc0 hl ⊢
  clear hm
  go_enter Tryz.func88, Tryz.ntmps88
  go_wp2_with fail
  go_loopw [3] (fun i wr => ∃ k : Nat, k ≤ m ∧ i = .int .i64 k ∧ Below w.heap.size w wr) (fun i _ => m - (intOf i).toNat)
  case atStart => exact ⟨0, by omega, rfl, Below.refl _ _⟩
  case round =>
    obtain ⟨k, hk, rfl, hbl⟩ := hrel
    have hsz := hbl.size
    by_cases hlt : k < m
    · obtain ⟨b0, o0, rfl, hr0⟩ := hc0 (by omega)
      obtain ⟨u, hx⟩ : ∃ u, us[k]? = some u := ⟨us[k]'(by have := hm'.out; omega), by have := hm'.out; simp [show k < us.length by omega]⟩
      obtain ⟨n, hru, hn⟩ := hu k u hx
      have j0 := (hr0.ext hbl) k u hx
      have lb : b0 < wr.heap.size := World.block_lt_of_cell? _ _ j0
      obtain ⟨adu, cu, rfl⟩ : ∃ adu cu, u = .slice adu n cu := by obtain ⟨_, a, c, h, _⟩ := hru; exact ⟨a, c, h⟩
      have hru' := Lib.hid (hru.ext hbl)
      have hmk := Lib.hid (fun w' => mark0I k n w' (by omega) (by omega))
      have hk2 : (k : Int) < (m : Int) := by omega
      clear hx hru hr0 hc0
      go_wp2_with fail
      go_cut [22] (fun v wx => v = .bool false ∧ Below w.heap.size w wx)
      case first =>
        go_region_with (first | (go_at_call 120; refine (hmk.out _).mono ?_; rintro e w1 ⟨vm, rfl, hb1, hom⟩; obtain ⟨adm, cm, rfl⟩ := hom.form; have hb1' : Below wr.heap.size wr w1 := ((Below.refl wr.heap.size wr).drew).trans hb1; have j1 := (World.cell?_of_block (a := ⟨b0, o0 + k, none⟩) (hb1'.block b0 lb)).trans j0; have lb1 : b0 < w1.heap.size := Nat.lt_of_lt_of_le lb hb1'.size) | (go_at_call 32; refine (sameI (marksI k 0 n) (marksI k 0 n) _ _ _ (by rw [marksI_len]; exact hru'.out.ext hb1') (by rw [marksI_len]; exact hom.reads) (by rw [marksI_len]; omega)).mono ?_; rintro e w2 ⟨he, m2, rfl⟩; rw [decide_eq_true rfl] at he; subst he))
        all_goals
          go_wp2_with fail
          go_meet
          exact ⟨rfl, below_drewN (hbl.trans (hb1'.mono hsz)) _⟩
      case rest =>
        obtain ⟨rfl, hb2⟩ := hcut
        go_wp2_with fail
        go_roundw
        case rel => exact ⟨k + 1, by omega, by go_num, hb2⟩
        case measure => simp [intOf]; omega
    · have hkm : k = m := by omega
      subst hkm
      go_wp2_with fail
      go_ret
      exact ⟨rfl, hbl⟩
set_option maxRecDepth 100000 in
set_option maxHeartbeats 2000000 in
theorem markedLS (w : World) (ad : Option Addr) (cap : Nat) (us : List Value) (hr : Reads w (.slice ad us.length cap) us.length 1 us) (hu : ∀ (a : Nat) (u : Value), us[a]? = some u → ∃ n, Reads w u n 2 ((marksS a 0 n).flatMap encS) ∧ n < 200000000) (hl : us.length ≤ 400) :
    Calls Tryz.prog 92 #[.slice ad us.length cap] w (fun e w' => e = .returned (.bool true) ∧ Below w.heap.size w w') := by
  obtain ⟨m, hm⟩ : ∃ m, m = us.length := ⟨_, rfl⟩
  have hm' : Hid (m = us.length) := hm
  obtain ⟨-, ad0, cp0, hh0, hc0⟩ := hr
  cases hh0
  rw [← hm] at hc0 hl ⊢
  clear hm
  go_enter Tryz.func92, Tryz.ntmps92
  go_wp2_with fail
  go_loopw [3] (fun i wr => ∃ k : Nat, k ≤ m ∧ i = .int .i64 k ∧ Below w.heap.size w wr) (fun i _ => m - (intOf i).toNat)
  case atStart => exact ⟨0, by omega, rfl, Below.refl _ _⟩
  case round =>
    obtain ⟨k, hk, rfl, hbl⟩ := hrel
    have hsz := hbl.size
    by_cases hlt : k < m
    · obtain ⟨b0, o0, rfl, hr0⟩ := hc0 (by omega)
      obtain ⟨u, hx⟩ : ∃ u, us[k]? = some u := ⟨us[k]'(by have := hm'.out; omega), by have := hm'.out; simp [show k < us.length by omega]⟩
      obtain ⟨n, hru, hn⟩ := hu k u hx
      have j0 := (hr0.ext hbl) k u hx
      have lb : b0 < wr.heap.size := World.block_lt_of_cell? _ _ j0
      obtain ⟨adu, cu, rfl⟩ : ∃ adu cu, u = .slice adu n cu := by obtain ⟨_, a, c, h, _⟩ := hru; exact ⟨a, c, h⟩
      have hru' := Lib.hid (hru.ext hbl)
      have hmk := Lib.hid (fun w' => mark0S k n w' (by omega) (by omega))
      have hk2 : (k : Int) < (m : Int) := by omega
      clear hx hru hr0 hc0
      go_wp2_with fail
      go_cut [22] (fun v wx => v = .bool false ∧ Below w.heap.size w wx)
      case first =>
        go_region_with (first | (go_at_call 124; refine (hmk.out _).mono ?_; rintro e w1 ⟨vm, rfl, hb1, hom⟩; obtain ⟨adm, cm, rfl⟩ := hom.form; have hb1' : Below wr.heap.size wr w1 := ((Below.refl wr.heap.size wr).drew).trans hb1; have j1 := (World.cell?_of_block (a := ⟨b0, o0 + k, none⟩) (hb1'.block b0 lb)).trans j0; have lb1 : b0 < w1.heap.size := Nat.lt_of_lt_of_le lb hb1'.size) | (go_at_call 21; refine (sameS (marksS k 0 n) (marksS k 0 n) _ _ _ (by rw [marksS_len]; exact hru'.out.ext hb1') (by rw [marksS_len]; exact hom.reads) (by rw [marksS_len]; omega)).mono ?_; rintro e w2 ⟨he, m2, rfl⟩; rw [decide_eq_true rfl] at he; subst he))
        all_goals
          go_wp2_with fail
          go_meet
          exact ⟨rfl, below_drewN (hbl.trans (hb1'.mono hsz)) _⟩
      case rest =>
        obtain ⟨rfl, hb2⟩ := hcut
        go_wp2_with fail
        go_roundw
        case rel => exact ⟨k + 1, by omega, by go_num, hb2⟩
        case measure => simp [intOf]; omega
    · have hkm : k = m := by omega
      subst hkm
      go_wp2_with fail
      go_ret
      exact ⟨rfl, hbl⟩
set_option maxRecDepth 100000 in
set_option maxHeartbeats 2000000 in
theorem markedLE (w : World) (ad : Option Addr) (cap : Nat) (us : List Value) (hr : Reads w (.slice ad us.length cap) us.length 1 us) (hu : ∀ (a : Nat) (u : Value), us[a]? = some u → ∃ n, Reads w u n 3 ((marksE a 0 n).flatMap encE) ∧ n < 200000000) (hl : us.length ≤ 400) :
    Calls Tryz.prog 93 #[.slice ad us.length cap] w (fun e w' => e = .returned (.bool true) ∧ Below w.heap.size w w') := by
  obtain ⟨m, hm⟩ : ∃ m, m = us.length := ⟨_, rfl⟩
  have hm' : Hid (m = us.length) := hm
  obtain ⟨-, ad0, cp0, hh0, hc0⟩ := hr
  cases hh0
  rw [← hm] at hc0 hl ⊢
  clear hm
  go_enter Tryz.func93, Tryz.ntmps93
  go_wp2_with fail
  go_loopw [3] (fun i wr => ∃ k : Nat, k ≤ m ∧ i = .int .i64 k ∧ Below w.heap.size w wr) (fun i _ => m - (intOf i).toNat)
  case atStart => exact ⟨0, by omega, rfl, Below.refl _ _⟩
  case round =>
    obtain ⟨k, hk, rfl, hbl⟩ := hrel
    have hsz := hbl.size
    by_cases hlt : k < m
    · obtain ⟨b0, o0, rfl, hr0⟩ := hc0 (by omega)
      obtain ⟨u, hx⟩ : ∃ u, us[k]? = some u := ⟨us[k]'(by have := hm'.out; omega), by have := hm'.out; simp [show k < us.length by omega]⟩
      obtain ⟨n, hru, hn⟩ := hu k u hx
      have j0 := (hr0.ext hbl) k u hx
      have lb : b0 < wr.heap.size := World.block_lt_of_cell? _ _ j0
      obtain ⟨adu, cu, rfl⟩ : ∃ adu cu, u = .slice adu n cu := by obtain ⟨_, a, c, h, _⟩ := hru; exact ⟨a, c, h⟩
      have hru' := Lib.hid (hru.ext hbl)
      have hmk := Lib.hid (fun w' => mark0E k n w' (by omega) (by omega))
      have hk2 : (k : Int) < (m : Int) := by omega
      clear hx hru hr0 hc0
      go_wp2_with fail
      go_cut [22] (fun v wx => v = .bool false ∧ Below w.heap.size w wx)
      case first =>
        go_region_with (first | (go_at_call 125; refine (hmk.out _).mono ?_; rintro e w1 ⟨vm, rfl, hb1, hom⟩; obtain ⟨adm, cm, rfl⟩ := hom.form; have hb1' : Below wr.heap.size wr w1 := ((Below.refl wr.heap.size wr).drew).trans hb1; have j1 := (World.cell?_of_block (a := ⟨b0, o0 + k, none⟩) (hb1'.block b0 lb)).trans j0; have lb1 : b0 < w1.heap.size := Nat.lt_of_lt_of_le lb hb1'.size) | (go_at_call 22; refine (sameE (marksE k 0 n) (marksE k 0 n) _ _ _ (by rw [marksE_len]; exact hru'.out.ext hb1') (by rw [marksE_len]; exact hom.reads) (by rw [marksE_len]; omega)).mono ?_; rintro e w2 ⟨he, m2, rfl⟩; rw [decide_eq_true rfl] at he; subst he))
        all_goals
          go_wp2_with fail
          go_meet
          exact ⟨rfl, below_drewN (hbl.trans (hb1'.mono hsz)) _⟩
      case rest =>
        obtain ⟨rfl, hb2⟩ := hcut
        go_wp2_with fail
        go_roundw
        case rel => exact ⟨k + 1, by omega, by go_num, hb2⟩
        case measure => simp [intOf]; omega
    · have hkm : k = m := by omega
      subst hkm
      go_wp2_with fail
      go_ret
      exact ⟨rfl, hbl⟩
end Go.Proofs.YtkknklagoghljaaGreatDoor
