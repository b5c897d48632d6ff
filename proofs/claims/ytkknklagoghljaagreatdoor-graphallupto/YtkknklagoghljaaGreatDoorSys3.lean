/- fault.New, system.Check. -/
import Derived.Test.YtkknklagoghljaaGreatDoorSys2
namespace Go.Proofs.YtkknklagoghljaaGreatDoor
open Go.RowKit
/-- v is a new fault: its layer, its place, what it wraps. -/
def FaultAt (w : World) (B : Nat) (v : Value) (layer : ByteArray) (line col : Int) (inner : Value) : Prop :=
  ∃ g, v = .iface 121 (.pointer (some ⟨g, 0, none⟩)) ∧ B ≤ g ∧ Row w g 124 [.string layer, .int .i64 line, .int .i64 col, inner]
theorem FaultAt.ext {w w' : World} {B : Nat} {v : Value} {layer : ByteArray} {line col : Int} {inner : Value} (h : FaultAt w B v layer line col inner) (hb : Below w.heap.size w w') : FaultAt w' B v layer line col inner := by
  obtain ⟨g, rfl, hg, hr⟩ := h
  exact ⟨g, rfl, hg, hr.ext hb⟩
set_option maxRecDepth 100000 in
theorem faultNew_any (layer : ByteArray) (t0 : TypeId) (x0 : Value) (w : World) :
    Calls Tryz.prog 108 #[.string layer, .iface t0 x0] w (fun e w' => ∃ v, e = .returned v ∧ Below w.heap.size w w' ∧ FaultAt w' w.heap.size v layer 0 0 (.iface t0 x0)) := by
  go_enter Tryz.func108, Tryz.ntmps108
  go_wp2
  go_ret
  exact ⟨_, rfl, (by repeat (first | exact Below.refl _ _ | (refine Below.alloc ?_ (by simp <;> omega) _) | (refine Below.drew ?_) | (refine Below.setCell ?_ (by simp <;> omega) _))), _, rfl, Nat.le_refl _, Row.newA w #[.string layer, .int .i64 0, .int .i64 0, .iface t0 x0] _⟩
/-- what Check answers -/
def sSystem : ByteArray := ⟨#[115, 121, 115, 116, 101, 109]⟩
def ErrPost (S : Sys) (ev : Value) (w : World) (e : Ending) (w' : World) : Prop :=
  Below w.heap.size w w' ∧ ((rightB S = true ∧ e = .returned .nilIface) ∨ (rightB S = false ∧ ∃ v, e = .returned v ∧ FaultAt w' w.heap.size v sSystem 0 0 ev))
theorem errPost_bad {S : Sys} {ev : Value} {w w' : World} {v : Value} (hb : Below w.heap.size w w') (hr : rightB S = false) (hf : FaultAt w' w.heap.size v sSystem 0 0 ev) : ErrPost S ev w (.returned v) w' :=
  ⟨hb, .inr ⟨hr, v, rfl, hf⟩⟩
theorem FaultAt.mono {w : World} {B B' : Nat} {v : Value} {layer : ByteArray} {line col : Int} {inner : Value} (h : FaultAt w B v layer line col inner) (hb : B' ≤ B) : FaultAt w B' v layer line col inner := by
  obtain ⟨g, rfl, hg, hr⟩ := h
  exact ⟨g, rfl, by omega, hr⟩
theorem head_no {S : Sys} (h : headB S = false) : rightB S = false := by simp [rightB, h]
theorem edges_no {S : Sys} {k : Nat} {x : Edg} (hx : S.E[k]? = some x) (hb : offB S.n S.L x.fr x.lab x.to = true) : rightB S = false := by
  have : edgesB S = false := by
    unfold edgesB
    rw [List.all_eq_false]
    exact ⟨x, List.mem_of_getElem? hx, by simp [hb]⟩
  simp [rightB, this]
theorem edges_yes {S : Sys} (hh : headB S = true) (h : ∀ (j : Nat) x, S.E[j]? = some x → offB S.n S.L x.fr x.lab x.to = false) : rightB S = true := by
  have : edgesB S = true := by
    unfold edgesB
    rw [List.all_eq_true]
    intro x hx
    obtain ⟨j, hj⟩ := List.getElem?_of_mem hx
    simp [h j x hj]
  simp [rightB, this, hh]
set_option maxRecDepth 100000 in
set_option maxHeartbeats 1000000 in
theorem check_head_no (n L st : Int) (E : List Edg) (ad : Option Addr) (c : Nat) (t0 : TypeId) (x0 : Value) (w : World) (hg : w.cell? ⟨0, 0, none⟩ = some (.iface t0 x0))
    (hh : headB ⟨n, L, st, E⟩ = false) :
    Calls Tryz.prog 53 #[.agg #[.int .i64 n, .int .i64 L, .int .i64 st, .slice ad E.length c]] w (ErrPost ⟨n, L, st, E⟩ (.iface t0 x0) w) := by
  have hno := head_no hh
  generalize hm : E.length = m at *
  have hbad : n < 0 ∨ 1000 < n ∨ L < 1 ∨ 201 < L ∨ st < 0 ∨ (0 < st ∧ n ≤ st) ∨ 10000 < m := by
    simp only [headB, hm, decide_eq_false_iff_not] at hh
    omega
  have hno' : Hid (rightB ⟨n, L, st, E⟩ = false) := hno
  clear hh hno hm
  have hgb := World.block_lt_of_cell? _ _ hg
  go_enter Tryz.func53, Tryz.ntmps53
  go_wp2_with fail
  refine (faultNew_any _ _ _ _).mono ?_
  rintro e w1 ⟨bad, rfl, hb1, hf1⟩
  have hrb := (Row.newA w #[.int .i64 n, .int .i64 L, .int .i64 st, .slice ad m c] 24).ext hb1
  have hb0 : Below w.heap.size w w1 := Below.chain ((Below.refl _ _).alloc (Nat.le_refl _) _) hb1
  have hf0 : FaultAt w1 w.heap.size bad sSystem 0 0 (.iface t0 x0) := hf1.mono (by simp)
  obtain ⟨c0, c1, c2, c3⟩ := hrb.c4
  clear hb1 hf1 hg
  go_wp2_with fail
  all_goals first | (exfalso; omega) | (go_ret; exact errPost_bad hb0 hno'.out hf0)
set_option maxRecDepth 100000 in
set_option maxHeartbeats 1000000 in
theorem check_head_yes (n L st : Int) (E : List Edg) (ad : Option Addr) (c : Nat) (t0 : TypeId) (x0 : Value) (w : World) (hg : w.cell? ⟨0, 0, none⟩ = some (.iface t0 x0))
    (hr : 0 < E.length → ∃ b o, ad = some ⟨b, o, none⟩ ∧ CellsAt w b o (E.flatMap encE))
    (hh : headB ⟨n, L, st, E⟩ = true) (hst : st = 0 ∨ 0 < st) :
    Calls Tryz.prog 53 #[.agg #[.int .i64 n, .int .i64 L, .int .i64 st, .slice ad E.length c]] w (ErrPost ⟨n, L, st, E⟩ (.iface t0 x0) w) := by
  have hh' : Hid (headB ⟨n, L, st, E⟩ = true) := hh
  generalize hm : E.length = m at *
  have hm' : Hid (E.length = m) := hm
  have hgood : (0 ≤ n ∧ n ≤ 1000 ∧ 1 ≤ L ∧ L ≤ 201) ∧ m ≤ 10000 ∧ (st = 0 ∨ st < n) := by
    simp only [headB, hm, decide_eq_true_eq] at hh
    omega
  obtain ⟨⟨g1, g2, g3, g4⟩, g5, g6⟩ := hgood
  clear hh hm
  have hgb := World.block_lt_of_cell? _ _ hg
  rcases hst with rfl | hst
  all_goals
    try have g7 : st < n := by omega
    go_enter Tryz.func53, Tryz.ntmps53
    go_wp2_with fail
    refine (faultNew_any _ _ _ _).mono ?_
    rintro e w1 ⟨bad, rfl, hb1, hf1⟩
    have hb0 : Below w.heap.size w w1 := Below.chain ((Below.refl _ _).alloc (Nat.le_refl _) _) hb1
    have hf0 : FaultAt w1 w.heap.size bad sSystem 0 0 (.iface t0 x0) := hf1.mono (by simp)
    have hrb := (Row.newA w _ 24).ext hb1
    obtain ⟨c0, c1, c2, c3⟩ := hrb.c4
    have hsz : w.heap.size < w1.heap.size := hrb.lt
    clear hb1 hf1 hg
    go_wp2_with fail
    go_loopw [54] (fun i wr => ∃ k : Nat, k ≤ m ∧ i = .int .i64 (k : Int) ∧ Below w1.heap.size w1 wr ∧ Hid (∀ (j : Nat) x, j < k → E[j]? = some x → offB n L x.fr x.lab x.to = false)) (fun i _ => m - (intOf i).toNat)
    case atStart => exact ⟨0, Nat.zero_le _, rfl, Below.refl _ _, fun j x h => by omega⟩
    case round =>
      obtain ⟨k, hk, rfl, hbl, hoff⟩ := hrel
      by_cases hlt : k < m
      · obtain ⟨b, off, rfl, hc⟩ := hr (by omega)
        obtain ⟨⟨f1, l1, t1⟩, hx⟩ : ∃ s, E[k]? = some s := ⟨E[k]'(by rw [hm'.out]; exact hlt), by simp [hm'.out, hlt]⟩
        have hbw := hb0.trans (hbl.mono hb0.size)
        have hc' := hc.ext hbw
        have hfl := fun j hj => flat_get encE 3 encE_len E k _ hx j hj []
        simp only [List.append_nil] at hfl
        have a1 := hc' _ _ (hfl 0 (by omega))
        have a2 := hc' _ _ (hfl 1 (by omega))
        have a3 := hc' _ _ (hfl 2 (by omega))
        simp only [Nat.add_zero, ← Nat.add_assoc] at a1 a2 a3
        have hrbr := hrb.below hbl hsz
        obtain ⟨c0, c1, c2, c3⟩ := hrbr.c4
        have hx' : Hid (E[k]? = some ⟨f1, l1, t1⟩) := hx
        have hszr := hbl.size
        have hszq : w.heap.size < wr.heap.size := hrbr.lt
        clear hx hfl hc' hc hr
        go_wp2_with fail
        refine (offends_any _ _ _ _ _ _ _ _).mono ?_
        rintro e w2 ⟨rfl, hb2⟩
        have hbl2 : Below w1.heap.size w1 w2 := (hbl.alloc hszr _).trans (hb2.mono (by simp; omega))
        cases hoffb : offB n L f1 l1 t1 with
        | true =>
          go_wp2_with fail
          go_ret
          exact errPost_bad (hb0.trans (hbl2.mono hb0.size)) (edges_no (S := ⟨n, L, _, E⟩) hx'.out hoffb) (hf0.ext hbl2)
        | false =>
          go_wp2_with fail
          go_roundw
          case rel => exact ⟨k + 1, by omega, by go_num, hbl2, fun j x hj hjx => by
            by_cases hjk : j = k
            · subst hjk; rw [hx'.out] at hjx; cases hjx; exact hoffb
            · exact hoff.out j x (by omega) hjx⟩
          case measure => simp [intOf]; omega
      · go_wp2_with fail
        go_ret
        exact ⟨hb0.trans (hbl.mono hb0.size), .inl ⟨edges_yes hh'.out (fun j x hjx => hoff.out j x (by
          have := (List.getElem?_eq_some_iff.1 hjx).1
          have h2 := hm'.out
          simp only at this
          omega) hjx), rfl⟩⟩
theorem check_any (S : Sys) (sv : Value) (t0 : TypeId) (x0 : Value) (w : World) (hr : Reads w sv S.E.length 3 (S.E.flatMap encE)) (hg : w.cell? ⟨0, 0, none⟩ = some (.iface t0 x0)) :
    Calls Tryz.prog 53 #[.agg #[.int .i64 S.n, .int .i64 S.L, .int .i64 S.st, sv]] w (ErrPost S (.iface t0 x0) w) := by
  obtain ⟨n, L, st, E⟩ := S
  obtain ⟨_, ad, c, rfl, hr⟩ := hr
  cases hh : headB ⟨n, L, st, E⟩ with
  | false => exact check_head_no n L st E ad c t0 x0 w hg hh
  | true =>
    refine check_head_yes n L st E ad c t0 x0 w hg hr hh ?_
    simp only [headB, decide_eq_true_eq] at hh
    omega
end Go.Proofs.YtkknklagoghljaaGreatDoor
