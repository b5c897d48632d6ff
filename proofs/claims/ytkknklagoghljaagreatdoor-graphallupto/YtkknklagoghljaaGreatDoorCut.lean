/- Cut: what GraphAll needs of it. -/
import Derived.Test.YtkknklagoghljaaGreatDoorReach
import Derived.Test.YtkknklagoghljaaGreatDoorReg
import Derived.Deep.DeepCutAuto
namespace Go.Proofs.YtkknklagoghljaaGreatDoor
open Go.RowKit
open Go.RowKit (Below)
def Low (T : List Int) (N : Nat) : Prop := T.length = N ∧ ∀ x ∈ T, -1 ≤ x ∧ x ≤ 1000
theorem Low.set {T : List Int} {N : Nat} (h : Low T N) (k : Nat) (x : Int) (hx : -1 ≤ x ∧ x ≤ 1000) : Low (T.set k x) N := by
  refine ⟨by simp [h.1], fun y hy => ?_⟩
  rcases List.mem_or_eq_of_mem_set hy with h' | rfl
  · exact h.2 y h'
  · exact hx
theorem Low.rep (N : Nat) : Low (List.replicate N 0) N := ⟨by simp, fun x hx => by rw [List.mem_replicate] at hx; omega⟩
theorem ints_rep (N : Nat) : (List.replicate N (Value.int .i64 0)) = (List.replicate N (0 : Int)).map (Value.int .i64) := by simp
theorem Low.get {T : List Int} {N : Nat} (h : Low T N) {k : Nat} (hk : k < N) : ∃ x, T[k]? = some x ∧ -1 ≤ x ∧ x ≤ 1000 := by
  have hl := h.1
  exact ⟨T[k]'(by omega), by simp [show k < T.length by omega], h.2 _ (List.getElem_mem _)⟩
theorem reachL_rng {w : World} {g N : Nat} {L st : Int} {E : List Edg} (h : GraphAt w g N L st E) : (∀ x ∈ reachL E N st, 0 ≤ x ∧ x < N) ∧ (reachL E N st).length ≤ N := by
  by_cases hN : N = 0
  · unfold reachL; rw [if_pos hN]; exact ⟨fun x hx => (by cases hx), by simp⟩
  · have hs := h.small
    rw [reachL_flagged (fun e he => ⟨(h.rng e he).2.2.1, (h.rng e he).2.2.2.1⟩) (by omega)]
    refine ⟨fun x hx => ?_, flagged_len _ _⟩
    rw [flagged_mem] at hx
    obtain ⟨k, hk, _, rfl⟩ := hx
    omega
theorem myBlock_some {g n c p : Nat} (h : myBlock (.slice (some ⟨g, 0, none⟩) n c) = some p) : p = g := by
  by_cases hc : c = 0
  · simp [myBlock, hc] at h
  · simp [myBlock, hc] at h; exact h.symm
/-- A list told, from a block on. -/
def RdAt (w : World) (B : Nat) (ad : Option Addr) (n : Nat) (cs : List Value) : Prop := 0 < n → ∃ b o, ad = some ⟨b, o, none⟩ ∧ B ≤ b ∧ CellsAt w b o cs
theorem RdAt.set {w : World} {B : Nat} {ad : Option Addr} {n : Nat} {cs : List Value} (h : RdAt w B ad n cs) (a : Addr) (v : Value) (ha : a.block < B) : RdAt (w.setCell a v) B ad n cs := fun h0 => by
  obtain ⟨b, o, h1, h2, h3⟩ := h h0
  exact ⟨b, o, h1, h2, h3.same (Below.heap_setCell _ _ _ _ (by omega))⟩
theorem Owned.rdAt {w : World} {B : Nat} {e : TypeId} {ad : Option Addr} {n k c : Nat} {cs : List Value} (h : Owned w B e k (.slice ad n c) n cs) : RdAt w B ad n cs := fun h0 => by
  obtain ⟨g, cap, rest, hv, _, _, hB, hr, _, _⟩ := h.row h0
  cases hv
  exact ⟨g, 0, rfl, hB, hr.cellsAt'⟩
def CutPost (L : Int) (E : List Edg) (N : Nat) (w : World) (e : Ending) (w' : World) : Prop :=
  ∃ (T : List Int) (C : List Edg) (n s : Int) (vE vT : Value), e = .returned (.tuple #[.agg #[.int .i64 n, .int .i64 L, .int .i64 s, vE], vT]) ∧ Below w.heap.size w w' ∧ Low T N ∧ C.length ≤ E.length ∧
    Owned w' w.heap.size 71 3 vE C.length (C.flatMap encE) ∧ Owned w' w.heap.size 3 1 vT N (T.map (Value.int .i64)) ∧ ∀ q, myBlock vE = some q → myBlock vT ≠ some q
set_option maxRecDepth 100000 in
set_option maxHeartbeats 2000000 in
theorem cut_any {g N : Nat} {L st : Int} {E : List Edg} {w : World} (h : GraphAt w g N L st E) :
    Calls Tryz.prog 16 #[.pointer (some ⟨g, 0, none⟩)] w (CutPost L E N w) := by
  have hsm := h.small
  have hrr := Lib.hid (reachL_rng h)
  have hG0 := Lib.hid h
  have hr0 := Row.newA w #[.int .i64 0, .int .i64 0, .int .i64 0, .slice none 0 0] 24
  have hb0 : Below w.heap.size w (w.alloc (.cells #[.int .i64 0, .int .i64 0, .int .i64 0, .slice none 0 0] 24)) := (Below.refl _ _).alloc (Nat.le_refl _) _
  have h0 := h.ext hb0
  clear h
  go_enter Tryz.func16, Tryz.ntmps16
  go_wp2_with fail
  refine (num1 h0).mono ?_
  rintro e w1 ⟨rfl, hb1⟩
  have h1 := h0.ext hb1
  have hr1 := hr0.ext hb1
  have hb1' : Below w.heap.size w w1 := Below.chain hb0 hb1
  have l1 := hr1.lt
  have hb1s := hb1'.size
  have hrA := Row.newA w1 #[.int .i64 0, .int .i64 L, .int .i64 0, .slice none 0 0] 24
  have hbA : Below w1.heap.size w1 (w1.alloc (.cells #[.int .i64 0, .int .i64 L, .int .i64 0, .slice none 0 0] 24)) := (Below.refl _ _).alloc (Nat.le_refl _) _
  have h2 := h1.ext hbA
  clear hr0 hb0 h0 hb1 h1
  go_wp2_with fail
  refine (num0 h2).mono ?_
  rintro e w2 ⟨rfl, hb2⟩
  have h3 := h2.ext hb2
  have hrA2 := hrA.ext hb2
  have hr2 := (hr1.ext hbA).ext hb2
  have hb2' : Below w.heap.size w w2 := hb1'.trans ((Below.chain hbA hb2).mono hb1s)
  have l2 := hrA2.lt
  have hb2s := hb2'.size
  clear hrA hr1 hbA h2 hb2
  go_wp2_with (first | (refine mk49 rfl rfl _ _ rfl N rfl rfl (by omega) ?_) | fail)
  have hrT0 := Row.newA w2 (List.replicate N (Value.int .i64 0)).toArray 3
  have hbT : Below w2.heap.size w2 (w2.alloc (.cells (List.replicate N (Value.int .i64 0)).toArray 3)) := (Below.refl _ _).alloc (Nat.le_refl _) _
  have hrA3 := hrA2.ext hbT
  have hr3 := hr2.ext hbT
  have hb3' : Below w.heap.size w (w2.alloc (.cells (List.replicate N (Value.int .i64 0)).toArray 3)) := hb2'.alloc (by omega) _
  go_loopw [19] (fun i wr => ∃ (k : Nat) (T : List Int), k ≤ N ∧ i = .int .i64 k ∧ Below w.heap.size w wr ∧ Row wr w.heap.size 24 [.int .i64 0, .int .i64 0, .int .i64 0, .slice none 0 0] ∧ Row wr w1.heap.size 24 [.int .i64 0, .int .i64 L, .int .i64 0, .slice none 0 0] ∧
    Row wr w2.heap.size 3 (T.map (Value.int .i64)) ∧ Low T N) (fun i _ => N - (intOf i).toNat)
  case atStart =>
    refine ⟨0, List.replicate N 0, by omega, rfl, hb3', hr3, hrA3, ?_, Low.rep N⟩
    rw [← ints_rep]; exact hrT0
  case round =>
    obtain ⟨k, T, hk, rfl, hbl, hrO, hrA, hrT, hT⟩ := hrel
    clear hrA3 hr3 hb3' hrA2 hr2 hbT hrT0
    by_cases hlt : k < N
    · have e1 : (k : Int) < (N : Int) := by omega
      obtain ⟨x, hx, _⟩ := hT.get hlt
      have ct : wr.cell? ⟨w2.heap.size, k, none⟩ = some (.int .i64 x) := by rw [hrT.cell k, List.getElem?_map, hx]; rfl
      have ft := hrT.free k
      have lt := hrT.lt
      clear hx
      go_wp2_with fail
      go_roundw
      case rel => exact ⟨k + 1, T.set k (-1), by omega, by go_num, hbl.setCell (by simp only; omega) _, hrO.other _ _ (by simp only; omega), hrA.other _ _ (by simp only; omega), by rw [List.map_set]; exact hrT.set k _, hT.set k (-1) (by omega)⟩
      case measure => simp [intOf]; omega
    · have hkn : k = N := by omega
      subst hkn
      have hGr := hG0.out.ext hbl
      go_wp2_with fail
      refine (reach_any hGr).mono ?_
      rintro e w3 ⟨vr, rfl, hb3, hoR⟩
      have hbl3 := hbl.trans (hb3.mono hbl.size)
      have hrO3 := hrO.ext hb3
      have hrA3 := hrA.ext hb3
      have hrT3 := hrT.ext hb3
      obtain ⟨R, hR⟩ : ∃ R, R = reachL E k st := ⟨_, rfl⟩
      have hRr := Lib.hid hrr.out
      rw [← hR] at hoR hRr
      obtain ⟨r, hr⟩ : ∃ r, r = R.length := ⟨_, rfl⟩
      rw [← hr] at hoR
      have hr' := Lib.hid hr
      have hrk : r ≤ k := by have := hRr.out.2; omega
      obtain ⟨adR, cR, rfl⟩ := hoR.form
      have hRd := hoR.rdAt
      have hG3 := Lib.hid (hGr.ext hb3)
      have l3 := hrT3.lt
      have l3' := hrT.lt
      have hT' := Lib.hid hT
      clear hR hr hoR hb3 hrO hrA hrT hbl hGr hb2' hT
      go_wp2_with fail
      go_loopw [29] (fun i wz => ∃ (q : Nat) (T : List Int), q ≤ r ∧ i = .int .i64 q ∧ Below w.heap.size w wz ∧ Row wz w.heap.size 24 [.int .i64 0, .int .i64 0, .int .i64 0, .slice none 0 0] ∧ Row wz w1.heap.size 24 [.int .i64 q, .int .i64 L, .int .i64 0, .slice none 0 0] ∧
        Row wz w2.heap.size 3 (T.map (Value.int .i64)) ∧ Low T k ∧ RdAt wz wr.heap.size adR r (R.map (Value.int .i64))) (fun i _ => r - (intOf i).toNat)
      case atStart => exact ⟨0, T, by omega, rfl, hbl3, hrO3, hrA3, hrT3, hT'.out, hRd⟩
      case round =>
        clear hbl3 hrO3 hrA3 hrT3 hRd
        obtain ⟨q, T2, hq, rfl, hbl, hrO, hrA, hrT, hT, hRd⟩ := hrel
        have lA := hrA.lt
        have lT := hrT.lt
        by_cases hqr : q < r
        · obtain ⟨b, o, rfl, hB, hc⟩ := hRd (by omega)
          obtain ⟨x, hx⟩ : ∃ x, R[q]? = some x := ⟨R[q]'(by have := hr'.out; omega), by have := hr'.out; simp [show q < R.length by omega]⟩
          have hxr := hRr.out.1 x (List.mem_of_getElem? hx)
          obtain ⟨y, rfl⟩ : ∃ y : Nat, x = y := ⟨x.toNat, by omega⟩
          have cx := hc q (.int .i64 (y : Int)) (by rw [List.getElem?_map, hx]; rfl)
          have e1 : (q : Int) < (r : Int) := by omega
          have e2 : (y : Int) < (k : Int) := hxr.2
          have e3 : y < k := by omega
          obtain ⟨z, hz, _⟩ := hT.get e3
          have ct : wr.cell? ⟨w2.heap.size, y, none⟩ = some (.int .i64 z) := by rw [hrT.cell y, List.getElem?_map, hz]; rfl
          have ft := hrT.free y
          have ca : wr.cell? ⟨w1.heap.size, 0, none⟩ = some (.int .i64 (q : Int)) := hrA.cell 0
          have fa := hrA.free 0
          clear hx hz hc
          go_wp2_with fail
          go_roundw
          case rel =>
            refine ⟨q + 1, T2.set y q, by omega, by go_num, (hbl.setCell (by simp only; omega) _).setCell (by simp only; omega) _, (hrO.other _ _ (by simp only; omega)).other _ _ (by simp only; omega), ?_, ?_, hT.set y q (by omega), (hRd.set _ _ (by simp only; omega)).set _ _ (by simp only; omega)⟩
            · exact (hrA.other _ _ (by simp only; omega)).set 0 _
            · rw [List.map_set]; exact (hrT.set y _).other _ _ (by simp only; omega)
          case measure => simp [intOf]; omega
        · have hqe : q = r := by omega
          subst hqe
          clear hRd
          obtain ⟨ca0, ca1, ca2, ca3⟩ := hrA.c4
          obtain ⟨fa0, fa1, fa2, fa3⟩ := hrA.f4
          go_upto_if 45 with fail
          go_cut [] (fun wx => ∃ z : Int, Below w.heap.size w wx ∧ Row wx w.heap.size 24 [.int .i64 0, .int .i64 0, .int .i64 0, .slice none 0 0] ∧ Row wx w1.heap.size 24 [.int .i64 q, .int .i64 L, .int .i64 z, .slice none 0 0] ∧ Row wx w2.heap.size 3 (T2.map (Value.int .i64)))
          case first =>
            by_cases hr0 : 0 < q
            · have hk0 : ¬ k = 0 := by omega
              obtain ⟨y, rfl⟩ : ∃ y : Nat, st = y := ⟨st.toNat, by omega⟩
              have e3 : y < k := by omega
              obtain ⟨z, hz, hz1, hz2⟩ := hT.get e3
              have hGa := hG0.out.ext hbl
              go_wp2_with fail
              refine (num2 hGa).mono ?_
              rintro e w4 ⟨rfl, hb4⟩
              have hbl4 := hbl.trans (hb4.mono hbl.size)
              have hrA4 := hrA.ext hb4
              have hrT4 := hrT.ext hb4
              have hrO4 := hrO.ext hb4
              have e5 : (y : Int) < (k : Int) := by omega
              have ct : w4.cell? ⟨w2.heap.size, y, none⟩ = some (.int .i64 z) := by rw [hrT4.cell y, List.getElem?_map, hz]; rfl
              obtain ⟨cb0, cb1, cb2, cb3⟩ := hrA4.c4
              obtain ⟨fb0, fb1, fb2, fb3⟩ := hrA4.f4
              have lA4 := hrA4.lt
              have lT4 := hrT4.lt
              clear ca0 ca1 ca2 ca3 fa0 fa1 fa2 fa3 hrA hrT hrO hb4 hz hGa
              go_wp2_with fail
              go_meet
              exact ⟨z, hbl4.setCell (by simp only; omega) _, hrO4.other _ _ (by simp only; omega), hrA4.set 2 _, hrT4.other _ _ (by simp only; omega)⟩
            · go_wp2_with fail
              go_meet
              exact ⟨0, hbl, hrO, hrA, hrT⟩
          case rest =>
            clear hrA hrT hrO ca0 ca1 ca2 ca3 fa0 fa1 fa2 fa3 hbl
            obtain ⟨z, hbl5, hrO5, hrA5, hrT5⟩ := hcut
            go_wp2_with fail
            refine (own0_any hG0.out hbl5).mono ?_
            rintro e w6 ⟨hb6, adE, cE, rfl, hrE⟩
            have hbl6 := hbl5.trans (hb6.mono hbl5.size)
            have hrA6 := hrA5.ext hb6
            have hrT6 := hrT5.ext hb6
            have hrO6 := hrO5.ext hb6
            obtain ⟨m, hm⟩ : ∃ m, m = E.length := ⟨_, rfl⟩
            have hrng := Lib.hid hG0.out.rng
            rw [← hm] at hrE hsm ⊢
            have hm' := Lib.hid hm
            have hrE' := Lib.hid hrE
            have hfd := fun v w => fieldSys3 (.int .i64 k) (.int .i64 L) v (.slice adE m cE) w
            clear hm hrE hrA5 hrT5 hrO5 hbl5 hG0
            go_wp2_with fail
            go_loopw [56] (fun i wz => ∃ (j : Nat) (C : List Edg) (vE : Value), j ≤ m ∧ i = .int .i64 j ∧ Below w.heap.size w wz ∧ Row wz w.heap.size 24 [.int .i64 0, .int .i64 0, .int .i64 0, .slice none 0 0] ∧
              Row wz w1.heap.size 24 [.int .i64 q, .int .i64 L, .int .i64 z, vE] ∧ Row wz w2.heap.size 3 (T2.map (Value.int .i64)) ∧ C.length ≤ j ∧ Owned wz (w2.heap.size + 1) 71 3 vE C.length (C.flatMap encE)) (fun i _ => m - (intOf i).toNat)
            case atStart => exact ⟨0, [], .slice none 0 0, by omega, rfl, hbl6, hrO6, hrA6, hrT6, by simp, Owned.nil _ _ _ _ _⟩
            case round =>
              clear hbl6 hrA6 hrO6 hrT6
              obtain ⟨j, C, vE, hj, rfl, hbl, hrO, hrA, hrT, hCj, hoE⟩ := hrel
              have lA := hrA.lt
              have lT := hrT.lt
              have hbs := hbl.size
              obtain ⟨nC, hnC⟩ : ∃ nC, nC = C.length := ⟨_, rfl⟩
              rw [← hnC] at hoE hCj
              obtain ⟨adC, cC, rfl⟩ := hoE.form
              have hnC' := Lib.hid hnC
              clear hnC
              by_cases hjm : j < m
              · obtain ⟨⟨f, l, t⟩, hs⟩ : ∃ s, E[j]? = some s := ⟨E[j]'(by have := hm'.out; omega), by have := hm'.out; simp [show j < E.length by omega]⟩
                have hg := hrng.out ⟨f, l, t⟩ (List.mem_of_getElem? hs)
                simp only at hg
                obtain ⟨f, rfl⟩ : ∃ f' : Nat, f = f' := ⟨f.toNat, by omega⟩
                obtain ⟨t, rfl⟩ : ∃ t' : Nat, t = t' := ⟨t.toNat, by omega⟩
                obtain ⟨-, ad', c', hv, hcE⟩ := hrE'.out wr hbl
                cases hv
                obtain ⟨b, o, rfl, hc⟩ := hcE (by omega)
                clear hcE
                obtain ⟨c1, c2, c3⟩ := hc.e1 hs
                have lb := hc.lt (by rw [flat_len encE 3 encE_len]; have := hm'.out; omega)
                have e1 : (f : Int) < (k : Int) := hg.2.1
                have e2 : (t : Int) < (k : Int) := hg.2.2.2.1
                obtain ⟨zf, hzf, hzf1, hzf2⟩ := hT.get (show f < k by omega)
                obtain ⟨zt, hzt, hzt1, hzt2⟩ := hT.get (show t < k by omega)
                have cf : wr.cell? ⟨w2.heap.size, f, none⟩ = some (.int .i64 zf) := by rw [hrT.cell f, List.getElem?_map, hzf]; rfl
                have e3 : (j : Int) < (m : Int) := by omega
                have hzt' := Lib.hid hzt
                have hzf' := Lib.hid hzf
                clear hc hs hg hzf hzt
                by_cases hz0 : 0 ≤ zf
                · go_wp2_with fail
                  have hbl7 : Below w.heap.size w (wr.alloc (.cells #[.int .i64 (f : Int), .int .i64 l, .int .i64 (t : Int)] 71)) := hbl.alloc hbs _
                  have hrO7 := hrO.alloc (.cells #[.int .i64 (f : Int), .int .i64 l, .int .i64 (t : Int)] 71)
                  have hrA7 := hrA.alloc (.cells #[.int .i64 (f : Int), .int .i64 l, .int .i64 (t : Int)] 71)
                  have hrT7 := hrT.alloc (.cells #[.int .i64 (f : Int), .int .i64 l, .int .i64 (t : Int)] 71)
                  have hoE7 := hoE.alloc (.cells #[.int .i64 (f : Int), .int .i64 l, .int .i64 (t : Int)] 71)
                  have hrS7 := Row.newA wr #[.int .i64 (f : Int), .int .i64 l, .int .i64 (t : Int)] 71
                  obtain ⟨W7, hW7⟩ : ∃ W7, W7 = wr.alloc (.cells #[.int .i64 (f : Int), .int .i64 l, .int .i64 (t : Int)] 71) := ⟨_, rfl⟩
                  rw [← hW7] at hbl7 hrO7 hrA7 hrT7 hoE7 hrS7 ⊢
                  obtain ⟨cs0, cs1, cs2⟩ := hrS7.c3
                  have ca3 : W7.cell? ⟨w1.heap.size, 3, none⟩ = some (.slice adC nC cC) := hrA7.cell 3
                  have cf7 : W7.cell? ⟨w2.heap.size, f, none⟩ = some (.int .i64 zf) := by rw [hrT7.cell f, List.getElem?_map, hzf'.out]; rfl
                  have ct7 : W7.cell? ⟨w2.heap.size, t, none⟩ = some (.int .i64 zt) := by rw [hrT7.cell t, List.getElem?_map, hzt'.out]; rfl
                  have lA7 := hrA7.lt
                  have lT7 := hrT7.lt
                  have lS7 := hrS7.lt
                  have hneAE : Hid (∀ q, myBlock (.slice adC nC cC) = some q → w2.heap.size + 1 ≤ q) := fun q hq => (hoE7.lt hq).1
                  have m1 : w1.heap.size ≠ wr.heap.size := by omega
                  have m2 : w1.heap.size ≠ w2.heap.size := by omega
                  have hltE : Hid (∀ q, myBlock (.slice adC nC cC) = some q → q < wr.heap.size) := fun q hq => (hoE.lt hq).2
                  clear hW7 hrO hrA hrT hoE hbl cf c1 c2 c3 lA lT hrS7
                  have hone : Hid (∀ u ∈ (#[Value.int .i64 zf, .int .i64 l, .int .i64 zt] : Array Value).toList, u.oneCell' = true) := by rw [Hid]; simp [Value.oneCell']
                  have hnn : nC < 1099511627776 := by omega
                  have na : some w1.heap.size ≠ myBlock (.slice adC nC cC) := fun e => by have := hneAE.out _ e.symm; omega
                  have nt : some w2.heap.size ≠ myBlock (.slice adC nC cC) := fun e => by have := hneAE.out _ e.symm; omega
                  have ns : some wr.heap.size ≠ myBlock (.slice adC nC cC) := fun e => by have := hltE.out _ e.symm; omega
                  refine wp_region_reads 15 (fun w' => w'.cell? ⟨wr.heap.size, 0, none⟩ = some (.int .i64 (f : Int)) ∧ w'.cell? ⟨wr.heap.size, 1, none⟩ = some (.int .i64 l) ∧ w'.cell? ⟨wr.heap.size, 2, none⟩ = some (.int .i64 (t : Int)) ∧
                      w'.cell? ⟨w1.heap.size, 3, none⟩ = some (.slice adC nC cC) ∧ w'.cell? ⟨w2.heap.size, f, none⟩ = some (.int .i64 zf) ∧ w'.cell? ⟨w2.heap.size, t, none⟩ = some (.int .i64 zt)) (by kernel_rfl) (by kernel_rfl) (fun _ _ d _ _ h => by cases d <;> exact h) (fun V hV => ?_)
                  have hbl8 : Below w.heap.size w V := by rw [hV]; exact hbl7.drew
                  have hrO8 : Row V w.heap.size 24 [.int .i64 0, .int .i64 0, .int .i64 0, .slice none 0 0] := by rw [hV]; exact hrO7.drew
                  have hrA8 : Row V w1.heap.size 24 [.int .i64 q, .int .i64 L, .int .i64 z, .slice adC nC cC] := by rw [hV]; exact hrA7.drew
                  have hrT8 : Row V w2.heap.size 3 (T2.map (Value.int .i64)) := by rw [hV]; exact hrT7.drew
                  have hoE8 : Owned V (w2.heap.size + 1) 71 3 (.slice adC nC cC) nC (C.flatMap encE) := by rw [hV]; exact hoE7
                  have vs0 : V.cell? ⟨wr.heap.size, 0, none⟩ = some (.int .i64 (f : Int)) := by rw [hV]; exact cs0
                  have vs1 : V.cell? ⟨wr.heap.size, 1, none⟩ = some (.int .i64 l) := by rw [hV]; exact cs1
                  have vs2 : V.cell? ⟨wr.heap.size, 2, none⟩ = some (.int .i64 (t : Int)) := by rw [hV]; exact cs2
                  have va3 : V.cell? ⟨w1.heap.size, 3, none⟩ = some (.slice adC nC cC) := by rw [hV]; exact ca3
                  have vf : V.cell? ⟨w2.heap.size, f, none⟩ = some (.int .i64 zf) := by rw [hV]; exact cf7
                  have vt : V.cell? ⟨w2.heap.size, t, none⟩ = some (.int .i64 zt) := by rw [hV]; exact ct7
                  have lV1 := hrA8.lt
                  have lV2 := hrT8.lt
                  have lV3 : wr.heap.size < V.heap.size := by rw [hV]; exact lS7
                  clear hV cs0 cs1 cs2 ca3 cf7 ct7 hbl7 hrO7 hrA7 hrT7 hoE7 lA7 lT7 lS7
                  refine ⟨⟨vs0, vs1, vs2, va3, vf, vt⟩, ?_⟩
                  simp only [List.take_succ_cons, List.take_zero, List.drop_succ_cons, List.drop_zero]
                  repeat
                    refine wpYld_step (v := ?_) rfl ?_ ?_
                    rotate_left
                    · intro wy hSy
                      obtain ⟨y0, y1, y2, y3, y4, y5⟩ := hSy
                      go_simp
                      try with_reducible rfl
                    rotate_right
                    try simp only [Act.put, List.setIfInBounds_toArray, List.set_cons_zero, List.set_cons_succ]
                  refine wpYld_nil ?_
                  refine wpTl_step (fun K hK => ?_)
                  go_simp
                  refine hK _ _ (Or.inr ⟨cell_alloc vs0 _, cell_alloc vs1 _, cell_alloc vs2 _, cell_alloc va3 _, cell_alloc vf _, cell_alloc vt _⟩) ?_
                  clear hK K
                  refine wpTl_step (fun K hK => ?_)
                  refine sapp22 rfl rfl _ _ rfl (w2.heap.size + 1) (.slice adC nC cC) nC (C.flatMap encE) rfl V hoE8 #[.int .i64 zf, .int .i64 l, .int .i64 zt] _ rfl V.heap.size rfl rfl rfl hone.out hnn (by omega) ?_
                  intro ad8 cap8 w8 ho8 hg8 hm8
                  have hrA9 := hrA8.grown hg8 (Ne.symm na)
                  have hrO9 := hrO8.grown hg8 (fun e => by have := hneAE.out _ e; omega)
                  have hrT9 := hrT8.grown hg8 (Ne.symm nt)
                  have hbl9 : Below w.heap.size w w8 := hbl8.grown hg8 hbl8.size (fun q hq => by have := hneAE.out _ hq; omega)
                  have hS9 := And.intro ((grown_cell hg8 _ lV3 ns).trans vs0) (And.intro ((grown_cell hg8 _ lV3 ns).trans vs1) (And.intro ((grown_cell hg8 _ lV3 ns).trans vs2) (And.intro ((grown_cell hg8 _ lV1 na).trans va3) (And.intro ((grown_cell hg8 _ lV2 nt).trans vf) ((grown_cell hg8 _ lV2 nt).trans vt)))))
                  refine hK _ _ (Or.inr hS9) ?_
                  have c9 := hrA9.cell 3
                  have f9 := hrA9.free 3
                  have l9 := hrA9.lt
                  clear hK K vs0 vs1 vs2 va3 vf vt hg8 hm8
                  refine wpTl_step (fun K hK => ?_)
                  go_simp
                  refine hK _ _ (Or.inr hS9) ?_
                  clear hK K hS9
                  refine wpTl_step (fun K hK => ?_)
                  go_simp
                  refine hK _ _ (Or.inl rfl) (wpTl_nil ?_)
                  clear hK K
                  go_wp2_with fail
                  go_roundw
                  case rel =>
                    refine ⟨j + 1, C ++ [⟨zf, l, zt⟩], _, by omega, by go_num, hbl9.setCell (by simp only; omega) _, hrO9.other _ _ (by simp only; omega), hrA9.set 3 _, hrT9.other _ _ (by simp only; omega), by simp; rw [← hnC'.out]; omega, ?_⟩
                    rw [List.length_append, ← hnC'.out, List.flatMap_append]
                    exact ho8.kept (fun q hq => Below.heap_setCell _ _ _ _ (by have := (ho8.lt hq).1; simp only; omega))
                  case measure => simp [intOf]; omega
                · go_wp2_with fail
                  go_roundw
                  case rel => exact ⟨j + 1, C, _, by omega, by go_num, hbl.alloc hbs _, hrO.alloc _, hrA.alloc _, hrT.alloc _, by rw [← hnC'.out]; omega, by rw [← hnC'.out]; exact hoE.alloc _⟩
                  case measure => simp [intOf]; omega
              · have hjm' : j = m := by omega
                subst hjm'
                obtain ⟨cd0, cd1, cd2, cd3⟩ := hrA.c4
                obtain ⟨co0, co1, co2, co3⟩ := hrO.c4
                obtain ⟨fo0, fo1, fo2, fo3⟩ := hrO.f4
                have lO := hrO.lt
                go_wp2_with fail
                have hrF := (((hrO.set 0 (.int .i64 q)).set 1 (.int .i64 L)).set 2 (.int .i64 z)).set 3 (.slice adC nC cC)
                refine bodyPost_ret (results_cell2 Tryz.results16 hrF Tryz.isAgg24 Tryz.sizeOf24 rfl rfl rfl) rfl ?_
                have hbF := (((hbl.setCell (p := ⟨w.heap.size, 0, none⟩) (Nat.le_refl _) (.int .i64 q)).setCell (p := ⟨w.heap.size, 1, none⟩) (Nat.le_refl _) (.int .i64 L)).setCell (p := ⟨w.heap.size, 2, none⟩) (Nat.le_refl _) (.int .i64 z)).setCell (p := ⟨w.heap.size, 3, none⟩) (Nat.le_refl _) (.slice adC nC cC)
                refine ⟨T2, C, q, z, _, _, rfl, hbF, hT, by rw [← hnC'.out, ← hm'.out]; exact hCj, ?_, ?_, ?_⟩
                · rw [← hnC'.out]
                  refine (hoE.kept fun q hq => ?_).mono (by omega)
                  have := (hoE.lt hq).1
                  rw [Below.heap_setCell _ _ _ _ (by simp only; omega), Below.heap_setCell _ _ _ _ (by simp only; omega), Below.heap_setCell _ _ _ _ (by simp only; omega), Below.heap_setCell _ _ _ _ (by simp only; omega)]
                · refine Owned.ofRow (rest := []) ?_ (by rw [List.length_map, hT.1, Nat.mul_one]) (by simp) (Nat.le_refl _) (by unfold maxLen; omega) (by omega)
                  rw [List.append_nil]
                  exact (((hrT.other _ _ (by simp only; omega)).other _ _ (by simp only; omega)).other _ _ (by simp only; omega)).other _ _ (by simp only; omega)
                · intro p hp hp2
                  have h1 := (hoE.lt hp).1
                  have h2 := myBlock_some hp2
                  omega
end Go.Proofs.YtkknklagoghljaaGreatDoor
