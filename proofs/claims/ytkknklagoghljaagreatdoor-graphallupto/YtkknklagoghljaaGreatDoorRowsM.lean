/- Rows told: row, Each, Back, Out, In; what a graph's system has; By, From. -/
import Derived.Test.YtkknklagoghljaaGreatDoorNew
import Derived.WalkSmall
namespace Go.Proofs.YtkknklagoghljaaGreatDoor
open Go.RowKit
theorem filter_none {key : Edg → Int} {l : List Edg} {N : Nat} (hk : ∀ e ∈ l, 0 ≤ key e ∧ key e < N) (i : Int) (hi : i < 0 ∨ (N : Int) ≤ i) : l.filter (fun e => key e == i) = [] := by
  rw [List.filter_eq_nil_iff]; intro e he; have := hk e he; simp; omega
theorem sums_full_get (key : Edg → Int) (l : List Edg) (n i : Nat) (hi : i ≤ n) : (sums key l n n)[i]? = some (cntL key l i) := by
  simp only [sums, List.getElem?_map, List.getElem?_range (show i < n + 1 by omega), Option.map_some]
  rw [if_pos hi]
def RowPost (key : Edg → Int) (stp : Edg → Stp) (l : List Edg) (i : Int) (w0 w : World) (e : Ending) (w' : World) : Prop :=
  ∃ ad, e = .returned (.slice ad ((l.filter (fun e => key e == i)).map stp).length ((l.filter (fun e => key e == i)).map stp).length) ∧ Below w.heap.size w w' ∧
    ∀ w'', Below w0.heap.size w0 w'' → Reads w'' (.slice ad ((l.filter (fun e => key e == i)).map stp).length ((l.filter (fun e => key e == i)).map stp).length) ((l.filter (fun e => key e == i)).map stp).length 2 (((l.filter (fun e => key e == i)).map stp).flatMap encS)
set_option maxRecDepth 100000 in
set_option maxHeartbeats 1000000 in
theorem row_out (key : Edg → Int) (stp : Edg → Stp) (l : List Edg) (N : Nat) (i : Int) (m : Nat) (ad : Option Addr) (c fo : Nat) (w0 w : World) (hk : ∀ e ∈ l, 0 ≤ key e ∧ key e < N) (hN : N ≤ 1000) (hi : i < 0 ∨ (N : Int) ≤ i) :
    Calls Tryz.prog 106 #[.agg #[.slice ad m c, .slice (some ⟨fo, 0, none⟩) (N + 1) (N + 1)], .int .i64 i] w (RowPost key stp l i w0 w) := by
  have hf := filter_none hk i hi
  have hpost : ∀ w', Below w.heap.size w w' → RowPost key stp l i w0 w (.returned (.slice none 0 0)) w' := fun w' hb => by
    unfold RowPost; rw [hf]; exact ⟨none, rfl, hb, fun _ _ => ⟨by simp, none, 0, rfl, fun h => by simp at h⟩⟩
  have hpost' : Hid (∀ w', Below w.heap.size w w' → RowPost key stp l i w0 w (.returned (.slice none 0 0)) w') := hpost
  clear hf hpost hk
  go_enter Tryz.func106, Tryz.ntmps106
  rcases hi with hi | hi
  · go_wp2_with fail
    go_ret
    exact hpost'.out _ (by repeat (first | exact Below.refl _ _ | (refine Below.alloc ?_ (by simp <;> omega) _) | (refine Below.drew ?_) | (refine Below.setCell ?_ (by simp <;> omega) _)))
  · have h0 : 0 ≤ i := by omega
    go_wp2_with fail
    go_ret
    exact hpost'.out _ (by repeat (first | exact Below.refl _ _ | (refine Below.alloc ?_ (by simp <;> omega) _) | (refine Below.drew ?_) | (refine Below.setCell ?_ (by simp <;> omega) _)))
set_option maxRecDepth 100000 in
set_option maxHeartbeats 1000000 in
theorem row_in (key : Edg → Int) (stp : Edg → Stp) (l : List Edg) (N i m : Nat) (ad : Option Addr) (c fo : Nat) (w0 w : World) (hs : l.Pairwise (fun a b => key a ≤ key b)) (hm : m = l.length) (hm2 : m ≤ 10000) (hc : m ≤ c) (hN : N ≤ 1000) (hi : i < N)
    (hr : Reads w0 (.slice ad m c) m 2 ((l.map stp).flatMap encS)) (hrf : Row w fo 3 (ints (sums key l N N))) :
    Calls Tryz.prog 106 #[.agg #[.slice ad m c, .slice (some ⟨fo, 0, none⟩) (N + 1) (N + 1)], .int .i64 i] w (RowPost key stp l i w0 w) := by
  have hseg := seg key l hs i
  have g1 := sums_full_get key l N i (by omega)
  have g2 := sums_full_get key l N (i + 1) (by omega)
  have hsu := cntL_succ key l i
  have k1 := cntL_le key l i
  have k2 := cntL_le key l (i + 1)
  obtain ⟨a, ha⟩ : ∃ a, a = l.countP (fun e => decide (key e < (i : Int))) := ⟨_, rfl⟩
  obtain ⟨b, hb⟩ : ∃ b, b = l.countP (fun e => key e == (i : Int)) := ⟨_, rfl⟩
  have hab : cntL key l i = (a : Int) ∧ cntL key l (i + 1) = ((a + b : Nat) : Int) := by
    constructor
    · rw [ha]; rfl
    · rw [hsu]; unfold cnt cntL; rw [← ha, ← hb]; omega
  rw [hab.1] at g1 k1
  rw [hab.2] at g2 k2
  rw [← ha, ← hb] at hseg
  have b1 := (hrf.cell i).trans (by have := ints_get _ _ _ g1 []; simpa using this)
  have b2 := (hrf.cell (i + 1)).trans (by have := ints_get _ _ _ g2 []; simpa using this)
  have hblen : Hid (((l.filter (fun e => key e == (i : Int))).map stp).length = b) := by rw [Hid, List.length_map, ← hseg, List.length_take, List.length_drop]; omega
  have hfl : Hid (((l.filter (fun e => key e == (i : Int))).map stp).flatMap encS = (((l.map stp).flatMap encS).drop (a * 2)).take (b * 2)) := by
    rw [Hid, ← hseg, List.map_take, List.map_drop, flat_take encS 2 encS_len, flat_drop encS 2 encS_len]
  have hbound : a + b ≤ m := by rw [hm]; omega
  have hpost : Hid (∀ ad' w', Below w.heap.size w w' → (∀ w'', Below w0.heap.size w0 w'' → Reads w'' (.slice ad' b b) b 2 ((((l.map stp).flatMap encS).drop (a * 2)).take (b * 2))) → RowPost key stp l i w0 w (.returned (.slice ad' b b)) w') := by
    intro ad' w' h1 h2
    unfold RowPost
    rw [hfl.out, hblen.out]
    exact ⟨ad', rfl, h1, h2⟩
  have hreads : Hid (∀ w', Below w0.heap.size w0 w' → 0 < b → Reads w' (.slice (ad.map (fun x => x.add (a * 2))) b b) b 2 ((((l.map stp).flatMap encS).drop (a * 2)).take (b * 2))) := by
    intro w' hbw hb0
    obtain ⟨hlen, ad', c', hv, hcell⟩ := hr
    cases hv
    obtain ⟨bb, oo, rfl, hcl⟩ := hcell (by omega)
    refine ⟨by rw [List.length_take, List.length_drop, hlen]; omega, _, _, rfl, fun _ => ⟨bb, oo + a * 2, by simp [Addr_add_lit], ?_⟩⟩
    exact ((hcl.drop (a * 2)).take (b * 2)).ext hbw
  have lf := hrf.lt
  clear hseg g1 g2 hsu k1 k2 ha hb hab hrf hs hm
  go_enter Tryz.func106, Tryz.ntmps106
  have h1 : (0 : Int) ≤ (i : Int) := by omega
  have h2 : (i : Int) < (N : Int) := by omega
  have h3 : (i : Int) < ((N + 1 : Nat) : Int) := by omega
  have h4 : (i : Int) + 1 < ((N + 1 : Nat) : Int) := by omega
  have h5 : (i : Int) < (N : Int) + 1 := by omega
  have h6 : (i : Int) + 1 < (N : Int) + 1 := by omega
  have h7 : IntKind.i64.wrap ((i : Int) + 1) = (i : Int) + 1 := IntWalk.i64_in _ (by omega)
  have h8 : ((i : Int) + 1).toNat = i + 1 := by omega
  have h9 : (0 : Int) ≤ (i : Int) + 1 := by omega
  rcases Nat.eq_zero_or_pos b with hb0 | hb0
  · subst hb0
    go_wp2_with fail
    go_quiet (fail)
    go_wp2_with fail
    all_goals first | (exfalso; omega) | (go_ret; exact hpost.out _ _ (below_drewN (by exact (by repeat (first | exact Below.refl _ _ | (refine Below.alloc ?_ (by simp <;> omega) _) | (refine Below.drew ?_) | (refine Below.setCell ?_ (by simp <;> omega) _)))) _) (fun _ _ => ⟨by simp, _, _, rfl, fun h => by omega⟩))
  · have hnb : b ≠ 0 := by omega
    have hpost2 : Hid (∀ ad' w', Below w.heap.size w w' → (∀ w'', Below w0.heap.size w0 w'' → Reads w'' (.slice ad' b b) b 2 ((((l.map stp).flatMap encS).drop (a * 2)).take (b * 2))) → RowPost key stp l i w0 w (.returned (.slice ad' (a + b - a) (a + b - a))) w') := by
      have e10 : a + b - a = b := by omega
      rw [e10]; exact hpost
    have e11 : 0 < a + b - a := by omega
    have e12 : a + b - a ≠ 0 := by omega
    go_wp2_with fail
    go_quiet (fail)
    go_wp2_with fail
    all_goals first | (exfalso; omega) | (go_ret; exact hpost2.out _ _ (below_drewN (by exact (by repeat (first | exact Below.refl _ _ | (refine Below.alloc ?_ (by simp <;> omega) _) | (refine Below.drew ?_) | (refine Below.setCell ?_ (by simp <;> omega) _)))) _) (fun w'' hw => hreads.out w'' hw hb0))
end Go.Proofs.YtkknklagoghljaaGreatDoor
