/- Canon: the one form of classes. -/
import Derived.Test.YtkknklagoghljaaGreatDoorBook1
import Derived.Test.YtkknklagoghljaaGreatDoorReachL
import Derived.Maps.OwnSet
import Derived.Lib.Hide
namespace Go.Proofs.YtkknklagoghljaaGreatDoor
open Go.RowKit Go.Maps
open Go.RowKit (Below)
theorem lawI : Keyed Tryz.prog 3 := int_keyed Tryz.underlying3
theorem zeroI (w : World) : (zeroValue 3).run Tryz.prog w = .ok (.int .i64 0) w := by kernel_rfl
theorem isKeyI (c : Int) : WideAt.IsKeyLit (.int .i64 c) := by trivial
/-- A map in which each number that was met has its place. -/
structure MapIs (D : DataW Unit) (s : List Int) : Prop where
  tidy : Tidy D
  size : Maps.size D = s.length
  has : ∀ c, Maps.has D (.int .i64 c) = decide (c ∈ s)
  at_ : ∀ c, c ∈ s → D.atKey (.int .i64 c) (.lit (.int .i64 0)) = .lit (.int .i64 (pos c s))
theorem MapIs.empty : MapIs (.map []) [] := ⟨tidy_empty, rfl, fun c => by simp [has_eq], fun c h => by cases h⟩
theorem MapIs.put {D : DataW Unit} {s : List Int} (h : MapIs D s) {c : Int} (hc : c ∉ s) : MapIs (D.put (.int .i64 c) (.lit (.int .i64 (s.length : Nat)))) (s ++ [c]) := by
  have hh : Maps.has D (.int .i64 c) = false := by rw [h.has]; exact decide_eq_false hc
  refine ⟨h.tidy.put (isKeyI c) _, ?_, fun d => ?_, fun d hd => ?_⟩
  · rw [size_put h.tidy, hh, h.size]; simp
  · by_cases hd : d = c
    · subst hd; rw [has_put_same h.tidy.isMap (isKeyI d)]; simp
    · rw [has_put_other (by simpa using hd), h.has]; simp [hd]
  · by_cases hdc : d = c
    · subst hdc; rw [atKey_put_same h.tidy.isMap (isKeyI d), pos_snoc hc]
    · rw [List.mem_append, List.mem_singleton] at hd
      have hd' : d ∈ s := hd.resolve_right hdc
      rw [atKey_put_other (by simpa using hdc), h.at_ d hd', pos_append hd']
theorem canon_set (l : List Int) (k : Nat) (x : Int) : (l.map (Value.int .i64)).set k (.int .i64 x) = (l.set k x).map (Value.int .i64) := by rw [List.map_set]
theorem fill_step (l : List Int) (k n : Nat) (x : Int) (hl : l.length = k) (hk : k < n) : (l ++ List.replicate (n - k) 0).set k x = (l ++ [x]) ++ List.replicate (n - (k + 1)) 0 := by
  subst hl
  rw [List.set_append_right _ _ (Nat.le_refl _), Nat.sub_self, show n - l.length = (n - (l.length + 1)) + 1 by omega, List.replicate_succ, List.set_cons_zero, List.append_assoc]
  rfl
set_option maxRecDepth 100000 in
set_option maxHeartbeats 1000000 in
theorem canon_any (l : List Int) (v : Value) (w : World) (hr : Reads w v l.length 1 (l.map (Value.int .i64))) (hw : ∀ x ∈ l, (Lit.int .i64 x).wf = true) (hn : l.length ≤ 1000000000) :
    Calls Tryz.prog 18 #[v] w (fun e w' => ∃ v', e = .returned v' ∧ Below w.heap.size w w' ∧ Owned w' w.heap.size 3 1 v' l.length ((canonL l).map (Value.int .i64))) := by
  obtain ⟨_, ad, c, rfl, hr⟩ := hr
  obtain ⟨n, hn0⟩ : ∃ n, n = l.length := ⟨_, rfl⟩
  rw [← hn0] at hr hn ⊢
  have hn' := Lib.hid hn0
  clear hn0
  have hmm := @run_makeMap Tryz.prog
  go_enter Tryz.func18, Tryz.ntmps18
  go_wp2_with (first | (refine mk49 rfl rfl _ _ rfl n rfl rfl (by omega) ?_) | fail)
  go_loopw [15] (fun i wr => ∃ (k : Nat) (D : DataW Unit), k ≤ n ∧ i = .int .i64 k ∧ wr.ownsMap Tryz.prog 3 (plainElem Tryz.prog 3) w.heap.size k D ∧ MapIs D (metL (l.take k)) ∧ Below w.heap.size w wr ∧
    Row wr (w.heap.size + 1) 3 ((canonK l k ++ List.replicate (n - k) 0).map (Value.int .i64))) (fun i _ => n - (intOf i).toNat)
  case atStart =>
    refine ⟨0, .map [], by omega, rfl, (World.ownsMap_made _ _ _ _).alloc _, MapIs.empty, ((Below.refl _ _).alloc (Nat.le_refl _) _).alloc (by simp) _, ?_⟩
    have := Row.newA (w.alloc (.map #[] 0)) (List.replicate n (Value.int .i64 0)).toArray 3
    simpa [canonK] using this
  case round =>
    obtain ⟨k, D, hk, rfl, hown, hD, hbl, hrow⟩ := hrel

    by_cases hlt : k < n
    · obtain ⟨b, o, rfl, hc⟩ := hr (by omega)
      obtain ⟨x, hx⟩ : ∃ x, l[k]? = some x := ⟨l[k]'(by have := hn'.out; omega), by have := hn'.out; simp [show k < l.length by omega]⟩
      have hcx := hc.ext hbl k (.int .i64 x) (by rw [List.getElem?_map, hx]; rfl)
      have hkey : keyOf Tryz.prog 3 (.int .i64 x) = some (.int .i64 x) := keyOf_int_mk Tryz.underlying3 (hw x (List.mem_of_getElem? hx))
      have hcs := Lib.hid (canonK_succ l k x hx)
      have hms : Hid (metL (l.take (k + 1)) = if x ∈ metL (l.take k) then metL (l.take k) else metL (l.take k) ++ [x]) := by
        rw [Hid, show l.take (k + 1) = l.take k ++ [x] by rw [List.take_add_one, hx]; rfl, metL_snoc]
      have hck := Lib.hid (canonK_len l k (by have := hn'.out; omega))
      have hsz := hown.size_le
      have hfree := hrow.free k
      have lrow := hrow.lt
      have hbs := hbl.size
      have hrow' := Lib.hid hrow
      have hD' := Lib.hid hD
      have hx' := Lib.hid hx
      have e0 : (k : Int) < (n : Int) := by omega
      have ck : ∃ v0, wr.cell? ⟨w.heap.size + 1, k, none⟩ = some v0 := by
        rw [hrow.cell k]
        exact ⟨_, List.getElem?_eq_getElem (by simp; have := hck.out; omega)⟩
      obtain ⟨v0, ck⟩ := ck
      clear hc hr hrow hD hx hw
      by_cases hm : x ∈ metL (l.take k)
      · have hh : Maps.has D (.int .i64 x) = true := by rw [hD'.out.has]; exact decide_eq_true hm
        go_wp2_with (first | (at_lookup; refine wpList_lookup_own_ok_int _ rfl _ _ 94 rfl 3 3 .i64 lawI Tryz.underlying94 Tryz.underlying3 (zeroI _) w.heap.size k D rfl hown _ _ rfl hkey ?_; intro c hat hwc) | fail)
        have hcp : c = (pos x (metL (l.take k)) : Nat) := by
          have := hat.symm.trans (hD'.out.at_ x hm)
          simpa using this
        have hcp' := Lib.hid hcp
        clear hat hcp
        go_roundw
        case rel =>
          refine ⟨k + 1, D, by omega, by go_num, (hown.setCell (by simp) _).mono (by omega), ?_, hbl.setCell (by simp) _, ?_⟩
          · rw [hms.out, if_pos hm]; exact hD'.out
          · rw [hcs.out, ← fill_step _ k n _ hck.out hlt, ← canon_set, ← hcp'.out]
            exact hrow'.out.set k _
        case measure => simp [intOf]; omega
      · have hh : Maps.has D (.int .i64 x) = false := by rw [hD'.out.has]; exact decide_eq_false hm
        have hps : Hid ((pos x (metL (l.take k)) : Int) = (Maps.size D : Nat)) := by rw [Hid, pos_not hm, hD'.out.size]
        go_wp2_with (first | (at_lookup; refine wpList_lookup_own_ok_int _ rfl _ _ 94 rfl 3 3 .i64 lawI Tryz.underlying94 Tryz.underlying3 (zeroI _) w.heap.size k D rfl hown _ _ rfl hkey ?_; intro c hat hwc; clear hat hwc) | (at_len; refine wpList_len_own _ rfl _ 94 rfl 3 3 Tryz.underlying94 _ w.heap.size k D rfl hown ?_) | (at_mapUpdate; refine wpList_mapUpdate_own _ rfl _ _ _ 94 rfl 3 3 lawI Tryz.underlying94 _ w.heap.size k D rfl hown (by unfold maxLen; omega) _ _ _ rfl rfl hkey _ [] (plainElem_int Tryz.underlying3 (WalkArith.wf_i64 (by omega))) ?_; intro w1 hown1 hgrow1; have hrow1 := hrow'.out.grown hgrow1 (by simp); have hfree1 := hrow1.free k; have ck1 := (hrow1.cell k).trans ((hrow'.out.cell k).symm.trans ck); have lrow1 := hrow1.lt) | fail)
        have hbl1 := hbl.grown hgrow1 hbs (fun j hj => by cases hj; exact Nat.le_refl _)
        go_roundw
        case rel =>
          refine ⟨k + 1, _, by omega, by go_num, hown1.setCell (by simp) _, ?_, hbl1.setCell (by simp) _, ?_⟩
          · rw [hms.out, if_neg hm, hD'.out.size]; exact hD'.out.put hm
          · rw [hcs.out, ← fill_step _ k n _ hck.out hlt, ← canon_set, hps.out]
            exact hrow1.set k _
        case measure => simp [intOf]; omega
    · have hkn : k = n := by omega
      subst hkn
      have hfin : Owned wr w.heap.size 3 1 (.slice (some ⟨w.heap.size + 1, 0, none⟩) k k) k ((canonL l).map (Value.int .i64)) := by
        refine Owned.ofRow (rest := []) ?_ (by rw [List.length_map, canonL_len, ← hn'.out, Nat.mul_one]) (by simp) (Nat.le_refl _) (by unfold maxLen; omega) (by omega)
        rw [hn'.out, canonK_all, Nat.sub_self, List.replicate_zero, List.append_nil] at hrow
        rw [List.append_nil]; exact hrow
      clear hrow
      go_wp2_with fail
      go_ret
      exact ⟨_, rfl, hbl, hfin⟩
end Go.Proofs.YtkknklagoghljaaGreatDoor
