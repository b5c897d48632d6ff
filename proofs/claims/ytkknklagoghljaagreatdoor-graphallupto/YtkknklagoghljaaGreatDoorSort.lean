/- slices.SortFunc at edges, by the two orders; slices.Sort at ints. -/
import Derived.Test.YtkknklagoghljaaGreatDoorShelf
import Derived.Test.YtkknklagoghljaaGreatDoorSys3
namespace Go.Proofs.YtkknklagoghljaaGreatDoor
open Go.RowKit Go.Shelf Go.Sort Go.Lib
open Go.RowKit (Below)
instance : Inhabited Edg := ⟨⟨0, 0, 0⟩⟩
instance : Inhabited Stp := ⟨⟨0, 0⟩⟩
theorem flatK_get {α : Type} [Inhabited α] (enc : α → List Value) (k : Nat) (hk : ∀ x, (enc x).length = k) (l : List α) (j : Nat) (hj : j < l.length * k) (rest : List Value) :
    (l.flatMap enc ++ rest)[j]? = some ((flatK enc k l.toArray)[j]!) := by
  have hk0 : 0 < k := by
    rcases Nat.eq_zero_or_pos k with h | h
    · subst h; simp at hj
    · exact h
  have hi : j / k < l.length := Nat.div_lt_of_lt_mul (by rw [Nat.mul_comm]; exact hj)
  have hm : j % k < k := Nat.mod_lt _ hk0
  have hx : l[j / k]? = some l[j / k] := List.getElem?_eq_getElem hi
  have := flat_get enc k hk l (j / k) _ hx (j % k) hm rest
  rw [show j / k * k + j % k = j by rw [Nat.mul_comm]; exact Nat.div_add_mod j k] at this
  rw [this, get_flatK _ _ _ _ (by simpa using hj)]
  simp only [List.getElem!_toArray, getElem!_pos l (j / k) hi]
  rw [getElem!_pos _ _ (by rw [hk]; exact hm), List.getElem?_eq_getElem]
theorem Row.holdsK {α : Type} [Inhabited α] {enc : α → List Value} {k : Nat} (hk : ∀ x, (enc x).length = k) {w : World} {g : Nat} {e : TypeId} {l : List α} {rest : List Value} (h : Row w g e (l.flatMap enc ++ rest)) : HoldsK enc k w g 0 l.toArray := by
  intro j hj
  rw [size_flatK] at hj
  refine ⟨?_, by rw [Nat.zero_add]; exact h.free j⟩
  rw [Nat.zero_add, h.cell, flatK_get enc k hk l j (by simpa using hj) rest]
  rfl
theorem sortWorld_row {α : Type} [Inhabited α] {enc : α → List Value} {k : Nat} (hk : ∀ x, (enc x).length = k) {w : World} {g : Nat} {e : TypeId} {l : List α} {rest : List Value} (h : Row w g e (l.flatMap enc ++ rest)) (n : Nat) (d : List α) (hd : d.length = l.length) (os : Array Obj) :
    Row (sortWorldK enc k w g 0 n d.toArray os) g e (d.flatMap enc ++ rest) ∧ w.grownBy (sortWorldK enc k w g 0 n d.toArray os) (some g) := by
  have hlt := h.lt
  constructor
  · unfold Row sortWorldK grow putRowK putRow mapBlock
    simp only
    rw [Array.getElem?_append_left (by simp only [Array.size_modify]; exact hlt), Array.getElem?_modify, if_pos rfl]
    show Option.map _ w.heap[g]? = _
    unfold Row at h
    rw [h]
    simp only [Option.map_some, onCells, Option.some.injEq, Obj.cells.injEq, and_true]
    apply Array.ext_getElem?
    intro j
    simp only [putCells, Array.getElem?_mapIdx, size_flatK, Nat.zero_le, true_and, Nat.zero_add, Nat.sub_zero, List.getElem?_toArray, List.size_toArray, id]
    have hld := flat_len enc k hk d
    have hll := flat_len enc k hk l
    by_cases hj : j < d.length * k
    · rw [flatK_get enc k hk d j hj rest]
      have : j < (l.flatMap enc ++ rest).length := by rw [List.length_append, hll, ← hd]; omega
      rw [List.getElem?_eq_getElem this]
      simp [hj]
    · have hjl : ¬ j < l.length * k := by rw [← hd]; exact hj
      rw [List.getElem?_append_right (l₁ := l.flatMap enc) (by omega), List.getElem?_append_right (l₁ := d.flatMap enc) (by omega), hld, hll, hd]
      cases rest[j - l.length * k]? <;> simp [hjl]
  · refine ⟨rfl, rfl, rfl, by simp [sortWorldK, grow, putRowK, putRow, mapBlock, ahead], fun q hq hne => ?_⟩
    unfold sortWorldK grow putRowK putRow mapBlock
    simp only
    rw [Array.getElem?_append_left (by simp only [Array.size_modify]; exact hq), Array.getElem?_modify, if_neg (fun e => hne (by rw [e]))]
    rfl
theorem cmpE_lt (a b : Edg) : ltOf cmpE a b = ltE a b := by
  unfold ltOf cmpE ltE orI cmpI
  rw [decide_eq_decide]
  by_cases h1 : a.fr < b.fr <;> by_cases h2 : b.fr < a.fr <;> by_cases h3 : a.lab < b.lab <;> by_cases h4 : b.lab < a.lab <;> by_cases h5 : a.to < b.to <;> by_cases h6 : b.to < a.to <;> simp [h1, h2, h3, h4, h5, h6] <;> omega
def flipE (a : Edg) : Edg := ⟨a.to, a.lab, a.fr⟩
theorem cmpB_flip (a b : Edg) : cmpB a b = cmpE (flipE a) (flipE b) := rfl
theorem swoE : SWO (ltOf cmpE) where
  irrefl x := by rw [cmpE_lt]; exact stoE.irrefl x
  trans x y z h1 h2 := by rw [cmpE_lt] at *; exact stoE.trans x y z h1 h2
  ntrans x y z h1 h2 := by
    rw [cmpE_lt] at *
    cases h : ltE x z with
    | false => rfl
    | true =>
      rcases stoE.total x y with h3 | h3 | h3
      · rw [h1] at h3; cases h3
      · subst h3; rw [h2] at h; cases h
      · rcases stoE.total y z with h4 | h4 | h4
        · rw [h2] at h4; cases h4
        · subst h4; rw [h1] at h; cases h
        · have := stoE.trans _ _ _ (stoE.trans _ _ _ h4 h3) h
          rw [stoE.irrefl] at this; cases this
theorem cmpB_lt (a b : Edg) : ltOf cmpB a b = ltE (flipE a) (flipE b) := by
  rw [← cmpE_lt]; rfl
theorem swoB : SWO (ltOf cmpB) where
  irrefl x := swoE.irrefl (flipE x)
  trans x y z := swoE.trans (flipE x) (flipE y) (flipE z)
  ntrans x y z := swoE.ntrans (flipE x) (flipE y) (flipE z)
theorem cmpLaysE (blk off size : Nat) (w : World) : CmpLays Tryz.prog 110 #[] encE 3 cmpE blk off size w :=
  fun _ _ _ _ x y => (orderE x.fr x.lab x.to y.fr y.lab y.to _).mono fun _ _ ⟨h1, q, os, h2⟩ => ⟨h1, q, os, h2⟩
theorem sortE (g cap : Nat) (l : List Edg) (rest : List Value) (w : World) (hrow : Row w g 71 (l.flatMap encE ++ rest)) (hsz : l.length < 4611686018427387904) :
    Calls Tryz.prog 41 #[.slice (some ⟨g, 0, none⟩) l.length cap, .func (.func 110) #[] #[]] w (fun e w' => e = .returned (.tuple #[]) ∧ w.grownBy w' (some g) ∧
      ∃ l', l'.Perm l ∧ SrtLe (ltOf cmpE) l' ∧ Row w' g 71 (l'.flatMap encE ++ rest)) := by
  have eg : ∀ args w, (callFunc 110 args).run Tryz.prog w = .ok (.enter 110 args) w := enters_of Tryz.func110 (by kernel_rfl) rfl
  have hcon := AnyQ.slices_SortFunc Tryz.sortE 3 Tryz.isAgg71 Tryz.sizeOf71 encE encE_len (fun x v hv => by simp [encE] at hv; rcases hv with rfl | rfl | rfl <;> rfl) cmpE swoE 110 #[] g 0 cap l.toArray w eg (cmpLaysE g 0 _ w) (Row.holdsK encE_len hrow) hrow.lt (by simpa using hsz)
  refine Calls.mono hcon ?_
  rintro e w' ⟨he, d', n, os, ⟨hsize, _, hperm⟩, hsort, rfl⟩
  have hlen : d'.toList.length = l.length := by simpa using hsize
  have hr := sortWorld_row encE_len hrow n d'.toList hlen os
  refine ⟨he, hr.2, d'.toList, ?_, ?_, hr.1⟩
  · have e1 : (d'.extract 0 l.toArray.size).toList = d'.toList := by simp [← hlen]
    have e2 : (l.toArray.extract 0 l.toArray.size).toList = l := by simp
    rw [e1, e2] at hperm; exact hperm
  · refine List.pairwise_iff_getElem.2 fun i j hi hj hij => ?_
    have := hsort i j (Nat.zero_le _) hij (by simp; omega)
    rw [getElem!_pos d' j (by simpa using hj), getElem!_pos d' i (by simpa using hi)] at this
    simpa using this
theorem cmpLaysB (blk off size : Nat) (w : World) : CmpLays Tryz.prog 42 #[] encE 3 cmpB blk off size w :=
  fun _ _ _ _ x y => (orderB x.fr x.lab x.to y.fr y.lab y.to _).mono fun _ _ ⟨h1, q, os, h2⟩ => ⟨h1, q, os, h2⟩
theorem sortB (g cap : Nat) (l : List Edg) (rest : List Value) (w : World) (hrow : Row w g 71 (l.flatMap encE ++ rest)) (hsz : l.length < 4611686018427387904) :
    Calls Tryz.prog 41 #[.slice (some ⟨g, 0, none⟩) l.length cap, .func (.func 42) #[] #[]] w (fun e w' => e = .returned (.tuple #[]) ∧ w.grownBy w' (some g) ∧
      ∃ l', l'.Perm l ∧ SrtLe (ltOf cmpB) l' ∧ Row w' g 71 (l'.flatMap encE ++ rest)) := by
  have eg : ∀ args w, (callFunc 42 args).run Tryz.prog w = .ok (.enter 42 args) w := enters_of Tryz.func42 (by kernel_rfl) rfl
  have hcon := AnyQ.slices_SortFunc Tryz.sortE 3 Tryz.isAgg71 Tryz.sizeOf71 encE encE_len (fun x v hv => by simp [encE] at hv; rcases hv with rfl | rfl | rfl <;> rfl) cmpB swoB 42 #[] g 0 cap l.toArray w eg (cmpLaysB g 0 _ w) (Row.holdsK encE_len hrow) hrow.lt (by simpa using hsz)
  refine Calls.mono hcon ?_
  rintro e w' ⟨he, d', n, os, ⟨hsize, _, hperm⟩, hsort, rfl⟩
  have hlen : d'.toList.length = l.length := by simpa using hsize
  have hr := sortWorld_row encE_len hrow n d'.toList hlen os
  refine ⟨he, hr.2, d'.toList, ?_, ?_, hr.1⟩
  · have e1 : (d'.extract 0 l.toArray.size).toList = d'.toList := by simp [← hlen]
    have e2 : (l.toArray.extract 0 l.toArray.size).toList = l := by simp
    rw [e1, e2] at hperm; exact hperm
  · refine List.pairwise_iff_getElem.2 fun i j hi hj hij => ?_
    have := hsort i j (Nat.zero_le _) hij (by simp; omega)
    rw [getElem!_pos d' j (by simpa using hj), getElem!_pos d' i (by simpa using hi)] at this
    simpa using this
set_option maxRecDepth 100000 in
theorem ins0E (ad : Option Addr) (c f : Nat) (w : World) :
    Calls Tryz.prog 133 #[.slice ad 0 c, .int .i64 0, .int .i64 0, .func (.func f) #[] #[]] w (fun e w' => e = .returned (.tuple #[]) ∧ w' = w) := by
  go_enter Tryz.func133, Tryz.ntmps133
  go_wp2
  refine wp_loop_once ?_
  go_wp2
  go_end0
  exact ⟨rfl, rfl⟩
set_option maxRecDepth 100000 in
set_option maxHeartbeats 400000 in
theorem sort0E (ad : Option Addr) (c f : Nat) (w : World) :
    Calls Tryz.prog 41 #[.slice ad 0 c, .func (.func f) #[] #[]] w (fun e w' => e = .returned (.tuple #[]) ∧ w' = w) := by
  go_enter Tryz.func41, Tryz.ntmps41
  go_wp2
  refine wp_loop_once ?_
  go_wp2_with (go_at_call 133; refine (ins0E _ _ _ _).mono ?_; rintro e w' ⟨rfl, rfl⟩)
  refine bodyPost_ret (results_none rfl _ _ _) rfl ?_
  go_wp2_with fail
  go_end0
  exact ⟨rfl, rfl⟩
set_option maxRecDepth 100000 in
theorem compact0E (ad : Option Addr) (c : Nat) (w : World) :
    Calls Tryz.prog 111 #[.slice ad 0 c] w (fun e w' => e = .returned (.slice ad 0 c) ∧ w' = w) := by
  go_enter Tryz.func111, Tryz.ntmps111
  go_wp2_with fail
  go_ret
  exact ⟨rfl, rfl⟩
/-- the order in which the sort leaves edges, and what Compact makes of them -/
theorem srtLeE {l : List Edg} (h : SrtLe (ltOf cmpE) l) : SrtLe ltE l := h.imp (fun {a b} hab => by rw [cmpE_lt] at hab; exact hab)
theorem dda_normE {l l' : List Edg} (hp : l'.Perm l) (hs : SrtLe (ltOf cmpE) l') : dda l' = normE l := dda_sorted stoE l' l (srtLeE hs) (fun x => hp.mem_iff)
theorem one_cellE (l : List Edg) : ∀ u ∈ l.flatMap encE, u.oneCell' = true := by
  intro u hu
  obtain ⟨e, _, hu⟩ := List.mem_flatMap.1 hu
  simp [encE] at hu; rcases hu with rfl | rfl | rfl <;> rfl
theorem one_cellS (l : List Stp) : ∀ u ∈ l.flatMap encS, u.oneCell' = true := by
  intro u hu
  obtain ⟨e, _, hu⟩ := List.mem_flatMap.1 hu
  simp [encS] at hu; rcases hu with rfl | rfl <;> rfl
theorem normE_len (l : List Edg) : (normE l).length ≤ l.length := length_snorm_le l
theorem compactN (g cap n : Nat) (l l' : List Edg) (rest : List Value) (w : World) (hn : l.length = n) (hp : l'.Perm l) (hs : SrtLe (ltOf cmpE) l') (hrow : Row w g 71 (l'.flatMap encE ++ rest)) (hcap : n ≤ cap) (hn' : n < 1099511627776) :
    Calls Tryz.prog 111 #[.slice (some ⟨g, 0, none⟩) n cap] w (fun e w' => e = .returned (.slice (some ⟨g, 0, none⟩) (normE l).length cap) ∧ w.grownBy w' (some g) ∧
      ∃ rest', Row w' g 71 ((normE l).flatMap encE ++ rest') ∧ rest'.length = (n - (normE l).length) * 3 + rest.length) := by
  have hll := hp.length_eq.trans hn
  have h := compactE g cap l' rest w hrow (by omega) (by omega)
  rw [dda_normE hp hs, hll] at h
  exact h
/-- system.Sorted -/
def SortedPost (l : List Edg) (w : World) (e : Ending) (w' : World) : Prop := ∃ ad cap, e = .returned (.slice ad (normE l).length cap) ∧ Below w.heap.size w w' ∧ Owned w' w.heap.size 71 3 (.slice ad (normE l).length cap) (normE l).length ((normE l).flatMap encE)
set_option maxRecDepth 100000 in
set_option maxHeartbeats 400000 in
theorem sorted_any (l : List Edg) (v : Value) (w : World) (hr : Reads w v l.length 3 (l.flatMap encE)) (hn : l.length < 1099511627776) :
    Calls Tryz.prog 54 #[v] w (SortedPost l w) := by
  go_enter Tryz.func54, Tryz.ntmps54
  go_wp2_with fail
  refine (cloneE v l.length _ w hr (one_cellE l) hn).mono ?_
  rintro e w1 ⟨v1, rfl, hb1, ho1⟩
  rcases Nat.eq_zero_or_pos l.length with h0 | h0
  · have hl : l = [] := List.eq_nil_of_length_eq_zero h0
    subst hl
    have ho := ho1
    obtain ⟨_, ad, cap, rfl, _⟩ := ho1
    go_wp2_with fail
    refine (sort0E _ _ _ _).mono ?_
    rintro e w2 ⟨rfl, rfl⟩
    go_wp2_with fail
    refine (compact0E _ _ _).mono ?_
    rintro e w3 ⟨rfl, rfl⟩
    go_wp2_with fail
    go_ret
    exact ⟨_, _, rfl, hb1, ho⟩
  · obtain ⟨g, cap, rest, rfl, hnc, hcm, hB, hrow, hrl, hmb⟩ := ho1.row h0
    go_wp2_with fail
    refine (sortE g cap l rest w1 hrow (by omega)).mono ?_
    rintro e w2 ⟨rfl, hg2, l', hp, hs, hrow2⟩
    go_wp2_with fail
    refine (compactN g cap l.length l l' rest w2 rfl hp hs hrow2 hnc hn).mono ?_
    rintro e w3 ⟨rfl, hg3, rest3, hrow3, hrl3⟩
    have hle := normE_len l
    go_wp2_with fail
    go_ret
    refine ⟨_, _, rfl, (hb1.grown hg2 hb1.size (fun q hq => by cases hq; exact hB)).grown hg3 (by have := hb1.size; have := hg2.size; omega) (fun q hq => by cases hq; exact hB), ?_⟩
    exact Owned.ofRow hrow3 (flat_len encE 3 encE_len _) (by rw [hrl3, hrl]; omega) (by omega) hcm hB
end Go.Proofs.YtkknklagoghljaaGreatDoor
