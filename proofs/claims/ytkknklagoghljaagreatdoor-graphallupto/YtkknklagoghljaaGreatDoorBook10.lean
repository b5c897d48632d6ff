/- The book's calls in one form: what each leaves of the book. -/
import Derived.Test.YtkknklagoghljaaGreatDoorBook5N
import Derived.Test.YtkknklagoghljaaGreatDoorBook6
import Derived.Test.YtkknklagoghljaaGreatDoorBook8
import Derived.Test.YtkknklagoghljaaGreatDoorBook9
namespace Go.Proofs.YtkknklagoghljaaGreatDoor
open Go.RowKit
open Go.RowKit (Below)
theorem BookMem.cellN {w : World} {bk B : Nat} {hv : Nat → Value} {ls : Nat → List Lst} (h : BookMem w bk B hv ls) {j : Nat} (hj : j < 22) (he : ls j = []) : ∃ ad cap, w.cell? ⟨bk, j, none⟩ = some (.slice ad 0 cap) := by
  obtain ⟨ad, cap, hv'⟩ := (h.hdr j).form
  rw [he] at hv'
  exact ⟨ad, cap, by rw [h.cell hj, hv']; rfl⟩
theorem BookMem.cellV {w : World} {bk B : Nat} {hv : Nat → Value} {ls : Nat → List Lst} (h : BookMem w bk B hv ls) {j : Nat} (hj : j < 22) : ∃ ad cap, hv j = .slice ad (ls j).length cap ∧ w.cell? ⟨bk, j, none⟩ = some (.slice ad (ls j).length cap) ∧ (0 < (ls j).length → ∃ b o, ad = some ⟨b, o, none⟩ ∧ CellsAt w b o ((ls j).map Lst.v) ∧ myBlock (hv j) = some b) := by
  obtain ⟨ad, cap, hv'⟩ := (h.hdr j).form
  refine ⟨ad, cap, hv', by rw [h.cell hj, hv'], fun h0 => ?_⟩
  obtain ⟨g, cap', hg1, hg2, _⟩ := owned_addr (h.hdr j) h0
  obtain ⟨_, ad2, c2, hv2, hc⟩ := (h.hdr j).reads
  obtain ⟨b, o, he, hcl⟩ := hc h0
  rw [hv'] at hv2 hg1
  cases hv2; cases hg1; cases he
  exact ⟨_, _, rfl, hcl, by rw [hg2]⟩
/-- What the book must be for its lists to be found apart. -/
structure BookOk (ls : Nat → List Lst) : Prop where
  aI : AlikeI (ls 0) (ls 1)
  tI : TypedI (ls 0)
  lI : (ls 0).length ≤ 400 ∧ (ls 1).length ≤ 400
  aS : AlikeS (ls 8) (ls 9)
  tS : TypedS (ls 8)
  lS : (ls 8).length ≤ 400 ∧ (ls 9).length ≤ 400
  aE : AlikeE (ls 10) (ls 11)
  tE : TypedE (ls 10)
  lE : (ls 10).length ≤ 400 ∧ (ls 11).length ≤ 400
  other : ∀ j, j ≠ 0 → j ≠ 1 → j ≠ 8 → j ≠ 9 → j ≠ 10 → j ≠ 11 → ls j = []
theorem stillBInts {w : World} {bk B : Nat} {hv : Nat → Value} {ls : Nat → List Lst} (hM : BookMem w bk B hv ls) (hO : BookOk ls) :
    Calls Tryz.prog 55 #[.pointer (some ⟨bk, 0, none⟩)] w (fun e w' => e = .returned (.bool true) ∧ Below B w w' ∧ BookMem w' bk B hv ls) := by
  refine (stillI w bk B hv ls hM hO.aI hO.lI.1).mono ?_
  rintro e w' ⟨he, m, rfl⟩
  exact ⟨he, below_drewN (Below.refl _ _) _, hM.ext (below_drewN (Below.refl _ _) _)⟩
theorem stillBSteps {w : World} {bk B : Nat} {hv : Nat → Value} {ls : Nat → List Lst} (hM : BookMem w bk B hv ls) (hO : BookOk ls) :
    Calls Tryz.prog 59 #[.pointer (some ⟨bk, 0, none⟩)] w (fun e w' => e = .returned (.bool true) ∧ Below B w w' ∧ BookMem w' bk B hv ls) := by
  refine (stillS w bk B hv ls hM hO.aS hO.lS.1).mono ?_
  rintro e w' ⟨he, m, rfl⟩
  exact ⟨he, below_drewN (Below.refl _ _) _, hM.ext (below_drewN (Below.refl _ _) _)⟩
theorem stillBEdges {w : World} {bk B : Nat} {hv : Nat → Value} {ls : Nat → List Lst} (hM : BookMem w bk B hv ls) (hO : BookOk ls) :
    Calls Tryz.prog 60 #[.pointer (some ⟨bk, 0, none⟩)] w (fun e w' => e = .returned (.bool true) ∧ Below B w w' ∧ BookMem w' bk B hv ls) := by
  refine (stillE w bk B hv ls hM hO.aE hO.lE.1).mono ?_
  rintro e w' ⟨he, m, rfl⟩
  exact ⟨he, below_drewN (Below.refl _ _) _, hM.ext (below_drewN (Below.refl _ _) _)⟩
theorem stillBTokens {w : World} {bk B : Nat} {hv : Nat → Value} {ls : Nat → List Lst} (hM : BookMem w bk B hv ls) (hO : BookOk ls) :
    Calls Tryz.prog 56 #[.pointer (some ⟨bk, 0, none⟩)] w (fun e w' => e = .returned (.bool true) ∧ Below B w w' ∧ BookMem w' bk B hv ls) := by
  obtain ⟨ad, cap, hc⟩ := hM.cellN (j := 2) (by decide) (hO.other 2 (by decide) (by decide) (by decide) (by decide) (by decide) (by decide))
  refine (stillNTokens w bk ad cap hc hM.lt).mono ?_
  rintro e w' ⟨he, rfl⟩
  exact ⟨he, Below.refl _ _, hM⟩
theorem putBTokens {w : World} {bk B : Nat} {hv : Nat → Value} {ls : Nat → List Lst} (hM : BookMem w bk B hv ls) (he : ls 2 = []) :
    Calls Tryz.prog 67 #[.pointer (some ⟨bk, 0, none⟩)] w (fun e w' => e = .returned (.tuple #[]) ∧ Below B w w' ∧ BookMem w' bk B hv ls) := by
  obtain ⟨ad, cap, hc⟩ := hM.cellN (j := 2) (by decide) he
  refine (putNTokens w bk ad cap hc hM.lt).mono ?_
  rintro e w' ⟨he, rfl⟩
  exact ⟨he, Below.refl _ _, hM⟩
theorem stillBTexts {w : World} {bk B : Nat} {hv : Nat → Value} {ls : Nat → List Lst} (hM : BookMem w bk B hv ls) (hO : BookOk ls) :
    Calls Tryz.prog 57 #[.pointer (some ⟨bk, 0, none⟩)] w (fun e w' => e = .returned (.bool true) ∧ Below B w w' ∧ BookMem w' bk B hv ls) := by
  obtain ⟨ad, cap, hc⟩ := hM.cellN (j := 4) (by decide) (hO.other 4 (by decide) (by decide) (by decide) (by decide) (by decide) (by decide))
  refine (stillNTexts w bk ad cap hc hM.lt).mono ?_
  rintro e w' ⟨he, rfl⟩
  exact ⟨he, Below.refl _ _, hM⟩
theorem putBTexts {w : World} {bk B : Nat} {hv : Nat → Value} {ls : Nat → List Lst} (hM : BookMem w bk B hv ls) (he : ls 4 = []) :
    Calls Tryz.prog 68 #[.pointer (some ⟨bk, 0, none⟩)] w (fun e w' => e = .returned (.tuple #[]) ∧ Below B w w' ∧ BookMem w' bk B hv ls) := by
  obtain ⟨ad, cap, hc⟩ := hM.cellN (j := 4) (by decide) he
  refine (putNTexts w bk ad cap hc hM.lt).mono ?_
  rintro e w' ⟨he, rfl⟩
  exact ⟨he, Below.refl _ _, hM⟩
theorem stillBBools {w : World} {bk B : Nat} {hv : Nat → Value} {ls : Nat → List Lst} (hM : BookMem w bk B hv ls) (hO : BookOk ls) :
    Calls Tryz.prog 58 #[.pointer (some ⟨bk, 0, none⟩)] w (fun e w' => e = .returned (.bool true) ∧ Below B w w' ∧ BookMem w' bk B hv ls) := by
  obtain ⟨ad, cap, hc⟩ := hM.cellN (j := 6) (by decide) (hO.other 6 (by decide) (by decide) (by decide) (by decide) (by decide) (by decide))
  refine (stillNBools w bk ad cap hc hM.lt).mono ?_
  rintro e w' ⟨he, rfl⟩
  exact ⟨he, Below.refl _ _, hM⟩
theorem putBBools {w : World} {bk B : Nat} {hv : Nat → Value} {ls : Nat → List Lst} (hM : BookMem w bk B hv ls) (he : ls 6 = []) :
    Calls Tryz.prog 69 #[.pointer (some ⟨bk, 0, none⟩)] w (fun e w' => e = .returned (.tuple #[]) ∧ Below B w w' ∧ BookMem w' bk B hv ls) := by
  obtain ⟨ad, cap, hc⟩ := hM.cellN (j := 6) (by decide) he
  refine (putNBools w bk ad cap hc hM.lt).mono ?_
  rintro e w' ⟨he, rfl⟩
  exact ⟨he, Below.refl _ _, hM⟩
theorem stillBNodes {w : World} {bk B : Nat} {hv : Nat → Value} {ls : Nat → List Lst} (hM : BookMem w bk B hv ls) (hO : BookOk ls) :
    Calls Tryz.prog 61 #[.pointer (some ⟨bk, 0, none⟩)] w (fun e w' => e = .returned (.bool true) ∧ Below B w w' ∧ BookMem w' bk B hv ls) := by
  obtain ⟨ad, cap, hc⟩ := hM.cellN (j := 12) (by decide) (hO.other 12 (by decide) (by decide) (by decide) (by decide) (by decide) (by decide))
  refine (stillNNodes w bk ad cap hc hM.lt).mono ?_
  rintro e w' ⟨he, rfl⟩
  exact ⟨he, Below.refl _ _, hM⟩
theorem putBNodes {w : World} {bk B : Nat} {hv : Nat → Value} {ls : Nat → List Lst} (hM : BookMem w bk B hv ls) (he : ls 12 = []) :
    Calls Tryz.prog 72 #[.pointer (some ⟨bk, 0, none⟩)] w (fun e w' => e = .returned (.tuple #[]) ∧ Below B w w' ∧ BookMem w' bk B hv ls) := by
  obtain ⟨ad, cap, hc⟩ := hM.cellN (j := 12) (by decide) he
  refine (putNNodes w bk ad cap hc hM.lt).mono ?_
  rintro e w' ⟨he, rfl⟩
  exact ⟨he, Below.refl _ _, hM⟩
theorem stillBPairs {w : World} {bk B : Nat} {hv : Nat → Value} {ls : Nat → List Lst} (hM : BookMem w bk B hv ls) (hO : BookOk ls) :
    Calls Tryz.prog 62 #[.pointer (some ⟨bk, 0, none⟩)] w (fun e w' => e = .returned (.bool true) ∧ Below B w w' ∧ BookMem w' bk B hv ls) := by
  obtain ⟨ad, cap, hc⟩ := hM.cellN (j := 14) (by decide) (hO.other 14 (by decide) (by decide) (by decide) (by decide) (by decide) (by decide))
  refine (stillNPairs w bk ad cap hc hM.lt).mono ?_
  rintro e w' ⟨he, rfl⟩
  exact ⟨he, Below.refl _ _, hM⟩
theorem putBPairs {w : World} {bk B : Nat} {hv : Nat → Value} {ls : Nat → List Lst} (hM : BookMem w bk B hv ls) (he : ls 14 = []) :
    Calls Tryz.prog 73 #[.pointer (some ⟨bk, 0, none⟩)] w (fun e w' => e = .returned (.tuple #[]) ∧ Below B w w' ∧ BookMem w' bk B hv ls) := by
  obtain ⟨ad, cap, hc⟩ := hM.cellN (j := 14) (by decide) he
  refine (putNPairs w bk ad cap hc hM.lt).mono ?_
  rintro e w' ⟨he, rfl⟩
  exact ⟨he, Below.refl _ _, hM⟩
theorem stillBRows {w : World} {bk B : Nat} {hv : Nat → Value} {ls : Nat → List Lst} (hM : BookMem w bk B hv ls) (hO : BookOk ls) :
    Calls Tryz.prog 63 #[.pointer (some ⟨bk, 0, none⟩)] w (fun e w' => e = .returned (.bool true) ∧ Below B w w' ∧ BookMem w' bk B hv ls) := by
  obtain ⟨ad, cap, hc⟩ := hM.cellN (j := 16) (by decide) (hO.other 16 (by decide) (by decide) (by decide) (by decide) (by decide) (by decide))
  refine (stillNRows w bk ad cap hc hM.lt).mono ?_
  rintro e w' ⟨he, rfl⟩
  exact ⟨he, Below.refl _ _, hM⟩
theorem putBRows {w : World} {bk B : Nat} {hv : Nat → Value} {ls : Nat → List Lst} (hM : BookMem w bk B hv ls) (he : ls 16 = []) :
    Calls Tryz.prog 74 #[.pointer (some ⟨bk, 0, none⟩)] w (fun e w' => e = .returned (.tuple #[]) ∧ Below B w w' ∧ BookMem w' bk B hv ls) := by
  obtain ⟨ad, cap, hc⟩ := hM.cellN (j := 16) (by decide) he
  refine (putNRows w bk ad cap hc hM.lt).mono ?_
  rintro e w' ⟨he, rfl⟩
  exact ⟨he, Below.refl _ _, hM⟩
theorem stillBLines {w : World} {bk B : Nat} {hv : Nat → Value} {ls : Nat → List Lst} (hM : BookMem w bk B hv ls) (hO : BookOk ls) :
    Calls Tryz.prog 64 #[.pointer (some ⟨bk, 0, none⟩)] w (fun e w' => e = .returned (.bool true) ∧ Below B w w' ∧ BookMem w' bk B hv ls) := by
  obtain ⟨ad, cap, hc⟩ := hM.cellN (j := 18) (by decide) (hO.other 18 (by decide) (by decide) (by decide) (by decide) (by decide) (by decide))
  refine (stillNLines w bk ad cap hc hM.lt).mono ?_
  rintro e w' ⟨he, rfl⟩
  exact ⟨he, Below.refl _ _, hM⟩
theorem putBLines {w : World} {bk B : Nat} {hv : Nat → Value} {ls : Nat → List Lst} (hM : BookMem w bk B hv ls) (he : ls 18 = []) :
    Calls Tryz.prog 75 #[.pointer (some ⟨bk, 0, none⟩)] w (fun e w' => e = .returned (.tuple #[]) ∧ Below B w w' ∧ BookMem w' bk B hv ls) := by
  obtain ⟨ad, cap, hc⟩ := hM.cellN (j := 18) (by decide) he
  refine (putNLines w bk ad cap hc hM.lt).mono ?_
  rintro e w' ⟨he, rfl⟩
  exact ⟨he, Below.refl _ _, hM⟩
theorem stillBWalks {w : World} {bk B : Nat} {hv : Nat → Value} {ls : Nat → List Lst} (hM : BookMem w bk B hv ls) (hO : BookOk ls) :
    Calls Tryz.prog 65 #[.pointer (some ⟨bk, 0, none⟩)] w (fun e w' => e = .returned (.bool true) ∧ Below B w w' ∧ BookMem w' bk B hv ls) := by
  obtain ⟨ad, cap, hc⟩ := hM.cellN (j := 20) (by decide) (hO.other 20 (by decide) (by decide) (by decide) (by decide) (by decide) (by decide))
  refine (stillNWalks w bk ad cap hc hM.lt).mono ?_
  rintro e w' ⟨he, rfl⟩
  exact ⟨he, Below.refl _ _, hM⟩
theorem putBWalks {w : World} {bk B : Nat} {hv : Nat → Value} {ls : Nat → List Lst} (hM : BookMem w bk B hv ls) (he : ls 20 = []) :
    Calls Tryz.prog 76 #[.pointer (some ⟨bk, 0, none⟩)] w (fun e w' => e = .returned (.tuple #[]) ∧ Below B w w' ∧ BookMem w' bk B hv ls) := by
  obtain ⟨ad, cap, hc⟩ := hM.cellN (j := 20) (by decide) he
  refine (putNWalks w bk ad cap hc hM.lt).mono ?_
  rintro e w' ⟨he, rfl⟩
  exact ⟨he, Below.refl _ _, hM⟩
/-- A list of marked lists, to be read. -/
def MarkedAtI (w : World) (v : Value) : Prop := ∃ ad cap us, v = .slice ad us.length cap ∧ Reads w v us.length 1 us ∧ (∀ (a : Nat) (u : Value), us[a]? = some u → ∃ n, Reads w u n 1 ((marksI a 0 n).flatMap encI) ∧ n < 200000000) ∧ us.length ≤ 400
theorem MarkedAtI.ext {w w' : World} {v : Value} (h : MarkedAtI w v) (hb : Below w.heap.size w w') : MarkedAtI w' v := by
  obtain ⟨ad, cap, us, h1, h2, h3, h4⟩ := h
  exact ⟨ad, cap, us, h1, h2.ext hb, fun a u hu => by obtain ⟨n, hn, hn2⟩ := h3 a u hu; exact ⟨n, hn.ext hb, hn2⟩, h4⟩
theorem markedBInts {w : World} {v : Value} (h : MarkedAtI w v) :
    Calls Tryz.prog 88 #[v] w (fun e w' => e = .returned (.bool true) ∧ Below w.heap.size w w') := by
  obtain ⟨ad, cap, us, rfl, h2, h3, h4⟩ := h
  exact markedLI w ad cap us h2 h3 h4
def MarkedAtS (w : World) (v : Value) : Prop := ∃ ad cap us, v = .slice ad us.length cap ∧ Reads w v us.length 1 us ∧ (∀ (a : Nat) (u : Value), us[a]? = some u → ∃ n, Reads w u n 2 ((marksS a 0 n).flatMap encS) ∧ n < 200000000) ∧ us.length ≤ 400
theorem MarkedAtS.ext {w w' : World} {v : Value} (h : MarkedAtS w v) (hb : Below w.heap.size w w') : MarkedAtS w' v := by
  obtain ⟨ad, cap, us, h1, h2, h3, h4⟩ := h
  exact ⟨ad, cap, us, h1, h2.ext hb, fun a u hu => by obtain ⟨n, hn, hn2⟩ := h3 a u hu; exact ⟨n, hn.ext hb, hn2⟩, h4⟩
theorem markedBSteps {w : World} {v : Value} (h : MarkedAtS w v) :
    Calls Tryz.prog 92 #[v] w (fun e w' => e = .returned (.bool true) ∧ Below w.heap.size w w') := by
  obtain ⟨ad, cap, us, rfl, h2, h3, h4⟩ := h
  exact markedLS w ad cap us h2 h3 h4
def MarkedAtE (w : World) (v : Value) : Prop := ∃ ad cap us, v = .slice ad us.length cap ∧ Reads w v us.length 1 us ∧ (∀ (a : Nat) (u : Value), us[a]? = some u → ∃ n, Reads w u n 3 ((marksE a 0 n).flatMap encE) ∧ n < 200000000) ∧ us.length ≤ 400
theorem MarkedAtE.ext {w w' : World} {v : Value} (h : MarkedAtE w v) (hb : Below w.heap.size w w') : MarkedAtE w' v := by
  obtain ⟨ad, cap, us, h1, h2, h3, h4⟩ := h
  exact ⟨ad, cap, us, h1, h2.ext hb, fun a u hu => by obtain ⟨n, hn, hn2⟩ := h3 a u hu; exact ⟨n, hn.ext hb, hn2⟩, h4⟩
theorem markedBEdges {w : World} {v : Value} (h : MarkedAtE w v) :
    Calls Tryz.prog 93 #[v] w (fun e w' => e = .returned (.bool true) ∧ Below w.heap.size w w') := by
  obtain ⟨ad, cap, us, rfl, h2, h3, h4⟩ := h
  exact markedLE w ad cap us h2 h3 h4
end Go.Proofs.YtkknklagoghljaaGreatDoor
