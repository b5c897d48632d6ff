/-
  DERIVED. GIVEN WITH THE SEED: THE CARDS: each row of YtkknklagoghljaaGreatDoorRows.lean that lists a variable, with what it lists TIED to the program's text (the seventh form; the later family's looks); each row that meets fmt, with fmt's text TOLD by the authors' own Lean function (tested against real Go, not proved from fmt's source: count such statements apart). THE CARD IS WHAT COUNTS. Prove the row's statement (the work); the ties are given (YtkknklagoghljaaGreatDoorTie.lean); close each card by the builder's one call (the guide's Derived/Test/ToyasCard.lean, 'card_holds'). Laid BY PROGRAM, IN A SANDBOX (cutbox-door.mjs). By AI agents, Wed Nov 11 2026. No macro, syntax, notation, axiom, sorry.
-/
import Derived.Test.YtkknklagoghljaaGreatDoorRows
import GoSem.ClaimSeven
namespace Go.Proofs.YtkknklagoghljaaGreatDoor
namespace Rows

/-- THE TIED CARD OF 'semblancelaw7.GraphAll'. -/
def graphAllCard : Claim7 := { stood := { row := graphAllRow, standIns := [], harness := (true, "1f04f081d40114923de6315853f04d1ed4cf64e301848de51a96560bf230c13a"), looks := true }, kinds := [], alts := [], laidByText := true, laidKinds := [.sentinel], laidTests := true, laidLooks := .later }
def GraphAllCardSaid : Prop := Claim7.holds Tryz.pinned (.plain (OpenSpec.ofChange graphAllSpec)) graphAllCard

/-- THE TIED CARD OF 'semblancelaw7.GraphPlays'. -/
def graphPlaysCard : Claim7 := { stood := { row := graphPlaysRow, standIns := [], harness := (true, "1f04f081d40114923de6315853f04d1ed4cf64e301848de51a96560bf230c13a"), looks := true }, kinds := [], alts := [], laidByText := true, laidKinds := [.sentinel, .sentinel, .sentinel, .sentinel, .sentinel, .sentinel, .sentinel, .sentinel, .sentinel, .sentinel, .sentinel, .sentinel, .sentinel, .sentinel, .sentinel, .sentinel, .sentinel, .sentinel, .sentinel], laidTests := true, laidLooks := .later }
def GraphPlaysCardSaid : Prop := Claim7.holds Tryz.pinned (.plain (OpenSpec.ofChange graphPlaysSpec)) graphPlaysCard

/-- THE SECOND FORM's CARD OF 'semblancelaw7.GraphAll'. -/
def graphAllUptoCard : Claim7 := { stood := { row := graphAllUptoRow, standIns := [], harness := (true, "1f04f081d40114923de6315853f04d1ed4cf64e301848de51a96560bf230c13a"), looks := true }, kinds := [], alts := [], laidByText := true, laidKinds := [.sentinel], laidTests := true, laidLooks := .later }
def GraphAllUptoCardSaid : Prop := Claim7.holds Tryz.pinned (.plain (OpenSpec.upto graphAllSpec)) graphAllUptoCard

/-- THE SECOND FORM's CARD OF 'semblancelaw7.GraphPlays'. -/
def graphPlaysUptoCard : Claim7 := { stood := { row := graphPlaysUptoRow, standIns := [], harness := (true, "1f04f081d40114923de6315853f04d1ed4cf64e301848de51a96560bf230c13a"), looks := true }, kinds := [], alts := [], laidByText := true, laidKinds := [.sentinel, .sentinel, .sentinel, .sentinel, .sentinel, .sentinel, .sentinel, .sentinel, .sentinel, .sentinel, .sentinel, .sentinel, .sentinel, .sentinel, .sentinel, .sentinel, .sentinel, .sentinel, .sentinel], laidTests := true, laidLooks := .later }
def GraphPlaysUptoCardSaid : Prop := Claim7.holds Tryz.pinned (.plain (OpenSpec.upto graphPlaysSpec)) graphPlaysUptoCard
end Rows
end Go.Proofs.YtkknklagoghljaaGreatDoor
