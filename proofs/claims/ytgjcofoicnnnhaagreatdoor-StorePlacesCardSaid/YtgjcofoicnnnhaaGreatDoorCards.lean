/-
  DERIVED. GIVEN WITH THE SEED: THE CARDS: each row of YtgjcofoicnnnhaaGreatDoorRows.lean that lists a variable, with what it lists TIED to the program's text (the seventh form; the later family's looks); each row that meets fmt, with fmt's text TOLD by the authors' own Lean function (tested against real Go, not proved from fmt's source: count such statements apart). THE CARD IS WHAT COUNTS. Prove the row's statement (the work); the ties are given (YtgjcofoicnnnhaaGreatDoorTie.lean); close each card by the builder's one call (the guide's Derived/Test/ToyasCard.lean, 'card_holds'). Laid BY PROGRAM, IN A SANDBOX (cutbox-door.mjs). By AI agents, Wed Nov 11 2026. No macro, syntax, notation, axiom, sorry.
-/
import Derived.Test.YtgjcofoicnnnhaaGreatDoorRows
import GoSem.ClaimSeven
namespace Go.Proofs.YtgjcofoicnnnhaaGreatDoor
namespace Rows

/-- THE TIED CARD OF 'coaminglaw16.StorePlaces'. -/
def storePlacesCard : Claim7 := { stood := { row := storePlacesRow, standIns := [], harness := (true, "1ebd62c1629cefe0d41dc92cf9b71c16321011ba146f84f746c7c75e90be71da"), looks := false }, kinds := [], alts := [], laidByText := true, laidKinds := [.data, .pinned], laidTests := true, laidLooks := .later }
def StorePlacesCardSaid : Prop := Claim7.holds Tryz.pinned (.plain (OpenSpec.ofChange storePlacesSpec)) storePlacesCard

/-- THE TIED CARD OF 'coaminglaw16.StoreDoes'. -/
def storeDoesCard : Claim7 := { stood := { row := storeDoesRow, standIns := [], harness := (true, "1ebd62c1629cefe0d41dc92cf9b71c16321011ba146f84f746c7c75e90be71da"), looks := false }, kinds := [], alts := [], laidByText := true, laidKinds := [.data, .pinned], laidTests := true, laidLooks := .later }
def StoreDoesCardSaid : Prop := Claim7.holds Tryz.pinned (.plain (OpenSpec.ofChange storeDoesSpec)) storeDoesCard

/-- THE SECOND FORM's CARD OF 'coaminglaw16.StorePlaces'. -/
def storePlacesUptoCard : Claim7 := { stood := { row := storePlacesUptoRow, standIns := [], harness := (true, "1ebd62c1629cefe0d41dc92cf9b71c16321011ba146f84f746c7c75e90be71da"), looks := false }, kinds := [], alts := [], laidByText := true, laidKinds := [.data, .pinned], laidTests := true, laidLooks := .later }
def StorePlacesUptoCardSaid : Prop := Claim7.holds Tryz.pinned (.plain (OpenSpec.upto storePlacesSpec)) storePlacesUptoCard

/-- THE SECOND FORM's CARD OF 'coaminglaw16.StoreDoes'. -/
def storeDoesUptoCard : Claim7 := { stood := { row := storeDoesUptoRow, standIns := [], harness := (true, "1ebd62c1629cefe0d41dc92cf9b71c16321011ba146f84f746c7c75e90be71da"), looks := false }, kinds := [], alts := [], laidByText := true, laidKinds := [.data, .pinned], laidTests := true, laidLooks := .later }
def StoreDoesUptoCardSaid : Prop := Claim7.holds Tryz.pinned (.plain (OpenSpec.upto storeDoesSpec)) storeDoesUptoCard
end Rows
end Go.Proofs.YtgjcofoicnnnhaaGreatDoor
