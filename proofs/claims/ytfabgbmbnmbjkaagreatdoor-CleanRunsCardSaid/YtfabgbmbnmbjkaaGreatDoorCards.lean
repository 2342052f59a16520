/-
  DERIVED. GIVEN WITH THE SEED: THE CARDS: each row of YtfabgbmbnmbjkaaGreatDoorRows.lean that lists a variable, with what it lists TIED to the program's text (the seventh form; the later family's looks); each row that meets fmt, with fmt's text TOLD by the authors' own Lean function (tested against real Go, not proved from fmt's source: count such statements apart). THE CARD IS WHAT COUNTS. Prove the row's statement (the work); the ties are given (YtfabgbmbnmbjkaaGreatDoorTie.lean); close each card by the builder's one call (the guide's Derived/Test/ToyasCard.lean, 'card_holds'). Laid BY PROGRAM, IN A SANDBOX (cutbox-door.mjs). By AI agents, Wed Nov 11 2026. No macro, syntax, notation, axiom, sorry.
-/
import Derived.Test.YtfabgbmbnmbjkaaGreatDoorRows
import GoSem.ClaimSeven
namespace Go.Proofs.YtfabgbmbnmbjkaaGreatDoor
namespace Rows

/-- THE TIED CARD OF 'coaminglaw16.StoreDoes'. -/
def storeDoesCard : Claim7 := { stood := { row := storeDoesRow, standIns := [], harness := (true, "3e421dba5a15666bce89902c4b007ed38b52d66ed0871cd2d3d29e1662d4c35c"), looks := false }, kinds := [], alts := [], laidByText := true, laidKinds := [.data, .pinned], laidTests := true, laidLooks := .later }
def StoreDoesCardSaid : Prop := Claim7.holds Tryz.pinned (.plain (OpenSpec.ofChange storeDoesSpec)) storeDoesCard

/-- THE TIED CARD OF 'coaminglaw17.CleanKeeps'. -/
def cleanKeepsCard : Claim7 := { stood := { row := cleanKeepsRow, standIns := [], harness := (true, "3e421dba5a15666bce89902c4b007ed38b52d66ed0871cd2d3d29e1662d4c35c"), looks := false }, kinds := [], alts := [], laidByText := true, laidKinds := [.data, .pinned], laidTests := true, laidLooks := .later }
def CleanKeepsCardSaid : Prop := Claim7.holds Tryz.pinned (.plain (OpenSpec.ofChange cleanKeepsSpec)) cleanKeepsCard

/-- THE TIED CARD OF 'coaminglaw17.CleanFrees'. -/
def cleanFreesCard : Claim7 := { stood := { row := cleanFreesRow, standIns := [], harness := (true, "3e421dba5a15666bce89902c4b007ed38b52d66ed0871cd2d3d29e1662d4c35c"), looks := false }, kinds := [], alts := [], laidByText := true, laidKinds := [.data, .pinned], laidTests := true, laidLooks := .later }
def CleanFreesCardSaid : Prop := Claim7.holds Tryz.pinned (.plain (OpenSpec.ofChange cleanFreesSpec)) cleanFreesCard

/-- THE TIED CARD OF 'coaminglaw17.CleanPicks'. -/
def cleanPicksCard : Claim7 := { stood := { row := cleanPicksRow, standIns := [], harness := (true, "3e421dba5a15666bce89902c4b007ed38b52d66ed0871cd2d3d29e1662d4c35c"), looks := false }, kinds := [], alts := [], laidByText := true, laidKinds := [.data, .pinned], laidTests := true, laidLooks := .later }
def CleanPicksCardSaid : Prop := Claim7.holds Tryz.pinned (.plain (OpenSpec.ofChange cleanPicksSpec)) cleanPicksCard

/-- THE TIED CARD OF 'coaminglaw17.CleanSeq'. -/
def cleanSeqCard : Claim7 := { stood := { row := cleanSeqRow, standIns := [], harness := (true, "3e421dba5a15666bce89902c4b007ed38b52d66ed0871cd2d3d29e1662d4c35c"), looks := false }, kinds := [], alts := [], laidByText := true, laidKinds := [.data, .pinned], laidTests := true, laidLooks := .later }
def CleanSeqCardSaid : Prop := Claim7.holds Tryz.pinned (.plain (OpenSpec.ofChange cleanSeqSpec)) cleanSeqCard

/-- THE TIED CARD OF 'coaminglaw17.CleanSteps'. -/
def cleanStepsCard : Claim7 := { stood := { row := cleanStepsRow, standIns := [], harness := (true, "3e421dba5a15666bce89902c4b007ed38b52d66ed0871cd2d3d29e1662d4c35c"), looks := false }, kinds := [], alts := [], laidByText := true, laidKinds := [.data, .pinned], laidTests := true, laidLooks := .later }
def CleanStepsCardSaid : Prop := Claim7.holds Tryz.pinned (.plain (OpenSpec.ofChange cleanStepsSpec)) cleanStepsCard

/-- THE TIED CARD OF 'coaminglaw17.CleanRuns'. -/
def cleanRunsCard : Claim7 := { stood := { row := cleanRunsRow, standIns := [], harness := (true, "3e421dba5a15666bce89902c4b007ed38b52d66ed0871cd2d3d29e1662d4c35c"), looks := false }, kinds := [], alts := [], laidByText := true, laidKinds := [.data, .pinned], laidTests := true, laidLooks := .later }
def CleanRunsCardSaid : Prop := Claim7.holds Tryz.pinned (.plain (OpenSpec.ofChange cleanRunsSpec)) cleanRunsCard

/-- THE SECOND FORM's CARD OF 'coaminglaw16.StoreDoes'. -/
def storeDoesUptoCard : Claim7 := { stood := { row := storeDoesUptoRow, standIns := [], harness := (true, "3e421dba5a15666bce89902c4b007ed38b52d66ed0871cd2d3d29e1662d4c35c"), looks := false }, kinds := [], alts := [], laidByText := true, laidKinds := [.data, .pinned], laidTests := true, laidLooks := .later }
def StoreDoesUptoCardSaid : Prop := Claim7.holds Tryz.pinned (.plain (OpenSpec.upto storeDoesSpec)) storeDoesUptoCard

/-- THE SECOND FORM's CARD OF 'coaminglaw17.CleanKeeps'. -/
def cleanKeepsUptoCard : Claim7 := { stood := { row := cleanKeepsUptoRow, standIns := [], harness := (true, "3e421dba5a15666bce89902c4b007ed38b52d66ed0871cd2d3d29e1662d4c35c"), looks := false }, kinds := [], alts := [], laidByText := true, laidKinds := [.data, .pinned], laidTests := true, laidLooks := .later }
def CleanKeepsUptoCardSaid : Prop := Claim7.holds Tryz.pinned (.plain (OpenSpec.upto cleanKeepsSpec)) cleanKeepsUptoCard

/-- THE SECOND FORM's CARD OF 'coaminglaw17.CleanFrees'. -/
def cleanFreesUptoCard : Claim7 := { stood := { row := cleanFreesUptoRow, standIns := [], harness := (true, "3e421dba5a15666bce89902c4b007ed38b52d66ed0871cd2d3d29e1662d4c35c"), looks := false }, kinds := [], alts := [], laidByText := true, laidKinds := [.data, .pinned], laidTests := true, laidLooks := .later }
def CleanFreesUptoCardSaid : Prop := Claim7.holds Tryz.pinned (.plain (OpenSpec.upto cleanFreesSpec)) cleanFreesUptoCard

/-- THE SECOND FORM's CARD OF 'coaminglaw17.CleanPicks'. -/
def cleanPicksUptoCard : Claim7 := { stood := { row := cleanPicksUptoRow, standIns := [], harness := (true, "3e421dba5a15666bce89902c4b007ed38b52d66ed0871cd2d3d29e1662d4c35c"), looks := false }, kinds := [], alts := [], laidByText := true, laidKinds := [.data, .pinned], laidTests := true, laidLooks := .later }
def CleanPicksUptoCardSaid : Prop := Claim7.holds Tryz.pinned (.plain (OpenSpec.upto cleanPicksSpec)) cleanPicksUptoCard

/-- THE SECOND FORM's CARD OF 'coaminglaw17.CleanSeq'. -/
def cleanSeqUptoCard : Claim7 := { stood := { row := cleanSeqUptoRow, standIns := [], harness := (true, "3e421dba5a15666bce89902c4b007ed38b52d66ed0871cd2d3d29e1662d4c35c"), looks := false }, kinds := [], alts := [], laidByText := true, laidKinds := [.data, .pinned], laidTests := true, laidLooks := .later }
def CleanSeqUptoCardSaid : Prop := Claim7.holds Tryz.pinned (.plain (OpenSpec.upto cleanSeqSpec)) cleanSeqUptoCard

/-- THE SECOND FORM's CARD OF 'coaminglaw17.CleanSteps'. -/
def cleanStepsUptoCard : Claim7 := { stood := { row := cleanStepsUptoRow, standIns := [], harness := (true, "3e421dba5a15666bce89902c4b007ed38b52d66ed0871cd2d3d29e1662d4c35c"), looks := false }, kinds := [], alts := [], laidByText := true, laidKinds := [.data, .pinned], laidTests := true, laidLooks := .later }
def CleanStepsUptoCardSaid : Prop := Claim7.holds Tryz.pinned (.plain (OpenSpec.upto cleanStepsSpec)) cleanStepsUptoCard

/-- THE SECOND FORM's CARD OF 'coaminglaw17.CleanRuns'. -/
def cleanRunsUptoCard : Claim7 := { stood := { row := cleanRunsUptoRow, standIns := [], harness := (true, "3e421dba5a15666bce89902c4b007ed38b52d66ed0871cd2d3d29e1662d4c35c"), looks := false }, kinds := [], alts := [], laidByText := true, laidKinds := [.data, .pinned], laidTests := true, laidLooks := .later }
def CleanRunsUptoCardSaid : Prop := Claim7.holds Tryz.pinned (.plain (OpenSpec.upto cleanRunsSpec)) cleanRunsUptoCard
end Rows
end Go.Proofs.YtfabgbmbnmbjkaaGreatDoor
