/-
  DERIVED. GIVEN WITH THE SEED: THE CARDS: each row of YtgjcofoicnnnhaaDoorRows.lean that lists a variable, with what it lists TIED to the program's text (the seventh form; the later family's looks); each row that meets fmt, with fmt's text TOLD by the authors' own Lean function (tested against real Go, not proved from fmt's source: count such statements apart). THE CARD IS WHAT COUNTS. Prove the row's statement (the work); the ties are given (YtgjcofoicnnnhaaDoorTie.lean); close each card by the builder's one call (the guide's Derived/Test/ToyasCard.lean, 'card_holds'). Laid BY PROGRAM, IN A SANDBOX (cutbox-door.mjs). By AI agents, Wed Nov 11 2026. No macro, syntax, notation, axiom, sorry.
-/
import Derived.Test.YtgjcofoicnnnhaaDoorRows
import GoSem.ClaimSeven
namespace Go.Proofs.YtgjcofoicnnnhaaDoor
namespace Rows

/-- THE TIED CARD OF 'coaminglaw16.StoreReads'. -/
def storeReadsCard : Claim7 := { stood := { row := storeReadsRow, standIns := [], harness := (true, "7876cc65e6f5febe778c9f2c48be2ebc90f39afe5ea3e3a3a6981bf079824f28"), looks := false }, kinds := [], alts := [], laidByText := true, laidKinds := [.data, .pinned], laidTests := true, laidLooks := .later }
def StoreReadsCardSaid : Prop := Claim7.holds Tryd.pinned (.plain (OpenSpec.ofChange storeReadsSpec)) storeReadsCard

/-- THE TIED CARD OF 'coaminglaw16.StoreOwn'. -/
def storeOwnCard : Claim7 := { stood := { row := storeOwnRow, standIns := [], harness := (true, "7876cc65e6f5febe778c9f2c48be2ebc90f39afe5ea3e3a3a6981bf079824f28"), looks := false }, kinds := [], alts := [], laidByText := true, laidKinds := [.data, .pinned], laidTests := true, laidLooks := .later }
def StoreOwnCardSaid : Prop := Claim7.holds Tryd.pinned (.plain (OpenSpec.ofChange storeOwnSpec)) storeOwnCard

/-- THE TIED CARD OF 'coaminglaw16.StoreParts'. -/
def storePartsCard : Claim7 := { stood := { row := storePartsRow, standIns := [], harness := (true, "7876cc65e6f5febe778c9f2c48be2ebc90f39afe5ea3e3a3a6981bf079824f28"), looks := false }, kinds := [], alts := [], laidByText := true, laidKinds := [.data, .pinned], laidTests := true, laidLooks := .later }
def StorePartsCardSaid : Prop := Claim7.holds Tryd.pinned (.plain (OpenSpec.ofChange storePartsSpec)) storePartsCard

/-- THE TIED CARD OF 'coaminglaw16.StoreSeq'. -/
def storeSeqCard : Claim7 := { stood := { row := storeSeqRow, standIns := [], harness := (true, "7876cc65e6f5febe778c9f2c48be2ebc90f39afe5ea3e3a3a6981bf079824f28"), looks := false }, kinds := [], alts := [], laidByText := true, laidKinds := [.data, .pinned], laidTests := true, laidLooks := .later }
def StoreSeqCardSaid : Prop := Claim7.holds Tryd.pinned (.plain (OpenSpec.ofChange storeSeqSpec)) storeSeqCard

/-- THE SECOND FORM's CARD OF 'coaminglaw16.StoreReads'. -/
def storeReadsUptoCard : Claim7 := { stood := { row := storeReadsUptoRow, standIns := [], harness := (true, "7876cc65e6f5febe778c9f2c48be2ebc90f39afe5ea3e3a3a6981bf079824f28"), looks := false }, kinds := [], alts := [], laidByText := true, laidKinds := [.data, .pinned], laidTests := true, laidLooks := .later }
def StoreReadsUptoCardSaid : Prop := Claim7.holds Tryd.pinned (.plain (OpenSpec.upto storeReadsSpec)) storeReadsUptoCard

/-- THE SECOND FORM's CARD OF 'coaminglaw16.StoreOwn'. -/
def storeOwnUptoCard : Claim7 := { stood := { row := storeOwnUptoRow, standIns := [], harness := (true, "7876cc65e6f5febe778c9f2c48be2ebc90f39afe5ea3e3a3a6981bf079824f28"), looks := false }, kinds := [], alts := [], laidByText := true, laidKinds := [.data, .pinned], laidTests := true, laidLooks := .later }
def StoreOwnUptoCardSaid : Prop := Claim7.holds Tryd.pinned (.plain (OpenSpec.upto storeOwnSpec)) storeOwnUptoCard

/-- THE SECOND FORM's CARD OF 'coaminglaw16.StoreParts'. -/
def storePartsUptoCard : Claim7 := { stood := { row := storePartsUptoRow, standIns := [], harness := (true, "7876cc65e6f5febe778c9f2c48be2ebc90f39afe5ea3e3a3a6981bf079824f28"), looks := false }, kinds := [], alts := [], laidByText := true, laidKinds := [.data, .pinned], laidTests := true, laidLooks := .later }
def StorePartsUptoCardSaid : Prop := Claim7.holds Tryd.pinned (.plain (OpenSpec.upto storePartsSpec)) storePartsUptoCard

/-- THE SECOND FORM's CARD OF 'coaminglaw16.StoreSeq'. -/
def storeSeqUptoCard : Claim7 := { stood := { row := storeSeqUptoRow, standIns := [], harness := (true, "7876cc65e6f5febe778c9f2c48be2ebc90f39afe5ea3e3a3a6981bf079824f28"), looks := false }, kinds := [], alts := [], laidByText := true, laidKinds := [.data, .pinned], laidTests := true, laidLooks := .later }
def StoreSeqUptoCardSaid : Prop := Claim7.holds Tryd.pinned (.plain (OpenSpec.upto storeSeqSpec)) storeSeqUptoCard
end Rows
end Go.Proofs.YtgjcofoicnnnhaaDoor
