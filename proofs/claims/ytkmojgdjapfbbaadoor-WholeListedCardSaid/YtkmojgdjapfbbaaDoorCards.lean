/-
  DERIVED. GIVEN WITH THE SEED: THE CARDS: each row of YtkmojgdjapfbbaaDoorRows.lean that lists a variable, with what it lists TIED to the program's text (the seventh form; the later family's looks); each row that meets fmt, with fmt's text TOLD by the authors' own Lean function (tested against real Go, not proved from fmt's source: count such statements apart). THE CARD IS WHAT COUNTS. Prove the row's statement (the work); the ties are given (YtkmojgdjapfbbaaDoorTie.lean); close each card by the builder's one call (the guide's Derived/Test/ToyasCard.lean, 'card_holds'). Laid BY PROGRAM, IN A SANDBOX (cutbox-door.mjs). By AI agents, Wed Nov 11 2026. No macro, syntax, notation, axiom, sorry.
-/
import Derived.Test.YtkmojgdjapfbbaaDoorRows
import GoSem.ClaimSeven
namespace Go.Proofs.YtkmojgdjapfbbaaDoor
namespace Rows

/-- THE TIED CARD OF 'socagetop.WholeUpper'. -/
def wholeUpperCard : Claim7 := { stood := { row := wholeUpperRow, standIns := [], harness := (true, "9a5de3574111860ad8debf0cb215900a39d4e5b941c52eaebab60b0ce786fd82"), looks := false }, kinds := [], alts := [], laidByText := true, laidKinds := [.data, .pinned], laidTests := true, laidLooks := .later }
def WholeUpperCardSaid : Prop := Claim7.holds Tryd.pinned (.plain (OpenSpec.ofChange wholeUpperSpec)) wholeUpperCard

/-- THE TIED CARD OF 'socagetop.WholeImages'. -/
def wholeImagesCard : Claim7 := { stood := { row := wholeImagesRow, standIns := [], harness := (true, "9a5de3574111860ad8debf0cb215900a39d4e5b941c52eaebab60b0ce786fd82"), looks := false }, kinds := [], alts := [], laidByText := true, laidKinds := [.data, .pinned], laidTests := true, laidLooks := .later }
def WholeImagesCardSaid : Prop := Claim7.holds Tryd.pinned (.plain (OpenSpec.ofChange wholeImagesSpec)) wholeImagesCard

/-- THE TIED CARD OF 'socagetop.WholeFiles'. -/
def wholeFilesCard : Claim7 := { stood := { row := wholeFilesRow, standIns := [], harness := (true, "9a5de3574111860ad8debf0cb215900a39d4e5b941c52eaebab60b0ce786fd82"), looks := false }, kinds := [], alts := [], laidByText := true, laidKinds := [.data, .pinned], laidTests := true, laidLooks := .later }
def WholeFilesCardSaid : Prop := Claim7.holds Tryd.pinned (.plain (OpenSpec.ofChange wholeFilesSpec)) wholeFilesCard

/-- THE TIED CARD OF 'socagetop.WholeListed'. -/
def wholeListedCard : Claim7 := { stood := { row := wholeListedRow, standIns := [], harness := (true, "9a5de3574111860ad8debf0cb215900a39d4e5b941c52eaebab60b0ce786fd82"), looks := false }, kinds := [], alts := [], laidByText := true, laidKinds := [.data, .pinned], laidTests := true, laidLooks := .later }
def WholeListedCardSaid : Prop := Claim7.holds Tryd.pinned (.plain (OpenSpec.ofChange wholeListedSpec)) wholeListedCard

/-- THE SECOND FORM's CARD OF 'socagetop.WholeUpper'. -/
def wholeUpperUptoCard : Claim7 := { stood := { row := wholeUpperUptoRow, standIns := [], harness := (true, "9a5de3574111860ad8debf0cb215900a39d4e5b941c52eaebab60b0ce786fd82"), looks := false }, kinds := [], alts := [], laidByText := true, laidKinds := [.data, .pinned], laidTests := true, laidLooks := .later }
def WholeUpperUptoCardSaid : Prop := Claim7.holds Tryd.pinned (.plain (OpenSpec.upto wholeUpperSpec)) wholeUpperUptoCard

/-- THE SECOND FORM's CARD OF 'socagetop.WholeImages'. -/
def wholeImagesUptoCard : Claim7 := { stood := { row := wholeImagesUptoRow, standIns := [], harness := (true, "9a5de3574111860ad8debf0cb215900a39d4e5b941c52eaebab60b0ce786fd82"), looks := false }, kinds := [], alts := [], laidByText := true, laidKinds := [.data, .pinned], laidTests := true, laidLooks := .later }
def WholeImagesUptoCardSaid : Prop := Claim7.holds Tryd.pinned (.plain (OpenSpec.upto wholeImagesSpec)) wholeImagesUptoCard

/-- THE SECOND FORM's CARD OF 'socagetop.WholeFiles'. -/
def wholeFilesUptoCard : Claim7 := { stood := { row := wholeFilesUptoRow, standIns := [], harness := (true, "9a5de3574111860ad8debf0cb215900a39d4e5b941c52eaebab60b0ce786fd82"), looks := false }, kinds := [], alts := [], laidByText := true, laidKinds := [.data, .pinned], laidTests := true, laidLooks := .later }
def WholeFilesUptoCardSaid : Prop := Claim7.holds Tryd.pinned (.plain (OpenSpec.upto wholeFilesSpec)) wholeFilesUptoCard

/-- THE SECOND FORM's CARD OF 'socagetop.WholeListed'. -/
def wholeListedUptoCard : Claim7 := { stood := { row := wholeListedUptoRow, standIns := [], harness := (true, "9a5de3574111860ad8debf0cb215900a39d4e5b941c52eaebab60b0ce786fd82"), looks := false }, kinds := [], alts := [], laidByText := true, laidKinds := [.data, .pinned], laidTests := true, laidLooks := .later }
def WholeListedUptoCardSaid : Prop := Claim7.holds Tryd.pinned (.plain (OpenSpec.upto wholeListedSpec)) wholeListedUptoCard
end Rows
end Go.Proofs.YtkmojgdjapfbbaaDoor
