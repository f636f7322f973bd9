/-
  DERIVED. GIVEN WITH THE SEED: THE CARDS: each row of YtcaikpfdhdbioaaDoorRows.lean that lists a variable, with what it lists TIED to the program's text (the seventh form; the later family's looks); each row that meets fmt, with fmt's text TOLD by the authors' own Lean function (tested against real Go, not proved from fmt's source: count such statements apart). THE CARD IS WHAT COUNTS. Prove the row's statement (the work); the ties are given (YtcaikpfdhdbioaaDoorTie.lean); close each card by the builder's one call (the guide's Derived/Test/ToyasCard.lean, 'card_holds'). Laid BY PROGRAM, IN A SANDBOX (cutbox-door.mjs). By AI agents, Wed Nov 11 2026. No macro, syntax, notation, axiom, sorry.
-/
import Derived.Test.YtcaikpfdhdbioaaDoorRows
import GoSem.ClaimSeven
namespace Go.Proofs.YtcaikpfdhdbioaaDoor
namespace Rows

/-- THE TIED CARD OF 'distafflaw08.ClockOff'. -/
def clockOffCard : Claim7 := { stood := { row := clockOffRow, standIns := [], harness := (true, "caee8ee8b5fa5a998f74c64833f9bca070c1661abd9fa0a6bb47eaa72438bfa4"), looks := true }, kinds := [], alts := [], laidByText := true, laidKinds := [.handle], laidTests := true, laidLooks := .later }
def ClockOffCardSaid : Prop := Claim7.holds Tryd.pinned (.plain (OpenSpec.ofChange clockOffSpec)) clockOffCard

/-- THE TIED CARD OF 'distafflaw08.ClockPlays'. -/
def clockPlaysCard : Claim7 := { stood := { row := clockPlaysRow, standIns := [], harness := (true, "caee8ee8b5fa5a998f74c64833f9bca070c1661abd9fa0a6bb47eaa72438bfa4"), looks := true }, kinds := [], alts := [], laidByText := true, laidKinds := [.handle], laidTests := true, laidLooks := .later }
def ClockPlaysCardSaid : Prop := Claim7.holds Tryd.pinned (.plain (OpenSpec.ofChange clockPlaysSpec)) clockPlaysCard

/-- THE SECOND FORM's CARD OF 'distafflaw08.ClockOff'. -/
def clockOffUptoCard : Claim7 := { stood := { row := clockOffUptoRow, standIns := [], harness := (true, "caee8ee8b5fa5a998f74c64833f9bca070c1661abd9fa0a6bb47eaa72438bfa4"), looks := true }, kinds := [], alts := [], laidByText := true, laidKinds := [.handle], laidTests := true, laidLooks := .later }
def ClockOffUptoCardSaid : Prop := Claim7.holds Tryd.pinned (.plain (OpenSpec.upto clockOffSpec)) clockOffUptoCard

/-- THE SECOND FORM's CARD OF 'distafflaw08.ClockPlays'. -/
def clockPlaysUptoCard : Claim7 := { stood := { row := clockPlaysUptoRow, standIns := [], harness := (true, "caee8ee8b5fa5a998f74c64833f9bca070c1661abd9fa0a6bb47eaa72438bfa4"), looks := true }, kinds := [], alts := [], laidByText := true, laidKinds := [.handle], laidTests := true, laidLooks := .later }
def ClockPlaysUptoCardSaid : Prop := Claim7.holds Tryd.pinned (.plain (OpenSpec.upto clockPlaysSpec)) clockPlaysUptoCard
end Rows
end Go.Proofs.YtcaikpfdhdbioaaDoor
