/-
  DERIVED. GIVEN WITH THE SEED: THE CARDS: each row of YtecagnhffgajhaaDoorRows.lean that lists a variable, with what it lists TIED to the program's text (the seventh form; the later family's looks); each row that meets fmt, with fmt's text TOLD by the authors' own Lean function (tested against real Go, not proved from fmt's source: count such statements apart). THE CARD IS WHAT COUNTS. Prove the row's statement (the work); the ties are given (YtecagnhffgajhaaDoorTie.lean); close each card by the builder's one call (the guide's Derived/Test/ToyasCard.lean, 'card_holds'). Laid BY PROGRAM, IN A SANDBOX (cutbox-door.mjs). By AI agents, Wed Nov 11 2026. No macro, syntax, notation, axiom, sorry.
-/
import Derived.Test.YtecagnhffgajhaaDoorRows
import GoSem.ClaimSeven
namespace Go.Proofs.YtecagnhffgajhaaDoor
namespace Rows

/-- THE TIED CARD OF 'distafflaw12.ObjectsNews'. -/
def objectsNewsCard : Claim7 := { stood := { row := objectsNewsRow, standIns := [], harness := (true, "4e72d245c282699dae1acf1fedf178c07619672be38eec3eee4f59f269c1b859"), looks := true }, kinds := [], alts := [], laidByText := true, laidKinds := [.handle], laidTests := true, laidLooks := .later }
def ObjectsNewsCardSaid : Prop := Claim7.holds Tryd.pinned (.plain (OpenSpec.ofChange objectsNewsSpec)) objectsNewsCard

/-- THE TIED CARD OF 'distafflaw12.ObjectsPlays'. -/
def objectsPlaysCard : Claim7 := { stood := { row := objectsPlaysRow, standIns := [], harness := (true, "4e72d245c282699dae1acf1fedf178c07619672be38eec3eee4f59f269c1b859"), looks := true }, kinds := [], alts := [], laidByText := true, laidKinds := [.handle], laidTests := true, laidLooks := .later }
def ObjectsPlaysCardSaid : Prop := Claim7.holds Tryd.pinned (.plain (OpenSpec.ofChange objectsPlaysSpec)) objectsPlaysCard

/-- THE TIED CARD OF 'distafflaw12.ObjectsFresh'. -/
def objectsFreshCard : Claim7 := { stood := { row := objectsFreshRow, standIns := [], harness := (true, "4e72d245c282699dae1acf1fedf178c07619672be38eec3eee4f59f269c1b859"), looks := true }, kinds := [], alts := [], laidByText := true, laidKinds := [.handle], laidTests := true, laidLooks := .later }
def ObjectsFreshCardSaid : Prop := Claim7.holds Tryd.pinned (.plain (OpenSpec.ofChange objectsFreshSpec)) objectsFreshCard

/-- THE TIED CARD OF 'distafflaw12.ObjectsKinds'. -/
def objectsKindsCard : Claim7 := { stood := { row := objectsKindsRow, standIns := [], harness := (true, "4e72d245c282699dae1acf1fedf178c07619672be38eec3eee4f59f269c1b859"), looks := true }, kinds := [], alts := [], laidByText := true, laidKinds := [.handle], laidTests := true, laidLooks := .later }
def ObjectsKindsCardSaid : Prop := Claim7.holds Tryd.pinned (.plain (OpenSpec.ofChange objectsKindsSpec)) objectsKindsCard

/-- THE SECOND FORM's CARD OF 'distafflaw12.ObjectsNews'. -/
def objectsNewsUptoCard : Claim7 := { stood := { row := objectsNewsUptoRow, standIns := [], harness := (true, "4e72d245c282699dae1acf1fedf178c07619672be38eec3eee4f59f269c1b859"), looks := true }, kinds := [], alts := [], laidByText := true, laidKinds := [.handle], laidTests := true, laidLooks := .later }
def ObjectsNewsUptoCardSaid : Prop := Claim7.holds Tryd.pinned (.plain (OpenSpec.upto objectsNewsSpec)) objectsNewsUptoCard

/-- THE SECOND FORM's CARD OF 'distafflaw12.ObjectsPlays'. -/
def objectsPlaysUptoCard : Claim7 := { stood := { row := objectsPlaysUptoRow, standIns := [], harness := (true, "4e72d245c282699dae1acf1fedf178c07619672be38eec3eee4f59f269c1b859"), looks := true }, kinds := [], alts := [], laidByText := true, laidKinds := [.handle], laidTests := true, laidLooks := .later }
def ObjectsPlaysUptoCardSaid : Prop := Claim7.holds Tryd.pinned (.plain (OpenSpec.upto objectsPlaysSpec)) objectsPlaysUptoCard

/-- THE SECOND FORM's CARD OF 'distafflaw12.ObjectsFresh'. -/
def objectsFreshUptoCard : Claim7 := { stood := { row := objectsFreshUptoRow, standIns := [], harness := (true, "4e72d245c282699dae1acf1fedf178c07619672be38eec3eee4f59f269c1b859"), looks := true }, kinds := [], alts := [], laidByText := true, laidKinds := [.handle], laidTests := true, laidLooks := .later }
def ObjectsFreshUptoCardSaid : Prop := Claim7.holds Tryd.pinned (.plain (OpenSpec.upto objectsFreshSpec)) objectsFreshUptoCard

/-- THE SECOND FORM's CARD OF 'distafflaw12.ObjectsKinds'. -/
def objectsKindsUptoCard : Claim7 := { stood := { row := objectsKindsUptoRow, standIns := [], harness := (true, "4e72d245c282699dae1acf1fedf178c07619672be38eec3eee4f59f269c1b859"), looks := true }, kinds := [], alts := [], laidByText := true, laidKinds := [.handle], laidTests := true, laidLooks := .later }
def ObjectsKindsUptoCardSaid : Prop := Claim7.holds Tryd.pinned (.plain (OpenSpec.upto objectsKindsSpec)) objectsKindsUptoCard
end Rows
end Go.Proofs.YtecagnhffgajhaaDoor
