/-
  DERIVED. GIVEN WITH THE SEED: THE CARDS: each row of YtbhklgiecfcfcaaDoorRows.lean that lists a variable, with what it lists TIED to the program's text (the seventh form; the later family's looks); each row that meets fmt, with fmt's text TOLD by the authors' own Lean function (tested against real Go, not proved from fmt's source: count such statements apart). THE CARD IS WHAT COUNTS. Prove the row's statement (the work); the ties are given (YtbhklgiecfcfcaaDoorTie.lean); close each card by the builder's one call (the guide's Derived/Test/ToyasCard.lean, 'card_holds'). Laid BY PROGRAM, IN A SANDBOX (cutbox-door.mjs). By AI agents, Wed Nov 11 2026. No macro, syntax, notation, axiom, sorry.
-/
import Derived.Test.YtbhklgiecfcfcaaDoorRows
import GoSem.ClaimSeven
namespace Go.Proofs.YtbhklgiecfcfcaaDoor
namespace Rows

/-- THE TIED CARD OF 'laws.FnLimitRows'. -/
def fnLimitRowsCard : Claim7 := { stood := { row := fnLimitRowsRow, standIns := [], harness := (true, "e4113f19125c0d842cf1c69f8edb9542678e5acdb1faaa51ec14aa3ad4f5873f"), looks := false }, kinds := [], alts := [], laidByText := true, laidKinds := [.widerDeep], laidTests := true, laidLooks := .later }
def FnLimitRowsCardSaid : Prop := Claim7.holds Tryd.pinned (.plain (OpenSpec.ofChange fnLimitRowsSpec)) fnLimitRowsCard

/-- THE TIED CARD OF 'laws.FnTakeReal'. -/
def fnTakeRealCard : Claim7 := { stood := { row := fnTakeRealRow, standIns := [], harness := (true, "e4113f19125c0d842cf1c69f8edb9542678e5acdb1faaa51ec14aa3ad4f5873f"), looks := false }, kinds := [], alts := [], laidByText := true, laidKinds := [.widerDeep], laidTests := true, laidLooks := .later }
def FnTakeRealCardSaid : Prop := Claim7.holds Tryd.pinned (.plain (OpenSpec.ofChange fnTakeRealSpec)) fnTakeRealCard

/-- THE TIED CARD OF 'laws.FnPadTable'. -/
def fnPadTableCard : Claim7 := { stood := { row := fnPadTableRow, standIns := [], harness := (true, "e4113f19125c0d842cf1c69f8edb9542678e5acdb1faaa51ec14aa3ad4f5873f"), looks := false }, kinds := [], alts := [], laidByText := true, laidKinds := [.widerDeep], laidTests := true, laidLooks := .later }
def FnPadTableCardSaid : Prop := Claim7.holds Tryd.pinned (.plain (OpenSpec.ofChange fnPadTableSpec)) fnPadTableCard

/-- THE SECOND FORM's CARD OF 'laws.FnLimitRows'. -/
def fnLimitRowsUptoCard : Claim7 := { stood := { row := fnLimitRowsUptoRow, standIns := [], harness := (true, "e4113f19125c0d842cf1c69f8edb9542678e5acdb1faaa51ec14aa3ad4f5873f"), looks := false }, kinds := [], alts := [], laidByText := true, laidKinds := [.widerDeep], laidTests := true, laidLooks := .later }
def FnLimitRowsUptoCardSaid : Prop := Claim7.holds Tryd.pinned (.plain (OpenSpec.upto fnLimitRowsSpec)) fnLimitRowsUptoCard

/-- THE SECOND FORM's CARD OF 'laws.FnTakeReal'. -/
def fnTakeRealUptoCard : Claim7 := { stood := { row := fnTakeRealUptoRow, standIns := [], harness := (true, "e4113f19125c0d842cf1c69f8edb9542678e5acdb1faaa51ec14aa3ad4f5873f"), looks := false }, kinds := [], alts := [], laidByText := true, laidKinds := [.widerDeep], laidTests := true, laidLooks := .later }
def FnTakeRealUptoCardSaid : Prop := Claim7.holds Tryd.pinned (.plain (OpenSpec.upto fnTakeRealSpec)) fnTakeRealUptoCard

/-- THE SECOND FORM's CARD OF 'laws.FnPadTable'. -/
def fnPadTableUptoCard : Claim7 := { stood := { row := fnPadTableUptoRow, standIns := [], harness := (true, "e4113f19125c0d842cf1c69f8edb9542678e5acdb1faaa51ec14aa3ad4f5873f"), looks := false }, kinds := [], alts := [], laidByText := true, laidKinds := [.widerDeep], laidTests := true, laidLooks := .later }
def FnPadTableUptoCardSaid : Prop := Claim7.holds Tryd.pinned (.plain (OpenSpec.upto fnPadTableSpec)) fnPadTableUptoCard
end Rows
end Go.Proofs.YtbhklgiecfcfcaaDoor
