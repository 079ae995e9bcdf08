/-
  DERIVED. GIVEN WITH THE SEED: THE CARDS: each row of YtaapopfmnlaedaaDoorRows.lean that lists a variable, with what it lists TIED to the program's text (the seventh form; the later family's looks); each row that meets fmt, with fmt's text TOLD by the authors' own Lean function (tested against real Go, not proved from fmt's source: count such statements apart). THE CARD IS WHAT COUNTS. Prove the row's statement (the work); the ties are given (YtaapopfmnlaedaaDoorTie.lean); close each card by the builder's one call (the guide's Derived/Test/ToyasCard.lean, 'card_holds'). Laid BY PROGRAM, IN A SANDBOX (cutbox-door.mjs). By AI agents, Wed Nov 11 2026. No macro, syntax, notation, axiom, sorry.
-/
import Derived.Test.YtaapopfmnlaedaaDoorRows
import GoSem.ClaimSeven
namespace Go.Proofs.YtaapopfmnlaedaaDoor
namespace Rows

/-- THE TIED CARD OF 'laws.FnExactLimitRows'. -/
def fnExactLimitRowsCard : Claim7 := { stood := { row := fnExactLimitRowsRow, standIns := [], harness := (true, "5a6aa0fcd272629ffca464e698fc60e29f91349c51cee8d0e6baf1f4306b6fa9"), looks := false }, kinds := [], alts := [], laidByText := true, laidKinds := [.widerDeep], laidTests := true, laidLooks := .later }
def FnExactLimitRowsCardSaid : Prop := Claim7.holds Tryd.pinned (.plain (OpenSpec.ofChange fnExactLimitRowsSpec)) fnExactLimitRowsCard

/-- THE TIED CARD OF 'laws.FnExactTakeReal'. -/
def fnExactTakeRealCard : Claim7 := { stood := { row := fnExactTakeRealRow, standIns := [], harness := (true, "5a6aa0fcd272629ffca464e698fc60e29f91349c51cee8d0e6baf1f4306b6fa9"), looks := false }, kinds := [], alts := [], laidByText := true, laidKinds := [.widerDeep], laidTests := true, laidLooks := .later }
def FnExactTakeRealCardSaid : Prop := Claim7.holds Tryd.pinned (.plain (OpenSpec.ofChange fnExactTakeRealSpec)) fnExactTakeRealCard

/-- THE TIED CARD OF 'laws.FnExactPadTable'. -/
def fnExactPadTableCard : Claim7 := { stood := { row := fnExactPadTableRow, standIns := [], harness := (true, "5a6aa0fcd272629ffca464e698fc60e29f91349c51cee8d0e6baf1f4306b6fa9"), looks := false }, kinds := [], alts := [], laidByText := true, laidKinds := [.widerDeep], laidTests := true, laidLooks := .later }
def FnExactPadTableCardSaid : Prop := Claim7.holds Tryd.pinned (.plain (OpenSpec.ofChange fnExactPadTableSpec)) fnExactPadTableCard

/-- THE TIED CARD OF 'laws.FnExactProjectRows'. -/
def fnExactProjectRowsCard : Claim7 := { stood := { row := fnExactProjectRowsRow, standIns := [], harness := (true, "5a6aa0fcd272629ffca464e698fc60e29f91349c51cee8d0e6baf1f4306b6fa9"), looks := false }, kinds := [], alts := [], laidByText := true, laidKinds := [.widerDeep], laidTests := true, laidLooks := .later }
def FnExactProjectRowsCardSaid : Prop := Claim7.holds Tryd.pinned (.plain (OpenSpec.ofChange fnExactProjectRowsSpec)) fnExactProjectRowsCard

/-- THE TIED CARD OF 'laws.FnExactJoinRows'. -/
def fnExactJoinRowsCard : Claim7 := { stood := { row := fnExactJoinRowsRow, standIns := [], harness := (true, "5a6aa0fcd272629ffca464e698fc60e29f91349c51cee8d0e6baf1f4306b6fa9"), looks := false }, kinds := [], alts := [], laidByText := true, laidKinds := [.widerDeep], laidTests := true, laidLooks := .later }
def FnExactJoinRowsCardSaid : Prop := Claim7.holds Tryd.pinned (.plain (OpenSpec.ofChange fnExactJoinRowsSpec)) fnExactJoinRowsCard

/-- THE SECOND FORM's CARD OF 'laws.FnExactLimitRows'. -/
def fnExactLimitRowsUptoCard : Claim7 := { stood := { row := fnExactLimitRowsUptoRow, standIns := [], harness := (true, "5a6aa0fcd272629ffca464e698fc60e29f91349c51cee8d0e6baf1f4306b6fa9"), looks := false }, kinds := [], alts := [], laidByText := true, laidKinds := [.widerDeep], laidTests := true, laidLooks := .later }
def FnExactLimitRowsUptoCardSaid : Prop := Claim7.holds Tryd.pinned (.plain (OpenSpec.upto fnExactLimitRowsSpec)) fnExactLimitRowsUptoCard

/-- THE SECOND FORM's CARD OF 'laws.FnExactTakeReal'. -/
def fnExactTakeRealUptoCard : Claim7 := { stood := { row := fnExactTakeRealUptoRow, standIns := [], harness := (true, "5a6aa0fcd272629ffca464e698fc60e29f91349c51cee8d0e6baf1f4306b6fa9"), looks := false }, kinds := [], alts := [], laidByText := true, laidKinds := [.widerDeep], laidTests := true, laidLooks := .later }
def FnExactTakeRealUptoCardSaid : Prop := Claim7.holds Tryd.pinned (.plain (OpenSpec.upto fnExactTakeRealSpec)) fnExactTakeRealUptoCard

/-- THE SECOND FORM's CARD OF 'laws.FnExactPadTable'. -/
def fnExactPadTableUptoCard : Claim7 := { stood := { row := fnExactPadTableUptoRow, standIns := [], harness := (true, "5a6aa0fcd272629ffca464e698fc60e29f91349c51cee8d0e6baf1f4306b6fa9"), looks := false }, kinds := [], alts := [], laidByText := true, laidKinds := [.widerDeep], laidTests := true, laidLooks := .later }
def FnExactPadTableUptoCardSaid : Prop := Claim7.holds Tryd.pinned (.plain (OpenSpec.upto fnExactPadTableSpec)) fnExactPadTableUptoCard

/-- THE SECOND FORM's CARD OF 'laws.FnExactProjectRows'. -/
def fnExactProjectRowsUptoCard : Claim7 := { stood := { row := fnExactProjectRowsUptoRow, standIns := [], harness := (true, "5a6aa0fcd272629ffca464e698fc60e29f91349c51cee8d0e6baf1f4306b6fa9"), looks := false }, kinds := [], alts := [], laidByText := true, laidKinds := [.widerDeep], laidTests := true, laidLooks := .later }
def FnExactProjectRowsUptoCardSaid : Prop := Claim7.holds Tryd.pinned (.plain (OpenSpec.upto fnExactProjectRowsSpec)) fnExactProjectRowsUptoCard

/-- THE SECOND FORM's CARD OF 'laws.FnExactJoinRows'. -/
def fnExactJoinRowsUptoCard : Claim7 := { stood := { row := fnExactJoinRowsUptoRow, standIns := [], harness := (true, "5a6aa0fcd272629ffca464e698fc60e29f91349c51cee8d0e6baf1f4306b6fa9"), looks := false }, kinds := [], alts := [], laidByText := true, laidKinds := [.widerDeep], laidTests := true, laidLooks := .later }
def FnExactJoinRowsUptoCardSaid : Prop := Claim7.holds Tryd.pinned (.plain (OpenSpec.upto fnExactJoinRowsSpec)) fnExactJoinRowsUptoCard
end Rows
end Go.Proofs.YtaapopfmnlaedaaDoor
