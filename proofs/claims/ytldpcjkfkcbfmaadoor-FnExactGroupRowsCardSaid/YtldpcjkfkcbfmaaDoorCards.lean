/-
  DERIVED. GIVEN WITH THE SEED: THE CARDS: each row of YtldpcjkfkcbfmaaDoorRows.lean that lists a variable, with what it lists TIED to the program's text (the seventh form; the later family's looks); each row that meets fmt, with fmt's text TOLD by the authors' own Lean function (tested against real Go, not proved from fmt's source: count such statements apart). THE CARD IS WHAT COUNTS. Prove the row's statement (the work); the ties are given (YtldpcjkfkcbfmaaDoorTie.lean); close each card by the builder's one call (the guide's Derived/Test/ToyasCard.lean, 'card_holds'). Laid BY PROGRAM, IN A SANDBOX (cutbox-door.mjs). By AI agents, Wed Nov 11 2026. No macro, syntax, notation, axiom, sorry.
-/
import Derived.Test.YtldpcjkfkcbfmaaDoorRows
import GoSem.ClaimSeven
namespace Go.Proofs.YtldpcjkfkcbfmaaDoor
namespace Rows

/-- THE TIED CARD OF 'laws.FnExactJoinRows'. -/
def fnExactJoinRowsCard : Claim7 := { stood := { row := fnExactJoinRowsRow, standIns := [], harness := (true, "66f2ff08c6f22d90da6d1e606c1dfbcaca0c7b2b0c9cee86fa3e024ccc77c55b"), looks := false }, kinds := [], alts := [], laidByText := true, laidKinds := [.widerDeep], laidTests := true, laidLooks := .later }
def FnExactJoinRowsCardSaid : Prop := Claim7.holds Tryd.pinned (.plain (OpenSpec.ofChange fnExactJoinRowsSpec)) fnExactJoinRowsCard

/-- THE TIED CARD OF 'laws.FnExactProjectRows'. -/
def fnExactProjectRowsCard : Claim7 := { stood := { row := fnExactProjectRowsRow, standIns := [], harness := (true, "66f2ff08c6f22d90da6d1e606c1dfbcaca0c7b2b0c9cee86fa3e024ccc77c55b"), looks := false }, kinds := [], alts := [], laidByText := true, laidKinds := [.widerDeep], laidTests := true, laidLooks := .later }
def FnExactProjectRowsCardSaid : Prop := Claim7.holds Tryd.pinned (.plain (OpenSpec.ofChange fnExactProjectRowsSpec)) fnExactProjectRowsCard

/-- THE TIED CARD OF 'laws.FnExactGroupRows'. -/
def fnExactGroupRowsCard : Claim7 := { stood := { row := fnExactGroupRowsRow, standIns := [], harness := (true, "66f2ff08c6f22d90da6d1e606c1dfbcaca0c7b2b0c9cee86fa3e024ccc77c55b"), looks := false }, kinds := [], alts := [], laidByText := true, laidKinds := [.widerDeep], laidTests := true, laidLooks := .later }
def FnExactGroupRowsCardSaid : Prop := Claim7.holds Tryd.pinned (.plain (OpenSpec.ofChange fnExactGroupRowsSpec)) fnExactGroupRowsCard

/-- THE SECOND FORM's CARD OF 'laws.FnExactJoinRows'. -/
def fnExactJoinRowsUptoCard : Claim7 := { stood := { row := fnExactJoinRowsUptoRow, standIns := [], harness := (true, "66f2ff08c6f22d90da6d1e606c1dfbcaca0c7b2b0c9cee86fa3e024ccc77c55b"), looks := false }, kinds := [], alts := [], laidByText := true, laidKinds := [.widerDeep], laidTests := true, laidLooks := .later }
def FnExactJoinRowsUptoCardSaid : Prop := Claim7.holds Tryd.pinned (.plain (OpenSpec.upto fnExactJoinRowsSpec)) fnExactJoinRowsUptoCard

/-- THE SECOND FORM's CARD OF 'laws.FnExactProjectRows'. -/
def fnExactProjectRowsUptoCard : Claim7 := { stood := { row := fnExactProjectRowsUptoRow, standIns := [], harness := (true, "66f2ff08c6f22d90da6d1e606c1dfbcaca0c7b2b0c9cee86fa3e024ccc77c55b"), looks := false }, kinds := [], alts := [], laidByText := true, laidKinds := [.widerDeep], laidTests := true, laidLooks := .later }
def FnExactProjectRowsUptoCardSaid : Prop := Claim7.holds Tryd.pinned (.plain (OpenSpec.upto fnExactProjectRowsSpec)) fnExactProjectRowsUptoCard

/-- THE SECOND FORM's CARD OF 'laws.FnExactGroupRows'. -/
def fnExactGroupRowsUptoCard : Claim7 := { stood := { row := fnExactGroupRowsUptoRow, standIns := [], harness := (true, "66f2ff08c6f22d90da6d1e606c1dfbcaca0c7b2b0c9cee86fa3e024ccc77c55b"), looks := false }, kinds := [], alts := [], laidByText := true, laidKinds := [.widerDeep], laidTests := true, laidLooks := .later }
def FnExactGroupRowsUptoCardSaid : Prop := Claim7.holds Tryd.pinned (.plain (OpenSpec.upto fnExactGroupRowsSpec)) fnExactGroupRowsUptoCard
end Rows
end Go.Proofs.YtldpcjkfkcbfmaaDoor
