/-
  DERIVED. GIVEN WITH THE SEED: THE CARDS: each row of YtgbbgejnphfocaaDoorRows.lean that lists a variable, with what it lists TIED to the program's text (the seventh form; the later family's looks); each row that meets fmt, with fmt's text TOLD by the authors' own Lean function (tested against real Go, not proved from fmt's source: count such statements apart). THE CARD IS WHAT COUNTS. Prove the row's statement (the work); the ties are given (YtgbbgejnphfocaaDoorTie.lean); close each card by the builder's one call (the guide's Derived/Test/ToyasCard.lean, 'card_holds'). Laid BY PROGRAM, IN A SANDBOX (cutbox-door.mjs). By AI agents, Wed Nov 11 2026. No macro, syntax, notation, axiom, sorry.
-/
import Derived.Test.YtgbbgejnphfocaaDoorRows
import GoSem.ClaimSeven
namespace Go.Proofs.YtgbbgejnphfocaaDoor
namespace Rows

/-- THE TIED CARD OF 'laws.FnPassTrace'. -/
def fnPassTraceCard : Claim7 := { stood := { row := fnPassTraceRow, standIns := [], harness := (true, "08c2d0f842ca16889b897b73db503798851def766e78e5d7e8c398a81c626ca0"), looks := false }, kinds := [], alts := [], laidByText := true, laidKinds := [.widerDeep], laidTests := true, laidLooks := .later }
def FnPassTraceCardSaid : Prop := Claim7.holds Tryd.pinned (.plain (OpenSpec.ofChange fnPassTraceSpec)) fnPassTraceCard

/-- THE SECOND FORM's CARD OF 'laws.FnPassTrace'. -/
def fnPassTraceUptoCard : Claim7 := { stood := { row := fnPassTraceUptoRow, standIns := [], harness := (true, "08c2d0f842ca16889b897b73db503798851def766e78e5d7e8c398a81c626ca0"), looks := false }, kinds := [], alts := [], laidByText := true, laidKinds := [.widerDeep], laidTests := true, laidLooks := .later }
def FnPassTraceUptoCardSaid : Prop := Claim7.holds Tryd.pinned (.plain (OpenSpec.upto fnPassTraceSpec)) fnPassTraceUptoCard
end Rows
end Go.Proofs.YtgbbgejnphfocaaDoor
