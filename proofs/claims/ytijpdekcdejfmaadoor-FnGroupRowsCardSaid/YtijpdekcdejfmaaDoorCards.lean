/-
  DERIVED. GIVEN WITH THE SEED: THE CARDS: each row of YtijpdekcdejfmaaDoorRows.lean that lists a variable, with what it lists TIED to the program's text (the seventh form; the later family's looks); each row that meets fmt, with fmt's text TOLD by the authors' own Lean function (tested against real Go, not proved from fmt's source: count such statements apart). THE CARD IS WHAT COUNTS. Prove the row's statement (the work); the ties are given (YtijpdekcdejfmaaDoorTie.lean); close each card by the builder's one call (the guide's Derived/Test/ToyasCard.lean, 'card_holds'). Laid BY PROGRAM, IN A SANDBOX (cutbox-door.mjs). By AI agents, Wed Nov 11 2026. No macro, syntax, notation, axiom, sorry.
-/
import Derived.Test.YtijpdekcdejfmaaDoorRows
import GoSem.ClaimSeven
namespace Go.Proofs.YtijpdekcdejfmaaDoor
namespace Rows

/-- THE TIED CARD OF 'laws.FnProjectRows'. -/
def fnProjectRowsCard : Claim7 := { stood := { row := fnProjectRowsRow, standIns := [], harness := (true, "061e9666097d208aecfcab42557a03a2f1029dae0e5f31f3c9cec13751b741fc"), looks := false }, kinds := [], alts := [], laidByText := true, laidKinds := [.widerDeep], laidTests := true, laidLooks := .later }
def FnProjectRowsCardSaid : Prop := Claim7.holds Tryd.pinned (.plain (OpenSpec.ofChange fnProjectRowsSpec)) fnProjectRowsCard

/-- THE TIED CARD OF 'laws.FnJoinRows'. -/
def fnJoinRowsCard : Claim7 := { stood := { row := fnJoinRowsRow, standIns := [], harness := (true, "061e9666097d208aecfcab42557a03a2f1029dae0e5f31f3c9cec13751b741fc"), looks := false }, kinds := [], alts := [], laidByText := true, laidKinds := [.widerDeep], laidTests := true, laidLooks := .later }
def FnJoinRowsCardSaid : Prop := Claim7.holds Tryd.pinned (.plain (OpenSpec.ofChange fnJoinRowsSpec)) fnJoinRowsCard

/-- THE TIED CARD OF 'laws.FnGroupRows'. -/
def fnGroupRowsCard : Claim7 := { stood := { row := fnGroupRowsRow, standIns := [], harness := (true, "061e9666097d208aecfcab42557a03a2f1029dae0e5f31f3c9cec13751b741fc"), looks := false }, kinds := [], alts := [], laidByText := true, laidKinds := [.widerDeep], laidTests := true, laidLooks := .later }
def FnGroupRowsCardSaid : Prop := Claim7.holds Tryd.pinned (.plain (OpenSpec.ofChange fnGroupRowsSpec)) fnGroupRowsCard

/-- THE SECOND FORM's CARD OF 'laws.FnProjectRows'. -/
def fnProjectRowsUptoCard : Claim7 := { stood := { row := fnProjectRowsUptoRow, standIns := [], harness := (true, "061e9666097d208aecfcab42557a03a2f1029dae0e5f31f3c9cec13751b741fc"), looks := false }, kinds := [], alts := [], laidByText := true, laidKinds := [.widerDeep], laidTests := true, laidLooks := .later }
def FnProjectRowsUptoCardSaid : Prop := Claim7.holds Tryd.pinned (.plain (OpenSpec.upto fnProjectRowsSpec)) fnProjectRowsUptoCard

/-- THE SECOND FORM's CARD OF 'laws.FnJoinRows'. -/
def fnJoinRowsUptoCard : Claim7 := { stood := { row := fnJoinRowsUptoRow, standIns := [], harness := (true, "061e9666097d208aecfcab42557a03a2f1029dae0e5f31f3c9cec13751b741fc"), looks := false }, kinds := [], alts := [], laidByText := true, laidKinds := [.widerDeep], laidTests := true, laidLooks := .later }
def FnJoinRowsUptoCardSaid : Prop := Claim7.holds Tryd.pinned (.plain (OpenSpec.upto fnJoinRowsSpec)) fnJoinRowsUptoCard

/-- THE SECOND FORM's CARD OF 'laws.FnGroupRows'. -/
def fnGroupRowsUptoCard : Claim7 := { stood := { row := fnGroupRowsUptoRow, standIns := [], harness := (true, "061e9666097d208aecfcab42557a03a2f1029dae0e5f31f3c9cec13751b741fc"), looks := false }, kinds := [], alts := [], laidByText := true, laidKinds := [.widerDeep], laidTests := true, laidLooks := .later }
def FnGroupRowsUptoCardSaid : Prop := Claim7.holds Tryd.pinned (.plain (OpenSpec.upto fnGroupRowsSpec)) fnGroupRowsUptoCard
end Rows
end Go.Proofs.YtijpdekcdejfmaaDoor
