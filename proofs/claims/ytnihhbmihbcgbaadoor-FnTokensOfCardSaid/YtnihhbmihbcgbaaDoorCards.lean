/-
  DERIVED. GIVEN WITH THE SEED: THE CARDS: each row of YtnihhbmihbcgbaaDoorRows.lean that lists a variable, with what it lists TIED to the program's text (the seventh form; the later family's looks); each row that meets fmt, with fmt's text TOLD by the authors' own Lean function (tested against real Go, not proved from fmt's source: count such statements apart). THE CARD IS WHAT COUNTS. Prove the row's statement (the work); the ties are given (YtnihhbmihbcgbaaDoorTie.lean); close each card by the builder's one call (the guide's Derived/Test/ToyasCard.lean, 'card_holds'). Laid BY PROGRAM, IN A SANDBOX (cutbox-door.mjs). By AI agents, Wed Nov 11 2026. No macro, syntax, notation, axiom, sorry.
-/
import Derived.Test.YtnihhbmihbcgbaaDoorRows
import GoSem.ClaimSeven
namespace Go.Proofs.YtnihhbmihbcgbaaDoor
namespace Rows

/-- THE TIED CARD OF 'laws.FnPassTrace'. -/
def fnPassTraceCard : Claim7 := { stood := { row := fnPassTraceRow, standIns := [], harness := (true, "dc4c360511ee773baacdb7d09bdaf7cb1411a18accc9c9a6e60d7b6a18c51dd2"), looks := true }, kinds := [], alts := [], laidByText := true, laidKinds := [.widerDeep], laidTests := true, laidLooks := .later }
def FnPassTraceCardSaid : Prop := Claim7.holds Tryd.pinned (.plain (OpenSpec.ofChange fnPassTraceSpec)) fnPassTraceCard

/-- THE TIED CARD OF 'laws.FnCrossTrace'. -/
def fnCrossTraceCard : Claim7 := { stood := { row := fnCrossTraceRow, standIns := [], harness := (true, "dc4c360511ee773baacdb7d09bdaf7cb1411a18accc9c9a6e60d7b6a18c51dd2"), looks := true }, kinds := [], alts := [], laidByText := true, laidKinds := [.widerDeep], laidTests := true, laidLooks := .later }
def FnCrossTraceCardSaid : Prop := Claim7.holds Tryd.pinned (.plain (OpenSpec.ofChange fnCrossTraceSpec)) fnCrossTraceCard

/-- THE TIED CARD OF 'laws.FnNetworkHalf'. -/
def fnNetworkHalfCard : Claim7 := { stood := { row := fnNetworkHalfRow, standIns := [], harness := (true, "dc4c360511ee773baacdb7d09bdaf7cb1411a18accc9c9a6e60d7b6a18c51dd2"), looks := true }, kinds := [], alts := [], laidByText := true, laidKinds := [.widerDeep], laidTests := true, laidLooks := .later }
def FnNetworkHalfCardSaid : Prop := Claim7.holds Tryd.pinned (.plain (OpenSpec.ofChange fnNetworkHalfSpec)) fnNetworkHalfCard

/-- THE TIED CARD OF 'laws.FnNetworkRounds'. -/
def fnNetworkRoundsCard : Claim7 := { stood := { row := fnNetworkRoundsRow, standIns := [], harness := (true, "dc4c360511ee773baacdb7d09bdaf7cb1411a18accc9c9a6e60d7b6a18c51dd2"), looks := true }, kinds := [], alts := [], laidByText := true, laidKinds := [.widerDeep], laidTests := true, laidLooks := .later }
def FnNetworkRoundsCardSaid : Prop := Claim7.holds Tryd.pinned (.plain (OpenSpec.ofChange fnNetworkRoundsSpec)) fnNetworkRoundsCard

/-- THE TIED CARD OF 'laws.FnPairsDepth'. -/
def fnPairsDepthCard : Claim7 := { stood := { row := fnPairsDepthRow, standIns := [], harness := (true, "dc4c360511ee773baacdb7d09bdaf7cb1411a18accc9c9a6e60d7b6a18c51dd2"), looks := true }, kinds := [], alts := [], laidByText := true, laidKinds := [.widerDeep], laidTests := true, laidLooks := .later }
def FnPairsDepthCardSaid : Prop := Claim7.holds Tryd.pinned (.plain (OpenSpec.ofChange fnPairsDepthSpec)) fnPairsDepthCard

/-- THE TIED CARD OF 'laws.FnNetworkOf'. -/
def fnNetworkOfCard : Claim7 := { stood := { row := fnNetworkOfRow, standIns := [], harness := (true, "dc4c360511ee773baacdb7d09bdaf7cb1411a18accc9c9a6e60d7b6a18c51dd2"), looks := true }, kinds := [], alts := [], laidByText := true, laidKinds := [.widerDeep], laidTests := true, laidLooks := .later }
def FnNetworkOfCardSaid : Prop := Claim7.holds Tryd.pinned (.plain (OpenSpec.ofChange fnNetworkOfSpec)) fnNetworkOfCard

/-- THE TIED CARD OF 'laws.FnPairsSort'. -/
def fnPairsSortCard : Claim7 := { stood := { row := fnPairsSortRow, standIns := [], harness := (true, "dc4c360511ee773baacdb7d09bdaf7cb1411a18accc9c9a6e60d7b6a18c51dd2"), looks := true }, kinds := [], alts := [], laidByText := true, laidKinds := [.widerDeep], laidTests := true, laidLooks := .later }
def FnPairsSortCardSaid : Prop := Claim7.holds Tryd.pinned (.plain (OpenSpec.ofChange fnPairsSortSpec)) fnPairsSortCard

/-- THE TIED CARD OF 'laws.FnApplyPairs'. -/
def fnApplyPairsCard : Claim7 := { stood := { row := fnApplyPairsRow, standIns := [], harness := (true, "dc4c360511ee773baacdb7d09bdaf7cb1411a18accc9c9a6e60d7b6a18c51dd2"), looks := true }, kinds := [], alts := [], laidByText := true, laidKinds := [.widerDeep], laidTests := true, laidLooks := .later }
def FnApplyPairsCardSaid : Prop := Claim7.holds Tryd.pinned (.plain (OpenSpec.ofChange fnApplyPairsSpec)) fnApplyPairsCard

/-- THE TIED CARD OF 'laws.FnTokensOf'. -/
def fnTokensOfCard : Claim7 := { stood := { row := fnTokensOfRow, standIns := [], harness := (true, "dc4c360511ee773baacdb7d09bdaf7cb1411a18accc9c9a6e60d7b6a18c51dd2"), looks := true }, kinds := [], alts := [], laidByText := true, laidKinds := [.widerDeep], laidTests := true, laidLooks := .later }
def FnTokensOfCardSaid : Prop := Claim7.holds Tryd.pinned (.plain (OpenSpec.ofChange fnTokensOfSpec)) fnTokensOfCard

/-- THE TIED CARD OF 'laws.FnReadNumber'. -/
def fnReadNumberCard : Claim7 := { stood := { row := fnReadNumberRow, standIns := [], harness := (true, "dc4c360511ee773baacdb7d09bdaf7cb1411a18accc9c9a6e60d7b6a18c51dd2"), looks := true }, kinds := [], alts := [], laidByText := true, laidKinds := [.data, .data, .data, .sentinel, .sentinel, .widerDeep], laidTests := true, laidLooks := .later }
def FnReadNumberCardSaid : Prop := Claim7.holds Tryd.pinned (.plain (OpenSpec.ofChange fnReadNumberSpec)) fnReadNumberCard

/-- THE TIED CARD OF 'laws.FnNumberText'. -/
def fnNumberTextCard : Claim7 := { stood := { row := fnNumberTextRow, standIns := [], harness := (true, "dc4c360511ee773baacdb7d09bdaf7cb1411a18accc9c9a6e60d7b6a18c51dd2"), looks := true }, kinds := [], alts := [], laidByText := true, laidKinds := [.data, .data, .data, .sentinel, .sentinel, .widerDeep], laidTests := true, laidLooks := .later }
def FnNumberTextCardSaid : Prop := Claim7.holds Tryd.pinned (.plain (OpenSpec.ofChange fnNumberTextSpec)) fnNumberTextCard

/-- THE SECOND FORM's CARD OF 'laws.FnPassTrace'. -/
def fnPassTraceUptoCard : Claim7 := { stood := { row := fnPassTraceUptoRow, standIns := [], harness := (true, "dc4c360511ee773baacdb7d09bdaf7cb1411a18accc9c9a6e60d7b6a18c51dd2"), looks := true }, kinds := [], alts := [], laidByText := true, laidKinds := [.widerDeep], laidTests := true, laidLooks := .later }
def FnPassTraceUptoCardSaid : Prop := Claim7.holds Tryd.pinned (.plain (OpenSpec.upto fnPassTraceSpec)) fnPassTraceUptoCard

/-- THE SECOND FORM's CARD OF 'laws.FnCrossTrace'. -/
def fnCrossTraceUptoCard : Claim7 := { stood := { row := fnCrossTraceUptoRow, standIns := [], harness := (true, "dc4c360511ee773baacdb7d09bdaf7cb1411a18accc9c9a6e60d7b6a18c51dd2"), looks := true }, kinds := [], alts := [], laidByText := true, laidKinds := [.widerDeep], laidTests := true, laidLooks := .later }
def FnCrossTraceUptoCardSaid : Prop := Claim7.holds Tryd.pinned (.plain (OpenSpec.upto fnCrossTraceSpec)) fnCrossTraceUptoCard

/-- THE SECOND FORM's CARD OF 'laws.FnNetworkHalf'. -/
def fnNetworkHalfUptoCard : Claim7 := { stood := { row := fnNetworkHalfUptoRow, standIns := [], harness := (true, "dc4c360511ee773baacdb7d09bdaf7cb1411a18accc9c9a6e60d7b6a18c51dd2"), looks := true }, kinds := [], alts := [], laidByText := true, laidKinds := [.widerDeep], laidTests := true, laidLooks := .later }
def FnNetworkHalfUptoCardSaid : Prop := Claim7.holds Tryd.pinned (.plain (OpenSpec.upto fnNetworkHalfSpec)) fnNetworkHalfUptoCard

/-- THE SECOND FORM's CARD OF 'laws.FnNetworkRounds'. -/
def fnNetworkRoundsUptoCard : Claim7 := { stood := { row := fnNetworkRoundsUptoRow, standIns := [], harness := (true, "dc4c360511ee773baacdb7d09bdaf7cb1411a18accc9c9a6e60d7b6a18c51dd2"), looks := true }, kinds := [], alts := [], laidByText := true, laidKinds := [.widerDeep], laidTests := true, laidLooks := .later }
def FnNetworkRoundsUptoCardSaid : Prop := Claim7.holds Tryd.pinned (.plain (OpenSpec.upto fnNetworkRoundsSpec)) fnNetworkRoundsUptoCard

/-- THE SECOND FORM's CARD OF 'laws.FnPairsDepth'. -/
def fnPairsDepthUptoCard : Claim7 := { stood := { row := fnPairsDepthUptoRow, standIns := [], harness := (true, "dc4c360511ee773baacdb7d09bdaf7cb1411a18accc9c9a6e60d7b6a18c51dd2"), looks := true }, kinds := [], alts := [], laidByText := true, laidKinds := [.widerDeep], laidTests := true, laidLooks := .later }
def FnPairsDepthUptoCardSaid : Prop := Claim7.holds Tryd.pinned (.plain (OpenSpec.upto fnPairsDepthSpec)) fnPairsDepthUptoCard

/-- THE SECOND FORM's CARD OF 'laws.FnNetworkOf'. -/
def fnNetworkOfUptoCard : Claim7 := { stood := { row := fnNetworkOfUptoRow, standIns := [], harness := (true, "dc4c360511ee773baacdb7d09bdaf7cb1411a18accc9c9a6e60d7b6a18c51dd2"), looks := true }, kinds := [], alts := [], laidByText := true, laidKinds := [.widerDeep], laidTests := true, laidLooks := .later }
def FnNetworkOfUptoCardSaid : Prop := Claim7.holds Tryd.pinned (.plain (OpenSpec.upto fnNetworkOfSpec)) fnNetworkOfUptoCard

/-- THE SECOND FORM's CARD OF 'laws.FnPairsSort'. -/
def fnPairsSortUptoCard : Claim7 := { stood := { row := fnPairsSortUptoRow, standIns := [], harness := (true, "dc4c360511ee773baacdb7d09bdaf7cb1411a18accc9c9a6e60d7b6a18c51dd2"), looks := true }, kinds := [], alts := [], laidByText := true, laidKinds := [.widerDeep], laidTests := true, laidLooks := .later }
def FnPairsSortUptoCardSaid : Prop := Claim7.holds Tryd.pinned (.plain (OpenSpec.upto fnPairsSortSpec)) fnPairsSortUptoCard

/-- THE SECOND FORM's CARD OF 'laws.FnApplyPairs'. -/
def fnApplyPairsUptoCard : Claim7 := { stood := { row := fnApplyPairsUptoRow, standIns := [], harness := (true, "dc4c360511ee773baacdb7d09bdaf7cb1411a18accc9c9a6e60d7b6a18c51dd2"), looks := true }, kinds := [], alts := [], laidByText := true, laidKinds := [.widerDeep], laidTests := true, laidLooks := .later }
def FnApplyPairsUptoCardSaid : Prop := Claim7.holds Tryd.pinned (.plain (OpenSpec.upto fnApplyPairsSpec)) fnApplyPairsUptoCard

/-- THE SECOND FORM's CARD OF 'laws.FnTokensOf'. -/
def fnTokensOfUptoCard : Claim7 := { stood := { row := fnTokensOfUptoRow, standIns := [], harness := (true, "dc4c360511ee773baacdb7d09bdaf7cb1411a18accc9c9a6e60d7b6a18c51dd2"), looks := true }, kinds := [], alts := [], laidByText := true, laidKinds := [.widerDeep], laidTests := true, laidLooks := .later }
def FnTokensOfUptoCardSaid : Prop := Claim7.holds Tryd.pinned (.plain (OpenSpec.upto fnTokensOfSpec)) fnTokensOfUptoCard

/-- THE SECOND FORM's CARD OF 'laws.FnReadNumber'. -/
def fnReadNumberUptoCard : Claim7 := { stood := { row := fnReadNumberUptoRow, standIns := [], harness := (true, "dc4c360511ee773baacdb7d09bdaf7cb1411a18accc9c9a6e60d7b6a18c51dd2"), looks := true }, kinds := [], alts := [], laidByText := true, laidKinds := [.data, .data, .data, .sentinel, .sentinel, .widerDeep], laidTests := true, laidLooks := .later }
def FnReadNumberUptoCardSaid : Prop := Claim7.holds Tryd.pinned (.plain (OpenSpec.upto fnReadNumberSpec)) fnReadNumberUptoCard

/-- THE SECOND FORM's CARD OF 'laws.FnNumberText'. -/
def fnNumberTextUptoCard : Claim7 := { stood := { row := fnNumberTextUptoRow, standIns := [], harness := (true, "dc4c360511ee773baacdb7d09bdaf7cb1411a18accc9c9a6e60d7b6a18c51dd2"), looks := true }, kinds := [], alts := [], laidByText := true, laidKinds := [.data, .data, .data, .sentinel, .sentinel, .widerDeep], laidTests := true, laidLooks := .later }
def FnNumberTextUptoCardSaid : Prop := Claim7.holds Tryd.pinned (.plain (OpenSpec.upto fnNumberTextSpec)) fnNumberTextUptoCard
end Rows
end Go.Proofs.YtnihhbmihbcgbaaDoor
