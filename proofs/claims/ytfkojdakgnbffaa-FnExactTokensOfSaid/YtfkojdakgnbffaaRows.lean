/-
  No cell of these rows narrows 'for every input' (looked for: loops, veiled, ifaces, maps, wideKeys, modest, calm, conditions, laid).
  DERIVED. THE GIVEN ROWS OF THIS SEAT. 9 by the template 'for every input the law returns true; each argument reads behind the call as it read before'; 0 by the template 'total and deterministic' (their statements: YtfkojdakgnbffaaTotals.lean).
  GIVEN WITH THE SEED: the statements are not yours to turn. If you find one false, say at which input.
  Laid BY PROGRAM, IN A SANDBOX (cutbox-rows.mjs): the forced cells as the released guide's own fill.sh prints them over the translation c27c3fbc0b166510… (all of the seat's roots in one cut). By AI agents, Wed Nov 11 2026. No macro, syntax, notation, axiom, sorry.
-/
import Derived.Test.YtfkojdakgnbffaaChecked
import GoSem.Claim
import GoSem.ClaimJoined
import GoSem.ClaimMapViews
import Derived.JoinedTies
import Derived.KernelRfl
namespace Go.Proofs.Ytfkojdakgnbffaa
/- THE CELL 'sum', in the pinned program and in every row, IS THE sha256 OF THE DUMP (.gsa) THAT YtfkojdakgnbffaaProg.lean LOADS. Nothing in Lean hashes anything: it is a label: what it is worth is what the hold of that sum in a sandbox is worth. -/
noncomputable def Try.pinned : Pinned := { name := "ytfkojdakgnbffaa", sum := "c27c3fbc0b166510423a8ff80f4d49f2d3a0c2b7a937be54c99804123bce8bb7", checked := Try.checked }
namespace Rows
def none {H : Type} : Left H := { results := [], args := [] }

/-- 'laws.FnExactConstants': WHATEVER THE INPUT: true; the input reads as it did. -/
def fnExactConstantsSpec : ChangeSpec := { name := "fnExactConstants", fn := fun _ => fun
  | [] => { results := [.lit (.bool true)], args := [] }
  | _ => none }
def fnExactConstantsRow : OpenClaim := { program := "ytfkojdakgnbffaa", sum := "c27c3fbc0b166510423a8ff80f4d49f2d3a0c2b7a937be54c99804123bce8bb7", func := "loop.example/obliviousqueries/laws.FnExactConstants", spec := "fnExactConstants", apart := false }
def FnExactConstantsSaid : Prop := fnExactConstantsRow.holds Try.pinned (OpenSpec.ofChange fnExactConstantsSpec)

/-- ITS FALSE NEIGHBOUR: 'it returns false'. Refute it at one input. -/
def fnExactConstantsWrong : ChangeSpec := { name := "fnExactConstants", fn := fun _ => fun
  | [] => { results := [.lit (.bool false)], args := [] }
  | _ => none }
def FnExactConstantsWrongFalsely : Prop := fnExactConstantsRow.holds Try.pinned (OpenSpec.ofChange fnExactConstantsWrong)

/-- 'laws.FnExactSameTrace': WHATEVER THE INPUT: true; the input reads as it did. -/
def fnExactSameTraceSpec : ChangeSpec := { name := "fnExactSameTrace", fn := fun _ => fun
  | [d1, d2] => { results := [.lit (.bool true)], args := [d1, d2] }
  | _ => none }
def fnExactSameTraceRow : OpenClaim := { program := "ytfkojdakgnbffaa", sum := "c27c3fbc0b166510423a8ff80f4d49f2d3a0c2b7a937be54c99804123bce8bb7", func := "loop.example/obliviousqueries/laws.FnExactSameTrace", spec := "fnExactSameTrace", apart := false }
def FnExactSameTraceSaid : Prop := fnExactSameTraceRow.holds Try.pinned (OpenSpec.ofChange fnExactSameTraceSpec)

/-- ITS FALSE NEIGHBOUR: 'it returns false'. Refute it at one input. -/
def fnExactSameTraceWrong : ChangeSpec := { name := "fnExactSameTrace", fn := fun _ => fun
  | [d1, d2] => { results := [.lit (.bool false)], args := [d1, d2] }
  | _ => none }
def FnExactSameTraceWrongFalsely : Prop := fnExactSameTraceRow.holds Try.pinned (OpenSpec.ofChange fnExactSameTraceWrong)

/-- 'laws.FnExactPassTrace': WHATEVER THE INPUT: true; the input reads as it did. -/
def fnExactPassTraceSpec : ChangeSpec := { name := "fnExactPassTrace", fn := fun _ => fun
  | [d1, d2] => { results := [.lit (.bool true)], args := [d1, d2] }
  | _ => none }
def fnExactPassTraceRow : OpenClaim := { program := "ytfkojdakgnbffaa", sum := "c27c3fbc0b166510423a8ff80f4d49f2d3a0c2b7a937be54c99804123bce8bb7", func := "loop.example/obliviousqueries/laws.FnExactPassTrace", spec := "fnExactPassTrace", apart := false }
def FnExactPassTraceSaid : Prop := fnExactPassTraceRow.holds Try.pinned (OpenSpec.ofChange fnExactPassTraceSpec)

/-- ITS FALSE NEIGHBOUR: 'it returns false'. Refute it at one input. -/
def fnExactPassTraceWrong : ChangeSpec := { name := "fnExactPassTrace", fn := fun _ => fun
  | [d1, d2] => { results := [.lit (.bool false)], args := [d1, d2] }
  | _ => none }
def FnExactPassTraceWrongFalsely : Prop := fnExactPassTraceRow.holds Try.pinned (OpenSpec.ofChange fnExactPassTraceWrong)

/-- 'laws.FnExactCrossTrace': WHATEVER THE INPUT: true; the input reads as it did. -/
def fnExactCrossTraceSpec : ChangeSpec := { name := "fnExactCrossTrace", fn := fun _ => fun
  | [d1, d2] => { results := [.lit (.bool true)], args := [d1, d2] }
  | _ => none }
def fnExactCrossTraceRow : OpenClaim := { program := "ytfkojdakgnbffaa", sum := "c27c3fbc0b166510423a8ff80f4d49f2d3a0c2b7a937be54c99804123bce8bb7", func := "loop.example/obliviousqueries/laws.FnExactCrossTrace", spec := "fnExactCrossTrace", apart := false }
def FnExactCrossTraceSaid : Prop := fnExactCrossTraceRow.holds Try.pinned (OpenSpec.ofChange fnExactCrossTraceSpec)

/-- ITS FALSE NEIGHBOUR: 'it returns false'. Refute it at one input. -/
def fnExactCrossTraceWrong : ChangeSpec := { name := "fnExactCrossTrace", fn := fun _ => fun
  | [d1, d2] => { results := [.lit (.bool false)], args := [d1, d2] }
  | _ => none }
def FnExactCrossTraceWrongFalsely : Prop := fnExactCrossTraceRow.holds Try.pinned (OpenSpec.ofChange fnExactCrossTraceWrong)

/-- 'laws.FnExactPairsDepth': WHATEVER THE INPUT: true; the input reads as it did. -/
def fnExactPairsDepthSpec : ChangeSpec := { name := "fnExactPairsDepth", fn := fun _ => fun
  | [d1, d2] => { results := [.lit (.bool true)], args := [d1, d2] }
  | _ => none }
def fnExactPairsDepthRow : OpenClaim := { program := "ytfkojdakgnbffaa", sum := "c27c3fbc0b166510423a8ff80f4d49f2d3a0c2b7a937be54c99804123bce8bb7", func := "loop.example/obliviousqueries/laws.FnExactPairsDepth", spec := "fnExactPairsDepth", apart := false }
def FnExactPairsDepthSaid : Prop := fnExactPairsDepthRow.holds Try.pinned (OpenSpec.ofChange fnExactPairsDepthSpec)

/-- ITS FALSE NEIGHBOUR: 'it returns false'. Refute it at one input. -/
def fnExactPairsDepthWrong : ChangeSpec := { name := "fnExactPairsDepth", fn := fun _ => fun
  | [d1, d2] => { results := [.lit (.bool false)], args := [d1, d2] }
  | _ => none }
def FnExactPairsDepthWrongFalsely : Prop := fnExactPairsDepthRow.holds Try.pinned (OpenSpec.ofChange fnExactPairsDepthWrong)

/-- 'laws.FnExactNetworkOf': WHATEVER THE INPUT: true; the input reads as it did. -/
def fnExactNetworkOfSpec : ChangeSpec := { name := "fnExactNetworkOf", fn := fun _ => fun
  | [d] => { results := [.lit (.bool true)], args := [d] }
  | _ => none }
def fnExactNetworkOfRow : OpenClaim := { program := "ytfkojdakgnbffaa", sum := "c27c3fbc0b166510423a8ff80f4d49f2d3a0c2b7a937be54c99804123bce8bb7", func := "loop.example/obliviousqueries/laws.FnExactNetworkOf", spec := "fnExactNetworkOf", unfollowed := true, recurses := true, apart := false }
def FnExactNetworkOfSaid : Prop := fnExactNetworkOfRow.holds Try.pinned (OpenSpec.ofChange fnExactNetworkOfSpec)

/-- ITS FALSE NEIGHBOUR: 'it returns false'. Refute it at one input. -/
def fnExactNetworkOfWrong : ChangeSpec := { name := "fnExactNetworkOf", fn := fun _ => fun
  | [d] => { results := [.lit (.bool false)], args := [d] }
  | _ => none }
def FnExactNetworkOfWrongFalsely : Prop := fnExactNetworkOfRow.holds Try.pinned (OpenSpec.ofChange fnExactNetworkOfWrong)

/-- 'laws.FnExactPairsSort': WHATEVER THE INPUT: true; the input reads as it did. -/
def fnExactPairsSortSpec : ChangeSpec := { name := "fnExactPairsSort", fn := fun _ => fun
  | [d1, d2] => { results := [.lit (.bool true)], args := [d1, d2] }
  | _ => none }
def fnExactPairsSortRow : OpenClaim := { program := "ytfkojdakgnbffaa", sum := "c27c3fbc0b166510423a8ff80f4d49f2d3a0c2b7a937be54c99804123bce8bb7", func := "loop.example/obliviousqueries/laws.FnExactPairsSort", spec := "fnExactPairsSort", apart := false }
def FnExactPairsSortSaid : Prop := fnExactPairsSortRow.holds Try.pinned (OpenSpec.ofChange fnExactPairsSortSpec)

/-- ITS FALSE NEIGHBOUR: 'it returns false'. Refute it at one input. -/
def fnExactPairsSortWrong : ChangeSpec := { name := "fnExactPairsSort", fn := fun _ => fun
  | [d1, d2] => { results := [.lit (.bool false)], args := [d1, d2] }
  | _ => none }
def FnExactPairsSortWrongFalsely : Prop := fnExactPairsSortRow.holds Try.pinned (OpenSpec.ofChange fnExactPairsSortWrong)

/-- 'laws.FnExactTokensOf': WHATEVER THE INPUT: true; the input reads as it did. -/
def fnExactTokensOfSpec : ChangeSpec := { name := "fnExactTokensOf", fn := fun _ => fun
  | [d] => { results := [.lit (.bool true)], args := [d] }
  | _ => none }
def fnExactTokensOfRow : OpenClaim := { program := "ytfkojdakgnbffaa", sum := "c27c3fbc0b166510423a8ff80f4d49f2d3a0c2b7a937be54c99804123bce8bb7", func := "loop.example/obliviousqueries/laws.FnExactTokensOf", spec := "fnExactTokensOf", unfollowed := true, recurses := true, apart := false }
def FnExactTokensOfSaid : Prop := fnExactTokensOfRow.holds Try.pinned (OpenSpec.ofChange fnExactTokensOfSpec)

/-- ITS FALSE NEIGHBOUR: 'it returns false'. Refute it at one input. -/
def fnExactTokensOfWrong : ChangeSpec := { name := "fnExactTokensOf", fn := fun _ => fun
  | [d] => { results := [.lit (.bool false)], args := [d] }
  | _ => none }
def FnExactTokensOfWrongFalsely : Prop := fnExactTokensOfRow.holds Try.pinned (OpenSpec.ofChange fnExactTokensOfWrong)

/-- 'laws.FnExactApplyPairs': WHATEVER THE INPUT: true; the input reads as it did. -/
def fnExactApplyPairsSpec : ChangeSpec := { name := "fnExactApplyPairs", fn := fun _ => fun
  | [d1, d2] => { results := [.lit (.bool true)], args := [d1, d2] }
  | _ => none }
def fnExactApplyPairsRow : OpenClaim := { program := "ytfkojdakgnbffaa", sum := "c27c3fbc0b166510423a8ff80f4d49f2d3a0c2b7a937be54c99804123bce8bb7", func := "loop.example/obliviousqueries/laws.FnExactApplyPairs", spec := "fnExactApplyPairs", apart := false }
def FnExactApplyPairsSaid : Prop := fnExactApplyPairsRow.holds Try.pinned (OpenSpec.ofChange fnExactApplyPairsSpec)

/-- ITS FALSE NEIGHBOUR: 'it returns false'. Refute it at one input. -/
def fnExactApplyPairsWrong : ChangeSpec := { name := "fnExactApplyPairs", fn := fun _ => fun
  | [d1, d2] => { results := [.lit (.bool false)], args := [d1, d2] }
  | _ => none }
def FnExactApplyPairsWrongFalsely : Prop := fnExactApplyPairsRow.holds Try.pinned (OpenSpec.ofChange fnExactApplyPairsWrong)

/- THE SECOND FORM. 'bulk': how many values and letters a reading holds, each counted each time it is reached (what is shared counts as often as it is met; a slice's spare places count too). A statement '..UptoSaid' is the law's where the arguments, and the package variables that the reading takes, are together of bulk at most 1048576: NARROWER than '..Said'. Prove '..Said' where nothing that the law and all that it calls make is longer than what came in: it says more and counts as full. Else prove '..UptoSaid'. A law counts once. -/
mutual
def uptoBulk {H : Type} : DataW H → Nat
  | .lit (.string bytes) => bytes.length + 1
  | .lit _ => 1
  | .nil => 1
  | .ptr d => uptoBulk d + 1
  | .slice elems spare => uptoBulkAll elems + uptoBulkAll spare + 1
  | .agg parts => uptoBulkAll parts + 1
  | .iface _ d => uptoBulk d + 1
  | .map entries => uptoBulkEntries entries + 1
  | .held _ => 1
def uptoBulkAll {H : Type} : List (DataW H) → Nat
  | [] => 0
  | d :: r => uptoBulk d + uptoBulkAll r
def uptoBulkEntries {H : Type} : List (Lit × DataW H) → Nat
  | [] => 0
  | x :: r => uptoBulkEntry x + uptoBulkEntries r
def uptoBulkEntry {H : Type} : Lit × DataW H → Nat
  | (.string bytes, d) => bytes.length + uptoBulk d + 1
  | (_, d) => uptoBulk d + 1
 end
def uptoSmall : (H : Type) → List (DataW H) → Bool := fun _ ds => decide (uptoBulkAll ds ≤ 1048576)
def OpenSpec.upto (s : _root_.Go.ChangeSpec) : _root_.Go.OpenSpec := { _root_.Go.OpenSpec.ofChange s with cond := some uptoSmall }

/-- 'laws.FnExactConstants', WHERE WHAT IT READS IS OF BULK AT MOST 1048576: true; the input reads as it did. -/
def fnExactConstantsUptoRow : OpenClaim := { program := "ytfkojdakgnbffaa", sum := "c27c3fbc0b166510423a8ff80f4d49f2d3a0c2b7a937be54c99804123bce8bb7", func := "loop.example/obliviousqueries/laws.FnExactConstants", spec := "fnExactConstants", apart := false, narrowed := true }
def FnExactConstantsUptoSaid : Prop := fnExactConstantsUptoRow.holds Try.pinned (OpenSpec.upto fnExactConstantsSpec)

/-- 'laws.FnExactSameTrace', WHERE WHAT IT READS IS OF BULK AT MOST 1048576: true; the input reads as it did. -/
def fnExactSameTraceUptoRow : OpenClaim := { program := "ytfkojdakgnbffaa", sum := "c27c3fbc0b166510423a8ff80f4d49f2d3a0c2b7a937be54c99804123bce8bb7", func := "loop.example/obliviousqueries/laws.FnExactSameTrace", spec := "fnExactSameTrace", apart := false, narrowed := true }
def FnExactSameTraceUptoSaid : Prop := fnExactSameTraceUptoRow.holds Try.pinned (OpenSpec.upto fnExactSameTraceSpec)

/-- 'laws.FnExactPassTrace', WHERE WHAT IT READS IS OF BULK AT MOST 1048576: true; the input reads as it did. -/
def fnExactPassTraceUptoRow : OpenClaim := { program := "ytfkojdakgnbffaa", sum := "c27c3fbc0b166510423a8ff80f4d49f2d3a0c2b7a937be54c99804123bce8bb7", func := "loop.example/obliviousqueries/laws.FnExactPassTrace", spec := "fnExactPassTrace", apart := false, narrowed := true }
def FnExactPassTraceUptoSaid : Prop := fnExactPassTraceUptoRow.holds Try.pinned (OpenSpec.upto fnExactPassTraceSpec)

/-- 'laws.FnExactCrossTrace', WHERE WHAT IT READS IS OF BULK AT MOST 1048576: true; the input reads as it did. -/
def fnExactCrossTraceUptoRow : OpenClaim := { program := "ytfkojdakgnbffaa", sum := "c27c3fbc0b166510423a8ff80f4d49f2d3a0c2b7a937be54c99804123bce8bb7", func := "loop.example/obliviousqueries/laws.FnExactCrossTrace", spec := "fnExactCrossTrace", apart := false, narrowed := true }
def FnExactCrossTraceUptoSaid : Prop := fnExactCrossTraceUptoRow.holds Try.pinned (OpenSpec.upto fnExactCrossTraceSpec)

/-- 'laws.FnExactPairsDepth', WHERE WHAT IT READS IS OF BULK AT MOST 1048576: true; the input reads as it did. -/
def fnExactPairsDepthUptoRow : OpenClaim := { program := "ytfkojdakgnbffaa", sum := "c27c3fbc0b166510423a8ff80f4d49f2d3a0c2b7a937be54c99804123bce8bb7", func := "loop.example/obliviousqueries/laws.FnExactPairsDepth", spec := "fnExactPairsDepth", apart := false, narrowed := true }
def FnExactPairsDepthUptoSaid : Prop := fnExactPairsDepthUptoRow.holds Try.pinned (OpenSpec.upto fnExactPairsDepthSpec)

/-- 'laws.FnExactNetworkOf', WHERE WHAT IT READS IS OF BULK AT MOST 1048576: true; the input reads as it did. -/
def fnExactNetworkOfUptoRow : OpenClaim := { program := "ytfkojdakgnbffaa", sum := "c27c3fbc0b166510423a8ff80f4d49f2d3a0c2b7a937be54c99804123bce8bb7", func := "loop.example/obliviousqueries/laws.FnExactNetworkOf", spec := "fnExactNetworkOf", unfollowed := true, recurses := true, apart := false, narrowed := true }
def FnExactNetworkOfUptoSaid : Prop := fnExactNetworkOfUptoRow.holds Try.pinned (OpenSpec.upto fnExactNetworkOfSpec)

/-- 'laws.FnExactPairsSort', WHERE WHAT IT READS IS OF BULK AT MOST 1048576: true; the input reads as it did. -/
def fnExactPairsSortUptoRow : OpenClaim := { program := "ytfkojdakgnbffaa", sum := "c27c3fbc0b166510423a8ff80f4d49f2d3a0c2b7a937be54c99804123bce8bb7", func := "loop.example/obliviousqueries/laws.FnExactPairsSort", spec := "fnExactPairsSort", apart := false, narrowed := true }
def FnExactPairsSortUptoSaid : Prop := fnExactPairsSortUptoRow.holds Try.pinned (OpenSpec.upto fnExactPairsSortSpec)

/-- 'laws.FnExactTokensOf', WHERE WHAT IT READS IS OF BULK AT MOST 1048576: true; the input reads as it did. -/
def fnExactTokensOfUptoRow : OpenClaim := { program := "ytfkojdakgnbffaa", sum := "c27c3fbc0b166510423a8ff80f4d49f2d3a0c2b7a937be54c99804123bce8bb7", func := "loop.example/obliviousqueries/laws.FnExactTokensOf", spec := "fnExactTokensOf", unfollowed := true, recurses := true, apart := false, narrowed := true }
def FnExactTokensOfUptoSaid : Prop := fnExactTokensOfUptoRow.holds Try.pinned (OpenSpec.upto fnExactTokensOfSpec)

/-- 'laws.FnExactApplyPairs', WHERE WHAT IT READS IS OF BULK AT MOST 1048576: true; the input reads as it did. -/
def fnExactApplyPairsUptoRow : OpenClaim := { program := "ytfkojdakgnbffaa", sum := "c27c3fbc0b166510423a8ff80f4d49f2d3a0c2b7a937be54c99804123bce8bb7", func := "loop.example/obliviousqueries/laws.FnExactApplyPairs", spec := "fnExactApplyPairs", apart := false, narrowed := true }
def FnExactApplyPairsUptoSaid : Prop := fnExactApplyPairsUptoRow.holds Try.pinned (OpenSpec.upto fnExactApplyPairsSpec)

end Rows
end Go.Proofs.Ytfkojdakgnbffaa
