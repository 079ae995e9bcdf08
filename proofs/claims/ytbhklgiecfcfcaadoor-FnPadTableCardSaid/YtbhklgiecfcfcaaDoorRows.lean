/-
  NARROWER THAN 'FOR EVERY INPUT', by the rows' own cells (each row's printed sentence says how): FnLimitRows: laid · FnTakeReal: laid · FnPadTable: laid.
  DERIVED. THE GIVEN ROWS OF THIS SEAT. 3 by the template 'for every input the law returns true; each argument reads behind the call as it read before'; 0 by the template 'total and deterministic' (their statements: YtbhklgiecfcfcaaDoorTotals.lean).
  GIVEN WITH THE SEED: the statements are not yours to turn. If you find one false, say at which input.
  Laid BY PROGRAM, IN A SANDBOX (cutbox-rows.mjs): the forced cells as the released guide's own fill.sh prints them over the translation 1f3171a9f66ba425… (all of the seat's roots in one cut). By AI agents, Wed Nov 11 2026. No macro, syntax, notation, axiom, sorry.
-/
import Derived.Test.YtbhklgiecfcfcaaDoorChecked
import GoSem.Claim
import GoSem.ClaimJoined
import GoSem.ClaimMapViews
import Derived.JoinedTies
import Derived.KernelRfl
namespace Go.Proofs.YtbhklgiecfcfcaaDoor
/- THE CELL 'sum', in the pinned program and in every row, IS THE sha256 OF THE DUMP (.gsa) THAT YtbhklgiecfcfcaaDoorProg.lean LOADS. Nothing in Lean hashes anything: it is a label: what it is worth is what the hold of that sum in a sandbox is worth. -/
noncomputable def Tryd.pinned : Pinned := { name := "ytbhklgiecfcfcaadoor", sum := "1f3171a9f66ba4254c80a8ebb83ea59b2c510b3d8fee336c828bbf9343210e26", checked := Tryd.checked }
namespace Rows
def none {H : Type} : Left H := { results := [], args := [] }

/- WHAT THE LISTED PACKAGE-LEVEL VARIABLES READ AS WHEN THE CALL BEGINS. Each datum BY PROGRAM (the guide's laid-datum.mjs) off the statement by which the dump's own 'gosem.cut.vars' lays the variable. In a bare row this is a premise. The card (YtbhklgiecfcfcaaDoorCards.lean) ties it to the program's text. -/
def laid_loop_example_obliviousqueries_impl_reserved {H : Type} : DataW H := .slice [.lit (.string [115, 101, 108, 101, 99, 116]), .lit (.string [102, 114, 111, 109]), .lit (.string [106, 111, 105, 110]), .lit (.string [111, 110]), .lit (.string [119, 104, 101, 114, 101]), .lit (.string [97, 110, 100]), .lit (.string [111, 114]), .lit (.string [103, 114, 111, 117, 112]), .lit (.string [98, 121]), .lit (.string [115, 117, 109]), .lit (.string [111, 114, 100, 101, 114]), .lit (.string [100, 111, 119, 110]), .lit (.string [108, 105, 109, 105, 116])] []

/-- 'laws.FnLimitRows': WHATEVER THE INPUT: true; the input reads as it did. -/
def fnLimitRowsSpec : ChangeSpec := { name := "fnLimitRows", vars := ["loop.example/obliviousqueries/impl.reserved"], fn := fun _ => fun
  | [d, g1] => { results := [.lit (.bool true)], args := [d], vars := [g1] }
  | _ => none }
def fnLimitRowsRow : OpenClaim := { program := "ytbhklgiecfcfcaadoor", sum := "1f3171a9f66ba4254c80a8ebb83ea59b2c510b3d8fee336c828bbf9343210e26", func := "loop.example/obliviousqueries/laws.FnLimitRows", spec := "fnLimitRows", unfollowed := true, recurses := true, named := ["loop.example/obliviousqueries/impl.reserved"], apart := false, laid := [("loop.example/obliviousqueries/impl.reserved", laid_loop_example_obliviousqueries_impl_reserved)] }
def FnLimitRowsSaid : Prop := fnLimitRowsRow.holds Tryd.pinned (OpenSpec.ofChange fnLimitRowsSpec)

/-- ITS FALSE NEIGHBOUR: 'it returns false'. Refute it at one input. -/
def fnLimitRowsWrong : ChangeSpec := { name := "fnLimitRows", vars := ["loop.example/obliviousqueries/impl.reserved"], fn := fun _ => fun
  | [d, g1] => { results := [.lit (.bool false)], args := [d], vars := [g1] }
  | _ => none }
def FnLimitRowsWrongFalsely : Prop := fnLimitRowsRow.holds Tryd.pinned (OpenSpec.ofChange fnLimitRowsWrong)

/-- 'laws.FnTakeReal': WHATEVER THE INPUT: true; the input reads as it did. -/
def fnTakeRealSpec : ChangeSpec := { name := "fnTakeReal", vars := ["loop.example/obliviousqueries/impl.reserved"], fn := fun _ => fun
  | [d, g1] => { results := [.lit (.bool true)], args := [d], vars := [g1] }
  | _ => none }
def fnTakeRealRow : OpenClaim := { program := "ytbhklgiecfcfcaadoor", sum := "1f3171a9f66ba4254c80a8ebb83ea59b2c510b3d8fee336c828bbf9343210e26", func := "loop.example/obliviousqueries/laws.FnTakeReal", spec := "fnTakeReal", unfollowed := true, recurses := true, named := ["loop.example/obliviousqueries/impl.reserved"], apart := false, laid := [("loop.example/obliviousqueries/impl.reserved", laid_loop_example_obliviousqueries_impl_reserved)] }
def FnTakeRealSaid : Prop := fnTakeRealRow.holds Tryd.pinned (OpenSpec.ofChange fnTakeRealSpec)

/-- ITS FALSE NEIGHBOUR: 'it returns false'. Refute it at one input. -/
def fnTakeRealWrong : ChangeSpec := { name := "fnTakeReal", vars := ["loop.example/obliviousqueries/impl.reserved"], fn := fun _ => fun
  | [d, g1] => { results := [.lit (.bool false)], args := [d], vars := [g1] }
  | _ => none }
def FnTakeRealWrongFalsely : Prop := fnTakeRealRow.holds Tryd.pinned (OpenSpec.ofChange fnTakeRealWrong)

/-- 'laws.FnPadTable': WHATEVER THE INPUT: true; the input reads as it did. -/
def fnPadTableSpec : ChangeSpec := { name := "fnPadTable", vars := ["loop.example/obliviousqueries/impl.reserved"], fn := fun _ => fun
  | [d, g1] => { results := [.lit (.bool true)], args := [d], vars := [g1] }
  | _ => none }
def fnPadTableRow : OpenClaim := { program := "ytbhklgiecfcfcaadoor", sum := "1f3171a9f66ba4254c80a8ebb83ea59b2c510b3d8fee336c828bbf9343210e26", func := "loop.example/obliviousqueries/laws.FnPadTable", spec := "fnPadTable", unfollowed := true, recurses := true, named := ["loop.example/obliviousqueries/impl.reserved"], apart := false, laid := [("loop.example/obliviousqueries/impl.reserved", laid_loop_example_obliviousqueries_impl_reserved)] }
def FnPadTableSaid : Prop := fnPadTableRow.holds Tryd.pinned (OpenSpec.ofChange fnPadTableSpec)

/-- ITS FALSE NEIGHBOUR: 'it returns false'. Refute it at one input. -/
def fnPadTableWrong : ChangeSpec := { name := "fnPadTable", vars := ["loop.example/obliviousqueries/impl.reserved"], fn := fun _ => fun
  | [d, g1] => { results := [.lit (.bool false)], args := [d], vars := [g1] }
  | _ => none }
def FnPadTableWrongFalsely : Prop := fnPadTableRow.holds Tryd.pinned (OpenSpec.ofChange fnPadTableWrong)

/- THE SECOND FORM. 'bulk': how many values and letters a reading holds, each counted each time it is reached (what is shared counts as often as it is met; a slice's spare places count too). A statement '..UptoSaid' is the law's where the arguments, and the package variables that the reading takes, are together of bulk at most 1048576: NARROWER than '..Said'. Prove '..Said' where nothing that the law and all that it calls make is longer than what came in: it says more and counts as full. Else prove '..UptoSaid'. A law counts once. -/
mutual
def uptoBulk {H : Type} : DataW H → Nat
  | .lit (.string bytes) => bytes.length + 1
  | .lit _ => 1
  | .nil => 1
  | .ptr d => uptoBulk d + 1
  | .slice elems spare => uptoBulkAll elems + uptoBulkAll spare + 1
  | .agg parts => uptoBulkAll parts + 1
  | .iface _ d => uptoBulk d + 1
  | .map entries => uptoBulkEntries entries + 1
  | .held _ => 1
def uptoBulkAll {H : Type} : List (DataW H) → Nat
  | [] => 0
  | d :: r => uptoBulk d + uptoBulkAll r
def uptoBulkEntries {H : Type} : List (Lit × DataW H) → Nat
  | [] => 0
  | x :: r => uptoBulkEntry x + uptoBulkEntries r
def uptoBulkEntry {H : Type} : Lit × DataW H → Nat
  | (.string bytes, d) => bytes.length + uptoBulk d + 1
  | (_, d) => uptoBulk d + 1
 end
def uptoSmall : (H : Type) → List (DataW H) → Bool := fun _ ds => decide (uptoBulkAll ds ≤ 1048576)
def OpenSpec.upto (s : _root_.Go.ChangeSpec) : _root_.Go.OpenSpec := { _root_.Go.OpenSpec.ofChange s with cond := some uptoSmall }

/-- 'laws.FnLimitRows', WHERE WHAT IT READS IS OF BULK AT MOST 1048576: true; the input reads as it did. -/
def fnLimitRowsUptoRow : OpenClaim := { program := "ytbhklgiecfcfcaadoor", sum := "1f3171a9f66ba4254c80a8ebb83ea59b2c510b3d8fee336c828bbf9343210e26", func := "loop.example/obliviousqueries/laws.FnLimitRows", spec := "fnLimitRows", unfollowed := true, recurses := true, named := ["loop.example/obliviousqueries/impl.reserved"], apart := false, laid := [("loop.example/obliviousqueries/impl.reserved", laid_loop_example_obliviousqueries_impl_reserved)], narrowed := true }
def FnLimitRowsUptoSaid : Prop := fnLimitRowsUptoRow.holds Tryd.pinned (OpenSpec.upto fnLimitRowsSpec)

/-- 'laws.FnTakeReal', WHERE WHAT IT READS IS OF BULK AT MOST 1048576: true; the input reads as it did. -/
def fnTakeRealUptoRow : OpenClaim := { program := "ytbhklgiecfcfcaadoor", sum := "1f3171a9f66ba4254c80a8ebb83ea59b2c510b3d8fee336c828bbf9343210e26", func := "loop.example/obliviousqueries/laws.FnTakeReal", spec := "fnTakeReal", unfollowed := true, recurses := true, named := ["loop.example/obliviousqueries/impl.reserved"], apart := false, laid := [("loop.example/obliviousqueries/impl.reserved", laid_loop_example_obliviousqueries_impl_reserved)], narrowed := true }
def FnTakeRealUptoSaid : Prop := fnTakeRealUptoRow.holds Tryd.pinned (OpenSpec.upto fnTakeRealSpec)

/-- 'laws.FnPadTable', WHERE WHAT IT READS IS OF BULK AT MOST 1048576: true; the input reads as it did. -/
def fnPadTableUptoRow : OpenClaim := { program := "ytbhklgiecfcfcaadoor", sum := "1f3171a9f66ba4254c80a8ebb83ea59b2c510b3d8fee336c828bbf9343210e26", func := "loop.example/obliviousqueries/laws.FnPadTable", spec := "fnPadTable", unfollowed := true, recurses := true, named := ["loop.example/obliviousqueries/impl.reserved"], apart := false, laid := [("loop.example/obliviousqueries/impl.reserved", laid_loop_example_obliviousqueries_impl_reserved)], narrowed := true }
def FnPadTableUptoSaid : Prop := fnPadTableUptoRow.holds Tryd.pinned (OpenSpec.upto fnPadTableSpec)

end Rows
end Go.Proofs.YtbhklgiecfcfcaaDoor
