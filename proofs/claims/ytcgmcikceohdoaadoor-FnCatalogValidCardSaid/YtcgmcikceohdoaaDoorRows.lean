/-
  NARROWER THAN 'FOR EVERY INPUT', by the rows' own cells (each row's printed sentence says how): FnExactNameValid: laid · FnNameValid: laid · FnTableValid: laid · FnExactTableValid: laid · FnColumnOf: laid · FnExactColumnOf: laid · FnPaddedValid: laid · FnExactPaddedValid: laid · FnRealRows: laid · FnExactRealRows: laid · FnCatalogValid: laid · FnExactCatalogValid: laid.
  DERIVED. THE GIVEN ROWS OF THIS SEAT. 12 by the template 'for every input the law returns true; each argument reads behind the call as it read before'; 0 by the template 'total and deterministic' (their statements: YtcgmcikceohdoaaDoorTotals.lean).
  GIVEN WITH THE SEED: the statements are not yours to turn. If you find one false, say at which input.
  Laid BY PROGRAM, IN A SANDBOX (cutbox-rows.mjs): the forced cells as the released guide's own fill.sh prints them over the translation de99a7dd76ec05ed… (all of the seat's roots in one cut). By AI agents, Wed Nov 11 2026. No macro, syntax, notation, axiom, sorry.
-/
import Derived.Test.YtcgmcikceohdoaaDoorChecked
import GoSem.Claim
import GoSem.ClaimJoined
import GoSem.ClaimMapViews
import Derived.JoinedTies
import Derived.KernelRfl
namespace Go.Proofs.YtcgmcikceohdoaaDoor
/- THE CELL 'sum', in the pinned program and in every row, IS THE sha256 OF THE DUMP (.gsa) THAT YtcgmcikceohdoaaDoorProg.lean LOADS. Nothing in Lean hashes anything: it is a label: what it is worth is what the hold of that sum in a sandbox is worth. -/
noncomputable def Tryd.pinned : Pinned := { name := "ytcgmcikceohdoaadoor", sum := "de99a7dd76ec05edd729d78fff8b3f7c78bc450705e81de4b864a84422789eaf", checked := Tryd.checked }
namespace Rows
def none {H : Type} : Left H := { results := [], args := [] }

/- WHAT THE LISTED PACKAGE-LEVEL VARIABLES READ AS WHEN THE CALL BEGINS. Each datum BY PROGRAM (the guide's laid-datum.mjs) off the statement by which the dump's own 'gosem.cut.vars' lays the variable. In a bare row this is a premise. The card (YtcgmcikceohdoaaDoorCards.lean) ties it to the program's text. -/
def laid_loop_example_obliviousqueries_impl_reserved {H : Type} : DataW H := .slice [.lit (.string [115, 101, 108, 101, 99, 116]), .lit (.string [102, 114, 111, 109]), .lit (.string [106, 111, 105, 110]), .lit (.string [111, 110]), .lit (.string [119, 104, 101, 114, 101]), .lit (.string [97, 110, 100]), .lit (.string [111, 114]), .lit (.string [103, 114, 111, 117, 112]), .lit (.string [98, 121]), .lit (.string [115, 117, 109]), .lit (.string [111, 114, 100, 101, 114]), .lit (.string [100, 111, 119, 110]), .lit (.string [108, 105, 109, 105, 116])] []

/-- 'laws.FnExactNameValid': WHATEVER THE INPUT: true; the input reads as it did. -/
def fnExactNameValidSpec : ChangeSpec := { name := "fnExactNameValid", vars := ["loop.example/obliviousqueries/impl.reserved"], fn := fun _ => fun
  | [d, g1] => { results := [.lit (.bool true)], args := [d], vars := [g1] }
  | _ => none }
def fnExactNameValidRow : OpenClaim := { program := "ytcgmcikceohdoaadoor", sum := "de99a7dd76ec05edd729d78fff8b3f7c78bc450705e81de4b864a84422789eaf", func := "loop.example/obliviousqueries/laws.FnExactNameValid", spec := "fnExactNameValid", named := ["loop.example/obliviousqueries/impl.reserved"], apart := false, laid := [("loop.example/obliviousqueries/impl.reserved", laid_loop_example_obliviousqueries_impl_reserved)] }
def FnExactNameValidSaid : Prop := fnExactNameValidRow.holds Tryd.pinned (OpenSpec.ofChange fnExactNameValidSpec)

/-- ITS FALSE NEIGHBOUR: 'it returns false'. Refute it at one input. -/
def fnExactNameValidWrong : ChangeSpec := { name := "fnExactNameValid", vars := ["loop.example/obliviousqueries/impl.reserved"], fn := fun _ => fun
  | [d, g1] => { results := [.lit (.bool false)], args := [d], vars := [g1] }
  | _ => none }
def FnExactNameValidWrongFalsely : Prop := fnExactNameValidRow.holds Tryd.pinned (OpenSpec.ofChange fnExactNameValidWrong)

/-- 'laws.FnNameValid': WHATEVER THE INPUT: true; the input reads as it did. -/
def fnNameValidSpec : ChangeSpec := { name := "fnNameValid", vars := ["loop.example/obliviousqueries/impl.reserved"], fn := fun _ => fun
  | [d, g1] => { results := [.lit (.bool true)], args := [d], vars := [g1] }
  | _ => none }
def fnNameValidRow : OpenClaim := { program := "ytcgmcikceohdoaadoor", sum := "de99a7dd76ec05edd729d78fff8b3f7c78bc450705e81de4b864a84422789eaf", func := "loop.example/obliviousqueries/laws.FnNameValid", spec := "fnNameValid", named := ["loop.example/obliviousqueries/impl.reserved"], apart := false, laid := [("loop.example/obliviousqueries/impl.reserved", laid_loop_example_obliviousqueries_impl_reserved)] }
def FnNameValidSaid : Prop := fnNameValidRow.holds Tryd.pinned (OpenSpec.ofChange fnNameValidSpec)

/-- ITS FALSE NEIGHBOUR: 'it returns false'. Refute it at one input. -/
def fnNameValidWrong : ChangeSpec := { name := "fnNameValid", vars := ["loop.example/obliviousqueries/impl.reserved"], fn := fun _ => fun
  | [d, g1] => { results := [.lit (.bool false)], args := [d], vars := [g1] }
  | _ => none }
def FnNameValidWrongFalsely : Prop := fnNameValidRow.holds Tryd.pinned (OpenSpec.ofChange fnNameValidWrong)

/-- 'laws.FnTableValid': WHATEVER THE INPUT: true; the input reads as it did. -/
def fnTableValidSpec : ChangeSpec := { name := "fnTableValid", vars := ["loop.example/obliviousqueries/impl.reserved"], fn := fun _ => fun
  | [d, g1] => { results := [.lit (.bool true)], args := [d], vars := [g1] }
  | _ => none }
def fnTableValidRow : OpenClaim := { program := "ytcgmcikceohdoaadoor", sum := "de99a7dd76ec05edd729d78fff8b3f7c78bc450705e81de4b864a84422789eaf", func := "loop.example/obliviousqueries/laws.FnTableValid", spec := "fnTableValid", unfollowed := true, recurses := true, named := ["loop.example/obliviousqueries/impl.reserved"], apart := false, laid := [("loop.example/obliviousqueries/impl.reserved", laid_loop_example_obliviousqueries_impl_reserved)] }
def FnTableValidSaid : Prop := fnTableValidRow.holds Tryd.pinned (OpenSpec.ofChange fnTableValidSpec)

/-- ITS FALSE NEIGHBOUR: 'it returns false'. Refute it at one input. -/
def fnTableValidWrong : ChangeSpec := { name := "fnTableValid", vars := ["loop.example/obliviousqueries/impl.reserved"], fn := fun _ => fun
  | [d, g1] => { results := [.lit (.bool false)], args := [d], vars := [g1] }
  | _ => none }
def FnTableValidWrongFalsely : Prop := fnTableValidRow.holds Tryd.pinned (OpenSpec.ofChange fnTableValidWrong)

/-- 'laws.FnExactTableValid': WHATEVER THE INPUT: true; the input reads as it did. -/
def fnExactTableValidSpec : ChangeSpec := { name := "fnExactTableValid", vars := ["loop.example/obliviousqueries/impl.reserved"], fn := fun _ => fun
  | [d, g1] => { results := [.lit (.bool true)], args := [d], vars := [g1] }
  | _ => none }
def fnExactTableValidRow : OpenClaim := { program := "ytcgmcikceohdoaadoor", sum := "de99a7dd76ec05edd729d78fff8b3f7c78bc450705e81de4b864a84422789eaf", func := "loop.example/obliviousqueries/laws.FnExactTableValid", spec := "fnExactTableValid", unfollowed := true, recurses := true, named := ["loop.example/obliviousqueries/impl.reserved"], apart := false, laid := [("loop.example/obliviousqueries/impl.reserved", laid_loop_example_obliviousqueries_impl_reserved)] }
def FnExactTableValidSaid : Prop := fnExactTableValidRow.holds Tryd.pinned (OpenSpec.ofChange fnExactTableValidSpec)

/-- ITS FALSE NEIGHBOUR: 'it returns false'. Refute it at one input. -/
def fnExactTableValidWrong : ChangeSpec := { name := "fnExactTableValid", vars := ["loop.example/obliviousqueries/impl.reserved"], fn := fun _ => fun
  | [d, g1] => { results := [.lit (.bool false)], args := [d], vars := [g1] }
  | _ => none }
def FnExactTableValidWrongFalsely : Prop := fnExactTableValidRow.holds Tryd.pinned (OpenSpec.ofChange fnExactTableValidWrong)

/-- 'laws.FnColumnOf': WHATEVER THE INPUT: true; the input reads as it did. -/
def fnColumnOfSpec : ChangeSpec := { name := "fnColumnOf", vars := ["loop.example/obliviousqueries/impl.reserved"], fn := fun _ => fun
  | [d, g1] => { results := [.lit (.bool true)], args := [d], vars := [g1] }
  | _ => none }
def fnColumnOfRow : OpenClaim := { program := "ytcgmcikceohdoaadoor", sum := "de99a7dd76ec05edd729d78fff8b3f7c78bc450705e81de4b864a84422789eaf", func := "loop.example/obliviousqueries/laws.FnColumnOf", spec := "fnColumnOf", unfollowed := true, recurses := true, named := ["loop.example/obliviousqueries/impl.reserved"], apart := false, laid := [("loop.example/obliviousqueries/impl.reserved", laid_loop_example_obliviousqueries_impl_reserved)] }
def FnColumnOfSaid : Prop := fnColumnOfRow.holds Tryd.pinned (OpenSpec.ofChange fnColumnOfSpec)

/-- ITS FALSE NEIGHBOUR: 'it returns false'. Refute it at one input. -/
def fnColumnOfWrong : ChangeSpec := { name := "fnColumnOf", vars := ["loop.example/obliviousqueries/impl.reserved"], fn := fun _ => fun
  | [d, g1] => { results := [.lit (.bool false)], args := [d], vars := [g1] }
  | _ => none }
def FnColumnOfWrongFalsely : Prop := fnColumnOfRow.holds Tryd.pinned (OpenSpec.ofChange fnColumnOfWrong)

/-- 'laws.FnExactColumnOf': WHATEVER THE INPUT: true; the input reads as it did. -/
def fnExactColumnOfSpec : ChangeSpec := { name := "fnExactColumnOf", vars := ["loop.example/obliviousqueries/impl.reserved"], fn := fun _ => fun
  | [d1, d2, g1] => { results := [.lit (.bool true)], args := [d1, d2], vars := [g1] }
  | _ => none }
def fnExactColumnOfRow : OpenClaim := { program := "ytcgmcikceohdoaadoor", sum := "de99a7dd76ec05edd729d78fff8b3f7c78bc450705e81de4b864a84422789eaf", func := "loop.example/obliviousqueries/laws.FnExactColumnOf", spec := "fnExactColumnOf", unfollowed := true, recurses := true, named := ["loop.example/obliviousqueries/impl.reserved"], apart := false, laid := [("loop.example/obliviousqueries/impl.reserved", laid_loop_example_obliviousqueries_impl_reserved)] }
def FnExactColumnOfSaid : Prop := fnExactColumnOfRow.holds Tryd.pinned (OpenSpec.ofChange fnExactColumnOfSpec)

/-- ITS FALSE NEIGHBOUR: 'it returns false'. Refute it at one input. -/
def fnExactColumnOfWrong : ChangeSpec := { name := "fnExactColumnOf", vars := ["loop.example/obliviousqueries/impl.reserved"], fn := fun _ => fun
  | [d1, d2, g1] => { results := [.lit (.bool false)], args := [d1, d2], vars := [g1] }
  | _ => none }
def FnExactColumnOfWrongFalsely : Prop := fnExactColumnOfRow.holds Tryd.pinned (OpenSpec.ofChange fnExactColumnOfWrong)

/-- 'laws.FnPaddedValid': WHATEVER THE INPUT: true; the input reads as it did. -/
def fnPaddedValidSpec : ChangeSpec := { name := "fnPaddedValid", vars := ["loop.example/obliviousqueries/impl.reserved"], fn := fun _ => fun
  | [d, g1] => { results := [.lit (.bool true)], args := [d], vars := [g1] }
  | _ => none }
def fnPaddedValidRow : OpenClaim := { program := "ytcgmcikceohdoaadoor", sum := "de99a7dd76ec05edd729d78fff8b3f7c78bc450705e81de4b864a84422789eaf", func := "loop.example/obliviousqueries/laws.FnPaddedValid", spec := "fnPaddedValid", unfollowed := true, recurses := true, named := ["loop.example/obliviousqueries/impl.reserved"], apart := false, laid := [("loop.example/obliviousqueries/impl.reserved", laid_loop_example_obliviousqueries_impl_reserved)] }
def FnPaddedValidSaid : Prop := fnPaddedValidRow.holds Tryd.pinned (OpenSpec.ofChange fnPaddedValidSpec)

/-- ITS FALSE NEIGHBOUR: 'it returns false'. Refute it at one input. -/
def fnPaddedValidWrong : ChangeSpec := { name := "fnPaddedValid", vars := ["loop.example/obliviousqueries/impl.reserved"], fn := fun _ => fun
  | [d, g1] => { results := [.lit (.bool false)], args := [d], vars := [g1] }
  | _ => none }
def FnPaddedValidWrongFalsely : Prop := fnPaddedValidRow.holds Tryd.pinned (OpenSpec.ofChange fnPaddedValidWrong)

/-- 'laws.FnExactPaddedValid': WHATEVER THE INPUT: true; the input reads as it did. -/
def fnExactPaddedValidSpec : ChangeSpec := { name := "fnExactPaddedValid", vars := ["loop.example/obliviousqueries/impl.reserved"], fn := fun _ => fun
  | [d, g1] => { results := [.lit (.bool true)], args := [d], vars := [g1] }
  | _ => none }
def fnExactPaddedValidRow : OpenClaim := { program := "ytcgmcikceohdoaadoor", sum := "de99a7dd76ec05edd729d78fff8b3f7c78bc450705e81de4b864a84422789eaf", func := "loop.example/obliviousqueries/laws.FnExactPaddedValid", spec := "fnExactPaddedValid", unfollowed := true, recurses := true, named := ["loop.example/obliviousqueries/impl.reserved"], apart := false, laid := [("loop.example/obliviousqueries/impl.reserved", laid_loop_example_obliviousqueries_impl_reserved)] }
def FnExactPaddedValidSaid : Prop := fnExactPaddedValidRow.holds Tryd.pinned (OpenSpec.ofChange fnExactPaddedValidSpec)

/-- ITS FALSE NEIGHBOUR: 'it returns false'. Refute it at one input. -/
def fnExactPaddedValidWrong : ChangeSpec := { name := "fnExactPaddedValid", vars := ["loop.example/obliviousqueries/impl.reserved"], fn := fun _ => fun
  | [d, g1] => { results := [.lit (.bool false)], args := [d], vars := [g1] }
  | _ => none }
def FnExactPaddedValidWrongFalsely : Prop := fnExactPaddedValidRow.holds Tryd.pinned (OpenSpec.ofChange fnExactPaddedValidWrong)

/-- 'laws.FnRealRows': WHATEVER THE INPUT: true; the input reads as it did. -/
def fnRealRowsSpec : ChangeSpec := { name := "fnRealRows", vars := ["loop.example/obliviousqueries/impl.reserved"], fn := fun _ => fun
  | [d, g1] => { results := [.lit (.bool true)], args := [d], vars := [g1] }
  | _ => none }
def fnRealRowsRow : OpenClaim := { program := "ytcgmcikceohdoaadoor", sum := "de99a7dd76ec05edd729d78fff8b3f7c78bc450705e81de4b864a84422789eaf", func := "loop.example/obliviousqueries/laws.FnRealRows", spec := "fnRealRows", unfollowed := true, recurses := true, named := ["loop.example/obliviousqueries/impl.reserved"], apart := false, laid := [("loop.example/obliviousqueries/impl.reserved", laid_loop_example_obliviousqueries_impl_reserved)] }
def FnRealRowsSaid : Prop := fnRealRowsRow.holds Tryd.pinned (OpenSpec.ofChange fnRealRowsSpec)

/-- ITS FALSE NEIGHBOUR: 'it returns false'. Refute it at one input. -/
def fnRealRowsWrong : ChangeSpec := { name := "fnRealRows", vars := ["loop.example/obliviousqueries/impl.reserved"], fn := fun _ => fun
  | [d, g1] => { results := [.lit (.bool false)], args := [d], vars := [g1] }
  | _ => none }
def FnRealRowsWrongFalsely : Prop := fnRealRowsRow.holds Tryd.pinned (OpenSpec.ofChange fnRealRowsWrong)

/-- 'laws.FnExactRealRows': WHATEVER THE INPUT: true; the input reads as it did. -/
def fnExactRealRowsSpec : ChangeSpec := { name := "fnExactRealRows", vars := ["loop.example/obliviousqueries/impl.reserved"], fn := fun _ => fun
  | [d, g1] => { results := [.lit (.bool true)], args := [d], vars := [g1] }
  | _ => none }
def fnExactRealRowsRow : OpenClaim := { program := "ytcgmcikceohdoaadoor", sum := "de99a7dd76ec05edd729d78fff8b3f7c78bc450705e81de4b864a84422789eaf", func := "loop.example/obliviousqueries/laws.FnExactRealRows", spec := "fnExactRealRows", unfollowed := true, recurses := true, named := ["loop.example/obliviousqueries/impl.reserved"], apart := false, laid := [("loop.example/obliviousqueries/impl.reserved", laid_loop_example_obliviousqueries_impl_reserved)] }
def FnExactRealRowsSaid : Prop := fnExactRealRowsRow.holds Tryd.pinned (OpenSpec.ofChange fnExactRealRowsSpec)

/-- ITS FALSE NEIGHBOUR: 'it returns false'. Refute it at one input. -/
def fnExactRealRowsWrong : ChangeSpec := { name := "fnExactRealRows", vars := ["loop.example/obliviousqueries/impl.reserved"], fn := fun _ => fun
  | [d, g1] => { results := [.lit (.bool false)], args := [d], vars := [g1] }
  | _ => none }
def FnExactRealRowsWrongFalsely : Prop := fnExactRealRowsRow.holds Tryd.pinned (OpenSpec.ofChange fnExactRealRowsWrong)

/-- 'laws.FnCatalogValid': WHATEVER THE INPUT: true; the input reads as it did. -/
def fnCatalogValidSpec : ChangeSpec := { name := "fnCatalogValid", vars := ["loop.example/obliviousqueries/impl.reserved"], fn := fun _ => fun
  | [d, g1] => { results := [.lit (.bool true)], args := [d], vars := [g1] }
  | _ => none }
def fnCatalogValidRow : OpenClaim := { program := "ytcgmcikceohdoaadoor", sum := "de99a7dd76ec05edd729d78fff8b3f7c78bc450705e81de4b864a84422789eaf", func := "loop.example/obliviousqueries/laws.FnCatalogValid", spec := "fnCatalogValid", unfollowed := true, recurses := true, named := ["loop.example/obliviousqueries/impl.reserved"], apart := false, laid := [("loop.example/obliviousqueries/impl.reserved", laid_loop_example_obliviousqueries_impl_reserved)] }
def FnCatalogValidSaid : Prop := fnCatalogValidRow.holds Tryd.pinned (OpenSpec.ofChange fnCatalogValidSpec)

/-- ITS FALSE NEIGHBOUR: 'it returns false'. Refute it at one input. -/
def fnCatalogValidWrong : ChangeSpec := { name := "fnCatalogValid", vars := ["loop.example/obliviousqueries/impl.reserved"], fn := fun _ => fun
  | [d, g1] => { results := [.lit (.bool false)], args := [d], vars := [g1] }
  | _ => none }
def FnCatalogValidWrongFalsely : Prop := fnCatalogValidRow.holds Tryd.pinned (OpenSpec.ofChange fnCatalogValidWrong)

/-- 'laws.FnExactCatalogValid': WHATEVER THE INPUT: true; the input reads as it did. -/
def fnExactCatalogValidSpec : ChangeSpec := { name := "fnExactCatalogValid", vars := ["loop.example/obliviousqueries/impl.reserved"], fn := fun _ => fun
  | [d, g1] => { results := [.lit (.bool true)], args := [d], vars := [g1] }
  | _ => none }
def fnExactCatalogValidRow : OpenClaim := { program := "ytcgmcikceohdoaadoor", sum := "de99a7dd76ec05edd729d78fff8b3f7c78bc450705e81de4b864a84422789eaf", func := "loop.example/obliviousqueries/laws.FnExactCatalogValid", spec := "fnExactCatalogValid", unfollowed := true, recurses := true, named := ["loop.example/obliviousqueries/impl.reserved"], apart := false, laid := [("loop.example/obliviousqueries/impl.reserved", laid_loop_example_obliviousqueries_impl_reserved)] }
def FnExactCatalogValidSaid : Prop := fnExactCatalogValidRow.holds Tryd.pinned (OpenSpec.ofChange fnExactCatalogValidSpec)

/-- ITS FALSE NEIGHBOUR: 'it returns false'. Refute it at one input. -/
def fnExactCatalogValidWrong : ChangeSpec := { name := "fnExactCatalogValid", vars := ["loop.example/obliviousqueries/impl.reserved"], fn := fun _ => fun
  | [d, g1] => { results := [.lit (.bool false)], args := [d], vars := [g1] }
  | _ => none }
def FnExactCatalogValidWrongFalsely : Prop := fnExactCatalogValidRow.holds Tryd.pinned (OpenSpec.ofChange fnExactCatalogValidWrong)

/- THE SECOND FORM. 'bulk': how many values and letters a reading holds, each counted each time it is reached (what is shared counts as often as it is met; a slice's spare places count too). A statement '..UptoSaid' is the law's where the arguments, and the package variables that the reading takes, are together of bulk at most 1048576: NARROWER than '..Said'. Prove '..Said' where nothing that the law and all that it calls make is longer than what came in: it says more and counts as full. Else prove '..UptoSaid'. A law counts once. -/
mutual
def uptoBulk {H : Type} : DataW H → Nat
  | .lit (.string bytes) => bytes.length + 1
  | .lit _ => 1
  | .nil => 1
  | .ptr d => uptoBulk d + 1
  | .slice elems spare => uptoBulkAll elems + uptoBulkAll spare + 1
  | .agg parts => uptoBulkAll parts + 1
  | .iface _ d => uptoBulk d + 1
  | .map entries => uptoBulkEntries entries + 1
  | .held _ => 1
def uptoBulkAll {H : Type} : List (DataW H) → Nat
  | [] => 0
  | d :: r => uptoBulk d + uptoBulkAll r
def uptoBulkEntries {H : Type} : List (Lit × DataW H) → Nat
  | [] => 0
  | x :: r => uptoBulkEntry x + uptoBulkEntries r
def uptoBulkEntry {H : Type} : Lit × DataW H → Nat
  | (.string bytes, d) => bytes.length + uptoBulk d + 1
  | (_, d) => uptoBulk d + 1
 end
def uptoSmall : (H : Type) → List (DataW H) → Bool := fun _ ds => decide (uptoBulkAll ds ≤ 1048576)
def OpenSpec.upto (s : _root_.Go.ChangeSpec) : _root_.Go.OpenSpec := { _root_.Go.OpenSpec.ofChange s with cond := some uptoSmall }

/-- 'laws.FnExactNameValid', WHERE WHAT IT READS IS OF BULK AT MOST 1048576: true; the input reads as it did. -/
def fnExactNameValidUptoRow : OpenClaim := { program := "ytcgmcikceohdoaadoor", sum := "de99a7dd76ec05edd729d78fff8b3f7c78bc450705e81de4b864a84422789eaf", func := "loop.example/obliviousqueries/laws.FnExactNameValid", spec := "fnExactNameValid", named := ["loop.example/obliviousqueries/impl.reserved"], apart := false, laid := [("loop.example/obliviousqueries/impl.reserved", laid_loop_example_obliviousqueries_impl_reserved)], narrowed := true }
def FnExactNameValidUptoSaid : Prop := fnExactNameValidUptoRow.holds Tryd.pinned (OpenSpec.upto fnExactNameValidSpec)

/-- 'laws.FnNameValid', WHERE WHAT IT READS IS OF BULK AT MOST 1048576: true; the input reads as it did. -/
def fnNameValidUptoRow : OpenClaim := { program := "ytcgmcikceohdoaadoor", sum := "de99a7dd76ec05edd729d78fff8b3f7c78bc450705e81de4b864a84422789eaf", func := "loop.example/obliviousqueries/laws.FnNameValid", spec := "fnNameValid", named := ["loop.example/obliviousqueries/impl.reserved"], apart := false, laid := [("loop.example/obliviousqueries/impl.reserved", laid_loop_example_obliviousqueries_impl_reserved)], narrowed := true }
def FnNameValidUptoSaid : Prop := fnNameValidUptoRow.holds Tryd.pinned (OpenSpec.upto fnNameValidSpec)

/-- 'laws.FnTableValid', WHERE WHAT IT READS IS OF BULK AT MOST 1048576: true; the input reads as it did. -/
def fnTableValidUptoRow : OpenClaim := { program := "ytcgmcikceohdoaadoor", sum := "de99a7dd76ec05edd729d78fff8b3f7c78bc450705e81de4b864a84422789eaf", func := "loop.example/obliviousqueries/laws.FnTableValid", spec := "fnTableValid", unfollowed := true, recurses := true, named := ["loop.example/obliviousqueries/impl.reserved"], apart := false, laid := [("loop.example/obliviousqueries/impl.reserved", laid_loop_example_obliviousqueries_impl_reserved)], narrowed := true }
def FnTableValidUptoSaid : Prop := fnTableValidUptoRow.holds Tryd.pinned (OpenSpec.upto fnTableValidSpec)

/-- 'laws.FnExactTableValid', WHERE WHAT IT READS IS OF BULK AT MOST 1048576: true; the input reads as it did. -/
def fnExactTableValidUptoRow : OpenClaim := { program := "ytcgmcikceohdoaadoor", sum := "de99a7dd76ec05edd729d78fff8b3f7c78bc450705e81de4b864a84422789eaf", func := "loop.example/obliviousqueries/laws.FnExactTableValid", spec := "fnExactTableValid", unfollowed := true, recurses := true, named := ["loop.example/obliviousqueries/impl.reserved"], apart := false, laid := [("loop.example/obliviousqueries/impl.reserved", laid_loop_example_obliviousqueries_impl_reserved)], narrowed := true }
def FnExactTableValidUptoSaid : Prop := fnExactTableValidUptoRow.holds Tryd.pinned (OpenSpec.upto fnExactTableValidSpec)

/-- 'laws.FnColumnOf', WHERE WHAT IT READS IS OF BULK AT MOST 1048576: true; the input reads as it did. -/
def fnColumnOfUptoRow : OpenClaim := { program := "ytcgmcikceohdoaadoor", sum := "de99a7dd76ec05edd729d78fff8b3f7c78bc450705e81de4b864a84422789eaf", func := "loop.example/obliviousqueries/laws.FnColumnOf", spec := "fnColumnOf", unfollowed := true, recurses := true, named := ["loop.example/obliviousqueries/impl.reserved"], apart := false, laid := [("loop.example/obliviousqueries/impl.reserved", laid_loop_example_obliviousqueries_impl_reserved)], narrowed := true }
def FnColumnOfUptoSaid : Prop := fnColumnOfUptoRow.holds Tryd.pinned (OpenSpec.upto fnColumnOfSpec)

/-- 'laws.FnExactColumnOf', WHERE WHAT IT READS IS OF BULK AT MOST 1048576: true; the input reads as it did. -/
def fnExactColumnOfUptoRow : OpenClaim := { program := "ytcgmcikceohdoaadoor", sum := "de99a7dd76ec05edd729d78fff8b3f7c78bc450705e81de4b864a84422789eaf", func := "loop.example/obliviousqueries/laws.FnExactColumnOf", spec := "fnExactColumnOf", unfollowed := true, recurses := true, named := ["loop.example/obliviousqueries/impl.reserved"], apart := false, laid := [("loop.example/obliviousqueries/impl.reserved", laid_loop_example_obliviousqueries_impl_reserved)], narrowed := true }
def FnExactColumnOfUptoSaid : Prop := fnExactColumnOfUptoRow.holds Tryd.pinned (OpenSpec.upto fnExactColumnOfSpec)

/-- 'laws.FnPaddedValid', WHERE WHAT IT READS IS OF BULK AT MOST 1048576: true; the input reads as it did. -/
def fnPaddedValidUptoRow : OpenClaim := { program := "ytcgmcikceohdoaadoor", sum := "de99a7dd76ec05edd729d78fff8b3f7c78bc450705e81de4b864a84422789eaf", func := "loop.example/obliviousqueries/laws.FnPaddedValid", spec := "fnPaddedValid", unfollowed := true, recurses := true, named := ["loop.example/obliviousqueries/impl.reserved"], apart := false, laid := [("loop.example/obliviousqueries/impl.reserved", laid_loop_example_obliviousqueries_impl_reserved)], narrowed := true }
def FnPaddedValidUptoSaid : Prop := fnPaddedValidUptoRow.holds Tryd.pinned (OpenSpec.upto fnPaddedValidSpec)

/-- 'laws.FnExactPaddedValid', WHERE WHAT IT READS IS OF BULK AT MOST 1048576: true; the input reads as it did. -/
def fnExactPaddedValidUptoRow : OpenClaim := { program := "ytcgmcikceohdoaadoor", sum := "de99a7dd76ec05edd729d78fff8b3f7c78bc450705e81de4b864a84422789eaf", func := "loop.example/obliviousqueries/laws.FnExactPaddedValid", spec := "fnExactPaddedValid", unfollowed := true, recurses := true, named := ["loop.example/obliviousqueries/impl.reserved"], apart := false, laid := [("loop.example/obliviousqueries/impl.reserved", laid_loop_example_obliviousqueries_impl_reserved)], narrowed := true }
def FnExactPaddedValidUptoSaid : Prop := fnExactPaddedValidUptoRow.holds Tryd.pinned (OpenSpec.upto fnExactPaddedValidSpec)

/-- 'laws.FnRealRows', WHERE WHAT IT READS IS OF BULK AT MOST 1048576: true; the input reads as it did. -/
def fnRealRowsUptoRow : OpenClaim := { program := "ytcgmcikceohdoaadoor", sum := "de99a7dd76ec05edd729d78fff8b3f7c78bc450705e81de4b864a84422789eaf", func := "loop.example/obliviousqueries/laws.FnRealRows", spec := "fnRealRows", unfollowed := true, recurses := true, named := ["loop.example/obliviousqueries/impl.reserved"], apart := false, laid := [("loop.example/obliviousqueries/impl.reserved", laid_loop_example_obliviousqueries_impl_reserved)], narrowed := true }
def FnRealRowsUptoSaid : Prop := fnRealRowsUptoRow.holds Tryd.pinned (OpenSpec.upto fnRealRowsSpec)

/-- 'laws.FnExactRealRows', WHERE WHAT IT READS IS OF BULK AT MOST 1048576: true; the input reads as it did. -/
def fnExactRealRowsUptoRow : OpenClaim := { program := "ytcgmcikceohdoaadoor", sum := "de99a7dd76ec05edd729d78fff8b3f7c78bc450705e81de4b864a84422789eaf", func := "loop.example/obliviousqueries/laws.FnExactRealRows", spec := "fnExactRealRows", unfollowed := true, recurses := true, named := ["loop.example/obliviousqueries/impl.reserved"], apart := false, laid := [("loop.example/obliviousqueries/impl.reserved", laid_loop_example_obliviousqueries_impl_reserved)], narrowed := true }
def FnExactRealRowsUptoSaid : Prop := fnExactRealRowsUptoRow.holds Tryd.pinned (OpenSpec.upto fnExactRealRowsSpec)

/-- 'laws.FnCatalogValid', WHERE WHAT IT READS IS OF BULK AT MOST 1048576: true; the input reads as it did. -/
def fnCatalogValidUptoRow : OpenClaim := { program := "ytcgmcikceohdoaadoor", sum := "de99a7dd76ec05edd729d78fff8b3f7c78bc450705e81de4b864a84422789eaf", func := "loop.example/obliviousqueries/laws.FnCatalogValid", spec := "fnCatalogValid", unfollowed := true, recurses := true, named := ["loop.example/obliviousqueries/impl.reserved"], apart := false, laid := [("loop.example/obliviousqueries/impl.reserved", laid_loop_example_obliviousqueries_impl_reserved)], narrowed := true }
def FnCatalogValidUptoSaid : Prop := fnCatalogValidUptoRow.holds Tryd.pinned (OpenSpec.upto fnCatalogValidSpec)

/-- 'laws.FnExactCatalogValid', WHERE WHAT IT READS IS OF BULK AT MOST 1048576: true; the input reads as it did. -/
def fnExactCatalogValidUptoRow : OpenClaim := { program := "ytcgmcikceohdoaadoor", sum := "de99a7dd76ec05edd729d78fff8b3f7c78bc450705e81de4b864a84422789eaf", func := "loop.example/obliviousqueries/laws.FnExactCatalogValid", spec := "fnExactCatalogValid", unfollowed := true, recurses := true, named := ["loop.example/obliviousqueries/impl.reserved"], apart := false, laid := [("loop.example/obliviousqueries/impl.reserved", laid_loop_example_obliviousqueries_impl_reserved)], narrowed := true }
def FnExactCatalogValidUptoSaid : Prop := fnExactCatalogValidUptoRow.holds Tryd.pinned (OpenSpec.upto fnExactCatalogValidSpec)

end Rows
end Go.Proofs.YtcgmcikceohdoaaDoor
