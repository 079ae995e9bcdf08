/- Proved: laws.FnExactGroupRows returns true for every table and two names, and writes nothing that was there. Conditions: none beside the card's own (the package variables that it lists start as the program's text lays them). -/
import Derived.Test.YtldpcjkfkcbfmaaDoorLawGrp
import Derived.Test.YtldpcjkfkcbfmaaDoorLaid
import Derived.Test.YtldpcjkfkcbfmaaDoorFrame
import Derived.Test.YtldpcjkfkcbfmaaDoorCards
import Derived.Test.YtldpcjkfkcbfmaaDoorTie
import Derived.ChangeMaps5
import Derived.Deep.DeepHandedRow
import Derived.Deep.DeepWitnessRowRef
namespace Go.Proofs.YtldpcjkfkcbfmaaDoor.fnExactGroupRows
open Go.ChangeMaps (open_string)
open Go Go.ChangeShapes Go.WideShapes Go.ChangeAt Go.RowKit
set_option linter.unusedVariables false

set_option maxRecDepth 100000 in
theorem contract (H : Type) (enc : TypeId × Value → H) (W : World) (base : Nat) (args : Array Value) (ds gs : List (DataW H)) (before : List MemPlace)
    (hval : ∀ (j : Nat) t v, Tryd.f5.params[j]? = some t → args[j]? = some v → Value.okWide Tryd.prog W .any base t v)
    (hW : DataW.Whole enc Tryd.prog Tryd.f5.params.toList Rows.fnExactGroupRowsSpec.vars false W args.toList ds gs before) (hL : laidMetH Tryd.prog Rows.fnExactGroupRowsRow.laid W) :
    Calls Tryd.prog 5 args W fun e W' => ∃ v, e = .returned v ∧ Rows.fnExactGroupRowsSpec.post enc Tryd.prog Tryd.f5 false true false false W args v W' := by
  obtain ⟨RA, RC, hv, hx⟩ := reserved_laid (show laidMet Tryd.prog _ W from hL)
  have hW' := hW
  obtain ⟨p, q, hA0, hV, rfl, hfz, hnd⟩ := hW
  have hA : DataW.TrodAll enc Tryd.prog W 0 (fun _ => true) true Tryd.f5.params.toList args.toList ds p := hA0
  rw [Tryd.params5] at hA hval
  obtain ⟨v0, vs0, d0, ds0, p0, q0, hargs, rfl, rfl, h0, r0⟩ := trodAll_cons hA
  obtain ⟨v1, vs1, d1, ds1, p1, q1, rfl, rfl, rfl, h1, r1⟩ := trodAll_cons r0
  obtain ⟨v2, vs2, d2, ds2, p2, q2, rfl, rfl, rfl, h2, r2⟩ := trodAll_cons r1
  obtain ⟨rfl, rfl, rfl⟩ := trodAll_nil r2
  obtain rfl : args = #[v0, v1, v2] := by cases args; simp_all
  obtain ⟨g1, rfl⟩ : ∃ g1, gs = [g1] := by
    cases gs with
    | nil => exact absurd hV (by simp [DataW.TrodVars, Rows.fnExactGroupRowsSpec])
    | cons a gs =>
      cases gs with
      | nil => exact ⟨a, rfl⟩
      | cons b gs => obtain ⟨_, _, _, _, _, _, _, _, _, _, h, _⟩ := hV; exact absurd h (by simp [DataW.TrodVars])
  obtain ⟨names0, rows0, ta0⟩ := open_table (hval 0 25 v0 rfl rfl) h0
  obtain ⟨a1, rfl, rfl, rfl, w1⟩ := open_string Tryd.underlying9 (hval 1 9 v1 rfl rfl) h1
  obtain ⟨a2, rfl, rfl, rfl, w2⟩ := open_string Tryd.underlying9 (hval 2 9 v2 rfl rfl) h2
  refine (lawExactGroup_walk v0 names0 rows0 ta0 a1 w1 a2 w2 RA RC hv hx).mono fun e W' ⟨he, hg⟩ => ?_
  subst he
  exact ⟨_, rfl, law_post (tb := 4) laidOut (by rw [Tryd.params5]; intro t ht; simp at ht; rcases ht with rfl | rfl | rfl <;> exact ⟨by kernel_rfl, of_decide_eq_true (by kernel_rfl)⟩) (by
      intro n hn g t hg1 ht1
      obtain rfl : n = "loop.example/obliviousqueries/impl.reserved" := by simpa [Rows.fnExactGroupRowsSpec] using hn
      obtain rfl := Option.some.inj (gRes.symm.trans hg1)
      obtain rfl := Option.some.inj (gResType.symm.trans ht1)
      exact ⟨by kernel_rfl, of_decide_eq_true (by kernel_rfl)⟩) (by kernel_rfl) Tryd.underlying4 hW' rfl hg⟩

noncomputable def world0 (os : Os) : World := World.holding Tryd.prog os ⟨#[], #[], []⟩
noncomputable def head (os : Os) : Array Obj := (world0 os).heap.modify 0 fun
  | .cells _ t frozen => .cells #[.slice (some ⟨(world0 os).heap.size, 0, none⟩) 13 13] t frozen
  | o => o
noncomputable def laidWorld (os : Os) : World := { world0 os with heap := Array.push (head os) (Obj.cells (stCells resW).toArray 9) }
theorem laid_met (os : Os) : laidMet Tryd.prog Rows.fnExactGroupRowsRow.laid ((laidWorld os).forCall (fun _ _ => 0) ⟨#[], #[.agg #[.slice none 0 0, .slice none 0 0], .string ByteArray.empty, .string ByteArray.empty], []⟩).memory :=
  laidMet_of_run' 8 (by kernel_rfl) (by kernel_rfl)
theorem reads (os : Os) {H : Type} (enc : TypeId × Value → H) : ∃ places, DataW.whole enc Tryd.prog ((laidWorld os).forCall (fun _ _ => 0) ⟨#[], #[.agg #[.slice none 0 0, .slice none 0 0], .string ByteArray.empty, .string ByteArray.empty], []⟩).memory Tryd.f5.params.toList Rows.fnExactGroupRowsSpec.vars false #[.agg #[.slice none 0 0, .slice none 0 0], .string ByteArray.empty, .string ByteArray.empty].toList 8 = some ([.agg [.nil, .nil], .lit (.string []), .lit (.string [])], [Rows.laid_loop_example_obliviousqueries_impl_reserved], places) := by
  have h : (DataW.whole enc Tryd.prog ((laidWorld os).forCall (fun _ _ => 0) ⟨#[], #[.agg #[.slice none 0 0, .slice none 0 0], .string ByteArray.empty, .string ByteArray.empty], []⟩).memory Tryd.f5.params.toList Rows.fnExactGroupRowsSpec.vars false #[.agg #[.slice none 0 0, .slice none 0 0], .string ByteArray.empty, .string ByteArray.empty].toList 8).map (fun x => (x.1, x.2.1)) = some ([.agg [.nil, .nil], .lit (.string []), .lit (.string [])], [Rows.laid_loop_example_obliviousqueries_impl_reserved]) := by kernel_rfl
  obtain ⟨⟨a, b, c⟩, hx, e⟩ := Option.map_eq_some_iff.1 h
  simp only [Prod.mk.injEq] at e
  obtain ⟨rfl, rfl⟩ := e
  exact ⟨c, hx⟩

set_option maxRecDepth 100000 in
theorem lifted (os : Os) (started : os.Started) (H : Type) (enc : TypeId × Value → H) (F : Stop.Interp) :
    ReturnsInHanded {} Tryd.checked os 5 .any ((OpenSpec.ofChange Rows.fnExactGroupRowsSpec).preRow enc Tryd.prog Tryd.f5 Rows.fnExactGroupRowsRow.domain false Rows.fnExactGroupRowsRow.laid) (((OpenSpec.ofChange Rows.fnExactGroupRowsSpec).at F).post enc Tryd.prog Tryd.f5 false true false false) := by
  obtain ⟨places, hx⟩ := reads os enc
  refine returnsInHanded_of_row (C := Tryd.checked) (s := OpenSpec.ofChange Rows.fnExactGroupRowsSpec) own started (by kernel_rfl) Tryd.func5
    (witness_row_atRef (enc := enc) (C := Tryd.checked) false (laidWorld os) #[.agg #[.slice none 0 0, .slice none 0 0], .string ByteArray.empty, .string ByteArray.empty] rfl (by kernel_rfl) (by kernel_rfl) (by kernel_rfl)
      (OpenSpec.preRow_of_cond 8 hx (by kernel_rfl) (fun k hk => by cases hk) (by kernel_rfl) (laid_met os))) ?_
  intro W base args ds gs before hval hW _ _ _ hL _ _
  exact contract H enc W base args ds gs before hval hW hL
theorem said : Rows.FnExactGroupRowsSaid :=
  OpenClaim.holds_of_cond 5 Tryd.f5 rfl rfl rfl rfl rfl rfl rfl ⟨rfl, rfl, rfl, rfl, rfl⟩ rfl rfl rfl rfl rfl (by kernel_rfl) Tryd.func5 (by kernel_rfl)
    (of_decide_eq_true (by kernel_rfl)) (by unfold Func.isWrapper; first | (rw [if_pos (by decide +kernel)]; kernel_rfl) | (rw [if_neg (by decide +kernel)]; exact ⟨rfl, rfl⟩))
    (fun os started H enc _ F => by rw [OpenClaim.pre_eq_preRow]; exact lifted os started H enc F)
theorem plain (f : FuncId) (fn : Func) (hf : Tryd.pinned.checked.prog.funcNamed "loop.example/obliviousqueries/laws.FnExactGroupRows" = some f) (hfn : Tryd.pinned.checked.prog.funcs[f]? = some fn) :
    false = Tryd.pinned.checked.prog.looks [] ∧
    ∀ (j : Nat) t, fn.params[j]? = some t → Tryd.pinned.checked.prog.wantsStandIn t = false := by
  obtain rfl : f = 5 := Option.some.inj ((show Tryd.prog.funcNamed "loop.example/obliviousqueries/laws.FnExactGroupRows" = some 5 by kernel_rfl).symm.trans hf) |>.symm
  obtain rfl : fn = Tryd.f5 := (Option.some.inj (Tryd.func5.symm.trans hfn)).symm
  refine ⟨by kernel_rfl, fun j t ht => ?_⟩
  rw [Tryd.params5] at ht
  have hm := Array.mem_of_getElem? ht
  simp at hm
  rcases hm with rfl | rfl
  · exact (show Tryd.prog.wantsStandIn 25 = false by kernel_rfl)
  · exact (show Tryd.prog.wantsStandIn 9 = false by kernel_rfl)
theorem proved : Rows.FnExactGroupRowsCardSaid :=
  Claim7.holds_tied_plain_at .later [] _ _ _ _ said (fun _ h => by cases h) (by kernel_rfl) (fun _ h => by cases h) fnExactGroupRows_row_tie rfl ⟨rfl, rfl⟩ (by kernel_rfl) rfl plain (by kernel_rfl)
#print axioms proved
end Go.Proofs.YtldpcjkfkcbfmaaDoor.fnExactGroupRows

