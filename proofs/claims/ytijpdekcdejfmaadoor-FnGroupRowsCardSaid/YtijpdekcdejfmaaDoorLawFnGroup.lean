/- Proved: laws.FnGroupRows returns true for every byte slice, and writes nothing that was there. Conditions: none beside the card's own (the package variables that it lists start as the program's text lays them). -/
import Derived.Test.YtijpdekcdejfmaaDoorFnGroup
import Derived.Test.YtijpdekcdejfmaaDoorLaid
import Derived.Test.YtijpdekcdejfmaaDoorFrame
import Derived.Test.YtijpdekcdejfmaaDoorCards
import Derived.Test.YtijpdekcdejfmaaDoorTie
import Derived.ChangeMaps5
import Derived.Deep.DeepHandedRow
import Derived.Deep.DeepWitnessRowRef
namespace Go.Proofs.YtijpdekcdejfmaaDoor.fnGroupRows
open Go.ChangeMaps (open_string)
open Go Go.ChangeShapes Go.WideShapes Go.ChangeAt Go.RowKit
set_option linter.unusedVariables false

set_option maxRecDepth 100000 in
theorem contract (H : Type) (enc : TypeId × Value → H) (W : World) (base : Nat) (args : Array Value) (ds gs : List (DataW H)) (before : List MemPlace)
    (hval : ∀ (j : Nat) t v, Tryd.f5.params[j]? = some t → args[j]? = some v → Value.okWide Tryd.prog W .any base t v)
    (hW : DataW.Whole enc Tryd.prog Tryd.f5.params.toList Rows.fnGroupRowsSpec.vars false W args.toList ds gs before) (hL : laidMetH Tryd.prog Rows.fnGroupRowsRow.laid W) :
    Calls Tryd.prog 5 args W fun e W' => ∃ v, e = .returned v ∧ Rows.fnGroupRowsSpec.post enc Tryd.prog Tryd.f5 false true false false W args v W' := by
  obtain ⟨RA, RC, hv, hx⟩ := reserved_laid (show laidMet Tryd.prog _ W from hL)
  have hW' := hW
  obtain ⟨p, q, hA0, hV, rfl, hfz, hnd⟩ := hW
  have hA : DataW.TrodAll enc Tryd.prog W 0 (fun _ => true) true Tryd.f5.params.toList args.toList ds p := hA0
  rw [Tryd.params5] at hA hval
  obtain ⟨v0, vs0, d0, ds0, p0, q0, hargs, rfl, rfl, h0, r0⟩ := trodAll_cons hA
  obtain ⟨rfl, rfl, rfl⟩ := trodAll_nil r0
  obtain rfl : args = #[v0] := by cases args; simp_all
  obtain ⟨g1, rfl⟩ : ∃ g1, gs = [g1] := by
    cases gs with
    | nil => exact absurd hV (by simp [DataW.TrodVars, Rows.fnGroupRowsSpec])
    | cons a gs =>
      cases gs with
      | nil => exact ⟨a, rfl⟩
      | cons b gs => obtain ⟨_, _, _, _, _, _, _, _, _, _, h, _⟩ := hV; exact absurd h (by simp [DataW.TrodVars])
  obtain ⟨A0, n0, c0, xs0, rfl, hl0, hc0, hm0, hx0⟩ := open_bytes (hval 0 22 v0 rfl rfl) h0
  refine (fnGroup_walk A0 n0 c0 xs0 hl0 hc0 hm0 hx0 RA RC hv hx).mono fun e W' ⟨he, hg⟩ => ?_
  subst he
  exact ⟨_, rfl, law_post (tb := 4) laidOut (by rw [Tryd.params5]; intro t ht; simp at ht; subst ht; exact ⟨by kernel_rfl, of_decide_eq_true (by kernel_rfl)⟩) (by
      intro n hn g t hg1 ht1
      obtain rfl : n = "loop.example/obliviousqueries/impl.reserved" := by simpa [Rows.fnGroupRowsSpec] using hn
      obtain rfl := Option.some.inj (gRes.symm.trans hg1)
      obtain rfl := Option.some.inj (gResType.symm.trans ht1)
      exact ⟨by kernel_rfl, of_decide_eq_true (by kernel_rfl)⟩) (by kernel_rfl) Tryd.underlying4 hW' rfl hg⟩

noncomputable def world0 (os : Os) : World := World.holding Tryd.prog os ⟨#[], #[], []⟩
noncomputable def head (os : Os) : Array Obj := (world0 os).heap.modify 0 fun
  | .cells _ t frozen => .cells #[.slice (some ⟨(world0 os).heap.size, 0, none⟩) 13 13] t frozen
  | o => o
noncomputable def laidWorld (os : Os) : World := { world0 os with heap := Array.push (head os) (Obj.cells (stCells resW).toArray 9) }
theorem laid_met (os : Os) : laidMet Tryd.prog Rows.fnGroupRowsRow.laid ((laidWorld os).forCall (fun _ _ => 0) ⟨#[], #[.slice none 0 0], []⟩).memory :=
  laidMet_of_run' 8 (by kernel_rfl) (by kernel_rfl)
theorem reads (os : Os) {H : Type} (enc : TypeId × Value → H) : ∃ places, DataW.whole enc Tryd.prog ((laidWorld os).forCall (fun _ _ => 0) ⟨#[], #[.slice none 0 0], []⟩).memory Tryd.f5.params.toList Rows.fnGroupRowsSpec.vars false #[.slice none 0 0].toList 8 = some ([.nil], [Rows.laid_loop_example_obliviousqueries_impl_reserved], places) := by
  have h : (DataW.whole enc Tryd.prog ((laidWorld os).forCall (fun _ _ => 0) ⟨#[], #[.slice none 0 0], []⟩).memory Tryd.f5.params.toList Rows.fnGroupRowsSpec.vars false #[.slice none 0 0].toList 8).map (fun x => (x.1, x.2.1)) = some ([.nil], [Rows.laid_loop_example_obliviousqueries_impl_reserved]) := by kernel_rfl
  obtain ⟨⟨a, b, c⟩, hx, e⟩ := Option.map_eq_some_iff.1 h
  simp only [Prod.mk.injEq] at e
  obtain ⟨rfl, rfl⟩ := e
  exact ⟨c, hx⟩

set_option maxRecDepth 100000 in
theorem lifted (os : Os) (started : os.Started) (H : Type) (enc : TypeId × Value → H) (F : Stop.Interp) :
    ReturnsInHanded {} Tryd.checked os 5 .any ((OpenSpec.ofChange Rows.fnGroupRowsSpec).preRow enc Tryd.prog Tryd.f5 Rows.fnGroupRowsRow.domain false Rows.fnGroupRowsRow.laid) (((OpenSpec.ofChange Rows.fnGroupRowsSpec).at F).post enc Tryd.prog Tryd.f5 false true false false) := by
  obtain ⟨places, hx⟩ := reads os enc
  refine returnsInHanded_of_row (C := Tryd.checked) (s := OpenSpec.ofChange Rows.fnGroupRowsSpec) own started (by kernel_rfl) Tryd.func5
    (witness_row_atRef (enc := enc) (C := Tryd.checked) false (laidWorld os) #[.slice none 0 0] rfl (by kernel_rfl) (by kernel_rfl) (by kernel_rfl)
      (OpenSpec.preRow_of_cond 8 hx (by kernel_rfl) (fun k hk => by cases hk) (by kernel_rfl) (laid_met os))) ?_
  intro W base args ds gs before hval hW _ _ _ hL _ _
  exact contract H enc W base args ds gs before hval hW hL
theorem said : Rows.FnGroupRowsSaid :=
  OpenClaim.holds_of_cond 5 Tryd.f5 rfl rfl rfl rfl rfl rfl rfl ⟨rfl, rfl, rfl, rfl, rfl⟩ rfl rfl rfl rfl rfl (by kernel_rfl) Tryd.func5 (by kernel_rfl)
    (of_decide_eq_true (by kernel_rfl)) (by unfold Func.isWrapper; first | (rw [if_pos (by decide +kernel)]; kernel_rfl) | (rw [if_neg (by decide +kernel)]; exact ⟨rfl, rfl⟩))
    (fun os started H enc _ F => by rw [OpenClaim.pre_eq_preRow]; exact lifted os started H enc F)
theorem plain (f : FuncId) (fn : Func) (hf : Tryd.pinned.checked.prog.funcNamed "loop.example/obliviousqueries/laws.FnGroupRows" = some f) (hfn : Tryd.pinned.checked.prog.funcs[f]? = some fn) :
    false = Tryd.pinned.checked.prog.looks [] ∧
    ∀ (j : Nat) t, fn.params[j]? = some t → Tryd.pinned.checked.prog.wantsStandIn t = false := by
  obtain rfl : f = 5 := Option.some.inj ((show Tryd.prog.funcNamed "loop.example/obliviousqueries/laws.FnGroupRows" = some 5 by kernel_rfl).symm.trans hf) |>.symm
  obtain rfl : fn = Tryd.f5 := (Option.some.inj (Tryd.func5.symm.trans hfn)).symm
  refine ⟨by kernel_rfl, fun j t ht => ?_⟩
  rw [Tryd.params5] at ht
  have hm := Array.mem_of_getElem? ht
  simp at hm
  subst hm
  exact (show Tryd.prog.wantsStandIn 22 = false by kernel_rfl)
theorem proved : Rows.FnGroupRowsCardSaid :=
  Claim7.holds_tied_plain_at .later [] _ _ _ _ said (fun _ h => by cases h) (by kernel_rfl) (fun _ h => by cases h) fnGroupRows_row_tie rfl ⟨rfl, rfl⟩ (by kernel_rfl) rfl plain (by kernel_rfl)
#print axioms proved
end Go.Proofs.YtijpdekcdejfmaaDoor.fnGroupRows

