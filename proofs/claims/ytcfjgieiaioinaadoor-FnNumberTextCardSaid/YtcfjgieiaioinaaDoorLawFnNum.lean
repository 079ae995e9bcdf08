/- Proved: laws.FnNumberText returns true for every code, and writes nothing that was there. Conditions: none beside the card's own (the package variables that it lists start as the program's text lays them). -/
import Derived.Test.YtcfjgieiaioinaaDoorFnNum
import Derived.Test.YtcfjgieiaioinaaDoorLaidN
import Derived.Test.YtcfjgieiaioinaaDoorFrame
import Derived.Test.YtcfjgieiaioinaaDoorCards
import Derived.Test.YtcfjgieiaioinaaDoorTie
import Derived.ChangeMaps5
import Derived.Deep.DeepHandedRow
import Derived.Deep.DeepWitnessRowRef
namespace Go.Proofs.YtcfjgieiaioinaaDoor.fnNumberText
open Go.ChangeMaps (open_string)
open Go Go.ChangeShapes Go.WideShapes Go.ChangeAt Go.RowKit
set_option linter.unusedVariables false

set_option maxRecDepth 100000 in
theorem contract (H : Type) (enc : TypeId × Value → H) (W : World) (base : Nat) (args : Array Value) (ds gs : List (DataW H)) (before : List MemPlace)
    (hval : ∀ (j : Nat) t v, Tryd.f6.params[j]? = some t → args[j]? = some v → Value.okWide Tryd.prog W .any base t v)
    (hW : DataW.Whole enc Tryd.prog Tryd.f6.params.toList Rows.fnNumberTextSpec.vars false W args.toList ds gs before) (hL : laidMetH Tryd.prog Rows.fnNumberTextRow.laid W) :
    Calls Tryd.prog 6 args W fun e W' => ∃ v, e = .returned v ∧ Rows.fnNumberTextSpec.post enc Tryd.prog Tryd.f6 false true false false W args v W' := by
  have hN : LV W := LV.laid (show laidMet Tryd.prog (_ :: _ :: _ :: _ :: _ :: _) W from hL)
  obtain ⟨RA, RC, hv, hx⟩ := reserved_laid (show laidMet Tryd.prog (_ :: _ :: _ :: _ :: _ :: _ :: _) W from hL).tail.tail.tail.tail.tail
  have hW' := hW
  obtain ⟨p, q, hA0, hV, rfl, hfz, hnd⟩ := hW
  have hA : DataW.TrodAll enc Tryd.prog W 0 (fun _ => true) true Tryd.f6.params.toList args.toList ds p := hA0
  rw [Tryd.params6] at hA hval
  obtain ⟨v0, vs0, d0, ds0, p0, q0, hargs, rfl, rfl, h0, r0⟩ := trodAll_cons hA
  obtain ⟨rfl, rfl, rfl⟩ := trodAll_nil r0
  obtain rfl : args = #[v0] := by cases args; simp_all
  obtain ⟨g1, rfl⟩ : ∃ g1, gs = [g1] := by
    cases gs with
    | nil => exact absurd hV (by simp [DataW.TrodVars, Rows.fnNumberTextSpec])
    | cons a gs =>
      cases gs with
      | nil => exact ⟨a, rfl⟩
      | cons b gs => obtain ⟨_, _, _, _, _, _, _, _, _, _, h, _⟩ := hV; exact absurd h (by simp [DataW.TrodVars])
  obtain ⟨A0, n0, c0, xs0, rfl, hl0, hc0, hm0, hx0⟩ := open_bytes (hval 0 27 v0 rfl rfl) h0
  refine (fnNum_walk A0 n0 c0 xs0 hl0 hc0 hm0 hx0 hN RA RC hv hx).mono fun e W' ⟨he, hg⟩ => ?_
  subst he
  exact ⟨_, rfl, law_post (tb := 4) laidOut (by rw [Tryd.params6]; intro t ht; simp at ht; subst ht; exact ⟨by kernel_rfl, of_decide_eq_true (by kernel_rfl)⟩) (by
      intro n hn g t hg1 ht1
      obtain rfl : n = "loop.example/obliviousqueries/impl.reserved" := by simpa [Rows.fnNumberTextSpec] using hn
      obtain rfl := Option.some.inj (gRes.symm.trans hg1)
      obtain rfl := Option.some.inj (gResType.symm.trans ht1)
      exact ⟨by kernel_rfl, of_decide_eq_true (by kernel_rfl)⟩) (by kernel_rfl) Tryd.underlying4 hW' rfl hg⟩

theorem laid_met (os : Os) : laidMet Tryd.prog Rows.fnNumberTextRow.laid ((laidWorldN os).forCall (fun _ _ => 0) ⟨#[], #[.slice none 0 0], []⟩).memory :=
  laidMet_of_run' 8 (by kernel_rfl) (by kernel_rfl)
theorem reads (os : Os) {H : Type} (enc : TypeId × Value → H) : ∃ places, DataW.whole enc Tryd.prog ((laidWorldN os).forCall (fun _ _ => 0) ⟨#[], #[.slice none 0 0], []⟩).memory Tryd.f6.params.toList Rows.fnNumberTextSpec.vars false #[.slice none 0 0].toList 8 = some ([.nil], [Rows.laid_loop_example_obliviousqueries_impl_reserved], places) := by
  have h : (DataW.whole enc Tryd.prog ((laidWorldN os).forCall (fun _ _ => 0) ⟨#[], #[.slice none 0 0], []⟩).memory Tryd.f6.params.toList Rows.fnNumberTextSpec.vars false #[.slice none 0 0].toList 8).map (fun x => (x.1, x.2.1)) = some ([.nil], [Rows.laid_loop_example_obliviousqueries_impl_reserved]) := by kernel_rfl
  obtain ⟨⟨a, b, c⟩, hx, e⟩ := Option.map_eq_some_iff.1 h
  simp only [Prod.mk.injEq] at e
  obtain ⟨rfl, rfl⟩ := e
  exact ⟨c, hx⟩

set_option maxRecDepth 100000 in
theorem lifted (os : Os) (started : os.Started) (H : Type) (enc : TypeId × Value → H) (F : Stop.Interp) :
    ReturnsInHanded {} Tryd.checked os 6 .any ((OpenSpec.ofChange Rows.fnNumberTextSpec).preRow enc Tryd.prog Tryd.f6 Rows.fnNumberTextRow.domain false Rows.fnNumberTextRow.laid) (((OpenSpec.ofChange Rows.fnNumberTextSpec).at F).post enc Tryd.prog Tryd.f6 false true false false) := by
  obtain ⟨places, hx⟩ := reads os enc
  refine returnsInHanded_of_row (C := Tryd.checked) (s := OpenSpec.ofChange Rows.fnNumberTextSpec) own started (by kernel_rfl) Tryd.func6
    (witness_row_atRef (enc := enc) (C := Tryd.checked) false (laidWorldN os) #[.slice none 0 0] rfl (by kernel_rfl) (by kernel_rfl) (by kernel_rfl)
      (OpenSpec.preRow_of_cond 8 hx (by kernel_rfl) (fun k hk => by cases hk) (by kernel_rfl) (laid_met os))) ?_
  intro W base args ds gs before hval hW _ _ _ hL _ _
  exact contract H enc W base args ds gs before hval hW hL
theorem said : Rows.FnNumberTextSaid :=
  OpenClaim.holds_of_cond 6 Tryd.f6 rfl rfl rfl rfl rfl rfl rfl ⟨rfl, rfl, rfl, rfl, rfl⟩ rfl rfl rfl rfl rfl (by kernel_rfl) Tryd.func6 (by kernel_rfl)
    (of_decide_eq_true (by kernel_rfl)) (by unfold Func.isWrapper; first | (rw [if_pos (by decide +kernel)]; kernel_rfl) | (rw [if_neg (by decide +kernel)]; exact ⟨rfl, rfl⟩))
    (fun os started H enc _ F => by rw [OpenClaim.pre_eq_preRow]; exact lifted os started H enc F)
theorem plain (f : FuncId) (fn : Func) (hf : Tryd.pinned.checked.prog.funcNamed "loop.example/obliviousqueries/laws.FnNumberText" = some f) (hfn : Tryd.pinned.checked.prog.funcs[f]? = some fn) :
    true = Tryd.pinned.checked.prog.looks [] ∧
    ∀ (j : Nat) t, fn.params[j]? = some t → Tryd.pinned.checked.prog.wantsStandIn t = false := by
  obtain rfl : f = 6 := Option.some.inj ((show Tryd.prog.funcNamed "loop.example/obliviousqueries/laws.FnNumberText" = some 6 by kernel_rfl).symm.trans hf) |>.symm
  obtain rfl : fn = Tryd.f6 := (Option.some.inj (Tryd.func6.symm.trans hfn)).symm
  refine ⟨by kernel_rfl, fun j t ht => ?_⟩
  rw [Tryd.params6] at ht
  have hm := Array.mem_of_getElem? ht
  simp at hm
  subst hm
  exact (show Tryd.prog.wantsStandIn 27 = false by kernel_rfl)
theorem proved : Rows.FnNumberTextCardSaid :=
  Claim7.holds_tied_plain_at .later [] _ _ _ _ said (fun _ h => by cases h) (by kernel_rfl) (fun _ h => by cases h) fnNumberText_row_tie rfl ⟨rfl, rfl⟩ (by kernel_rfl) rfl plain (by kernel_rfl)
#print axioms proved
end Go.Proofs.YtcfjgieiaioinaaDoor.fnNumberText

