/- Proved: laws.FnExactCrossTrace returns true for every two integers, and writes nothing that was there. No conditions. -/
import Derived.Test.YtfkojdakgnbffaaCross
import Derived.Test.YtfkojdakgnbffaaFrame
namespace Go.Proofs.Ytfkojdakgnbffaa
open Go Go.RowKit

set_option maxHeartbeats 400000 in
theorem lawCross_walk (a b : Int) (w : World) : Calls Try.prog 6 #[.int .i64 a, .int .i64 b] w fun e w' => e = .returned (.bool true) ∧ Below w.heap.size w w' := by
  obtain ⟨L, hL⟩ : ∃ L, L = crossL a b := ⟨_, rfl⟩
  have hl : L.length ≤ 1000000 := by rw [hL]; exact Nat.le_trans (crossL_le a b) (by omega)
  have spec := specCross_any a b
  have impl := crossTrace_any a b
  rw [← hL] at spec impl
  have SP := Lib.hid spec
  have IM := Lib.hid impl
  clear spec impl hL
  go_enter Try.func6, Try.ntmps6
  go_wp2_with fail
  refine (SP.out _).mono ?_
  rintro e w1 ⟨v0, rfl, ho0, hb0⟩
  obtain ⟨A0, c0, rfl, _, _⟩ := own_form ho0
  have R0 := Reads.of_own ho0
  go_wp2_with fail
  refine (IM.out _).mono ?_
  rintro e w2 ⟨v1, rfl, ho1, hb1⟩
  obtain ⟨A1, c1, rfl, _, _⟩ := own_form ho1
  have R0' := R0.below hb1
  have hB2 := hb0.trans (hb1.mono hb0.size)
  go_wp2_with fail
  refine (eqAccessS_any true A1 A0 _ _ c1 c0 L L _ (by simp) rfl rfl (Reads.of_own ho1) (R0'.more hb1.size) (by omega) (by omega)).mono ?_
  rintro e w3 ⟨rfl, hb2⟩
  have ho1' := own_below ho1 hb2
  have R0'' := R0'.belowW hb1.size hb2
  have hB3 := hB2.trans (hb2.mono hB2.size)
  go_wp2_with fail
  refine (markAccessS_any _ _ 1 _ _ _ ho1' (by omega) (by omega) (by omega)).mono ?_
  rintro e w4 ⟨rfl, ho4, hg4⟩
  have R4 := R0''.grown hg4 (Nat.le_trans hb1.size hb2.size) (fun g hg => (ho1'.lt g hg).1)
  have hB4 := below_append' hB3 ho1' hg4 hb0.size
  go_wp2_with fail
  refine (heldAccessS_any A1 _ c1 1 _ (Reads.of_own ho4) (by omega) (by omega) (by omega)).mono ?_
  rintro e w5 ⟨rfl, rfl⟩
  go_wp2_with fail
  refine (IM.out _).mono ?_
  rintro e w6 ⟨v2, rfl, ho6, hb6⟩
  obtain ⟨A2, c2, rfl, _, _⟩ := own_form ho6
  have hs4 : w1.heap.size ≤ w4.heap.size := Nat.le_trans (Nat.le_trans hb1.size hb2.size) hg4.size
  have R6 := R4.belowW hs4 hb6
  have ho6' := own_below ho4 hb6
  have hB6 := hB4.trans (hb6.mono hB4.size)
  go_wp2_with fail
  refine (eqAccessS_any true A2 A0 _ _ c2 c0 L L _ (by simp) rfl rfl (Reads.of_own ho6) (R6.more (Nat.le_trans hs4 hb6.size)) (by omega) (by omega)).mono ?_
  rintro e w7 ⟨rfl, hb7⟩
  have ho7 := own_below ho6' hb7
  have hB7 := hB6.trans (hb7.mono hB6.size)
  go_wp2_with fail
  refine (heldAccessS_any A1 _ c1 1 _ (Reads.of_own ho7) (by omega) (by omega) (by omega)).mono ?_
  rintro e w8 ⟨rfl, rfl⟩
  go_wp2_with fail
  go_ret
  exact ⟨rfl, hB7⟩

end Go.Proofs.Ytfkojdakgnbffaa
namespace Go.Proofs.Ytfkojdakgnbffaa.fnExactCrossTrace
open Go Go.ChangeShapes Go.WideShapes Go.ChangeAt Go.RowKit
set_option linter.unusedVariables false

set_option maxRecDepth 100000 in
theorem lifted (os : Os) (started : os.Started) (H : Type) (enc : TypeId × Value → H) :
    ReturnsInHanded {} Try.checked os 6 .any (Rows.fnExactCrossTraceSpec.pre6 enc Try.prog Try.f6 Rows.fnExactCrossTraceRow.domain false) (Rows.fnExactCrossTraceSpec.post enc Try.prog Try.f6 false true false false) := by
  refine returnsInHanded_of_change (C := Try.checked) own started (by kernel_rfl) Try.func6
    (ChangeSpec.witness6 (enc := enc) (C := Try.checked) false ⟨#[], #[.int .i64 0, .int .i64 0], []⟩ 8 (by kernel_rfl) (by kernel_rfl) (by kernel_rfl) (by kernel_rfl)) ?_
  intro W base args ds gs before hval0 hW hcnd _
  have hval : ∀ (j : Nat) t v, Try.f6.params[j]? = some t → args[j]? = some v → Value.okWide Try.prog W .any base t v := hval0
  have hW' := hW
  obtain ⟨p, q, hA0, hV, rfl, hfz, hnd⟩ := hW
  have hA : DataW.TrodAll enc Try.prog W 0 (fun _ => true) true Try.f6.params.toList args.toList ds p := hA0
  rw [Try.params6] at hA hval
  obtain ⟨v0, vs0, d0, ds0, p0, q0, hargs, rfl, rfl, h0, r0⟩ := trodAll_cons hA
  obtain ⟨v1, vs1, d1, ds1, p1, q1, rfl, rfl, rfl, h1, r1⟩ := trodAll_cons r0
  obtain ⟨rfl, rfl, rfl⟩ := trodAll_nil r1
  obtain rfl : args = #[v0, v1] := by cases args; simp_all
  obtain ⟨rfl, rfl⟩ := trodVars_none hV
  obtain ⟨a0, rfl, rfl, rfl, w0⟩ := open_int Try.underlying3 (hval 0 3 v0 rfl rfl) h0
  obtain ⟨a1, rfl, rfl, rfl, w1⟩ := open_int Try.underlying3 (hval 1 3 v1 rfl rfl) h1
  clear hA0 hval0
  simp only [List.append_nil] at hW'
  refine (lawCross_walk a0 a1 W).mono fun e W' ⟨he, hg⟩ => ?_
  subst he
  exact ⟨_, rfl, post_of_below (pa := []) (pv := []) hW' (fun _ _ _ => (trodAll_cons_mk (shut_bool Try.underlying4 _) trodAll_mk0)) (fun sp _ => (trodAll_cons_mk (shut_int Try.underlying3 w0) (trodAll_cons_mk (shut_int Try.underlying3 w1) trodAll_mk0))) (fun _ _ => rfl) rfl
    hg (ok_one (by kernel_rfl) rfl (okWide_bool_mk Try.underlying4 _))⟩

theorem proved : Rows.FnExactCrossTraceSaid :=
  OpenClaim.holds_of_wide 6 Try.f6 rfl rfl rfl rfl rfl rfl rfl ⟨rfl, rfl, rfl, rfl, rfl⟩ rfl rfl rfl rfl rfl (by kernel_rfl) Try.func6 (by kernel_rfl)
    (of_decide_eq_true (by kernel_rfl)) (by unfold Func.isWrapper; first | (rw [if_pos (by decide +kernel)]; kernel_rfl) | (rw [if_neg (by decide +kernel)]; exact ⟨rfl, rfl⟩))
    (fun os started H enc _ => lifted os started H enc)
#print axioms proved
end Go.Proofs.Ytfkojdakgnbffaa.fnExactCrossTrace

