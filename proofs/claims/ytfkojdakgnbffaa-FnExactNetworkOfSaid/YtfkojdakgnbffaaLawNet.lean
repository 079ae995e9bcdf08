/- Proved: laws.FnExactNetworkOf returns true for every integer, and writes nothing that was there. No conditions. -/
import Derived.Test.YtfkojdakgnbffaaNet
import Derived.Test.YtfkojdakgnbffaaOpen
namespace Go.Proofs.Ytfkojdakgnbffaa
open Go Go.RowKit

set_option maxHeartbeats 400000 in
theorem lawNet_walk (a : Int) (w : World) : Calls Try.prog 8 #[.int .i64 a] w fun e w' => e = .returned (.bool true) ∧ Below w.heap.size w w' := by
  obtain ⟨L, hL⟩ : ∃ L, L = netOf a := ⟨_, rfl⟩
  have hl : L.length ≤ 1000000 := by rw [hL]; exact Nat.le_trans (netOf_len a) (by omega)
  have spec := specNet_any a
  have impl := implNet_any a
  rw [← hL] at spec impl
  have SP := Lib.hid spec
  have IM := Lib.hid impl
  clear spec impl hL
  go_enter Try.func8, Try.ntmps8
  go_wp2_with fail
  refine (SP.out _).mono ?_
  rintro e w1 ⟨v0, rfl, ho0, hb0⟩
  obtain ⟨A0, c0, rfl, _, _⟩ := own_form ho0
  have R0 := Reads.of_own ho0
  go_wp2_with fail
  refine (IM.out _).mono ?_
  rintro e w2 ⟨v1, rfl, ho1, hb1⟩
  obtain ⟨A1, c1, rfl, _, _⟩ := own_form ho1
  have R0' := R0.below hb1
  have hB2 := hb0.trans (hb1.mono hb0.size)
  go_wp2_with fail
  refine (eqPairS_any true A1 A0 _ _ c1 c0 L L _ (by simp) rfl rfl (Reads.of_own ho1) (R0'.more hb1.size) (by omega) (by omega)).mono ?_
  rintro e w3 ⟨rfl, hb2⟩
  have ho1' := own_below ho1 hb2
  have R0'' := R0'.belowW hb1.size hb2
  have hB3 := hB2.trans (hb2.mono hB2.size)
  go_wp2_with fail
  refine (markPairS_any _ _ 1 _ _ _ ho1' (by omega) (by omega) (by omega)).mono ?_
  rintro e w4 ⟨rfl, ho4, hg4⟩
  have R4 := R0''.grown hg4 (Nat.le_trans hb1.size hb2.size) (fun g hg => (ho1'.lt g hg).1)
  have hB4 := below_append' hB3 ho1' hg4 hb0.size
  go_wp2_with fail
  refine (heldPairS_any A1 _ c1 1 _ (Reads.of_own ho4) (by omega) (by omega) (by omega)).mono ?_
  rintro e w5 ⟨rfl, rfl⟩
  go_wp2_with fail
  refine (IM.out _).mono ?_
  rintro e w6 ⟨v2, rfl, ho6, hb6⟩
  obtain ⟨A2, c2, rfl, _, _⟩ := own_form ho6
  have hs4 : w1.heap.size ≤ w4.heap.size := Nat.le_trans (Nat.le_trans hb1.size hb2.size) hg4.size
  have R6 := R4.belowW hs4 hb6
  have ho6' := own_below ho4 hb6
  have hB6 := hB4.trans (hb6.mono hB4.size)
  go_wp2_with fail
  refine (eqPairS_any true A2 A0 _ _ c2 c0 L L _ (by simp) rfl rfl (Reads.of_own ho6) (R6.more (Nat.le_trans hs4 hb6.size)) (by omega) (by omega)).mono ?_
  rintro e w7 ⟨rfl, hb7⟩
  have ho7 := own_below ho6' hb7
  have hB7 := hB6.trans (hb7.mono hB6.size)
  go_wp2_with fail
  refine (heldPairS_any A1 _ c1 1 _ (Reads.of_own ho7) (by omega) (by omega) (by omega)).mono ?_
  rintro e w8 ⟨rfl, rfl⟩
  go_wp2_with fail
  go_ret
  exact ⟨rfl, hB7⟩

end Go.Proofs.Ytfkojdakgnbffaa
namespace Go.Proofs.Ytfkojdakgnbffaa.fnExactNetworkOf
open Go Go.ChangeShapes Go.WideShapes Go.ChangeAt Go.RowKit
set_option linter.unusedVariables false

set_option maxRecDepth 100000 in
theorem lifted (os : Os) (started : os.Started) (H : Type) (enc : TypeId × Value → H) :
    ReturnsInHanded {} Try.checked os 8 .any (Rows.fnExactNetworkOfSpec.pre6 enc Try.prog Try.f8 Rows.fnExactNetworkOfRow.domain false) (Rows.fnExactNetworkOfSpec.post enc Try.prog Try.f8 false true false false) := by
  refine returnsInHanded_of_change (C := Try.checked) own started (by kernel_rfl) Try.func8
    (ChangeSpec.witness6 (enc := enc) (C := Try.checked) false ⟨#[], #[.int .i64 0], []⟩ 8 (by kernel_rfl) (by kernel_rfl) (by kernel_rfl) (by kernel_rfl)) ?_
  intro W base args ds gs before hval0 hW hcnd _
  have hval : ∀ (j : Nat) t v, Try.f8.params[j]? = some t → args[j]? = some v → Value.okWide Try.prog W .any base t v := hval0
  have hW' := hW
  obtain ⟨p, q, hA0, hV, rfl, hfz, hnd⟩ := hW
  have hA : DataW.TrodAll enc Try.prog W 0 (fun _ => true) true Try.f8.params.toList args.toList ds p := hA0
  rw [Try.params8] at hA hval
  obtain ⟨v0, vs0, d0, ds0, p0, q0, hargs, rfl, rfl, h0, r0⟩ := trodAll_cons hA
  obtain ⟨rfl, rfl, rfl⟩ := trodAll_nil r0
  obtain rfl : args = #[v0] := by cases args; simp_all
  obtain ⟨rfl, rfl⟩ := trodVars_none hV
  obtain ⟨a0, rfl, rfl, rfl, w0⟩ := open_int Try.underlying3 (hval 0 3 v0 rfl rfl) h0
  refine ((fun a (_ : i64ok a) (w : World) => lawNet_walk a w) a0 (i64ok_of w0) (w := W)).mono fun e W' ⟨he, hg⟩ => ?_
  subst he
  exact ⟨_, rfl, law_post (tb := 4) laidOut (by rw [Try.params8]; intro t ht; simp at ht; subst ht; exact ⟨by kernel_rfl, of_decide_eq_true (by kernel_rfl)⟩) (fun n hn => by cases hn) (by kernel_rfl) Try.underlying4 hW' rfl hg⟩

theorem proved : Rows.FnExactNetworkOfSaid :=
  OpenClaim.holds_of_wide 8 Try.f8 rfl rfl rfl rfl rfl rfl rfl ⟨rfl, rfl, rfl, rfl, rfl⟩ rfl rfl rfl rfl rfl (by kernel_rfl) Try.func8 (by kernel_rfl)
    (of_decide_eq_true (by kernel_rfl)) (by unfold Func.isWrapper; first | (rw [if_pos (by decide +kernel)]; kernel_rfl) | (rw [if_neg (by decide +kernel)]; exact ⟨rfl, rfl⟩))
    (fun os started H enc _ => lifted os started H enc)
#print axioms proved
end Go.Proofs.Ytfkojdakgnbffaa.fnExactNetworkOf

