/- Proved: laws.FnExactPairsSort returns true for every number and every slice of pairs, and writes nothing that was there. No conditions. -/
import Derived.Test.YtfkojdakgnbffaaSortI
namespace Go.Proofs.Ytfkojdakgnbffaa
open Go Go.RowKit

set_option maxHeartbeats 800000 in
theorem lawSort_walk {w : World} (many : Int) (hmi : i64ok many) (A : Option Addr) (n c : Nat) (xs : List (Int × Int)) (hl : xs.length = n) (hm : n ≤ maxLen) (hr : ∀ x ∈ xs, i64ok x.1 ∧ i64ok x.2) (hx : Reads w w.heap.size 2 A n (prCells xs)) :
    Calls Try.prog 9 #[.int .i64 many, .slice A n c] w fun e w' => e = .returned (.bool true) ∧ Below w.heap.size w w' := by
  unfold maxLen at hm
  have HL := Lib.hid hl
  have HR := Lib.hid hr
  have HI := Lib.hid hmi
  clear hl hr hmi
  by_cases h1 : 1048576 < (n : Int)
  · have s1 := Lib.hid (szPairS_any A n c 1048576 w (by omega) (by omega) hm)
    rw [if_pos h1] at s1
    go_enter Try.func9, Try.ntmps9
    go_wp2_with fail
    refine s1.out.mono ?_
    rintro e w' ⟨rfl, rfl⟩
    go_wp2_with fail
    go_ret
    exact ⟨rfl, Below.refl _ _⟩
  · have s1 := Lib.hid (szPairS_any A n c 1048576 w (by omega) (by omega) hm)
    rw [if_neg h1] at s1
    obtain ⟨D, hD⟩ : ∃ D, sortOf many xs = D := ⟨_, rfl⟩
    have SP := Lib.hid (fun A n c (w : World) a b d => specSort_any D A n c xs many w a b d HI.out HR.out hD)
    have IM := Lib.hid (fun A n c (w : World) a b d => implSort_any D A n c xs many w a b d HR.out hD)
    clear hD
    go_enter Try.func9, Try.ntmps9
    go_wp2_with fail
    refine s1.out.mono ?_
    rintro e w' ⟨rfl, rfl⟩
    go_wp2_with fail
    refine (toPairS_any A n c xs _ hx (by omega) HL.out).mono ?_
    rintro e w1 ⟨v1, rfl, o1, b1⟩
    obtain ⟨A1, c1, rfl, _, _⟩ := own_form o1
    go_wp2_with fail
    refine (SP.out A1 n c1 _ HL.out (Reads.of_own o1) (by omega)).mono ?_
    rintro e w2 ⟨rfl, b2⟩
    have B2 := b1.trans (b2.mono b1.size)
    go_wp2_with fail
    refine (toPairS_any A n c xs _ ((hx.belowW (Nat.le_refl _) B2).more B2.size) (by omega) HL.out).mono ?_
    rintro e w3 ⟨v3, rfl, o3, b3⟩
    obtain ⟨A3, c3, rfl, _, _⟩ := own_form o3
    have B3 := B2.trans (b3.mono B2.size)
    go_wp2_with fail
    refine (IM.out A3 n c3 _ HL.out (Reads.of_own o3) (by omega)).mono ?_
    rintro e w4 ⟨rfl, b4⟩
    have o3' := own_below o3 b4
    have B4 := B3.trans (b4.mono B3.size)
    go_wp2_with fail
    refine (toPairS_any A n c xs _ ((hx.belowW (Nat.le_refl _) B4).more B4.size) (by omega) HL.out).mono ?_
    rintro e w5 ⟨v5, rfl, o5, b5⟩
    obtain ⟨A5, c5, rfl, _, _⟩ := own_form o5
    have o3'' := own_below o3' b5
    have B5 := B4.trans (b5.mono B4.size)
    go_wp2_with fail
    refine (eqPairS_any true A3 A5 n n c3 c5 xs xs _ (by simp) HL.out HL.out (Reads.of_own o3'') (Reads.of_own o5) (by omega) (by omega)).mono ?_
    rintro e w6 ⟨rfl, b6⟩
    have B6 := B5.trans (b6.mono B5.size)
    go_wp2_with fail
    go_ret
    exact ⟨rfl, B6⟩
end Go.Proofs.Ytfkojdakgnbffaa
namespace Go.Proofs.Ytfkojdakgnbffaa.fnExactPairsSort
open Go Go.ChangeShapes Go.WideShapes Go.ChangeAt Go.RowKit
set_option linter.unusedVariables false

set_option maxRecDepth 100000 in
theorem lifted (os : Os) (started : os.Started) (H : Type) (enc : TypeId × Value → H) :
    ReturnsInHanded {} Try.checked os 9 .any (Rows.fnExactPairsSortSpec.pre6 enc Try.prog Try.f9 Rows.fnExactPairsSortRow.domain false) (Rows.fnExactPairsSortSpec.post enc Try.prog Try.f9 false true false false) := by
  refine returnsInHanded_of_change (C := Try.checked) own started (by kernel_rfl) Try.func9
    (ChangeSpec.witness6 (enc := enc) (C := Try.checked) false ⟨#[], #[.int .i64 0, .slice none 0 0], []⟩ 8 (by kernel_rfl) (by kernel_rfl) (by kernel_rfl) (by kernel_rfl)) ?_
  intro W base args ds gs before hval0 hW hcnd _
  have hval : ∀ (j : Nat) t v, Try.f9.params[j]? = some t → args[j]? = some v → Value.okWide Try.prog W .any base t v := hval0
  have hW' := hW
  obtain ⟨p, q, hA0, hV, rfl, hfz, hnd⟩ := hW
  have hA : DataW.TrodAll enc Try.prog W 0 (fun _ => true) true Try.f9.params.toList args.toList ds p := hA0
  rw [Try.params9] at hA hval
  obtain ⟨v0, vs0, d0, ds0, p0, q0, hargs, rfl, rfl, h0, r0⟩ := trodAll_cons hA
  obtain ⟨v1, vs1, d1, ds1, p1, q1, rfl, rfl, rfl, h1, r1⟩ := trodAll_cons r0
  obtain ⟨rfl, rfl, rfl⟩ := trodAll_nil r1
  obtain rfl : args = #[v0, v1] := by cases args; simp_all
  obtain ⟨rfl, rfl⟩ := trodVars_none hV
  obtain ⟨a0, rfl, rfl, rfl, w0⟩ := open_int Try.underlying3 (hval 0 3 v0 rfl rfl) h0
  obtain ⟨A1, n1, c1, xs1, rfl, hl1, hm1, hr1, hx1⟩ := open_pairs (hval 1 32 v1 rfl rfl) h1
  refine (lawSort_walk a0 (i64ok_of w0) A1 n1 c1 xs1 hl1 hm1 hr1 hx1 (w := W)).mono fun e W' ⟨he, hg⟩ => ?_
  subst he
  exact ⟨_, rfl, law_post (tb := 4) laidOut (by rw [Try.params9]; intro t ht; simp at ht; rcases ht with rfl | rfl <;> exact ⟨by kernel_rfl, of_decide_eq_true (by kernel_rfl)⟩) (fun n hn => by cases hn) (by kernel_rfl) Try.underlying4 hW' rfl hg⟩

theorem proved : Rows.FnExactPairsSortSaid :=
  OpenClaim.holds_of_wide 9 Try.f9 rfl rfl rfl rfl rfl rfl rfl ⟨rfl, rfl, rfl, rfl, rfl⟩ rfl rfl rfl rfl rfl (by kernel_rfl) Try.func9 (by kernel_rfl)
    (of_decide_eq_true (by kernel_rfl)) (by unfold Func.isWrapper; first | (rw [if_pos (by decide +kernel)]; kernel_rfl) | (rw [if_neg (by decide +kernel)]; exact ⟨rfl, rfl⟩))
    (fun os started H enc _ => lifted os started H enc)
#print axioms proved
end Go.Proofs.Ytfkojdakgnbffaa.fnExactPairsSort

