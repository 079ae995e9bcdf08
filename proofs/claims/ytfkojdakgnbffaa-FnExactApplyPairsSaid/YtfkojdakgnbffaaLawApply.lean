/- Proved: laws.FnExactApplyPairs returns true for every slice of pairs and every slice of numbers, and writes nothing that was there. No conditions. -/
import Derived.Test.YtfkojdakgnbffaaApply
namespace Go.Proofs.Ytfkojdakgnbffaa
open Go Go.RowKit

set_option maxHeartbeats 800000 in
theorem lawApply_walk {w : World} (A : Option Addr) (n c : Nat) (xs : List (Int × Int)) (hl : xs.length = n) (hm : n ≤ maxLen) (hr : ∀ x ∈ xs, i64ok x.1 ∧ i64ok x.2) (hx : Reads w w.heap.size 2 A n (prCells xs))
    (B : Option Addr) (m d : Nat) (ys : List Int) (hl' : ys.length = m) (hm' : m ≤ maxLen) (_hr' : ∀ x ∈ ys, i64ok x) (hy : Reads w w.heap.size 1 B m (inCells ys)) :
    Calls Try.prog 11 #[.slice A n c, .slice B m d] w fun e w' => e = .returned (.bool true) ∧ Below w.heap.size w w' := by
  unfold maxLen at hm hm'
  have HL := Lib.hid hl
  have HL' := Lib.hid hl'
  have HR := Lib.hid hr
  clear hl hl' hr _hr'
  by_cases h0 : 1048576 < (m : Int)
  · go_enter Try.func11, Try.ntmps11
    go_wp2_with fail
    go_ret
    exact ⟨rfl, Below.refl _ _⟩
  by_cases h1 : 1048576 < (n : Int)
  · have s1 := Lib.hid (szPairS_any A n c 1048576 w (by omega) (by omega) hm)
    rw [if_pos h1] at s1
    go_enter Try.func11, Try.ntmps11
    go_wp2_with fail
    refine s1.out.mono ?_
    rintro e w' ⟨rfl, rfl⟩
    go_wp2_with fail
    go_ret
    exact ⟨rfl, Below.refl _ _⟩
  · have s1 := Lib.hid (szPairS_any A n c 1048576 w (by omega) (by omega) hm)
    rw [if_neg h1] at s1
    obtain ⟨D, hD⟩ : ∃ D, D = applyOf xs ys := ⟨_, rfl⟩
    have hDl : D.length ≤ 256 := by rw [hD]; exact applyOf_len xs ys
    have SP := Lib.hid (fun A B n m c d (w : World) => specApply_any A B n m c d xs ys w)
    have IM := Lib.hid (fun A B n m c d (w : World) => implApply_any A B n m c d xs ys w)
    rw [← hD] at SP IM
    clear hD
    go_enter Try.func11, Try.ntmps11
    go_wp2_with fail
    refine s1.out.mono ?_
    rintro e w' ⟨rfl, rfl⟩
    go_wp2_with fail
    refine (toPairS_any A n c xs _ hx (by omega) HL.out).mono ?_
    rintro e w1 ⟨v1, rfl, op1, b1⟩
    obtain ⟨Ap, cp, rfl, _, _, hnp⟩ := own_form' op1
    have B1 := b1
    go_wp2_with fail
    refine (toIntS_any B m d ys _ ((hy.belowW (Nat.le_refl _) B1).more B1.size) (by omega) HL'.out).mono ?_
    rintro e w2 ⟨v2, rfl, oi2, b2⟩
    obtain ⟨Ai, ci, rfl, _, _, hni⟩ := own_form' oi2
    have appi := own_apart op1 oi2
    have op2 := own_below op1 b2
    have B2 := B1.trans (b2.mono B1.size)
    go_wp2_with fail
    refine (SP.out Ap Ai n m cp ci _ HL.out HL'.out (Reads.of_own op2) (Reads.of_own oi2) (by omega) (by omega) HR.out).mono ?_
    rintro e w3 ⟨v3, rfl, ow3, b3⟩
    obtain ⟨Aw, cw, rfl, _, _, hnw⟩ := own_form' ow3
    have appw := own_apart op2 ow3
    have apiw := own_apart oi2 ow3
    have op3 := own_below op2 b3
    have oi3 := own_below oi2 b3
    have B3 := B2.trans (b3.mono B2.size)
    clear op3
    clear oi3
    go_wp2_with fail
    refine (toPairS_any A n c xs _ ((hx.belowW (Nat.le_refl _) B3).more B3.size) (by omega) HL.out).mono ?_
    rintro e w4 ⟨v4, rfl, ox4, b4⟩
    obtain ⟨Ax, cx, rfl, _, _, hnx⟩ := own_form' ox4
    have apwx := own_apart ow3 ox4
    have ow4 := own_below ow3 b4
    have B4 := B3.trans (b4.mono B3.size)
    go_wp2_with fail
    refine (toIntS_any B m d ys _ ((hy.belowW (Nat.le_refl _) B4).more B4.size) (by omega) HL'.out).mono ?_
    rintro e w5 ⟨v5, rfl, oy5, b5⟩
    obtain ⟨Ay, cy, rfl, _, _, hny⟩ := own_form' oy5
    have apwy := own_apart ow4 oy5
    have apxy := own_apart ox4 oy5
    have ow5 := own_below ow4 b5
    have ox5 := own_below ox4 b5
    have B5 := B4.trans (b5.mono B4.size)
    go_wp2_with fail
    refine (IM.out Ax Ay n m cx cy _ HL.out HL'.out (Reads.of_own ox5) (Reads.of_own oy5) (by omega) (by omega) hny).mono ?_
    rintro e w6 ⟨v6, rfl, og6, b6⟩
    obtain ⟨Ag, cg, rfl, _, _, hng⟩ := own_form' og6
    have apwg := own_apart ow5 og6
    have apxg := own_apart ox5 og6
    have apyg := own_apart oy5 og6
    have ow6 := own_below ow5 b6
    have ox6 := own_below ox5 b6
    have oy6 := own_below oy5 b6
    have B6 := B5.trans (b6.mono B5.size)
    go_wp2_with fail
    refine (eqIntS_any true Ag Aw _ _ cg cw D D _ (by simp) rfl rfl (Reads.of_own og6) (Reads.of_own ow6) (by omega) (by omega)).mono ?_
    rintro e w7 ⟨rfl, b7⟩
    have ow7 := own_below ow6 b7
    have ox7 := own_below ox6 b7
    have oy7 := own_below oy6 b7
    have og7 := own_below og6 b7
    have B7 := B6.trans (b7.mono B6.size)
    go_wp2_with fail
    refine (toPairS_any A n c xs _ ((hx.belowW (Nat.le_refl _) B7).more B7.size) (by omega) HL.out).mono ?_
    rintro e w8 ⟨v8, rfl, ot8, b8⟩
    obtain ⟨At, ct, rfl, _, _, hnt⟩ := own_form' ot8
    have apwt := own_apart ow7 ot8
    have apxt := own_apart ox7 ot8
    have apyt := own_apart oy7 ot8
    have apgt := own_apart og7 ot8
    have ow8 := own_below ow7 b8
    have ox8 := own_below ox7 b8
    have oy8 := own_below oy7 b8
    have og8 := own_below og7 b8
    have B8 := B7.trans (b8.mono B7.size)
    go_wp2_with fail
    refine (eqPairS_any true Ax At n n cx ct xs xs _ (by simp) HL.out HL.out (Reads.of_own ox8) (Reads.of_own ot8) (by omega) (by omega)).mono ?_
    rintro e w9 ⟨rfl, b9⟩
    have ow9 := own_below ow8 b9
    have ox9 := own_below ox8 b9
    have oy9 := own_below oy8 b9
    have og9 := own_below og8 b9
    have ot9 := own_below ot8 b9
    have B9 := B8.trans (b9.mono B8.size)
    clear ot9
    go_wp2_with fail
    refine (toIntS_any B m d ys _ ((hy.belowW (Nat.le_refl _) B9).more B9.size) (by omega) HL'.out).mono ?_
    rintro e w10 ⟨v10, rfl, ou10, b10⟩
    obtain ⟨Au, cu, rfl, _, _, hnu⟩ := own_form' ou10
    have apwu := own_apart ow9 ou10
    have apxu := own_apart ox9 ou10
    have apyu := own_apart oy9 ou10
    have apgu := own_apart og9 ou10
    have ow10 := own_below ow9 b10
    have ox10 := own_below ox9 b10
    have oy10 := own_below oy9 b10
    have og10 := own_below og9 b10
    have B10 := B9.trans (b10.mono B9.size)
    go_wp2_with fail
    refine (eqIntS_any true Ay Au m m cy cu ys ys _ (by simp) HL'.out HL'.out (Reads.of_own oy10) (Reads.of_own ou10) (by omega) (by omega)).mono ?_
    rintro e w11 ⟨rfl, b11⟩
    have ow11 := own_below ow10 b11
    have ox11 := own_below ox10 b11
    have oy11 := own_below oy10 b11
    have og11 := own_below og10 b11
    have ou11 := own_below ou10 b11
    have B11 := B10.trans (b11.mono B10.size)
    clear ou11
    go_wp2_with fail
    refine (markPairS_any _ n 1 _ _ _ ox11 (by omega) (by omega) (by omega)).mono ?_
    rintro e w12 ⟨rfl, ox12, g12⟩
    have ow12 := ow11.kept g12 apwx.1
    have oy12 := oy11.kept g12 apxy.2
    have og12 := og11.kept g12 apxg.2
    have B12 := below_append' B11 ox11 g12 (B3.size)
    go_wp2_with fail
    refine (markIntS_any _ m (1 + 2 * n) _ _ _ oy12 (by omega) (by omega) (by omega)).mono ?_
    rintro e w13 ⟨rfl, oy13, g13⟩
    have ow13 := ow12.kept g13 apwy.1
    have ox13 := ox12.kept g13 apxy.1
    have og13 := og12.kept g13 apyg.2
    have B13 := below_append' B12 oy12 g13 (B4.size)
    go_wp2_with fail
    refine (eqIntS_any true Ag Aw _ _ cg cw D D _ (by simp) rfl rfl (Reads.of_own og13) (Reads.of_own ow13) (by omega) (by omega)).mono ?_
    rintro e w14 ⟨rfl, b14⟩
    have ow14 := own_below ow13 b14
    have ox14 := own_below ox13 b14
    have oy14 := own_below oy13 b14
    have og14 := own_below og13 b14
    have B14 := B13.trans (b14.mono B13.size)
    go_wp2_with fail
    refine (markIntS_any _ _ 1 _ _ _ og14 (by omega) (by omega) (by omega)).mono ?_
    rintro e w15 ⟨rfl, og15, g15⟩
    have ow15 := ow14.kept g15 apwg.1
    have ox15 := ox14.kept g15 apxg.1
    have oy15 := oy14.kept g15 apyg.1
    have B15 := below_append' B14 og14 g15 (B5.size)
    go_wp2_with fail
    refine (heldIntS_any Ag _ cg 1 _ (Reads.of_own og15) (by omega) (by omega) (by omega)).mono ?_
    rintro e w16 ⟨rfl, rfl⟩
    clear ox15
    clear oy15
    go_wp2_with fail
    refine (toPairS_any A n c xs _ ((hx.belowW (Nat.le_refl _) B15).more B15.size) (by omega) HL.out).mono ?_
    rintro e w17 ⟨v17, rfl, or17, b17⟩
    obtain ⟨Ar, cr, rfl, _, _, hnr⟩ := own_form' or17
    have apwr := own_apart ow15 or17
    have apgr := own_apart og15 or17
    have ow17 := own_below ow15 b17
    have og17 := own_below og15 b17
    have B17 := B15.trans (b17.mono B15.size)
    go_wp2_with fail
    refine (toIntS_any B m d ys _ ((hy.belowW (Nat.le_refl _) B17).more B17.size) (by omega) HL'.out).mono ?_
    rintro e w18 ⟨v18, rfl, os18, b18⟩
    obtain ⟨As, cs, rfl, _, _, hns⟩ := own_form' os18
    have apws := own_apart ow17 os18
    have apgs := own_apart og17 os18
    have aprs := own_apart or17 os18
    have ow18 := own_below ow17 b18
    have og18 := own_below og17 b18
    have or18 := own_below or17 b18
    have B18 := B17.trans (b18.mono B17.size)
    go_wp2_with fail
    refine (IM.out Ar As n m cr cs _ HL.out HL'.out (Reads.of_own or18) (Reads.of_own os18) (by omega) (by omega) hns).mono ?_
    rintro e w19 ⟨v19, rfl, oh19, b19⟩
    obtain ⟨Ah, ch, rfl, _, _, hnh⟩ := own_form' oh19
    have apwh := own_apart ow18 oh19
    have apgh := own_apart og18 oh19
    have aprh := own_apart or18 oh19
    have apsh := own_apart os18 oh19
    have ow19 := own_below ow18 b19
    have og19 := own_below og18 b19
    have or19 := own_below or18 b19
    have os19 := own_below os18 b19
    have B19 := B18.trans (b19.mono B18.size)
    go_wp2_with fail
    refine (eqIntS_any true Ah Aw _ _ ch cw D D _ (by simp) rfl rfl (Reads.of_own oh19) (Reads.of_own ow19) (by omega) (by omega)).mono ?_
    rintro e w20 ⟨rfl, b20⟩
    have ow20 := own_below ow19 b20
    have og20 := own_below og19 b20
    have or20 := own_below or19 b20
    have os20 := own_below os19 b20
    have oh20 := own_below oh19 b20
    have B20 := B19.trans (b20.mono B19.size)
    go_wp2_with fail
    refine (heldIntS_any Ag _ cg 1 _ (Reads.of_own og20) (by omega) (by omega) (by omega)).mono ?_
    rintro e w21 ⟨rfl, rfl⟩
    go_wp2_with fail
    go_ret
    exact ⟨rfl, B20⟩
end Go.Proofs.Ytfkojdakgnbffaa
namespace Go.Proofs.Ytfkojdakgnbffaa.fnExactApplyPairs
open Go Go.ChangeShapes Go.WideShapes Go.ChangeAt Go.RowKit
set_option linter.unusedVariables false

set_option maxRecDepth 100000 in
theorem lifted (os : Os) (started : os.Started) (H : Type) (enc : TypeId × Value → H) :
    ReturnsInHanded {} Try.checked os 11 .any (Rows.fnExactApplyPairsSpec.pre6 enc Try.prog Try.f11 Rows.fnExactApplyPairsRow.domain false) (Rows.fnExactApplyPairsSpec.post enc Try.prog Try.f11 false true false false) := by
  refine returnsInHanded_of_change (C := Try.checked) own started (by kernel_rfl) Try.func11
    (ChangeSpec.witness6 (enc := enc) (C := Try.checked) false ⟨#[], #[.slice none 0 0, .slice none 0 0], []⟩ 8 (by kernel_rfl) (by kernel_rfl) (by kernel_rfl) (by kernel_rfl)) ?_
  intro W base args ds gs before hval0 hW hcnd _
  have hval : ∀ (j : Nat) t v, Try.f11.params[j]? = some t → args[j]? = some v → Value.okWide Try.prog W .any base t v := hval0
  have hW' := hW
  obtain ⟨p, q, hA0, hV, rfl, hfz, hnd⟩ := hW
  have hA : DataW.TrodAll enc Try.prog W 0 (fun _ => true) true Try.f11.params.toList args.toList ds p := hA0
  rw [Try.params11] at hA hval
  obtain ⟨v0, vs0, d0, ds0, p0, q0, hargs, rfl, rfl, h0, r0⟩ := trodAll_cons hA
  obtain ⟨v1, vs1, d1, ds1, p1, q1, rfl, rfl, rfl, h1, r1⟩ := trodAll_cons r0
  obtain ⟨rfl, rfl, rfl⟩ := trodAll_nil r1
  obtain rfl : args = #[v0, v1] := by cases args; simp_all
  obtain ⟨rfl, rfl⟩ := trodVars_none hV
  obtain ⟨A0, n0, c0, xs0, rfl, hl0, hm0, hr0, hx0⟩ := open_pairs (hval 0 32 v0 rfl rfl) h0
  obtain ⟨A1, n1, c1, xs1, rfl, hl1, hm1, hr1, hx1⟩ := open_intS (hval 1 49 v1 rfl rfl) h1
  refine (lawApply_walk A0 n0 c0 xs0 hl0 hm0 hr0 hx0 A1 n1 c1 xs1 hl1 hm1 hr1 hx1 (w := W)).mono fun e W' ⟨he, hg⟩ => ?_
  subst he
  exact ⟨_, rfl, law_post (tb := 4) laidOut (by rw [Try.params11]; intro t ht; simp at ht; rcases ht with rfl | rfl <;> exact ⟨by kernel_rfl, of_decide_eq_true (by kernel_rfl)⟩) (fun n hn => by cases hn) (by kernel_rfl) Try.underlying4 hW' rfl hg⟩

theorem proved : Rows.FnExactApplyPairsSaid :=
  OpenClaim.holds_of_wide 11 Try.f11 rfl rfl rfl rfl rfl rfl rfl ⟨rfl, rfl, rfl, rfl, rfl⟩ rfl rfl rfl rfl rfl (by kernel_rfl) Try.func11 (by kernel_rfl)
    (of_decide_eq_true (by kernel_rfl)) (by unfold Func.isWrapper; first | (rw [if_pos (by decide +kernel)]; kernel_rfl) | (rw [if_neg (by decide +kernel)]; exact ⟨rfl, rfl⟩))
    (fun os started H enc _ => lifted os started H enc)
#print axioms proved
end Go.Proofs.Ytfkojdakgnbffaa.fnExactApplyPairs

