/- Proved: laws.FnExactSameTrace returns true for every two slices of accesses, and writes nothing that was there. No conditions. -/
import Derived.Test.YtfkojdakgnbffaaSameTrace
import Derived.Test.YtfkojdakgnbffaaOpen
namespace Go.Proofs.Ytfkojdakgnbffaa
open Go Go.RowKit

set_option maxHeartbeats 800000 in
theorem lawSame_walk {w : World} (A : Option Addr) (n c : Nat) (xs : List (Int × Int × Bool)) (hl : xs.length = n) (hm : n ≤ maxLen) (_hr : ∀ x ∈ xs, i64ok x.1 ∧ i64ok x.2.1) (hx : Reads w w.heap.size 3 A n (accCells xs))
    (B : Option Addr) (m d : Nat) (ys : List (Int × Int × Bool)) (hl' : ys.length = m) (hm' : m ≤ maxLen) (_hr' : ∀ x ∈ ys, i64ok x.1 ∧ i64ok x.2.1) (hy : Reads w w.heap.size 3 B m (accCells ys)) :
    Calls Try.prog 4 #[.slice A n c, .slice B m d] w fun e w' => e = .returned (.bool true) ∧ Below w.heap.size w w' := by
  unfold maxLen at hm hm'
  clear _hr _hr'
  have HL := Lib.hid hl
  have HL' := Lib.hid hl'
  clear hl hl'
  by_cases h1 : 1048576 < (n : Int)
  · have s1 := Lib.hid (szAccessS_any A n c 1048576 w (by omega) (by omega) hm)
    rw [if_pos h1] at s1
    go_enter Try.func4, Try.ntmps4
    go_wp2_with fail
    refine s1.out.mono ?_
    rintro e w' ⟨rfl, rfl⟩
    go_wp2_with fail
    go_ret
    exact ⟨rfl, Below.refl _ _⟩
  · have s1 := Lib.hid (szAccessS_any A n c 1048576 w (by omega) (by omega) hm)
    rw [if_neg h1] at s1
    by_cases h2 : 1048576 - (n : Int) < (m : Int)
    · have s2 := Lib.hid (szAccessS_any B m d (1048576 - n) w (by omega) (by omega) hm')
      rw [if_pos h2] at s2
      go_enter Try.func4, Try.ntmps4
      go_wp2_with fail
      refine s1.out.mono ?_
      rintro e w' ⟨rfl, rfl⟩
      go_wp2_with fail
      refine s2.out.mono ?_
      rintro e w' ⟨rfl, rfl⟩
      go_wp2_with fail
      go_ret
      exact ⟨rfl, Below.refl _ _⟩
    · have s2 := Lib.hid (szAccessS_any B m d (1048576 - n) w (by omega) (by omega) hm')
      rw [if_neg h2] at s2
      obtain ⟨q, hq⟩ : ∃ q : Bool, decide (xs = ys) = q := ⟨_, rfl⟩
      have HQ := Lib.hid hq
      clear hq
      go_enter Try.func4, Try.ntmps4
      go_wp2_with fail
      refine s1.out.mono ?_
      rintro e w' ⟨rfl, rfl⟩
      go_wp2_with fail
      refine s2.out.mono ?_
      rintro e w' ⟨rfl, rfl⟩
      go_wp2_with fail
      refine (toAccessS_any A n c xs _ hx (by omega) HL.out).mono ?_
      rintro e w1 ⟨v1, rfl, o1, b1⟩
      obtain ⟨A1, c1, rfl, _, _⟩ := own_form o1
      have hx1 := hx.belowW (Nat.le_refl _) b1
      have hy1 := hy.belowW (Nat.le_refl _) b1
      go_wp2_with fail
      refine (toAccessS_any B m d ys _ (hy1.more b1.size) (by omega) HL'.out).mono ?_
      rintro e w2 ⟨v2, rfl, o2, b2⟩
      obtain ⟨A2, c2, rfl, _, _⟩ := own_form o2
      have o1' := own_below o1 b2
      have B2 := b1.trans (b2.mono b1.size)
      go_wp2_with fail
      refine (specSame_any q A1 A2 n m c1 c2 xs ys _ HQ.out HL.out HL'.out (Reads.of_own o1') (Reads.of_own o2) (by omega) (by omega)).mono ?_
      rintro e w3 ⟨rfl, b3⟩
      have B3 := B2.trans (b3.mono B2.size)
      clear o1 o1' o2 hx1 hy1
      go_wp2_with fail
      refine (toAccessS_any A n c xs _ ((hx.belowW (Nat.le_refl _) B3).more B3.size) (by omega) HL.out).mono ?_
      rintro e w4 ⟨v4, rfl, o4, b4⟩
      obtain ⟨A4, c4, rfl, _, _⟩ := own_form o4
      have B4 := B3.trans (b4.mono B3.size)
      go_wp2_with fail
      refine (toAccessS_any B m d ys _ ((hy.belowW (Nat.le_refl _) B4).more B4.size) (by omega) HL'.out).mono ?_
      rintro e w5 ⟨v5, rfl, o5, b5⟩
      obtain ⟨A5, c5, rfl, _, _⟩ := own_form o5
      have o4' := own_below o4 b5
      have B5 := B4.trans (b5.mono B4.size)
      go_wp2_with fail
      refine (implSame_any q A4 A5 n m c4 c5 xs ys _ HQ.out HL.out HL'.out (Reads.of_own o4') (Reads.of_own o5) (by omega) (by omega)).mono ?_
      rintro e w6 ⟨rfl, b6⟩
      have o4'' := own_below o4' b6
      have o5' := own_below o5 b6
      have B6 := B5.trans (b6.mono B5.size)
      go_wp2_with fail
      refine (toAccessS_any A n c xs _ ((hx.belowW (Nat.le_refl _) B6).more B6.size) (by omega) HL.out).mono ?_
      rintro e w7 ⟨v7, rfl, o7, b7⟩
      obtain ⟨A7, c7, rfl, _, _⟩ := own_form o7
      have o4w := own_below o4'' b7
      have o5w := own_below o5' b7
      have B7 := B6.trans (b7.mono B6.size)
      go_wp2_with fail
      refine (eqAccessS_any true A4 A7 n n c4 c7 xs xs _ (by simp) HL.out HL.out (Reads.of_own o4w) (Reads.of_own o7) (by omega) (by omega)).mono ?_
      rintro e w8 ⟨rfl, b8⟩
      have o5x := own_below o5w b8
      have B8 := B7.trans (b8.mono B7.size)
      go_wp2_with fail
      refine (toAccessS_any B m d ys _ ((hy.belowW (Nat.le_refl _) B8).more B8.size) (by omega) HL'.out).mono ?_
      rintro e w9 ⟨v9, rfl, o9, b9⟩
      obtain ⟨A9, c9, rfl, _, _⟩ := own_form o9
      have o5y := own_below o5x b9
      have B9 := B8.trans (b9.mono B8.size)
      go_wp2_with fail
      refine (eqAccessS_any true A5 A9 m m c5 c9 ys ys _ (by simp) HL'.out HL'.out (Reads.of_own o5y) (Reads.of_own o9) (by omega) (by omega)).mono ?_
      rintro e w10 ⟨rfl, b10⟩
      have B10 := B9.trans (b10.mono B9.size)
      go_wp2_with fail
      go_ret
      exact ⟨rfl, B10⟩
end Go.Proofs.Ytfkojdakgnbffaa
namespace Go.Proofs.Ytfkojdakgnbffaa.fnExactSameTrace
open Go Go.ChangeShapes Go.WideShapes Go.ChangeAt Go.RowKit
set_option linter.unusedVariables false

set_option maxRecDepth 100000 in
theorem lifted (os : Os) (started : os.Started) (H : Type) (enc : TypeId × Value → H) :
    ReturnsInHanded {} Try.checked os 4 .any (Rows.fnExactSameTraceSpec.pre6 enc Try.prog Try.f4 Rows.fnExactSameTraceRow.domain false) (Rows.fnExactSameTraceSpec.post enc Try.prog Try.f4 false true false false) := by
  refine returnsInHanded_of_change (C := Try.checked) own started (by kernel_rfl) Try.func4
    (ChangeSpec.witness6 (enc := enc) (C := Try.checked) false ⟨#[], #[.slice none 0 0, .slice none 0 0], []⟩ 8 (by kernel_rfl) (by kernel_rfl) (by kernel_rfl) (by kernel_rfl)) ?_
  intro W base args ds gs before hval0 hW hcnd _
  have hval : ∀ (j : Nat) t v, Try.f4.params[j]? = some t → args[j]? = some v → Value.okWide Try.prog W .any base t v := hval0
  have hW' := hW
  obtain ⟨p, q, hA0, hV, rfl, hfz, hnd⟩ := hW
  have hA : DataW.TrodAll enc Try.prog W 0 (fun _ => true) true Try.f4.params.toList args.toList ds p := hA0
  rw [Try.params4] at hA hval
  obtain ⟨v0, vs0, d0, ds0, p0, q0, hargs, rfl, rfl, h0, r0⟩ := trodAll_cons hA
  obtain ⟨v1, vs1, d1, ds1, p1, q1, rfl, rfl, rfl, h1, r1⟩ := trodAll_cons r0
  obtain ⟨rfl, rfl, rfl⟩ := trodAll_nil r1
  obtain rfl : args = #[v0, v1] := by cases args; simp_all
  obtain ⟨rfl, rfl⟩ := trodVars_none hV
  obtain ⟨A0, n0, c0, xs0, rfl, hl0, hm0, hr0, hx0⟩ := open_accs (hval 0 23 v0 rfl rfl) h0
  obtain ⟨A1, n1, c1, xs1, rfl, hl1, hm1, hr1, hx1⟩ := open_accs (hval 1 23 v1 rfl rfl) h1
  refine (lawSame_walk A0 n0 c0 xs0 hl0 hm0 hr0 hx0 A1 n1 c1 xs1 hl1 hm1 hr1 hx1 (w := W)).mono fun e W' ⟨he, hg⟩ => ?_
  subst he
  exact ⟨_, rfl, law_post (tb := 4) laidOut (by rw [Try.params4]; intro t ht; simp at ht; subst ht; exact ⟨by kernel_rfl, of_decide_eq_true (by kernel_rfl)⟩) (fun n hn => by cases hn) (by kernel_rfl) Try.underlying4 hW' rfl hg⟩

theorem proved : Rows.FnExactSameTraceSaid :=
  OpenClaim.holds_of_wide 4 Try.f4 rfl rfl rfl rfl rfl rfl rfl ⟨rfl, rfl, rfl, rfl, rfl⟩ rfl rfl rfl rfl rfl (by kernel_rfl) Try.func4 (by kernel_rfl)
    (of_decide_eq_true (by kernel_rfl)) (by unfold Func.isWrapper; first | (rw [if_pos (by decide +kernel)]; kernel_rfl) | (rw [if_neg (by decide +kernel)]; exact ⟨rfl, rfl⟩))
    (fun os started H enc _ => lifted os started H enc)
#print axioms proved
end Go.Proofs.Ytfkojdakgnbffaa.fnExactSameTrace

