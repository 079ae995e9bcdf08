/- Proved: laws.FnExactTokensOf returns true for every text, and writes nothing that was there. No conditions. -/
import Derived.Test.YtfkojdakgnbffaaTokSpec
import Derived.Test.YtfkojdakgnbffaaFrame
import Derived.ChangeMaps5
namespace Go.Proofs.Ytfkojdakgnbffaa
open Go Go.RowKit

theorem toks_len (n : Nat) : ∀ (L : List UInt8) (out : List ByteArray), L.length ≤ n → ∀ r, toks L out = some r → r.length ≤ out.length + L.length := by
  induction n with
  | zero =>
    intro L out hL r hr
    cases L with
    | nil => rw [toks_nil] at hr; cases hr; simp
    | cons c t => simp at hL
  | succ n ih =>
    intro L out hL r hr
    cases L with
    | nil => rw [toks_nil] at hr; cases hr; simp
    | cons c t =>
      rw [List.length_cons] at hL ⊢
      by_cases h32 : c = 32
      · subst h32
        rw [toks_space] at hr
        have := ih t out (by omega) r hr
        omega
      · rcases Nat.eq_zero_or_pos (tokSize (c :: t)) with h0 | h0
        · rw [toks_bad c t out h32 h0] at hr; cases hr
        · rw [toks_tok c t out h32 _ rfl h0] at hr
          have := ih _ _ (by rw [List.length_drop, List.length_cons]; omega) r hr
          rw [List.length_drop, List.length_append] at this
          simp only [List.length_cons, List.length_nil] at this
          have := tokSize_le (c :: t)
          rw [List.length_cons] at this
          omega
theorem tokensOf_len (s : ByteArray) : ((tokensOf s).getD []).length ≤ 1000 := by
  unfold tokensOf
  split
  · cases h : toks (sb s) [] with
    | none => simp
    | some r =>
      have := toks_len _ (sb s) [] (Nat.le_refl _) r h
      rw [sb_len] at this
      simp at this ⊢
      omega
  · simp

set_option maxHeartbeats 800000 in
theorem lawTok_walk {w : World} (s : ByteArray) (hs : s.size ≤ maxLen) : Calls Try.prog 10 #[.string s] w fun e w' => e = .returned (.bool true) ∧ Below w.heap.size w w' := by
  unfold maxLen at hs
  by_cases hbig : (1048576 : Int) < (s.size : Int)
  · go_enter Try.func10, Try.ntmps10
    go_wp2_with fail
    go_ret
    exact ⟨rfl, Below.refl _ _⟩
  obtain ⟨O, hO⟩ : ∃ O, tokensOf s = O := ⟨_, rfl⟩
  have hl0 := tokensOf_len s
  rw [hO] at hl0
  have SP := Lib.hid (fun w => specTokens_any s O w hO (by omega))
  have IM := Lib.hid (fun w => implTokens_any s O w hO (by omega))
  obtain ⟨L, hL⟩ : ∃ L, O.getD [] = L := ⟨_, rfl⟩
  obtain ⟨b, hbo⟩ : ∃ b, O.isSome = b := ⟨_, rfl⟩
  rw [hL] at hl0
  rw [hL, hbo] at SP IM
  have hl : L.length ≤ 1000000 := by omega
  clear hO hL hbo hl0
  go_enter Try.func10, Try.ntmps10
  go_wp2_with fail
  refine (SP.out _).mono ?_
  rintro e w1 ⟨v0, rfl, ho0, hb0⟩
  obtain ⟨A0, c0, rfl, _, _⟩ := own_form ho0
  have R0 := Reads.of_own ho0
  go_wp2_with fail
  refine (IM.out _).mono ?_
  rintro e w2 ⟨v1, rfl, ho1, hb1⟩
  obtain ⟨A1, c1, rfl, _, _⟩ := own_form ho1
  have R0' := R0.below hb1
  have hB2 := hb0.trans (hb1.mono hb0.size)
  go_wp2_with fail
  refine (eqStringS_any true A1 A0 _ _ c1 c0 L L _ (by simp) rfl rfl (Reads.of_own ho1) (R0'.more hb1.size) (by omega) (by omega)).mono ?_
  rintro e w3 ⟨rfl, hb2⟩
  have ho1' := own_below ho1 hb2
  have R0'' := R0'.belowW hb1.size hb2
  have hB3 := hB2.trans (hb2.mono hB2.size)
  go_wp2_with fail
  refine (markStringS_any _ _ 1 _ _ _ ho1' (by omega) (by omega)).mono ?_
  rintro e w4 ⟨rfl, ho4, hg4⟩
  have R4 := R0''.grown hg4 (Nat.le_trans hb1.size hb2.size) (fun g hg => (ho1'.lt g hg).1)
  have hB4 := below_append' hB3 ho1' hg4 hb0.size
  go_wp2_with fail
  refine (heldStringS_any A1 _ c1 1 _ (Reads.of_own ho4) (by omega) (by omega)).mono ?_
  rintro e w5 ⟨rfl, hb5⟩
  have hs4 : w1.heap.size ≤ w4.heap.size := Nat.le_trans (Nat.le_trans hb1.size hb2.size) hg4.size
  have R5 := R4.belowW hs4 hb5
  have ho5 := own_below ho4 hb5
  have hB5 := hB4.trans (hb5.mono hB4.size)
  have hs5 : w1.heap.size ≤ w5.heap.size := Nat.le_trans hs4 hb5.size
  go_wp2_with fail
  refine (IM.out _).mono ?_
  rintro e w6 ⟨v2, rfl, ho6, hb6⟩
  obtain ⟨A2, c2, rfl, _, _⟩ := own_form ho6
  have R6 := R5.belowW hs5 hb6
  have ho6' := own_below ho5 hb6
  have hB6 := hB5.trans (hb6.mono hB5.size)
  go_wp2_with fail
  refine (eqStringS_any true A2 A0 _ _ c2 c0 L L _ (by simp) rfl rfl (Reads.of_own ho6) (R6.more (Nat.le_trans hs5 hb6.size)) (by omega) (by omega)).mono ?_
  rintro e w7 ⟨rfl, hb7⟩
  have ho7 := own_below ho6' hb7
  have hB7 := hB6.trans (hb7.mono hB6.size)
  go_wp2_with fail
  refine (heldStringS_any A1 _ c1 1 _ (Reads.of_own ho7) (by omega) (by omega)).mono ?_
  rintro e w8 ⟨rfl, hb8⟩
  have hB8 := hB7.trans (hb8.mono hB7.size)
  go_wp2_with fail
  go_ret
  exact ⟨rfl, hB8⟩
end Go.Proofs.Ytfkojdakgnbffaa
namespace Go.Proofs.Ytfkojdakgnbffaa.fnExactTokensOf
open Go.ChangeMaps (open_string)
open Go Go.ChangeShapes Go.WideShapes Go.ChangeAt Go.RowKit
set_option linter.unusedVariables false

set_option maxRecDepth 100000 in
theorem lifted (os : Os) (started : os.Started) (H : Type) (enc : TypeId × Value → H) :
    ReturnsInHanded {} Try.checked os 10 .any (Rows.fnExactTokensOfSpec.pre6 enc Try.prog Try.f10 Rows.fnExactTokensOfRow.domain false) (Rows.fnExactTokensOfSpec.post enc Try.prog Try.f10 false true false false) := by
  refine returnsInHanded_of_change (C := Try.checked) own started (by kernel_rfl) Try.func10
    (ChangeSpec.witness6 (enc := enc) (C := Try.checked) false ⟨#[], #[.string ByteArray.empty], []⟩ 8 (by kernel_rfl) (by kernel_rfl) (by kernel_rfl) (by kernel_rfl)) ?_
  intro W base args ds gs before hval0 hW hcnd _
  have hval : ∀ (j : Nat) t v, Try.f10.params[j]? = some t → args[j]? = some v → Value.okWide Try.prog W .any base t v := hval0
  have hW' := hW
  obtain ⟨p, q, hA0, hV, rfl, hfz, hnd⟩ := hW
  have hA : DataW.TrodAll enc Try.prog W 0 (fun _ => true) true Try.f10.params.toList args.toList ds p := hA0
  rw [Try.params10] at hA hval
  obtain ⟨v0, vs0, d0, ds0, p0, q0, hargs, rfl, rfl, h0, r0⟩ := trodAll_cons hA
  obtain ⟨rfl, rfl, rfl⟩ := trodAll_nil r0
  obtain rfl : args = #[v0] := by cases args; simp_all
  obtain ⟨rfl, rfl⟩ := trodVars_none hV
  obtain ⟨a0, rfl, rfl, rfl, w0⟩ := open_string Try.underlying9 (hval 0 9 v0 rfl rfl) h0
  refine (lawTok_walk a0 w0 (w := W)).mono fun e W' ⟨he, hg⟩ => ?_
  subst he
  exact ⟨_, rfl, law_post (tb := 4) laidOut (by rw [Try.params10]; intro t ht; simp at ht; subst ht; exact ⟨by kernel_rfl, of_decide_eq_true (by kernel_rfl)⟩) (fun n hn => by cases hn) (by kernel_rfl) Try.underlying4 hW' rfl hg⟩

theorem proved : Rows.FnExactTokensOfSaid :=
  OpenClaim.holds_of_wide 10 Try.f10 rfl rfl rfl rfl rfl rfl rfl ⟨rfl, rfl, rfl, rfl, rfl⟩ rfl rfl rfl rfl rfl (by kernel_rfl) Try.func10 (by kernel_rfl)
    (of_decide_eq_true (by kernel_rfl)) (by unfold Func.isWrapper; first | (rw [if_pos (by decide +kernel)]; kernel_rfl) | (rw [if_neg (by decide +kernel)]; exact ⟨rfl, rfl⟩))
    (fun os started H enc _ => lifted os started H enc)
#print axioms proved
end Go.Proofs.Ytfkojdakgnbffaa.fnExactTokensOf

