/- laws.FnExactPassTrace: the walk. -/
import Derived.Test.YtfkojdakgnbffaaPass
namespace Go.Proofs.Ytfkojdakgnbffaa
open Go Go.RowKit

theorem passL_le (r m : Int) : (passL r m).length ≤ 1000 := by
  cases h : passOk r m
  · simp [passL, h]
  · have hm := inB_true (show inB m 0 256 = true by simp [passOk] at h; exact h.2)
    obtain ⟨k, rfl⟩ := Int.eq_ofNat_of_zero_le hm.1
    rw [passL_length r k h]
    omega

set_option maxHeartbeats 400000 in
theorem lawPass_walk (r m : Int) (w : World) : Calls Try.prog 5 #[.int .i64 r, .int .i64 m] w fun e w' => e = .returned (.bool true) ∧ Below w.heap.size w w' := by
  obtain ⟨L, hL⟩ : ∃ L, L = passL r m := ⟨_, rfl⟩
  have hl : L.length ≤ 1000 := by rw [hL]; exact passL_le r m
  have spec := specPass_any r m
  have impl := passTrace_any r m
  rw [← hL] at spec impl
  have SP := Lib.hid spec
  have IM := Lib.hid impl
  clear spec impl hL
  go_enter Try.func5, Try.ntmps5
  go_wp2_with fail
  refine (SP.out _).mono ?_
  rintro e w1 ⟨v0, rfl, ho0, hb0⟩
  obtain ⟨A0, c0, rfl, _, _⟩ := own_form ho0
  have R0 := Reads.of_own ho0
  go_wp2_with fail
  refine (IM.out _).mono ?_
  rintro e w2 ⟨v1, rfl, ho1, hb1⟩
  obtain ⟨A1, c1, rfl, _, _⟩ := own_form ho1
  have R0' := R0.below hb1
  have hB2 := hb0.trans (hb1.mono hb0.size)
  go_wp2_with fail
  refine (eqAccessS_any true A1 A0 _ _ c1 c0 L L _ (by simp) rfl rfl (Reads.of_own ho1) (R0'.more hb1.size) (by omega) (by omega)).mono ?_
  rintro e w3 ⟨rfl, hb2⟩
  have ho1' := own_below ho1 hb2
  have R0'' := R0'.belowW hb1.size hb2
  have hB3 := hB2.trans (hb2.mono hB2.size)
  go_wp2_with fail
  refine (markAccessS_any _ _ 1 _ _ _ ho1' (by omega) (by omega) (by omega)).mono ?_
  rintro e w4 ⟨rfl, ho4, hg4⟩
  have R4 := R0''.grown hg4 (Nat.le_trans hb1.size hb2.size) (fun g hg => (ho1'.lt g hg).1)
  have hB4 := below_append' hB3 ho1' hg4 hb0.size
  go_wp2_with fail
  refine (heldAccessS_any A1 _ c1 1 _ (Reads.of_own ho4) (by omega) (by omega) (by omega)).mono ?_
  rintro e w5 ⟨rfl, rfl⟩
  go_wp2_with fail
  refine (IM.out _).mono ?_
  rintro e w6 ⟨v2, rfl, ho6, hb6⟩
  obtain ⟨A2, c2, rfl, _, _⟩ := own_form ho6
  have hs4 : w1.heap.size ≤ w4.heap.size := Nat.le_trans (Nat.le_trans hb1.size hb2.size) hg4.size
  have R6 := R4.belowW hs4 hb6
  have ho6' := own_below ho4 hb6
  have hB6 := hB4.trans (hb6.mono hB4.size)
  go_wp2_with fail
  refine (eqAccessS_any true A2 A0 _ _ c2 c0 L L _ (by simp) rfl rfl (Reads.of_own ho6) (R6.more (Nat.le_trans hs4 hb6.size)) (by omega) (by omega)).mono ?_
  rintro e w7 ⟨rfl, hb7⟩
  have ho7 := own_below ho6' hb7
  have hB7 := hB6.trans (hb7.mono hB6.size)
  go_wp2_with fail
  refine (heldAccessS_any A1 _ c1 1 _ (Reads.of_own ho7) (by omega) (by omega) (by omega)).mono ?_
  rintro e w8 ⟨rfl, rfl⟩
  go_wp2_with fail
  go_ret
  exact ⟨rfl, hB7⟩
end Go.Proofs.Ytfkojdakgnbffaa
