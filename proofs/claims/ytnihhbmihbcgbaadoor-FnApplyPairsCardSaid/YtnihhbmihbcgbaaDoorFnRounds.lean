/- laws.FnNetworkRounds: the walk. -/
import Derived.Test.YtnihhbmihbcgbaaDoorFnHalf
import Derived.Test.YtnihhbmihbcgbaaDoorRounds
import Derived.Test.YtnihhbmihbcgbaaDoorBatch
namespace Go.Proofs.YtnihhbmihbcgbaaDoor
open Go Go.RowKit
set_option maxRecDepth 100000

theorem net_len10 : ∀ m, m < 257 → (netL m).length ≤ 10000 := by
  intro m hm
  have h1 := topE_le m (by omega)
  have hp : ∀ (p s d : Nat), (passI m p s d 0).length ≤ 256 := fun p s d => Nat.le_trans (passI_len m p s d 0) (by omega)
  have hq : ∀ (e q : Nat), (qRun m e q).length ≤ 256 * (q - e) := by
    intro e q
    induction q with
    | zero => simp [qRun]
    | succ q ih =>
      unfold qRun
      split
      · rename_i h
        rw [List.length_append]
        have := hp (2 ^ e) 1 (2 ^ (q + 1) - 2 ^ e)
        omega
      · simp
  have hr : ∀ (t e : Nat), (pRun m t e).length ≤ 256 * stages t e := by
    intro t e
    induction e with
    | zero => simp [pRun]
    | succ e ih =>
      unfold pRun stages
      rw [List.length_append, List.length_append]
      have a := hp (2 ^ e) 0 (2 ^ e)
      have b := hq e t
      omega
  have h2 := hr (topE m) (topE m + 1)
  rw [stages_all _ (by omega)] at h2
  have h3 : (topE m + 1) * (topE m + 2) ≤ 8 * 9 := Nat.mul_le_mul (by omega) (by omega)
  unfold netL
  omega
theorem depth_net {m : Nat} (h2 : 2 ≤ m) (hm : m ≤ 256) : depthOf m (netOf m) ≤ ((topE m + 1) * (topE m + 2) / 2 : Nat) ∧ 0 ≤ depthOf m (netOf m) := by
  have e : netOf (m : Int) = netL m := by
    unfold netOf
    rw [if_pos (inB_mk ⟨by omega, by omega⟩)]
    simp
  have hb : depthB m (netL m) = true := by
    unfold depthB
    rw [inB_mk ⟨by omega, by omega⟩, netL_fit]
    simpa using net_len10 m (by omega)
  rw [e]
  unfold depthOf
  rw [if_pos hb]
  simp only [Int.toNat_natCast]
  exact ⟨net_rounds hm, (dRun_inv m (netL m)).2.2.1⟩

theorem pow_wrap {k P : Nat} (hP : 2 ^ k = P) (hb : P ≤ 256) : wrap64 ((2 : Int) ^ k) = (P : Int) := by
  have e : (2 : Int) ^ k = (P : Int) := by rw [← hP]; simp
  rw [e]
  exact IntWalk.wrap64_in _ ⟨by omega, by omega⟩
set_option maxHeartbeats 800000 in
theorem fnRounds_walk {w : World} (A : Option Addr) (n c : Nat) (xs : List UInt8) (hl : xs.length = n) (hc : n ≤ c) (hm : c ≤ maxLen) (hx : Reads w w.heap.size 1 A n (byCells xs))
    (RA : Option Addr) (RC : Nat) (hv : w.cell? ⟨0, 0, none⟩ = some (.slice RA 13 RC)) (hr : Reads w w.heap.size 1 RA 13 (stCells resW)) :
    Calls Tryd.prog 6 #[.slice A n c] w fun e w' => e = .returned (.bool true) ∧ Below w.heap.size w w' := by
  by_cases hbig : (1048576 : Int) < (n : Int)
  · clear hx hr
    go_enter Tryd.func6, Tryd.ntmps6
    go_wp2_with fail
    go_ret
    exact ⟨rfl, Below.refl _ _⟩
  · have HD := Lib.hid (drawNet_any A n c xs w hx hl (by omega) hc hm)
    have HV := Lib.hid (fun (w' : World) (hb : Below w.heap.size w w') => alive_yes RA RC w' (below_keep hb hv) ((hr.below hb).more hb.size))
    clear hx hr hl hv
    go_enter Tryd.func6, Tryd.ntmps6
    go_wp2_with fail
    refine HD.out.mono ?_
    rintro e w1 ⟨m, rfl, ha0, ha1, b1⟩
    obtain ⟨L, hL⟩ : ∃ L, L = netOf m := ⟨_, rfl⟩
    have hle : L.length ≤ 16384 := by rw [hL]; exact netOf_len m
    have IM := implNet_any m w1
    have SP := fun w => specNet_any m w
    have LN := netOf_nil (m := m)
    have DP : 2 ≤ m → m ≤ 256 → depthOf m L ≤ ((topE m.toNat + 1) * (topE m.toNat + 2) / 2 : Nat) ∧ 0 ≤ depthOf m L := fun h1 h2 => by
      obtain ⟨M, rfl⟩ := Int.eq_ofNat_of_zero_le (show 0 ≤ m by omega)
      rw [hL]
      simp only [Int.toNat_natCast]
      exact depth_net (by omega) (by omega)
    rw [← hL] at IM SP LN
    have IM := Lib.hid IM
    have SP := Lib.hid SP
    have LN := Lib.hid LN
    have DP := Lib.hid DP
    clear hL
    go_wp2_with fail
    refine IM.out.mono ?_
    rintro e w2 ⟨v0, rfl, o2, b2⟩
    obtain ⟨A0, c0, rfl, _, _⟩ := own_form o2
    have B2 := b1.trans (b2.mono b1.size)
    go_wp2_with fail
    refine (SP.out _).mono ?_
    rintro e w3 ⟨v1, rfl, o3, b3⟩
    obtain ⟨A1, c1, rfl, _, _⟩ := own_form o3
    have o2' := own_below o2 b3
    have B3 := B2.trans (b3.mono B2.size)
    go_wp2_with fail
    refine (samePairs_yes A0 A1 _ c0 c1 L _ rfl (Reads.of_own o2') (Reads.of_own o3) (by omega)).mono ?_
    rintro e w4 ⟨rfl, b4⟩
    have o4 := own_below o2' b4
    have B4 := B3.trans (b4.mono B3.size)
    have R4 := Reads.of_own o4
    have AL := Lib.hid (HV.out w4 B4)
    clear IM SP HV o2 o3 o2' b1 b2 b3 b4 B2 B3 o4
    by_cases h0 : L.length = 0
    · have h0' : (L.length : Int) = 0 := by omega
      clear R4
      go_wp2_with fail
      refine AL.out.mono ?_
      rintro e w' ⟨rfl, rfl⟩
      go_wp2_with fail
      go_ret
      exact ⟨rfl, B4⟩
    · obtain ⟨g1, g2, g3⟩ := LN.out.resolve_left h0
      have DP := Lib.hid (DP.out g1 g2)
      obtain ⟨M, rfl⟩ := Int.eq_ofNat_of_zero_le (show 0 ≤ m by omega)
      have hT := topE_lt M (by omega) (by omega)
      have hT2 := topE_up M (by omega)
      have hT3 := topE_le M (by omega)
      obtain ⟨E, hE⟩ : ∃ E, topE M = E := ⟨_, rfl⟩
      simp only [Int.toNat_natCast] at DP
      rw [hE] at hT hT2 hT3 DP
      have h3 : ((L.length : Int) == 0) = false := by simp only [beq_eq_false_iff_ne]; omega
      have HT := Lib.hid hT
      have HT2 := Lib.hid hT2
      clear h0 hE hT hT2 LN AL
      go_wp2_with fail
      go_loop [5] (fun t => ∃ k : Nat, t = .int .i64 (k : Int) ∧ k ≤ E + 1) (fun t => 9 - (intOf t).toNat)
      case atStart => exact ⟨0, rfl, by omega⟩
      case round =>
        obtain ⟨k, rfl, hk⟩ := hrel
        have hp1 : 2 ^ k ≤ 2 ^ 8 := Nat.pow_le_pow_right (by omega) (by omega)
        obtain ⟨P, hP⟩ : ∃ P, 2 ^ k = P := ⟨_, rfl⟩
        have hPb : P ≤ 256 := by omega
        by_cases hke : k ≤ E
        · have hPM : (P : Int) < (M : Int) := by
            have h1 : 2 ^ k ≤ 2 ^ E := Nat.pow_le_pow_right (by omega) hke
            have h2 := HT.out
            omega
          have hmin : min k 64 = k := by omega
          have hpow := pow_wrap hP hPb
          clear hP hp1
          go_wp2_with fail
          clear hpow hmin
          go_round
          case rel => exact ⟨k + 1, by go_num, by omega⟩
          case measure => simp [intOf]; omega
        · obtain rfl : k = E + 1 := by omega
          have hPM : ¬ (P : Int) < (M : Int) := by
            have h2 := HT2.out
            omega
          have DPT := Lib.hid (implDepth_any A0 L.length c0 L (M : Int) w4 rfl R4 (by omega))
          have hmin : min (E + 1) 64 = E + 1 := by omega
          have hpow := pow_wrap hP hPb
          clear hP hp1
          go_wp2_with fail
          clear hpow hmin hPM
          have hD := DP.out
          refine DPT.out.mono ?_
          rintro e w5 ⟨rfl, b5⟩
          have B5 := B4.trans (b5.mono B4.size)
          obtain ⟨D, hDD⟩ : ∃ D, depthOf (M : Int) L = D := ⟨_, rfl⟩
          rw [hDD] at hD ⊢
          have hD1 := hD.1
          clear hD hDD DPT HT HT2 DP R4 hk
          rcases (show E = 0 ∨ E = 1 ∨ E = 2 ∨ E = 3 ∨ E = 4 ∨ E = 5 ∨ E = 6 ∨ E = 7 by omega) with rfl | rfl | rfl | rfl | rfl | rfl | rfl | rfl
          all_goals
            simp at hD1
            go_wp2_with fail
            go_ret
            exact ⟨rfl, B5⟩
end Go.Proofs.YtnihhbmihbcgbaaDoor
