/- impl.isLetter, impl.isDigit, spec.l2Letter, spec.l2Digit, impl.run, strings.HasPrefix, strings.TrimPrefix, impl.tokenSize. -/
import Derived.Test.YtcfjgieiaioinaaDoorStr
namespace Go.Proofs.YtcfjgieiaioinaaDoor
open Go Go.RowKit
set_option maxRecDepth 100000

theorem isLetter_is (q : Bool) (b : UInt8) (w : World) (h : isL b = q) : Calls Tryd.prog 32 #[.int .u8 (b.toNat : Int)] w fun e w' => e = .returned (.bool q) ∧ w = w' := by
  have hb : b.toNat < 256 := UInt8.toNat_lt b
  obtain ⟨n, hn⟩ : ∃ n, b.toNat = n := ⟨_, rfl⟩
  rw [hn] at hb ⊢
  unfold isL at h
  rw [hn] at h
  clear hn
  have H := Lib.hid h
  clear h
  by_cases h1 : 97 ≤ (n : Int)
  · by_cases h2 : (n : Int) ≤ 122
    · go_enter Tryd.func32, Tryd.ntmps32
      go_wp2
      go_ret
      refine ⟨ret_bool ?_, rfl⟩
      rw [← H.out]; simp; omega
    · go_enter Tryd.func32, Tryd.ntmps32
      go_wp2
      go_ret
      refine ⟨ret_bool ?_, rfl⟩
      rw [← H.out]; simp; omega
  · go_enter Tryd.func32, Tryd.ntmps32
    go_wp2
    go_ret
    refine ⟨ret_bool ?_, rfl⟩
    rw [← H.out]; simp; omega

theorem isDigit_is (q : Bool) (b : UInt8) (w : World) (h : isD b = q) : Calls Tryd.prog 34 #[.int .u8 (b.toNat : Int)] w fun e w' => e = .returned (.bool q) ∧ w = w' := by
  have hb : b.toNat < 256 := UInt8.toNat_lt b
  obtain ⟨n, hn⟩ : ∃ n, b.toNat = n := ⟨_, rfl⟩
  rw [hn] at hb ⊢
  unfold isD at h
  rw [hn] at h
  clear hn
  have H := Lib.hid h
  clear h
  by_cases h1 : 48 ≤ (n : Int)
  · by_cases h2 : (n : Int) ≤ 57
    · go_enter Tryd.func34, Tryd.ntmps34
      go_wp2
      go_ret
      refine ⟨ret_bool ?_, rfl⟩
      rw [← H.out]; simp; omega
    · go_enter Tryd.func34, Tryd.ntmps34
      go_wp2
      go_ret
      refine ⟨ret_bool ?_, rfl⟩
      rw [← H.out]; simp; omega
  · go_enter Tryd.func34, Tryd.ntmps34
    go_wp2
    go_ret
    refine ⟨ret_bool ?_, rfl⟩
    rw [← H.out]; simp; omega

theorem l2Digit_is (q : Bool) (b : UInt8) (w : World) (h : isD b = q) : Calls Tryd.prog 18 #[.int .u8 (b.toNat : Int)] w fun e w' => e = .returned (.bool q) ∧ w = w' := by
  have hb : b.toNat < 256 := UInt8.toNat_lt b
  obtain ⟨n, hn⟩ : ∃ n, b.toNat = n := ⟨_, rfl⟩
  rw [hn] at hb ⊢
  unfold isD at h
  rw [hn] at h
  clear hn
  have H := Lib.hid h
  clear h
  by_cases h1 : 48 ≤ (n : Int)
  · by_cases h2 : (n : Int) ≤ 57
    · go_enter Tryd.func18, Tryd.ntmps18
      go_wp2
      go_ret
      refine ⟨ret_bool ?_, rfl⟩
      rw [← H.out]; simp; omega
    · go_enter Tryd.func18, Tryd.ntmps18
      go_wp2
      go_ret
      refine ⟨ret_bool ?_, rfl⟩
      rw [← H.out]; simp; omega
  · go_enter Tryd.func18, Tryd.ntmps18
    go_wp2
    go_ret
    refine ⟨ret_bool ?_, rfl⟩
    rw [← H.out]; simp; omega


set_option maxHeartbeats 400000 in
theorem runL_any (s : ByteArray) (T : Nat) (w : World) (hT : ((sb s).takeWhile isL).length = T) (hs : s.size ≤ 1000000000) :
    Calls Tryd.prog 31 #[.string s, .func (.func 32) #[] #[]] w fun e w' => e = .returned (.int .i64 T) ∧ w = w' := by
  have hle := tw_le hT
  rw [sb_len] at hle
  have HT := Lib.hid hT
  clear hT
  go_enter Tryd.func31, Tryd.ntmps31
  go_wp2_with fail
  go_loop [5] (fun v => ∃ k : Nat, k ≤ T ∧ v = .int .i64 k) (fun v => s.size + 1 - (intOf v).toNat)
  case atStart => exact ⟨0, Nat.zero_le _, rfl⟩
  case round =>
    obtain ⟨k, hk, rfl⟩ := hrel
    have hk0 : (0 : Int) ≤ (k : Int) := Int.natCast_nonneg _
    by_cases hlt : k < T
    · obtain ⟨b, hb, hp⟩ := tw_lt HT.out hlt
      obtain ⟨hks, hsb⟩ := sb_at hb
      have HP := Lib.hid hp
      clear hb hp
      have hk1 : (k : Int) < (s.size : Int) := by omega
      go_wp2_with fail
      refine (isLetter_is true b _ HP.out).mono ?_
      rintro e w' ⟨rfl, rfl⟩
      go_wp2_with fail
      go_round
      case rel => exact ⟨k + 1, by omega, by go_num⟩
      case measure => simp [intOf]; omega
    · obtain rfl : k = T := by omega
      by_cases hks : k < s.size
      · obtain ⟨b, hb, hp⟩ := tw_eq HT.out (by rw [sb_len]; exact hks)
        obtain ⟨_, hsb⟩ := sb_at hb
        have HP := Lib.hid hp
        clear hb hp
        have hk1 : (k : Int) < (s.size : Int) := by omega
        go_wp2_with fail
        refine (isLetter_is false b _ HP.out).mono ?_
        rintro e w' ⟨rfl, rfl⟩
        go_wp2_with fail
        go_ret
        exact ⟨rfl, rfl⟩
      · have hk1 : ((k : Int) < (s.size : Int)) = False := by simp; omega
        go_wp2_with fail
        go_ret
        exact ⟨rfl, rfl⟩
set_option maxHeartbeats 400000 in
theorem runD_any (s : ByteArray) (T : Nat) (w : World) (hT : ((sb s).takeWhile isD).length = T) (hs : s.size ≤ 1000000000) :
    Calls Tryd.prog 31 #[.string s, .func (.func 34) #[] #[]] w fun e w' => e = .returned (.int .i64 T) ∧ w = w' := by
  have hle := tw_le hT
  rw [sb_len] at hle
  have HT := Lib.hid hT
  clear hT
  go_enter Tryd.func31, Tryd.ntmps31
  go_wp2_with fail
  go_loop [5] (fun v => ∃ k : Nat, k ≤ T ∧ v = .int .i64 k) (fun v => s.size + 1 - (intOf v).toNat)
  case atStart => exact ⟨0, Nat.zero_le _, rfl⟩
  case round =>
    obtain ⟨k, hk, rfl⟩ := hrel
    have hk0 : (0 : Int) ≤ (k : Int) := Int.natCast_nonneg _
    by_cases hlt : k < T
    · obtain ⟨b, hb, hp⟩ := tw_lt HT.out hlt
      obtain ⟨hks, hsb⟩ := sb_at hb
      have HP := Lib.hid hp
      clear hb hp
      have hk1 : (k : Int) < (s.size : Int) := by omega
      go_wp2_with fail
      refine (isDigit_is true b _ HP.out).mono ?_
      rintro e w' ⟨rfl, rfl⟩
      go_wp2_with fail
      go_round
      case rel => exact ⟨k + 1, by omega, by go_num⟩
      case measure => simp [intOf]; omega
    · obtain rfl : k = T := by omega
      by_cases hks : k < s.size
      · obtain ⟨b, hb, hp⟩ := tw_eq HT.out (by rw [sb_len]; exact hks)
        obtain ⟨_, hsb⟩ := sb_at hb
        have HP := Lib.hid hp
        clear hb hp
        have hk1 : (k : Int) < (s.size : Int) := by omega
        go_wp2_with fail
        refine (isDigit_is false b _ HP.out).mono ?_
        rintro e w' ⟨rfl, rfl⟩
        go_wp2_with fail
        go_ret
        exact ⟨rfl, rfl⟩
      · have hk1 : ((k : Int) < (s.size : Int)) = False := by simp; omega
        go_wp2_with fail
        go_ret
        exact ⟨rfl, rfl⟩

def pfx (L P : List UInt8) : Bool := L.take P.length == P
theorem hasPrefix_any (q : Bool) (s p : ByteArray) (w : World) (h : pfx (sb s) (sb p) = q) :
    Calls Tryd.prog 44 #[.string s, .string p] w fun e w' => e = .returned (.bool q) ∧ w = w' := by
  have hsz : pfx (sb s) (sb p) = true → p.size ≤ s.size := by
    intro hp
    have e : (sb s).take (sb p).length = sb p := by simpa [pfx] using hp
    have e2 := congrArg List.length e
    rw [List.length_take, sb_len, sb_len] at e2
    omega
  have hex : ((s.extract 0 p.size).toList == p.toList) = q := by
    rw [← h, ByteArray.toList_eq, ByteArray.toList_eq]
    show (sb (s.extract 0 p.size) == sb p) = _
    rw [sb_extract, List.drop_zero, pfx, sb_len]
  have HX := Lib.hid hex
  have HZ := Lib.hid hsz
  have HH := Lib.hid h
  clear hex hsz h
  by_cases h1 : (p.size : Int) ≤ (s.size : Int)
  · have hx := HX.out
    go_enter Tryd.func44, Tryd.ntmps44
    go_wp2_with fail
    go_ret
    refine ⟨ret_bool ?_, rfl⟩
    first | rfl | simp_all
  · have hq : q = false := by
      rw [← HH.out]
      cases hc : pfx (sb s) (sb p)
      · rfl
      · exact absurd (HZ.out hc) (by omega)
    subst hq
    go_enter Tryd.func44, Tryd.ntmps44
    go_wp2_with fail
    go_ret
    exact ⟨rfl, rfl⟩
theorem stringsHasPrefix_any (q : Bool) (s p : ByteArray) (w : World) (h : pfx (sb s) (sb p) = q) :
    Calls Tryd.prog 35 #[.string s, .string p] w fun e w' => e = .returned (.bool q) ∧ w = w' := by
  have HH := Lib.hid h
  clear h
  go_enter Tryd.func35, Tryd.ntmps35
  go_wp2_with fail
  refine (hasPrefix_any q _ _ _ HH.out).mono ?_
  rintro e w' ⟨rfl, rfl⟩
  go_wp2_with fail
  go_ret
  exact ⟨rfl, rfl⟩
def trimP (L P : List UInt8) : List UInt8 := if pfx L P then L.drop P.length else L
theorem trimPrefix_any (s p : ByteArray) (R : List UInt8) (w : World) (h : trimP (sb s) (sb p) = R) :
    Calls Tryd.prog 43 #[.string s, .string p] w fun e w' => ∃ r, e = .returned (.string r) ∧ sb r = R ∧ w = w' := by
  have HH := Lib.hid h
  clear h
  cases hq : pfx (sb s) (sb p)
  · have HQ := Lib.hid hq
    clear hq
    go_enter Tryd.func43, Tryd.ntmps43
    go_wp2_with fail
    refine (hasPrefix_any false _ _ _ HQ.out).mono ?_
    rintro e w' ⟨rfl, rfl⟩
    go_wp2_with fail
    go_ret
    refine ⟨_, rfl, ?_, rfl⟩
    rw [← HH.out, trimP, HQ.out]
    rfl
  · have hsz : p.size ≤ s.size := by
      have e : (sb s).take (sb p).length = sb p := by simpa [pfx] using hq
      have e2 := congrArg List.length e
      rw [List.length_take, sb_len, sb_len] at e2
      omega
    have HQ := Lib.hid hq
    clear hq
    have h1 : (p.size : Int) ≤ (s.size : Int) := by omega
    have h0 : (0 : Int) ≤ (p.size : Int) := by omega
    go_enter Tryd.func43, Tryd.ntmps43
    go_wp2_with fail
    refine (hasPrefix_any true _ _ _ HQ.out).mono ?_
    rintro e w' ⟨rfl, rfl⟩
    go_wp2_with fail
    go_ret
    refine ⟨_, rfl, ?_, rfl⟩
    rw [← HH.out, trimP, HQ.out, if_pos rfl]
    show sb (s.extract p.size s.size) = _
    rw [sb_extract, List.take_of_length_le (by rw [sb_len]; omega), sb_len]
theorem stringsTrimPrefix_any (s p : ByteArray) (R : List UInt8) (w : World) (h : trimP (sb s) (sb p) = R) :
    Calls Tryd.prog 33 #[.string s, .string p] w fun e w' => ∃ r, e = .returned (.string r) ∧ sb r = R ∧ w = w' := by
  have HH := Lib.hid h
  clear h
  go_enter Tryd.func33, Tryd.ntmps33
  go_wp2_with fail
  refine (trimPrefix_any _ _ R _ HH.out).mono ?_
  rintro e w' ⟨r, rfl, hr, rfl⟩
  go_wp2_with fail
  go_ret
  exact ⟨_, rfl, hr, rfl⟩
end Go.Proofs.YtcfjgieiaioinaaDoor
