/- impl.NameValid, spec.NameValid (door seats). -/
import Derived.Test.YtijpdekcdejfmaaDoorStr
namespace Go.Proofs.YtijpdekcdejfmaaDoor
open Go Go.RowKit

def resL : List (List UInt8) := [[115, 101, 108, 101, 99, 116], [102, 114, 111, 109], [106, 111, 105, 110], [111, 110], [119, 104, 101, 114, 101], [97, 110, 100], [111, 114], [103, 114, 111, 117, 112], [98, 121], [115, 117, 109], [111, 114, 100, 101, 114], [100, 111, 119, 110], [108, 105, 109, 105, 116]]
def resW : List ByteArray := resL.map fun g => ⟨g.toArray⟩
def hasW (xs : List ByteArray) (x : ByteArray) : Bool := xs.any fun y => decide (x = y)
def nameB (s : ByteArray) : Bool := (sb s).all isL && (inB s.size 1 8 && !hasW resW s)

set_option maxHeartbeats 400000 in
theorem indexStr_any (q : Bool) (A : Option Addr) (n c : Nat) (xs : List ByteArray) (x : ByteArray) (w : World) (B : Nat) (hxn : xs.length = n) (hx : Reads w B 1 A n (stCells xs)) (hn : n ≤ 1000000000) (hq : hasW xs x = q) :
    Calls Tryd.prog 35 #[.slice A n c, .string x] w fun e w' => ∃ r : Int, e = .returned (.int .i64 r) ∧ decide (0 ≤ r) = q ∧ w = w' := by
  have HX := Lib.hid hxn
  have HQ := Lib.hid hq
  clear hxn hq
  go_enter Tryd.func35, Tryd.ntmps35
  go_wp2
  go_loop [5, 8] (fun _ v => ∃ k : Nat, k ≤ n ∧ v = .int .i64 k ∧ hasW (xs.take k) x = false) (fun _ v => n - (intOf v).toNat)
  case atStart => exact ⟨0, Nat.zero_le _, rfl, rfl⟩
  case round =>
    obtain ⟨k, hk, rfl, hno⟩ := hrel
    have HN := Lib.hid hno
    clear hno
    by_cases hlt : k < n
    · obtain ⟨ad, y, rfl, _, hy, e1⟩ := st_at hx HX.out hlt
      have HY := Lib.hid hy
      clear hy hx
      by_cases hxy : x = y
      · subst hxy
        go_wp2
        go_ret
        refine ⟨_, rfl, ?_, rfl⟩
        rw [← HQ.out, show hasW xs x = true from List.any_eq_true.2 ⟨x, List.mem_of_getElem? HY.out, by simp⟩]
        simp
      · have hne := str_ne hxy
        go_wp2
        go_round
        case rel =>
          refine ⟨k + 1, by omega, by go_num, ?_⟩
          unfold hasW
          rw [List.take_add_one, HY.out, List.any_append, show ((xs.take k).any fun y => decide (x = y)) = false from HN.out]
          simp [hxy]
        case measure => simp [intOf]; omega
    · obtain rfl : k = n := by omega
      go_wp2
      go_ret
      refine ⟨_, rfl, ?_, rfl⟩
      have h := HN.out
      rw [List.take_of_length_le (by have := HX.out; omega)] at h
      rw [← HQ.out, h]
      simp
theorem containsStr_any (q : Bool) (A : Option Addr) (n c : Nat) (xs : List ByteArray) (x : ByteArray) (w : World) (B : Nat) (hxn : xs.length = n) (hx : Reads w B 1 A n (stCells xs)) (hn : n ≤ 1000000000) (hq : hasW xs x = q) :
    Calls Tryd.prog 47 #[.slice A n c, .string x] w fun e w' => e = .returned (.bool q) ∧ w = w' := by
  have HQ := Lib.hid hq
  clear hq
  go_enter Tryd.func47, Tryd.ntmps47
  go_wp2_with fail
  refine (indexStr_any q A n c xs x _ B hxn hx hn HQ.out).mono ?_
  rintro e w' ⟨r, rfl, hr, rfl⟩
  by_cases h0 : 0 ≤ r
  · go_wp2_with fail
    go_ret
    exact ⟨ret_bool (by rw [← hr] <;> simp [h0]), rfl⟩
  · go_wp2_with fail
    go_ret
    exact ⟨ret_bool (by rw [← hr] <;> simp [h0]), rfl⟩

theorem all_tw {L : List UInt8} {p : UInt8 → Bool} : L.all p = decide ((L.takeWhile p).length = L.length) := by
  induction L with
  | nil => rfl
  | cons a L ih =>
    by_cases hp : p a = true
    · rw [List.all_cons, hp, List.takeWhile_cons_of_pos hp, Bool.true_and, ih]; simp
    · rw [List.all_cons, List.takeWhile_cons_of_neg hp]; simp [hp]
theorem isL_no {b : UInt8} {m : Nat} (hm : b.toNat = m) (h : isL b = false) : m < 97 ∨ (97 ≤ m ∧ 122 < m) := by
  subst hm
  simp [isL] at h
  omega
theorem isL_yes {b : UInt8} {m : Nat} (hm : b.toNat = m) (h : isL b = true) : 97 ≤ m ∧ m ≤ 122 := by
  subst hm
  simpa [isL] using h

set_option maxHeartbeats 1000000 in
theorem implName_any (q : Bool) (s : ByteArray) (A : Option Addr) (c : Nat) (w : World) (hv : w.cell? ⟨0, 0, none⟩ = some (.slice A 13 c)) (hx : Reads w w.heap.size 1 A 13 (stCells resW)) (hs : s.size ≤ 9223372036854775807) (hq : nameB s = q) :
    Calls Tryd.prog 31 #[.string s] w fun e w' => e = .returned (.bool q) ∧ w = w' := by
  obtain ⟨T, hT⟩ : ∃ T, ((sb s).takeWhile isL).length = T := ⟨_, rfl⟩
  have hle := tw_le hT
  rw [sb_len] at hle
  have hall : (sb s).all isL = decide (T = s.size) := by rw [all_tw, hT, sb_len]
  have HT := Lib.hid hT
  have HA := Lib.hid hall
  have HQ := Lib.hid hq
  clear hT hall hq
  go_enter Tryd.func31, Tryd.ntmps31
  go_wp2_with fail
  go_loop [3, 6] (fun _ v => ∃ k : Nat, k ≤ T ∧ v = .int .i64 k) (fun _ v => s.size + 1 - (intOf v).toNat)
  case atStart => exact ⟨0, Nat.zero_le _, rfl⟩
  case round =>
    obtain ⟨k, hk, rfl⟩ := hrel
    have hk0 : (0 : Int) ≤ (k : Int) := Int.natCast_nonneg _
    by_cases hlt : k < T
    · obtain ⟨b, hb, hp⟩ := tw_lt HT.out hlt
      obtain ⟨hks, hsb⟩ := sb_at hb
      obtain ⟨m, hm⟩ : ∃ m, b.toNat = m := ⟨_, rfl⟩
      have hmm := isL_yes hm hp
      have hk1 : (k : Int) < (s.size : Int) := by omega
      clear hb hp
      go_wp2_with fail
      go_round
      case rel => exact ⟨k + 1, by omega, by go_num⟩
      case measure => simp [intOf]; omega
    · obtain rfl : k = T := by omega
      by_cases hks : k < s.size
      · obtain ⟨b, hb, hp⟩ := tw_eq HT.out (by rw [sb_len]; exact hks)
        obtain ⟨_, hsb⟩ := sb_at hb
        obtain ⟨m, hm⟩ : ∃ m, b.toNat = m := ⟨_, rfl⟩
        have hk1 : (k : Int) < (s.size : Int) := by omega
        have hf : q = false := by
          rw [← HQ.out, nameB, HA.out, decide_eq_false (by omega)]
          rfl
        subst hf
        rcases isL_no hm hp with hmm | ⟨hm1, hm2⟩
        · clear hb hp
          go_wp2_with fail
          go_ret
          exact ⟨rfl, rfl⟩
        · clear hb hp
          go_wp2_with fail
          go_ret
          exact ⟨rfl, rfl⟩
      · have hk1 : ((k : Int) < (s.size : Int)) = False := eq_false (by omega)
        have hq2 : (inB s.size 1 8 && !hasW resW s) = q := by rw [← HQ.out, nameB, HA.out, decide_eq_true (by omega)]; rfl
        cases hi : inB s.size 1 8
        · have HI := Lib.hid hi
          have hf : q = false := by rw [← hq2, hi]; rfl
          subst hf
          clear hq2 hi
          go_wp2_with fail
          refine (in_is false _ _ _ _ HI.out).mono ?_
          rintro e w' ⟨rfl, rfl⟩
          go_wp2_with fail
          go_ret
          exact ⟨rfl, rfl⟩
        · have HI := Lib.hid hi
          have hf : (!hasW resW s) = q := by rw [← hq2, hi]; rfl
          obtain ⟨u, hu⟩ : ∃ u, hasW resW s = u := ⟨_, rfl⟩
          have HU := Lib.hid hu
          have hqu : q = !u := by rw [← hf, hu]
          subst hqu
          clear hq2 hi hf hu
          go_wp2_with fail
          refine (in_is true _ _ _ _ HI.out).mono ?_
          rintro e w' ⟨rfl, rfl⟩
          go_wp2_with fail
          refine (containsStr_any u A 13 c resW s _ _ rfl hx (by omega) HU.out).mono ?_
          rintro e w' ⟨rfl, rfl⟩
          go_wp2_with fail
          go_ret
          exact ⟨rfl, rfl⟩

theorem addr_at (b k : Nat) : (⟨b, 0, none⟩ : Addr).add k = ⟨b, k, none⟩ := by
  unfold Addr.add
  split
  · rename_i h; subst h; rfl
  · simp
theorem hasW_step {x y : ByteArray} {k : Nat} (h : resW[k]? = some y) : hasW (resW.drop k) x = (decide (x = y) || hasW (resW.drop (k + 1)) x) := by
  obtain ⟨hk, e⟩ := List.getElem?_eq_some_iff.1 h
  rw [List.drop_eq_getElem_cons hk, e]
  rfl

set_option maxHeartbeats 1000000 in
theorem specName_any (q : Bool) (s : ByteArray) (w : World) (hs : s.size ≤ 9223372036854775807) (hq : nameB s = q) :
    Calls Tryd.prog 50 #[.string s] w fun e w' => e = .returned (.bool q) ∧ Below w.heap.size w w' := by
  obtain ⟨T, hT⟩ : ∃ T, ((sb s).takeWhile isL).length = T := ⟨_, rfl⟩
  have hle := tw_le hT
  rw [sb_len] at hle
  have hall : (sb s).all isL = decide (T = s.size) := by rw [all_tw, hT, sb_len]
  have HT := Lib.hid hT
  have HA := Lib.hid hall
  have HQ := Lib.hid hq
  clear hT hall hq
  go_enter Tryd.func50, Tryd.ntmps50
  go_wp2_with fail
  go_loop [3] (fun v => ∃ k : Nat, k ≤ T ∧ v = .int .i64 k) (fun v => s.size + 1 - (intOf v).toNat)
  case atStart => exact ⟨0, Nat.zero_le _, rfl⟩
  case round =>
    obtain ⟨k, hk, rfl⟩ := hrel
    have hk0 : (0 : Int) ≤ (k : Int) := Int.natCast_nonneg _
    by_cases hlt : k < T
    · obtain ⟨b, hb, hp⟩ := tw_lt HT.out hlt
      obtain ⟨hks, hsb⟩ := sb_at hb
      obtain ⟨m, hm⟩ : ∃ m, b.toNat = m := ⟨_, rfl⟩
      have hmm := isL_yes hm hp
      have hk1 : (k : Int) < (s.size : Int) := by omega
      clear hb hp
      go_wp2_with fail
      go_round
      case rel => exact ⟨k + 1, by omega, by go_num⟩
      case measure => simp [intOf]; omega
    · obtain rfl : k = T := by omega
      by_cases hks : k < s.size
      · obtain ⟨b, hb, hp⟩ := tw_eq HT.out (by rw [sb_len]; exact hks)
        obtain ⟨_, hsb⟩ := sb_at hb
        obtain ⟨m, hm⟩ : ∃ m, b.toNat = m := ⟨_, rfl⟩
        have hk1 : (k : Int) < (s.size : Int) := by omega
        have hf : q = false := by
          rw [← HQ.out, nameB, HA.out, decide_eq_false (by omega)]
          rfl
        subst hf
        rcases isL_no hm hp with hmm | ⟨hm1, hm2⟩
        · clear hb hp
          go_wp2_with fail
          go_ret
          exact ⟨rfl, Below.refl _ _⟩
        · clear hb hp
          go_wp2_with fail
          go_ret
          exact ⟨rfl, Below.refl _ _⟩
      · have hk1 : ((k : Int) < (s.size : Int)) = False := eq_false (by omega)
        have hq2 : (inB s.size 1 8 && !hasW resW s) = q := by rw [← HQ.out, nameB, HA.out, decide_eq_true (by omega)]; rfl
        have HQ2 := Lib.hid hq2
        clear hq2
        go_wp2_with fail
        go_loopw [5] (fun iv wr => ∃ j : Nat, j ≤ 13 ∧ iv = .int .i64 j ∧ hasW (resW.drop j) s = hasW resW s ∧ Reads wr (w.heap.size + 1) 1 (some ⟨w.heap.size, 0, none⟩) 13 (stCells resW) ∧ Below w.heap.size w wr) (fun iv _ => 13 - (intOf iv).toNat)
        case atStart => exact ⟨0, by omega, rfl, rfl, ⟨rfl, fun _ => ⟨_, rfl, Nat.lt_succ_self _, cells_new _ _ _⟩⟩, (Below.refl _ _).alloc (Nat.le_refl _) _⟩
        case round =>
          obtain ⟨j, hj, rfl, hsg, hrd, hb⟩ := hrel
          have HS := Lib.hid hsg
          clear hsg
          by_cases hlj : j < 13
          · obtain ⟨ad, x, hA, _, hx, e1⟩ := st_at hrd (show resW.length = 13 from rfl) hlj
            obtain rfl := Option.some.inj hA
            have e1' : wr.cell? ⟨w.heap.size, j, none⟩ = some (.string x) := by rw [addr_at] at e1; exact e1
            have hst := hasW_step (x := s) hx
            rw [HS.out] at hst
            have HST := Lib.hid hst
            have hj0 : (0 : Int) ≤ (j : Int) := Int.natCast_nonneg _
            have hj1 : (j : Int) < 13 := by omega
            clear e1 hx hA hst
            by_cases hxy : s = x
            · subst hxy
              have hf : q = false := by rw [← HQ2.out, HST.out]; simp
              subst hf
              go_wp2_with fail
              go_ret
              exact ⟨rfl, hb⟩
            · have hne := str_ne hxy
              go_wp2_with fail
              go_roundw
              case rel => exact ⟨j + 1, by omega, by go_num, by rw [HST.out, decide_eq_false hxy]; rfl, hrd, hb⟩
              case measure => simp [intOf]; omega
          · obtain rfl : j = 13 := by omega
            have hno : hasW resW s = false := by rw [← HS.out]; rfl
            obtain ⟨u, hu⟩ : ∃ u, inB s.size 1 8 = u := ⟨_, rfl⟩
            have HU := Lib.hid hu
            have hqu : q = u := by rw [← HQ2.out, hno, hu]; simp
            subst hqu
            clear hno hu
            go_wp2_with fail
            refine (l1In_is q _ _ _ _ HU.out).mono ?_
            rintro e w' ⟨rfl, rfl⟩
            go_wp2_with fail
            go_ret
            exact ⟨rfl, hb⟩
end Go.Proofs.YtijpdekcdejfmaaDoor
