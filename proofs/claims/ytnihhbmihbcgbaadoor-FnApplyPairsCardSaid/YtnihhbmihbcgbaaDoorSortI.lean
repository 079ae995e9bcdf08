/- impl.PairsSort. -/
import Derived.Test.YtnihhbmihbcgbaaDoorSort
import Derived.Laws.BitsAllLaws
import Derived.Laws.BitsLemmas
namespace Go.Proofs.YtnihhbmihbcgbaaDoor
open Go Go.RowKit
set_option maxRecDepth 100000

theorem bt_i64 (a : Nat) (ha : a < 9223372036854775808) : (BitVec.ofInt 64 (a : Int)).toNat = a := by
  rw [BitVec.ofInt_natCast, BitVec.toNat_ofNat]; exact Nat.mod_eq_of_lt (by omega)
theorem i64_andN (a b : Nat) (ha : a < 9223372036854775808) (hb : b < 9223372036854775808) : bits .and .i64 (a : Int) (b : Int) = ((a &&& b : Nat) : Int) := by
  have hx : a &&& b < 2 ^ 63 := Nat.and_lt_two_pow _ (by omega)
  show IntKind.i64.wrap ((BitVec.ofInt 64 (a : Int) &&& BitVec.ofInt 64 (b : Int)).toNat : Int) = _
  rw [BitVec.toNat_and, bt_i64 a ha, bt_i64 b hb, IntKind.wrap_i64]
  omega
theorem i64_orN (a b : Nat) (ha : a < 9223372036854775808) (hb : b < 9223372036854775808) : bits .or .i64 (a : Int) (b : Int) = ((a ||| b : Nat) : Int) := by
  have hx : a ||| b < 2 ^ 63 := Nat.or_lt_two_pow (by omega) (by omega)
  show IntKind.i64.wrap ((BitVec.ofInt 64 (a : Int) ||| BitVec.ofInt 64 (b : Int)).toNat : Int) = _
  rw [BitVec.toNat_or, bt_i64 a ha, bt_i64 b hb, IntKind.wrap_i64]
  omega
theorem i64_xorN (a b : Nat) (ha : a < 9223372036854775808) (hb : b < 9223372036854775808) : bits .xor .i64 (a : Int) (b : Int) = ((a ^^^ b : Nat) : Int) := by
  have hx : a ^^^ b < 2 ^ 63 := Nat.xor_lt_two_pow (by omega) (by omega)
  show IntKind.i64.wrap ((BitVec.ofInt 64 (a : Int) ^^^ BitVec.ofInt 64 (b : Int)).toNat : Int) = _
  rw [BitVec.toNat_xor, bt_i64 a ha, bt_i64 b hb, IntKind.wrap_i64]
  omega
theorem i64_and1 (a : Nat) (ha : a < 9223372036854775808) : bits .and .i64 (a : Int) 1 = ((a % 2 : Nat) : Int) := by
  have := i64_andN a 1 ha (by omega)
  rw [Nat.and_one_is_mod] at this
  exact this

def setS (s a b : Nat) : Nat := if s / 2 ^ a % 2 = 1 ∧ s / 2 ^ b % 2 = 0 then s ^^^ (2 ^ a ||| 2 ^ b) else s
theorem setS_lt {m s a b : Nat} (hab : a < b) (hb : b < m) (hs : s < 2 ^ m) : setS s a b < 2 ^ m := by
  unfold setS
  split
  · refine Nat.xor_lt_two_pow hs (Nat.or_lt_two_pow ?_ ?_) <;> exact Nat.pow_lt_pow_right (by omega) (by omega)
  · exact hs
theorem bitsOf_get (m s k : Nat) (hk : k < m) : (bitsOf m s)[k]? = some (((s / 2 ^ k % 2 : Nat) : Int)) := by
  simp [bitsOf, List.getElem?_range, hk]
theorem setS_bits {m s a b : Nat} (hab : a < b) (hb : b < m) : applyS (bitsOf m s) ((a : Int), (b : Int)) = bitsOf m (setS s a b) := by
  rw [applyS_at (bitsOf_get m s a (by omega)) (bitsOf_get m s b hb)]
  have h1 := Nat.mod_two_eq_zero_or_one (s / 2 ^ a)
  have h2 := Nat.mod_two_eq_zero_or_one (s / 2 ^ b)
  unfold setS
  by_cases hc : s / 2 ^ a % 2 = 1 ∧ s / 2 ^ b % 2 = 0
  · rw [if_pos hc, if_pos (by omega)]
    refine List.ext_getElem? fun k => ?_
    by_cases hk : k < m
    · rw [bitsOf_get _ _ _ hk, List.getElem?_set, List.getElem?_set, List.length_set, bitsOf_length, bitsOf_get _ _ _ hk]
      have e : (s ^^^ (2 ^ a ||| 2 ^ b)) / 2 ^ k % 2 = (s.testBit k ^^ (decide (a = k) || decide (b = k))).toNat := by
        rw [← Nat.toNat_testBit, Nat.testBit_xor, Nat.testBit_or, Nat.testBit_two_pow, Nat.testBit_two_pow]
      rw [e]
      have e2 := Nat.toNat_testBit s k
      by_cases hbk : b = k
      · subst hbk
        rw [hc.2] at e2
        have e3 : s.testBit b = false := by cases h : s.testBit b <;> simp_all
        simp [hb, e3, hc.1]
      · by_cases hak : a = k
        · subst hak
          rw [hc.1] at e2
          have e3 : s.testBit a = true := by cases h : s.testBit a <;> simp_all
          simp [hbk, hk, e3, hc.2]
        · simp only [hbk, hak, if_false, decide_false, Bool.or_false, Bool.xor_false, e2]
    · rw [List.getElem?_eq_none (by simp [bitsOf_length]; omega), List.getElem?_eq_none (by simp [bitsOf_length]; omega)]
  · rw [if_neg hc, if_neg (by omega)]

def onesOf (s : Nat) : Nat → Nat
  | 0 => 0
  | k + 1 => onesOf s k + s / 2 ^ k % 2
theorem onesOf_le (s k : Nat) : onesOf s k ≤ k := by
  induction k with
  | zero => simp [onesOf]
  | succ k ih => have := Nat.mod_lt (s / 2 ^ k) (show 0 < 2 by omega); simp only [onesOf]; omega
def sortNum (m s : Nat) : Nat := (2 ^ onesOf s m - 1) * 2 ^ (m - onesOf s m)
set_option maxRecDepth 100000 in
theorem sortNum_all : ((List.range 11).all fun m => (List.range (2 ^ m)).all fun s => sortedB (bitsOf m s) == (s == sortNum m s)) = true := by decide +kernel
theorem sortNum_is {m s : Nat} (hm : m ≤ 10) (hs : s < 2 ^ m) : sortedB (bitsOf m s) = (s == sortNum m s) := by
  have h := List.all_eq_true.1 (List.all_eq_true.1 sortNum_all m (List.mem_range.mpr (by omega))) s (List.mem_range.mpr hs)
  simpa using h

set_option maxHeartbeats 1000000 in
theorem implSort_yes (q : Bool) (A : Option Addr) (n c : Nat) (xs : List (Int × Int)) (m : Nat) (w : World) (hxn : xs.length = n) (hx : Reads w w.heap.size 2 A n (prCells xs)) (hr : ∀ x ∈ xs, i64ok x.1 ∧ i64ok x.2) (hn : n ≤ 10000) (hm : m ≤ 10)
    (hfit : fitB m xs = true) (hq : sortsB m xs = q) :
    Calls Tryd.prog 30 #[.int .i64 m, .slice A n c] w fun e w' => e = .returned (.bool q) ∧ Below w.heap.size w w' := by
  have HX := Lib.hid hxn
  have HF := Lib.hid hfit
  have HQ := Lib.hid hq
  have HP := Lib.hid (show (fitB m xs && decide (n ≤ 10000)) = true by rw [hfit]; simpa using hn)
  have HI := Lib.hid (inB_mk (n := (m : Int)) (lo := 0) (hi := 10) ⟨by omega, by omega⟩)
  clear hxn hfit hr hq
  go_enter Tryd.func30, Tryd.ntmps30
  go_wp2_with fail
  refine (in_is true _ _ _ _ HI.out).mono ?_
  rintro e w' ⟨rfl, rfl⟩
  go_wp2_with fail
  refine (pairsFit_any true A n c xs m _ HX.out hx (by omega) (by omega) (by omega) HP.out).mono ?_
  rintro e w0 ⟨rfl, hb0⟩
  go_wp2_with fail
  obtain ⟨M, hM⟩ : ∃ M, 2 ^ m = M := ⟨_, rfl⟩
  have hMb : M ≤ 1024 ∧ 0 < M := by
    have h1 : 2 ^ m ≤ 2 ^ 10 := Nat.pow_le_pow_right (by omega) hm
    have h0 : 0 < 2 ^ m := Nat.pos_of_ne_zero (by simp)
    omega
  have hpow : wrap64 ((2 : Int) ^ m) = (M : Int) := by
    have e : (2 : Int) ^ m = (M : Int) := by rw [← hM]; simp
    rw [e]
    exact IntWalk.wrap64_in _ ⟨by omega, by omega⟩
  have HM := Lib.hid hM
  clear hM
  have hmin : min m 64 = m := by omega
  go_loopw [5, 7, 8, 9, 21, 26, 55] (fun _ _ _ _ sv _ _ wr => ∃ s : Nat, s ≤ M ∧ sv = .int .i64 s ∧ ((List.range s).all fun s => sortedB (applyL xs (bitsOf m s))) = true ∧ Below w.heap.size w wr) (fun _ _ _ _ sv _ _ _ => M - (intOf sv).toNat)
  case atStart => exact ⟨0, Nat.zero_le _, rfl, rfl, hb0⟩
  case round =>
    obtain ⟨s, hs, rfl, hall, hb⟩ := hrel
    have HA := Lib.hid hall
    clear hall
    by_cases hlt : s < M
    · obtain ⟨wo, rfl⟩ : ∃ wo : World, wo = wr := ⟨_, rfl⟩
      go_wp2_with fail
      clear hpow hmin
      have hx2 := ((hx.belowW (Nat.le_refl _) hb).more hb.size)
      go_loopw [5, 26] (fun v kv wr => ∃ k t : Nat, k ≤ n ∧ kv = .int .i64 k ∧ v = .int .i64 t ∧ t < M ∧ bitsOf m t = applyL (xs.take k) (bitsOf m s) ∧ Below w.heap.size w wr) (fun _ kv _ => n - (intOf kv).toNat)
      case atStart => exact ⟨0, s, Nat.zero_le _, rfl, rfl, hlt, by simp [applyL], hb⟩
      case round =>
        obtain ⟨k, t, hk, rfl, rfl, ht, hbits, hbb⟩ := hrel
        by_cases hltk : k < n
        · obtain ⟨ad, x1, x2, rfl, hadb, hxk, e1, e2⟩ := pr_at (hx.belowW (Nat.le_refl _) hbb) HX.out hltk
          obtain ⟨a, b, la, lb, rfl, rfl, hab, hbm, hla, hlb⟩ := fit_at HF.out hxk (bitsOf_length m t)
          have hst := applyL_succ xs (bitsOf m s) k _ hxk
          rw [← hbits, setS_bits hab hbm] at hst
          have hlt2 := setS_lt hab hbm (HM.out ▸ ht)
          obtain ⟨ta, hta⟩ : ∃ ta, t / 2 ^ a = ta := ⟨_, rfl⟩
          obtain ⟨tb, htb⟩ : ∃ tb, t / 2 ^ b = tb := ⟨_, rfl⟩
          have hta1 : ta ≤ 1024 := by rw [← hta]; exact Nat.le_trans (Nat.div_le_self _ _) (by omega)
          have htb1 : tb ≤ 1024 := by rw [← htb]; exact Nat.le_trans (Nat.div_le_self _ _) (by omega)
          have hda : (t : Int) / 2 ^ a = (ta : Int) := by rw [← hta]; simp
          have hdb : (t : Int) / 2 ^ b = (tb : Int) := by rw [← htb]; simp
          have ha1 := i64_and1 ta (by omega)
          have hb1 := i64_and1 tb (by omega)
          have hma : min a 64 = a := by omega
          have hmb : min b 64 = b := by omega
          have hk0 : (0 : Int) ≤ (k : Int) := Int.natCast_nonneg _
          have hk1 : (k : Int) < (n : Int) := by omega
          have m1 := Nat.mod_two_eq_zero_or_one ta
          have m2 := Nat.mod_two_eq_zero_or_one tb
          have HS := Lib.hid (And.intro hst hlt2)
          have HT := Lib.hid (And.intro hta htb)
          clear hst hlt2 hta htb hbits hxk hla hlb hx2
          by_cases hc1 : ta % 2 = 1
          · rw [hc1] at ha1
            by_cases hc2 : tb % 2 = 0
            · rw [hc2] at hb1
              have hpa1 : 2 ^ a ≤ 1024 := Nat.le_trans (Nat.pow_le_pow_right (by omega) (show a ≤ 10 by omega)) (by decide)
              have hpb1 : 2 ^ b ≤ 1024 := Nat.le_trans (Nat.pow_le_pow_right (by omega) (show b ≤ 10 by omega)) (by decide)
              obtain ⟨PA, hPA⟩ : ∃ PA, 2 ^ a = PA := ⟨_, rfl⟩
              obtain ⟨PB, hPB⟩ : ∃ PB, 2 ^ b = PB := ⟨_, rfl⟩
              have hor : bits .or .i64 (PA : Int) (PB : Int) = ((PA ||| PB : Nat) : Int) := i64_orN PA PB (by omega) (by omega)
              have hpo1 : PA ||| PB < 2 ^ 11 := Nat.or_lt_two_pow (by omega) (by omega)
              have hxor : bits .xor .i64 (t : Int) ((PA ||| PB : Nat) : Int) = ((t ^^^ (PA ||| PB) : Nat) : Int) := i64_xorN t _ (by omega) (by omega)
              have hstep : setS t a b = t ^^^ (PA ||| PB) := by
                unfold setS
                rw [HT.out.1, HT.out.2, if_pos ⟨hc1, hc2⟩, hPA, hPB]
              rw [hstep] at HS
              obtain ⟨t', ht'⟩ : ∃ t', t ^^^ (PA ||| PB) = t' := ⟨_, rfl⟩
              rw [ht'] at HS hxor
              obtain ⟨PO, hPO⟩ : ∃ PO, PA ||| PB = PO := ⟨_, rfl⟩
              rw [hPO] at hxor hor
              have e1 : wrap64 ((2 : Int) ^ a) = (PA : Int) := by
                rw [show (2 : Int) ^ a = (PA : Int) by rw [← hPA]; simp]; exact IntWalk.wrap64_in _ ⟨by omega, by omega⟩
              have e2 : wrap64 ((2 : Int) ^ b) = (PB : Int) := by
                rw [show (2 : Int) ^ b = (PB : Int) by rw [← hPB]; simp]; exact IntWalk.wrap64_in _ ⟨by omega, by omega⟩
              clear hPA hPB hstep ht' hPO hpo1 hpa1 hpb1
              go_wp2_with fail
              go_quiet (fail)
              go_wp2_with fail
              go_roundw
              case rel => exact ⟨k + 1, t', by omega, by go_num, rfl, HM.out ▸ HS.out.2, HS.out.1.symm, below_drewN (hbb.alloc hbb.size _) _⟩
              case measure => simp [intOf]; omega
            · have hc2' : tb % 2 = 1 := by omega
              rw [hc2'] at hb1
              have hstep : setS t a b = t := by
                unfold setS
                rw [HT.out.1, HT.out.2, if_neg (by omega)]
              rw [hstep] at HS
              clear hstep
              go_wp2_with fail
              go_roundw
              case rel => exact ⟨k + 1, t, by omega, by go_num, rfl, HM.out ▸ HS.out.2, HS.out.1.symm, hbb.alloc hbb.size _⟩
              case measure => simp [intOf]; omega
          · have hc1' : ta % 2 = 0 := by omega
            rw [hc1'] at ha1
            have hstep : setS t a b = t := by
              unfold setS
              rw [HT.out.1, HT.out.2, if_neg (by omega)]
            rw [hstep] at HS
            clear hstep hb1
            go_wp2_with fail
            go_roundw
            case rel => exact ⟨k + 1, t, by omega, by go_num, rfl, HM.out ▸ HS.out.2, HS.out.1.symm, hbb.alloc hbb.size _⟩
            case measure => simp [intOf]; omega
        · obtain rfl : k = n := by omega
          obtain ⟨w2, rfl⟩ : ∃ w2 : World, w2 = wr := ⟨_, rfl⟩
          have HB := Lib.hid hbits
          clear hbits
          go_wp2_with fail
          go_loopw [8, 55] (fun v jv wr => ∃ j : Nat, j ≤ m ∧ jv = .int .i64 j ∧ v = .int .i64 (onesOf t j) ∧ wr = w2) (fun _ jv _ => m - (intOf jv).toNat)
          case atStart => exact ⟨0, Nat.zero_le _, rfl, rfl, rfl⟩
          case round =>
            obtain ⟨j, hj, rfl, rfl, rfl⟩ := hrel
            by_cases hlj : j < m
            · obtain ⟨tj, htj⟩ : ∃ tj, t / 2 ^ j = tj := ⟨_, rfl⟩
              have htj1 : tj ≤ 1024 := by rw [← htj]; exact Nat.le_trans (Nat.div_le_self _ _) (by omega)
              have hdj : (t : Int) / 2 ^ j = (tj : Int) := by rw [← htj]; simp
              have hj1 := i64_and1 tj (by omega)
              have hmj : min j 64 = j := by omega
              have ho := onesOf_le t j
              obtain ⟨o, hO⟩ : ∃ o, onesOf t j = o := ⟨_, rfl⟩
              have hO2 : onesOf t (j + 1) = o + tj % 2 := by rw [← hO, ← htj]; rfl
              rw [hO] at ho ⊢
              have HO := Lib.hid hO2
              clear hO hO2 htj
              go_wp2_with fail
              go_roundw
              case rel => exact ⟨j + 1, by omega, by go_num, by rw [HO.out]; go_num, trivial⟩
              case measure => simp [intOf]; omega
            · obtain rfl : j = m := by omega
              have ho := onesOf_le t j
              have hsn := sortNum_is hm (HM.out ▸ ht)
              unfold sortNum at hsn
              obtain ⟨o, hO⟩ : ∃ o, onesOf t j = o := ⟨_, rfl⟩
              rw [hO] at ho hsn ⊢
              obtain ⟨r, rfl⟩ : ∃ r, j = o + r := ⟨j - o, by omega⟩
              rw [show o + r - o = r by omega] at hsn
              have hto : 2 ^ o ≤ 1024 := Nat.le_trans (Nat.pow_le_pow_right (by omega) (show o ≤ 10 by omega)) (by decide)
              have hmm : 2 ^ o * 2 ^ r ≤ 1024 := by rw [← Nat.pow_add, HM.out]; omega
              have hto1 : 0 < 2 ^ o := Nat.pos_of_ne_zero (by simp)
              obtain ⟨V, hV⟩ : ∃ V, (2 ^ o - 1) * 2 ^ r = V := ⟨_, rfl⟩
              have hV1 : V ≤ 1024 := by rw [← hV]; exact Nat.le_trans (Nat.mul_le_mul_right _ (Nat.sub_le _ _)) hmm
              have hVi : wrap64 (wrap64 (wrap64 ((2 : Int) ^ o) - 1) * (2 : Int) ^ r) = (V : Int) := by
                rw [show (2 : Int) ^ o = ((2 ^ o : Nat) : Int) by simp, IntWalk.wrap64_in ((2 ^ o : Nat) : Int) ⟨by omega, by omega⟩, IntWalk.wrap64_in (((2 ^ o : Nat) : Int) - 1) ⟨by omega, by omega⟩,
                  show ((2 ^ o : Nat) : Int) - 1 = ((2 ^ o - 1 : Nat) : Int) by omega, show (2 : Int) ^ r = ((2 ^ r : Nat) : Int) by simp, ← Int.natCast_mul, hV]
                exact IntWalk.wrap64_in (V : Int) ⟨by omega, by omega⟩
              rw [hV] at hsn
              have HN := Lib.hid hsn
              have HB2 := Lib.hid (show bitsOf (o + r) t = applyL xs (bitsOf (o + r) s) by rw [HB.out, List.take_of_length_le (by have := HX.out; omega)])
              clear hV hmm hto hto1 hsn hO
              by_cases htv : t = V
              · have hcmp : ((t : Int) != wrap64 (wrap64 (wrap64 ((2 : Int) ^ o) - 1) * (2 : Int) ^ r)) = false := by rw [hVi, htv]; simp
                clear hVi
                go_wp2_with fail
                go_roundw
                case rel =>
                  refine ⟨s + 1, by omega, by go_num, ?_, hbb⟩
                  rw [List.range_succ, List.all_append, HA.out]
                  simp only [List.all_cons, List.all_nil, Bool.and_true, Bool.true_and]
                  rw [← HB2.out, HN.out, htv]
                  simp
                case measure => simp [intOf]; omega
              · have hcmp : ((t : Int) != wrap64 (wrap64 (wrap64 ((2 : Int) ^ o) - 1) * (2 : Int) ^ r)) = true := by rw [hVi]; simp; omega
                clear hVi
                go_wp2_with fail
                go_ret
                refine ⟨?_, hbb⟩
                have g1 : sortsB (o + r) xs = false := by
                  refine sortsB_false (s := s) (by rw [HM.out]; exact hlt) ?_
                  rw [← HB2.out, HN.out]
                  simpa using htv
                rw [← HQ.out, g1]
                rfl
    · obtain rfl : s = M := by omega
      have hsn : ((s : Int) < (s : Int)) = False := by simp
      go_wp2_with fail
      go_ret
      refine ⟨?_, hb⟩
      have g : sortsB m xs = true := by unfold sortsB; rw [HM.out]; exact HA.out
      rw [← HQ.out, g]
      rfl

set_option maxHeartbeats 400000 in
theorem implSort_any (q : Bool) (A : Option Addr) (n c : Nat) (xs : List (Int × Int)) (many : Int) (w : World) (hxn : xs.length = n) (hx : Reads w w.heap.size 2 A n (prCells xs)) (hn : n ≤ 9223372036854775807) (hrr : ∀ x ∈ xs, i64ok x.1 ∧ i64ok x.2) (hq : sortOf many xs = q) :
    Calls Tryd.prog 30 #[.int .i64 many, .slice A n c] w fun e w' => e = .returned (.bool q) ∧ Below w.heap.size w w' := by
  cases hd : sortB many xs
  · obtain rfl : q = false := by rw [← hq]; simp [sortOf, hd]
    have HX := Lib.hid hxn
    clear hq
    cases h1 : inB many 0 10
    · have H1 := Lib.hid h1
      clear h1 hd hxn
      go_enter Tryd.func30, Tryd.ntmps30
      go_wp2_with fail
      refine (in_is false _ _ _ _ H1.out).mono ?_
      rintro e w' ⟨rfl, rfl⟩
      go_wp2_with fail
      go_ret
      exact ⟨rfl, Below.refl _ _⟩
    · have hm := inB_true h1
      have h2 : (fitB many xs && decide (n ≤ 10000)) = false := by simpa [sortB, h1, hxn] using hd
      have H1 := Lib.hid h1
      have H2 := Lib.hid h2
      clear h1 hd hxn h2
      go_enter Tryd.func30, Tryd.ntmps30
      go_wp2_with fail
      refine (in_is true _ _ _ _ H1.out).mono ?_
      rintro e w' ⟨rfl, rfl⟩
      go_wp2_with fail
      refine (pairsFit_any false A n c xs many _ HX.out hx (by omega) (by omega) hn H2.out).mono ?_
      rintro e w0 ⟨rfl, hb0⟩
      go_wp2_with fail
      go_ret
      exact ⟨rfl, hb0⟩
  · have h := hd
    simp [sortB] at h
    have hm := inB_true h.1
    obtain ⟨m, rfl⟩ := Int.eq_ofNat_of_zero_le hm.1
    exact implSort_yes q A n c xs m w hxn hx hrr (by omega) (by omega) h.2.1 (by rw [← hq]; simp [sortOf, hd])
end Go.Proofs.YtnihhbmihbcgbaaDoor
