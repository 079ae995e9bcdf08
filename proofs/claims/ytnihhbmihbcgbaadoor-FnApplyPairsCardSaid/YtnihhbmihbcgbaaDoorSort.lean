/- spec.PairsSort, impl.PairsSort. -/
import Derived.Test.YtnihhbmihbcgbaaDoorApply
import Derived.Laws.BitsAllLaws
import Derived.Laws.BitsLemmas
namespace Go.Proofs.YtnihhbmihbcgbaaDoor
open Go Go.RowKit
set_option maxRecDepth 100000

def bitsOf (m s : Nat) : List Int := (List.range m).map fun (k : Nat) => ((s / 2 ^ k % 2 : Nat) : Int)
theorem bitsOf_succ (m s : Nat) : bitsOf (m + 1) s = bitsOf m s ++ [((s / 2 ^ m % 2 : Nat) : Int)] := by simp [bitsOf, List.range_succ]
theorem bitsOf_length (m s : Nat) : (bitsOf m s).length = m := by simp [bitsOf]
def sortedB (L : List Int) : Bool := (List.range L.length).all fun k => k == 0 || decide (L.getD (k - 1) 0 ≤ L.getD k 0)
def sortsB (m : Nat) (xs : List (Int × Int)) : Bool := (List.range (2 ^ m)).all fun s => sortedB (applyL xs (bitsOf m s))

theorem sortsB_false {m s : Nat} {xs : List (Int × Int)} (hs : s < 2 ^ m) (h : sortedB (applyL xs (bitsOf m s)) = false) : sortsB m xs = false := by
  unfold sortsB
  rw [List.all_eq_false]
  exact ⟨s, List.mem_range.mpr hs, by rw [h]; simp⟩
theorem sortedB_false {Y : List Int} {j : Nat} (hj : j + 1 < Y.length) (h : Y.getD (j + 1) 0 < Y.getD j 0) : sortedB Y = false := by
  unfold sortedB
  rw [List.all_eq_false]
  refine ⟨j + 1, List.mem_range.mpr hj, ?_⟩
  rw [Nat.add_sub_cancel, show decide (Y.getD j 0 ≤ Y.getD (j + 1) 0) = false from decide_eq_false (by omega)]
  simp
set_option maxHeartbeats 1000000 in
theorem specSort_yes (q : Bool) (A : Option Addr) (n c : Nat) (xs : List (Int × Int)) (m : Nat) (w : World) (hxn : xs.length = n) (hx : Reads w w.heap.size 2 A n (prCells xs)) (hr : ∀ x ∈ xs, i64ok x.1 ∧ i64ok x.2) (hn : n ≤ 10000) (hm : m ≤ 10)
    (hfit : fitB m xs = true) (hq : sortsB m xs = q) :
    Calls Tryd.prog 32 #[.int .i64 m, .slice A n c] w fun e w' => e = .returned (.bool q) ∧ Below w.heap.size w w' := by
  obtain ⟨i0, hi0, hz0, hz1, hz2⟩ := info_parts infoInt
  have HX := Lib.hid hxn
  have HR := Lib.hid hr
  have HF := Lib.hid hfit
  have HQ := Lib.hid hq
  have HP := Lib.hid (show (inB (m : Int) 0 256 && (fitB m xs && decide (n ≤ 10000))) = true by rw [hfit, inB_mk (n := (m : Int)) (lo := 0) (hi := 256) ⟨by omega, by omega⟩]; simpa using hn)
  clear hxn hfit hr hq
  go_enter Tryd.func32, Tryd.ntmps32
  go_wp2_with fail
  refine (l9Good_any true A n c xs m _ HX.out hx (by unfold i64ok; omega) HR.out (by omega) HP.out).mono ?_
  rintro e w0 ⟨rfl, hb0⟩
  have hm0 : ((10 : Int) < (m : Int)) = False := by simp; omega
  go_wp2_with fail
  obtain ⟨M, hM⟩ : ∃ M, 2 ^ m = M := ⟨_, rfl⟩
  have hMb : M ≤ 1024 ∧ 0 < M := by
    have h1 : 2 ^ m ≤ 2 ^ 10 := Nat.pow_le_pow_right (by omega) hm
    have h0 : 0 < 2 ^ m := Nat.pos_of_ne_zero (by simp)
    omega
  have hpow : wrap64 ((2 : Int) ^ m) = (M : Int) := by
    have e : (2 : Int) ^ m = (M : Int) := by rw [← hM]; simp
    rw [e]
    exact IntWalk.wrap64_in _ ⟨by omega, by omega⟩
  have HM := Lib.hid hM
  clear hM
  have hmin : min m 64 = m := by omega
  go_loopw [5, 6, 7, 8, 9] (fun sv _ _ _ _ wr => ∃ s : Nat, s ≤ M ∧ sv = .int .i64 s ∧ ((List.range s).all fun s => sortedB (applyL xs (bitsOf m s))) = true ∧ Below w.heap.size w wr) (fun sv _ _ _ _ _ => M - (intOf sv).toNat)
  case atStart => exact ⟨0, Nat.zero_le _, rfl, rfl, hb0⟩
  case round =>
    obtain ⟨s, hs, rfl, hall, hb⟩ := hrel
    have HA := Lib.hid hall
    clear hall
    by_cases hlt : s < M
    · obtain ⟨wo, rfl⟩ : ∃ wo : World, wo = wr := ⟨_, rfl⟩
      go_wp2_with fail
      clear hpow hmin
      go_loopw [6, 7] (fun v kv wr => ∃ k : Nat, k ≤ m ∧ kv = .int .i64 k ∧ wr.ownsRow w.heap.size 3 1 v k (inCells (bitsOf k s)) ∧ Below w.heap.size w wr) (fun _ kv _ => m - (intOf kv).toNat)
      case atStart => exact ⟨0, Nat.zero_le _, rfl, World.ownsRow_made wo #[] 0 hb.size (by unfold maxLen; omega) rfl, hb.alloc hb.size _⟩
      case round =>
        clear hb
        obtain ⟨k, hk, rfl, hown, hb⟩ := hrel
        have hbs := hb.size
        obtain ⟨w2, rfl⟩ : ∃ w2 : World, w2 = wr := ⟨_, rfl⟩
        by_cases hltk : k < m
        · obtain ⟨t, ht⟩ : ∃ t : Nat, s / 2 ^ k = t := ⟨_, rfl⟩
          have htb : t ≤ 1024 := by rw [← ht]; exact Nat.le_trans (Nat.div_le_self _ _) (by omega)
          have hd : (s : Int) / 2 ^ k = (t : Int) := by rw [← ht]; simp
          have hmink : min k 64 = k := by omega
          have HT := Lib.hid ht
          clear ht
          go_wp2_with (first
            | (at_builtin; refine wpList_append_own _ rfl _ _ 41 rfl w.heap.size 3 i0 _ 1 8 Tryd.underlying41 hi0 hz0 hz1 hz2 rfl (by decide) _ _ _ rfl (hown.alloc _) ⟨w2.heap.size, 0, none⟩ 1 1 [.int .i64 ((t : Int) % 2)] rfl rfl (cells_new _ _ _) (oneCells rfl) (by unfold maxLen; omega) (by omega) (by simp; omega) ?_; intro v' w1 hown' hgrow _; have P := Lib.hid (And.intro hown' (below_append hb hown hgrow (Nat.le_refl _))); clear hown' hgrow))
          go_roundw
          case rel =>
            refine ⟨k + 1, by omega, by go_num, ?_, P.out.2⟩
            rw [bitsOf_succ, inCells_append, HT.out]
            have := P.out.1
            simpa [inCells] using this
          case measure => simp [intOf]; omega
        · obtain rfl : k = m := by omega
          obtain ⟨A6, c6, rfl, _, _⟩ := own_form hown
          have hx2 := ((hx.belowW (Nat.le_refl _) hb).more hbs)
          go_wp2_with fail
          refine (l9Apply_any A A6 n k c c6 xs (bitsOf k s) _ HX.out (bitsOf_length _ _) hx2 (Reads.of_own hown) (by omega) (by omega) HF.out).mono ?_
          rintro e w3 ⟨v3, rfl, o3, b3⟩
          obtain ⟨A3, c3, rfl, _, _⟩ := own_form o3
          have B3 := hb.trans (b3.mono hbs)
          have R3 := Reads.of_own o3
          clear hown hx2 o3 b3 hb
          obtain ⟨Y, hY⟩ : ∃ Y, applyL xs (bitsOf k s) = Y := ⟨_, rfl⟩
          have hYl : Y.length = k := by rw [← hY, applyL_length, bitsOf_length]
          rw [hY] at R3
          have HY := Lib.hid hY
          have HYL := Lib.hid hYl
          clear hY hYl
          go_wp2_with fail
          go_loopw [9] (fun jv wr => ∃ j : Nat, 1 ≤ j ∧ j ≤ k + 1 ∧ jv = .int .i64 j ∧ ((List.range (min j k)).all fun i => i == 0 || decide (Y.getD (i - 1) 0 ≤ Y.getD i 0)) = true ∧ Below w3.heap.size w3 wr) (fun jv _ => k + 1 - (intOf jv).toNat)
          case atStart =>
            refine ⟨1, Nat.le_refl _, by omega, rfl, ?_, Below.refl _ _⟩
            rcases Nat.eq_zero_or_pos k with h | h
            · subst h; rfl
            · have : min 1 k = 1 := by omega
              rw [this]; rfl
          case round =>
            obtain ⟨j, hj1, hjk, rfl, hsofar, hbj⟩ := hrel
            have HSF := Lib.hid hsofar
            clear hsofar
            by_cases hlj : j < k
            · obtain ⟨ad, y1, hA1, _, hy1, e1⟩ := in_at (R3.belowW (Nat.le_refl _) hbj) HYL.out (show j - 1 < k by omega)
              obtain ⟨ad', y2, hA2, _, hy2, e2⟩ := in_at (R3.belowW (Nat.le_refl _) hbj) HYL.out hlj
              subst hA1
              obtain rfl : ad = ad' := Option.some.inj hA2
              obtain ⟨j', rfl⟩ : ∃ j', j = j' + 1 := ⟨j - 1, by omega⟩
              have e1' : wr.cell? (ad.add j') = some (.int .i64 y1) := by simpa using e1
              have g1 : Y.getD j' 0 = y1 := by rw [List.getD_eq_getElem?_getD]; simp at hy1; rw [hy1]; rfl
              have g2 : Y.getD (j' + 1) 0 = y2 := by rw [List.getD_eq_getElem?_getD, hy2]; rfl
              have HG := Lib.hid (And.intro g1 g2)
              clear g1 g2 hy1 hy2 e1 hA2 R3
              have hk0 : (0 : Int) ≤ (j' : Int) := Int.natCast_nonneg _
              have hk1 : (j' : Int) + 1 < (k : Int) := by omega
              have hwj : IntKind.i64.wrap (j' : Int) = (j' : Int) := by
                rw [IntKind.wrap_i64]
                omega
              have hk2 : (j' : Int) < (k : Int) := by omega
              have ht1 : ((j' : Int)).toNat = j' := by omega
              have ht2 : ((j' : Int) + 1).toNat = j' + 1 := by omega
              have hk3 : (0 : Int) ≤ (j' : Int) + 1 := by omega
              have e2' : wr.cell? ⟨ad.block, ad.off + (j' + 1), none⟩ = some (.int .i64 y2) := e2
              by_cases hy : y1 ≤ y2
              · have hy' : (y2 < y1) = False := by simp; omega
                go_wp2_with fail
                go_quiet (fail)
                go_wp2_with fail
                go_roundw
                case rel =>
                  refine ⟨j' + 1 + 1, by omega, by omega, by go_num, ?_, below_drewN hbj nq⟩
                  have e : min (j' + 1 + 1) k = min (j' + 1) k + 1 := by omega
                  have e' : min (j' + 1) k = j' + 1 := by omega
                  rw [e, List.range_succ, List.all_append, HSF.out, e']
                  have := HG.out
                  have g : decide (Y.getD (j' + 1 - 1) 0 ≤ Y.getD (j' + 1) 0) = true := by rw [Nat.add_sub_cancel, this.1, this.2]; simpa using hy
                  simp only [List.all_cons, List.all_nil, Bool.and_true, Bool.true_and, g, Bool.or_true]
                case measure => simp [intOf]; omega
              · have hy' : y2 < y1 := by omega
                go_wp2_with fail
                go_quiet (fail)
                go_wp2_with fail
                go_ret
                refine ⟨?_, B3.trans ((below_drewN hbj _).mono B3.size)⟩
                have g1 : sortsB k xs = false := by
                  refine sortsB_false (s := s) (by rw [HM.out]; exact hlt) ?_
                  rw [HY.out]
                  exact sortedB_false (j := j') (by rw [HYL.out]; exact hlj) (by rw [HG.out.1, HG.out.2]; exact hy')
                rw [← HQ.out, g1]
                rfl
            · have hjj : k ≤ j := by omega
              have hjn : ((j : Int) < (k : Int)) = False := by simp; omega
              go_wp2_with fail
              go_roundw
              case rel =>
                refine ⟨s + 1, by omega, by go_num, ?_, B3.trans (hbj.mono B3.size)⟩
                rw [List.range_succ, List.all_append, HA.out]
                have g := HSF.out
                rw [show min j k = k by omega, ← HYL.out] at g
                simp only [List.all_cons, List.all_nil, Bool.and_true, Bool.true_and]
                rw [HY.out]
                exact g
              case measure => simp [intOf]; omega
    · obtain rfl : s = M := by omega
      have hsn : ((s : Int) < (s : Int)) = False := by simp
      go_wp2_with fail
      go_ret
      refine ⟨?_, hb⟩
      have g : sortsB m xs = true := by unfold sortsB; rw [HM.out]; exact HA.out
      rw [← HQ.out, g]
      rfl

def sortB (many : Int) (xs : List (Int × Int)) : Bool := inB many 0 10 && (fitB many xs && decide (xs.length ≤ 10000))
def sortOf (many : Int) (xs : List (Int × Int)) : Bool := sortB many xs && sortsB many.toNat xs

set_option maxHeartbeats 400000 in
theorem specSort_any (q : Bool) (A : Option Addr) (n c : Nat) (xs : List (Int × Int)) (many : Int) (w : World) (hxn : xs.length = n) (hx : Reads w w.heap.size 2 A n (prCells xs)) (hn : n ≤ 9223372036854775807) (hmi : i64ok many) (hrr : ∀ x ∈ xs, i64ok x.1 ∧ i64ok x.2) (hq : sortOf many xs = q) :
    Calls Tryd.prog 32 #[.int .i64 many, .slice A n c] w fun e w' => e = .returned (.bool q) ∧ Below w.heap.size w w' := by
  cases hd : sortB many xs
  · obtain rfl : q = false := by rw [← hq]; simp [sortOf, hd]
    have HX := Lib.hid hxn
    clear hq
    cases h2 : (inB many 0 256 && (fitB many xs && decide (n ≤ 10000)))
    · have H2 := Lib.hid h2
      clear hd hxn h2
      go_enter Tryd.func32, Tryd.ntmps32
      go_wp2_with fail
      refine (l9Good_any false A n c xs many _ HX.out hx hmi hrr hn H2.out).mono ?_
      rintro e w0 ⟨rfl, hb0⟩
      go_wp2_with fail
      go_ret
      exact ⟨rfl, hb0⟩
    · have H2 := Lib.hid h2
      have h3 := h2
      rw [Bool.and_eq_true] at h3
      have hm0 : (10 : Int) < many := by
        have h4 := inB_true h3.1
        by_cases hc : many ≤ 10
        · have : sortB many xs = true := by
            unfold sortB
            rw [hxn, h3.2, inB_mk (n := many) (lo := 0) (hi := 10) ⟨h4.1, hc⟩]
            rfl
          rw [this] at hd; exact absurd hd (by simp)
        · omega
      clear hd hxn h2 h3
      go_enter Tryd.func32, Tryd.ntmps32
      go_wp2_with fail
      refine (l9Good_any true A n c xs many _ HX.out hx hmi hrr hn H2.out).mono ?_
      rintro e w0 ⟨rfl, hb0⟩
      go_wp2_with fail
      go_ret
      exact ⟨rfl, hb0⟩
  · have h := hd
    simp [sortB] at h
    have hm := inB_true h.1
    obtain ⟨m, rfl⟩ := Int.eq_ofNat_of_zero_le hm.1
    exact specSort_yes q A n c xs m w hxn hx hrr (by omega) (by omega) h.2.1 (by rw [← hq]; simp [sortOf, hd])
end Go.Proofs.YtnihhbmihbcgbaaDoor
