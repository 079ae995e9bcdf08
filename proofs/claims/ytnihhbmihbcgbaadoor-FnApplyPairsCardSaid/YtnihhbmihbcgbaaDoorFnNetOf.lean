/- laws.FnNetworkOf: the walk. -/
import Derived.Test.YtnihhbmihbcgbaaDoorFnRounds
import Derived.Test.YtnihhbmihbcgbaaDoorSortI
namespace Go.Proofs.YtnihhbmihbcgbaaDoor
open Go Go.RowKit
set_option maxRecDepth 100000

theorem sortedB_of {Y : List Int} (h : Y.Pairwise (· ≤ ·)) : sortedB Y = true := by
  unfold sortedB
  rw [List.all_eq_true]
  intro k hk
  have hk' := List.mem_range.1 hk
  by_cases h0 : k = 0
  · subst h0; rfl
  · have h1 := List.pairwise_iff_getElem.1 h (k - 1) k (by omega) hk' (by omega)
    rw [List.getD_eq_getElem?_getD, List.getD_eq_getElem?_getD, List.getElem?_eq_getElem hk', List.getElem?_eq_getElem (show k - 1 < Y.length by omega)]
    simpa [h0] using h1
theorem netOf_nat {M : Nat} (h : M ≤ 256) : netOf (M : Int) = netL M := by
  unfold netOf
  rw [if_pos (inB_mk ⟨by omega, by omega⟩)]
  simp
theorem sortOf_net {M : Nat} (h : M ≤ 10) : sortOf (M : Int) (netOf (M : Int)) = true := by
  rw [netOf_nat (by omega)]
  unfold sortOf sortB sortsB
  rw [inB_mk ⟨by omega, by omega⟩, netL_fit]
  have := net_len10 M (by omega)
  simp only [Bool.true_and, Bool.and_eq_true, decide_eq_true_eq, Int.toNat_natCast]
  refine ⟨this, ?_⟩
  rw [List.all_eq_true]
  intro s hs
  exact sortedB_of (net_sorts (by omega) (bitsOf_length M s))
theorem applyOf_net {M : Nat} {N : List Int} (h : M ≤ 256) (hN : N.length = M) : applyOf (netOf (M : Int)) N = applyL (netL M) N := by
  rw [netOf_nat h]
  unfold applyOf
  rw [if_pos]
  unfold applyOk
  rw [hN, netL_fit]
  have := net_len10 M (by omega)
  simp; omega
theorem netOf_pair {M k : Nat} {x : Int × Int} (h : M ≤ 256) (hx : (netOf (M : Int))[k]? = some x) : 0 ≤ x.1 ∧ x.1 < x.2 ∧ x.2 < M := by
  rw [netOf_nat h] at hx
  have h1 := List.all_eq_true.1 (netL_fit M) x (List.mem_of_getElem? hx)
  unfold pairOk at h1
  rw [Bool.and_eq_true] at h1
  have a := inB_true h1.1
  have b := inB_true h1.2
  omega
theorem netOf_i64 {m : Int} : ∀ x ∈ netOf m, i64ok x.1 ∧ i64ok x.2 := by
  intro x hx
  unfold netOf at hx
  split at hx
  · rename_i h
    have hm := inB_true h
    have h1 := List.all_eq_true.1 (netL_fit m.toNat) x hx
    unfold pairOk at h1
    rw [Bool.and_eq_true] at h1
    have a := inB_true h1.1
    have b := inB_true h1.2
    unfold i64ok
    omega
  · simp at hx

set_option maxHeartbeats 1600000 in
theorem fnNetOf_walk {w : World} (A : Option Addr) (n c : Nat) (xs : List UInt8) (hl : xs.length = n) (hc : n ≤ c) (hm : c ≤ maxLen) (hx : Reads w w.heap.size 1 A n (byCells xs))
    (RA : Option Addr) (RC : Nat) (hv : w.cell? ⟨0, 0, none⟩ = some (.slice RA 13 RC)) (hr : Reads w w.heap.size 1 RA 13 (stCells resW)) :
    Calls Tryd.prog 8 #[.slice A n c] w fun e w' => e = .returned (.bool true) ∧ Below w.heap.size w w' := by
  by_cases hbig : (1048576 : Int) < (n : Int)
  · clear hx hr
    go_enter Tryd.func8, Tryd.ntmps8
    go_wp2_with fail
    go_ret
    exact ⟨rfl, Below.refl _ _⟩
  · have HD := Lib.hid (drawNet_any A n c xs w hx hl (by omega) hc hm)
    have HV := Lib.hid (fun (w' : World) (hb : Below w.heap.size w w') => alive_yes RA RC w' (below_keep hb hv) ((hr.below hb).more hb.size))
    have hn2 : n ≤ 1048576 := by omega
    obtain ⟨i0, hi0, hz0, hz1, hz2⟩ := info_parts infoInt
    clear hx hr hl hv
    go_enter Tryd.func8, Tryd.ntmps8
    go_wp2_with fail
    refine HD.out.mono ?_
    rintro e w1 ⟨m, rfl, ha0, ha1, b1⟩
    obtain ⟨L, hL⟩ : ∃ L, L = netOf m := ⟨_, rfl⟩
    have hle : L.length ≤ 16384 := by rw [hL]; exact netOf_len m
    have IM := implNet_any m w1
    have SP := fun w => specNet_any m w
    have LN := netOf_nil (m := m)
    rw [← hL] at IM SP LN
    have IM := Lib.hid IM
    have SP := Lib.hid SP
    have LN := Lib.hid LN
    have HL := Lib.hid hL
    clear hL
    go_wp2_with fail
    refine IM.out.mono ?_
    rintro e w2 ⟨v0, rfl, o2, b2⟩
    obtain ⟨A0, c0, rfl, _, _⟩ := own_form o2
    have B2 := b1.trans (b2.mono b1.size)
    go_wp2_with fail
    refine (SP.out _).mono ?_
    rintro e w3 ⟨v1, rfl, o3, b3⟩
    obtain ⟨A1, c1, rfl, _, _⟩ := own_form o3
    have o2' := own_below o2 b3
    have B3 := B2.trans (b3.mono B2.size)
    go_wp2_with fail
    refine (samePairs_yes A0 A1 _ c0 c1 L _ rfl (Reads.of_own o2') (Reads.of_own o3) (by omega)).mono ?_
    rintro e w4 ⟨rfl, b4⟩
    have o4 := own_below o2' b4
    have B4 := B3.trans (b4.mono B3.size)
    have R4 := Reads.of_own o4
    have AL := Lib.hid (HV.out w4 B4)
    clear IM SP HV o2 o3 o2' b1 b2 b3 b4 B2 B3 o4
    by_cases hout : m < 2 ∨ 256 < m
    · have h0 : L.length = 0 := by
        rcases LN.out with h | ⟨h1, h2, _⟩
        · exact h
        · omega
      have h0' : (L.length : Int) = 0 := by omega
      clear R4 h0
      rcases hout with h | h
      · go_wp2_with fail
        refine AL.out.mono ?_
        rintro e w' ⟨rfl, rfl⟩
        go_wp2_with fail
        go_ret
        exact ⟨rfl, B4⟩
      · have h2 : ¬ m < 2 := by omega
        go_wp2_with fail
        refine AL.out.mono ?_
        rintro e w' ⟨rfl, rfl⟩
        go_wp2_with fail
        go_ret
        exact ⟨rfl, B4⟩
    · have g1 : 2 ≤ m := by omega
      have g2 : m ≤ 256 := by omega
      obtain ⟨M, rfl⟩ := Int.eq_ofNat_of_zero_le (show 0 ≤ m by omega)
      have hM : M ≤ 256 := by omega
      have PR := Lib.hid (fun k x (hx : L[k]? = some x) => netOf_pair (M := M) (k := k) (x := x) hM (by rw [← HL.out]; exact hx))
      clear hout LN AL
      go_wp2_with fail
      go_loopw [5, 6] (fun nv kv wr => ∃ (k : Nat) (N : List Int), kv = .int .i64 k ∧ k ≤ M ∧ N.length = k ∧ wr.ownsRow w4.heap.size 3 1 nv k (inCells N) ∧ Below w.heap.size w wr ∧ Below w4.heap.size w4 wr) (fun _ kv _ => 257 - (intOf kv).toNat)
      case atStart => exact ⟨0, [], rfl, Nat.zero_le _, rfl, World.ownsRow_made w4 #[] 0 (Nat.le_refl _) (by unfold maxLen; omega) rfl, B4.alloc B4.size _, (Below.refl _ _).alloc (Nat.le_refl _) _⟩
      case round =>
        obtain ⟨k, N, rfl, hk, hN, hown, hbk, hbk4⟩ := hrel
        have HN := Lib.hid hN
        clear hN
        have hk0 : (0 : Int) ≤ (k : Int) := Int.natCast_nonneg _
        by_cases hkm : k < M
        · have hkm' : (k : Int) < (M : Int) := by omega
          by_cases hkl : k < L.length
          · obtain ⟨ad, x1, x2, rfl, _, hxk, e1, e2⟩ := pr_at (R4.below hbk4) rfl hkl
            obtain ⟨p1, p2, p3⟩ := PR.out k _ hxk
            simp only at p1 p2 p3
            have hk1 : (k : Int) < (L.length : Int) := by omega
            have q1 : decide (x1 < 0) = false := by simpa using p1
            have q2 : decide (x2 ≤ x1) = false := by simpa using p2
            have q3 : decide ((M : Int) ≤ x2) = false := by simpa using p3
            clear hxk R4
            go_wp2_with fail
            go_quiet (fail)
            clear q1 q2 q3 e1 e2
            have hown' := own_more hown nq
            have hbk' := below_more hbk nq
            have hbk4' := below_more hbk4 nq
            clear hown hbk hbk4
            generalize wr.drewN nq = wq at hown' hbk' hbk4' ⊢
            have hsz := hbk4'.size
            go_wp2_with (first
              | (at_builtin; refine wpList_append_own _ rfl _ _ 41 rfl w4.heap.size 3 i0 _ 1 8 Tryd.underlying41 hi0 hz0 hz1 hz2 rfl (by decide) _ _ _ rfl (hown'.alloc _) ⟨wq.heap.size, 0, none⟩ 1 1 [.int .i64 (((k : Int) * 37 + (n : Int)) % 101)] rfl rfl (cells_new _ _ _) (oneCells rfl) (by unfold maxLen; omega) (by omega) (by simp; omega) ?_; intro v' w1 hown' hgrow _; have P := Lib.hid (And.intro hown' hgrow); clear hown' hgrow))
            go_wp2
            go_roundw
            case rel =>
              refine ⟨k + 1, N ++ [((k : Int) * 37 + (n : Int)) % 101], by go_num, by omega, ?_, ?_, below_append hbk' hown' P.out.2 B4.size, below_append hbk4' hown' P.out.2 (Nat.le_refl _)⟩
              · rw [List.length_append, HN.out]; rfl
              · rw [inCells_append]; exact P.out.1
            case measure => simp [intOf]; omega
          · have hk1 : ¬ (k : Int) < (L.length : Int) := by omega
            have q1 : decide ((k : Int) < (L.length : Int)) = false := by simpa using hk1
            have q2 : decide (k < L.length) = false := by simpa using hkl
            clear R4
            go_wp2_with fail
            go_quiet (fail)
            clear q1 q2
            have hown' := own_more hown nq
            have hbk' := below_more hbk nq
            have hbk4' := below_more hbk4 nq
            clear hown hbk hbk4
            generalize wr.drewN nq = wq at hown' hbk' hbk4' ⊢
            have hsz := hbk4'.size
            go_wp2_with (first
              | (at_builtin; refine wpList_append_own _ rfl _ _ 41 rfl w4.heap.size 3 i0 _ 1 8 Tryd.underlying41 hi0 hz0 hz1 hz2 rfl (by decide) _ _ _ rfl (hown'.alloc _) ⟨wq.heap.size, 0, none⟩ 1 1 [.int .i64 (((k : Int) * 37 + (n : Int)) % 101)] rfl rfl (cells_new _ _ _) (oneCells rfl) (by unfold maxLen; omega) (by omega) (by simp; omega) ?_; intro v' w1 hown' hgrow _; have P := Lib.hid (And.intro hown' hgrow); clear hown' hgrow))
            go_wp2
            go_roundw
            case rel =>
              refine ⟨k + 1, N ++ [((k : Int) * 37 + (n : Int)) % 101], by go_num, by omega, ?_, ?_, below_append hbk' hown' P.out.2 B4.size, below_append hbk4' hown' P.out.2 (Nat.le_refl _)⟩
              · rw [List.length_append, HN.out]; rfl
              · rw [inCells_append]; exact P.out.1
            case measure => simp [intOf]; omega
        · obtain rfl : k = M := by omega
          have hkm' : ¬ (k : Int) < (k : Int) := by omega
          obtain ⟨B, d, rfl, hd1, hd2, hd3⟩ := own_form' hown
          have RN := Reads.of_own hown
          have AP := Lib.hid (implApply_any A0 B L.length k c0 d L N wr rfl HN.out ((R4.belowW (Nat.le_refl _) hbk4).more hbk4.size) RN (by omega) (by omega) hd3)
          have ho : applyOf L N = applyL (netL k) N := by rw [HL.out]; exact applyOf_net (by omega) HN.out
          have hsort : (applyOf L N).Pairwise (· ≤ ·) := by rw [ho]; exact net_sorts (by omega) HN.out
          have hlen : (applyOf L N).length = k := by rw [ho, applyL_length]; exact HN.out
          have HS := Lib.hid hsort
          have HLN := Lib.hid hlen
          clear ho hsort hlen
          go_wp2_with fail
          refine AP.out.mono ?_
          rintro e w5 ⟨v, rfl, o5, b5⟩
          have hb5 := hbk.trans (b5.mono hbk.size)
          have hb54 := hbk4.trans (b5.mono hbk4.size)
          have hl5 := HLN.out
          have HS := HS
          obtain ⟨Y, hY⟩ : ∃ Y, applyOf L N = Y := ⟨_, rfl⟩
          rw [hY] at o5 hl5 HS
          obtain ⟨C, c5, rfl, _, _⟩ := own_form o5
          have R5 := Reads.of_own o5
          rw [hl5] at R5 ⊢
          have HL5 := Lib.hid hl5
          clear hl5 hY AP HLN o5 hown RN
          go_wp2_with fail
          go_loopw [8] (fun iv wr => ∃ j : Nat, 1 ≤ j ∧ iv = .int .i64 j ∧ Below w.heap.size w wr ∧ Below w5.heap.size w5 wr) (fun iv _ => 300 - (intOf iv).toNat)
          case atStart => exact ⟨1, Nat.le_refl _, rfl, hb5, Below.refl _ _⟩
          case round =>
            obtain ⟨j, hj, rfl, hbj, hbj5⟩ := hrel
            by_cases hlj : j < k
            · obtain ⟨ad, y1, rfl, _, hy1, e1⟩ := in_at (k := j - 1) (R5.below hbj5) HL5.out (by omega)
              obtain ⟨ad', y2, hA2, _, hy2, e2⟩ := in_at (k := j) (R5.below hbj5) HL5.out hlj
              obtain rfl := Option.some.inj hA2
              obtain ⟨j', rfl⟩ : ∃ j', j = j' + 1 := ⟨j - 1, by omega⟩
              have e1' : wr.cell? (ad.add j') = some (.int .i64 y1) := by simpa using e1
              rw [addr_add_pos _ _ (by omega)] at e2
              have hle : y1 ≤ y2 := by
                simp only [Nat.add_sub_cancel] at hy1
                obtain ⟨h1, rfl⟩ := List.getElem?_eq_some_iff.1 hy1
                obtain ⟨h2, rfl⟩ := List.getElem?_eq_some_iff.1 hy2
                exact List.pairwise_iff_getElem.1 HS.out j' (j' + 1) h1 h2 (by omega)
              clear hy1 hy2 e1 hA2 R5
              have hk0 : (0 : Int) ≤ (j' : Int) := Int.natCast_nonneg _
              have hk1 : (j' : Int) + 1 < (k : Int) := by omega
              have hwj : IntKind.i64.wrap (j' : Int) = (j' : Int) := by
                rw [IntKind.wrap_i64]
                omega
              have hk2 : (j' : Int) < (k : Int) := by omega
              have ht1 : ((j' : Int)).toNat = j' := by omega
              have ht2 : ((j' : Int) + 1).toNat = j' + 1 := by omega
              have hk3 : (0 : Int) ≤ (j' : Int) + 1 := by omega
              have e2' : wr.cell? ⟨ad.block, ad.off + (j' + 1), none⟩ = some (.int .i64 y2) := e2
              have hy' : (y2 < y1) = False := by simp; omega
              go_wp2_with fail
              go_quiet (fail)
              go_wp2_with fail
              go_roundw
              case rel => exact ⟨j' + 1 + 1, by omega, by go_num, below_more hbj _, below_more hbj5 _⟩
              case measure => simp [intOf]; omega
            · have hlj' : ¬ (j : Int) < (k : Int) := by omega
              clear R5
              by_cases h8 : k ≤ 8
              · have S1 := Lib.hid (implSort_any true A0 L.length c0 L (k : Int) wr rfl (((R4.belowW (Nat.le_refl _) hb54).more hb54.size).below hbj5 |>.more hbj5.size) (by omega) (by rw [HL.out]; exact netOf_i64) (by rw [HL.out]; exact sortOf_net (by omega)))
                have h8' : ¬ (8 : Int) < (k : Int) := by omega
                clear R4
                go_wp2_with fail
                refine S1.out.mono ?_
                rintro e w6 ⟨rfl, b6⟩
                go_wp2_with fail
                go_ret
                exact ⟨rfl, hbj.trans (b6.mono hbj.size)⟩
              · have h8' : (8 : Int) < (k : Int) := by omega
                clear R4
                go_wp2_with fail
                go_ret
                exact ⟨rfl, hbj⟩
end Go.Proofs.YtnihhbmihbcgbaaDoor
