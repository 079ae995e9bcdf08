/- laws.FnNetworkHalf: the walk. -/
import Derived.Test.YtnihhbmihbcgbaaDoorSameP
import Derived.Test.YtnihhbmihbcgbaaDoorNet
import Derived.Test.YtnihhbmihbcgbaaDoorDrawNet
namespace Go.Proofs.YtnihhbmihbcgbaaDoor
open Go Go.RowKit
set_option maxRecDepth 100000

theorem topE_lt' : ∀ m, m < 257 → 2 ≤ m → 2 ^ topE m < m := by decide +kernel
theorem topE_lt (m : Nat) (h : 2 ≤ m) (h' : m < 257) : 2 ^ topE m < m := topE_lt' m h' h
theorem topE_up : ∀ m, m < 257 → m ≤ 2 ^ (topE m + 1) := by decide +kernel
/-- The first pairs of the network. -/
theorem pass_head (m d : Nat) (hd : m ≤ 2 * d) : ∀ k, k + d < m → (passI m d 0 d 0)[k]? = some ((k : Int), ((k + d : Nat) : Int)) := by
  intro k hk
  unfold passI
  have e : (List.range' 0 (m - d - 0)).filter (fun j => j / d % 2 == 0) = List.range' 0 (m - d - 0) := by
    rw [List.filter_eq_self]
    intro j hj
    simp only [List.mem_range'_1] at hj
    have : j / d = 0 := Nat.div_eq_of_lt (by omega)
    simp [this]
  rw [e, List.getElem?_map, List.getElem?_range' (by omega)]
  simp
theorem netL_head (m : Nat) (h2 : 2 ≤ m) (hm : m ≤ 256) : ∀ k, k + 2 ^ topE m < m → (netL m)[k]? = some ((k : Int), ((k + 2 ^ topE m : Nat) : Int)) := by
  intro k hk
  have h1 := topE_up m (by omega)
  unfold netL pRun
  have h3 := pass_head m (2 ^ topE m) (by rw [Nat.pow_succ] at h1; omega) k hk
  rw [List.getElem?_append_left (List.getElem?_eq_some_iff.1 h3).1]
  exact h3
theorem netOf_nil {m : Int} : (netOf m).length = 0 ∨ (2 ≤ m ∧ m ≤ 256 ∧ 0 < (netOf m).length) := by
  unfold netOf
  split
  · rename_i h
    have hb := inB_true h
    obtain ⟨k, rfl⟩ := Int.eq_ofNat_of_zero_le hb.1
    simp only [Int.toNat_natCast]
    by_cases h2 : 2 ≤ k
    · right
      have h3 := topE_lt k h2 (by omega)
      have := netL_head k h2 (by omega) 0 (by omega)
      exact ⟨by omega, by omega, by have := (List.getElem?_eq_some_iff.1 this).1; omega⟩
    · left
      have : k = 0 ∨ k = 1 := by omega
      rcases this with rfl | rfl <;> decide
  · exact .inl rfl

set_option maxHeartbeats 800000 in
theorem fnHalf_walk {w : World} (A : Option Addr) (n c : Nat) (xs : List UInt8) (hl : xs.length = n) (hc : n ≤ c) (hm : c ≤ maxLen) (hx : Reads w w.heap.size 1 A n (byCells xs))
    (RA : Option Addr) (RC : Nat) (hv : w.cell? ⟨0, 0, none⟩ = some (.slice RA 13 RC)) (hr : Reads w w.heap.size 1 RA 13 (stCells resW)) :
    Calls Tryd.prog 5 #[.slice A n c] w fun e w' => e = .returned (.bool true) ∧ Below w.heap.size w w' := by
  by_cases hbig : (1048576 : Int) < (n : Int)
  · clear hx hr
    go_enter Tryd.func5, Tryd.ntmps5
    go_wp2_with fail
    go_ret
    exact ⟨rfl, Below.refl _ _⟩
  · have HD := Lib.hid (drawNet_any A n c xs w hx hl (by omega) hc hm)
    have HV := Lib.hid (fun (w' : World) (hb : Below w.heap.size w w') => alive_yes RA RC w' (below_keep hb hv) ((hr.below hb).more hb.size))
    clear hx hr hl hv
    go_enter Tryd.func5, Tryd.ntmps5
    go_wp2_with fail
    refine HD.out.mono ?_
    rintro e w1 ⟨m, rfl, ha0, ha1, b1⟩
    obtain ⟨L, hL⟩ : ∃ L, L = netOf m := ⟨_, rfl⟩
    have hle : L.length ≤ 16384 := by rw [hL]; exact netOf_len m
    have IM := implNet_any m w1
    have SP := fun w => specNet_any m w
    have AT : ∀ k : Nat, 2 ≤ m → m ≤ 256 → k + 2 ^ topE m.toNat < m.toNat → L[k]? = some ((k : Int), ((k + 2 ^ topE m.toNat : Nat) : Int)) := fun k h1 h2 h3 => by
      rw [hL]
      unfold netOf
      rw [if_pos (inB_mk ⟨by omega, h2⟩)]
      exact netL_head m.toNat (by omega) (by omega) k h3
    have LN := netOf_nil (m := m)
    rw [← hL] at IM SP LN
    have IM := Lib.hid IM
    have SP := Lib.hid SP
    have AT := Lib.hid AT
    have LN := Lib.hid LN
    clear hL
    go_wp2_with fail
    refine IM.out.mono ?_
    rintro e w2 ⟨v0, rfl, o2, b2⟩
    obtain ⟨A0, c0, rfl, _, _⟩ := own_form o2
    have B2 := b1.trans (b2.mono b1.size)
    go_wp2_with fail
    refine (SP.out _).mono ?_
    rintro e w3 ⟨v1, rfl, o3, b3⟩
    obtain ⟨A1, c1, rfl, _, _⟩ := own_form o3
    have o2' := own_below o2 b3
    have B3 := B2.trans (b3.mono B2.size)
    go_wp2_with fail
    refine (samePairs_yes A0 A1 _ c0 c1 L _ rfl (Reads.of_own o2') (Reads.of_own o3) (by omega)).mono ?_
    rintro e w4 ⟨rfl, b4⟩
    have o4 := own_below o2' b4
    have B4 := B3.trans (b4.mono B3.size)
    have R4 := Reads.of_own o4
    have AL := Lib.hid (HV.out w4 B4)
    clear IM SP HV o2 o3 o2' b1 b2 b3 b4 B2 B3 o4
    by_cases h0 : L.length = 0
    · have h0' : (L.length : Int) = 0 := by omega
      clear R4
      go_wp2_with fail
      refine AL.out.mono ?_
      rintro e w' ⟨rfl, rfl⟩
      go_wp2_with fail
      go_ret
      exact ⟨rfl, B4⟩
    · obtain ⟨g1, g2, g3⟩ := LN.out.resolve_left h0
      obtain ⟨M, rfl⟩ := Int.eq_ofNat_of_zero_le (show 0 ≤ m by omega)
      have hT := topE_lt M (by omega) (by omega)
      have hT2 := topE_up M (by omega)
      have hT3 := topE_le M (by omega)
      have AT := Lib.hid (fun k => AT.out k g1 g2)
      obtain ⟨E, hE⟩ : ∃ E, topE M = E := ⟨_, rfl⟩
      simp only [Int.toNat_natCast] at AT
      rw [hE] at hT hT2 hT3 AT
      have h3 : ((L.length : Int) == 0) = false := by simp only [beq_eq_false_iff_ne]; omega
      have HT := Lib.hid hT
      have HT2 := Lib.hid hT2
      clear h0 hE hT hT2 LN AL
      go_wp2_with fail
      go_loop [5] (fun t => ∃ T : Nat, t = .int .i64 (T : Int) ∧ Hid (∃ e, e ≤ E ∧ T = 2 ^ e) ∧ 1 ≤ T ∧ T ≤ 256) (fun t => 257 - (intOf t).toNat)
      case atStart => exact ⟨1, rfl, ⟨0, Nat.zero_le _, rfl⟩, by omega, by omega⟩
      case round =>
        obtain ⟨T, rfl, hte, ht1, ht2⟩ := hrel
        by_cases hlt : 2 * T < M
        · have hlt' : (2 : Int) * (T : Int) < (M : Int) := by omega
          go_wp2_with fail
          go_round
          case rel =>
            refine ⟨2 * T, by go_num, ?_, by omega, by omega⟩
            obtain ⟨e, he, rfl⟩ := hte.out
            refine ⟨e + 1, ?_, by rw [Nat.pow_succ, Nat.mul_comm]⟩
            have h1 := HT2.out
            rcases Nat.lt_or_ge e E with h | h
            · exact h
            · exfalso
              obtain rfl : e = E := by omega
              rw [Nat.pow_succ] at h1
              omega
          case measure => simp [intOf]; omega
        · have hte' : T = 2 ^ E := by
            obtain ⟨e, he, rfl⟩ := hte.out
            rcases Nat.lt_or_ge e E with h | h
            · exfalso
              have h1 : 2 ^ (e + 1) ≤ 2 ^ E := Nat.pow_le_pow_right (by omega) h
              have h2 := HT.out
              rw [Nat.pow_succ] at h1
              omega
            · obtain rfl : e = E := by omega
              rfl
          have AT' := Lib.hid (show ∀ k, k + T < M → L[k]? = some ((k : Int), ((k + T : Nat) : Int)) by rw [hte']; exact AT.out)
          have hTM : T < M := by rw [hte']; exact HT.out
          have hlt' : ¬ (2 : Int) * (T : Int) < (M : Int) := by omega
          clear hte hte' AT HT HT2
          go_wp2_with fail
          clear hlt'
          go_loop [6] (fun t => ∃ k : Nat, t = .int .i64 (k : Int) ∧ k + T ≤ M) (fun t => 257 - (intOf t).toNat)
          case atStart => exact ⟨0, rfl, by omega⟩
          case round =>
            obtain ⟨k, rfl, hk⟩ := hrel
            by_cases hkm : k + T < M
            · have hat := AT'.out k hkm
              have hkl : k < L.length := (List.getElem?_eq_some_iff.1 hat).1
              obtain ⟨ad, x1, x2, rfl, _, hxk, e1, e2⟩ := pr_at R4 rfl hkl
              obtain ⟨rfl, rfl⟩ : (k : Int) = x1 ∧ ((k + T : Nat) : Int) = x2 := by simpa using hat.symm.trans hxk
              rw [Int.natCast_add] at e2
              have hk0 : (0 : Int) ≤ (k : Int) := by omega
              have hk1 : (k : Int) < (L.length : Int) := by omega
              have hk2 : (k : Int) < (M : Int) - (T : Int) := by omega
              clear hat hxk R4
              go_wp2_with fail
              go_round
              case rel => exact ⟨k + 1, by go_num, by omega⟩
              case measure => simp [intOf]; omega
            · have hk2 : ¬ (k : Int) < (M : Int) - (T : Int) := by omega
              clear R4
              go_wp2_with fail
              go_ret
              exact ⟨rfl, B4⟩
end Go.Proofs.YtnihhbmihbcgbaaDoor
