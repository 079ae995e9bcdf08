/- laws.FnCrossTrace: the walk. -/
import Derived.Test.YtnihhbmihbcgbaaDoorSameL
import Derived.Test.YtnihhbmihbcgbaaDoorCross
import Derived.Test.YtnihhbmihbcgbaaDoorSameTrace
import Derived.Test.YtnihhbmihbcgbaaDoorDrawNet
namespace Go.Proofs.YtnihhbmihbcgbaaDoor
open Go Go.RowKit
set_option maxRecDepth 100000

theorem crossRow_at (b i : Nat) : ∀ (m k : Nat) (x : Int × Int × Bool), (crossRow b i m)[k]? = some x → (x.2.2 = true → x.1 = 2 ∧ x.2.1 = ((i * b + k / 3 : Nat) : Int)) ∧ (x.2.2 = false → x.1 ≠ 2) := by
  intro m
  induction m with
  | zero => intro k x h; simp [crossRow] at h
  | succ m ih =>
    intro k x h
    rw [crossRow_succ, List.getElem?_append, crossRow_length] at h
    split at h
    · exact ih k x h
    · rename_i hk
      have h3 : k - 3 * m < 3 := by
        have := (List.getElem?_eq_some_iff.1 h).1
        simpa using this
      rcases (show k - 3 * m = 0 ∨ k - 3 * m = 1 ∨ k - 3 * m = 2 by omega) with e | e | e
      · rw [e] at h
        simp at h
        subst h
        simp
      · rw [e] at h
        simp at h
        subst h
        simp
      · rw [e] at h
        simp at h
        subst h
        have : k / 3 = m := by omega
        simp [this]
theorem crossAll_at (b : Nat) : ∀ (a k : Nat) (x : Int × Int × Bool), (crossAll b a)[k]? = some x → (x.2.2 = true → x.1 = 2 ∧ x.2.1 = ((k / 3 : Nat) : Int)) ∧ (x.2.2 = false → x.1 ≠ 2) := by
  intro a
  induction a with
  | zero => intro k x h; simp [crossAll] at h
  | succ a ih =>
    intro k x h
    rw [crossAll_succ, List.getElem?_append, crossAll_length] at h
    split at h
    · exact ih k x h
    · rename_i hk
      have h1 := crossRow_at b a b _ x h
      have e : a * b + (k - a * (3 * b)) / 3 = k / 3 := by
        have e1 : a * (3 * b) = 3 * (a * b) := by rw [Nat.mul_left_comm]
        rw [e1] at hk ⊢
        omega
      rw [e] at h1
      exact h1
theorem crossL_at (a b : Int) (k : Nat) (x : Int × Int × Bool) (h : (crossL a b)[k]? = some x) : (x.2.2 = true → x.1 = 2 ∧ x.2.1 = ((k / 3 : Nat) : Int)) ∧ (x.2.2 = false → x.1 ≠ 2) := by
  unfold crossL at h
  split at h
  · exact crossAll_at _ _ k x h
  · simp at h
theorem crossL_len (a b : Int) : (crossL a b).length = 0 ∨ (0 ≤ a ∧ a ≤ 16 ∧ 0 ≤ b ∧ b ≤ 16 ∧ ((crossL a b).length : Int) = 3 * a * b) := by
  unfold crossL
  split
  · rename_i h
    rw [Bool.and_eq_true] at h
    have ha := inB_true h.1
    have hb := inB_true h.2
    right
    refine ⟨ha.1, ha.2, hb.1, hb.2, ?_⟩
    obtain ⟨x, rfl⟩ := Int.eq_ofNat_of_zero_le ha.1
    obtain ⟨y, rfl⟩ := Int.eq_ofNat_of_zero_le hb.1
    rw [crossAll_length]
    simp only [Int.toNat_natCast]
    rw [Int.natCast_mul, Int.natCast_mul, ← Int.mul_assoc, Int.mul_comm (x : Int) ((3 : Nat) : Int)]
    rfl
  · left; rfl

theorem acc_at {w : World} {B n : Nat} {A : Option Addr} {xs : List (Int × Int × Bool)} {k : Nat} (h : Reads w B 3 A n (accCells xs)) (hxn : xs.length = n) (hk : k < n) :
    ∃ ad x1 x2 x3, A = some ad ∧ ad.block < B ∧ xs[k]? = some (x1, x2, x3) ∧ w.cell? (ad.add (k * 3)) = some (.int .i64 x1) ∧ w.cell? ⟨(ad.add (k * 3)).block, (ad.add (k * 3)).off + 1, none⟩ = some (.int .i64 x2) ∧ w.cell? ⟨(ad.add (k * 3)).block, (ad.add (k * 3)).off + 2, none⟩ = some (.bool x3) := by
  obtain ⟨⟨x1, x2, x3⟩, hxk⟩ : ∃ x : Int × Int × Bool, xs[k]? = some x := ⟨_, List.getElem?_eq_getElem (by omega)⟩
  obtain ⟨ad, u0, u1, u2, rfl, hadb, g0, g1, g2, e1, e2, e3⟩ := h.at3 hk
  have := accCells_at xs k _ hxk
  obtain rfl := Option.some.inj (g0.symm.trans this.1)
  obtain rfl := Option.some.inj (g1.symm.trans this.2.1)
  obtain rfl := Option.some.inj (g2.symm.trans this.2.2)
  exact ⟨ad, x1, x2, x3, rfl, hadb, hxk, e1, e2, e3⟩

set_option maxHeartbeats 800000 in
theorem fnCross_walk {w : World} (A : Option Addr) (n c : Nat) (xs : List UInt8) (hl : xs.length = n) (hc : n ≤ c) (hm : c ≤ maxLen) (hx : Reads w w.heap.size 1 A n (byCells xs))
    (RA : Option Addr) (RC : Nat) (hv : w.cell? ⟨0, 0, none⟩ = some (.slice RA 13 RC)) (hr : Reads w w.heap.size 1 RA 13 (stCells resW)) :
    Calls Tryd.prog 4 #[.slice A n c] w fun e w' => e = .returned (.bool true) ∧ Below w.heap.size w w' := by
  by_cases hbig : (1048576 : Int) < (n : Int)
  · clear hx hr
    go_enter Tryd.func4, Tryd.ntmps4
    go_wp2_with fail
    go_ret
    exact ⟨rfl, Below.refl _ _⟩
  · have HD := Lib.hid (drawCross_any A n c xs w hx hl (by omega) hc hm)
    have HV := Lib.hid (fun (w' : World) (hb : Below w.heap.size w w') => alive_yes RA RC w' (below_keep hb hv) ((hr.below hb).more hb.size))
    clear hx hr hl hv
    go_enter Tryd.func4, Tryd.ntmps4
    go_wp2_with fail
    refine HD.out.mono ?_
    rintro e w1 ⟨a, b, rfl, ha0, ha1, hb0, hb1, b1⟩
    obtain ⟨L, hL⟩ : ∃ L, L = crossL a b := ⟨_, rfl⟩
    have hle : L.length ≤ 1000 := by rw [hL]; exact crossL_le a b
    have IM := crossTrace_any a b w1
    have SP := fun w => specCross_any a b w
    have AT := fun k x => crossL_at a b k x
    have LN := crossL_len a b
    rw [← hL] at IM SP AT LN
    have IM := Lib.hid IM
    have SP := Lib.hid SP
    have AT := Lib.hid AT
    have LN := Lib.hid LN
    clear hL
    go_wp2_with fail
    refine IM.out.mono ?_
    rintro e w2 ⟨v0, rfl, o2, b2⟩
    obtain ⟨A0, c0, rfl, _, _⟩ := own_form o2
    have B2 := b1.trans (b2.mono b1.size)
    go_wp2_with fail
    refine (SP.out _).mono ?_
    rintro e w3 ⟨v1, rfl, o3, b3⟩
    obtain ⟨A1, c1, rfl, _, _⟩ := own_form o3
    have o2' := own_below o2 b3
    have B3 := B2.trans (b3.mono B2.size)
    go_wp2_with fail
    refine (implSame_any true A0 A1 _ _ c0 c1 L L _ (by simp) rfl rfl (Reads.of_own o2') (Reads.of_own o3) (by omega) (by omega)).mono ?_
    rintro e w4 ⟨rfl, b4⟩
    have o4 := own_below o2' b4
    have B4 := B3.trans (b4.mono B3.size)
    have R4 := Reads.of_own o4
    clear IM SP o2 o3 o2' b1 b2 b3 b4 B2 B3 o4
    go_wp2_with fail
    go_loopw [6] (fun i wr => ∃ k : Nat, k ≤ L.length ∧ i = .int .i64 k ∧ Below w.heap.size w wr ∧ Below w4.heap.size w4 wr) (fun i _ => L.length - (intOf i).toNat)
    case atStart => exact ⟨0, Nat.zero_le _, rfl, B4, Below.refl _ _⟩
    case round =>
      obtain ⟨k, hk, rfl, hbk, hbk4⟩ := hrel
      have hk0 : (0 : Int) ≤ (k : Int) := Int.natCast_nonneg _
      by_cases hlt : k < L.length
      · obtain ⟨ad, x1, x2, x3, rfl, _, hxk, e1, e2, e3⟩ := acc_at (R4.below hbk4) rfl hlt
        have hat := AT.out k _ hxk
        have hk1 : (k : Int) < (L.length : Int) := by omega
        clear hxk R4
        cases x3
        · have hne : ((x1 : Int) == 2) = false := by simpa using hat.2 rfl
          clear hat
          go_wp2_with fail
          go_quiet (fail)
          go_wp2
          go_roundw
          case rel => exact ⟨k + 1, by omega, by go_num, below_more hbk _, below_more hbk4 _⟩
          case measure => simp [intOf]; omega
        · obtain ⟨rfl, rfl⟩ := hat.1 rfl
          clear hat
          have t1 : (k : Int).tdiv 3 = ((k / 3 : Nat) : Int) := by rw [Int.tdiv_eq_ediv_of_nonneg (by omega)]; rfl
          go_wp2_with fail
          go_quiet (fail)
          clear t1
          go_wp2
          go_roundw
          case rel => exact ⟨k + 1, by omega, by go_num, below_more hbk _, below_more hbk4 _⟩
          case measure => simp [intOf]; omega
      · obtain rfl : k = L.length := by omega
        have AL := Lib.hid (HV.out wr hbk)
        by_cases h0 : L.length = 0
        · have h0' : (L.length : Int) = 0 := by omega
          clear R4 hbk4
          go_wp2_with fail
          refine AL.out.mono ?_
          rintro e w' ⟨rfl, rfl⟩
          go_wp2_with fail
          go_ret
          exact ⟨rfl, hbk⟩
        · obtain ⟨g1, g2, g3, g4, h1⟩ := LN.out.resolve_left h0
          have h2 : 3 * a * b = (L.length : Int) := h1.symm
          have h3 : ((L.length : Int) == 0) = false := by simp only [beq_eq_false_iff_ne]; omega
          have h4 : 3 * a ≤ 48 := by omega
          clear R4 hbk4 h0 h1
          go_wp2_with fail
          refine AL.out.mono ?_
          rintro e w' ⟨rfl, rfl⟩
          clear h2
          go_wp2_with fail
          go_ret
          exact ⟨rfl, hbk⟩
end Go.Proofs.YtnihhbmihbcgbaaDoor
