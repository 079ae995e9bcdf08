/- spec.SameTrace, slices.Equal at accesses, impl.SameTrace. -/
import Derived.Test.YtgbbgejnphfocaaDoorToAccess
namespace Go.Proofs.YtgbbgejnphfocaaDoor
open Go Go.RowKit
set_option maxRecDepth 100000

set_option maxHeartbeats 400000 in
theorem slEqAcc_any (b : Bool) (A B : Option Addr) (n m c d : Nat) (xs ys : List (Int × Int × Bool)) (w : World) (hb : decide (xs = ys) = b) (hxn : xs.length = n) (hym : ys.length = m)
    (hx : Reads w w.heap.size 3 A n (accCells xs)) (hy : Reads w w.heap.size 3 B m (accCells ys)) (hn : n ≤ 1000000000) (hm : m ≤ 1000000000) :
    Calls Tryd.prog 13 #[.slice A n c, .slice B m d] w fun e w' => e = .returned (.bool b) ∧ Below w.heap.size w w' := by
  by_cases hnm : n = m
  · subst hnm
    have HB := Lib.hid hb
    have HX := Lib.hid hxn
    have HY := Lib.hid hym
    clear hxn hym hb
    go_enter Tryd.func13, Tryd.ntmps13
    go_wp2
    go_loopw [13] (fun i wr => ∃ k : Nat, k ≤ n ∧ i = .int .i64 k ∧ xs.take k = ys.take k ∧ Below w.heap.size w wr) (fun i _ => n - (intOf i).toNat)
    case atStart => exact ⟨0, Nat.zero_le _, rfl, rfl, Below.refl _ _⟩
    case round =>
      obtain ⟨k, hk, rfl, htk, hb⟩ := hrel
      have HT := Lib.hid htk
      clear htk
      by_cases hlt : k < n
      · obtain ⟨⟨x1, x2, x3⟩, hxk⟩ : ∃ x : Int × Int × Bool, xs[k]? = some x := ⟨_, List.getElem?_eq_getElem (by have := HX.out; omega)⟩
        obtain ⟨⟨y1, y2, y3⟩, hyk⟩ : ∃ y : Int × Int × Bool, ys[k]? = some y := ⟨_, List.getElem?_eq_getElem (by have := HY.out; omega)⟩
        obtain ⟨ad, u0, u1, u2, rfl, hadb, g0, g1, g2, e1, e2, e3⟩ := (hx.below hb).at3 hlt
        obtain ⟨bd, v0, v1, v2, rfl, hbdb, j0, j1, j2, f1, f2, f3⟩ := (hy.below hb).at3 hlt
        obtain ⟨rfl, rfl, rfl⟩ : u0 = .int .i64 x1 ∧ u1 = .int .i64 x2 ∧ u2 = .bool x3 := by
          have := accCells_at xs k _ hxk
          exact ⟨Option.some.inj (g0.symm.trans this.1), Option.some.inj (g1.symm.trans this.2.1), Option.some.inj (g2.symm.trans this.2.2)⟩
        obtain ⟨rfl, rfl, rfl⟩ : v0 = .int .i64 y1 ∧ v1 = .int .i64 y2 ∧ v2 = .bool y3 := by
          have := accCells_at ys k _ hyk
          exact ⟨Option.some.inj (j0.symm.trans this.1), Option.some.inj (j1.symm.trans this.2.1), Option.some.inj (j2.symm.trans this.2.2)⟩
        have HXK := Lib.hid hxk
        have HYK := Lib.hid hyk
        clear hxk hyk g0 g1 g2 j0 j1 j2 hx hy
        have hk0 : (0 : Int) ≤ (k : Int) := Int.natCast_nonneg _
        have hk1 : (k : Int) < (n : Int) := by omega
        have hcase : (xs[k]? ≠ ys[k]? ∧ (x1 ≠ y1 ∨ (x1 = y1 ∧ x2 ≠ y2) ∨ (x1 = y1 ∧ x2 = y2 ∧ x3 ≠ y3))) ∨ (xs.take (k + 1) = ys.take (k + 1) ∧ x1 = y1 ∧ x2 = y2 ∧ x3 = y3) := by
          by_cases q1 : x1 = y1
          · by_cases q2 : x2 = y2
            · by_cases q3 : x3 = y3
              · subst q1 q2 q3
                exact .inr ⟨take_ext _ _ _ _ HT.out HXK.out HYK.out, rfl, rfl, rfl⟩
              · exact .inl ⟨by rw [HXK.out, HYK.out]; simp [q3], .inr (.inr ⟨q1, q2, q3⟩)⟩
            · exact .inl ⟨by rw [HXK.out, HYK.out]; simp [q2], .inr (.inl ⟨q1, q2⟩)⟩
          · exact .inl ⟨by rw [HXK.out, HYK.out]; simp [q1], .inl q1⟩
        clear HXK HYK
        rcases hcase with ⟨hne, hq⟩ | ⟨ht, q1, q2, q3⟩
        · have hfin : b = false := by
            rw [← HB.out, decide_eq_false_iff_not]
            rintro rfl
            exact hne rfl
          clear hne
          have HF := Lib.hid hfin
          clear hfin
          rcases hq with q1 | ⟨q1, q2⟩ | ⟨q1, q2, q3⟩
          all_goals
            first
              | (subst q1; subst q2)
              | subst q1
              | skip
            go_wp2_with fail
            go_quiet (fail)
            go_wp2
            go_ret
            exact ⟨ret_bool HF.out.symm, below_drewN hb _⟩
        · subst q1 q2 q3
          have HT' := Lib.hid ht
          clear ht
          go_wp2_with fail
          go_quiet (fail)
          go_wp2
          go_roundw
          case rel => exact ⟨k + 1, by omega, by go_num, HT'.out, below_drewN hb _⟩
          case measure => simp [intOf]; omega
      · obtain rfl : k = n := by omega
        go_wp2
        go_ret
        refine ⟨ret_bool ?_, hb⟩
        rw [← HB.out]
        symm
        rw [decide_eq_true_iff]
        have h1 := HT.out
        rwa [List.take_of_length_le (by have := HX.out; omega), List.take_of_length_le (by have := HY.out; omega)] at h1
  · have hb' : b = false := by
      rw [← hb, decide_eq_false_iff_not]
      intro he
      subst he
      omega
    subst hb'
    have hd : (n : Int) ≠ (m : Int) := by omega
    clear hb
    go_enter Tryd.func13, Tryd.ntmps13
    go_wp2
    go_ret
    exact ⟨rfl, Below.refl _ _⟩

set_option maxHeartbeats 400000 in
theorem implSame_any (b : Bool) (A B : Option Addr) (n m c d : Nat) (xs ys : List (Int × Int × Bool)) (w : World) (hb : decide (xs = ys) = b) (hxn : xs.length = n) (hym : ys.length = m)
    (hx : Reads w w.heap.size 3 A n (accCells xs)) (hy : Reads w w.heap.size 3 B m (accCells ys)) (hn : n ≤ 1000000000) (hm : m ≤ 1000000000) :
    Calls Tryd.prog 6 #[.slice A n c, .slice B m d] w fun e w' => e = .returned (.bool b) ∧ Below w.heap.size w w' := by
  have H := Lib.hid (slEqAcc_any b A B n m c d xs ys w hb hxn hym hx hy hn hm)
  clear hb hxn hym hx hy
  go_enter Tryd.func6, Tryd.ntmps6
  go_wp2_with fail
  refine H.out.mono ?_
  rintro e w' ⟨rfl, hb⟩
  go_wp2_with fail
  go_ret
  exact ⟨rfl, hb⟩
end Go.Proofs.YtgbbgejnphfocaaDoor
