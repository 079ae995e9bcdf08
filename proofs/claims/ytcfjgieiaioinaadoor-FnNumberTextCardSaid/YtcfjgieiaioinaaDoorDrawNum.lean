/- spec.l20Value, spec.DrawNumberText, spec.DrawReadNumber. -/
import Derived.Test.YtcfjgieiaioinaaDoorDrawName
import Derived.Test.YtcfjgieiaioinaaDoorNum
namespace Go.Proofs.YtcfjgieiaioinaaDoor
open Go Go.RowKit
set_option maxRecDepth 100000
def Vl (R B : Nat) (w : World) (e : Ending) (w' : World) : Prop := ∃ v : Int, e = .returned (.int .i64 v) ∧ -100001 ≤ v ∧ v ≤ 100001 ∧ Rc w' R B ∧ Touch R (R + 1) w w'
set_option maxHeartbeats 800000 in
theorem value_c (R B : Nat) (w : World) (h : Rc w R (B + 3)) : Calls Tryd.prog 24 #[.pointer (some ⟨R, 0, none⟩)] w (Vl R B w) := by
  go_enter Tryd.func24, Tryd.ntmps24
  go_wp2_with fail
  refine (pick_c R (B + 2) 4 _ h (by omega)).mono ?_
  rintro e w1 ⟨x, rfl, hx, r1, t1, -⟩
  go_wp2_with fail
  refine (pick_c R (B + 1) 256 _ r1 (by omega)).mono ?_
  rintro e w2 ⟨y, rfl, hy, r2, t2, -⟩
  have hR := r2.lt
  go_wp2_with fail
  refine (pick_c R B 9 _ ((r2.alloc _).alloc _) (by omega)).mono ?_
  rintro e w3 ⟨z, rfl, hz, r3, t3, -⟩
  obtain ⟨i, c1, hi0, hi1⟩ := ints_cell (lo := 0) (hi := 5) (Blk.new _ _ _) (by simp; omega) t3 (x := z) (by simp; omega) (by kernel_rfl)
  obtain ⟨v, c2, hv0, hv1⟩ := ints_cell (lo := -100001) (hi := 100001) ((Blk.new _ _ _).alloc _) hR t3 (x := i.toNat) (by simp; omega) (by simp [intIn]; omega)
  rw [World.size_alloc] at c1
  have hz0 : (z : Int) < 9 := by omega
  have hi2 : i < 6 := by omega
  have ht : Touch R (R + 1) w w3 := (((t1.trans t2).alloc _).alloc _).trans t3
  clear hx hy hz hi1 t1 t2 t3
  go_wp2_with fail
  go_ret
  exact ⟨v, rfl, hv0, hv1, r3, ht⟩
def OneVal (w : World) (e : Ending) (w' : World) : Prop := ∃ v : Int, e = .returned (.int .i64 v) ∧ -100001 ≤ v ∧ v ≤ 100001 ∧ Below w.heap.size w w'
theorem drawNum_any (A : Option Addr) (n c : Nat) (xs : List UInt8) (w : World) (hx : Reads w w.heap.size 1 A n (byCells xs)) (hl : xs.length = n) (hn : n ≤ 1048576) (hc : n ≤ c) (hc2 : c ≤ maxLen) :
    Calls Tryd.prog 13 #[.slice A n c] w (OneVal w) := by
  have HO := Lib.hid (open_c A n c xs w hx hl hn hc hc2)
  clear hx hl
  go_enter Tryd.func13, Tryd.ntmps13
  go_wp2_with fail
  refine HO.out.mono ?_
  rintro e w1 ⟨rfl, r1, b1, -⟩
  go_wp2_with fail
  refine (value_c _ 10 _ (r1.less (by omega))).mono ?_
  rintro e w2 ⟨v, rfl, h0, h1, r2, t2⟩
  go_wp2_with fail
  go_ret
  exact ⟨v, rfl, h0, h1, t2.below b1 (Nat.le_refl _)⟩
def OneText (w : World) (e : Ending) (w' : World) : Prop := ∃ s : ByteArray, e = .returned (.string s) ∧ s.size ≤ 9 ∧ Below w.heap.size w w'
set_option maxHeartbeats 800000 in
theorem drawRead_any (A : Option Addr) (n c : Nat) (xs : List UInt8) (w : World) (hx : Reads w w.heap.size 1 A n (byCells xs)) (hl : xs.length = n) (hn : n ≤ 1048576) (hc : n ≤ c) (hc2 : c ≤ maxLen) :
    Calls Tryd.prog 11 #[.slice A n c] w (OneText w) := by
  have HO := Lib.hid (open_c A n c xs w hx hl hn hc hc2)
  clear hx hl
  go_enter Tryd.func11, Tryd.ntmps11
  go_wp2_with fail
  refine HO.out.mono ?_
  rintro e w1 ⟨rfl, r1, b1, -⟩
  go_wp2_with fail
  refine (pick_c _ 10 256 _ (r1.less (by omega)) (by omega)).mono ?_
  rintro e w2 ⟨x, rfl, hx, r2, t2, -⟩
  have B2 := t2.below b1 (Nat.le_refl _)
  go_wp2_with fail
  refine (specNum_any _ w2).mono ?_
  rintro e w3 ⟨rfl, b3⟩
  have B3 := B2.trans (b3.mono B2.size)
  have r3 := r2.below b3
  obtain ⟨s, hs⟩ : ∃ s, numS ((x : Int) - 100) = s := ⟨_, rfl⟩
  have hsz := numS_size ((x : Int) - 100)
  rw [hs] at hsz ⊢
  clear hs
  go_wp2_with fail
  refine (odd_c _ 9 3 _ r3 (by omega)).mono ?_
  rintro e w4 ⟨q, rfl, r4, t4, -⟩
  have B4 := t4.below B3 (Nat.le_refl _)
  have hR := r4.lt
  cases q
  · go_wp2_with fail
    go_ret
    exact ⟨s, rfl, by omega, B4⟩
  · go_wp2_with fail
    refine (pick_c _ 8 11 _ (r4.alloc _) (by omega)).mono ?_
    rintro e w5 ⟨z, rfl, hz, r5, t5, -⟩
    obtain ⟨u, c2, hu⟩ := strs_cell (m := 9) (Blk.new _ _ _) hR t5 (x := z) (by simp; omega) (by kernel_rfl)
    have hz0 : (z : Int) < 11 := by omega
    have B5 := t5.below (B4.alloc (Nat.le_trans B4.size (Nat.le_refl _)) _) (Nat.le_refl _)
    clear hx hz t5
    go_wp2_with fail
    go_ret
    exact ⟨u, rfl, hu, B5⟩
end Go.Proofs.YtcfjgieiaioinaaDoor
