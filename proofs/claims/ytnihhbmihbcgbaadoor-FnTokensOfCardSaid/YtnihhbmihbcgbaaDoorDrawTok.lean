/- spec.DrawTokensOf. -/
import Derived.Test.YtnihhbmihbcgbaaDoorDrawName
namespace Go.Proofs.YtnihhbmihbcgbaaDoor
open Go Go.RowKit
set_option maxRecDepth 100000

def OneText (m : Nat) (w : World) (e : Ending) (w' : World) : Prop := ∃ s : ByteArray, e = .returned (.string s) ∧ s.size ≤ m ∧ Below w.heap.size w w'
set_option maxHeartbeats 800000 in
theorem drawTok_any (A : Option Addr) (n c : Nat) (xs : List UInt8) (w : World) (hx : Reads w w.heap.size 1 A n (byCells xs)) (hl : xs.length = n) (hn : n ≤ 1048576) (hc : n ≤ c) (hc2 : c ≤ maxLen) :
    Calls Tryd.prog 36 #[.slice A n c] w (OneText 100 w) := by
  have HO := Lib.hid (open_c A n c xs w hx hl hn hc hc2)
  clear hx hl
  go_enter Tryd.func36, Tryd.ntmps36
  go_wp2_with fail
  refine HO.out.mono ?_
  rintro e w1 ⟨rfl, r1, b1, -⟩
  go_wp2_with fail
  refine (pick_c _ 1000 9 _ (r1.less (by omega)) (by omega)).mono ?_
  rintro e w2 ⟨y, rfl, hy, r2, t2, -⟩
  have B2 := t2.below b1 (Nat.le_refl _)
  have hy8 : y ≤ 8 := by omega
  clear t2 b1 r1 hy HO
  go_wp2_with fail
  go_loopw [4, 5] (fun ov kv wr => ∃ (k : Nat) (s : ByteArray), kv = .int .i64 k ∧ ov = .string s ∧ k ≤ 8 ∧ s.size + 6 * k ≤ 48 ∧ Rc wr w.heap.size (100 + k) ∧ Below w.heap.size w wr) (fun _ kv _ => (intOf kv).toNat)
  case atStart => exact ⟨y, ByteArray.empty, rfl, rfl, hy8, by simp; omega, r2.less (by omega), B2⟩
  case round =>
    obtain ⟨k, s, rfl, rfl, hk, hsk, rc, hb⟩ := hrel
    have hR := rc.lt
    by_cases hk0 : k = 0
    · subst hk0
      go_wp2_with fail
      refine (odd_c _ 50 6 _ (rc.less (by omega)) (by omega)).mono ?_
      rintro e w3 ⟨q, rfl, r3, t3, -⟩
      have B3 := t3.below hb (Nat.le_refl _)
      have hR3 := r3.lt
      cases q
      · go_wp2_with fail
        go_ret
        exact ⟨s, rfl, by omega, B3⟩
      · go_wp2_with fail
        refine (pick_c _ 40 6 _ ((r3.alloc _).less (by omega)) (by omega)).mono ?_
        rintro e w4 ⟨x, rfl, hx, r4, t4, -⟩
        have B4 := t4.below (B3.alloc B3.size _) (Nat.le_refl _)
        obtain ⟨p, c2, hp⟩ := strs_cell (m := 6) (Blk.new _ _ _) hR3 t4 (x := x) (by simp; omega) (by kernel_rfl)
        have hx6 : (x : Int) < 6 := by omega
        have hsz : (s ++ p).size ≤ 100 := by rw [ByteArray.size_append]; omega
        clear hx t4
        go_wp2_with fail
        go_ret
        exact ⟨s ++ p, rfl, hsz, B4⟩
    · have hk1 : (0 : Int) < (k : Int) := by omega
      go_wp2_with fail
      refine (pick_c _ (100 + (k - 1)) 11 _ ((rc.alloc _).less (by omega)) (by omega)).mono ?_
      rintro e w4 ⟨x, rfl, hx, r4, t4, -⟩
      have B4 := t4.below (hb.alloc hb.size _) (Nat.le_refl _)
      obtain ⟨p, c2, hp⟩ := strs_cell (m := 6) (Blk.new _ _ _) hR t4 (x := x) (by simp; omega) (by kernel_rfl)
      have hx6 : (x : Int) < 11 := by omega
      have hsz : (s ++ p).size + 6 * (k - 1) ≤ 48 := by rw [ByteArray.size_append]; omega
      clear hx t4
      go_wp2_with fail
      go_roundw
      case rel =>
        refine ⟨k - 1, s ++ p, ?_, rfl, by omega, hsz, r4, B4⟩
        rw [Int.natCast_sub (by omega)]; rfl
      case measure => simp [intOf]; omega
end Go.Proofs.YtnihhbmihbcgbaaDoor
