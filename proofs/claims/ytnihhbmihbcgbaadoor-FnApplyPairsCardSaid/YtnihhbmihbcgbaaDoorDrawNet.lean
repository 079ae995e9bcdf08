/- spec.DrawCrossTrace, spec.DrawNetworkOf. -/
import Derived.Test.YtnihhbmihbcgbaaDoorDraw
namespace Go.Proofs.YtnihhbmihbcgbaaDoor
open Go Go.RowKit

def Two (lo hi : Int) (w : World) (e : Ending) (w' : World) : Prop := ∃ a b : Int, e = .returned (.tuple #[.int .i64 a, .int .i64 b]) ∧ lo ≤ a ∧ a ≤ hi ∧ lo ≤ b ∧ b ≤ hi ∧ Below w.heap.size w w'
set_option maxHeartbeats 400000 in
theorem drawCross_any (A : Option Addr) (n c : Nat) (xs : List UInt8) (w : World) (hx : Reads w w.heap.size 1 A n (byCells xs)) (hl : xs.length = n) (hn : n ≤ 1048576) (hc : n ≤ c) (hc2 : c ≤ maxLen) :
    Calls Tryd.prog 19 #[.slice A n c] w (Two (-1) 17 w) := by
  have HO := Lib.hid (open_c A n c xs w hx hl hn hc hc2)
  clear hx hl
  go_enter Tryd.func19, Tryd.ntmps19
  go_wp2_with fail
  refine HO.out.mono ?_
  rintro e w1 ⟨rfl, r1, b1, s1⟩
  go_wp2_with fail
  refine (pick_c _ 10 19 _ (r1.less (by omega)) (by omega)).mono ?_
  rintro e w2 ⟨x, rfl, hx, r2, t2, s2⟩
  go_wp2_with fail
  refine (pick_c _ 9 19 _ r2 (by omega)).mono ?_
  rintro e w3 ⟨y, rfl, hy, r3, t3, s3⟩
  go_wp2_with fail
  go_ret2
  exact ⟨_, _, rfl, by omega, by omega, by omega, by omega, (t2.trans t3).below b1 (Nat.le_refl _)⟩
theorem tbl_at (L : List Int) (x : Nat) (h : x < L.length) : ∃ z, L[x]? = some z ∧ z ∈ L := ⟨_, List.getElem?_eq_getElem h, List.getElem_mem h⟩
/-- A fresh row of numbers, read behind draws. -/
theorem tbl_cell {w w' : World} {R : Nat} (L : List Int) {t : TypeId} {g x : Nat} (hb : Blk w g t (L.map (Value.int .i64)).toArray) (hg : R < g) (ht : Touch R (R + 1) w w') (h : x < L.length) :
    ∃ z, z ∈ L ∧ w'.cell? ⟨g, x, none⟩ = some (.int .i64 z) := by
  obtain ⟨z, hz, hm⟩ := tbl_at L x h
  refine ⟨z, hm, ?_⟩
  have := (ht.blk hb (Or.inr hg)).cell x
  rw [this]
  simp [hz]
def OneInt (w : World) (e : Ending) (w' : World) : Prop := ∃ a : Int, e = .returned (.int .i64 a) ∧ -1 ≤ a ∧ a ≤ 257 ∧ Below w.heap.size w w'
set_option maxHeartbeats 400000 in
theorem drawNet_any (A : Option Addr) (n c : Nat) (xs : List UInt8) (w : World) (hx : Reads w w.heap.size 1 A n (byCells xs)) (hl : xs.length = n) (hn : n ≤ 1048576) (hc : n ≤ c) (hc2 : c ≤ maxLen) :
    Calls Tryd.prog 22 #[.slice A n c] w (OneInt w) := by
  have HO := Lib.hid (open_c A n c xs w hx hl hn hc hc2)
  clear hx hl
  go_enter Tryd.func22, Tryd.ntmps22
  go_wp2_with fail
  refine HO.out.mono ?_
  rintro e w1 ⟨rfl, r1, b1, -⟩
  go_wp2_with fail
  refine (pick_c _ 10 20 _ (r1.less (by omega)) (by omega)).mono ?_
  rintro e w2 ⟨x, rfl, hx, r2, t2, -⟩
  go_wp2_with fail
  refine (pick_c _ 9 64 _ r2 (by omega)).mono ?_
  rintro e w3 ⟨y, rfl, hy, r3, t3, -⟩
  have hR := r3.lt
  go_wp2_with fail
  refine (pick_c _ 8 8 _ ((r3.alloc _).alloc _) (by omega)).mono ?_
  rintro e w4 ⟨z, rfl, hz, r4, t4, -⟩
  have hb : Below w.heap.size w w4 := t4.below ((((t2.trans t3).below b1 (Nat.le_refl _)).alloc (Nat.le_trans (by omega) (Nat.le_of_lt hR)) _).alloc (by simp; omega) _) (Nat.le_refl _)
  obtain ⟨i, hi, c1⟩ := tbl_cell [0, 0, 0, 1, 1, 2, 3, 4] (Blk.new _ _ _) (by simp; omega) t4 (x := z) (by simp; omega)
  obtain ⟨v, hv, c2⟩ := tbl_cell [(x : Int), 1 + (y : Int), 256, 257, -1] ((Blk.new _ _ _).alloc _) hR t4 (x := i.toNat) (by simp at hi ⊢; omega)
  have hi0 : 0 ≤ i := by simp at hi; omega
  have hi1 : i < 5 := by simp at hi; omega
  have hv0 : -1 ≤ v ∧ v ≤ 257 := by simp at hv; omega
  have hz0 : (z : Int) < 8 := by omega
  clear hi hv hx hy hz
  rw [World.size_alloc] at c1
  go_wp2_with fail

  go_ret
  exact ⟨v, rfl, hv0.1, hv0.2, hb⟩
end Go.Proofs.YtnihhbmihbcgbaaDoor
