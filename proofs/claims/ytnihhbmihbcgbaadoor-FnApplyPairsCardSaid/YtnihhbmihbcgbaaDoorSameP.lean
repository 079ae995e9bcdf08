/- laws.samePairs at lists that are equal. -/
import Derived.Test.YtnihhbmihbcgbaaDoorSameL
import Derived.Test.YtnihhbmihbcgbaaDoorPair
namespace Go.Proofs.YtnihhbmihbcgbaaDoor
open Go Go.RowKit
set_option maxRecDepth 100000
set_option maxHeartbeats 400000 in
theorem samePairs_yes (A B : Option Addr) (n c d : Nat) (xs : List (Int × Int)) (w : World) (hxn : xs.length = n) (hx : Reads w w.heap.size 2 A n (prCells xs)) (hy : Reads w w.heap.size 2 B n (prCells xs)) (hn : n ≤ 1000000000) :
    Calls Tryd.prog 24 #[.slice A n c, .slice B n d] w fun e w' => e = .returned (.bool true) ∧ Below w.heap.size w w' := by
  have HX := Lib.hid hxn
  clear hxn
  go_enter Tryd.func24, Tryd.ntmps24
  go_wp2
  go_loopw [5] (fun i wr => ∃ k : Nat, k ≤ n ∧ i = .int .i64 k ∧ Below w.heap.size w wr) (fun i _ => n - (intOf i).toNat)
  case atStart => exact ⟨0, Nat.zero_le _, rfl, Below.refl _ _⟩
  case round =>
    obtain ⟨k, hk, rfl, hb⟩ := hrel
    by_cases hlt : k < n
    · obtain ⟨ad, x1, x2, rfl, _, hxk, e1, e2⟩ := pr_at (hx.below hb) HX.out hlt
      obtain ⟨bd, y1, y2, rfl, _, hyk, f1, f2⟩ := pr_at (hy.below hb) HX.out hlt
      obtain ⟨rfl, rfl⟩ : x1 = y1 ∧ x2 = y2 := by simpa using hxk.symm.trans hyk
      clear hxk hyk
      clear hx hy
      have hk0 : (0 : Int) ≤ (k : Int) := Int.natCast_nonneg _
      have hk1 : (k : Int) < (n : Int) := by omega
      go_wp2_with fail
      go_quiet (fail)
      go_wp2
      go_roundw
      case rel => exact ⟨k + 1, by omega, by go_num, below_drewN hb _⟩
      case measure => simp [intOf]; omega
    · obtain rfl : k = n := by omega
      go_wp2
      go_ret
      exact ⟨rfl, hb⟩

end Go.Proofs.YtnihhbmihbcgbaaDoor
