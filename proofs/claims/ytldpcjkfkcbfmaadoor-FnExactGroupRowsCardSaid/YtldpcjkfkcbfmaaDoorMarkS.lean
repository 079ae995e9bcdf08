/- marks in slices of strings: markStringS, heldStringS (door seats; the same words as in XStrs, over XStr). -/
import Derived.Test.YtldpcjkfkcbfmaaDoorMarkText
import Derived.Test.YtldpcjkfkcbfmaaDoorStr
import Derived.Test.YtldpcjkfkcbfmaaDoorInts
import Derived.Deep.LoopGhost
import Derived.Deep.RegionHeld3
import Derived.StillTailTactics
namespace Go.Proofs.YtldpcjkfkcbfmaaDoor
open Go Go.RowKit
set_option maxRecDepth 100000

def stMarks (k m : Nat) : List ByteArray := (List.range m).map fun (i : Nat) => markT (k + i)
theorem stMarks_succ (k m : Nat) : stMarks k (m + 1) = stMarks k m ++ [markT (k + m)] := by simp [stMarks, List.range_succ]
theorem stMarks_length (k m : Nat) : (stMarks k m).length = m := by simp [stMarks]
theorem stMarks_at (k m j : Nat) (h : j < m) : (stMarks k m)[j]? = some (markT (k + j)) := by simp [stMarks, h]

set_option maxHeartbeats 400000 in
theorem markStringS_own (g cap : Nat) (base : Nat) (n k : Nat) (xs : List Value) (w : World) (hown : w.ownsRow base 9 1 (.slice (some ⟨g, 0, none⟩) n cap) n xs)
    (hk1 : k ≤ 5000000000000) (hn : n ≤ 1000000000) :
    Calls Tryd.prog 18 #[.slice (some ⟨g, 0, none⟩) n cap, .int .i64 k] w fun e w' => e = .returned (.int .i64 (k + n : Nat)) ∧ w'.ownsRow base 9 1 (.slice (some ⟨g, 0, none⟩) n cap) n (stCells (stMarks k n)) ∧ w.grownBy w' (some g) := by
  have HXN := Lib.hid (show xs.length = n by have := hown.1; omega)
  go_enter Tryd.func18, Tryd.ntmps18
  go_wp2
  go_loopw [1, 5] (fun q i wr => ∃ j : Nat, j ≤ n ∧ i = .int .i64 j ∧ q = .int .i64 (k + j : Nat) ∧ wr.ownsRow base 9 1 (.slice (some ⟨g, 0, none⟩) n cap) n (stCells (stMarks k j) ++ xs.drop j) ∧ w.grownBy wr (some g)) (fun _ i _ => n - (intOf i).toNat)
  case atStart => exact ⟨0, Nat.zero_le _, rfl, by simp, by simpa [stMarks, stCells] using hown, World.grownBy.refl _ _⟩
  case round =>
    obtain ⟨j, hj, rfl, rfl, ho, hg⟩ := hrel
    by_cases hlt : j < n
    · go_wp2_with fail
      refine (markText_any (k + j) _ (by omega)).mono ?_
      rintro e w2 ⟨rfl, b2⟩
      obtain ⟨T, hT⟩ : ∃ T, markT (k + j) = T := ⟨_, rfl⟩
      have ho2 := own_below ho b2
      have hg2 := hg.trans (only_of_below b2 (some g))
      rw [hT]
      have HT := Lib.hid hT
      have hl := ho2.1
      obtain ⟨u0, h0⟩ : ∃ u, w2.cell? ⟨g, j, none⟩ = some u := ⟨_, (ho2.cellAt j (by omega)).trans (List.getElem?_eq_getElem (by omega))⟩
      have f0 := ho2.frozenAt j
      have HO := Lib.hid ho2
      have HG := Lib.hid hg2
      clear ho hl hown ho2 hg hg2 b2 hT
      go_wp2
      go_roundw
      case rel =>
        refine ⟨j + 1, by omega, by go_num, by go_num, ?_⟩
        have R := own_store1 (j := j) (ys := stCells (stMarks k j)) (xs := xs) HO.out HXN.out (by rw [stCells_length, stMarks_length]) hlt (.string T)
        rw [stMarks_succ, stCells_append, HT.out]
        exact ⟨R.1, HG.out.trans R.2⟩
      case measure => simp [intOf]; omega
    · obtain rfl : j = n := by omega
      go_wp2
      go_ret
      refine ⟨rfl, ?_, hg⟩
      rw [List.drop_of_length_le (by have := HXN.out; omega), List.append_nil] at ho
      exact ho

theorem markStringS_any (base : Nat) (n k : Nat) (v : Value) (xs : List Value) (w : World) (hown : w.ownsRow base 9 1 v n xs)
    (hk1 : k ≤ 5000000000000) (hn : n ≤ 1000000000) :
    Calls Tryd.prog 18 #[v, .int .i64 k] w fun e w' => e = .returned (.int .i64 (k + n : Nat)) ∧ w'.ownsRow base 9 1 v n (stCells (stMarks k n)) ∧ w.grownBy w' v.ownBlock := by
  rcases own_cases hown with ⟨rfl, rfl, rfl⟩ | ⟨g, cap, rfl⟩
  · go_enter Tryd.func18, Tryd.ntmps18
    go_wp2
    refine wp_loop_rounds 1 ?_
    rw [rounds_succ]
    go_wp2
    go_ret
    exact ⟨ret_int (by simp), hown, World.grownBy.refl _ _⟩
  · refine (markStringS_own g cap base n k xs w hown hk1 hn).mono ?_
    rintro e w' ⟨rfl, h1, h2⟩
    exact ⟨rfl, h1, h2⟩
set_option maxHeartbeats 400000 in
theorem heldStringS_any (A : Option Addr) (n c k : Nat) (w : World) (hx : Reads w w.heap.size 1 A n (stCells (stMarks k n)))
    (hk1 : k ≤ 5000000000000) (hn : n ≤ 1000000000) :
    Calls Tryd.prog 32 #[.slice A n c, .int .i64 k] w fun e w' => e = .returned (.int .i64 (k + n : Nat)) ∧ Below w.heap.size w w' := by
  go_enter Tryd.func32, Tryd.ntmps32
  go_wp2
  go_loopw [1, 5] (fun q i wr => ∃ j : Nat, j ≤ n ∧ i = .int .i64 j ∧ q = .int .i64 (k + j : Nat) ∧ Below w.heap.size w wr) (fun _ i _ => n - (intOf i).toNat)
  case atStart => exact ⟨0, Nat.zero_le _, rfl, by simp, Below.refl _ _⟩
  case round =>
    obtain ⟨j, hj, rfl, rfl, hb⟩ := hrel
    by_cases hlt : j < n
    · obtain ⟨ad, x, rfl, _, hxk, e1⟩ := st_at (hx.below hb) (stMarks_length k n) hlt
      obtain rfl : x = markT (k + j) := Option.some.inj (hxk.symm.trans (stMarks_at k n j hlt))
      have MT := Lib.hid (fun w => markText_any (k + j) w (by omega))
      obtain ⟨T, hT⟩ : ∃ T, markT (k + j) = T := ⟨_, rfl⟩
      rw [hT] at e1 MT
      have hk0 : (0 : Int) ≤ (j : Int) := Int.natCast_nonneg _
      have hk1 : (j : Int) < (n : Int) := by omega
      clear hxk hx hT
      go_wp2_with fail
      go_region_held3 (fun w' => w'.cell? (ad.add j) = some (.string T)) (first | go_keep | (refine below_keep hb' ?_; assumption))
        (first | (go_at_call 39; refine (MT.out _).mono ?_; rintro e w' ⟨rfl, hb'⟩))
      have hbb := hb.drew.trans (hb'.mono hb.size)
      clear hb'
      go_wp2
      go_roundw
      case rel => exact ⟨j + 1, by omega, by go_num, by go_num, hbb⟩
      case measure => simp [intOf]; omega
    · obtain rfl : j = n := by omega
      go_wp2
      go_ret
      exact ⟨rfl, hb⟩
end Go.Proofs.YtldpcjkfkcbfmaaDoor
