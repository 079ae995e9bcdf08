/- laws.toAccess, toAccessS, szAccessS. -/
import Derived.Test.YtfkojdakgnbffaaMarkAccess
import Derived.Test.YtfkojdakgnbffaaPass
namespace Go.Proofs.Ytfkojdakgnbffaa
open Go Go.RowKit

set_option maxHeartbeats 400000 in
theorem toAccess_any (a1 a2 : Int) (a3 : Bool) (w : World) :
    Calls Try.prog 45 #[.agg #[.int .i64 a1, .int .i64 a2, .bool a3]] w fun e w' => e = .returned (.agg #[.int .i64 a1, .int .i64 a2, .bool a3]) ∧ Below w.heap.size w w' := by
  go_enter Try.func45, Try.ntmps45
  go_wp2
  refine bodyPost_ret (v := .agg #[.int .i64 a1, .int .i64 a2, .bool a3]) (by simp [results, Try.results45, go_sem]) rfl ⟨rfl, ?_⟩
  exact (((Below.refl _ _).alloc (Nat.le_refl _) _).alloc (by simp) _).alloc (by simp; omega) _

set_option maxHeartbeats 400000 in
theorem toAccessS_any (A : Option Addr) (n c : Nat) (xs : List (Int × Int × Bool)) (w : World) (hx : Reads w w.heap.size 3 A n (accCells xs)) (hn : n ≤ 1048576) (hxn : xs.length = n) :
    Calls Try.prog 14 #[.slice A n c] w fun e w' => ∃ v, e = .returned v ∧ w'.ownsRow w.heap.size 56 3 v n (accCells xs) ∧ Below w.heap.size w w' := by
  obtain ⟨i0, hi0, hz0, hz1, hz2⟩ := info_parts infoAccess
  have HX := Lib.hid hxn
  clear hxn
  go_enter Try.func14, Try.ntmps14
  go_wp2_with (at_make; refine wpList_make_full _ rfl _ _ 26 rfl w.heap.size 56 i0 _ 3 Try.underlying26 hi0 hz0 hz1 .i64 .i64 _ _ n rfl rfl rfl rfl (by rw [hz2]; omega) (by unfold maxLen; omega) (Nat.le_refl _) ?_; intro w1 hown1 hgrow1)
  have hb1 : Below w.heap.size w w1 := (Below.refl _ _).grown hgrow1 (Nat.le_refl _) (by simp)
  generalize hD : (madeCells (Value.agg #[Value.int IntKind.i64 0, Value.int IntKind.i64 0, Value.bool false]).cells (n * 3)).toList = D at hown1
  have HDL := Lib.hid hown1.1
  clear hD hgrow1
  go_loopw [4] (fun i wr => ∃ j : Nat, j ≤ n ∧ i = .int .i64 j ∧ wr.ownsRow w.heap.size 56 3 (.slice (some ⟨w.heap.size, 0, none⟩) n n) n (accCells (xs.take j) ++ D.drop (3 * j)) ∧ Below w.heap.size w wr) (fun i _ => n - (intOf i).toNat)
  case atStart => exact ⟨0, Nat.zero_le _, rfl, by simpa [accCells] using hown1, hb1⟩
  case round =>
    clear hown1 hb1
    obtain ⟨j, hj, rfl, hown, hb⟩ := hrel
    by_cases hlt : j < n
    · obtain ⟨⟨x1, x2, x3⟩, hxk⟩ : ∃ x : Int × Int × Bool, xs[j]? = some x := ⟨_, List.getElem?_eq_getElem (by have := HX.out; omega)⟩
      obtain ⟨ad, u0, u1, u2, rfl, hadb, g0, g1, g2, e1, e2, e3⟩ := (hx.below hb).at3 hlt
      obtain ⟨rfl, rfl, rfl⟩ : u0 = .int .i64 x1 ∧ u1 = .int .i64 x2 ∧ u2 = .bool x3 := by
        have := accCells_at xs j _ hxk
        exact ⟨Option.some.inj (g0.symm.trans this.1), Option.some.inj (g1.symm.trans this.2.1), Option.some.inj (g2.symm.trans this.2.2)⟩
      have HXK := Lib.hid hxk
      clear hxk g0 g1 g2 hx
      go_wp2_with fail
      refine (toAccess_any _ _ _ _).mono ?_
      rintro e w2 ⟨rfl, hb2⟩
      have ho2 := own_below hown hb2
      have hbb := hb.trans (hb2.mono hb.size)
      have hl := ho2.1
      obtain ⟨y0, h0⟩ : ∃ u, w2.cell? ⟨w.heap.size, j * 3, none⟩ = some u := ⟨_, (ho2.cellAt (j * 3) (by omega)).trans (List.getElem?_eq_getElem (by omega))⟩
      obtain ⟨y1, h1⟩ : ∃ u, w2.cell? ⟨w.heap.size, j * 3 + 1, none⟩ = some u := ⟨_, (ho2.cellAt (j * 3 + 1) (by omega)).trans (List.getElem?_eq_getElem (by omega))⟩
      obtain ⟨y2, h2⟩ : ∃ u, w2.cell? ⟨w.heap.size, j * 3 + 2, none⟩ = some u := ⟨_, (ho2.cellAt (j * 3 + 2) (by omega)).trans (List.getElem?_eq_getElem (by omega))⟩
      have f0 := ho2.frozenAt (j * 3)
      have f1 := ho2.frozenAt (j * 3 + 1)
      have f2 := ho2.frozenAt (j * 3 + 2)
      have HO := Lib.hid ho2
      clear ho2 hl hown hb hb2
      go_wp2
      go_roundw
      case rel =>
        have e : accCells (xs.take (j + 1)) = accCells (xs.take j) ++ [.int .i64 x1, .int .i64 x2, .bool x3] := by
          rw [List.take_add_one, HXK.out, accCells_append]; rfl
        have R := own_store3 (j := j) (ys := accCells (xs.take j)) (xs := D) HO.out HDL.out (by rw [accCells_length, List.length_take]; have := HX.out; omega) hlt (.int .i64 x1) (.int .i64 x2) (.bool x3)
        refine ⟨j + 1, by omega, by go_num, by rw [e]; exact R.1, ?_⟩
        exact hbb.grown R.2 hbb.size (by simp)
      case measure => simp [intOf]; omega
    · obtain rfl : j = n := by omega
      go_wp2
      go_ret
      refine ⟨_, rfl, ?_, hb⟩
      rw [List.take_of_length_le (by have := HX.out; omega), List.drop_of_length_le (by have := HDL.out; omega), List.append_nil] at hown
      exact hown

set_option maxHeartbeats 400000 in
theorem szAccessS_any (A : Option Addr) (n c : Nat) (l : Int) (w : World) (h0 : 0 ≤ l) (h1 : l ≤ 1048576) (hn : n ≤ 9223372036854775807) :
    Calls Try.prog 12 #[.slice A n c, .int .i64 l] w fun e w' => e = .returned (.int .i64 (if l < n then -1 else l - n)) ∧ w = w' := by
  by_cases h : l < n
  · rw [if_pos h]
    go_enter Try.func12, Try.ntmps12
    go_wp2
    go_ret
    exact ⟨rfl, rfl⟩
  · rw [if_neg h]
    go_enter Try.func12, Try.ntmps12
    go_wp2
    go_ret
    exact ⟨rfl, rfl⟩
end Go.Proofs.Ytfkojdakgnbffaa
