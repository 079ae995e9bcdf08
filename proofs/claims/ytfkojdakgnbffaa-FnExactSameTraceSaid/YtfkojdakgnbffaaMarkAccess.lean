/- laws.markAccessS, laws.heldAccessS: marks laid and read again. -/
import Derived.Test.YtfkojdakgnbffaaEqAccess
namespace Go.Proofs.Ytfkojdakgnbffaa
open Go Go.RowKit

def accMarks (k : Int) (m : Nat) : List (Int × Int × Bool) := (List.range m).map fun (i : Nat) => (k + 3 * i, k + 3 * i + 1, (k + 3 * i + 1 + 1) % 3 == 0)

theorem accMarks_succ (k : Int) (m : Nat) : accMarks k (m + 1) = accMarks k m ++ [(k + 3 * m, k + 3 * m + 1, (k + 3 * m + 1 + 1) % 3 == 0)] := by
  simp [accMarks, List.range_succ]
theorem accCells_length (xs : List (Int × Int × Bool)) : (accCells xs).length = 3 * xs.length := by
  induction xs with
  | nil => rfl
  | cons x xs ih =>
    have h : accCells (x :: xs) = [.int .i64 x.1, .int .i64 x.2.1, .bool x.2.2] ++ accCells xs := rfl
    rw [h, List.length_append, ih]; simp; omega
theorem accCells_append (xs ys : List (Int × Int × Bool)) : accCells (xs ++ ys) = accCells xs ++ accCells ys := by simp [accCells, List.flatMap_append]
theorem accMarks_length (k : Int) (m : Nat) : (accMarks k m).length = m := by simp [accMarks]
theorem set3 {α : Type} (ys xs : List α) (j : Nat) (a b c : α) (hy : ys.length = j * 3) (hx : j * 3 + 2 < xs.length) :
    (((ys ++ xs.drop (3 * j)).set (j * 3) a).set (j * 3 + 1) b).set (j * 3 + 2) c = (ys ++ [a, b, c]) ++ xs.drop (3 * (j + 1)) := by
  obtain ⟨x0, x1, x2, r, hr⟩ : ∃ x0 x1 x2 r, xs.drop (3 * j) = x0 :: x1 :: x2 :: r := by
    have hl : 3 ≤ (xs.drop (3 * j)).length := by rw [List.length_drop]; omega
    match h : xs.drop (3 * j), hl with
    | x0 :: x1 :: x2 :: r, _ => exact ⟨x0, x1, x2, r, rfl⟩
  have hr' : xs.drop (3 * (j + 1)) = r := by
    have : xs.drop (3 * (j + 1)) = (xs.drop (3 * j)).drop 3 := by rw [List.drop_drop]; congr 1
    rw [this, hr]; rfl
  rw [hr, hr']
  rw [List.set_append_right _ _ (by omega), List.set_append_right _ _ (by omega), List.set_append_right _ _ (by omega)]
  rw [hy, show j * 3 - j * 3 = 0 by omega, show j * 3 + 1 - j * 3 = 1 by omega, show j * 3 + 2 - j * 3 = 2 by omega]
  simp
theorem own_store3 {w : World} {base g n cap j : Nat} {e : TypeId} {xs ys : List Value} (h : w.ownsRow base e 3 (.slice (some ⟨g, 0, none⟩) n cap) n (ys ++ xs.drop (3 * j))) (hx : xs.length = n * 3) (hy : ys.length = j * 3) (hj : j < n) (a b c : Value) :
    (((w.setCell ⟨g, j * 3, none⟩ a).setCell ⟨g, j * 3 + 1, none⟩ b).setCell ⟨g, j * 3 + 2, none⟩ c).ownsRow base e 3 (.slice (some ⟨g, 0, none⟩) n cap) n ((ys ++ [a, b, c]) ++ xs.drop (3 * (j + 1))) ∧
      w.grownBy (((w.setCell ⟨g, j * 3, none⟩ a).setCell ⟨g, j * 3 + 1, none⟩ b).setCell ⟨g, j * 3 + 2, none⟩ c) (some g) := by
  have s1 := h.stored (j * 3) a
  have s2 := s1.1.stored (j * 3 + 1) b
  have s3 := s2.1.stored (j * 3 + 2) c
  rw [set3 ys xs j a b c hy (by omega)] at s3
  exact ⟨s3.1, (s1.2.trans s2.2).trans s3.2⟩

set_option maxHeartbeats 400000 in
theorem markAccessS_own (g cap : Nat) (base : Nat) (n : Nat) (k : Int) (xs : List Value) (w : World) (hown : w.ownsRow base 56 3 (.slice (some ⟨g, 0, none⟩) n cap) n xs)
    (hk0 : 0 ≤ k) (hk1 : k ≤ 1000000000) (hn : n ≤ 1000000000) :
    Calls Try.prog 19 #[.slice (some ⟨g, 0, none⟩) n cap, .int .i64 k] w fun e w' => e = .returned (.int .i64 (k + 3 * n)) ∧ w'.ownsRow base 56 3 (.slice (some ⟨g, 0, none⟩) n cap) n (accCells (accMarks k n)) ∧ w.grownBy w' (some g) := by
  have HXN := Lib.hid hown.1
  go_enter Try.func19, Try.ntmps19
  go_wp2
  go_loopw [1, 5] (fun q i wr => ∃ j : Nat, j ≤ n ∧ i = .int .i64 j ∧ q = .int .i64 (k + 3 * j) ∧ wr.ownsRow base 56 3 (.slice (some ⟨g, 0, none⟩) n cap) n (accCells (accMarks k j) ++ xs.drop (3 * j)) ∧ w.grownBy wr (some g)) (fun _ i _ => n - (intOf i).toNat)
  case atStart => exact ⟨0, Nat.zero_le _, rfl, by simp, by simpa [accMarks, accCells] using hown, World.grownBy.refl _ _⟩
  case round =>
    obtain ⟨j, hj, rfl, rfl, ho, hg⟩ := hrel
    by_cases hlt : j < n
    · have hl := ho.1
      obtain ⟨u0, h0⟩ : ∃ u, wr.cell? ⟨g, j * 3, none⟩ = some u := ⟨_, (ho.cellAt (j * 3) (by omega)).trans (List.getElem?_eq_getElem (by omega))⟩
      obtain ⟨u1, h1⟩ : ∃ u, wr.cell? ⟨g, j * 3 + 1, none⟩ = some u := ⟨_, (ho.cellAt (j * 3 + 1) (by omega)).trans (List.getElem?_eq_getElem (by omega))⟩
      obtain ⟨u2, h2⟩ : ∃ u, wr.cell? ⟨g, j * 3 + 2, none⟩ = some u := ⟨_, (ho.cellAt (j * 3 + 2) (by omega)).trans (List.getElem?_eq_getElem (by omega))⟩
      have f0 := ho.frozenAt (j * 3)
      have f1 := ho.frozenAt (j * 3 + 1)
      have f2 := ho.frozenAt (j * 3 + 2)
      have HO := Lib.hid ho
      have HL := Lib.hid hl
      clear ho hl hown
      go_wp2
      go_roundw
      case rel =>
        refine ⟨j + 1, by omega, by go_num, by go_num, ?_⟩
        have R := own_store3 (j := j) (ys := accCells (accMarks k j)) (xs := xs) HO.out HXN.out (by rw [accCells_length, accMarks_length]; omega) hlt (.int .i64 (k + 3 * j)) (.int .i64 (k + 3 * j + 1)) (.bool ((k + 3 * j + 1 + 1) % 3 == 0))
        rw [accMarks_succ, accCells_append]
        exact ⟨R.1, hg.trans R.2⟩
      case measure => simp [intOf]; omega
    · obtain rfl : j = n := by omega
      go_wp2
      go_ret
      refine ⟨rfl, ?_, hg⟩
      rw [List.drop_of_length_le (by have := HXN.out; omega), List.append_nil] at ho
      exact ho

theorem accMarks_at (k : Int) (m j : Nat) (h : j < m) : (accMarks k m)[j]? = some (k + 3 * j, k + 3 * j + 1, (k + 3 * j + 1 + 1) % 3 == 0) := by
  simp [accMarks, h]

theorem markAccessS_any (base : Nat) (n : Nat) (k : Int) (v : Value) (xs : List Value) (w : World) (hown : w.ownsRow base 56 3 v n xs)
    (hk0 : 0 ≤ k) (hk1 : k ≤ 1000000000) (hn : n ≤ 1000000000) :
    Calls Try.prog 19 #[v, .int .i64 k] w fun e w' => e = .returned (.int .i64 (k + 3 * n)) ∧ w'.ownsRow base 56 3 v n (accCells (accMarks k n)) ∧ w.grownBy w' v.ownBlock := by
  rcases own_cases hown with ⟨rfl, rfl, rfl⟩ | ⟨g, cap, rfl⟩
  · go_enter Try.func19, Try.ntmps19
    go_wp2
    refine wp_loop_rounds 1 ?_
    rw [rounds_succ]
    go_wp2
    go_ret
    exact ⟨ret_int (by simp), hown, World.grownBy.refl _ _⟩
  · refine (markAccessS_own g cap base n k xs w hown hk0 hk1 hn).mono ?_
    rintro e w' ⟨rfl, h1, h2⟩
    exact ⟨rfl, h1, h2⟩

set_option maxHeartbeats 400000 in
theorem heldAccessS_any (A : Option Addr) (n c : Nat) (k : Int) (w : World) (hx : Reads w w.heap.size 3 A n (accCells (accMarks k n)))
    (hk0 : 0 ≤ k) (hk1 : k ≤ 1000000000) (hn : n ≤ 1000000000) :
    Calls Try.prog 20 #[.slice A n c, .int .i64 k] w fun e w' => e = .returned (.int .i64 (k + 3 * n)) ∧ w = w' := by
  go_enter Try.func20, Try.ntmps20
  go_wp2
  go_loop [1, 5] (fun q i => ∃ j : Nat, j ≤ n ∧ i = .int .i64 j ∧ q = .int .i64 (k + 3 * j)) (fun _ i => n - (intOf i).toNat)
  case atStart => exact ⟨0, Nat.zero_le _, rfl, by simp⟩
  case round =>
    obtain ⟨j, hj, rfl, rfl⟩ := hrel
    by_cases hlt : j < n
    · obtain ⟨ad, u0, u1, u2, rfl, hadb, g0, g1, g2, e1, e2, e3⟩ := hx.at3 hlt
      obtain ⟨rfl, rfl, rfl⟩ : u0 = .int .i64 (k + 3 * j) ∧ u1 = .int .i64 (k + 3 * j + 1) ∧ u2 = .bool ((k + 3 * j + 1 + 1) % 3 == 0) := by
        have := accCells_at _ j _ (accMarks_at k n j hlt)
        exact ⟨Option.some.inj (g0.symm.trans this.1), Option.some.inj (g1.symm.trans this.2.1), Option.some.inj (g2.symm.trans this.2.2)⟩
      clear g0 g1 g2 hx
      go_wp2
      go_round
      case rel => exact ⟨j + 1, by omega, by go_num, by go_num⟩
      case measure => simp [intOf]; omega
    · obtain rfl : j = n := by omega
      go_wp2
      go_ret
      exact ⟨rfl, rfl⟩
end Go.Proofs.Ytfkojdakgnbffaa
