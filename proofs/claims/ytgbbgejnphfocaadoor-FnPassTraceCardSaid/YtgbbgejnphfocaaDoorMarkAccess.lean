/- laws.markAccessS, laws.heldAccessS: marks laid and read again. -/
import Derived.Test.YtgbbgejnphfocaaDoorEqAccess
namespace Go.Proofs.YtgbbgejnphfocaaDoor
open Go Go.RowKit

def accMarks (k : Int) (m : Nat) : List (Int × Int × Bool) := (List.range m).map fun (i : Nat) => (k + 3 * i, k + 3 * i + 1, (k + 3 * i + 1 + 1) % 3 == 0)

theorem accMarks_succ (k : Int) (m : Nat) : accMarks k (m + 1) = accMarks k m ++ [(k + 3 * m, k + 3 * m + 1, (k + 3 * m + 1 + 1) % 3 == 0)] := by
  simp [accMarks, List.range_succ]
theorem accCells_length (xs : List (Int × Int × Bool)) : (accCells xs).length = 3 * xs.length := by
  induction xs with
  | nil => rfl
  | cons x xs ih =>
    have h : accCells (x :: xs) = [.int .i64 x.1, .int .i64 x.2.1, .bool x.2.2] ++ accCells xs := rfl
    rw [h, List.length_append, ih]; simp; omega
theorem accCells_append (xs ys : List (Int × Int × Bool)) : accCells (xs ++ ys) = accCells xs ++ accCells ys := by simp [accCells, List.flatMap_append]
theorem accMarks_length (k : Int) (m : Nat) : (accMarks k m).length = m := by simp [accMarks]
theorem set3 {α : Type} (ys xs : List α) (j : Nat) (a b c : α) (hy : ys.length = j * 3) (hx : j * 3 + 2 < xs.length) :
    (((ys ++ xs.drop (3 * j)).set (j * 3) a).set (j * 3 + 1) b).set (j * 3 + 2) c = (ys ++ [a, b, c]) ++ xs.drop (3 * (j + 1)) := by
  obtain ⟨x0, x1, x2, r, hr⟩ : ∃ x0 x1 x2 r, xs.drop (3 * j) = x0 :: x1 :: x2 :: r := by
    have hl : 3 ≤ (xs.drop (3 * j)).length := by rw [List.length_drop]; omega
    match h : xs.drop (3 * j), hl with
    | x0 :: x1 :: x2 :: r, _ => exact ⟨x0, x1, x2, r, rfl⟩
  have hr' : xs.drop (3 * (j + 1)) = r := by
    have : xs.drop (3 * (j + 1)) = (xs.drop (3 * j)).drop 3 := by rw [List.drop_drop]; congr 1
    rw [this, hr]; rfl
  rw [hr, hr']
  rw [List.set_append_right _ _ (by omega), List.set_append_right _ _ (by omega), List.set_append_right _ _ (by omega)]
  rw [hy, show j * 3 - j * 3 = 0 by omega, show j * 3 + 1 - j * 3 = 1 by omega, show j * 3 + 2 - j * 3 = 2 by omega]
  simp
theorem own_store3 {w : World} {base g n cap j : Nat} {e : TypeId} {xs ys : List Value} (h : w.ownsRow base e 3 (.slice (some ⟨g, 0, none⟩) n cap) n (ys ++ xs.drop (3 * j))) (hx : xs.length = n * 3) (hy : ys.length = j * 3) (hj : j < n) (a b c : Value) :
    (((w.setCell ⟨g, j * 3, none⟩ a).setCell ⟨g, j * 3 + 1, none⟩ b).setCell ⟨g, j * 3 + 2, none⟩ c).ownsRow base e 3 (.slice (some ⟨g, 0, none⟩) n cap) n ((ys ++ [a, b, c]) ++ xs.drop (3 * (j + 1))) ∧
      w.grownBy (((w.setCell ⟨g, j * 3, none⟩ a).setCell ⟨g, j * 3 + 1, none⟩ b).setCell ⟨g, j * 3 + 2, none⟩ c) (some g) := by
  have s1 := h.stored (j * 3) a
  have s2 := s1.1.stored (j * 3 + 1) b
  have s3 := s2.1.stored (j * 3 + 2) c
  rw [set3 ys xs j a b c hy (by omega)] at s3
  exact ⟨s3.1, (s1.2.trans s2.2).trans s3.2⟩

theorem accMarks_at (k : Int) (m j : Nat) (h : j < m) : (accMarks k m)[j]? = some (k + 3 * j, k + 3 * j + 1, (k + 3 * j + 1 + 1) % 3 == 0) := by
  simp [accMarks, h]

end Go.Proofs.YtgbbgejnphfocaaDoor
