/- laws.eqPair, eqPairS, markPairS, heldPairS, toPair, toPairS, szPairS. -/
import Derived.Test.YtnihhbmihbcgbaaDoorBase
import Derived.Deep.LoopGhost
import Derived.Deep.RegionHeld3
namespace Go.Proofs.YtnihhbmihbcgbaaDoor
open Go Go.RowKit
set_option maxRecDepth 100000

theorem infoPair : (Tryd.prog.info? 37).map (fun i => (i.zero, i.size, i.bytes)) = some (some (.agg #[.int .i64 0, .int .i64 0]), 2, 16) := by kernel_rfl

def prCells (xs : List (Int × Int)) : List Value := xs.flatMap fun a => [.int .i64 a.1, .int .i64 a.2]
theorem prCells_at (xs : List (Int × Int)) (k : Nat) (a : Int × Int) (h : xs[k]? = some a) :
    (prCells xs)[k * 2]? = some (.int .i64 a.1) ∧ (prCells xs)[k * 2 + 1]? = some (.int .i64 a.2) := by
  induction xs generalizing k with
  | nil => simp at h
  | cons x xs ih =>
    cases k with
    | zero => simp at h; subst h; exact ⟨rfl, rfl⟩
    | succ k =>
      have := ih k (by simpa using h)
      have e : (k + 1) * 2 = k * 2 + 1 + 1 := by omega
      rw [e]
      exact this
theorem prCells_length (xs : List (Int × Int)) : (prCells xs).length = 2 * xs.length := by
  induction xs with
  | nil => rfl
  | cons x xs ih =>
    have h : prCells (x :: xs) = [.int .i64 x.1, .int .i64 x.2] ++ prCells xs := rfl
    rw [h, List.length_append, ih]; simp; omega
theorem prCells_append (xs ys : List (Int × Int)) : prCells (xs ++ ys) = prCells xs ++ prCells ys := by simp [prCells, List.flatMap_append]
/-- The k-th pair of what is read: its two numbers, in the walk's spelling. -/
theorem pr_at {w : World} {B n : Nat} {A : Option Addr} {xs : List (Int × Int)} {k : Nat} (h : Reads w B 2 A n (prCells xs)) (hxn : xs.length = n) (hk : k < n) :
    ∃ ad x1 x2, A = some ad ∧ ad.block < B ∧ xs[k]? = some (x1, x2) ∧ w.cell? (ad.add (k * 2)) = some (.int .i64 x1) ∧ w.cell? ⟨(ad.add (k * 2)).block, (ad.add (k * 2)).off + 1, none⟩ = some (.int .i64 x2) := by
  obtain ⟨⟨x1, x2⟩, hxk⟩ : ∃ x : Int × Int, xs[k]? = some x := ⟨_, List.getElem?_eq_getElem (by omega)⟩
  obtain ⟨ad, u0, u1, rfl, hadb, g0, g1, e1, e2⟩ := h.at2 hk
  have := prCells_at xs k _ hxk
  obtain rfl : u0 = .int .i64 x1 := Option.some.inj (g0.symm.trans this.1)
  obtain rfl : u1 = .int .i64 x2 := Option.some.inj (g1.symm.trans this.2)
  exact ⟨ad, x1, x2, rfl, hadb, hxk, e1, e2⟩


theorem set2 {α : Type} (ys xs : List α) (j : Nat) (a b : α) (hy : ys.length = j * 2) (hx : j * 2 + 1 < xs.length) :
    ((ys ++ xs.drop (2 * j)).set (j * 2) a).set (j * 2 + 1) b = (ys ++ [a, b]) ++ xs.drop (2 * (j + 1)) := by
  obtain ⟨x0, x1, r, hr⟩ : ∃ x0 x1 r, xs.drop (2 * j) = x0 :: x1 :: r := by
    have hl : 2 ≤ (xs.drop (2 * j)).length := by rw [List.length_drop]; omega
    match h : xs.drop (2 * j), hl with
    | x0 :: x1 :: r, _ => exact ⟨x0, x1, r, rfl⟩
  have hr' : xs.drop (2 * (j + 1)) = r := by
    have : xs.drop (2 * (j + 1)) = (xs.drop (2 * j)).drop 2 := by rw [List.drop_drop]; congr 1
    rw [this, hr]; rfl
  rw [hr, hr']
  rw [List.set_append_right _ _ (by omega), List.set_append_right _ _ (by omega)]
  rw [hy, show j * 2 - j * 2 = 0 by omega, show j * 2 + 1 - j * 2 = 1 by omega]
  simp
theorem own_store2 {w : World} {base g n cap j : Nat} {e : TypeId} {xs ys : List Value} (h : w.ownsRow base e 2 (.slice (some ⟨g, 0, none⟩) n cap) n (ys ++ xs.drop (2 * j))) (hx : xs.length = n * 2) (hy : ys.length = j * 2) (hj : j < n) (a b : Value) :
    ((w.setCell ⟨g, j * 2, none⟩ a).setCell ⟨g, j * 2 + 1, none⟩ b).ownsRow base e 2 (.slice (some ⟨g, 0, none⟩) n cap) n ((ys ++ [a, b]) ++ xs.drop (2 * (j + 1))) ∧
      w.grownBy ((w.setCell ⟨g, j * 2, none⟩ a).setCell ⟨g, j * 2 + 1, none⟩ b) (some g) := by
  have s1 := h.stored (j * 2) a
  have s2 := s1.1.stored (j * 2 + 1) b
  rw [set2 ys xs j a b hy (by omega)] at s2
  exact ⟨s2.1, s1.2.trans s2.2⟩

end Go.Proofs.YtnihhbmihbcgbaaDoor
