/- laws.eqAccess, laws.eqAccessS: equality of accesses. -/
import Derived.Test.YtgbbgejnphfocaaDoorBase
import Derived.Deep.LoopGhost
import Derived.Deep.RegionHeld3
import Derived.StillTailTactics
namespace Go.Proofs.YtgbbgejnphfocaaDoor
open Go Go.RowKit

def accV (a : Int × Int × Bool) : Value := .agg #[.int .i64 a.1, .int .i64 a.2.1, .bool a.2.2]

def accCells (xs : List (Int × Int × Bool)) : List Value := xs.flatMap fun a => [.int .i64 a.1, .int .i64 a.2.1, .bool a.2.2]
theorem accCells_at (xs : List (Int × Int × Bool)) (k : Nat) (a : Int × Int × Bool) (h : xs[k]? = some a) :
    (accCells xs)[k * 3]? = some (.int .i64 a.1) ∧ (accCells xs)[k * 3 + 1]? = some (.int .i64 a.2.1) ∧ (accCells xs)[k * 3 + 2]? = some (.bool a.2.2) := by
  induction xs generalizing k with
  | nil => simp at h
  | cons x xs ih =>
    cases k with
    | zero => simp at h; subst h; exact ⟨rfl, rfl, rfl⟩
    | succ k =>
      have := ih k (by simpa using h)
      have e : (k + 1) * 3 = k * 3 + 1 + 1 + 1 := by omega
      rw [e]
      exact this

end Go.Proofs.YtgbbgejnphfocaaDoor
