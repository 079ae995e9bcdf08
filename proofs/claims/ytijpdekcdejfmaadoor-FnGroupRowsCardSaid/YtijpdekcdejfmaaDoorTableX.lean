/- laws.szTable, toTable, eqTable and what they call; a table as an argument. -/
import Derived.Test.YtijpdekcdejfmaaDoorTableV
import Derived.Test.YtijpdekcdejfmaaDoorOpen
import Derived.Lib.SmallJoins
import Derived.Deep.Matrix
import Derived.Outline
import Derived.Deep.RegionHeld3
namespace Go.Proofs.YtijpdekcdejfmaaDoor
open Go Go.RowKit Go.WideShapes Go.ChangeShapes Go.WideElems Go.Deep
set_option maxRecDepth 100000

theorem infoRow : (Tryd.prog.info? 40).map (fun i => (i.zero, i.size, i.bytes)) = some (some (.slice none 0 0), 1, 24) := by kernel_rfl
theorem made_one (z : Value) (hz : z.cells = #[z]) (n : Nat) : (madeCells z.cells (n * 1)).toList = List.replicate n z := by
  rw [hz]
  unfold madeCells
  refine List.ext_getElem (by simp) fun i h1 h2 => ?_
  simp [Nat.mod_one]
theorem rows_made {w : World} {lo : Nat} {v : Value} {n : Nat} (h : w.ownsRow lo 40 1 v n (List.replicate n (.slice none 0 0))) : RowsV w lo w.heap.size v (List.replicate n (.slice none 0 0)) (List.replicate n []) := by
  have key : ∀ (k : Nat) (u : Value), (List.replicate n (Value.slice none 0 0))[k]? = some u → u = .slice none 0 0 := by
    intro k u hu
    rw [List.getElem?_replicate] at hu
    split at hu
    · exact (Option.some.inj hu).symm
    · cases hu
  refine ⟨by simp, by rw [List.length_replicate]; exact h, fun g e => (h.lt g e).2, ?_, ?_, ?_, ?_⟩
  · intro k u r hu hr
    obtain rfl := key k u hu
    rw [List.getElem?_replicate] at hr
    split at hr
    · obtain rfl := Option.some.inj hr
      exact World.ownsRow_nil w lo _ _
    · cases hr
  · intro k u g hu e
    obtain rfl := key k u hu
    simp [Value.ownBlock] at e
  · intro k u hu
    obtain rfl := key k u hu
    left; rfl
  · intro i j u u' _ hu _
    obtain rfl := key i u hu
    left; rfl

/-! ### comparisons -/
/-- A table's value in memory. -/
def TabR (w : World) (v : Value) (names : List ByteArray) (rows : List (List Int)) : Prop := ∃ (A : Option Addr) (c : Nat) (B : Option Addr) (d : Nat), v = .agg #[.slice A names.length c, .slice B rows.length d] ∧ names.length ≤ c ∧ Reads w w.heap.size 1 A names.length (stCells names) ∧ RowsR w w.heap.size B rows.length rows
theorem TabR.below {w w' : World} {v : Value} {names : List ByteArray} {rows : List (List Int)} (h : TabR w v names rows) (hb : Below w.heap.size w w') : TabR w' v names rows := by
  obtain ⟨A, c, B, d, h1, h2, h3, h4⟩ := h
  exact ⟨A, c, B, d, h1, h2, (h3.below hb).more hb.size, h4.below hb⟩
end Go.Proofs.YtijpdekcdejfmaaDoor
