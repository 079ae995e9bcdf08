/- laws.eqPadded, laws.toPadded. -/
import Derived.Test.YtbhklgiecfcfcaaDoorPadX
namespace Go.Proofs.YtbhklgiecfcfcaaDoor
open Go Go.RowKit
set_option maxRecDepth 100000
structure SmallP (names : List ByteArray) (rows : List (List Int)) (real : List Bool) : Prop where
  t : Small names rows
  b : real.length ≤ 1048576
/-- A padded table of the call's own. -/
def PadO (w : World) (lo : Nat) (v : Value) (names : List ByteArray) (rows : List (List Int)) (real : List Bool) : Prop := ∃ v0 v1 v2 : Value, v = .agg #[v0, v1, v2] ∧ w.ownsRow lo 9 1 v0 names.length (stCells names) ∧ RowsO w lo w.heap.size v1 rows ∧ w.ownsRow lo 4 1 v2 real.length (boCells real)
section
variable {w w' : World} {lo : Nat} {v : Value} {names : List ByteArray} {rows : List (List Int)} {real : List Bool}
theorem PadO.reads (h : PadO w lo v names rows real) : PadR w v names rows real := by
  obtain ⟨v0, v1, v2, rfl, h0, ⟨us, h1⟩, h2⟩ := h
  obtain ⟨A, c, rfl, ha, _⟩ := own_form h0
  obtain ⟨B, d, rfl, _⟩ := h1.form
  obtain ⟨C, f, rfl, _⟩ := own_form h2
  exact ⟨A, c, B, d, C, f, rfl, ha, Reads.of_own h0, h1.reads, Reads.of_own h2⟩
theorem PadO.low {lo' : Nat} (h : PadO w lo v names rows real) (hl : lo' ≤ lo) : PadO w lo' v names rows real := by
  obtain ⟨v0, v1, v2, e, h0, ⟨us, h1⟩, h2⟩ := h
  exact ⟨v0, v1, v2, e, h0.base_le hl, ⟨us, h1.low hl⟩, h2.base_le hl⟩
theorem PadO.below (h : PadO w lo v names rows real) (hb : Below w.heap.size w w') : PadO w' lo v names rows real := by
  obtain ⟨v0, v1, v2, e, h0, ⟨us, h1⟩, h2⟩ := h
  exact ⟨v0, v1, v2, e, own_below h0 hb, ⟨us, (h1.below hb).wide hb.size⟩, own_below h2 hb⟩
end
end Go.Proofs.YtbhklgiecfcfcaaDoor
