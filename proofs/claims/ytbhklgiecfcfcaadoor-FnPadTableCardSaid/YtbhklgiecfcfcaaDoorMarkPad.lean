/- marks of padded tables: markBoolS, heldBoolS, markPadded, heldPadded. -/
import Derived.Test.YtbhklgiecfcfcaaDoorMarkTab
import Derived.Test.YtbhklgiecfcfcaaDoorPadY
namespace Go.Proofs.YtbhklgiecfcfcaaDoor
open Go Go.RowKit
set_option maxRecDepth 100000
def bmark (k : Nat) : Bool := ((k : Int) % 3 == 0)
theorem bmark_add (k j : Nat) : bmark (k + j) = (((k : Int) + (j : Int)) % 3 == 0) := by unfold bmark; rw [Int.natCast_add]
def boMarks (k m : Nat) : List Bool := (List.range m).map fun (i : Nat) => bmark (k + i)
theorem boMarks_succ (k m : Nat) : boMarks k (m + 1) = boMarks k m ++ [bmark (k + m)] := by simp [boMarks, List.range_succ]
theorem boMarks_length (k m : Nat) : (boMarks k m).length = m := by simp [boMarks]
theorem boMarks_at (k m j : Nat) (h : j < m) : (boMarks k m)[j]? = some (bmark (k + j)) := by simp [boMarks, h]
/-- A padded table of the call's own, between bounds. -/
def PadV (w : World) (lo hi : Nat) (v : Value) (names : List ByteArray) (rows : List (List Int)) (real : List Bool) : Prop :=
  ∃ v0 v1 v2 : Value, v = .agg #[v0, v1, v2] ∧ w.ownsRow lo 9 1 v0 names.length (stCells names) ∧ (∀ g, v0.ownBlock = some g → g < hi) ∧ RowsO w lo hi v1 rows ∧ w.ownsRow lo 4 1 v2 real.length (boCells real) ∧ (∀ g, v2.ownBlock = some g → g < hi)
section
variable {w w' : World} {lo hi : Nat} {v : Value} {names : List ByteArray} {rows : List (List Int)} {real : List Bool}
theorem PadO.padV (h : PadO w lo v names rows real) : PadV w lo w.heap.size v names rows real := by
  obtain ⟨v0, v1, v2, e, h0, h1, h2⟩ := h
  exact ⟨v0, v1, v2, e, h0, fun g hg => (h0.lt g hg).2, h1, h2, fun g hg => (h2.lt g hg).2⟩
theorem PadV.below (h : PadV w lo hi v names rows real) (hb : Below w.heap.size w w') : PadV w' lo hi v names rows real := by
  obtain ⟨v0, v1, v2, e, h0, h1, ⟨us, h2⟩, h3, h4⟩ := h
  exact ⟨v0, v1, v2, e, own_below h0 hb, h1, ⟨us, h2.below hb⟩, own_below h3 hb, h4⟩
theorem PadV.touch {lo' hi' : Nat} (h : PadV w lo hi v names rows real) (ht : Touch lo' hi' w w') (hd : hi ≤ lo' ∨ hi' ≤ lo) : PadV w' lo hi v names rows real := by
  obtain ⟨v0, v1, v2, e, h0, h1, ⟨us, h2⟩, h3, h4⟩ := h
  exact ⟨v0, v1, v2, e, ht.own h0 (fun g hg => by have := h1 g hg; have := (h0.lt g hg).1; omega), h1, ⟨us, h2.touch ht hd⟩, ht.own h3 (fun g hg => by have := h4 g hg; have := (h3.lt g hg).1; omega), h4⟩
theorem PadV.padR (h : PadV w lo hi v names rows real) : PadR w v names rows real := by
  obtain ⟨v0, v1, v2, rfl, h0, _, ⟨us, h1⟩, h2, _⟩ := h
  obtain ⟨A, c, rfl, ha, _⟩ := own_form h0
  obtain ⟨B, d, rfl, _⟩ := h1.form
  obtain ⟨C, f, rfl, _⟩ := own_form h2
  exact ⟨A, c, B, d, C, f, rfl, ha, Reads.of_own h0, h1.reads, Reads.of_own h2⟩
theorem PadV.form (h : PadV w lo hi v names rows real) : ∃ (A : Option Addr) (c : Nat) (B : Option Addr) (d : Nat) (C : Option Addr) (f : Nat), v = .agg #[.slice A names.length c, .slice B rows.length d, .slice C real.length f] := by
  obtain ⟨A, c, B, d, C, f, e, _⟩ := h.padR
  exact ⟨A, c, B, d, C, f, e⟩
theorem PadV.nil (w : World) (lo hi : Nat) : PadV w lo hi (.agg #[.slice none 0 0, .slice none 0 0, .slice none 0 0]) [] [] [] :=
  ⟨_, _, _, rfl, World.ownsRow_nil w _ _ _, fun g h => by simp [Value.ownBlock] at h, ⟨[], RowsV.nil w lo hi⟩, World.ownsRow_nil w _ _ _, fun g h => by simp [Value.ownBlock] at h⟩
end
end Go.Proofs.YtbhklgiecfcfcaaDoor
