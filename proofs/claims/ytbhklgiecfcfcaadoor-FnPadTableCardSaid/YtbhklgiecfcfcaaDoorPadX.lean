/- laws.Padded as an argument; laws.szPadded, toPadded, eqPadded and what they call. -/
import Derived.Test.YtbhklgiecfcfcaaDoorTableW
import Derived.Test.YtbhklgiecfcfcaaDoorPad
namespace Go.Proofs.YtbhklgiecfcfcaaDoor
open Go Go.RowKit Go.WideShapes Go.ChangeShapes Go.WideElems Go.Deep
set_option maxRecDepth 100000

theorem boCells_append (xs ys : List Bool) : boCells (xs ++ ys) = boCells xs ++ boCells ys := by simp [boCells]
theorem boCells_length (xs : List Bool) : (boCells xs).length = xs.length := by simp [boCells]
theorem infoBool : (Tryd.prog.info? 4).map (fun i => (i.zero, i.size, i.bytes)) = some (some (.bool false), 1, 1) := by kernel_rfl

/-- A padded table's value in memory. -/
def PadR (w : World) (v : Value) (names : List ByteArray) (rows : List (List Int)) (real : List Bool) : Prop := ∃ (A : Option Addr) (c : Nat) (B : Option Addr) (d : Nat) (C : Option Addr) (f : Nat), v = .agg #[.slice A names.length c, .slice B rows.length d, .slice C real.length f] ∧ names.length ≤ c ∧ Reads w w.heap.size 1 A names.length (stCells names) ∧ RowsR w w.heap.size B rows.length rows ∧ Reads w w.heap.size 1 C real.length (boCells real)
theorem PadR.below {w w' : World} {v : Value} {names : List ByteArray} {rows : List (List Int)} {real : List Bool} (h : PadR w v names rows real) (hb : Below w.heap.size w w') : PadR w' v names rows real := by
  obtain ⟨A, c, B, d, C, f, h1, h2, h3, h4, h5⟩ := h
  exact ⟨A, c, B, d, C, f, h1, h2, (h3.below hb).more hb.size, h4.below hb, (h5.below hb).more hb.size⟩
/-- A padded table that was handed in. -/
structure PadA (W : World) (v : Value) (names : List ByteArray) (rows : List (List Int)) (real : List Bool) : Prop where
  form : PadR W v names rows real
  n1 : names.length ≤ maxLen
  n2 : ∀ x ∈ names, x.size ≤ maxLen
  r1 : rows.length ≤ maxLen
  b1 : real.length ≤ maxLen
theorem PadA.below {w w' : World} {v : Value} {names : List ByteArray} {rows : List (List Int)} {real : List Bool} (h : PadA w v names rows real) (hb : Below w.heap.size w w') : PadA w' v names rows real := ⟨h.form.below hb, h.n1, h.n2, h.r1, h.b1⟩

section
variable {H : Type} {enc : TypeId × Value → H} {W : World} {sp : Nat → Bool} {base : Nat}
theorem trod_bools {v : Value} {n : Nat} {y : DataW H × List MemPlace} (h : DataW.trod enc Tryd.prog W 0 sp true n 35 [v] = some y) :
    ∃ (A : Option Addr) (c : Nat) (xs : List Bool), v = .slice A xs.length c ∧ xs.length ≤ c ∧ c ≤ maxLen ∧ (A = none → c = 0) ∧ Reads W W.heap.size 1 A xs.length (boCells xs) := by
  rcases open_slice1 Tryd.underlying35 (by kernel_rfl) h with ⟨hcs, _⟩ | ⟨a, len, cap, m, n, V, D, Pl, hcs, _, hl, hm, hmm, hx, hi⟩
  · simp at hcs
    subst hcs
    exact ⟨none, 0, [], rfl, Nat.le_refl _, by unfold maxLen; omega, fun _ => rfl, Reads.none_⟩
  · simp at hcs
    subst hcs
    have each : ∀ i, i < len → ∃ x : Bool, W.cell? (a.add i) = some (.bool x) := by
      intro i hil
      obtain ⟨c0, t0⟩ := hi i (by rw [hmm]; split <;> omega)
      obtain ⟨n0, e0, _⟩ := DataW.trod_bool Tryd.underlying4 t0
      simp at e0
      exact ⟨n0, by rw [c0, e0]⟩
    obtain ⟨f, hf'⟩ := choose_lt each
    refine ⟨some a, cap, (List.range len).map f, by simp, by simpa using hl, hm, fun h => (by cases h), by simp [boCells], fun hn => ?_⟩
    have key : ∀ j u, (boCells ((List.range len).map f))[j]? = some u → W.cell? (a.add j) = some u := by
      intro j u hj
      by_cases hjl : j < len
      · simp [boCells, hjl] at hj
        rw [← hj]
        exact hf' j hjl
      · simp [boCells, hjl] at hj
    refine ⟨a, rfl, ?_, key⟩
    have h1 := World.block_lt_of_cell? W _ (hf' 0 (by simpa using hn))
    rwa [block_of_add] at h1
end

end Go.Proofs.YtbhklgiecfcfcaaDoor
