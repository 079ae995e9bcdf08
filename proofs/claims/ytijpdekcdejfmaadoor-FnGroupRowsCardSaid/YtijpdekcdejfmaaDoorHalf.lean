/- A table under construction: its block T, its names below it, its rows above it. -/
import Derived.Test.YtijpdekcdejfmaaDoorCopy
namespace Go.Proofs.YtijpdekcdejfmaaDoor
open Go Go.RowKit

structure Half (w1 w : World) (lo T : Nat) (t : TypeId) (cs : Array Value) (nv rv : Value) (names : List ByteArray) (vs : List Value) (rows : List (List Int)) : Prop where
  blk : Blk w T t cs
  own : w.ownsRow lo 9 1 nv names.length (stCells names)
  top : ∀ g, nv.ownBlock = some g → g < T
  rows : RowsV w (T + 1) w.heap.size rv vs rows
  below : Below w1.heap.size w1 w
  base : w1.heap.size ≤ T
section
variable {w1 w w' w6 : World} {lo T : Nat} {t t' : TypeId} {cs : Array Value} {nv rv u v6 : Value} {names : List ByteArray} {vs : List Value} {rows : List (List Int)} {r : List Int}
theorem Half.drew (h : Half w1 w lo T t cs nv rv names vs rows) : Half w1 w.drew lo T t cs nv rv names vs rows :=
  ⟨h.blk.drew, h.own.drew, h.top, h.rows.drew, h.below.drew, h.base⟩
theorem Half.lt (h : Half w1 w lo T t cs nv rv names vs rows) : T < w.heap.size := h.blk.lt
theorem Half.rvge (h : Half w1 w lo T t cs nv rv names vs rows) : ∀ g, rv.ownBlock = some g → T + 1 ≤ g := fun g e => (h.rows.own.lt g e).1
theorem Half.go (h : Half w1 w lo T t cs nv rv names vs rows) (hb : Below w.heap.size w w') : Half w1 w' lo T t cs nv rv names vs rows :=
  ⟨h.blk.below hb h.lt, own_below h.own hb, h.top, (h.rows.below hb).wide hb.size, h.below.trans (hb.mono h.below.size), h.base⟩
/-- A row of the call's own is appended, and the field stored. -/
theorem Half.push (h : Half w1 w lo T t cs nv rv names vs rows) (ou : w'.ownsRow w.heap.size 3 1 u r.length (inCells r)) (hb : Below w.heap.size w w')
    (ho6 : w6.ownsRow (T + 1) 40 1 v6 (rows.length + 1) (vs ++ [u])) (hg6 : (w'.alloc (.cells #[u] t')).grownBy w6 rv.ownBlock) (hd6 : v6.ownBlock = rv.ownBlock ∨ v6.ownBlock = some (w'.alloc (.cells #[u] t')).heap.size) :
    Half w1 (w6.setCell ⟨T, 1, none⟩ v6) lo T t (cs.setIfInBounds 1 v6) nv v6 names (vs ++ [u]) (rows ++ [r]) := by
  have hT := h.lt
  have hge := h.rvge
  have fr := h.rows.fresh ou
  have hbs := hb.size
  have h6s := hg6.size
  have hsz : (w'.alloc (.cells #[u] t')).heap.size = w'.heap.size + 1 := by simp
  have H2 := h.go hb
  have V6 := ((h.rows.below hb).alloc (.cells #[u] t')).push (r := r) (hi' := w6.heap.size) ((ou.alloc _).base_le (by omega)) hg6 ho6 hd6 fr.1 fr.2 (by omega) (fun g e => (ho6.lt g e).2) (fun g e => by have := (ou.lt g e).2; omega)
  have tt : Touch T (T + 1) w6 (w6.setCell ⟨T, 1, none⟩ v6) := (Touch.refl _ _ _).setCell (p := ⟨T, 1, none⟩) (Or.inl ⟨Nat.le_refl _, Nat.lt_succ_self _⟩) _
  refine ⟨((H2.blk.alloc _).grown hg6 (fun e => by have := hge _ e.symm; omega)).set_ 1 v6, ?_, h.top, ?_, ?_, h.base⟩
  · refine own_block H2.own fun g e => ?_
    have h1 := h.top g e
    have h2 := (H2.own.lt g e).2
    rw [tt.block g (by omega) (Or.inl h1), hg6.block g (by omega) (fun e' => by have := hge g e'.symm; omega), Below.heap_alloc _ _ _ h2]
  · have := V6.touch tt (Or.inr (Nat.le_refl _))
    simpa [World.setCell] using this
  · exact (((H2.below.alloc H2.below.size _).grown hg6 (by have := H2.below.size; omega) (fun g e => by have := hge g e; have := h.base; omega))).setCell (by show w1.heap.size ≤ T; exact h.base) _
end
end Go.Proofs.YtijpdekcdejfmaaDoor
