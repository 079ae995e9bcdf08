/- spec.DrawTableValid. -/
import Derived.Test.YtijpdekcdejfmaaDoorDrawTab
import Derived.Test.YtijpdekcdejfmaaDoorSameL
namespace Go.Proofs.YtijpdekcdejfmaaDoor
open Go Go.RowKit
set_option maxRecDepth 100000

/-- What a drawing of a table leaves. -/
def DrewTab (w : World) (e : Ending) (w' : World) : Prop := ∃ (nv rv : Value) (names : List ByteArray) (rows : List (List Int)), e = .returned (.agg #[nv, rv]) ∧ TabO w' w.heap.size (.agg #[nv, rv]) names rows ∧ DrawnT names rows ∧ Below w.heap.size w w'
theorem DrawnT.ok {names : List ByteArray} {rows : List (List Int)} (h : DrawnT names rows) : TabOk names rows :=
  ⟨by have := h.n1; omega, fun x hx => by have := h.n2 x hx; omega, by have := h.r1; omega, fun r hr => by have := h.r2 r hr; omega⟩
/-- A table pair stored into a fresh pair of cells. -/
theorem TabO.pair {w : World} {lo g : Nat} {nv rv : Value} {names : List ByteArray} {rows : List (List Int)} {cs : Array Value} (h : TabO w lo (.agg #[nv, rv]) names rows) (hb : Blk w g 26 cs) (hs : cs.size = 2) :
    TabO ((w.setCell ⟨g, 0, none⟩ nv).setCell ⟨g, 1, none⟩ rv) lo (.agg #[nv, rv]) names rows ∧ Blk ((w.setCell ⟨g, 0, none⟩ nv).setCell ⟨g, 1, none⟩ rv) g 26 #[nv, rv] ∧ Touch g (g + 1) w ((w.setCell ⟨g, 0, none⟩ nv).setCell ⟨g, 1, none⟩ rv) := by
  obtain ⟨v0, v1, e, h0, vs, h1⟩ := h
  simp only [Value.agg.injEq] at e
  have e0 : nv = v0 := by have := congrArg (fun a => a[0]?) e; simpa using this
  have e1 : rv = v1 := by have := congrArg (fun a => a[1]?) e; simpa using this
  subst e0 e1
  have hk : ∀ k, k < w.heap.size → k ≠ g → ((w.setCell ⟨g, 0, none⟩ nv).setCell ⟨g, 1, none⟩ rv).heap[k]? = w.heap[k]? := fun k _ hk => (Below.heap_setCell _ ⟨g, 1, none⟩ rv k hk).trans (Below.heap_setCell _ ⟨g, 0, none⟩ nv k hk)
  have hb' := (hb.set_ 0 nv).set_ 1 rv
  have hcs : (cs.setIfInBounds 0 nv).setIfInBounds 1 rv = #[nv, rv] := by
    apply Array.ext
    · simp [hs]
    · intro i h1 h2
      simp [hs] at h1
      match i, h1 with
      | 0, _ => simp [Array.getElem_setIfInBounds, hs]
      | 1, _ => simp [Array.getElem_setIfInBounds, hs]
  rw [hcs] at hb'
  refine ⟨⟨nv, rv, rfl, own_off_blk h0 hb (by decide) hk, vs, ?_⟩, hb', ((Touch.refl _ _ _).setCell (p := ⟨g, 0, none⟩) (Or.inl ⟨Nat.le_refl _, Nat.lt_succ_self _⟩) _).setCell (p := ⟨g, 1, none⟩) (Or.inl ⟨Nat.le_refl _, Nat.lt_succ_self _⟩) _⟩
  have := h1.off_blk hb (by decide) (by decide) hk
  simpa [World.setCell] using this
theorem TabO.form {w : World} {lo : Nat} {nv rv : Value} {names : List ByteArray} {rows : List (List Int)} (h : TabO w lo (.agg #[nv, rv]) names rows) : ∃ (A : Option Addr) (c : Nat) (B : Option Addr) (d : Nat), nv = .slice A names.length c ∧ rv = .slice B rows.length d := by
  obtain ⟨A, c, B, d, e, _⟩ := h.reads
  simp only [Value.agg.injEq] at e
  have e0 := congrArg (fun a => a[0]?) e
  have e1 := congrArg (fun a => a[1]?) e
  simp at e0 e1
  exact ⟨A, c, B, d, e0, e1⟩
end Go.Proofs.YtijpdekcdejfmaaDoor
