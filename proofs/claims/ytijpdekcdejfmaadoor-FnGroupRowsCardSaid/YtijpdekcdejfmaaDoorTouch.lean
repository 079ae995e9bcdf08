/- Writes within an interval of blocks (plain Lean over the model's memory). -/
import Derived.Test.YtijpdekcdejfmaaDoorMem
namespace Go.Proofs.YtijpdekcdejfmaaDoor
open Go Go.RowKit

/-! ### writes within an interval of blocks -/
structure Touch (lo hi : Nat) (w w' : World) : Prop where
  os : w'.os = w.os
  tape : w'.tape = w.tape
  output : w'.output = w.output
  size : w.heap.size ≤ w'.heap.size
  block : ∀ k, k < w.heap.size → (k < lo ∨ hi ≤ k) → w'.heap[k]? = w.heap[k]?

section
variable {w w1 w2 : World} {lo hi : Nat}
theorem Touch.refl (lo hi : Nat) (w : World) : Touch lo hi w w := ⟨rfl, rfl, rfl, Nat.le_refl _, fun _ _ _ => rfl⟩
theorem Touch.trans (a : Touch lo hi w w1) (b : Touch lo hi w1 w2) : Touch lo hi w w2 :=
  ⟨b.os.trans a.os, b.tape.trans a.tape, b.output.trans a.output, Nat.le_trans a.size b.size, fun k hk h => (b.block k (Nat.lt_of_lt_of_le hk a.size) h).trans (a.block k hk h)⟩
theorem Touch.of_grown {row : Option Nat} (h : w.grownBy w1 row) (hr : ∀ g, row = some g → lo ≤ g ∧ g < hi) : Touch lo hi w w1 :=
  ⟨h.os, h.tape, h.output, h.size, fun k hk hb => h.block k hk (fun e => by have := hr k e.symm; omega)⟩
theorem Touch.of_below (h : Below w.heap.size w w1) : Touch lo hi w w1 := ⟨h.os, h.tape, h.output, h.size, fun k hk _ => h.block k hk⟩
theorem Touch.wide {lo' hi' : Nat} (h : Touch lo hi w w1) (h1 : lo' ≤ lo) (h2 : hi ≤ hi') : Touch lo' hi' w w1 := ⟨h.os, h.tape, h.output, h.size, fun k hk hb => h.block k hk (by omega)⟩
theorem Touch.below {a : World} (h : Touch lo hi w w1) (hb : Below a.heap.size a w) (hl : a.heap.size ≤ lo) : Below a.heap.size a w1 :=
  hb.trans ⟨h.os, h.tape, h.output, h.size, fun k hk => h.block k (Nat.lt_of_lt_of_le hk hb.size) (Or.inl (by omega))⟩
theorem Touch.alloc (h : Touch lo hi w w1) (o : Obj) : Touch lo hi w (w1.alloc o) :=
  h.trans ⟨rfl, rfl, rfl, by simp, fun k hk _ => Below.heap_alloc _ _ _ hk⟩
theorem Touch.drew (h : Touch lo hi w w1) : Touch lo hi w w1.drew := ⟨h.os, h.tape, h.output, h.size, h.block⟩
theorem Touch.drewN (h : Touch lo hi w w1) (n : Nat) : Touch lo hi w (w1.drewN n) := ⟨h.os, h.tape, h.output, h.size, h.block⟩
theorem Touch.setCell (h : Touch lo hi w w1) {p : Addr} (hp : (lo ≤ p.block ∧ p.block < hi) ∨ w.heap.size ≤ p.block) (u : Value) : Touch lo hi w (w1.setCell p u) := by
  refine ⟨h.os, h.tape, h.output, Nat.le_trans h.size (by simp [World.setCell]), fun k hk hb => ?_⟩
  rw [Below.heap_setCell _ _ _ _ (by omega)]
  exact h.block k hk hb
theorem Touch.grown (h : Touch lo hi w w1) {row : Option Nat} (hg : w1.grownBy w2 row) (hr : ∀ g, row = some g → (lo ≤ g ∧ g < hi) ∨ w.heap.size ≤ g) : Touch lo hi w w2 :=
  ⟨hg.os.trans h.os, hg.tape.trans h.tape, hg.output.trans h.output, Nat.le_trans h.size hg.size, fun k hk hb => (hg.block k (Nat.lt_of_lt_of_le hk h.size) (fun e => by have := hr k e.symm; omega)).trans (h.block k hk hb)⟩
theorem Touch.then_below (h : Touch lo hi w w1) (hb : Below w1.heap.size w1 w2) : Touch lo hi w w2 := h.trans (Touch.of_below hb)
theorem own_block {base n size : Nat} {e : TypeId} {v : Value} {xs : List Value} (h : w.ownsRow base e size v n xs) (hk : ∀ g, v.ownBlock = some g → w1.heap[g]? = w.heap[g]?) : w1.ownsRow base e size v n xs := by
  refine ⟨h.1, ?_⟩
  rcases h.2 with h0 | ⟨g, cap, cur, rfl, hg, hh, r⟩
  · exact .inl h0
  · exact .inr ⟨g, cap, cur, rfl, hg, (hk g rfl).trans hh, r⟩
theorem Touch.own {base n size : Nat} {e : TypeId} {v : Value} {xs : List Value} (h : Touch lo hi w w1) (ho : w.ownsRow base e size v n xs) (hg : ∀ g, v.ownBlock = some g → g < lo ∨ hi ≤ g) : w1.ownsRow base e size v n xs :=
  own_block ho fun g e => h.block g (ho.lt g e).2 (hg g e)
theorem Touch.own_above {base n size : Nat} {e : TypeId} {v : Value} {xs : List Value} (h : Touch lo hi w w1) (ho : w.ownsRow base e size v n xs) (hb : hi ≤ base) : w1.ownsRow base e size v n xs :=
  h.own ho fun g e => Or.inr (Nat.le_trans hb (ho.lt g e).1)
theorem Touch.cell (h : Touch lo hi w w1) {p : Addr} (hp : p.block < w.heap.size) (hg : p.block < lo ∨ hi ≤ p.block) : w1.cell? p = w.cell? p := World.cell?_of_block (h.block _ hp hg)
theorem Touch.blk {g : Nat} {t : TypeId} {cs : Array Value} (h : Touch lo hi w w1) (hb : Blk w g t cs) (hg : g < lo ∨ hi ≤ g) : Blk w1 g t cs := (h.block g hb.lt hg).trans hb
theorem Reads.touch {B size n : Nat} {A : Option Addr} {xs : List Value} (hr : Reads w B size A n xs) (h : Touch lo hi w w1) (hB : B ≤ lo) (hw : B ≤ w.heap.size) : Reads w1 B size A n xs :=
  hr.keep fun _ hp => h.cell (by omega) (Or.inl (by omega))
end

end Go.Proofs.YtijpdekcdejfmaaDoor
