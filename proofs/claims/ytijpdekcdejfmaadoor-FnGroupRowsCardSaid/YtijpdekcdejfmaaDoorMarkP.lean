/- marks of rows of numbers, in plain Lean; writes within a set of blocks. -/
import Derived.Test.YtijpdekcdejfmaaDoorMarkS
import Derived.Test.YtijpdekcdejfmaaDoorTableW
namespace Go.Proofs.YtijpdekcdejfmaaDoor
open Go Go.RowKit
set_option maxRecDepth 100000

/-! ### writes within a set of blocks -/
structure Only (S : Nat → Prop) (w w' : World) : Prop where
  os : w'.os = w.os
  tape : w'.tape = w.tape
  output : w'.output = w.output
  size : w.heap.size ≤ w'.heap.size
  block : ∀ k, k < w.heap.size → ¬ S k → w'.heap[k]? = w.heap[k]?
section
variable {S S' : Nat → Prop} {w w1 w2 : World}
theorem Only.refl (S : Nat → Prop) (w : World) : Only S w w := ⟨rfl, rfl, rfl, Nat.le_refl _, fun _ _ _ => rfl⟩
theorem Only.trans (a : Only S w w1) (b : Only S w1 w2) : Only S w w2 :=
  ⟨b.os.trans a.os, b.tape.trans a.tape, b.output.trans a.output, Nat.le_trans a.size b.size, fun k hk h => (b.block k (Nat.lt_of_lt_of_le hk a.size) h).trans (a.block k hk h)⟩
theorem Only.grown (a : Only S w w1) {row : Option Nat} (hg : w1.grownBy w2 row) (hr : ∀ g, row = some g → S g) : Only S w w2 :=
  a.trans ⟨hg.os, hg.tape, hg.output, hg.size, fun k hk hn => hg.block k hk (fun e => hn (hr k e.symm))⟩
theorem Only.below (a : Only S w w1) (hb : Below w1.heap.size w1 w2) : Only S w w2 :=
  a.trans ⟨hb.os, hb.tape, hb.output, hb.size, fun k hk _ => hb.block k hk⟩
theorem Only.touch {lo hi : Nat} (a : Only S w w1) (h : ∀ g, S g → lo ≤ g ∧ g < hi) : Touch lo hi w w1 :=
  ⟨a.os, a.tape, a.output, a.size, fun k hk hb => a.block k hk (fun hs => by have := h k hs; omega)⟩
theorem Only.own {base n size : Nat} {e : TypeId} {v : Value} {xs : List Value} (a : Only S w w1) (h : w.ownsRow base e size v n xs) (hn : ∀ g, v.ownBlock = some g → ¬ S g) : w1.ownsRow base e size v n xs :=
  own_block h fun g e => a.block g (h.lt g e).2 (hn g e)
end
/-- Rows of different types lie apart. -/
theorem own_types {w : World} {b1 n1 z1 b2 n2 z2 : Nat} {e1 e2 : TypeId} {v1 v2 : Value} {x1 x2 : List Value} (h1 : w.ownsRow b1 e1 z1 v1 n1 x1) (h2 : w.ownsRow b2 e2 z2 v2 n2 x2) (hne : e1 ≠ e2) (g : Nat) (g1 : v1.ownBlock = some g) (g2 : v2.ownBlock = some g) : False := by
  rcases h1.2 with ⟨rfl, _⟩ | ⟨g', cap, cur, rfl, _, hh, _⟩
  · simp [Value.ownBlock] at g1
  · rcases h2.2 with ⟨rfl, _⟩ | ⟨g'', cap', cur', rfl, _, hh', _⟩
    · simp [Value.ownBlock] at g2
    · have a : g' = g := by simpa [Value.ownBlock] using g1
      have b : g'' = g := by simpa [Value.ownBlock] using g2
      subst a
      subst b
      rw [hh] at hh'
      injection hh' with hh'
      injection hh' with _ ht
      exact hne ht

theorem own_at {w : World} {b e g n n' c k : Nat} {xs : List Value} {u : Value} (h : w.ownsRow b e 1 (.slice (some ⟨g, 0, none⟩) n' c) n xs) (hk : xs[k]? = some u) : w.cell? ⟨g, k, none⟩ = some u := by
  have hl := (List.getElem?_eq_some_iff.1 hk).1
  obtain ⟨A', c', e', _⟩ := own_form h
  simp only [Value.slice.injEq] at e'
  obtain ⟨_, rfl, _⟩ := e'
  obtain ⟨h1, h2⟩ := Reads.of_own h
  obtain ⟨ad, hA, _, hc⟩ := h2 (by rw [Nat.mul_one] at h1; omega)
  injection hA with hA
  subst hA
  have := hc k u hk
  rwa [addr_zero_add] at this

/-! ### marks of rows -/
def total (rows : List (List Int)) : Nat := (rows.map List.length).sum
theorem total_cons (r : List Int) (rows : List (List Int)) : total (r :: rows) = r.length + total rows := by simp [total]
theorem total_append (a b : List (List Int)) : total (a ++ b) = total a + total b := by simp [total]
theorem total_le (m : Nat) : ∀ rows : List (List Int), (∀ r ∈ rows, r.length ≤ m) → total rows ≤ rows.length * m
  | [], _ => by simp [total]
  | r :: rows, h => by
    have := total_le m rows (fun x hx => h x (List.mem_cons_of_mem _ hx))
    have := h r (List.mem_cons_self ..)
    rw [total_cons, List.length_cons, Nat.succ_mul]
    omega
theorem total_take (rows : List (List Int)) (j : Nat) : total (rows.take j) ≤ total rows := by
  have := total_append (rows.take j) (rows.drop j)
  rw [List.take_append_drop] at this
  omega
theorem total_step {rows : List (List Int)} {j : Nat} {r : List Int} (h : rows[j]? = some r) : total (rows.take (j + 1)) = total (rows.take j) + r.length := by
  rw [List.take_add_one, h, total_append]
  simp [total]
def rowMarks : Nat → List (List Int) → List (List Int)
  | _, [] => []
  | k, r :: rs => inMarks k r.length :: rowMarks (k + r.length) rs
theorem rowMarks_append (b : List (List Int)) : ∀ (a : List (List Int)) (k : Nat), rowMarks k (a ++ b) = rowMarks k a ++ rowMarks (k + total a) b
  | [], k => by simp [rowMarks, total]
  | r :: a, k => by rw [List.cons_append, rowMarks, rowMarks_append b a, rowMarks, total_cons, List.cons_append, Nat.add_assoc]
theorem rowMarks_length : ∀ (rows : List (List Int)) (k : Nat), (rowMarks k rows).length = rows.length
  | [], _ => rfl
  | r :: rs, k => by rw [rowMarks, List.length_cons, rowMarks_length rs, List.length_cons]
theorem rowMarks_step {rows : List (List Int)} {j : Nat} {r : List Int} (h : rows[j]? = some r) (k : Nat) : rowMarks k (rows.take (j + 1)) = rowMarks k (rows.take j) ++ [inMarks ((k + total (rows.take j) : Nat) : Int) r.length] := by
  rw [List.take_add_one, h, rowMarks_append]
  rfl
theorem rowMarks_at {rows : List (List Int)} {j : Nat} {r : List Int} (h : rows[j]? = some r) (k : Nat) : (rowMarks k rows)[j]? = some (inMarks ((k + total (rows.take j) : Nat) : Int) r.length) := by
  have hj := (List.getElem?_eq_some_iff.1 h).1
  have e : rows = rows.take (j + 1) ++ rows.drop (j + 1) := (List.take_append_drop _ _).symm
  rw [e, rowMarks_append, rowMarks_step h, List.getElem?_append_left (by rw [List.length_append, rowMarks_length, List.length_take]; simp; omega), List.getElem?_append_right (by rw [rowMarks_length, List.length_take]; omega)]
  rw [rowMarks_length, List.length_take, ← e]
  simp [show j - min j rows.length = 0 by omega]
theorem marks_set {rows : List (List Int)} {j : Nat} {r : List Int} (h : rows[j]? = some r) (k : Nat) :
    (rowMarks k (rows.take j) ++ rows.drop j).set j (inMarks ((k + total (rows.take j) : Nat) : Int) r.length) = rowMarks k (rows.take (j + 1)) ++ rows.drop (j + 1) := by
  have hj := (List.getElem?_eq_some_iff.1 h).1
  rw [set1 _ _ j _ (by rw [rowMarks_length, List.length_take]; omega) hj, rowMarks_step h]
theorem marks_at {rows : List (List Int)} {j : Nat} {r : List Int} (h : rows[j]? = some r) (k : Nat) : (rowMarks k (rows.take j) ++ rows.drop j)[j]? = some r := by
  have hj := (List.getElem?_eq_some_iff.1 h).1
  rw [List.getElem?_append_right (by rw [rowMarks_length, List.length_take]; omega), rowMarks_length, List.length_take, List.getElem?_drop, ← h]
  congr 1
  omega

/-! ### a table of the call's own, between bounds -/
def TabV (w : World) (lo hi : Nat) (v : Value) (names : List ByteArray) (rows : List (List Int)) : Prop :=
  ∃ v0 v1 : Value, v = .agg #[v0, v1] ∧ w.ownsRow lo 9 1 v0 names.length (stCells names) ∧ (∀ g, v0.ownBlock = some g → g < hi) ∧ RowsO w lo hi v1 rows
section
variable {w w' : World} {lo hi : Nat} {v : Value} {names : List ByteArray} {rows : List (List Int)}
theorem TabO.tabV (h : TabO w lo v names rows) : TabV w lo w.heap.size v names rows := by
  obtain ⟨v0, v1, e, h0, h1⟩ := h
  exact ⟨v0, v1, e, h0, fun g hg => (h0.lt g hg).2, h1⟩
theorem TabV.below (h : TabV w lo hi v names rows) (hb : Below w.heap.size w w') : TabV w' lo hi v names rows := by
  obtain ⟨v0, v1, e, h0, h1, ⟨us, h2⟩⟩ := h
  exact ⟨v0, v1, e, own_below h0 hb, h1, ⟨us, h2.below hb⟩⟩
theorem TabV.touch {lo' hi' : Nat} (h : TabV w lo hi v names rows) (ht : Touch lo' hi' w w') (hd : hi ≤ lo' ∨ hi' ≤ lo) : TabV w' lo hi v names rows := by
  obtain ⟨v0, v1, e, h0, h1, ⟨us, h2⟩⟩ := h
  exact ⟨v0, v1, e, ht.own h0 (fun g hg => by have := h1 g hg; have := (h0.lt g hg).1; omega), h1, ⟨us, h2.touch ht hd⟩⟩
theorem TabV.tabR (h : TabV w lo hi v names rows) : TabR w v names rows := by
  obtain ⟨v0, v1, rfl, h0, _, ⟨us, h1⟩⟩ := h
  obtain ⟨A, c, rfl, ha, _⟩ := own_form h0
  obtain ⟨B, d, rfl, _⟩ := h1.form
  exact ⟨A, c, B, d, rfl, ha, Reads.of_own h0, h1.reads⟩
theorem TabV.form (h : TabV w lo hi v names rows) : ∃ (A : Option Addr) (c : Nat) (B : Option Addr) (d : Nat), v = .agg #[.slice A names.length c, .slice B rows.length d] := by
  obtain ⟨A, c, B, d, e, _⟩ := h.tabR
  exact ⟨A, c, B, d, e⟩
theorem TabV.nil (w : World) (lo hi : Nat) : TabV w lo hi (.agg #[.slice none 0 0, .slice none 0 0]) [] [] :=
  ⟨_, _, rfl, World.ownsRow_nil w _ _ _, fun g h => by simp [Value.ownBlock] at h, ⟨[], RowsV.nil w lo hi⟩⟩
/-- A table that is read, below a bound. -/
def TabB (w : World) (B0 : Nat) (v : Value) (names : List ByteArray) (rows : List (List Int)) : Prop := ∃ (A : Option Addr) (c : Nat) (B : Option Addr) (d : Nat), v = .agg #[.slice A names.length c, .slice B rows.length d] ∧ names.length ≤ c ∧ Reads w B0 1 A names.length (stCells names) ∧ RowsR w B0 B rows.length rows
theorem TabR.tabB (h : TabR w v names rows) : TabB w w.heap.size v names rows := h
theorem TabB.tabR {B0 : Nat} (h : TabB w B0 v names rows) (hB : B0 ≤ w.heap.size) : TabR w v names rows := by
  obtain ⟨A, c, B, d, e, h1, h2, h3⟩ := h
  exact ⟨A, c, B, d, e, h1, h2.more hB, h3.more hB⟩
theorem TabB.belowW {B0 : Nat} (h : TabB w B0 v names rows) (hB : B0 ≤ w.heap.size) (hb : Below w.heap.size w w') : TabB w' B0 v names rows := by
  obtain ⟨A, c, B, d, e, h1, h2, h3⟩ := h
  exact ⟨A, c, B, d, e, h1, h2.belowW hB hb, h3.belowW hB hb⟩
theorem TabB.touch {B0 lo hi : Nat} (h : TabB w B0 v names rows) (ht : Touch lo hi w w') (hB : B0 ≤ lo) (hw : B0 ≤ w.heap.size) : TabB w' B0 v names rows := by
  obtain ⟨A, c, B, d, e, h1, h2, h3⟩ := h
  exact ⟨A, c, B, d, e, h1, h2.touch ht hB hw, h3.touch ht hB hw⟩
end
end Go.Proofs.YtijpdekcdejfmaaDoor
