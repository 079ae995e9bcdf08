/- Arguments opened to cells: slices of structs, of ints; and the row's frame. -/
import Derived.Test.YtijpdekcdejfmaaDoorFrame
import Derived.Test.YtijpdekcdejfmaaDoorMem
import Derived.Deep.Slices
import Derived.Deep.Fields
import Derived.SliceStrings
namespace Go.Proofs.YtijpdekcdejfmaaDoor
open Go Go.RowKit Go.WideShapes Go.ChangeShapes Go.WideElems Go.Deep

section
variable {H : Type} {enc : TypeId × Value → H} {P : Program} {w : World} {base : Nat} {spare : Nat → Bool} {held : Bool}
theorem open_slice_fields {t e : TypeId} {fs : Array Field} {fuel : Nat} {cs : List Value} {x : DataW H × List MemPlace} (ht : P.underlying t = some (.slice e)) (he : P.underlying e = some (.struct fs))
    (hone : oneCellFields P fs = true) (hC : P.cellsOf e = fs.size) (h : DataW.trod enc P w base spare held fuel t cs = some x) :
    (cs = [.slice none 0 0] ∧ x = (.nil, [])) ∨
    ∃ (a : Addr) (len cap m : Nat) (D : Nat → DataW H) (Pl : Nat → List MemPlace), cs = [.slice (some a) len cap] ∧ base ≤ a.block ∧ len ≤ cap ∧ cap ≤ maxLen ∧ m = (if spare a.block then cap else len) ∧
      x = (.slice ((List.range len).map D) ((List.range (m - len)).map fun j => D (len + j)), MemPlace.row a (m * fs.size) ++ (List.range m).flatMap Pl) ∧
      ∀ i, i < m → ∃ (ys : List (DataW H × List MemPlace)) (n : Nat), D i = .agg (ys.map (·.1)) ∧ Pl i = ys.flatMap (·.2) ∧ ys.length = fs.size ∧
        ∀ (j : Nat) (f : Field), fs[j]? = some f → ∃ (v : Value) (y : DataW H × List MemPlace), w.cell? (a.add (i * fs.size + j)) = some v ∧ ys[j]? = some y ∧ DataW.trod enc P w base spare held n f.type [v] = some y := by
  rcases open_slice ht h with h0 | ⟨a, len, cap, m, n, D, Pl, hcs, hb, hl, hm, hmm, hx, hi⟩
  · exact .inl h0
  · refine .inr ⟨a, len, cap, m, D, Pl, hcs, hb, hl, hm, hmm, by rw [hC] at hx; exact hx, fun i him => ?_⟩
    obtain ⟨cs', hc, ht'⟩ := hi i him
    rw [hC] at hc
    obtain ⟨ys, n', hn', hy, hlen, hyl, hf⟩ := DataW.trod_struct he ht'
    obtain ⟨_, hcl, hat⟩ := World.cells?_some hc
    simp only [Prod.mk.injEq] at hy
    refine ⟨ys, n', hy.1, hy.2, hyl, fun j f hj => ?_⟩
    obtain ⟨ho, hk⟩ := hone_of hone j f hj
    have hjl : j < fs.size := (Array.getElem?_eq_some_iff.1 hj).1
    have hcell := hat j hjl
    have hv : cs'[j]? = some (cs'[j]'(by omega)) := List.getElem?_eq_getElem (by omega)
    have h1 := hf j f hj
    rw [ho, hk] at h1
    have hone' : (cs'.drop j).take 1 = [cs'[j]'(by omega)] := by
      rw [List.drop_eq_getElem_cons (by omega)]
      rfl
    rw [hone'] at h1
    have hys : ys[j]? = some (ys[j]'(by omega)) := List.getElem?_eq_getElem (by omega)
    refine ⟨_, _, ?_, hys, h1.trans hys⟩
    rw [← Go.Deep.add_add, hcell, hv]
end

def i64ok (n : Int) : Prop := -9223372036854775808 ≤ n ∧ n ≤ 9223372036854775807
theorem i64ok_of {n : Int} (h : (Lit.int .i64 n).wf = true) : i64ok n := by simpa [Lit.wf, IntKind.min, IntKind.max, IntKind.signed, IntKind.bits, i64ok] using h

section
variable {H : Type} {enc : TypeId × Value → H} {P : Program} {W : World} {sp : Nat → Bool}
/-- A slice of structs, element by element: 'Q i vs' says which values lie at element i. -/
theorem reads_of_fields {A : Option Addr} {a : Addr} {len size : Nat} {L : List (List Value)} (hA : A = some a) (hL : L.length = len) (hsz : ∀ l ∈ L, l.length = size) (h0 : 0 < size)
    (hc : ∀ i (hi : i < L.length) j u, L[i][j]? = some u → W.cell? (a.add (i * size + j)) = some u) : Reads W W.heap.size size A len L.flatten := by
  have hlen : ∀ (M : List (List Value)), (∀ l ∈ M, l.length = size) → M.flatten.length = M.length * size := by
    intro M
    induction M with
    | nil => simp
    | cons m M ih =>
      intro hM
      rw [List.flatten_cons, List.length_append, ih (fun l hl => hM l (List.mem_cons_of_mem _ hl)), hM m (List.mem_cons_self ..), List.length_cons, Nat.add_mul, Nat.one_mul, Nat.add_comm]
  have hat : ∀ (M : List (List Value)), (∀ l ∈ M, l.length = size) → ∀ j u, M.flatten[j]? = some u → ∃ i, ∃ hi : i < M.length, M[i][j - i * size]? = some u ∧ i * size ≤ j := by
    intro M
    induction M with
    | nil => intro _ j u hj; simp at hj
    | cons m M ih =>
      intro hM j u hj
      have hm := hM m (List.mem_cons_self ..)
      rw [List.flatten_cons] at hj
      by_cases hlt : j < m.length
      · rw [List.getElem?_append_left hlt] at hj
        exact ⟨0, by simp, by simpa using hj, by simp⟩
      · rw [List.getElem?_append_right (by omega)] at hj
        obtain ⟨i, hi, h1, h2⟩ := ih (fun l hl => hM l (List.mem_cons_of_mem _ hl)) _ u hj
        have e : (i + 1) * size = i * size + size := by rw [Nat.add_mul, Nat.one_mul]
        refine ⟨i + 1, by simpa using hi, ?_, by omega⟩
        have e2 : j - (i + 1) * size = j - m.length - i * size := by omega
        rw [List.getElem_cons_succ, e2]
        exact h1
  refine ⟨by rw [hlen L hsz, hL], fun hn => ?_⟩
  have key : ∀ j u, L.flatten[j]? = some u → W.cell? (a.add j) = some u := by
    intro j u hj
    obtain ⟨i, hi, h1, h2⟩ := hat L hsz j u hj
    have := hc i hi (j - i * size) u h1
    rwa [show i * size + (j - i * size) = j by omega] at this
  refine ⟨a, hA, ?_, key⟩
  have hpos : 0 < L.flatten.length := by
    rw [hlen L hsz, hL]
    exact Nat.mul_pos hn h0
  have h1 := World.block_lt_of_cell? W _ (key 0 _ (List.getElem?_eq_getElem hpos))
  rwa [block_of_add] at h1
end


section
variable {H : Type} {enc : TypeId × Value → H} {W : World} {sp : Nat → Bool} {base : Nat}
set_option maxRecDepth 100000 in
theorem open_intS {v : Value} {d : DataW H} {p : List MemPlace} (hv : Value.okWide Tryd.prog W .any base 40 v) (h : DataW.Trod enc Tryd.prog W 0 sp true 40 v d p) :
    ∃ (A : Option Addr) (n c : Nat) (xs : List Int), v = .slice A n c ∧ xs.length = n ∧ n ≤ maxLen ∧ (∀ x ∈ xs, i64ok x) ∧ Reads W W.heap.size 1 A n (xs.map (Value.int .i64)) := by
  obtain ⟨a0, len, cap, rfl⟩ := okWide_slice Tryd.underlying40 hv
  obtain ⟨fuel, hf⟩ := h
  rcases open_slice1 Tryd.underlying40 (by kernel_rfl) hf with ⟨hcs, _⟩ | ⟨a, len', cap', m, n, V, D, Pl, hcs, _, hl, hm, hmm, hx, hi⟩
  · simp [Value.cells] at hcs
    obtain ⟨rfl, rfl, rfl⟩ := hcs
    exact ⟨none, 0, 0, [], rfl, rfl, by unfold maxLen; omega, by simp, Reads.none_⟩
  · simp [Value.cells] at hcs
    obtain ⟨rfl, rfl, rfl⟩ := hcs
    have each : ∀ i, i < len → ∃ x : Int, i64ok x ∧ W.cell? (a.add i) = some (.int .i64 x) := by
      intro i hil
      obtain ⟨c0, t0⟩ := hi i (by rw [hmm]; split <;> omega)
      obtain ⟨n0, e0, _, w0⟩ := DataW.trod_int Tryd.underlying3 t0
      simp at e0
      exact ⟨n0, i64ok_of w0, by rw [c0, e0]⟩
    obtain ⟨f, hf'⟩ := choose_lt each
    refine ⟨some a, len, cap, (List.range len).map f, rfl, by simp, by omega, ?_, ?_⟩
    · intro x hx
      simp only [List.mem_map, List.mem_range] at hx
      obtain ⟨i, hil, rfl⟩ := hx
      exact (hf' i hil).1
    · refine ⟨by simp, fun hn => ?_⟩
      have key : ∀ j u, ((List.range len).map f |>.map (Value.int .i64))[j]? = some u → W.cell? (a.add j) = some u := by
        intro j u hj
        by_cases hjl : j < len
        · simp [hjl] at hj
          rw [← hj]
          exact (hf' j hjl).2
        · simp [hjl] at hj
      refine ⟨a, rfl, ?_, key⟩
      have h1 := World.block_lt_of_cell? W _ (hf' 0 hn).2
      rwa [block_of_add] at h1
end
end Go.Proofs.YtijpdekcdejfmaaDoor
