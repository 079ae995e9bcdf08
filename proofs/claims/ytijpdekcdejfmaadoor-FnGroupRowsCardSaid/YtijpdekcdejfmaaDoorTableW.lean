/- laws.Table as an argument; laws.szTable. -/
import Derived.Test.YtijpdekcdejfmaaDoorTableX
namespace Go.Proofs.YtijpdekcdejfmaaDoor
open Go Go.RowKit Go.WideShapes Go.ChangeShapes Go.WideElems Go.Deep
set_option maxRecDepth 100000

/-- A table that was handed in. -/
structure TabA (W : World) (v : Value) (names : List ByteArray) (rows : List (List Int)) : Prop where
  form : ∃ (A : Option Addr) (c : Nat) (B : Option Addr) (d : Nat), v = .agg #[.slice A names.length c, .slice B rows.length d] ∧ names.length ≤ c ∧ Reads W W.heap.size 1 A names.length (stCells names) ∧ RowsR W W.heap.size B rows.length rows
  n1 : names.length ≤ maxLen
  n2 : ∀ x ∈ names, x.size ≤ maxLen
  r1 : rows.length ≤ maxLen
  r2 : ∀ r ∈ rows, ∀ x ∈ r, i64ok x

section
variable {H : Type} {enc : TypeId × Value → H} {W : World} {sp : Nat → Bool} {base : Nat}
theorem trod_names {v : Value} {n : Nat} {y : DataW H × List MemPlace} (h : DataW.trod enc Tryd.prog W 0 sp true n 23 [v] = some y) :
    ∃ (A : Option Addr) (c : Nat) (xs : List ByteArray), v = .slice A xs.length c ∧ xs.length ≤ c ∧ c ≤ maxLen ∧ (∀ x ∈ xs, x.size ≤ maxLen) ∧ Reads W W.heap.size 1 A xs.length (stCells xs) := by
  rcases open_slice1 Tryd.underlying23 (by kernel_rfl) h with ⟨hcs, _⟩ | ⟨a, len, cap, m, n, V, D, Pl, hcs, _, hl, hm, hmm, hx, hi⟩
  · simp at hcs
    subst hcs
    exact ⟨none, 0, [], rfl, Nat.le_refl _, by unfold maxLen; omega, by simp, Reads.none_⟩
  · simp at hcs
    subst hcs
    have each : ∀ i, i < len → ∃ x : ByteArray, x.size ≤ maxLen ∧ W.cell? (a.add i) = some (.string x) := by
      intro i hil
      obtain ⟨c0, t0⟩ := hi i (by rw [hmm]; split <;> omega)
      obtain ⟨s, e, hy, hs⟩ := DataW.trod_string Tryd.underlying9 t0
      simp at e
      exact ⟨s, hs, by rw [c0, e]⟩
    obtain ⟨f, hf'⟩ := choose_lt each
    refine ⟨some a, cap, (List.range len).map f, by simp, by simpa using hl, hm, ?_, by simp [stCells], fun hn => ?_⟩
    · intro x hx
      simp only [List.mem_map, List.mem_range] at hx
      obtain ⟨i, hil, rfl⟩ := hx
      exact (hf' i hil).1
    have key : ∀ j u, (stCells ((List.range len).map f))[j]? = some u → W.cell? (a.add j) = some u := by
      intro j u hj
      by_cases hjl : j < len
      · simp [stCells, hjl] at hj
        rw [← hj]
        exact (hf' j hjl).2
      · simp [stCells, hjl] at hj
    refine ⟨a, rfl, ?_, key⟩
    have h1 := World.block_lt_of_cell? W _ (hf' 0 (by simpa using hn)).2
    rwa [block_of_add] at h1
theorem trod_row {v : Value} {n : Nat} {y : DataW H × List MemPlace} (h : DataW.trod enc Tryd.prog W 0 sp true n 40 [v] = some y) :
    ∃ (A : Option Addr) (c : Nat) (xs : List Int), v = .slice A xs.length c ∧ xs.length ≤ c ∧ c ≤ maxLen ∧ (A = none → c = 0) ∧ (∀ x ∈ xs, i64ok x) ∧ Reads W W.heap.size 1 A xs.length (inCells xs) := by
  rcases open_slice1 Tryd.underlying40 (by kernel_rfl) h with ⟨hcs, _⟩ | ⟨a, len, cap, m, n, V, D, Pl, hcs, _, hl, hm, hmm, hx, hi⟩
  · simp at hcs
    subst hcs
    exact ⟨none, 0, [], rfl, Nat.le_refl _, by unfold maxLen; omega, fun _ => rfl, by simp, Reads.none_⟩
  · simp at hcs
    subst hcs
    have each : ∀ i, i < len → ∃ x : Int, i64ok x ∧ W.cell? (a.add i) = some (.int .i64 x) := by
      intro i hil
      obtain ⟨c0, t0⟩ := hi i (by rw [hmm]; split <;> omega)
      obtain ⟨n0, e0, _, w0⟩ := DataW.trod_int Tryd.underlying3 t0
      simp at e0
      exact ⟨n0, i64ok_of w0, by rw [c0, e0]⟩
    obtain ⟨f, hf'⟩ := choose_lt each
    refine ⟨some a, cap, (List.range len).map f, by simp, by simpa using hl, hm, fun h => (by cases h), ?_, by simp [inCells], fun hn => ?_⟩
    · intro x hx
      simp only [List.mem_map, List.mem_range] at hx
      obtain ⟨i, hil, rfl⟩ := hx
      exact (hf' i hil).1
    have key : ∀ j u, (inCells ((List.range len).map f))[j]? = some u → W.cell? (a.add j) = some u := by
      intro j u hj
      by_cases hjl : j < len
      · simp [inCells, hjl] at hj
        rw [← hj]
        exact (hf' j hjl).2
      · simp [inCells, hjl] at hj
    refine ⟨a, rfl, ?_, key⟩
    have h1 := World.block_lt_of_cell? W _ (hf' 0 (by simpa using hn)).2
    rwa [block_of_add] at h1
theorem trod_rows {v : Value} {n : Nat} {y : DataW H × List MemPlace} (h : DataW.trod enc Tryd.prog W 0 sp true n 24 [v] = some y) :
    ∃ (A : Option Addr) (c : Nat) (rows : List (List Int)), v = .slice A rows.length c ∧ rows.length ≤ c ∧ c ≤ maxLen ∧ (∀ r ∈ rows, ∀ x ∈ r, i64ok x) ∧ RowsR W W.heap.size A rows.length rows := by
  rcases open_slice1 Tryd.underlying24 (by kernel_rfl) h with ⟨hcs, _⟩ | ⟨a, len, cap, m, n, V, D, Pl, hcs, _, hl, hm, hmm, hx, hi⟩
  · simp at hcs
    subst hcs
    exact ⟨none, 0, [], rfl, Nat.le_refl _, by unfold maxLen; omega, by simp, RowsR.none_⟩
  · simp at hcs
    subst hcs
    have each : ∀ i, i < len → ∃ r : List Int, (∀ x ∈ r, i64ok x) ∧ ∃ (Ak : Option Addr) (ck : Nat), W.cell? (a.add i) = some (.slice Ak r.length ck) ∧ r.length ≤ ck ∧ ck ≤ maxLen ∧ (Ak = none → ck = 0) ∧ Reads W W.heap.size 1 Ak r.length (inCells r) := by
      intro i hil
      obtain ⟨c0, t0⟩ := hi i (by rw [hmm]; split <;> omega)
      obtain ⟨Ak, ck, r, e, h1, h2, h3, h4, h5⟩ := trod_row t0
      exact ⟨r, h4, Ak, ck, by rw [c0, e], h1, h2, h3, h5⟩
    obtain ⟨f, hf'⟩ := choose_lt each
    obtain ⟨g, hg⟩ := choose_lt (n := len) (p := fun i (y : Option Addr × Nat) => W.cell? (a.add i) = some (.slice y.1 (f i).length y.2) ∧ (f i).length ≤ y.2 ∧ y.2 ≤ maxLen ∧ (y.1 = none → y.2 = 0) ∧ Reads W W.heap.size 1 y.1 (f i).length (inCells (f i))) (fun i hi => by
      obtain ⟨_, Ak, ck, h⟩ := hf' i hi
      exact ⟨(Ak, ck), h⟩)
    refine ⟨some a, cap, (List.range len).map f, by simp, by simpa using hl, hm, ?_, (List.range len).map fun i => .slice (g i).1 (f i).length (g i).2, ⟨by simp, fun hn => ?_⟩, rfl, ?_⟩
    · intro r hr
      simp only [List.mem_map, List.mem_range] at hr
      obtain ⟨i, hil, rfl⟩ := hr
      exact (hf' i hil).1
    · have hn' : 0 < len := by simpa using hn
      refine ⟨a, rfl, ?_, ?_⟩
      · have h1 := World.block_lt_of_cell? W _ (hg 0 hn').1
        rwa [block_of_add] at h1
      · intro j u hj
        by_cases hjl : j < len
        · simp [hjl] at hj
          rw [← hj]
          exact (hg j hjl).1
        · simp [hjl] at hj
    · intro k row hr
      by_cases hkl : k < len
      · simp [hkl] at hr
        subst hr
        exact ⟨(g k).1, (g k).2, by simp [hkl], (hg k hkl).2⟩
      · simp [hkl] at hr

end

section
variable {w w' : World} {v : Value} {names : List ByteArray} {rows : List (List Int)}
theorem TabA.below (h : TabA w v names rows) (hb : Below w.heap.size w w') : TabA w' v names rows := by
  obtain ⟨⟨A, c, B, d, rfl, hc, hx, hy⟩, h1, h2, h3, h4⟩ := h
  exact ⟨⟨A, c, B, d, rfl, hc, (hx.below hb).more hb.size, hy.below hb⟩, h1, h2, h3, h4⟩
theorem TabA.reads (h : TabA w v names rows) : TabR w v names rows := h.form
end
/-- What laws.szTable leaves where it does not turn the argument away. -/
structure Small (names : List ByteArray) (rows : List (List Int)) : Prop where
  n1 : names.length ≤ 1048576
  n2 : ∀ x ∈ names, x.size ≤ 1048576
  r1 : rows.length ≤ 1048576
  r2 : ∀ r ∈ rows, r.length ≤ 1048576
theorem Small.ok {names : List ByteArray} {rows : List (List Int)} (h : Small names rows) : TabOk names rows :=
  ⟨by have := h.n1; omega, fun x hx => by have := h.n2 x hx; omega, by have := h.r1; omega, fun r hr => by have := h.r2 r hr; omega⟩
/-- A copy of a table: of the call's own. -/
def TabO (w : World) (lo : Nat) (v : Value) (names : List ByteArray) (rows : List (List Int)) : Prop := ∃ v0 v1 : Value, v = .agg #[v0, v1] ∧ w.ownsRow lo 9 1 v0 names.length (stCells names) ∧ RowsO w lo w.heap.size v1 rows
theorem TabO.reads {w : World} {lo : Nat} {v : Value} {names : List ByteArray} {rows : List (List Int)} (h : TabO w lo v names rows) : TabR w v names rows := by
  obtain ⟨v0, v1, rfl, h0, ⟨us, h1⟩⟩ := h
  obtain ⟨A, c, rfl, ha, _⟩ := own_form h0
  obtain ⟨B, d, rfl, _⟩ := h1.form
  exact ⟨A, c, B, d, rfl, ha, Reads.of_own h0, h1.reads⟩
theorem TabO.touch {w w' : World} {lo a b : Nat} {v : Value} {names : List ByteArray} {rows : List (List Int)} (h : TabO w lo v names rows) (ht : Touch a b w w') (hb : b ≤ lo) (hs : w'.heap.size = w.heap.size) : TabO w' lo v names rows := by
  obtain ⟨v0, v1, e, h0, ⟨us, h1⟩⟩ := h
  exact ⟨v0, v1, e, ht.own_above h0 hb, ⟨us, by rw [hs]; exact h1.touch ht (Or.inr hb)⟩⟩
theorem TabO.below {w w' : World} {lo : Nat} {v : Value} {names : List ByteArray} {rows : List (List Int)} (h : TabO w lo v names rows) (hb : Below w.heap.size w w') : TabO w' lo v names rows := by
  obtain ⟨v0, v1, e, h0, ⟨us, h1⟩⟩ := h
  exact ⟨v0, v1, e, own_below h0 hb, ⟨us, (h1.below hb).wide hb.size⟩⟩
theorem TabO.low {w : World} {lo lo' : Nat} {v : Value} {names : List ByteArray} {rows : List (List Int)} (h : TabO w lo v names rows) (hl : lo' ≤ lo) : TabO w lo' v names rows := by
  obtain ⟨v0, v1, e, h0, ⟨us, h1⟩⟩ := h
  exact ⟨v0, v1, e, h0.base_le hl, ⟨us, h1.low hl⟩⟩
theorem specTab_any (q : Bool) (v : Value) (names : List ByteArray) (rows : List (List Int)) (w : World) (ht : TabR w v names rows) (hs : TabOk names rows) (hq : tableB names rows = q) :
    Calls Tryd.prog 27 #[v] w fun e w' => e = .returned (.bool q) ∧ Below w.heap.size w w' := by
  obtain ⟨A, c, B, d, rfl, hc, hx, hy⟩ := ht
  exact tableSpec_any q A _ c names B _ d rows w rfl hx hy hs hq
theorem implTab_any (q : Bool) (v : Value) (names : List ByteArray) (rows : List (List Int)) (RA : Option Addr) (RC : Nat) (w : World) (hv : w.cell? ⟨0, 0, none⟩ = some (.slice RA 13 RC)) (hr : Reads w w.heap.size 1 RA 13 (stCells resW)) (ht : TabR w v names rows) (hs : TabOk names rows) (hq : tableB names rows = q) :
    Calls Tryd.prog 12 #[v] w fun e w' => e = .returned (.bool q) ∧ Below w.heap.size w w' := by
  obtain ⟨A, c, B, d, rfl, hc, hx, hy⟩ := ht
  exact tableImpl_any q A _ c names B _ d rows RA RC w hv hr rfl hc hx hy hs hq
end Go.Proofs.YtijpdekcdejfmaaDoor
