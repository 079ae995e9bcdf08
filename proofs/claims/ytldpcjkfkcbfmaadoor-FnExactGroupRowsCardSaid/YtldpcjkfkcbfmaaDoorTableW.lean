/- laws.Table as an argument; laws.szTable. -/
import Derived.Test.YtldpcjkfkcbfmaaDoorTableX
namespace Go.Proofs.YtldpcjkfkcbfmaaDoor
open Go Go.RowKit Go.WideShapes Go.ChangeShapes Go.WideElems Go.Deep
set_option maxRecDepth 100000

/-- A table that was handed in. -/
structure TabA (W : World) (v : Value) (names : List ByteArray) (rows : List (List Int)) : Prop where
  form : ∃ (A : Option Addr) (c : Nat) (B : Option Addr) (d : Nat), v = .agg #[.slice A names.length c, .slice B rows.length d] ∧ names.length ≤ c ∧ Reads W W.heap.size 1 A names.length (stCells names) ∧ RowsR W W.heap.size B rows.length rows
  n1 : names.length ≤ maxLen
  n2 : ∀ x ∈ names, x.size ≤ maxLen
  r1 : rows.length ≤ maxLen
  r2 : ∀ r ∈ rows, ∀ x ∈ r, i64ok x

section
variable {H : Type} {enc : TypeId × Value → H} {W : World} {sp : Nat → Bool} {base : Nat}
theorem trod_names {v : Value} {n : Nat} {y : DataW H × List MemPlace} (h : DataW.trod enc Tryd.prog W 0 sp true n 22 [v] = some y) :
    ∃ (A : Option Addr) (c : Nat) (xs : List ByteArray), v = .slice A xs.length c ∧ xs.length ≤ c ∧ c ≤ maxLen ∧ (∀ x ∈ xs, x.size ≤ maxLen) ∧ Reads W W.heap.size 1 A xs.length (stCells xs) := by
  rcases open_slice1 Tryd.underlying22 (by kernel_rfl) h with ⟨hcs, _⟩ | ⟨a, len, cap, m, n, V, D, Pl, hcs, _, hl, hm, hmm, hx, hi⟩
  · simp at hcs
    subst hcs
    exact ⟨none, 0, [], rfl, Nat.le_refl _, by unfold maxLen; omega, by simp, Reads.none_⟩
  · simp at hcs
    subst hcs
    have each : ∀ i, i < len → ∃ x : ByteArray, x.size ≤ maxLen ∧ W.cell? (a.add i) = some (.string x) := by
      intro i hil
      obtain ⟨c0, t0⟩ := hi i (by rw [hmm]; split <;> omega)
      obtain ⟨s, e, hy, hs⟩ := DataW.trod_string Tryd.underlying9 t0
      simp at e
      exact ⟨s, hs, by rw [c0, e]⟩
    obtain ⟨f, hf'⟩ := choose_lt each
    refine ⟨some a, cap, (List.range len).map f, by simp, by simpa using hl, hm, ?_, by simp [stCells], fun hn => ?_⟩
    · intro x hx
      simp only [List.mem_map, List.mem_range] at hx
      obtain ⟨i, hil, rfl⟩ := hx
      exact (hf' i hil).1
    have key : ∀ j u, (stCells ((List.range len).map f))[j]? = some u → W.cell? (a.add j) = some u := by
      intro j u hj
      by_cases hjl : j < len
      · simp [stCells, hjl] at hj
        rw [← hj]
        exact (hf' j hjl).2
      · simp [stCells, hjl] at hj
    refine ⟨a, rfl, ?_, key⟩
    have h1 := World.block_lt_of_cell? W _ (hf' 0 (by simpa using hn)).2
    rwa [block_of_add] at h1
theorem trod_row {v : Value} {n : Nat} {y : DataW H × List MemPlace} (h : DataW.trod enc Tryd.prog W 0 sp true n 44 [v] = some y) :
    ∃ (A : Option Addr) (c : Nat) (xs : List Int), v = .slice A xs.length c ∧ xs.length ≤ c ∧ c ≤ maxLen ∧ (A = none → c = 0) ∧ (∀ x ∈ xs, i64ok x) ∧ Reads W W.heap.size 1 A xs.length (inCells xs) := by
  rcases open_slice1 Tryd.underlying44 (by kernel_rfl) h with ⟨hcs, _⟩ | ⟨a, len, cap, m, n, V, D, Pl, hcs, _, hl, hm, hmm, hx, hi⟩
  · simp at hcs
    subst hcs
    exact ⟨none, 0, [], rfl, Nat.le_refl _, by unfold maxLen; omega, fun _ => rfl, by simp, Reads.none_⟩
  · simp at hcs
    subst hcs
    have each : ∀ i, i < len → ∃ x : Int, i64ok x ∧ W.cell? (a.add i) = some (.int .i64 x) := by
      intro i hil
      obtain ⟨c0, t0⟩ := hi i (by rw [hmm]; split <;> omega)
      obtain ⟨n0, e0, _, w0⟩ := DataW.trod_int Tryd.underlying3 t0
      simp at e0
      exact ⟨n0, i64ok_of w0, by rw [c0, e0]⟩
    obtain ⟨f, hf'⟩ := choose_lt each
    refine ⟨some a, cap, (List.range len).map f, by simp, by simpa using hl, hm, fun h => (by cases h), ?_, by simp [inCells], fun hn => ?_⟩
    · intro x hx
      simp only [List.mem_map, List.mem_range] at hx
      obtain ⟨i, hil, rfl⟩ := hx
      exact (hf' i hil).1
    have key : ∀ j u, (inCells ((List.range len).map f))[j]? = some u → W.cell? (a.add j) = some u := by
      intro j u hj
      by_cases hjl : j < len
      · simp [inCells, hjl] at hj
        rw [← hj]
        exact (hf' j hjl).2
      · simp [inCells, hjl] at hj
    refine ⟨a, rfl, ?_, key⟩
    have h1 := World.block_lt_of_cell? W _ (hf' 0 (by simpa using hn)).2
    rwa [block_of_add] at h1
theorem trod_rows {v : Value} {n : Nat} {y : DataW H × List MemPlace} (h : DataW.trod enc Tryd.prog W 0 sp true n 23 [v] = some y) :
    ∃ (A : Option Addr) (c : Nat) (rows : List (List Int)), v = .slice A rows.length c ∧ rows.length ≤ c ∧ c ≤ maxLen ∧ (∀ r ∈ rows, ∀ x ∈ r, i64ok x) ∧ RowsR W W.heap.size A rows.length rows := by
  rcases open_slice1 Tryd.underlying23 (by kernel_rfl) h with ⟨hcs, _⟩ | ⟨a, len, cap, m, n, V, D, Pl, hcs, _, hl, hm, hmm, hx, hi⟩
  · simp at hcs
    subst hcs
    exact ⟨none, 0, [], rfl, Nat.le_refl _, by unfold maxLen; omega, by simp, RowsR.none_⟩
  · simp at hcs
    subst hcs
    have each : ∀ i, i < len → ∃ r : List Int, (∀ x ∈ r, i64ok x) ∧ ∃ (Ak : Option Addr) (ck : Nat), W.cell? (a.add i) = some (.slice Ak r.length ck) ∧ r.length ≤ ck ∧ ck ≤ maxLen ∧ (Ak = none → ck = 0) ∧ Reads W W.heap.size 1 Ak r.length (inCells r) := by
      intro i hil
      obtain ⟨c0, t0⟩ := hi i (by rw [hmm]; split <;> omega)
      obtain ⟨Ak, ck, r, e, h1, h2, h3, h4, h5⟩ := trod_row t0
      exact ⟨r, h4, Ak, ck, by rw [c0, e], h1, h2, h3, h5⟩
    obtain ⟨f, hf'⟩ := choose_lt each
    obtain ⟨g, hg⟩ := choose_lt (n := len) (p := fun i (y : Option Addr × Nat) => W.cell? (a.add i) = some (.slice y.1 (f i).length y.2) ∧ (f i).length ≤ y.2 ∧ y.2 ≤ maxLen ∧ (y.1 = none → y.2 = 0) ∧ Reads W W.heap.size 1 y.1 (f i).length (inCells (f i))) (fun i hi => by
      obtain ⟨_, Ak, ck, h⟩ := hf' i hi
      exact ⟨(Ak, ck), h⟩)
    refine ⟨some a, cap, (List.range len).map f, by simp, by simpa using hl, hm, ?_, (List.range len).map fun i => .slice (g i).1 (f i).length (g i).2, ⟨by simp, fun hn => ?_⟩, rfl, ?_⟩
    · intro r hr
      simp only [List.mem_map, List.mem_range] at hr
      obtain ⟨i, hil, rfl⟩ := hr
      exact (hf' i hil).1
    · have hn' : 0 < len := by simpa using hn
      refine ⟨a, rfl, ?_, ?_⟩
      · have h1 := World.block_lt_of_cell? W _ (hg 0 hn').1
        rwa [block_of_add] at h1
      · intro j u hj
        by_cases hjl : j < len
        · simp [hjl] at hj
          rw [← hj]
          exact (hg j hjl).1
        · simp [hjl] at hj
    · intro k row hr
      by_cases hkl : k < len
      · simp [hkl] at hr
        subst hr
        exact ⟨(g k).1, (g k).2, by simp [hkl], (hg k hkl).2⟩
      · simp [hkl] at hr

theorem open_table {v : Value} {d : DataW H} {p : List MemPlace} (hv : Value.okWide Tryd.prog W .any base 25 v) (h : DataW.Trod enc Tryd.prog W 0 sp true 25 v d p) :
    ∃ (names : List ByteArray) (rows : List (List Int)), TabA W v names rows := by
  obtain ⟨v0, v1, y0, y1, n, rfl, _, _, h0, h1⟩ := Go.Joins.open_agg2 Tryd.underlying25 (by kernel_rfl) (by kernel_rfl) hv h
  obtain ⟨A, c, xs, rfl, a1, a2, a3, a4⟩ := trod_names h0
  obtain ⟨B, d, rows, rfl, b1, b2, b3, b4⟩ := trod_rows h1
  exact ⟨xs, rows, ⟨A, c, B, d, rfl, a1, a4, b4⟩, by omega, a3, by omega, b3⟩
end

set_option maxHeartbeats 800000 in
theorem szTable_any (v : Value) (names : List ByteArray) (rows : List (List Int)) (l : Int) (w : World) (h0 : 0 ≤ l) (h1 : l ≤ 1048576) (ht : TabA w v names rows) :
    Calls Tryd.prog 6 #[v, .int .i64 l] w fun e w' => ∃ r : Int, e = .returned (.int .i64 r) ∧ -1 ≤ r ∧ r ≤ l ∧ (0 ≤ r → (names.length ≤ 1048576 ∧ ∀ x ∈ names, x.size ≤ 1048576) ∧ rows.length ≤ 1048576 ∧ ∀ r ∈ rows, r.length ≤ 1048576) ∧ Below w.heap.size w w' := by
  obtain ⟨⟨A, c, B, d, rfl, hc, hx, hy⟩, hn1, hn2, hr1, hr2⟩ := ht
  unfold maxLen at hn1 hn2 hr1
  obtain ⟨n, hnn⟩ : ∃ n, names.length = n := ⟨_, rfl⟩
  obtain ⟨m, hmm⟩ : ∃ m, rows.length = m := ⟨_, rfl⟩
  rw [hnn] at hx hc hn1 ⊢
  rw [hmm] at hy hr1 ⊢
  obtain ⟨w1, hw1⟩ : ∃ w1, w1 = w.alloc (.cells #[.slice A n c, .slice B m d] 25) := ⟨_, rfl⟩
  have b1 : Below w.heap.size w w1 := by rw [hw1]; exact (Below.refl _ _).alloc (Nat.le_refl _) _
  have kb : Blk w1 w.heap.size 25 #[.slice A n c, .slice B m d] := by rw [hw1]; exact Blk.new _ _ _
  have c0 := kb.cell 0
  have c1 := kb.cell 1
  simp at c0 c1
  have S1 := Lib.hid (szStringS_any A n c names l w1 h0 h1 ((hx.below b1).more b1.size) hnn (by omega) (fun x h => by have := hn2 x h; omega))
  have S2 := Lib.hid (fun (r : Int) (g0 : 0 ≤ r) (g1 : r ≤ 1048576) => szIntSS_any B m d rows r w1 g0 g1 (hy.below b1) (by omega))
  have HW := Lib.hid hw1
  clear hx hy hc hnn hmm hn1 hn2 hr1 hr2 kb
  go_enter Tryd.func6, Tryd.ntmps6
  go_wp2_with fail
  rw [← HW.out]
  clear hw1
  refine S1.out.mono ?_
  rintro e w' ⟨r, rfl, g1, g2, g3, rfl⟩
  have G3 := Lib.hid g3
  clear g3
  by_cases hr : r < 0
  · go_wp2_with fail
    go_ret
    exact ⟨-1, rfl, by omega, by omega, fun h => by omega, b1⟩
  · have S3 := Lib.hid (S2.out r (by omega) (by omega))
    go_wp2_with fail
    refine S3.out.mono ?_
    rintro e w' ⟨r', rfl, g1', g2', g3', rfl⟩
    have G4 := Lib.hid g3'
    clear g3'
    by_cases hr' : r' < 0
    · go_wp2_with fail
      go_ret
      exact ⟨-1, rfl, by omega, by omega, fun h => by omega, b1⟩
    · go_wp2_with fail
      go_ret
      exact ⟨r', rfl, by omega, by omega, fun h => ⟨G3.out (by omega), G4.out (by omega)⟩, b1⟩
section
variable {w w' : World} {v : Value} {names : List ByteArray} {rows : List (List Int)}
theorem TabA.below (h : TabA w v names rows) (hb : Below w.heap.size w w') : TabA w' v names rows := by
  obtain ⟨⟨A, c, B, d, rfl, hc, hx, hy⟩, h1, h2, h3, h4⟩ := h
  exact ⟨⟨A, c, B, d, rfl, hc, (hx.below hb).more hb.size, hy.below hb⟩, h1, h2, h3, h4⟩
theorem TabA.reads (h : TabA w v names rows) : TabR w v names rows := h.form
end
/-- What laws.szTable leaves where it does not turn the argument away. -/
structure Small (names : List ByteArray) (rows : List (List Int)) : Prop where
  n1 : names.length ≤ 1048576
  n2 : ∀ x ∈ names, x.size ≤ 1048576
  r1 : rows.length ≤ 1048576
  r2 : ∀ r ∈ rows, r.length ≤ 1048576
theorem Small.ok {names : List ByteArray} {rows : List (List Int)} (h : Small names rows) : TabOk names rows :=
  ⟨by have := h.n1; omega, fun x hx => by have := h.n2 x hx; omega, by have := h.r1; omega, fun r hr => by have := h.r2 r hr; omega⟩
/-- A copy of a table: of the call's own. -/
def TabO (w : World) (lo : Nat) (v : Value) (names : List ByteArray) (rows : List (List Int)) : Prop := ∃ v0 v1 : Value, v = .agg #[v0, v1] ∧ w.ownsRow lo 9 1 v0 names.length (stCells names) ∧ RowsO w lo w.heap.size v1 rows
theorem TabO.reads {w : World} {lo : Nat} {v : Value} {names : List ByteArray} {rows : List (List Int)} (h : TabO w lo v names rows) : TabR w v names rows := by
  obtain ⟨v0, v1, rfl, h0, ⟨us, h1⟩⟩ := h
  obtain ⟨A, c, rfl, ha, _⟩ := own_form h0
  obtain ⟨B, d, rfl, _⟩ := h1.form
  exact ⟨A, c, B, d, rfl, ha, Reads.of_own h0, h1.reads⟩
theorem TabO.touch {w w' : World} {lo a b : Nat} {v : Value} {names : List ByteArray} {rows : List (List Int)} (h : TabO w lo v names rows) (ht : Touch a b w w') (hb : b ≤ lo) (hs : w'.heap.size = w.heap.size) : TabO w' lo v names rows := by
  obtain ⟨v0, v1, e, h0, ⟨us, h1⟩⟩ := h
  exact ⟨v0, v1, e, ht.own_above h0 hb, ⟨us, by rw [hs]; exact h1.touch ht (Or.inr hb)⟩⟩
theorem TabO.below {w w' : World} {lo : Nat} {v : Value} {names : List ByteArray} {rows : List (List Int)} (h : TabO w lo v names rows) (hb : Below w.heap.size w w') : TabO w' lo v names rows := by
  obtain ⟨v0, v1, e, h0, ⟨us, h1⟩⟩ := h
  exact ⟨v0, v1, e, own_below h0 hb, ⟨us, (h1.below hb).wide hb.size⟩⟩
theorem TabO.low {w : World} {lo lo' : Nat} {v : Value} {names : List ByteArray} {rows : List (List Int)} (h : TabO w lo v names rows) (hl : lo' ≤ lo) : TabO w lo' v names rows := by
  obtain ⟨v0, v1, e, h0, ⟨us, h1⟩⟩ := h
  exact ⟨v0, v1, e, h0.base_le hl, ⟨us, h1.low hl⟩⟩
theorem toTab_any (v : Value) (names : List ByteArray) (rows : List (List Int)) (w : World) (ht : TabR w v names rows) (hs : Small names rows) :
    Calls Tryd.prog 8 #[v] w fun e w' => ∃ (A : Option Addr) (c : Nat) (B : Option Addr) (d : Nat), e = .returned (.agg #[.slice A names.length c, .slice B rows.length d]) ∧ TabO w' w.heap.size (.agg #[.slice A names.length c, .slice B rows.length d]) names rows ∧ Below w.heap.size w w' := by
  obtain ⟨A, c, B, d, rfl, hc, hx, hy⟩ := ht
  refine (toTable_any A c B d names rows w hx hy hs.n1 hs.r1 hs.r2).mono ?_
  rintro e w' ⟨v, u, rfl, ho, hu, hb⟩
  obtain ⟨us, hu'⟩ := id hu
  obtain ⟨A', c', rfl, _, _⟩ := own_form ho
  obtain ⟨B', d', rfl, _⟩ := hu'.form
  exact ⟨A', c', B', d', rfl, ⟨_, _, rfl, ho, hu⟩, hb⟩
theorem specTab_any (q : Bool) (v : Value) (names : List ByteArray) (rows : List (List Int)) (w : World) (ht : TabR w v names rows) (hs : TabOk names rows) (hq : tableB names rows = q) :
    Calls Tryd.prog 22 #[v] w fun e w' => e = .returned (.bool q) ∧ Below w.heap.size w w' := by
  obtain ⟨A, c, B, d, rfl, hc, hx, hy⟩ := ht
  exact tableSpec_any q A _ c names B _ d rows w rfl hx hy hs hq
theorem implTab_any (q : Bool) (v : Value) (names : List ByteArray) (rows : List (List Int)) (RA : Option Addr) (RC : Nat) (w : World) (hv : w.cell? ⟨0, 0, none⟩ = some (.slice RA 13 RC)) (hr : Reads w w.heap.size 1 RA 13 (stCells resW)) (ht : TabR w v names rows) (hs : TabOk names rows) (hq : tableB names rows = q) :
    Calls Tryd.prog 26 #[v] w fun e w' => e = .returned (.bool q) ∧ Below w.heap.size w w' := by
  obtain ⟨A, c, B, d, rfl, hc, hx, hy⟩ := ht
  exact tableImpl_any q A _ c names B _ d rows RA RC w hv hr rfl hc hx hy hs hq
end Go.Proofs.YtldpcjkfkcbfmaaDoor
