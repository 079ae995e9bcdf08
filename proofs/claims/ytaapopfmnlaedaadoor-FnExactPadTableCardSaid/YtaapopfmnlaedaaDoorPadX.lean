/- laws.Padded as an argument; laws.szPadded, toPadded, eqPadded and what they call. -/
import Derived.Test.YtaapopfmnlaedaaDoorTableW
import Derived.Test.YtaapopfmnlaedaaDoorPad
namespace Go.Proofs.YtaapopfmnlaedaaDoor
open Go Go.RowKit Go.WideShapes Go.ChangeShapes Go.WideElems Go.Deep
set_option maxRecDepth 100000

theorem boCells_append (xs ys : List Bool) : boCells (xs ++ ys) = boCells xs ++ boCells ys := by simp [boCells]
theorem boCells_length (xs : List Bool) : (boCells xs).length = xs.length := by simp [boCells]
theorem infoBool : (Tryd.prog.info? 4).map (fun i => (i.zero, i.size, i.bytes)) = some (some (.bool false), 1, 1) := by kernel_rfl

/-- A padded table's value in memory. -/
def PadR (w : World) (v : Value) (names : List ByteArray) (rows : List (List Int)) (real : List Bool) : Prop := ∃ (A : Option Addr) (c : Nat) (B : Option Addr) (d : Nat) (C : Option Addr) (f : Nat), v = .agg #[.slice A names.length c, .slice B rows.length d, .slice C real.length f] ∧ names.length ≤ c ∧ Reads w w.heap.size 1 A names.length (stCells names) ∧ RowsR w w.heap.size B rows.length rows ∧ Reads w w.heap.size 1 C real.length (boCells real)
theorem PadR.below {w w' : World} {v : Value} {names : List ByteArray} {rows : List (List Int)} {real : List Bool} (h : PadR w v names rows real) (hb : Below w.heap.size w w') : PadR w' v names rows real := by
  obtain ⟨A, c, B, d, C, f, h1, h2, h3, h4, h5⟩ := h
  exact ⟨A, c, B, d, C, f, h1, h2, (h3.below hb).more hb.size, h4.below hb, (h5.below hb).more hb.size⟩
/-- A padded table that was handed in. -/
structure PadA (W : World) (v : Value) (names : List ByteArray) (rows : List (List Int)) (real : List Bool) : Prop where
  form : PadR W v names rows real
  n1 : names.length ≤ maxLen
  n2 : ∀ x ∈ names, x.size ≤ maxLen
  r1 : rows.length ≤ maxLen
  b1 : real.length ≤ maxLen
theorem PadA.below {w w' : World} {v : Value} {names : List ByteArray} {rows : List (List Int)} {real : List Bool} (h : PadA w v names rows real) (hb : Below w.heap.size w w') : PadA w' v names rows real := ⟨h.form.below hb, h.n1, h.n2, h.r1, h.b1⟩

section
variable {H : Type} {enc : TypeId × Value → H} {W : World} {sp : Nat → Bool} {base : Nat}
theorem trod_bools {v : Value} {n : Nat} {y : DataW H × List MemPlace} (h : DataW.trod enc Tryd.prog W 0 sp true n 34 [v] = some y) :
    ∃ (A : Option Addr) (c : Nat) (xs : List Bool), v = .slice A xs.length c ∧ xs.length ≤ c ∧ c ≤ maxLen ∧ (A = none → c = 0) ∧ Reads W W.heap.size 1 A xs.length (boCells xs) := by
  rcases open_slice1 Tryd.underlying34 (by kernel_rfl) h with ⟨hcs, _⟩ | ⟨a, len, cap, m, n, V, D, Pl, hcs, _, hl, hm, hmm, hx, hi⟩
  · simp at hcs
    subst hcs
    exact ⟨none, 0, [], rfl, Nat.le_refl _, by unfold maxLen; omega, fun _ => rfl, Reads.none_⟩
  · simp at hcs
    subst hcs
    have each : ∀ i, i < len → ∃ x : Bool, W.cell? (a.add i) = some (.bool x) := by
      intro i hil
      obtain ⟨c0, t0⟩ := hi i (by rw [hmm]; split <;> omega)
      obtain ⟨n0, e0, _⟩ := DataW.trod_bool Tryd.underlying4 t0
      simp at e0
      exact ⟨n0, by rw [c0, e0]⟩
    obtain ⟨f, hf'⟩ := choose_lt each
    refine ⟨some a, cap, (List.range len).map f, by simp, by simpa using hl, hm, fun h => (by cases h), by simp [boCells], fun hn => ?_⟩
    have key : ∀ j u, (boCells ((List.range len).map f))[j]? = some u → W.cell? (a.add j) = some u := by
      intro j u hj
      by_cases hjl : j < len
      · simp [boCells, hjl] at hj
        rw [← hj]
        exact hf' j hjl
      · simp [boCells, hjl] at hj
    refine ⟨a, rfl, ?_, key⟩
    have h1 := World.block_lt_of_cell? W _ (hf' 0 (by simpa using hn))
    rwa [block_of_add] at h1
theorem open_padded {v : Value} {d : DataW H} {p : List MemPlace} (hv : Value.okWide Tryd.prog W .any base 36 v) (h : DataW.Trod enc Tryd.prog W 0 sp true 36 v d p) :
    ∃ (names : List ByteArray) (rows : List (List Int)) (real : List Bool), PadA W v names rows real := by
  obtain ⟨v0, v1, v2, y0, y1, y2, n, rfl, _, _, h0, h1, h2⟩ := Go.Joins.open_agg3 Tryd.underlying36 (by kernel_rfl) (by kernel_rfl) hv h
  obtain ⟨A, c, xs, rfl, a1, a2, a3, a4⟩ := trod_names h0
  obtain ⟨B, d, rows, rfl, b1, b2, b3, b4⟩ := trod_rows h1
  obtain ⟨C, f, real, rfl, c1, c2, c3, c4⟩ := trod_bools h2
  exact ⟨xs, rows, real, ⟨A, c, B, d, C, f, rfl, a1, a4, b4, c4⟩, by omega, a3, by omega, by omega⟩
end

theorem szBoolS_any (A : Option Addr) (n c : Nat) (l : Int) (w : World) (h0 : 0 ≤ l) (h1 : l ≤ 1048576) (hn : n ≤ 9223372036854775807) :
    Calls Tryd.prog 45 #[.slice A n c, .int .i64 l] w fun e w' => e = .returned (.int .i64 (if l < n then -1 else l - n)) ∧ w = w' := by
  by_cases h : l < n
  · rw [if_pos h]
    go_enter Tryd.func45, Tryd.ntmps45
    go_wp2
    go_ret
    exact ⟨rfl, rfl⟩
  · rw [if_neg h]
    go_enter Tryd.func45, Tryd.ntmps45
    go_wp2
    go_ret
    exact ⟨rfl, rfl⟩
set_option maxHeartbeats 1600000 in
theorem szPadded_any (v : Value) (names : List ByteArray) (rows : List (List Int)) (real : List Bool) (l : Int) (w : World) (h0 : 0 ≤ l) (h1 : l ≤ 1048576) (ht : PadA w v names rows real) :
    Calls Tryd.prog 15 #[v, .int .i64 l] w fun e w' => ∃ r : Int, e = .returned (.int .i64 r) ∧ -1 ≤ r ∧ r ≤ l ∧ (0 ≤ r → Small names rows ∧ real.length ≤ 1048576) ∧ Below w.heap.size w w' := by
  obtain ⟨⟨A, c, B, d, C, f, rfl, hc, hx, hy, hz⟩, hn1, hn2, hr1, hb1⟩ := ht
  unfold maxLen at hn1 hn2 hr1 hb1
  obtain ⟨n, hnn⟩ : ∃ n, names.length = n := ⟨_, rfl⟩
  obtain ⟨m, hmm⟩ : ∃ m, rows.length = m := ⟨_, rfl⟩
  obtain ⟨k, hkk⟩ : ∃ k, real.length = k := ⟨_, rfl⟩
  rw [hnn] at hx hc hn1 ⊢
  rw [hmm] at hy hr1 ⊢
  rw [hkk] at hz hb1 ⊢
  obtain ⟨w1, hw1⟩ : ∃ w1, w1 = w.alloc (.cells #[.slice A n c, .slice B m d, .slice C k f] 36) := ⟨_, rfl⟩
  have b1 : Below w.heap.size w w1 := by rw [hw1]; exact (Below.refl _ _).alloc (Nat.le_refl _) _
  have kb : Blk w1 w.heap.size 36 #[.slice A n c, .slice B m d, .slice C k f] := by rw [hw1]; exact Blk.new _ _ _
  have c0 := kb.cell 0
  have c1 := kb.cell 1
  have c2 := kb.cell 2
  simp at c0 c1 c2
  have S1 := Lib.hid (szStringS_any A n c names l w1 h0 h1 ((hx.below b1).more b1.size) hnn (by omega) (fun x h => by have := hn2 x h; omega))
  have S2 := Lib.hid (fun (r : Int) (g0 : 0 ≤ r) (g1 : r ≤ 1048576) => szIntSS_any B m d rows r w1 g0 g1 (hy.below b1) (by omega))
  have S3 := Lib.hid (fun (r : Int) (g0 : 0 ≤ r) (g1 : r ≤ 1048576) => szBoolS_any C k f r w1 g0 g1 (by omega))
  have HW := Lib.hid hw1
  have HN := Lib.hid hnn
  have HM := Lib.hid hmm
  clear hx hy hz hc hnn hmm hkk hn1 hn2 hr1 hb1 kb
  go_enter Tryd.func15, Tryd.ntmps15
  go_wp2_with fail
  rw [← HW.out]
  clear hw1
  refine S1.out.mono ?_
  rintro e w' ⟨r, rfl, g1, g2, g3, rfl⟩
  have G3 := Lib.hid g3
  clear g3
  by_cases hr : r < 0
  · go_wp2_with fail
    go_ret
    exact ⟨-1, rfl, by omega, by omega, fun h => by omega, b1⟩
  · have S2' := Lib.hid (S2.out r (by omega) (by omega))
    go_wp2_with fail
    refine S2'.out.mono ?_
    rintro e w' ⟨r', rfl, g1', g2', g3', rfl⟩
    have G4 := Lib.hid g3'
    clear g3'
    by_cases hr' : r' < 0
    · go_wp2_with fail
      go_ret
      exact ⟨-1, rfl, by omega, by omega, fun h => by omega, b1⟩
    · have S3' := Lib.hid (S3.out r' (by omega) (by omega))
      by_cases hkr : r' < (k : Int)
      · have e3 : (if r' < (k : Int) then (-1 : Int) else r' - k) = -1 := if_pos hkr
        rw [e3] at S3'
        clear e3
        go_wp2_with fail
        refine S3'.out.mono ?_
        rintro e w' ⟨rfl, rfl⟩
        go_wp2_with fail
        go_ret
        exact ⟨-1, rfl, by omega, by omega, fun h => by omega, b1⟩
      · have e3 : (if r' < (k : Int) then (-1 : Int) else r' - k) = r' - k := if_neg hkr
        rw [e3] at S3'
        clear e3
        have hneg : ¬ r' - (k : Int) < 0 := by omega
        go_wp2_with fail
        refine S3'.out.mono ?_
        rintro e w' ⟨rfl, rfl⟩
        go_wp2_with fail
        go_ret
        refine ⟨r' - k, rfl, by omega, by omega, fun h => ⟨⟨?_, (G3.out (by omega)).2, ?_, (G4.out (by omega)).2⟩, by omega⟩, b1⟩
        · rw [HN.out]; exact (G3.out (by omega)).1
        · rw [HM.out]; exact (G4.out (by omega)).1
set_option maxHeartbeats 800000 in
theorem toBoolS_any (A : Option Addr) (n c : Nat) (xs : List Bool) (w : World) (hx : Reads w w.heap.size 1 A n (boCells xs)) (hn : n ≤ 1048576) (hxn : xs.length = n) :
    Calls Tryd.prog 49 #[.slice A n c] w fun e w' => ∃ v, e = .returned v ∧ w'.ownsRow w.heap.size 4 1 v n (boCells xs) ∧ Below w.heap.size w w' := by
  obtain ⟨i0, hi0, hz0, hz1, hz2⟩ := info_parts infoBool
  have HX := Lib.hid hxn
  clear hxn
  go_enter Tryd.func49, Tryd.ntmps49
  go_wp2_with (at_make; refine wpList_make_full _ rfl _ _ 34 rfl w.heap.size 4 i0 _ 1 Tryd.underlying34 hi0 hz0 hz1 .i64 .i64 _ _ n rfl rfl rfl rfl (by rw [hz2]; omega) (by unfold maxLen; omega) (Nat.le_refl _) ?_; intro w1 hown1 hgrow1)
  have hb1 : Below w.heap.size w w1 := (Below.refl _ _).grown hgrow1 (Nat.le_refl _) (by simp)
  generalize hD : (madeCells (Value.bool false).cells (n * 1)).toList = D at hown1
  have HDL := Lib.hid (show D.length = n by have := hown1.1; omega)
  clear hD hgrow1
  go_loopw [4] (fun i wr => ∃ j : Nat, j ≤ n ∧ i = .int .i64 j ∧ wr.ownsRow w.heap.size 4 1 (.slice (some ⟨w.heap.size, 0, none⟩) n n) n (boCells (xs.take j) ++ D.drop j) ∧ Below w.heap.size w wr) (fun i _ => n - (intOf i).toNat)
  case atStart => exact ⟨0, Nat.zero_le _, rfl, by simpa [boCells] using hown1, hb1⟩
  case round =>
    clear hown1 hb1
    obtain ⟨j, hj, rfl, hown, hb⟩ := hrel
    by_cases hlt : j < n
    · obtain ⟨ad, x, rfl, _, hxk, e1⟩ := bo_at (hx.below hb) HX.out hlt
      have HXK := Lib.hid hxk
      have hl := hown.1
      obtain ⟨y0, h0⟩ : ∃ u, wr.cell? ⟨w.heap.size, j, none⟩ = some u := ⟨_, (hown.cellAt j (by omega)).trans (List.getElem?_eq_getElem (by omega))⟩
      have f0 := hown.frozenAt j
      have HO := Lib.hid hown
      clear hxk hx hl hown
      go_wp2
      go_roundw
      case rel =>
        have e : boCells (xs.take (j + 1)) = boCells (xs.take j) ++ [.bool x] := by
          rw [List.take_add_one, HXK.out, boCells_append]; rfl
        have R := own_store1 (j := j) (ys := boCells (xs.take j)) (xs := D) HO.out HDL.out (by rw [boCells_length, List.length_take]; have := HX.out; omega) hlt (.bool x)
        refine ⟨j + 1, by omega, by go_num, by rw [e]; exact R.1, ?_⟩
        exact hb.grown R.2 hb.size (by simp)
      case measure => simp [intOf]; omega
    · obtain rfl : j = n := by omega
      go_wp2
      go_ret
      refine ⟨_, rfl, ?_, hb⟩
      rw [List.take_of_length_le (by have := HX.out; omega), List.drop_of_length_le (by have := HDL.out; omega), List.append_nil] at hown
      exact hown
set_option maxHeartbeats 400000 in
theorem eqBoolS_yes (A B : Option Addr) (n c d : Nat) (xs : List Bool) (w : World) (hxn : xs.length = n) (hx : Reads w w.heap.size 1 A n (boCells xs)) (hy : Reads w w.heap.size 1 B n (boCells xs)) (hn : n ≤ 1000000000) :
    Calls Tryd.prog 53 #[.slice A n c, .slice B n d] w fun e w' => e = .returned (.bool true) ∧ Below w.heap.size w w' := by
  have HX := Lib.hid hxn
  clear hxn
  go_enter Tryd.func53, Tryd.ntmps53
  go_wp2
  go_loopw [5] (fun i wr => ∃ k : Nat, k ≤ n ∧ i = .int .i64 k ∧ Below w.heap.size w wr) (fun i _ => n - (intOf i).toNat)
  case atStart => exact ⟨0, Nat.zero_le _, rfl, Below.refl _ _⟩
  case round =>
    obtain ⟨k, hk, rfl, hb⟩ := hrel
    by_cases hlt : k < n
    · obtain ⟨ad, x, rfl, _, hxk, e1⟩ := bo_at (hx.below hb) HX.out hlt
      obtain ⟨bd, y, rfl, _, hyk, f1⟩ := bo_at (hy.below hb) HX.out hlt
      obtain rfl : x = y := Option.some.inj (hxk.symm.trans hyk)
      clear hxk hyk hx hy
      have hk0 : (0 : Int) ≤ (k : Int) := Int.natCast_nonneg _
      have hk1 : (k : Int) < (n : Int) := by omega
      go_wp2_with fail
      go_quiet (fail)
      go_wp2
      go_roundw
      case rel => exact ⟨k + 1, by omega, by go_num, below_drewN' hb _⟩
      case measure => simp [intOf]; omega
    · obtain rfl : k = n := by omega
      go_wp2
      go_ret
      exact ⟨rfl, hb⟩
end Go.Proofs.YtaapopfmnlaedaaDoor
