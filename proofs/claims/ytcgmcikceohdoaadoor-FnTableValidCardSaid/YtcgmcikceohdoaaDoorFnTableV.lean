/- laws.FnTableValid: the walk. -/
import Derived.Test.YtcgmcikceohdoaaDoorFnTable
import Derived.Test.YtcgmcikceohdoaaDoorTypedA
namespace Go.Proofs.YtcgmcikceohdoaaDoor
open Go Go.RowKit
set_option maxRecDepth 100000

/-- What operation j of the law's region may change. -/
def S7 (j : Nat) (w w' : World) : Prop := w.heap.size ≤ w'.heap.size ∧ ∀ k, k < w.heap.size →
  (j = 5 → ¬ Blk w k 33 #[] → w'.heap[k]? = w.heap[k]?) ∧ (j = 12 → (∀ cs, ¬ Blk w k 33 cs) → w'.heap[k]? = w.heap[k]?) ∧ (j = 15 → (∀ cs, ¬ Blk w k 30 cs) → w'.heap[k]? = w.heap[k]?) ∧ (j ≠ 5 ∧ j ≠ 12 ∧ j ≠ 15 → w'.heap[k]? = w.heap[k]?)
theorem S7.same {j : Nat} {w w' : World} (hs : w.heap.size ≤ w'.heap.size) (h : ∀ k, k < w.heap.size → w'.heap[k]? = w.heap[k]?) : S7 j w w' := ⟨hs, fun k hk => ⟨fun _ _ => h k hk, fun _ _ => h k hk, fun _ _ => h k hk, fun _ => h k hk⟩⟩
theorem S7.refl {j : Nat} (w : World) (_ : j ≠ 5) (_ : j ≠ 12) (_ : j ≠ 15) : S7 j w w := S7.same (Nat.le_refl _) fun _ _ => rfl
theorem S7.alloc {j : Nat} (w : World) (o : Obj) (_ : j ≠ 5) (_ : j ≠ 12) (_ : j ≠ 15) : S7 j w (w.alloc o) := S7.same (by simp) fun k hk => Below.heap_alloc w o k hk
theorem S7.below {j : Nat} {w w' : World} (h : Below w.heap.size w w') (_ : j ≠ 5) (_ : j ≠ 12) (_ : j ≠ 15) : S7 j w w' := S7.same h.size fun k hk => h.block k hk
theorem S7.five {w w' : World} (hs : w.heap.size ≤ w'.heap.size) (h : ∀ k, k < w.heap.size → ¬ Blk w k 33 #[] → w'.heap[k]? = w.heap[k]?) : S7 5 w w' := ⟨hs, fun k hk => ⟨fun _ hb => h k hk hb, fun e => (by cases e), fun e => (by cases e), fun e => absurd rfl e.1⟩⟩
theorem S7.twelve {w w' : World} (hs : w.heap.size ≤ w'.heap.size) (h : ∀ k, k < w.heap.size → (∀ cs, ¬ Blk w k 33 cs) → w'.heap[k]? = w.heap[k]?) : S7 12 w w' := ⟨hs, fun k hk => ⟨fun e => (by cases e), fun _ hb => h k hk hb, fun e => (by cases e), fun e => absurd rfl e.2.1⟩⟩
theorem S7.fifteen {w w' : World} (hs : w.heap.size ≤ w'.heap.size) (h : ∀ k, k < w.heap.size → (∀ cs, ¬ Blk w k 30 cs) → w'.heap[k]? = w.heap[k]?) : S7 15 w w' := ⟨hs, fun k hk => ⟨fun e => (by cases e), fun e => (by cases e), fun _ hb => h k hk hb, fun e => absurd rfl e.2.2⟩⟩
theorem S7.other {j k : Nat} {w w' : World} (h : S7 j w w') (hk : k < w.heap.size) (h1 : ∀ cs, ¬ Blk w k 33 cs) (h2 : ∀ cs, ¬ Blk w k 30 cs) : w'.heap[k]? = w.heap[k]? := by
  have hq := h.2 k hk
  by_cases h5 : j = 5
  · exact hq.1 h5 (h1 _)
  · by_cases h12 : j = 12
    · exact hq.2.1 h12 h1
    · by_cases h15 : j = 15
      · exact hq.2.2.1 h15 h2
      · exact hq.2.2.2 ⟨h5, h12, h15⟩
theorem own_not_empty {w : World} {b e n g : Nat} {v : Value} {xs : List Value} (h : w.ownsRow b e 1 v (n + 1) xs) (hg : v.ownBlock = some g) {t : TypeId} (hb : Blk w g t #[]) : False := by
  rcases h.2 with ⟨h', _⟩ | ⟨g', cap, cur, rfl, _, hh, h1, _, h2, _⟩
  · rw [h'] at hg; simp [Value.ownBlock] at hg
  · have : g' = g := by simpa [Value.ownBlock] using hg
    subst this
    unfold Blk at hb
    rw [hh] at hb
    simp at hb
    rw [hb.1] at h2
    simp at h2
    omega
theorem dst_none {ops : Array Oper} {n j : Nat} (hs : decide (ops.size = n) = true) (hj : n ≤ j) : dstOf ops j = none := by
  have hs : ops.size = n := by simpa using hs
  unfold dstOf
  rw [Array.getElem?_eq_none (by omega)]
  rfl
def law7V (z T n4 c4 m c5 : Nat) (A4 A5 : Option Addr) (vs : List Value) (i : Nat) (v : Value) (a : Act) (w : World) : Prop := match i with
  | 0 | 6 => v = .pointer (some ⟨T, 0, none⟩)
  | 1 | 7 => v = .slice A4 n4 c4
  | 2 => ∃ g, v = .slice (some ⟨g, 0, none⟩) 0 0 ∧ Blk w g 33 #[] ∧ z ≤ g
  | 3 => v = .pointer (some ⟨T, 1, none⟩)
  | 4 => v = .slice A5 m c5
  | 5 => (∃ A c, v = .slice A m c) ∧ w.ownsRow z 33 1 v m vs
  | 8 => v = .int .i64 (n4 : Int)
  | 9 => v = .int .i64 ((n4 + 1 : Nat) : Int)
  | 10 => ∃ g, v = .slice (some ⟨g, 0, none⟩) (n4 + 1) (n4 + 1) ∧ z ≤ g ∧ w.ownsRow z 3 1 v (n4 + 1) (inCells (List.replicate (n4 + 1) 0))
  | 11 => ∃ g g5, v = .slice (some ⟨g, 0, none⟩) 1 1 ∧ z ≤ g ∧ Blk w g 33 #[.slice (some ⟨g5, 0, none⟩) (n4 + 1) (n4 + 1)] ∧ z ≤ g5 ∧ w.ownsRow z 3 1 (.slice (some ⟨g5, 0, none⟩) (n4 + 1) (n4 + 1)) (n4 + 1) (inCells (List.replicate (n4 + 1) 0))
  | 12 => ∃ gA cA g5, v = .slice (some ⟨gA, 0, none⟩) (m + 1) cA ∧ w.ownsRow z 33 1 (.slice (some ⟨gA, 0, none⟩) (m + 1) cA) (m + 1) (vs ++ [.slice (some ⟨g5, 0, none⟩) (n4 + 1) (n4 + 1)]) ∧ z ≤ g5 ∧ w.ownsRow z 3 1 (.slice (some ⟨g5, 0, none⟩) (n4 + 1) (n4 + 1)) (n4 + 1) (inCells (List.replicate (n4 + 1) 0))
  | 13 => ∃ gA cA g5, v = .agg #[.slice A4 n4 c4, .slice (some ⟨gA, 0, none⟩) (m + 1) cA] ∧ w.ownsRow z 33 1 (.slice (some ⟨gA, 0, none⟩) (m + 1) cA) (m + 1) (vs ++ [.slice (some ⟨g5, 0, none⟩) (n4 + 1) (n4 + 1)]) ∧ z ≤ g5 ∧ w.ownsRow z 3 1 (.slice (some ⟨g5, 0, none⟩) (n4 + 1) (n4 + 1)) (n4 + 1) (inCells (List.replicate (n4 + 1) 0))
  | 14 => ∃ g, v = .pointer (some ⟨g, 0, none⟩) ∧ z ≤ g ∧ Blk w g 30 #[.slice none 0 0, .slice none 0 0]
  | 15 => ∃ g gA cA g5, a.tmps.getD 5 undef = .pointer (some ⟨g, 0, none⟩) ∧ z ≤ g ∧ Blk w g 30 #[.slice A4 n4 c4, .slice (some ⟨gA, 0, none⟩) (m + 1) cA] ∧ w.ownsRow z 33 1 (.slice (some ⟨gA, 0, none⟩) (m + 1) cA) (m + 1) (vs ++ [.slice (some ⟨g5, 0, none⟩) (n4 + 1) (n4 + 1)]) ∧ z ≤ g5 ∧ w.ownsRow z 3 1 (.slice (some ⟨g5, 0, none⟩) (n4 + 1) (n4 + 1)) (n4 + 1) (inCells (List.replicate (n4 + 1) 0))
  | _ => True
def law8V (T n4 c4 m c5 : Nat) (A4 A5 : Option Addr) (gA cA : Nat) (q r : Bool) (i : Nat) (v : Value) (_ : World) : Prop := match i with
  | 0 => v = .agg #[.slice A4 n4 c4, .slice (some ⟨gA, 0, none⟩) (m + 1) cA]
  | 1 => v = .bool false
  | 2 | 3 => v = .bool true
  | 4 => v = .bool q
  | 5 | 6 => v = .bool (!q)
  | 7 => q = true → v = .pointer (some ⟨T, 1, none⟩)
  | 8 => q = true → v = .slice A5 m c5
  | 9 => q = true → v = .int .i64 (m : Int)
  | 10 => q = true → v = .bool (decide (m = 0))
  | 11 | 12 => v = .bool (!r)
  | 13 => r = true → v = .pointer (some ⟨T, 0, none⟩)
  | 14 => r = true → v = .slice A4 n4 c4
  | 15 => r = true → v = .pointer (some ⟨T, 1, none⟩)
  | 16 => r = true → v = .slice A5 m c5
  | 17 => r = true → v = .slice (if c5 = 1 then A5 else A5.map (·.add 1)) (m - 1) (c5 - 1)
  | 18 => r = true → v = .agg #[.slice A4 n4 c4, .slice (if c5 = 1 then A5 else A5.map (·.add 1)) (m - 1) (c5 - 1)]
  | 19 => r = true → v = .bool true
  | 20 | 21 | 22 | 23 | 24 | 25 => v = .bool true
  | _ => True
theorem wp_value {P : Program} {o : Oper} {a : Act} {w : World} {K : Act → World → Prop} {Q : Exit → Act → World → Prop} {v : Value} (h : (execOp a.eval o).run P w = .ok (.value v) w) (hk : K (a.put o.dst v) w) : o.wp P a w K Q := by
  unfold Oper.wp
  rw [h]
  exact hk
theorem badRows {w : World} {lo hi z : Nat} {v u : Value} {vs : List Value} {rows : List (List Int)} {r : List Int} {A : Option Addr} {c n : Nat} (hv : RowsV w lo hi v vs rows) (ho : w.ownsRow z 33 1 (.slice A n c) (rows.length + 1) (vs ++ [u])) (hu : w.ownsRow z 3 1 u r.length (inCells r)) : RowsR w w.heap.size A (rows.length + 1) (rows ++ [r]) := by
  have hl := hv.len
  obtain ⟨A', c', e, _⟩ := own_form ho
  simp only [Value.slice.injEq] at e
  obtain ⟨_, e2, _⟩ := e
  subst e2
  refine ⟨vs ++ [u], Reads.of_own ho, by simp, fun k row hr => ?_⟩
  have one : ∀ {zz : Nat} {x : Value} {row : List Int}, w.ownsRow zz 3 1 x row.length (inCells row) → ∃ (Ak : Option Addr) (ck : Nat), x = Value.slice Ak row.length ck ∧ row.length ≤ ck ∧ ck ≤ maxLen ∧ (Ak = none → ck = 0) ∧ Reads w w.heap.size 1 Ak row.length (inCells row) := by
    intro zz x row hx
    obtain ⟨Ak, ck, e, h1, h2, h3⟩ := own_form' hx
    subst e
    exact ⟨Ak, ck, rfl, h1, h2, fun e => (h3 e).1, Reads.of_own hx⟩
  by_cases hk : k < rows.length
  · rw [List.getElem?_append_left hk] at hr
    have hku : vs[k]? = some vs[k] := List.getElem?_eq_getElem (by omega)
    obtain ⟨Ak, ck, e, rest⟩ := one (hv.row k _ row hku hr)
    exact ⟨Ak, ck, by rw [List.getElem?_append_left (by omega), hku, e], rest⟩
  · have hk' : k = rows.length := by
      have := (List.getElem?_eq_some_iff.1 hr).1
      rw [List.length_append] at this
      simp at this
      omega
    subst hk'
    rw [List.getElem?_append_right (Nat.le_refl _)] at hr
    simp at hr
    subst hr
    obtain ⟨Ak, ck, e, rest⟩ := one hu
    exact ⟨Ak, ck, by rw [List.getElem?_append_right (by omega), e]; simp [hl], rest⟩
theorem bad_false (names : List ByteArray) (rows : List (List Int)) : tableB names (rows ++ [List.replicate (names.length + 1) 0]) = false := by
  unfold tableB
  rw [rowsB_bad (k := rows.length) (r := List.replicate (names.length + 1) 0) (by simp) (by simp [rowB])]
  simp
theorem drop_true {names : List ByteArray} {rows : List (List Int)} (h : tableB names rows = true) : tableB names (rows.drop 1) = true := by
  unfold tableB at h ⊢
  rw [Bool.and_eq_true, Bool.and_eq_true] at h ⊢
  refine ⟨h.1, by have := h.2.1; simp at this ⊢; omega, ?_⟩
  have h2 := h.2.2
  unfold rowsB at h2 ⊢
  rw [List.all_eq_true] at h2 ⊢
  exact fun r hr => h2 r (List.mem_of_mem_drop hr)
set_option maxHeartbeats 1600000 in
theorem fnTable_walk {w : World} (A : Option Addr) (n c : Nat) (xs : List UInt8) (hl : xs.length = n) (hc : n ≤ c) (hm : c ≤ maxLen) (hx : Reads w w.heap.size 1 A n (byCells xs))
    (RA : Option Addr) (RC : Nat) (hv : w.cell? ⟨0, 0, none⟩ = some (.slice RA 13 RC)) (hr : Reads w w.heap.size 1 RA 13 (stCells resW)) :
    Calls Tryd.prog 5 #[.slice A n c] w fun e w' => e = .returned (.bool true) ∧ Below w.heap.size w w' := by
  obtain ⟨ii, hii, hiz, his', iib⟩ := info_parts infoInt
  obtain ⟨j0, hjI, hjz0, hjz1, hjz2⟩ := info_parts infoRow
  by_cases hbig : (1048576 : Int) < (n : Int)
  · clear hx hr
    go_enter Tryd.func5, Tryd.ntmps5
    go_wp2_with fail
    go_ret
    exact ⟨rfl, Below.refl _ _⟩
  · have HD := Lib.hid (drawTab_any A n c xs w hx hl (by omega) hc hm)
    have HV := Lib.hid (fun (w' : World) (hb : Below w.heap.size w w') => alive_yes RA RC w' (below_keep hb hv) ((hr.below hb).more hb.size))
    have HI := Lib.hid (fun (q : Bool) (v : Value) (names : List ByteArray) (rows : List (List Int)) (w' : World) (hb : Below w.heap.size w w') => implTab_any q v names rows RA RC w' (below_keep hb hv) ((hr.below hb).more hb.size))
    clear hx hr hl hv
    go_enter Tryd.func5, Tryd.ntmps5
    go_wp2_with fail
    refine HD.out.mono ?_
    rintro e w1 ⟨nv, rv, names, rows, rfl, ho, hd, b1⟩
    obtain ⟨A4, c4, A5, c5, rfl, rfl⟩ := ho.form
    go_wp2_with fail
    obtain ⟨w4, hw4⟩ : ∃ w4, w4 = w1.alloc (.cells #[.slice A4 names.length c4, .slice A5 rows.length c5] 30) := ⟨_, rfl⟩
    have b4 : Below w1.heap.size w1 w4 := by rw [hw4]; exact (Below.refl _ _).alloc (Nat.le_refl _) _
    have k4 : Blk w4 w1.heap.size 30 #[.slice A4 names.length c4, .slice A5 rows.length c5] := by rw [hw4]; exact Blk.new _ _ _
    have O4 := Lib.hid (ho.below b4)
    have B4 := b1.trans (b4.mono b1.size)
    rw [← hw4]
    clear hw4 ho b4 b1 HD
    obtain ⟨q, hq⟩ : ∃ q, tableB names rows = q := ⟨_, rfl⟩
    have I1 := Lib.hid (HI.out q _ names rows w4 B4 O4.out.reads hd.ok hq)
    have S1 := Lib.hid (fun (w' : World) (hb : Below w4.heap.size w4 w') => specTab_any q _ names rows w' (O4.out.reads.below hb) hd.ok hq)
    have K := Lib.hid (fun (w' : World) (hb : Below w4.heap.size w4 w') => And.intro (k4.below hb k4.lt) (O4.out.below hb))
    have HQ := Lib.hid hq
    clear hq
    refine I1.out.mono ?_
    rintro e w5 ⟨rfl, b5⟩
    have d0 := (K.out w5 b5).1.cell 0
    have d1 := (K.out w5 b5).1.cell 1
    simp at d0 d1
    have S5 := Lib.hid (S1.out w5 b5)
    have B5 := B4.trans (b5.mono B4.size)
    go_wp2_with fail
    refine S5.out.mono ?_
    rintro e w6 ⟨rfl, b6⟩
    have b46 := b5.trans (b6.mono b5.size)
    have B6 := B5.trans (b6.mono B5.size)
    have hqq : (q != q) = false := by cases q <;> rfl
    obtain ⟨T, hT⟩ : ∃ T, T = w1.heap.size := ⟨_, rfl⟩
    obtain ⟨n4, hn4⟩ : ∃ n4, n4 = names.length := ⟨_, rfl⟩
    obtain ⟨m, hm5⟩ : ∃ m, m = rows.length := ⟨_, rfl⟩
    have kT := (K.out w6 b46).1
    have O6 := (K.out w6 b46).2
    rw [← hT, ← hn4, ← hm5] at kT
    rw [← hn4, ← hm5] at O6
    rw [← hT, ← hn4, ← hm5]
    clear d0 d1 b5 b6 S5 S1 I1 K B5 k4 O4
    have HT1 := Lib.hid hT
    have HN4 := Lib.hid hn4
    have HM5 := Lib.hid hm5
    have hn9 : n4 ≤ 4 := by have := hd.n1; omega
    have hm9 : m ≤ 17 := by have := hd.r1; omega
    clear hT hn4 hm5
    obtain ⟨v0, v1, e, h0, vs, h1⟩ := id O6
    simp only [Value.agg.injEq] at e
    have e1 := congrArg (fun a => a[1]?) e
    simp at e1
    subst e1
    have RV := h1.own
    rw [← HM5.out] at RV
    have RV := Reads.of_own RV
    have hvone : ∀ u ∈ vs, u.oneCell' = true := by
      intro u hu
      obtain ⟨k, hk⟩ := List.getElem?_of_mem hu
      have hkl := (List.getElem?_eq_some_iff.1 hk).1
      obtain ⟨r, hr⟩ : ∃ r, rows[k]? = some r := ⟨_, List.getElem?_eq_getElem (by have := h1.len; omega)⟩
      obtain ⟨A', c', rfl, _⟩ := own_form (h1.row k u r hk hr)
      rfl
    have H1 := Lib.hid h1
    clear h0 e h1
    go_wp2_with fail
    refine wp_region_typed (by kernel_rfl) (fun i => decide (i = 15)) (law7V w6.heap.size T n4 c4 m c5 A4 A5 vs) S7 (fun _ w' => Below w6.heap.size w6 w') (by kernel_rfl) ?_ ?_ ?_ ?_ (by kernel_rfl) ?_
    · intro i j v a u wP wQ hij hna hlv hv hs
      have same : j ≠ 5 → j ≠ 12 → j ≠ 15 → ∀ k, k < wP.heap.size → wQ.heap[k]? = wP.heap[k]? := fun h5 h12 h15 k hk => (hs.2 k hk).2.2.2 ⟨h5, h12, h15⟩
      have ownT : ∀ {e b n' zz : Nat} {x : Value} {ys : List Value}, wP.ownsRow b e zz x n' ys → e ≠ 33 → e ≠ 30 → wQ.ownsRow b e zz x n' ys := fun hx he1 he2 => own_block hx (fun g hg => S7.other hs (hx.lt g hg).2 (fun cs hb => own_blk_ne hx hb he1 hg) (fun cs hb => own_blk_ne hx hb he2 hg))
      unfold law7V at hv ⊢
      split at hv <;> first | exact hv | skip
      · by_cases h5 : j = 5
        · subst h5
          exact absurd hlv (by rw [show (decide (2 = 15) || liveB _ 5 2) = false by kernel_rfl]; simp)
        by_cases h12 : j = 12
        · subst h12
          exact absurd hlv (by rw [show (decide (2 = 15) || liveB _ 12 2) = false by kernel_rfl]; simp)
        by_cases h15 : j = 15
        · subst h15
          exact absurd hlv (by rw [show (decide (2 = 15) || liveB _ 15 2) = false by kernel_rfl]; simp)
        obtain ⟨g, e, hb, hz⟩ := hv
        exact ⟨g, e, (same h5 h12 h15 g hb.lt).trans hb, hz⟩
      · by_cases h5 : j = 5
        · exact absurd h5.symm hij
        by_cases h12 : j = 12
        · subst h12
          exact absurd hlv (by rw [show (decide (5 = 15) || liveB _ 12 5) = false by kernel_rfl]; simp)
        by_cases h15 : j = 15
        · subst h15
          exact absurd hlv (by rw [show (decide (5 = 15) || liveB _ 15 5) = false by kernel_rfl]; simp)
        obtain ⟨hsl, ho⟩ := hv
        exact ⟨hsl, own_block ho (fun g hg => same h5 h12 h15 g (ho.lt g hg).2)⟩
      · obtain ⟨g, e, hz, ho⟩ := hv
        exact ⟨g, e, hz, ownT ho (by decide) (by decide)⟩
      · by_cases h5 : j = 5
        · obtain ⟨g, g5, e, hz, hb, hz5, ho⟩ := hv
          subst h5
          refine ⟨g, g5, e, hz, ((hs.2 g hb.lt).1 rfl (fun hb' => ?_)).trans hb, hz5, ownT ho (by decide) (by decide)⟩
          unfold Blk at hb hb'
          rw [hb] at hb'
          simp at hb'
        by_cases h12 : j = 12
        · subst h12
          exact absurd hlv (by rw [show (decide (11 = 15) || liveB _ 12 11) = false by kernel_rfl]; simp)
        by_cases h15 : j = 15
        · subst h15
          exact absurd hlv (by rw [show (decide (11 = 15) || liveB _ 15 11) = false by kernel_rfl]; simp)
        obtain ⟨g, g5, e, hz, hb, hz5, ho⟩ := hv
        exact ⟨g, g5, e, hz, (same h5 h12 h15 g hb.lt).trans hb, hz5, ownT ho (by decide) (by decide)⟩
      · by_cases h5 : j = 5
        · subst h5
          exact absurd rfl (hna _ rfl ⟨5, .data⟩ (by simp) rfl)
        by_cases h12 : j = 12
        · exact absurd h12.symm hij
        by_cases h15 : j = 15
        · subst h15
          exact absurd hlv (by rw [show (decide (12 = 15) || liveB _ 15 12) = false by kernel_rfl]; simp)
        obtain ⟨gA, cA, g5, e, ho, hz5, ho5⟩ := hv
        exact ⟨gA, cA, g5, e, own_block ho (fun g hg => same h5 h12 h15 g (ho.lt g hg).2), hz5, ownT ho5 (by decide) (by decide)⟩
      · by_cases h5 : j = 5
        · obtain ⟨gA, cA, g5, e, ho, hz5, ho5⟩ := hv
          subst h5
          exact ⟨gA, cA, g5, e, own_block ho (fun g hg => (hs.2 g (ho.lt g hg).2).1 rfl (fun hb => own_not_empty ho hg hb)), hz5, ownT ho5 (by decide) (by decide)⟩
        by_cases h12 : j = 12
        · subst h12
          exact absurd rfl (hna _ rfl ⟨12, .data⟩ (by simp) rfl)
        by_cases h15 : j = 15
        · subst h15
          exact absurd hlv (by rw [show (decide (13 = 15) || liveB _ 15 13) = false by kernel_rfl]; simp)
        obtain ⟨gA, cA, g5, e, ho, hz5, ho5⟩ := hv
        exact ⟨gA, cA, g5, e, own_block ho (fun g hg => same h5 h12 h15 g (ho.lt g hg).2), hz5, ownT ho5 (by decide) (by decide)⟩
      · obtain ⟨g, e, hz, hb⟩ := hv
        by_cases h15 : j = 15
        · subst h15
          exact absurd hlv (by rw [show (decide (14 = 15) || liveB _ 15 14) = false by kernel_rfl]; simp)
        refine ⟨g, e, hz, ?_⟩
        by_cases h5 : j = 5
        · exact ((hs.2 g hb.lt).1 h5 (fun hb' => Blk.ne_ hb hb' (by decide) rfl)).trans hb
        by_cases h12 : j = 12
        · exact ((hs.2 g hb.lt).2.1 h12 (fun cs hb' => Blk.ne_ hb hb' (by decide) rfl)).trans hb
        exact (same h5 h12 h15 g hb.lt).trans hb
      · by_cases hj : j < 15
        · exfalso
          match j, hj with
          | 0, _ => exact absurd rfl (hna _ rfl ⟨0, .phase⟩ (by simp) rfl)
          | 1, _ => exact absurd rfl (hna _ rfl ⟨1, .phase⟩ (by simp) rfl)
          | 2, _ => exact absurd rfl (hna _ rfl ⟨2, .phase⟩ (by simp) rfl)
          | 3, _ => exact absurd rfl (hna _ rfl ⟨3, .phase⟩ (by simp) rfl)
          | 4, _ => exact absurd rfl (hna _ rfl ⟨4, .phase⟩ (by simp) rfl)
          | 5, _ => exact absurd rfl (hna _ rfl ⟨5, .phase⟩ (by simp) rfl)
          | 6, _ => exact absurd rfl (hna _ rfl ⟨6, .phase⟩ (by simp) rfl)
          | 7, _ => exact absurd rfl (hna _ rfl ⟨7, .phase⟩ (by simp) rfl)
          | 8, _ => exact absurd rfl (hna _ rfl ⟨8, .phase⟩ (by simp) rfl)
          | 9, _ => exact absurd rfl (hna _ rfl ⟨9, .phase⟩ (by simp) rfl)
          | 10, _ => exact absurd rfl (hna _ rfl ⟨10, .phase⟩ (by simp) rfl)
          | 11, _ => exact absurd rfl (hna _ rfl ⟨11, .phase⟩ (by simp) rfl)
          | 12, _ => exact absurd rfl (hna _ rfl ⟨12, .phase⟩ (by simp) rfl)
          | 13, _ => exact absurd rfl (hna _ rfl ⟨13, .phase⟩ (by simp) rfl)
          | 14, _ => exact absurd rfl (hna _ rfl ⟨14, .phase⟩ (by simp) rfl)
        · have h16 : 16 ≤ j := by omega
          obtain ⟨g, gA, cA, g5, e, hz, hb, ho, hz5, ho5⟩ := hv
          rw [dst_none (n := 16) ?hs16 h16]
          case hs16 => kernel_rfl
          have sm := same (by omega) (by omega) (by omega)
          exact ⟨g, gA, cA, g5, e, hz, (sm g hb.lt).trans hb, own_block ho (fun g hg => sm g (ho.lt g hg).2), hz5, ownT ho5 (by decide) (by decide)⟩
    · exact dst_lt (n := 56) (by kernel_rfl)
    · exact (Below.refl _ _).drew
    · refine ok_all ⟨?_, ?_, ?_, ?_, ?_, ?_, ?_, ?_, ?_, ?_, ?_, ?_, ?_, ?_, ?_, ?_, trivial⟩
      · refine ok_valueS (fun w => S7.refl w (by decide) (by decide) (by decide)) (fun f w h => h) (fun f listed a w' hl hc hs hr hh => ⟨.pointer (some ⟨T, 0, none⟩), ?_, rfl⟩)
        have h0 : a.tmps.getD 3 undef = .pointer (some ⟨T, 0, none⟩) := hr 3 (not_dst (by kernel_rfl))
        simp [execOp, Act.eval, h0, field30 T w' 0 (by decide)]
      · refine ok_readS (fun w => S7.refl w (by decide) (by decide) (by decide)) (fun f w h => h) rfl (fun w => by simp [go_sem]) (fun f listed a w' hl hc hs hr hh => ?_)
        obtain ⟨_, rfl, h1⟩ := hh ⟨0, .data⟩ (by simp) rfl
        have h1 := h1 17 rfl
        exact ⟨_, _, h1, (kT.below hc kT.lt).cell 0, rfl⟩
      · intro f listed a w' hl hc hs hr hh
        have hz := hc.size
        unfold Oper.wp
        simp [execOp, go_sem, Oper.upon]
        refine ⟨_, rfl, ⟨w'.heap.size, rfl, Blk.new w' 33 #[], hz⟩, S7.alloc w' _ (by decide) (by decide) (by decide), hc.alloc hz _⟩
      · refine ok_valueS (fun w => S7.refl w (by decide) (by decide) (by decide)) (fun f w h => h) (fun f listed a w' hl hc hs hr hh => ⟨.pointer (some ⟨T, 1, none⟩), ?_, rfl⟩)
        have h0 : a.tmps.getD 3 undef = .pointer (some ⟨T, 0, none⟩) := hr 3 (not_dst (by kernel_rfl))
        simp [execOp, Act.eval, h0, field30 T w' 1 (by decide)]
      · refine ok_readS (fun w => S7.refl w (by decide) (by decide) (by decide)) (fun f w h => h) rfl (fun w => by simp [go_sem]) (fun f listed a w' hl hc hs hr hh => ?_)
        obtain ⟨_, rfl, h1⟩ := hh ⟨3, .data⟩ (by simp) rfl
        have h1 := h1 20 rfl
        exact ⟨_, _, h1, (kT.below hc kT.lt).cell 1, rfl⟩
      · intro f listed a w' hl hc hs hr hh
        obtain ⟨_, ⟨g2, rfl, hb2, hz2⟩, h1⟩ := hh ⟨2, .data⟩ (by simp) rfl
        have h1 := h1 19 rfl
        obtain ⟨_, rfl, h2⟩ := hh ⟨4, .data⟩ (by simp) rfl
        have h2 := h2 21 rfl
        have hz := hc.size
        have own2 : w'.ownsRow w6.heap.size 33 1 (.slice (some ⟨g2, 0, none⟩) 0 0) 0 [] := ⟨rfl, .inr ⟨g2, 0, #[], rfl, hz2, hb2, Nat.le_refl _, by unfold maxLen; omega, rfl, rfl⟩⟩
        refine wp_append_any w' (.tmp 19) (.tmp 21) 28 rfl w6.heap.size 33 j0 _ 1 24 Tryd.underlying28 hjI hjz0 hjz1 hjz2 rfl (by decide) _ _ _ h1 own2 _ A5 m c5 vs h2 ((RV.below hc)) hvone (by unfold maxLen; omega) (by omega) hz (fun v' wA ho hg hat => ?_)
        obtain ⟨A', c', rfl, _, _⟩ := own_form ho
        refine ⟨_, rfl, ?_, S7.five hg.size (fun k hk h => ?_), hc.grown hg hz (fun g e => (own2.lt g e).1)⟩
        · refine ⟨⟨A', c', by rw [Nat.zero_add]⟩, ?_⟩
          have := ho
          rw [Nat.zero_add, List.nil_append] at this
          rw [Nat.zero_add]
          exact this
        · refine hg.block k hk (fun e => h ?_)
          simp [Value.ownBlock] at e
          subst e
          exact hb2
      · refine ok_valueS (fun w => S7.refl w (by decide) (by decide) (by decide)) (fun f w h => h) (fun f listed a w' hl hc hs hr hh => ⟨.pointer (some ⟨T, 0, none⟩), ?_, rfl⟩)
        have h0 : a.tmps.getD 3 undef = .pointer (some ⟨T, 0, none⟩) := hr 3 (not_dst (by kernel_rfl))
        simp [execOp, Act.eval, h0, field30 T w' 0 (by decide)]
      · refine ok_readS (fun w => S7.refl w (by decide) (by decide) (by decide)) (fun f w h => h) rfl (fun w => by simp [go_sem]) (fun f listed a w' hl hc hs hr hh => ?_)
        obtain ⟨_, rfl, h1⟩ := hh ⟨6, .data⟩ (by simp) rfl
        have h1 := h1 23 rfl
        exact ⟨_, _, h1, (kT.below hc kT.lt).cell 0, rfl⟩
      · refine ok_valueS (fun w => S7.refl w (by decide) (by decide) (by decide)) (fun f w h => h) (fun f listed a w' hl hc hs hr hh => ⟨.int .i64 (n4 : Int), ?_, rfl⟩)
        obtain ⟨_, rfl, h1⟩ := hh ⟨7, .data⟩ (by simp) rfl
        have h1 := h1 24 rfl
        simp [execOp, go_sem, Act.eval, h1]
      · refine ok_valueS (fun w => S7.refl w (by decide) (by decide) (by decide)) (fun f w h => h) (fun f listed a w' hl hc hs hr hh => ⟨.int .i64 ((n4 + 1 : Nat) : Int), ?_, rfl⟩)
        obtain ⟨_, rfl, h1⟩ := hh ⟨8, .data⟩ (by simp) rfl
        have h1 := h1 25 rfl
        have e1 : IntKind.i64.wrap ((n4 : Int) + 1) = (n4 : Int) + 1 := IntWalk.i64_in _ (by omega)
        simp [execOp, go_sem, Act.eval, h1, e1]
      · intro f listed a w' hl hc hs hr hh
        obtain ⟨_, rfl, h1⟩ := hh ⟨9, .data⟩ (by simp) rfl
        have h1 := h1 26 rfl
        have hz := hc.size
        obtain ⟨wm, hrun, r1, r2⟩ := run_make_full (P := Tryd.prog) w' w6.heap.size 33 3 ii _ 1 Tryd.underlying33 hii hiz his' .i64 .i64 (n4 + 1) (by rw [iib]; omega) (by unfold maxLen; omega) (by omega)
        have hb := grown_none_below r2
        have e0 : (madeCells (Value.int IntKind.i64 0).cells ((n4 + 1) * 1)).toList = inCells (List.replicate (n4 + 1) 0) := by
          rw [Nat.mul_one]
          exact (toList_madeCells_one _ _).trans (by simp [inCells])
        rw [e0] at r1
        have hx : a.eval (.tmp 26) = .int .i64 ((n4 + 1 : Nat) : Int) := h1
        unfold Oper.wp
        simp only [execOp, hx, Sem.run_bind, hrun, Result.andThen_ok, Sem.run_pure]
        refine ⟨_, rfl, ⟨w'.heap.size, rfl, by omega, r1⟩, S7.below hb (by decide) (by decide) (by decide), hc.trans (hb.mono hc.size)⟩
      · intro f listed a w' hl hc hs hr hh
        obtain ⟨_, ⟨g5, rfl, hg5, ho5⟩, h1⟩ := hh ⟨10, .data⟩ (by simp) rfl
        have h1 := h1 27 rfl
        have hz := hc.size
        refine wp_buildSlice 28 33 1 _ rfl #[.slice (some ⟨g5, 0, none⟩) (n4 + 1) (n4 + 1)] j0 _ Tryd.underlying28 hjI hjz0 (by rw [hjz1]; decide) (by rw [hjz1]; decide) ?_ ⟨_, rfl, ⟨w'.heap.size, g5, rfl, by omega, Blk.new w' 33 #[.slice (some ⟨g5, 0, none⟩) (n4 + 1) (n4 + 1)], hg5, ho5.alloc _⟩, S7.alloc w' _ (by decide) (by decide) (by decide), hc.alloc hz _⟩
        rw [hjz1]
        simp only [List.map_toArray, List.map_cons, List.map_nil, Act.eval, h1]
        kernel_rfl
      · intro f listed a w' hl hc hs hr hh
        obtain ⟨_, ⟨⟨A5', c5', rfl⟩, ho⟩, h1⟩ := hh ⟨5, .data⟩ (by simp) rfl
        have h1 := h1 22 rfl
        obtain ⟨_, ⟨g6, g5, rfl, hg6, hb6, hg5, ho5⟩, h2⟩ := hh ⟨11, .data⟩ (by simp) rfl
        have h2 := h2 28 rfl
        have hz := hc.size
        refine wp_append_lies _ (.tmp 22) (.tmp 28) 28 rfl w6.heap.size 33 j0 _ 1 24 Tryd.underlying28 hjI hjz0 hjz1 hjz2 rfl (by decide) _ _ _ h1 ho ⟨g6, 0, none⟩ 1 1 [.slice (some ⟨g5, 0, none⟩) (n4 + 1) (n4 + 1)] h2 rfl (fun j u hj => ?_) (oneCells rfl) (by omega) (by unfold maxLen; omega) (by omega) (by omega) _ rfl (fun gA cA wA ho' hg hd hgl => ?_)
        · match j, hj with
          | 0, hj => simp at hj; subst hj; simpa [Addr.add] using hb6.cell 0
        · refine ⟨_, rfl, ⟨gA, cA, g5, rfl, ho', hg5, ho5.kept hg (own_ne ho5 ho (by decide))⟩, S7.twelve hg.size (fun k hk h => ?_), hc.grown hg hz (fun g e => (ho.lt g e).1)⟩
          refine hg.block k hk (fun e => ?_)
          rcases ho.2 with ⟨e0, _⟩ | ⟨g', cap', cur', e0, _, hh', _⟩
          · rw [e0] at e; simp [Value.ownBlock] at e
          · rw [e0] at e
            simp [Value.ownBlock] at e
            subst e
            exact h cur' hh'
      · refine ok_valueS (fun w => S7.refl w (by decide) (by decide) (by decide)) (fun f w h => h) (fun f listed a w' hl hc hs hr hh => ?_)
        obtain ⟨_, rfl, h1⟩ := hh ⟨1, .data⟩ (by simp) rfl
        have h1 := h1 18 rfl
        obtain ⟨_, ⟨gA, cA, g5, rfl, ho', hg5, ho5⟩, h2⟩ := hh ⟨12, .data⟩ (by simp) rfl
        have h2 := h2 29 rfl
        refine ⟨.agg #[.slice A4 n4 c4, .slice (some ⟨gA, 0, none⟩) (m + 1) cA], ?_, ⟨gA, cA, g5, rfl, ho', hg5, ho5⟩⟩
        have h1' : a.tmps[18]?.getD undef = .slice A4 n4 c4 := by simpa using h1
        have h2' : a.tmps[29]?.getD undef = .slice (some ⟨gA, 0, none⟩) (m + 1) cA := by simpa using h2
        simp [execOp, go_sem, Act.eval, h1', h2']
      · intro f listed a w' hl hc hs hr hh
        have hz := hc.size
        unfold Oper.wp
        simp [execOp, go_sem, Oper.upon]
        refine ⟨_, rfl, ⟨w'.heap.size, rfl, hz, Blk.new w' 30 #[.slice none 0 0, .slice none 0 0]⟩, S7.alloc w' _ (by decide) (by decide) (by decide), hc.alloc hz _⟩
      · intro f listed a w' hl hc hs hr hh
        obtain ⟨_, ⟨g, rfl, hgz, hgb⟩, h1⟩ := hh ⟨14, .data⟩ (by simp) rfl
        have h1 := h1 5 rfl
        obtain ⟨_, ⟨gA, cA, g5, rfl, ho', hg5, ho5⟩, h2⟩ := hh ⟨13, .data⟩ (by simp) rfl
        have h2 := h2 30 rfl
        have y0 := hgb.cell 0
        have y1 := hgb.cell 1
        have f0 := hgb.frozen 0
        have f1 := hgb.frozen 1
        simp at y0 y1
        have hx1 : a.eval (.tmp 5) = .pointer (some ⟨g, 0, none⟩) := h1
        have hx2 : a.eval (.tmp 30) = .agg #[.slice A4 n4 c4, .slice (some ⟨gA, 0, none⟩) (m + 1) cA] := h2
        have hk : ∀ k, k < w'.heap.size → k ≠ g → ((w'.setCell ⟨g, 0, none⟩ (.slice A4 n4 c4)).setCell ⟨g, 1, none⟩ (.slice (some ⟨gA, 0, none⟩) (m + 1) cA)).heap[k]? = w'.heap[k]? := fun k _ hk => (Below.heap_setCell _ ⟨g, 1, none⟩ _ k hk).trans (Below.heap_setCell _ ⟨g, 0, none⟩ _ k hk)
        have hb' := (hgb.set_ 0 (.slice A4 n4 c4)).set_ 1 (.slice (some ⟨gA, 0, none⟩) (m + 1) cA)
        unfold Oper.wp
        have h1' : a.tmps[5]?.getD undef = .pointer (some ⟨g, 0, none⟩) := by simpa using h1
        have h2' : a.tmps[30]?.getD undef = .agg #[.slice A4 n4 c4, .slice (some ⟨gA, 0, none⟩) (m + 1) cA] := by simpa using h2
        simp [execOp, h1', h2', go_sem, y0, y1, f0, f1, run_store, storeCells, Oper.upon]
        refine ⟨⟨undef, g, gA, cA, g5, h1, hgz, by simpa using hb', own_off_blk ho' hgb (by decide) hk, hg5, own_off_blk ho5 hgb (by decide) hk⟩, S7.fifteen (by simp [World.setCell]) (fun k hkl hcs => hk k hkl (fun e => hcs _ (e ▸ hgb))), (hc.setCell (show w6.heap.size ≤ g from hgz) _).setCell (show w6.heap.size ≤ g from hgz) _⟩
    · intro a w7 hs hd' hr' hh hc'
      obtain ⟨_, ⟨g, gA, cA, g5, e5, hgz, hgb, hoA, hz5, ho5⟩, -⟩ := hh 15 (by decide) rfl
      have e0 : a.tmps.getD 0 undef = .slice A n c := hr' 0 (not_dst (by kernel_rfl))
      have e2 : a.tmps.getD 2 undef = .bool false := hr' 2 (not_dst (by kernel_rfl))
      have e3 : a.tmps.getD 3 undef = .pointer (some ⟨T, 0, none⟩) := hr' 3 (not_dst (by kernel_rfl))
      have e4 : a.tmps.getD 4 undef = .bool q := hr' 4 (not_dst (by kernel_rfl))
      have ea : a = ⟨#[a.tmps.getD 0 undef, a.tmps.getD 1 undef, a.tmps.getD 2 undef, a.tmps.getD 3 undef, a.tmps.getD 4 undef, a.tmps.getD 5 undef, a.tmps.getD 6 undef, a.tmps.getD 7 undef, a.tmps.getD 8 undef, a.tmps.getD 9 undef, a.tmps.getD 10 undef, a.tmps.getD 11 undef, a.tmps.getD 12 undef, a.tmps.getD 13 undef, a.tmps.getD 14 undef, a.tmps.getD 15 undef, a.tmps.getD 16 undef, a.tmps.getD 17 undef, a.tmps.getD 18 undef, a.tmps.getD 19 undef, a.tmps.getD 20 undef, a.tmps.getD 21 undef, a.tmps.getD 22 undef, a.tmps.getD 23 undef, a.tmps.getD 24 undef, a.tmps.getD 25 undef, a.tmps.getD 26 undef, a.tmps.getD 27 undef, a.tmps.getD 28 undef, a.tmps.getD 29 undef, a.tmps.getD 30 undef, a.tmps.getD 31 undef, a.tmps.getD 32 undef, a.tmps.getD 33 undef, a.tmps.getD 34 undef, a.tmps.getD 35 undef, a.tmps.getD 36 undef, a.tmps.getD 37 undef, a.tmps.getD 38 undef, a.tmps.getD 39 undef, a.tmps.getD 40 undef, a.tmps.getD 41 undef, a.tmps.getD 42 undef, a.tmps.getD 43 undef, a.tmps.getD 44 undef, a.tmps.getD 45 undef, a.tmps.getD 46 undef, a.tmps.getD 47 undef, a.tmps.getD 48 undef, a.tmps.getD 49 undef, a.tmps.getD 50 undef, a.tmps.getD 51 undef, a.tmps.getD 52 undef, a.tmps.getD 53 undef, a.tmps.getD 54 undef, a.tmps.getD 55 undef], []⟩ := act_lit 56 hs hd'
      rw [e0, e2, e3, e4, e5] at ea
      obtain ⟨U, hU⟩ : ∃ U : Nat → Value, ∀ i, a.tmps.getD i undef = U i := ⟨_, fun _ => rfl⟩
      simp only [hU] at ea
      clear hs hd' hr' hh hU e0 e2 e3 e4 e5
      subst ea
      have hRV := H1.out.below hc'
      rw [HM5.out] at hoA
      have hbad := badRows (r := List.replicate (names.length + 1) 0) hRV hoA (by rw [List.length_replicate, ← HN4.out]; exact ho5)
      have kT7 := kT.below hc' kT.lt
      have B7 := B6.trans (hc'.mono B6.size)
      have O7 := (O6.below hc').reads
      have TB : TabR w7 (.agg #[.slice A4 n4 c4, .slice (some ⟨gA, 0, none⟩) (m + 1) cA]) names (rows ++ [List.replicate (names.length + 1) 0]) := by
        obtain ⟨A', c', B', d', e, hc, hx, hy⟩ := O7
        rw [HN4.out] at e
        simp only [Value.agg.injEq] at e
        have e1 := congrArg (fun a => a[0]?) e
        simp at e1
        obtain ⟨rfl, rfl⟩ := e1
        exact ⟨A4, c4, some ⟨gA, 0, none⟩, cA, by rw [HN4.out, HM5.out]; simp, hc, hx, by rw [List.length_append]; exact hbad⟩
      have OB : TabOk names (rows ++ [List.replicate (names.length + 1) 0]) := ⟨by have := hd.n1; omega, fun x hx => by have := hd.n2 x hx; omega, by rw [List.length_append]; have := hd.r1; simp; omega, fun r hr => by
        rcases List.mem_append.1 hr with h | h
        · have := hd.r2 r h; omega
        · simp at h; subst h; have := hd.n1; simp; omega⟩
      have I8 := Lib.hid (fun (w' : World) (hb : Below w7.heap.size w7 w') => HI.out false _ names _ w' (B7.trans (hb.mono B7.size)) (TB.below hb) OB (bad_false names rows))
      have AL := Lib.hid (fun (w' : World) (hb : Below w7.heap.size w7 w') => HV.out w' (B7.trans (hb.mono B7.size)))
      have HB7 := Lib.hid B7
      have x0 := hgb.cell 0
      have x1 := hgb.cell 1
      have y0 := kT7.cell 0
      have y1 := kT7.cell 1
      simp at x0 x1 y0 y1
      have HO7 := Lib.hid O7
      have hm55 : rows.length ≤ c5 := by
        obtain ⟨A', c', e, h, _⟩ := own_form H1.out.own
        simp only [Value.slice.injEq] at e
        obtain ⟨_, _, rfl⟩ := e
        exact h
      clear hgz hgb hoA hz5 ho5 hRV hbad kT7 B7 O7 TB OB hc' kT O6 B6 RV hvone b46 hii hiz his' iib hjI hjz0 hjz1 hjz2
      obtain ⟨r, hrd⟩ : ∃ r : Bool, (!r) = (!q || decide (m = 0)) := ⟨!(!q || decide (m = 0)), by simp⟩
      have hr1 : r = true → 1 ≤ m ∧ q = true := by
        intro h
        rw [h] at hrd
        cases q
        · simp at hrd
        · simp at hrd; exact ⟨by omega, rfl⟩
      have I9 := Lib.hid (fun (hrt : r = true) (w' : World) (hb : Below w7.heap.size w7 w') => HI.out true (.agg #[.slice A4 n4 c4, .slice (if c5 = 1 then A5 else A5.map (·.add 1)) (m - 1) (c5 - 1)]) names (rows.drop 1) w' (HB7.out.trans (hb.mono HB7.out.size)) (by
        obtain ⟨A', c', B', d', e, hc, hx, hy⟩ := HO7.out.below hb
        rw [HN4.out, HM5.out] at e
        simp only [Value.agg.injEq] at e
        have e1 := congrArg (fun a => a[0]?) e
        have e2 := congrArg (fun a => a[1]?) e
        simp at e1 e2
        obtain ⟨rfl, rfl⟩ := e1
        obtain ⟨rfl, rfl⟩ := e2
        exact ⟨A4, c4, _, c5 - 1, by rw [HN4.out, HM5.out, List.length_drop], hc, hx, by rw [List.length_drop]; exact hy.cut (cap := c5) (by have := (hr1 hrt).1; rw [HM5.out] at this; exact this) hm55⟩) ⟨by have := hd.n1; omega, fun x hx => by have := hd.n2 x hx; omega, by have := hd.r1; rw [List.length_drop]; omega, fun r hr => by have := hd.r2 r (List.mem_of_mem_drop hr); omega⟩ (drop_true (by rw [HQ.out]; exact (hr1 hrt).2)))
      go_wp2_with fail
      refine wp_region_typedG (by kernel_rfl) (fun i => decide (i = 25)) (lift <| law8V T n4 c4 m c5 A4 A5 gA cA q r) (fun _ _ _ => True) (fun _ w' => Below w7.heap.size w7 w') (by kernel_rfl) ?_ ?_ ?_ ?_ (by kernel_rfl) ?_
      · exact fun i j v _ _ w w' _ _ _ hv _ => hv
      · exact dst_lt (n := 56) (by kernel_rfl)
      · exact (Below.refl _ _).drew
      · refine ok_all ⟨?_, ?_, ?_, ?_, ?_, ?_, ?_, ?_, ?_, ?_, ?_, ?_, ?_, ?_, ?_, ?_, ?_, ?_, ?_, ?_, ?_, ?_, ?_, ?_, ?_, ?_, trivial⟩
        · refine OpOk.toG rfl ?_
          intro f listed a w' hl hc hs hr hh
          have x0' := below_keep hc x0
          have x1' := below_keep hc x1
          have h5 : a.tmps.getD 5 undef = .pointer (some ⟨g, 0, none⟩) := hr 5 (not_dst (by kernel_rfl))
          have h5' : a.tmps[5]?.getD undef = .pointer (some ⟨g, 0, none⟩) := by simpa using h5
          refine wp_value (v := .agg #[.slice A4 n4 c4, .slice (some ⟨gA, 0, none⟩) (m + 1) cA]) (by simp [execOp, go_sem, Act.eval, h5', x0', x1']) ⟨_, rfl, rfl, trivial, hc⟩
        · refine OpOk.toG rfl ?_
          intro f listed a w' hl hc hs hr hh
          obtain ⟨_, rfl, h1⟩ := hh ⟨0, .data⟩ (by simp) rfl
          have h1 := h1 31 rfl
          refine op_call Tryd.func20 (by kernel_rfl) rfl rfl ?_
          rw [show #[Operand.tmp 31].map a.eval = #[.agg #[.slice A4 n4 c4, .slice (some ⟨gA, 0, none⟩) (m + 1) cA]] by simp [Act.eval]; simpa using h1]
          refine (I8.out w' hc).mono ?_
          rintro e w8 ⟨rfl, hb8⟩
          exact ⟨_, rfl, _, rfl, rfl, trivial, hc.trans (hb8.mono hc.size)⟩
        · refine OpOk.toG rfl ?_
          intro f listed a w' hl hc hs hr hh
          obtain ⟨_, rfl, h1⟩ := hh ⟨1, .data⟩ (by simp) rfl
          have h1 := h1 32 rfl
          have h1' : a.tmps[32]?.getD undef = .bool false := by simpa using h1
          exact wp_value (v := .bool true) (by simp [execOp, go_sem, Act.eval, h1']) ⟨_, rfl, rfl, trivial, hc⟩
        · refine OpOk.toG rfl ?_
          intro f listed a w' hl hc hs hr hh
          obtain ⟨_, rfl, h1⟩ := hh ⟨2, .data⟩ (by simp) rfl
          have h1 := h1 33 rfl
          exact op_move rfl ⟨_, rfl, h1, trivial, hc⟩
        · intro f listed a w' hl hc hs hr hh
          obtain ⟨_, rfl, hg⟩ := hh ⟨3, .guard⟩ (by simp) rfl
          have hg := hg 34 rfl
          have hy := hl.yield (j := 3) rfl hg
          refine ⟨fun _ => ?_, fun hw => ?_⟩
          rotate_left
          · change (yielded _ _ _ == some _) = false at hw
            rw [hy] at hw
            cases hw
          have h4 : a.tmps.getD 4 undef = .bool q := hr 4 (not_dst (by kernel_rfl))
          exact op_move rfl ⟨_, rfl, h4, trivial, hc⟩
        · intro f listed a w' hl hc hs hr hh
          obtain ⟨_, rfl, hg⟩ := hh ⟨3, .guard⟩ (by simp) rfl
          have hg := hg 34 rfl
          have hy := hl.yield (j := 3) rfl hg
          refine ⟨fun _ => ?_, fun hw => ?_⟩
          rotate_left
          · change (yielded _ _ _ == some _) = false at hw
            rw [hy] at hw
            cases hw
          obtain ⟨_, rfl, h1⟩ := hh ⟨4, .data⟩ (by simp) rfl
          have h1 := h1 35 rfl
          have h1' : a.tmps[35]?.getD undef = .bool q := by simpa using h1
          exact wp_value (v := .bool (!q)) (by simp [execOp, go_sem, Act.eval, h1']) ⟨_, rfl, rfl, trivial, hc⟩
        · intro f listed a w' hl hc hs hr hh
          obtain ⟨_, rfl, hg⟩ := hh ⟨3, .guard⟩ (by simp) rfl
          have hg := hg 34 rfl
          have hy := hl.yield (j := 3) rfl hg
          refine ⟨fun _ => ?_, fun hw => ?_⟩
          rotate_left
          · change (yielded _ _ _ == some _) = false at hw
            rw [hy] at hw
            cases hw
          obtain ⟨_, rfl, h1⟩ := hh ⟨5, .data⟩ (by simp) rfl
          have h1 := h1 36 rfl
          exact op_move rfl ⟨_, rfl, h1, trivial, hc⟩
        · intro f listed a w' hl hc hs hr hh
          obtain ⟨_, rfl, hg⟩ := hh ⟨6, .guard⟩ (by simp) rfl
          have hg := hg 37 rfl
          have hy := hl.yield (j := 6) rfl hg
          refine ⟨fun hw => ?_, fun hw => ?_⟩
          rotate_left
          · refine ⟨fun h => ?_, trivial, hc⟩
            change (yielded _ _ _ == some _) = false at hw
            rw [hy, h] at hw
            cases hw
          have hcond : q = true := by
            change (yielded _ _ _ == some _) = true at hw
            rw [hy] at hw
            cases h : q
            · rw [h] at hw; cases hw
            · rfl
          have h3 : a.tmps.getD 3 undef = .pointer (some ⟨T, 0, none⟩) := hr 3 (not_dst (by kernel_rfl))
          exact wp_value (v := .pointer (some ⟨T, 1, none⟩)) (by simp [execOp, Act.eval, h3, field30 T w' 1 (by decide)]) ⟨_, rfl, fun _ => rfl, trivial, hc⟩
        · intro f listed a w' hl hc hs hr hh
          obtain ⟨_, rfl, hg⟩ := hh ⟨6, .guard⟩ (by simp) rfl
          have hg := hg 37 rfl
          have hy := hl.yield (j := 6) rfl hg
          refine ⟨fun hw => ?_, fun hw => ?_⟩
          rotate_left
          · refine ⟨fun h => ?_, trivial, hc⟩
            change (yielded _ _ _ == some _) = false at hw
            rw [hy, h] at hw
            cases hw
          have hcond : q = true := by
            change (yielded _ _ _ == some _) = true at hw
            rw [hy] at hw
            cases h : q
            · rw [h] at hw; cases hw
            · rfl
          obtain ⟨_, hv1, h1⟩ := hh ⟨7, .data⟩ (by simp) rfl
          have h1 := h1 38 rfl
          obtain rfl := hv1 hcond
          exact op_load rfl h1 (below_keep hc y1) (by simp [go_sem]) ⟨_, rfl, fun _ => rfl, trivial, hc⟩
        · intro f listed a w' hl hc hs hr hh
          obtain ⟨_, rfl, hg⟩ := hh ⟨6, .guard⟩ (by simp) rfl
          have hg := hg 37 rfl
          have hy := hl.yield (j := 6) rfl hg
          refine ⟨fun hw => ?_, fun hw => ?_⟩
          rotate_left
          · refine ⟨fun h => ?_, trivial, hc⟩
            change (yielded _ _ _ == some _) = false at hw
            rw [hy, h] at hw
            cases hw
          have hcond : q = true := by
            change (yielded _ _ _ == some _) = true at hw
            rw [hy] at hw
            cases h : q
            · rw [h] at hw; cases hw
            · rfl
          obtain ⟨_, hv1, h1⟩ := hh ⟨8, .data⟩ (by simp) rfl
          have h1 := h1 39 rfl
          obtain rfl := hv1 hcond
          have h1' : a.tmps[39]?.getD undef = .slice A5 m c5 := by simpa using h1
          exact wp_value (v := .int .i64 (m : Int)) (by simp [execOp, go_sem, Act.eval, h1']) ⟨_, rfl, fun _ => rfl, trivial, hc⟩
        · intro f listed a w' hl hc hs hr hh
          obtain ⟨_, rfl, hg⟩ := hh ⟨6, .guard⟩ (by simp) rfl
          have hg := hg 37 rfl
          have hy := hl.yield (j := 6) rfl hg
          refine ⟨fun hw => ?_, fun hw => ?_⟩
          rotate_left
          · refine ⟨fun h => ?_, trivial, hc⟩
            change (yielded _ _ _ == some _) = false at hw
            rw [hy, h] at hw
            cases hw
          have hcond : q = true := by
            change (yielded _ _ _ == some _) = true at hw
            rw [hy] at hw
            cases h : q
            · rw [h] at hw; cases hw
            · rfl
          obtain ⟨_, hv1, h1⟩ := hh ⟨9, .data⟩ (by simp) rfl
          have h1 := h1 40 rfl
          obtain rfl := hv1 hcond
          have h1' : a.tmps[40]?.getD undef = .int .i64 (m : Int) := by simpa using h1
          have em : ((m : Int) == 0) = decide (m = 0) := by by_cases h : m = 0 <;> simp [h]
          exact wp_value (v := .bool (decide (m = 0))) (by simp [execOp, go_sem, Act.eval, h1', em]) ⟨_, rfl, fun _ => rfl, trivial, hc⟩
        · intro f listed a w' hl hc hs hr hh
          obtain ⟨_, rfl, hg⟩ := hh ⟨3, .guard⟩ (by simp) rfl
          have hg := hg 34 rfl
          have hy := hl.yield (j := 3) rfl hg
          refine ⟨fun _ => ?_, fun hw => ?_⟩
          rotate_left
          · change (yielded _ _ _ == some _) = false at hw
            rw [hy] at hw
            cases hw
          obtain ⟨_, rfl, h1⟩ := hh ⟨6, .data⟩ (by simp) rfl
          have h1 := h1 37 rfl
          obtain ⟨_, hv2, h2⟩ := hh ⟨10, .data⟩ (by simp) rfl
          have h2 := h2 41 rfl
          have h1' : a.tmps[37]?.getD undef = .bool (!q) := by simpa using h1
          cases hq : q
          · rw [hq] at h1'
            exact wp_value (v := .bool true) (by simp [execOp, go_sem, Act.eval, h1']) ⟨_, rfl, by show Value.bool true = Value.bool (!r); rw [hrd, hq]; rfl, trivial, hc⟩
          · obtain rfl := hv2 hq
            rw [hq] at h1'
            have h2' : a.tmps[41]?.getD undef = .bool (decide (m = 0)) := by simpa using h2
            exact wp_value (v := .bool (decide (m = 0))) (by simp [execOp, go_sem, Act.eval, h1', h2']) ⟨_, rfl, by show Value.bool (decide (m = 0)) = Value.bool (!r); rw [hrd, hq]; simp, trivial, hc⟩
        · intro f listed a w' hl hc hs hr hh
          obtain ⟨_, rfl, hg⟩ := hh ⟨3, .guard⟩ (by simp) rfl
          have hg := hg 34 rfl
          have hy := hl.yield (j := 3) rfl hg
          refine ⟨fun _ => ?_, fun hw => ?_⟩
          rotate_left
          · change (yielded _ _ _ == some _) = false at hw
            rw [hy] at hw
            cases hw
          obtain ⟨_, rfl, h1⟩ := hh ⟨11, .data⟩ (by simp) rfl
          have h1 := h1 42 rfl
          exact op_move rfl ⟨_, rfl, h1, trivial, hc⟩
        · intro f listed a w' hl hc hs hr hh
          obtain ⟨_, rfl, hg⟩ := hh ⟨12, .guard⟩ (by simp) rfl
          have hg := hg 43 rfl
          have hy := hl.yield (j := 12) rfl hg
          refine ⟨fun hw => ?_, fun hw => ?_⟩
          rotate_left
          · refine ⟨fun h => ?_, trivial, hc⟩
            change (yielded _ _ _ == some _) = false at hw
            rw [hy, h] at hw
            cases hw
          have hcond : r = true := by
            change (yielded _ _ _ == some _) = true at hw
            rw [hy] at hw
            cases h : r
            · rw [h] at hw; cases hw
            · rfl
          have h3 : a.tmps.getD 3 undef = .pointer (some ⟨T, 0, none⟩) := hr 3 (not_dst (by kernel_rfl))
          exact wp_value (v := .pointer (some ⟨T, 0, none⟩)) (by simp [execOp, Act.eval, h3, field30 T w' 0 (by decide)]) ⟨_, rfl, fun _ => rfl, trivial, hc⟩
        · intro f listed a w' hl hc hs hr hh
          obtain ⟨_, rfl, hg⟩ := hh ⟨12, .guard⟩ (by simp) rfl
          have hg := hg 43 rfl
          have hy := hl.yield (j := 12) rfl hg
          refine ⟨fun hw => ?_, fun hw => ?_⟩
          rotate_left
          · refine ⟨fun h => ?_, trivial, hc⟩
            change (yielded _ _ _ == some _) = false at hw
            rw [hy, h] at hw
            cases hw
          have hcond : r = true := by
            change (yielded _ _ _ == some _) = true at hw
            rw [hy] at hw
            cases h : r
            · rw [h] at hw; cases hw
            · rfl
          obtain ⟨_, hv1, h1⟩ := hh ⟨13, .data⟩ (by simp) rfl
          have h1 := h1 44 rfl
          obtain rfl := hv1 hcond
          exact op_load rfl h1 (below_keep hc y0) (by simp [go_sem]) ⟨_, rfl, fun _ => rfl, trivial, hc⟩
        · intro f listed a w' hl hc hs hr hh
          obtain ⟨_, rfl, hg⟩ := hh ⟨12, .guard⟩ (by simp) rfl
          have hg := hg 43 rfl
          have hy := hl.yield (j := 12) rfl hg
          refine ⟨fun hw => ?_, fun hw => ?_⟩
          rotate_left
          · refine ⟨fun h => ?_, trivial, hc⟩
            change (yielded _ _ _ == some _) = false at hw
            rw [hy, h] at hw
            cases hw
          have hcond : r = true := by
            change (yielded _ _ _ == some _) = true at hw
            rw [hy] at hw
            cases h : r
            · rw [h] at hw; cases hw
            · rfl
          have h3 : a.tmps.getD 3 undef = .pointer (some ⟨T, 0, none⟩) := hr 3 (not_dst (by kernel_rfl))
          exact wp_value (v := .pointer (some ⟨T, 1, none⟩)) (by simp [execOp, Act.eval, h3, field30 T w' 1 (by decide)]) ⟨_, rfl, fun _ => rfl, trivial, hc⟩
        · intro f listed a w' hl hc hs hr hh
          obtain ⟨_, rfl, hg⟩ := hh ⟨12, .guard⟩ (by simp) rfl
          have hg := hg 43 rfl
          have hy := hl.yield (j := 12) rfl hg
          refine ⟨fun hw => ?_, fun hw => ?_⟩
          rotate_left
          · refine ⟨fun h => ?_, trivial, hc⟩
            change (yielded _ _ _ == some _) = false at hw
            rw [hy, h] at hw
            cases hw
          have hcond : r = true := by
            change (yielded _ _ _ == some _) = true at hw
            rw [hy] at hw
            cases h : r
            · rw [h] at hw; cases hw
            · rfl
          obtain ⟨_, hv1, h1⟩ := hh ⟨15, .data⟩ (by simp) rfl
          have h1 := h1 46 rfl
          obtain rfl := hv1 hcond
          exact op_load rfl h1 (below_keep hc y1) (by simp [go_sem]) ⟨_, rfl, fun _ => rfl, trivial, hc⟩
        · intro f listed a w' hl hc hs hr hh
          obtain ⟨_, rfl, hg⟩ := hh ⟨12, .guard⟩ (by simp) rfl
          have hg := hg 43 rfl
          have hy := hl.yield (j := 12) rfl hg
          refine ⟨fun hw => ?_, fun hw => ?_⟩
          rotate_left
          · refine ⟨fun h => ?_, trivial, hc⟩
            change (yielded _ _ _ == some _) = false at hw
            rw [hy, h] at hw
            cases hw
          have hcond : r = true := by
            change (yielded _ _ _ == some _) = true at hw
            rw [hy] at hw
            cases h : r
            · rw [h] at hw; cases hw
            · rfl
          obtain ⟨_, hv1, h1⟩ := hh ⟨16, .data⟩ (by simp) rfl
          have h1 := h1 47 rfl
          obtain rfl := hv1 hcond
          have h1' : a.tmps[47]?.getD undef = .slice A5 m c5 := by simpa using h1
          obtain ⟨hm1, hqr⟩ := hr1 hcond
          refine wp_value (v := .slice (if c5 = 1 then A5 else A5.map (·.add 1)) (m - 1) (c5 - 1)) ?_ ⟨_, rfl, fun _ => rfl, trivial, hc⟩
          simp [execOp, go_sem, Act.eval, h1']
          intro h
          exact absurd h (by omega)
        · intro f listed a w' hl hc hs hr hh
          obtain ⟨_, rfl, hg⟩ := hh ⟨12, .guard⟩ (by simp) rfl
          have hg := hg 43 rfl
          have hy := hl.yield (j := 12) rfl hg
          refine ⟨fun hw => ?_, fun hw => ?_⟩
          rotate_left
          · refine ⟨fun h => ?_, trivial, hc⟩
            change (yielded _ _ _ == some _) = false at hw
            rw [hy, h] at hw
            cases hw
          have hcond : r = true := by
            change (yielded _ _ _ == some _) = true at hw
            rw [hy] at hw
            cases h : r
            · rw [h] at hw; cases hw
            · rfl
          obtain ⟨_, hv1, h1⟩ := hh ⟨14, .data⟩ (by simp) rfl
          have h1 := h1 45 rfl
          obtain rfl := hv1 hcond
          obtain ⟨_, hv2, h2⟩ := hh ⟨17, .data⟩ (by simp) rfl
          have h2 := h2 48 rfl
          obtain rfl := hv2 hcond
          have h1' : a.tmps[45]?.getD undef = .slice A4 n4 c4 := by simpa using h1
          have h2' : a.tmps[48]?.getD undef = .slice (if c5 = 1 then A5 else A5.map (·.add 1)) (m - 1) (c5 - 1) := by simpa using h2
          exact wp_value (v := .agg #[.slice A4 n4 c4, .slice (if c5 = 1 then A5 else A5.map (·.add 1)) (m - 1) (c5 - 1)]) (by simp [execOp, go_sem, Act.eval, h1', h2']) ⟨_, rfl, fun _ => rfl, trivial, hc⟩
        · intro f listed a w' hl hc hs hr hh
          obtain ⟨_, rfl, hg⟩ := hh ⟨12, .guard⟩ (by simp) rfl
          have hg := hg 43 rfl
          have hy := hl.yield (j := 12) rfl hg
          refine ⟨fun hw => ?_, fun hw => ?_⟩
          rotate_left
          · refine ⟨fun h => ?_, trivial, hc⟩
            change (yielded _ _ _ == some _) = false at hw
            rw [hy, h] at hw
            cases hw
          have hcond : r = true := by
            change (yielded _ _ _ == some _) = true at hw
            rw [hy] at hw
            cases h : r
            · rw [h] at hw; cases hw
            · rfl
          obtain ⟨_, hv1, h1⟩ := hh ⟨18, .data⟩ (by simp) rfl
          have h1 := h1 49 rfl
          obtain rfl := hv1 hcond
          refine op_call Tryd.func20 (by kernel_rfl) rfl rfl ?_
          rw [show #[Operand.tmp 49].map a.eval = #[.agg #[.slice A4 n4 c4, .slice (if c5 = 1 then A5 else A5.map (·.add 1)) (m - 1) (c5 - 1)]] by simp [Act.eval]; simpa using h1]
          refine (I9.out hcond w' hc).mono ?_
          rintro e w8 ⟨rfl, hb8⟩
          exact ⟨_, rfl, _, rfl, fun _ => rfl, trivial, hc.trans (hb8.mono hc.size)⟩
        · intro f listed a w' hl hc hs hr hh
          obtain ⟨_, rfl, hg⟩ := hh ⟨3, .guard⟩ (by simp) rfl
          have hg := hg 34 rfl
          have hy := hl.yield (j := 3) rfl hg
          refine ⟨fun _ => ?_, fun hw => ?_⟩
          rotate_left
          · change (yielded _ _ _ == some _) = false at hw
            rw [hy] at hw
            cases hw
          obtain ⟨_, rfl, h1⟩ := hh ⟨12, .data⟩ (by simp) rfl
          have h1 := h1 43 rfl
          obtain ⟨_, hv2, h2⟩ := hh ⟨19, .data⟩ (by simp) rfl
          have h2 := h2 50 rfl
          have h1' : a.tmps[43]?.getD undef = .bool (!r) := by simpa using h1
          cases hq : r
          · rw [hq] at h1'
            exact wp_value (v := .bool true) (by simp [execOp, go_sem, Act.eval, h1']) ⟨_, rfl, rfl, trivial, hc⟩
          · obtain rfl := hv2 hq
            rw [hq] at h1'
            have h2' : a.tmps[50]?.getD undef = .bool true := by simpa using h2
            exact wp_value (v := .bool true) (by simp [execOp, go_sem, Act.eval, h1', h2']) ⟨_, rfl, rfl, trivial, hc⟩
        · refine OpOk.toG rfl ?_
          intro f listed a w' hl hc hs hr hh
          obtain ⟨_, rfl, h1⟩ := hh ⟨3, .data⟩ (by simp) rfl
          have h1 := h1 34 rfl
          obtain ⟨_, rfl, h2⟩ := hh ⟨20, .data⟩ (by simp) rfl
          have h2 := h2 51 rfl
          have h1' : a.tmps[34]?.getD undef = .bool true := by simpa using h1
          have h2' : a.tmps[51]?.getD undef = .bool true := by simpa using h2
          exact wp_value (v := .bool true) (by simp [execOp, go_sem, Act.eval, h1', h2']) ⟨_, rfl, rfl, trivial, hc⟩
        · refine OpOk.toG rfl ?_
          intro f listed a w' hl hc hs hr hh
          obtain ⟨_, rfl, h1⟩ := hh ⟨21, .data⟩ (by simp) rfl
          have h1 := h1 52 rfl
          exact op_move rfl ⟨_, rfl, h1, trivial, hc⟩
        · intro f listed a w' hl hc hs hr hh
          obtain ⟨_, rfl, hg⟩ := hh ⟨22, .guard⟩ (by simp) rfl
          have hg := hg 53 rfl
          have hy := hl.yield (j := 22) rfl hg
          refine ⟨fun _ => ?_, fun hw => ?_⟩
          rotate_left
          · change (yielded _ _ _ == some _) = false at hw
            rw [hy] at hw
            cases hw
          refine op_call Tryd.func18 (by kernel_rfl) rfl rfl ?_
          rw [show (#[] : Array Operand).map a.eval = #[] by simp]
          refine (AL.out w' hc).mono ?_
          rintro e w8 ⟨rfl, rfl⟩
          exact ⟨_, rfl, _, rfl, rfl, trivial, hc⟩
        · refine OpOk.toG rfl ?_
          intro f listed a w' hl hc hs hr hh
          obtain ⟨_, rfl, h1⟩ := hh ⟨22, .data⟩ (by simp) rfl
          have h1 := h1 53 rfl
          obtain ⟨_, rfl, h2⟩ := hh ⟨23, .data⟩ (by simp) rfl
          have h2 := h2 54 rfl
          have h1' : a.tmps[53]?.getD undef = .bool true := by simpa using h1
          have h2' : a.tmps[54]?.getD undef = .bool true := by simpa using h2
          exact wp_value (v := .bool true) (by simp [execOp, go_sem, Act.eval, h1', h2']) ⟨_, rfl, rfl, trivial, hc⟩
        · refine OpOk.toG rfl ?_
          intro f listed a w' hl hc hs hr hh
          obtain ⟨_, rfl, h1⟩ := hh ⟨24, .data⟩ (by simp) rfl
          have h1 := h1 55 rfl
          exact op_assign rfl ⟨_, rfl, h1, trivial, hc⟩
      · intro a w8 hs hd' hr' hh hc'
        obtain ⟨_, rfl, h4⟩ := hh 25 (by decide) rfl
        have h2 : a.tmps.getD 2 undef = .bool true := h4 2 rfl
        obtain ⟨tm, df⟩ := a
        obtain rfl : df = [] := hd'
        clear hr' hh hs
        go_wp2_with fail
        refine bodyPost_ret (results_tmp (by rfl) _ _ _) rfl ⟨?_, HB7.out.trans (hc'.mono HB7.out.size)⟩
        exact congrArg Ending.returned h2
end Go.Proofs.YtcgmcikceohdoaaDoor
