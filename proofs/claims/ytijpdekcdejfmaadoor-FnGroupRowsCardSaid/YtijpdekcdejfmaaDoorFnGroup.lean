/- spec.DrawGroupRows; laws.FnGroupRows: the walk. -/
import Derived.Test.YtijpdekcdejfmaaDoorDrawJoin
import Derived.Test.YtijpdekcdejfmaaDoorGrpI
import Derived.Test.YtijpdekcdejfmaaDoorGrpSp
import Derived.Test.YtijpdekcdejfmaaDoorColumn
import Derived.Test.YtijpdekcdejfmaaDoorSameT
import Derived.BigQuiet
namespace Go.Proofs.YtijpdekcdejfmaaDoor
open Go Go.RowKit
set_option maxRecDepth 100000
theorem own_tag {w : World} {lo lo' s n m : Nat} {s' : Nat} {e e' : TypeId} {v v' : Value} {xs ys : List Value} (h : w.ownsRow lo e s v n xs) (h' : w.ownsRow lo' e' s' v' m ys) (hne : e ≠ e') {g : Nat} (hg : v.ownBlock = some g) : v'.ownBlock ≠ some g := by
  intro hg'
  rcases h.2 with ⟨rfl, _⟩ | ⟨k, cap, cur, rfl, _, hk, _⟩
  · simp [Value.ownBlock] at hg
  rcases h'.2 with ⟨rfl, _⟩ | ⟨k', cap', cur', rfl, _, hk', _⟩
  · simp [Value.ownBlock] at hg'
  simp only [Value.ownBlock, Option.some.injEq] at hg hg'
  subst hg
  subst hg'
  rw [hk] at hk'
  simp only [Option.some.injEq, Obj.cells.injEq] at hk'
  exact hne hk'.2.1
theorem own_tagB {w : World} {lo s n : Nat} {e e' : TypeId} {v : Value} {xs : List Value} {cs : Array Value} {g : Nat} (h : w.ownsRow lo e s v n xs) (h' : Blk w g e' cs) (hne : e ≠ e') : v.ownBlock ≠ some g := by
  intro hg
  rcases h.2 with ⟨rfl, _⟩ | ⟨k, cap, cur, rfl, _, hk, _⟩
  · simp [Value.ownBlock] at hg
  simp only [Value.ownBlock, Option.some.injEq] at hg
  subst hg
  have h2 : w.heap[k]? = some (.cells cs e' (0, 0)) := h'
  rw [hk] at h2
  simp only [Option.some.injEq, Obj.cells.injEq] at h2
  exact hne h2.2.1
theorem tag_si : (9 : TypeId) ≠ 3 := by decide
theorem tag_ss : (9 : TypeId) ≠ 40 := by decide
/-- A name of a table of the call's own is written. -/
theorem TabO.name {w : World} {lo gN n c i : Nat} {rv : Value} {names : List ByteArray} {rows : List (List Int)} (h : TabO w lo (.agg #[.slice (some ⟨gN, 0, none⟩) n c, rv]) names rows) (s : ByteArray) :
    TabO (w.setCell ⟨gN, i, none⟩ (.string s)) lo (.agg #[.slice (some ⟨gN, 0, none⟩) n c, rv]) (names.set i s) rows := by
  obtain ⟨v0, v1, e, h0, vs, h1⟩ := h
  simp only [Value.agg.injEq, Array.mk.injEq, List.cons.injEq, and_true] at e
  obtain ⟨rfl, rfl⟩ := e
  have hn : n = names.length := by
    rcases h0.2 with ⟨e, _⟩ | ⟨g, cap, cur, e, _⟩
    · cases e
    · simp only [Value.slice.injEq] at e
      exact e.2.1
  subst hn
  have hst := (h0.stored i (.string s)).1
  have hs : (w.setCell ⟨gN, i, none⟩ (.string s)).heap.size = w.heap.size := by simp [World.setCell]
  have far : ∀ g, g ≠ gN → (w.setCell ⟨gN, i, none⟩ (.string s)).heap[g]? = w.heap[g]? := fun g hg => Below.heap_setCell _ _ _ _ hg
  refine ⟨_, _, rfl, ?_, vs, ?_⟩
  · have e : stCells (names.set i s) = (stCells names).set i (.string s) := by simp [stCells, List.map_set]
    rw [e, List.length_set]
    exact hst
  · rw [hs]
    exact ⟨h1.len, own_block h1.own fun g e => far g (fun e' => own_tag h0 h1.own tag_ss (by simp [Value.ownBlock]) (e' ▸ e)), h1.top, fun k u r hu hr => own_block (h1.row k u r hu hr) fun g e => far g (fun e' => own_tag h0 (h1.row k u r hu hr) tag_si (by simp [Value.ownBlock]) (e' ▸ e)), h1.under, h1.off, h1.apart⟩
/-- A value of a row of a table of the call's own is written. -/
theorem TabO.put {w : World} {lo k j gb cb : Nat} {nv rv : Value} {names : List ByteArray} {rows : List (List Int)} {vs : List Value} {r : List Int} (h0 : w.ownsRow lo 9 1 nv names.length (stCells names)) (h1 : RowsV w lo w.heap.size rv vs rows) (hu : vs[k]? = some (.slice (some ⟨gb, 0, none⟩) r.length cb)) (hr : rows[k]? = some r) (x : Int) :
    TabO (w.setCell ⟨gb, j, none⟩ (.int .i64 x)) lo (.agg #[nv, rv]) names (rows.set k (r.set j x)) := by
  have ho := h1.row k _ _ hu hr
  have hst := ho.stored j (.int .i64 x)
  have hs : (w.setCell ⟨gb, j, none⟩ (.int .i64 x)).heap.size = w.heap.size := by simp [World.setCell]
  refine ⟨_, _, rfl, own_block h0 fun g e => Below.heap_setCell _ _ _ _ (fun e' => own_tag h0 ho tag_si e (by rw [show g = gb from e']; simp [Value.ownBlock])), vs, ?_⟩
  rw [hs]
  refine h1.write hu hr hst.2 ?_
  rw [List.length_set]
  have e : inCells (r.set j x) = (inCells r).set j (.int .i64 x) := by simp [inCells, List.map_set]
  rw [e]
  exact hst.1
def grpV12 (R D : Nat) (F0 F1 : Value) (i : Nat) (v : Value) (w : World) : Prop := match i with
  | 0 => v = .agg #[F0, F1]
  | 1 | 9 => RowB (ND R D) 9 (StrB 5) 3 v w
  | 2 | 10 => RowB (ND R D) 3 (NatB 3) 6 v w
  | 3 | 11 => v = .pointer (some ⟨R, 0, none⟩)
  | 4 | 12 => NatB 6 v w
  | 5 | 13 => AddB (ND R D) (NatB 3) v w
  | 6 | 14 => NatB 3 v w
  | 7 | 15 => AddB (ND R D) (StrB 5) v w
  | 8 | 16 | 18 | 19 => StrB 5 v w
  | _ => True
theorem grpV12_stable {R D : Nat} {F0 F1 : Value} : ∀ i v w w', grpV12 R D F0 F1 i v w → Mv (ND R D) (fun _ => True) w w' → grpV12 R D F0 F1 i v w' := by
  intro i v w w' hv hs
  unfold grpV12 at hv ⊢
  split at hv <;> first | exact hv | exact rowB_stable strB_stable v w w' hv hs | exact rowB_stable natB_stable v w w' hv hs | exact addB_stable natB_stable v w w' hv hs | exact addB_stable strB_stable v w w' hv hs
def grpV5 (R D T : Nat) (F0 F1 : Value) (i : Nat) (v : Value) (w : World) : Prop := match i with
  | 0 => v = .agg #[F0, F1]
  | 1 | 7 => v = .pointer (some ⟨T, 0, none⟩)
  | 2 | 8 => v = F0
  | 3 | 9 => v = .pointer (some ⟨R, 0, none⟩)
  | 4 | 10 => NatB 2 v w
  | 5 | 11 => AddB (ND R D) (StrB 9) v w
  | 6 | 12 | 14 | 15 => StrB 9 v w
  | _ => True
theorem grpV5_stable {R D T : Nat} {F0 F1 : Value} : ∀ i v w w', grpV5 R D T F0 F1 i v w → Mv (ND R D) (fun _ => True) w w' → grpV5 R D T F0 F1 i v w' := by
  intro i v w w' hv hs
  unfold grpV5 at hv ⊢
  split at hv <;> first | exact hv | exact addB_stable strB_stable v w w' hv hs
def NG (R gN : Nat) (k : Nat) : Prop := k = R ∨ k = gN
def grpV4 (R gN T : Nat) (F0 : Value) (i : Nat) (v : Value) (w : World) : Prop := match i with
  | 0 => v = .pointer (some ⟨T, 0, none⟩)
  | 1 => v = F0
  | 2 => RowB (NG R gN) 9 (StrB 5) 2 v w
  | 3 => v = .pointer (some ⟨R, 0, none⟩)
  | 4 => NatB 2 v w
  | 5 => AddB (NG R gN) (StrB 5) v w
  | 6 => StrB 5 v w
  | 7 => v = .pointer (some ⟨gN, 1, none⟩)
  | _ => True
theorem grpV4_stable {R gN T : Nat} {F0 : Value} : ∀ i v w w', grpV4 R gN T F0 i v w → Mv (NG R gN) (fun _ => True) w w' → grpV4 R gN T F0 i v w' := by
  intro i v w w' hv hs
  unfold grpV4 at hv ⊢
  split at hv <;> first | exact hv | exact rowB_stable strB_stable v w w' hv hs | exact addB_stable strB_stable v w w' hv hs
structure ClG (R B D T gN n4 c4 : Nat) (F1 : Value) (lo : Nat) (names : List ByteArray) (rows : List (List Int)) (w0 : World) (f : Nat) (listed : Array Bool) (w : World) : Prop where
  rc : listed.getD 8 true = false → Rc w R (B + f)
  rc2 : Rc w R B
  lr : R < w.heap.size
  bel : Below w0.heap.size w0 w
  tab : Blk w T 26 #[.slice (some ⟨gN, 0, none⟩) n4 c4, F1]
  res : ∃ x y, Blk w D 26 #[x, y]
  op : listed.getD 8 true = false → TabO w lo (.agg #[.slice (some ⟨gN, 0, none⟩) n4 c4, F1]) names rows
  done : listed.getD 8 false = true → ∃ s : ByteArray, s.size ≤ 5 ∧ TabO w lo (.agg #[.slice (some ⟨gN, 0, none⟩) n4 c4, F1]) (names.set 1 s) rows
  gl : gN < w.heap.size
section
variable {R B D T gN n4 c4 lo f i : Nat} {F1 : Value} {names : List ByteArray} {rows : List (List Int)} {w0 w w' : World} {listed : Array Bool}
theorem ClG.lt (h : ClG R B D T gN n4 c4 F1 lo names rows w0 f listed w) : ¬ NG R gN w.heap.size := by
  have h1 := h.lr
  have h2 := h.gl
  unfold NG; omega
theorem ClG.step0 (hi : i ≠ 8) (h : ClG R B D T gN n4 c4 F1 lo names rows w0 (f + 1) listed w) : ClG R B D T gN n4 c4 F1 lo names rows w0 f (listed.setIfInBounds i true) w :=
  ⟨fun e => (h.rc (by rwa [set_ne hi] at e)).less (by omega), h.rc2, h.lr, h.bel, h.tab, h.res, fun e => h.op (by rwa [set_ne hi] at e), fun e => h.done (by rwa [set_ne hi] at e), h.gl⟩
theorem ClG.alloc (hi : i ≠ 8) (h : ClG R B D T gN n4 c4 F1 lo names rows w0 (f + 1) listed w) (ob : Obj) : ClG R B D T gN n4 c4 F1 lo names rows w0 f (listed.setIfInBounds i true) (w.alloc ob) := by
  obtain ⟨x, y, hb⟩ := h.res
  have hw : Below w.heap.size w (w.alloc ob) := (Below.refl _ _).alloc (Nat.le_refl _) ob
  exact ⟨fun e => ((h.rc (by rwa [set_ne hi] at e)).less (by omega)).alloc ob, h.rc2.alloc ob, by have := h.lr; simp; omega, h.bel.alloc h.bel.size ob, h.tab.alloc ob, ⟨x, y, hb.alloc ob⟩, fun e => (h.op (by rwa [set_ne hi] at e)).below hw, fun e => by
    rw [set_ne hi] at e
    obtain ⟨s, h1, h2⟩ := h.done e
    exact ⟨s, h1, h2.below hw⟩, by have := h.gl; simp; omega⟩
theorem ClG.pick (hi : i ≠ 8) (hR : w0.heap.size ≤ R) (hne : T ≠ R ∧ D ≠ R ∧ R < lo) (ho : listed.getD 8 true = false) (hr : Rc w' R (B + f)) (ht : Touch R (R + 1) w w') (h : ClG R B D T gN n4 c4 F1 lo names rows w0 (f + 1) listed w) : ClG R B D T gN n4 c4 F1 lo names rows w0 f (listed.setIfInBounds i true) w' := by
  obtain ⟨x, y, hb⟩ := h.res
  exact ⟨fun _ => hr, hr.less (by omega), hr.lt, ht.below h.bel hR, ht.blk h.tab (by omega), ⟨x, y, ht.blk hb (by omega)⟩, fun _ => (h.op ho).chg (N := (· = R)) (Chg.of_pick ht rfl) (fun g hg => by omega), (fun e => by
    rw [set_ne hi] at e
    rw [getD_true e] at ho
    exact absurd ho (by decide)), Nat.lt_of_lt_of_le h.gl ht.size⟩
theorem ClG.at1 (hn : 1 < n4) (ho : listed.getD 8 true = false) (h : ClG R B D T gN n4 c4 F1 lo names rows w0 f listed w) : ∃ old, w.cell? ⟨gN, 1, none⟩ = some old ∧ w.frozen? ⟨gN, 1, none⟩ = false := by
  obtain ⟨v0, v1, e, g0, _⟩ := h.op ho
  simp only [Value.agg.injEq, Array.mk.injEq, List.cons.injEq, and_true] at e
  obtain ⟨rfl, _⟩ := e
  have hl : n4 = names.length := by
    rcases g0.2 with ⟨e, _⟩ | ⟨g, cap, cur, e, _⟩
    · cases e
    · simp only [Value.slice.injEq] at e
      exact e.2.1
  subst hl
  exact ⟨_, (g0.cellAt 1 (by omega)).trans (List.getElem?_eq_getElem (by simp [stCells]; omega)), g0.frozenAt 1⟩
theorem ClG.store {s : ByteArray} (ho : listed.getD 8 true = false) (hK : 8 < listed.size) (hRg : R < gN) (hTg : T ≠ gN) (hDg : D ≠ gN) (hwg : w0.heap.size ≤ gN) (hs : s.size ≤ 5) (h : ClG R B D T gN n4 c4 F1 lo names rows w0 (f + 1) listed w) : ClG R B D T gN n4 c4 F1 lo names rows w0 f (listed.setIfInBounds 8 true) (w.setCell ⟨gN, 1, none⟩ (.string s)) := by
  obtain ⟨x, y, hb⟩ := h.res
  have tt : Touch gN (gN + 1) w (w.setCell ⟨gN, 1, none⟩ (.string s)) := (Touch.refl _ _ _).setCell (p := ⟨gN, 1, none⟩) (Or.inl ⟨Nat.le_refl _, Nat.lt_succ_self _⟩) _
  exact ⟨fun e => by simp [Array.getD, hK] at e, h.rc2.touch tt hRg, Nat.lt_of_lt_of_le h.lr tt.size, h.bel.setCell hwg _, h.tab.far hTg _, ⟨x, y, hb.far hDg _⟩, fun e => by simp [Array.getD, hK] at e, fun _ => ⟨s, hs, (h.op ho).name s⟩, Nat.lt_of_lt_of_le h.gl tt.size⟩
end
/-- What a drawing of a table and two texts leaves. -/
def DrewGrp (w : World) (e : Ending) (w' : World) : Prop := ∃ (nv rv : Value) (l r : ByteArray) (names : List ByteArray) (rows : List (List Int)), e = .returned (.tuple #[.agg #[nv, rv], .string l, .string r]) ∧ TabO w' w.heap.size (.agg #[nv, rv]) names rows ∧ DrawnT names rows ∧ Below w.heap.size w w'
set_option maxHeartbeats 3200000 in
theorem drawGroup_any (A : Option Addr) (n c : Nat) (xs : List UInt8) (w : World) (hx : Reads w w.heap.size 1 A n (byCells xs)) (hl : xs.length = n) (hn : n ≤ 1048576) (hc : n ≤ c) (hc2 : c ≤ maxLen) :
    Calls Tryd.prog 17 #[.slice A n c] w (DrewGrp w) := by
  obtain ⟨ii, hii, hiz, his', iib⟩ := info_parts infoInt
  obtain ⟨is, his, hsz, hss, isb⟩ := info_parts infoStr
  have HO := Lib.hid (fun (w' : World) (hb : Below w.heap.size w w') => open_c A n c xs w' ((hx.below hb).more hb.size) hl hn hc hc2)
  clear hx hl
  go_enter Tryd.func17, Tryd.ntmps17
  go_wp2_with fail
  obtain ⟨w0, hw0⟩ : ∃ w0, w0 = w.alloc (.cells #[.slice none 0 0, .slice none 0 0] 26) := ⟨_, rfl⟩
  have b0 : Below w.heap.size w w0 := by rw [hw0]; exact (Below.refl _ _).alloc (Nat.le_refl _) _
  have k0 : Blk w0 w.heap.size 26 #[.slice none 0 0, .slice none 0 0] := by rw [hw0]; exact Blk.new _ _ _
  rw [← hw0]
  clear hw0
  refine (HO.out w0 b0).mono ?_
  rintro e w1 ⟨rfl, r1, b1, -⟩
  have hk0 := k0.lt
  have k1 := k0.below b1 hk0
  have B1 := b0.trans (b1.mono b0.size)
  go_wp2_with fail
  refine (table_c _ 100 0 9 _ (r1.less (by omega)) (by omega) (by omega)).mono ?_
  rintro e w3 ⟨nv, rv, names, rows, rfl, ho, hd0, r3, t3⟩
  have k3 := t3.blk k1 (by omega)
  have hsz3 : w1.heap.size ≤ w3.heap.size := t3.size
  have hsz1 : w0.heap.size + 1 ≤ w1.heap.size := r1.lt
  have B3 := t3.below B1 (by omega)
  obtain ⟨A4, c4, A5, c5, rfl, rfl⟩ := ho.form
  obtain ⟨n4, hn4⟩ : ∃ n, names.length = n := ⟨_, rfl⟩
  obtain ⟨m5, hm5⟩ : ∃ n, rows.length = n := ⟨_, rfl⟩
  rw [hn4, hm5] at ho ⊢
  have HNM := Lib.hid (And.intro hn4 hm5)
  have hd := Lib.hid hd0
  clear hn4 hm5 hd0
  go_wp2_with fail
  obtain ⟨w5, hw5⟩ : ∃ w5, w5 = w3.alloc (.cells #[.slice A4 n4 c4, .slice A5 m5 c5] 26) := ⟨_, rfl⟩
  have b5 : Below w3.heap.size w3 w5 := by rw [hw5]; exact (Below.refl _ _).alloc (Nat.le_refl _) _
  have k5 : Blk w5 w3.heap.size 26 #[.slice A4 n4 c4, .slice A5 m5 c5] := by rw [hw5]; exact Blk.new _ _ _
  rw [← hw5]
  clear hw5
  have r5 := r3.below b5
  have o5 := ho.below b5
  have k53 := k3.below b5 k3.lt
  have B5 := B3.trans (b5.mono B3.size)
  have hwR : w.heap.size ≤ w0.heap.size := b0.size
  have hDR : w.heap.size ≠ w0.heap.size := by omega
  have hwD : w.heap.size ≤ w.heap.size := Nat.le_refl _
  refine (odd_c _ 90 9 w5 (r5.less (by omega)) (by omega)).mono ?_
  rintro e w6 ⟨q, rfl, r6, t6, -⟩
  have k6 := t6.blk k5 (by omega)
  have k63 := t6.blk k53 (by omega)
  have B6 := t6.below B5 (by omega)
  have HT := Lib.hid (o5.chg (N := (· = w0.heap.size)) (Chg.of_pick t6 rfl) (fun g hg => by omega))
  have x0 := k6.cell 0
  have x1 := k6.cell 1
  simp at x0 x1
  have hs6 := t6.size
  clear k3 b5 r3 r5 ho o5 k5 k53 t6 B5 t3 k1 k0
  cases q
  · go_wp2_with fail
    refine (odd_c _ 80 9 w6 (r6.less (by omega)) (by omega)).mono ?_
    rintro e w7 ⟨p, rfl, r7, t7, -⟩
    have k7 := t7.blk k6 (by omega)
    have k7D : ∃ x y, Blk w7 w.heap.size 26 #[x, y] := ⟨_, _, t7.blk k63 (by omega)⟩
    have B7 := t7.below B6 (by omega)
    have HT7 := Lib.hid (HT.out.chg (N := (· = w0.heap.size)) (Chg.of_pick t7 rfl) (fun g hg => by omega))
    have hs7 := t7.size
    clear k6 k63 t7 B6 HT x0 x1 r6
    have x0 := k7.cell 0
    have x1 := k7.cell 1
    simp at x0 x1
    cases p
    · go_wp2_with fail
      obtain ⟨wq, rfl⟩ : ∃ x, x = w7 := ⟨_, rfl⟩
      have HT := HT7
      have hd := hd
      have CI := Lib.hid (show ClL w0.heap.size 20 w.heap.size w3.heap.size 17 (.slice A4 n4 c4) (.slice A5 m5 c5) w wq 20 (Array.replicate 20 false) wq.drew from ⟨fun _ => r7.drew.less (by omega), r7.lt, B7.drew, ⟨Nat.le_refl _, fun _ _ _ => rfl⟩, by obtain ⟨x, y, h⟩ := k7D; exact ⟨x, y, h.drew⟩, k7.drew, by omega, by omega, fun e => by simp at e⟩)
      refine wp_region_typedGL (by kernel_rfl) (fun i => i == 18 || i == 19) (lift <| grpV12 w0.heap.size w.heap.size (.slice A4 n4 c4) (.slice A5 m5 c5)) (fun _ => Mv (ND w0.heap.size w.heap.size) (fun _ => True)) (ClL w0.heap.size 20 w.heap.size w3.heap.size 17 (.slice A4 n4 c4) (.slice A5 m5 c5) w wq) (by kernel_rfl) (stab grpV12_stable) ?_ ?_ ?_ (by kernel_rfl) ?_
      · exact dst_lt (n := 80) (by kernel_rfl)
      · exact CI.out
      · refine ok_all ⟨?_, ?_, ?_, ?_, ?_, ?_, ?_, ?_, ?_, ?_, ?_, ?_, ?_, ?_, ?_, ?_, ?_, ?_, ?_, ?_, trivial⟩
        · refine okL rfl ?_
          intro f listed a w' hl hc hs hr hh
          have h0 : a.tmps.getD 6 undef = .pointer (some ⟨w3.heap.size, 0, none⟩) := hr 6 (not_dst (by kernel_rfl))
          have h0' : a.tmps[6]?.getD undef = .pointer (some ⟨w3.heap.size, 0, none⟩) := by simpa using h0
          have y0 := hc.tab.cell 0
          have y1 := hc.tab.cell 1
          simp at y0 y1
          exact wp_valL (v := .agg #[(.slice A4 n4 c4), (.slice A5 m5 c5)]) (by simp [execOp, go_sem, Act.eval, h0', y0, y1]) ⟨_, rfl, rfl, Mv.refl _, hc.step0 (by decide)⟩
        · refine okL rfl ?_
          intro f listed a w' hl hc hs hr hh
          refine wp_buildSlice 23 9 3 _ rfl #[.string ⟨#[97]⟩, .string ⟨#[98]⟩, .string ⟨#[120]⟩] is _ Tryd.underlying23 his hsz (by rw [hss]; decide) (by rw [hss]; decide) ?_ ⟨_, rfl, ⟨w'.heap.size, [.string ⟨#[97]⟩, .string ⟨#[98]⟩, .string ⟨#[120]⟩], rfl, hc.lt, Blk.new _ _ _, rfl, ?_⟩, ⟨(Chg.refl _).alloc _, fun _ => trivial⟩, hc.alloc (by decide) _⟩
          · rw [hss]; kernel_rfl
          · intro u hu
            simp only [List.mem_cons, List.not_mem_nil, or_false] at hu
            rcases hu with rfl | rfl | rfl <;> exact ⟨_, rfl, by decide⟩
        · refine okL rfl ?_
          intro f listed a w' hl hc hs hr hh
          refine wp_buildSlice 40 3 6 _ rfl #[.int .i64 0, .int .i64 0, .int .i64 0, .int .i64 1, .int .i64 1, .int .i64 2] ii _ Tryd.underlying40 hii hiz (by rw [his']; decide) (by rw [his']; decide) ?_ ⟨_, rfl, ⟨w'.heap.size, [.int .i64 0, .int .i64 0, .int .i64 0, .int .i64 1, .int .i64 1, .int .i64 2], rfl, hc.lt, Blk.new _ _ _, rfl, ?_⟩, ⟨(Chg.refl _).alloc _, fun _ => trivial⟩, hc.alloc (by decide) _⟩
          · rw [his']; kernel_rfl
          · intro u hu
            simp only [List.mem_cons, List.not_mem_nil, or_false] at hu
            rcases hu with rfl | rfl | rfl | rfl | rfl | rfl
            · exact ⟨0, rfl, by decide⟩
            · exact ⟨0, rfl, by decide⟩
            · exact ⟨0, rfl, by decide⟩
            · exact ⟨1, rfl, by decide⟩
            · exact ⟨1, rfl, by decide⟩
            · exact ⟨2, rfl, by decide⟩
        · refine okL rfl ?_
          intro f listed a w' hl hc hs hr hh
          have h0 : a.tmps.getD 5 undef = .pointer (some ⟨w0.heap.size, 0, none⟩) := hr 5 (not_dst (by kernel_rfl))
          exact op_move rfl ⟨_, rfl, h0, Mv.refl _, hc.step0 (by decide)⟩
        · refine okL rfl ?_
          intro f listed a w' hl hc hs hr hh
          obtain ⟨_, rfl, h1⟩ := hh ⟨3, .data⟩ (by simp) rfl
          have h1 := h1 66 rfl
          have hop := hl.up (k := 17) rfl ⟨12, .chain⟩ (by simp) rfl (hl.up (k := 12) rfl ⟨4, .chain⟩ (by simp) rfl hl.here)
          refine op_call Tryd.func22 (by kernel_rfl) rfl rfl ?_
          rw [show #[Operand.tmp 66, Operand.const (Value.int .i64 6)].map a.eval = #[.pointer (some ⟨w0.heap.size, 0, none⟩), .int .i64 6] by simp [Act.eval]; simpa using h1]
          refine (pick_c w0.heap.size (20 + f) 6 w' ((hc.rc hop).less (by omega)) (by decide)).mono ?_
          rintro e w3 ⟨x, rfl, hx, h2, h3, _⟩
          exact ⟨_, rfl, _, rfl, ⟨x, rfl, by omega⟩, ⟨Chg.of_pick h3 (.inl rfl), fun _ => trivial⟩, hc.pick (by decide) hwR hDR hop h2 h3⟩
        · refine okL rfl ?_
          intro f listed a w' hl hc hs hr hh
          obtain ⟨_, ⟨g, vs, rfl, hg, hb, hln, hq⟩, h1⟩ := hh ⟨2, .data⟩ (by simp) rfl
          have h1 := h1 65 rfl
          obtain ⟨_, ⟨x, rfl, hx⟩, h2⟩ := hh ⟨4, .data⟩ (by simp) rfl
          have h2 := h2 67 rfl
          exact op_index (i := x) rfl Tryd.underlying40 (by kernel_rfl) h1 h2 hx ⟨_, rfl, rowB_at hg hb hln hq hx, Mv.refl _, hc.step0 (by decide)⟩
        · refine okL rfl ?_
          intro f listed a w' hl hc hs hr hh
          obtain ⟨_, ⟨ad, u, rfl, _, hcell, hq⟩, h1⟩ := hh ⟨5, .data⟩ (by simp) rfl
          have h1 := h1 68 rfl
          exact op_load rfl h1 hcell (by simp [go_sem]) ⟨_, rfl, hq, Mv.refl _, hc.step0 (by decide)⟩
        · refine okL rfl ?_
          intro f listed a w' hl hc hs hr hh
          obtain ⟨_, ⟨g, vs, rfl, hg, hb, hln, hq⟩, h1⟩ := hh ⟨1, .data⟩ (by simp) rfl
          have h1 := h1 64 rfl
          obtain ⟨_, ⟨x, rfl, hx⟩, h2⟩ := hh ⟨6, .data⟩ (by simp) rfl
          have h2 := h2 69 rfl
          exact op_index (i := x) rfl Tryd.underlying23 (by kernel_rfl) h1 h2 hx ⟨_, rfl, rowB_at hg hb hln hq hx, Mv.refl _, hc.step0 (by decide)⟩
        · refine okL rfl ?_
          intro f listed a w' hl hc hs hr hh
          obtain ⟨_, ⟨ad, u, rfl, _, hcell, hq⟩, h1⟩ := hh ⟨7, .data⟩ (by simp) rfl
          have h1 := h1 70 rfl
          exact op_load rfl h1 hcell (by simp [go_sem]) ⟨_, rfl, hq, Mv.refl _, hc.step0 (by decide)⟩
        · refine okL rfl ?_
          intro f listed a w' hl hc hs hr hh
          refine wp_buildSlice 23 9 3 _ rfl #[.string ⟨#[97]⟩, .string ⟨#[98]⟩, .string ⟨#[120]⟩] is _ Tryd.underlying23 his hsz (by rw [hss]; decide) (by rw [hss]; decide) ?_ ⟨_, rfl, ⟨w'.heap.size, [.string ⟨#[97]⟩, .string ⟨#[98]⟩, .string ⟨#[120]⟩], rfl, hc.lt, Blk.new _ _ _, rfl, ?_⟩, ⟨(Chg.refl _).alloc _, fun _ => trivial⟩, hc.alloc (by decide) _⟩
          · rw [hss]; kernel_rfl
          · intro u hu
            simp only [List.mem_cons, List.not_mem_nil, or_false] at hu
            rcases hu with rfl | rfl | rfl <;> exact ⟨_, rfl, by decide⟩
        · refine okL rfl ?_
          intro f listed a w' hl hc hs hr hh
          refine wp_buildSlice 40 3 6 _ rfl #[.int .i64 0, .int .i64 0, .int .i64 1, .int .i64 1, .int .i64 1, .int .i64 2] ii _ Tryd.underlying40 hii hiz (by rw [his']; decide) (by rw [his']; decide) ?_ ⟨_, rfl, ⟨w'.heap.size, [.int .i64 0, .int .i64 0, .int .i64 1, .int .i64 1, .int .i64 1, .int .i64 2], rfl, hc.lt, Blk.new _ _ _, rfl, ?_⟩, ⟨(Chg.refl _).alloc _, fun _ => trivial⟩, hc.alloc (by decide) _⟩
          · rw [his']; kernel_rfl
          · intro u hu
            simp only [List.mem_cons, List.not_mem_nil, or_false] at hu
            rcases hu with rfl | rfl | rfl | rfl | rfl | rfl
            · exact ⟨0, rfl, by decide⟩
            · exact ⟨0, rfl, by decide⟩
            · exact ⟨1, rfl, by decide⟩
            · exact ⟨1, rfl, by decide⟩
            · exact ⟨1, rfl, by decide⟩
            · exact ⟨2, rfl, by decide⟩
        · refine okL rfl ?_
          intro f listed a w' hl hc hs hr hh
          have h0 : a.tmps.getD 5 undef = .pointer (some ⟨w0.heap.size, 0, none⟩) := hr 5 (not_dst (by kernel_rfl))
          exact op_move rfl ⟨_, rfl, h0, Mv.refl _, hc.step0 (by decide)⟩
        · refine okL rfl ?_
          intro f listed a w' hl hc hs hr hh
          obtain ⟨_, rfl, h1⟩ := hh ⟨11, .data⟩ (by simp) rfl
          have h1 := h1 74 rfl
          have hop := hl.up (k := 17) rfl ⟨12, .chain⟩ (by simp) rfl hl.here
          refine op_call Tryd.func22 (by kernel_rfl) rfl rfl ?_
          rw [show #[Operand.tmp 74, Operand.const (Value.int .i64 6)].map a.eval = #[.pointer (some ⟨w0.heap.size, 0, none⟩), .int .i64 6] by simp [Act.eval]; simpa using h1]
          refine (pick_c w0.heap.size (20 + f) 6 w' ((hc.rc hop).less (by omega)) (by decide)).mono ?_
          rintro e w3 ⟨x, rfl, hx, h2, h3, _⟩
          exact ⟨_, rfl, _, rfl, ⟨x, rfl, by omega⟩, ⟨Chg.of_pick h3 (.inl rfl), fun _ => trivial⟩, hc.pick (by decide) hwR hDR hop h2 h3⟩
        · refine okL rfl ?_
          intro f listed a w' hl hc hs hr hh
          obtain ⟨_, ⟨g, vs, rfl, hg, hb, hln, hq⟩, h1⟩ := hh ⟨10, .data⟩ (by simp) rfl
          have h1 := h1 73 rfl
          obtain ⟨_, ⟨x, rfl, hx⟩, h2⟩ := hh ⟨12, .data⟩ (by simp) rfl
          have h2 := h2 75 rfl
          exact op_index (i := x) rfl Tryd.underlying40 (by kernel_rfl) h1 h2 hx ⟨_, rfl, rowB_at hg hb hln hq hx, Mv.refl _, hc.step0 (by decide)⟩
        · refine okL rfl ?_
          intro f listed a w' hl hc hs hr hh
          obtain ⟨_, ⟨ad, u, rfl, _, hcell, hq⟩, h1⟩ := hh ⟨13, .data⟩ (by simp) rfl
          have h1 := h1 76 rfl
          exact op_load rfl h1 hcell (by simp [go_sem]) ⟨_, rfl, hq, Mv.refl _, hc.step0 (by decide)⟩
        · refine okL rfl ?_
          intro f listed a w' hl hc hs hr hh
          obtain ⟨_, ⟨g, vs, rfl, hg, hb, hln, hq⟩, h1⟩ := hh ⟨9, .data⟩ (by simp) rfl
          have h1 := h1 72 rfl
          obtain ⟨_, ⟨x, rfl, hx⟩, h2⟩ := hh ⟨14, .data⟩ (by simp) rfl
          have h2 := h2 77 rfl
          exact op_index (i := x) rfl Tryd.underlying23 (by kernel_rfl) h1 h2 hx ⟨_, rfl, rowB_at hg hb hln hq hx, Mv.refl _, hc.step0 (by decide)⟩
        · refine okL rfl ?_
          intro f listed a w' hl hc hs hr hh
          obtain ⟨_, ⟨ad, u, rfl, _, hcell, hq⟩, h1⟩ := hh ⟨15, .data⟩ (by simp) rfl
          have h1 := h1 78 rfl
          exact op_load rfl h1 hcell (by simp [go_sem]) ⟨_, rfl, hq, Mv.refl _, hc.step0 (by decide)⟩
        · refine okL rfl ?_
          intro f listed a w' hl hc hs hr hh
          obtain ⟨_, rfl, h1⟩ := hh ⟨0, .data⟩ (by simp) rfl
          have h1 := h1 63 rfl
          have h0 : a.tmps.getD 2 undef = .pointer (some ⟨w.heap.size, 0, none⟩) := hr 2 (not_dst (by kernel_rfl))
          have h0' : a.tmps[2]?.getD undef = .pointer (some ⟨w.heap.size, 0, none⟩) := by simpa using h0
          have h1' : a.tmps[63]?.getD undef = .agg #[(.slice A4 n4 c4), (.slice A5 m5 c5)] := by simpa using h1
          obtain ⟨x, y, hD⟩ := hc.blk
          have y0 := hD.cell 0
          have y1 := hD.cell 1
          have f0 := hD.frozen 0
          have f1 := hD.frozen 1
          simp at y0 y1
          have hb' := (hD.set_ 0 (.slice A4 n4 c4)).set_ 1 (.slice A5 m5 c5)
          simp at hb'
          unfold Oper.wp
          simp [execOp, h0', h1', go_sem, y0, y1, f0, f1, run_store, storeCells, Oper.upon]
          exact ⟨⟨undef, trivial⟩, ⟨(Chg.setCell _ (.inr rfl) _).trans (Chg.setCell _ (.inr rfl) _), fun _ => trivial⟩, hc.store hb' hwD (by rw [hl.size]; decide)⟩
        · refine okL rfl ?_
          intro f listed a w' hl hc hs hr hh
          obtain ⟨_, ⟨s, rfl, hs⟩, h1⟩ := hh ⟨8, .data⟩ (by simp) rfl
          have h1 := h1 71 rfl
          exact op_assign rfl ⟨_, rfl, ⟨s, h1, hs⟩, Mv.refl _, hc.step0 (by decide)⟩
        · refine okL rfl ?_
          intro f listed a w' hl hc hs hr hh
          obtain ⟨_, ⟨s, rfl, hs⟩, h1⟩ := hh ⟨16, .data⟩ (by simp) rfl
          have h1 := h1 79 rfl
          exact op_assign rfl ⟨_, rfl, ⟨s, h1, hs⟩, Mv.refl _, hc.step0 (by decide)⟩
      · intro a w' hs hd' hr hh hcl
        obtain ⟨listed, hall, hc⟩ := hcl
        have hP := hc.done (hall 17 (by decide))
        obtain ⟨_, ⟨sl, rfl, hsl⟩, h3⟩ := hh 18 (by decide) rfl
        obtain ⟨_, ⟨sr, rfl, hsr⟩, h4⟩ := hh 19 (by decide) rfl
        have h3 := h3 3 rfl
        have h4 := h4 4 rfl
        have e2 : a.tmps.getD 2 undef = .pointer (some ⟨w.heap.size, 0, none⟩) := hr 2 (not_dst (by kernel_rfl))
        have ea : a = ⟨#[a.tmps.getD 0 undef, a.tmps.getD 1 undef, a.tmps.getD 2 undef, a.tmps.getD 3 undef, a.tmps.getD 4 undef, a.tmps.getD 5 undef, a.tmps.getD 6 undef, a.tmps.getD 7 undef, a.tmps.getD 8 undef, a.tmps.getD 9 undef, a.tmps.getD 10 undef, a.tmps.getD 11 undef, a.tmps.getD 12 undef, a.tmps.getD 13 undef, a.tmps.getD 14 undef, a.tmps.getD 15 undef, a.tmps.getD 16 undef, a.tmps.getD 17 undef, a.tmps.getD 18 undef, a.tmps.getD 19 undef, a.tmps.getD 20 undef, a.tmps.getD 21 undef, a.tmps.getD 22 undef, a.tmps.getD 23 undef, a.tmps.getD 24 undef, a.tmps.getD 25 undef, a.tmps.getD 26 undef, a.tmps.getD 27 undef, a.tmps.getD 28 undef, a.tmps.getD 29 undef, a.tmps.getD 30 undef, a.tmps.getD 31 undef, a.tmps.getD 32 undef, a.tmps.getD 33 undef, a.tmps.getD 34 undef, a.tmps.getD 35 undef, a.tmps.getD 36 undef, a.tmps.getD 37 undef, a.tmps.getD 38 undef, a.tmps.getD 39 undef, a.tmps.getD 40 undef, a.tmps.getD 41 undef, a.tmps.getD 42 undef, a.tmps.getD 43 undef, a.tmps.getD 44 undef, a.tmps.getD 45 undef, a.tmps.getD 46 undef, a.tmps.getD 47 undef, a.tmps.getD 48 undef, a.tmps.getD 49 undef, a.tmps.getD 50 undef, a.tmps.getD 51 undef, a.tmps.getD 52 undef, a.tmps.getD 53 undef, a.tmps.getD 54 undef, a.tmps.getD 55 undef, a.tmps.getD 56 undef, a.tmps.getD 57 undef, a.tmps.getD 58 undef, a.tmps.getD 59 undef, a.tmps.getD 60 undef, a.tmps.getD 61 undef, a.tmps.getD 62 undef, a.tmps.getD 63 undef, a.tmps.getD 64 undef, a.tmps.getD 65 undef, a.tmps.getD 66 undef, a.tmps.getD 67 undef, a.tmps.getD 68 undef, a.tmps.getD 69 undef, a.tmps.getD 70 undef, a.tmps.getD 71 undef, a.tmps.getD 72 undef, a.tmps.getD 73 undef, a.tmps.getD 74 undef, a.tmps.getD 75 undef, a.tmps.getD 76 undef, a.tmps.getD 77 undef, a.tmps.getD 78 undef, a.tmps.getD 79 undef], []⟩ := act_lit 80 hs hd'
        rw [e2, h3, h4] at ea
        obtain ⟨V, hV⟩ : ∃ V : Nat → Value, ∀ i, a.tmps.getD i undef = V i := ⟨_, fun _ => rfl⟩
        simp only [hV] at ea
        have r0 := Blk.cell hP 0
        have r1 := Blk.cell hP 1
        simp at r0 r1
        have hTab := HT.out.chg hc.chg (fun g hg => by unfold ND; omega)
        have hB := hc.bel
        clear hs hd' hr hh hV e2 h3 h4 hall hc hP CI
        subst ea
        go_wp2_with fail
        exact bodyPost_ret (v := .tuple #[.agg #[_, _], .string sl, .string sr]) (by simp [results, Tryd.results17, go_sem, r0, r1]) rfl ⟨_, _, sl, sr, _, _, rfl, hTab.low (by omega), hd.out, hB⟩
    · go_wp2_with fail
      have START := Lib.hid (And.intro hd.out (And.intro HT7.out (And.intro (r7.less (B' := 60) (by omega)) (And.intro k7 (And.intro k7D B7)))))
      have HRL := Lib.hid HNM.out.2
      clear x0 x1 k7 k7D B7 HT7 hd r7
      go_loopw [7] (fun i wr => ∃ (k : Nat) (rs : List (List Int)), k ≤ m5 ∧ i = .int .i64 k ∧ Hid (rs.length = m5) ∧ Hid (DrawnT names rs ∧ TabO wr w1.heap.size (.agg #[.slice A4 n4 c4, .slice A5 m5 c5]) names rs ∧ Rc wr w0.heap.size 60 ∧ Blk wr w3.heap.size 26 #[.slice A4 n4 c4, .slice A5 m5 c5] ∧ (∃ x y, Blk wr w.heap.size 26 #[x, y]) ∧ Below w.heap.size w wr)) (fun i _ => m5 - (intOf i).toNat)
      case atStart => exact ⟨0, rows, Nat.zero_le _, rfl, HRL, START⟩
      case round =>
        clear START
        obtain ⟨k, rs, hk, rfl, hrl, HS⟩ := hrel
        obtain ⟨wi, rfl⟩ : ∃ x, x = wr := ⟨_, rfl⟩
        have hm17 : m5 ≤ 17 := by have := HS.out.1.r1; rw [hrl.out] at this; exact this
        have x0 := HS.out.2.2.2.1.cell 0
        have x1 := HS.out.2.2.2.1.cell 1
        simp at x0 x1
        have hk0 : (0 : Int) ≤ (k : Int) := Int.natCast_nonneg _
        by_cases hlt : k < m5
        · have hk1 : (k : Int) < (m5 : Int) := by omega
          obtain ⟨v0, v1, eT, g0, vs, g1⟩ := HS.out.2.1
          simp only [Value.agg.injEq, Array.mk.injEq, List.cons.injEq, and_true] at eT
          obtain ⟨rfl, rfl⟩ := eT
          obtain ⟨row, hrow⟩ : ∃ x, rs[k]? = some x := ⟨_, List.getElem?_eq_getElem (by rw [hrl.out]; exact hlt)⟩
          obtain ⟨u, hu⟩ : ∃ x, vs[k]? = some x := ⟨_, List.getElem?_eq_getElem (by rw [g1.len, hrl.out]; exact hlt)⟩
          have gO := g1.own
          rw [hrl.out] at gO
          have gU := g1.row k u row hu hrow
          have h7 : row.length ≤ 7 := HS.out.1.r2 row (List.mem_of_getElem? hrow)
          obtain ⟨rl, hrl2⟩ : ∃ x, row.length = x := ⟨_, rfl⟩
          rcases own_cases gO with ⟨_, h0, _⟩ | ⟨gR, cap, e⟩
          · omega
          simp only [Value.slice.injEq, true_and] at e
          obtain ⟨rfl, rfl⟩ := e
          have y0 := (gO.cellAt k (by omega)).trans hu
          have HW := Lib.hid (fun (gb cb j : Nat) (e : u = .slice (some ⟨gb, 0, none⟩) row.length cb) (x : Int) => TabO.put (j := j) (by have h := g0; exact h) g1 (by rw [hu, e]) hrow x)
          rcases own_cases gU with ⟨rfl, h0, _⟩ | ⟨gb, cb, rfl⟩
          · clear gO gU g0 g1 HW hu
            go_wp2_with fail
            go_roundw
            case rel => exact ⟨k + 1, rs, by omega, by go_num, hrl, HS⟩
            case measure => simp [intOf]; omega
          · rcases Nat.eq_zero_or_pos rl with hz | hpos
            · rw [hrl2, hz] at y0
              clear gO gU g0 g1 HW hu
              go_wp2_with fail
              go_roundw
              case rel => exact ⟨k + 1, rs, by omega, by go_num, hrl, HS⟩
              case measure => simp [intOf]; omega
            · have z0 := gU.cellAt 0 (by omega)
              have f0 := gU.frozenAt 0
              obtain ⟨v, hv⟩ : ∃ x, row[0]? = some x := ⟨_, List.getElem?_eq_getElem (by omega)⟩
              have hv' : (inCells row)[0]? = some (.int .i64 v) := by simp [inCells, hv]
              rw [hv'] at z0
              have hp1 : (0 : Int) < (rl : Int) := by omega
              have hneT : w3.heap.size ≠ gb := fun e => own_tagB gU HS.out.2.2.2.1 (by decide) (by rw [← e]; rfl)
              have hneD : w.heap.size ≠ gb := fun e => by have := (gU.lt gb rfl).1; omega
              have hneR : w0.heap.size ≠ gb := fun e => by have := (gU.lt gb rfl).1; omega
              have hRgb : w0.heap.size < gb := by have := (gU.lt gb rfl).1; omega
              have hgw : w.heap.size ≤ gb := by have := (gU.lt gb rfl).1; omega
              have hgs := (gU.lt gb rfl).2
              have HP := Lib.hid (HW.out gb cb 0 rfl 100000)
              have hset : (rs.set k (row.set 0 100000)).length = m5 := by rw [List.length_set]; exact hrl.out
              have HSET := Lib.hid hset
              have HDR : Hid (DrawnT names (rs.set k (row.set 0 100000))) := Lib.hid ⟨HS.out.1.n1, HS.out.1.n2, by rw [List.length_set]; exact HS.out.1.r1, fun r hr => by
                rcases List.mem_or_eq_of_mem_set hr with h | h
                · exact HS.out.1.r2 r h
                · rw [h, List.length_set]; exact h7⟩
              rw [hrl2] at y0
              clear gO gU g0 g1 HW hu hset hv hv'
              go_wp2_with fail
              go_roundw
              case rel =>
                refine ⟨k + 1, _, by omega, by go_num, HSET, Lib.hid ⟨HDR.out, HP.out, ?_, HS.out.2.2.2.1.far hneT _, ?_, HS.out.2.2.2.2.2.setCell hgw _⟩⟩
                · obtain ⟨l, h1, h2⟩ := HS.out.2.2.1
                  exact HS.out.2.2.1.touch (lo := gb) (hi := gb + 1) ((Touch.refl _ _ _).setCell (p := ⟨gb, 0, none⟩) (Or.inl ⟨Nat.le_refl _, Nat.lt_succ_self _⟩) _) (by omega)
                · obtain ⟨x, y, h⟩ := HS.out.2.2.2.2.1
                  exact ⟨x, y, h.far hneD _⟩
              case measure => simp [intOf]; omega
        · have hkn : ¬ (k : Int) < (m5 : Int) := by omega
          go_wp2_with fail
          clear x0 x1
          obtain ⟨wq, rfl⟩ : ∃ x, x = wi := ⟨_, rfl⟩
          have HT := Lib.hid HS.out.2.1
          have hd := Lib.hid HS.out.1
          have CI := Lib.hid (show ClL w0.heap.size 20 w.heap.size w3.heap.size 17 (.slice A4 n4 c4) (.slice A5 m5 c5) w wq 20 (Array.replicate 20 false) wq.drew from ⟨fun _ => HS.out.2.2.1.drew.less (by omega), HS.out.2.2.1.lt, HS.out.2.2.2.2.2.drew, ⟨Nat.le_refl _, fun _ _ _ => rfl⟩, by obtain ⟨x, y, h⟩ := HS.out.2.2.2.2.1; exact ⟨x, y, h.drew⟩, HS.out.2.2.2.1.drew, by omega, by omega, fun e => by simp at e⟩)
          refine wp_region_typedGL (by kernel_rfl) (fun i => i == 18 || i == 19) (lift <| grpV12 w0.heap.size w.heap.size (.slice A4 n4 c4) (.slice A5 m5 c5)) (fun _ => Mv (ND w0.heap.size w.heap.size) (fun _ => True)) (ClL w0.heap.size 20 w.heap.size w3.heap.size 17 (.slice A4 n4 c4) (.slice A5 m5 c5) w wq) (by kernel_rfl) (stab grpV12_stable) ?_ ?_ ?_ (by kernel_rfl) ?_
          · exact dst_lt (n := 80) (by kernel_rfl)
          · exact CI.out
          · refine ok_all ⟨?_, ?_, ?_, ?_, ?_, ?_, ?_, ?_, ?_, ?_, ?_, ?_, ?_, ?_, ?_, ?_, ?_, ?_, ?_, ?_, trivial⟩
            · refine okL rfl ?_
              intro f listed a w' hl hc hs hr hh
              have h0 : a.tmps.getD 6 undef = .pointer (some ⟨w3.heap.size, 0, none⟩) := hr 6 (not_dst (by kernel_rfl))
              have h0' : a.tmps[6]?.getD undef = .pointer (some ⟨w3.heap.size, 0, none⟩) := by simpa using h0
              have y0 := hc.tab.cell 0
              have y1 := hc.tab.cell 1
              simp at y0 y1
              exact wp_valL (v := .agg #[(.slice A4 n4 c4), (.slice A5 m5 c5)]) (by simp [execOp, go_sem, Act.eval, h0', y0, y1]) ⟨_, rfl, rfl, Mv.refl _, hc.step0 (by decide)⟩
            · refine okL rfl ?_
              intro f listed a w' hl hc hs hr hh
              refine wp_buildSlice 23 9 3 _ rfl #[.string ⟨#[97]⟩, .string ⟨#[98]⟩, .string ⟨#[120]⟩] is _ Tryd.underlying23 his hsz (by rw [hss]; decide) (by rw [hss]; decide) ?_ ⟨_, rfl, ⟨w'.heap.size, [.string ⟨#[97]⟩, .string ⟨#[98]⟩, .string ⟨#[120]⟩], rfl, hc.lt, Blk.new _ _ _, rfl, ?_⟩, ⟨(Chg.refl _).alloc _, fun _ => trivial⟩, hc.alloc (by decide) _⟩
              · rw [hss]; kernel_rfl
              · intro u hu
                simp only [List.mem_cons, List.not_mem_nil, or_false] at hu
                rcases hu with rfl | rfl | rfl <;> exact ⟨_, rfl, by decide⟩
            · refine okL rfl ?_
              intro f listed a w' hl hc hs hr hh
              refine wp_buildSlice 40 3 6 _ rfl #[.int .i64 0, .int .i64 0, .int .i64 0, .int .i64 1, .int .i64 1, .int .i64 2] ii _ Tryd.underlying40 hii hiz (by rw [his']; decide) (by rw [his']; decide) ?_ ⟨_, rfl, ⟨w'.heap.size, [.int .i64 0, .int .i64 0, .int .i64 0, .int .i64 1, .int .i64 1, .int .i64 2], rfl, hc.lt, Blk.new _ _ _, rfl, ?_⟩, ⟨(Chg.refl _).alloc _, fun _ => trivial⟩, hc.alloc (by decide) _⟩
              · rw [his']; kernel_rfl
              · intro u hu
                simp only [List.mem_cons, List.not_mem_nil, or_false] at hu
                rcases hu with rfl | rfl | rfl | rfl | rfl | rfl
                · exact ⟨0, rfl, by decide⟩
                · exact ⟨0, rfl, by decide⟩
                · exact ⟨0, rfl, by decide⟩
                · exact ⟨1, rfl, by decide⟩
                · exact ⟨1, rfl, by decide⟩
                · exact ⟨2, rfl, by decide⟩
            · refine okL rfl ?_
              intro f listed a w' hl hc hs hr hh
              have h0 : a.tmps.getD 5 undef = .pointer (some ⟨w0.heap.size, 0, none⟩) := hr 5 (not_dst (by kernel_rfl))
              exact op_move rfl ⟨_, rfl, h0, Mv.refl _, hc.step0 (by decide)⟩
            · refine okL rfl ?_
              intro f listed a w' hl hc hs hr hh
              obtain ⟨_, rfl, h1⟩ := hh ⟨3, .data⟩ (by simp) rfl
              have h1 := h1 66 rfl
              have hop := hl.up (k := 17) rfl ⟨12, .chain⟩ (by simp) rfl (hl.up (k := 12) rfl ⟨4, .chain⟩ (by simp) rfl hl.here)
              refine op_call Tryd.func22 (by kernel_rfl) rfl rfl ?_
              rw [show #[Operand.tmp 66, Operand.const (Value.int .i64 6)].map a.eval = #[.pointer (some ⟨w0.heap.size, 0, none⟩), .int .i64 6] by simp [Act.eval]; simpa using h1]
              refine (pick_c w0.heap.size (20 + f) 6 w' ((hc.rc hop).less (by omega)) (by decide)).mono ?_
              rintro e w3 ⟨x, rfl, hx, h2, h3, _⟩
              exact ⟨_, rfl, _, rfl, ⟨x, rfl, by omega⟩, ⟨Chg.of_pick h3 (.inl rfl), fun _ => trivial⟩, hc.pick (by decide) hwR hDR hop h2 h3⟩
            · refine okL rfl ?_
              intro f listed a w' hl hc hs hr hh
              obtain ⟨_, ⟨g, vs, rfl, hg, hb, hln, hq⟩, h1⟩ := hh ⟨2, .data⟩ (by simp) rfl
              have h1 := h1 65 rfl
              obtain ⟨_, ⟨x, rfl, hx⟩, h2⟩ := hh ⟨4, .data⟩ (by simp) rfl
              have h2 := h2 67 rfl
              exact op_index (i := x) rfl Tryd.underlying40 (by kernel_rfl) h1 h2 hx ⟨_, rfl, rowB_at hg hb hln hq hx, Mv.refl _, hc.step0 (by decide)⟩
            · refine okL rfl ?_
              intro f listed a w' hl hc hs hr hh
              obtain ⟨_, ⟨ad, u, rfl, _, hcell, hq⟩, h1⟩ := hh ⟨5, .data⟩ (by simp) rfl
              have h1 := h1 68 rfl
              exact op_load rfl h1 hcell (by simp [go_sem]) ⟨_, rfl, hq, Mv.refl _, hc.step0 (by decide)⟩
            · refine okL rfl ?_
              intro f listed a w' hl hc hs hr hh
              obtain ⟨_, ⟨g, vs, rfl, hg, hb, hln, hq⟩, h1⟩ := hh ⟨1, .data⟩ (by simp) rfl
              have h1 := h1 64 rfl
              obtain ⟨_, ⟨x, rfl, hx⟩, h2⟩ := hh ⟨6, .data⟩ (by simp) rfl
              have h2 := h2 69 rfl
              exact op_index (i := x) rfl Tryd.underlying23 (by kernel_rfl) h1 h2 hx ⟨_, rfl, rowB_at hg hb hln hq hx, Mv.refl _, hc.step0 (by decide)⟩
            · refine okL rfl ?_
              intro f listed a w' hl hc hs hr hh
              obtain ⟨_, ⟨ad, u, rfl, _, hcell, hq⟩, h1⟩ := hh ⟨7, .data⟩ (by simp) rfl
              have h1 := h1 70 rfl
              exact op_load rfl h1 hcell (by simp [go_sem]) ⟨_, rfl, hq, Mv.refl _, hc.step0 (by decide)⟩
            · refine okL rfl ?_
              intro f listed a w' hl hc hs hr hh
              refine wp_buildSlice 23 9 3 _ rfl #[.string ⟨#[97]⟩, .string ⟨#[98]⟩, .string ⟨#[120]⟩] is _ Tryd.underlying23 his hsz (by rw [hss]; decide) (by rw [hss]; decide) ?_ ⟨_, rfl, ⟨w'.heap.size, [.string ⟨#[97]⟩, .string ⟨#[98]⟩, .string ⟨#[120]⟩], rfl, hc.lt, Blk.new _ _ _, rfl, ?_⟩, ⟨(Chg.refl _).alloc _, fun _ => trivial⟩, hc.alloc (by decide) _⟩
              · rw [hss]; kernel_rfl
              · intro u hu
                simp only [List.mem_cons, List.not_mem_nil, or_false] at hu
                rcases hu with rfl | rfl | rfl <;> exact ⟨_, rfl, by decide⟩
            · refine okL rfl ?_
              intro f listed a w' hl hc hs hr hh
              refine wp_buildSlice 40 3 6 _ rfl #[.int .i64 0, .int .i64 0, .int .i64 1, .int .i64 1, .int .i64 1, .int .i64 2] ii _ Tryd.underlying40 hii hiz (by rw [his']; decide) (by rw [his']; decide) ?_ ⟨_, rfl, ⟨w'.heap.size, [.int .i64 0, .int .i64 0, .int .i64 1, .int .i64 1, .int .i64 1, .int .i64 2], rfl, hc.lt, Blk.new _ _ _, rfl, ?_⟩, ⟨(Chg.refl _).alloc _, fun _ => trivial⟩, hc.alloc (by decide) _⟩
              · rw [his']; kernel_rfl
              · intro u hu
                simp only [List.mem_cons, List.not_mem_nil, or_false] at hu
                rcases hu with rfl | rfl | rfl | rfl | rfl | rfl
                · exact ⟨0, rfl, by decide⟩
                · exact ⟨0, rfl, by decide⟩
                · exact ⟨1, rfl, by decide⟩
                · exact ⟨1, rfl, by decide⟩
                · exact ⟨1, rfl, by decide⟩
                · exact ⟨2, rfl, by decide⟩
            · refine okL rfl ?_
              intro f listed a w' hl hc hs hr hh
              have h0 : a.tmps.getD 5 undef = .pointer (some ⟨w0.heap.size, 0, none⟩) := hr 5 (not_dst (by kernel_rfl))
              exact op_move rfl ⟨_, rfl, h0, Mv.refl _, hc.step0 (by decide)⟩
            · refine okL rfl ?_
              intro f listed a w' hl hc hs hr hh
              obtain ⟨_, rfl, h1⟩ := hh ⟨11, .data⟩ (by simp) rfl
              have h1 := h1 74 rfl
              have hop := hl.up (k := 17) rfl ⟨12, .chain⟩ (by simp) rfl hl.here
              refine op_call Tryd.func22 (by kernel_rfl) rfl rfl ?_
              rw [show #[Operand.tmp 74, Operand.const (Value.int .i64 6)].map a.eval = #[.pointer (some ⟨w0.heap.size, 0, none⟩), .int .i64 6] by simp [Act.eval]; simpa using h1]
              refine (pick_c w0.heap.size (20 + f) 6 w' ((hc.rc hop).less (by omega)) (by decide)).mono ?_
              rintro e w3 ⟨x, rfl, hx, h2, h3, _⟩
              exact ⟨_, rfl, _, rfl, ⟨x, rfl, by omega⟩, ⟨Chg.of_pick h3 (.inl rfl), fun _ => trivial⟩, hc.pick (by decide) hwR hDR hop h2 h3⟩
            · refine okL rfl ?_
              intro f listed a w' hl hc hs hr hh
              obtain ⟨_, ⟨g, vs, rfl, hg, hb, hln, hq⟩, h1⟩ := hh ⟨10, .data⟩ (by simp) rfl
              have h1 := h1 73 rfl
              obtain ⟨_, ⟨x, rfl, hx⟩, h2⟩ := hh ⟨12, .data⟩ (by simp) rfl
              have h2 := h2 75 rfl
              exact op_index (i := x) rfl Tryd.underlying40 (by kernel_rfl) h1 h2 hx ⟨_, rfl, rowB_at hg hb hln hq hx, Mv.refl _, hc.step0 (by decide)⟩
            · refine okL rfl ?_
              intro f listed a w' hl hc hs hr hh
              obtain ⟨_, ⟨ad, u, rfl, _, hcell, hq⟩, h1⟩ := hh ⟨13, .data⟩ (by simp) rfl
              have h1 := h1 76 rfl
              exact op_load rfl h1 hcell (by simp [go_sem]) ⟨_, rfl, hq, Mv.refl _, hc.step0 (by decide)⟩
            · refine okL rfl ?_
              intro f listed a w' hl hc hs hr hh
              obtain ⟨_, ⟨g, vs, rfl, hg, hb, hln, hq⟩, h1⟩ := hh ⟨9, .data⟩ (by simp) rfl
              have h1 := h1 72 rfl
              obtain ⟨_, ⟨x, rfl, hx⟩, h2⟩ := hh ⟨14, .data⟩ (by simp) rfl
              have h2 := h2 77 rfl
              exact op_index (i := x) rfl Tryd.underlying23 (by kernel_rfl) h1 h2 hx ⟨_, rfl, rowB_at hg hb hln hq hx, Mv.refl _, hc.step0 (by decide)⟩
            · refine okL rfl ?_
              intro f listed a w' hl hc hs hr hh
              obtain ⟨_, ⟨ad, u, rfl, _, hcell, hq⟩, h1⟩ := hh ⟨15, .data⟩ (by simp) rfl
              have h1 := h1 78 rfl
              exact op_load rfl h1 hcell (by simp [go_sem]) ⟨_, rfl, hq, Mv.refl _, hc.step0 (by decide)⟩
            · refine okL rfl ?_
              intro f listed a w' hl hc hs hr hh
              obtain ⟨_, rfl, h1⟩ := hh ⟨0, .data⟩ (by simp) rfl
              have h1 := h1 63 rfl
              have h0 : a.tmps.getD 2 undef = .pointer (some ⟨w.heap.size, 0, none⟩) := hr 2 (not_dst (by kernel_rfl))
              have h0' : a.tmps[2]?.getD undef = .pointer (some ⟨w.heap.size, 0, none⟩) := by simpa using h0
              have h1' : a.tmps[63]?.getD undef = .agg #[(.slice A4 n4 c4), (.slice A5 m5 c5)] := by simpa using h1
              obtain ⟨x, y, hD⟩ := hc.blk
              have y0 := hD.cell 0
              have y1 := hD.cell 1
              have f0 := hD.frozen 0
              have f1 := hD.frozen 1
              simp at y0 y1
              have hb' := (hD.set_ 0 (.slice A4 n4 c4)).set_ 1 (.slice A5 m5 c5)
              simp at hb'
              unfold Oper.wp
              simp [execOp, h0', h1', go_sem, y0, y1, f0, f1, run_store, storeCells, Oper.upon]
              exact ⟨⟨undef, trivial⟩, ⟨(Chg.setCell _ (.inr rfl) _).trans (Chg.setCell _ (.inr rfl) _), fun _ => trivial⟩, hc.store hb' hwD (by rw [hl.size]; decide)⟩
            · refine okL rfl ?_
              intro f listed a w' hl hc hs hr hh
              obtain ⟨_, ⟨s, rfl, hs⟩, h1⟩ := hh ⟨8, .data⟩ (by simp) rfl
              have h1 := h1 71 rfl
              exact op_assign rfl ⟨_, rfl, ⟨s, h1, hs⟩, Mv.refl _, hc.step0 (by decide)⟩
            · refine okL rfl ?_
              intro f listed a w' hl hc hs hr hh
              obtain ⟨_, ⟨s, rfl, hs⟩, h1⟩ := hh ⟨16, .data⟩ (by simp) rfl
              have h1 := h1 79 rfl
              exact op_assign rfl ⟨_, rfl, ⟨s, h1, hs⟩, Mv.refl _, hc.step0 (by decide)⟩
          · intro a w' hs hd' hr hh hcl
            obtain ⟨listed, hall, hc⟩ := hcl
            have hP := hc.done (hall 17 (by decide))
            obtain ⟨_, ⟨sl, rfl, hsl⟩, h3⟩ := hh 18 (by decide) rfl
            obtain ⟨_, ⟨sr, rfl, hsr⟩, h4⟩ := hh 19 (by decide) rfl
            have h3 := h3 3 rfl
            have h4 := h4 4 rfl
            have e2 : a.tmps.getD 2 undef = .pointer (some ⟨w.heap.size, 0, none⟩) := hr 2 (not_dst (by kernel_rfl))
            have ea : a = ⟨#[a.tmps.getD 0 undef, a.tmps.getD 1 undef, a.tmps.getD 2 undef, a.tmps.getD 3 undef, a.tmps.getD 4 undef, a.tmps.getD 5 undef, a.tmps.getD 6 undef, a.tmps.getD 7 undef, a.tmps.getD 8 undef, a.tmps.getD 9 undef, a.tmps.getD 10 undef, a.tmps.getD 11 undef, a.tmps.getD 12 undef, a.tmps.getD 13 undef, a.tmps.getD 14 undef, a.tmps.getD 15 undef, a.tmps.getD 16 undef, a.tmps.getD 17 undef, a.tmps.getD 18 undef, a.tmps.getD 19 undef, a.tmps.getD 20 undef, a.tmps.getD 21 undef, a.tmps.getD 22 undef, a.tmps.getD 23 undef, a.tmps.getD 24 undef, a.tmps.getD 25 undef, a.tmps.getD 26 undef, a.tmps.getD 27 undef, a.tmps.getD 28 undef, a.tmps.getD 29 undef, a.tmps.getD 30 undef, a.tmps.getD 31 undef, a.tmps.getD 32 undef, a.tmps.getD 33 undef, a.tmps.getD 34 undef, a.tmps.getD 35 undef, a.tmps.getD 36 undef, a.tmps.getD 37 undef, a.tmps.getD 38 undef, a.tmps.getD 39 undef, a.tmps.getD 40 undef, a.tmps.getD 41 undef, a.tmps.getD 42 undef, a.tmps.getD 43 undef, a.tmps.getD 44 undef, a.tmps.getD 45 undef, a.tmps.getD 46 undef, a.tmps.getD 47 undef, a.tmps.getD 48 undef, a.tmps.getD 49 undef, a.tmps.getD 50 undef, a.tmps.getD 51 undef, a.tmps.getD 52 undef, a.tmps.getD 53 undef, a.tmps.getD 54 undef, a.tmps.getD 55 undef, a.tmps.getD 56 undef, a.tmps.getD 57 undef, a.tmps.getD 58 undef, a.tmps.getD 59 undef, a.tmps.getD 60 undef, a.tmps.getD 61 undef, a.tmps.getD 62 undef, a.tmps.getD 63 undef, a.tmps.getD 64 undef, a.tmps.getD 65 undef, a.tmps.getD 66 undef, a.tmps.getD 67 undef, a.tmps.getD 68 undef, a.tmps.getD 69 undef, a.tmps.getD 70 undef, a.tmps.getD 71 undef, a.tmps.getD 72 undef, a.tmps.getD 73 undef, a.tmps.getD 74 undef, a.tmps.getD 75 undef, a.tmps.getD 76 undef, a.tmps.getD 77 undef, a.tmps.getD 78 undef, a.tmps.getD 79 undef], []⟩ := act_lit 80 hs hd'
            rw [e2, h3, h4] at ea
            obtain ⟨V, hV⟩ : ∃ V : Nat → Value, ∀ i, a.tmps.getD i undef = V i := ⟨_, fun _ => rfl⟩
            simp only [hV] at ea
            have r0 := Blk.cell hP 0
            have r1 := Blk.cell hP 1
            simp at r0 r1
            have hTab := HT.out.chg hc.chg (fun g hg => by unfold ND; omega)
            have hB := hc.bel
            clear hs hd' hr hh hV e2 h3 h4 hall hc hP CI
            subst ea
            go_wp2_with fail
            exact bodyPost_ret (v := .tuple #[.agg #[_, _], .string sl, .string sr]) (by simp [results, Tryd.results17, go_sem, r0, r1]) rfl ⟨_, _, sl, sr, _, _, rfl, hTab.low (by omega), hd.out, hB⟩
  · by_cases hn1 : 1 < n4
    · have hn1' : (1 : Int) < (n4 : Int) := by omega
      obtain ⟨gN, rfl⟩ : ∃ gN, A4 = some ⟨gN, 0, none⟩ := by
        obtain ⟨v0, v1, eT, g0, _⟩ := HT.out
        simp only [Value.agg.injEq, Array.mk.injEq, List.cons.injEq, and_true] at eT
        obtain ⟨rfl, _⟩ := eT
        rcases own_cases g0 with ⟨e, _⟩ | ⟨g, cap, e⟩
        · simp only [Value.slice.injEq] at e; omega
        · simp only [Value.slice.injEq] at e; exact ⟨g, e.1⟩
      have hgl : w1.heap.size ≤ gN ∧ gN < w6.heap.size ∧ w3.heap.size ≠ gN := by
        obtain ⟨v0, v1, eT, g0, _⟩ := HT.out
        simp only [Value.agg.injEq, Array.mk.injEq, List.cons.injEq, and_true] at eT
        obtain ⟨rfl, _⟩ := eT
        exact ⟨(g0.lt gN rfl).1, (g0.lt gN rfl).2, fun e => own_tagB g0 k6 (by decide) (by rw [e]; rfl)⟩
      have hRgN : w0.heap.size < gN := by omega
      have hTgN : w3.heap.size ≠ gN := hgl.2.2
      have hDgN : w.heap.size ≠ gN := by omega
      have hwgN : w.heap.size ≤ gN := by omega
      go_wp2_with fail
      have CI := Lib.hid (show ClG w0.heap.size 40 w.heap.size w3.heap.size gN n4 c4 (.slice A5 m5 c5) w1.heap.size names rows w 9 (Array.replicate 9 false) w6.drew from ⟨fun _ => r6.drew.less (by omega), r6.drew.less (by omega), r6.lt, B6.drew, k6.drew, ⟨_, _, k63.drew⟩, fun _ => HT.out.below (Below.refl _ _).drew, fun e => by simp at e, hgl.2.1⟩)
      refine wp_region_typedGL (by kernel_rfl) (fun i => false) (lift <| grpV4 w0.heap.size gN w3.heap.size (.slice (some ⟨gN, 0, none⟩) n4 c4)) (fun _ => Mv (NG w0.heap.size gN) (fun _ => True)) (ClG w0.heap.size 40 w.heap.size w3.heap.size gN n4 c4 (.slice A5 m5 c5) w1.heap.size names rows w) (by kernel_rfl) (stab grpV4_stable) ?_ ?_ ?_ (by kernel_rfl) ?_
      · exact dst_lt (n := 80) (by kernel_rfl)
      · exact CI.out
      · refine ok_all ⟨?_, ?_, ?_, ?_, ?_, ?_, ?_, ?_, ?_, trivial⟩
        · refine okL rfl ?_
          intro f listed a w' hl hc hs hr hh
          have h0 : a.tmps.getD 6 undef = .pointer (some ⟨w3.heap.size, 0, none⟩) := hr 6 (not_dst (by kernel_rfl))
          have h0' : a.tmps[6]?.getD undef = .pointer (some ⟨w3.heap.size, 0, none⟩) := by simpa using h0
          exact wp_valL (v := .pointer (some ⟨w3.heap.size, 0, none⟩)) (by simp [execOp, Act.eval, h0', field30 w3.heap.size w' 0 (by decide)]) ⟨_, rfl, rfl, Mv.refl _, hc.step0 (by decide)⟩
        · refine okL rfl ?_
          intro f listed a w' hl hc hs hr hh
          obtain ⟨_, rfl, h1⟩ := hh ⟨0, .data⟩ (by simp) rfl
          have h1 := h1 20 rfl
          have y1 := hc.tab.cell 0
          simp at y1
          exact op_load rfl h1 y1 (by simp [go_sem]) ⟨_, rfl, rfl, Mv.refl _, hc.step0 (by decide)⟩
        · refine okL rfl ?_
          intro f listed a w' hl hc hs hr hh
          refine wp_buildSlice 23 9 2 _ rfl #[.string ⟨#[99, 111, 117, 110, 116]⟩, .string ⟨#[116, 111, 116, 97, 108]⟩] is _ Tryd.underlying23 his hsz (by rw [hss]; decide) (by rw [hss]; decide) ?_ ⟨_, rfl, ⟨w'.heap.size, [.string ⟨#[99, 111, 117, 110, 116]⟩, .string ⟨#[116, 111, 116, 97, 108]⟩], rfl, hc.lt, Blk.new _ _ _, rfl, ?_⟩, ⟨(Chg.refl _).alloc _, fun _ => trivial⟩, hc.alloc (by decide) _⟩
          · rw [hss]; kernel_rfl
          · intro u hu
            simp only [List.mem_cons, List.not_mem_nil, or_false] at hu
            rcases hu with rfl | rfl <;> exact ⟨_, rfl, by decide⟩
        · refine okL rfl ?_
          intro f listed a w' hl hc hs hr hh
          have h0 : a.tmps.getD 5 undef = .pointer (some ⟨w0.heap.size, 0, none⟩) := hr 5 (not_dst (by kernel_rfl))
          exact op_move rfl ⟨_, rfl, h0, Mv.refl _, hc.step0 (by decide)⟩
        · refine okL rfl ?_
          intro f listed a w' hl hc hs hr hh
          obtain ⟨_, rfl, h1⟩ := hh ⟨3, .data⟩ (by simp) rfl
          have h1 := h1 23 rfl
          have hop := hl.up (k := 8) rfl ⟨4, .chain⟩ (by simp) rfl hl.here
          refine op_call Tryd.func22 (by kernel_rfl) rfl rfl ?_
          rw [show #[Operand.tmp 23, Operand.const (Value.int .i64 2)].map a.eval = #[.pointer (some ⟨w0.heap.size, 0, none⟩), .int .i64 2] by simp [Act.eval]; simpa using h1]
          refine (pick_c w0.heap.size (40 + f) 2 w' ((hc.rc hop).less (by omega)) (by decide)).mono ?_
          rintro e w3 ⟨x, rfl, hx, h2, h3, _⟩
          exact ⟨_, rfl, _, rfl, ⟨x, rfl, by omega⟩, ⟨Chg.of_pick h3 (.inl rfl), fun _ => trivial⟩, hc.pick (by decide) hwR ⟨by omega, hDR, by omega⟩ hop h2 h3⟩
        · refine okL rfl ?_
          intro f listed a w' hl hc hs hr hh
          obtain ⟨_, ⟨g, vs, rfl, hg, hb, hln, hq⟩, h1⟩ := hh ⟨2, .data⟩ (by simp) rfl
          have h1 := h1 22 rfl
          obtain ⟨_, ⟨x, rfl, hx⟩, h2⟩ := hh ⟨4, .data⟩ (by simp) rfl
          have h2 := h2 24 rfl
          exact op_index (i := x) rfl Tryd.underlying23 (by kernel_rfl) h1 h2 hx ⟨_, rfl, rowB_at hg hb hln hq hx, Mv.refl _, hc.step0 (by decide)⟩
        · refine okL rfl ?_
          intro f listed a w' hl hc hs hr hh
          obtain ⟨_, ⟨ad, u, rfl, _, hcell, hq⟩, h1⟩ := hh ⟨5, .data⟩ (by simp) rfl
          have h1 := h1 25 rfl
          exact op_load rfl h1 hcell (by simp [go_sem]) ⟨_, rfl, hq, Mv.refl _, hc.step0 (by decide)⟩
        · refine okL rfl ?_
          intro f listed a w' hl hc hs hr hh
          obtain ⟨_, rfl, h1⟩ := hh ⟨1, .data⟩ (by simp) rfl
          have h1 := h1 21 rfl
          exact op_index (i := 1) rfl Tryd.underlying23 (by kernel_rfl) h1 rfl hn1 ⟨_, rfl, rfl, Mv.refl _, hc.step0 (by decide)⟩
        · refine okL rfl ?_
          intro f listed a w' hl hc hs hr hh
          obtain ⟨_, rfl, h1⟩ := hh ⟨7, .data⟩ (by simp) rfl
          have h1 := h1 27 rfl
          obtain ⟨_, ⟨s, rfl, hs⟩, h2⟩ := hh ⟨6, .data⟩ (by simp) rfl
          have h2 := h2 26 rfl
          have h1' : a.tmps[27]?.getD undef = .pointer (some ⟨gN, 1, none⟩) := by simpa using h1
          have h2' : a.tmps[26]?.getD undef = .string s := by simpa using h2
          obtain ⟨old, y0, f0⟩ := hc.at1 hn1 hl.here
          unfold Oper.wp
          simp [execOp, h1', h2', go_sem, y0, f0, run_store, storeCells, Oper.upon]
          exact ⟨⟨undef, trivial⟩, ⟨Chg.setCell _ (.inr rfl) _, fun _ => trivial⟩, hc.store hl.here (by rw [hl.size]; decide) hRgN hTgN hDgN hwgN hs⟩
      · intro a w' hs hd' hr hh hcl
        obtain ⟨listed, hall, hc⟩ := hcl
        obtain ⟨s, hs5, hT⟩ := hc.done (hall 8 (by decide))
        have e2 : a.tmps.getD 2 undef = .pointer (some ⟨w.heap.size, 0, none⟩) := hr 2 (not_dst (by kernel_rfl))
        have e5 : a.tmps.getD 5 undef = .pointer (some ⟨w0.heap.size, 0, none⟩) := hr 5 (not_dst (by kernel_rfl))
        have e6 : a.tmps.getD 6 undef = .pointer (some ⟨w3.heap.size, 0, none⟩) := hr 6 (not_dst (by kernel_rfl))
        have ea : a = ⟨#[a.tmps.getD 0 undef, a.tmps.getD 1 undef, a.tmps.getD 2 undef, a.tmps.getD 3 undef, a.tmps.getD 4 undef, a.tmps.getD 5 undef, a.tmps.getD 6 undef, a.tmps.getD 7 undef, a.tmps.getD 8 undef, a.tmps.getD 9 undef, a.tmps.getD 10 undef, a.tmps.getD 11 undef, a.tmps.getD 12 undef, a.tmps.getD 13 undef, a.tmps.getD 14 undef, a.tmps.getD 15 undef, a.tmps.getD 16 undef, a.tmps.getD 17 undef, a.tmps.getD 18 undef, a.tmps.getD 19 undef, a.tmps.getD 20 undef, a.tmps.getD 21 undef, a.tmps.getD 22 undef, a.tmps.getD 23 undef, a.tmps.getD 24 undef, a.tmps.getD 25 undef, a.tmps.getD 26 undef, a.tmps.getD 27 undef, a.tmps.getD 28 undef, a.tmps.getD 29 undef, a.tmps.getD 30 undef, a.tmps.getD 31 undef, a.tmps.getD 32 undef, a.tmps.getD 33 undef, a.tmps.getD 34 undef, a.tmps.getD 35 undef, a.tmps.getD 36 undef, a.tmps.getD 37 undef, a.tmps.getD 38 undef, a.tmps.getD 39 undef, a.tmps.getD 40 undef, a.tmps.getD 41 undef, a.tmps.getD 42 undef, a.tmps.getD 43 undef, a.tmps.getD 44 undef, a.tmps.getD 45 undef, a.tmps.getD 46 undef, a.tmps.getD 47 undef, a.tmps.getD 48 undef, a.tmps.getD 49 undef, a.tmps.getD 50 undef, a.tmps.getD 51 undef, a.tmps.getD 52 undef, a.tmps.getD 53 undef, a.tmps.getD 54 undef, a.tmps.getD 55 undef, a.tmps.getD 56 undef, a.tmps.getD 57 undef, a.tmps.getD 58 undef, a.tmps.getD 59 undef, a.tmps.getD 60 undef, a.tmps.getD 61 undef, a.tmps.getD 62 undef, a.tmps.getD 63 undef, a.tmps.getD 64 undef, a.tmps.getD 65 undef, a.tmps.getD 66 undef, a.tmps.getD 67 undef, a.tmps.getD 68 undef, a.tmps.getD 69 undef, a.tmps.getD 70 undef, a.tmps.getD 71 undef, a.tmps.getD 72 undef, a.tmps.getD 73 undef, a.tmps.getD 74 undef, a.tmps.getD 75 undef, a.tmps.getD 76 undef, a.tmps.getD 77 undef, a.tmps.getD 78 undef, a.tmps.getD 79 undef], []⟩ := act_lit 80 hs hd'
        rw [e2, e5, e6] at ea
        obtain ⟨V, hV⟩ : ∃ V : Nat → Value, ∀ i, a.tmps.getD i undef = V i := ⟨_, fun _ => rfl⟩
        simp only [hV] at ea
        have rq := hc.rc2
        have kq := hc.tab
        have kqD := hc.res
        have Bq := hc.bel
        have hlr := hc.lr
        have hgl' := hc.gl
        obtain ⟨wq, rfl⟩ : ∃ x, x = w' := ⟨_, rfl⟩
        clear hs hd' hr hh hV e2 e5 e6 hall hc CI HT k6 k63 r6 B6 x0 x1
        have HT := Lib.hid hT
        have hd := Lib.hid (show DrawnT (names.set 1 s) rows from ⟨by rw [List.length_set]; exact hd.out.n1, fun x hx => by
          rcases List.mem_or_eq_of_mem_set hx with h | h
          · exact hd.out.n2 x h
          · rw [h]; omega, hd.out.r1, hd.out.r2⟩)
        subst ea
        have x0 := kq.cell 0
        have x1 := kq.cell 1
        simp at x0 x1
        have HNX := Lib.hid (fun (w' : World) (hcg : Chg (ND w0.heap.size w.heap.size) wq w') (x : Nat) (hx : x < 2) => show AddB (ND w0.heap.size w.heap.size) (StrB 9) (.pointer (some ⟨gN, x, none⟩)) w' from by
          obtain ⟨v0, v1, eT, g0, _⟩ := hT
          simp only [Value.agg.injEq, Array.mk.injEq, List.cons.injEq, and_true] at eT
          obtain ⟨rfl, _⟩ := eT
          have hnl : (names.set 1 s).length = n4 := by rw [List.length_set]; exact HNM.out.1
          rw [hnl] at g0
          have hnd : ¬ ND w0.heap.size w.heap.size gN := by unfold ND; omega
          have g1 := hcg.own g0 (fun g e => by obtain rfl := Option.some.inj e; exact hnd)
          have hxl : x < (names.set 1 s).length := by rw [hnl]; omega
          have hc' := g1.cellAt x (by omega)
          have he : (stCells (names.set 1 s))[x]? = some (.string (names.set 1 s)[x]) := by unfold stCells; rw [List.getElem?_map, List.getElem?_eq_getElem hxl]; rfl
          exact ⟨⟨gN, x, none⟩, _, rfl, hnd, hc'.trans he, _, rfl, hd.out.n2 _ (List.getElem_mem hxl)⟩)
        clear hT
        go_wp2_with fail
        have CI := Lib.hid (show ClL w0.heap.size 20 w.heap.size w3.heap.size 13 (.slice (some ⟨gN, 0, none⟩) n4 c4) (.slice A5 m5 c5) w wq 16 (Array.replicate 16 false) wq.drew from ⟨fun _ => rq.drew.less (by omega), rq.lt, Bq.drew, ⟨Nat.le_refl _, fun _ _ _ => rfl⟩, by obtain ⟨x, y, h⟩ := kqD; exact ⟨x, y, h.drew⟩, kq.drew, by omega, by omega, fun e => by simp at e⟩)
        refine wp_region_typedGL (by kernel_rfl) (fun i => i == 14 || i == 15) (lift <| grpV5 w0.heap.size w.heap.size w3.heap.size (.slice (some ⟨gN, 0, none⟩) n4 c4) (.slice A5 m5 c5)) (fun _ => Mv (ND w0.heap.size w.heap.size) (fun _ => True)) (ClL w0.heap.size 20 w.heap.size w3.heap.size 13 (.slice (some ⟨gN, 0, none⟩) n4 c4) (.slice A5 m5 c5) w wq) (by kernel_rfl) (stab grpV5_stable) ?_ ?_ ?_ (by kernel_rfl) ?_
        · exact dst_lt (n := 80) (by kernel_rfl)
        · exact CI.out
        · refine ok_all ⟨?_, ?_, ?_, ?_, ?_, ?_, ?_, ?_, ?_, ?_, ?_, ?_, ?_, ?_, ?_, ?_, trivial⟩
          · refine okL rfl ?_
            intro f listed a w' hl hc hs hr hh
            have h0 : a.tmps.getD 6 undef = .pointer (some ⟨w3.heap.size, 0, none⟩) := hr 6 (not_dst (by kernel_rfl))
            have h0' : a.tmps[6]?.getD undef = .pointer (some ⟨w3.heap.size, 0, none⟩) := by simpa using h0
            have y0 := hc.tab.cell 0
            have y1 := hc.tab.cell 1
            simp at y0 y1
            exact wp_valL (v := .agg #[(.slice (some ⟨gN, 0, none⟩) n4 c4), (.slice A5 m5 c5)]) (by simp [execOp, go_sem, Act.eval, h0', y0, y1]) ⟨_, rfl, rfl, Mv.refl _, hc.step0 (by decide)⟩
          · refine okL rfl ?_
            intro f listed a w' hl hc hs hr hh
            have h0 : a.tmps.getD 6 undef = .pointer (some ⟨w3.heap.size, 0, none⟩) := hr 6 (not_dst (by kernel_rfl))
            have h0' : a.tmps[6]?.getD undef = .pointer (some ⟨w3.heap.size, 0, none⟩) := by simpa using h0
            exact wp_valL (v := .pointer (some ⟨w3.heap.size, 0, none⟩)) (by simp [execOp, Act.eval, h0', field30 w3.heap.size w' 0 (by decide)]) ⟨_, rfl, rfl, Mv.refl _, hc.step0 (by decide)⟩
          · refine okL rfl ?_
            intro f listed a w' hl hc hs hr hh
            obtain ⟨_, rfl, h1⟩ := hh ⟨1, .data⟩ (by simp) rfl
            have h1 := h1 29 rfl
            have y1 := hc.tab.cell 0
            simp at y1
            exact op_load rfl h1 y1 (by simp [go_sem]) ⟨_, rfl, rfl, Mv.refl _, hc.step0 (by decide)⟩
          · refine okL rfl ?_
            intro f listed a w' hl hc hs hr hh
            have h0 : a.tmps.getD 5 undef = .pointer (some ⟨w0.heap.size, 0, none⟩) := hr 5 (not_dst (by kernel_rfl))
            exact op_move rfl ⟨_, rfl, h0, Mv.refl _, hc.step0 (by decide)⟩
          · refine okL rfl ?_
            intro f listed a w' hl hc hs hr hh
            obtain ⟨_, rfl, h1⟩ := hh ⟨3, .data⟩ (by simp) rfl
            have h1 := h1 31 rfl
            have hop := hl.up (k := 13) rfl ⟨10, .chain⟩ (by simp) rfl (hl.up (k := 10) rfl ⟨4, .chain⟩ (by simp) rfl hl.here)
            refine op_call Tryd.func22 (by kernel_rfl) rfl rfl ?_
            rw [show #[Operand.tmp 31, Operand.const (Value.int .i64 2)].map a.eval = #[.pointer (some ⟨w0.heap.size, 0, none⟩), .int .i64 2] by simp [Act.eval]; simpa using h1]
            refine (pick_c w0.heap.size (20 + f) 2 w' ((hc.rc hop).less (by omega)) (by decide)).mono ?_
            rintro e w3 ⟨x, rfl, hx, h2, h3, _⟩
            exact ⟨_, rfl, _, rfl, ⟨x, rfl, by omega⟩, ⟨Chg.of_pick h3 (.inl rfl), fun _ => trivial⟩, hc.pick (by decide) hwR hDR hop h2 h3⟩
          · refine okL rfl ?_
            intro f listed a w' hl hc hs hr hh
            obtain ⟨_, rfl, h1⟩ := hh ⟨2, .data⟩ (by simp) rfl
            have h1 := h1 30 rfl
            obtain ⟨_, ⟨x, rfl, hx⟩, h2⟩ := hh ⟨4, .data⟩ (by simp) rfl
            have h2 := h2 32 rfl
            exact op_index (i := x) rfl Tryd.underlying23 (by kernel_rfl) h1 h2 (by omega) ⟨_, rfl, HNX.out w' hc.chg x hx, Mv.refl _, hc.step0 (by decide)⟩
          · refine okL rfl ?_
            intro f listed a w' hl hc hs hr hh
            obtain ⟨_, ⟨ad, u, rfl, _, hcell, hq⟩, h1⟩ := hh ⟨5, .data⟩ (by simp) rfl
            have h1 := h1 33 rfl
            exact op_load rfl h1 hcell (by simp [go_sem]) ⟨_, rfl, hq, Mv.refl _, hc.step0 (by decide)⟩
          · refine okL rfl ?_
            intro f listed a w' hl hc hs hr hh
            have h0 : a.tmps.getD 6 undef = .pointer (some ⟨w3.heap.size, 0, none⟩) := hr 6 (not_dst (by kernel_rfl))
            have h0' : a.tmps[6]?.getD undef = .pointer (some ⟨w3.heap.size, 0, none⟩) := by simpa using h0
            exact wp_valL (v := .pointer (some ⟨w3.heap.size, 0, none⟩)) (by simp [execOp, Act.eval, h0', field30 w3.heap.size w' 0 (by decide)]) ⟨_, rfl, rfl, Mv.refl _, hc.step0 (by decide)⟩
          · refine okL rfl ?_
            intro f listed a w' hl hc hs hr hh
            obtain ⟨_, rfl, h1⟩ := hh ⟨7, .data⟩ (by simp) rfl
            have h1 := h1 35 rfl
            have y1 := hc.tab.cell 0
            simp at y1
            exact op_load rfl h1 y1 (by simp [go_sem]) ⟨_, rfl, rfl, Mv.refl _, hc.step0 (by decide)⟩
          · refine okL rfl ?_
            intro f listed a w' hl hc hs hr hh
            have h0 : a.tmps.getD 5 undef = .pointer (some ⟨w0.heap.size, 0, none⟩) := hr 5 (not_dst (by kernel_rfl))
            exact op_move rfl ⟨_, rfl, h0, Mv.refl _, hc.step0 (by decide)⟩
          · refine okL rfl ?_
            intro f listed a w' hl hc hs hr hh
            obtain ⟨_, rfl, h1⟩ := hh ⟨9, .data⟩ (by simp) rfl
            have h1 := h1 37 rfl
            have hop := hl.up (k := 13) rfl ⟨10, .chain⟩ (by simp) rfl hl.here
            refine op_call Tryd.func22 (by kernel_rfl) rfl rfl ?_
            rw [show #[Operand.tmp 37, Operand.const (Value.int .i64 2)].map a.eval = #[.pointer (some ⟨w0.heap.size, 0, none⟩), .int .i64 2] by simp [Act.eval]; simpa using h1]
            refine (pick_c w0.heap.size (20 + f) 2 w' ((hc.rc hop).less (by omega)) (by decide)).mono ?_
            rintro e w3 ⟨x, rfl, hx, h2, h3, _⟩
            exact ⟨_, rfl, _, rfl, ⟨x, rfl, by omega⟩, ⟨Chg.of_pick h3 (.inl rfl), fun _ => trivial⟩, hc.pick (by decide) hwR hDR hop h2 h3⟩
          · refine okL rfl ?_
            intro f listed a w' hl hc hs hr hh
            obtain ⟨_, rfl, h1⟩ := hh ⟨8, .data⟩ (by simp) rfl
            have h1 := h1 36 rfl
            obtain ⟨_, ⟨x, rfl, hx⟩, h2⟩ := hh ⟨10, .data⟩ (by simp) rfl
            have h2 := h2 38 rfl
            exact op_index (i := x) rfl Tryd.underlying23 (by kernel_rfl) h1 h2 (by omega) ⟨_, rfl, HNX.out w' hc.chg x hx, Mv.refl _, hc.step0 (by decide)⟩
          · refine okL rfl ?_
            intro f listed a w' hl hc hs hr hh
            obtain ⟨_, ⟨ad, u, rfl, _, hcell, hq⟩, h1⟩ := hh ⟨11, .data⟩ (by simp) rfl
            have h1 := h1 39 rfl
            exact op_load rfl h1 hcell (by simp [go_sem]) ⟨_, rfl, hq, Mv.refl _, hc.step0 (by decide)⟩
          · refine okL rfl ?_
            intro f listed a w' hl hc hs hr hh
            obtain ⟨_, rfl, h1⟩ := hh ⟨0, .data⟩ (by simp) rfl
            have h1 := h1 28 rfl
            have h0 : a.tmps.getD 2 undef = .pointer (some ⟨w.heap.size, 0, none⟩) := hr 2 (not_dst (by kernel_rfl))
            have h0' : a.tmps[2]?.getD undef = .pointer (some ⟨w.heap.size, 0, none⟩) := by simpa using h0
            have h1' : a.tmps[28]?.getD undef = .agg #[(.slice (some ⟨gN, 0, none⟩) n4 c4), (.slice A5 m5 c5)] := by simpa using h1
            obtain ⟨x, y, hD⟩ := hc.blk
            have y0 := hD.cell 0
            have y1 := hD.cell 1
            have f0 := hD.frozen 0
            have f1 := hD.frozen 1
            simp at y0 y1
            have hb' := (hD.set_ 0 (.slice (some ⟨gN, 0, none⟩) n4 c4)).set_ 1 (.slice A5 m5 c5)
            simp at hb'
            unfold Oper.wp
            simp [execOp, h0', h1', go_sem, y0, y1, f0, f1, run_store, storeCells, Oper.upon]
            exact ⟨⟨undef, trivial⟩, ⟨(Chg.setCell _ (.inr rfl) _).trans (Chg.setCell _ (.inr rfl) _), fun _ => trivial⟩, hc.store hb' hwD (by rw [hl.size]; decide)⟩
          · refine okL rfl ?_
            intro f listed a w' hl hc hs hr hh
            obtain ⟨_, ⟨s, rfl, hs⟩, h1⟩ := hh ⟨6, .data⟩ (by simp) rfl
            have h1 := h1 34 rfl
            exact op_assign rfl ⟨_, rfl, ⟨s, h1, hs⟩, Mv.refl _, hc.step0 (by decide)⟩
          · refine okL rfl ?_
            intro f listed a w' hl hc hs hr hh
            obtain ⟨_, ⟨s, rfl, hs⟩, h1⟩ := hh ⟨12, .data⟩ (by simp) rfl
            have h1 := h1 40 rfl
            exact op_assign rfl ⟨_, rfl, ⟨s, h1, hs⟩, Mv.refl _, hc.step0 (by decide)⟩
        · intro a w' hs hd' hr hh hcl
          obtain ⟨listed, hall, hc⟩ := hcl
          have hP := hc.done (hall 13 (by decide))
          obtain ⟨_, ⟨sl, rfl, hsl⟩, h3⟩ := hh 14 (by decide) rfl
          obtain ⟨_, ⟨sr, rfl, hsr⟩, h4⟩ := hh 15 (by decide) rfl
          have h3 := h3 3 rfl
          have h4 := h4 4 rfl
          have e2 : a.tmps.getD 2 undef = .pointer (some ⟨w.heap.size, 0, none⟩) := hr 2 (not_dst (by kernel_rfl))
          have ea : a = ⟨#[a.tmps.getD 0 undef, a.tmps.getD 1 undef, a.tmps.getD 2 undef, a.tmps.getD 3 undef, a.tmps.getD 4 undef, a.tmps.getD 5 undef, a.tmps.getD 6 undef, a.tmps.getD 7 undef, a.tmps.getD 8 undef, a.tmps.getD 9 undef, a.tmps.getD 10 undef, a.tmps.getD 11 undef, a.tmps.getD 12 undef, a.tmps.getD 13 undef, a.tmps.getD 14 undef, a.tmps.getD 15 undef, a.tmps.getD 16 undef, a.tmps.getD 17 undef, a.tmps.getD 18 undef, a.tmps.getD 19 undef, a.tmps.getD 20 undef, a.tmps.getD 21 undef, a.tmps.getD 22 undef, a.tmps.getD 23 undef, a.tmps.getD 24 undef, a.tmps.getD 25 undef, a.tmps.getD 26 undef, a.tmps.getD 27 undef, a.tmps.getD 28 undef, a.tmps.getD 29 undef, a.tmps.getD 30 undef, a.tmps.getD 31 undef, a.tmps.getD 32 undef, a.tmps.getD 33 undef, a.tmps.getD 34 undef, a.tmps.getD 35 undef, a.tmps.getD 36 undef, a.tmps.getD 37 undef, a.tmps.getD 38 undef, a.tmps.getD 39 undef, a.tmps.getD 40 undef, a.tmps.getD 41 undef, a.tmps.getD 42 undef, a.tmps.getD 43 undef, a.tmps.getD 44 undef, a.tmps.getD 45 undef, a.tmps.getD 46 undef, a.tmps.getD 47 undef, a.tmps.getD 48 undef, a.tmps.getD 49 undef, a.tmps.getD 50 undef, a.tmps.getD 51 undef, a.tmps.getD 52 undef, a.tmps.getD 53 undef, a.tmps.getD 54 undef, a.tmps.getD 55 undef, a.tmps.getD 56 undef, a.tmps.getD 57 undef, a.tmps.getD 58 undef, a.tmps.getD 59 undef, a.tmps.getD 60 undef, a.tmps.getD 61 undef, a.tmps.getD 62 undef, a.tmps.getD 63 undef, a.tmps.getD 64 undef, a.tmps.getD 65 undef, a.tmps.getD 66 undef, a.tmps.getD 67 undef, a.tmps.getD 68 undef, a.tmps.getD 69 undef, a.tmps.getD 70 undef, a.tmps.getD 71 undef, a.tmps.getD 72 undef, a.tmps.getD 73 undef, a.tmps.getD 74 undef, a.tmps.getD 75 undef, a.tmps.getD 76 undef, a.tmps.getD 77 undef, a.tmps.getD 78 undef, a.tmps.getD 79 undef], []⟩ := act_lit 80 hs hd'
          rw [e2, h3, h4] at ea
          obtain ⟨V, hV⟩ : ∃ V : Nat → Value, ∀ i, a.tmps.getD i undef = V i := ⟨_, fun _ => rfl⟩
          simp only [hV] at ea
          have r0 := Blk.cell hP 0
          have r1 := Blk.cell hP 1
          simp at r0 r1
          have hTab := HT.out.chg hc.chg (fun g hg => by unfold ND; omega)
          have hB := hc.bel
          clear hs hd' hr hh hV e2 h3 h4 hall hc hP CI
          subst ea
          go_wp2_with fail
          exact bodyPost_ret (v := .tuple #[.agg #[_, _], .string sl, .string sr]) (by simp [results, Tryd.results17, go_sem, r0, r1]) rfl ⟨_, _, sl, sr, _, _, rfl, hTab.low (by omega), hd.out, hB⟩
    · have hn1' : ¬ (1 : Int) < (n4 : Int) := by omega
      go_wp2_with fail
      refine (odd_c _ 80 9 w6 (r6.less (by omega)) (by omega)).mono ?_
      rintro e w7 ⟨p, rfl, r7, t7, -⟩
      have k7 := t7.blk k6 (by omega)
      have k7D : ∃ x y, Blk w7 w.heap.size 26 #[x, y] := ⟨_, _, t7.blk k63 (by omega)⟩
      have B7 := t7.below B6 (by omega)
      have HT7 := Lib.hid (HT.out.chg (N := (· = w0.heap.size)) (Chg.of_pick t7 rfl) (fun g hg => by omega))
      have hs7 := t7.size
      clear k6 k63 t7 B6 HT x0 x1 r6
      have x0 := k7.cell 0
      have x1 := k7.cell 1
      simp at x0 x1
      cases p
      · go_wp2_with fail
        obtain ⟨wq, rfl⟩ : ∃ x, x = w7 := ⟨_, rfl⟩
        have HT := HT7
        have hd := hd
        have CI := Lib.hid (show ClL w0.heap.size 20 w.heap.size w3.heap.size 17 (.slice A4 n4 c4) (.slice A5 m5 c5) w wq 20 (Array.replicate 20 false) wq.drew from ⟨fun _ => r7.drew.less (by omega), r7.lt, B7.drew, ⟨Nat.le_refl _, fun _ _ _ => rfl⟩, by obtain ⟨x, y, h⟩ := k7D; exact ⟨x, y, h.drew⟩, k7.drew, by omega, by omega, fun e => by simp at e⟩)
        refine wp_region_typedGL (by kernel_rfl) (fun i => i == 18 || i == 19) (lift <| grpV12 w0.heap.size w.heap.size (.slice A4 n4 c4) (.slice A5 m5 c5)) (fun _ => Mv (ND w0.heap.size w.heap.size) (fun _ => True)) (ClL w0.heap.size 20 w.heap.size w3.heap.size 17 (.slice A4 n4 c4) (.slice A5 m5 c5) w wq) (by kernel_rfl) (stab grpV12_stable) ?_ ?_ ?_ (by kernel_rfl) ?_
        · exact dst_lt (n := 80) (by kernel_rfl)
        · exact CI.out
        · refine ok_all ⟨?_, ?_, ?_, ?_, ?_, ?_, ?_, ?_, ?_, ?_, ?_, ?_, ?_, ?_, ?_, ?_, ?_, ?_, ?_, ?_, trivial⟩
          · refine okL rfl ?_
            intro f listed a w' hl hc hs hr hh
            have h0 : a.tmps.getD 6 undef = .pointer (some ⟨w3.heap.size, 0, none⟩) := hr 6 (not_dst (by kernel_rfl))
            have h0' : a.tmps[6]?.getD undef = .pointer (some ⟨w3.heap.size, 0, none⟩) := by simpa using h0
            have y0 := hc.tab.cell 0
            have y1 := hc.tab.cell 1
            simp at y0 y1
            exact wp_valL (v := .agg #[(.slice A4 n4 c4), (.slice A5 m5 c5)]) (by simp [execOp, go_sem, Act.eval, h0', y0, y1]) ⟨_, rfl, rfl, Mv.refl _, hc.step0 (by decide)⟩
          · refine okL rfl ?_
            intro f listed a w' hl hc hs hr hh
            refine wp_buildSlice 23 9 3 _ rfl #[.string ⟨#[97]⟩, .string ⟨#[98]⟩, .string ⟨#[120]⟩] is _ Tryd.underlying23 his hsz (by rw [hss]; decide) (by rw [hss]; decide) ?_ ⟨_, rfl, ⟨w'.heap.size, [.string ⟨#[97]⟩, .string ⟨#[98]⟩, .string ⟨#[120]⟩], rfl, hc.lt, Blk.new _ _ _, rfl, ?_⟩, ⟨(Chg.refl _).alloc _, fun _ => trivial⟩, hc.alloc (by decide) _⟩
            · rw [hss]; kernel_rfl
            · intro u hu
              simp only [List.mem_cons, List.not_mem_nil, or_false] at hu
              rcases hu with rfl | rfl | rfl <;> exact ⟨_, rfl, by decide⟩
          · refine okL rfl ?_
            intro f listed a w' hl hc hs hr hh
            refine wp_buildSlice 40 3 6 _ rfl #[.int .i64 0, .int .i64 0, .int .i64 0, .int .i64 1, .int .i64 1, .int .i64 2] ii _ Tryd.underlying40 hii hiz (by rw [his']; decide) (by rw [his']; decide) ?_ ⟨_, rfl, ⟨w'.heap.size, [.int .i64 0, .int .i64 0, .int .i64 0, .int .i64 1, .int .i64 1, .int .i64 2], rfl, hc.lt, Blk.new _ _ _, rfl, ?_⟩, ⟨(Chg.refl _).alloc _, fun _ => trivial⟩, hc.alloc (by decide) _⟩
            · rw [his']; kernel_rfl
            · intro u hu
              simp only [List.mem_cons, List.not_mem_nil, or_false] at hu
              rcases hu with rfl | rfl | rfl | rfl | rfl | rfl
              · exact ⟨0, rfl, by decide⟩
              · exact ⟨0, rfl, by decide⟩
              · exact ⟨0, rfl, by decide⟩
              · exact ⟨1, rfl, by decide⟩
              · exact ⟨1, rfl, by decide⟩
              · exact ⟨2, rfl, by decide⟩
          · refine okL rfl ?_
            intro f listed a w' hl hc hs hr hh
            have h0 : a.tmps.getD 5 undef = .pointer (some ⟨w0.heap.size, 0, none⟩) := hr 5 (not_dst (by kernel_rfl))
            exact op_move rfl ⟨_, rfl, h0, Mv.refl _, hc.step0 (by decide)⟩
          · refine okL rfl ?_
            intro f listed a w' hl hc hs hr hh
            obtain ⟨_, rfl, h1⟩ := hh ⟨3, .data⟩ (by simp) rfl
            have h1 := h1 66 rfl
            have hop := hl.up (k := 17) rfl ⟨12, .chain⟩ (by simp) rfl (hl.up (k := 12) rfl ⟨4, .chain⟩ (by simp) rfl hl.here)
            refine op_call Tryd.func22 (by kernel_rfl) rfl rfl ?_
            rw [show #[Operand.tmp 66, Operand.const (Value.int .i64 6)].map a.eval = #[.pointer (some ⟨w0.heap.size, 0, none⟩), .int .i64 6] by simp [Act.eval]; simpa using h1]
            refine (pick_c w0.heap.size (20 + f) 6 w' ((hc.rc hop).less (by omega)) (by decide)).mono ?_
            rintro e w3 ⟨x, rfl, hx, h2, h3, _⟩
            exact ⟨_, rfl, _, rfl, ⟨x, rfl, by omega⟩, ⟨Chg.of_pick h3 (.inl rfl), fun _ => trivial⟩, hc.pick (by decide) hwR hDR hop h2 h3⟩
          · refine okL rfl ?_
            intro f listed a w' hl hc hs hr hh
            obtain ⟨_, ⟨g, vs, rfl, hg, hb, hln, hq⟩, h1⟩ := hh ⟨2, .data⟩ (by simp) rfl
            have h1 := h1 65 rfl
            obtain ⟨_, ⟨x, rfl, hx⟩, h2⟩ := hh ⟨4, .data⟩ (by simp) rfl
            have h2 := h2 67 rfl
            exact op_index (i := x) rfl Tryd.underlying40 (by kernel_rfl) h1 h2 hx ⟨_, rfl, rowB_at hg hb hln hq hx, Mv.refl _, hc.step0 (by decide)⟩
          · refine okL rfl ?_
            intro f listed a w' hl hc hs hr hh
            obtain ⟨_, ⟨ad, u, rfl, _, hcell, hq⟩, h1⟩ := hh ⟨5, .data⟩ (by simp) rfl
            have h1 := h1 68 rfl
            exact op_load rfl h1 hcell (by simp [go_sem]) ⟨_, rfl, hq, Mv.refl _, hc.step0 (by decide)⟩
          · refine okL rfl ?_
            intro f listed a w' hl hc hs hr hh
            obtain ⟨_, ⟨g, vs, rfl, hg, hb, hln, hq⟩, h1⟩ := hh ⟨1, .data⟩ (by simp) rfl
            have h1 := h1 64 rfl
            obtain ⟨_, ⟨x, rfl, hx⟩, h2⟩ := hh ⟨6, .data⟩ (by simp) rfl
            have h2 := h2 69 rfl
            exact op_index (i := x) rfl Tryd.underlying23 (by kernel_rfl) h1 h2 hx ⟨_, rfl, rowB_at hg hb hln hq hx, Mv.refl _, hc.step0 (by decide)⟩
          · refine okL rfl ?_
            intro f listed a w' hl hc hs hr hh
            obtain ⟨_, ⟨ad, u, rfl, _, hcell, hq⟩, h1⟩ := hh ⟨7, .data⟩ (by simp) rfl
            have h1 := h1 70 rfl
            exact op_load rfl h1 hcell (by simp [go_sem]) ⟨_, rfl, hq, Mv.refl _, hc.step0 (by decide)⟩
          · refine okL rfl ?_
            intro f listed a w' hl hc hs hr hh
            refine wp_buildSlice 23 9 3 _ rfl #[.string ⟨#[97]⟩, .string ⟨#[98]⟩, .string ⟨#[120]⟩] is _ Tryd.underlying23 his hsz (by rw [hss]; decide) (by rw [hss]; decide) ?_ ⟨_, rfl, ⟨w'.heap.size, [.string ⟨#[97]⟩, .string ⟨#[98]⟩, .string ⟨#[120]⟩], rfl, hc.lt, Blk.new _ _ _, rfl, ?_⟩, ⟨(Chg.refl _).alloc _, fun _ => trivial⟩, hc.alloc (by decide) _⟩
            · rw [hss]; kernel_rfl
            · intro u hu
              simp only [List.mem_cons, List.not_mem_nil, or_false] at hu
              rcases hu with rfl | rfl | rfl <;> exact ⟨_, rfl, by decide⟩
          · refine okL rfl ?_
            intro f listed a w' hl hc hs hr hh
            refine wp_buildSlice 40 3 6 _ rfl #[.int .i64 0, .int .i64 0, .int .i64 1, .int .i64 1, .int .i64 1, .int .i64 2] ii _ Tryd.underlying40 hii hiz (by rw [his']; decide) (by rw [his']; decide) ?_ ⟨_, rfl, ⟨w'.heap.size, [.int .i64 0, .int .i64 0, .int .i64 1, .int .i64 1, .int .i64 1, .int .i64 2], rfl, hc.lt, Blk.new _ _ _, rfl, ?_⟩, ⟨(Chg.refl _).alloc _, fun _ => trivial⟩, hc.alloc (by decide) _⟩
            · rw [his']; kernel_rfl
            · intro u hu
              simp only [List.mem_cons, List.not_mem_nil, or_false] at hu
              rcases hu with rfl | rfl | rfl | rfl | rfl | rfl
              · exact ⟨0, rfl, by decide⟩
              · exact ⟨0, rfl, by decide⟩
              · exact ⟨1, rfl, by decide⟩
              · exact ⟨1, rfl, by decide⟩
              · exact ⟨1, rfl, by decide⟩
              · exact ⟨2, rfl, by decide⟩
          · refine okL rfl ?_
            intro f listed a w' hl hc hs hr hh
            have h0 : a.tmps.getD 5 undef = .pointer (some ⟨w0.heap.size, 0, none⟩) := hr 5 (not_dst (by kernel_rfl))
            exact op_move rfl ⟨_, rfl, h0, Mv.refl _, hc.step0 (by decide)⟩
          · refine okL rfl ?_
            intro f listed a w' hl hc hs hr hh
            obtain ⟨_, rfl, h1⟩ := hh ⟨11, .data⟩ (by simp) rfl
            have h1 := h1 74 rfl
            have hop := hl.up (k := 17) rfl ⟨12, .chain⟩ (by simp) rfl hl.here
            refine op_call Tryd.func22 (by kernel_rfl) rfl rfl ?_
            rw [show #[Operand.tmp 74, Operand.const (Value.int .i64 6)].map a.eval = #[.pointer (some ⟨w0.heap.size, 0, none⟩), .int .i64 6] by simp [Act.eval]; simpa using h1]
            refine (pick_c w0.heap.size (20 + f) 6 w' ((hc.rc hop).less (by omega)) (by decide)).mono ?_
            rintro e w3 ⟨x, rfl, hx, h2, h3, _⟩
            exact ⟨_, rfl, _, rfl, ⟨x, rfl, by omega⟩, ⟨Chg.of_pick h3 (.inl rfl), fun _ => trivial⟩, hc.pick (by decide) hwR hDR hop h2 h3⟩
          · refine okL rfl ?_
            intro f listed a w' hl hc hs hr hh
            obtain ⟨_, ⟨g, vs, rfl, hg, hb, hln, hq⟩, h1⟩ := hh ⟨10, .data⟩ (by simp) rfl
            have h1 := h1 73 rfl
            obtain ⟨_, ⟨x, rfl, hx⟩, h2⟩ := hh ⟨12, .data⟩ (by simp) rfl
            have h2 := h2 75 rfl
            exact op_index (i := x) rfl Tryd.underlying40 (by kernel_rfl) h1 h2 hx ⟨_, rfl, rowB_at hg hb hln hq hx, Mv.refl _, hc.step0 (by decide)⟩
          · refine okL rfl ?_
            intro f listed a w' hl hc hs hr hh
            obtain ⟨_, ⟨ad, u, rfl, _, hcell, hq⟩, h1⟩ := hh ⟨13, .data⟩ (by simp) rfl
            have h1 := h1 76 rfl
            exact op_load rfl h1 hcell (by simp [go_sem]) ⟨_, rfl, hq, Mv.refl _, hc.step0 (by decide)⟩
          · refine okL rfl ?_
            intro f listed a w' hl hc hs hr hh
            obtain ⟨_, ⟨g, vs, rfl, hg, hb, hln, hq⟩, h1⟩ := hh ⟨9, .data⟩ (by simp) rfl
            have h1 := h1 72 rfl
            obtain ⟨_, ⟨x, rfl, hx⟩, h2⟩ := hh ⟨14, .data⟩ (by simp) rfl
            have h2 := h2 77 rfl
            exact op_index (i := x) rfl Tryd.underlying23 (by kernel_rfl) h1 h2 hx ⟨_, rfl, rowB_at hg hb hln hq hx, Mv.refl _, hc.step0 (by decide)⟩
          · refine okL rfl ?_
            intro f listed a w' hl hc hs hr hh
            obtain ⟨_, ⟨ad, u, rfl, _, hcell, hq⟩, h1⟩ := hh ⟨15, .data⟩ (by simp) rfl
            have h1 := h1 78 rfl
            exact op_load rfl h1 hcell (by simp [go_sem]) ⟨_, rfl, hq, Mv.refl _, hc.step0 (by decide)⟩
          · refine okL rfl ?_
            intro f listed a w' hl hc hs hr hh
            obtain ⟨_, rfl, h1⟩ := hh ⟨0, .data⟩ (by simp) rfl
            have h1 := h1 63 rfl
            have h0 : a.tmps.getD 2 undef = .pointer (some ⟨w.heap.size, 0, none⟩) := hr 2 (not_dst (by kernel_rfl))
            have h0' : a.tmps[2]?.getD undef = .pointer (some ⟨w.heap.size, 0, none⟩) := by simpa using h0
            have h1' : a.tmps[63]?.getD undef = .agg #[(.slice A4 n4 c4), (.slice A5 m5 c5)] := by simpa using h1
            obtain ⟨x, y, hD⟩ := hc.blk
            have y0 := hD.cell 0
            have y1 := hD.cell 1
            have f0 := hD.frozen 0
            have f1 := hD.frozen 1
            simp at y0 y1
            have hb' := (hD.set_ 0 (.slice A4 n4 c4)).set_ 1 (.slice A5 m5 c5)
            simp at hb'
            unfold Oper.wp
            simp [execOp, h0', h1', go_sem, y0, y1, f0, f1, run_store, storeCells, Oper.upon]
            exact ⟨⟨undef, trivial⟩, ⟨(Chg.setCell _ (.inr rfl) _).trans (Chg.setCell _ (.inr rfl) _), fun _ => trivial⟩, hc.store hb' hwD (by rw [hl.size]; decide)⟩
          · refine okL rfl ?_
            intro f listed a w' hl hc hs hr hh
            obtain ⟨_, ⟨s, rfl, hs⟩, h1⟩ := hh ⟨8, .data⟩ (by simp) rfl
            have h1 := h1 71 rfl
            exact op_assign rfl ⟨_, rfl, ⟨s, h1, hs⟩, Mv.refl _, hc.step0 (by decide)⟩
          · refine okL rfl ?_
            intro f listed a w' hl hc hs hr hh
            obtain ⟨_, ⟨s, rfl, hs⟩, h1⟩ := hh ⟨16, .data⟩ (by simp) rfl
            have h1 := h1 79 rfl
            exact op_assign rfl ⟨_, rfl, ⟨s, h1, hs⟩, Mv.refl _, hc.step0 (by decide)⟩
        · intro a w' hs hd' hr hh hcl
          obtain ⟨listed, hall, hc⟩ := hcl
          have hP := hc.done (hall 17 (by decide))
          obtain ⟨_, ⟨sl, rfl, hsl⟩, h3⟩ := hh 18 (by decide) rfl
          obtain ⟨_, ⟨sr, rfl, hsr⟩, h4⟩ := hh 19 (by decide) rfl
          have h3 := h3 3 rfl
          have h4 := h4 4 rfl
          have e2 : a.tmps.getD 2 undef = .pointer (some ⟨w.heap.size, 0, none⟩) := hr 2 (not_dst (by kernel_rfl))
          have ea : a = ⟨#[a.tmps.getD 0 undef, a.tmps.getD 1 undef, a.tmps.getD 2 undef, a.tmps.getD 3 undef, a.tmps.getD 4 undef, a.tmps.getD 5 undef, a.tmps.getD 6 undef, a.tmps.getD 7 undef, a.tmps.getD 8 undef, a.tmps.getD 9 undef, a.tmps.getD 10 undef, a.tmps.getD 11 undef, a.tmps.getD 12 undef, a.tmps.getD 13 undef, a.tmps.getD 14 undef, a.tmps.getD 15 undef, a.tmps.getD 16 undef, a.tmps.getD 17 undef, a.tmps.getD 18 undef, a.tmps.getD 19 undef, a.tmps.getD 20 undef, a.tmps.getD 21 undef, a.tmps.getD 22 undef, a.tmps.getD 23 undef, a.tmps.getD 24 undef, a.tmps.getD 25 undef, a.tmps.getD 26 undef, a.tmps.getD 27 undef, a.tmps.getD 28 undef, a.tmps.getD 29 undef, a.tmps.getD 30 undef, a.tmps.getD 31 undef, a.tmps.getD 32 undef, a.tmps.getD 33 undef, a.tmps.getD 34 undef, a.tmps.getD 35 undef, a.tmps.getD 36 undef, a.tmps.getD 37 undef, a.tmps.getD 38 undef, a.tmps.getD 39 undef, a.tmps.getD 40 undef, a.tmps.getD 41 undef, a.tmps.getD 42 undef, a.tmps.getD 43 undef, a.tmps.getD 44 undef, a.tmps.getD 45 undef, a.tmps.getD 46 undef, a.tmps.getD 47 undef, a.tmps.getD 48 undef, a.tmps.getD 49 undef, a.tmps.getD 50 undef, a.tmps.getD 51 undef, a.tmps.getD 52 undef, a.tmps.getD 53 undef, a.tmps.getD 54 undef, a.tmps.getD 55 undef, a.tmps.getD 56 undef, a.tmps.getD 57 undef, a.tmps.getD 58 undef, a.tmps.getD 59 undef, a.tmps.getD 60 undef, a.tmps.getD 61 undef, a.tmps.getD 62 undef, a.tmps.getD 63 undef, a.tmps.getD 64 undef, a.tmps.getD 65 undef, a.tmps.getD 66 undef, a.tmps.getD 67 undef, a.tmps.getD 68 undef, a.tmps.getD 69 undef, a.tmps.getD 70 undef, a.tmps.getD 71 undef, a.tmps.getD 72 undef, a.tmps.getD 73 undef, a.tmps.getD 74 undef, a.tmps.getD 75 undef, a.tmps.getD 76 undef, a.tmps.getD 77 undef, a.tmps.getD 78 undef, a.tmps.getD 79 undef], []⟩ := act_lit 80 hs hd'
          rw [e2, h3, h4] at ea
          obtain ⟨V, hV⟩ : ∃ V : Nat → Value, ∀ i, a.tmps.getD i undef = V i := ⟨_, fun _ => rfl⟩
          simp only [hV] at ea
          have r0 := Blk.cell hP 0
          have r1 := Blk.cell hP 1
          simp at r0 r1
          have hTab := HT.out.chg hc.chg (fun g hg => by unfold ND; omega)
          have hB := hc.bel
          clear hs hd' hr hh hV e2 h3 h4 hall hc hP CI
          subst ea
          go_wp2_with fail
          exact bodyPost_ret (v := .tuple #[.agg #[_, _], .string sl, .string sr]) (by simp [results, Tryd.results17, go_sem, r0, r1]) rfl ⟨_, _, sl, sr, _, _, rfl, hTab.low (by omega), hd.out, hB⟩
      · go_wp2_with fail
        have START := Lib.hid (And.intro hd.out (And.intro HT7.out (And.intro (r7.less (B' := 60) (by omega)) (And.intro k7 (And.intro k7D B7)))))
        have HRL := Lib.hid HNM.out.2
        clear x0 x1 k7 k7D B7 HT7 hd r7
        go_loopw [7] (fun i wr => ∃ (k : Nat) (rs : List (List Int)), k ≤ m5 ∧ i = .int .i64 k ∧ Hid (rs.length = m5) ∧ Hid (DrawnT names rs ∧ TabO wr w1.heap.size (.agg #[.slice A4 n4 c4, .slice A5 m5 c5]) names rs ∧ Rc wr w0.heap.size 60 ∧ Blk wr w3.heap.size 26 #[.slice A4 n4 c4, .slice A5 m5 c5] ∧ (∃ x y, Blk wr w.heap.size 26 #[x, y]) ∧ Below w.heap.size w wr)) (fun i _ => m5 - (intOf i).toNat)
        case atStart => exact ⟨0, rows, Nat.zero_le _, rfl, HRL, START⟩
        case round =>
          clear START
          obtain ⟨k, rs, hk, rfl, hrl, HS⟩ := hrel
          obtain ⟨wi, rfl⟩ : ∃ x, x = wr := ⟨_, rfl⟩
          have hm17 : m5 ≤ 17 := by have := HS.out.1.r1; rw [hrl.out] at this; exact this
          have x0 := HS.out.2.2.2.1.cell 0
          have x1 := HS.out.2.2.2.1.cell 1
          simp at x0 x1
          have hk0 : (0 : Int) ≤ (k : Int) := Int.natCast_nonneg _
          by_cases hlt : k < m5
          · have hk1 : (k : Int) < (m5 : Int) := by omega
            obtain ⟨v0, v1, eT, g0, vs, g1⟩ := HS.out.2.1
            simp only [Value.agg.injEq, Array.mk.injEq, List.cons.injEq, and_true] at eT
            obtain ⟨rfl, rfl⟩ := eT
            obtain ⟨row, hrow⟩ : ∃ x, rs[k]? = some x := ⟨_, List.getElem?_eq_getElem (by rw [hrl.out]; exact hlt)⟩
            obtain ⟨u, hu⟩ : ∃ x, vs[k]? = some x := ⟨_, List.getElem?_eq_getElem (by rw [g1.len, hrl.out]; exact hlt)⟩
            have gO := g1.own
            rw [hrl.out] at gO
            have gU := g1.row k u row hu hrow
            have h7 : row.length ≤ 7 := HS.out.1.r2 row (List.mem_of_getElem? hrow)
            obtain ⟨rl, hrl2⟩ : ∃ x, row.length = x := ⟨_, rfl⟩
            rcases own_cases gO with ⟨_, h0, _⟩ | ⟨gR, cap, e⟩
            · omega
            simp only [Value.slice.injEq, true_and] at e
            obtain ⟨rfl, rfl⟩ := e
            have y0 := (gO.cellAt k (by omega)).trans hu
            have HW := Lib.hid (fun (gb cb j : Nat) (e : u = .slice (some ⟨gb, 0, none⟩) row.length cb) (x : Int) => TabO.put (j := j) (by have h := g0; exact h) g1 (by rw [hu, e]) hrow x)
            rcases own_cases gU with ⟨rfl, h0, _⟩ | ⟨gb, cb, rfl⟩
            · clear gO gU g0 g1 HW hu
              go_wp2_with fail
              go_roundw
              case rel => exact ⟨k + 1, rs, by omega, by go_num, hrl, HS⟩
              case measure => simp [intOf]; omega
            · rcases Nat.eq_zero_or_pos rl with hz | hpos
              · rw [hrl2, hz] at y0
                clear gO gU g0 g1 HW hu
                go_wp2_with fail
                go_roundw
                case rel => exact ⟨k + 1, rs, by omega, by go_num, hrl, HS⟩
                case measure => simp [intOf]; omega
              · have z0 := gU.cellAt 0 (by omega)
                have f0 := gU.frozenAt 0
                obtain ⟨v, hv⟩ : ∃ x, row[0]? = some x := ⟨_, List.getElem?_eq_getElem (by omega)⟩
                have hv' : (inCells row)[0]? = some (.int .i64 v) := by simp [inCells, hv]
                rw [hv'] at z0
                have hp1 : (0 : Int) < (rl : Int) := by omega
                have hneT : w3.heap.size ≠ gb := fun e => own_tagB gU HS.out.2.2.2.1 (by decide) (by rw [← e]; rfl)
                have hneD : w.heap.size ≠ gb := fun e => by have := (gU.lt gb rfl).1; omega
                have hneR : w0.heap.size ≠ gb := fun e => by have := (gU.lt gb rfl).1; omega
                have hRgb : w0.heap.size < gb := by have := (gU.lt gb rfl).1; omega
                have hgw : w.heap.size ≤ gb := by have := (gU.lt gb rfl).1; omega
                have hgs := (gU.lt gb rfl).2
                have HP := Lib.hid (HW.out gb cb 0 rfl 100000)
                have hset : (rs.set k (row.set 0 100000)).length = m5 := by rw [List.length_set]; exact hrl.out
                have HSET := Lib.hid hset
                have HDR : Hid (DrawnT names (rs.set k (row.set 0 100000))) := Lib.hid ⟨HS.out.1.n1, HS.out.1.n2, by rw [List.length_set]; exact HS.out.1.r1, fun r hr => by
                  rcases List.mem_or_eq_of_mem_set hr with h | h
                  · exact HS.out.1.r2 r h
                  · rw [h, List.length_set]; exact h7⟩
                rw [hrl2] at y0
                clear gO gU g0 g1 HW hu hset hv hv'
                go_wp2_with fail
                go_roundw
                case rel =>
                  refine ⟨k + 1, _, by omega, by go_num, HSET, Lib.hid ⟨HDR.out, HP.out, ?_, HS.out.2.2.2.1.far hneT _, ?_, HS.out.2.2.2.2.2.setCell hgw _⟩⟩
                  · obtain ⟨l, h1, h2⟩ := HS.out.2.2.1
                    exact HS.out.2.2.1.touch (lo := gb) (hi := gb + 1) ((Touch.refl _ _ _).setCell (p := ⟨gb, 0, none⟩) (Or.inl ⟨Nat.le_refl _, Nat.lt_succ_self _⟩) _) (by omega)
                  · obtain ⟨x, y, h⟩ := HS.out.2.2.2.2.1
                    exact ⟨x, y, h.far hneD _⟩
                case measure => simp [intOf]; omega
          · have hkn : ¬ (k : Int) < (m5 : Int) := by omega
            go_wp2_with fail
            clear x0 x1
            obtain ⟨wq, rfl⟩ : ∃ x, x = wi := ⟨_, rfl⟩
            have HT := Lib.hid HS.out.2.1
            have hd := Lib.hid HS.out.1
            have CI := Lib.hid (show ClL w0.heap.size 20 w.heap.size w3.heap.size 17 (.slice A4 n4 c4) (.slice A5 m5 c5) w wq 20 (Array.replicate 20 false) wq.drew from ⟨fun _ => HS.out.2.2.1.drew.less (by omega), HS.out.2.2.1.lt, HS.out.2.2.2.2.2.drew, ⟨Nat.le_refl _, fun _ _ _ => rfl⟩, by obtain ⟨x, y, h⟩ := HS.out.2.2.2.2.1; exact ⟨x, y, h.drew⟩, HS.out.2.2.2.1.drew, by omega, by omega, fun e => by simp at e⟩)
            refine wp_region_typedGL (by kernel_rfl) (fun i => i == 18 || i == 19) (lift <| grpV12 w0.heap.size w.heap.size (.slice A4 n4 c4) (.slice A5 m5 c5)) (fun _ => Mv (ND w0.heap.size w.heap.size) (fun _ => True)) (ClL w0.heap.size 20 w.heap.size w3.heap.size 17 (.slice A4 n4 c4) (.slice A5 m5 c5) w wq) (by kernel_rfl) (stab grpV12_stable) ?_ ?_ ?_ (by kernel_rfl) ?_
            · exact dst_lt (n := 80) (by kernel_rfl)
            · exact CI.out
            · refine ok_all ⟨?_, ?_, ?_, ?_, ?_, ?_, ?_, ?_, ?_, ?_, ?_, ?_, ?_, ?_, ?_, ?_, ?_, ?_, ?_, ?_, trivial⟩
              · refine okL rfl ?_
                intro f listed a w' hl hc hs hr hh
                have h0 : a.tmps.getD 6 undef = .pointer (some ⟨w3.heap.size, 0, none⟩) := hr 6 (not_dst (by kernel_rfl))
                have h0' : a.tmps[6]?.getD undef = .pointer (some ⟨w3.heap.size, 0, none⟩) := by simpa using h0
                have y0 := hc.tab.cell 0
                have y1 := hc.tab.cell 1
                simp at y0 y1
                exact wp_valL (v := .agg #[(.slice A4 n4 c4), (.slice A5 m5 c5)]) (by simp [execOp, go_sem, Act.eval, h0', y0, y1]) ⟨_, rfl, rfl, Mv.refl _, hc.step0 (by decide)⟩
              · refine okL rfl ?_
                intro f listed a w' hl hc hs hr hh
                refine wp_buildSlice 23 9 3 _ rfl #[.string ⟨#[97]⟩, .string ⟨#[98]⟩, .string ⟨#[120]⟩] is _ Tryd.underlying23 his hsz (by rw [hss]; decide) (by rw [hss]; decide) ?_ ⟨_, rfl, ⟨w'.heap.size, [.string ⟨#[97]⟩, .string ⟨#[98]⟩, .string ⟨#[120]⟩], rfl, hc.lt, Blk.new _ _ _, rfl, ?_⟩, ⟨(Chg.refl _).alloc _, fun _ => trivial⟩, hc.alloc (by decide) _⟩
                · rw [hss]; kernel_rfl
                · intro u hu
                  simp only [List.mem_cons, List.not_mem_nil, or_false] at hu
                  rcases hu with rfl | rfl | rfl <;> exact ⟨_, rfl, by decide⟩
              · refine okL rfl ?_
                intro f listed a w' hl hc hs hr hh
                refine wp_buildSlice 40 3 6 _ rfl #[.int .i64 0, .int .i64 0, .int .i64 0, .int .i64 1, .int .i64 1, .int .i64 2] ii _ Tryd.underlying40 hii hiz (by rw [his']; decide) (by rw [his']; decide) ?_ ⟨_, rfl, ⟨w'.heap.size, [.int .i64 0, .int .i64 0, .int .i64 0, .int .i64 1, .int .i64 1, .int .i64 2], rfl, hc.lt, Blk.new _ _ _, rfl, ?_⟩, ⟨(Chg.refl _).alloc _, fun _ => trivial⟩, hc.alloc (by decide) _⟩
                · rw [his']; kernel_rfl
                · intro u hu
                  simp only [List.mem_cons, List.not_mem_nil, or_false] at hu
                  rcases hu with rfl | rfl | rfl | rfl | rfl | rfl
                  · exact ⟨0, rfl, by decide⟩
                  · exact ⟨0, rfl, by decide⟩
                  · exact ⟨0, rfl, by decide⟩
                  · exact ⟨1, rfl, by decide⟩
                  · exact ⟨1, rfl, by decide⟩
                  · exact ⟨2, rfl, by decide⟩
              · refine okL rfl ?_
                intro f listed a w' hl hc hs hr hh
                have h0 : a.tmps.getD 5 undef = .pointer (some ⟨w0.heap.size, 0, none⟩) := hr 5 (not_dst (by kernel_rfl))
                exact op_move rfl ⟨_, rfl, h0, Mv.refl _, hc.step0 (by decide)⟩
              · refine okL rfl ?_
                intro f listed a w' hl hc hs hr hh
                obtain ⟨_, rfl, h1⟩ := hh ⟨3, .data⟩ (by simp) rfl
                have h1 := h1 66 rfl
                have hop := hl.up (k := 17) rfl ⟨12, .chain⟩ (by simp) rfl (hl.up (k := 12) rfl ⟨4, .chain⟩ (by simp) rfl hl.here)
                refine op_call Tryd.func22 (by kernel_rfl) rfl rfl ?_
                rw [show #[Operand.tmp 66, Operand.const (Value.int .i64 6)].map a.eval = #[.pointer (some ⟨w0.heap.size, 0, none⟩), .int .i64 6] by simp [Act.eval]; simpa using h1]
                refine (pick_c w0.heap.size (20 + f) 6 w' ((hc.rc hop).less (by omega)) (by decide)).mono ?_
                rintro e w3 ⟨x, rfl, hx, h2, h3, _⟩
                exact ⟨_, rfl, _, rfl, ⟨x, rfl, by omega⟩, ⟨Chg.of_pick h3 (.inl rfl), fun _ => trivial⟩, hc.pick (by decide) hwR hDR hop h2 h3⟩
              · refine okL rfl ?_
                intro f listed a w' hl hc hs hr hh
                obtain ⟨_, ⟨g, vs, rfl, hg, hb, hln, hq⟩, h1⟩ := hh ⟨2, .data⟩ (by simp) rfl
                have h1 := h1 65 rfl
                obtain ⟨_, ⟨x, rfl, hx⟩, h2⟩ := hh ⟨4, .data⟩ (by simp) rfl
                have h2 := h2 67 rfl
                exact op_index (i := x) rfl Tryd.underlying40 (by kernel_rfl) h1 h2 hx ⟨_, rfl, rowB_at hg hb hln hq hx, Mv.refl _, hc.step0 (by decide)⟩
              · refine okL rfl ?_
                intro f listed a w' hl hc hs hr hh
                obtain ⟨_, ⟨ad, u, rfl, _, hcell, hq⟩, h1⟩ := hh ⟨5, .data⟩ (by simp) rfl
                have h1 := h1 68 rfl
                exact op_load rfl h1 hcell (by simp [go_sem]) ⟨_, rfl, hq, Mv.refl _, hc.step0 (by decide)⟩
              · refine okL rfl ?_
                intro f listed a w' hl hc hs hr hh
                obtain ⟨_, ⟨g, vs, rfl, hg, hb, hln, hq⟩, h1⟩ := hh ⟨1, .data⟩ (by simp) rfl
                have h1 := h1 64 rfl
                obtain ⟨_, ⟨x, rfl, hx⟩, h2⟩ := hh ⟨6, .data⟩ (by simp) rfl
                have h2 := h2 69 rfl
                exact op_index (i := x) rfl Tryd.underlying23 (by kernel_rfl) h1 h2 hx ⟨_, rfl, rowB_at hg hb hln hq hx, Mv.refl _, hc.step0 (by decide)⟩
              · refine okL rfl ?_
                intro f listed a w' hl hc hs hr hh
                obtain ⟨_, ⟨ad, u, rfl, _, hcell, hq⟩, h1⟩ := hh ⟨7, .data⟩ (by simp) rfl
                have h1 := h1 70 rfl
                exact op_load rfl h1 hcell (by simp [go_sem]) ⟨_, rfl, hq, Mv.refl _, hc.step0 (by decide)⟩
              · refine okL rfl ?_
                intro f listed a w' hl hc hs hr hh
                refine wp_buildSlice 23 9 3 _ rfl #[.string ⟨#[97]⟩, .string ⟨#[98]⟩, .string ⟨#[120]⟩] is _ Tryd.underlying23 his hsz (by rw [hss]; decide) (by rw [hss]; decide) ?_ ⟨_, rfl, ⟨w'.heap.size, [.string ⟨#[97]⟩, .string ⟨#[98]⟩, .string ⟨#[120]⟩], rfl, hc.lt, Blk.new _ _ _, rfl, ?_⟩, ⟨(Chg.refl _).alloc _, fun _ => trivial⟩, hc.alloc (by decide) _⟩
                · rw [hss]; kernel_rfl
                · intro u hu
                  simp only [List.mem_cons, List.not_mem_nil, or_false] at hu
                  rcases hu with rfl | rfl | rfl <;> exact ⟨_, rfl, by decide⟩
              · refine okL rfl ?_
                intro f listed a w' hl hc hs hr hh
                refine wp_buildSlice 40 3 6 _ rfl #[.int .i64 0, .int .i64 0, .int .i64 1, .int .i64 1, .int .i64 1, .int .i64 2] ii _ Tryd.underlying40 hii hiz (by rw [his']; decide) (by rw [his']; decide) ?_ ⟨_, rfl, ⟨w'.heap.size, [.int .i64 0, .int .i64 0, .int .i64 1, .int .i64 1, .int .i64 1, .int .i64 2], rfl, hc.lt, Blk.new _ _ _, rfl, ?_⟩, ⟨(Chg.refl _).alloc _, fun _ => trivial⟩, hc.alloc (by decide) _⟩
                · rw [his']; kernel_rfl
                · intro u hu
                  simp only [List.mem_cons, List.not_mem_nil, or_false] at hu
                  rcases hu with rfl | rfl | rfl | rfl | rfl | rfl
                  · exact ⟨0, rfl, by decide⟩
                  · exact ⟨0, rfl, by decide⟩
                  · exact ⟨1, rfl, by decide⟩
                  · exact ⟨1, rfl, by decide⟩
                  · exact ⟨1, rfl, by decide⟩
                  · exact ⟨2, rfl, by decide⟩
              · refine okL rfl ?_
                intro f listed a w' hl hc hs hr hh
                have h0 : a.tmps.getD 5 undef = .pointer (some ⟨w0.heap.size, 0, none⟩) := hr 5 (not_dst (by kernel_rfl))
                exact op_move rfl ⟨_, rfl, h0, Mv.refl _, hc.step0 (by decide)⟩
              · refine okL rfl ?_
                intro f listed a w' hl hc hs hr hh
                obtain ⟨_, rfl, h1⟩ := hh ⟨11, .data⟩ (by simp) rfl
                have h1 := h1 74 rfl
                have hop := hl.up (k := 17) rfl ⟨12, .chain⟩ (by simp) rfl hl.here
                refine op_call Tryd.func22 (by kernel_rfl) rfl rfl ?_
                rw [show #[Operand.tmp 74, Operand.const (Value.int .i64 6)].map a.eval = #[.pointer (some ⟨w0.heap.size, 0, none⟩), .int .i64 6] by simp [Act.eval]; simpa using h1]
                refine (pick_c w0.heap.size (20 + f) 6 w' ((hc.rc hop).less (by omega)) (by decide)).mono ?_
                rintro e w3 ⟨x, rfl, hx, h2, h3, _⟩
                exact ⟨_, rfl, _, rfl, ⟨x, rfl, by omega⟩, ⟨Chg.of_pick h3 (.inl rfl), fun _ => trivial⟩, hc.pick (by decide) hwR hDR hop h2 h3⟩
              · refine okL rfl ?_
                intro f listed a w' hl hc hs hr hh
                obtain ⟨_, ⟨g, vs, rfl, hg, hb, hln, hq⟩, h1⟩ := hh ⟨10, .data⟩ (by simp) rfl
                have h1 := h1 73 rfl
                obtain ⟨_, ⟨x, rfl, hx⟩, h2⟩ := hh ⟨12, .data⟩ (by simp) rfl
                have h2 := h2 75 rfl
                exact op_index (i := x) rfl Tryd.underlying40 (by kernel_rfl) h1 h2 hx ⟨_, rfl, rowB_at hg hb hln hq hx, Mv.refl _, hc.step0 (by decide)⟩
              · refine okL rfl ?_
                intro f listed a w' hl hc hs hr hh
                obtain ⟨_, ⟨ad, u, rfl, _, hcell, hq⟩, h1⟩ := hh ⟨13, .data⟩ (by simp) rfl
                have h1 := h1 76 rfl
                exact op_load rfl h1 hcell (by simp [go_sem]) ⟨_, rfl, hq, Mv.refl _, hc.step0 (by decide)⟩
              · refine okL rfl ?_
                intro f listed a w' hl hc hs hr hh
                obtain ⟨_, ⟨g, vs, rfl, hg, hb, hln, hq⟩, h1⟩ := hh ⟨9, .data⟩ (by simp) rfl
                have h1 := h1 72 rfl
                obtain ⟨_, ⟨x, rfl, hx⟩, h2⟩ := hh ⟨14, .data⟩ (by simp) rfl
                have h2 := h2 77 rfl
                exact op_index (i := x) rfl Tryd.underlying23 (by kernel_rfl) h1 h2 hx ⟨_, rfl, rowB_at hg hb hln hq hx, Mv.refl _, hc.step0 (by decide)⟩
              · refine okL rfl ?_
                intro f listed a w' hl hc hs hr hh
                obtain ⟨_, ⟨ad, u, rfl, _, hcell, hq⟩, h1⟩ := hh ⟨15, .data⟩ (by simp) rfl
                have h1 := h1 78 rfl
                exact op_load rfl h1 hcell (by simp [go_sem]) ⟨_, rfl, hq, Mv.refl _, hc.step0 (by decide)⟩
              · refine okL rfl ?_
                intro f listed a w' hl hc hs hr hh
                obtain ⟨_, rfl, h1⟩ := hh ⟨0, .data⟩ (by simp) rfl
                have h1 := h1 63 rfl
                have h0 : a.tmps.getD 2 undef = .pointer (some ⟨w.heap.size, 0, none⟩) := hr 2 (not_dst (by kernel_rfl))
                have h0' : a.tmps[2]?.getD undef = .pointer (some ⟨w.heap.size, 0, none⟩) := by simpa using h0
                have h1' : a.tmps[63]?.getD undef = .agg #[(.slice A4 n4 c4), (.slice A5 m5 c5)] := by simpa using h1
                obtain ⟨x, y, hD⟩ := hc.blk
                have y0 := hD.cell 0
                have y1 := hD.cell 1
                have f0 := hD.frozen 0
                have f1 := hD.frozen 1
                simp at y0 y1
                have hb' := (hD.set_ 0 (.slice A4 n4 c4)).set_ 1 (.slice A5 m5 c5)
                simp at hb'
                unfold Oper.wp
                simp [execOp, h0', h1', go_sem, y0, y1, f0, f1, run_store, storeCells, Oper.upon]
                exact ⟨⟨undef, trivial⟩, ⟨(Chg.setCell _ (.inr rfl) _).trans (Chg.setCell _ (.inr rfl) _), fun _ => trivial⟩, hc.store hb' hwD (by rw [hl.size]; decide)⟩
              · refine okL rfl ?_
                intro f listed a w' hl hc hs hr hh
                obtain ⟨_, ⟨s, rfl, hs⟩, h1⟩ := hh ⟨8, .data⟩ (by simp) rfl
                have h1 := h1 71 rfl
                exact op_assign rfl ⟨_, rfl, ⟨s, h1, hs⟩, Mv.refl _, hc.step0 (by decide)⟩
              · refine okL rfl ?_
                intro f listed a w' hl hc hs hr hh
                obtain ⟨_, ⟨s, rfl, hs⟩, h1⟩ := hh ⟨16, .data⟩ (by simp) rfl
                have h1 := h1 79 rfl
                exact op_assign rfl ⟨_, rfl, ⟨s, h1, hs⟩, Mv.refl _, hc.step0 (by decide)⟩
            · intro a w' hs hd' hr hh hcl
              obtain ⟨listed, hall, hc⟩ := hcl
              have hP := hc.done (hall 17 (by decide))
              obtain ⟨_, ⟨sl, rfl, hsl⟩, h3⟩ := hh 18 (by decide) rfl
              obtain ⟨_, ⟨sr, rfl, hsr⟩, h4⟩ := hh 19 (by decide) rfl
              have h3 := h3 3 rfl
              have h4 := h4 4 rfl
              have e2 : a.tmps.getD 2 undef = .pointer (some ⟨w.heap.size, 0, none⟩) := hr 2 (not_dst (by kernel_rfl))
              have ea : a = ⟨#[a.tmps.getD 0 undef, a.tmps.getD 1 undef, a.tmps.getD 2 undef, a.tmps.getD 3 undef, a.tmps.getD 4 undef, a.tmps.getD 5 undef, a.tmps.getD 6 undef, a.tmps.getD 7 undef, a.tmps.getD 8 undef, a.tmps.getD 9 undef, a.tmps.getD 10 undef, a.tmps.getD 11 undef, a.tmps.getD 12 undef, a.tmps.getD 13 undef, a.tmps.getD 14 undef, a.tmps.getD 15 undef, a.tmps.getD 16 undef, a.tmps.getD 17 undef, a.tmps.getD 18 undef, a.tmps.getD 19 undef, a.tmps.getD 20 undef, a.tmps.getD 21 undef, a.tmps.getD 22 undef, a.tmps.getD 23 undef, a.tmps.getD 24 undef, a.tmps.getD 25 undef, a.tmps.getD 26 undef, a.tmps.getD 27 undef, a.tmps.getD 28 undef, a.tmps.getD 29 undef, a.tmps.getD 30 undef, a.tmps.getD 31 undef, a.tmps.getD 32 undef, a.tmps.getD 33 undef, a.tmps.getD 34 undef, a.tmps.getD 35 undef, a.tmps.getD 36 undef, a.tmps.getD 37 undef, a.tmps.getD 38 undef, a.tmps.getD 39 undef, a.tmps.getD 40 undef, a.tmps.getD 41 undef, a.tmps.getD 42 undef, a.tmps.getD 43 undef, a.tmps.getD 44 undef, a.tmps.getD 45 undef, a.tmps.getD 46 undef, a.tmps.getD 47 undef, a.tmps.getD 48 undef, a.tmps.getD 49 undef, a.tmps.getD 50 undef, a.tmps.getD 51 undef, a.tmps.getD 52 undef, a.tmps.getD 53 undef, a.tmps.getD 54 undef, a.tmps.getD 55 undef, a.tmps.getD 56 undef, a.tmps.getD 57 undef, a.tmps.getD 58 undef, a.tmps.getD 59 undef, a.tmps.getD 60 undef, a.tmps.getD 61 undef, a.tmps.getD 62 undef, a.tmps.getD 63 undef, a.tmps.getD 64 undef, a.tmps.getD 65 undef, a.tmps.getD 66 undef, a.tmps.getD 67 undef, a.tmps.getD 68 undef, a.tmps.getD 69 undef, a.tmps.getD 70 undef, a.tmps.getD 71 undef, a.tmps.getD 72 undef, a.tmps.getD 73 undef, a.tmps.getD 74 undef, a.tmps.getD 75 undef, a.tmps.getD 76 undef, a.tmps.getD 77 undef, a.tmps.getD 78 undef, a.tmps.getD 79 undef], []⟩ := act_lit 80 hs hd'
              rw [e2, h3, h4] at ea
              obtain ⟨V, hV⟩ : ∃ V : Nat → Value, ∀ i, a.tmps.getD i undef = V i := ⟨_, fun _ => rfl⟩
              simp only [hV] at ea
              have r0 := Blk.cell hP 0
              have r1 := Blk.cell hP 1
              simp at r0 r1
              have hTab := HT.out.chg hc.chg (fun g hg => by unfold ND; omega)
              have hB := hc.bel
              clear hs hd' hr hh hV e2 h3 h4 hall hc hP CI
              subst ea
              go_wp2_with fail
              exact bodyPost_ret (v := .tuple #[.agg #[_, _], .string sl, .string sr]) (by simp [results, Tryd.results17, go_sem, r0, r1]) rfl ⟨_, _, sl, sr, _, _, rfl, hTab.low (by omega), hd.out, hB⟩
theorem DrawnT.smallG {names : List ByteArray} {rows : List (List Int)} (h : DrawnT names rows) : Small names rows :=
  ⟨by have := h.n1; omega, fun x hx => by have := h.n2 x hx; omega, by have := h.r1; omega, fun r hr => by have := h.r2 r hr; omega⟩
theorem TabR.rowsG {w : World} {A B : Option Addr} {n c m d : Nat} {names : List ByteArray} {rows : List (List Int)} (h : TabR w (.agg #[.slice A n c, .slice B m d]) names rows) : RowsR w w.heap.size B m rows := by
  obtain ⟨A', c', B', d', e, _, _, hy⟩ := h
  simp only [Value.agg.injEq, Array.mk.injEq, List.cons.injEq, and_true, Value.slice.injEq] at e
  obtain ⟨_, rfl, rfl, _⟩ := e
  exact hy
theorem sumG_bd : ∀ (l : List Int), (∀ x ∈ l, -2000000 ≤ x ∧ x ≤ 2000000) → -(2000000 * (l.length : Int)) ≤ l.sum ∧ l.sum ≤ 2000000 * (l.length : Int)
  | [], _ => by simp
  | x :: l, h => by
    have h1 := h x (by simp)
    have h2 := sumG_bd l (fun y hy => h y (by simp [hy]))
    rw [List.sum_cons, List.length_cons]
    push_cast
    omega
theorem sumG_take {rows : List (List Int)} {f : List Int → Int} {b : Nat} (hl : rows.length ≤ b) (h : ∀ r ∈ rows, -2000000 ≤ f r ∧ f r ≤ 2000000) (k : Nat) : -(2000000 * (b : Int)) ≤ ((rows.take k).map f).sum ∧ ((rows.take k).map f).sum ≤ 2000000 * (b : Int) := by
  have := sumG_bd ((rows.take k).map f) (fun x hx => by
    obtain ⟨r, hr, rfl⟩ := List.mem_map.1 hx
    exact h r (List.mem_of_mem_take hr))
  rw [List.length_map, List.length_take] at this
  omega
theorem sumG_next {rows : List (List Int)} (f : List Int → Int) {k : Nat} {r : List Int} (h : rows[k]? = some r) : ((rows.take (k + 1)).map f).sum = ((rows.take k).map f).sum + f r := by
  rw [take_snoc rows k r h, List.map_append, List.sum_append]
  simp
theorem grpV_sum (names : List ByteArray) (rows : List (List Int)) (g s : ByteArray) : ((grpP names rows g s).map valOf).sum = (rows.map fun r => r.getD (colN names s) 0).sum := by
  unfold grpP
  rw [List.map_map]
  rfl
/-- What a right grouping's rows are. -/
theorem grp_rows {names N : List ByteArray} {rows R : List (List Int)} {g s : ByteArray} (h : GrpIs names rows g s true N R) (hr17 : rows.length ≤ 17) :
    tableB names rows = true ∧ hasW names s = true ∧ (∀ r ∈ rows, -2000000 ≤ r.getD (colN names s) 0 ∧ r.getD (colN names s) 0 ≤ 2000000) ∧ (∀ r ∈ R, ∃ x y z, r = [x, y, z] ∧ 1 ≤ y ∧ y ≤ 2000000 ∧ -2000000 ≤ z ∧ z ≤ 2000000) ∧ R.length ≤ 17 ∧
      (∀ i r q, R[i]? = some r → R[i + 1]? = some q → r.getD 0 0 < q.getD 0 0) ∧ (R.map fun r => r.getD 1 0).sum = rows.length ∧ (R.map fun r => r.getD 2 0).sum = (rows.map fun r => r.getD (colN names s) 0).sum := by
  obtain ⟨G, hG, h1, _, eR⟩ := h
  obtain rfl : R = G := eR
  rw [Bool.and_eq_true] at h1
  have hb := h1.1
  have hb' := hb
  unfold grpBase at hb'
  simp only [Bool.and_eq_true] at hb'
  have hpl : (grpP names rows g s).length = rows.length := by unfold grpP; rw [List.length_map]
  have hv : ∀ p ∈ grpP names rows g s, -100000 ≤ valOf p ∧ valOf p ≤ 100000 := fun p hp => by
    obtain ⟨a, b, rfl, h1, h2, _⟩ := grp_pair hb hp
    exact ⟨h1, h2⟩
  have hs := hG.sums
  rw [hpl, grpV_sum] at hs
  refine ⟨hb'.1, hb'.2.2, fun r hr => ?_, fun r hr => ?_, by have := hG.len; omega, fun i r q hr hq => hG.asc hr hq, hs.1, hs.2⟩
  · have := hv (projRow names [g, s] r) (List.mem_map.2 ⟨r, hr, rfl⟩)
    have e : valOf (projRow names [g, s] r) = r.getD (colN names s) 0 := rfl
    rw [e] at this
    omega
  · obtain ⟨i, hi, rfl⟩ := List.getElem_of_mem hr
    obtain ⟨k, e, hk⟩ := hG.row (List.getElem?_eq_getElem hi)
    have c1 := cnt_pos hk
    have c2 := cnt_bd (grpP names rows g s) k
    have c3 := tot_bd (m := 100000) (fun p hp => by have := hv p hp; omega) (by decide) k
    rw [hpl] at c2 c3
    exact ⟨_, _, _, e, c1, by omega, by omega, by omega⟩
set_option maxHeartbeats 3200000 in
theorem fnGroup_walk {w : World} (A : Option Addr) (n c : Nat) (xs : List UInt8) (hl : xs.length = n) (hc : n ≤ c) (hm : c ≤ maxLen) (hx : Reads w w.heap.size 1 A n (byCells xs))
    (RA : Option Addr) (RC : Nat) (hv : w.cell? ⟨0, 0, none⟩ = some (.slice RA 13 RC)) (hr : Reads w w.heap.size 1 RA 13 (stCells resW)) :
    Calls Tryd.prog 5 #[.slice A n c] w fun e w' => e = .returned (.bool true) ∧ Below w.heap.size w w' := by
  by_cases hbig : (1048576 : Int) < (n : Int)
  · clear hx hr
    go_enter Tryd.func5, Tryd.ntmps5
    go_wp2_with fail
    go_ret
    exact ⟨rfl, Below.refl _ _⟩
  have HD := Lib.hid (drawGroup_any A n c xs w hx hl (by omega) hc hm)
  have RV := Lib.hid (fun (w' : World) (hb : Below w.heap.size w w') => And.intro (below_keep hb hv) ((hr.below hb).more hb.size))
  clear hx hr hl hv
  go_enter Tryd.func5, Tryd.ntmps5
  go_wp2_with fail
  refine HD.out.mono ?_
  rintro e w1 ⟨nv, rv, g, s, na, ra, rfl, hoa, hda, b1⟩
  obtain ⟨A1, c1, B1, d1, rfl, rfl⟩ := hoa.form
  obtain ⟨ok, N, R, hL⟩ := GrpIs.ex na ra g s
  obtain ⟨l1, hl1⟩ : ∃ n, na.length = n := ⟨_, rfl⟩
  obtain ⟨l2, hl2⟩ : ∃ n, ra.length = n := ⟨_, rfl⟩
  obtain ⟨nN, hNN⟩ : ∃ n, N.length = n := ⟨_, rfl⟩
  obtain ⟨nR, hRR⟩ : ∃ n, R.length = n := ⟨_, rfl⟩
  have SA := Lib.hid hda.smallG
  have SN := Lib.hid (hL.small hda.smallG)
  have HL := Lib.hid hL
  have HBD := Lib.hid hda.r1
  rw [hl1, hl2] at hoa ⊢
  have HNR := Lib.hid (And.intro hNN hRR)
  have HLL := Lib.hid (And.intro hl1 hl2)
  clear hL hNN hRR hl1 hl2 hda HD
  have hqq : (ok != ok) = false := by cases ok <;> rfl
  obtain ⟨w2, hw2⟩ : ∃ w2, w2 = w1.alloc (.cells #[.slice A1 l1 c1, .slice B1 l2 d1] 26) := ⟨_, rfl⟩
  have b2 : Below w1.heap.size w1 w2 := by rw [hw2]; exact (Below.refl _ _).alloc (Nat.le_refl _) _
  have k2 : Blk w2 w1.heap.size 26 #[.slice A1 l1 c1, .slice B1 l2 d1] := by rw [hw2]; exact Blk.new _ _ _
  have B2' := Lib.hid (b1.trans (b2.mono b1.size))
  have P2 := Lib.hid (fun (wr : World) (hb : Below w2.heap.size w2 wr) => And.intro (k2.below hb k2.lt) ((hoa.below b2).below hb).tabC.tabR)
  have IM := Lib.hid (implGroup_any _ na ra g s ok N R HL.out RA RC w2 (RV.out w2 B2'.out).1 (RV.out w2 B2'.out).2 (P2.out w2 (Below.refl _ _)).2 SA.out)
  have HW2 := Lib.hid hw2
  clear k2 hoa b2
  go_wp2_with fail
  rw [← HW2.out]
  clear hw2 HW2
  refine IM.out.mono ?_
  rintro e w3 hres
  obtain ⟨A3, c3, B3, d3, rfl, o3, b3⟩ := TabRes.form hres
  rw [HNR.out.1, HNR.out.2] at o3 ⊢
  clear hres IM
  obtain ⟨w4, hw4⟩ : ∃ w4, w4 = w3.alloc (.cells #[.slice A3 nN c3, .slice B3 nR d3] 26) := ⟨_, rfl⟩
  have b4 : Below w3.heap.size w3 w4 := by rw [hw4]; exact (Below.refl _ _).alloc (Nat.le_refl _) _
  have k4 : Blk w4 w3.heap.size 26 #[.slice A3 nN c3, .slice B3 nR d3] := by rw [hw4]; exact Blk.new _ _ _
  have b24 := Lib.hid (b3.trans (b4.mono b3.size))
  have T4 := Lib.hid (fun (wr : World) (hb : Below w4.heap.size w4 wr) => And.intro (k4.below hb k4.lt) ((o3.below b4).below hb).reads)
  have x0 := (P2.out w4 b24.out).1.cell 0
  have x1 := (P2.out w4 b24.out).1.cell 1
  simp at x0 x1
  have SP := Lib.hid (specGroup_any _ na ra g s ok N R HL.out w4 (P2.out w4 b24.out).2 SA.out)
  have HW4 := Lib.hid hw4
  rw [hw4] at x0 x1
  clear k4 o3 b4 b3
  go_wp2_with fail
  rw [← HW4.out]
  clear hw4 HW4 x0 x1
  refine SP.out.mono ?_
  rintro e w5 hres
  obtain ⟨A5, c5, B5, d5, rfl, o5, b5⟩ := TabRes.form hres
  rw [HNR.out.1, HNR.out.2] at o5 ⊢
  clear hres SP
  obtain ⟨w6, hw6⟩ : ∃ w6, w6 = w5.alloc (.cells #[.slice A5 nN c5, .slice B5 nR d5] 26) := ⟨_, rfl⟩
  have b6 : Below w5.heap.size w5 w6 := by rw [hw6]; exact (Below.refl _ _).alloc (Nat.le_refl _) _
  have k6 : Blk w6 w5.heap.size 26 #[.slice A5 nN c5, .slice B5 nR d5] := by rw [hw6]; exact Blk.new _ _ _
  have b46 := Lib.hid (b5.trans (b6.mono b5.size))
  have x0 := (T4.out w6 b46.out).1.cell 0
  have x1 := (T4.out w6 b46.out).1.cell 1
  have y0 := k6.cell 0
  have y1 := k6.cell 1
  simp at x0 x1 y0 y1
  have EQ := Lib.hid (sameTable_yes _ _ N R w6 (T4.out w6 b46.out).2 ((o5.below b6).reads) SN.out.ok)
  have HW6 := Lib.hid hw6
  rw [hw6] at x0 x1 y0 y1
  clear k6 o5 b6 b5
  go_wp2_with fail
  rw [← HW6.out]
  clear hw6 HW6 x0 x1 y0 y1
  refine EQ.out.mono ?_
  rintro e w7 ⟨rfl, b7⟩
  have b47 := Lib.hid (b46.out.trans (b7.mono b46.out.size))
  have b27 := Lib.hid (b24.out.trans (b47.out.mono b24.out.size))
  have B7 := Lib.hid (B2'.out.trans (b27.out.mono B2'.out.size))
  clear EQ b7 b46
  cases hok : ok with
  | false =>
    subst hok
    obtain ⟨rfl, rfl⟩ : N = [] ∧ R = [] := by obtain ⟨_, _, _, h1, h2⟩ := HL.out; exact ⟨h1, h2⟩
    obtain rfl : nN = 0 := HNR.out.1.symm
    have x0 := (T4.out w7 b47.out).1.cell 0
    simp at x0
    have AL := Lib.hid (alive_yes RA RC w7 (RV.out w7 B7.out).1 (RV.out w7 B7.out).2)
    go_wp2_with fail
    refine AL.out.mono ?_
    rintro e w' ⟨rfl, rfl⟩
    go_wp2_with fail
    go_ret
    exact ⟨rfl, B7.out⟩
  | true =>
    subst hok
    obtain ⟨htb, hhs, hrv, hRr, hR17, hasc, hS1, hS2⟩ := grp_rows HL.out HBD.out
    have hcl := colN_is hhs
    have hcb := colN_lt hhs
    obtain ⟨cs, hcs⟩ : ∃ x, colN na s = x := ⟨_, rfl⟩
    rw [hcs] at hcl hcb hrv hS2
    rw [HLL.out.1] at hcb
    rw [HLL.out.2] at hS1
    rw [HNR.out.2] at hR17
    have hl17 := HBD.out
    rw [HLL.out.2] at hl17
    obtain ⟨S, hS⟩ : ∃ S : Nat → Int, ∀ k, S k = ((ra.take k).map fun r => r.getD cs 0).sum := ⟨_, fun _ => rfl⟩
    obtain ⟨C, hC⟩ : ∃ S : Nat → Int, ∀ k, S k = ((R.take k).map fun r => r.getD 1 0).sum := ⟨_, fun _ => rfl⟩
    obtain ⟨Z, hZ⟩ : ∃ S : Nat → Int, ∀ k, S k = ((R.take k).map fun r => r.getD 2 0).sum := ⟨_, fun _ => rfl⟩
    have HSb := Lib.hid (fun k => show -34000000 ≤ S k ∧ S k ≤ 34000000 by rw [hS]; have := sumG_take (b := 17) HBD.out hrv k; omega)
    have HCb := Lib.hid (fun k => show -34000000 ≤ C k ∧ C k ≤ 34000000 by
      rw [hC]
      have := sumG_take (b := 17) (rows := R) (f := fun r => r.getD 1 0) (by rw [HNR.out.2]; exact hR17) (fun r hr => by obtain ⟨x, y, z, rfl, h1, h2, _⟩ := hRr r hr; show -2000000 ≤ y ∧ y ≤ 2000000; omega) k
      omega)
    have HZb := Lib.hid (fun k => show -34000000 ≤ Z k ∧ Z k ≤ 34000000 by
      rw [hZ]
      have := sumG_take (b := 17) (rows := R) (f := fun r => r.getD 2 0) (by rw [HNR.out.2]; exact hR17) (fun r hr => by obtain ⟨x, y, z, rfl, h1, h2, h3, h4⟩ := hRr r hr; exact ⟨h3, h4⟩) k
      omega)
    have HSn := Lib.hid (fun (k : Nat) (r : List Int) (h : ra[k]? = some r) => show S (k + 1) = S k + r.getD cs 0 by rw [hS, hS]; exact sumG_next _ h)
    have HCn := Lib.hid (fun (k : Nat) (r : List Int) (h : R[k]? = some r) => show C (k + 1) = C k + r.getD 1 0 by rw [hC, hC]; exact sumG_next _ h)
    have HZn := Lib.hid (fun (k : Nat) (r : List Int) (h : R[k]? = some r) => show Z (k + 1) = Z k + r.getD 2 0 by rw [hZ, hZ]; exact sumG_next _ h)
    have S0 : S 0 = 0 := by rw [hS]; rfl
    have C0 : C 0 = 0 := by rw [hC]; rfl
    have Z0 : Z 0 = 0 := by rw [hZ]; rfl
    have HCe : Hid (C nR = (l2 : Int)) := Lib.hid (by rw [hC, List.take_of_length_le (by rw [HNR.out.2]; omega)]; exact hS1)
    have HZe : Hid (Z nR = S l2) := Lib.hid (by rw [hZ, hS, List.take_of_length_le (by rw [HNR.out.2]; omega), List.take_of_length_le (by rw [HLL.out.2]; omega)]; exact hS2)
    have HRr := Lib.hid hRr
    have HAS := Lib.hid hasc
    have HTB := Lib.hid htb
    have HCL := Lib.hid hcl
    have ST0 := Lib.hid S0
    have CT0 := Lib.hid (And.intro C0 Z0)
    have x0 := (P2.out w7 b27.out).1.cell 0
    have x1 := (P2.out w7 b27.out).1.cell 1
    simp at x0 x1
    have CC := Lib.hid (implCol_any true (cs : Int) _ na ra s RA RC w7 (RV.out w7 B7.out).1 (RV.out w7 B7.out).2 (P2.out w7 b27.out).2 SA.out.ok HTB.out HCL.out)
    clear hhs hrv hRr hasc hS1 hS2 hS hC hZ S0 C0 Z0 hcs hcl htb
    go_wp2_with fail
    clear x0 x1
    refine CC.out.mono ?_
    rintro e w8 ⟨rfl, b8⟩
    have B78 := Lib.hid b8
    clear CC b8
    go_wp2_with fail
    go_loopw [11, 12] (fun tv kv wr => ∃ k : Nat, k ≤ l2 ∧ kv = .int .i64 k ∧ tv = .int .i64 (S k) ∧ Hid (Below w7.heap.size w7 wr)) (fun _ i _ => l2 - (intOf i).toNat)
    case atStart => exact ⟨0, Nat.zero_le _, rfl, by rw [ST0.out], B78⟩
    case round =>
      obtain ⟨k, hk, rfl, rfl, hb⟩ := hrel
      obtain ⟨wi, rfl⟩ : ∃ x, x = wr := ⟨_, rfl⟩
      have T := P2.out wi (b27.out.trans (hb.out.mono b27.out.size))
      have t1 := T.1.cell 1
      simp at t1
      have hk0 : (0 : Int) ≤ (k : Int) := Int.natCast_nonneg _
      by_cases hlt : k < l2
      · have hk1 : (k : Int) < (l2 : Int) := by omega
        obtain ⟨ad, row, Ak, ck, rfl, hadb, hrow, e1, g1, g2, g3, rr⟩ := T.2.rowsG.at_ hlt
        have hrl : row.length = l1 := by rw [rows_len HTB.out (List.mem_of_getElem? hrow), HLL.out.1]
        obtain ⟨v, hv⟩ : ∃ x, row[cs]? = some x := ⟨_, List.getElem?_eq_getElem (by omega)⟩
        obtain ⟨rd, rfl, hrb, q1⟩ := in_cell (k := cs) (x := v) rr hv rfl
        have hnx := HSn.out k row hrow
        have hvd : row.getD cs 0 = v := by rw [List.getD_eq_getElem?_getD, hv]; rfl
        rw [hvd] at hnx
        have hb1 := HSb.out (k + 1)
        rw [hnx] at hb1
        have HNX := Lib.hid hnx
        rw [hrl] at e1
        have hc1 : (0 : Int) ≤ (cs : Int) := Int.natCast_nonneg _
        have hc2 : (cs : Int) < (l1 : Int) := by omega
        have hd1 : decide ((cs : Int) < 0) = false := by simp
        have hd3 : decide ((l1 : Int) ≤ (cs : Int)) = false := by simp; omega
        have hw1 : IntKind.i64.wrap (S k + v) = S k + v := IntWalk.i64_in _ (by omega)
        clear hrow hv rr hrb hadb T g1 g2 g3 hnx hb1 hvd
        go_wp2_with fail
        go_roundw
        case rel => exact ⟨k + 1, by omega, by go_num, by rw [HNX.out], Lib.hid hb.out⟩
        case measure => simp [intOf]; omega
      · have hkn : ¬ (k : Int) < (l2 : Int) := by omega
        obtain rfl : l2 = k := by omega
        have BK := hb
        clear T
        go_wp2_with fail
        clear t1
        go_loopw [13, 14, 15] (fun cv sv iv wr => ∃ i : Nat, i ≤ nR ∧ iv = .int .i64 i ∧ cv = .int .i64 (C i) ∧ sv = .int .i64 (Z i) ∧ Hid (Below w7.heap.size w7 wr)) (fun _ _ i _ => nR - (intOf i).toNat)
        case atStart => exact ⟨0, Nat.zero_le _, rfl, by rw [CT0.out.1], by rw [CT0.out.2], BK⟩
        case round =>
          obtain ⟨i, hi, rfl, rfl, rfl, hbi⟩ := hrel
          obtain ⟨wj, rfl⟩ : ∃ x, x = wr := ⟨_, rfl⟩
          have T := T4.out wj (b47.out.trans (hbi.out.mono b47.out.size))
          have t1 := T.1.cell 1
          simp at t1
          have hi0 : (0 : Int) ≤ (i : Int) := Int.natCast_nonneg _
          by_cases hlt : i < nR
          · have hi1 : (i : Int) < (nR : Int) := by omega
            obtain ⟨ad, row, Ak, ck, rfl, hadb, hrow, e1, g1, g2, g3, rr⟩ := T.2.rowsG.at_ hlt
            obtain ⟨x, y, z, rfl, hy1, hy2, hz1, hz2⟩ := HRr.out row (List.mem_of_getElem? hrow)
            obtain ⟨rd, rfl, hrb, q0⟩ := in_cell (k := 0) (x := x) rr rfl rfl
            obtain ⟨rd', erd, _, q1⟩ := in_cell (k := 1) (x := y) rr rfl rfl
            obtain rfl := Option.some.inj erd
            obtain ⟨rd', erd2, _, q2⟩ := in_cell (k := 2) (x := z) rr rfl rfl
            obtain rfl := Option.some.inj erd2
            have s0 : wj.cell? rd = some (.int .i64 x) := by simpa [Addr.add_zero'] using q0
            have s1 : wj.cell? ⟨rd.block, rd.off + 1, none⟩ = some (.int .i64 y) := q1
            have s2 : wj.cell? ⟨rd.block, rd.off + 2, none⟩ = some (.int .i64 z) := q2
            have hcn := HCn.out i _ hrow
            have hzn := HZn.out i _ hrow
            have hb1 := HCb.out (i + 1)
            have hb2 := HZb.out (i + 1)
            rw [hcn] at hb1
            rw [hzn] at hb2
            have HCX : Hid (C (i + 1) = C i + y) := Lib.hid hcn
            have HZX : Hid (Z (i + 1) = Z i + z) := Lib.hid hzn
            have hb1' : -34000000 ≤ C i + y ∧ C i + y ≤ 34000000 := hb1
            have hb2' : -34000000 ≤ Z i + z ∧ Z i + z ≤ 34000000 := hb2
            have hw1 : IntKind.i64.wrap (C i + y) = C i + y := IntWalk.i64_in _ (by omega)
            have hw2 : IntKind.i64.wrap (Z i + z) = Z i + z := IntWalk.i64_in _ (by omega)
            have hdy : decide (y < 1) = false := by simp; omega
            have e2 : wj.cell? (ad.add i) = some (.slice (some rd) 3 ck) := e1
            clear e1
            have HROW := Lib.hid hrow
            clear q0 q1 q2 rr erd erd2 hrb hcn hzn hb1 hb2 hrow g1 g2 g3
            rcases Nat.eq_zero_or_pos i with hz | hpos
            · have hdi : decide ((0 : Int) < (i : Int)) = false := by simp; omega
              have hdi2 : decide (0 < i) = false := by simp; omega
              clear T hadb hz
              go_wp2_with fail
              go_quiet (fail)
              go_wp2_with fail
              go_roundw
              case rel => exact ⟨i + 1, by omega, by go_num, by rw [HCX.out], by rw [HZX.out], Lib.hid (below_drewN' hbi.out _)⟩
              case measure => simp [intOf]; omega
            · have hdi : decide ((0 : Int) < (i : Int)) = true := by simp; omega
              obtain ⟨j, hj⟩ : ∃ j, i = j + 1 := ⟨i - 1, by omega⟩
              have hjn : j < nR := by omega
              obtain ⟨ad', row', Ak', ck', ead, _, hrow', e1', _, _, _, rr'⟩ := T.2.rowsG.at_ hjn
              obtain rfl := Option.some.inj ead
              obtain ⟨x', y', z', rfl, _, _, _, _⟩ := HRr.out row' (List.mem_of_getElem? hrow')
              obtain ⟨rp, rfl, _, q0⟩ := in_cell (k := 0) (x := x') rr' rfl rfl
              have s3 : wj.cell? rp = some (.int .i64 x') := by simpa [Addr.add_zero'] using q0
              have hlt' := HAS.out j _ _ hrow' (by rw [← hj]; exact HROW.out)
              have hlt2 : x' < x := hlt'
              have hdx : decide (x ≤ x') = false := by simp; omega
              have hwj : IntKind.i64.wrap ((i : Int) - 1) = (j : Int) := by rw [IntWalk.i64_in _ (by omega)]; omega
              have hj0 : (0 : Int) ≤ (j : Int) := Int.natCast_nonneg _
              have hj1 : (j : Int) < (nR : Int) := by omega
              have e3 : wj.cell? (ad.add j) = some (.slice (some rp) 3 ck') := e1'
              clear e1'
              clear T hadb hj q0 rr' hrow' hlt' ead
              go_wp2_with fail
              go_quiet (fail)
              go_wp2_with fail
              go_roundw
              case rel => exact ⟨i + 1, by omega, by go_num, by rw [HCX.out], by rw [HZX.out], Lib.hid (below_drewN' hbi.out _)⟩
              case measure => simp [intOf]; omega
          · have hin : ¬ (i : Int) < (nR : Int) := by omega
            obtain rfl : nR = i := by omega
            have p1 := (P2.out wj (b27.out.trans (hbi.out.mono b27.out.size))).1.cell 1
            simp at p1
            have ce := HCe.out
            have ze := HZe.out
            have BJ := Lib.hid (B7.out.trans (hbi.out.mono B7.out.size))
            clear T
            go_wp2_with fail
            go_ret
            exact ⟨rfl, BJ.out⟩
end Go.Proofs.YtijpdekcdejfmaaDoor
