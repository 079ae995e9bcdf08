/- spec.DrawLimitRows. -/
import Derived.Test.YtbhklgiecfcfcaaDoorFnTable
import Derived.Test.YtbhklgiecfcfcaaDoorTypedL
namespace Go.Proofs.YtbhklgiecfcfcaaDoor
open Go Go.RowKit
set_option maxRecDepth 100000
/-- The blocks that the region may change: the reader's, the result's. -/
def ND (R D : Nat) (k : Nat) : Prop := k = R ∨ k = D
def PkL (D : Nat) (F0 F1 : Value) (w : World) : Prop := Blk w D 26 #[F0, F1]
def IntR (v : Value) (_ : World) : Prop := ∃ x : Int, v = .int .i64 x ∧ -1 ≤ x ∧ x ≤ 257
theorem intR_stable {S : World → World → Prop} : Stable S IntR := fun _ _ _ h _ => h
theorem wp_valL {P : Program} {o : Oper} {a : Act} {w : World} {K : Act → World → Prop} {Q : Exit → Act → World → Prop} {v : Value} (h : (execOp a.eval o).run P w = .ok (.value v) w) (hk : K (a.put o.dst v) w) : o.wp P a w K Q := by
  unfold Oper.wp
  rw [h]
  exact hk
theorem okL {P : Program} {ops : Array Oper} {Q : Exit → Act → World → Prop} {a0 : Act} {V : Nat → Value → Act → World → Prop} {S : Nat → World → World → Prop} {C : Nat → Array Bool → World → Prop} {i : Nat} {o : Oper} (hg : o.guard = none)
    (h : ∀ (f : Nat) (listed : Array Bool) (a : Act) (w : World), Lst ops i o f listed → C (f + 1) listed w → a.tmps.size = a0.tmps.size → (∀ t, (∀ j, j < ops.size → dstOf ops j ≠ some t) → a.tmps.getD t undef = a0.tmps.getD t undef) → (∀ e ∈ o.after.toList, isVal e.ground = true → Held ops V e.on a w) →
      o.wp P a w (fun a' w' => ∃ v, a' = a.put o.dst v ∧ V i v (a.put o.dst v) w' ∧ S i w w' ∧ C f (listed.setIfInBounds i true) w') Q) : OpOkGL P ops Q a0 V S C i o :=
  fun f listed a w hl hc hs hr hh => ⟨fun _ => h f listed a w hl hc hs hr hh, fun hw => by unfold Region.wanted at hw; rw [hg] at hw; cases hw⟩
/-- The class: credits till the store (operation K), the result's block behind it. -/
structure ClL (R B D T K : Nat) (F0 F1 : Value) (w0 wT : World) (f : Nat) (listed : Array Bool) (w : World) : Prop where
  rc : listed.getD K true = false → Rc w R (B + f)
  lr : R < w.heap.size
  bel : Below w0.heap.size w0 w
  chg : Chg (ND R D) wT w
  blk : ∃ x y, Blk w D 26 #[x, y]
  tab : Blk w T 26 #[F0, F1]
  neR : T ≠ R
  neD : T ≠ D
  done : listed.getD K false = true → PkL D F0 F1 w
section
variable {R B D T K f i : Nat} {F0 F1 : Value} {w0 wT w w' : World} {listed : Array Bool}
theorem ClL.lt (h : ClL R B D T K F0 F1 w0 wT f listed w) : ¬ ND R D w.heap.size := by
  obtain ⟨x, y, hb⟩ := h.blk
  have h1 := hb.lt
  have h2 := h.lr
  unfold ND; omega
theorem ClL.step0 (hi : i ≠ K) (h : ClL R B D T K F0 F1 w0 wT (f + 1) listed w) : ClL R B D T K F0 F1 w0 wT f (listed.setIfInBounds i true) w :=
  ⟨fun e => (h.rc (by rwa [set_ne hi] at e)).less (by omega), h.lr, h.bel, h.chg, h.blk, h.tab, h.neR, h.neD, fun e => h.done (by rwa [set_ne hi] at e)⟩
theorem ClL.alloc (hi : i ≠ K) (h : ClL R B D T K F0 F1 w0 wT (f + 1) listed w) (ob : Obj) : ClL R B D T K F0 F1 w0 wT f (listed.setIfInBounds i true) (w.alloc ob) := by
  obtain ⟨x, y, hb⟩ := h.blk
  exact ⟨fun e => ((h.rc (by rwa [set_ne hi] at e)).less (by omega)).alloc ob, by have := h.lr; simp; omega, h.bel.alloc h.bel.size ob, h.chg.alloc ob, ⟨x, y, hb.alloc ob⟩, h.tab.alloc ob, h.neR, h.neD, fun e => Blk.alloc (h.done (by rwa [set_ne hi] at e)) ob⟩
theorem ClL.pick (hi : i ≠ K) (hR : w0.heap.size ≤ R) (hDR : D ≠ R) (ho : listed.getD K true = false) (hr : Rc w' R (B + f)) (ht : Touch R (R + 1) w w') (h : ClL R B D T K F0 F1 w0 wT (f + 1) listed w) : ClL R B D T K F0 F1 w0 wT f (listed.setIfInBounds i true) w' := by
  obtain ⟨x, y, hb⟩ := h.blk
  exact ⟨fun _ => hr, hr.lt, ht.below h.bel hR, h.chg.trans (Chg.of_pick ht (.inl rfl)), ⟨x, y, ht.blk hb (by omega)⟩, ht.blk h.tab (by have := h.neR; omega), h.neR, h.neD, fun e => by
    rw [set_ne hi] at e
    rw [getD_true e] at ho
    cases ho⟩
theorem ClL.store (hp : Blk ((w.setCell ⟨D, 0, none⟩ F0).setCell ⟨D, 1, none⟩ F1) D 26 #[F0, F1]) (hD : w0.heap.size ≤ D) (hK : K < listed.size) (h : ClL R B D T K F0 F1 w0 wT (f + 1) listed w) : ClL R B D T K F0 F1 w0 wT f (listed.setIfInBounds K true) ((w.setCell ⟨D, 0, none⟩ F0).setCell ⟨D, 1, none⟩ F1) := by
  have tt : Touch D (D + 1) w ((w.setCell ⟨D, 0, none⟩ F0).setCell ⟨D, 1, none⟩ F1) := ((Touch.refl _ _ _).setCell (p := ⟨D, 0, none⟩) (Or.inl ⟨Nat.le_refl _, Nat.lt_succ_self _⟩) _).setCell (p := ⟨D, 1, none⟩) (Or.inl ⟨Nat.le_refl _, Nat.lt_succ_self _⟩) _
  exact ⟨fun e => by simp [Array.getD, hK] at e, Nat.lt_of_lt_of_le h.lr tt.size, (h.bel.setCell (p := ⟨D, 0, none⟩) hD _).setCell (p := ⟨D, 1, none⟩) hD _, (h.chg.trans (Chg.setCell _ (.inr rfl) _)).trans (Chg.setCell _ (.inr rfl) _), ⟨_, _, hp⟩, tt.blk h.tab (by have := h.neD; omega), h.neR, h.neD, fun _ => hp⟩
end
def limV (R D : Nat) (F0 F1 : Value) (i : Nat) (v : Value) (w : World) : Prop := match i with
  | 0 => v = .agg #[F0, F1]
  | 1 | 5 => v = .pointer (some ⟨R, 0, none⟩)
  | 2 | 6 => NatB 7 v w
  | 3 => RowB (ND R D) 3 IntR 4 v w
  | 4 => RowB (ND R D) 3 (NatB 4) 7 v w
  | 7 => AddB (ND R D) (NatB 4) v w
  | 8 => NatB 4 v w
  | 9 => AddB (ND R D) IntR v w
  | 10 | 12 => IntR v w
  | _ => True
theorem limV_stable {R D : Nat} {F0 F1 : Value} : ∀ i v w w', limV R D F0 F1 i v w → Mv (ND R D) (fun _ => True) w w' → limV R D F0 F1 i v w' := by
  intro i v w w' hv hs
  unfold limV at hv ⊢
  split at hv <;> first | exact hv | exact rowB_stable intR_stable v w w' hv hs | exact rowB_stable natB_stable v w w' hv hs | exact addB_stable natB_stable v w w' hv hs | exact addB_stable intR_stable v w w' hv hs
/-- What a drawing of a table and a number leaves. -/
def DrewTabInt (w : World) (e : Ending) (w' : World) : Prop := ∃ (nv rv : Value) (x : Int) (names : List ByteArray) (rows : List (List Int)), e = .returned (.tuple #[.agg #[nv, rv], .int .i64 x]) ∧ -1 ≤ x ∧ x ≤ 257 ∧ TabO w' w.heap.size (.agg #[nv, rv]) names rows ∧ DrawnT names rows ∧ Below w.heap.size w w'
set_option maxHeartbeats 1600000 in
theorem drawLimit_any (A : Option Addr) (n c : Nat) (xs : List UInt8) (w : World) (hx : Reads w w.heap.size 1 A n (byCells xs)) (hl : xs.length = n) (hn : n ≤ 1048576) (hc : n ≤ c) (hc2 : c ≤ maxLen) :
    Calls Tryd.prog 6 #[.slice A n c] w (DrewTabInt w) := by
  obtain ⟨ii, hii, hiz, his', iib⟩ := info_parts infoInt
  have HO := Lib.hid (fun (w' : World) (hb : Below w.heap.size w w') => open_c A n c xs w' ((hx.below hb).more hb.size) hl hn hc hc2)
  clear hx hl
  go_enter Tryd.func6, Tryd.ntmps6
  go_wp2_with fail
  obtain ⟨w0, hw0⟩ : ∃ w0, w0 = w.alloc (.cells #[.slice none 0 0, .slice none 0 0] 26) := ⟨_, rfl⟩
  have b0 : Below w.heap.size w w0 := by rw [hw0]; exact (Below.refl _ _).alloc (Nat.le_refl _) _
  have k0 : Blk w0 w.heap.size 26 #[.slice none 0 0, .slice none 0 0] := by rw [hw0]; exact Blk.new _ _ _
  rw [← hw0]
  clear hw0
  refine (HO.out w0 b0).mono ?_
  rintro e w1 ⟨rfl, r1, b1, -⟩
  have hk0 := k0.lt
  have k1 := k0.below b1 hk0
  have B1 := b0.trans (b1.mono b0.size)
  go_wp2_with fail
  refine (table_c _ 50 0 9 _ (r1.less (by omega)) (by omega) (by omega)).mono ?_
  rintro e w3 ⟨nv, rv, names, rows, rfl, ho, hd, r3, t3⟩
  have k3 := t3.blk k1 (by omega)
  have hsz3 : w1.heap.size ≤ w3.heap.size := t3.size
  have hsz1 : w0.heap.size + 1 ≤ w1.heap.size := r1.lt
  have B3 := t3.below B1 (by omega)
  obtain ⟨A4, c4, A5, c5, rfl, rfl⟩ := ho.form
  go_wp2_with fail
  obtain ⟨w5, hw5⟩ : ∃ w5, w5 = w3.alloc (.cells #[.slice A4 names.length c4, .slice A5 rows.length c5] 26) := ⟨_, rfl⟩
  have b5 : Below w3.heap.size w3 w5 := by rw [hw5]; exact (Below.refl _ _).alloc (Nat.le_refl _) _
  have k5 : Blk w5 w3.heap.size 26 #[.slice A4 names.length c4, .slice A5 rows.length c5] := by rw [hw5]; exact Blk.new _ _ _
  rw [← hw5]
  clear hw5
  have r5 := r3.below b5
  have o5 := ho.below b5
  have k53 := k3.below b5 k3.lt
  have B5 := B3.trans (b5.mono B3.size)
  have hwR : w.heap.size ≤ w0.heap.size := b0.size
  have hDR : w.heap.size ≠ w0.heap.size := by omega
  have hwD : w.heap.size ≤ w.heap.size := Nat.le_refl _
  have CI := Lib.hid (show ClL w0.heap.size 20 w.heap.size w3.heap.size 11 (.slice A4 names.length c4) (.slice A5 rows.length c5) w w5 13 (Array.replicate 13 false) w5.drew from ⟨fun _ => r5.drew.less (by omega), r5.lt, B5.drew, ⟨Nat.le_refl _, fun _ _ _ => rfl⟩, ⟨_, _, k53.drew⟩, k5.drew, by omega, by omega, fun e => by simp at e⟩)
  refine wp_region_typedGL (by kernel_rfl) (fun i => i == 12) (lift <| limV w0.heap.size w.heap.size (.slice A4 names.length c4) (.slice A5 rows.length c5)) (fun _ => Mv (ND w0.heap.size w.heap.size) (fun _ => True)) (ClL w0.heap.size 20 w.heap.size w3.heap.size 11 (.slice A4 names.length c4) (.slice A5 rows.length c5) w w5) (by kernel_rfl) (stab limV_stable) ?_ ?_ ?_ (by kernel_rfl) ?_
  · exact dst_lt (n := 21) (by kernel_rfl)
  · exact CI.out
  · refine ok_all ⟨?_, ?_, ?_, ?_, ?_, ?_, ?_, ?_, ?_, ?_, ?_, ?_, ?_, trivial⟩
    · refine okL rfl ?_
      intro f listed a w' hl hc hs hr hh
      have h0 : a.tmps.getD 5 undef = .pointer (some ⟨w3.heap.size, 0, none⟩) := hr 5 (not_dst (by kernel_rfl))
      have h0' : a.tmps[5]?.getD undef = .pointer (some ⟨w3.heap.size, 0, none⟩) := by simpa using h0
      have y0 := hc.tab.cell 0
      have y1 := hc.tab.cell 1
      simp at y0 y1
      exact wp_valL (v := .agg #[(.slice A4 names.length c4), (.slice A5 rows.length c5)]) (by simp [execOp, go_sem, Act.eval, h0', y0, y1]) ⟨_, rfl, rfl, Mv.refl _, hc.step0 (by decide)⟩
    · refine okL rfl ?_
      intro f listed a w' hl hc hs hr hh
      have h0 : a.tmps.getD 4 undef = .pointer (some ⟨w0.heap.size, 0, none⟩) := hr 4 (not_dst (by kernel_rfl))
      exact op_move rfl ⟨_, rfl, h0, Mv.refl _, hc.step0 (by decide)⟩
    · refine okL rfl ?_
      intro f listed a w' hl hc hs hr hh
      obtain ⟨_, rfl, h1⟩ := hh ⟨1, .data⟩ (by simp) rfl
      have h1 := h1 11 rfl
      have hop := hl.up (k := 11) rfl ⟨6, .chain⟩ (by simp) rfl (hl.up (k := 6) rfl ⟨2, .chain⟩ (by simp) rfl hl.here)
      refine op_call Tryd.func23 (by kernel_rfl) rfl rfl ?_
      rw [show #[Operand.tmp 11, Operand.const (Value.int .i64 7)].map a.eval = #[.pointer (some ⟨w0.heap.size, 0, none⟩), .int .i64 7] by simp [Act.eval]; simpa using h1]
      refine (pick_c w0.heap.size (20 + f) 7 w' ((hc.rc hop).less (by omega)) (by decide)).mono ?_
      rintro e w3 ⟨x, rfl, hx, h2, h3, _⟩
      exact ⟨_, rfl, _, rfl, ⟨x, rfl, by omega⟩, ⟨Chg.of_pick h3 (.inl rfl), fun _ => trivial⟩, hc.pick (by decide) hwR hDR hop h2 h3⟩
    · refine okL rfl ?_
      intro f listed a w' hl hc hs hr hh
      obtain ⟨_, ⟨x0, rfl, hx0⟩, h0⟩ := hh ⟨2, .data⟩ (by simp) rfl
      have h0 := h0 12 rfl
      refine wp_buildSlice 49 3 4 _ rfl #[.int .i64 (x0 : Int), .int .i64 16, .int .i64 17, .int .i64 (-1)] ii _ Tryd.underlying49 hii hiz (by rw [his']; decide) (by rw [his']; decide) ?_ ⟨_, rfl, ⟨w'.heap.size, [.int .i64 (x0 : Int), .int .i64 16, .int .i64 17, .int .i64 (-1)], rfl, hc.lt, Blk.new _ _ _, rfl, ?_⟩, ⟨(Chg.refl _).alloc _, fun _ => trivial⟩, hc.alloc (by decide) _⟩
      · rw [his']
        simp only [List.map_toArray, List.map_cons, List.map_nil, Act.eval, h0]
        kernel_rfl
      · intro u hu
        simp only [List.mem_cons, List.not_mem_nil, or_false] at hu
        rcases hu with rfl | rfl | rfl | rfl
        · exact ⟨(x0 : Int), rfl, by omega, by omega⟩
        · exact ⟨16, rfl, by decide, by decide⟩
        · exact ⟨17, rfl, by decide, by decide⟩
        · exact ⟨-1, rfl, by decide, by decide⟩
    · refine okL rfl ?_
      intro f listed a w' hl hc hs hr hh
      refine wp_buildSlice 49 3 7 _ rfl #[.int .i64 0, .int .i64 0, .int .i64 0, .int .i64 0, .int .i64 1, .int .i64 2, .int .i64 3] ii _ Tryd.underlying49 hii hiz (by rw [his']; decide) (by rw [his']; decide) ?_ ⟨_, rfl, ⟨w'.heap.size, [.int .i64 0, .int .i64 0, .int .i64 0, .int .i64 0, .int .i64 1, .int .i64 2, .int .i64 3], rfl, hc.lt, Blk.new _ _ _, rfl, ?_⟩, ⟨(Chg.refl _).alloc _, fun _ => trivial⟩, hc.alloc (by decide) _⟩
      · rw [his']
        simp only [List.map_toArray, List.map_cons, List.map_nil, Act.eval]
        kernel_rfl
      · intro u hu
        simp only [List.mem_cons, List.not_mem_nil, or_false] at hu
        rcases hu with rfl | rfl | rfl | rfl | rfl | rfl | rfl
        · exact ⟨0, rfl, by decide⟩
        · exact ⟨0, rfl, by decide⟩
        · exact ⟨0, rfl, by decide⟩
        · exact ⟨0, rfl, by decide⟩
        · exact ⟨1, rfl, by decide⟩
        · exact ⟨2, rfl, by decide⟩
        · exact ⟨3, rfl, by decide⟩
    · refine okL rfl ?_
      intro f listed a w' hl hc hs hr hh
      have h0 : a.tmps.getD 4 undef = .pointer (some ⟨w0.heap.size, 0, none⟩) := hr 4 (not_dst (by kernel_rfl))
      exact op_move rfl ⟨_, rfl, h0, Mv.refl _, hc.step0 (by decide)⟩
    · refine okL rfl ?_
      intro f listed a w' hl hc hs hr hh
      obtain ⟨_, rfl, h1⟩ := hh ⟨5, .data⟩ (by simp) rfl
      have h1 := h1 15 rfl
      have hop := hl.up (k := 11) rfl ⟨6, .chain⟩ (by simp) rfl hl.here
      refine op_call Tryd.func23 (by kernel_rfl) rfl rfl ?_
      rw [show #[Operand.tmp 15, Operand.const (Value.int .i64 7)].map a.eval = #[.pointer (some ⟨w0.heap.size, 0, none⟩), .int .i64 7] by simp [Act.eval]; simpa using h1]
      refine (pick_c w0.heap.size (20 + f) 7 w' ((hc.rc hop).less (by omega)) (by decide)).mono ?_
      rintro e w3 ⟨x, rfl, hx, h2, h3, _⟩
      exact ⟨_, rfl, _, rfl, ⟨x, rfl, by omega⟩, ⟨Chg.of_pick h3 (.inl rfl), fun _ => trivial⟩, hc.pick (by decide) hwR hDR hop h2 h3⟩
    · refine okL rfl ?_
      intro f listed a w' hl hc hs hr hh
      obtain ⟨_, ⟨g, vs, rfl, hg, hb, hln, hq⟩, h1⟩ := hh ⟨4, .data⟩ (by simp) rfl
      have h1 := h1 14 rfl
      obtain ⟨_, ⟨x, rfl, hx⟩, h2⟩ := hh ⟨6, .data⟩ (by simp) rfl
      have h2 := h2 16 rfl
      exact op_index (i := x) rfl Tryd.underlying49 (by kernel_rfl) h1 h2 hx ⟨_, rfl, rowB_at hg hb hln hq hx, Mv.refl _, hc.step0 (by decide)⟩
    · refine okL rfl ?_
      intro f listed a w' hl hc hs hr hh
      obtain ⟨_, ⟨ad, u, rfl, _, hcell, hq⟩, h1⟩ := hh ⟨7, .data⟩ (by simp) rfl
      have h1 := h1 17 rfl
      exact op_load rfl h1 hcell (by simp [go_sem]) ⟨_, rfl, hq, Mv.refl _, hc.step0 (by decide)⟩
    · refine okL rfl ?_
      intro f listed a w' hl hc hs hr hh
      obtain ⟨_, ⟨g, vs, rfl, hg, hb, hln, hq⟩, h1⟩ := hh ⟨3, .data⟩ (by simp) rfl
      have h1 := h1 13 rfl
      obtain ⟨_, ⟨x, rfl, hx⟩, h2⟩ := hh ⟨8, .data⟩ (by simp) rfl
      have h2 := h2 18 rfl
      exact op_index (i := x) rfl Tryd.underlying49 (by kernel_rfl) h1 h2 hx ⟨_, rfl, rowB_at hg hb hln hq hx, Mv.refl _, hc.step0 (by decide)⟩
    · refine okL rfl ?_
      intro f listed a w' hl hc hs hr hh
      obtain ⟨_, ⟨ad, u, rfl, _, hcell, hq⟩, h1⟩ := hh ⟨9, .data⟩ (by simp) rfl
      have h1 := h1 19 rfl
      exact op_load rfl h1 hcell (by simp [go_sem]) ⟨_, rfl, hq, Mv.refl _, hc.step0 (by decide)⟩
    · refine okL rfl ?_
      intro f listed a w' hl hc hs hr hh
      obtain ⟨_, rfl, h1⟩ := hh ⟨0, .data⟩ (by simp) rfl
      have h1 := h1 10 rfl
      have h0 : a.tmps.getD 2 undef = .pointer (some ⟨w.heap.size, 0, none⟩) := hr 2 (not_dst (by kernel_rfl))
      have h0' : a.tmps[2]?.getD undef = .pointer (some ⟨w.heap.size, 0, none⟩) := by simpa using h0
      have h1' : a.tmps[10]?.getD undef = .agg #[(.slice A4 names.length c4), (.slice A5 rows.length c5)] := by simpa using h1
      obtain ⟨x, y, hD⟩ := hc.blk
      have y0 := hD.cell 0
      have y1 := hD.cell 1
      have f0 := hD.frozen 0
      have f1 := hD.frozen 1
      simp at y0 y1
      have hb' := (hD.set_ 0 (.slice A4 names.length c4)).set_ 1 (.slice A5 rows.length c5)
      simp at hb'
      unfold Oper.wp
      simp [execOp, h0', h1', go_sem, y0, y1, f0, f1, run_store, storeCells, Oper.upon]
      exact ⟨⟨undef, trivial⟩, ⟨(Chg.setCell _ (.inr rfl) _).trans (Chg.setCell _ (.inr rfl) _), fun _ => trivial⟩, hc.store hb' hwD (by rw [hl.size]; decide)⟩
    · refine okL rfl ?_
      intro f listed a w' hl hc hs hr hh
      obtain ⟨_, ⟨x, rfl, hx⟩, h1⟩ := hh ⟨10, .data⟩ (by simp) rfl
      have h1 := h1 20 rfl
      exact op_assign rfl ⟨_, rfl, ⟨x, h1, hx⟩, Mv.refl _, hc.step0 (by decide)⟩
  · intro a w' hs hd' hr hh hcl
    obtain ⟨listed, hall, hc⟩ := hcl
    have hP := hc.done (hall 11 (by decide))
    obtain ⟨_, ⟨x, rfl, hx1, hx2⟩, h3⟩ := hh 12 (by decide) rfl
    have h3 := h3 3 rfl
    have e2 : a.tmps.getD 2 undef = .pointer (some ⟨w.heap.size, 0, none⟩) := hr 2 (not_dst (by kernel_rfl))
    have ea : a = ⟨#[a.tmps.getD 0 undef, a.tmps.getD 1 undef, a.tmps.getD 2 undef, a.tmps.getD 3 undef, a.tmps.getD 4 undef, a.tmps.getD 5 undef, a.tmps.getD 6 undef, a.tmps.getD 7 undef, a.tmps.getD 8 undef, a.tmps.getD 9 undef, a.tmps.getD 10 undef, a.tmps.getD 11 undef, a.tmps.getD 12 undef, a.tmps.getD 13 undef, a.tmps.getD 14 undef, a.tmps.getD 15 undef, a.tmps.getD 16 undef, a.tmps.getD 17 undef, a.tmps.getD 18 undef, a.tmps.getD 19 undef, a.tmps.getD 20 undef], []⟩ := act_lit 21 hs hd'
    rw [e2, h3] at ea
    obtain ⟨U, hU⟩ : ∃ U : Nat → Value, ∀ i, a.tmps.getD i undef = U i := ⟨_, fun _ => rfl⟩
    simp only [hU] at ea
    have r0 := Blk.cell hP 0
    have r1 := Blk.cell hP 1
    simp at r0 r1
    have hTab : TabO w' w1.heap.size (.agg #[.slice A4 names.length c4, .slice A5 rows.length c5]) names rows := by
      obtain ⟨v0, v1, e, g0, vs, g1⟩ := o5
      have hnd : ∀ g, w1.heap.size ≤ g → ¬ ND w0.heap.size w.heap.size g := fun g hg => by unfold ND; omega
      exact ⟨v0, v1, e, hc.chg.own g0 (fun g e => hnd g (g0.lt g e).1), vs, (g1.block (fun g h1 hg _ => hc.chg.block g hg (hnd g h1))).wide hc.chg.size⟩
    have hB := hc.bel
    clear hs hd' hr hh hU e2 h3 hall hc hP CI
    subst ea
    go_wp2_with fail
    exact bodyPost_ret (v := .tuple #[.agg #[_, _], .int .i64 x]) (by simp [results, Tryd.results6, go_sem, r0, r1]) rfl ⟨_, _, x, names, rows, rfl, hx1, hx2, hTab.low (by omega), hd, hB⟩
def padtV (R D T : Nat) (F0 F1 : Value) (m : Nat) (i : Nat) (v : Value) (w : World) : Prop := match i with
  | 0 => v = .agg #[F0, F1]
  | 1 | 7 => v = .pointer (some ⟨T, 1, none⟩)
  | 2 | 8 => v = F1
  | 3 | 9 => v = .int .i64 (m : Int)
  | 4 | 10 | 14 => v = .pointer (some ⟨R, 0, none⟩)
  | 5 | 11 => NatB 9 v w
  | 6 => IntR v w
  | 12 => RowB (ND R D) 3 IntR 5 v w
  | 13 => RowB (ND R D) 3 (NatB 5) 7 v w
  | 15 => NatB 7 v w
  | 16 => AddB (ND R D) (NatB 5) v w
  | 17 => NatB 5 v w
  | 18 => AddB (ND R D) IntR v w
  | 19 | 21 => IntR v w
  | _ => True
theorem padtV_stable {R D T : Nat} {F0 F1 : Value} {m : Nat} : ∀ i v w w', padtV R D T F0 F1 m i v w → Mv (ND R D) (fun _ => True) w w' → padtV R D T F0 F1 m i v w' := by
  intro i v w w' hv hs
  unfold padtV at hv ⊢
  split at hv <;> first | exact hv | exact rowB_stable intR_stable v w w' hv hs | exact rowB_stable natB_stable v w w' hv hs | exact addB_stable natB_stable v w w' hv hs | exact addB_stable intR_stable v w w' hv hs
set_option maxHeartbeats 1600000 in
theorem drawPadT_any (A : Option Addr) (n c : Nat) (xs : List UInt8) (w : World) (hx : Reads w w.heap.size 1 A n (byCells xs)) (hl : xs.length = n) (hn : n ≤ 1048576) (hc : n ≤ c) (hc2 : c ≤ maxLen) :
    Calls Tryd.prog 17 #[.slice A n c] w (DrewTabInt w) := by
  obtain ⟨ii, hii, hiz, his', iib⟩ := info_parts infoInt
  have HO := Lib.hid (fun (w' : World) (hb : Below w.heap.size w w') => open_c A n c xs w' ((hx.below hb).more hb.size) hl hn hc hc2)
  clear hx hl
  go_enter Tryd.func17, Tryd.ntmps17
  go_wp2_with fail
  obtain ⟨w0, hw0⟩ : ∃ w0, w0 = w.alloc (.cells #[.slice none 0 0, .slice none 0 0] 26) := ⟨_, rfl⟩
  have b0 : Below w.heap.size w w0 := by rw [hw0]; exact (Below.refl _ _).alloc (Nat.le_refl _) _
  have k0 : Blk w0 w.heap.size 26 #[.slice none 0 0, .slice none 0 0] := by rw [hw0]; exact Blk.new _ _ _
  rw [← hw0]
  clear hw0
  refine (HO.out w0 b0).mono ?_
  rintro e w1 ⟨rfl, r1, b1, -⟩
  have hk0 := k0.lt
  have k1 := k0.below b1 hk0
  have B1 := b0.trans (b1.mono b0.size)
  go_wp2_with fail
  refine (table_c _ 60 0 9 _ (r1.less (by omega)) (by omega) (by omega)).mono ?_
  rintro e w3 ⟨nv, rv, names, rows, rfl, ho, hd, r3, t3⟩
  have k3 := t3.blk k1 (by omega)
  have hsz3 : w1.heap.size ≤ w3.heap.size := t3.size
  have hsz1 : w0.heap.size + 1 ≤ w1.heap.size := r1.lt
  have B3 := t3.below B1 (by omega)
  obtain ⟨A4, c4, A5, c5, rfl, rfl⟩ := ho.form
  go_wp2_with fail
  obtain ⟨w5, hw5⟩ : ∃ w5, w5 = w3.alloc (.cells #[.slice A4 names.length c4, .slice A5 rows.length c5] 26) := ⟨_, rfl⟩
  have b5 : Below w3.heap.size w3 w5 := by rw [hw5]; exact (Below.refl _ _).alloc (Nat.le_refl _) _
  have k5 : Blk w5 w3.heap.size 26 #[.slice A4 names.length c4, .slice A5 rows.length c5] := by rw [hw5]; exact Blk.new _ _ _
  rw [← hw5]
  clear hw5
  have r5 := r3.below b5
  have o5 := ho.below b5
  have k53 := k3.below b5 k3.lt
  have B5 := B3.trans (b5.mono B3.size)
  have hwR : w.heap.size ≤ w0.heap.size := b0.size
  have hDR : w.heap.size ≠ w0.heap.size := by omega
  have hml := hd.r1
  have hwD : w.heap.size ≤ w.heap.size := Nat.le_refl _
  have CI := Lib.hid (show ClL w0.heap.size 20 w.heap.size w3.heap.size 20 (.slice A4 names.length c4) (.slice A5 rows.length c5) w w5 22 (Array.replicate 22 false) w5.drew from ⟨fun _ => r5.drew.less (by omega), r5.lt, B5.drew, ⟨Nat.le_refl _, fun _ _ _ => rfl⟩, ⟨_, _, k53.drew⟩, k5.drew, by omega, by omega, fun e => by simp at e⟩)
  refine wp_region_typedGL (by kernel_rfl) (fun i => i == 21) (lift <| padtV w0.heap.size w.heap.size w3.heap.size (.slice A4 names.length c4) (.slice A5 rows.length c5) rows.length) (fun _ => Mv (ND w0.heap.size w.heap.size) (fun _ => True)) (ClL w0.heap.size 20 w.heap.size w3.heap.size 20 (.slice A4 names.length c4) (.slice A5 rows.length c5) w w5) (by kernel_rfl) (stab padtV_stable) ?_ ?_ ?_ (by kernel_rfl) ?_
  · exact dst_lt (n := 30) (by kernel_rfl)
  · exact CI.out
  · refine ok_all ⟨?_, ?_, ?_, ?_, ?_, ?_, ?_, ?_, ?_, ?_, ?_, ?_, ?_, ?_, ?_, ?_, ?_, ?_, ?_, ?_, ?_, ?_, trivial⟩
    · refine okL rfl ?_
      intro f listed a w' hl hc hs hr hh
      have h0 : a.tmps.getD 5 undef = .pointer (some ⟨w3.heap.size, 0, none⟩) := hr 5 (not_dst (by kernel_rfl))
      have h0' : a.tmps[5]?.getD undef = .pointer (some ⟨w3.heap.size, 0, none⟩) := by simpa using h0
      have y0 := hc.tab.cell 0
      have y1 := hc.tab.cell 1
      simp at y0 y1
      exact wp_valL (v := .agg #[(.slice A4 names.length c4), (.slice A5 rows.length c5)]) (by simp [execOp, go_sem, Act.eval, h0', y0, y1]) ⟨_, rfl, rfl, Mv.refl _, hc.step0 (by decide)⟩
    · refine okL rfl ?_
      intro f listed a w' hl hc hs hr hh
      have h0 : a.tmps.getD 5 undef = .pointer (some ⟨w3.heap.size, 0, none⟩) := hr 5 (not_dst (by kernel_rfl))
      have h0' : a.tmps[5]?.getD undef = .pointer (some ⟨w3.heap.size, 0, none⟩) := by simpa using h0
      exact wp_valL (v := .pointer (some ⟨w3.heap.size, 1, none⟩)) (by simp [execOp, Act.eval, h0', field30 w3.heap.size w' 1 (by decide)]) ⟨_, rfl, rfl, Mv.refl _, hc.step0 (by decide)⟩
    · refine okL rfl ?_
      intro f listed a w' hl hc hs hr hh
      obtain ⟨_, rfl, h1⟩ := hh ⟨1, .data⟩ (by simp) rfl
      have h1 := h1 11 rfl
      have y1 := hc.tab.cell 1
      simp at y1
      exact op_load rfl h1 y1 (by simp [go_sem]) ⟨_, rfl, rfl, Mv.refl _, hc.step0 (by decide)⟩
    · refine okL rfl ?_
      intro f listed a w' hl hc hs hr hh
      obtain ⟨_, hv1, h1⟩ := hh ⟨2, .data⟩ (by simp) rfl
      have h1 := h1 12 rfl
      have h1' : a.tmps[12]?.getD undef = (.slice A5 rows.length c5) := by rw [← hv1]; simpa using h1
      exact wp_valL (v := .int .i64 (rows.length : Int)) (by simp [execOp, go_sem, Act.eval, h1']) ⟨_, rfl, rfl, Mv.refl _, hc.step0 (by decide)⟩
    · refine okL rfl ?_
      intro f listed a w' hl hc hs hr hh
      have h0 : a.tmps.getD 4 undef = .pointer (some ⟨w0.heap.size, 0, none⟩) := hr 4 (not_dst (by kernel_rfl))
      exact op_move rfl ⟨_, rfl, h0, Mv.refl _, hc.step0 (by decide)⟩
    · refine okL rfl ?_
      intro f listed a w' hl hc hs hr hh
      obtain ⟨_, rfl, h1⟩ := hh ⟨4, .data⟩ (by simp) rfl
      have h1 := h1 14 rfl
      have hop := hl.up (k := 20) rfl ⟨15, .chain⟩ (by simp) rfl (hl.up (k := 15) rfl ⟨11, .chain⟩ (by simp) rfl (hl.up (k := 11) rfl ⟨5, .chain⟩ (by simp) rfl hl.here))
      refine op_call Tryd.func23 (by kernel_rfl) rfl rfl ?_
      rw [show #[Operand.tmp 14, Operand.const (Value.int .i64 9)].map a.eval = #[.pointer (some ⟨w0.heap.size, 0, none⟩), .int .i64 9] by simp [Act.eval]; simpa using h1]
      refine (pick_c w0.heap.size (20 + f) 9 w' ((hc.rc hop).less (by omega)) (by decide)).mono ?_
      rintro e w3 ⟨x, rfl, hx, h2, h3, _⟩
      exact ⟨_, rfl, _, rfl, ⟨x, rfl, by omega⟩, ⟨Chg.of_pick h3 (.inl rfl), fun _ => trivial⟩, hc.pick (by decide) hwR hDR hop h2 h3⟩
    · refine okL rfl ?_
      intro f listed a w' hl hc hs hr hh
      obtain ⟨_, rfl, h1⟩ := hh ⟨3, .data⟩ (by simp) rfl
      have h1 := h1 13 rfl
      obtain ⟨_, ⟨x, rfl, hx⟩, h2⟩ := hh ⟨5, .data⟩ (by simp) rfl
      have h2 := h2 15 rfl
      have h1' : a.tmps[13]?.getD undef = .int .i64 (rows.length : Int) := by simpa using h1
      have h2' : a.tmps[15]?.getD undef = .int .i64 (x : Int) := by simpa using h2
      have e1 : IntKind.i64.wrap ((rows.length : Int) + (x : Int)) = (rows.length : Int) + (x : Int) := IntWalk.i64_in _ (by omega)
      exact wp_valL (v := .int .i64 ((rows.length : Int) + (x : Int))) (by simp [execOp, go_sem, Act.eval, h1', h2', e1]) ⟨_, rfl, ⟨_, rfl, by omega, by omega⟩, Mv.refl _, hc.step0 (by decide)⟩
    · refine okL rfl ?_
      intro f listed a w' hl hc hs hr hh
      have h0 : a.tmps.getD 5 undef = .pointer (some ⟨w3.heap.size, 0, none⟩) := hr 5 (not_dst (by kernel_rfl))
      have h0' : a.tmps[5]?.getD undef = .pointer (some ⟨w3.heap.size, 0, none⟩) := by simpa using h0
      exact wp_valL (v := .pointer (some ⟨w3.heap.size, 1, none⟩)) (by simp [execOp, Act.eval, h0', field30 w3.heap.size w' 1 (by decide)]) ⟨_, rfl, rfl, Mv.refl _, hc.step0 (by decide)⟩
    · refine okL rfl ?_
      intro f listed a w' hl hc hs hr hh
      obtain ⟨_, rfl, h1⟩ := hh ⟨7, .data⟩ (by simp) rfl
      have h1 := h1 17 rfl
      have y1 := hc.tab.cell 1
      simp at y1
      exact op_load rfl h1 y1 (by simp [go_sem]) ⟨_, rfl, rfl, Mv.refl _, hc.step0 (by decide)⟩
    · refine okL rfl ?_
      intro f listed a w' hl hc hs hr hh
      obtain ⟨_, hv1, h1⟩ := hh ⟨8, .data⟩ (by simp) rfl
      have h1 := h1 18 rfl
      have h1' : a.tmps[18]?.getD undef = (.slice A5 rows.length c5) := by rw [← hv1]; simpa using h1
      exact wp_valL (v := .int .i64 (rows.length : Int)) (by simp [execOp, go_sem, Act.eval, h1']) ⟨_, rfl, rfl, Mv.refl _, hc.step0 (by decide)⟩
    · refine okL rfl ?_
      intro f listed a w' hl hc hs hr hh
      have h0 : a.tmps.getD 4 undef = .pointer (some ⟨w0.heap.size, 0, none⟩) := hr 4 (not_dst (by kernel_rfl))
      exact op_move rfl ⟨_, rfl, h0, Mv.refl _, hc.step0 (by decide)⟩
    · refine okL rfl ?_
      intro f listed a w' hl hc hs hr hh
      obtain ⟨_, rfl, h1⟩ := hh ⟨10, .data⟩ (by simp) rfl
      have h1 := h1 20 rfl
      have hop := hl.up (k := 20) rfl ⟨15, .chain⟩ (by simp) rfl (hl.up (k := 15) rfl ⟨11, .chain⟩ (by simp) rfl hl.here)
      refine op_call Tryd.func23 (by kernel_rfl) rfl rfl ?_
      rw [show #[Operand.tmp 20, Operand.const (Value.int .i64 9)].map a.eval = #[.pointer (some ⟨w0.heap.size, 0, none⟩), .int .i64 9] by simp [Act.eval]; simpa using h1]
      refine (pick_c w0.heap.size (20 + f) 9 w' ((hc.rc hop).less (by omega)) (by decide)).mono ?_
      rintro e w3 ⟨x, rfl, hx, h2, h3, _⟩
      exact ⟨_, rfl, _, rfl, ⟨x, rfl, by omega⟩, ⟨Chg.of_pick h3 (.inl rfl), fun _ => trivial⟩, hc.pick (by decide) hwR hDR hop h2 h3⟩
    · refine okL rfl ?_
      intro f listed a w' hl hc hs hr hh
      obtain ⟨_, ⟨x0, rfl, hx0, hy0⟩, h0⟩ := hh ⟨6, .data⟩ (by simp) rfl
      have h0 := h0 16 rfl
      obtain ⟨_, rfl, h1⟩ := hh ⟨9, .data⟩ (by simp) rfl
      have h1 := h1 19 rfl
      obtain ⟨_, ⟨x2, rfl, hx2⟩, h2⟩ := hh ⟨11, .data⟩ (by simp) rfl
      have h2 := h2 21 rfl
      refine wp_buildSlice 49 3 5 _ rfl #[.int .i64 x0, .int .i64 (rows.length : Int), .int .i64 (x2 : Int), .int .i64 256, .int .i64 257] ii _ Tryd.underlying49 hii hiz (by rw [his']; decide) (by rw [his']; decide) ?_ ⟨_, rfl, ⟨w'.heap.size, [.int .i64 x0, .int .i64 (rows.length : Int), .int .i64 (x2 : Int), .int .i64 256, .int .i64 257], rfl, hc.lt, Blk.new _ _ _, rfl, ?_⟩, ⟨(Chg.refl _).alloc _, fun _ => trivial⟩, hc.alloc (by decide) _⟩
      · rw [his']
        simp only [List.map_toArray, List.map_cons, List.map_nil, Act.eval, h0, h1, h2]
        kernel_rfl
      · intro u hu
        simp only [List.mem_cons, List.not_mem_nil, or_false] at hu
        rcases hu with rfl | rfl | rfl | rfl | rfl
        · exact ⟨x0, rfl, by omega, by omega⟩
        · exact ⟨(rows.length : Int), rfl, by omega, by omega⟩
        · exact ⟨(x2 : Int), rfl, by omega, by omega⟩
        · exact ⟨256, rfl, by decide, by decide⟩
        · exact ⟨257, rfl, by decide, by decide⟩
    · refine okL rfl ?_
      intro f listed a w' hl hc hs hr hh
      refine wp_buildSlice 49 3 7 _ rfl #[.int .i64 0, .int .i64 0, .int .i64 0, .int .i64 1, .int .i64 2, .int .i64 3, .int .i64 4] ii _ Tryd.underlying49 hii hiz (by rw [his']; decide) (by rw [his']; decide) ?_ ⟨_, rfl, ⟨w'.heap.size, [.int .i64 0, .int .i64 0, .int .i64 0, .int .i64 1, .int .i64 2, .int .i64 3, .int .i64 4], rfl, hc.lt, Blk.new _ _ _, rfl, ?_⟩, ⟨(Chg.refl _).alloc _, fun _ => trivial⟩, hc.alloc (by decide) _⟩
      · rw [his']
        simp only [List.map_toArray, List.map_cons, List.map_nil, Act.eval]
        kernel_rfl
      · intro u hu
        simp only [List.mem_cons, List.not_mem_nil, or_false] at hu
        rcases hu with rfl | rfl | rfl | rfl | rfl | rfl | rfl
        · exact ⟨0, rfl, by decide⟩
        · exact ⟨0, rfl, by decide⟩
        · exact ⟨0, rfl, by decide⟩
        · exact ⟨1, rfl, by decide⟩
        · exact ⟨2, rfl, by decide⟩
        · exact ⟨3, rfl, by decide⟩
        · exact ⟨4, rfl, by decide⟩
    · refine okL rfl ?_
      intro f listed a w' hl hc hs hr hh
      have h0 : a.tmps.getD 4 undef = .pointer (some ⟨w0.heap.size, 0, none⟩) := hr 4 (not_dst (by kernel_rfl))
      exact op_move rfl ⟨_, rfl, h0, Mv.refl _, hc.step0 (by decide)⟩
    · refine okL rfl ?_
      intro f listed a w' hl hc hs hr hh
      obtain ⟨_, rfl, h1⟩ := hh ⟨14, .data⟩ (by simp) rfl
      have h1 := h1 24 rfl
      have hop := hl.up (k := 20) rfl ⟨15, .chain⟩ (by simp) rfl (hl.here)
      refine op_call Tryd.func23 (by kernel_rfl) rfl rfl ?_
      rw [show #[Operand.tmp 24, Operand.const (Value.int .i64 7)].map a.eval = #[.pointer (some ⟨w0.heap.size, 0, none⟩), .int .i64 7] by simp [Act.eval]; simpa using h1]
      refine (pick_c w0.heap.size (20 + f) 7 w' ((hc.rc hop).less (by omega)) (by decide)).mono ?_
      rintro e w3 ⟨x, rfl, hx, h2, h3, _⟩
      exact ⟨_, rfl, _, rfl, ⟨x, rfl, by omega⟩, ⟨Chg.of_pick h3 (.inl rfl), fun _ => trivial⟩, hc.pick (by decide) hwR hDR hop h2 h3⟩
    · refine okL rfl ?_
      intro f listed a w' hl hc hs hr hh
      obtain ⟨_, ⟨g, vs, rfl, hg, hb, hln, hq⟩, h1⟩ := hh ⟨13, .data⟩ (by simp) rfl
      have h1 := h1 23 rfl
      obtain ⟨_, ⟨x, rfl, hx⟩, h2⟩ := hh ⟨15, .data⟩ (by simp) rfl
      have h2 := h2 25 rfl
      exact op_index (i := x) rfl Tryd.underlying49 (by kernel_rfl) h1 h2 hx ⟨_, rfl, rowB_at hg hb hln hq hx, Mv.refl _, hc.step0 (by decide)⟩
    · refine okL rfl ?_
      intro f listed a w' hl hc hs hr hh
      obtain ⟨_, ⟨ad, u, rfl, _, hcell, hq⟩, h1⟩ := hh ⟨16, .data⟩ (by simp) rfl
      have h1 := h1 26 rfl
      exact op_load rfl h1 hcell (by simp [go_sem]) ⟨_, rfl, hq, Mv.refl _, hc.step0 (by decide)⟩
    · refine okL rfl ?_
      intro f listed a w' hl hc hs hr hh
      obtain ⟨_, ⟨g, vs, rfl, hg, hb, hln, hq⟩, h1⟩ := hh ⟨12, .data⟩ (by simp) rfl
      have h1 := h1 22 rfl
      obtain ⟨_, ⟨x, rfl, hx⟩, h2⟩ := hh ⟨17, .data⟩ (by simp) rfl
      have h2 := h2 27 rfl
      exact op_index (i := x) rfl Tryd.underlying49 (by kernel_rfl) h1 h2 hx ⟨_, rfl, rowB_at hg hb hln hq hx, Mv.refl _, hc.step0 (by decide)⟩
    · refine okL rfl ?_
      intro f listed a w' hl hc hs hr hh
      obtain ⟨_, ⟨ad, u, rfl, _, hcell, hq⟩, h1⟩ := hh ⟨18, .data⟩ (by simp) rfl
      have h1 := h1 28 rfl
      exact op_load rfl h1 hcell (by simp [go_sem]) ⟨_, rfl, hq, Mv.refl _, hc.step0 (by decide)⟩
    · refine okL rfl ?_
      intro f listed a w' hl hc hs hr hh
      obtain ⟨_, rfl, h1⟩ := hh ⟨0, .data⟩ (by simp) rfl
      have h1 := h1 10 rfl
      have h0 : a.tmps.getD 2 undef = .pointer (some ⟨w.heap.size, 0, none⟩) := hr 2 (not_dst (by kernel_rfl))
      have h0' : a.tmps[2]?.getD undef = .pointer (some ⟨w.heap.size, 0, none⟩) := by simpa using h0
      have h1' : a.tmps[10]?.getD undef = .agg #[(.slice A4 names.length c4), (.slice A5 rows.length c5)] := by simpa using h1
      obtain ⟨x, y, hD⟩ := hc.blk
      have y0 := hD.cell 0
      have y1 := hD.cell 1
      have f0 := hD.frozen 0
      have f1 := hD.frozen 1
      simp at y0 y1
      have hb' := (hD.set_ 0 (.slice A4 names.length c4)).set_ 1 (.slice A5 rows.length c5)
      simp at hb'
      unfold Oper.wp
      simp [execOp, h0', h1', go_sem, y0, y1, f0, f1, run_store, storeCells, Oper.upon]
      exact ⟨⟨undef, trivial⟩, ⟨(Chg.setCell _ (.inr rfl) _).trans (Chg.setCell _ (.inr rfl) _), fun _ => trivial⟩, hc.store hb' hwD (by rw [hl.size]; decide)⟩
    · refine okL rfl ?_
      intro f listed a w' hl hc hs hr hh
      obtain ⟨_, ⟨x, rfl, hx⟩, h1⟩ := hh ⟨19, .data⟩ (by simp) rfl
      have h1 := h1 29 rfl
      exact op_assign rfl ⟨_, rfl, ⟨x, h1, hx⟩, Mv.refl _, hc.step0 (by decide)⟩
  · intro a w' hs hd' hr hh hcl
    obtain ⟨listed, hall, hc⟩ := hcl
    have hP := hc.done (hall 20 (by decide))
    obtain ⟨_, ⟨x, rfl, hx1, hx2⟩, h3⟩ := hh 21 (by decide) rfl
    have h3 := h3 3 rfl
    have e2 : a.tmps.getD 2 undef = .pointer (some ⟨w.heap.size, 0, none⟩) := hr 2 (not_dst (by kernel_rfl))
    have ea : a = ⟨#[a.tmps.getD 0 undef, a.tmps.getD 1 undef, a.tmps.getD 2 undef, a.tmps.getD 3 undef, a.tmps.getD 4 undef, a.tmps.getD 5 undef, a.tmps.getD 6 undef, a.tmps.getD 7 undef, a.tmps.getD 8 undef, a.tmps.getD 9 undef, a.tmps.getD 10 undef, a.tmps.getD 11 undef, a.tmps.getD 12 undef, a.tmps.getD 13 undef, a.tmps.getD 14 undef, a.tmps.getD 15 undef, a.tmps.getD 16 undef, a.tmps.getD 17 undef, a.tmps.getD 18 undef, a.tmps.getD 19 undef, a.tmps.getD 20 undef, a.tmps.getD 21 undef, a.tmps.getD 22 undef, a.tmps.getD 23 undef, a.tmps.getD 24 undef, a.tmps.getD 25 undef, a.tmps.getD 26 undef, a.tmps.getD 27 undef, a.tmps.getD 28 undef, a.tmps.getD 29 undef], []⟩ := act_lit 30 hs hd'
    rw [e2, h3] at ea
    obtain ⟨U, hU⟩ : ∃ U : Nat → Value, ∀ i, a.tmps.getD i undef = U i := ⟨_, fun _ => rfl⟩
    simp only [hU] at ea
    have r0 := Blk.cell hP 0
    have r1 := Blk.cell hP 1
    simp at r0 r1
    have hTab : TabO w' w1.heap.size (.agg #[.slice A4 names.length c4, .slice A5 rows.length c5]) names rows := by
      obtain ⟨v0, v1, e, g0, vs, g1⟩ := o5
      have hnd : ∀ g, w1.heap.size ≤ g → ¬ ND w0.heap.size w.heap.size g := fun g hg => by unfold ND; omega
      exact ⟨v0, v1, e, hc.chg.own g0 (fun g e => hnd g (g0.lt g e).1), vs, (g1.block (fun g h1 hg _ => hc.chg.block g hg (hnd g h1))).wide hc.chg.size⟩
    have hB := hc.bel
    clear hs hd' hr hh hU e2 h3 hall hc hP CI
    subst ea
    go_wp2_with fail
    exact bodyPost_ret (v := .tuple #[.agg #[_, _], .int .i64 x]) (by simp [results, Tryd.results17, go_sem, r0, r1]) rfl ⟨_, _, x, names, rows, rfl, hx1, hx2, hTab.low (by omega), hd, hB⟩
end Go.Proofs.YtbhklgiecfcfcaaDoor
