/- spec.DrawLimitRows. -/
import Derived.Test.YtijpdekcdejfmaaDoorFnTable
import Derived.Test.YtijpdekcdejfmaaDoorTypedL
namespace Go.Proofs.YtijpdekcdejfmaaDoor
open Go Go.RowKit
set_option maxRecDepth 100000
/-- The blocks that the region may change: the reader's, the result's. -/
def ND (R D : Nat) (k : Nat) : Prop := k = R ∨ k = D
def PkL (D : Nat) (F0 F1 : Value) (w : World) : Prop := Blk w D 26 #[F0, F1]
def IntR (v : Value) (_ : World) : Prop := ∃ x : Int, v = .int .i64 x ∧ -1 ≤ x ∧ x ≤ 257
theorem intR_stable {S : World → World → Prop} : Stable S IntR := fun _ _ _ h _ => h
theorem wp_valL {P : Program} {o : Oper} {a : Act} {w : World} {K : Act → World → Prop} {Q : Exit → Act → World → Prop} {v : Value} (h : (execOp a.eval o).run P w = .ok (.value v) w) (hk : K (a.put o.dst v) w) : o.wp P a w K Q := by
  unfold Oper.wp
  rw [h]
  exact hk
theorem okL {P : Program} {ops : Array Oper} {Q : Exit → Act → World → Prop} {a0 : Act} {V : Nat → Value → Act → World → Prop} {S : Nat → World → World → Prop} {C : Nat → Array Bool → World → Prop} {i : Nat} {o : Oper} (hg : o.guard = none)
    (h : ∀ (f : Nat) (listed : Array Bool) (a : Act) (w : World), Lst ops i o f listed → C (f + 1) listed w → a.tmps.size = a0.tmps.size → (∀ t, (∀ j, j < ops.size → dstOf ops j ≠ some t) → a.tmps.getD t undef = a0.tmps.getD t undef) → (∀ e ∈ o.after.toList, isVal e.ground = true → Held ops V e.on a w) →
      o.wp P a w (fun a' w' => ∃ v, a' = a.put o.dst v ∧ V i v (a.put o.dst v) w' ∧ S i w w' ∧ C f (listed.setIfInBounds i true) w') Q) : OpOkGL P ops Q a0 V S C i o :=
  fun f listed a w hl hc hs hr hh => ⟨fun _ => h f listed a w hl hc hs hr hh, fun hw => by unfold Region.wanted at hw; rw [hg] at hw; cases hw⟩
/-- The class: credits till the store (operation K), the result's block behind it. -/
structure ClL (R B D T K : Nat) (F0 F1 : Value) (w0 wT : World) (f : Nat) (listed : Array Bool) (w : World) : Prop where
  rc : listed.getD K true = false → Rc w R (B + f)
  lr : R < w.heap.size
  bel : Below w0.heap.size w0 w
  chg : Chg (ND R D) wT w
  blk : ∃ x y, Blk w D 26 #[x, y]
  tab : Blk w T 26 #[F0, F1]
  neR : T ≠ R
  neD : T ≠ D
  done : listed.getD K false = true → PkL D F0 F1 w
section
variable {R B D T K f i : Nat} {F0 F1 : Value} {w0 wT w w' : World} {listed : Array Bool}
theorem ClL.lt (h : ClL R B D T K F0 F1 w0 wT f listed w) : ¬ ND R D w.heap.size := by
  obtain ⟨x, y, hb⟩ := h.blk
  have h1 := hb.lt
  have h2 := h.lr
  unfold ND; omega
theorem ClL.step0 (hi : i ≠ K) (h : ClL R B D T K F0 F1 w0 wT (f + 1) listed w) : ClL R B D T K F0 F1 w0 wT f (listed.setIfInBounds i true) w :=
  ⟨fun e => (h.rc (by rwa [set_ne hi] at e)).less (by omega), h.lr, h.bel, h.chg, h.blk, h.tab, h.neR, h.neD, fun e => h.done (by rwa [set_ne hi] at e)⟩
theorem ClL.alloc (hi : i ≠ K) (h : ClL R B D T K F0 F1 w0 wT (f + 1) listed w) (ob : Obj) : ClL R B D T K F0 F1 w0 wT f (listed.setIfInBounds i true) (w.alloc ob) := by
  obtain ⟨x, y, hb⟩ := h.blk
  exact ⟨fun e => ((h.rc (by rwa [set_ne hi] at e)).less (by omega)).alloc ob, by have := h.lr; simp; omega, h.bel.alloc h.bel.size ob, h.chg.alloc ob, ⟨x, y, hb.alloc ob⟩, h.tab.alloc ob, h.neR, h.neD, fun e => Blk.alloc (h.done (by rwa [set_ne hi] at e)) ob⟩
theorem ClL.pick (hi : i ≠ K) (hR : w0.heap.size ≤ R) (hDR : D ≠ R) (ho : listed.getD K true = false) (hr : Rc w' R (B + f)) (ht : Touch R (R + 1) w w') (h : ClL R B D T K F0 F1 w0 wT (f + 1) listed w) : ClL R B D T K F0 F1 w0 wT f (listed.setIfInBounds i true) w' := by
  obtain ⟨x, y, hb⟩ := h.blk
  exact ⟨fun _ => hr, hr.lt, ht.below h.bel hR, h.chg.trans (Chg.of_pick ht (.inl rfl)), ⟨x, y, ht.blk hb (by omega)⟩, ht.blk h.tab (by have := h.neR; omega), h.neR, h.neD, fun e => by
    rw [set_ne hi] at e
    rw [getD_true e] at ho
    cases ho⟩
theorem ClL.store (hp : Blk ((w.setCell ⟨D, 0, none⟩ F0).setCell ⟨D, 1, none⟩ F1) D 26 #[F0, F1]) (hD : w0.heap.size ≤ D) (hK : K < listed.size) (h : ClL R B D T K F0 F1 w0 wT (f + 1) listed w) : ClL R B D T K F0 F1 w0 wT f (listed.setIfInBounds K true) ((w.setCell ⟨D, 0, none⟩ F0).setCell ⟨D, 1, none⟩ F1) := by
  have tt : Touch D (D + 1) w ((w.setCell ⟨D, 0, none⟩ F0).setCell ⟨D, 1, none⟩ F1) := ((Touch.refl _ _ _).setCell (p := ⟨D, 0, none⟩) (Or.inl ⟨Nat.le_refl _, Nat.lt_succ_self _⟩) _).setCell (p := ⟨D, 1, none⟩) (Or.inl ⟨Nat.le_refl _, Nat.lt_succ_self _⟩) _
  exact ⟨fun e => by simp [Array.getD, hK] at e, Nat.lt_of_lt_of_le h.lr tt.size, (h.bel.setCell (p := ⟨D, 0, none⟩) hD _).setCell (p := ⟨D, 1, none⟩) hD _, (h.chg.trans (Chg.setCell _ (.inr rfl) _)).trans (Chg.setCell _ (.inr rfl) _), ⟨_, _, hp⟩, tt.blk h.tab (by have := h.neD; omega), h.neR, h.neD, fun _ => hp⟩
end
def limV (R D : Nat) (F0 F1 : Value) (i : Nat) (v : Value) (w : World) : Prop := match i with
  | 0 => v = .agg #[F0, F1]
  | 1 | 5 => v = .pointer (some ⟨R, 0, none⟩)
  | 2 | 6 => NatB 7 v w
  | 3 => RowB (ND R D) 3 IntR 4 v w
  | 4 => RowB (ND R D) 3 (NatB 4) 7 v w
  | 7 => AddB (ND R D) (NatB 4) v w
  | 8 => NatB 4 v w
  | 9 => AddB (ND R D) IntR v w
  | 10 | 12 => IntR v w
  | _ => True
theorem limV_stable {R D : Nat} {F0 F1 : Value} : ∀ i v w w', limV R D F0 F1 i v w → Mv (ND R D) (fun _ => True) w w' → limV R D F0 F1 i v w' := by
  intro i v w w' hv hs
  unfold limV at hv ⊢
  split at hv <;> first | exact hv | exact rowB_stable intR_stable v w w' hv hs | exact rowB_stable natB_stable v w w' hv hs | exact addB_stable natB_stable v w w' hv hs | exact addB_stable intR_stable v w w' hv hs
/-- What a drawing of a table and a number leaves. -/
def DrewTabInt (w : World) (e : Ending) (w' : World) : Prop := ∃ (nv rv : Value) (x : Int) (names : List ByteArray) (rows : List (List Int)), e = .returned (.tuple #[.agg #[nv, rv], .int .i64 x]) ∧ -1 ≤ x ∧ x ≤ 257 ∧ TabO w' w.heap.size (.agg #[nv, rv]) names rows ∧ DrawnT names rows ∧ Below w.heap.size w w'
def padtV (R D T : Nat) (F0 F1 : Value) (m : Nat) (i : Nat) (v : Value) (w : World) : Prop := match i with
  | 0 => v = .agg #[F0, F1]
  | 1 | 7 => v = .pointer (some ⟨T, 1, none⟩)
  | 2 | 8 => v = F1
  | 3 | 9 => v = .int .i64 (m : Int)
  | 4 | 10 | 14 => v = .pointer (some ⟨R, 0, none⟩)
  | 5 | 11 => NatB 9 v w
  | 6 => IntR v w
  | 12 => RowB (ND R D) 3 IntR 5 v w
  | 13 => RowB (ND R D) 3 (NatB 5) 7 v w
  | 15 => NatB 7 v w
  | 16 => AddB (ND R D) (NatB 5) v w
  | 17 => NatB 5 v w
  | 18 => AddB (ND R D) IntR v w
  | 19 | 21 => IntR v w
  | _ => True
theorem padtV_stable {R D T : Nat} {F0 F1 : Value} {m : Nat} : ∀ i v w w', padtV R D T F0 F1 m i v w → Mv (ND R D) (fun _ => True) w w' → padtV R D T F0 F1 m i v w' := by
  intro i v w w' hv hs
  unfold padtV at hv ⊢
  split at hv <;> first | exact hv | exact rowB_stable intR_stable v w w' hv hs | exact rowB_stable natB_stable v w w' hv hs | exact addB_stable natB_stable v w w' hv hs | exact addB_stable intR_stable v w w' hv hs
end Go.Proofs.YtijpdekcdejfmaaDoor
