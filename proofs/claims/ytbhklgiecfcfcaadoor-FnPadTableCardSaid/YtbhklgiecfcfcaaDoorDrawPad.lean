/- A padded table under construction: its cell triple at T, names, rows and marks of the call's own. -/
import Derived.Test.YtbhklgiecfcfcaaDoorDrawTab
import Derived.Test.YtbhklgiecfcfcaaDoorPadR
namespace Go.Proofs.YtbhklgiecfcfcaaDoor
open Go Go.RowKit
set_option maxRecDepth 100000

structure PadG (w : World) (lo T : Nat) (c0 c1 c2 nv rv bv : Value) (names : List ByteArray) (rows : List (List Int)) (real : List Bool) : Prop where
  blk : Blk w T 37 #[c0, c1, c2]
  res : Blk w lo 37 #[.slice none 0 0, .slice none 0 0, .slice none 0 0]
  own : w.ownsRow lo 9 1 nv names.length (stCells names)
  rows : ∃ vs, RowsV w lo w.heap.size rv vs rows
  real : w.ownsRow lo 4 1 bv real.length (boCells real)
abbrev PadS (w : World) (lo T : Nat) (nv rv bv : Value) (names : List ByteArray) (rows : List (List Int)) (real : List Bool) : Prop := PadG w lo T nv rv bv nv rv bv names rows real
section
variable {w w' : World} {lo hi T : Nat} {c0 c1 c2 nv rv bv v : Value} {names : List ByteArray} {rows : List (List Int)} {real : List Bool} {vs : List Value}
/-- A write into a row of another type's. -/
theorem RowsV.kept_own {b e n z : Nat} {y : Value} {ys : List Value} (h : RowsV w lo hi v vs rows) (hy : w.ownsRow b e z y n ys) (h1 : 49 ≠ e) (h2 : 3 ≠ e) (hg : w.grownBy w' y.ownBlock) : RowsV w' lo hi v vs rows :=
  ⟨h.len, h.own.kept hg (own_ne h.own hy h1), h.top, fun k u r hu hr => (h.row k u r hu hr).kept hg (own_ne (h.row k u r hu hr) hy h2), h.under, h.off, h.apart⟩
theorem PadG.touch {R : Nat} (h : PadG w lo T c0 c1 c2 nv rv bv names rows real) (ht : Touch R (R + 1) w w') (hl : R < lo) (hT : R < T) : PadG w' lo T c0 c1 c2 nv rv bv names rows real := by
  obtain ⟨h1, h0, h2, ⟨vs, h3⟩, h4⟩ := h
  exact ⟨ht.blk h1 (by omega), ht.blk h0 (by omega), ht.own_above h2 (by omega), ⟨vs, (h3.touch ht (by omega)).wide ht.size⟩, ht.own_above h4 (by omega)⟩
theorem PadG.below (h : PadG w lo T c0 c1 c2 nv rv bv names rows real) (hb : Below w.heap.size w w') : PadG w' lo T c0 c1 c2 nv rv bv names rows real := by
  obtain ⟨h1, h0, h2, ⟨vs, h3⟩, h4⟩ := h
  exact ⟨h1.below hb h1.lt, h0.below hb h0.lt, own_below h2 hb, ⟨vs, (h3.below hb).wide hb.size⟩, own_below h4 hb⟩
theorem PadG.alloc (h : PadG w lo T c0 c1 c2 nv rv bv names rows real) (o : Obj) : PadG (w.alloc o) lo T c0 c1 c2 nv rv bv names rows real := h.below ((Below.refl _ _).alloc (Nat.le_refl _) _)
theorem PadG.drew (h : PadG w lo T c0 c1 c2 nv rv bv names rows real) : PadG w.drew lo T c0 c1 c2 nv rv bv names rows real := by
  obtain ⟨h1, h0, h2, ⟨vs, h3⟩, h4⟩ := h
  exact ⟨h1.drew, h0.drew, h2.drew, ⟨vs, h3.drew⟩, h4.drew⟩
theorem PadG.setT (h : PadG w lo T c0 c1 c2 nv rv bv names rows real) (hT : lo < T) (i : Nat) (u : Value) {d0 d1 d2 : Value} (hd : #[c0, c1, c2].setIfInBounds i u = #[d0, d1, d2]) : PadG (w.setCell ⟨T, i, none⟩ u) lo T d0 d1 d2 nv rv bv names rows real := by
  obtain ⟨h1, h0, h2, ⟨vs, h3⟩, h4⟩ := h
  have hk : ∀ k, k < w.heap.size → k ≠ T → (w.setCell ⟨T, i, none⟩ u).heap[k]? = w.heap[k]? := fun k _ hk => Below.heap_setCell _ _ _ _ hk
  have hb := h1.set_ i u
  rw [hd] at hb
  exact ⟨hb, h0.far (by show lo ≠ T; omega) u, own_off_blk h2 h1 (by decide) hk, ⟨vs, (h3.off_blk h1 (by decide) (by decide) hk).wide (by simp [World.setCell])⟩, own_off_blk h4 h1 (by decide) hk⟩
theorem PadG.set0 (h : PadG w lo T c0 c1 c2 nv rv bv names rows real) (hT : lo < T) (u : Value) : PadG (w.setCell ⟨T, 0, none⟩ u) lo T u c1 c2 nv rv bv names rows real := h.setT hT 0 u rfl
theorem PadG.set1 (h : PadG w lo T c0 c1 c2 nv rv bv names rows real) (hT : lo < T) (u : Value) : PadG (w.setCell ⟨T, 1, none⟩ u) lo T c0 u c2 nv rv bv names rows real := h.setT hT 1 u rfl
theorem PadG.set2 (h : PadG w lo T c0 c1 c2 nv rv bv names rows real) (hT : lo < T) (u : Value) : PadG (w.setCell ⟨T, 2, none⟩ u) lo T c0 c1 u nv rv bv names rows real := h.setT hT 2 u rfl
theorem PadG.asR {rv' : Value} {rows' : List (List Int)} (h : PadG w lo T c0 c1 c2 nv rv bv names rows real) (ho : ∃ vs, RowsV w lo w.heap.size rv' vs rows') : PadG w lo T c0 c1 c2 nv rv' bv names rows' real := ⟨h.blk, h.res, h.own, ho, h.real⟩
theorem PadG.grewN {nv' : Value} {names' : List ByteArray} (h : PadG w lo T c0 c1 c2 nv rv bv names rows real) (hg : w.grownBy w' nv.ownBlock) (ho : w'.ownsRow lo 9 1 nv' names'.length (stCells names')) : PadG w' lo T c0 c1 c2 nv' rv bv names' rows real := by
  obtain ⟨h1, h0, h2, ⟨vs, h3⟩, h4⟩ := h
  exact ⟨h1.grown hg (fun e => own_blk_ne h2 h1 (by decide) e.symm), h0.grown hg (fun e => own_blk_ne h2 h0 (by decide) e.symm), ho, ⟨vs, (h3.kept_own h2 (by decide) (by decide) hg).wide hg.size⟩, h4.kept hg (own_ne h4 h2 (by decide))⟩
theorem PadG.grewB {bv' : Value} {real' : List Bool} (h : PadG w lo T c0 c1 c2 nv rv bv names rows real) (hg : w.grownBy w' bv.ownBlock) (ho : w'.ownsRow lo 4 1 bv' real'.length (boCells real')) : PadG w' lo T c0 c1 c2 nv rv bv' names rows real' := by
  obtain ⟨h1, h0, h2, ⟨vs, h3⟩, h4⟩ := h
  exact ⟨h1.grown hg (fun e => own_blk_ne h4 h1 (by decide) e.symm), h0.grown hg (fun e => own_blk_ne h4 h0 (by decide) e.symm), h2.kept hg (own_ne h2 h4 (by decide)), ⟨vs, (h3.kept_own h4 (by decide) (by decide) hg).wide hg.size⟩, ho⟩
theorem PadG.grewR {rv' x : Value} {b e n z : Nat} {xs : List Value} {rows' : List (List Int)} (h : PadG w lo T c0 c1 c2 nv rv bv names rows real) (hx : w.ownsRow b e z x n xs) (h1' : 9 ≠ e) (h2' : 4 ≠ e) (h3' : e ≠ 37) (hg : w.grownBy w' x.ownBlock) (ho : ∃ vs, RowsV w' lo w'.heap.size rv' vs rows') : PadG w' lo T c0 c1 c2 nv rv' bv names rows' real := by
  obtain ⟨h1, h0, h2, h3, h4⟩ := h
  exact ⟨h1.grown hg (fun e => own_blk_ne hx h1 h3' e.symm), h0.grown hg (fun e => own_blk_ne hx h0 h3' e.symm), h2.kept hg (own_ne h2 hx h1'), ho, h4.kept hg (own_ne h4 hx h2')⟩
/-- One row more, behind an append. -/
theorem PadG.pushRow {u v' : Value} {r : List Int} (h : PadG w lo T c0 c1 c2 nv rv bv names rows real) (hv : RowsV w lo hi rv vs rows) (hhi : hi ≤ w.heap.size) (hu : w.ownsRow lo 3 1 u r.length (inCells r)) (hg : ∀ g, u.ownBlock = some g → hi ≤ g)
    (hgrow : w.grownBy w' rv.ownBlock) (hown : w'.ownsRow lo 49 1 v' (rows.length + 1) (vs ++ [u])) (hat : v'.ownBlock = rv.ownBlock ∨ v'.ownBlock = some w.heap.size) : PadG w' lo T c0 c1 c2 nv v' bv names (rows ++ [r]) real := by
  refine h.grewR hv.own (by decide) (by decide) (by decide) hgrow ⟨_, hv.push hu hgrow hown hat (own_ne hu hv.own (by decide)) (fun k u' hk => ?_) (Nat.le_trans hhi hgrow.size) (fun g e => (hown.lt g e).2) (fun g e => Nat.lt_of_lt_of_le (hu.lt g e).2 hgrow.size)⟩
  cases hb : u'.ownBlock with
  | none => exact .inl rfl
  | some g' =>
    refine .inr (fun e => ?_)
    have h1 := hv.under k u' g' hk hb
    have h2 := hg g' e.symm
    omega
/-- The world with a triple stored at g. -/
def put3 (w : World) (g : Nat) (a b c : Value) : World := ((w.setCell ⟨g, 0, none⟩ a).setCell ⟨g, 1, none⟩ b).setCell ⟨g, 2, none⟩ c
theorem put3_far (w : World) (g : Nat) (a b c : Value) : ∀ k, k < w.heap.size → k ≠ g → (put3 w g a b c).heap[k]? = w.heap[k]? := fun k _ hk => ((Below.heap_setCell _ ⟨g, 2, none⟩ c k hk).trans (Below.heap_setCell _ ⟨g, 1, none⟩ b k hk)).trans (Below.heap_setCell _ ⟨g, 0, none⟩ a k hk)
theorem put3_touch (w : World) (g : Nat) (a b c : Value) : Touch g (g + 1) w (put3 w g a b c) :=
  (((Touch.refl _ _ _).setCell (p := ⟨g, 0, none⟩) (Or.inl ⟨Nat.le_refl _, Nat.lt_succ_self _⟩) _).setCell (p := ⟨g, 1, none⟩) (Or.inl ⟨Nat.le_refl _, Nat.lt_succ_self _⟩) _).setCell (p := ⟨g, 2, none⟩) (Or.inl ⟨Nat.le_refl _, Nat.lt_succ_self _⟩) _
theorem put3_blk {g : Nat} {t : TypeId} {x y z : Value} (hb : Blk w g t #[x, y, z]) (a b c : Value) : Blk (put3 w g a b c) g t #[a, b, c] := by
  have := ((hb.set_ 0 a).set_ 1 b).set_ 2 c
  simpa [put3] using this
/-- A triple of the call's own stored into a block. -/
theorem PadO.pair {g : Nat} {x y z : Value} (h : PadO w lo (.agg #[nv, rv, bv]) names rows real) (hb : Blk w g 37 #[x, y, z]) :
    PadO (put3 w g nv rv bv) lo (.agg #[nv, rv, bv]) names rows real ∧ Blk (put3 w g nv rv bv) g 37 #[nv, rv, bv] ∧ Touch g (g + 1) w (put3 w g nv rv bv) := by
  obtain ⟨v0, v1, v2, e, h0, ⟨vs, h1⟩, h2⟩ := h
  simp only [Value.agg.injEq] at e
  have e0 : nv = v0 := by have := congrArg (fun a => a[0]?) e; simpa using this
  have e1 : rv = v1 := by have := congrArg (fun a => a[1]?) e; simpa using this
  have e2 : bv = v2 := by have := congrArg (fun a => a[2]?) e; simpa using this
  subst e0 e1 e2
  have hk := put3_far w g nv rv bv
  refine ⟨⟨nv, rv, bv, rfl, own_off_blk h0 hb (by decide) hk, ⟨vs, ?_⟩, own_off_blk h2 hb (by decide) hk⟩, put3_blk hb _ _ _, put3_touch _ _ _ _ _⟩
  have := h1.off_blk hb (by decide) (by decide) hk
  simpa [put3, World.setCell] using this
theorem PadG.toO (h : PadG w lo T c0 c1 c2 nv rv bv names rows real) : PadO w lo (.agg #[nv, rv, bv]) names rows real := ⟨nv, rv, bv, rfl, h.own, h.rows, h.real⟩
theorem PadO.form (h : PadO w lo (.agg #[nv, rv, bv]) names rows real) : ∃ (A : Option Addr) (c : Nat) (B : Option Addr) (d : Nat) (C : Option Addr) (f : Nat), nv = .slice A names.length c ∧ rv = .slice B rows.length d ∧ bv = .slice C real.length f := by
  obtain ⟨A, c, B, d, C, f, e, _⟩ := h.reads
  simp only [Value.agg.injEq] at e
  have e0 := congrArg (fun a => a[0]?) e
  have e1 := congrArg (fun a => a[1]?) e
  have e2 := congrArg (fun a => a[2]?) e
  simp at e0 e1 e2
  exact ⟨A, c, B, d, C, f, e0, e1, e2⟩
structure DrawnP (names : List ByteArray) (rows : List (List Int)) (real : List Bool) : Prop where
  n1 : names.length ≤ 4
  n2 : ∀ x ∈ names, x.size ≤ 9
  r1 : rows.length ≤ 40
  r2 : ∀ r ∈ rows, r.length ≤ 7
  b1 : real.length ≤ 40
/-- What a call of l20Padded leaves. -/
def PadPost (R B : Nat) (w : World) (e : Ending) (w' : World) : Prop := ∃ (nv rv bv : Value) (names : List ByteArray) (rows : List (List Int)) (real : List Bool), e = .returned (.agg #[nv, rv, bv]) ∧ PadO w' w.heap.size (.agg #[nv, rv, bv]) names rows real ∧ DrawnP names rows real ∧ Rc w' R B ∧ Touch R (R + 1) w w'
theorem PadG.post {R B : Nat} {w4 : World} (h : PadG w4 w.heap.size T nv rv bv nv rv bv names rows real) (hd : DrawnP names rows real) (rc : Rc w4 R B) (fr : Touch R (R + 1) w w4) (hR : R + 1 ≤ w.heap.size) :
    PadPost R B w (.returned (.agg #[nv, rv, bv])) (put3 w4 w.heap.size nv rv bv) := by
  obtain ⟨D1, D2, D3⟩ := h.toO.pair h.res
  refine ⟨nv, rv, bv, names, rows, real, rfl, D1, hd, rc.touch D3 hR, ?_⟩
  exact ((fr.setCell (p := ⟨w.heap.size, 0, none⟩) (Or.inr (Nat.le_refl _)) _).setCell (p := ⟨w.heap.size, 1, none⟩) (Or.inr (Nat.le_refl _)) _).setCell (p := ⟨w.heap.size, 2, none⟩) (Or.inr (Nat.le_refl _)) _
end
theorem field45 (T : Nat) (w : World) (k : Nat) (hk : k < 3) : (Instr.fieldAt 37 (.pointer (some ⟨T, 0, none⟩)) k).run Tryd.prog w = .ok (.pointer (some ⟨T, k, none⟩)) w := by
  match k, hk with
  | 0, _ => simp [Instr.fieldAt, go_sem]
  | 1, _ => simp [Instr.fieldAt, go_sem]
  | 2, _ => simp [Instr.fieldAt, go_sem]
end Go.Proofs.YtbhklgiecfcfcaaDoor
