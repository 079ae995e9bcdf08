/- A padded table under construction; what functions of padded tables give back. -/
import Derived.Test.YtbhklgiecfcfcaaDoorRes
import Derived.Test.YtbhklgiecfcfcaaDoorMarkPad
namespace Go.Proofs.YtbhklgiecfcfcaaDoor
open Go Go.RowKit
set_option maxRecDepth 100000
section
variable {w1 w w' w6 : World} {lo T b n z : Nat} {t t' e0 : TypeId} {cs : Array Value} {nv rv bv u v6 v0 : Value} {names : List ByteArray} {vs xs : List Value} {rows : List (List Int)} {r : List Int} {real : List Bool}
/-- Another row of the call's own was written or left. -/
theorem Half.off (h : Half w1 w lo T t cs nv rv names vs rows) (h0 : w.ownsRow b e0 z v0 n xs) (hb : ∀ g, v0.ownBlock = some g → T + 1 ≤ g) (h1 : 49 ≠ e0) (h2 : 3 ≠ e0) (hg : w.grownBy w' v0.ownBlock) : Half w1 w' lo T t cs nv rv names vs rows := by
  have hT := h.lt
  refine ⟨h.blk.grown hg (fun e => by have := hb _ e.symm; omega), ?_, h.top, (h.rows.off_own h0 h1 h2 hg).wide hg.size, h.below.grown hg h.below.size (fun g e => by have := hb g e; have := h.base; omega), h.base⟩
  exact own_block h.own fun g e => hg.block g (h.own.lt g e).2 (fun e' => by have := hb g e'.symm; have := h.top g e; omega)
theorem Half.alloc (h : Half w1 w lo T t cs nv rv names vs rows) (o : Obj) : Half w1 (w.alloc o) lo T t cs nv rv names vs rows := h.go ((Below.refl _ _).alloc (Nat.le_refl _) _)
/-- A field is stored. -/
theorem Half.set_ (h : Half w1 w lo T t cs nv rv names vs rows) (i : Nat) (u : Value) : Half w1 (w.setCell ⟨T, i, none⟩ u) lo T t (cs.setIfInBounds i u) nv rv names vs rows := by
  have tt : Touch T (T + 1) w (w.setCell ⟨T, i, none⟩ u) := (Touch.refl _ _ _).setCell (p := ⟨T, i, none⟩) (Or.inl ⟨Nat.le_refl _, Nat.lt_succ_self _⟩) _
  refine ⟨h.blk.set_ i u, tt.own h.own (fun g e => Or.inl (h.top g e)), h.top, ?_, h.below.setCell (by show w1.heap.size ≤ T; exact h.base) _, h.base⟩
  have := h.rows.touch tt (Or.inr (Nat.le_refl _))
  simpa [World.setCell] using this
structure HalfP (w1 w : World) (lo T : Nat) (t : TypeId) (cs : Array Value) (nv rv bv : Value) (names : List ByteArray) (vs : List Value) (rows : List (List Int)) (real : List Bool) : Prop where
  h : Half w1 w lo T t cs nv rv names vs rows
  bown : w.ownsRow (T + 1) 4 1 bv real.length (boCells real)
theorem HalfP.drew (h : HalfP w1 w lo T t cs nv rv bv names vs rows real) : HalfP w1 w.drew lo T t cs nv rv bv names vs rows real := ⟨h.h.drew, h.bown.drew⟩
theorem HalfP.go (h : HalfP w1 w lo T t cs nv rv bv names vs rows real) (hb : Below w.heap.size w w') : HalfP w1 w' lo T t cs nv rv bv names vs rows real := ⟨h.h.go hb, own_below h.bown hb⟩
theorem HalfP.bge (h : HalfP w1 w lo T t cs nv rv bv names vs rows real) : ∀ g, bv.ownBlock = some g → T + 1 ≤ g := fun g e => (h.bown.lt g e).1
theorem HalfP.push (h : HalfP w1 w lo T t cs nv rv bv names vs rows real) (ou : w'.ownsRow w.heap.size 3 1 u r.length (inCells r)) (hb : Below w.heap.size w w')
    (ho6 : w6.ownsRow (T + 1) 49 1 v6 (rows.length + 1) (vs ++ [u])) (hg6 : (w'.alloc (.cells #[u] t')).grownBy w6 rv.ownBlock) (hd6 : v6.ownBlock = rv.ownBlock ∨ v6.ownBlock = some (w'.alloc (.cells #[u] t')).heap.size) :
    HalfP w1 (w6.setCell ⟨T, 1, none⟩ v6) lo T t (cs.setIfInBounds 1 v6) nv v6 bv names (vs ++ [u]) (rows ++ [r]) real := by
  refine ⟨h.h.push ou hb ho6 hg6 hd6, ?_⟩
  have tt : Touch T (T + 1) w6 (w6.setCell ⟨T, 1, none⟩ v6) := (Touch.refl _ _ _).setCell (p := ⟨T, 1, none⟩) (Or.inl ⟨Nat.le_refl _, Nat.lt_succ_self _⟩) _
  have b1 := (own_below h.bown hb).alloc (.cells #[u] t')
  have r1 := ((h.h.rows.below hb).alloc (.cells #[u] t')).own
  exact tt.own (own_block b1 fun g e => hg6.block g (b1.lt g e).2 (fun e' => own_types b1 r1 (by decide) g e e'.symm)) (fun g e => Or.inr (h.bge g e))
theorem HalfP.pushB {x : Bool} {o : Obj} (h : HalfP w1 w lo T t cs nv rv bv names vs rows real) (ho6 : w6.ownsRow (T + 1) 4 1 v6 (real.length + 1) (boCells real ++ [.bool x])) (hg6 : (w.alloc o).grownBy w6 bv.ownBlock) :
    HalfP w1 (w6.setCell ⟨T, 2, none⟩ v6) lo T t (cs.setIfInBounds 2 v6) nv rv v6 names vs rows (real ++ [x]) := by
  have tt : Touch T (T + 1) w6 (w6.setCell ⟨T, 2, none⟩ v6) := (Touch.refl _ _ _).setCell (p := ⟨T, 2, none⟩) (Or.inl ⟨Nat.le_refl _, Nat.lt_succ_self _⟩) _
  refine ⟨((h.h.alloc o).off (h.bown.alloc o) h.bge (by decide) (by decide) hg6).set_ 2 v6, ?_⟩
  have h2 := tt.own_above ho6 (Nat.le_refl _)
  rw [boCells_append, List.length_append]
  exact h2
theorem HalfP.padO (h : HalfP w1 w lo T t cs nv rv bv names vs rows real) (hl : lo ≤ T + 1) : PadO w lo (.agg #[nv, rv, bv]) names rows real :=
  ⟨nv, rv, bv, rfl, h.h.own, ⟨vs, h.h.rows.low hl⟩, h.bown.base_le hl⟩
end
theorem cells_newS (w : World) (p : Addr) (v : Value) (t : TypeId) (l : List Value) : ∀ (j : Nat) (u : Value), l[j]? = some u → ((w.setCell p v).alloc (.cells l.toArray t)).cell? ((⟨w.heap.size, 0, none⟩ : Addr).add j) = some u := by
  have h := cells_new (w.setCell p v) t l
  rw [show (w.setCell p v).heap.size = w.heap.size by simp [World.setCell]] at h
  exact h
def PadRes (w : World) (ok : Bool) (names : List ByteArray) (rows : List (List Int)) (real : List Bool) (e : Ending) (w' : World) : Prop := ∃ v0 v1 v2 : Value, e = .returned (.tuple #[.agg #[v0, v1, v2], .bool ok]) ∧ PadO w' w.heap.size (.agg #[v0, v1, v2]) names rows real ∧ Below w.heap.size w w'
section
variable {w w' w2 : World} {lo g : Nat} {x y z a b c v : Value} {ok : Bool} {names : List ByteArray} {rows : List (List Int)} {real : List Bool} {e : Ending}
theorem PadO.touch {p q : Nat} (h : PadO w lo v names rows real) (ht : Touch p q w w') (hb : q ≤ lo) (hs : w'.heap.size = w.heap.size) : PadO w' lo v names rows real := by
  obtain ⟨v0, v1, v2, e, h0, ⟨us, h1⟩, h2⟩ := h
  exact ⟨v0, v1, v2, e, ht.own_above h0 hb, ⟨us, by rw [hs]; exact h1.touch ht (Or.inr hb)⟩, ht.own_above h2 hb⟩
theorem PadO.nil (w : World) (lo : Nat) : PadO w lo (.agg #[nilV, nilV, nilV]) [] [] [] := ⟨_, _, _, rfl, World.ownsRow_nil w _ _ _, ⟨[], RowsV.nil w _ _⟩, World.ownsRow_nil w _ _ _⟩
theorem PadRes.nil (hb : Below w.heap.size w w') : PadRes w false [] [] [] (.returned (.tuple #[.agg #[nilV, nilV, nilV], .bool false])) w' := ⟨_, _, _, rfl, PadO.nil w' _, hb⟩
theorem resP_store (hb : Below w.heap.size w w2) (hk : Blk w2 g 37 #[x, y, z]) (hg : w.heap.size ≤ g) (a b c : Value) :
    (((w2.setCell ⟨g, 0, none⟩ a).setCell ⟨g, 1, none⟩ b).setCell ⟨g, 2, none⟩ c).cell? ⟨g, 0, none⟩ = some a ∧ (((w2.setCell ⟨g, 0, none⟩ a).setCell ⟨g, 1, none⟩ b).setCell ⟨g, 2, none⟩ c).cell? ⟨g, 1, none⟩ = some b ∧ (((w2.setCell ⟨g, 0, none⟩ a).setCell ⟨g, 1, none⟩ b).setCell ⟨g, 2, none⟩ c).cell? ⟨g, 2, none⟩ = some c ∧ Below w.heap.size w (((w2.setCell ⟨g, 0, none⟩ a).setCell ⟨g, 1, none⟩ b).setCell ⟨g, 2, none⟩ c) ∧ Touch g (g + 1) w2 (((w2.setCell ⟨g, 0, none⟩ a).setCell ⟨g, 1, none⟩ b).setCell ⟨g, 2, none⟩ c) := by
  have q := ((hk.set_ 0 a).set_ 1 b).set_ 2 c
  have r0 := q.cell 0
  have r1 := q.cell 1
  have r2 := q.cell 2
  simp at r0 r1 r2
  exact ⟨r0, r1, r2, ((hb.setCell (p := ⟨g, 0, none⟩) hg a).setCell (p := ⟨g, 1, none⟩) hg b).setCell (p := ⟨g, 2, none⟩) hg c, (((Touch.refl _ _ _).setCell (p := ⟨g, 0, none⟩) (Or.inl ⟨Nat.le_refl _, Nat.lt_succ_self _⟩) _).setCell (p := ⟨g, 1, none⟩) (Or.inl ⟨Nat.le_refl _, Nat.lt_succ_self _⟩) _).setCell (p := ⟨g, 2, none⟩) (Or.inl ⟨Nat.le_refl _, Nat.lt_succ_self _⟩) _⟩
theorem resP_end (hb : Below w.heap.size w w2) (hk : Blk w2 g 37 #[x, y, z]) (hg : w.heap.size ≤ g) (ht : PadO w2 lo (.agg #[a, b, c]) names rows real) (hlo : g + 1 ≤ lo) :
    (((w2.setCell ⟨g, 0, none⟩ a).setCell ⟨g, 1, none⟩ b).setCell ⟨g, 2, none⟩ c).cell? ⟨g, 0, none⟩ = some a ∧ (((w2.setCell ⟨g, 0, none⟩ a).setCell ⟨g, 1, none⟩ b).setCell ⟨g, 2, none⟩ c).cell? ⟨g, 1, none⟩ = some b ∧ (((w2.setCell ⟨g, 0, none⟩ a).setCell ⟨g, 1, none⟩ b).setCell ⟨g, 2, none⟩ c).cell? ⟨g, 2, none⟩ = some c ∧ PadRes w true names rows real (.returned (.tuple #[.agg #[a, b, c], .bool true])) (((w2.setCell ⟨g, 0, none⟩ a).setCell ⟨g, 1, none⟩ b).setCell ⟨g, 2, none⟩ c) := by
  obtain ⟨r0, r1, r2, rb, tt⟩ := resP_store hb hk hg a b c
  exact ⟨r0, r1, r2, a, b, c, rfl, (ht.touch tt hlo (by simp [World.setCell])).low (by omega), rb⟩
theorem PadRes.form (h : PadRes w ok names rows real e w') : ∃ (A : Option Addr) (c : Nat) (B : Option Addr) (d : Nat) (C : Option Addr) (f : Nat), e = .returned (.tuple #[.agg #[.slice A names.length c, .slice B rows.length d, .slice C real.length f], .bool ok]) ∧ PadO w' w.heap.size (.agg #[.slice A names.length c, .slice B rows.length d, .slice C real.length f]) names rows real ∧ Below w.heap.size w w' := by
  obtain ⟨v0, v1, v2, rfl, ht, hb⟩ := h
  obtain ⟨A, c, B, d, C, f, hv⟩ := ht.padV.form
  rw [hv] at ht ⊢
  exact ⟨A, c, B, d, C, f, rfl, ht, hb⟩
/-- A padded table that is read, below a bound. -/
def PadB (w : World) (B0 : Nat) (v : Value) (names : List ByteArray) (rows : List (List Int)) (real : List Bool) : Prop := ∃ (A : Option Addr) (c : Nat) (B : Option Addr) (d : Nat) (C : Option Addr) (f : Nat), v = .agg #[.slice A names.length c, .slice B rows.length d, .slice C real.length f] ∧ names.length ≤ c ∧ Reads w B0 1 A names.length (stCells names) ∧ RowsR w B0 B rows.length rows ∧ Reads w B0 1 C real.length (boCells real)
theorem PadR.padB (h : PadR w v names rows real) : PadB w w.heap.size v names rows real := h
theorem PadB.padR {B0 : Nat} (h : PadB w B0 v names rows real) (hB : B0 ≤ w.heap.size) : PadR w v names rows real := by
  obtain ⟨A, c, B, d, C, f, e, h1, h2, h3, h4⟩ := h
  exact ⟨A, c, B, d, C, f, e, h1, h2.more hB, h3.more hB, h4.more hB⟩
theorem PadB.belowW {B0 : Nat} (h : PadB w B0 v names rows real) (hB : B0 ≤ w.heap.size) (hb : Below w.heap.size w w') : PadB w' B0 v names rows real := by
  obtain ⟨A, c, B, d, C, f, e, h1, h2, h3, h4⟩ := h
  exact ⟨A, c, B, d, C, f, e, h1, h2.belowW hB hb, h3.belowW hB hb, h4.belowW hB hb⟩
theorem PadB.touch {B0 lo hi : Nat} (h : PadB w B0 v names rows real) (ht : Touch lo hi w w') (hB : B0 ≤ lo) (hw : B0 ≤ w.heap.size) : PadB w' B0 v names rows real := by
  obtain ⟨A, c, B, d, C, f, e, h1, h2, h3, h4⟩ := h
  exact ⟨A, c, B, d, C, f, e, h1, h2.touch ht hB hw, h3.touch ht hB hw, h4.touch ht hB hw⟩
end
end Go.Proofs.YtbhklgiecfcfcaaDoor
