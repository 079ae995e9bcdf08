/- spec.l20Padded. -/
import Derived.Test.YtbhklgiecfcfcaaDoorDrawPad
import Derived.Test.YtbhklgiecfcfcaaDoorTypedA
import Derived.Deep.DeepCutAuto
namespace Go.Proofs.YtbhklgiecfcfcaaDoor
open Go Go.RowKit
set_option maxRecDepth 100000

/-- The class of region 2. -/
structure ClP2 (R B lo T : Nat) (nv : Value) (names : List ByteArray) (w0 : World) (f : Nat) (w : World) : Prop where
  rc : Rc w R (B + 1300 * f)
  fr : Touch R (R + 1) w0 w
  own : w.ownsRow lo 9 1 nv names.length (stCells names)
  blk : ∃ rv, Blk w T 37 #[nv, rv, .slice none 0 0]
  res : Blk w lo 37 #[.slice none 0 0, .slice none 0 0, .slice none 0 0]
/-- Rows that a slot of a drawn region holds. -/
def RowsX (T n : Nat) (v : Value) (w : World) : Prop := ∃ (hi : Nat) (vs : List Value) (rows : List (List Int)), hi ≤ w.heap.size ∧ RowsV w (T + 1) hi v vs rows ∧ rows.length ≤ 31 ∧ ∀ r ∈ rows, r.length = n
def PkP2 (lo T : Nat) (nv : Value) (names : List ByteArray) (w : World) : Prop := ∃ rv rows, PadS w lo T nv rv (.slice none 0 0) names rows [] ∧ rows.length ≤ 31 ∧ ∀ r ∈ rows, r.length = names.length
theorem clsP2 (R B lo T : Nat) (nv : Value) (names : List ByteArray) (w0 : World) : Cls (NT R T) (PkP2 lo T nv names) (ClP2 R B lo T nv names w0) where
  less f w h := ⟨h.rc.less (by omega), h.fr, h.own, h.blk, h.res⟩
  alloc f w ob h := ⟨h.rc.alloc ob, h.fr.alloc ob, h.own.alloc _, by obtain ⟨rv, hb⟩ := h.blk; exact ⟨rv, hb.alloc ob⟩, h.res.alloc ob⟩
  lt f w h := by
    obtain ⟨rv, hb⟩ := h.blk
    have h1 := hb.lt
    have h2 := h.rc.lt
    unfold NT; omega
  keep w ob h := by obtain ⟨rv, rows, h1, h2⟩ := h; exact ⟨rv, rows, h1.alloc ob, h2⟩
theorem PkP2.pick {R lo T : Nat} {nv : Value} {names : List ByteArray} {w w' : World} (hl : R < lo) (hT : R < T) (ht : Touch R (R + 1) w w') : Mv (NT R T) (PkP2 lo T nv names) w w' :=
  ⟨Chg.of_pick ht (.inl rfl), fun ⟨rv, rows, h1, h2⟩ => ⟨rv, rows, h1.touch ht hl hT, h2⟩⟩
theorem ClP2.pick {R B lo T f : Nat} {nv : Value} {names : List ByteArray} {w0 w w' : World} (hl : R < lo) (hT : R < T) (h : ClP2 R B lo T nv names w0 (f + 1) w) (hr : Rc w' R (B + 1300 * f)) (ht : Touch R (R + 1) w w') : ClP2 R B lo T nv names w0 f w' :=
  ⟨hr, h.fr.trans ht, ht.own_above h.own (by omega), by obtain ⟨rv, hb⟩ := h.blk; exact ⟨rv, ht.blk hb (by omega)⟩, ht.blk h.res (by omega)⟩
theorem cells_new' (w : World) (t : TypeId) (l : List Value) (z : Nat) (hz : z = w.heap.size) : ∀ (j : Nat) (u : Value), l[j]? = some u → (w.alloc (.cells l.toArray t)).cell? ((⟨z, 0, none⟩ : Addr).add j) = some u := by
  subst hz
  exact cells_new w t l
theorem hat_of {v : Value} {g n c H : Nat} (h : v.ownBlock = some g ∨ g = H) : (Value.slice (some ⟨g, 0, none⟩) n c).ownBlock = v.ownBlock ∨ (Value.slice (some ⟨g, 0, none⟩) n c).ownBlock = some H := by
  rcases h with h | h
  · exact Or.inl (by rw [h]; rfl)
  · exact Or.inr (by rw [← h]; rfl)
/-- The block T written: credits and frame. -/
theorem rc_frT {R B T : Nat} {w w1 : World} (h : Rc w1 R B ∧ Touch R (R + 1) w w1) (hRT : R < T) (hT : w.heap.size ≤ T) (i : Nat) (u : Value) : Rc (w1.setCell ⟨T, i, none⟩ u) R B ∧ Touch R (R + 1) w (w1.setCell ⟨T, i, none⟩ u) :=
  ⟨h.1.touch (lo := T) (hi := T + 1) ((Touch.refl _ _ _).setCell (p := ⟨T, i, none⟩) (Or.inl ⟨Nat.le_refl _, Nat.lt_succ_self _⟩) _) hRT, h.2.setCell (p := ⟨T, i, none⟩) (Or.inr hT) _⟩
theorem rc_frA {R B : Nat} {w w1 : World} (h : Rc w1 R B ∧ Touch R (R + 1) w w1) (o : Obj) : Rc (w1.alloc o) R B ∧ Touch R (R + 1) w (w1.alloc o) := ⟨h.1.alloc o, h.2.alloc o⟩
theorem rc_frG {R B b e n z : Nat} {w w1 w2 : World} {v : Value} {xs : List Value} (h : Rc w1 R B ∧ Touch R (R + 1) w w1) (ho : w1.ownsRow b e z v n xs) (hb : w.heap.size ≤ b) (hR : R < w.heap.size) (hg : w1.grownBy w2 v.ownBlock) : Rc w2 R B ∧ Touch R (R + 1) w w2 :=
  ⟨h.1.touch (Touch.of_grown (lo := b) (hi := w1.heap.size) hg (fun g e => ho.lt g e)) (by omega), h.2.grown hg (fun g e => Or.inr (Nat.le_trans hb (ho.lt g e).1))⟩
theorem rc_frB {R B : Nat} {w w1 w2 : World} (h : Rc w1 R B ∧ Touch R (R + 1) w w1) (hb : Below w1.heap.size w1 w2) : Rc w2 R B ∧ Touch R (R + 1) w w2 := ⟨h.1.below hb, h.2.then_below hb⟩
theorem rc_fr1 {R B G : Nat} {w w1 : World} {u : Value} (h : Rc w1 R B ∧ Touch R (R + 1) w w1) (hR : R < G) (hG : w.heap.size ≤ G) : Rc (w1.setCell ⟨G, 0, none⟩ u) R B ∧ Touch R (R + 1) w (w1.setCell ⟨G, 0, none⟩ u) := rc_frT h hR hG 0 u
theorem made_zero {w : World} {b n : Nat} {v : Value} (h : w.ownsRow b 3 1 v n (madeCells (Value.int IntKind.i64 0).cells (n * 1)).toList) : w.ownsRow b 3 1 v n (inCells (List.replicate n 0)) := by
  have e0 : (madeCells (Value.int IntKind.i64 0).cells (n * 1)).toList = inCells (List.replicate n 0) := by
    rw [Nat.mul_one]
    exact (toList_madeCells_one _ _).trans (by simp [inCells])
  rw [e0] at h
  exact h
theorem zero_at {n : Nat} (h : 0 < n) : (inCells (List.replicate n 0))[0]? = some (.int .i64 0) := by
  unfold inCells
  rw [List.map_replicate, List.getElem?_replicate, if_pos h]
/-- A fresh row of zeros whose first place is set to 1. -/
theorem pad_row1 {wM : World} {lo T G n : Nat} {nv rv bv : Value} {names : List ByteArray} {rows : List (List Int)} {real : List Bool} {vs : List Value} (h : PadS wM lo T nv rv bv names rows real) (hM : wM.ownsRow lo 3 1 (.slice (some ⟨G, 0, none⟩) n n) n (inCells (List.replicate n 0))) (_ : lo ≤ G) (hv : RowsV wM lo G rv vs rows) (_ : G ≤ wM.heap.size) :
    PadS (wM.setCell ⟨G, 0, none⟩ (.int .i64 1)) lo T nv rv bv names rows real ∧ (wM.setCell ⟨G, 0, none⟩ (.int .i64 1)).ownsRow lo 3 1 (.slice (some ⟨G, 0, none⟩) n n) ((List.replicate n (0 : Int)).set 0 1).length (inCells ((List.replicate n 0).set 0 1)) ∧ RowsV (wM.setCell ⟨G, 0, none⟩ (.int .i64 1)) lo G rv vs rows := by
  have hst := hM.stored 0 (.int .i64 1)
  have hv' : RowsV (wM.setCell ⟨G, 0, none⟩ (.int .i64 1)) lo G rv vs rows := hv.block (fun g _ _ hlt => Below.heap_setCell _ _ _ _ (by show g ≠ G; omega))
  have hlen : n = ((List.replicate n (0 : Int)).set 0 1).length := by simp
  refine ⟨h.grewR hM (by decide) (by decide) (by decide) hst.2 ⟨vs, hv'.wide (by have := (hM.lt G rfl).2; simp [World.setCell]; omega)⟩, ?_, hv'⟩
  rw [← hlen]
  have := hst.1
  unfold inCells at this ⊢
  rw [List.map_set]
  exact this
def padV2 (R lo T : Nat) (nv : Value) (most : Nat) (names : List ByteArray) (i : Nat) (v : Value) (w : World) : Prop := match i with
  | 0 | 4 => v = .pointer (some ⟨R, 0, none⟩)
  | 1 => v = .pointer (some ⟨T, 0, none⟩)
  | 2 => v = nv
  | 3 => v = .int .i64 (names.length : Int)
  | 5 => v = .int .i64 (most : Int)
  | 6 => v = .int .i64 ((most + 1 : Nat) : Int)
  | 7 => NatB (most + 1) v w
  | 8 => RowsX T names.length v w
  | 9 => v = .pointer (some ⟨T, 1, none⟩)
  | 10 => PkP2 lo T nv names w
  | _ => True
theorem padV2_stable {R lo T : Nat} {nv : Value} {most : Nat} {names : List ByteArray} (hRT : R < T) (i : Nat) (v : Value) (w w' : World) (h : padV2 R lo T nv most names i v w) (hs : Mv (NT R T) (PkP2 lo T nv names) w w') : padV2 R lo T nv most names i v w' := by
  unfold padV2 at h ⊢
  split at h <;> first | exact h | exact hs.2 h | skip
  obtain ⟨hi, vs, rows, h1, h2, h3⟩ := h
  exact ⟨hi, vs, rows, Nat.le_trans h1 hs.1.size, h2.block (fun g hg hlt _ => hs.1.block g hlt (by unfold NT; omega)), h3⟩
def padV9 (lo T gN nm c2 : Nat) (rv bv : Value) (s0 : ByteArray) (names : List ByteArray) (rows : List (List Int)) (real : List Bool) (i : Nat) (v : Value) (w : World) : Prop := match i with
  | 0 | 2 | 8 => v = .pointer (some ⟨T, 0, none⟩)
  | 1 | 3 => v = .slice (some ⟨gN, 0, none⟩) nm c2
  | 4 => v = .pointer (some ⟨gN, 0, none⟩)
  | 5 => v = .string s0
  | 6 => ∃ g, v = .slice (some ⟨g, 0, none⟩) 1 1 ∧ ¬ (g = T ∨ g = gN) ∧ w.cell? ⟨g, 0, none⟩ = some (.string s0)
  | 7 => ∃ cn, PadG w lo T cn rv bv v rv bv (names ++ [s0]) rows real ∧ ∃ A c, v = .slice A (nm + 1) c
  | 9 => ∃ u, PadG w lo T u rv bv u rv bv (names ++ [s0]) rows real ∧ ∃ A c, u = .slice A (nm + 1) c
  | _ => True
def padV6 (R lo T : Nat) (nv rv bv : Value) (z k : Nat) (names : List ByteArray) (rows : List (List Int)) (real : List Bool) (i : Nat) (v : Value) (w : World) : Prop := match i with
  | 0 | 7 => v = .pointer (some ⟨T, 2, none⟩)
  | 1 => v = bv
  | 2 => v = .pointer (some ⟨R, 0, none⟩)
  | 3 => NatB 3 v w
  | 4 => ∃ b : Bool, v = .bool b
  | 5 => ∃ (g : Nat) (b : Bool), v = .slice (some ⟨g, 0, none⟩) 1 1 ∧ z ≤ g ∧ w.cell? ⟨g, 0, none⟩ = some (.bool b)
  | 6 => ∃ c, (∃ b, PadG w lo T nv rv c nv rv v names rows (real ++ [b])) ∧ ∃ A cc, v = .slice A (k + 1) cc
  | 8 => ∃ u, (∃ b, PadG w lo T nv rv u nv rv u names rows (real ++ [b])) ∧ ∃ A cc, u = .slice A (k + 1) cc
  | _ => True
def PreP8 (lo T : Nat) (nv rv bv : Value) (z : Nat) (names : List ByteArray) (rows : List (List Int)) (real : List Bool) (w : World) : Prop := PadS w lo T nv rv bv names rows real ∧ ∃ vs, RowsV w lo z rv vs rows ∧ z ≤ w.heap.size
def PkP8 (lo T : Nat) (nv rv bv : Value) (k : Nat) (names : List ByteArray) (rows : List (List Int)) (real : List Bool) (w : World) : Prop := PadS w lo T nv rv bv names (rows.set k (List.replicate names.length 0)) real
section
variable {lo T z k : Nat} {nv rv bv : Value} {names : List ByteArray} {rows : List (List Int)} {real : List Bool}
theorem PreP8.below {w w' : World} (h : PreP8 lo T nv rv bv z names rows real w) (hb : Below w.heap.size w w') : PreP8 lo T nv rv bv z names rows real w' := by
  obtain ⟨h1, vs, h2, h3⟩ := h
  exact ⟨h1.below hb, vs, h2.below hb, Nat.le_trans h3 hb.size⟩
theorem PreP8.alloc (w : World) (ob : Obj) (h : PreP8 lo T nv rv bv z names rows real w) : PreP8 lo T nv rv bv z names rows real (w.alloc ob) := h.below ((Below.refl _ _).alloc (Nat.le_refl _) _)
theorem PkP8.below {w w' : World} (h : PkP8 lo T nv rv bv k names rows real w) (hb : Below w.heap.size w w') : PkP8 lo T nv rv bv k names rows real w' := PadG.below h hb
theorem PkP8.alloc (w : World) (ob : Obj) (h : PkP8 lo T nv rv bv k names rows real w) : PkP8 lo T nv rv bv k names rows real (w.alloc ob) := PadG.alloc h ob
end
def padV8 (lo T : Nat) (nv rv : Value) (gR k z : Nat) (names : List ByteArray) (Pk : World → Prop) (i : Nat) (v : Value) (w : World) : Prop := match i with
  | 0 => v = .pointer (some ⟨T, 1, none⟩)
  | 1 => v = rv
  | 2 => v = .int .i64 (k : Int)
  | 3 => v = .pointer (some ⟨T, 0, none⟩)
  | 4 => v = nv
  | 5 => v = .int .i64 (names.length : Int)
  | 6 => ∃ g, v = .slice (some ⟨g, 0, none⟩) names.length names.length ∧ z ≤ g ∧ w.ownsRow lo 3 1 v names.length (inCells (List.replicate names.length 0))
  | 7 => v = .pointer (some ⟨gR, k, none⟩)
  | 8 => Pk w
  | _ => True
theorem padV8_stable {R lo T gR k z : Nat} {nv rv : Value} {names : List ByteArray} {Pk : World → Prop} (hR : R < z) (hg : gR < z) (i : Nat) (v : Value) (w w' : World) (h : padV8 lo T nv rv gR k z names Pk i v w) (hs : Mv (fun x => x = R ∨ x = gR) Pk w w') : padV8 lo T nv rv gR k z names Pk i v w' := by
  unfold padV8 at h ⊢
  split at h <;> first | exact h | exact hs.2 h | skip
  obtain ⟨g, e, hz, ho⟩ := h
  refine ⟨g, e, hz, hs.1.own ho (fun g' e' => ?_)⟩
  subst e
  simp [Value.ownBlock] at e'
  omega
set_option maxHeartbeats 3200000 in
theorem pad_c (R B kind most : Nat) (n : Int) (w : World) (h : Rc w R (B + 30000)) (hk : kind < 3) (hmost : most ≤ 30) (hn : n ≤ 100000) :
    Calls Tryd.prog 34 #[.pointer (some ⟨R, 0, none⟩), .int .i64 (kind : Int), .int .i64 (most : Int), .int .i64 n] w (PadPost R B w) := by
  obtain ⟨is, his, hsz, hss, hsb⟩ := info_parts infoStr
  obtain ⟨ii, hii, hiz, his', iib⟩ := info_parts infoInt
  obtain ⟨j0, hjI, hjz0, hjz1, hjz2⟩ := info_parts infoRow
  obtain ⟨ib, hib, hbz0, hbz1, hbz2⟩ := info_parts infoBool
  have hRw : R + 1 ≤ w.heap.size := h.lt
  go_enter Tryd.func34, Tryd.ntmps34
  go_wp2_with fail
  have own0 : ((w.alloc (.cells #[.slice none 0 0, .slice none 0 0, .slice none 0 0] 37)).alloc (.cells #[] 9)).ownsRow w.heap.size 9 1 (.slice (some ⟨w.heap.size + 1, 0, none⟩) 0 0) 0 [] := by
    have := World.ownsRow_made (base := w.heap.size) (e := 9) (size := 1) (w.alloc (.cells #[.slice none 0 0, .slice none 0 0, .slice none 0 0] 37)) #[] 0 (by simp) (by unfold maxLen; omega) rfl
    rw [World.size_alloc] at this
    exact this
  refine (names_c R (B + 29900) kind _ (((h.alloc _).alloc _).less (by omega)) hk).mono ?_
  rintro e w1 ⟨v1, rfl, hv1, rc1, t1⟩
  obtain ⟨g, names, rfl, hgb, hl1, hl3, hl5⟩ := strRow_open hv1
  have o1 := t1.own_above own0 hRw
  have fr1 : Touch R (R + 1) w w1 := (((Touch.refl R (R + 1) w).alloc _).alloc _).trans t1
  have k6 : Blk w1 w.heap.size 37 #[.slice none 0 0, .slice none 0 0, .slice none 0 0] := t1.blk ((Blk.new w _ _).alloc _) (by omega)
  have hs1 := fr1.size
  go_wp2_with (first
    | (at_builtin; refine wpList_append_own _ rfl _ _ 23 rfl w.heap.size 9 is _ 1 16 Tryd.underlying23 his hsz hss hsb rfl (by decide) _ _ _ rfl o1 ⟨g, 0, none⟩ names.length names.length (stCells names) rfl (by simp [stCells_length]) (blk_cells hgb) (by intro u hu; simp [stCells] at hu; obtain ⟨x, _, rfl⟩ := hu; rfl) (by unfold maxLen; omega) (by omega) (by omega) ?_; intro v2 w2 hown2 hgrow2 _; simp only [Nat.zero_add, List.nil_append] at hown2; obtain ⟨A2, c2, rfl, hA2, _⟩ := own_form hown2))
  have rc2 := rc1.touch (Touch.of_grown (lo := w.heap.size) (hi := w1.heap.size) hgrow2 (fun g e => o1.lt g e)) hRw
  have fr2 : Touch R (R + 1) w w2 := fr1.grown hgrow2 fun g e => Or.inr (o1.lt g e).1
  have hs2 := fr2.size
  have hRT : R < w2.heap.size := by omega
  have k62 : Blk w2 w.heap.size 37 #[.slice none 0 0, .slice none 0 0, .slice none 0 0] := k6.grown hgrow2 (fun e => own_blk_ne o1 k6 (by decide) e.symm)
  have hT0 := k62.lt
  refine wp_region_typed (by kernel_rfl) (fun _ => true) (lift <| padV2 R w.heap.size w2.heap.size (.slice A2 names.length c2) most names) (fun _ => Mv (NT R w2.heap.size) (PkP2 w.heap.size w2.heap.size (.slice A2 names.length c2) names)) (ClP2 R (B + 4000) w.heap.size w2.heap.size (.slice A2 names.length c2) names w) (by kernel_rfl) (stab (fun i v w1 w3 h hs => padV2_stable hRT i v w1 w3 h hs)) ?_ ?_ ?_ (by kernel_rfl) ?_
  · exact dst_lt (n := 111) (by kernel_rfl)
  · exact ⟨(rc2.alloc _).less (by have : 1300 * 11 = 14300 := rfl; show B + 4000 + 1300 * 11 ≤ _; omega), (fr2.alloc _).drew, (hown2.alloc _), ⟨_, (Blk.new w2 _ _)⟩, k62.alloc _⟩
  · refine ok_all ⟨?_, ?_, ?_, ?_, ?_, ?_, ?_, ?_, ?_, ?_, ?_, trivial⟩
    · refine ok_put (clsP2 R (B + 4000) w.heap.size w2.heap.size (.slice A2 names.length c2) names w) (.inl rfl) (fun a w' hs hr hh => ?_)
      exact hr 0 (not_dst (by kernel_rfl))
    · refine ok_value (clsP2 R (B + 4000) w.heap.size w2.heap.size (.slice A2 names.length c2) names w) (fun f a w' hc hs hr hh => ⟨.pointer (some ⟨w2.heap.size, 0, none⟩), ?_, rfl⟩)
      have h0 : a.tmps.getD 9 undef = .pointer (some ⟨w2.heap.size, 0, none⟩) := hr 9 (not_dst (by kernel_rfl))
      simp [execOp, Act.eval, h0, field45 w2.heap.size w' 0 (by decide)]
    · refine ok_read (clsP2 R (B + 4000) w.heap.size w2.heap.size (.slice A2 names.length c2) names w) rfl (fun w => by simp [go_sem]) (fun f a w' hc hs hr hh => ?_)
      obtain ⟨_, rfl, h1⟩ := hh ⟨1, .data⟩ (by simp) rfl
      have h1 := h1 19 rfl
      obtain ⟨rv, hb⟩ := hc.blk
      exact ⟨_, _, h1, hb.cell 0, rfl⟩
    · refine ok_value (clsP2 R (B + 4000) w.heap.size w2.heap.size (.slice A2 names.length c2) names w) (fun f a w' hc hs hr hh => ⟨.int .i64 (names.length : Int), ?_, rfl⟩)
      obtain ⟨_, rfl, h1⟩ := hh ⟨2, .data⟩ (by simp) rfl
      have h1 := h1 20 rfl
      simp [execOp, go_sem, Act.eval, h1]
    · refine ok_put (clsP2 R (B + 4000) w.heap.size w2.heap.size (.slice A2 names.length c2) names w) (.inl rfl) (fun a w' hs hr hh => ?_)
      exact hr 0 (not_dst (by kernel_rfl))
    · refine ok_put (clsP2 R (B + 4000) w.heap.size w2.heap.size (.slice A2 names.length c2) names w) (.inl rfl) (fun a w' hs hr hh => ?_)
      exact hr 2 (not_dst (by kernel_rfl))
    · refine ok_value (clsP2 R (B + 4000) w.heap.size w2.heap.size (.slice A2 names.length c2) names w) (fun f a w' hc hs hr hh => ⟨.int .i64 ((most + 1 : Nat) : Int), ?_, rfl⟩)
      obtain ⟨_, rfl, h1⟩ := hh ⟨5, .data⟩ (by simp) rfl
      have h1 := h1 23 rfl
      have e1 : IntKind.i64.wrap ((most : Int) + 1) = (most : Int) + 1 := IntWalk.i64_in _ (by omega)
      simp [execOp, go_sem, Act.eval, h1, e1]
    · refine ok_call Tryd.func23 (by kernel_rfl) (by kernel_rfl) rfl (fun f a w' hc hs hr hh => ?_)
      obtain ⟨_, rfl, h1⟩ := hh ⟨4, .data⟩ (by simp) rfl
      have h1 := h1 22 rfl
      obtain ⟨_, rfl, h2⟩ := hh ⟨6, .data⟩ (by simp) rfl
      have h2 := h2 24 rfl
      rw [show #[Operand.tmp 22, Operand.tmp 24].map a.eval = #[.pointer (some ⟨R, 0, none⟩), .int .i64 ((most + 1 : Nat) : Int)] by simp [Act.eval]; exact ⟨by simpa using h1, by simpa using h2⟩]
      refine (pick_c R (B + 4000 + 1300 * f) ((most + 1 : Nat) : Int) w' (hc.rc.less (by omega)) (by omega)).mono ?_
      rintro e w3 ⟨x, rfl, hx, h2, h3, _⟩
      exact ⟨_, rfl, ⟨x, rfl, by omega⟩, PkP2.pick hRw hRT h3, hc.pick hRw hRT h2 h3⟩
    · refine ok_call Tryd.func48 (by kernel_rfl) (by kernel_rfl) rfl (fun f a w' hc hs hr hh => ?_)
      obtain ⟨_, rfl, h1⟩ := hh ⟨0, .data⟩ (by simp) rfl
      have h1 := h1 18 rfl
      obtain ⟨_, rfl, h2⟩ := hh ⟨3, .data⟩ (by simp) rfl
      have h2 := h2 21 rfl
      obtain ⟨_, ⟨m, rfl, hm⟩, h3⟩ := hh ⟨7, .data⟩ (by simp) rfl
      have h3 := h3 25 rfl
      rw [show #[Operand.tmp 18, Operand.tmp 21, Operand.tmp 25].map a.eval = #[.pointer (some ⟨R, 0, none⟩), .int .i64 (names.length : Int), .int .i64 (m : Int)] by simp [Act.eval, h1, h2, h3]]
      refine (rows_c R (B + 4000 + 1300 * f) names.length m w' (hc.rc.less (by omega)) (by omega) (by omega)).mono ?_
      rintro e w3 ⟨v, rows, rfl, ⟨vs, hv⟩, hrl, hrw, h2, h3⟩
      obtain ⟨rv, hT⟩ := hc.blk
      have := hT.lt
      exact ⟨_, rfl, ⟨_, vs, rows, Nat.le_refl _, hv.low (by omega), by omega, hrw⟩, PkP2.pick hRw hRT h3, hc.pick hRw hRT h2 h3⟩
    · refine ok_value (clsP2 R (B + 4000) w.heap.size w2.heap.size (.slice A2 names.length c2) names w) (fun f a w' hc hs hr hh => ⟨.pointer (some ⟨w2.heap.size, 1, none⟩), ?_, rfl⟩)
      have h0 : a.tmps.getD 9 undef = .pointer (some ⟨w2.heap.size, 0, none⟩) := hr 9 (not_dst (by kernel_rfl))
      simp [execOp, Act.eval, h0, field45 w2.heap.size w' 1 (by decide)]
    · refine ok_store rfl (by kernel_rfl) (fun f a w' hc hs hr hh => ?_)
      obtain ⟨_, rfl, h1⟩ := hh ⟨9, .data⟩ (by simp) rfl
      have h1 := h1 27 rfl
      obtain ⟨_, ⟨hi, vs, rows, hhi, hv, hrl, hrw⟩, h2⟩ := hh ⟨8, .data⟩ (by simp) rfl
      have h2 := h2 26 rfl
      obtain ⟨rv, hb⟩ := hc.blk
      obtain ⟨A3, c3, rfl, _, _⟩ := hv.form
      have hPG : PadG w' w.heap.size w2.heap.size (.slice A2 names.length c2) rv (.slice none 0 0) (.slice A2 names.length c2) (.slice none 0 0) (.slice none 0 0) names [] [] := ⟨hb, hc.res, hc.own, ⟨[], RowsV.nil _ _ _⟩, World.ownsRow_nil _ _ _ _⟩
      have hS := hPG.set1 hT0 (.slice A3 rows.length c3)
      have hrv : ∃ vs, RowsV (w'.setCell ⟨w2.heap.size, 1, none⟩ (.slice A3 rows.length c3)) w.heap.size (w'.setCell ⟨w2.heap.size, 1, none⟩ (.slice A3 rows.length c3)).heap.size (.slice A3 rows.length c3) vs rows :=
        ⟨vs, ((hv.block (fun g h1 _ _ => Below.heap_setCell _ _ _ _ (by show g ≠ w2.heap.size; omega))).low (by omega)).wide (by simp [World.setCell]; exact hhi)⟩
      have hp : PkP2 w.heap.size w2.heap.size (.slice A2 names.length c2) names (w'.setCell ⟨w2.heap.size, 1, none⟩ (.slice A3 rows.length c3)) := ⟨_, rows, hS.asR hrv, hrl, hrw⟩
      refine ⟨⟨w2.heap.size, 1, none⟩, rv, h1, hb.cell 1, hb.frozen 1, ?_, ?_, ?_, ?_⟩
      · rw [show a.eval (.tmp 26) = .slice A3 rows.length c3 from h2]; rfl
      · rw [show a.eval (.tmp 26) = .slice A3 rows.length c3 from h2]; exact hp
      · rw [show a.eval (.tmp 26) = .slice A3 rows.length c3 from h2]; exact ⟨Chg.setCell _ (.inr rfl) _, fun _ => hp⟩
      · rw [show a.eval (.tmp 26) = .slice A3 rows.length c3 from h2]
        refine ⟨?_, hc.fr.setCell (p := ⟨w2.heap.size, 1, none⟩) (Or.inr (by show w.heap.size ≤ w2.heap.size; omega)) _, hS.own, ⟨_, hS.blk⟩, hS.res⟩
        exact (hc.rc.touch (lo := w2.heap.size) (hi := w2.heap.size + 1) ((Touch.refl _ _ _).setCell (p := ⟨w2.heap.size, 1, none⟩) (Or.inl ⟨Nat.le_refl _, Nat.lt_succ_self _⟩) _) (by omega)).less (by omega)
  · intro a w3 hs hd hr hh hc
    obtain ⟨_, ⟨rv, rows, TS, hrl, hrw⟩, -⟩ := hh 10 (by decide) rfl
    have e0 : a.tmps.getD 0 undef = .pointer (some ⟨R, 0, none⟩) := hr 0 (not_dst (by kernel_rfl))
    have e1 : a.tmps.getD 1 undef = .int .i64 (kind : Int) := hr 1 (not_dst (by kernel_rfl))
    have e2 : a.tmps.getD 2 undef = .int .i64 (most : Int) := hr 2 (not_dst (by kernel_rfl))
    have e3 : a.tmps.getD 3 undef = .int .i64 n := hr 3 (not_dst (by kernel_rfl))
    have e8 : a.tmps.getD 8 undef = .pointer (some ⟨w.heap.size, 0, none⟩) := hr 8 (not_dst (by kernel_rfl))
    have e9 : a.tmps.getD 9 undef = .pointer (some ⟨w2.heap.size, 0, none⟩) := hr 9 (not_dst (by kernel_rfl))
    have ea : a = ⟨#[a.tmps.getD 0 undef, a.tmps.getD 1 undef, a.tmps.getD 2 undef, a.tmps.getD 3 undef, a.tmps.getD 4 undef, a.tmps.getD 5 undef, a.tmps.getD 6 undef, a.tmps.getD 7 undef, a.tmps.getD 8 undef, a.tmps.getD 9 undef, a.tmps.getD 10 undef, a.tmps.getD 11 undef, a.tmps.getD 12 undef, a.tmps.getD 13 undef, a.tmps.getD 14 undef, a.tmps.getD 15 undef, a.tmps.getD 16 undef, a.tmps.getD 17 undef, a.tmps.getD 18 undef, a.tmps.getD 19 undef, a.tmps.getD 20 undef, a.tmps.getD 21 undef, a.tmps.getD 22 undef, a.tmps.getD 23 undef, a.tmps.getD 24 undef, a.tmps.getD 25 undef, a.tmps.getD 26 undef, a.tmps.getD 27 undef, a.tmps.getD 28 undef, a.tmps.getD 29 undef, a.tmps.getD 30 undef, a.tmps.getD 31 undef, a.tmps.getD 32 undef, a.tmps.getD 33 undef, a.tmps.getD 34 undef, a.tmps.getD 35 undef, a.tmps.getD 36 undef, a.tmps.getD 37 undef, a.tmps.getD 38 undef, a.tmps.getD 39 undef, a.tmps.getD 40 undef, a.tmps.getD 41 undef, a.tmps.getD 42 undef, a.tmps.getD 43 undef, a.tmps.getD 44 undef, a.tmps.getD 45 undef, a.tmps.getD 46 undef, a.tmps.getD 47 undef, a.tmps.getD 48 undef, a.tmps.getD 49 undef, a.tmps.getD 50 undef, a.tmps.getD 51 undef, a.tmps.getD 52 undef, a.tmps.getD 53 undef, a.tmps.getD 54 undef, a.tmps.getD 55 undef, a.tmps.getD 56 undef, a.tmps.getD 57 undef, a.tmps.getD 58 undef, a.tmps.getD 59 undef, a.tmps.getD 60 undef, a.tmps.getD 61 undef, a.tmps.getD 62 undef, a.tmps.getD 63 undef, a.tmps.getD 64 undef, a.tmps.getD 65 undef, a.tmps.getD 66 undef, a.tmps.getD 67 undef, a.tmps.getD 68 undef, a.tmps.getD 69 undef, a.tmps.getD 70 undef, a.tmps.getD 71 undef, a.tmps.getD 72 undef, a.tmps.getD 73 undef, a.tmps.getD 74 undef, a.tmps.getD 75 undef, a.tmps.getD 76 undef, a.tmps.getD 77 undef, a.tmps.getD 78 undef, a.tmps.getD 79 undef, a.tmps.getD 80 undef, a.tmps.getD 81 undef, a.tmps.getD 82 undef, a.tmps.getD 83 undef, a.tmps.getD 84 undef, a.tmps.getD 85 undef, a.tmps.getD 86 undef, a.tmps.getD 87 undef, a.tmps.getD 88 undef, a.tmps.getD 89 undef, a.tmps.getD 90 undef, a.tmps.getD 91 undef, a.tmps.getD 92 undef, a.tmps.getD 93 undef, a.tmps.getD 94 undef, a.tmps.getD 95 undef, a.tmps.getD 96 undef, a.tmps.getD 97 undef, a.tmps.getD 98 undef, a.tmps.getD 99 undef, a.tmps.getD 100 undef, a.tmps.getD 101 undef, a.tmps.getD 102 undef, a.tmps.getD 103 undef, a.tmps.getD 104 undef, a.tmps.getD 105 undef, a.tmps.getD 106 undef, a.tmps.getD 107 undef, a.tmps.getD 108 undef, a.tmps.getD 109 undef, a.tmps.getD 110 undef], []⟩ := act_lit 111 hs hd
    rw [e0, e1, e2, e3, e8, e9] at ea
    obtain ⟨U, hU'⟩ : ∃ U' : Nat → Value, ∀ i, a.tmps.getD i undef = U' i := ⟨_, fun _ => rfl⟩
    simp only [hU'] at ea
    clear hs hd hr hh hU' e0 e1 e2 e3 e8 e9
    subst ea
    have rc3 : Rc w3 R (B + 4000) := hc.rc
    have fr3 := hc.fr
    clear hc hown2 hgrow2 own0 o1 t1 fr1 rc1 rc2 fr2 hgb k62 k6 hv1
    go_wp2_with fail
    obtain ⟨L, hL⟩ : ∃ L, rows.length = L := ⟨_, rfl⟩
    have hL16 : L ≤ 31 := by omega
    have P0 := Lib.hid (show ∃ (rv bv : Value) (rows : List (List Int)) (real : List Bool), PadS w3 w.heap.size w2.heap.size (.slice A2 names.length c2) rv bv names rows real ∧ rows.length = L ∧ real.length = 0 ∧ ∀ r ∈ rows, r.length = names.length from ⟨_, _, _, [], TS, hL, rfl, hrw⟩)
    have R0 := Lib.hid (And.intro rc3 fr3)
    clear TS rc3 fr3 hrl hrw hL
    go_loopw [10] (fun kv wr => ∃ k : Nat, k ≤ L ∧ kv = .int .i64 k ∧ Hid (∃ (rv bv : Value) (rows : List (List Int)) (real : List Bool), PadS wr w.heap.size w2.heap.size (.slice A2 names.length c2) rv bv names rows real ∧ rows.length = L ∧ real.length = k ∧ ∀ r ∈ rows, r.length = names.length) ∧ Hid (Rc wr R (B + 1000 + 40 * (L - k))) ∧ Hid (Touch R (R + 1) w wr)) (fun kv _ => L - (intOf kv).toNat)
    case atStart => exact ⟨0, Nat.zero_le _, rfl, P0.out, R0.out.1.less (by omega), R0.out.2⟩
    case round =>
      clear P0 R0
      obtain ⟨k, hk, rfl, hP, hrc, hfr⟩ := hrel
      have hk0 : (0 : Int) ≤ (k : Int) := Int.natCast_nonneg _
      obtain ⟨rv, bv, rows, real, PS, hrl, hbl, hrw⟩ := hP.out
      obtain ⟨A3, c3, rfl, hc3, hc3', hA3⟩ := PS.rows.choose_spec.form
      obtain ⟨A5, c5, rfl, hc5, hc5', hA5⟩ := own_form' PS.real
      have x0 := PS.blk.cell 0
      have x1 := PS.blk.cell 1
      have x2 := PS.blk.cell 2
      simp at x0 x1 x2
      have HT := Lib.hid PS
      have HRW := Lib.hid hrw
      have HBL := Lib.hid hbl
      have HRL := Lib.hid hrl
      have hTs := PS.blk.lt
      rw [hrl] at x1
      rw [hbl] at x2
      clear PS hrw hP
      rw [hrl] at HT
      rw [hbl] at HT
      by_cases hlt : k < L
      · have hk1 : (k : Int) < (L : Int) := by omega
        go_wp2_with fail
        refine wp_region_typed (by kernel_rfl) (fun _ => true) (lift <| padV6 R w.heap.size w2.heap.size (.slice A2 names.length c2) (.slice A3 L c3) (.slice A5 k c5) wr.heap.size k names rows real) (S9 (fun x => x = R ∨ x = w2.heap.size ∨ Value.ownBlock (.slice A5 k c5) = some x) (fun w' cn v => ∃ b, PadG w' w.heap.size w2.heap.size (.slice A2 names.length c2) (.slice A3 L c3) cn (.slice A2 names.length c2) (.slice A3 L c3) v names rows (real ++ [b]))) (C9 R (B + 1000 + 40 * (L - k) - 12) w wr (fun w' => PadS w' w.heap.size w2.heap.size (.slice A2 names.length c2) (.slice A3 L c3) (.slice A5 k c5) names rows real)) (by kernel_rfl) ?_ ?_ ?_ ?_ (by kernel_rfl) ?_
        · refine stabS ?_
          intro i j v wP wQ hij hna _ hv hs
          have hfresh : ∀ g, wr.heap.size ≤ g → ¬ (fun x => x = R ∨ x = w2.heap.size ∨ Value.ownBlock (.slice A5 k c5) = some x) g := fun g hg hn => by
            have h1 := HT.out.blk.lt
            rcases hn with h | h | h
            · omega
            · omega
            · have := (HT.out.real.lt g h).2; omega
          unfold padV6 at hv ⊢
          split at hv <;> first | exact hv | skip
          · obtain ⟨g, b, e, hn, hc⟩ := hv
            exact ⟨g, b, e, hn, (hs.1.cell (World.block_lt_of_cell? _ _ hc) (hfresh g hn)).trans hc⟩
          · obtain ⟨cn, hG, hsl⟩ := hv
            by_cases h9 : j = 8
            · obtain ⟨cn', h'⟩ := hs.2.2 h9 cn v hG
              exact ⟨cn', h', hsl⟩
            · exact ⟨cn, hs.2.1 (fun e => hij e.symm) h9 cn v hG, hsl⟩
          · obtain ⟨u, hG, hsl⟩ := hv
            by_cases h7 : j = 6
            · exact absurd h7.symm (hna _ rfl ⟨6, .data⟩ (by simp) rfl)
            · exact ⟨u, hs.2.1 h7 (fun e => hij e.symm) u u hG, hsl⟩
        · exact dst_lt (n := 111) (by kernel_rfl)
        · exact ⟨hrc.out.less (by show B + 1000 + 40 * (L - k) - 12 + 9 ≤ _; omega), hfr.out.drew, Nat.le_refl _, fun _ => HT.out.drew⟩
        · refine ok_all ⟨?_, ?_, ?_, ?_, ?_, ?_, ?_, ?_, ?_, trivial⟩
          · refine ok_valueS (fun w => S9.refl w) (fun f w h => h.less) (fun f listed a w' hl hc hs hr hh => ⟨.pointer (some ⟨w2.heap.size, 2, none⟩), ?_, rfl⟩)
            have h0 : a.tmps.getD 9 undef = .pointer (some ⟨w2.heap.size, 0, none⟩) := hr 9 (not_dst (by kernel_rfl))
            simp [execOp, Act.eval, h0, field45 w2.heap.size w' 2 (by decide)]
          · refine ok_readS (fun w => S9.refl w) (fun f w h => h.less) rfl (fun w => by simp [go_sem]) (fun f listed a w' hl hc hs hr hh => ?_)
            obtain ⟨_, rfl, h1⟩ := hh ⟨0, .data⟩ (by simp) rfl
            have h1 := h1 35 rfl
            have hp := hc.pre (hl.low3_9 (by decide) rfl (hl.later (k := 7) rfl ⟨1, .phase⟩ (by simp) rfl rfl) (hl.later (k := 8) rfl ⟨1, .phase⟩ (by simp) rfl rfl))
            exact ⟨_, _, h1, hp.blk.cell 2, rfl⟩
          · intro f listed a w' hl hc hs hr hh
            have h0 : a.tmps.getD 0 undef = .pointer (some ⟨R, 0, none⟩) := hr 0 (not_dst (by kernel_rfl))
            exact op_move rfl ⟨_, rfl, h0, S9.refl _, hc.less⟩
          · intro f listed a w' hl hc hs hr hh
            obtain ⟨_, rfl, h1⟩ := hh ⟨2, .data⟩ (by simp) rfl
            have h1 := h1 37 rfl
            refine op_call Tryd.func23 (by kernel_rfl) (by kernel_rfl) rfl ?_
            rw [show #[Operand.tmp 37, Operand.const (Value.int .i64 3)].map a.eval = #[.pointer (some ⟨R, 0, none⟩), .int .i64 3] by simp [Act.eval, h1]]
            refine (pick_c R (B + 1000 + 40 * (L - k) - 12 + f) 3 w' (hc.rc.less (by omega)) (by decide)).mono ?_
            rintro e w3 ⟨x, rfl, hx, h2, h3, _⟩
            refine ⟨_, rfl, _, rfl, ⟨x, rfl, by omega⟩, ⟨Chg.of_pick h3 (.inl rfl), fun _ _ cn v ⟨b, h⟩ => ⟨b, h.touch h3 hRw hRT⟩, fun h => by cases h⟩, ⟨h2, hc.fr.trans h3, Nat.le_trans hc.up h3.size, fun hf => (hc.pre (by omega)).touch h3 hRw hRT⟩⟩
          · refine ok_valueS (fun w => S9.refl w) (fun f w h => h.less) (fun f listed a w' hl hc hs hr hh => ?_)
            obtain ⟨_, ⟨x, rfl, hx⟩, h1⟩ := hh ⟨3, .data⟩ (by simp) rfl
            have h1 := h1 38 rfl
            refine ⟨.bool (decide ((0 : Int) < (x : Int))), ?_, _, rfl⟩
            simp [execOp, go_sem, Act.eval, h1]
          · intro f listed a w' hl hc hs hr hh
            obtain ⟨_, ⟨b, rfl⟩, h1⟩ := hh ⟨4, .data⟩ (by simp) rfl
            have h1 := h1 39 rfl
            have hw' := hc.up
            refine wp_buildSlice 35 4 1 _ rfl #[.bool b] ib _ Tryd.underlying35 hib hbz0 (by rw [hbz1]; decide) (by rw [hbz1]; decide) ?_ ⟨_, rfl, ⟨w'.heap.size, b, rfl, by omega, (Blk.new w' 4 #[.bool b]).cell 0⟩, ⟨(Chg.refl _).alloc _, fun _ _ cn v ⟨b, h⟩ => ⟨b, h.alloc _⟩, fun h => by cases h⟩, ⟨(hc.rc.less (by omega)).alloc _, hc.fr.alloc _, Nat.le_trans hc.up (by simp), fun h3 => (hc.pre (by omega)).alloc _⟩⟩
            rw [hbz1]
            simp only [List.map_toArray, List.map_cons, List.map_nil, Act.eval, h1]
            kernel_rfl
          · intro f listed a w' hl hc hs hr hh
            obtain ⟨_, rfl, h1⟩ := hh ⟨1, .data⟩ (by simp) rfl
            have h1 := h1 36 rfl
            obtain ⟨_, ⟨g6, b, rfl, hg6, hc6⟩, h2⟩ := hh ⟨5, .data⟩ (by simp) rfl
            have h2 := h2 40 rfl
            have l1 := hl.aft ⟨1, .data⟩ (by simp) rfl
            have l5 := hl.aft ⟨5, .data⟩ (by simp) rfl
            have l0 := hl.closed 1 _ l1 rfl ⟨0, .data⟩ (by simp) rfl
            have l4 := hl.closed 5 _ l5 rfl ⟨4, .data⟩ (by simp) rfl
            have l3 := hl.closed 4 _ l4 rfl ⟨3, .data⟩ (by simp) rfl
            have l2 := hl.closed 3 _ l3 rfl ⟨2, .data⟩ (by simp) rfl
            have hup : f + 1 ≤ 3 := hl.most 6 (by decide) (fun k hk => by
              match k, hk with
              | 0, _ => exact l0
              | 1, _ => exact l1
              | 2, _ => exact l2
              | 3, _ => exact l3
              | 4, _ => exact l4
              | 5, _ => exact l5)
            have hp := hc.pre (hl.low3_9 (by decide) rfl (hl.later (k := 7) rfl ⟨6, .phase⟩ (by simp) rfl rfl) (hl.later (k := 8) rfl ⟨6, .phase⟩ (by simp) rfl rfl))
            have hw' := hc.up
            have hpo : w'.ownsRow w.heap.size 4 1 (.slice A5 k c5) k (boCells real) := by have := hp.real; rw [HBL.out] at this; exact this
            refine wp_append_lies _ (.tmp 36) (.tmp 40) 35 rfl w.heap.size 4 ib _ 1 1 Tryd.underlying35 hib hbz0 hbz1 hbz2 rfl (by decide) _ _ _ h1 hpo ⟨g6, 0, none⟩ 1 1 [.bool b] h2 rfl (fun j u hj => ?_) (oneCells rfl) (by omega) (by unfold maxLen; omega) (by omega) (by omega) _ rfl (fun gA cA wA ho hg hd hgl => ?_)
            · match j, hj with
              | 0, hj => simp at hj; subst hj; simpa [Addr.add] using hc6
            · have ho' : wA.ownsRow w.heap.size 4 1 (.slice (some ⟨gA, 0, none⟩) (k + 1) cA) (real ++ [b]).length (boCells (real ++ [b])) := by
                rw [boCells_append, List.length_append, HBL.out]; exact ho
              refine ⟨_, rfl, ⟨_, ⟨b, hp.grewB hg ho'⟩, _, _, rfl⟩, ⟨⟨hg.size, fun k' hk' hn => hg.block k' hk' (fun e => hn (Or.inr (Or.inr e.symm)))⟩, fun h => absurd rfl h, fun h => by cases h⟩, ⟨?_, hc.fr.grown hg (fun g e => Or.inr (hpo.lt g e).1), Nat.le_trans hc.up hg.size, fun h3 => by omega⟩⟩
              exact (hc.rc.touch (Touch.of_grown (lo := w.heap.size) (hi := w'.heap.size) hg (fun g e => hpo.lt g e)) hRw).less (by omega)
          · refine ok_valueS (fun w => S9.refl w) (fun f w h => h.less) (fun f listed a w' hl hc hs hr hh => ⟨.pointer (some ⟨w2.heap.size, 2, none⟩), ?_, rfl⟩)
            have h0 : a.tmps.getD 9 undef = .pointer (some ⟨w2.heap.size, 0, none⟩) := hr 9 (not_dst (by kernel_rfl))
            simp [execOp, Act.eval, h0, field45 w2.heap.size w' 2 (by decide)]
          · refine ok_storeS rfl (by kernel_rfl) (fun f listed a w' hl hc hs hr hh => ?_)
            obtain ⟨_, rfl, h1⟩ := hh ⟨7, .data⟩ (by simp) rfl
            have h1 := h1 42 rfl
            obtain ⟨_, ⟨cn, ⟨b, hG⟩, Af, cf, rfl⟩, h2⟩ := hh ⟨6, .data⟩ (by simp) rfl
            have h2 := h2 41 rfl
            have hup : f + 1 ≤ 1 := hl.most 8 (by decide) (fun k hk => by
              match k, hk with
              | 0, _ => exact hl.aft ⟨0, .phase⟩ (by simp) rfl
              | 1, _ => exact hl.aft ⟨1, .phase⟩ (by simp) rfl
              | 2, _ => exact hl.aft ⟨2, .phase⟩ (by simp) rfl
              | 3, _ => exact hl.aft ⟨3, .phase⟩ (by simp) rfl
              | 4, _ => exact hl.aft ⟨4, .phase⟩ (by simp) rfl
              | 5, _ => exact hl.aft ⟨5, .phase⟩ (by simp) rfl
              | 6, _ => exact hl.aft ⟨6, .data⟩ (by simp) rfl
              | 7, _ => exact hl.aft ⟨7, .data⟩ (by simp) rfl)
            refine ⟨_, _, _, h1, h2, hG.blk.cell 2, hG.blk.frozen 2, rfl, ⟨_, ⟨b, hG.set2 hT0 _⟩, _, _, rfl⟩, ⟨Chg.setCell _ (Or.inr (Or.inl rfl)) _, fun _ h => absurd rfl h, fun _ cn' v ⟨b, h⟩ => ⟨_, b, h.set2 hT0 _⟩⟩, ?_, ?_, ?_, fun h3 => by omega⟩
            · exact (hc.rc.touch (lo := w2.heap.size) (hi := w2.heap.size + 1) ((Touch.refl _ _ _).setCell (p := ⟨w2.heap.size, 2, none⟩) (Or.inl ⟨Nat.le_refl _, Nat.lt_succ_self _⟩) _) (by omega)).less (by omega)
            · exact hc.fr.setCell (p := ⟨w2.heap.size, 2, none⟩) (Or.inr (by show w.heap.size ≤ w2.heap.size; omega)) _
            · have := hc.up; simpa [World.setCell] using this
        · intro a w6 hs hd hr hh hc
          obtain ⟨_, ⟨u, ⟨b, hG⟩, A7, c7, rfl⟩, -⟩ := hh 8 (by decide) rfl
          have e0 : a.tmps.getD 0 undef = .pointer (some ⟨R, 0, none⟩) := hr 0 (not_dst (by kernel_rfl))
          have e1 : a.tmps.getD 1 undef = .int .i64 (kind : Int) := hr 1 (not_dst (by kernel_rfl))
          have e2 : a.tmps.getD 2 undef = .int .i64 (most : Int) := hr 2 (not_dst (by kernel_rfl))
          have e3 : a.tmps.getD 3 undef = .int .i64 n := hr 3 (not_dst (by kernel_rfl))
          have e4 : a.tmps.getD 4 undef = U 4 := hr 4 (not_dst (by kernel_rfl))
          have e5 : a.tmps.getD 5 undef = U 5 := hr 5 (not_dst (by kernel_rfl))
          have e6 : a.tmps.getD 6 undef = U 6 := hr 6 (not_dst (by kernel_rfl))
          have e7 : a.tmps.getD 7 undef = U 7 := hr 7 (not_dst (by kernel_rfl))
          have e8 : a.tmps.getD 8 undef = .pointer (some ⟨w.heap.size, 0, none⟩) := hr 8 (not_dst (by kernel_rfl))
          have e9 : a.tmps.getD 9 undef = .pointer (some ⟨w2.heap.size, 0, none⟩) := hr 9 (not_dst (by kernel_rfl))
          have e10 : a.tmps.getD 10 undef = .int .i64 (k : Int) := hr 10 (not_dst (by kernel_rfl))
          have e11 : a.tmps.getD 11 undef = U 11 := hr 11 (not_dst (by kernel_rfl))
          have e12 : a.tmps.getD 12 undef = U 12 := hr 12 (not_dst (by kernel_rfl))
          have e13 : a.tmps.getD 13 undef = U 13 := hr 13 (not_dst (by kernel_rfl))
          have e14 : a.tmps.getD 14 undef = U 14 := hr 14 (not_dst (by kernel_rfl))
          have e15 : a.tmps.getD 15 undef = U 15 := hr 15 (not_dst (by kernel_rfl))
          have e16 : a.tmps.getD 16 undef = U 16 := hr 16 (not_dst (by kernel_rfl))
          have e17 : a.tmps.getD 17 undef = U 17 := hr 17 (not_dst (by kernel_rfl))
          have e18 : a.tmps.getD 18 undef = U 18 := hr 18 (not_dst (by kernel_rfl))
          have e19 : a.tmps.getD 19 undef = U 19 := hr 19 (not_dst (by kernel_rfl))
          have e20 : a.tmps.getD 20 undef = U 20 := hr 20 (not_dst (by kernel_rfl))
          have e21 : a.tmps.getD 21 undef = U 21 := hr 21 (not_dst (by kernel_rfl))
          have e22 : a.tmps.getD 22 undef = U 22 := hr 22 (not_dst (by kernel_rfl))
          have e23 : a.tmps.getD 23 undef = U 23 := hr 23 (not_dst (by kernel_rfl))
          have e24 : a.tmps.getD 24 undef = U 24 := hr 24 (not_dst (by kernel_rfl))
          have e25 : a.tmps.getD 25 undef = U 25 := hr 25 (not_dst (by kernel_rfl))
          have e26 : a.tmps.getD 26 undef = U 26 := hr 26 (not_dst (by kernel_rfl))
          have e27 : a.tmps.getD 27 undef = U 27 := hr 27 (not_dst (by kernel_rfl))
          have e57 : a.tmps.getD 57 undef = U 57 := hr 57 (not_dst (by kernel_rfl))
          have e58 : a.tmps.getD 58 undef = U 58 := hr 58 (not_dst (by kernel_rfl))
          have e59 : a.tmps.getD 59 undef = U 59 := hr 59 (not_dst (by kernel_rfl))
          have e60 : a.tmps.getD 60 undef = U 60 := hr 60 (not_dst (by kernel_rfl))
          have e61 : a.tmps.getD 61 undef = U 61 := hr 61 (not_dst (by kernel_rfl))
          have e62 : a.tmps.getD 62 undef = U 62 := hr 62 (not_dst (by kernel_rfl))
          have e63 : a.tmps.getD 63 undef = U 63 := hr 63 (not_dst (by kernel_rfl))
          have e64 : a.tmps.getD 64 undef = U 64 := hr 64 (not_dst (by kernel_rfl))
          have e65 : a.tmps.getD 65 undef = U 65 := hr 65 (not_dst (by kernel_rfl))
          have e66 : a.tmps.getD 66 undef = U 66 := hr 66 (not_dst (by kernel_rfl))
          have e67 : a.tmps.getD 67 undef = U 67 := hr 67 (not_dst (by kernel_rfl))
          have e68 : a.tmps.getD 68 undef = U 68 := hr 68 (not_dst (by kernel_rfl))
          have e69 : a.tmps.getD 69 undef = U 69 := hr 69 (not_dst (by kernel_rfl))
          have e70 : a.tmps.getD 70 undef = U 70 := hr 70 (not_dst (by kernel_rfl))
          have e71 : a.tmps.getD 71 undef = U 71 := hr 71 (not_dst (by kernel_rfl))
          have e72 : a.tmps.getD 72 undef = U 72 := hr 72 (not_dst (by kernel_rfl))
          have e73 : a.tmps.getD 73 undef = U 73 := hr 73 (not_dst (by kernel_rfl))
          have e74 : a.tmps.getD 74 undef = U 74 := hr 74 (not_dst (by kernel_rfl))
          have e75 : a.tmps.getD 75 undef = U 75 := hr 75 (not_dst (by kernel_rfl))
          have e76 : a.tmps.getD 76 undef = U 76 := hr 76 (not_dst (by kernel_rfl))
          have e77 : a.tmps.getD 77 undef = U 77 := hr 77 (not_dst (by kernel_rfl))
          have e78 : a.tmps.getD 78 undef = U 78 := hr 78 (not_dst (by kernel_rfl))
          have e79 : a.tmps.getD 79 undef = U 79 := hr 79 (not_dst (by kernel_rfl))
          have e80 : a.tmps.getD 80 undef = U 80 := hr 80 (not_dst (by kernel_rfl))
          have e81 : a.tmps.getD 81 undef = U 81 := hr 81 (not_dst (by kernel_rfl))
          have e82 : a.tmps.getD 82 undef = U 82 := hr 82 (not_dst (by kernel_rfl))
          have e83 : a.tmps.getD 83 undef = U 83 := hr 83 (not_dst (by kernel_rfl))
          have e84 : a.tmps.getD 84 undef = U 84 := hr 84 (not_dst (by kernel_rfl))
          have e85 : a.tmps.getD 85 undef = U 85 := hr 85 (not_dst (by kernel_rfl))
          have e86 : a.tmps.getD 86 undef = U 86 := hr 86 (not_dst (by kernel_rfl))
          have e87 : a.tmps.getD 87 undef = U 87 := hr 87 (not_dst (by kernel_rfl))
          have e88 : a.tmps.getD 88 undef = U 88 := hr 88 (not_dst (by kernel_rfl))
          have e89 : a.tmps.getD 89 undef = U 89 := hr 89 (not_dst (by kernel_rfl))
          have e90 : a.tmps.getD 90 undef = U 90 := hr 90 (not_dst (by kernel_rfl))
          have e91 : a.tmps.getD 91 undef = U 91 := hr 91 (not_dst (by kernel_rfl))
          have e92 : a.tmps.getD 92 undef = U 92 := hr 92 (not_dst (by kernel_rfl))
          have e93 : a.tmps.getD 93 undef = U 93 := hr 93 (not_dst (by kernel_rfl))
          have e94 : a.tmps.getD 94 undef = U 94 := hr 94 (not_dst (by kernel_rfl))
          have e95 : a.tmps.getD 95 undef = U 95 := hr 95 (not_dst (by kernel_rfl))
          have e96 : a.tmps.getD 96 undef = U 96 := hr 96 (not_dst (by kernel_rfl))
          have e97 : a.tmps.getD 97 undef = U 97 := hr 97 (not_dst (by kernel_rfl))
          have e98 : a.tmps.getD 98 undef = U 98 := hr 98 (not_dst (by kernel_rfl))
          have e99 : a.tmps.getD 99 undef = U 99 := hr 99 (not_dst (by kernel_rfl))
          have e100 : a.tmps.getD 100 undef = U 100 := hr 100 (not_dst (by kernel_rfl))
          have e101 : a.tmps.getD 101 undef = U 101 := hr 101 (not_dst (by kernel_rfl))
          have e102 : a.tmps.getD 102 undef = U 102 := hr 102 (not_dst (by kernel_rfl))
          have e103 : a.tmps.getD 103 undef = U 103 := hr 103 (not_dst (by kernel_rfl))
          have e104 : a.tmps.getD 104 undef = U 104 := hr 104 (not_dst (by kernel_rfl))
          have e105 : a.tmps.getD 105 undef = U 105 := hr 105 (not_dst (by kernel_rfl))
          have e106 : a.tmps.getD 106 undef = U 106 := hr 106 (not_dst (by kernel_rfl))
          have e107 : a.tmps.getD 107 undef = U 107 := hr 107 (not_dst (by kernel_rfl))
          have e108 : a.tmps.getD 108 undef = U 108 := hr 108 (not_dst (by kernel_rfl))
          have e109 : a.tmps.getD 109 undef = U 109 := hr 109 (not_dst (by kernel_rfl))
          have e110 : a.tmps.getD 110 undef = U 110 := hr 110 (not_dst (by kernel_rfl))
          have ea : a = ⟨#[a.tmps.getD 0 undef, a.tmps.getD 1 undef, a.tmps.getD 2 undef, a.tmps.getD 3 undef, a.tmps.getD 4 undef, a.tmps.getD 5 undef, a.tmps.getD 6 undef, a.tmps.getD 7 undef, a.tmps.getD 8 undef, a.tmps.getD 9 undef, a.tmps.getD 10 undef, a.tmps.getD 11 undef, a.tmps.getD 12 undef, a.tmps.getD 13 undef, a.tmps.getD 14 undef, a.tmps.getD 15 undef, a.tmps.getD 16 undef, a.tmps.getD 17 undef, a.tmps.getD 18 undef, a.tmps.getD 19 undef, a.tmps.getD 20 undef, a.tmps.getD 21 undef, a.tmps.getD 22 undef, a.tmps.getD 23 undef, a.tmps.getD 24 undef, a.tmps.getD 25 undef, a.tmps.getD 26 undef, a.tmps.getD 27 undef, a.tmps.getD 28 undef, a.tmps.getD 29 undef, a.tmps.getD 30 undef, a.tmps.getD 31 undef, a.tmps.getD 32 undef, a.tmps.getD 33 undef, a.tmps.getD 34 undef, a.tmps.getD 35 undef, a.tmps.getD 36 undef, a.tmps.getD 37 undef, a.tmps.getD 38 undef, a.tmps.getD 39 undef, a.tmps.getD 40 undef, a.tmps.getD 41 undef, a.tmps.getD 42 undef, a.tmps.getD 43 undef, a.tmps.getD 44 undef, a.tmps.getD 45 undef, a.tmps.getD 46 undef, a.tmps.getD 47 undef, a.tmps.getD 48 undef, a.tmps.getD 49 undef, a.tmps.getD 50 undef, a.tmps.getD 51 undef, a.tmps.getD 52 undef, a.tmps.getD 53 undef, a.tmps.getD 54 undef, a.tmps.getD 55 undef, a.tmps.getD 56 undef, a.tmps.getD 57 undef, a.tmps.getD 58 undef, a.tmps.getD 59 undef, a.tmps.getD 60 undef, a.tmps.getD 61 undef, a.tmps.getD 62 undef, a.tmps.getD 63 undef, a.tmps.getD 64 undef, a.tmps.getD 65 undef, a.tmps.getD 66 undef, a.tmps.getD 67 undef, a.tmps.getD 68 undef, a.tmps.getD 69 undef, a.tmps.getD 70 undef, a.tmps.getD 71 undef, a.tmps.getD 72 undef, a.tmps.getD 73 undef, a.tmps.getD 74 undef, a.tmps.getD 75 undef, a.tmps.getD 76 undef, a.tmps.getD 77 undef, a.tmps.getD 78 undef, a.tmps.getD 79 undef, a.tmps.getD 80 undef, a.tmps.getD 81 undef, a.tmps.getD 82 undef, a.tmps.getD 83 undef, a.tmps.getD 84 undef, a.tmps.getD 85 undef, a.tmps.getD 86 undef, a.tmps.getD 87 undef, a.tmps.getD 88 undef, a.tmps.getD 89 undef, a.tmps.getD 90 undef, a.tmps.getD 91 undef, a.tmps.getD 92 undef, a.tmps.getD 93 undef, a.tmps.getD 94 undef, a.tmps.getD 95 undef, a.tmps.getD 96 undef, a.tmps.getD 97 undef, a.tmps.getD 98 undef, a.tmps.getD 99 undef, a.tmps.getD 100 undef, a.tmps.getD 101 undef, a.tmps.getD 102 undef, a.tmps.getD 103 undef, a.tmps.getD 104 undef, a.tmps.getD 105 undef, a.tmps.getD 106 undef, a.tmps.getD 107 undef, a.tmps.getD 108 undef, a.tmps.getD 109 undef, a.tmps.getD 110 undef], []⟩ := act_lit 111 hs hd
          rw [e0, e1, e2, e3, e4, e5, e6, e7, e8, e9, e10, e11, e12, e13, e14, e15, e16, e17, e18, e19, e20, e21, e22, e23, e24, e25, e26, e27, e57, e58, e59, e60, e61, e62, e63, e64, e65, e66, e67, e68, e69, e70, e71, e72, e73, e74, e75, e76, e77, e78, e79, e80, e81, e82, e83, e84, e85, e86, e87, e88, e89, e90, e91, e92, e93, e94, e95, e96, e97, e98, e99, e100, e101, e102, e103, e104, e105, e106, e107, e108, e109, e110] at ea
          obtain ⟨U', hU'⟩ : ∃ U' : Nat → Value, ∀ i, a.tmps.getD i undef = U' i := ⟨_, fun _ => rfl⟩
          simp only [hU'] at ea
          clear hs hd hr hh hU' e0 e1 e2 e3 e4 e5 e6 e7 e8 e9 e10 e11 e12 e13 e14 e15 e16 e17 e18 e19 e20 e21 e22 e23 e24 e25 e26 e27 e57 e58 e59 e60 e61 e62 e63 e64 e65 e66 e67 e68 e69 e70 e71 e72 e73 e74 e75 e76 e77 e78 e79 e80 e81 e82 e83 e84 e85 e86 e87 e88 e89 e90 e91 e92 e93 e94 e95 e96 e97 e98 e99 e100 e101 e102 e103 e104 e105 e106 e107 e108 e109 e110
          subst ea
          have HP6 := Lib.hid hG
          have HR6 := Lib.hid (And.intro hc.rc hc.fr)
          have hsz6 := hc.up
          obtain ⟨gB, rfl⟩ : ∃ gB, A7 = some ⟨gB, 0, none⟩ := by
            rcases own_cases hG.real with ⟨_, h0, _⟩ | ⟨g, cap, e⟩
            · simp at h0
            · simp at e; exact ⟨g, e.1⟩
          have y2 := hG.blk.cell 2
          have yb : w6.cell? ⟨gB, k, none⟩ = some (.bool b) := own_cellk hG.real (by rw [boCells_append, List.getElem?_append_right (by rw [boCells_length, HBL.out]; exact Nat.le_refl _), boCells_length, HBL.out]; simp [boCells])
          have hG6 := hG
          simp at y2
          clear hG hc x0 x1 x2
          have hk2 : (k : Int) < ((k + 1 : Nat) : Int) := by omega
          have hk3 : (k : Int) < (k : Int) + 1 := by omega
          cases b
          · obtain ⟨vs6, RV6⟩ := HP6.out.rows
            obtain ⟨gR, rfl⟩ : ∃ gR, A3 = some ⟨gR, 0, none⟩ := by
              rcases own_cases RV6.own with ⟨_, h0, _⟩ | ⟨g, cap, e⟩
              · have := HRL.out; omega
              · simp at e; exact ⟨g, e.1⟩
            have hRg : gR < w6.heap.size := (RV6.own.lt gR rfl).2
            have hRz : R < w6.heap.size := by omega
            have hgRl := hRg
            clear hG6
            go_wp2_with fail
            refine wp_region_typed (by kernel_rfl) (fun _ => true) (lift <| padV8 w.heap.size w2.heap.size (.slice A2 names.length c2) (.slice (some ⟨gR, 0, none⟩) L c3) gR k w6.heap.size names (PkP8 w.heap.size w2.heap.size (.slice A2 names.length c2) (.slice (some ⟨gR, 0, none⟩) L c3) (.slice (some ⟨gB, 0, none⟩) (k + 1) c7) k names rows (real ++ [false]))) (fun _ => Mv (fun x => x = R ∨ x = gR) (PkP8 w.heap.size w2.heap.size (.slice A2 names.length c2) (.slice (some ⟨gR, 0, none⟩) L c3) (.slice (some ⟨gB, 0, none⟩) (k + 1) c7) k names rows (real ++ [false]))) (C16 R (B + 1000 + 40 * (L - k) - 40) gR w (PreP8 w.heap.size w2.heap.size (.slice A2 names.length c2) (.slice (some ⟨gR, 0, none⟩) L c3) (.slice (some ⟨gB, 0, none⟩) (k + 1) c7) w6.heap.size names rows (real ++ [false]))) (by kernel_rfl) (stab (padV8_stable hRz hRg)) ?_ ?_ ?_ (by kernel_rfl) ?_
            · exact dst_lt (n := 111) (by kernel_rfl)
            · exact ⟨HR6.out.1.less (by show B + 1000 + 40 * (L - k) - 40 + 3 * 9 ≤ _; omega), HR6.out.2.drew, hgRl, fun _ => ⟨HP6.out.drew, vs6, RV6.drew, Nat.le_refl _⟩⟩
            · refine ok_all ⟨?_, ?_, ?_, ?_, ?_, ?_, ?_, ?_, ?_, trivial⟩
              · refine ok_value (cls16 (R := R) (B := B + 1000 + 40 * (L - k) - 40) (w0 := w) (gU := gR) (Pre := (PreP8 w.heap.size w2.heap.size (.slice A2 names.length c2) (.slice (some ⟨gR, 0, none⟩) L c3) (.slice (some ⟨gB, 0, none⟩) (k + 1) c7) w6.heap.size names rows (real ++ [false]))) (Pk := (PkP8 w.heap.size w2.heap.size (.slice A2 names.length c2) (.slice (some ⟨gR, 0, none⟩) L c3) (.slice (some ⟨gB, 0, none⟩) (k + 1) c7) k names rows (real ++ [false]))) PreP8.alloc PkP8.alloc) (fun f a w' hc hs hr hh => ⟨.pointer (some ⟨w2.heap.size, 1, none⟩), ?_, rfl⟩)
                have h0 : a.tmps.getD 9 undef = .pointer (some ⟨w2.heap.size, 0, none⟩) := hr 9 (not_dst (by kernel_rfl))
                simp [execOp, Act.eval, h0, field45 w2.heap.size w' 1 (by decide)]
              · refine ok_read (cls16 (R := R) (B := B + 1000 + 40 * (L - k) - 40) (w0 := w) (gU := gR) (Pre := (PreP8 w.heap.size w2.heap.size (.slice A2 names.length c2) (.slice (some ⟨gR, 0, none⟩) L c3) (.slice (some ⟨gB, 0, none⟩) (k + 1) c7) w6.heap.size names rows (real ++ [false]))) (Pk := (PkP8 w.heap.size w2.heap.size (.slice A2 names.length c2) (.slice (some ⟨gR, 0, none⟩) L c3) (.slice (some ⟨gB, 0, none⟩) (k + 1) c7) k names rows (real ++ [false]))) PreP8.alloc PkP8.alloc) rfl (fun w => by simp [go_sem]) (fun f a w' hc hs hr hh => ?_)
                obtain ⟨_, rfl, h1⟩ := hh ⟨0, .data⟩ (by simp) rfl
                have h1 := h1 49 rfl
                have hp := hc.pre (by omega)
                exact ⟨_, _, h1, hp.1.blk.cell 1, rfl⟩
              · refine ok_put (cls16 (R := R) (B := B + 1000 + 40 * (L - k) - 40) (w0 := w) (gU := gR) (Pre := (PreP8 w.heap.size w2.heap.size (.slice A2 names.length c2) (.slice (some ⟨gR, 0, none⟩) L c3) (.slice (some ⟨gB, 0, none⟩) (k + 1) c7) w6.heap.size names rows (real ++ [false]))) (Pk := (PkP8 w.heap.size w2.heap.size (.slice A2 names.length c2) (.slice (some ⟨gR, 0, none⟩) L c3) (.slice (some ⟨gB, 0, none⟩) (k + 1) c7) k names rows (real ++ [false]))) PreP8.alloc PkP8.alloc) (.inl rfl) (fun a w' hs hr hh => ?_)
                exact hr 10 (not_dst (by kernel_rfl))
              · refine ok_value (cls16 (R := R) (B := B + 1000 + 40 * (L - k) - 40) (w0 := w) (gU := gR) (Pre := (PreP8 w.heap.size w2.heap.size (.slice A2 names.length c2) (.slice (some ⟨gR, 0, none⟩) L c3) (.slice (some ⟨gB, 0, none⟩) (k + 1) c7) w6.heap.size names rows (real ++ [false]))) (Pk := (PkP8 w.heap.size w2.heap.size (.slice A2 names.length c2) (.slice (some ⟨gR, 0, none⟩) L c3) (.slice (some ⟨gB, 0, none⟩) (k + 1) c7) k names rows (real ++ [false]))) PreP8.alloc PkP8.alloc) (fun f a w' hc hs hr hh => ⟨.pointer (some ⟨w2.heap.size, 0, none⟩), ?_, rfl⟩)
                have h0 : a.tmps.getD 9 undef = .pointer (some ⟨w2.heap.size, 0, none⟩) := hr 9 (not_dst (by kernel_rfl))
                simp [execOp, Act.eval, h0, field45 w2.heap.size w' 0 (by decide)]
              · refine ok_read (cls16 (R := R) (B := B + 1000 + 40 * (L - k) - 40) (w0 := w) (gU := gR) (Pre := (PreP8 w.heap.size w2.heap.size (.slice A2 names.length c2) (.slice (some ⟨gR, 0, none⟩) L c3) (.slice (some ⟨gB, 0, none⟩) (k + 1) c7) w6.heap.size names rows (real ++ [false]))) (Pk := (PkP8 w.heap.size w2.heap.size (.slice A2 names.length c2) (.slice (some ⟨gR, 0, none⟩) L c3) (.slice (some ⟨gB, 0, none⟩) (k + 1) c7) k names rows (real ++ [false]))) PreP8.alloc PkP8.alloc) rfl (fun w => by simp [go_sem]) (fun f a w' hc hs hr hh => ?_)
                obtain ⟨_, rfl, h1⟩ := hh ⟨3, .data⟩ (by simp) rfl
                have h1 := h1 52 rfl
                have hp := hc.pre (by omega)
                exact ⟨_, _, h1, hp.1.blk.cell 0, rfl⟩
              · refine ok_value (cls16 (R := R) (B := B + 1000 + 40 * (L - k) - 40) (w0 := w) (gU := gR) (Pre := (PreP8 w.heap.size w2.heap.size (.slice A2 names.length c2) (.slice (some ⟨gR, 0, none⟩) L c3) (.slice (some ⟨gB, 0, none⟩) (k + 1) c7) w6.heap.size names rows (real ++ [false]))) (Pk := (PkP8 w.heap.size w2.heap.size (.slice A2 names.length c2) (.slice (some ⟨gR, 0, none⟩) L c3) (.slice (some ⟨gB, 0, none⟩) (k + 1) c7) k names rows (real ++ [false]))) PreP8.alloc PkP8.alloc) (fun f a w' hc hs hr hh => ⟨.int .i64 (names.length : Int), ?_, rfl⟩)
                obtain ⟨_, rfl, h1⟩ := hh ⟨4, .data⟩ (by simp) rfl
                have h1 := h1 53 rfl
                simp [execOp, go_sem, Act.eval, h1]
              · intro f listed a w' hl hc hs hr hh
                obtain ⟨_, rfl, h1⟩ := hh ⟨5, .data⟩ (by simp) rfl
                have h1 := h1 54 rfl
                obtain ⟨hp, vs, hv, hz⟩ := hc.pre (by have := hl.low3_9 (by decide) rfl (hl.later (k := 7) rfl ⟨6, .phase⟩ (by simp) rfl rfl) (hl.later (k := 8) rfl ⟨6, .phase⟩ (by simp) rfl rfl); omega)
                have hTl := hp.blk.lt
                obtain ⟨wm, hrun, r1, r2⟩ := run_make_full (P := Tryd.prog) w' w.heap.size 49 3 ii _ 1 Tryd.underlying49 hii hiz his' .i64 .i64 names.length (by rw [iib]; omega) (by unfold maxLen; omega) (by omega)
                have hb := grown_none_below r2
                have e0 : (madeCells (Value.int IntKind.i64 0).cells (names.length * 1)).toList = inCells (List.replicate names.length 0) := by
                  rw [Nat.mul_one]
                  exact (toList_madeCells_one _ _).trans (by simp [inCells])
                rw [e0] at r1
                have hx : a.eval (.tmp 54) = .int .i64 (names.length : Int) := h1
                unfold Oper.wp
                simp only [execOp, hx, Sem.run_bind, hrun, Result.andThen_ok, Sem.run_pure]
                refine ⟨_, rfl, ⟨w'.heap.size, rfl, hz, r1⟩, ⟨⟨r2.size, fun k hk _ => r2.block k hk (by simp)⟩, fun h => h.below hb⟩, ⟨(hc.rc.below hb).less (by omega), hc.fr.then_below hb, Nat.lt_of_lt_of_le hc.up r2.size, fun h3 => (hc.pre (by omega)).below hb⟩⟩
              · intro f listed a w' hl hc hs hr hh
                obtain ⟨_, rfl, h1⟩ := hh ⟨1, .data⟩ (by simp) rfl
                have h1 := h1 50 rfl
                obtain ⟨_, rfl, h2⟩ := hh ⟨2, .data⟩ (by simp) rfl
                have h2 := h2 51 rfl
                exact op_index (i := k) rfl Tryd.underlying24 (by kernel_rfl) h1 h2 hlt ⟨_, rfl, rfl, Mv.refl _, (cls16 (R := R) (B := B + 1000 + 40 * (L - k) - 40) (w0 := w) (gU := gR) (Pre := (PreP8 w.heap.size w2.heap.size (.slice A2 names.length c2) (.slice (some ⟨gR, 0, none⟩) L c3) (.slice (some ⟨gB, 0, none⟩) (k + 1) c7) w6.heap.size names rows (real ++ [false]))) (Pk := (PkP8 w.heap.size w2.heap.size (.slice A2 names.length c2) (.slice (some ⟨gR, 0, none⟩) L c3) (.slice (some ⟨gB, 0, none⟩) (k + 1) c7) k names rows (real ++ [false]))) PreP8.alloc PkP8.alloc).less _ _ hc⟩
              · refine ok_storeS rfl (by kernel_rfl) (fun f listed a w' hl hc hs hr hh => ?_)
                obtain ⟨_, rfl, h1⟩ := hh ⟨7, .data⟩ (by simp) rfl
                have h1 := h1 56 rfl
                obtain ⟨_, ⟨g, rfl, hg, ho⟩, h2⟩ := hh ⟨6, .data⟩ (by simp) rfl
                have h2 := h2 55 rfl
                obtain ⟨hp, vs, hv, hz⟩ := hc.pre (by omega)
                have hup : f + 1 ≤ 1 := hl.most 8 (by decide) (fun k hk => by
                  match k, hk with
                  | 0, _ => exact hl.aft ⟨0, .phase⟩ (by simp) rfl
                  | 1, _ => exact hl.aft ⟨1, .phase⟩ (by simp) rfl
                  | 2, _ => exact hl.aft ⟨2, .phase⟩ (by simp) rfl
                  | 3, _ => exact hl.aft ⟨3, .phase⟩ (by simp) rfl
                  | 4, _ => exact hl.aft ⟨4, .phase⟩ (by simp) rfl
                  | 5, _ => exact hl.aft ⟨5, .phase⟩ (by simp) rfl
                  | 6, _ => exact hl.aft ⟨6, .data⟩ (by simp) rfl
                  | 7, _ => exact hl.aft ⟨7, .data⟩ (by simp) rfl)
                have hvo : w'.ownsRow w.heap.size 49 1 (.slice (some ⟨gR, 0, none⟩) L c3) L vs := by have := hv.own; rw [HRL.out] at this; exact this
                have hgR := (hvo.lt gR rfl)
                have hu : w'.ownsRow w.heap.size 3 1 (.slice (some ⟨g, 0, none⟩) names.length names.length) (List.replicate names.length (0 : Int)).length (inCells (List.replicate names.length 0)) := by rw [List.length_replicate]; exact ho
                have hgt := hv.top gR rfl
                have hsn := hv.set_n (r := List.replicate names.length 0) (hi' := w'.heap.size) HRL.out hu hlt (Or.inr (by simp [Value.ownBlock]; omega)) (fun k' u' hk' => by
                  cases hb : u'.ownBlock with
                  | none => exact .inl rfl
                  | some g' =>
                    have := hv.under k' u' g' hk' hb
                    exact .inr (by simp [Value.ownBlock]; omega)) hz (fun g' e => (hu.lt g' e).2)
                obtain ⟨u0, hu0⟩ : ∃ u0, vs[k]? = some u0 := ⟨_, List.getElem?_eq_getElem (by have := hv.len; have := HRL.out; omega)⟩
                have hpk : (PkP8 w.heap.size w2.heap.size (.slice A2 names.length c2) (.slice (some ⟨gR, 0, none⟩) L c3) (.slice (some ⟨gB, 0, none⟩) (k + 1) c7) k names rows (real ++ [false])) (w'.setCell ⟨gR, k, none⟩ (.slice (some ⟨g, 0, none⟩) names.length names.length)) := by
                  have hgb : w'.grownBy (w'.setCell ⟨gR, k, none⟩ (.slice (some ⟨g, 0, none⟩) names.length names.length)) (Value.ownBlock (.slice (some ⟨gR, 0, none⟩) L c3)) := (hvo.stored k (.slice (some ⟨g, 0, none⟩) names.length names.length)).2
                  exact hp.grewR hvo (by decide) (by decide) (by decide) hgb ⟨_, hsn.wide (by simp [World.setCell])⟩
                refine ⟨_, _, _, h1, h2, own_cellk hvo hu0, own_frozen hvo k, rfl, hpk, ⟨Chg.setCell _ (Or.inr rfl) _, fun _ => hpk⟩, ?_, ?_, ?_, fun h3 => by omega⟩
                · exact (hc.rc.touch (lo := gR) (hi := gR + 1) ((Touch.refl _ _ _).setCell (p := ⟨gR, k, none⟩) (Or.inl ⟨Nat.le_refl _, Nat.lt_succ_self _⟩) _) (by omega)).less (by omega)
                · exact hc.fr.setCell (p := ⟨gR, k, none⟩) (Or.inr hgR.1) _
                · have := hc.up; simpa [World.setCell] using this
            · intro a w7 hs hd hr hh hc
              obtain ⟨_, hPk, -⟩ := hh 8 (by decide) rfl
              have HPK := Lib.hid (show PadS w7 w.heap.size w2.heap.size (.slice A2 names.length c2) (.slice (some ⟨gR, 0, none⟩) L c3) (.slice (some ⟨gB, 0, none⟩) (k + 1) c7) names (rows.set k (List.replicate names.length 0)) (real ++ [false]) from hPk)
              clear hPk
              have rc7 := hc.rc
              have fr7 := hc.fr
              have e0 : a.tmps.getD 0 undef = .pointer (some ⟨R, 0, none⟩) := hr 0 (not_dst (by kernel_rfl))
              have e1 : a.tmps.getD 1 undef = .int .i64 (kind : Int) := hr 1 (not_dst (by kernel_rfl))
              have e2 : a.tmps.getD 2 undef = .int .i64 (most : Int) := hr 2 (not_dst (by kernel_rfl))
              have e3 : a.tmps.getD 3 undef = .int .i64 n := hr 3 (not_dst (by kernel_rfl))
              have e4 : a.tmps.getD 4 undef = U 4 := hr 4 (not_dst (by kernel_rfl))
              have e5 : a.tmps.getD 5 undef = U 5 := hr 5 (not_dst (by kernel_rfl))
              have e6 : a.tmps.getD 6 undef = U 6 := hr 6 (not_dst (by kernel_rfl))
              have e7 : a.tmps.getD 7 undef = U 7 := hr 7 (not_dst (by kernel_rfl))
              have e8 : a.tmps.getD 8 undef = .pointer (some ⟨w.heap.size, 0, none⟩) := hr 8 (not_dst (by kernel_rfl))
              have e9 : a.tmps.getD 9 undef = .pointer (some ⟨w2.heap.size, 0, none⟩) := hr 9 (not_dst (by kernel_rfl))
              have e10 : a.tmps.getD 10 undef = .int .i64 (k : Int) := hr 10 (not_dst (by kernel_rfl))
              have e11 : a.tmps.getD 11 undef = U 11 := hr 11 (not_dst (by kernel_rfl))
              have e12 : a.tmps.getD 12 undef = U 12 := hr 12 (not_dst (by kernel_rfl))
              have e13 : a.tmps.getD 13 undef = U 13 := hr 13 (not_dst (by kernel_rfl))
              have e14 : a.tmps.getD 14 undef = U 14 := hr 14 (not_dst (by kernel_rfl))
              have e15 : a.tmps.getD 15 undef = U 15 := hr 15 (not_dst (by kernel_rfl))
              have e16 : a.tmps.getD 16 undef = U 16 := hr 16 (not_dst (by kernel_rfl))
              have e17 : a.tmps.getD 17 undef = U 17 := hr 17 (not_dst (by kernel_rfl))
              have e18 : a.tmps.getD 18 undef = U 18 := hr 18 (not_dst (by kernel_rfl))
              have e19 : a.tmps.getD 19 undef = U 19 := hr 19 (not_dst (by kernel_rfl))
              have e20 : a.tmps.getD 20 undef = U 20 := hr 20 (not_dst (by kernel_rfl))
              have e21 : a.tmps.getD 21 undef = U 21 := hr 21 (not_dst (by kernel_rfl))
              have e22 : a.tmps.getD 22 undef = U 22 := hr 22 (not_dst (by kernel_rfl))
              have e23 : a.tmps.getD 23 undef = U 23 := hr 23 (not_dst (by kernel_rfl))
              have e24 : a.tmps.getD 24 undef = U 24 := hr 24 (not_dst (by kernel_rfl))
              have e25 : a.tmps.getD 25 undef = U 25 := hr 25 (not_dst (by kernel_rfl))
              have e26 : a.tmps.getD 26 undef = U 26 := hr 26 (not_dst (by kernel_rfl))
              have e27 : a.tmps.getD 27 undef = U 27 := hr 27 (not_dst (by kernel_rfl))
              have e57 : a.tmps.getD 57 undef = U 57 := hr 57 (not_dst (by kernel_rfl))
              have e58 : a.tmps.getD 58 undef = U 58 := hr 58 (not_dst (by kernel_rfl))
              have e59 : a.tmps.getD 59 undef = U 59 := hr 59 (not_dst (by kernel_rfl))
              have e60 : a.tmps.getD 60 undef = U 60 := hr 60 (not_dst (by kernel_rfl))
              have e61 : a.tmps.getD 61 undef = U 61 := hr 61 (not_dst (by kernel_rfl))
              have e62 : a.tmps.getD 62 undef = U 62 := hr 62 (not_dst (by kernel_rfl))
              have e63 : a.tmps.getD 63 undef = U 63 := hr 63 (not_dst (by kernel_rfl))
              have e64 : a.tmps.getD 64 undef = U 64 := hr 64 (not_dst (by kernel_rfl))
              have e65 : a.tmps.getD 65 undef = U 65 := hr 65 (not_dst (by kernel_rfl))
              have e66 : a.tmps.getD 66 undef = U 66 := hr 66 (not_dst (by kernel_rfl))
              have e67 : a.tmps.getD 67 undef = U 67 := hr 67 (not_dst (by kernel_rfl))
              have e68 : a.tmps.getD 68 undef = U 68 := hr 68 (not_dst (by kernel_rfl))
              have e69 : a.tmps.getD 69 undef = U 69 := hr 69 (not_dst (by kernel_rfl))
              have e70 : a.tmps.getD 70 undef = U 70 := hr 70 (not_dst (by kernel_rfl))
              have e71 : a.tmps.getD 71 undef = U 71 := hr 71 (not_dst (by kernel_rfl))
              have e72 : a.tmps.getD 72 undef = U 72 := hr 72 (not_dst (by kernel_rfl))
              have e73 : a.tmps.getD 73 undef = U 73 := hr 73 (not_dst (by kernel_rfl))
              have e74 : a.tmps.getD 74 undef = U 74 := hr 74 (not_dst (by kernel_rfl))
              have e75 : a.tmps.getD 75 undef = U 75 := hr 75 (not_dst (by kernel_rfl))
              have e76 : a.tmps.getD 76 undef = U 76 := hr 76 (not_dst (by kernel_rfl))
              have e77 : a.tmps.getD 77 undef = U 77 := hr 77 (not_dst (by kernel_rfl))
              have e78 : a.tmps.getD 78 undef = U 78 := hr 78 (not_dst (by kernel_rfl))
              have e79 : a.tmps.getD 79 undef = U 79 := hr 79 (not_dst (by kernel_rfl))
              have e80 : a.tmps.getD 80 undef = U 80 := hr 80 (not_dst (by kernel_rfl))
              have e81 : a.tmps.getD 81 undef = U 81 := hr 81 (not_dst (by kernel_rfl))
              have e82 : a.tmps.getD 82 undef = U 82 := hr 82 (not_dst (by kernel_rfl))
              have e83 : a.tmps.getD 83 undef = U 83 := hr 83 (not_dst (by kernel_rfl))
              have e84 : a.tmps.getD 84 undef = U 84 := hr 84 (not_dst (by kernel_rfl))
              have e85 : a.tmps.getD 85 undef = U 85 := hr 85 (not_dst (by kernel_rfl))
              have e86 : a.tmps.getD 86 undef = U 86 := hr 86 (not_dst (by kernel_rfl))
              have e87 : a.tmps.getD 87 undef = U 87 := hr 87 (not_dst (by kernel_rfl))
              have e88 : a.tmps.getD 88 undef = U 88 := hr 88 (not_dst (by kernel_rfl))
              have e89 : a.tmps.getD 89 undef = U 89 := hr 89 (not_dst (by kernel_rfl))
              have e90 : a.tmps.getD 90 undef = U 90 := hr 90 (not_dst (by kernel_rfl))
              have e91 : a.tmps.getD 91 undef = U 91 := hr 91 (not_dst (by kernel_rfl))
              have e92 : a.tmps.getD 92 undef = U 92 := hr 92 (not_dst (by kernel_rfl))
              have e93 : a.tmps.getD 93 undef = U 93 := hr 93 (not_dst (by kernel_rfl))
              have e94 : a.tmps.getD 94 undef = U 94 := hr 94 (not_dst (by kernel_rfl))
              have e95 : a.tmps.getD 95 undef = U 95 := hr 95 (not_dst (by kernel_rfl))
              have e96 : a.tmps.getD 96 undef = U 96 := hr 96 (not_dst (by kernel_rfl))
              have e97 : a.tmps.getD 97 undef = U 97 := hr 97 (not_dst (by kernel_rfl))
              have e98 : a.tmps.getD 98 undef = U 98 := hr 98 (not_dst (by kernel_rfl))
              have e99 : a.tmps.getD 99 undef = U 99 := hr 99 (not_dst (by kernel_rfl))
              have e100 : a.tmps.getD 100 undef = U 100 := hr 100 (not_dst (by kernel_rfl))
              have e101 : a.tmps.getD 101 undef = U 101 := hr 101 (not_dst (by kernel_rfl))
              have e102 : a.tmps.getD 102 undef = U 102 := hr 102 (not_dst (by kernel_rfl))
              have e103 : a.tmps.getD 103 undef = U 103 := hr 103 (not_dst (by kernel_rfl))
              have e104 : a.tmps.getD 104 undef = U 104 := hr 104 (not_dst (by kernel_rfl))
              have e105 : a.tmps.getD 105 undef = U 105 := hr 105 (not_dst (by kernel_rfl))
              have e106 : a.tmps.getD 106 undef = U 106 := hr 106 (not_dst (by kernel_rfl))
              have e107 : a.tmps.getD 107 undef = U 107 := hr 107 (not_dst (by kernel_rfl))
              have e108 : a.tmps.getD 108 undef = U 108 := hr 108 (not_dst (by kernel_rfl))
              have e109 : a.tmps.getD 109 undef = U 109 := hr 109 (not_dst (by kernel_rfl))
              have e110 : a.tmps.getD 110 undef = U 110 := hr 110 (not_dst (by kernel_rfl))
              have ea : a = ⟨#[a.tmps.getD 0 undef, a.tmps.getD 1 undef, a.tmps.getD 2 undef, a.tmps.getD 3 undef, a.tmps.getD 4 undef, a.tmps.getD 5 undef, a.tmps.getD 6 undef, a.tmps.getD 7 undef, a.tmps.getD 8 undef, a.tmps.getD 9 undef, a.tmps.getD 10 undef, a.tmps.getD 11 undef, a.tmps.getD 12 undef, a.tmps.getD 13 undef, a.tmps.getD 14 undef, a.tmps.getD 15 undef, a.tmps.getD 16 undef, a.tmps.getD 17 undef, a.tmps.getD 18 undef, a.tmps.getD 19 undef, a.tmps.getD 20 undef, a.tmps.getD 21 undef, a.tmps.getD 22 undef, a.tmps.getD 23 undef, a.tmps.getD 24 undef, a.tmps.getD 25 undef, a.tmps.getD 26 undef, a.tmps.getD 27 undef, a.tmps.getD 28 undef, a.tmps.getD 29 undef, a.tmps.getD 30 undef, a.tmps.getD 31 undef, a.tmps.getD 32 undef, a.tmps.getD 33 undef, a.tmps.getD 34 undef, a.tmps.getD 35 undef, a.tmps.getD 36 undef, a.tmps.getD 37 undef, a.tmps.getD 38 undef, a.tmps.getD 39 undef, a.tmps.getD 40 undef, a.tmps.getD 41 undef, a.tmps.getD 42 undef, a.tmps.getD 43 undef, a.tmps.getD 44 undef, a.tmps.getD 45 undef, a.tmps.getD 46 undef, a.tmps.getD 47 undef, a.tmps.getD 48 undef, a.tmps.getD 49 undef, a.tmps.getD 50 undef, a.tmps.getD 51 undef, a.tmps.getD 52 undef, a.tmps.getD 53 undef, a.tmps.getD 54 undef, a.tmps.getD 55 undef, a.tmps.getD 56 undef, a.tmps.getD 57 undef, a.tmps.getD 58 undef, a.tmps.getD 59 undef, a.tmps.getD 60 undef, a.tmps.getD 61 undef, a.tmps.getD 62 undef, a.tmps.getD 63 undef, a.tmps.getD 64 undef, a.tmps.getD 65 undef, a.tmps.getD 66 undef, a.tmps.getD 67 undef, a.tmps.getD 68 undef, a.tmps.getD 69 undef, a.tmps.getD 70 undef, a.tmps.getD 71 undef, a.tmps.getD 72 undef, a.tmps.getD 73 undef, a.tmps.getD 74 undef, a.tmps.getD 75 undef, a.tmps.getD 76 undef, a.tmps.getD 77 undef, a.tmps.getD 78 undef, a.tmps.getD 79 undef, a.tmps.getD 80 undef, a.tmps.getD 81 undef, a.tmps.getD 82 undef, a.tmps.getD 83 undef, a.tmps.getD 84 undef, a.tmps.getD 85 undef, a.tmps.getD 86 undef, a.tmps.getD 87 undef, a.tmps.getD 88 undef, a.tmps.getD 89 undef, a.tmps.getD 90 undef, a.tmps.getD 91 undef, a.tmps.getD 92 undef, a.tmps.getD 93 undef, a.tmps.getD 94 undef, a.tmps.getD 95 undef, a.tmps.getD 96 undef, a.tmps.getD 97 undef, a.tmps.getD 98 undef, a.tmps.getD 99 undef, a.tmps.getD 100 undef, a.tmps.getD 101 undef, a.tmps.getD 102 undef, a.tmps.getD 103 undef, a.tmps.getD 104 undef, a.tmps.getD 105 undef, a.tmps.getD 106 undef, a.tmps.getD 107 undef, a.tmps.getD 108 undef, a.tmps.getD 109 undef, a.tmps.getD 110 undef], []⟩ := act_lit 111 hs hd
              rw [e0, e1, e2, e3, e4, e5, e6, e7, e8, e9, e10, e11, e12, e13, e14, e15, e16, e17, e18, e19, e20, e21, e22, e23, e24, e25, e26, e27, e57, e58, e59, e60, e61, e62, e63, e64, e65, e66, e67, e68, e69, e70, e71, e72, e73, e74, e75, e76, e77, e78, e79, e80, e81, e82, e83, e84, e85, e86, e87, e88, e89, e90, e91, e92, e93, e94, e95, e96, e97, e98, e99, e100, e101, e102, e103, e104, e105, e106, e107, e108, e109, e110] at ea
              obtain ⟨U', hU'⟩ : ∃ U' : Nat → Value, ∀ i, a.tmps.getD i undef = U' i := ⟨_, fun _ => rfl⟩
              simp only [hU'] at ea
              clear hs hd hr hh hU' e0 e1 e2 e3 e4 e5 e6 e7 e8 e9 e10 e11 e12 e13 e14 e15 e16 e17 e18 e19 e20 e21 e22 e23 e24 e25 e26 e27 e57 e58 e59 e60 e61 e62 e63 e64 e65 e66 e67 e68 e69 e70 e71 e72 e73 e74 e75 e76 e77 e78 e79 e80 e81 e82 e83 e84 e85 e86 e87 e88 e89 e90 e91 e92 e93 e94 e95 e96 e97 e98 e99 e100 e101 e102 e103 e104 e105 e106 e107 e108 e109 e110
              subst ea
              clear hc
              go_wp2_with fail
              go_roundw
              case rel => exact ⟨k + 1, by omega, by go_num, ⟨_, _, _, real ++ [false], HPK.out, by rw [List.length_set]; exact HRL.out, by rw [List.length_append, HBL.out]; rfl, fun r hr => by
                rcases List.mem_or_eq_of_mem_set hr with h | rfl
                · exact HRW.out r h
                · simp⟩, rc7.less (by omega), fr7⟩
              case measure => simp [intOf]; omega
          · clear hG6
            go_wp2_with fail
            go_roundw
            case rel => exact ⟨k + 1, by omega, by go_num, ⟨_, _, rows, real ++ [true], HP6.out, HRL.out, by rw [List.length_append, HBL.out]; rfl, HRW.out⟩, HR6.out.1.less (by omega), HR6.out.2⟩
            case measure => simp [intOf]; omega
      · obtain rfl : k = L := by omega
        go_wp2_with fail
        refine (odd_c R (B + 990) n _ (hrc.out.less (by omega)) hn).mono ?_
        rintro e w4 ⟨q, rfl, rc4, t4, -⟩
        have HT4 := Lib.hid (HT.out.touch t4 hRw hRT)
        have HR4 := Lib.hid (And.intro rc4 (hfr.out.trans t4))
        have hd4 := Lib.hid (show DrawnP names rows real from ⟨by omega, fun x hx => by have := hl5 x hx; omega, by have := HRL.out; omega, fun r hr => by have := HRW.out r hr; omega, by have := HBL.out; omega⟩)
        clear rc4 t4 hrc hfr HT x0 x1 x2 hTs
        go_upto_if 59 with (fail)
        go_cut [] (fun w' => ∃ (nv rv bv : Value) (names : List ByteArray) (rows : List (List Int)) (real : List Bool), Hid (PadS w' w.heap.size w2.heap.size nv rv bv names rows real) ∧ Hid (DrawnP names rows real) ∧ Hid (Rc w' R B) ∧ Hid (Touch R (R + 1) w w'))
        case rest =>
          obtain ⟨nv, rv, bv, names, rows, real, hT, hD, hR, hF⟩ := hcut
          have TS := hT.out
          obtain ⟨A0, c0, B0, d0, C0, e0, rfl, rfl, rfl⟩ := TS.toO.form
          have HT := Lib.hid TS
          have x0 := TS.blk.cell 0
          have x1 := TS.blk.cell 1
          have x2 := TS.blk.cell 2
          have y0 := TS.res.cell 0
          have y1 := TS.res.cell 1
          have y2 := TS.res.cell 2
          have f0 := TS.res.frozen 0
          have f1 := TS.res.frozen 1
          have f2 := TS.res.frozen 2
          simp at x0 x1 x2 y0 y1 y2
          clear TS
          go_wp2_with fail
          have D := (HT.out.toO.pair HT.out.res).2.1
          have PP := HT.out.post (B := B) hD.out hR.out hF.out hRw
          have z0 := D.cell 0
          have z1 := D.cell 1
          have z2 := D.cell 2
          simp at z0 z1 z2
          clear x0 x1 x2 y0 y1 y2 f0 f1 f2 HT D
          unfold put3 at PP z0 z1 z2
          generalize (World.setCell (World.setCell (World.setCell _ ⟨w.heap.size, 0, none⟩ _) ⟨w.heap.size, 1, none⟩ _) ⟨w.heap.size, 2, none⟩ _) = wZ at z0 z1 z2 PP ⊢
          exact bodyPost_ret (v := .agg #[_, _, _]) (by simp [results, Tryd.results34, go_sem, z0, z1, z2]) rfl PP
        case first =>
          cases q
          · go_wp2_with fail
            go_meet
            case rel => exact ⟨_, _, _, _, _, _, HT4.out, hd4.out, HR4.out.1.less (by omega), HR4.out.2⟩
          · go_wp2_with fail
            refine (pick_c R (B + 900) 4 _ (HR4.out.1.less (by omega)) (by decide)).mono ?_
            rintro e w5 ⟨x, rfl, hx, rc5, t5, -⟩
            have TS5 := HT4.out.touch t5 hRw hRT
            have fr5 := HR4.out.2.trans t5
            have hT5 := TS5.blk.lt
            have hw5 := fr5.size
            have HT := Lib.hid TS5
            have HR := Lib.hid (And.intro rc5 fr5)
            have x0 := TS5.blk.cell 0
            have x1 := TS5.blk.cell 1
            have x2 := TS5.blk.cell 2
            have f0 := TS5.blk.frozen 0
            have f1 := TS5.blk.frozen 1
            have f2 := TS5.blk.frozen 2
            simp at x0 x1 x2
            clear TS5 rc5 fr5 t5 HT4 HR4
            have hrl17 : rows.length ≤ 31 := by have := HRL.out; omega
            have oB : w5.ownsRow w.heap.size 4 1 (.slice A5 k c5) k (boCells real) := by have := HT.out.real; rw [HBL.out] at this; exact this
            rcases (show x = 0 ∨ x = 1 ∨ x = 2 ∨ x = 3 by omega) with rfl | rfl | rfl | rfl
            · go_wp2_with (first
                | (at_builtin; refine wpList_append_lies _ rfl _ _ 35 rfl w.heap.size 4 ib _ 1 1 Tryd.underlying35 hib hbz0 hbz1 hbz2 rfl (by decide) _ _ _ rfl (oB.alloc _) ⟨w5.heap.size, 0, none⟩ 1 1 [.bool true] rfl rfl (cells_new _ _ _) (oneCells rfl) (by omega) (by unfold maxLen; omega) (by omega) (by simp; omega) _ rfl ?_; intro gA cA wA ho hg _ _; have PG := Lib.hid ((HT.out.alloc (.cells #[.bool true] 4)).grewB (real' := real ++ [true]) hg (by rw [boCells_append, List.length_append, HBL.out]; exact ho)); have RG := Lib.hid (And.intro ((HR.out.1.alloc (.cells #[.bool true] 4)).touch (Touch.of_grown (lo := w.heap.size) (hi := (w5.alloc (.cells #[.bool true] 4)).heap.size) hg (fun g e => (oB.alloc (.cells #[.bool true] 4)).lt g e)) hRw) ((HR.out.2.alloc (.cells #[.bool true] 4)).grown hg (fun g e => Or.inr (oB.lt g e).1))); have y2 := PG.out.blk.cell 2; have g2 := PG.out.blk.frozen 2; simp at y2; clear ho hg))
              go_meet
              case rel => exact ⟨_, _, _, _, _, _, PG.out.set2 hT0 _, ⟨hd4.out.n1, hd4.out.n2, hd4.out.r1, hd4.out.r2, by rw [List.length_append, HBL.out]; simp; omega⟩, (RG.out.1.touch (lo := w2.heap.size) (hi := w2.heap.size + 1) ((Touch.refl _ _ _).setCell (p := ⟨w2.heap.size, 2, none⟩) (Or.inl ⟨Nat.le_refl _, Nat.lt_succ_self _⟩) _) (by omega)).less (by omega), RG.out.2.setCell (p := ⟨w2.heap.size, 2, none⟩) (Or.inr (by show w.heap.size ≤ w2.heap.size; omega)) _⟩
            · obtain ⟨gN, rfl, s0, hs0, cs0⟩ : ∃ gN, A2 = some ⟨gN, 0, none⟩ ∧ ∃ s0, names[0]? = some s0 ∧ w5.cell? ⟨gN, 0, none⟩ = some (.string s0) := by
                rcases own_cases HT.out.own with ⟨_, h0, _⟩ | ⟨g, cap, e⟩
                · omega
                · injection e with e1 e2 e3
                  subst e1
                  obtain ⟨ad, s0, hA, hgb, hs0, cs0⟩ := st_at (Reads.of_own HT.out.own) rfl (show 0 < names.length by omega)
                  injection hA with hA
                  subst hA
                  exact ⟨g, rfl, s0, hs0, by simpa [Addr.add] using cs0⟩
              have oN := HT.out.own
              have hnl : (stCells names).length = names.length := stCells_length _
              generalize hnm : names.length = nm at HT x0 oN hl1 hl3 hnl ⊢
              have HNM := Lib.hid hnm
              clear hnm
              have hn0 : (0 : Int) < (nm : Int) := by omega
              have hn1 : 0 < nm := by omega
              have hgN : gN < w5.heap.size := (oN.lt gN rfl).2
              go_wp2_with fail
              refine wp_region_typed (by kernel_rfl) (fun _ => true) (lift <| padV9 w.heap.size w2.heap.size gN nm c2 (.slice A3 k c3) (.slice A5 k c5) s0 names rows real) (S10 (fun k => k = w2.heap.size ∨ k = gN) (fun w' cn v => PadG w' w.heap.size w2.heap.size cn (.slice A3 k c3) (.slice A5 k c5) v (.slice A3 k c3) (.slice A5 k c5) (names ++ [s0]) rows real)) (C10 R (B + 900) w w5 (fun w' => PadS w' w.heap.size w2.heap.size (.slice (some ⟨gN, 0, none⟩) nm c2) (.slice A3 k c3) (.slice A5 k c5) names rows real)) (by kernel_rfl) ?_ ?_ ?_ ?_ (by kernel_rfl) ?_
              · refine stabS ?_
                intro i j v wP wQ hij hna _ hv hs
                unfold padV9 at hv ⊢
                split at hv <;> first | exact hv | skip
                · obtain ⟨g, e, hn, hc⟩ := hv
                  exact ⟨g, e, hn, (hs.1.cell (World.block_lt_of_cell? _ _ hc) hn).trans hc⟩
                · obtain ⟨cn, hG, hsl⟩ := hv
                  by_cases h9 : j = 9
                  · obtain ⟨cn', h'⟩ := hs.2.2 h9 cn v hG
                    exact ⟨cn', h', hsl⟩
                  · exact ⟨cn, hs.2.1 (fun e => hij e.symm) h9 cn v hG, hsl⟩
                · obtain ⟨u, hG, hsl⟩ := hv
                  by_cases h7 : j = 7
                  · exact absurd h7.symm (hna _ rfl ⟨7, .data⟩ (by simp) rfl)
                  · exact ⟨u, hs.2.1 h7 (fun e => hij e.symm) u u hG, hsl⟩
              · exact dst_lt (n := 111) (by kernel_rfl)
              · exact ⟨HR.out.1, HR.out.2.drew, Nat.le_refl _, fun _ => HT.out.drew⟩
              · refine ok_all ⟨?_, ?_, ?_, ?_, ?_, ?_, ?_, ?_, ?_, ?_, trivial⟩
                · refine ok_valueS (fun w => S10.refl w) (fun f w h => h.less) (fun f listed a w' hl hc hs hr hh => ⟨.pointer (some ⟨w2.heap.size, 0, none⟩), ?_, rfl⟩)
                  have h0 : a.tmps.getD 9 undef = .pointer (some ⟨w2.heap.size, 0, none⟩) := hr 9 (not_dst (by kernel_rfl))
                  simp [execOp, Act.eval, h0, field45 w2.heap.size w' 0 (by decide)]
                · refine ok_readS (fun w => S10.refl w) (fun f w h => h.less) rfl (fun w => by simp [go_sem]) (fun f listed a w' hl hc hs hr hh => ?_)
                  obtain ⟨_, rfl, h1⟩ := hh ⟨0, .data⟩ (by simp) rfl
                  have h1 := h1 82 rfl
                  have hp := hc.pre (hl.low3 (by decide) rfl (hl.later (k := 8) rfl ⟨1, .phase⟩ (by simp) rfl rfl) (hl.later (k := 9) rfl ⟨1, .phase⟩ (by simp) rfl rfl))
                  exact ⟨_, _, h1, hp.blk.cell 0, rfl⟩
                · refine ok_valueS (fun w => S10.refl w) (fun f w h => h.less) (fun f listed a w' hl hc hs hr hh => ⟨.pointer (some ⟨w2.heap.size, 0, none⟩), ?_, rfl⟩)
                  have h0 : a.tmps.getD 9 undef = .pointer (some ⟨w2.heap.size, 0, none⟩) := hr 9 (not_dst (by kernel_rfl))
                  simp [execOp, Act.eval, h0, field45 w2.heap.size w' 0 (by decide)]
                · refine ok_readS (fun w => S10.refl w) (fun f w h => h.less) rfl (fun w => by simp [go_sem]) (fun f listed a w' hl hc hs hr hh => ?_)
                  obtain ⟨_, rfl, h1⟩ := hh ⟨2, .data⟩ (by simp) rfl
                  have h1 := h1 84 rfl
                  have hp := hc.pre (hl.low3 (by decide) rfl (hl.later (k := 8) rfl ⟨3, .phase⟩ (by simp) rfl rfl) (hl.later (k := 9) rfl ⟨3, .phase⟩ (by simp) rfl rfl))
                  exact ⟨_, _, h1, hp.blk.cell 0, rfl⟩
                · intro f listed a w' hl hc hs hr hh
                  obtain ⟨_, rfl, h1⟩ := hh ⟨3, .data⟩ (by simp) rfl
                  have h1 := h1 85 rfl
                  exact op_index (i := 0) rfl Tryd.underlying23 (by kernel_rfl) h1 rfl hn1 ⟨_, rfl, rfl, S10.refl _, hc.less⟩
                · refine ok_readS (fun w => S10.refl w) (fun f w h => h.less) rfl (fun w => by simp [go_sem]) (fun f listed a w' hl hc hs hr hh => ?_)
                  obtain ⟨_, rfl, h1⟩ := hh ⟨4, .data⟩ (by simp) rfl
                  have h1 := h1 86 rfl
                  have hp := hc.pre (hl.low3 (by decide) rfl (hl.later (k := 8) rfl ⟨5, .phase⟩ (by simp) rfl rfl) (hl.later (k := 9) rfl ⟨5, .phase⟩ (by simp) rfl rfl))
                  exact ⟨_, _, h1, own_cell0 hp.own hs0, rfl⟩
                · intro f listed a w' hl hc hs hr hh
                  obtain ⟨_, rfl, h1⟩ := hh ⟨5, .data⟩ (by simp) rfl
                  have h1 := h1 87 rfl
                  have hw' := hc.up
                  refine wp_buildSlice 23 9 1 _ rfl #[.string s0] is _ Tryd.underlying23 his hsz (by rw [hss]; decide) (by rw [hss]; decide) ?_ ⟨_, rfl, ⟨w'.heap.size, rfl, ?_, (Blk.new w' 9 #[.string s0]).cell 0⟩, ⟨(Chg.refl _).alloc _, fun _ _ cn v h => h.alloc _, fun h => by cases h⟩, ⟨hc.rc.alloc _, hc.fr.alloc _, Nat.le_trans hc.up (by simp), fun h3 => (hc.pre (by omega)).alloc _⟩⟩
                  · rw [hss]
                    simp only [List.map_toArray, List.map_cons, List.map_nil, Act.eval, h1]
                    kernel_rfl
                  · have := HT.out.blk.lt
                    have := hgN
                    show ¬ (w'.heap.size = w2.heap.size ∨ w'.heap.size = gN)
                    omega
                · intro f listed a w' hl hc hs hr hh
                  obtain ⟨_, rfl, h1⟩ := hh ⟨1, .data⟩ (by simp) rfl
                  have h1 := h1 83 rfl
                  obtain ⟨_, ⟨g6, rfl, hg6, hc6⟩, h2⟩ := hh ⟨6, .data⟩ (by simp) rfl
                  have h2 := h2 88 rfl
                  have l1 := hl.aft ⟨1, .data⟩ (by simp) rfl
                  have l6 := hl.aft ⟨6, .data⟩ (by simp) rfl
                  have l0 := hl.closed 1 _ l1 rfl ⟨0, .data⟩ (by simp) rfl
                  have l5 := hl.closed 6 _ l6 rfl ⟨5, .data⟩ (by simp) rfl
                  have l4 := hl.closed 5 _ l5 rfl ⟨4, .data⟩ (by simp) rfl
                  have l3 := hl.closed 4 _ l4 rfl ⟨3, .data⟩ (by simp) rfl
                  have l2 := hl.closed 3 _ l3 rfl ⟨2, .data⟩ (by simp) rfl
                  have hup := hl.upto 7 rfl (by decide) (fun k hk => by
                    match k, hk with
                    | 0, _ => exact l0
                    | 1, _ => exact l1
                    | 2, _ => exact l2
                    | 3, _ => exact l3
                    | 4, _ => exact l4
                    | 5, _ => exact l5
                    | 6, _ => exact l6)
                  have hp := hc.pre (hl.low3 (by decide) rfl (hl.later (k := 8) rfl ⟨7, .phase⟩ (by simp) rfl rfl) (hl.later (k := 9) rfl ⟨7, .phase⟩ (by simp) rfl rfl))
                  have hw' := hc.up
                  have hpo : w'.ownsRow w.heap.size 9 1 (.slice (some ⟨gN, 0, none⟩) nm c2) nm (stCells names) := by have := hp.own; rw [HNM.out] at this; exact this
                  refine wp_append_lies _ (.tmp 83) (.tmp 88) 23 rfl w.heap.size 9 is _ 1 16 Tryd.underlying23 his hsz hss hsb rfl (by decide) _ _ _ h1 hpo ⟨g6, 0, none⟩ 1 1 [.string s0] h2 rfl (fun j u hj => ?_) (oneCells rfl) (by omega) (by unfold maxLen; omega) (by omega) (by omega) _ rfl (fun gA cA wA ho hg hd hgl => ?_)
                  · match j, hj with
                    | 0, hj => simp at hj; subst hj; simpa [Addr.add] using hc6
                  · have ho' : wA.ownsRow w.heap.size 9 1 (.slice (some ⟨gA, 0, none⟩) (nm + 1) cA) (names ++ [s0]).length (stCells (names ++ [s0])) := by
                      rw [stCells_append, List.length_append, HNM.out]; exact ho
                    refine ⟨_, rfl, ⟨_, hp.grewN hg ho', _, _, rfl⟩, ⟨⟨hg.size, fun k hk hn => hg.block k hk (fun e => hn (Or.inr (by simpa [Value.ownBlock] using e)))⟩, fun h => absurd rfl h, fun h => by cases h⟩, ⟨?_, hc.fr.grown hg (fun g e => Or.inr (hpo.lt g e).1), Nat.le_trans hc.up hg.size, fun h3 => by omega⟩⟩
                    exact hc.rc.touch (Touch.of_grown (lo := w.heap.size) (hi := w'.heap.size) hg (fun g e => hpo.lt g e)) hRw
                · refine ok_valueS (fun w => S10.refl w) (fun f w h => h.less) (fun f listed a w' hl hc hs hr hh => ⟨.pointer (some ⟨w2.heap.size, 0, none⟩), ?_, rfl⟩)
                  have h0 : a.tmps.getD 9 undef = .pointer (some ⟨w2.heap.size, 0, none⟩) := hr 9 (not_dst (by kernel_rfl))
                  simp [execOp, Act.eval, h0, field45 w2.heap.size w' 0 (by decide)]
                · refine ok_storeS rfl (by kernel_rfl) (fun f listed a w' hl hc hs hr hh => ?_)
                  obtain ⟨_, rfl, h1⟩ := hh ⟨8, .data⟩ (by simp) rfl
                  have h1 := h1 90 rfl
                  obtain ⟨_, ⟨cn, hG, Af, cf, rfl⟩, h2⟩ := hh ⟨7, .data⟩ (by simp) rfl
                  have h2 := h2 89 rfl
                  have hup := hl.upto 9 rfl (by decide) (fun k hk => by
                    match k, hk with
                    | 0, _ => exact hl.aft ⟨0, .phase⟩ (by simp) rfl
                    | 1, _ => exact hl.aft ⟨1, .phase⟩ (by simp) rfl
                    | 2, _ => exact hl.aft ⟨2, .phase⟩ (by simp) rfl
                    | 3, _ => exact hl.aft ⟨3, .phase⟩ (by simp) rfl
                    | 4, _ => exact hl.aft ⟨4, .phase⟩ (by simp) rfl
                    | 5, _ => exact hl.aft ⟨5, .phase⟩ (by simp) rfl
                    | 6, _ => exact hl.aft ⟨6, .phase⟩ (by simp) rfl
                    | 7, _ => exact hl.aft ⟨7, .data⟩ (by simp) rfl
                    | 8, _ => exact hl.aft ⟨8, .data⟩ (by simp) rfl)
                  refine ⟨_, _, _, h1, h2, hG.blk.cell 0, hG.blk.frozen 0, rfl, ⟨_, hG.set0 hT0 _, _, _, rfl⟩, ⟨Chg.setCell _ (Or.inl rfl) _, fun _ h => absurd rfl h, fun _ cn' v h => ⟨_, h.set0 hT0 _⟩⟩, ?_, ?_, ?_, fun h3 => by omega⟩
                  · exact hc.rc.touch (lo := w2.heap.size) (hi := w2.heap.size + 1) ((Touch.refl _ _ _).setCell (p := ⟨w2.heap.size, 0, none⟩) (Or.inl ⟨Nat.le_refl _, Nat.lt_succ_self _⟩) _) (by omega)
                  · exact hc.fr.setCell (p := ⟨w2.heap.size, 0, none⟩) (Or.inr (by show w.heap.size ≤ w2.heap.size; omega)) _
                  · have := hc.up; simpa [World.setCell] using this
              · intro a w6 hs hd hr hh hc
                obtain ⟨_, ⟨u, hG, A7, c7, rfl⟩, -⟩ := hh 9 (by decide) rfl
                have rc6 := hc.rc
                have fr6 := hc.fr
                have e0 : a.tmps.getD 0 undef = .pointer (some ⟨R, 0, none⟩) := hr 0 (not_dst (by kernel_rfl))
                have e1 : a.tmps.getD 1 undef = .int .i64 (kind : Int) := hr 1 (not_dst (by kernel_rfl))
                have e2 : a.tmps.getD 2 undef = .int .i64 (most : Int) := hr 2 (not_dst (by kernel_rfl))
                have e3 : a.tmps.getD 3 undef = .int .i64 n := hr 3 (not_dst (by kernel_rfl))
                have e4 : a.tmps.getD 4 undef = U 4 := hr 4 (not_dst (by kernel_rfl))
                have e5 : a.tmps.getD 5 undef = U 5 := hr 5 (not_dst (by kernel_rfl))
                have e6 : a.tmps.getD 6 undef = U 6 := hr 6 (not_dst (by kernel_rfl))
                have e7 : a.tmps.getD 7 undef = U 7 := hr 7 (not_dst (by kernel_rfl))
                have e8 : a.tmps.getD 8 undef = .pointer (some ⟨w.heap.size, 0, none⟩) := hr 8 (not_dst (by kernel_rfl))
                have e9 : a.tmps.getD 9 undef = .pointer (some ⟨w2.heap.size, 0, none⟩) := hr 9 (not_dst (by kernel_rfl))
                have e10 : a.tmps.getD 10 undef = .int .i64 (k : Int) := hr 10 (not_dst (by kernel_rfl))
                have e11 : a.tmps.getD 11 undef = U 11 := hr 11 (not_dst (by kernel_rfl))
                have e59 : a.tmps.getD 59 undef = .bool true := hr 59 (not_dst (by kernel_rfl))
                have e110 : a.tmps.getD 110 undef = U 110 := hr 110 (not_dst (by kernel_rfl))
                have ea : a = ⟨#[a.tmps.getD 0 undef, a.tmps.getD 1 undef, a.tmps.getD 2 undef, a.tmps.getD 3 undef, a.tmps.getD 4 undef, a.tmps.getD 5 undef, a.tmps.getD 6 undef, a.tmps.getD 7 undef, a.tmps.getD 8 undef, a.tmps.getD 9 undef, a.tmps.getD 10 undef, a.tmps.getD 11 undef, a.tmps.getD 12 undef, a.tmps.getD 13 undef, a.tmps.getD 14 undef, a.tmps.getD 15 undef, a.tmps.getD 16 undef, a.tmps.getD 17 undef, a.tmps.getD 18 undef, a.tmps.getD 19 undef, a.tmps.getD 20 undef, a.tmps.getD 21 undef, a.tmps.getD 22 undef, a.tmps.getD 23 undef, a.tmps.getD 24 undef, a.tmps.getD 25 undef, a.tmps.getD 26 undef, a.tmps.getD 27 undef, a.tmps.getD 28 undef, a.tmps.getD 29 undef, a.tmps.getD 30 undef, a.tmps.getD 31 undef, a.tmps.getD 32 undef, a.tmps.getD 33 undef, a.tmps.getD 34 undef, a.tmps.getD 35 undef, a.tmps.getD 36 undef, a.tmps.getD 37 undef, a.tmps.getD 38 undef, a.tmps.getD 39 undef, a.tmps.getD 40 undef, a.tmps.getD 41 undef, a.tmps.getD 42 undef, a.tmps.getD 43 undef, a.tmps.getD 44 undef, a.tmps.getD 45 undef, a.tmps.getD 46 undef, a.tmps.getD 47 undef, a.tmps.getD 48 undef, a.tmps.getD 49 undef, a.tmps.getD 50 undef, a.tmps.getD 51 undef, a.tmps.getD 52 undef, a.tmps.getD 53 undef, a.tmps.getD 54 undef, a.tmps.getD 55 undef, a.tmps.getD 56 undef, a.tmps.getD 57 undef, a.tmps.getD 58 undef, a.tmps.getD 59 undef, a.tmps.getD 60 undef, a.tmps.getD 61 undef, a.tmps.getD 62 undef, a.tmps.getD 63 undef, a.tmps.getD 64 undef, a.tmps.getD 65 undef, a.tmps.getD 66 undef, a.tmps.getD 67 undef, a.tmps.getD 68 undef, a.tmps.getD 69 undef, a.tmps.getD 70 undef, a.tmps.getD 71 undef, a.tmps.getD 72 undef, a.tmps.getD 73 undef, a.tmps.getD 74 undef, a.tmps.getD 75 undef, a.tmps.getD 76 undef, a.tmps.getD 77 undef, a.tmps.getD 78 undef, a.tmps.getD 79 undef, a.tmps.getD 80 undef, a.tmps.getD 81 undef, a.tmps.getD 82 undef, a.tmps.getD 83 undef, a.tmps.getD 84 undef, a.tmps.getD 85 undef, a.tmps.getD 86 undef, a.tmps.getD 87 undef, a.tmps.getD 88 undef, a.tmps.getD 89 undef, a.tmps.getD 90 undef, a.tmps.getD 91 undef, a.tmps.getD 92 undef, a.tmps.getD 93 undef, a.tmps.getD 94 undef, a.tmps.getD 95 undef, a.tmps.getD 96 undef, a.tmps.getD 97 undef, a.tmps.getD 98 undef, a.tmps.getD 99 undef, a.tmps.getD 100 undef, a.tmps.getD 101 undef, a.tmps.getD 102 undef, a.tmps.getD 103 undef, a.tmps.getD 104 undef, a.tmps.getD 105 undef, a.tmps.getD 106 undef, a.tmps.getD 107 undef, a.tmps.getD 108 undef, a.tmps.getD 109 undef, a.tmps.getD 110 undef], []⟩ := act_lit 111 hs hd
                rw [e0, e1, e2, e3, e4, e5, e6, e7, e8, e9, e10, e11, e59, e110] at ea
                obtain ⟨U', hU'⟩ : ∃ U' : Nat → Value, ∀ i, a.tmps.getD i undef = U' i := ⟨_, fun _ => rfl⟩
                simp only [hU'] at ea
                clear hs hd hr hh hU' e0 e1 e2 e3 e4 e5 e6 e7 e8 e9 e10 e11 e59 e110
                subst ea
                go_wp2_with fail
                go_meet
                case rel =>
                  exact ⟨_, _, _, names ++ [s0], rows, real, hG, ⟨by rw [List.length_append, HNM.out]; simp; omega, fun x hx => by
                    rcases List.mem_append.1 hx with h | h
                    · exact hd4.out.n2 x h
                    · simp at h; subst h; exact hd4.out.n2 x (List.mem_of_getElem? hs0), hd4.out.r1, hd4.out.r2, hd4.out.b1⟩, rc6.less (by omega), fr6⟩
            · obtain ⟨vs, RV⟩ := HT.out.rows
              have hne : ¬ w2.heap.size = w5.heap.size := by omega
              have hn0 : (0 : Int) < (names.length : Int) := by omega
              have hnn : names ≠ [] := by intro e; rw [e] at hl1; simp at hl1
              obtain ⟨nm, hnm⟩ : ∃ nm, names.length = nm := ⟨_, rfl⟩
              have hn1 : 0 < nm := by omega
              have hn2 : (0 : Int) < (nm : Int) := by omega
              have hn3 : nm ≤ 3 := by omega
              rw [hnm] at x0
              have HNM := Lib.hid hnm
              clear hnm hn0 hnn
              go_wp2_with (first
                | (at_make; refine wpList_make_full _ rfl _ _ 49 rfl w.heap.size 3 ii _ 1 Tryd.underlying49 hii hiz his' .i64 .i64 _ _ nm rfl rfl rfl rfl (by rw [iib]; omega) (by unfold maxLen; omega) hw5 ?_; intro wM hM0 hgM; have hM := made_zero hM0; have hb := grown_none_below hgM; have c0 := own_cellk (k := 0) hM (zero_at hn1); have cf := own_frozen hM 0; have x1M := below_keep hb x1; have x2M := below_keep hb x2; have PS0 := Lib.hid (pad_row1 (HT.out.below hb) hM hw5 (RV.below hb) hb.size); have RS := Lib.hid (rc_fr1 (u := .int .i64 1) (rc_frB HR.out hb) (show R < w5.heap.size by omega) hw5); have oRS := PS0.out.2.2.own; rw [HRL.out] at oRS; clear hM0 hgM x0)
                | (at_builtin; refine wpList_append_lies _ rfl (.tmp 100) (.tmp 102) 24 rfl w.heap.size 49 j0 _ 1 24 Tryd.underlying24 hjI hjz0 hjz1 hjz2 rfl (by decide) _ _ _ rfl (oRS.alloc _) ⟨wM.heap.size, 0, none⟩ 1 1 [.slice (some ⟨w5.heap.size, 0, none⟩) nm nm] rfl rfl (cells_new' _ _ _ _ (by simp [World.setCell])) (oneCells rfl) (by omega) (by unfold maxLen; omega) (by omega) (by have := hb.size; simp [World.setCell]; omega) _ rfl ?_; intro gA cA wA ho hg hd _; have PG := Lib.hid ((PS0.out.1.alloc _).pushRow (r := (List.replicate nm 0).set 0 1) (PS0.out.2.2.alloc _) (by have := hb.size; simp [World.setCell]; omega) (PS0.out.2.1.alloc _) (fun g e => by simp [Value.ownBlock] at e; omega) hg (by rw [HRL.out]; exact ho) (hat_of hd)); have RG := Lib.hid (rc_frT (rc_frG (rc_frA RS.out _) (oRS.alloc _) (Nat.le_refl _) (by omega) hg) hRT (by omega) 1 (.slice (some ⟨gA, 0, none⟩) (k + 1) cA)); have y1 := PG.out.blk.cell 1; have y2 := PG.out.blk.cell 2; have g1 := PG.out.blk.frozen 1; simp at y1 y2; have PS := Lib.hid (PG.out.set1 hT0 (.slice (some ⟨gA, 0, none⟩) (k + 1) cA)); have oB2 : (wA.setCell ⟨w2.heap.size, 1, none⟩ (.slice (some ⟨gA, 0, none⟩) (k + 1) cA)).ownsRow w.heap.size 4 1 (.slice A5 k c5) k (boCells real) := (by have := PS.out.real; rw [HBL.out] at this; exact this); have hsA : w.heap.size ≤ wA.heap.size := Nat.le_trans hw5 (Nat.le_trans hb.size (Nat.le_trans (by simp [World.setCell]) hg.size)); clear ho hg hd)
                | (at_builtin; refine wpList_append_lies _ rfl (.tmp 106) (.tmp 107) 35 rfl w.heap.size 4 ib _ 1 1 Tryd.underlying35 hib hbz0 hbz1 hbz2 rfl (by decide) _ _ _ rfl (oB2.alloc _) ⟨wA.heap.size, 0, none⟩ 1 1 [.bool false] rfl rfl (cells_new' _ _ _ _ (by simp [World.setCell])) (oneCells rfl) (by omega) (by unfold maxLen; omega) (by omega) (by simp [World.setCell]; omega) _ rfl ?_; intro gB cB wB ho2 hg2 _ _; have PG2 := Lib.hid ((PS.out.alloc _).grewB (real' := real ++ [false]) hg2 (by rw [boCells_append, List.length_append, HBL.out]; exact ho2)); have RG2 := Lib.hid (rc_frG (rc_frA RG.out _) (oB2.alloc _) (Nat.le_refl _) (by omega) hg2); have z2 := PG2.out.blk.cell 2; have h2 := PG2.out.blk.frozen 2; simp at z2; clear ho2 hg2))
              go_meet
              case rel => exact ⟨_, _, _, names, rows ++ [(List.replicate nm 0).set 0 1], _, by have := PG2.out.set2 hT0 (.slice (some ⟨gB, 0, none⟩) (k + 1) cB); rw [← HNM.out]; rw [← HNM.out] at this; exact this, ⟨hd4.out.n1, hd4.out.n2, by simp; omega, fun r hr => by
                rcases List.mem_append.1 hr with h | h
                · exact hd4.out.r2 r h
                · simp at h; subst h; simp; omega, by rw [List.length_append, HBL.out]; simp; omega⟩, (rc_frT RG2.out hRT (by omega) 2 _).1.less (by omega), (rc_frT RG2.out hRT (by omega) 2 _).2⟩
            · obtain ⟨vs, RV⟩ := HT.out.rows
              have RVo : w5.ownsRow w.heap.size 49 1 (.slice A3 k c3) k vs := by have := RV.own; rw [HRL.out] at this; exact this
              have hu := Lib.hid ((own_lit w5 w.heap.size 3 [] hw5 (by unfold maxLen; simp)).alloc (.cells #[.slice (some ⟨w5.heap.size, 0, none⟩) 0 0] 49))
              have oR := (RVo.alloc (.cells #[] 3)).alloc (.cells #[.slice (some ⟨w5.heap.size, 0, none⟩) 0 0] 49)
              go_wp2_with (first
                | (at_builtin; refine wpList_append_lies _ rfl (.tmp 63) (.tmp 65) 24 rfl w.heap.size 49 j0 _ 1 24 Tryd.underlying24 hjI hjz0 hjz1 hjz2 rfl (by decide) _ _ _ rfl oR ⟨w5.heap.size + 1, 0, none⟩ 1 1 [.slice (some ⟨w5.heap.size, 0, none⟩) 0 0] rfl rfl (cells_new' _ _ _ _ (by simp)) (oneCells rfl) (by omega) (by unfold maxLen; omega) (by omega) (by simp; omega) _ rfl ?_; intro gA cA wA ho hg hd _; have PG := Lib.hid (((HT.out.alloc (.cells #[] 3)).alloc (.cells #[.slice (some ⟨w5.heap.size, 0, none⟩) 0 0] 49)).pushRow (r := []) ((RV.alloc _).alloc _) (by simp; omega) hu.out (fun g e => by simp [Value.ownBlock] at e; omega) hg (by rw [HRL.out]; exact ho) (hat_of hd)); have RG := Lib.hid (rc_frT (rc_frG (rc_frA (rc_frA HR.out _) _) oR (Nat.le_refl _) (by omega) hg) hRT (by omega) 1 (.slice (some ⟨gA, 0, none⟩) (k + 1) cA)); have y1 := PG.out.blk.cell 1; have y2 := PG.out.blk.cell 2; have g1 := PG.out.blk.frozen 1; simp at y1 y2; have PS := Lib.hid (PG.out.set1 hT0 (.slice (some ⟨gA, 0, none⟩) (k + 1) cA)); have oB2 : (wA.setCell ⟨w2.heap.size, 1, none⟩ (.slice (some ⟨gA, 0, none⟩) (k + 1) cA)).ownsRow w.heap.size 4 1 (.slice A5 k c5) k (boCells real) := (by have := PS.out.real; rw [HBL.out] at this; exact this); have hsA : w.heap.size ≤ wA.heap.size := Nat.le_trans hw5 (Nat.le_trans (by simp; omega) hg.size); clear ho hg hd)
                | (at_builtin; refine wpList_append_lies _ rfl (.tmp 69) (.tmp 70) 35 rfl w.heap.size 4 ib _ 1 1 Tryd.underlying35 hib hbz0 hbz1 hbz2 rfl (by decide) _ _ _ rfl (oB2.alloc _) ⟨wA.heap.size, 0, none⟩ 1 1 [.bool true] rfl rfl (cells_new' _ _ _ _ (by simp [World.setCell])) (oneCells rfl) (by omega) (by unfold maxLen; omega) (by omega) (by simp [World.setCell]; omega) _ rfl ?_; intro gB cB wB ho2 hg2 _ _; have PG2 := Lib.hid ((PS.out.alloc _).grewB (real' := real ++ [true]) hg2 (by rw [boCells_append, List.length_append, HBL.out]; exact ho2)); have RG2 := Lib.hid (rc_frG (rc_frA RG.out _) (oB2.alloc _) (Nat.le_refl _) (by omega) hg2); have z2 := PG2.out.blk.cell 2; have h2 := PG2.out.blk.frozen 2; simp at z2; clear ho2 hg2))
              go_meet
              case rel => exact ⟨_, _, _, _, rows ++ [[]], _, PG2.out.set2 hT0 _, ⟨hd4.out.n1, hd4.out.n2, by simp; omega, fun r hr => by
                rcases List.mem_append.1 hr with h | h
                · exact hd4.out.r2 r h
                · simp at h; subst h; simp, by rw [List.length_append, HBL.out]; simp; omega⟩, (rc_frT RG2.out hRT (by omega) 2 _).1.less (by omega), (rc_frT RG2.out hRT (by omega) 2 _).2⟩
end Go.Proofs.YtbhklgiecfcfcaaDoor
