/- spec.l20Catalog. -/
import Derived.Test.YtcgmcikceohdoaaDoorDrawPad
import Derived.Test.YtcgmcikceohdoaaDoorFnTable
import Derived.Test.YtcgmcikceohdoaaDoorCatX
import Derived.Deep.DeepCutAuto
namespace Go.Proofs.YtcgmcikceohdoaaDoor
open Go Go.RowKit
set_option maxRecDepth 100000

/-- A named table of the call's own. -/
structure Ent where
  s : ByteArray
  nv : Value
  rv : Value
  names : List ByteArray
  rows : List (List Int)
def entCells (e : Ent) : List Value := [.string e.s, e.nv, e.rv]
def catCells (es : List Ent) : List Value := es.flatMap entCells
def Ent.toE (e : Ent) : CatE := (e.s, e.names, e.rows)
structure EntG (w : World) (lo : Nat) (e : Ent) : Prop where
  tab : TabO w lo (.agg #[e.nv, e.rv]) e.names e.rows
  drawn : DrawnT e.names e.rows
  size : e.s.size ≤ 9
structure CatG (w : World) (lo : Nat) (v : Value) (es : List Ent) : Prop where
  own : w.ownsRow lo 58 3 v es.length (catCells es)
  ent : ∀ e ∈ es, EntG w lo e
theorem catCells_append (es es' : List Ent) : catCells (es ++ es') = catCells es ++ catCells es' := by simp [catCells]
theorem catCells_length (es : List Ent) : (catCells es).length = es.length * 3 := by
  induction es with
  | nil => rfl
  | cons e es ih => rw [show catCells (e :: es) = entCells e ++ catCells es from rfl, List.length_append, ih]; simp [entCells]; omega
theorem catCells_at : ∀ (es : List Ent) (k j : Nat) (e : Ent), es[k]? = some e → j < 3 → (catCells es)[k * 3 + j]? = (entCells e)[j]? := by
  intro es
  induction es with
  | nil => intro k j e h; simp at h
  | cons x es ih =>
    intro k j e h hj
    rw [show catCells (x :: es) = entCells x ++ catCells es from rfl]
    cases k with
    | zero =>
      simp at h
      subst h
      rw [List.getElem?_append_left (by simp [entCells]; omega)]
      simp
    | succ k =>
      rw [List.getElem?_append_right (by simp [entCells]; omega)]
      have := ih k j e (by simpa using h) hj
      rw [← this]
      congr 1
      simp [entCells]
      omega
theorem catCells_take : ∀ (es : List Ent) (k : Nat), (catCells es).take (k * 3) = catCells (es.take k) := by
  intro es
  induction es with
  | nil => intro k; simp [catCells]
  | cons x es ih =>
    intro k
    cases k with
    | zero => simp [catCells]
    | succ k =>
      rw [show catCells (x :: es) = entCells x ++ catCells es from rfl, List.take_succ_cons, show catCells (x :: es.take k) = entCells x ++ catCells (es.take k) from rfl, ← ih k]
      rw [show (k + 1) * 3 = (entCells x).length + k * 3 by simp [entCells]; omega, List.take_append, List.take_of_length_le (Nat.le_add_right _ _)]
      simp
section
variable {w w' : World} {lo lo' R : Nat} {v : Value} {es : List Ent} {e : Ent}
theorem TabO.touchR {names : List ByteArray} {rows : List (List Int)} (h : TabO w lo v names rows) (ht : Touch R (R + 1) w w') (hl : R < lo) : TabO w' lo v names rows := by
  obtain ⟨v0, v1, e, h0, vs, h1⟩ := h
  exact ⟨v0, v1, e, ht.own_above h0 (by omega), vs, (h1.touch ht (by omega)).wide ht.size⟩
theorem TabO.grownOf {names : List ByteArray} {rows : List (List Int)} {b z n : Nat} {t : TypeId} {y : Value} {ys : List Value} (h : TabO w lo v names rows) (hy : w.ownsRow b t z y n ys) (h1 : 9 ≠ t) (h2 : 33 ≠ t) (h3 : 3 ≠ t) (hg : w.grownBy w' y.ownBlock) : TabO w' lo v names rows := by
  obtain ⟨v0, v1, e, h0, vs, hv⟩ := h
  exact ⟨v0, v1, e, h0.kept hg (own_ne h0 hy h1), vs, (hv.kept_own hy h2 h3 hg).wide hg.size⟩
theorem EntG.touch (h : EntG w lo e) (ht : Touch R (R + 1) w w') (hl : R < lo) : EntG w' lo e := ⟨h.tab.touchR ht hl, h.drawn, h.size⟩
theorem EntG.below (h : EntG w lo e) (hb : Below w.heap.size w w') : EntG w' lo e := ⟨h.tab.below hb, h.drawn, h.size⟩
theorem EntG.low (h : EntG w lo e) (hl : lo' ≤ lo) : EntG w lo' e := ⟨h.tab.low hl, h.drawn, h.size⟩
theorem EntG.grown {b z n : Nat} {y : Value} {ys : List Value} (h : EntG w lo e) (hy : w.ownsRow b 58 z y n ys) (hg : w.grownBy w' y.ownBlock) : EntG w' lo e := ⟨h.tab.grownOf hy (by decide) (by decide) (by decide) hg, h.drawn, h.size⟩
theorem CatG.touch (h : CatG w lo v es) (ht : Touch R (R + 1) w w') (hl : R < lo) : CatG w' lo v es := ⟨ht.own_above h.own (by omega), fun e he => (h.ent e he).touch ht hl⟩
theorem CatG.below (h : CatG w lo v es) (hb : Below w.heap.size w w') : CatG w' lo v es := ⟨own_below h.own hb, fun e he => (h.ent e he).below hb⟩
theorem CatG.alloc (h : CatG w lo v es) (o : Obj) : CatG (w.alloc o) lo v es := h.below ((Below.refl _ _).alloc (Nat.le_refl _) _)
theorem CatG.drewN (h : CatG w lo v es) (n : Nat) : CatG (w.drewN n) lo v es := h.below (below_drewN (Below.refl _ _) n)
theorem CatG.push {v' : Value} {es' : List Ent} (h : CatG w lo v es) (he : ∀ e ∈ es', EntG w lo e) (hg : w.grownBy w' v.ownBlock) (ho : w'.ownsRow lo 58 3 v' (es.length + es'.length) (catCells es ++ catCells es')) : CatG w' lo v' (es ++ es') :=
  ⟨by rw [List.length_append, catCells_append]; exact ho, fun e hm => by
    rcases List.mem_append.1 hm with h1 | h1
    · exact (h.ent e h1).grown h.own hg
    · exact (he e h1).grown h.own hg⟩
/-- The first k elements. -/
theorem own_take {b z n k c : Nat} {t : TypeId} {A : Option Addr} {xs : List Value} (h : w.ownsRow b t z (.slice A n c) n xs) (hk : k ≤ n) (hA : A ≠ none) : w.ownsRow b t z (.slice A k c) k (xs.take (k * z)) := by
  rcases h.2 with ⟨h', _⟩ | ⟨g, cap, cur, h', hb, hh, h1, h2, h3, h4⟩
  · simp only [Value.slice.injEq] at h'
    exact absurd h'.1 hA
  · simp only [Value.slice.injEq] at h'
    obtain ⟨rfl, _, rfl⟩ := h'
    refine ⟨?_, .inr ⟨g, _, cur, rfl, hb, hh, by omega, h2, h3, ?_⟩⟩
    · rw [List.length_take, h.1]
      exact Nat.min_eq_left (Nat.mul_le_mul_right _ hk)
    · rw [← h4, List.take_take, Nat.min_eq_left (Nat.mul_le_mul_right _ hk)]
theorem CatG.take {A : Option Addr} {n c k : Nat} (h : CatG w lo (.slice A n c) es) (hn : es.length = n) (hk : k ≤ n) (hA : A ≠ none) : CatG w lo (.slice A k c) (es.take k) := by
  refine ⟨?_, fun e he => h.ent e (List.mem_of_mem_take he)⟩
  have := own_take (k := k) (by have := h.own; rw [hn] at this; exact this) hk hA
  rw [catCells_take] at this
  rw [List.length_take, hn, Nat.min_eq_left hk]
  exact this
theorem own_lit3 (w : World) (base n : Nat) (t : TypeId) (l : List Value) (h : base ≤ w.heap.size) (hl : l.length = n * 3) (hm : n ≤ maxLen) : (w.alloc (.cells l.toArray t)).ownsRow base t 3 (.slice (some ⟨w.heap.size, 0, none⟩) n n) n l :=
  ⟨hl, .inr ⟨w.heap.size, n, l.toArray, rfl, h, heap_alloc_new w _, Nat.le_refl _, hm, by simp [hl], by simp [← hl]⟩⟩
theorem RowsV.take {hi n c k : Nat} {A : Option Addr} {vs : List Value} {rows : List (List Int)} (h : RowsV w lo hi (.slice A n c) vs rows) (hn : rows.length = n) (hk : k ≤ n) (hA : A ≠ none) : RowsV w lo hi (.slice A k c) (vs.take k) (rows.take k) := by
  have ho := own_take (k := k) (by have := h.own; rw [hn] at this; exact this) hk hA
  rw [Nat.mul_one] at ho
  have up : ∀ {α : Type} {l : List α} {i : Nat} {x : α}, (l.take k)[i]? = some x → l[i]? = some x := fun hx => by
    rw [List.getElem?_take] at hx
    split at hx
    · exact hx
    · cases hx
  have hob : (Value.slice A k c).ownBlock = (Value.slice A n c).ownBlock := by cases A <;> rfl
  refine ⟨by rw [List.length_take, List.length_take, h.len], ?_, fun g e => h.top g (hob ▸ e), fun i u r hu hr => h.row i u r (up hu) (up hr), fun i u g hu e => h.under i u g (up hu) e, fun i u hu => by rw [hob]; exact h.off i u (up hu), fun i j u u' hij hu hu' => h.apart i j u u' hij (up hu) (up hu')⟩
  rw [List.length_take, hn, Nat.min_eq_left hk]
  exact ho
theorem CatG.reads {A : Option Addr} {n c : Nat} (h : CatG w lo (.slice A n c) es) (hn : es.length = n) : CatR w A n (es.map Ent.toE) := by
  refine ⟨by rw [List.length_map, hn], fun k c' hc => ?_⟩
  rw [List.getElem?_map] at hc
  obtain ⟨e, he, rfl⟩ := Option.map_eq_some_iff.1 hc
  have hk := (List.getElem?_eq_some_iff.1 he).1
  have ho := h.own
  rw [hn] at ho
  obtain ⟨h1, h2⟩ := Reads.of_own ho
  obtain ⟨ad, hA, _, hcell⟩ := h2 (by omega)
  have hE := h.ent e (List.mem_of_getElem? he)
  obtain ⟨Ak, ck, Bk, dk, e1, e2⟩ := hE.tab.form
  have c0 := hcell (k * 3 + 0) (.string e.s) (by rw [catCells_at es k 0 e he (by omega)]; rfl)
  have c1 := hcell (k * 3 + 1) e.nv (by rw [catCells_at es k 1 e he (by omega)]; rfl)
  have c2 := hcell (k * 3 + 2) e.rv (by rw [catCells_at es k 2 e he (by omega)]; rfl)
  have e3 := hE.tab.reads
  rw [e1, e2] at e3
  rw [e1] at c1
  rw [e2] at c2
  refine ⟨ad, Ak, ck, Bk, dk, hA, by rw [Nat.add_zero] at c0; exact c0, ?_, ?_, e3⟩
  · have : ad.add (k * 3 + 1) = ⟨(ad.add (k * 3)).block, (ad.add (k * 3)).off + 1, none⟩ := by rw [← addr_add_pos _ 1 (by decide), add_of_add]
    rw [← this]; exact c1
  · have : ad.add (k * 3 + 2) = ⟨(ad.add (k * 3)).block, (ad.add (k * 3)).off + 2, none⟩ := by rw [← addr_add_pos _ 2 (by decide), add_of_add]
    rw [← this]; exact c2
end
theorem rc_frA {R B : Nat} {w w1 : World} (h : Rc w1 R B ∧ Touch R (R + 1) w w1) (o : Obj) : Rc (w1.alloc o) R B ∧ Touch R (R + 1) w (w1.alloc o) := ⟨h.1.alloc o, h.2.alloc o⟩
theorem rc_frG {R B b e n z : Nat} {w w1 w2 : World} {v : Value} {xs : List Value} (h : Rc w1 R B ∧ Touch R (R + 1) w w1) (ho : w1.ownsRow b e z v n xs) (hb : w.heap.size ≤ b) (hR : R < w.heap.size) (hg : w1.grownBy w2 v.ownBlock) : Rc w2 R B ∧ Touch R (R + 1) w w2 :=
  ⟨h.1.touch (Touch.of_grown (lo := b) (hi := w1.heap.size) hg (fun g e => ho.lt g e)) (by omega), h.2.grown hg (fun g e => Or.inr (Nat.le_trans hb (ho.lt g e).1))⟩
theorem rc_frB {R B : Nat} {w w1 w2 : World} (h : Rc w1 R B ∧ Touch R (R + 1) w w1) (hb : Below w1.heap.size w1 w2) : Rc w2 R B ∧ Touch R (R + 1) w w2 := ⟨h.1.below hb, h.2.then_below hb⟩
def zeroEnt : Ent := ⟨⟨#[]⟩, .slice none 0 0, .slice none 0 0, [], []⟩
theorem zero5 : (madeCells (Value.agg #[.string ⟨#[]⟩, .slice none 0 0, .slice none 0 0]).cells (5 * 3)).toList = catCells (List.replicate 5 zeroEnt) := by first | kernel_rfl | decide +kernel | (simp [madeCells, catCells, zeroEnt, entCells, Value.cells, List.range, List.range.loop, List.replicate])
theorem cat_zero {w : World} {lo : Nat} {v : Value} (h : w.ownsRow lo 58 3 v 5 (madeCells (Value.agg #[.string ⟨#[]⟩, .slice none 0 0, .slice none 0 0]).cells (5 * 3)).toList) (hz : ∀ w lo, EntG w lo zeroEnt) : CatG w lo v (List.replicate 5 zeroEnt) :=
  ⟨by rw [zero5] at h; rw [List.length_replicate]; exact h, fun e he => by rw [List.eq_of_mem_replicate he]; exact hz w lo⟩
theorem zeroEnt_ok (w : World) (lo : Nat) : EntG w lo zeroEnt := ⟨⟨_, _, rfl, World.ownsRow_nil _ _ _ _, [], RowsV.nil _ _ _⟩, ⟨by simp [zeroEnt], by simp [zeroEnt], by simp [zeroEnt], by simp [zeroEnt]⟩, by show (⟨#[]⟩ : ByteArray).size ≤ 9; decide⟩
/-- What a call of l20Catalog leaves. -/
def CatPost (R B : Nat) (w : World) (e : Ending) (w' : World) : Prop := ∃ (v : Value) (es : List Ent), e = .returned v ∧ CatG w' w.heap.size v es ∧ es.length ≤ 5 ∧ Rc w' R B ∧ Touch R (R + 1) w w'
set_option maxHeartbeats 1600000 in
theorem cat_c (R B : Nat) (n : Int) (w : World) (h : Rc w R (B + 60000)) (hn : n ≤ 100000) :
    Calls Tryd.prog 68 #[.pointer (some ⟨R, 0, none⟩), .int .i64 n] w (CatPost R B w) := by
  obtain ⟨i0, hi0, hz0, hz1, hz2⟩ := info_parts infoNamed
  have hRw : R + 1 ≤ w.heap.size := h.lt
  go_enter Tryd.func68, Tryd.ntmps68
  go_wp2_with fail
  refine (table_c R (B + 45000) 0 0 _ (h.less (by omega)) (by decide) (by decide)).mono ?_
  rintro e w1 ⟨nv, rv, n0, r0, rfl, ho0, hd0, rc1, t1⟩
  obtain ⟨A0, c0, B0, d0, rfl, rfl⟩ := ho0.form
  go_wp2_with fail
  refine (table_c R (B + 30000) 1 0 _ (rc1.less (by omega)) (by decide) (by decide)).mono ?_
  rintro e w2 ⟨nv, rv, n1, r1, rfl, ho1, hd1, rc2, t2⟩
  obtain ⟨A1, c1, B1, d1, rfl, rfl⟩ := ho1.form
  have ho0' := ho0.touchR t2 hRw
  have fr2 := t1.trans t2
  have hs1 := t1.size
  have hs2 := fr2.size
  go_wp2_with fail
  obtain ⟨G, hG⟩ : ∃ G, G = w2.heap.size := ⟨_, rfl⟩
  obtain ⟨w3, hw3⟩ : ∃ w3, w3 = w2.alloc (.cells #[.string ⟨#[111, 110, 101]⟩, .slice A0 n0.length c0, .slice B0 r0.length d0, .string ⟨#[116, 119, 111]⟩, .slice A1 n1.length c1, .slice B1 r1.length d1] 58) := ⟨_, rfl⟩
  have b3 : Below w2.heap.size w2 w3 := by rw [hw3]; exact (Below.refl _ _).alloc (Nat.le_refl _) _
  have k3 : Blk w3 G 58 #[.string ⟨#[111, 110, 101]⟩, .slice A0 n0.length c0, .slice B0 r0.length d0, .string ⟨#[116, 119, 111]⟩, .slice A1 n1.length c1, .slice B1 r1.length d1] := by rw [hw3, hG]; exact Blk.new _ _ _
  have E0 : EntG w3 w.heap.size ⟨⟨#[111, 110, 101]⟩, .slice A0 n0.length c0, .slice B0 r0.length d0, n0, r0⟩ := ⟨ho0'.below b3, hd0, by show (⟨#[111, 110, 101]⟩ : ByteArray).size ≤ 9; decide⟩
  have E1 : EntG w3 w.heap.size ⟨⟨#[116, 119, 111]⟩, .slice A1 n1.length c1, .slice B1 r1.length d1, n1, r1⟩ := ⟨(ho1.below b3).low hs1, hd1, by show (⟨#[116, 119, 111]⟩ : ByteArray).size ≤ 9; decide⟩
  have C3 : CatG w3 w.heap.size (.slice (some ⟨G, 0, none⟩) 2 2) [⟨⟨#[111, 110, 101]⟩, .slice A0 n0.length c0, .slice B0 r0.length d0, n0, r0⟩, ⟨⟨#[116, 119, 111]⟩, .slice A1 n1.length c1, .slice B1 r1.length d1, n1, r1⟩] := by
    refine ⟨?_, fun e he => ?_⟩
    · rw [hw3, hG]; exact own_lit3 w2 w.heap.size 2 58 _ hs2 rfl (by unfold maxLen; omega)
    · simp at he
      rcases he with rfl | rfl
      · exact E0
      · exact E1
  have rc3 : Rc w3 R (B + 30000) := rc2.below b3
  have fr3 : Touch R (R + 1) w w3 := fr2.then_below b3
  rw [← hw3, ← hG]
  have x2 := k3.cell 2
  have x5 := k3.cell 5
  have f5 := k3.frozen 5
  simp at x2 x5
  obtain ⟨m0, hm0⟩ : ∃ m0, r0.length = m0 := ⟨_, rfl⟩
  obtain ⟨m1, hm1⟩ : ∃ m1, r1.length = m1 := ⟨_, rfl⟩
  have hm0' : m0 ≤ 17 := by have := hd0.r1; omega
  have hm1' : m1 ≤ 17 := by have := hd1.r1; omega
  rw [hm0] at x2
  rw [hm1] at x5
  have hp : m0 * m1 ≤ 17 * 17 := Nat.mul_le_mul hm0' hm1'
  obtain ⟨p, hpd⟩ : ∃ p, p = m0 * m1 := ⟨_, rfl⟩
  have ep : (m0 : Int) * (m1 : Int) = (p : Int) := by rw [hpd]; simp
  have ew : IntKind.i64.wrap (p : Int) = (p : Int) := IntWalk.i64_in _ (by omega)
  have ew2 : IntKind.i64.wrap ((m0 : Int) * (m1 : Int)) = (p : Int) := by rw [ep]; exact ew
  have hd1' : r1.length ≤ d1 := by
    obtain ⟨v0, v1, e, _, vs, hv⟩ := ho1
    simp only [Value.agg.injEq] at e
    have e1 := congrArg (fun a => a[1]?) e
    simp at e1
    subst e1
    obtain ⟨A', c', e', h', _⟩ := hv.form
    simp only [Value.slice.injEq] at e'
    obtain ⟨_, _, rfl⟩ := e'
    exact h'
  have big : 40 < p → 3 ≤ m1 := by
    intro hb
    rcases Nat.lt_or_ge m1 3 with h | h
    · have : m0 * m1 ≤ 17 * 2 := Nat.mul_le_mul hm0' (by omega)
      omega
    · exact h
  have HC := Lib.hid C3
  have HR := Lib.hid (And.intro rc3 fr3)
  have HM1 := Lib.hid hm1
  have HE := Lib.hid (And.intro E0 E1)
  have HD1 := Lib.hid hd1'
  have HBG := Lib.hid big
  clear hw3 hG b3 k3 E0 E1 C3 rc3 fr3 hm0 hm1 hp hpd ep ho0 ho0' ho1 rc1 rc2 t1 t2 fr2 hd0 hd1 hd1' big h
  go_quiet (fail)
  have bq : Below w3.heap.size w3 (w3.drewN nq) := below_drewN (Below.refl _ _) nq
  have HC := Lib.hid (HC.out.below bq)
  have HR := Lib.hid (And.intro (HR.out.1.below bq) (HR.out.2.then_below bq))
  have HE := Lib.hid (And.intro (HE.out.1.below bq) (HE.out.2.below bq))
  have x5 := below_keep bq x5
  have f5 : (w3.drewN nq).frozen? ⟨G, 5, none⟩ = false := f5
  clear bq x2
  generalize w3.drewN nq = w3 at HC HR HE x5 f5 ⊢
  go_upto_if 26 with (fail)
  go_cut [] (fun w' => ∃ es : List Ent, Hid (CatG w' w.heap.size (.slice (some ⟨G, 0, none⟩) 2 2) es) ∧ Hid (es.length = 2) ∧ Hid (Rc w' R (B + 30000)) ∧ Hid (Touch R (R + 1) w w') ∧ w.heap.size ≤ G)
  case rest =>
    obtain ⟨es, hC, hl, hrc, hfr, hG⟩ := hcut
    clear HC HR HM1 HE HD1 HBG x5 f5 ew ew2
    go_wp2_with fail
    refine (pick_c R (B + 29990) 6 _ (hrc.out.less (by omega)) (by decide)).mono ?_
    rintro e w4 ⟨x, rfl, hx, rc4, t4, -⟩
    have HC4 := Lib.hid (hC.out.touch t4 hRw)
    have HR4 := Lib.hid (And.intro rc4 (hfr.out.trans t4))
    clear hC hrc hfr rc4 t4
    go_upto_if 39 with (fail)
    go_cut [5] (fun v5 w' => ∃ (k : Nat) (es : List Ent), v5 = .slice (some ⟨G, 0, none⟩) k 2 ∧ k ≤ 2 ∧ Hid (CatG w' w.heap.size (.slice (some ⟨G, 0, none⟩) k 2) es) ∧ Hid (es.length = k) ∧ Hid (Rc w' R (B + 29980)) ∧ Hid (Touch R (R + 1) w w'))
    case rest =>
      obtain ⟨k, es, rfl, hk, hC, hl, hrc, hfr⟩ := hcut
      clear HC4 HR4
      go_wp2_with fail
      refine (odd_c R (B + 29970) n _ (hrc.out.less (by omega)) hn).mono ?_
      rintro e w5 ⟨q, rfl, rc5, t5, -⟩
      have HC5 := Lib.hid (hC.out.touch t5 hRw)
      have HR5 := Lib.hid (And.intro rc5 (hfr.out.trans t5))
      clear hC hrc hfr rc5 t5
      go_upto_if 46 with (fail)
      go_cut [5] (fun v5 w' => ∃ (es : List Ent), Hid (CatG w' w.heap.size v5 es) ∧ Hid (es.length ≤ 5) ∧ Hid (Rc w' R B) ∧ Hid (Touch R (R + 1) w w'))
      case rest =>
        obtain ⟨es, hC, hl, hrc, hfr⟩ := hcut
        go_wp2_with fail
        go_ret
        exact ⟨_, es, rfl, hC.out, hl.out, hrc.out, hfr.out⟩
      case first =>
        cases q
        · go_wp2_with fail
          go_meet
          case rel => exact ⟨_, HC5.out, by unfold Hid; have := hl.out; omega, HR5.out.1.less (by omega), HR5.out.2⟩
        · go_wp2_with fail
          refine (pick_c R (B + 29960) 4 _ (HR5.out.1.less (by omega)) (by decide)).mono ?_
          rintro e w6 ⟨x, rfl, hx, rc6, t6, -⟩
          have HC6 := HC5.out.touch t6 hRw
          have fr6 := HR5.out.2.trans t6
          have hs6 := fr6.size
          clear HC5 HR5 t6
          rcases (show x = 0 ∨ x = 1 ∨ x = 2 ∨ x = 3 by omega) with rfl | rfl | rfl | rfl
          · go_wp2_with fail
            refine (table_c R (B + 15500) 0 0 _ (rc6.less (by omega)) (by decide) (by decide)).mono ?_
            rintro e w7 ⟨nv, rv, n2, r2, rfl, ho2, hd2, rc7, t7⟩
            obtain ⟨A2, c2, B2, d2, rfl, rfl⟩ := ho2.form
            have HC7 := HC6.touch t7 hRw
            have hs7 := t7.size
            go_wp2_with fail
            refine (table_c R (B + 1000) 0 0 _ (rc7.less (by omega)) (by decide) (by decide)).mono ?_
            rintro e w8 ⟨nv, rv, n3, r3, rfl, ho3, hd3, rc8, t8⟩
            obtain ⟨A3, c3, B3, d3, rfl, rfl⟩ := ho3.form
            have HCz := Lib.hid (HC7.touch t8 hRw)
            have hs8 := t8.size
            have E0 : EntG w8 w.heap.size ⟨⟨#[111, 110, 101]⟩, .slice A2 n2.length c2, .slice B2 r2.length d2, n2, r2⟩ := ⟨(ho2.touchR t8 (by omega)).low hs6, hd2, by show (⟨#[111, 110, 101]⟩ : ByteArray).size ≤ 9; decide⟩
            have E1 : EntG w8 w.heap.size ⟨⟨#[111, 110, 101]⟩, .slice A3 n3.length c3, .slice B3 r3.length d3, n3, r3⟩ := ⟨ho3.low (by omega), hd3, by show (⟨#[111, 110, 101]⟩ : ByteArray).size ≤ 9; decide⟩
            have HE := Lib.hid (And.intro E0 E1)
            have HRz := Lib.hid (And.intro rc8 ((fr6.trans t7).trans t8))
            have oC : w8.ownsRow w.heap.size 58 3 (.slice (some ⟨G, 0, none⟩) k 2) k (catCells es) := by have := HCz.out.own; rw [hl.out] at this; exact this
            have hsz : w.heap.size ≤ w8.heap.size := by omega
            clear E0 E1 ho2 ho3 hd2 hd3 rc6 rc7 rc8 t7 t8 HC6 HC7 fr6
            go_wp2_with (first
              | (at_builtin; refine wpList_append_lies _ rfl _ _ 54 rfl w.heap.size 58 i0 _ 3 64 Tryd.underlying54 hi0 hz0 hz1 hz2 rfl (by decide) _ _ _ rfl (oC.alloc _) ⟨w8.heap.size, 0, none⟩ 2 2 [.string ⟨#[111, 110, 101]⟩, .slice A2 n2.length c2, .slice B2 r2.length d2, .string ⟨#[111, 110, 101]⟩, .slice A3 n3.length c3, .slice B3 r3.length d3] rfl rfl (cells_new _ _ _) (oneCells rfl) (by omega) (by unfold maxLen; omega) (by omega) (by simp; omega) _ rfl ?_; intro gA cA wA ho hg _ _; have PG := Lib.hid ((HCz.out.alloc _).push (es' := [⟨⟨#[111, 110, 101]⟩, .slice A2 n2.length c2, .slice B2 r2.length d2, n2, r2⟩, ⟨⟨#[111, 110, 101]⟩, .slice A3 n3.length c3, .slice B3 r3.length d3, n3, r3⟩]) (fun e he => by simp at he; rcases he with rfl | rfl; (· exact HE.out.1.below ((Below.refl _ _).alloc (Nat.le_refl _) _)); (· exact HE.out.2.below ((Below.refl _ _).alloc (Nat.le_refl _) _))) hg (by rw [hl.out]; exact ho)); have RG := Lib.hid (rc_frG (rc_frA HRz.out _) (oC.alloc _) (Nat.le_refl _) (by omega) hg); clear ho hg))
            go_meet
            case rel => exact ⟨_, PG.out, by unfold Hid; rw [List.length_append, hl.out]; simp; omega, RG.out.1.less (by omega), RG.out.2⟩
          · go_wp2_with fail
            refine (name_c R (B + 15500) 1 _ (rc6.less (by omega)) (by decide)).mono ?_
            rintro e w7 ⟨s, rfl, hsn, rc7, t7⟩
            have HC7 := HC6.touch t7 hRw
            have hs7 := t7.size
            go_wp2_with fail
            refine (table_c R (B + 1000) 0 0 _ (rc7.less (by omega)) (by decide) (by decide)).mono ?_
            rintro e w8 ⟨nv, rv, n3, r3, rfl, ho3, hd3, rc8, t8⟩
            obtain ⟨A3, c3, B3, d3, rfl, rfl⟩ := ho3.form
            have HCz := Lib.hid (HC7.touch t8 hRw)
            have hs8 := t8.size
            have HE := Lib.hid (show EntG w8 w.heap.size ⟨s, .slice A3 n3.length c3, .slice B3 r3.length d3, n3, r3⟩ from ⟨ho3.low (by omega), hd3, hsn⟩)
            have HRz := Lib.hid (And.intro rc8 ((fr6.trans t7).trans t8))
            have oC : w8.ownsRow w.heap.size 58 3 (.slice (some ⟨G, 0, none⟩) k 2) k (catCells es) := by have := HCz.out.own; rw [hl.out] at this; exact this
            have hsz : w.heap.size ≤ w8.heap.size := by omega
            clear ho3 hd3 rc6 rc7 rc8 t7 t8 HC6 HC7 fr6 hsn
            go_wp2_with (first
              | (at_builtin; refine wpList_append_lies _ rfl _ _ 54 rfl w.heap.size 58 i0 _ 3 64 Tryd.underlying54 hi0 hz0 hz1 hz2 rfl (by decide) _ _ _ rfl (oC.alloc _) ⟨w8.heap.size, 0, none⟩ 1 1 [.string s, .slice A3 n3.length c3, .slice B3 r3.length d3] rfl rfl (cells_new _ _ _) (oneCells rfl) (by omega) (by unfold maxLen; omega) (by omega) (by simp; omega) _ rfl ?_; intro gA cA wA ho hg _ _; have PG := Lib.hid ((HCz.out.alloc _).push (es' := [⟨s, .slice A3 n3.length c3, .slice B3 r3.length d3, n3, r3⟩]) (fun e he => by simp at he; subst he; exact HE.out.below ((Below.refl _ _).alloc (Nat.le_refl _) _)) hg (by rw [hl.out]; exact ho)); have RG := Lib.hid (rc_frG (rc_frA HRz.out _) (oC.alloc _) (Nat.le_refl _) (by omega) hg); clear ho hg))
            go_meet
            case rel => exact ⟨_, PG.out, by unfold Hid; rw [List.length_append, hl.out]; simp; omega, RG.out.1.less (by omega), RG.out.2⟩
          · go_wp2_with fail
            refine (table_c R (B + 1000) 0 1 _ (rc6.less (by omega)) (by decide) (by decide)).mono ?_
            rintro e w8 ⟨nv, rv, n3, r3, rfl, ho3, hd3, rc8, t8⟩
            obtain ⟨A3, c3, B3, d3, rfl, rfl⟩ := ho3.form
            have HCz := Lib.hid (HC6.touch t8 hRw)
            have hs8 := t8.size
            have HE := Lib.hid (show EntG w8 w.heap.size ⟨⟨#[120]⟩, .slice A3 n3.length c3, .slice B3 r3.length d3, n3, r3⟩ from ⟨ho3.low (by omega), hd3, by show (⟨#[120]⟩ : ByteArray).size ≤ 9; decide⟩)
            have HRz := Lib.hid (And.intro rc8 (fr6.trans t8))
            have oC : w8.ownsRow w.heap.size 58 3 (.slice (some ⟨G, 0, none⟩) k 2) k (catCells es) := by have := HCz.out.own; rw [hl.out] at this; exact this
            have hsz : w.heap.size ≤ w8.heap.size := by omega
            clear ho3 hd3 rc6 rc8 t8 HC6 fr6
            go_wp2_with (first
              | (at_builtin; refine wpList_append_lies _ rfl _ _ 54 rfl w.heap.size 58 i0 _ 3 64 Tryd.underlying54 hi0 hz0 hz1 hz2 rfl (by decide) _ _ _ rfl (oC.alloc _) ⟨w8.heap.size, 0, none⟩ 1 1 [.string ⟨#[120]⟩, .slice A3 n3.length c3, .slice B3 r3.length d3] rfl rfl (cells_new _ _ _) (oneCells rfl) (by omega) (by unfold maxLen; omega) (by omega) (by simp; omega) _ rfl ?_; intro gA cA wA ho hg _ _; have PG := Lib.hid ((HCz.out.alloc _).push (es' := [⟨⟨#[120]⟩, .slice A3 n3.length c3, .slice B3 r3.length d3, n3, r3⟩]) (fun e he => by simp at he; subst he; exact HE.out.below ((Below.refl _ _).alloc (Nat.le_refl _) _)) hg (by rw [hl.out]; exact ho)); have RG := Lib.hid (rc_frG (rc_frA HRz.out _) (oC.alloc _) (Nat.le_refl _) (by omega) hg); clear ho hg))
            go_meet
            case rel => exact ⟨_, PG.out, by unfold Hid; rw [List.length_append, hl.out]; simp; omega, RG.out.1.less (by omega), RG.out.2⟩
          · have HRz := Lib.hid (And.intro rc6 fr6)
            clear HC6 rc6 fr6
            go_wp2_with (at_make; refine wpList_make_full _ rfl _ _ 54 rfl w.heap.size 58 i0 _ 3 Tryd.underlying54 hi0 hz0 hz1 .i64 .i64 _ _ 5 rfl rfl rfl rfl (by rw [hz2]; omega) (by unfold maxLen; omega) hs6 ?_; intro wM hM hgM; have hb := grown_none_below hgM; have PG := Lib.hid (cat_zero hM zeroEnt_ok); have RG := Lib.hid (rc_frB HRz.out hb); clear hM hgM hb)
            go_meet
            case rel => exact ⟨_, PG.out, by unfold Hid; simp, RG.out.1.less (by omega), RG.out.2⟩
    case first =>
      by_cases hx0 : x = 0
      · subst hx0
        go_wp2_with fail
        refine (pick_c R (B + 29980) 2 _ (HR4.out.1.less (by omega)) (by decide)).mono ?_
        rintro e w5 ⟨y, rfl, hy, rc5, t5, -⟩
        have hy2 : (y : Int) ≤ 2 := by omega
        have hy0 : (0 : Int) ≤ (y : Int) := Int.natCast_nonneg _
        have HC5 := Lib.hid ((HC4.out.touch t5 hRw).take (k := y) hl.out (by omega) (by simp))
        have HR5 := Lib.hid (And.intro rc5 (HR4.out.2.trans t5))
        clear rc5 t5 HC4 HR4
        go_wp2_with fail
        go_meet
        case rel => exact ⟨y, _, rfl, by omega, HC5.out, by unfold Hid; rw [List.length_take, hl.out]; omega, HR5.out.1, HR5.out.2⟩
      · have hx1 : ((x : Int) == 0) = false := by simp; omega
        go_wp2_with fail
        go_meet
        case rel => exact ⟨2, _, rfl, by omega, HC4.out, hl.out, HR4.out.1.less (by omega), HR4.out.2⟩
  case first =>
    have hGl := Lib.hid ((HC.out.own.lt G rfl).1)
    by_cases hbig : 40 < p
    · have hm3 := HBG.out hbig
      have hd3 : (2 : Int) ≤ (d1 : Int) := by have := HD1.out; have := HM1.out; omega
      have hbi : (40 : Int) < (p : Int) := by omega
      go_wp2_with fail
      go_meet
      case rel =>
        have hst := HC.out.own.stored 5 (.slice B1 2 d1)
        refine ⟨[⟨⟨#[111, 110, 101]⟩, .slice A0 n0.length c0, .slice B0 r0.length d0, n0, r0⟩, ⟨⟨#[116, 119, 111]⟩, .slice A1 n1.length c1, .slice B1 2 d1, n1, r1.take 2⟩], ⟨hst.1, fun e he => ?_⟩, rfl, ?_, ?_, hGl.out⟩
        · simp at he
          rcases he with rfl | rfl
          · exact HE.out.1.grown HC.out.own hst.2
          · have g := HE.out.2.grown HC.out.own hst.2
            obtain ⟨v0, v1, e, g0, vs, hv⟩ := g.tab
            simp only [Value.agg.injEq] at e
            have e0 := congrArg (fun a => a[0]?) e
            have e1 := congrArg (fun a => a[1]?) e
            simp at e0 e1
            subst e0 e1
            have hB1 : B1 ≠ none := by
              intro e
              obtain ⟨A', c', e', _, _, h3⟩ := hv.form
              simp only [Value.slice.injEq] at e'
              have := (h3 (e'.1 ▸ e)).2
              have := HM1.out
              simp only at *
              omega
            have hv2 := hv.take (k := 2) rfl (by show 2 ≤ r1.length; have := HM1.out; omega) hB1
            exact ⟨⟨_, _, rfl, g0, _, hv2⟩, ⟨g.drawn.n1, g.drawn.n2, by show (r1.take 2).length ≤ 17; rw [List.length_take]; omega, fun r hr => g.drawn.r2 r (List.mem_of_mem_take hr)⟩, g.size⟩
        · exact HR.out.1.touch (lo := G) (hi := G + 1) ((Touch.refl _ _ _).setCell (p := ⟨G, 5, none⟩) (Or.inl ⟨Nat.le_refl _, Nat.lt_succ_self _⟩) _) (by have := hGl.out; omega)
        · exact HR.out.2.setCell (p := ⟨G, 5, none⟩) (Or.inr hGl.out) _
    · have hbi : ¬ (40 : Int) < (p : Int) := by omega
      go_wp2_with fail
      go_meet
      case rel => exact ⟨_, HC.out, rfl, HR.out.1, HR.out.2, hGl.out⟩
end Go.Proofs.YtcgmcikceohdoaaDoor
