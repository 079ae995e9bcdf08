/- spec.l20Table. -/
import Derived.Test.YtijpdekcdejfmaaDoorDrawRows
import Derived.Test.YtijpdekcdejfmaaDoorTypedA
import Derived.Test.YtijpdekcdejfmaaDoorDrawName
import Derived.Deep.DeepCutAuto
namespace Go.Proofs.YtijpdekcdejfmaaDoor
open Go Go.RowKit
set_option maxRecDepth 100000

theorem own_lit (w : World) (base : Nat) (e : TypeId) (l : List Value) (h : base ≤ w.heap.size) (hm : l.length ≤ maxLen) : (w.alloc (.cells l.toArray e)).ownsRow base e 1 (.slice (some ⟨w.heap.size, 0, none⟩) l.length l.length) l.length l :=
  ⟨by simp, .inr ⟨w.heap.size, l.length, l.toArray, rfl, h, heap_alloc_new w _, Nat.le_refl _, hm, by simp, by simp⟩⟩
theorem act_lit {a : Act} (n : Nat) (hs : a.tmps.size = n) (hd : a.defers = []) : a = ⟨((List.range n).map fun i => a.tmps.getD i undef).toArray, []⟩ := by
  obtain ⟨tm, df⟩ := a
  obtain rfl : df = [] := hd
  have hs : tm.size = n := hs
  congr 1
  apply Array.ext
  · simp [hs]
  · intro i h1 h2
    simp [Array.getD, h1]
theorem own_ne {w : World} {b b' n n' z z' : Nat} {e e' : TypeId} {v v' : Value} {xs xs' : List Value} (h : w.ownsRow b e z v n xs) (h' : w.ownsRow b' e' z' v' n' xs') (hne : e ≠ e') : v.ownBlock = none ∨ v.ownBlock ≠ v'.ownBlock := by
  rcases h'.2 with ⟨rfl, _⟩ | ⟨g, cap, cur, rfl, _, hh, _⟩
  · cases hv : v.ownBlock with
    | none => exact .inl rfl
    | some g => exact .inr (by simp [Value.ownBlock])
  · exact .inr (own_blk_ne h hh hne)

/-- A table under construction: its cell pair at T, its names and rows of the call's own. -/
structure TabG (w : World) (lo T : Nat) (cn cr nv rv : Value) (names : List ByteArray) (rows : List (List Int)) : Prop where
  blk : Blk w T 26 #[cn, cr]
  res : Blk w lo 26 #[.slice none 0 0, .slice none 0 0]
  own : w.ownsRow lo 9 1 nv names.length (stCells names)
  rows : ∃ vs, RowsV w lo w.heap.size rv vs rows
abbrev TabS (w : World) (lo T : Nat) (nv rv : Value) (names : List ByteArray) (rows : List (List Int)) : Prop := TabG w lo T nv rv nv rv names rows
section
variable {w w' : World} {lo T : Nat} {cn cr nv rv : Value} {names : List ByteArray} {rows : List (List Int)}
theorem TabG.touch {R : Nat} (h : TabG w lo T cn cr nv rv names rows) (ht : Touch R (R + 1) w w') (hl : R < lo) (hT : R < T) : TabG w' lo T cn cr nv rv names rows := by
  obtain ⟨h1, h0, h2, vs, h3⟩ := h
  exact ⟨ht.blk h1 (by omega), ht.blk h0 (by omega), ht.own_above h2 (by omega), vs, (h3.touch ht (by omega)).wide ht.size⟩
theorem TabG.below (h : TabG w lo T cn cr nv rv names rows) (hb : Below w.heap.size w w') : TabG w' lo T cn cr nv rv names rows := by
  obtain ⟨h1, h0, h2, vs, h3⟩ := h
  exact ⟨h1.below hb h1.lt, h0.below hb h0.lt, own_below h2 hb, vs, (h3.below hb).wide hb.size⟩
theorem TabG.alloc (h : TabG w lo T cn cr nv rv names rows) (o : Obj) : TabG (w.alloc o) lo T cn cr nv rv names rows := h.below ((Below.refl _ _).alloc (Nat.le_refl _) _)
end

theorem TabG.drew {w : World} {lo T : Nat} {cn cr nv rv : Value} {names : List ByteArray} {rows : List (List Int)} (h : TabG w lo T cn cr nv rv names rows) : TabG w.drew lo T cn cr nv rv names rows := by
  obtain ⟨h1, h0, h2, vs, h3⟩ := h
  exact ⟨h1.drew, h0.drew, h2.drew, vs, h3.drew⟩
section
variable {w w' : World} {lo hi T g : Nat} {nv rv v : Value} {names : List ByteArray} {rows : List (List Int)} {vs : List Value} {cs : Array Value}
/-- Writes to one block of a type that no row bears. -/
theorem RowsV.off_blk {t : TypeId} (h : RowsV w lo hi v vs rows) (hb : Blk w g t cs) (h1 : 40 ≠ t) (h2 : 3 ≠ t) (hk : ∀ k, k < w.heap.size → k ≠ g → w'.heap[k]? = w.heap[k]?) : RowsV w' lo hi v vs rows :=
  ⟨h.len, own_block h.own (fun g' e => hk g' (h.own.lt g' e).2 (fun e' => own_blk_ne h.own hb h1 (by rw [e, e']))), h.top,
    fun k u r hu hr => own_block (h.row k u r hu hr) (fun g' e => hk g' ((h.row k u r hu hr).lt g' e).2 (fun e' => own_blk_ne (h.row k u r hu hr) hb h2 (by rw [e, e']))), h.under, h.off, h.apart⟩
theorem own_off_blk {t e : TypeId} {base n size : Nat} {xs : List Value} (h : w.ownsRow base e size v n xs) (hb : Blk w g t cs) (h1 : e ≠ t) (hk : ∀ k, k < w.heap.size → k ≠ g → w'.heap[k]? = w.heap[k]?) : w'.ownsRow base e size v n xs :=
  own_block h (fun g' e => hk g' (h.lt g' e).2 (fun e' => own_blk_ne h hb h1 (by rw [e, e'])))
theorem TabG.setN {cn cr : Value} (h : TabG w lo T cn cr nv rv names rows) (hT : lo < T) (u : Value) : TabG (w.setCell ⟨T, 0, none⟩ u) lo T u cr nv rv names rows := by
  obtain ⟨h1, h0, h2, vs, h3⟩ := h
  have hk : ∀ k, k < w.heap.size → k ≠ T → (w.setCell ⟨T, 0, none⟩ u).heap[k]? = w.heap[k]? := fun k _ hk => Below.heap_setCell _ _ _ _ hk
  exact ⟨h1.set_ 0 u, h0.far (by show lo ≠ T; omega) u, own_off_blk h2 h1 (by decide) hk, vs, (h3.off_blk h1 (by decide) (by decide) hk).wide (by simp [World.setCell])⟩
theorem TabG.setR {cn cr : Value} (h : TabG w lo T cn cr nv rv names rows) (hT : lo < T) (u : Value) : TabG (w.setCell ⟨T, 1, none⟩ u) lo T cn u nv rv names rows := by
  obtain ⟨h1, h0, h2, vs, h3⟩ := h
  have hk : ∀ k, k < w.heap.size → k ≠ T → (w.setCell ⟨T, 1, none⟩ u).heap[k]? = w.heap[k]? := fun k _ hk => Below.heap_setCell _ _ _ _ hk
  exact ⟨h1.set_ 1 u, h0.far (by show lo ≠ T; omega) u, own_off_blk h2 h1 (by decide) hk, vs, (h3.off_blk h1 (by decide) (by decide) hk).wide (by simp [World.setCell])⟩
/-- Other names in their place. -/
theorem TabG.asN {cn cr nv' : Value} {names' : List ByteArray} (h : TabG w lo T cn cr nv rv names rows) (ho : w.ownsRow lo 9 1 nv' names'.length (stCells names')) : TabG w lo T cn cr nv' rv names' rows := ⟨h.blk, h.res, ho, h.rows⟩
theorem TabG.asR {cn cr rv' : Value} {rows' : List (List Int)} (h : TabG w lo T cn cr nv rv names rows) (ho : ∃ vs, RowsV w lo w.heap.size rv' vs rows') : TabG w lo T cn cr nv rv' names rows' := ⟨h.blk, h.res, h.own, ho⟩
/-- The names' own block was written or left. -/
theorem TabG.grewN {cn cr nv' : Value} {names' : List ByteArray} (h : TabG w lo T cn cr nv rv names rows) (hg : w.grownBy w' nv.ownBlock) (ho : w'.ownsRow lo 9 1 nv' names'.length (stCells names')) : TabG w' lo T cn cr nv' rv names' rows := by
  obtain ⟨h1, h0, h2, vs, h3⟩ := h
  refine ⟨h1.grown hg (fun e => own_blk_ne h2 h1 (by decide) e.symm), h0.grown hg (fun e => own_blk_ne h2 h0 (by decide) e.symm), ho, vs, ?_⟩
  have hk : ∀ {e b n z : Nat} {x : Value} {xs : List Value}, w.ownsRow b e z x n xs → e ≠ 9 → ∀ g, x.ownBlock = some g → w'.heap[g]? = w.heap[g]? := fun hx he g hg' => hg.block g (hx.lt g hg').2 (fun e' => by
    rcases own_ne hx h2 he with h | h
    · rw [h] at hg'; cases hg'
    · exact h (by rw [hg', e']))
  exact ⟨h3.len, own_block h3.own (hk h3.own (by decide)), fun g e => Nat.lt_of_lt_of_le (h3.top g e) hg.size, fun k u r hu hr => own_block (h3.row k u r hu hr) (hk (h3.row k u r hu hr) (by decide)), fun k u g hu e => Nat.lt_of_lt_of_le (h3.under k u g hu e) hg.size, h3.off, h3.apart⟩
theorem TabG.grewR {cn cr rv' x : Value} {b e n z : Nat} {xs : List Value} {rows' : List (List Int)} (h : TabG w lo T cn cr nv rv names rows) (hx : w.ownsRow b e z x n xs) (h1' : e ≠ 9) (h2' : e ≠ 26) (hg : w.grownBy w' x.ownBlock) (ho : ∃ vs, RowsV w' lo w'.heap.size rv' vs rows') : TabG w' lo T cn cr nv rv' names rows' := by
  obtain ⟨h1, h0, h2, h3⟩ := h
  refine ⟨h1.grown hg (fun e => own_blk_ne hx h1 h2' e.symm), h0.grown hg (fun e => own_blk_ne hx h0 h2' e.symm), ?_, ho⟩
  exact own_block h2 (fun g hg' => hg.block g (h2.lt g hg').2 (fun e' => by
    rcases own_ne h2 hx (fun e => h1' e.symm) with h | h
    · rw [h] at hg'; cases hg'
    · exact h (by rw [hg', e'])))
/-- One row more, behind an append. -/
theorem TabG.pushRow {cn cr u v' : Value} {r : List Int} (h : TabG w lo T cn cr nv rv names rows) (hv : RowsV w lo hi rv vs rows) (hhi : hi ≤ w.heap.size) (hu : w.ownsRow lo 3 1 u r.length (inCells r)) (hg : ∀ g, u.ownBlock = some g → hi ≤ g)
    (hgrow : w.grownBy w' rv.ownBlock) (hown : w'.ownsRow lo 40 1 v' (rows.length + 1) (vs ++ [u])) (hat : v'.ownBlock = rv.ownBlock ∨ v'.ownBlock = some w.heap.size) : TabG w' lo T cn cr nv v' names (rows ++ [r]) := by
  refine h.grewR hv.own (by decide) (by decide) hgrow ⟨_, hv.push hu hgrow hown hat (own_ne hu hv.own (by decide)) (fun k u' hk => ?_) (Nat.le_trans hhi hgrow.size) (fun g e => (hown.lt g e).2) (fun g e => Nat.lt_of_lt_of_le (hu.lt g e).2 hgrow.size)⟩
  cases hb : u'.ownBlock with
  | none => exact .inl rfl
  | some g' =>
    refine .inr (fun e => ?_)
    have h1 := hv.under k u' g' hk hb
    have h2 := hg g' e.symm
    omega
/-- The end: the pair is stored as the result. -/
theorem TabG.done (h : TabS w lo T nv rv names rows) : TabO ((w.setCell ⟨lo, 0, none⟩ nv).setCell ⟨lo, 1, none⟩ rv) lo (.agg #[nv, rv]) names rows ∧ ((w.setCell ⟨lo, 0, none⟩ nv).setCell ⟨lo, 1, none⟩ rv).cell? ⟨lo, 0, none⟩ = some nv ∧ ((w.setCell ⟨lo, 0, none⟩ nv).setCell ⟨lo, 1, none⟩ rv).cell? ⟨lo, 1, none⟩ = some rv ∧
    Touch lo (lo + 1) w ((w.setCell ⟨lo, 0, none⟩ nv).setCell ⟨lo, 1, none⟩ rv) := by
  obtain ⟨h1, h0, h2, vs, h3⟩ := h
  have hk : ∀ k, k < w.heap.size → k ≠ lo → ((w.setCell ⟨lo, 0, none⟩ nv).setCell ⟨lo, 1, none⟩ rv).heap[k]? = w.heap[k]? := fun k _ hk => (Below.heap_setCell _ ⟨lo, 1, none⟩ rv k hk).trans (Below.heap_setCell _ ⟨lo, 0, none⟩ nv k hk)
  have hb := (h0.set_ 0 nv).set_ 1 rv
  refine ⟨⟨nv, rv, rfl, own_off_blk h2 h0 (by decide) hk, vs, ?_⟩, by simpa using hb.cell 0, by simpa using hb.cell 1, ((Touch.refl _ _ _).setCell (p := ⟨lo, 0, none⟩) (Or.inl ⟨Nat.le_refl _, Nat.lt_succ_self _⟩) _).setCell (p := ⟨lo, 1, none⟩) (Or.inl ⟨Nat.le_refl _, Nat.lt_succ_self _⟩) _⟩
  have := h3.off_blk h0 (by decide) (by decide) hk
  simpa [World.setCell] using this
end
structure DrawnT (names : List ByteArray) (rows : List (List Int)) : Prop where
  n1 : names.length ≤ 4
  n2 : ∀ x ∈ names, x.size ≤ 9
  r1 : rows.length ≤ 17
  r2 : ∀ r ∈ rows, r.length ≤ 7
/-- What a call of l20Table leaves. -/
def TabPost (R B : Nat) (w : World) (e : Ending) (w' : World) : Prop := ∃ (nv rv : Value) (names : List ByteArray) (rows : List (List Int)), e = .returned (.agg #[nv, rv]) ∧ TabO w' w.heap.size (.agg #[nv, rv]) names rows ∧ DrawnT names rows ∧ Rc w' R B ∧ Touch R (R + 1) w w'
theorem TabG.post {R B T : Nat} {w w4 : World} {nv rv : Value} {names : List ByteArray} {rows : List (List Int)} (h : TabS w4 w.heap.size T nv rv names rows) (hd : DrawnT names rows) (rc : Rc w4 R B) (fr : Touch R (R + 1) w w4) (hR : R + 1 ≤ w.heap.size) :
    TabPost R B w (.returned (.agg #[nv, rv])) ((w4.setCell ⟨w.heap.size, 0, none⟩ nv).setCell ⟨w.heap.size, 1, none⟩ rv) := by
  have D := h.done
  refine ⟨nv, rv, names, rows, rfl, D.1, hd, rc.touch D.2.2.2 hR, ?_⟩
  exact (fr.setCell (p := ⟨w.heap.size, 0, none⟩) (Or.inr (Nat.le_refl _)) _).setCell (p := ⟨w.heap.size, 1, none⟩) (Or.inr (Nat.le_refl _)) _
/-- Rows that a slot of a drawn region holds. -/
def RowsW (T n : Nat) (v : Value) (w : World) : Prop := ∃ (hi : Nat) (vs : List Value) (rows : List (List Int)), hi ≤ w.heap.size ∧ RowsV w (T + 1) hi v vs rows ∧ rows.length ≤ 16 ∧ ∀ r ∈ rows, r.length = n
/-- The class of region 2. -/
structure Cl2 (R B lo T : Nat) (nv : Value) (names : List ByteArray) (w0 : World) (f : Nat) (w : World) : Prop where
  rc : Rc w R (B + 680 * f)
  fr : Touch R (R + 1) w0 w
  own : w.ownsRow lo 9 1 nv names.length (stCells names)
  blk : ∃ rv, Blk w T 26 #[nv, rv]
  res : Blk w lo 26 #[.slice none 0 0, .slice none 0 0]
def Pk2 (lo T : Nat) (nv : Value) (names : List ByteArray) (w : World) : Prop := ∃ rv rows, TabS w lo T nv rv names rows ∧ rows.length ≤ 16 ∧ ∀ r ∈ rows, r.length = names.length
def NT (R T : Nat) (k : Nat) : Prop := k = R ∨ k = T
theorem clsT (R B lo T : Nat) (nv : Value) (names : List ByteArray) (w0 : World) : Cls (NT R T) (Pk2 lo T nv names) (Cl2 R B lo T nv names w0) where
  less f w h := ⟨h.rc.less (by omega), h.fr, h.own, h.blk, h.res⟩
  alloc f w ob h := ⟨h.rc.alloc ob, h.fr.alloc ob, h.own.alloc _, by obtain ⟨rv, hb⟩ := h.blk; exact ⟨rv, hb.alloc ob⟩, h.res.alloc ob⟩
  lt f w h := by
    obtain ⟨rv, hb⟩ := h.blk
    have h1 := hb.lt
    have h2 := h.rc.lt
    unfold NT; omega
  keep w ob h := by obtain ⟨rv, rows, h1, h2⟩ := h; exact ⟨rv, rows, h1.alloc ob, h2⟩
theorem Pk2.pick {R lo T : Nat} {nv : Value} {names : List ByteArray} {w w' : World} (hl : R < lo) (hT : R < T) (ht : Touch R (R + 1) w w') : Mv (NT R T) (Pk2 lo T nv names) w w' :=
  ⟨Chg.of_pick ht (.inl rfl), fun ⟨rv, rows, h1, h2⟩ => ⟨rv, rows, h1.touch ht hl hT, h2⟩⟩
theorem Cl2.pick {R B lo T f : Nat} {nv : Value} {names : List ByteArray} {w0 w w' : World} (hl : R < lo) (hT : R < T) (h : Cl2 R B lo T nv names w0 (f + 1) w) (hr : Rc w' R (B + 680 * f)) (ht : Touch R (R + 1) w w') : Cl2 R B lo T nv names w0 f w' :=
  ⟨hr, h.fr.trans ht, ht.own_above h.own (by omega), by obtain ⟨rv, hb⟩ := h.blk; exact ⟨rv, ht.blk hb (by omega)⟩, ht.blk h.res (by omega)⟩
def app9V (lo T gN nm c2 : Nat) (rv : Value) (s0 : ByteArray) (names : List ByteArray) (rows : List (List Int)) (i : Nat) (v : Value) (w : World) : Prop := match i with
  | 0 | 2 | 8 => v = .pointer (some ⟨T, 0, none⟩)
  | 1 | 3 => v = .slice (some ⟨gN, 0, none⟩) nm c2
  | 4 => v = .pointer (some ⟨gN, 0, none⟩)
  | 5 => v = .string s0
  | 6 => ∃ g, v = .slice (some ⟨g, 0, none⟩) 1 1 ∧ ¬ (g = T ∨ g = gN) ∧ w.cell? ⟨g, 0, none⟩ = some (.string s0)
  | 7 => ∃ cn, TabG w lo T cn rv v rv (names ++ [s0]) rows ∧ ∃ A c, v = .slice A (nm + 1) c
  | 9 => ∃ u, TabG w lo T u rv u rv (names ++ [s0]) rows ∧ ∃ A c, u = .slice A (nm + 1) c
  | _ => True
def N15 (T : Nat) (rv : Value) (k : Nat) : Prop := k = T ∨ rv.ownBlock = some k
def app15V (lo T : Nat) (nv rv : Value) (z5 : Nat) (names : List ByteArray) (rows : List (List Int)) (i : Nat) (v : Value) (w : World) : Prop := match i with
  | 0 | 8 => v = .pointer (some ⟨T, 1, none⟩)
  | 1 => v = rv
  | 2 => v = .pointer (some ⟨T, 0, none⟩)
  | 3 => v = nv
  | 4 => v = .int .i64 (names.length : Int)
  | 5 => ∃ g, v = .slice (some ⟨g, 0, none⟩) names.length names.length ∧ z5 ≤ g ∧ w.ownsRow lo 3 1 v names.length (inCells (List.replicate names.length 0))
  | 6 => ∃ g g5, v = .slice (some ⟨g, 0, none⟩) 1 1 ∧ z5 ≤ g ∧ w.cell? ⟨g, 0, none⟩ = some (.slice (some ⟨g5, 0, none⟩) names.length names.length) ∧ z5 ≤ g5 ∧ w.ownsRow lo 3 1 (.slice (some ⟨g5, 0, none⟩) names.length names.length) names.length (inCells (List.replicate names.length 0))
  | 7 => ∃ cr, TabG w lo T nv cr nv v names (rows ++ [List.replicate names.length 0]) ∧ ∃ A c, v = .slice A (rows.length + 1) c
  | 9 => ∃ u, TabG w lo T nv u nv u names (rows ++ [List.replicate names.length 0]) ∧ ∃ A c, u = .slice A (rows.length + 1) c
  | _ => True
theorem grown_none_below {w w' : World} (h : w.grownBy w' none) : Below w.heap.size w w' := (Below.refl _ _).grown h (Nat.le_refl _) (by simp)
def Pre16 (lo T : Nat) (nv rv u : Value) (names : List ByteArray) (rows : List (List Int)) (w : World) : Prop := TabS w lo T nv rv names (rows ++ [List.replicate names.length 0]) ∧ ∃ vs, RowsV w lo w.heap.size rv vs (rows ++ [List.replicate names.length 0]) ∧ vs[rows.length]? = some u
def Pk16 (lo T : Nat) (nv rv : Value) (names : List ByteArray) (rows : List (List Int)) (w : World) : Prop := ∃ x, TabS w lo T nv rv names (rows ++ [(List.replicate names.length 0).set 0 x])
section
variable {lo T R : Nat} {nv rv u : Value} {names : List ByteArray} {rows : List (List Int)}
theorem Pre16.alloc (w : World) (ob : Obj) (h : Pre16 lo T nv rv u names rows w) : Pre16 lo T nv rv u names rows (w.alloc ob) := by
  obtain ⟨h1, vs, h2, h3⟩ := h
  exact ⟨h1.alloc ob, vs, (h2.alloc ob).wide (by simp), h3⟩
theorem Pre16.touch {w w' : World} (h : Pre16 lo T nv rv u names rows w) (ht : Touch R (R + 1) w w') (hl : R < lo) (hT : R < T) : Pre16 lo T nv rv u names rows w' := by
  obtain ⟨h1, vs, h2, h3⟩ := h
  exact ⟨h1.touch ht hl hT, vs, (h2.touch ht (by omega)).wide ht.size, h3⟩
theorem Pk16.alloc (w : World) (ob : Obj) (h : Pk16 lo T nv rv names rows w) : Pk16 lo T nv rv names rows (w.alloc ob) := by
  obtain ⟨x, h1⟩ := h
  exact ⟨x, h1.alloc ob⟩
theorem Pk16.touch {w w' : World} (h : Pk16 lo T nv rv names rows w) (ht : Touch R (R + 1) w w') (hl : R < lo) (hT : R < T) : Pk16 lo T nv rv names rows w' := by
  obtain ⟨x, h1⟩ := h
  exact ⟨x, h1.touch ht hl hT⟩
end
def app16V (R T gR gU m : Nat) (rv u : Value) (Pk : World → Prop) (i : Nat) (v : Value) (w : World) : Prop := match i with
  | 0 | 2 => v = .pointer (some ⟨T, 1, none⟩)
  | 1 | 3 => v = rv
  | 4 => v = .int .i64 ((m + 1 : Nat) : Int)
  | 5 => v = .int .i64 (m : Int)
  | 6 => v = .pointer (some ⟨gR, m, none⟩)
  | 7 => v = u
  | 8 => RowB (fun k => k = R ∨ k = gU) 3 IntB 2 v w
  | 9 => v = .pointer (some ⟨R, 0, none⟩)
  | 10 => NatB 2 v w
  | 11 => AddB (fun k => k = R ∨ k = gU) IntB v w
  | 12 => IntB v w
  | 13 => v = .pointer (some ⟨gU, 0, none⟩)
  | 14 => Pk w
  | _ => True
theorem app16V_stable {R T gR gU m : Nat} {rv u : Value} {Pk : World → Prop} (i : Nat) (v : Value) (w w' : World) (h : app16V R T gR gU m rv u Pk i v w) (hs : Mv (fun k => k = R ∨ k = gU) Pk w w') : app16V R T gR gU m rv u Pk i v w' := by
  unfold app16V at h ⊢
  split at h <;> first | exact h | exact rowB_stable intB_stable _ _ _ h hs | exact addB_stable intB_stable _ _ _ h hs | exact hs.2 h
def Pk7 (lo T : Nat) (nv rv : Value) (names : List ByteArray) (rows : List (List Int)) (w : World) : Prop := ∃ s : ByteArray, s.size ≤ 9 ∧ TabS w lo T nv rv (names.set 0 s) rows
section
variable {lo T R : Nat} {nv rv u : Value} {names : List ByteArray} {rows : List (List Int)}
theorem Pk7.alloc (w : World) (ob : Obj) (h : Pk7 lo T nv rv names rows w) : Pk7 lo T nv rv names rows (w.alloc ob) := by
  obtain ⟨x, hx, h1⟩ := h
  exact ⟨x, hx, h1.alloc ob⟩
theorem Pk7.touch {w w' : World} (h : Pk7 lo T nv rv names rows w) (ht : Touch R (R + 1) w w') (hl : R < lo) (hT : R < T) : Pk7 lo T nv rv names rows w' := by
  obtain ⟨x, hx, h1⟩ := h
  exact ⟨x, hx, h1.touch ht hl hT⟩
end
def app7V (R T gN : Nat) (nv : Value) (Pk : World → Prop) (i : Nat) (v : Value) (w : World) : Prop := match i with
  | 0 => v = .pointer (some ⟨T, 0, none⟩)
  | 1 => v = nv
  | 2 => v = .pointer (some ⟨R, 0, none⟩)
  | 3 => StrB 9 v w
  | 4 => v = .pointer (some ⟨gN, 0, none⟩)
  | 5 => Pk w
  | _ => True
theorem app7V_stable {R T gN : Nat} {nv : Value} {Pk : World → Prop} (i : Nat) (v : Value) (w w' : World) (h : app7V R T gN nv Pk i v w) (hs : Mv (fun k => k = R ∨ k = gN) Pk w w') : app7V R T gN nv Pk i v w' := by
  unfold app7V at h ⊢
  split at h <;> first | exact h | exact hs.2 h
theorem own_cell0 {w : World} {lo g n c : Nat} {xs : List ByteArray} {s0 : ByteArray} (h : w.ownsRow lo 9 1 (.slice (some ⟨g, 0, none⟩) n c) xs.length (stCells xs)) (hs : xs[0]? = some s0) : w.cell? ⟨g, 0, none⟩ = some (.string s0) := by
  have hl := (List.getElem?_eq_some_iff.1 hs).1
  obtain ⟨A, c', e, _⟩ := own_form h
  injection e with e1 e2 e3
  subst e1 e2 e3
  obtain ⟨ad, s, hA, _, hs', cs⟩ := st_at (Reads.of_own h) rfl hl
  injection hA with hA
  subst hA
  obtain rfl := Option.some.inj (hs.symm.trans hs')
  simpa [Addr.add] using cs
def tabV (R lo T : Nat) (nv : Value) (names : List ByteArray) (i : Nat) (v : Value) (w : World) : Prop := match i with
  | 0 | 4 | 6 | 9 => v = .pointer (some ⟨R, 0, none⟩)
  | 1 => v = .pointer (some ⟨T, 0, none⟩)
  | 2 => v = nv
  | 3 => v = .int .i64 (names.length : Int)
  | 5 | 7 | 13 => NatB 17 v w
  | 8 => RowB (NT R T) 3 (NatB 17) 3 v w
  | 10 => NatB 12 v w
  | 11 => NatB 3 v w
  | 12 => AddB (NT R T) (NatB 17) v w
  | 14 => RowsW T names.length v w
  | 15 => v = .pointer (some ⟨T, 1, none⟩)
  | 16 => Pk2 lo T nv names w
  | _ => True
theorem tabV_stable {R lo T : Nat} {nv : Value} {names : List ByteArray} (hRT : R < T) (i : Nat) (v : Value) (w w' : World) (h : tabV R lo T nv names i v w) (hs : Mv (NT R T) (Pk2 lo T nv names) w w') : tabV R lo T nv names i v w' := by
  unfold tabV at h ⊢
  split at h <;> first | exact h | exact rowB_stable natB_stable _ _ _ h hs | exact addB_stable natB_stable _ _ _ h hs | exact hs.2 h | skip
  obtain ⟨hi, vs, rows, h1, h2, h3⟩ := h
  exact ⟨hi, vs, rows, Nat.le_trans h1 hs.1.size, h2.block (fun g hg hlt _ => hs.1.block g hlt (by unfold NT; omega)), h3⟩
theorem field30 (T : Nat) (w : World) (k : Nat) (hk : k < 2) : (Instr.fieldAt 26 (.pointer (some ⟨T, 0, none⟩)) k).run Tryd.prog w = .ok (.pointer (some ⟨T, k, none⟩)) w := by
  match k, hk with
  | 0, _ => simp [Instr.fieldAt, go_sem]
  | 1, _ => simp [Instr.fieldAt, go_sem]
theorem strRow_open {R : Nat} {v : Value} {w : World} (h : StrRow R v w) : ∃ (g : Nat) (names : List ByteArray), v = .slice (some ⟨g, 0, none⟩) names.length names.length ∧ Blk w g 9 (stCells names).toArray ∧ 1 ≤ names.length ∧ names.length ≤ 3 ∧ ∀ x ∈ names, x.size ≤ 5 := by
  obtain ⟨n, hn, g, vs, rfl, hg, hb, hl, hq⟩ := h
  have : ∀ l : List Value, (∀ u ∈ l, StrB 5 u w) → ∃ names : List ByteArray, l = stCells names ∧ ∀ x ∈ names, x.size ≤ 5 := by
    intro l
    induction l with
    | nil => intro _; exact ⟨[], rfl, by simp⟩
    | cons u l ih =>
      intro h
      obtain ⟨s, rfl, hs⟩ := h u (by simp)
      obtain ⟨ns, rfl, hns⟩ := ih (fun u hu => h u (by simp [hu]))
      exact ⟨s :: ns, rfl, by simp; exact ⟨hs, hns⟩⟩
  obtain ⟨names, rfl, hx⟩ := this vs hq
  rw [stCells_length] at hl
  subst hl
  exact ⟨g, names, rfl, hb, hn.1, hn.2, hx⟩
theorem blk_cells {w : World} {g : Nat} {t : TypeId} {l : List Value} (h : Blk w g t l.toArray) : ∀ (j : Nat) (u : Value), l[j]? = some u → w.cell? ((⟨g, 0, none⟩ : Addr).add j) = some u := by
  intro j u hj
  have e : (⟨g, 0, none⟩ : Addr).add j = ⟨g, j, none⟩ := by unfold Addr.add; by_cases h : j = 0 <;> simp [h]
  rw [e, h.cell j]
  simpa using hj
set_option maxHeartbeats 1600000 in
theorem table_c (R B kind : Nat) (n : Int) (w : World) (h : Rc w R (B + 14000)) (hk : kind < 3) (hn : n ≤ 100000) :
    Calls Tryd.prog 21 #[.pointer (some ⟨R, 0, none⟩), .int .i64 (kind : Int), .int .i64 n] w (TabPost R B w) := by
  obtain ⟨is, his, hsz, hss, hsb⟩ := info_parts infoStr
  obtain ⟨ii, hii, hiz, his', iib⟩ := info_parts infoInt
  have hRw : R + 1 ≤ w.heap.size := h.lt
  go_enter Tryd.func21, Tryd.ntmps21
  go_wp2_with fail
  have own0 : ((w.alloc (.cells #[.slice none 0 0, .slice none 0 0] 26)).alloc (.cells #[] 9)).ownsRow w.heap.size 9 1 (.slice (some ⟨w.heap.size + 1, 0, none⟩) 0 0) 0 [] := by
    have := World.ownsRow_made (base := w.heap.size) (e := 9) (size := 1) (w.alloc (.cells #[.slice none 0 0, .slice none 0 0] 26)) #[] 0 (by simp) (by unfold maxLen; omega) rfl
    rw [World.size_alloc] at this
    exact this
  refine (names_c R (B + 13900) kind _ (((h.alloc _).alloc _).less (by omega)) hk).mono ?_
  rintro e w1 ⟨v1, rfl, hv1, rc1, t1⟩
  obtain ⟨g, names, rfl, hgb, hl1, hl3, hl5⟩ := strRow_open hv1
  have o1 := t1.own_above own0 hRw
  have fr1 : Touch R (R + 1) w w1 := (((Touch.refl R (R + 1) w).alloc _).alloc _).trans t1
  have k6 : Blk w1 w.heap.size 26 #[.slice none 0 0, .slice none 0 0] := t1.blk ((Blk.new w _ _).alloc _) (by omega)
  have hs1 := fr1.size
  go_wp2_with (first
    | (at_builtin; refine wpList_append_own _ rfl _ _ 23 rfl w.heap.size 9 is _ 1 16 Tryd.underlying23 his hsz hss hsb rfl (by decide) _ _ _ rfl o1 ⟨g, 0, none⟩ names.length names.length (stCells names) rfl (by simp [stCells_length]) (blk_cells hgb) (by intro u hu; simp [stCells] at hu; obtain ⟨x, _, rfl⟩ := hu; rfl) (by unfold maxLen; omega) (by omega) (by omega) ?_; intro v2 w2 hown2 hgrow2 _; simp only [Nat.zero_add, List.nil_append] at hown2; obtain ⟨A2, c2, rfl, hA2, _⟩ := own_form hown2))
  have rc2 := rc1.touch (Touch.of_grown (lo := w.heap.size) (hi := w1.heap.size) hgrow2 (fun g e => o1.lt g e)) hRw
  have fr2 : Touch R (R + 1) w w2 := fr1.grown hgrow2 fun g e => Or.inr (o1.lt g e).1
  have hs2 := fr2.size
  have hRT : R < w2.heap.size := by omega
  have k62 : Blk w2 w.heap.size 26 #[.slice none 0 0, .slice none 0 0] := k6.grown hgrow2 (fun e => own_blk_ne o1 k6 (by decide) e.symm)
  have hT0 := k62.lt
  refine wp_region_typed (by kernel_rfl) (fun _ => true) (lift <| tabV R w.heap.size w2.heap.size (.slice A2 names.length c2) names) (fun _ => Mv (NT R w2.heap.size) (Pk2 w.heap.size w2.heap.size (.slice A2 names.length c2) names)) (Cl2 R (B + 2000) w.heap.size w2.heap.size (.slice A2 names.length c2) names w) (by kernel_rfl) (stab (tabV_stable hRT)) ?_ ?_ ?_ (by kernel_rfl) ?_
  · exact dst_lt (n := 97) (by kernel_rfl)
  · exact ⟨(rc2.alloc _).less (by have : 680 * 17 = 11560 := rfl; show B + 2000 + 680 * 17 ≤ _; omega), (fr2.alloc _).drew, (hown2.alloc _), ⟨_, (Blk.new w2 _ _)⟩, k62.alloc _⟩
  · refine ok_all ⟨?_, ?_, ?_, ?_, ?_, ?_, ?_, ?_, ?_, ?_, ?_, ?_, ?_, ?_, ?_, ?_, ?_, trivial⟩
    · refine ok_put (clsT R (B + 2000) w.heap.size w2.heap.size (.slice A2 names.length c2) names w) (.inl rfl) (fun a w hs hr hh => ?_)
      exact hr 0 (not_dst (by kernel_rfl))
    · refine ok_value (clsT R (B + 2000) w.heap.size w2.heap.size (.slice A2 names.length c2) names w) (fun f a w hc hs hr hh => ⟨.pointer (some ⟨w2.heap.size, 0, none⟩), ?_, rfl⟩)
      have h0 : a.tmps.getD 7 undef = .pointer (some ⟨w2.heap.size, 0, none⟩) := hr 7 (not_dst (by kernel_rfl))
      simp [execOp, Act.eval, h0, field30 w2.heap.size w 0 (by decide)]
    · refine ok_read (clsT R (B + 2000) w.heap.size w2.heap.size (.slice A2 names.length c2) names w) rfl (fun w => by simp [go_sem]) (fun f a w' hc hs hr hh => ?_)
      obtain ⟨_, rfl, h1⟩ := hh ⟨1, .data⟩ (by simp) rfl
      have h1 := h1 15 rfl
      obtain ⟨rv, hb⟩ := hc.blk
      exact ⟨_, _, h1, hb.cell 0, rfl⟩
    · refine ok_value (clsT R (B + 2000) w.heap.size w2.heap.size (.slice A2 names.length c2) names w) (fun f a w' hc hs hr hh => ⟨.int .i64 (names.length : Int), ?_, rfl⟩)
      obtain ⟨_, rfl, h1⟩ := hh ⟨2, .data⟩ (by simp) rfl
      have h1 := h1 16 rfl
      simp [execOp, go_sem, Act.eval, h1]
    · refine ok_put (clsT R (B + 2000) w.heap.size w2.heap.size (.slice A2 names.length c2) names w) (.inl rfl) (fun a w hs hr hh => ?_)
      exact hr 0 (not_dst (by kernel_rfl))
    · refine ok_call Tryd.func22 (by kernel_rfl) (by kernel_rfl) rfl (fun f a w' hc hs hr hh => ?_)
      obtain ⟨_, rfl, h1⟩ := hh ⟨4, .data⟩ (by simp) rfl
      have h1 := h1 18 rfl
      rw [show #[Operand.tmp 18, Operand.const (Value.int .i64 6)].map a.eval = #[.pointer (some ⟨R, 0, none⟩), .int .i64 6] by simp [Act.eval, h1]]
      refine (pick_c R (B + 2000 + 680 * f) 6 w' (hc.rc.less (by omega)) (by decide)).mono ?_
      rintro e w3 ⟨x, rfl, hx, h2, h3, _⟩
      exact ⟨_, rfl, ⟨x, rfl, by omega⟩, Pk2.pick hRw hRT h3, hc.pick hRw hRT (h2.less (by omega)) h3⟩
    · refine ok_put (clsT R (B + 2000) w.heap.size w2.heap.size (.slice A2 names.length c2) names w) (.inl rfl) (fun a w hs hr hh => ?_)
      exact hr 0 (not_dst (by kernel_rfl))
    · refine ok_call Tryd.func22 (by kernel_rfl) (by kernel_rfl) rfl (fun f a w' hc hs hr hh => ?_)
      obtain ⟨_, rfl, h1⟩ := hh ⟨6, .data⟩ (by simp) rfl
      have h1 := h1 20 rfl
      rw [show #[Operand.tmp 20, Operand.const (Value.int .i64 6)].map a.eval = #[.pointer (some ⟨R, 0, none⟩), .int .i64 6] by simp [Act.eval, h1]]
      refine (pick_c R (B + 2000 + 680 * f) 6 w' (hc.rc.less (by omega)) (by decide)).mono ?_
      rintro e w3 ⟨x, rfl, hx, h2, h3, _⟩
      exact ⟨_, rfl, ⟨x, rfl, by omega⟩, Pk2.pick hRw hRT h3, hc.pick hRw hRT (h2.less (by omega)) h3⟩
    · refine ok_build (p := NatB 17) (clsT R (B + 2000) w.heap.size w2.heap.size (.slice A2 names.length c2) names w) natB_stable rfl Tryd.underlying40 hii hiz (by rw [his']; decide) (by rw [his']; decide) (fun v _ w hv => hv) (fun a w' _ _ hh => ?_)
      obtain ⟨_, ⟨x, rfl, hx⟩, h1⟩ := hh ⟨5, .data⟩ (by simp) rfl
      have h1 := h1 19 rfl
      obtain ⟨_, ⟨y, rfl, hy⟩, h2⟩ := hh ⟨7, .data⟩ (by simp) rfl
      have h2 := h2 21 rfl
      refine ⟨[.int .i64 x, .int .i64 y, .int .i64 16], rfl, ?_, ?_⟩
      · intro u hu
        simp at hu
        rcases hu with rfl | rfl | rfl
        · exact ⟨x, rfl, hx⟩
        · exact ⟨y, rfl, hy⟩
        · exact ⟨16, rfl, by decide⟩
      · rw [his']
        simp only [List.map_toArray, List.map_cons, List.map_nil, Act.eval, h1, h2]
        kernel_rfl
    · refine ok_put (clsT R (B + 2000) w.heap.size w2.heap.size (.slice A2 names.length c2) names w) (.inl rfl) (fun a w hs hr hh => ?_)
      exact hr 0 (not_dst (by kernel_rfl))
    · refine ok_call Tryd.func22 (by kernel_rfl) (by kernel_rfl) rfl (fun f a w' hc hs hr hh => ?_)
      obtain ⟨_, rfl, h1⟩ := hh ⟨9, .data⟩ (by simp) rfl
      have h1 := h1 23 rfl
      rw [show #[Operand.tmp 23, Operand.const (Value.int .i64 12)].map a.eval = #[.pointer (some ⟨R, 0, none⟩), .int .i64 12] by simp [Act.eval, h1]]
      refine (pick_c R (B + 2000 + 680 * f) 12 w' (hc.rc.less (by omega)) (by decide)).mono ?_
      rintro e w3 ⟨x, rfl, hx, h2, h3, _⟩
      exact ⟨_, rfl, ⟨x, rfl, by omega⟩, Pk2.pick hRw hRT h3, hc.pick hRw hRT (h2.less (by omega)) h3⟩
    · refine ok_value (clsT R (B + 2000) w.heap.size w2.heap.size (.slice A2 names.length c2) names w) (fun f a w' hc hs hr hh => ?_)
      obtain ⟨_, ⟨x, rfl, hx⟩, h1⟩ := hh ⟨10, .data⟩ (by simp) rfl
      have h1 := h1 24 rfl
      refine ⟨.int .i64 ((x / 5 : Nat) : Int), ?_, ⟨x / 5, rfl, by omega⟩⟩
      have e1 : IntKind.i64.wrap ((x : Int) / 5) = (x : Int) / 5 := IntWalk.i64_in _ (by omega)
      simp [execOp, go_sem, Act.eval, h1, e1]
    · refine ok_index (te := 3) (p := NatB 17) (n := 3) (clsT R (B + 2000) w.heap.size w2.heap.size (.slice A2 names.length c2) names w) rfl Tryd.underlying40 (by kernel_rfl) (fun v _ w hv => hv) (fun a w hs hr hh => ?_)
      obtain ⟨_, hv1, h1⟩ := hh ⟨8, .data⟩ (by simp) rfl
      have h1 := h1 22 rfl
      obtain ⟨_, hv2, h2⟩ := hh ⟨11, .data⟩ (by simp) rfl
      have h2 := h2 25 rfl
      subst h1
      subst h2
      exact ⟨hv1, hv2⟩
    · refine ok_load (p := NatB 17) (clsT R (B + 2000) w.heap.size w2.heap.size (.slice A2 names.length c2) names w) rfl (fun w => by simp [go_sem]) (fun v _ w hv => hv) (fun a w hs hr hh => ?_)
      obtain ⟨_, hv1, h1⟩ := hh ⟨12, .data⟩ (by simp) rfl
      have h1 := h1 26 rfl
      subst h1
      exact hv1
    · refine ok_call Tryd.func43 (by kernel_rfl) (by kernel_rfl) rfl (fun f a w' hc hs hr hh => ?_)
      obtain ⟨_, rfl, h1⟩ := hh ⟨0, .data⟩ (by simp) rfl
      have h1 := h1 14 rfl
      obtain ⟨_, rfl, h2⟩ := hh ⟨3, .data⟩ (by simp) rfl
      have h2 := h2 17 rfl
      obtain ⟨_, ⟨m, rfl, hm⟩, h3⟩ := hh ⟨13, .data⟩ (by simp) rfl
      have h3 := h3 27 rfl
      rw [show #[Operand.tmp 14, Operand.tmp 17, Operand.tmp 27].map a.eval = #[.pointer (some ⟨R, 0, none⟩), .int .i64 (names.length : Int), .int .i64 (m : Int)] by simp [Act.eval, h1, h2, h3]]
      refine (rows_c R (B + 2000 + 680 * f) names.length m w' (hc.rc.less (by omega)) (by omega) (by omega)).mono ?_
      rintro e w3 ⟨v, rows, rfl, ⟨vs, hv⟩, hrl, hrw, h2, h3⟩
      have hT := hc.blk
      obtain ⟨rv, hT⟩ := hT
      have := hT.lt
      exact ⟨_, rfl, ⟨_, vs, rows, Nat.le_refl _, hv.low (by omega), by omega, hrw⟩, Pk2.pick hRw hRT h3, hc.pick hRw hRT h2 h3⟩
    · refine ok_value (clsT R (B + 2000) w.heap.size w2.heap.size (.slice A2 names.length c2) names w) (fun f a w hc hs hr hh => ⟨.pointer (some ⟨w2.heap.size, 1, none⟩), ?_, rfl⟩)
      have h0 : a.tmps.getD 7 undef = .pointer (some ⟨w2.heap.size, 0, none⟩) := hr 7 (not_dst (by kernel_rfl))
      simp [execOp, Act.eval, h0, field30 w2.heap.size w 1 (by decide)]
    · refine ok_store rfl (by kernel_rfl) (fun f a w' hc hs hr hh => ?_)
      obtain ⟨_, rfl, h1⟩ := hh ⟨15, .data⟩ (by simp) rfl
      have h1 := h1 29 rfl
      obtain ⟨_, ⟨hi, vs, rows, hhi, hv, hrl, hrw⟩, h2⟩ := hh ⟨14, .data⟩ (by simp) rfl
      have h2 := h2 28 rfl
      obtain ⟨rv, hb⟩ := hc.blk
      obtain ⟨A3, c3, rfl, _, _⟩ := hv.form
      have hon : w'.ownsRow w.heap.size 9 1 (.slice A2 names.length c2) names.length (stCells names) := hc.own
      have hne := own_blk_ne hon hb (by decide)
      have hon' : (w'.setCell ⟨w2.heap.size, 1, none⟩ (.slice A3 rows.length c3)).ownsRow w.heap.size 9 1 (.slice A2 names.length c2) names.length (stCells names) := own_block hon (fun g e => Below.heap_setCell _ _ _ _ (fun e' => hne (by rw [e, e'])))
      have hb' := hb.set_ 1 (.slice A3 rows.length c3)
      have hp : Pk2 w.heap.size w2.heap.size (.slice A2 names.length c2) names (w'.setCell ⟨w2.heap.size, 1, none⟩ (.slice A3 rows.length c3)) :=
        ⟨_, rows, ⟨hb', hc.res.far (by show w.heap.size ≠ w2.heap.size; omega) _, hon', vs, ((hv.block (fun g h1 _ _ => Below.heap_setCell _ _ _ _ (by show g ≠ w2.heap.size; omega))).low (by omega)).wide (by simp [World.setCell]; exact hhi)⟩, hrl, hrw⟩
      refine ⟨⟨w2.heap.size, 1, none⟩, rv, h1, hb.cell 1, hb.frozen 1, ?_, ?_, ?_, ?_⟩
      · rw [show a.eval (.tmp 28) = .slice A3 rows.length c3 from h2]; rfl
      · rw [show a.eval (.tmp 28) = .slice A3 rows.length c3 from h2]; exact hp
      · rw [show a.eval (.tmp 28) = .slice A3 rows.length c3 from h2]; exact ⟨Chg.setCell _ (.inr rfl) _, fun _ => hp⟩
      · rw [show a.eval (.tmp 28) = .slice A3 rows.length c3 from h2]
        refine ⟨?_, hc.fr.setCell (p := ⟨w2.heap.size, 1, none⟩) (Or.inr (by show w.heap.size ≤ w2.heap.size; omega)) _, hon', ⟨_, hb'⟩, hc.res.far (by show w.heap.size ≠ w2.heap.size; omega) _⟩
        exact (hc.rc.touch (lo := w2.heap.size) (hi := w2.heap.size + 1) ((Touch.refl _ _ _).setCell (p := ⟨w2.heap.size, 1, none⟩) (Or.inl ⟨Nat.le_refl _, Nat.lt_succ_self _⟩) _) (by omega)).less (by omega)
  · intro a w3 hs hd hr hh hc
    obtain ⟨_, ⟨rv, rows, TS, hrl, hrw⟩, -⟩ := hh 16 (by decide) rfl
    have e0 : a.tmps.getD 0 undef = .pointer (some ⟨R, 0, none⟩) := hr 0 (not_dst (by kernel_rfl))
    have e1 : a.tmps.getD 1 undef = .int .i64 (kind : Int) := hr 1 (not_dst (by kernel_rfl))
    have e2 : a.tmps.getD 2 undef = .int .i64 n := hr 2 (not_dst (by kernel_rfl))
    have e6 : a.tmps.getD 6 undef = .pointer (some ⟨w.heap.size, 0, none⟩) := hr 6 (not_dst (by kernel_rfl))
    have e7 : a.tmps.getD 7 undef = .pointer (some ⟨w2.heap.size, 0, none⟩) := hr 7 (not_dst (by kernel_rfl))
    have ea : a = ⟨#[a.tmps.getD 0 undef, a.tmps.getD 1 undef, a.tmps.getD 2 undef, a.tmps.getD 3 undef, a.tmps.getD 4 undef, a.tmps.getD 5 undef, a.tmps.getD 6 undef, a.tmps.getD 7 undef, a.tmps.getD 8 undef, a.tmps.getD 9 undef, a.tmps.getD 10 undef, a.tmps.getD 11 undef, a.tmps.getD 12 undef, a.tmps.getD 13 undef, a.tmps.getD 14 undef, a.tmps.getD 15 undef, a.tmps.getD 16 undef, a.tmps.getD 17 undef, a.tmps.getD 18 undef, a.tmps.getD 19 undef, a.tmps.getD 20 undef, a.tmps.getD 21 undef, a.tmps.getD 22 undef, a.tmps.getD 23 undef, a.tmps.getD 24 undef, a.tmps.getD 25 undef, a.tmps.getD 26 undef, a.tmps.getD 27 undef, a.tmps.getD 28 undef, a.tmps.getD 29 undef, a.tmps.getD 30 undef, a.tmps.getD 31 undef, a.tmps.getD 32 undef, a.tmps.getD 33 undef, a.tmps.getD 34 undef, a.tmps.getD 35 undef, a.tmps.getD 36 undef, a.tmps.getD 37 undef, a.tmps.getD 38 undef, a.tmps.getD 39 undef, a.tmps.getD 40 undef, a.tmps.getD 41 undef, a.tmps.getD 42 undef, a.tmps.getD 43 undef, a.tmps.getD 44 undef, a.tmps.getD 45 undef, a.tmps.getD 46 undef, a.tmps.getD 47 undef, a.tmps.getD 48 undef, a.tmps.getD 49 undef, a.tmps.getD 50 undef, a.tmps.getD 51 undef, a.tmps.getD 52 undef, a.tmps.getD 53 undef, a.tmps.getD 54 undef, a.tmps.getD 55 undef, a.tmps.getD 56 undef, a.tmps.getD 57 undef, a.tmps.getD 58 undef, a.tmps.getD 59 undef, a.tmps.getD 60 undef, a.tmps.getD 61 undef, a.tmps.getD 62 undef, a.tmps.getD 63 undef, a.tmps.getD 64 undef, a.tmps.getD 65 undef, a.tmps.getD 66 undef, a.tmps.getD 67 undef, a.tmps.getD 68 undef, a.tmps.getD 69 undef, a.tmps.getD 70 undef, a.tmps.getD 71 undef, a.tmps.getD 72 undef, a.tmps.getD 73 undef, a.tmps.getD 74 undef, a.tmps.getD 75 undef, a.tmps.getD 76 undef, a.tmps.getD 77 undef, a.tmps.getD 78 undef, a.tmps.getD 79 undef, a.tmps.getD 80 undef, a.tmps.getD 81 undef, a.tmps.getD 82 undef, a.tmps.getD 83 undef, a.tmps.getD 84 undef, a.tmps.getD 85 undef, a.tmps.getD 86 undef, a.tmps.getD 87 undef, a.tmps.getD 88 undef, a.tmps.getD 89 undef, a.tmps.getD 90 undef, a.tmps.getD 91 undef, a.tmps.getD 92 undef, a.tmps.getD 93 undef, a.tmps.getD 94 undef, a.tmps.getD 95 undef, a.tmps.getD 96 undef], []⟩ := act_lit 97 hs hd
    rw [e0, e1, e2, e6, e7] at ea
    obtain ⟨U, hU⟩ : ∃ U : Nat → Value, ∀ i, a.tmps.getD i undef = U i := ⟨_, fun _ => rfl⟩
    simp only [hU] at ea
    clear hs hd hr hh hU e0 e1 e2 e6 e7
    subst ea
    have rc3 : Rc w3 R (B + 2000) := hc.rc
    have fr3 := hc.fr
    have hrl' : rows.length ≤ 16 + 1 := by omega
    clear hc hown2 hgrow2 own0 o1 t1 fr1 rc1 rc2 fr2 hgb k62 k6 hv1
    go_wp2_with fail
    refine (odd_c R (B + 1990) n _ (rc3.less (by omega)) hn).mono ?_
    rintro e w4 ⟨q, rfl, rc4, t4, -⟩
    have TS4 := TS.touch t4 hRw hRT
    have fr4 := fr3.trans t4
    clear TS rc3 fr3 t4
    have HT4 := Lib.hid TS4
    have HR4 := Lib.hid (And.intro rc4 fr4)
    clear TS4 rc4 fr4
    have hd4 := Lib.hid (show DrawnT names rows from ⟨by omega, fun x hx => by have := hl5 x hx; omega, by omega, fun r hr => by have := hrw r hr; omega⟩)
    go_upto_if 32 with (fail)
    go_cut [] (fun w' => ∃ (nv rv : Value) (names : List ByteArray) (rows : List (List Int)), Hid (TabS w' w.heap.size w2.heap.size nv rv names rows) ∧ Hid (DrawnT names rows) ∧ Hid (Rc w' R B) ∧ Hid (Touch R (R + 1) w w'))
    case rest =>
      obtain ⟨nv, rv, names, rows, hT, hD, hR, hF⟩ := hcut
      have TS := hT.out
      obtain ⟨A0, c0, rfl, _, _⟩ := own_form TS.own
      obtain ⟨A3, c3, rfl, _, _⟩ := TS.rows.choose_spec.form
      have HT := Lib.hid TS
      have x0 := TS.blk.cell 0
      have x1 := TS.blk.cell 1
      have y0 := TS.res.cell 0
      have y1 := TS.res.cell 1
      have f0 := TS.res.frozen 0
      have f1 := TS.res.frozen 1
      have f2 := TS.blk.frozen 0
      have f3 := TS.blk.frozen 1
      simp at x0 x1 y0 y1
      clear TS
      go_wp2_with fail
      have D := HT.out.done
      have PP := HT.out.post (B := B) hD.out hR.out hF.out hRw
      clear x0 x1 y0 y1 f0 f1 f2 f3 HT
      generalize (World.setCell (World.setCell _ ⟨w.heap.size, 0, none⟩ _) ⟨w.heap.size, 1, none⟩ _) = wZ at D PP ⊢
      exact bodyPost_ret (v := .agg #[_, _]) (by simp [results, Tryd.results21, go_sem, D.2.1, D.2.2.1]) rfl PP
    case first =>
      cases q
      · go_wp2_with fail
        go_meet
        case rel => exact ⟨_, _, _, _, HT4.out, hd4.out, HR4.out.1.less (by omega), HR4.out.2⟩
      · go_wp2_with fail
        refine (pick_c R (B + 1900) 6 _ (HR4.out.1.less (by omega)) (by decide)).mono ?_
        rintro e w5 ⟨x, rfl, hx, rc5, t5, -⟩
        have TS5 := HT4.out.touch t5 hRw hRT
        have fr5 := HR4.out.2.trans t5
        have hT5 := TS5.blk.lt
        have hw5 := fr5.size
        clear HT4 HR4 t5
        obtain ⟨A3, c3, rfl, hc3, hc3', hA3⟩ := TS5.rows.choose_spec.form
        have HT := Lib.hid TS5
        have HR := Lib.hid (And.intro rc5 fr5)
        have x0 := TS5.blk.cell 0
        have x1 := TS5.blk.cell 1
        have f0 := TS5.blk.frozen 0
        have f1 := TS5.blk.frozen 1
        simp at x0 x1
        clear TS5 rc5 fr5
        rcases (show x = 0 ∨ x = 1 ∨ x = 2 ∨ x = 3 ∨ x = 4 ∨ x = 5 by omega) with rfl | rfl | rfl | rfl | rfl | rfl
        · obtain ⟨gN, rfl, s0, hs0, cs0⟩ : ∃ gN, A2 = some ⟨gN, 0, none⟩ ∧ ∃ s0, names[0]? = some s0 ∧ w5.cell? ⟨gN, 0, none⟩ = some (.string s0) := by
            rcases own_cases HT.out.own with ⟨_, h0, _⟩ | ⟨g, cap, e⟩
            · omega
            · injection e with e1 e2 e3
              subst e1
              obtain ⟨ad, s0, hA, hgb, hs0, cs0⟩ := st_at (Reads.of_own HT.out.own) rfl (show 0 < names.length by omega)
              injection hA with hA
              subst hA
              exact ⟨g, rfl, s0, hs0, by simpa [Addr.add] using cs0⟩
          have oN := HT.out.own
          have hnl : (stCells names).length = names.length := stCells_length _
          generalize hnm : names.length = nm at HT x0 oN hl1 hl3 hnl ⊢
          have HNM := Lib.hid hnm
          clear hnm
          have hn0 : (0 : Int) < (nm : Int) := by omega
          have hn1 : 0 < nm := by omega
          have hgN : gN < w5.heap.size := (oN.lt gN rfl).2
          go_wp2_with fail
          refine wp_region_typed (by kernel_rfl) (fun _ => true) (lift <| app7V R w2.heap.size gN (.slice (some ⟨gN, 0, none⟩) nm c2) (Pk7 w.heap.size w2.heap.size (.slice (some ⟨gN, 0, none⟩) nm c2) (.slice A3 rows.length c3) names rows)) (fun _ => Mv (fun k => k = R ∨ k = gN) (Pk7 w.heap.size w2.heap.size (.slice (some ⟨gN, 0, none⟩) nm c2) (.slice A3 rows.length c3) names rows)) (C16 R (B + 1000) gN w (fun w' => TabS w' w.heap.size w2.heap.size (.slice (some ⟨gN, 0, none⟩) nm c2) (.slice A3 rows.length c3) names rows)) (by kernel_rfl) (stab app7V_stable) ?_ ?_ ?_ (by kernel_rfl) ?_
          · exact dst_lt (n := 97) (by kernel_rfl)
          · exact ⟨HR.out.1.less (by show B + 1000 + 3 * 6 ≤ _; omega), HR.out.2.drew, hgN, fun _ => HT.out.drew⟩
          · refine ok_all ⟨?_, ?_, ?_, ?_, ?_, ?_, trivial⟩
            · refine ok_value (cls16 (R := R) (B := B + 1000) (w0 := w) (gU := gN) (Pre := (fun w' => TabS w' w.heap.size w2.heap.size (.slice (some ⟨gN, 0, none⟩) nm c2) (.slice A3 rows.length c3) names rows)) (Pk := (Pk7 w.heap.size w2.heap.size (.slice (some ⟨gN, 0, none⟩) nm c2) (.slice A3 rows.length c3) names rows)) (fun _ ob h => TabG.alloc h ob) Pk7.alloc) (fun f a w' hc hs hr hh => ⟨.pointer (some ⟨w2.heap.size, 0, none⟩), ?_, rfl⟩)
              have h0 : a.tmps.getD 7 undef = .pointer (some ⟨w2.heap.size, 0, none⟩) := hr 7 (not_dst (by kernel_rfl))
              simp [execOp, Act.eval, h0, field30 w2.heap.size w' 0 (by decide)]
            · refine ok_read (cls16 (R := R) (B := B + 1000) (w0 := w) (gU := gN) (Pre := (fun w' => TabS w' w.heap.size w2.heap.size (.slice (some ⟨gN, 0, none⟩) nm c2) (.slice A3 rows.length c3) names rows)) (Pk := (Pk7 w.heap.size w2.heap.size (.slice (some ⟨gN, 0, none⟩) nm c2) (.slice A3 rows.length c3) names rows)) (fun _ ob h => TabG.alloc h ob) Pk7.alloc) rfl (fun w => by simp [go_sem]) (fun f a w' hc hs hr hh => ?_)
              obtain ⟨_, rfl, h1⟩ := hh ⟨0, .data⟩ (by simp) rfl
              have h1 := h1 39 rfl
              have hp := hc.pre (by omega)
              exact ⟨_, _, h1, hp.blk.cell 0, rfl⟩
            · refine ok_put (cls16 (R := R) (B := B + 1000) (w0 := w) (gU := gN) (Pre := (fun w' => TabS w' w.heap.size w2.heap.size (.slice (some ⟨gN, 0, none⟩) nm c2) (.slice A3 rows.length c3) names rows)) (Pk := (Pk7 w.heap.size w2.heap.size (.slice (some ⟨gN, 0, none⟩) nm c2) (.slice A3 rows.length c3) names rows)) (fun _ ob h => TabG.alloc h ob) Pk7.alloc) (.inl rfl) (fun a w' hs hr hh => ?_)
              exact hr 0 (not_dst (by kernel_rfl))
            · refine ok_call Tryd.func44 (by kernel_rfl) (by kernel_rfl) rfl (fun f a w' hc hs hr hh => ?_)
              obtain ⟨_, rfl, h1⟩ := hh ⟨2, .data⟩ (by simp) rfl
              have h1 := h1 41 rfl
              rw [show #[Operand.tmp 41, Operand.const (Value.int .i64 1)].map a.eval = #[.pointer (some ⟨R, 0, none⟩), .int .i64 1] by simp [Act.eval, h1]]
              refine (name_c R (B + 1000 + 3 * f) 1 w' (hc.rc.less (by omega)) (by decide)).mono ?_
              rintro e w3 ⟨s, rfl, hx, h2, h3⟩
              exact ⟨_, rfl, ⟨s, rfl, hx⟩, ⟨Chg.of_pick h3 (.inl rfl), fun h => h.touch h3 hRw hRT⟩, h2, hc.fr.trans h3, Nat.lt_of_lt_of_le hc.up h3.size, fun hf => (hc.pre (by omega)).touch h3 hRw hRT⟩
            · intro f listed a w' hl hc hs hr hh
              obtain ⟨_, rfl, h1⟩ := hh ⟨1, .data⟩ (by simp) rfl
              have h1 := h1 40 rfl
              exact op_index (i := 0) rfl Tryd.underlying23 (by kernel_rfl) h1 rfl hn1 ⟨_, rfl, rfl, Mv.refl _, (cls16 (R := R) (B := B + 1000) (w0 := w) (gU := gN) (Pre := (fun w' => TabS w' w.heap.size w2.heap.size (.slice (some ⟨gN, 0, none⟩) nm c2) (.slice A3 rows.length c3) names rows)) (Pk := (Pk7 w.heap.size w2.heap.size (.slice (some ⟨gN, 0, none⟩) nm c2) (.slice A3 rows.length c3) names rows)) (fun _ ob h => TabG.alloc h ob) Pk7.alloc).less _ _ hc⟩
            · refine ok_storeS rfl (by kernel_rfl) (fun f listed a w' hl hc hs hr hh => ?_)
              obtain ⟨_, rfl, h1⟩ := hh ⟨4, .data⟩ (by simp) rfl
              have h1 := h1 43 rfl
              obtain ⟨_, ⟨s, rfl, hs9⟩, h2⟩ := hh ⟨3, .data⟩ (by simp) rfl
              have h2 := h2 42 rfl
              have hp := hc.pre (by omega)
              have hup := hl.most 5 (by decide) (fun k hk => by
                match k, hk with
                | 0, _ => exact hl.aft ⟨0, .phase⟩ (by simp) rfl
                | 1, _ => exact hl.aft ⟨1, .phase⟩ (by simp) rfl
                | 2, _ => exact hl.aft ⟨2, .phase⟩ (by simp) rfl
                | 3, _ => exact hl.aft ⟨3, .data⟩ (by simp) rfl
                | 4, _ => exact hl.aft ⟨4, .data⟩ (by simp) rfl)
              have hup : f + 1 ≤ 1 := hup
              have hou : w'.ownsRow w.heap.size 9 1 (.slice (some ⟨gN, 0, none⟩) nm c2) nm (stCells names) := by have := hp.own; rw [HNM.out] at this; exact this
              have hst := hou.stored 0 (.string s)
              have hpk : (Pk7 w.heap.size w2.heap.size (.slice (some ⟨gN, 0, none⟩) nm c2) (.slice A3 rows.length c3) names rows) (w'.setCell ⟨gN, 0, none⟩ (.string s)) := by
                have ho : (w'.setCell ⟨gN, 0, none⟩ (.string s)).ownsRow w.heap.size 9 1 (.slice (some ⟨gN, 0, none⟩) nm c2) (names.set 0 s).length (stCells (names.set 0 s)) := by
                  rw [List.length_set, HNM.out]
                  have := hst.1
                  unfold stCells at this ⊢
                  rw [List.map_set]
                  exact this
                exact ⟨s, hs9, hp.grewN hst.2 ho⟩
              refine ⟨⟨gN, 0, none⟩, _, .string s, h1, h2, own_cell0 hp.own hs0, own_frozen hou 0, rfl, hpk, ⟨Chg.setCell _ (Or.inr rfl) _, fun _ => hpk⟩, ?_, ?_, ?_, fun hf => ?_⟩
              · exact (hc.rc.touch (lo := gN) (hi := gN + 1) ((Touch.refl _ _ _).setCell (p := ⟨gN, 0, none⟩) (Or.inl ⟨Nat.le_refl _, Nat.lt_succ_self _⟩) _) (by have := (hou.lt gN rfl).1; omega)).less (by omega)
              · exact hc.fr.setCell (p := ⟨gN, 0, none⟩) (Or.inr (hou.lt gN rfl).1) _
              · have := hc.up; simpa [World.setCell] using this
              · omega
          · intro a w6 hs hd hr hh hc
            obtain ⟨_, ⟨s, hs9, hG⟩, -⟩ := hh 5 (by decide) rfl
            have rc6 := hc.rc
            have fr6 := hc.fr
            have e0 : a.tmps.getD 0 undef = .pointer (some ⟨R, 0, none⟩) := hr 0 (not_dst (by kernel_rfl))
            have e1 : a.tmps.getD 1 undef = .int .i64 (kind : Int) := hr 1 (not_dst (by kernel_rfl))
            have e2 : a.tmps.getD 2 undef = .int .i64 n := hr 2 (not_dst (by kernel_rfl))
            have e3 : a.tmps.getD 3 undef = U 3 := hr 3 (not_dst (by kernel_rfl))
            have e4 : a.tmps.getD 4 undef = U 4 := hr 4 (not_dst (by kernel_rfl))
            have e5 : a.tmps.getD 5 undef = U 5 := hr 5 (not_dst (by kernel_rfl))
            have e6 : a.tmps.getD 6 undef = .pointer (some ⟨w.heap.size, 0, none⟩) := hr 6 (not_dst (by kernel_rfl))
            have e7 : a.tmps.getD 7 undef = .pointer (some ⟨w2.heap.size, 0, none⟩) := hr 7 (not_dst (by kernel_rfl))
            have e32 : a.tmps.getD 32 undef = .bool true := hr 32 (not_dst (by kernel_rfl))
            have e96 : a.tmps.getD 96 undef = U 96 := hr 96 (not_dst (by kernel_rfl))
            have ea : a = ⟨#[a.tmps.getD 0 undef, a.tmps.getD 1 undef, a.tmps.getD 2 undef, a.tmps.getD 3 undef, a.tmps.getD 4 undef, a.tmps.getD 5 undef, a.tmps.getD 6 undef, a.tmps.getD 7 undef, a.tmps.getD 8 undef, a.tmps.getD 9 undef, a.tmps.getD 10 undef, a.tmps.getD 11 undef, a.tmps.getD 12 undef, a.tmps.getD 13 undef, a.tmps.getD 14 undef, a.tmps.getD 15 undef, a.tmps.getD 16 undef, a.tmps.getD 17 undef, a.tmps.getD 18 undef, a.tmps.getD 19 undef, a.tmps.getD 20 undef, a.tmps.getD 21 undef, a.tmps.getD 22 undef, a.tmps.getD 23 undef, a.tmps.getD 24 undef, a.tmps.getD 25 undef, a.tmps.getD 26 undef, a.tmps.getD 27 undef, a.tmps.getD 28 undef, a.tmps.getD 29 undef, a.tmps.getD 30 undef, a.tmps.getD 31 undef, a.tmps.getD 32 undef, a.tmps.getD 33 undef, a.tmps.getD 34 undef, a.tmps.getD 35 undef, a.tmps.getD 36 undef, a.tmps.getD 37 undef, a.tmps.getD 38 undef, a.tmps.getD 39 undef, a.tmps.getD 40 undef, a.tmps.getD 41 undef, a.tmps.getD 42 undef, a.tmps.getD 43 undef, a.tmps.getD 44 undef, a.tmps.getD 45 undef, a.tmps.getD 46 undef, a.tmps.getD 47 undef, a.tmps.getD 48 undef, a.tmps.getD 49 undef, a.tmps.getD 50 undef, a.tmps.getD 51 undef, a.tmps.getD 52 undef, a.tmps.getD 53 undef, a.tmps.getD 54 undef, a.tmps.getD 55 undef, a.tmps.getD 56 undef, a.tmps.getD 57 undef, a.tmps.getD 58 undef, a.tmps.getD 59 undef, a.tmps.getD 60 undef, a.tmps.getD 61 undef, a.tmps.getD 62 undef, a.tmps.getD 63 undef, a.tmps.getD 64 undef, a.tmps.getD 65 undef, a.tmps.getD 66 undef, a.tmps.getD 67 undef, a.tmps.getD 68 undef, a.tmps.getD 69 undef, a.tmps.getD 70 undef, a.tmps.getD 71 undef, a.tmps.getD 72 undef, a.tmps.getD 73 undef, a.tmps.getD 74 undef, a.tmps.getD 75 undef, a.tmps.getD 76 undef, a.tmps.getD 77 undef, a.tmps.getD 78 undef, a.tmps.getD 79 undef, a.tmps.getD 80 undef, a.tmps.getD 81 undef, a.tmps.getD 82 undef, a.tmps.getD 83 undef, a.tmps.getD 84 undef, a.tmps.getD 85 undef, a.tmps.getD 86 undef, a.tmps.getD 87 undef, a.tmps.getD 88 undef, a.tmps.getD 89 undef, a.tmps.getD 90 undef, a.tmps.getD 91 undef, a.tmps.getD 92 undef, a.tmps.getD 93 undef, a.tmps.getD 94 undef, a.tmps.getD 95 undef, a.tmps.getD 96 undef], []⟩ := act_lit 97 hs hd
            rw [e0, e1, e2, e3, e4, e5, e6, e7, e32, e96] at ea
            obtain ⟨U', hU'⟩ : ∃ U' : Nat → Value, ∀ i, a.tmps.getD i undef = U' i := ⟨_, fun _ => rfl⟩
            simp only [hU'] at ea
            clear hs hd hr hh hU' e0 e1 e2 e3 e4 e5 e6 e7 e32 e96
            subst ea
            go_wp2_with fail
            go_meet
            case rel =>
              exact ⟨_, _, names.set 0 s, rows, hG, ⟨by rw [List.length_set, HNM.out]; omega, fun x hx => by
                rcases List.mem_or_eq_of_mem_set hx with h | rfl
                · have := hl5 x h; omega
                · exact hs9, hrl', fun r hr => by have := hrw r hr; rw [HNM.out] at this; omega⟩, rc6.less (by omega), fr6⟩
        · obtain ⟨gN, rfl, s0, hs0, cs0⟩ : ∃ gN, A2 = some ⟨gN, 0, none⟩ ∧ ∃ s0, names[0]? = some s0 ∧ w5.cell? ⟨gN, 0, none⟩ = some (.string s0) := by
            rcases own_cases HT.out.own with ⟨_, h0, _⟩ | ⟨g, cap, e⟩
            · omega
            · injection e with e1 e2 e3
              subst e1
              obtain ⟨ad, s0, hA, hgb, hs0, cs0⟩ := st_at (Reads.of_own HT.out.own) rfl (show 0 < names.length by omega)
              injection hA with hA
              subst hA
              exact ⟨g, rfl, s0, hs0, by simpa [Addr.add] using cs0⟩
          have oN := HT.out.own
          have hnl : (stCells names).length = names.length := stCells_length _
          generalize hnm : names.length = nm at HT x0 oN hl1 hl3 hnl ⊢
          have HNM := Lib.hid hnm
          clear hnm
          have hn0 : (0 : Int) < (nm : Int) := by omega
          have hn1 : 0 < nm := by omega
          have hgN : gN < w5.heap.size := (oN.lt gN rfl).2
          go_wp2_with fail
          refine wp_region_typed (by kernel_rfl) (fun _ => true) (lift <| app9V w.heap.size w2.heap.size gN nm c2 (.slice A3 rows.length c3) s0 names rows) (S10 (fun k => k = w2.heap.size ∨ k = gN) (fun w' cn v => TabG w' w.heap.size w2.heap.size cn (.slice A3 rows.length c3) v (.slice A3 rows.length c3) (names ++ [s0]) rows)) (C10 R (B + 1900) w w5 (fun w' => TabS w' w.heap.size w2.heap.size (.slice (some ⟨gN, 0, none⟩) nm c2) (.slice A3 rows.length c3) names rows)) (by kernel_rfl) ?_ ?_ ?_ ?_ (by kernel_rfl) ?_
          · refine stabS ?_
            intro i j v wP wQ hij hna _ hv hs
            unfold app9V at hv ⊢
            split at hv <;> first | exact hv | skip
            · obtain ⟨g, e, hn, hc⟩ := hv
              exact ⟨g, e, hn, (hs.1.cell (World.block_lt_of_cell? _ _ hc) hn).trans hc⟩
            · obtain ⟨cn, hG, hsl⟩ := hv
              by_cases h9 : j = 9
              · obtain ⟨cn', h'⟩ := hs.2.2 h9 cn v hG
                exact ⟨cn', h', hsl⟩
              · exact ⟨cn, hs.2.1 (fun e => hij e.symm) h9 cn v hG, hsl⟩
            · obtain ⟨u, hG, hsl⟩ := hv
              by_cases h7 : j = 7
              · exact absurd h7.symm (hna _ rfl ⟨7, .data⟩ (by simp) rfl)
              · exact ⟨u, hs.2.1 h7 (fun e => hij e.symm) u u hG, hsl⟩
          · exact dst_lt (n := 97) (by kernel_rfl)
          · exact ⟨HR.out.1, HR.out.2.drew, Nat.le_refl _, fun _ => HT.out.drew⟩
          · refine ok_all ⟨?_, ?_, ?_, ?_, ?_, ?_, ?_, ?_, ?_, ?_, trivial⟩
            · refine ok_valueS (fun w => S10.refl w) (fun f w h => h.less) (fun f listed a w' hl hc hs hr hh => ⟨.pointer (some ⟨w2.heap.size, 0, none⟩), ?_, rfl⟩)
              have h0 : a.tmps.getD 7 undef = .pointer (some ⟨w2.heap.size, 0, none⟩) := hr 7 (not_dst (by kernel_rfl))
              simp [execOp, Act.eval, h0, field30 w2.heap.size w' 0 (by decide)]
            · refine ok_readS (fun w => S10.refl w) (fun f w h => h.less) rfl (fun w => by simp [go_sem]) (fun f listed a w' hl hc hs hr hh => ?_)
              obtain ⟨_, rfl, h1⟩ := hh ⟨0, .data⟩ (by simp) rfl
              have h1 := h1 46 rfl
              have hp := hc.pre (hl.low3 (by decide) rfl (hl.later (k := 8) rfl ⟨1, .phase⟩ (by simp) rfl rfl) (hl.later (k := 9) rfl ⟨1, .phase⟩ (by simp) rfl rfl))
              exact ⟨_, _, h1, hp.blk.cell 0, rfl⟩
            · refine ok_valueS (fun w => S10.refl w) (fun f w h => h.less) (fun f listed a w' hl hc hs hr hh => ⟨.pointer (some ⟨w2.heap.size, 0, none⟩), ?_, rfl⟩)
              have h0 : a.tmps.getD 7 undef = .pointer (some ⟨w2.heap.size, 0, none⟩) := hr 7 (not_dst (by kernel_rfl))
              simp [execOp, Act.eval, h0, field30 w2.heap.size w' 0 (by decide)]
            · refine ok_readS (fun w => S10.refl w) (fun f w h => h.less) rfl (fun w => by simp [go_sem]) (fun f listed a w' hl hc hs hr hh => ?_)
              obtain ⟨_, rfl, h1⟩ := hh ⟨2, .data⟩ (by simp) rfl
              have h1 := h1 48 rfl
              have hp := hc.pre (hl.low3 (by decide) rfl (hl.later (k := 8) rfl ⟨3, .phase⟩ (by simp) rfl rfl) (hl.later (k := 9) rfl ⟨3, .phase⟩ (by simp) rfl rfl))
              exact ⟨_, _, h1, hp.blk.cell 0, rfl⟩
            · intro f listed a w' hl hc hs hr hh
              obtain ⟨_, rfl, h1⟩ := hh ⟨3, .data⟩ (by simp) rfl
              have h1 := h1 49 rfl
              exact op_index (i := 0) rfl Tryd.underlying23 (by kernel_rfl) h1 rfl hn1 ⟨_, rfl, rfl, S10.refl _, hc.less⟩
            · refine ok_readS (fun w => S10.refl w) (fun f w h => h.less) rfl (fun w => by simp [go_sem]) (fun f listed a w' hl hc hs hr hh => ?_)
              obtain ⟨_, rfl, h1⟩ := hh ⟨4, .data⟩ (by simp) rfl
              have h1 := h1 50 rfl
              have hp := hc.pre (hl.low3 (by decide) rfl (hl.later (k := 8) rfl ⟨5, .phase⟩ (by simp) rfl rfl) (hl.later (k := 9) rfl ⟨5, .phase⟩ (by simp) rfl rfl))
              exact ⟨_, _, h1, own_cell0 hp.own hs0, rfl⟩
            · intro f listed a w' hl hc hs hr hh
              obtain ⟨_, rfl, h1⟩ := hh ⟨5, .data⟩ (by simp) rfl
              have h1 := h1 51 rfl
              have hw' := hc.up
              refine wp_buildSlice 23 9 1 _ rfl #[.string s0] is _ Tryd.underlying23 his hsz (by rw [hss]; decide) (by rw [hss]; decide) ?_ ⟨_, rfl, ⟨w'.heap.size, rfl, ?_, (Blk.new w' 9 #[.string s0]).cell 0⟩, ⟨(Chg.refl _).alloc _, fun _ _ cn v h => h.alloc _, fun h => by cases h⟩, ⟨hc.rc.alloc _, hc.fr.alloc _, Nat.le_trans hc.up (by simp), fun h3 => (hc.pre (by omega)).alloc _⟩⟩
              · rw [hss]
                simp only [List.map_toArray, List.map_cons, List.map_nil, Act.eval, h1]
                kernel_rfl
              · have := HT.out.blk.lt
                have := hgN
                show ¬ (w'.heap.size = w2.heap.size ∨ w'.heap.size = gN)
                omega
            · intro f listed a w' hl hc hs hr hh
              obtain ⟨_, rfl, h1⟩ := hh ⟨1, .data⟩ (by simp) rfl
              have h1 := h1 47 rfl
              obtain ⟨_, ⟨g6, rfl, hg6, hc6⟩, h2⟩ := hh ⟨6, .data⟩ (by simp) rfl
              have h2 := h2 52 rfl
              have l1 := hl.aft ⟨1, .data⟩ (by simp) rfl
              have l6 := hl.aft ⟨6, .data⟩ (by simp) rfl
              have l0 := hl.closed 1 _ l1 rfl ⟨0, .data⟩ (by simp) rfl
              have l5 := hl.closed 6 _ l6 rfl ⟨5, .data⟩ (by simp) rfl
              have l4 := hl.closed 5 _ l5 rfl ⟨4, .data⟩ (by simp) rfl
              have l3 := hl.closed 4 _ l4 rfl ⟨3, .data⟩ (by simp) rfl
              have l2 := hl.closed 3 _ l3 rfl ⟨2, .data⟩ (by simp) rfl
              have hup := hl.upto 7 rfl (by decide) (fun k hk => by
                match k, hk with
                | 0, _ => exact l0
                | 1, _ => exact l1
                | 2, _ => exact l2
                | 3, _ => exact l3
                | 4, _ => exact l4
                | 5, _ => exact l5
                | 6, _ => exact l6)
              have hp := hc.pre (hl.low3 (by decide) rfl (hl.later (k := 8) rfl ⟨7, .phase⟩ (by simp) rfl rfl) (hl.later (k := 9) rfl ⟨7, .phase⟩ (by simp) rfl rfl))
              have hw' := hc.up
              have hpo : w'.ownsRow w.heap.size 9 1 (.slice (some ⟨gN, 0, none⟩) nm c2) nm (stCells names) := by have := hp.own; rw [HNM.out] at this; exact this
              refine wp_append_lies _ (.tmp 47) (.tmp 52) 23 rfl w.heap.size 9 is _ 1 16 Tryd.underlying23 his hsz hss hsb rfl (by decide) _ _ _ h1 hpo ⟨g6, 0, none⟩ 1 1 [.string s0] h2 rfl (fun j u hj => ?_) (oneCells rfl) (by omega) (by unfold maxLen; omega) (by omega) (by omega) _ rfl (fun gA cA wA ho hg hd hgl => ?_)
              · match j, hj with
                | 0, hj => simp at hj; subst hj; simpa [Addr.add] using hc6
              · have ho' : wA.ownsRow w.heap.size 9 1 (.slice (some ⟨gA, 0, none⟩) (nm + 1) cA) (names ++ [s0]).length (stCells (names ++ [s0])) := by
                  rw [stCells_append, List.length_append, HNM.out]; exact ho
                refine ⟨_, rfl, ⟨_, hp.grewN hg ho', _, _, rfl⟩, ⟨⟨hg.size, fun k hk hn => hg.block k hk (fun e => hn (Or.inr (by simpa [Value.ownBlock] using e)))⟩, fun h => absurd rfl h, fun h => by cases h⟩, ⟨?_, hc.fr.grown hg (fun g e => Or.inr (hpo.lt g e).1), Nat.le_trans hc.up hg.size, fun h3 => by omega⟩⟩
                exact hc.rc.touch (Touch.of_grown (lo := w.heap.size) (hi := w'.heap.size) hg (fun g e => hpo.lt g e)) hRw
            · refine ok_valueS (fun w => S10.refl w) (fun f w h => h.less) (fun f listed a w' hl hc hs hr hh => ⟨.pointer (some ⟨w2.heap.size, 0, none⟩), ?_, rfl⟩)
              have h0 : a.tmps.getD 7 undef = .pointer (some ⟨w2.heap.size, 0, none⟩) := hr 7 (not_dst (by kernel_rfl))
              simp [execOp, Act.eval, h0, field30 w2.heap.size w' 0 (by decide)]
            · refine ok_storeS rfl (by kernel_rfl) (fun f listed a w' hl hc hs hr hh => ?_)
              obtain ⟨_, rfl, h1⟩ := hh ⟨8, .data⟩ (by simp) rfl
              have h1 := h1 54 rfl
              obtain ⟨_, ⟨cn, hG, Af, cf, rfl⟩, h2⟩ := hh ⟨7, .data⟩ (by simp) rfl
              have h2 := h2 53 rfl
              have hup := hl.upto 9 rfl (by decide) (fun k hk => by
                match k, hk with
                | 0, _ => exact hl.aft ⟨0, .phase⟩ (by simp) rfl
                | 1, _ => exact hl.aft ⟨1, .phase⟩ (by simp) rfl
                | 2, _ => exact hl.aft ⟨2, .phase⟩ (by simp) rfl
                | 3, _ => exact hl.aft ⟨3, .phase⟩ (by simp) rfl
                | 4, _ => exact hl.aft ⟨4, .phase⟩ (by simp) rfl
                | 5, _ => exact hl.aft ⟨5, .phase⟩ (by simp) rfl
                | 6, _ => exact hl.aft ⟨6, .phase⟩ (by simp) rfl
                | 7, _ => exact hl.aft ⟨7, .data⟩ (by simp) rfl
                | 8, _ => exact hl.aft ⟨8, .data⟩ (by simp) rfl)
              refine ⟨_, _, _, h1, h2, hG.blk.cell 0, hG.blk.frozen 0, rfl, ⟨_, hG.setN hT0 _, _, _, rfl⟩, ⟨Chg.setCell _ (Or.inl rfl) _, fun _ h => absurd rfl h, fun _ cn' v h => ⟨_, h.setN hT0 _⟩⟩, ?_, ?_, ?_, fun h3 => by omega⟩
              · exact hc.rc.touch (lo := w2.heap.size) (hi := w2.heap.size + 1) ((Touch.refl _ _ _).setCell (p := ⟨w2.heap.size, 0, none⟩) (Or.inl ⟨Nat.le_refl _, Nat.lt_succ_self _⟩) _) (by omega)
              · exact hc.fr.setCell (p := ⟨w2.heap.size, 0, none⟩) (Or.inr (by show w.heap.size ≤ w2.heap.size; omega)) _
              · have := hc.up; simpa [World.setCell] using this
          · intro a w6 hs hd hr hh hc
            obtain ⟨_, ⟨u, hG, A7, c7, rfl⟩, -⟩ := hh 9 (by decide) rfl
            have rc6 := hc.rc
            have fr6 := hc.fr
            have e0 : a.tmps.getD 0 undef = .pointer (some ⟨R, 0, none⟩) := hr 0 (not_dst (by kernel_rfl))
            have e1 : a.tmps.getD 1 undef = .int .i64 (kind : Int) := hr 1 (not_dst (by kernel_rfl))
            have e2 : a.tmps.getD 2 undef = .int .i64 n := hr 2 (not_dst (by kernel_rfl))
            have e3 : a.tmps.getD 3 undef = U 3 := hr 3 (not_dst (by kernel_rfl))
            have e4 : a.tmps.getD 4 undef = U 4 := hr 4 (not_dst (by kernel_rfl))
            have e5 : a.tmps.getD 5 undef = U 5 := hr 5 (not_dst (by kernel_rfl))
            have e6 : a.tmps.getD 6 undef = .pointer (some ⟨w.heap.size, 0, none⟩) := hr 6 (not_dst (by kernel_rfl))
            have e7 : a.tmps.getD 7 undef = .pointer (some ⟨w2.heap.size, 0, none⟩) := hr 7 (not_dst (by kernel_rfl))
            have e32 : a.tmps.getD 32 undef = .bool true := hr 32 (not_dst (by kernel_rfl))
            have e96 : a.tmps.getD 96 undef = U 96 := hr 96 (not_dst (by kernel_rfl))
            have ea : a = ⟨#[a.tmps.getD 0 undef, a.tmps.getD 1 undef, a.tmps.getD 2 undef, a.tmps.getD 3 undef, a.tmps.getD 4 undef, a.tmps.getD 5 undef, a.tmps.getD 6 undef, a.tmps.getD 7 undef, a.tmps.getD 8 undef, a.tmps.getD 9 undef, a.tmps.getD 10 undef, a.tmps.getD 11 undef, a.tmps.getD 12 undef, a.tmps.getD 13 undef, a.tmps.getD 14 undef, a.tmps.getD 15 undef, a.tmps.getD 16 undef, a.tmps.getD 17 undef, a.tmps.getD 18 undef, a.tmps.getD 19 undef, a.tmps.getD 20 undef, a.tmps.getD 21 undef, a.tmps.getD 22 undef, a.tmps.getD 23 undef, a.tmps.getD 24 undef, a.tmps.getD 25 undef, a.tmps.getD 26 undef, a.tmps.getD 27 undef, a.tmps.getD 28 undef, a.tmps.getD 29 undef, a.tmps.getD 30 undef, a.tmps.getD 31 undef, a.tmps.getD 32 undef, a.tmps.getD 33 undef, a.tmps.getD 34 undef, a.tmps.getD 35 undef, a.tmps.getD 36 undef, a.tmps.getD 37 undef, a.tmps.getD 38 undef, a.tmps.getD 39 undef, a.tmps.getD 40 undef, a.tmps.getD 41 undef, a.tmps.getD 42 undef, a.tmps.getD 43 undef, a.tmps.getD 44 undef, a.tmps.getD 45 undef, a.tmps.getD 46 undef, a.tmps.getD 47 undef, a.tmps.getD 48 undef, a.tmps.getD 49 undef, a.tmps.getD 50 undef, a.tmps.getD 51 undef, a.tmps.getD 52 undef, a.tmps.getD 53 undef, a.tmps.getD 54 undef, a.tmps.getD 55 undef, a.tmps.getD 56 undef, a.tmps.getD 57 undef, a.tmps.getD 58 undef, a.tmps.getD 59 undef, a.tmps.getD 60 undef, a.tmps.getD 61 undef, a.tmps.getD 62 undef, a.tmps.getD 63 undef, a.tmps.getD 64 undef, a.tmps.getD 65 undef, a.tmps.getD 66 undef, a.tmps.getD 67 undef, a.tmps.getD 68 undef, a.tmps.getD 69 undef, a.tmps.getD 70 undef, a.tmps.getD 71 undef, a.tmps.getD 72 undef, a.tmps.getD 73 undef, a.tmps.getD 74 undef, a.tmps.getD 75 undef, a.tmps.getD 76 undef, a.tmps.getD 77 undef, a.tmps.getD 78 undef, a.tmps.getD 79 undef, a.tmps.getD 80 undef, a.tmps.getD 81 undef, a.tmps.getD 82 undef, a.tmps.getD 83 undef, a.tmps.getD 84 undef, a.tmps.getD 85 undef, a.tmps.getD 86 undef, a.tmps.getD 87 undef, a.tmps.getD 88 undef, a.tmps.getD 89 undef, a.tmps.getD 90 undef, a.tmps.getD 91 undef, a.tmps.getD 92 undef, a.tmps.getD 93 undef, a.tmps.getD 94 undef, a.tmps.getD 95 undef, a.tmps.getD 96 undef], []⟩ := act_lit 97 hs hd
            rw [e0, e1, e2, e3, e4, e5, e6, e7, e32, e96] at ea
            obtain ⟨U', hU'⟩ : ∃ U' : Nat → Value, ∀ i, a.tmps.getD i undef = U' i := ⟨_, fun _ => rfl⟩
            simp only [hU'] at ea
            clear hs hd hr hh hU' e0 e1 e2 e3 e4 e5 e6 e7 e32 e96
            subst ea
            go_wp2_with fail
            go_meet
            case rel =>
              exact ⟨_, _, names ++ [s0], rows, hG, ⟨by rw [List.length_append, HNM.out]; simp; omega, fun x hx => by
                rcases List.mem_append.1 hx with h | h
                · have := hl5 x h; omega
                · simp at h; subst h; have := hl5 x (List.mem_of_getElem? hs0); omega, hrl', fun r hr => by have := hrw r hr; rw [HNM.out] at this; omega⟩, rc6.less (by omega), fr6⟩
        · obtain ⟨j0, hjI, hjz0, hjz1, hjz2⟩ := info_parts infoRow
          obtain ⟨vs, RV⟩ := HT.out.rows
          have RVH := Lib.hid RV
          have hu := Lib.hid ((own_lit w5 w.heap.size 3 [.int .i64 1, .int .i64 2, .int .i64 3, .int .i64 4, .int .i64 5, .int .i64 6, .int .i64 7] hw5 (by unfold maxLen; simp)).alloc (.cells #[.slice (some ⟨w5.heap.size, 0, none⟩) 7 7] 40))
          have oR := (RV.own.alloc (.cells #[.int .i64 1, .int .i64 2, .int .i64 3, .int .i64 4, .int .i64 5, .int .i64 6, .int .i64 7] 3)).alloc (.cells #[.slice (some ⟨w5.heap.size, 0, none⟩) 7 7] 40)
          go_wp2_with (first
            | (at_builtin; refine wpList_append_own_at _ rfl _ _ 24 rfl w.heap.size 40 j0 _ 1 24 Tryd.underlying24 hjI hjz0 hjz1 hjz2 rfl (by decide) _ _ _ rfl oR ⟨w5.heap.size + 1, 0, none⟩ 1 1 [.slice (some ⟨w5.heap.size, 0, none⟩) 7 7] rfl rfl (by have := cells_new (w5.alloc (.cells #[.int .i64 1, .int .i64 2, .int .i64 3, .int .i64 4, .int .i64 5, .int .i64 6, .int .i64 7] 3)) 40 [.slice (some ⟨w5.heap.size, 0, none⟩) 7 7]; rw [World.size_alloc] at this; exact this) (oneCells rfl) (by unfold maxLen; omega) (by omega) (by simp; omega) ?_; intro v' w6 hown' hgrow _ hat; have TG := TabG.pushRow (r := [1, 2, 3, 4, 5, 6, 7]) ((HT.out.alloc _).alloc _) ((RVH.out.alloc _).alloc _) (by simp; omega) hu.out (fun g e => by simp [Value.ownBlock] at e; omega) hgrow hown' hat; have hsg := hgrow.size; have RG := Lib.hid (And.intro (((HR.out.1.alloc _).alloc _).touch (Touch.of_grown (lo := w.heap.size) (hi := w5.heap.size + 2) hgrow (fun g e => ⟨(oR.lt g e).1, by have := (oR.lt g e).2; simp at this; omega⟩)) hRw) (((HR.out.2.alloc _).alloc _).grown hgrow (fun g e => Or.inr (oR.lt g e).1))); clear hat; have y1 := TG.blk.cell 1; have g1 := TG.blk.frozen 1; simp at y1; obtain ⟨A6, c6, rfl, _, _⟩ := own_form hown'; have TGH := Lib.hid TG; clear TG hown' hgrow))
          go_meet
          case rel => exact ⟨_, _, names, _, TGH.out.setR hT0 _, ⟨by omega, fun x hx => by have := hl5 x hx; omega, by simp; omega, fun r hr => by rcases List.mem_append.1 hr with h | h; (· have := hrw r h; omega); (· simp at h; subst h; simp)⟩, (RG.out.1.touch (lo := w2.heap.size) (hi := w2.heap.size + 1) ((Touch.refl _ _ _).setCell (p := ⟨w2.heap.size, 1, none⟩) (Or.inl ⟨Nat.le_refl _, Nat.lt_succ_self _⟩) _) (by omega)).less (by omega), RG.out.2.setCell (p := ⟨w2.heap.size, 1, none⟩) (Or.inr (by show w.heap.size ≤ w2.heap.size; omega)) _⟩
        · go_wp2_with fail
          refine (rows_c R (B + 1000) names.length 17 _ (HR.out.1.less (by omega)) (by omega) (by omega)).mono ?_
          rintro e w6 ⟨v, rows', rfl, ⟨vs, hv⟩, hrl2, hrw2, rc6, t6⟩
          have TS6 := HT.out.touch t6 hRw hRT
          have fr6 := HR.out.2.trans t6
          have hT6 := TS6.blk.lt
          have z1 := TS6.blk.cell 1
          have g1 := TS6.blk.frozen 1
          simp at z1
          obtain ⟨A6, c6, rfl, _, _⟩ := hv.form
          have T6' := TS6.asR ⟨vs, hv.low hw5⟩
          rw [show (Value.slice A6 rows'.length c6) = .slice A6 17 c6 by rw [hrl2]] at T6'
          have HT6 := Lib.hid T6'
          clear T6'
          have HR6 := Lib.hid (And.intro rc6 fr6)
          clear TS6 fr6 rc6 t6 x0 x1 f0 f1 hv
          go_wp2_with fail
          go_meet
          case rel => exact ⟨_, _, names, rows', HT6.out.setR hT0 _, ⟨by omega, fun x hx => by have := hl5 x hx; omega, by omega, fun r hr => by have := hrw2 r hr; omega⟩, (HR6.out.1.touch (lo := w2.heap.size) (hi := w2.heap.size + 1) ((Touch.refl _ _ _).setCell (p := ⟨w2.heap.size, 1, none⟩) (Or.inl ⟨Nat.le_refl _, Nat.lt_succ_self _⟩) _) (by omega)).less (by omega), HR6.out.2.setCell (p := ⟨w2.heap.size, 1, none⟩) (Or.inr (by show w.heap.size ≤ w2.heap.size; omega)) _⟩
        · obtain ⟨j0, hjI, hjz0, hjz1, hjz2⟩ := info_parts infoRow
          go_wp2_with fail
          refine wp_region_typed (by kernel_rfl) (fun _ => true) (lift <| app15V w.heap.size w2.heap.size (.slice A2 names.length c2) (.slice A3 rows.length c3) w5.heap.size names rows) (S10 (N15 w2.heap.size (.slice A3 rows.length c3)) (fun w' cr v => TabG w' w.heap.size w2.heap.size (.slice A2 names.length c2) cr (.slice A2 names.length c2) v names (rows ++ [List.replicate names.length 0]))) (C10 R (B + 1900) w w5 (fun w' => TabS w' w.heap.size w2.heap.size (.slice A2 names.length c2) (.slice A3 rows.length c3) names rows ∧ ∃ vs, RowsV w' w.heap.size w5.heap.size (.slice A3 rows.length c3) vs rows)) (by kernel_rfl) ?_ ?_ ?_ ?_ (by kernel_rfl) ?_
          · refine stabS ?_
            intro i j v wP wQ hij hna _ hv hs
            have hrb : ∀ g, w5.heap.size ≤ g → ¬ (N15 w2.heap.size (.slice A3 rows.length c3)) g := fun g hg hn => by
              rcases hn with h | h
              · omega
              · have := (HT.out.rows.choose_spec.own.lt g h).2; omega
            unfold app15V at hv ⊢
            split at hv <;> first | exact hv | skip
            · obtain ⟨g, e, hn, ho⟩ := hv
              refine ⟨g, e, hn, hs.1.own ho (fun g' e' => ?_)⟩
              subst e
              simp [Value.ownBlock] at e'
              subst e'
              exact hrb g hn
            · obtain ⟨g, g5, e, hn, hc, hg5, ho⟩ := hv
              refine ⟨g, g5, e, hn, (hs.1.cell (World.block_lt_of_cell? _ _ hc) (hrb g hn)).trans hc, hg5, hs.1.own ho (fun g' e' => ?_)⟩
              simp [Value.ownBlock] at e'
              subst e'
              exact hrb g5 hg5
            · obtain ⟨cn, hG, hsl⟩ := hv
              by_cases h9 : j = 9
              · obtain ⟨cn', h'⟩ := hs.2.2 h9 cn v hG
                exact ⟨cn', h', hsl⟩
              · exact ⟨cn, hs.2.1 (fun e => hij e.symm) h9 cn v hG, hsl⟩
            · obtain ⟨u, hG, hsl⟩ := hv
              by_cases h7 : j = 7
              · exact absurd h7.symm (hna _ rfl ⟨7, .data⟩ (by simp) rfl)
              · exact ⟨u, hs.2.1 h7 (fun e => hij e.symm) u u hG, hsl⟩
          · exact dst_lt (n := 97) (by kernel_rfl)
          · exact ⟨HR.out.1, HR.out.2.drew, Nat.le_refl _, fun _ => ⟨HT.out.drew, HT.out.drew.rows⟩⟩
          · refine ok_all ⟨?_, ?_, ?_, ?_, ?_, ?_, ?_, ?_, ?_, ?_, trivial⟩
            · refine ok_valueS (fun w => S10.refl w) (fun f w h => h.less) (fun f listed a w' hl hc hs hr hh => ⟨.pointer (some ⟨w2.heap.size, 1, none⟩), ?_, rfl⟩)
              have h0 : a.tmps.getD 7 undef = .pointer (some ⟨w2.heap.size, 0, none⟩) := hr 7 (not_dst (by kernel_rfl))
              simp [execOp, Act.eval, h0, field30 w2.heap.size w' 1 (by decide)]
            · refine ok_readS (fun w => S10.refl w) (fun f w h => h.less) rfl (fun w => by simp [go_sem]) (fun f listed a w' hl hc hs hr hh => ?_)
              obtain ⟨_, rfl, h1⟩ := hh ⟨0, .data⟩ (by simp) rfl
              have h1 := h1 73 rfl
              have hp := hc.pre (hl.low3 (by decide) rfl (hl.later (k := 8) rfl ⟨1, .phase⟩ (by simp) rfl rfl) (hl.later (k := 9) rfl ⟨1, .phase⟩ (by simp) rfl rfl))
              exact ⟨_, _, h1, hp.1.blk.cell 1, rfl⟩
            · refine ok_valueS (fun w => S10.refl w) (fun f w h => h.less) (fun f listed a w' hl hc hs hr hh => ⟨.pointer (some ⟨w2.heap.size, 0, none⟩), ?_, rfl⟩)
              have h0 : a.tmps.getD 7 undef = .pointer (some ⟨w2.heap.size, 0, none⟩) := hr 7 (not_dst (by kernel_rfl))
              simp [execOp, Act.eval, h0, field30 w2.heap.size w' 0 (by decide)]
            · refine ok_readS (fun w => S10.refl w) (fun f w h => h.less) rfl (fun w => by simp [go_sem]) (fun f listed a w' hl hc hs hr hh => ?_)
              obtain ⟨_, rfl, h1⟩ := hh ⟨2, .data⟩ (by simp) rfl
              have h1 := h1 75 rfl
              have hp := hc.pre (hl.low3 (by decide) rfl (hl.later (k := 8) rfl ⟨3, .phase⟩ (by simp) rfl rfl) (hl.later (k := 9) rfl ⟨3, .phase⟩ (by simp) rfl rfl))
              exact ⟨_, _, h1, hp.1.blk.cell 0, rfl⟩
            · refine ok_valueS (fun w => S10.refl w) (fun f w h => h.less) (fun f listed a w' hl hc hs hr hh => ⟨.int .i64 (names.length : Int), ?_, rfl⟩)
              obtain ⟨_, rfl, h1⟩ := hh ⟨3, .data⟩ (by simp) rfl
              have h1 := h1 76 rfl
              simp [execOp, go_sem, Act.eval, h1]
            · intro f listed a w' hl hc hs hr hh
              obtain ⟨_, rfl, h1⟩ := hh ⟨4, .data⟩ (by simp) rfl
              have h1 := h1 77 rfl
              have hw' := hc.up
              obtain ⟨wm, hrun, r1, r2⟩ := run_make_full (P := Tryd.prog) w' w.heap.size 40 3 ii _ 1 Tryd.underlying40 hii hiz his' .i64 .i64 names.length (by rw [iib]; omega) (by unfold maxLen; omega) (by omega)
              have hb := grown_none_below r2
              have e0 : (madeCells (Value.int IntKind.i64 0).cells (names.length * 1)).toList = inCells (List.replicate names.length 0) := by
                rw [Nat.mul_one]
                exact (toList_madeCells_one _ _).trans (by simp [inCells])
              rw [e0] at r1
              unfold Oper.wp
              simp [execOp, Act.eval, h1, hrun, Result.andThen, Oper.upon]
              refine ⟨_, rfl, ⟨w'.heap.size, rfl, by omega, r1⟩, ⟨⟨r2.size, fun k hk _ => r2.block k hk (by simp)⟩, fun _ _ cn v h => h.below hb, fun h => by cases h⟩, ⟨hc.rc.below hb, hc.fr.then_below hb, Nat.le_trans hc.up r2.size, fun h3 => ?_⟩⟩
              obtain ⟨p1, vs, p2⟩ := hc.pre (by omega)
              exact ⟨p1.below hb, vs, p2.below hb⟩
            · intro f listed a w' hl hc hs hr hh
              obtain ⟨_, ⟨g5, rfl, hg5, ho5⟩, h1⟩ := hh ⟨5, .data⟩ (by simp) rfl
              have h1 := h1 78 rfl
              have hw' := hc.up
              refine wp_buildSlice 24 40 1 _ rfl #[.slice (some ⟨g5, 0, none⟩) names.length names.length] j0 _ Tryd.underlying24 hjI hjz0 (by rw [hjz1]; decide) (by rw [hjz1]; decide) ?_ ⟨_, rfl, ⟨w'.heap.size, g5, rfl, by omega, (Blk.new w' 40 #[.slice (some ⟨g5, 0, none⟩) names.length names.length]).cell 0, hg5, ho5.alloc _⟩, ⟨(Chg.refl _).alloc _, fun _ _ cn v h => h.alloc _, fun h => by cases h⟩, ⟨hc.rc.alloc _, hc.fr.alloc _, Nat.le_trans hc.up (by simp), fun h3 => ?_⟩⟩
              · rw [hjz1]
                simp only [List.map_toArray, List.map_cons, List.map_nil, Act.eval, h1]
                kernel_rfl
              · obtain ⟨p1, vs, p2⟩ := hc.pre (by omega)
                exact ⟨p1.alloc _, vs, p2.alloc _⟩
            · intro f listed a w' hl hc hs hr hh
              obtain ⟨_, rfl, h1⟩ := hh ⟨1, .data⟩ (by simp) rfl
              have h1 := h1 74 rfl
              obtain ⟨_, ⟨g6, g5, rfl, hg6, hc6, hg5, ho5⟩, h2⟩ := hh ⟨6, .data⟩ (by simp) rfl
              have h2 := h2 79 rfl
              have l1 := hl.aft ⟨1, .data⟩ (by simp) rfl
              have l6 := hl.aft ⟨6, .data⟩ (by simp) rfl
              have l0 := hl.closed 1 _ l1 rfl ⟨0, .data⟩ (by simp) rfl
              have l5 := hl.closed 6 _ l6 rfl ⟨5, .data⟩ (by simp) rfl
              have l4 := hl.closed 5 _ l5 rfl ⟨4, .data⟩ (by simp) rfl
              have l3 := hl.closed 4 _ l4 rfl ⟨3, .data⟩ (by simp) rfl
              have l2 := hl.closed 3 _ l3 rfl ⟨2, .data⟩ (by simp) rfl
              have hup := hl.upto 7 rfl (by decide) (fun k hk => by
                match k, hk with
                | 0, _ => exact l0
                | 1, _ => exact l1
                | 2, _ => exact l2
                | 3, _ => exact l3
                | 4, _ => exact l4
                | 5, _ => exact l5
                | 6, _ => exact l6)
              obtain ⟨hp, vs, hv⟩ := hc.pre (hl.low3 (by decide) rfl (hl.later (k := 8) rfl ⟨7, .phase⟩ (by simp) rfl rfl) (hl.later (k := 9) rfl ⟨7, .phase⟩ (by simp) rfl rfl))
              have hw' := hc.up
              refine wp_append_lies _ (.tmp 74) (.tmp 79) 24 rfl w.heap.size 40 j0 _ 1 24 Tryd.underlying24 hjI hjz0 hjz1 hjz2 rfl (by decide) _ _ _ h1 hv.own ⟨g6, 0, none⟩ 1 1 [.slice (some ⟨g5, 0, none⟩) names.length names.length] h2 rfl (fun j u hj => ?_) (oneCells rfl) (by omega) (by unfold maxLen; omega) (by omega) (by omega) _ rfl (fun gA cA wA ho hg hd hgl => ?_)
              · match j, hj with
                | 0, hj => simp at hj; subst hj; simpa [Addr.add] using hc6
              · have hu : w'.ownsRow w.heap.size 3 1 (.slice (some ⟨g5, 0, none⟩) names.length names.length) (List.replicate names.length (0 : Int)).length (inCells (List.replicate names.length 0)) := by rw [List.length_replicate]; exact ho5
                have hat : (Value.slice (some ⟨gA, 0, none⟩) (rows.length + 1) cA).ownBlock = (Value.slice A3 rows.length c3).ownBlock ∨ (Value.slice (some ⟨gA, 0, none⟩) (rows.length + 1) cA).ownBlock = some w'.heap.size := by
                  rcases hd with h | h
                  · exact Or.inl (by rw [h]; rfl)
                  · exact Or.inr (by rw [← h]; rfl)
                have TG := hp.pushRow hv hw' hu (fun g e => by simp [Value.ownBlock] at e; omega) hg ho hat
                refine ⟨_, rfl, ⟨_, TG, _, _, rfl⟩, ⟨⟨hg.size, fun k hk hn => hg.block k hk (fun e => hn (Or.inr e.symm))⟩, fun h => absurd rfl h, fun h => by cases h⟩, ⟨?_, hc.fr.grown hg (fun g e => Or.inr (hv.own.lt g e).1), Nat.le_trans hc.up hg.size, fun h3 => by omega⟩⟩
                exact hc.rc.touch (Touch.of_grown (lo := w.heap.size) (hi := w'.heap.size) hg (fun g e => hv.own.lt g e)) hRw
            · refine ok_valueS (fun w => S10.refl w) (fun f w h => h.less) (fun f listed a w' hl hc hs hr hh => ⟨.pointer (some ⟨w2.heap.size, 1, none⟩), ?_, rfl⟩)
              have h0 : a.tmps.getD 7 undef = .pointer (some ⟨w2.heap.size, 0, none⟩) := hr 7 (not_dst (by kernel_rfl))
              simp [execOp, Act.eval, h0, field30 w2.heap.size w' 1 (by decide)]
            · refine ok_storeS rfl (by kernel_rfl) (fun f listed a w' hl hc hs hr hh => ?_)
              obtain ⟨_, rfl, h1⟩ := hh ⟨8, .data⟩ (by simp) rfl
              have h1 := h1 81 rfl
              obtain ⟨_, ⟨cn, hG, Af, cf, rfl⟩, h2⟩ := hh ⟨7, .data⟩ (by simp) rfl
              have h2 := h2 80 rfl
              have hup := hl.upto 9 rfl (by decide) (fun k hk => by
                match k, hk with
                | 0, _ => exact hl.aft ⟨0, .phase⟩ (by simp) rfl
                | 1, _ => exact hl.aft ⟨1, .phase⟩ (by simp) rfl
                | 2, _ => exact hl.aft ⟨2, .phase⟩ (by simp) rfl
                | 3, _ => exact hl.aft ⟨3, .phase⟩ (by simp) rfl
                | 4, _ => exact hl.aft ⟨4, .phase⟩ (by simp) rfl
                | 5, _ => exact hl.aft ⟨5, .phase⟩ (by simp) rfl
                | 6, _ => exact hl.aft ⟨6, .phase⟩ (by simp) rfl
                | 7, _ => exact hl.aft ⟨7, .data⟩ (by simp) rfl
                | 8, _ => exact hl.aft ⟨8, .data⟩ (by simp) rfl)
              refine ⟨_, _, _, h1, h2, hG.blk.cell 1, hG.blk.frozen 1, rfl, ⟨_, hG.setR hT0 _, _, _, rfl⟩, ⟨Chg.setCell _ (Or.inl rfl) _, fun _ h => absurd rfl h, fun _ cn' v h => ⟨_, h.setR hT0 _⟩⟩, ?_, ?_, ?_, fun h3 => by omega⟩
              · exact hc.rc.touch (lo := w2.heap.size) (hi := w2.heap.size + 1) ((Touch.refl _ _ _).setCell (p := ⟨w2.heap.size, 1, none⟩) (Or.inl ⟨Nat.le_refl _, Nat.lt_succ_self _⟩) _) (by omega)
              · exact hc.fr.setCell (p := ⟨w2.heap.size, 1, none⟩) (Or.inr (by show w.heap.size ≤ w2.heap.size; omega)) _
              · have := hc.up; simpa [World.setCell] using this
          · intro a w6 hs hd hr hh hc
            obtain ⟨_, ⟨u, hG, A7, c7, rfl⟩, -⟩ := hh 9 (by decide) rfl
            have rc6 := hc.rc
            have fr6 := hc.fr
            have e0 : a.tmps.getD 0 undef = .pointer (some ⟨R, 0, none⟩) := hr 0 (not_dst (by kernel_rfl))
            have e1 : a.tmps.getD 1 undef = .int .i64 (kind : Int) := hr 1 (not_dst (by kernel_rfl))
            have e2 : a.tmps.getD 2 undef = .int .i64 n := hr 2 (not_dst (by kernel_rfl))
            have e3 : a.tmps.getD 3 undef = U 3 := hr 3 (not_dst (by kernel_rfl))
            have e4 : a.tmps.getD 4 undef = U 4 := hr 4 (not_dst (by kernel_rfl))
            have e5 : a.tmps.getD 5 undef = U 5 := hr 5 (not_dst (by kernel_rfl))
            have e6 : a.tmps.getD 6 undef = .pointer (some ⟨w.heap.size, 0, none⟩) := hr 6 (not_dst (by kernel_rfl))
            have e7 : a.tmps.getD 7 undef = .pointer (some ⟨w2.heap.size, 0, none⟩) := hr 7 (not_dst (by kernel_rfl))
            have e32 : a.tmps.getD 32 undef = .bool true := hr 32 (not_dst (by kernel_rfl))
            have e96 : a.tmps.getD 96 undef = U 96 := hr 96 (not_dst (by kernel_rfl))
            have ea : a = ⟨#[a.tmps.getD 0 undef, a.tmps.getD 1 undef, a.tmps.getD 2 undef, a.tmps.getD 3 undef, a.tmps.getD 4 undef, a.tmps.getD 5 undef, a.tmps.getD 6 undef, a.tmps.getD 7 undef, a.tmps.getD 8 undef, a.tmps.getD 9 undef, a.tmps.getD 10 undef, a.tmps.getD 11 undef, a.tmps.getD 12 undef, a.tmps.getD 13 undef, a.tmps.getD 14 undef, a.tmps.getD 15 undef, a.tmps.getD 16 undef, a.tmps.getD 17 undef, a.tmps.getD 18 undef, a.tmps.getD 19 undef, a.tmps.getD 20 undef, a.tmps.getD 21 undef, a.tmps.getD 22 undef, a.tmps.getD 23 undef, a.tmps.getD 24 undef, a.tmps.getD 25 undef, a.tmps.getD 26 undef, a.tmps.getD 27 undef, a.tmps.getD 28 undef, a.tmps.getD 29 undef, a.tmps.getD 30 undef, a.tmps.getD 31 undef, a.tmps.getD 32 undef, a.tmps.getD 33 undef, a.tmps.getD 34 undef, a.tmps.getD 35 undef, a.tmps.getD 36 undef, a.tmps.getD 37 undef, a.tmps.getD 38 undef, a.tmps.getD 39 undef, a.tmps.getD 40 undef, a.tmps.getD 41 undef, a.tmps.getD 42 undef, a.tmps.getD 43 undef, a.tmps.getD 44 undef, a.tmps.getD 45 undef, a.tmps.getD 46 undef, a.tmps.getD 47 undef, a.tmps.getD 48 undef, a.tmps.getD 49 undef, a.tmps.getD 50 undef, a.tmps.getD 51 undef, a.tmps.getD 52 undef, a.tmps.getD 53 undef, a.tmps.getD 54 undef, a.tmps.getD 55 undef, a.tmps.getD 56 undef, a.tmps.getD 57 undef, a.tmps.getD 58 undef, a.tmps.getD 59 undef, a.tmps.getD 60 undef, a.tmps.getD 61 undef, a.tmps.getD 62 undef, a.tmps.getD 63 undef, a.tmps.getD 64 undef, a.tmps.getD 65 undef, a.tmps.getD 66 undef, a.tmps.getD 67 undef, a.tmps.getD 68 undef, a.tmps.getD 69 undef, a.tmps.getD 70 undef, a.tmps.getD 71 undef, a.tmps.getD 72 undef, a.tmps.getD 73 undef, a.tmps.getD 74 undef, a.tmps.getD 75 undef, a.tmps.getD 76 undef, a.tmps.getD 77 undef, a.tmps.getD 78 undef, a.tmps.getD 79 undef, a.tmps.getD 80 undef, a.tmps.getD 81 undef, a.tmps.getD 82 undef, a.tmps.getD 83 undef, a.tmps.getD 84 undef, a.tmps.getD 85 undef, a.tmps.getD 86 undef, a.tmps.getD 87 undef, a.tmps.getD 88 undef, a.tmps.getD 89 undef, a.tmps.getD 90 undef, a.tmps.getD 91 undef, a.tmps.getD 92 undef, a.tmps.getD 93 undef, a.tmps.getD 94 undef, a.tmps.getD 95 undef, a.tmps.getD 96 undef], []⟩ := act_lit 97 hs hd
            rw [e0, e1, e2, e3, e4, e5, e6, e7, e32, e96] at ea
            obtain ⟨U', hU'⟩ : ∃ U' : Nat → Value, ∀ i, a.tmps.getD i undef = U' i := ⟨_, fun _ => rfl⟩
            simp only [hU'] at ea
            clear hs hd hr hh hU' e0 e1 e2 e3 e4 e5 e6 e7 e32 e96
            subst ea
            go_wp2_with fail
            obtain ⟨vs, RV6⟩ := hG.rows
            obtain ⟨u, hu⟩ : ∃ u, vs[rows.length]? = some u := ⟨_, List.getElem?_eq_getElem (by have := RV6.len; rw [List.length_append] at this; simp at this; omega)⟩
            have hou := RV6.row rows.length u (List.replicate names.length 0) hu (by simp)
            obtain ⟨gU, cU, rfl⟩ : ∃ gU cU, u = .slice (some ⟨gU, 0, none⟩) names.length cU := by
              rcases own_cases hou with ⟨_, h0, _⟩ | ⟨g, cap, e⟩
              · rw [List.length_replicate] at h0; omega
              · rw [List.length_replicate] at e; exact ⟨g, cap, e⟩
            obtain ⟨gR, rfl⟩ : ∃ gR, A7 = some ⟨gR, 0, none⟩ := by
              rcases own_cases RV6.own with ⟨_, h0, _⟩ | ⟨g, cap, e⟩
              · simp at h0
              · simp at e; exact ⟨g, e.1⟩
            have hgU : gU < w6.heap.size := (hou.lt gU rfl).2
            clear hou
            refine wp_region_typed (by kernel_rfl) (fun _ => true) (lift <| app16V R w2.heap.size gR gU rows.length (.slice (some ⟨gR, 0, none⟩) (rows.length + 1) c7) (.slice (some ⟨gU, 0, none⟩) names.length cU) (Pk16 w.heap.size w2.heap.size (.slice A2 names.length c2) (.slice (some ⟨gR, 0, none⟩) (rows.length + 1) c7) names rows)) (fun _ => Mv (fun k => k = R ∨ k = gU) (Pk16 w.heap.size w2.heap.size (.slice A2 names.length c2) (.slice (some ⟨gR, 0, none⟩) (rows.length + 1) c7) names rows)) (C16 R (B + 1000) gU w (Pre16 w.heap.size w2.heap.size (.slice A2 names.length c2) (.slice (some ⟨gR, 0, none⟩) (rows.length + 1) c7) (.slice (some ⟨gU, 0, none⟩) names.length cU) names rows)) (by kernel_rfl) (stab app16V_stable) ?_ ?_ ?_ (by kernel_rfl) ?_
            · exact dst_lt (n := 97) (by kernel_rfl)
            · exact ⟨rc6.less (by show B + 1000 + 3 * 15 ≤ _; omega), fr6.drew, hgU, fun _ => ⟨hG.drew, vs, RV6.drew, hu⟩⟩
            · refine ok_all ⟨?_, ?_, ?_, ?_, ?_, ?_, ?_, ?_, ?_, ?_, ?_, ?_, ?_, ?_, ?_, trivial⟩
              · refine ok_value (cls16 (R := R) (B := B + 1000) (w0 := w) (gU := gU) (Pre := (Pre16 w.heap.size w2.heap.size (.slice A2 names.length c2) (.slice (some ⟨gR, 0, none⟩) (rows.length + 1) c7) (.slice (some ⟨gU, 0, none⟩) names.length cU) names rows)) (Pk := (Pk16 w.heap.size w2.heap.size (.slice A2 names.length c2) (.slice (some ⟨gR, 0, none⟩) (rows.length + 1) c7) names rows)) Pre16.alloc Pk16.alloc) (fun f a w' hc hs hr hh => ⟨.pointer (some ⟨w2.heap.size, 1, none⟩), ?_, rfl⟩)
                have h0 : a.tmps.getD 7 undef = .pointer (some ⟨w2.heap.size, 0, none⟩) := hr 7 (not_dst (by kernel_rfl))
                simp [execOp, Act.eval, h0, field30 w2.heap.size w' 1 (by decide)]
              · refine ok_read (cls16 (R := R) (B := B + 1000) (w0 := w) (gU := gU) (Pre := (Pre16 w.heap.size w2.heap.size (.slice A2 names.length c2) (.slice (some ⟨gR, 0, none⟩) (rows.length + 1) c7) (.slice (some ⟨gU, 0, none⟩) names.length cU) names rows)) (Pk := (Pk16 w.heap.size w2.heap.size (.slice A2 names.length c2) (.slice (some ⟨gR, 0, none⟩) (rows.length + 1) c7) names rows)) Pre16.alloc Pk16.alloc) rfl (fun w => by simp [go_sem]) (fun f a w' hc hs hr hh => ?_)
                obtain ⟨_, rfl, h1⟩ := hh ⟨0, .data⟩ (by simp) rfl
                have h1 := h1 82 rfl
                have hp := hc.pre (by omega)
                exact ⟨_, _, h1, hp.1.blk.cell 1, rfl⟩
              · refine ok_value (cls16 (R := R) (B := B + 1000) (w0 := w) (gU := gU) (Pre := (Pre16 w.heap.size w2.heap.size (.slice A2 names.length c2) (.slice (some ⟨gR, 0, none⟩) (rows.length + 1) c7) (.slice (some ⟨gU, 0, none⟩) names.length cU) names rows)) (Pk := (Pk16 w.heap.size w2.heap.size (.slice A2 names.length c2) (.slice (some ⟨gR, 0, none⟩) (rows.length + 1) c7) names rows)) Pre16.alloc Pk16.alloc) (fun f a w' hc hs hr hh => ⟨.pointer (some ⟨w2.heap.size, 1, none⟩), ?_, rfl⟩)
                have h0 : a.tmps.getD 7 undef = .pointer (some ⟨w2.heap.size, 0, none⟩) := hr 7 (not_dst (by kernel_rfl))
                simp [execOp, Act.eval, h0, field30 w2.heap.size w' 1 (by decide)]
              · refine ok_read (cls16 (R := R) (B := B + 1000) (w0 := w) (gU := gU) (Pre := (Pre16 w.heap.size w2.heap.size (.slice A2 names.length c2) (.slice (some ⟨gR, 0, none⟩) (rows.length + 1) c7) (.slice (some ⟨gU, 0, none⟩) names.length cU) names rows)) (Pk := (Pk16 w.heap.size w2.heap.size (.slice A2 names.length c2) (.slice (some ⟨gR, 0, none⟩) (rows.length + 1) c7) names rows)) Pre16.alloc Pk16.alloc) rfl (fun w => by simp [go_sem]) (fun f a w' hc hs hr hh => ?_)
                obtain ⟨_, rfl, h1⟩ := hh ⟨2, .data⟩ (by simp) rfl
                have h1 := h1 84 rfl
                have hp := hc.pre (by omega)
                exact ⟨_, _, h1, hp.1.blk.cell 1, rfl⟩
              · refine ok_value (cls16 (R := R) (B := B + 1000) (w0 := w) (gU := gU) (Pre := (Pre16 w.heap.size w2.heap.size (.slice A2 names.length c2) (.slice (some ⟨gR, 0, none⟩) (rows.length + 1) c7) (.slice (some ⟨gU, 0, none⟩) names.length cU) names rows)) (Pk := (Pk16 w.heap.size w2.heap.size (.slice A2 names.length c2) (.slice (some ⟨gR, 0, none⟩) (rows.length + 1) c7) names rows)) Pre16.alloc Pk16.alloc) (fun f a w' hc hs hr hh => ⟨.int .i64 ((rows.length + 1 : Nat) : Int), ?_, rfl⟩)
                obtain ⟨_, rfl, h1⟩ := hh ⟨3, .data⟩ (by simp) rfl
                have h1 := h1 85 rfl
                simp [execOp, go_sem, Act.eval, h1]
              · refine ok_value (cls16 (R := R) (B := B + 1000) (w0 := w) (gU := gU) (Pre := (Pre16 w.heap.size w2.heap.size (.slice A2 names.length c2) (.slice (some ⟨gR, 0, none⟩) (rows.length + 1) c7) (.slice (some ⟨gU, 0, none⟩) names.length cU) names rows)) (Pk := (Pk16 w.heap.size w2.heap.size (.slice A2 names.length c2) (.slice (some ⟨gR, 0, none⟩) (rows.length + 1) c7) names rows)) Pre16.alloc Pk16.alloc) (fun f a w' hc hs hr hh => ⟨.int .i64 (rows.length : Int), ?_, rfl⟩)
                obtain ⟨_, rfl, h1⟩ := hh ⟨4, .data⟩ (by simp) rfl
                have h1 := h1 86 rfl
                have e1 : IntKind.i64.wrap (((rows.length + 1 : Nat) : Int) - 1) = (rows.length : Int) := by rw [IntWalk.i64_in _ (by omega)]; omega
                have e2 : IntKind.i64.wrap ((rows.length : Int) + 1 - 1) = (rows.length : Int) := by rw [IntWalk.i64_in _ (by omega)]; omega
                have e3 : IntKind.i64.wrap (rows.length : Int) = (rows.length : Int) := IntWalk.i64_in _ (by omega)
                simp [execOp, go_sem, Act.eval, h1, e1, e2, e3]
              · intro f listed a w' hl hc hs hr hh
                obtain ⟨_, rfl, h1⟩ := hh ⟨1, .data⟩ (by simp) rfl
                have h1 := h1 83 rfl
                obtain ⟨_, rfl, h2⟩ := hh ⟨5, .data⟩ (by simp) rfl
                have h2 := h2 87 rfl
                exact op_index (i := rows.length) rfl Tryd.underlying24 (by kernel_rfl) h1 h2 (by omega) ⟨_, rfl, rfl, Mv.refl _, (cls16 (R := R) (B := B + 1000) (w0 := w) (gU := gU) (Pre := (Pre16 w.heap.size w2.heap.size (.slice A2 names.length c2) (.slice (some ⟨gR, 0, none⟩) (rows.length + 1) c7) (.slice (some ⟨gU, 0, none⟩) names.length cU) names rows)) (Pk := (Pk16 w.heap.size w2.heap.size (.slice A2 names.length c2) (.slice (some ⟨gR, 0, none⟩) (rows.length + 1) c7) names rows)) Pre16.alloc Pk16.alloc).less _ _ hc⟩
              · refine ok_read (cls16 (R := R) (B := B + 1000) (w0 := w) (gU := gU) (Pre := (Pre16 w.heap.size w2.heap.size (.slice A2 names.length c2) (.slice (some ⟨gR, 0, none⟩) (rows.length + 1) c7) (.slice (some ⟨gU, 0, none⟩) names.length cU) names rows)) (Pk := (Pk16 w.heap.size w2.heap.size (.slice A2 names.length c2) (.slice (some ⟨gR, 0, none⟩) (rows.length + 1) c7) names rows)) Pre16.alloc Pk16.alloc) rfl (fun w => by simp [go_sem]) (fun f a w' hc hs hr hh => ?_)
                obtain ⟨_, rfl, h1⟩ := hh ⟨6, .data⟩ (by simp) rfl
                have h1 := h1 88 rfl
                obtain ⟨hp, vs, hv, hu⟩ := hc.pre (by omega)
                exact ⟨_, _, h1, own_cellk hv.own hu, rfl⟩
              · refine ok_build (p := IntB) (cls16 (R := R) (B := B + 1000) (w0 := w) (gU := gU) (Pre := (Pre16 w.heap.size w2.heap.size (.slice A2 names.length c2) (.slice (some ⟨gR, 0, none⟩) (rows.length + 1) c7) (.slice (some ⟨gU, 0, none⟩) names.length cU) names rows)) (Pk := (Pk16 w.heap.size w2.heap.size (.slice A2 names.length c2) (.slice (some ⟨gR, 0, none⟩) (rows.length + 1) c7) names rows)) Pre16.alloc Pk16.alloc) intB_stable rfl Tryd.underlying40 hii hiz (by rw [his']; decide) (by rw [his']; decide) (fun v _ w hv => hv) (fun a w' _ _ _ => ⟨[.int .i64 100001, .int .i64 (-100001)], rfl, ?_, ?_⟩)
                · intro u hu
                  simp at hu
                  rcases hu with rfl | rfl <;> exact ⟨_, rfl⟩
                · rw [his']; kernel_rfl
              · refine ok_put (cls16 (R := R) (B := B + 1000) (w0 := w) (gU := gU) (Pre := (Pre16 w.heap.size w2.heap.size (.slice A2 names.length c2) (.slice (some ⟨gR, 0, none⟩) (rows.length + 1) c7) (.slice (some ⟨gU, 0, none⟩) names.length cU) names rows)) (Pk := (Pk16 w.heap.size w2.heap.size (.slice A2 names.length c2) (.slice (some ⟨gR, 0, none⟩) (rows.length + 1) c7) names rows)) Pre16.alloc Pk16.alloc) (.inl rfl) (fun a w' hs hr hh => ?_)
                exact hr 0 (not_dst (by kernel_rfl))
              · refine ok_call Tryd.func22 (by kernel_rfl) (by kernel_rfl) rfl (fun f a w' hc hs hr hh => ?_)
                obtain ⟨_, rfl, h1⟩ := hh ⟨9, .data⟩ (by simp) rfl
                have h1 := h1 91 rfl
                rw [show #[Operand.tmp 91, Operand.const (Value.int .i64 2)].map a.eval = #[.pointer (some ⟨R, 0, none⟩), .int .i64 2] by simp [Act.eval, h1]]
                refine (pick_c R (B + 1000 + 3 * f) 2 w' (hc.rc.less (by omega)) (by decide)).mono ?_
                rintro e w3 ⟨x, rfl, hx, h2, h3, _⟩
                exact ⟨_, rfl, ⟨x, rfl, by omega⟩, ⟨Chg.of_pick h3 (.inl rfl), fun h => h.touch h3 hRw hRT⟩, h2, hc.fr.trans h3, Nat.lt_of_lt_of_le hc.up h3.size, fun hf => (hc.pre (by omega)).touch h3 hRw hRT⟩
              · refine ok_index (te := 3) (p := IntB) (n := 2) (cls16 (R := R) (B := B + 1000) (w0 := w) (gU := gU) (Pre := (Pre16 w.heap.size w2.heap.size (.slice A2 names.length c2) (.slice (some ⟨gR, 0, none⟩) (rows.length + 1) c7) (.slice (some ⟨gU, 0, none⟩) names.length cU) names rows)) (Pk := (Pk16 w.heap.size w2.heap.size (.slice A2 names.length c2) (.slice (some ⟨gR, 0, none⟩) (rows.length + 1) c7) names rows)) Pre16.alloc Pk16.alloc) rfl Tryd.underlying40 (by kernel_rfl) (fun v _ w hv => hv) (fun a w' hs hr hh => ?_)
                obtain ⟨_, hv1, h1⟩ := hh ⟨8, .data⟩ (by simp) rfl
                have h1 := h1 90 rfl
                obtain ⟨_, hv2, h2⟩ := hh ⟨10, .data⟩ (by simp) rfl
                have h2 := h2 92 rfl
                subst h1
                subst h2
                exact ⟨hv1, hv2⟩
              · refine ok_load (p := IntB) (cls16 (R := R) (B := B + 1000) (w0 := w) (gU := gU) (Pre := (Pre16 w.heap.size w2.heap.size (.slice A2 names.length c2) (.slice (some ⟨gR, 0, none⟩) (rows.length + 1) c7) (.slice (some ⟨gU, 0, none⟩) names.length cU) names rows)) (Pk := (Pk16 w.heap.size w2.heap.size (.slice A2 names.length c2) (.slice (some ⟨gR, 0, none⟩) (rows.length + 1) c7) names rows)) Pre16.alloc Pk16.alloc) rfl (fun w => by simp [go_sem]) (fun v _ w hv => hv) (fun a w' hs hr hh => ?_)
                obtain ⟨_, hv1, h1⟩ := hh ⟨11, .data⟩ (by simp) rfl
                have h1 := h1 93 rfl
                subst h1
                exact hv1
              · intro f listed a w' hl hc hs hr hh
                obtain ⟨_, rfl, h1⟩ := hh ⟨7, .data⟩ (by simp) rfl
                have h1 := h1 89 rfl
                exact op_index (i := 0) rfl Tryd.underlying40 (by kernel_rfl) h1 rfl (by omega) ⟨_, rfl, rfl, Mv.refl _, (cls16 (R := R) (B := B + 1000) (w0 := w) (gU := gU) (Pre := (Pre16 w.heap.size w2.heap.size (.slice A2 names.length c2) (.slice (some ⟨gR, 0, none⟩) (rows.length + 1) c7) (.slice (some ⟨gU, 0, none⟩) names.length cU) names rows)) (Pk := (Pk16 w.heap.size w2.heap.size (.slice A2 names.length c2) (.slice (some ⟨gR, 0, none⟩) (rows.length + 1) c7) names rows)) Pre16.alloc Pk16.alloc).less _ _ hc⟩
              · refine ok_storeS rfl (by kernel_rfl) (fun f listed a w' hl hc hs hr hh => ?_)
                obtain ⟨_, rfl, h1⟩ := hh ⟨13, .data⟩ (by simp) rfl
                have h1 := h1 95 rfl
                obtain ⟨_, ⟨x, rfl⟩, h2⟩ := hh ⟨12, .data⟩ (by simp) rfl
                have h2 := h2 94 rfl
                obtain ⟨hp, vs, hv, hu⟩ := hc.pre (by omega)
                have hou : w'.ownsRow w.heap.size 3 1 (.slice (some ⟨gU, 0, none⟩) names.length cU) names.length (inCells (List.replicate names.length 0)) := by
                  have := hv.row rows.length (.slice (some ⟨gU, 0, none⟩) names.length cU) (List.replicate names.length 0) hu (by simp)
                  rwa [List.length_replicate] at this
                have hup := hl.most 14 (by decide) (fun k hk => by
                  match k, hk with
                  | 0, _ => exact hl.aft ⟨0, .phase⟩ (by simp) rfl
                  | 1, _ => exact hl.aft ⟨1, .phase⟩ (by simp) rfl
                  | 2, _ => exact hl.aft ⟨2, .phase⟩ (by simp) rfl
                  | 3, _ => exact hl.aft ⟨3, .phase⟩ (by simp) rfl
                  | 4, _ => exact hl.aft ⟨4, .phase⟩ (by simp) rfl
                  | 5, _ => exact hl.aft ⟨5, .phase⟩ (by simp) rfl
                  | 6, _ => exact hl.aft ⟨6, .phase⟩ (by simp) rfl
                  | 7, _ => exact hl.aft ⟨7, .phase⟩ (by simp) rfl
                  | 8, _ => exact hl.aft ⟨8, .phase⟩ (by simp) rfl
                  | 9, _ => exact hl.aft ⟨9, .phase⟩ (by simp) rfl
                  | 10, _ => exact hl.aft ⟨10, .phase⟩ (by simp) rfl
                  | 11, _ => exact hl.aft ⟨11, .phase⟩ (by simp) rfl
                  | 12, _ => exact hl.aft ⟨12, .phase⟩ (by simp) rfl
                  | 13, _ => exact hl.aft ⟨13, .data⟩ (by simp) rfl)
                have hup : f + 1 ≤ 1 := hup
                have hst := hou.stored 0 (.int .i64 x)
                have hcell : w'.cell? ⟨gU, 0, none⟩ = some (.int .i64 0) := own_cellk hou (k := 0) (by unfold inCells; rw [List.map_replicate, List.getElem?_replicate, if_pos (by omega)])
                have hpk : (Pk16 w.heap.size w2.heap.size (.slice A2 names.length c2) (.slice (some ⟨gR, 0, none⟩) (rows.length + 1) c7) names rows) (w'.setCell ⟨gU, 0, none⟩ (.int .i64 x)) := by
                  refine ⟨x, hp.grewR hou (by decide) (by decide) hst.2 ⟨vs, ?_⟩⟩
                  have hlen : names.length = ((List.replicate names.length (0 : Int)).set 0 x).length := by simp
                  have := hv.write (r := List.replicate names.length 0) (r' := (List.replicate names.length 0).set 0 x) hu (by simp) hst.2 (by rw [← hlen]; have := hst.1; unfold inCells at this ⊢; rw [List.map_set]; exact this)
                  rw [show (rows ++ [List.replicate names.length (0 : Int)]).set rows.length ((List.replicate names.length 0).set 0 x) = rows ++ [(List.replicate names.length 0).set 0 x] by rw [List.set_append, if_neg (by omega)]; simp] at this
                  exact this.wide (by simp [World.setCell])
                refine ⟨⟨gU, 0, none⟩, _, .int .i64 x, h1, h2, hcell, own_frozen hou 0, rfl, hpk, ⟨Chg.setCell _ (Or.inr rfl) _, fun _ => hpk⟩, ?_, ?_, ?_, fun hf => ?_⟩
                · exact (hc.rc.touch (lo := gU) (hi := gU + 1) ((Touch.refl _ _ _).setCell (p := ⟨gU, 0, none⟩) (Or.inl ⟨Nat.le_refl _, Nat.lt_succ_self _⟩) _) (by have := (hou.lt gU rfl).1; omega)).less (by omega)
                · exact hc.fr.setCell (p := ⟨gU, 0, none⟩) (Or.inr (hou.lt gU rfl).1) _
                · have := hc.up; simpa [World.setCell] using this
                · omega
            · intro a w7 hs hd hr hh hc
              obtain ⟨_, ⟨x, hG⟩, -⟩ := hh 14 (by decide) rfl
              have rc7 := hc.rc
              have fr7 := hc.fr
              have e0 : a.tmps.getD 0 undef = .pointer (some ⟨R, 0, none⟩) := hr 0 (not_dst (by kernel_rfl))
              have e1 : a.tmps.getD 1 undef = .int .i64 (kind : Int) := hr 1 (not_dst (by kernel_rfl))
              have e2 : a.tmps.getD 2 undef = .int .i64 n := hr 2 (not_dst (by kernel_rfl))
              have e3 : a.tmps.getD 3 undef = U 3 := hr 3 (not_dst (by kernel_rfl))
              have e4 : a.tmps.getD 4 undef = U 4 := hr 4 (not_dst (by kernel_rfl))
              have e5 : a.tmps.getD 5 undef = U 5 := hr 5 (not_dst (by kernel_rfl))
              have e6 : a.tmps.getD 6 undef = .pointer (some ⟨w.heap.size, 0, none⟩) := hr 6 (not_dst (by kernel_rfl))
              have e7 : a.tmps.getD 7 undef = .pointer (some ⟨w2.heap.size, 0, none⟩) := hr 7 (not_dst (by kernel_rfl))
              have e32 : a.tmps.getD 32 undef = .bool true := hr 32 (not_dst (by kernel_rfl))
              have e96 : a.tmps.getD 96 undef = U 96 := hr 96 (not_dst (by kernel_rfl))
              have ea : a = ⟨#[a.tmps.getD 0 undef, a.tmps.getD 1 undef, a.tmps.getD 2 undef, a.tmps.getD 3 undef, a.tmps.getD 4 undef, a.tmps.getD 5 undef, a.tmps.getD 6 undef, a.tmps.getD 7 undef, a.tmps.getD 8 undef, a.tmps.getD 9 undef, a.tmps.getD 10 undef, a.tmps.getD 11 undef, a.tmps.getD 12 undef, a.tmps.getD 13 undef, a.tmps.getD 14 undef, a.tmps.getD 15 undef, a.tmps.getD 16 undef, a.tmps.getD 17 undef, a.tmps.getD 18 undef, a.tmps.getD 19 undef, a.tmps.getD 20 undef, a.tmps.getD 21 undef, a.tmps.getD 22 undef, a.tmps.getD 23 undef, a.tmps.getD 24 undef, a.tmps.getD 25 undef, a.tmps.getD 26 undef, a.tmps.getD 27 undef, a.tmps.getD 28 undef, a.tmps.getD 29 undef, a.tmps.getD 30 undef, a.tmps.getD 31 undef, a.tmps.getD 32 undef, a.tmps.getD 33 undef, a.tmps.getD 34 undef, a.tmps.getD 35 undef, a.tmps.getD 36 undef, a.tmps.getD 37 undef, a.tmps.getD 38 undef, a.tmps.getD 39 undef, a.tmps.getD 40 undef, a.tmps.getD 41 undef, a.tmps.getD 42 undef, a.tmps.getD 43 undef, a.tmps.getD 44 undef, a.tmps.getD 45 undef, a.tmps.getD 46 undef, a.tmps.getD 47 undef, a.tmps.getD 48 undef, a.tmps.getD 49 undef, a.tmps.getD 50 undef, a.tmps.getD 51 undef, a.tmps.getD 52 undef, a.tmps.getD 53 undef, a.tmps.getD 54 undef, a.tmps.getD 55 undef, a.tmps.getD 56 undef, a.tmps.getD 57 undef, a.tmps.getD 58 undef, a.tmps.getD 59 undef, a.tmps.getD 60 undef, a.tmps.getD 61 undef, a.tmps.getD 62 undef, a.tmps.getD 63 undef, a.tmps.getD 64 undef, a.tmps.getD 65 undef, a.tmps.getD 66 undef, a.tmps.getD 67 undef, a.tmps.getD 68 undef, a.tmps.getD 69 undef, a.tmps.getD 70 undef, a.tmps.getD 71 undef, a.tmps.getD 72 undef, a.tmps.getD 73 undef, a.tmps.getD 74 undef, a.tmps.getD 75 undef, a.tmps.getD 76 undef, a.tmps.getD 77 undef, a.tmps.getD 78 undef, a.tmps.getD 79 undef, a.tmps.getD 80 undef, a.tmps.getD 81 undef, a.tmps.getD 82 undef, a.tmps.getD 83 undef, a.tmps.getD 84 undef, a.tmps.getD 85 undef, a.tmps.getD 86 undef, a.tmps.getD 87 undef, a.tmps.getD 88 undef, a.tmps.getD 89 undef, a.tmps.getD 90 undef, a.tmps.getD 91 undef, a.tmps.getD 92 undef, a.tmps.getD 93 undef, a.tmps.getD 94 undef, a.tmps.getD 95 undef, a.tmps.getD 96 undef], []⟩ := act_lit 97 hs hd
              rw [e0, e1, e2, e3, e4, e5, e6, e7, e32, e96] at ea
              obtain ⟨U', hU'⟩ : ∃ U' : Nat → Value, ∀ i, a.tmps.getD i undef = U' i := ⟨_, fun _ => rfl⟩
              simp only [hU'] at ea
              clear hs hd hr hh hU' e0 e1 e2 e3 e4 e5 e6 e7 e32 e96
              subst ea
              go_wp2_with fail
              go_meet
              case rel =>
                exact ⟨_, _, names, _, hG, ⟨by omega, fun x hx => by have := hl5 x hx; omega, by simp; omega, fun r hr => by
                  rcases List.mem_append.1 hr with h | h
                  · have := hrw r h; omega
                  · simp at h; subst h; simp; omega⟩, rc7.less (by omega), fr7⟩
        · go_wp2_with fail
          go_meet
          case rel =>
            have hsz : (w5.setCell ⟨w2.heap.size, 0, none⟩ (.slice (some ⟨w5.heap.size, 0, none⟩) 0 0)).heap.size = w5.heap.size := by simp [World.setCell]
            have om := World.ownsRow_made (base := w.heap.size) (e := 9) (size := 1) (w5.setCell ⟨w2.heap.size, 0, none⟩ (.slice (some ⟨w5.heap.size, 0, none⟩) 0 0)) #[] 0 (by omega) (by unfold maxLen; omega) rfl
            rw [hsz] at om
            exact ⟨_, _, [], _, ((HT.out.setN hT0 (.slice (some ⟨w5.heap.size, 0, none⟩) 0 0)).alloc (.cells #[] 9)).asN om, ⟨by simp, by simp, hrl', fun r hr => by have := hrw r hr; omega⟩,
              ((HR.out.1.touch (lo := w2.heap.size) (hi := w2.heap.size + 1) ((Touch.refl _ _ _).setCell (p := ⟨w2.heap.size, 0, none⟩) (Or.inl ⟨Nat.le_refl _, Nat.lt_succ_self _⟩) _) (by omega)).alloc _).less (by omega), (HR.out.2.setCell (p := ⟨w2.heap.size, 0, none⟩) (Or.inr (by show w.heap.size ≤ w2.heap.size; omega)) _).alloc _⟩
end Go.Proofs.YtijpdekcdejfmaaDoor
