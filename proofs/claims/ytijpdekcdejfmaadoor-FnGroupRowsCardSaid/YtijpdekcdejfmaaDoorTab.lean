/- Slices of rows of numbers: how they read, who owns them (plain Lean over the model's memory). -/
import Derived.Test.YtijpdekcdejfmaaDoorInts
import Derived.Test.YtijpdekcdejfmaaDoorTouch
namespace Go.Proofs.YtijpdekcdejfmaaDoor
open Go Go.RowKit

/-! ### rows that are read -/
def RowsR (w : World) (B : Nat) (A : Option Addr) (n : Nat) (rows : List (List Int)) : Prop :=
  ∃ vs : List Value, Reads w B 1 A n vs ∧ rows.length = n ∧ ∀ (k : Nat) (row : List Int), rows[k]? = some row → ∃ (Ak : Option Addr) (ck : Nat), vs[k]? = some (Value.slice Ak row.length ck) ∧ row.length ≤ ck ∧ ck ≤ maxLen ∧ (Ak = none → ck = 0) ∧ Reads w B 1 Ak row.length (inCells row)

section
variable {w w' : World} {B B' n : Nat} {A : Option Addr} {rows : List (List Int)}
theorem RowsR.len (h : RowsR w B A n rows) : rows.length = n := by obtain ⟨_, _, h, _⟩ := h; exact h
theorem RowsR.keep (h : RowsR w B A n rows) (hk : ∀ p : Addr, p.block < B → w'.cell? p = w.cell? p) : RowsR w' B A n rows := by
  obtain ⟨vs, h1, h2, h3⟩ := h
  refine ⟨vs, h1.keep hk, h2, fun k row hr => ?_⟩
  obtain ⟨Ak, ck, a, b, c, d, e⟩ := h3 k row hr
  exact ⟨Ak, ck, a, b, c, d, e.keep hk⟩
theorem RowsR.more (h : RowsR w B A n rows) (hB : B ≤ B') : RowsR w B' A n rows := by
  obtain ⟨vs, h1, h2, h3⟩ := h
  refine ⟨vs, h1.more hB, h2, fun k row hr => ?_⟩
  obtain ⟨Ak, ck, a, b, c, d, e⟩ := h3 k row hr
  exact ⟨Ak, ck, a, b, c, d, e.more hB⟩
theorem RowsR.belowW (h : RowsR w B A n rows) (hB : B ≤ w.heap.size) (hb : Below w.heap.size w w') : RowsR w' B A n rows := h.keep fun _ hp => hb.cell (Nat.lt_of_lt_of_le hp hB)
theorem RowsR.below (h : RowsR w w.heap.size A n rows) (hb : Below w.heap.size w w') : RowsR w' w'.heap.size A n rows := (h.belowW (Nat.le_refl _) hb).more hb.size
theorem RowsR.drew (h : RowsR w B A n rows) : RowsR w.drew B A n rows := h
theorem RowsR.drewN (h : RowsR w B A n rows) (k : Nat) : RowsR (w.drewN k) B A n rows := h
theorem RowsR.alloc (h : RowsR w B A n rows) (hB : B ≤ w.heap.size) (o : Obj) : RowsR (w.alloc o) B A n rows := h.keep fun p hp => World.cell?_alloc_lt w o p (by omega)
theorem RowsR.touch {lo hi : Nat} (hr : RowsR w B A n rows) (h : Touch lo hi w w') (hB : B ≤ lo) (hw : B ≤ w.heap.size) : RowsR w' B A n rows :=
  hr.keep fun _ hp => h.cell (by omega) (Or.inl (by omega))
theorem RowsR.none_ : RowsR w B none 0 [] := ⟨[], Reads.none_, rfl, fun k row h => by simp at h⟩
/-- Row k: the cell that holds it, and the row. -/
theorem RowsR.at_ {k : Nat} (h : RowsR w B A n rows) (hk : k < n) : ∃ (ad : Addr) (row : List Int) (Ak : Option Addr) (ck : Nat), A = some ad ∧ ad.block < B ∧ rows[k]? = some row ∧ w.cell? (ad.add k) = some (.slice Ak row.length ck) ∧
    row.length ≤ ck ∧ ck ≤ maxLen ∧ (Ak = none → ck = 0) ∧ Reads w B 1 Ak row.length (inCells row) := by
  obtain ⟨vs, h1, h2, h3⟩ := h
  obtain ⟨ad, u, rfl, hb, hu, hc⟩ := h1.at_ hk
  obtain ⟨row, hrow⟩ : ∃ row, rows[k]? = some row := ⟨_, List.getElem?_eq_getElem (by omega)⟩
  obtain ⟨Ak, ck, a, b, c, d, e⟩ := h3 k row hrow
  obtain rfl := Option.some.inj (hu.symm.trans a)
  exact ⟨ad, row, Ak, ck, rfl, hb, hrow, hc, b, c, d, e⟩
theorem RowsR.take {m : Nat} (h : RowsR w B A n rows) (hm : m ≤ n) : RowsR w B A m (rows.take m) := by
  obtain ⟨vs, h1, h2, h3⟩ := h
  refine ⟨vs.take m, ⟨by rw [List.length_take, h1.1]; omega, fun h0 => ?_⟩, by rw [List.length_take]; omega, fun k row hr => ?_⟩
  · obtain ⟨ad, e, hb, hc⟩ := h1.2 (by omega)
    refine ⟨ad, e, hb, fun j u hu => hc j u ?_⟩
    rw [List.getElem?_take] at hu
    split at hu
    · exact hu
    · cases hu
  · rw [List.getElem?_take] at hr
    split at hr
    · rename_i hlt
      obtain ⟨Ak, ck, a, r⟩ := h3 k row hr
      exact ⟨Ak, ck, by rw [List.getElem?_take, if_pos hlt]; exact a, r⟩
    · cases hr
theorem RowsR.cut {k cap : Nat} (h : RowsR w B A n rows) (hk : k ≤ n) (hc : n ≤ cap) : RowsR w B (if cap = k then A else A.map (·.add k)) (n - k) (rows.drop k) := by
  obtain ⟨vs, h1, h2, h3⟩ := h
  have h1' := h1.cut hk hc
  simp only [Nat.mul_one] at h1'
  refine ⟨_, h1', by rw [List.length_drop]; omega, fun i row hr => ?_⟩
  rw [List.getElem?_drop] at hr
  obtain ⟨Ak, ck, a, r⟩ := h3 _ row hr
  exact ⟨Ak, ck, by rw [List.getElem?_drop]; exact a, r⟩
end

/-! ### rows of the call's own -/
structure RowsV (w : World) (lo hi : Nat) (v : Value) (vs : List Value) (rows : List (List Int)) : Prop where
  len : vs.length = rows.length
  own : w.ownsRow lo 40 1 v rows.length vs
  top : ∀ g, v.ownBlock = some g → g < hi
  row : ∀ (k : Nat) (u : Value) (r : List Int), vs[k]? = some u → rows[k]? = some r → w.ownsRow lo 3 1 u r.length (inCells r)
  under : ∀ (k : Nat) (u : Value) (g : Nat), vs[k]? = some u → u.ownBlock = some g → g < hi
  off : ∀ (k : Nat) (u : Value), vs[k]? = some u → u.ownBlock = none ∨ u.ownBlock ≠ v.ownBlock
  apart : ∀ (i j : Nat) (u u' : Value), i ≠ j → vs[i]? = some u → vs[j]? = some u' → u.ownBlock = none ∨ u.ownBlock ≠ u'.ownBlock
def RowsO (w : World) (lo hi : Nat) (v : Value) (rows : List (List Int)) : Prop := ∃ vs, RowsV w lo hi v vs rows

section
variable {w w' : World} {lo hi : Nat} {v : Value} {vs : List Value} {rows : List (List Int)}
theorem RowsV.nil (w : World) (lo hi : Nat) : RowsV w lo hi (.slice none 0 0) [] [] :=
  ⟨rfl, World.ownsRow_nil w _ _ _, fun g h => by simp [Value.ownBlock] at h, fun k u r h => by simp at h, fun k u g h => by simp at h, fun k u h => by simp at h, fun i j u u' _ h => by simp at h⟩
theorem RowsV.block (h : RowsV w lo hi v vs rows) (hk : ∀ g, lo ≤ g → g < w.heap.size → g < hi → w'.heap[g]? = w.heap[g]?) : RowsV w' lo hi v vs rows :=
  ⟨h.len, own_block h.own fun g e => hk g (h.own.lt g e).1 (h.own.lt g e).2 (h.top g e), h.top, fun k u r hu hr => own_block (h.row k u r hu hr) fun g e => hk g ((h.row k u r hu hr).lt g e).1 ((h.row k u r hu hr).lt g e).2 (h.under k u g hu e), h.under, h.off, h.apart⟩
theorem RowsV.below (h : RowsV w lo hi v vs rows) (hb : Below w.heap.size w w') : RowsV w' lo hi v vs rows := h.block fun g _ hg _ => hb.block g hg
theorem RowsV.touch {lo' hi' : Nat} (h : RowsV w lo hi v vs rows) (ht : Touch lo' hi' w w') (hd : hi ≤ lo' ∨ hi' ≤ lo) : RowsV w' lo hi v vs rows := h.block fun g h1 hg h2 => ht.block g hg (by omega)
theorem RowsV.alloc (h : RowsV w lo hi v vs rows) (o : Obj) : RowsV (w.alloc o) lo hi v vs rows := h.block fun g _ hg _ => Below.heap_alloc w o g hg
theorem RowsV.drew (h : RowsV w lo hi v vs rows) : RowsV w.drew lo hi v vs rows := h.block fun _ _ _ _ => rfl
theorem RowsV.drewN (h : RowsV w lo hi v vs rows) (n : Nat) : RowsV (w.drewN n) lo hi v vs rows := h.block fun _ _ _ _ => rfl
theorem RowsV.wide {hi' : Nat} (h : RowsV w lo hi v vs rows) (h2 : hi ≤ hi') : RowsV w lo hi' v vs rows :=
  ⟨h.len, h.own, fun g e => Nat.lt_of_lt_of_le (h.top g e) h2, h.row, fun k u g hu e => Nat.lt_of_lt_of_le (h.under k u g hu e) h2, h.off, h.apart⟩
theorem RowsV.low {lo' : Nat} (h : RowsV w lo hi v vs rows) (hl : lo' ≤ lo) : RowsV w lo' hi v vs rows :=
  ⟨h.len, h.own.base_le hl, h.top, fun k u r hu hr => (h.row k u r hu hr).base_le hl, h.under, h.off, h.apart⟩
theorem RowsV.form (h : RowsV w lo hi v vs rows) : ∃ A c, v = .slice A rows.length c ∧ rows.length ≤ c ∧ c ≤ maxLen ∧ (A = none → c = 0 ∧ rows.length = 0) := own_form' h.own
theorem RowsV.reads {A : Option Addr} {n c : Nat} (h : RowsV w lo hi (.slice A n c) vs rows) : RowsR w w.heap.size A n rows := by
  obtain ⟨A', c', e, _⟩ := h.form
  simp only [Value.slice.injEq] at e
  obtain ⟨rfl, rfl, rfl⟩ := e
  refine ⟨vs, Reads.of_own h.own, rfl, fun k r hr => ?_⟩
  have hk : k < rows.length := (List.getElem?_eq_some_iff.1 hr).1
  have hkv : k < vs.length := by have := h.len; omega
  have hu : vs[k]? = some vs[k] := List.getElem?_eq_getElem hkv
  have ho := h.row k _ r hu hr
  obtain ⟨Ak, ck, e, h1, h2, h3⟩ := own_form' ho
  rw [e] at ho hu
  exact ⟨Ak, ck, hu, h1, h2, fun e => (h3 e).1, Reads.of_own ho⟩
/-- Behind an append of one row that lies apart from all. -/
theorem RowsV.push {hi' : Nat} {v' u : Value} {r : List Int} (h : RowsV w lo hi v vs rows) (hu : w.ownsRow lo 3 1 u r.length (inCells r)) (hg : w.grownBy w' v.ownBlock)
    (ho : w'.ownsRow lo 40 1 v' (rows.length + 1) (vs ++ [u])) (hv : v'.ownBlock = v.ownBlock ∨ v'.ownBlock = some w.heap.size)
    (ha : u.ownBlock = none ∨ u.ownBlock ≠ v.ownBlock) (hb : ∀ (k : Nat) (u' : Value), vs[k]? = some u' → u'.ownBlock = none ∨ u'.ownBlock ≠ u.ownBlock)
    (h1 : hi ≤ hi') (h2 : ∀ g, v'.ownBlock = some g → g < hi') (h3 : ∀ g, u.ownBlock = some g → g < hi') : RowsV w' lo hi' v' (vs ++ [u]) (rows ++ [r]) := by
  have off' : ∀ {x : Value} {n : Nat} {xs : List Value}, w.ownsRow lo 3 1 x n xs → (x.ownBlock = none ∨ x.ownBlock ≠ v.ownBlock) → (x.ownBlock = none ∨ x.ownBlock ≠ v'.ownBlock) := by
    intro x n xs hx h
    rcases h with h | h
    · exact .inl h
    · rcases hv with e | e
      · exact .inr (by rw [e]; exact h)
      · cases hxb : x.ownBlock with
        | none => exact .inl rfl
        | some g => exact .inr (by rw [e]; intro e'; have := (hx.lt g hxb).2; injection e' with e'; omega)
  have at_ : ∀ {k : Nat} {x : Value}, (vs ++ [u])[k]? = some x → vs[k]? = some x ∨ (k = rows.length ∧ x = u) := by
    intro k x hx
    rw [List.getElem?_append] at hx
    split at hx
    · exact .inl hx
    · right
      have hl := h.len
      have hk := (List.getElem?_eq_some_iff.1 hx).1
      simp only [List.length_singleton] at hk
      refine ⟨by omega, ?_⟩
      rw [show k - vs.length = 0 by omega] at hx
      simpa using hx.symm
  have hlt : ∀ {k : Nat} {x : Value}, vs[k]? = some x → k < rows.length := fun hx => by rw [← h.len]; exact (List.getElem?_eq_some_iff.1 hx).1
  have rowAt : ∀ {k : Nat} {x : Value}, vs[k]? = some x → ∃ r', rows[k]? = some r' := fun hx => ⟨_, List.getElem?_eq_getElem (hlt hx)⟩
  refine ⟨by simp [h.len], by rw [List.length_append, List.length_singleton]; exact ho, h2, ?_, ?_, ?_, ?_⟩
  · intro k x r' hx hr
    rcases at_ hx with hx | ⟨rfl, rfl⟩
    · rw [List.getElem?_append_left (hlt hx)] at hr
      exact (h.row k x r' hx hr).kept hg (h.off k x hx)
    · rw [List.getElem?_append_right (Nat.le_refl _)] at hr
      obtain rfl : r = r' := by simpa using hr
      exact hu.kept hg ha
  · intro k x g hx e
    rcases at_ hx with hx | ⟨rfl, rfl⟩
    · exact Nat.lt_of_lt_of_le (h.under k x g hx e) h1
    · exact h3 g e
  · intro k x hx
    rcases at_ hx with hx | ⟨rfl, rfl⟩
    · obtain ⟨r', hr⟩ := rowAt hx
      exact off' (h.row k x r' hx hr) (h.off k x hx)
    · exact off' hu ha
  · intro i j x y hij hx hy
    rcases at_ hx with hx' | ⟨rfl, rfl⟩
    · rcases at_ hy with hy' | ⟨rfl, rfl⟩
      · exact h.apart i j x y hij hx' hy'
      · exact hb i x hx'
    · rcases at_ hy with hy' | ⟨rfl, rfl⟩
      · rcases hb j y hy' with e | e
        · cases hxb : x.ownBlock with
          | none => exact .inl rfl
          | some g => exact .inr (by rw [e]; simp)
        · exact .inr (fun e' => e e'.symm)
      · omega
/-- Behind a store of a row that lies apart from all at place k. -/
theorem RowsV.set_ {hi' G cap k : Nat} {u : Value} {r : List Int} (h : RowsV w lo hi (.slice (some ⟨G, 0, none⟩) rows.length cap) vs rows) (hu : w.ownsRow lo 3 1 u r.length (inCells r)) (hk : k < rows.length)
    (ha : u.ownBlock = none ∨ u.ownBlock ≠ some G) (hb : ∀ (k : Nat) (u' : Value), vs[k]? = some u' → u'.ownBlock = none ∨ u'.ownBlock ≠ u.ownBlock)
    (h1 : hi ≤ hi') (h3 : ∀ g, u.ownBlock = some g → g < hi') : RowsV (w.setCell ⟨G, k, none⟩ u) lo hi' (.slice (some ⟨G, 0, none⟩) rows.length cap) (vs.set k u) (rows.set k r) := by
  have hs := h.own.stored k u
  have at_ : ∀ {i : Nat} {x : Value}, (vs.set k u)[i]? = some x → (i ≠ k ∧ vs[i]? = some x) ∨ (i = k ∧ x = u) := by
    intro i x hx
    rw [List.getElem?_set] at hx
    split at hx
    · rename_i e
      subst e
      rw [if_pos (by rw [h.len]; exact hk)] at hx
      exact .inr ⟨rfl, by simpa using hx.symm⟩
    · rename_i e
      exact .inl ⟨fun e' => e e'.symm, hx⟩
  refine ⟨by simp [h.len], by rw [List.length_set]; exact hs.1, fun g e => Nat.lt_of_lt_of_le (h.top g e) h1, ?_, ?_, ?_, ?_⟩
  · intro i x r' hx hr
    rcases at_ hx with ⟨hne, hx⟩ | ⟨rfl, rfl⟩
    · rw [List.getElem?_set_ne (by omega)] at hr
      exact (h.row i x r' hx hr).kept hs.2 (h.off i x hx)
    · rw [List.getElem?_set_self hk] at hr
      obtain rfl : r = r' := by simpa using hr
      exact hu.kept hs.2 ha
  · intro i x g hx e
    rcases at_ hx with ⟨_, hx⟩ | ⟨rfl, rfl⟩
    · exact Nat.lt_of_lt_of_le (h.under i x g hx e) h1
    · exact h3 g e
  · intro i x hx
    rcases at_ hx with ⟨_, hx⟩ | ⟨rfl, rfl⟩
    · exact h.off i x hx
    · exact ha
  · intro i j x y hij hx hy
    rcases at_ hx with ⟨_, hx'⟩ | ⟨rfl, rfl⟩
    · rcases at_ hy with ⟨_, hy'⟩ | ⟨rfl, rfl⟩
      · exact h.apart i j x y hij hx' hy'
      · exact hb i x hx'
    · rcases at_ hy with ⟨_, hy'⟩ | ⟨rfl, rfl⟩
      · rcases hb j y hy' with e | e
        · cases hxb : x.ownBlock with
          | none => exact .inl rfl
          | some g => exact .inr (by rw [e]; simp)
        · exact .inr (fun e' => e e'.symm)
      · omega
theorem RowsV.set_n {hi' G n cap k : Nat} {u : Value} {r : List Int} (hn : rows.length = n) (h : RowsV w lo hi (.slice (some ⟨G, 0, none⟩) n cap) vs rows) (hu : w.ownsRow lo 3 1 u r.length (inCells r)) (hk : k < n)
    (ha : u.ownBlock = none ∨ u.ownBlock ≠ some G) (hb : ∀ (k : Nat) (u' : Value), vs[k]? = some u' → u'.ownBlock = none ∨ u'.ownBlock ≠ u.ownBlock)
    (h1 : hi ≤ hi') (h3 : ∀ g, u.ownBlock = some g → g < hi') : RowsV (w.setCell ⟨G, k, none⟩ u) lo hi' (.slice (some ⟨G, 0, none⟩) n cap) (vs.set k u) (rows.set k r) := by
  subst hn
  exact h.set_ hu hk ha hb h1 h3
/-- A row that was made later lies apart from all. -/
theorem RowsV.fresh {w0 : World} {n : Nat} {u : Value} {xs : List Value} (h : RowsV w0 lo w0.heap.size v vs rows) (hu : w.ownsRow w0.heap.size 3 1 u n xs) :
    (u.ownBlock = none ∨ u.ownBlock ≠ v.ownBlock) ∧ (∀ (k : Nat) (u' : Value), vs[k]? = some u' → u'.ownBlock = none ∨ u'.ownBlock ≠ u.ownBlock) := by
  constructor
  · cases hub : u.ownBlock with
    | none => exact .inl rfl
    | some g =>
      refine .inr (fun e => ?_)
      have h1 := h.top g e.symm
      have h2 := (hu.lt g hub).1
      omega
  · intro k u' hu'
    cases hub : u'.ownBlock with
    | none => exact .inl rfl
    | some g =>
      refine .inr (fun e => ?_)
      have h1 := h.under k u' g hu' hub
      have h2 := (hu.lt g e.symm).1
      omega
theorem set_take (rows : List (List Int)) (n j : Nat) (row : List Int) (hr : rows[j]? = some row) (hj : j < n) : (rows.take j ++ List.replicate (n - j) []).set j row = rows.take (j + 1) ++ List.replicate (n - (j + 1)) [] := by
  have hl := (List.getElem?_eq_some_iff.1 hr).1
  have e : n - j = (n - (j + 1)) + 1 := by omega
  rw [e, List.replicate_succ, List.set_append, if_neg (by rw [List.length_take]; omega)]
  have e2 : j - (rows.take j).length = 0 := by rw [List.length_take]; omega
  rw [e2, List.set_cons_zero, List.take_add_one, hr]
  simp
/-- Row k written over in place (its length stays). -/
theorem RowsV.write {k : Nat} {u : Value} {r r' : List Int} (h : RowsV w lo hi v vs rows) (hu : vs[k]? = some u) (hr : rows[k]? = some r) (hg : w.grownBy w' u.ownBlock) (ho : w'.ownsRow lo 3 1 u r'.length (inCells r')) :
    RowsV w' lo hi v vs (rows.set k r') := by
  have hk : k < rows.length := (List.getElem?_eq_some_iff.1 hr).1
  refine ⟨by simp [h.len], ?_, h.top, ?_, h.under, h.off, h.apart⟩
  · rw [List.length_set]
    refine h.own.kept hg ?_
    rcases h.off k u hu with e | e
    · cases hvb : v.ownBlock with
      | none => exact .inl rfl
      | some g => exact .inr (by rw [e]; simp)
    · exact .inr (fun e' => e e'.symm)
  · intro i x r'' hx hr''
    by_cases hik : i = k
    · subst hik
      obtain rfl := Option.some.inj (hu.symm.trans hx)
      rw [List.getElem?_set_self hk] at hr''
      obtain rfl : r' = r'' := by simpa using hr''
      exact ho
    · rw [List.getElem?_set_ne (by omega)] at hr''
      exact (h.row i x r'' hx hr'').kept hg (h.apart i k x u hik hx hu)
end
end Go.Proofs.YtijpdekcdejfmaaDoor
