/- A row put into the midst of a table under construction. -/
import Derived.Test.YtijpdekcdejfmaaDoorGrpI
namespace Go.Proofs.YtijpdekcdejfmaaDoor
open Go Go.RowKit
set_option maxRecDepth 100000
theorem ins_at {α : Type} {l : List α} {i k : Nat} {x y : α} (hi : i ≤ l.length) (h : (l.take i ++ y :: l.drop i)[k]? = some x) : (k < i ∧ l[k]? = some x) ∨ (k = i ∧ x = y) ∨ (i < k ∧ l[k - 1]? = some x) := by
  have hl : (l.take i).length = i := by rw [List.length_take]; omega
  rcases Nat.lt_trichotomy k i with h1 | h1 | h1
  · rw [List.getElem?_append_left (by omega), List.getElem?_take, if_pos h1] at h
    exact .inl ⟨h1, h⟩
  · subst h1
    rw [List.getElem?_append_right (by omega), hl, Nat.sub_self] at h
    exact .inr (.inl ⟨rfl, by simpa using h.symm⟩)
  · rw [List.getElem?_append_right (by omega), hl, show k - i = (k - i - 1) + 1 by omega, List.getElem?_cons_succ, List.getElem?_drop] at h
    exact .inr (.inr ⟨h1, by rw [← h]; congr 1; omega⟩)
theorem ins_len {α : Type} {l : List α} {i : Nat} {y : α} (hi : i ≤ l.length) : (l.take i ++ y :: l.drop i).length = l.length + 1 := by
  rw [List.length_append, List.length_take, List.length_cons, List.length_drop]; omega
theorem ins_mid {α : Type} {l : List α} {i : Nat} {y : α} (hi : i ≤ l.length) : (l.take i ++ y :: l.drop i)[i]? = some y := by
  have hl : (l.take i).length = i := by rw [List.length_take]; omega
  rw [List.getElem?_append_right (by omega), hl, Nat.sub_self]
  rfl
theorem ins_set {α : Type} {l : List α} {i : Nat} {y z : α} (hi : i ≤ l.length) : (l.take i ++ y :: l.drop i).set i z = l.take i ++ z :: l.drop i := by
  have hl : (l.take i).length = i := by rw [List.length_take]; omega
  rw [List.set_append_right _ _ (by omega), hl, Nat.sub_self, List.set_cons_zero]
theorem grown_then {w x y : World} {row row2 : Option Nat} (a : w.grownBy x row) (b : x.grownBy y row2) (h : ∀ g, row2 = some g → row = some g ∨ w.heap.size ≤ g) : w.grownBy y row :=
  ⟨b.os.trans a.os, b.tape.trans a.tape, b.output.trans a.output, Nat.le_trans a.size b.size, fun k hk hne => (b.block k (Nat.lt_of_lt_of_le hk a.size) (fun e => by
    rcases h k e.symm with h | h
    · exact hne h.symm
    · omega)).trans (a.block k hk hne)⟩
theorem RowsV.one {w : World} {lo hi : Nat} {v : Value} {vs : List Value} {rows : List (List Int)} (h : RowsV w lo hi v vs rows) : ∀ u ∈ vs, u.oneCell' = true := by
  intro u hu
  obtain ⟨i, hi, e⟩ := List.getElem_of_mem hu
  have hu' : vs[i]? = some u := by rw [List.getElem?_eq_getElem hi, e]
  obtain ⟨r, hr⟩ := h.rowAt hu'
  obtain ⟨A, c, rfl, _⟩ := own_form (h.row i u r hu' hr)
  rfl
section
variable {w1 w w8 : World} {lo T Z i q c : Nat} {t : TypeId} {cs : Array Value} {nv u v' rv : Value} {names : List ByteArray} {vs : List Value} {rows : List (List Int)} {r : List Int}
theorem HalfZ.insert (h : HalfZ w1 w lo T Z t cs nv rv names vs rows) (hk : w.grownBy w8 rv.ownBlock) (hu : w8.ownsRow Z 3 1 u r.length (inCells r)) (hf : ∀ g, u.ownBlock = some g → w.heap.size ≤ g)
    (hv' : w8.ownsRow Z 40 1 v' (rows.length + 1) (vs.take i ++ u :: vs.drop i)) (hi : i ≤ rows.length) :
    HalfZ w1 (w8.setCell ⟨T, 1, none⟩ v') lo T Z t (cs.setIfInBounds 1 v') nv v' names (vs.take i ++ u :: vs.drop i) (rows.take i ++ r :: rows.drop i) := by
  have hT := h.blk.lt
  have hge := h.rvge
  have htz := h.tz
  have hzs := h.zs
  have h8 := hk.size
  have hvl := h.rows.len
  have hs6 : (w8.setCell ⟨T, 1, none⟩ v').heap.size = w8.heap.size := by simp [World.setCell]
  have tt : Touch T (T + 1) w8 (w8.setCell ⟨T, 1, none⟩ v') := (Touch.refl _ _ _).setCell (p := ⟨T, 1, none⟩) (Or.inl ⟨Nat.le_refl _, Nat.lt_succ_self _⟩) _
  have hi' : i ≤ vs.length := by omega
  -- rows behind the step
  have rowk : ∀ (k : Nat) (x : Value) (r' : List Int), vs[k]? = some x → rows[k]? = some r' → w8.ownsRow Z 3 1 x r'.length (inCells r') := fun k x r' hx hr' => (h.rows.row k x r' hx hr').kept hk (by
    rcases h.rows.off k x hx with e | e
    · exact .inl e
    · exact .inr e)
  have rowAt : ∀ {k : Nat} {x : Value}, vs[k]? = some x → ∃ r', rows[k]? = some r' := fun hx => h.rows.rowAt hx
  have offv : ∀ {x : Value} {r' : List Int}, w8.ownsRow Z 3 1 x r'.length (inCells r') → (x.ownBlock = none ∨ x.ownBlock ≠ v'.ownBlock) := by
    intro x r' hx
    cases hb : x.ownBlock with
    | none => exact .inl rfl
    | some g => exact .inr (fun e => own_types hx hv' (by decide) g hb e.symm)
  have frs : ∀ {k : Nat} {x : Value}, vs[k]? = some x → x.ownBlock = none ∨ x.ownBlock ≠ u.ownBlock := by
    intro k x hx
    obtain ⟨r', hr'⟩ := rowAt hx
    cases hb : x.ownBlock with
    | none => exact .inl rfl
    | some g => exact .inr (fun e => by have h1 := ((h.rows.row k x r' hx hr').lt g hb).2; have h2 := hf g e.symm; omega)
  have frs' : ∀ {k : Nat} {x : Value}, vs[k]? = some x → u.ownBlock = none ∨ u.ownBlock ≠ x.ownBlock := by
    intro k x hx
    obtain ⟨r', hr'⟩ := rowAt hx
    cases hb : u.ownBlock with
    | none => exact .inl rfl
    | some g => exact .inr (fun e => by have h1 := ((h.rows.row k x r' hx hr').lt g e.symm).2; have h2 := hf g hb; omega)
  have V8 : RowsV w8 Z w8.heap.size v' (vs.take i ++ u :: vs.drop i) (rows.take i ++ r :: rows.drop i) := by
    refine ⟨by rw [ins_len hi', ins_len hi, hvl], by rw [ins_len hi]; exact hv', fun g e => (hv'.lt g e).2, ?_, ?_, ?_, ?_⟩
    · intro k x r' hx hr'
      rcases ins_at hi' hx with ⟨h1, hx⟩ | ⟨rfl, rfl⟩ | ⟨h1, hx⟩
      · rcases ins_at hi hr' with ⟨_, hr'⟩ | ⟨e, _⟩ | ⟨h2, _⟩
        · exact rowk k x r' hx hr'
        · omega
        · omega
      · rcases ins_at hi hr' with ⟨h2, _⟩ | ⟨_, rfl⟩ | ⟨h2, _⟩
        · omega
        · exact hu
        · omega
      · rcases ins_at hi hr' with ⟨h2, _⟩ | ⟨e, _⟩ | ⟨_, hr'⟩
        · omega
        · omega
        · exact rowk _ x r' hx hr'
    · intro k x g hx e
      rcases ins_at hi' hx with ⟨_, hx⟩ | ⟨rfl, rfl⟩ | ⟨_, hx⟩
      · have := h.rows.under _ x g hx e; omega
      · exact (hu.lt g e).2
      · have := h.rows.under _ x g hx e; omega
    · intro k x hx
      rcases ins_at hi' hx with ⟨_, hx⟩ | ⟨rfl, rfl⟩ | ⟨_, hx⟩
      · obtain ⟨r', hr'⟩ := rowAt hx; exact offv (rowk _ x r' hx hr')
      · exact offv hu
      · obtain ⟨r', hr'⟩ := rowAt hx; exact offv (rowk _ x r' hx hr')
    · intro a b x y hab hx hy
      rcases ins_at hi' hx with ⟨h1, hx1⟩ | ⟨e1, rfl⟩ | ⟨h1, hx1⟩
      · rcases ins_at hi' hy with ⟨h2, hy1⟩ | ⟨e2, rfl⟩ | ⟨h2, hy1⟩
        · exact h.rows.apart a b x y hab hx1 hy1
        · exact frs hx1
        · exact h.rows.apart a (b - 1) x y (by omega) hx1 hy1
      · rcases ins_at hi' hy with ⟨h2, hy1⟩ | ⟨e2, rfl⟩ | ⟨h2, hy1⟩
        · exact frs' hy1
        · omega
        · exact frs' hy1
      · rcases ins_at hi' hy with ⟨h2, hy1⟩ | ⟨e2, rfl⟩ | ⟨h2, hy1⟩
        · exact h.rows.apart (a - 1) b x y (by omega) hx1 hy1
        · exact frs hx1
        · exact h.rows.apart (a - 1) (b - 1) x y (by omega) hx1 hy1
  refine ⟨(h.blk.grown hk (fun e => by have := hge _ e.symm; omega)).set_ 1 v', own_block h.own fun g e => ?_, h.top, htz, by rw [hs6]; omega, ?_, ?_, h.base⟩
  · obtain ⟨h1, h1'⟩ := h.top g e
    have h2 := (h.own.lt g e).2
    rw [tt.block g (by omega) (by omega), hk.block g (by omega) (fun e' => by have := hge g e'.symm; omega)]
  · have := V8.touch tt (Or.inr (by omega))
    rw [hs6]
    exact this
  · exact ((h.below.grown hk h.below.size (fun g e => by have := hge g e; have := h.base; omega))).setCell (by show w1.heap.size ≤ T; exact h.base) _
end
section
variable {P G : List (List Int)} {k i : Nat} {a b : Int}
/-- The key is new: its row stands at place i. -/
theorem GroupR.mid_miss (hG : GroupR (P.take k) G) (hk : P[k]? = some [a, b]) (hi : i ≤ G.length) (hlo : ∀ j r, j < i → G[j]? = some r → keyOf r < a) (hhi : ∀ r, G[i]? = some r → a < keyOf r) :
    GroupR (P.take (k + 1)) ((G.take i ++ [a, 0, 0] :: G.drop i).set i [a, 0 + 1, 0 + b]) := by
  have h := hG.miss (p := [a, b]) hi hlo hhi
  rw [take_snoc P k [a, b] hk, ins_set hi]
  have e : ([a, 0 + 1, 0 + b] : List Int) = [keyOf [a, b], 1, valOf [a, b]] := by simp [keyOf, valOf]
  rw [e]
  exact h
end
end Go.Proofs.YtijpdekcdejfmaaDoor
