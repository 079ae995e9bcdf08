/- slices.SortFunc over rows of the call's own, by slices.Compare: a permutation, ascending. -/
import Derived.Test.YtijpdekcdejfmaaDoorGrpS
import Derived.Test.YtijpdekcdejfmaaDoorTouch
namespace Go.Proofs.YtijpdekcdejfmaaDoor
open Go Go.RowKit Go.Sort Go.Shelf
set_option maxRecDepth 100000
/-- A row of block other than G, as it reads in w. -/
def RowAt (w : World) (G : Nat) (p : Value × List Int) : Prop := ∃ (Ak : Option Addr) (ck : Nat), p.1 = .slice Ak p.2.length ck ∧ p.2.length ≤ ck ∧ ck ≤ maxLen ∧ (Ak = none → ck = 0) ∧ p.2.length ≤ 1000000000 ∧
  (0 < p.2.length → ∃ ad, Ak = some ad ∧ ad.block ≠ G ∧ ad.block < w.heap.size ∧ ∀ (j : Nat) (x : Int), p.2[j]? = some x → w.cell? (ad.add j) = some (.int .i64 x))
theorem RowAt.reads {w w' : World} {G : Nat} {p : Value × List Int} {A : Option Addr} {c : Nat} (h : RowAt w G p) (e : p.1 = .slice A p.2.length c) (hs : w.heap.size ≤ w'.heap.size) (hk : ∀ a : Addr, a.block ≠ G → a.block < w.heap.size → w'.cell? a = w.cell? a) : Reads w' w'.heap.size 1 A p.2.length (inCells p.2) := by
  obtain ⟨Ak, ck, e', _, _, _, _, hr⟩ := h
  rw [e] at e'
  simp only [Value.slice.injEq, true_and] at e'
  obtain ⟨rfl, rfl⟩ := e'
  refine ⟨by simp [inCells], fun h0 => ?_⟩
  obtain ⟨ad, rfl, h1, h2, h3⟩ := hr h0
  refine ⟨ad, rfl, by omega, fun j u hu => ?_⟩
  unfold inCells at hu
  rw [List.getElem?_map] at hu
  obtain ⟨x, hx, rfl⟩ := Option.map_eq_some_iff.1 hu
  rw [hk _ (by rw [block_of_add]; exact h1) (by rw [block_of_add]; exact h2)]
  exact h3 j x hx
abbrev RowT (w : World) (G : Nat) : Type := {p : Value × List Int // RowAt w G p}
instance (w : World) (G : Nat) : Inhabited (RowT w G) := ⟨⟨(.slice none 0 0, []), none, 0, rfl, Nat.le_refl _, by unfold maxLen; omega, fun _ => rfl, by simp, fun h => by simp at h⟩⟩
def encR (w : World) (G : Nat) (p : RowT w G) : Value := p.1.1
def cfR (w : World) (G : Nat) (p q : RowT w G) : Int := cmpL p.1.2 q.1.2
theorem encR_one (w : World) (G : Nat) : OneCell (encR w G) := fun p => by
  obtain ⟨_, _, e, _⟩ := p.2
  unfold encR
  rw [e]
  rfl
theorem swoR (w : World) (G : Nat) : SWO (ltOf (cfR w G)) where
  irrefl x := by simp [ltOf, cfR, cmpL_self]
  trans x y z h1 h2 := decide_eq_true (cmpL_trans _ _ _ (of_decide_eq_true h1) (of_decide_eq_true h2))
  ntrans x y z h1 h2 := decide_eq_false (cmpL_ntrans _ _ _ (of_decide_eq_false h1) (of_decide_eq_false h2))
theorem cell_other {w : World} {G : Nat} {n : Nat} {dk : Array (RowT w G)} {os : Array Obj} (a : Addr) (h1 : a.block ≠ G) (h2 : a.block < w.heap.size) : (sortWorld (encR w G) w G 0 n dk os).cell? a = w.cell? a := by
  unfold sortWorld
  rw [cell?_grow _ _ _ (by rw [Go.Sort.size_putRow]; exact h2), cell?_putRow_other (encR w G) _ G 0 dk a (Or.inl h1)]
  rfl
theorem size_sort (w : World) (G n : Nat) (dk : Array (RowT w G)) (os : Array Obj) : w.heap.size ≤ (sortWorld (encR w G) w G 0 n dk os).heap.size := by
  unfold sortWorld
  rw [size_grow, Go.Sort.size_putRow]
  show w.heap.size ≤ w.heap.size + _
  omega
theorem sort_grown (w : World) (G n : Nat) (dk : Array (RowT w G)) (os : Array Obj) : w.grownBy (sortWorld (encR w G) w G 0 n dk os) (some G) := by
  refine ⟨rfl, rfl, rfl, size_sort w G n dk os, fun k hk hne => ?_⟩
  have hGk : G ≠ k := fun e => hne (by rw [e])
  unfold sortWorld grow putRow mapBlock Go.Sort.ahead
  simp only
  rw [Array.getElem?_append_left (by rw [Array.size_modify]; exact hk), Array.getElem?_modify, if_neg hGk]
theorem sortRows_any (G cap lo hi : Nat) (vs : List Value) (rows : List (List Int)) (w : World) (n : Nat) (hn0 : rows.length = n) (hv : RowsV w lo hi (.slice (some ⟨G, 0, none⟩) n cap) vs rows) (hn : n ≤ 1000000000) (hl : ∀ r ∈ rows, r.length ≤ 1000000000) :
    Calls Tryd.prog 40 #[.slice (some ⟨G, 0, none⟩) n cap, .func (.func 41) #[] #[]] w fun e w' => e = .returned (.tuple #[]) ∧
      ∃ S : List (List Int), S.Perm rows ∧ (∀ (i j : Nat) (x y : List Int), i < j → S[i]? = some x → S[j]? = some y → ¬ cmpL y x < 0) ∧ RowsR w' w'.heap.size (some ⟨G, 0, none⟩) n S ∧ w.grownBy w' (some G) := by
  subst hn0
  have hvl := hv.len
  have each : ∀ i : Fin rows.length, RowAt w G (vs[i.1]'(by omega), rows[i.1]) := by
    intro i
    have hu : vs[i.1]? = some (vs[i.1]'(by omega)) := List.getElem?_eq_getElem (by omega)
    have hr : rows[i.1]? = some rows[i.1] := List.getElem?_eq_getElem i.2
    have ho := hv.row i.1 _ _ hu hr
    have hoff := hv.off i.1 _ hu
    obtain ⟨Ak, ck, e, h1, h2, h3⟩ := own_form' ho
    refine ⟨Ak, ck, e, h1, h2, fun e' => (h3 e').1, hl _ (List.getElem_mem _), fun h0 => ?_⟩
    rw [e] at ho hoff
    obtain ⟨ad, rfl, hb, hc⟩ := (Reads.of_own ho).2 h0
    refine ⟨ad, rfl, fun eg => ?_, hb, fun j x hx => hc j _ (by unfold inCells; rw [List.getElem?_map, hx]; rfl)⟩
    rcases hoff with h | h
    · simp [Value.ownBlock] at h
    · simp [Value.ownBlock, eg] at h
  obtain ⟨d, hd⟩ : ∃ d : Array (RowT w G), d = Array.ofFn (n := rows.length) fun i => ⟨(vs[i.1]'(by omega), rows[i.1]), each i⟩ := ⟨_, rfl⟩
  have hds : d.size = rows.length := by rw [hd, Array.size_ofFn]
  have hdj : ∀ j (h : j < rows.length), (d[j]!).1 = (vs[j]'(by omega), rows[j]) := by
    intro j h
    rw [getElem!_pos d j (by omega)]
    simp [hd]
  have hdl : d.toList.map (fun p => p.1.2) = rows := by
    apply List.ext_getElem
    · simp [hds]
    · intro j h1 h2
      have := hdj j h2
      rw [getElem!_pos d j (by omega)] at this
      simp [this]
  have hG : G < w.heap.size := (hv.own.lt G rfl).2
  have hH : Holds (encR w G) w G 0 d := by
    intro j hj
    have hu : vs[j]? = some (vs[j]'(by omega)) := List.getElem?_eq_getElem (by omega)
    have e : encR w G d[j]! = vs[j]'(by omega) := by unfold encR; rw [hdj j (by omega)]
    rw [e, Nat.zero_add]
    exact ⟨(hv.own.cellAt j (by omega)).trans hu, hv.own.frozenAt j⟩
  have hcmp : CmpLays1 Tryd.prog 41 #[] (encR w G) (cfR w G) G 0 d.size w := by
    intro m os dk _ x y
    obtain ⟨Ax, cx, ex, _, _, _, hnx, _⟩ := x.2
    obtain ⟨Ay, cy, ey, _, _, _, hny, _⟩ := y.2
    have ex' : encR w G x = .slice Ax x.1.2.length cx := ex
    have ey' : encR w G y = .slice Ay y.1.2.length cy := ey
    rw [ex', ey']
    have hk : ∀ a : Addr, a.block ≠ G → a.block < w.heap.size → (sortWorld (encR w G) w G 0 m dk os).cell? a = w.cell? a := fun a h1 h2 => cell_other a h1 h2
    refine (compare_is Ax Ay _ _ cx cy x.1.2 y.1.2 _ rfl rfl (x.2.reads ex (size_sort w G m dk os) hk) (y.2.reads ey (size_sort w G m dk os) hk) hnx hny).mono ?_
    rintro e w' ⟨rfl, rfl⟩
    exact ⟨rfl, 0, #[], by rw [grow_empty]; rfl⟩
  have eg : ∀ args w, (callFunc 41 args).run Tryd.prog w = .ok (.enter 41 args) w := enters_of Tryd.func41 (by kernel_rfl) rfl
  have hcon := Any.slices_SortFunc Tryd.sortR (encR w G) (encR_one w G) (cfR w G) (swoR w G) 41 #[] G 0 cap d w eg hcmp hH hG (by omega)
  rw [hds] at hcon
  change Calls Tryd.prog 40 _ _ _ at hcon
  refine hcon.mono ?_
  rintro e w' ⟨rfl, d', m, os, hp, hsrt, rfl⟩
  refine ⟨rfl, d'.toList.map (fun p => p.1.2), ?_, ?_, ?_, sort_grown w G m d' os⟩
  · have h1 := hp.2.2
    have hz := hp.1
    rw [Array.extract_eq_self_of_le (by omega), Array.extract_eq_self_of_le (by omega)] at h1
    have := h1.map (fun p : RowT w G => p.1.2)
    rwa [hdl] at this
  · intro i j x y hij hx hy
    rw [List.getElem?_map] at hx hy
    obtain ⟨p, hp', rfl⟩ := Option.map_eq_some_iff.1 hx
    obtain ⟨q, hq', rfl⟩ := Option.map_eq_some_iff.1 hy
    have hjl := (List.getElem?_eq_some_iff.1 hq').1
    have hil := (List.getElem?_eq_some_iff.1 hp').1
    rw [Array.length_toList] at hjl hil
    have hz := hp.1
    have h := hsrt i j (Nat.zero_le _) hij (by omega)
    rw [getElem!_pos d' j hjl, getElem!_pos d' i hil] at h
    have e1 := (List.getElem?_eq_some_iff.1 hp').2
    have e2 := (List.getElem?_eq_some_iff.1 hq').2
    rw [Array.getElem_toList] at e1 e2
    rw [e1, e2] at h
    exact of_decide_eq_false h
  · have hz := hp.1
    have hH' := holds_sortWorld (encR w G) w G 0 m d d' os hG hH hz
    refine ⟨d'.toList.map (fun p => p.1.1), ⟨by simp; omega, fun _ => ⟨⟨G, 0, none⟩, rfl, Nat.lt_of_lt_of_le hG (size_sort w G m d' os), fun j u hu => ?_⟩⟩, by simp; omega, fun k row hr => ?_⟩
    · rw [List.getElem?_map] at hu
      obtain ⟨p, hp', rfl⟩ := Option.map_eq_some_iff.1 hu
      have hjl := (List.getElem?_eq_some_iff.1 hp').1
      rw [Array.length_toList] at hjl
      have := (hH' j hjl).1
      rw [Nat.zero_add, getElem!_pos d' j hjl] at this
      have e1 := (List.getElem?_eq_some_iff.1 hp').2
      rw [Array.getElem_toList] at e1
      rw [e1] at this
      rw [addr_zero_add]
      exact this
    · rw [List.getElem?_map] at hr
      obtain ⟨p, hp', rfl⟩ := Option.map_eq_some_iff.1 hr
      obtain ⟨Ak, ck, e, h1, h2, h3, _, _⟩ := id p.2
      exact ⟨Ak, ck, by rw [List.getElem?_map, hp']; exact congrArg some e, h1, h2, h3, p.2.reads e (size_sort w G m d' os) (fun a h1 h2 => cell_other a h1 h2)⟩
/-- Rows of the call's own, none too. -/
theorem sortO_any (lo hi : Nat) (v : Value) (rows : List (List Int)) (w : World) (hv : RowsO w lo hi v rows) (hn : rows.length ≤ 1000000000) (hl : ∀ r ∈ rows, r.length ≤ 1000000000) :
    Calls Tryd.prog 40 #[v, .func (.func 41) #[] #[]] w fun e w' => e = .returned (.tuple #[]) ∧
      ∃ (A : Option Addr) (c : Nat) (S : List (List Int)), v = .slice A rows.length c ∧ S.Perm rows ∧ (∀ (i j : Nat) (x y : List Int), i < j → S[i]? = some x → S[j]? = some y → ¬ cmpL y x < 0) ∧ RowsR w' w'.heap.size A rows.length S ∧ Touch lo hi w w' := by
  obtain ⟨vs, hv⟩ := hv
  rcases own_cases hv.own with ⟨rfl, h0, _⟩ | ⟨G, cap, rfl⟩
  · obtain rfl : rows = [] := List.eq_nil_of_length_eq_zero h0
    have hcon := AnyF.slices_SortFunc_none (P := Tryd.prog) (ρ := Tryd.sortR_ren) { Tryd.sortR with } none 0 (.func (.func 41) #[] #[]) w
    change Calls Tryd.prog 40 _ _ _ at hcon
    refine hcon.mono ?_
    rintro e w' ⟨rfl, rfl⟩
    exact ⟨rfl, none, 0, [], rfl, List.Perm.refl _, fun i j x y _ hx => by simp at hx, RowsR.none_, Touch.refl _ _ _⟩
  · refine (sortRows_any G cap lo hi vs rows w _ rfl hv hn hl).mono ?_
    rintro e w' ⟨rfl, S, h1, h2, h3, h4⟩
    exact ⟨rfl, _, _, S, rfl, h1, h2, h3, Touch.of_grown h4 fun g e => ⟨(hv.own.lt g e).1, hv.top g e⟩⟩
end Go.Proofs.YtijpdekcdejfmaaDoor
