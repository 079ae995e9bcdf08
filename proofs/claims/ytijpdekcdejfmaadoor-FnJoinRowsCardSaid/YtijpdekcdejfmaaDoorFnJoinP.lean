/- laws.FnJoinRows: the plain law. -/
import Derived.Test.YtijpdekcdejfmaaDoorJoin
namespace Go.Proofs.YtijpdekcdejfmaaDoor
open Go Go.RowKit
set_option maxRecDepth 100000
theorem hasW_no {xs : List ByteArray} {x : ByteArray} : hasW xs x = false ↔ x ∉ xs := by
  unfold hasW
  rw [List.any_eq_false]
  constructor
  · intro h hx
    exact h x hx (by simp)
  · intro h y hy
    simp only [decide_eq_true_eq]
    rintro rfl
    exact h hy
theorem namesB_iff {xs : List ByteArray} : namesB xs = true ↔ (∀ x ∈ xs, nameB x = true) ∧ xs.Nodup ∧ inB xs.length 1 6 = true := by
  have at_ : ∀ k (hk : k < xs.length), nameAt xs k = (nameB xs[k] && !hasW (xs.take k) xs[k]) := fun k hk => nameAt_some (List.getElem?_eq_getElem hk)
  unfold namesB
  rw [Bool.and_eq_true, List.all_eq_true]
  constructor
  · rintro ⟨h1, h2⟩
    have h3 : ∀ k (hk : k < xs.length), nameB xs[k] = true ∧ xs[k] ∉ xs.take k := fun k hk => by
      have := h1 k (List.mem_range.2 hk)
      rw [at_ k hk, Bool.and_eq_true] at this
      exact ⟨this.1, hasW_no.1 (by simpa using this.2)⟩
    refine ⟨fun x hx => ?_, ?_, h2⟩
    · obtain ⟨k, hk, rfl⟩ := List.getElem_of_mem hx
      exact (h3 k hk).1
    · rw [List.Nodup, List.pairwise_iff_getElem]
      intro i j hi hj hij e
      refine (h3 j hj).2 ?_
      rw [← e, List.mem_take_iff_getElem]
      exact ⟨i, by omega, rfl⟩
  · rintro ⟨h1, h2, h3⟩
    refine ⟨fun k hk => ?_, h3⟩
    have hk := List.mem_range.1 hk
    rw [at_ k hk, h1 _ (List.getElem_mem hk), Bool.true_and]
    have : hasW (xs.take k) xs[k] = false := hasW_no.2 (fun hm => by
      obtain ⟨i, hi, e⟩ := List.mem_take_iff_getElem.1 hm
      rw [List.Nodup, List.pairwise_iff_getElem] at h2
      exact h2 i k (by omega) hk (by omega) e)
    rw [this]
    rfl
theorem joinA_cons_len (a b : Nat) (x : List Int) (ra : List (List Int)) : ∀ rb : List (List Int), (joinA b a rb (x :: ra)).length = (joinK a b x rb).length + (joinA b a rb ra).length
  | [] => rfl
  | y :: rb => by
    have e1 : joinA b a (y :: rb) (x :: ra) = joinK b a y (x :: ra) ++ joinA b a rb (x :: ra) := rfl
    have e2 : joinA b a (y :: rb) ra = joinK b a y ra ++ joinA b a rb ra := rfl
    rw [e1, e2, List.length_append, List.length_append, joinA_cons_len a b x ra rb]
    unfold joinK
    simp only [List.length_map]
    by_cases h : x.getD a 0 = y.getD b 0
    · rw [List.filter_cons_of_pos (by simpa using h.symm), List.filter_cons_of_pos (by simpa using h)]
      simp only [List.length_cons]
      omega
    · rw [List.filter_cons_of_neg (by simp only [decide_eq_true_eq]; exact fun e => h e.symm), List.filter_cons_of_neg (by simp only [decide_eq_true_eq]; exact h)]
      omega
theorem joinA_nil (b a : Nat) : ∀ rb : List (List Int), joinA b a rb [] = []
  | [] => rfl
  | y :: rb => by
    have e1 : joinA b a (y :: rb) [] = joinK b a y [] ++ joinA b a rb [] := rfl
    rw [e1, joinA_nil b a rb]
    rfl
theorem joinA_turn (a b : Nat) (rb : List (List Int)) : ∀ ra : List (List Int), (joinA b a rb ra).length = (joinA a b ra rb).length
  | [] => by rw [joinA_nil]; rfl
  | x :: ra => by
    have e1 : joinA a b (x :: ra) rb = joinK a b x rb ++ joinA a b ra rb := rfl
    rw [joinA_cons_len, e1, List.length_append, joinA_turn a b rb ra]
theorem tab_rows {names : List ByteArray} {rows : List (List Int)} (h : tableB names rows = true) : ∀ r ∈ rows, r.length = names.length ∧ r.all valB = true := by
  unfold tableB rowsB at h
  simp only [Bool.and_eq_true] at h
  intro r hr
  have := List.all_eq_true.1 h.2.2 r hr
  unfold rowB at this
  simpa using this
section
variable {na nb : List ByteArray} {ra rb : List (List Int)} {l r : ByteArray}
theorem join_turn (h : joinB na ra nb rb l r = true) : JoinIs nb rb na ra r l true (nb ++ na) (joinA (colN nb r) (colN na l) rb ra) ∧ (joinA (colN nb r) (colN na l) rb ra).length = (joinA (colN na l) (colN nb r) ra rb).length := by
  have hlen := joinA_turn (colN na l) (colN nb r) rb ra
  unfold joinB at h
  simp only [Bool.and_eq_true] at h
  obtain ⟨ha, hb, hl, hr, ht⟩ := h
  have ht0 := ht
  unfold tableB at ht0
  simp only [Bool.and_eq_true, decide_eq_true_eq] at ht0
  obtain ⟨hn, h16, _⟩ := ht0
  have hn' := namesB_iff.1 hn
  have hB : joinB nb rb na ra r l = true := by
    unfold joinB
    simp only [Bool.and_eq_true]
    refine ⟨hb, ha, hr, hl, ?_⟩
    unfold tableB
    simp only [Bool.and_eq_true, decide_eq_true_eq]
    refine ⟨namesB_iff.2 ⟨fun x hx => hn'.1 x (by rw [List.mem_append] at hx ⊢; exact hx.symm), ?_, ?_⟩, by rw [hlen]; exact h16, ?_⟩
    · have := hn'.2.1
      rw [List.nodup_append] at this ⊢
      exact ⟨this.2.1, this.1, fun x hx y hy e => this.2.2 y hy x hx e.symm⟩
    · have := hn'.2.2
      rw [List.length_append] at this ⊢
      rw [Nat.add_comm]
      exact this
    · unfold rowsB
      rw [List.all_eq_true]
      intro q hq
      obtain ⟨y, hy, x, hx, rfl, _⟩ := joinA_row hq
      have h1 := tab_rows hb y hy
      have h2 := tab_rows ha x hx
      unfold rowB
      simp only [Bool.and_eq_true, decide_eq_true_eq, List.length_append, List.all_append]
      exact ⟨by omega, h1.2, h2.2⟩
  exact ⟨⟨hB, by rw [hB]; rfl, by rw [hB]; rfl⟩, hlen⟩
theorem join_cols (h : joinB na ra nb rb l r = true) : ColIs (na ++ nb) l (colN na l : Int) ∧ ColIs (na ++ nb) r ((na.length + colN nb r : Nat) : Int) ∧ tableB (na ++ nb) (joinA (colN na l) (colN nb r) ra rb) = true ∧ (joinA (colN na l) (colN nb r) ra rb).length ≤ ra.length * rb.length ∧
    ∀ q ∈ joinA (colN na l) (colN nb r) ra rb, ∃ v : Int, q[colN na l]? = some v ∧ q[na.length + colN nb r]? = some v := by
  unfold joinB at h
  simp only [Bool.and_eq_true] at h
  obtain ⟨ha, hb, hl, hr, ht⟩ := h
  have ht0 := ht
  unfold tableB at ht0
  simp only [Bool.and_eq_true, decide_eq_true_eq] at ht0
  obtain ⟨hn, _⟩ := ht0
  have hnd := (namesB_iff.1 hn).2.1
  have col : ∀ (k : Nat) (y : ByteArray), (na ++ nb)[k]? = some y → ColIs (na ++ nb) y (k : Int) := by
    intro k y hk
    have hlt : k < (na ++ nb).length := by
      rcases Nat.lt_or_ge k (na ++ nb).length with h | h
      · exact h
      · rw [List.getElem?_eq_none h] at hk; cases hk
    refine .inr ⟨k, rfl, hlt, hk, hasW_no.2 fun hm => ?_⟩
    obtain ⟨i, hi, e⟩ := List.mem_take_iff_getElem.1 hm
    rw [List.Nodup, List.pairwise_iff_getElem] at hnd
    rw [List.getElem?_eq_getElem hlt] at hk
    exact hnd i k (by omega) hlt (by omega) (e.trans (Option.some.inj hk).symm)
  have gl := colN_lt hl
  have gr := colN_lt hr
  have el : na[colN na l]? = some l := by
    rcases colN_is hl with ⟨e, _⟩ | ⟨k, e, _, hk, _⟩
    · omega
    · rw [show colN na l = k by omega]; exact hk
  have er : nb[colN nb r]? = some r := by
    rcases colN_is hr with ⟨e, _⟩ | ⟨k, e, _, hk, _⟩
    · omega
    · rw [show colN nb r = k by omega]; exact hk
  refine ⟨col _ _ (by rw [List.getElem?_append_left gl]; exact el), col _ _ (by rw [List.getElem?_append_right (by omega), Nat.add_sub_cancel_left]; exact er), ht, joinA_len _ _ _ _, fun q hq => ?_⟩
  obtain ⟨x, hx, y, hy, rfl, e⟩ := joinA_row hq
  have hxl := (tab_rows ha x hx).1
  have hyl := (tab_rows hb y hy).1
  have h1 : colN na l < x.length := by omega
  have h2 : colN nb r < y.length := by omega
  rw [List.getD_eq_getElem?_getD, List.getD_eq_getElem?_getD, List.getElem?_eq_getElem h1, List.getElem?_eq_getElem h2] at e
  refine ⟨x[colN na l], ?_, ?_⟩
  · rw [List.getElem?_append_left h1, List.getElem?_eq_getElem h1]
  · rw [List.getElem?_append_right (by omega), hxl, Nat.add_sub_cancel_left, List.getElem?_eq_getElem h2]
    exact congrArg some e.symm
end
end Go.Proofs.YtijpdekcdejfmaaDoor
