/- JoinRows: what it gives (plain), the reference's. -/
import Derived.Test.YtijpdekcdejfmaaDoorProj
namespace Go.Proofs.YtijpdekcdejfmaaDoor
open Go Go.RowKit
set_option maxRecDepth 100000
def joinK (a b : Nat) (x : List Int) (rb : List (List Int)) : List (List Int) := (rb.filter fun y => decide (x.getD a 0 = y.getD b 0)).map fun y => x ++ y
def joinA (a b : Nat) (ra rb : List (List Int)) : List (List Int) := ra.flatMap fun x => joinK a b x rb
theorem joinK_yes {a b : Nat} {x y : List Int} {rb : List (List Int)} {j : Nat} (h : rb[j]? = some y) (he : x.getD a 0 = y.getD b 0) : joinK a b x (rb.take (j + 1)) = joinK a b x (rb.take j) ++ [x ++ y] := by
  unfold joinK
  rw [take_snoc rb j y h, List.filter_append, List.map_append]
  congr 1
  rw [List.filter_cons, if_pos (by simp only [decide_eq_true_eq]; exact he)]
  rfl
theorem joinK_no {a b : Nat} {x y : List Int} {rb : List (List Int)} {j : Nat} (h : rb[j]? = some y) (he : ¬ x.getD a 0 = y.getD b 0) : joinK a b x (rb.take (j + 1)) = joinK a b x (rb.take j) := by
  unfold joinK
  rw [take_snoc rb j y h, List.filter_append, List.map_append]
  rw [List.filter_cons, if_neg (by simp only [decide_eq_true_eq]; exact he)]
  simp
theorem joinA_next {a b : Nat} {x : List Int} {ra rb : List (List Int)} {k : Nat} (h : ra[k]? = some x) : joinA a b (ra.take (k + 1)) rb = joinA a b (ra.take k) rb ++ joinK a b x rb := by
  unfold joinA
  rw [take_snoc ra k x h, List.flatMap_append, List.flatMap_singleton]
theorem joinK_len (a b : Nat) (x : List Int) (rb : List (List Int)) : (joinK a b x rb).length ≤ rb.length := by
  unfold joinK
  rw [List.length_map]
  exact List.length_filter_le _ _
theorem joinA_len (a b : Nat) (ra rb : List (List Int)) : (joinA a b ra rb).length ≤ ra.length * rb.length := by
  induction ra with
  | nil => simp [joinA]
  | cons x ra ih =>
    have e : joinA a b (x :: ra) rb = joinK a b x rb ++ joinA a b ra rb := rfl
    have := joinK_len a b x rb
    rw [e, List.length_append, List.length_cons, Nat.succ_mul]
    omega
theorem joinA_row {a b : Nat} {ra rb : List (List Int)} {r : List Int} (h : r ∈ joinA a b ra rb) : ∃ x ∈ ra, ∃ y ∈ rb, r = x ++ y ∧ x.getD a 0 = y.getD b 0 := by
  unfold joinA at h
  obtain ⟨x, hx, h⟩ := List.mem_flatMap.1 h
  unfold joinK at h
  obtain ⟨y, hy, rfl⟩ := List.mem_map.1 h
  rw [List.mem_filter] at hy
  exact ⟨x, hx, y, hy.1, rfl, of_decide_eq_true hy.2⟩
theorem table_bd {names : List ByteArray} {rows : List (List Int)} (h : tableB names rows = true) : names.length ≤ 6 ∧ 1 ≤ names.length ∧ rows.length ≤ 16 ∧ (∀ x ∈ names, x.size ≤ 8) := by
  unfold tableB at h
  simp only [Bool.and_eq_true, decide_eq_true_eq] at h
  obtain ⟨h1, h2, _⟩ := h
  unfold namesB at h1
  rw [Bool.and_eq_true] at h1
  obtain ⟨h4, h5⟩ := inB_true h1.2
  refine ⟨by omega, by omega, h2, fun x hx => ?_⟩
  obtain ⟨i, hi, rfl⟩ := List.getElem_of_mem hx
  have h6 := List.all_eq_true.1 h1.1 i (List.mem_range.2 hi)
  rw [nameAt_some (List.getElem?_eq_getElem hi), Bool.and_eq_true] at h6
  have h7 := h6.1
  unfold nameB at h7
  simp only [Bool.and_eq_true] at h7
  have := inB_true h7.2.1
  omega
theorem table_small {names : List ByteArray} {rows : List (List Int)} (h : tableB names rows = true) : Small names rows := by
  obtain ⟨h1, h2, h3, h4⟩ := table_bd h
  exact ⟨by omega, fun x hx => by have := h4 x hx; omega, by omega, fun r hr => by have := rows_len h hr; omega⟩
def joinB (na : List ByteArray) (ra : List (List Int)) (nb : List ByteArray) (rb : List (List Int)) (l r : ByteArray) : Bool :=
  tableB na ra && (tableB nb rb && (hasW na l && (hasW nb r && tableB (na ++ nb) (joinA (colN na l) (colN nb r) ra rb))))
def JoinIs (na : List ByteArray) (ra : List (List Int)) (nb : List ByteArray) (rb : List (List Int)) (l r : ByteArray) (ok : Bool) (N : List ByteArray) (R : List (List Int)) : Prop :=
  joinB na ra nb rb l r = ok ∧ N = (if joinB na ra nb rb l r then na ++ nb else []) ∧ R = (if joinB na ra nb rb l r then joinA (colN na l) (colN nb r) ra rb else [])
section
variable {na nb N : List ByteArray} {ra rb R : List (List Int)} {l r : ByteArray} {ok : Bool}
theorem JoinIs.no (h : JoinIs na ra nb rb l r ok N R) (hb : joinB na ra nb rb l r = false) : ok = false ∧ N = [] ∧ R = [] := by
  obtain ⟨rfl, rfl, rfl⟩ := h
  simp [hb]
theorem JoinIs.yes (h : JoinIs na ra nb rb l r ok N R) (hb : joinB na ra nb rb l r = true) : ok = true ∧ N = na ++ nb ∧ R = joinA (colN na l) (colN nb r) ra rb := by
  obtain ⟨rfl, rfl, rfl⟩ := h
  simp [hb]
theorem JoinIs.ex (na : List ByteArray) (ra : List (List Int)) (nb : List ByteArray) (rb : List (List Int)) (l r : ByteArray) : ∃ ok N R, JoinIs na ra nb rb l r ok N R := ⟨_, _, _, rfl, rfl, rfl⟩
theorem JoinIs.small (h : JoinIs na ra nb rb l r ok N R) (_ha : Small na ra) (_hb : Small nb rb) : Small N R := by
  cases hb : joinB na ra nb rb l r with
  | false => obtain ⟨_, rfl, rfl⟩ := h.no hb; exact Small.none_
  | true =>
    obtain ⟨_, rfl, rfl⟩ := h.yes hb
    unfold joinB at hb
    simp only [Bool.and_eq_true] at hb
    exact table_small hb.2.2.2.2
/-- The table on the way: what TableValid asks. -/
theorem join_ok (hb : tableB nb rb = true) (ha : tableB na ra = true) : TabOk (na ++ nb) (joinA (colN na l) (colN nb r) ra rb) := by
  obtain ⟨a1, a2, a3, a4⟩ := table_bd ha
  obtain ⟨b1, b2, b3, b4⟩ := table_bd hb
  refine ⟨by rw [List.length_append]; omega, fun x hx => ?_, ?_, fun q hq => ?_⟩
  · rcases List.mem_append.1 hx with h | h
    · have := a4 x h; omega
    · have := b4 x h; omega
  · have h1 := joinA_len (colN na l) (colN nb r) ra rb
    have h2 := Nat.mul_le_mul a3 b3
    omega
  · obtain ⟨x, hx, y, hy, rfl, _⟩ := joinA_row hq
    have h1 := rows_len ha hx
    have h2 := rows_len hb hy
    rw [List.length_append]
    omega
end
end Go.Proofs.YtijpdekcdejfmaaDoor
