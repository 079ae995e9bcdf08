/- tokSize by the first byte. -/
import Derived.Test.YtnihhbmihbcgbaaDoorTokImpl
namespace Go.Proofs.YtnihhbmihbcgbaaDoor
open Go Go.RowKit
set_option maxRecDepth 100000

theorem tok_letters {c : UInt8} {r : List UInt8} (h : isL c = true) (n : Nat) (hn : ((c :: r).takeWhile isL).length = n) : tokSize (c :: r) = n ∧ 0 < n := by
  have h0 : 0 < n := by rw [← hn, List.takeWhile_cons_of_pos h]; simp
  rw [tokSize, hn, if_pos h0]
  exact ⟨rfl, h0⟩
theorem pfx1 (c d : UInt8) (r : List UInt8) : pfx (c :: r) [d] = decide (c = d) := by
  by_cases h : c = d
  · subst h; simp [pfx]
  · simp [pfx, h]
theorem tok_digits {c : UInt8} {r : List UInt8} (hl : isL c = false) (h : isD c = true ∨ (c = 45 ∧ ∃ d r', r = d :: r' ∧ isD d = true)) (n : Nat) (hn : (r.takeWhile isD).length + 1 = n) : tokSize (c :: r) = n := by
  have e1 : (c :: r).takeWhile isL = [] := List.takeWhile_cons_of_neg (by rw [hl]; simp)
  unfold tokSize
  rw [e1, List.length_nil, if_neg (by omega)]
  rcases h with h | ⟨rfl, d, r', rfl, hd⟩
  · have h45 : ¬ c = 45 := by rintro rfl; exact absurd h (by decide)
    have e2 : trimP (c :: r) [45] = c :: r := by rw [trimP, pfx1, decide_eq_false h45]; rfl
    rw [e2, List.takeWhile_cons_of_pos h, List.length_cons, hn, if_pos (by omega)]
    omega
  · have e2 : trimP (45 :: d :: r') [45] = d :: r' := rfl
    have h0 : 0 < ((d :: r').takeWhile isD).length := by rw [List.takeWhile_cons_of_pos hd]; simp
    rw [e2, if_pos h0, List.length_cons, List.length_cons]
    omega
theorem tok_two {c : UInt8} {r' : List UInt8} (h : c = 60 ∨ c = 62 ∨ c = 33) : tokSize (c :: 61 :: r') = 2 := by
  rcases h with rfl | rfl | rfl
  · have e1 : ((60 : UInt8) :: 61 :: r').takeWhile isL = [] := List.takeWhile_cons_of_neg (by decide)
    have e2 : trimP ((60 : UInt8) :: 61 :: r') [45] = 60 :: 61 :: r' := by rw [trimP, pfx1]; rfl
    have e3 : ((60 : UInt8) :: 61 :: r').takeWhile isD = [] := List.takeWhile_cons_of_neg (by decide)
    unfold tokSize
    rw [e1, e2, e3]
    rfl
  · have e1 : ((62 : UInt8) :: 61 :: r').takeWhile isL = [] := List.takeWhile_cons_of_neg (by decide)
    have e2 : trimP ((62 : UInt8) :: 61 :: r') [45] = 62 :: 61 :: r' := by rw [trimP, pfx1]; rfl
    have e3 : ((62 : UInt8) :: 61 :: r').takeWhile isD = [] := List.takeWhile_cons_of_neg (by decide)
    unfold tokSize
    rw [e1, e2, e3]
    rfl
  · have e1 : ((33 : UInt8) :: 61 :: r').takeWhile isL = [] := List.takeWhile_cons_of_neg (by decide)
    have e2 : trimP ((33 : UInt8) :: 61 :: r') [45] = 33 :: 61 :: r' := by rw [trimP, pfx1]; rfl
    have e3 : ((33 : UInt8) :: 61 :: r').takeWhile isD = [] := List.takeWhile_cons_of_neg (by decide)
    unfold tokSize
    rw [e1, e2, e3]
    rfl
theorem pfx2 (c d e : UInt8) (r : List UInt8) : pfx (c :: r) [d, e] = (decide (c = d) && decide (r.head? = some e)) := by
  cases r with
  | nil => simp [pfx]
  | cons x r =>
    by_cases h : c = d <;> by_cases h2 : x = e <;> simp [pfx, h, h2]
theorem tok_rest {c : UInt8} {r : List UInt8} (hl : isL c = false) (hd : isD c = false) (hm : ¬ (c = 45 ∧ ∃ d r', r = d :: r' ∧ isD d = true)) :
    tokSize (c :: r) = signSize (c :: r) signs := by
  have e1 : (c :: r).takeWhile isL = [] := List.takeWhile_cons_of_neg (by rw [hl]; simp)
  have e3 : (trimP (c :: r) [45]).takeWhile isD = [] := by
    rw [trimP, pfx1]
    by_cases h : c = 45
    · rw [decide_eq_true h, if_pos rfl]
      cases r with
      | nil => rfl
      | cons d r' =>
        refine List.takeWhile_cons_of_neg fun hd => hm ⟨h, d, r', rfl, hd⟩
    · rw [decide_eq_false h, if_neg (by simp)]
      exact List.takeWhile_cons_of_neg (by rw [hd]; simp)
  unfold tokSize
  rw [e1, e3]
  rfl
theorem tok_one {c : UInt8} {r : List UInt8} (hl : isL c = false) (hd : isD c = false) (hm : ¬ (c = 45 ∧ ∃ d r', r = d :: r' ∧ isD d = true))
    (h2 : ¬ ((c = 60 ∨ c = 62 ∨ c = 33) ∧ ∃ r', r = 61 :: r')) (h1 : c = 61 ∨ c = 60 ∨ c = 62 ∨ c = 44) : tokSize (c :: r) = 1 := by
  rw [tok_rest hl hd hm]
  have hh : (c = 60 ∨ c = 62 ∨ c = 33) → ¬ r.head? = some 61 := by
    intro hc he
    apply h2
    cases r with
    | nil => simp at he
    | cons x r => exact ⟨hc, r, by simp at he; rw [he]⟩
  rcases h1 with rfl | rfl | rfl | rfl
  · simp [signs, signSize, pfx1, pfx2]
  · simp [signs, signSize, pfx1, pfx2, hh]
  · simp [signs, signSize, pfx1, pfx2, hh]
  · simp [signs, signSize, pfx1, pfx2]
theorem tok_none {c : UInt8} {r : List UInt8} (hl : isL c = false) (hd : isD c = false) (hm : ¬ (c = 45 ∧ ∃ d r', r = d :: r' ∧ isD d = true))
    (h2 : ¬ ((c = 60 ∨ c = 62 ∨ c = 33) ∧ ∃ r', r = 61 :: r')) (h1 : ¬ (c = 61 ∨ c = 60 ∨ c = 62 ∨ c = 44)) : tokSize (c :: r) = 0 := by
  rw [tok_rest hl hd hm]
  have hh : c = 33 → ¬ r.head? = some 61 := by
    intro hc he
    apply h2
    cases r with
    | nil => simp at he
    | cons x r => exact ⟨.inr (.inr hc), r, by simp at he; rw [he]⟩
  have g1 : ¬ c = 61 := fun h => h1 (.inl h)
  have g2 : ¬ c = 60 := fun h => h1 (.inr (.inl h))
  have g3 : ¬ c = 62 := fun h => h1 (.inr (.inr (.inl h)))
  have g4 : ¬ c = 44 := fun h => h1 (.inr (.inr (.inr h)))
  by_cases hc : c = 33
  · simp [signs, signSize, pfx1, pfx2, g1, g2, g3, g4, hh hc]
  · simp [signs, signSize, pfx1, pfx2, g1, g2, g3, g4, hc]
end Go.Proofs.YtnihhbmihbcgbaaDoor
