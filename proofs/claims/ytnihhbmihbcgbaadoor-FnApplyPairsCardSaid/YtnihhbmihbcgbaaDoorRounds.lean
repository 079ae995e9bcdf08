/- rounds of pairs: how many a network has, and how parts of a list add up. Plain Lean. -/
import Derived.Test.YtnihhbmihbcgbaaDoorNet
import Derived.Test.YtnihhbmihbcgbaaDoorDepth
namespace Go.Proofs.YtnihhbmihbcgbaaDoor
open Go Go.RowKit

def UpTo (D : Int) (s : List Int × Int) : Prop := (∀ x : Nat, s.1.getD x 0 ≤ D) ∧ s.2 ≤ D
theorem getD_set2 (L : List Int) (a b : Nat) (R : Int) (x : Nat) : ((L.set a R).set b R).getD x 0 = if (x = a ∨ x = b) ∧ x < L.length then R else L.getD x 0 := by
  rw [List.getD_eq_getElem?_getD, List.getD_eq_getElem?_getD, List.getElem?_set, List.getElem?_set]
  simp only [List.length_set]
  by_cases hb : b = x
  · subst hb
    rw [if_pos rfl]
    by_cases hl : b < L.length
    · rw [if_pos hl, if_pos ⟨Or.inr rfl, hl⟩]; rfl
    · rw [if_neg hl, if_neg (by rintro ⟨_, h⟩; exact hl h), List.getElem?_eq_none (by omega)]
  · rw [if_neg hb]
    by_cases ha : a = x
    · subst ha
      rw [if_pos rfl]
      by_cases hl : a < L.length
      · rw [if_pos hl, if_pos ⟨Or.inl rfl, hl⟩]; rfl
      · rw [if_neg hl, if_neg (by rintro ⟨_, h⟩; exact hl h), List.getElem?_eq_none (by omega)]
    · rw [if_neg ha, if_neg (by rintro ⟨h | h, _⟩ <;> omega)]
theorem dStep_at (s : List Int × Int) (a b : Nat) (x : Nat) : (dStep s ((a : Int), (b : Int))).1.getD x 0 = if (x = a ∨ x = b) ∧ x < s.1.length then max (s.1.getD a 0) (s.1.getD b 0) + 1 else s.1.getD x 0 := by
  unfold dStep
  simp only [Int.toNat_natCast]
  exact getD_set2 ..
theorem dStep_two (s : List Int × Int) (a b : Nat) : (dStep s ((a : Int), (b : Int))).2 = max s.2 (max (s.1.getD a 0) (s.1.getD b 0) + 1) := by
  unfold dStep
  simp only [Int.toNat_natCast]

/-- Pairs of one pass have no place in common: one round more at most. -/
theorem pass_round (m p s d : Nat) (D : Int) (hD : 0 ≤ D) (hd : 0 < d) (hdis : ∀ x, x / p % 2 = s → (x + d) / p % 2 ≠ s) :
    ∀ (n i : Nat) (S : List Int × Int), m - d - i = n → UpTo (D + 1) S → (∀ x, (x / p % 2 = s ∧ i ≤ x) ∨ (d + i ≤ x ∧ (x - d) / p % 2 = s) → S.1.getD x 0 ≤ D) → UpTo (D + 1) ((passI m p s d i).foldl dStep S) := by
  intro n
  induction n with
  | zero =>
    intro i S hn hS _
    rw [passI_end m p s d i (by omega)]
    exact hS
  | succ n ih =>
    intro i S hn hS hfr
    rw [passI_step m p s d i (by omega), List.foldl_append]
    by_cases hi : i / p % 2 = s
    · rw [if_pos hi]
      have h1 : [((i : Int), ((i + d : Nat) : Int))].foldl dStep S = dStep S ((i : Int), ((i + d : Nat) : Int)) := rfl
      have a1 := hfr i (Or.inl ⟨hi, Nat.le_refl _⟩)
      have a2 := hfr (i + d) (Or.inr ⟨by omega, by rw [Nat.add_sub_cancel]; exact hi⟩)
      have hid := hdis i hi
      rw [h1]
      refine ih (i + 1) _ (by omega) ⟨fun x => ?_, ?_⟩ (fun x hx => ?_)
      · rw [dStep_at]
        split
        · omega
        · exact hS.1 x
      · rw [dStep_two]
        have := hS.2
        omega
      · rw [dStep_at, if_neg]
        · exact hfr x (hx.elim (fun h => Or.inl ⟨h.1, by omega⟩) (fun h => Or.inr ⟨by omega, h.2⟩))
        · rintro ⟨rfl | rfl, _⟩
          · rcases hx with h | h <;> omega
          · rcases hx with h | h
            · exact hid h.1
            · omega
    · rw [if_neg hi]
      exact ih (i + 1) S (by omega) hS (fun x hx => hfr x (hx.elim (fun h => Or.inl ⟨h.1, by omega⟩) (fun h => Or.inr ⟨by omega, h.2⟩)))

theorem pass_up (m p s d : Nat) (D : Int) (hD : 0 ≤ D) (hd : 0 < d) (hdis : ∀ x, x / p % 2 = s → (x + d) / p % 2 ≠ s) (S : List Int × Int) (hS : UpTo D S) : UpTo (D + 1) ((passI m p s d 0).foldl dStep S) :=
  pass_round m p s d D hD hd hdis _ 0 S rfl ⟨fun x => by have := hS.1 x; omega, by have := hS.2; omega⟩ (fun x _ => hS.1 x)

theorem dis_lo {p : Nat} (hp : 0 < p) (x : Nat) (h : x / p % 2 = 0) : (x + p) / p % 2 ≠ 0 := by
  rw [Nat.add_div_right _ hp]; omega
theorem dis_hi {e q : Nat} (he : e < q) (x : Nat) (hx : x / 2 ^ e % 2 = 1) : (x + (2 ^ q - 2 ^ e)) / 2 ^ e % 2 ≠ 1 := by
  obtain ⟨g, rfl⟩ : ∃ g, q = e + g + 1 := ⟨q - e - 1, by omega⟩
  have hp : 0 < 2 ^ e := Nat.two_pow_pos e
  have hg := Nat.two_pow_pos g
  have h1 : 2 ^ (e + g + 1) = (2 * 2 ^ g) * 2 ^ e := by rw [Nat.pow_succ, Nat.pow_add]; rw [Nat.mul_comm (2 ^ e), Nat.mul_assoc, Nat.mul_comm (2 ^ e) 2, ← Nat.mul_assoc, Nat.mul_comm (2 ^ g)]
  have h2 : 2 ^ (e + g + 1) - 2 ^ e = (2 * 2 ^ g - 1) * 2 ^ e := by rw [h1, Nat.sub_mul, Nat.one_mul]
  rw [h2, Nat.add_mul_div_right _ _ hp]
  omega

theorem qRun_up (m e : Nat) : ∀ (q : Nat) (D : Int) (S : List Int × Int), e ≤ q → 0 ≤ D → UpTo D S → UpTo (D + ((q - e : Nat) : Int)) ((qRun m e q).foldl dStep S) := by
  intro q
  induction q with
  | zero =>
    intro D S he _ hS
    rw [show 0 - e = 0 by omega]
    simpa [qRun] using hS
  | succ q ih =>
    intro D S he hD hS
    by_cases hq : e < q + 1
    · unfold qRun
      rw [if_pos hq, List.foldl_append]
      have h1 := pass_up m (2 ^ e) 1 (2 ^ (q + 1) - 2 ^ e) D hD (by have := Nat.pow_lt_pow_right (show 1 < 2 by omega) hq; omega) (fun x hx => dis_hi hq x hx) S hS
      have h2 := ih (D + 1) _ (by omega) (by omega) h1
      rw [show q + 1 - e = (q - e) + 1 by omega]
      rwa [show D + (((q - e + 1 : Nat)) : Int) = D + 1 + ((q - e : Nat) : Int) by omega]
    · obtain rfl : e = q + 1 := by omega
      rw [qRun_stop]
      simpa using hS

def stages (t : Nat) : Nat → Nat
  | 0 => 0
  | e + 1 => 1 + (t - e) + stages t e
theorem pRun_up (m t : Nat) : ∀ (e : Nat) (D : Int) (S : List Int × Int), e ≤ t + 1 → 0 ≤ D → UpTo D S → UpTo (D + (stages t e : Int)) ((pRun m t e).foldl dStep S) := by
  intro e
  induction e with
  | zero => intro D S _ _ hS; simpa [pRun, stages] using hS
  | succ e ih =>
    intro D S he hD hS
    unfold pRun
    rw [List.foldl_append, List.foldl_append]
    have h1 := pass_up m (2 ^ e) 0 (2 ^ e) D hD (Nat.two_pow_pos e) (fun x hx => dis_lo (Nat.two_pow_pos e) x hx) S hS
    have h2 := qRun_up m e t (D + 1) _ (by omega) (by omega) h1
    have h3 := ih _ _ (by omega) (by omega) h2
    unfold stages
    rwa [show D + ((1 + (t - e) + stages t e : Nat) : Int) = D + 1 + ((t - e : Nat) : Int) + (stages t e : Int) by omega]
theorem stages_all : ∀ t, t < 8 → stages t (t + 1) = (t + 1) * (t + 2) / 2 := by decide
theorem upTo_start (many : Nat) : UpTo 0 (List.replicate many 0, 0) := by
  refine ⟨fun x => ?_, Int.le_refl _⟩
  rw [List.getD_eq_getElem?_getD, List.getElem?_replicate]
  split <;> simp
theorem net_rounds {m : Nat} (hm : m ≤ 256) : (dRun m (netL m)).2 ≤ ((topE m + 1) * (topE m + 2) / 2 : Nat) := by
  have h1 := topE_le m (by omega)
  have h2 := (pRun_up m (topE m) (topE m + 1) 0 _ (Nat.le_refl _) (Int.le_refl _) (upTo_start m)).2
  rw [stages_all _ (by omega)] at h2
  show ((pRun m (topE m) (topE m + 1)).foldl dStep (List.replicate m 0, 0)).2 ≤ _
  omega

/-! parts of a list -/
theorem dRun_append (many : Nat) (xs ys : List (Int × Int)) : dRun many (xs ++ ys) = ys.foldl dStep (dRun many xs) := by simp [dRun, List.foldl_append]
theorem dStep_mono (s : List Int × Int) (x : Int × Int) : s.2 ≤ (dStep s x).2 := by unfold dStep; simp only; omega
theorem dFold_mono (xs : List (Int × Int)) : ∀ (s : List Int × Int), s.2 ≤ (xs.foldl dStep s).2 := by
  induction xs with
  | nil => intro s; exact Int.le_refl _
  | cons x xs ih => intro s; exact Int.le_trans (dStep_mono s x) (ih _)
theorem dRun_top_aux (xs : List (Int × Int)) : ∀ (s : List Int × Int), 0 ≤ s.2 → (∀ x : Nat, s.1.getD x 0 ≤ s.2) → ∀ x : Nat, (xs.foldl dStep s).1.getD x 0 ≤ (xs.foldl dStep s).2 := by
  induction xs with
  | nil => intro s _ h; exact h
  | cons y xs ih =>
    intro s h0 h
    refine ih _ (Int.le_trans h0 (dStep_mono s y)) (fun x => ?_)
    have h1 := h x
    unfold dStep
    simp only
    rw [getD_set2]
    split <;> omega
theorem dRun_top (many : Nat) (xs : List (Int × Int)) (x : Nat) : (dRun many xs).1.getD x 0 ≤ (dRun many xs).2 :=
  dRun_top_aux xs _ (Int.le_refl _) (fun x => (upTo_start many).1 x) x
theorem dShift (xs : List (Int × Int)) (D : Int) : ∀ (s s' : List Int × Int), s.1.length = s'.1.length → (∀ x : Nat, s.1.getD x 0 ≤ D + s'.1.getD x 0) → s.2 ≤ D + s'.2 → (xs.foldl dStep s).2 ≤ D + (xs.foldl dStep s').2 := by
  induction xs with
  | nil => intro s s' _ _ h; exact h
  | cons y xs ih =>
    intro s s' hl h h2
    have a1 := h y.1.toNat
    have a2 := h y.2.toNat
    refine ih _ _ (by simp [dStep, hl]) (fun x => ?_) ?_
    · have a3 := h x
      unfold dStep
      simp only
      rw [getD_set2, getD_set2, hl]
      split <;> omega
    · unfold dStep
      simp only
      omega
theorem dRun_parts (many : Nat) (xs ys : List (Int × Int)) : (dRun many (xs ++ ys)).2 ≤ (dRun many xs).2 + (dRun many ys).2 := by
  rw [dRun_append]
  refine dShift ys _ _ _ ?_ (fun x => ?_) ?_
  · rw [(dRun_inv many xs).1]; simp
  · have h1 := dRun_top many xs x
    have h2 : (0 : Int) ≤ (List.replicate many (0 : Int)).getD x 0 := by
      rw [List.getD_eq_getElem?_getD, List.getElem?_replicate]
      split <;> simp
    show _ ≤ _ + (List.replicate many (0 : Int)).getD x 0
    omega
  · show _ ≤ _ + (0 : Int)
    omega
end Go.Proofs.YtnihhbmihbcgbaaDoor
