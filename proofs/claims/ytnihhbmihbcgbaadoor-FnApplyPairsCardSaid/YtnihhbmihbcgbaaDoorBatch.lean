/- the network sorts: Batcher's merge exchange, by zeros and ones. Plain Lean. -/
import Derived.Test.YtnihhbmihbcgbaaDoorNet
import Derived.Test.YtnihhbmihbcgbaaDoorApply
namespace Go.Proofs.YtnihhbmihbcgbaaDoor
open Go Go.RowKit

def zf (t : Int) (L : List Int) (i : Nat) : Bool := ((L[i]?).map fun x => decide (x < t)).getD false
def cx (a b : Nat) (f : Nat → Bool) (i : Nat) : Bool := if i = a then f a || f b else if i = b then f a && f b else f i
theorem zf_some {t : Int} {L : List Int} {i : Nat} {x : Int} (h : L[i]? = some x) : zf t L i = decide (x < t) := by simp [zf, h]
theorem zf_out {t : Int} {L : List Int} {i : Nat} (h : L.length ≤ i) : zf t L i = false := by simp [zf, List.getElem?_eq_none h]
theorem zf_applyS {t : Int} {L : List Int} {a b : Nat} (hab : a < b) (hb : b < L.length) : zf t (applyS L ((a : Int), (b : Int))) = cx a b (zf t L) := by
  funext i
  have ha' : L[a]? = some L[a] := List.getElem?_eq_getElem (by omega)
  have hb' : L[b]? = some L[b] := List.getElem?_eq_getElem hb
  obtain ⟨la, hla⟩ : ∃ la, L[a] = la := ⟨_, rfl⟩
  obtain ⟨lb, hlb⟩ : ∃ lb, L[b] = lb := ⟨_, rfl⟩
  rw [hla] at ha'
  rw [hlb] at hb'
  rw [applyS_at ha' hb']
  unfold cx
  rw [zf_some ha', zf_some hb']
  by_cases h : lb < la
  · rw [if_pos h]
    by_cases hia : i = a
    · subst hia
      rw [if_pos rfl]
      have : ((L.set i lb).set b la)[i]? = some lb := by
        rw [List.getElem?_set_ne (by omega), List.getElem?_set_self (by omega)]
      rw [zf_some this]
      by_cases h1 : la < t <;> by_cases h2 : lb < t <;> simp [h1, h2] <;> omega
    · rw [if_neg hia]
      by_cases hib : i = b
      · subst hib
        rw [if_pos rfl]
        have : ((L.set a lb).set i la)[i]? = some la := by rw [List.getElem?_set_self (by simpa using hb)]
        rw [zf_some this]
        by_cases h1 : la < t <;> by_cases h2 : lb < t <;> simp [h1, h2] <;> omega
      · rw [if_neg hib]
        unfold zf
        rw [List.getElem?_set_ne (by omega), List.getElem?_set_ne (by omega)]
  · rw [if_neg h]
    by_cases hia : i = a
    · subst hia
      rw [if_pos rfl, zf_some ha']
      by_cases h1 : la < t <;> by_cases h2 : lb < t <;> simp [h1, h2] <;> omega
    · rw [if_neg hia]
      by_cases hib : i = b
      · subst hib
        rw [if_pos rfl, zf_some hb']
        by_cases h1 : la < t <;> by_cases h2 : lb < t <;> simp [h1, h2] <;> omega
      · rw [if_neg hib]

/-- One pass over all places at once, from place i0 on. -/
def stg (p s d i0 : Nat) (f : Nat → Bool) (x : Nat) : Bool :=
  if x / p % 2 = s ∧ i0 ≤ x then f x || f (x + d) else if d + i0 ≤ x ∧ (x - d) / p % 2 = s then f (x - d) && f x else f x

theorem applyL_app (xs ys : List (Int × Int)) (L : List Int) : applyL (xs ++ ys) L = applyL ys (applyL xs L) := by simp [applyL, List.foldl_append]

theorem stage_zf (m p s d : Nat) (t : Int) (hd : 0 < d) (hdis : ∀ x, x / p % 2 = s → (x + d) / p % 2 ≠ s) :
    ∀ (n i : Nat) (L : List Int), m - d - i = n → L.length = m → zf t (applyL (passI m p s d i) L) = stg p s d i (zf t L) := by
  intro n
  induction n with
  | zero =>
    intro i L hn hL
    rw [passI_end m p s d i (by omega)]
    funext x
    show zf t L x = _
    unfold stg
    split
    · rename_i h
      rw [zf_out (i := x + d) (by omega), Bool.or_false]
    · split
      · rename_i h
        rw [zf_out (i := x) (by omega), Bool.and_false]
      · rfl
  | succ n ih =>
    intro i L hn hL
    rw [passI_step m p s d i (by omega), applyL_app]
    by_cases hi : i / p % 2 = s
    · rw [if_pos hi]
      have h1 : applyL [((i : Int), ((i + d : Nat) : Int))] L = applyS L ((i : Int), ((i + d : Nat) : Int)) := rfl
      rw [h1, ih (i + 1) _ (by omega) (by rw [applyS_length]; exact hL), zf_applyS (by omega) (by omega)]
      have hid := hdis i hi
      generalize zf t L = f
      funext x
      unfold stg cx
      by_cases hx : x = i
      · subst hx
        rw [if_neg (by omega), if_neg (by omega), if_pos rfl, if_pos ⟨hi, Nat.le_refl _⟩]
      · by_cases hxd : x = i + d
        · subst hxd
          rw [if_neg (by intro h; exact hid h.1), if_neg (by omega), if_neg (by omega), if_pos rfl, if_neg (by intro h; exact hid h.1), if_pos ⟨by omega, by rw [Nat.add_sub_cancel]; exact hi⟩, Nat.add_sub_cancel]
        · by_cases hl : x / p % 2 = s ∧ i ≤ x
          · rw [if_pos ⟨hl.1, by omega⟩, if_pos hl, if_neg hx, if_neg hxd, if_neg (by omega), if_neg (by omega)]
          · rw [if_neg (by intro h; exact hl ⟨h.1, by omega⟩), if_neg hl]
            by_cases hu : d + i ≤ x ∧ (x - d) / p % 2 = s
            · have hne : x - d ≠ i + d := by
                intro h
                rw [h] at hu
                exact hid hu.2
              rw [if_pos ⟨by omega, hu.2⟩, if_pos hu, if_neg hx, if_neg hxd, if_neg (by omega), if_neg hne]
            · rw [if_neg (by intro h; exact hu ⟨by omega, h.2⟩), if_neg hu, if_neg hx, if_neg hxd]
    · rw [if_neg hi]
      have h1 : applyL [] L = L := rfl
      rw [h1, ih (i + 1) _ (by omega) hL]
      generalize zf t L = f
      funext x
      unfold stg
      by_cases hl : x / p % 2 = s ∧ i ≤ x
      · have : x ≠ i := by rintro rfl; exact hi hl.1
        rw [if_pos ⟨hl.1, by omega⟩, if_pos hl]
      · rw [if_neg (by intro h; exact hl ⟨h.1, by omega⟩), if_neg hl]
        by_cases hu : d + i ≤ x ∧ (x - d) / p % 2 = s
        · have : x - d ≠ i := by rintro h; rw [h] at hu; exact hi hu.2
          rw [if_pos ⟨by omega, hu.2⟩, if_pos hu]
        · rw [if_neg (by intro h; exact hu ⟨by omega, h.2⟩), if_neg hu]

/-- Zeros of the even and odd rows of each residue: 'c r j' of them. -/
def P2 (p : Nat) (c : Nat → Nat → Nat) (f : Nat → Bool) : Prop := ∀ k r j, r < 2 → j < p → f ((2 * k + r) * p + j) = decide (k < c r j)

theorem row_div {p k r j : Nat} (hr : r < 2) (hj : j < p) : ((2 * k + r) * p + j) / p % 2 = r := by
  rw [Nat.add_comm, Nat.add_mul_div_right _ _ (by omega), Nat.div_eq_of_lt hj]
  omega

theorem dis0 {p : Nat} (hp : 0 < p) (x : Nat) (h : x / p % 2 = 0) : (x + p) / p % 2 ≠ 0 := by
  rw [Nat.add_div_right _ hp]; omega
theorem dis1 {p h : Nat} (hp : 0 < p) (x : Nat) (hx : x / p % 2 = 1) : (x + (2 * h + 1) * p) / p % 2 ≠ 1 := by
  rw [Nat.add_mul_div_right _ _ hp]; omega

theorem stageA {p : Nat} {c : Nat → Nat → Nat} {f : Nat → Bool} (hp : 0 < p) (h : P2 p c f) :
    P2 p (fun r j => if r = 0 then max (c 0 j) (c 1 j) else min (c 0 j) (c 1 j)) (stg p 0 p 0 f) := by
  intro k r j hr hj
  unfold stg
  rw [row_div hr hj]
  by_cases h0 : r = 0
  · subst h0
    rw [if_pos ⟨rfl, Nat.zero_le _⟩, h k 0 j (by omega) hj, show (2 * k + 0) * p + j + p = (2 * k + 1) * p + j by rw [Nat.add_mul, Nat.add_mul]; omega, h k 1 j (by omega) hj]
    simp only [if_true]
    by_cases h1 : k < c 0 j <;> by_cases h2 : k < c 1 j <;> simp [h1, h2] <;> omega
  · obtain rfl : r = 1 := by omega
    rw [if_neg (by omega)]
    have e : (2 * k + 1) * p + j = (2 * k + 0) * p + j + p := by rw [Nat.add_mul, Nat.add_mul]; omega
    have e2 : (2 * k + 1) * p + j - p = (2 * k + 0) * p + j := by rw [e]; omega
    rw [e2, row_div (by omega) hj, if_pos ⟨by rw [e]; omega, rfl⟩, h k 0 j (by omega) hj, h k 1 j (by omega) hj]
    simp only [if_neg (show ¬ (1 : Nat) = 0 by omega)]
    by_cases h1 : k < c 0 j <;> by_cases h2 : k < c 1 j <;> simp [h1, h2] <;> omega

theorem stageB {p h : Nat} {c : Nat → Nat → Nat} {f : Nat → Bool} (hp : 0 < p) (hf : P2 p c f) :
    P2 p (fun r j => if r = 0 then min (c 0 j) (c 1 j + (h + 1)) else max (c 1 j) (c 0 j - (h + 1))) (stg p 1 ((2 * h + 1) * p) 0 f) := by
  intro k r j hr hj
  unfold stg
  rw [row_div hr hj]
  by_cases h0 : r = 0
  · subst h0
    rw [if_neg (by omega)]
    simp only [if_true]
    by_cases hk : h + 1 ≤ k
    · obtain ⟨k', rfl⟩ : ∃ k', k = h + 1 + k' := ⟨k - (h + 1), by omega⟩
      have e : (2 * (h + 1 + k') + 0) * p + j = ((2 * k' + 1) * p + j) + (2 * h + 1) * p := by
        rw [show 2 * (h + 1 + k') + 0 = (2 * k' + 1) + (2 * h + 1) by omega, Nat.add_mul (2 * k' + 1)]; omega
      have hx := hf (h + 1 + k') 0 j (by omega) hj
      rw [e] at hx ⊢
      rw [Nat.add_sub_cancel, row_div (by omega) hj, if_pos ⟨by omega, rfl⟩, hx, hf k' 1 j (by omega) hj]
      by_cases h1 : k' < c 1 j <;> by_cases h2 : h + 1 + k' < c 0 j <;> simp [h1, h2] <;> omega
    · have hle : (2 * k + 0) * p + p ≤ (2 * h + 1) * p := by
        have := Nat.mul_le_mul_right p (show 2 * k + 1 ≤ 2 * h + 1 by omega)
        rw [Nat.add_mul, Nat.one_mul] at this
        rw [Nat.add_zero]
        exact this
      rw [if_neg (by omega), hf k 0 j (by omega) hj]
      by_cases h1 : k < c 0 j <;> simp [h1] <;> omega
  · obtain rfl : r = 1 := by omega
    have e : (2 * k + 1) * p + j + (2 * h + 1) * p = (2 * (k + (h + 1)) + 0) * p + j := by
      rw [show 2 * (k + (h + 1)) + 0 = (2 * k + 1) + (2 * h + 1) by omega, Nat.add_mul (2 * k + 1)]; omega
    rw [if_pos ⟨rfl, Nat.zero_le _⟩, e, hf k 1 j (by omega) hj, hf (k + (h + 1)) 0 j (by omega) hj]
    simp only [if_neg (show ¬ (1 : Nat) = 0 by omega)]
    by_cases h1 : k < c 1 j <;> by_cases h2 : k + (h + 1) < c 0 j <;> simp [h1, h2] <;> omega

/-- What the q loop leaves: no residue's even rows hold more than one zero more than its odd ones. -/
theorem qRun_zf (m e : Nat) (t : Int) : ∀ (q : Nat) (L : List Int) (c : Nat → Nat → Nat), e ≤ q → L.length = m → P2 (2 ^ e) c (zf t L) → (∀ j, j < 2 ^ e → c 1 j ≤ c 0 j ∧ c 0 j ≤ c 1 j + 2 ^ (q - e)) →
    ∃ c', P2 (2 ^ e) c' (zf t (applyL (qRun m e q) L)) ∧ ∀ j, j < 2 ^ e → c' 1 j ≤ c' 0 j ∧ c' 0 j ≤ c' 1 j + 1 ∧ c' 0 j + c' 1 j = c 0 j + c 1 j := by
  have hp : 0 < 2 ^ e := Nat.two_pow_pos e
  intro q
  induction q with
  | zero =>
    intro L c he hL hf hc
    obtain rfl : e = 0 := by omega
    exact ⟨c, hf, fun j hj => by have := hc j hj; simp at this; omega⟩
  | succ q ih =>
    intro L c he hL hf hc
    by_cases hq : e < q + 1
    · unfold qRun
      rw [if_pos hq, applyL_app]
      obtain ⟨g, rfl⟩ : ∃ g, q = e + g := ⟨q - e, by omega⟩
      have e1 : 2 ^ (e + g + 1) - 2 ^ e = (2 * (2 ^ g - 1) + 1) * 2 ^ e := by
        have h1 : 2 ^ (e + g + 1) = (2 * 2 ^ g) * 2 ^ e := by rw [Nat.pow_succ, Nat.pow_add]; rw [Nat.mul_comm (2 ^ e), Nat.mul_assoc, Nat.mul_comm (2 ^ e) 2, ← Nat.mul_assoc, Nat.mul_comm (2 ^ g)]
        have h2 := Nat.two_pow_pos g
        rw [h1, show 2 * (2 ^ g - 1) + 1 = 2 * 2 ^ g - 1 by omega, Nat.sub_mul, Nat.one_mul]
      have hg := Nat.two_pow_pos g
      rw [e1]
      have hst := stage_zf m (2 ^ e) 1 ((2 * (2 ^ g - 1) + 1) * 2 ^ e) t (Nat.mul_pos (by omega) hp) (fun x hx => dis1 hp x hx) _ 0 L rfl hL
      have hB := stageB (h := 2 ^ g - 1) hp hf
      rw [← hst] at hB
      rw [show 2 ^ g - 1 + 1 = 2 ^ g by omega] at hB
      obtain ⟨c', h1, h2⟩ := ih _ _ (by omega) (by rw [applyL_length]; exact hL) hB (fun j hj => by
        have := hc j hj
        rw [show e + g + 1 - e = g + 1 by omega, Nat.pow_succ] at this
        simp only [if_neg (show ¬ (1 : Nat) = 0 by omega), if_true]
        rw [show e + g - e = g by omega]
        omega)
      refine ⟨c', h1, fun j hj => ?_⟩
      have a1 := h2 j hj
      have a2 := hc j hj
      rw [show e + g + 1 - e = g + 1 by omega, Nat.pow_succ] at a2
      simp only [if_neg (show ¬ (1 : Nat) = 0 by omega), if_true] at a1
      omega
    · obtain rfl : e = q + 1 := by omega
      rw [qRun_stop]
      exact ⟨c, hf, fun j hj => by have := hc j hj; simp at this; omega⟩

def PS (p : Nat) (c : Nat → Nat) (f : Nat → Bool) : Prop := ∀ k j, j < p → f (k * p + j) = decide (k < c j)

theorem PS_P2 {p : Nat} {c : Nat → Nat} {f : Nat → Bool} (h : PS (2 * p) c f) : P2 p (fun r j => c (r * p + j)) f := by
  intro k r j hr hj
  have hlt : r * p + j < 2 * p := by
    have : r * p ≤ 1 * p := Nat.mul_le_mul_right p (by omega)
    omega
  have := h k (r * p + j) hlt
  rw [← this]
  congr 1
  rw [Nat.add_mul, Nat.mul_comm 2 p, ← Nat.mul_assoc, Nat.mul_comm 2 k, Nat.mul_assoc, Nat.mul_comm 2 p, ← Nat.mul_assoc]
  omega
theorem P2_PS {p : Nat} {c : Nat → Nat → Nat} {f : Nat → Bool} (h : P2 p c f) (hc : ∀ j, j < p → c 1 j ≤ c 0 j ∧ c 0 j ≤ c 1 j + 1) : PS p (fun j => c 0 j + c 1 j) f := by
  intro k j hj
  have hk := Nat.div_add_mod k 2
  have hr := Nat.mod_lt k (show 2 > 0 by omega)
  have := h (k / 2) (k % 2) j hr hj
  rw [hk] at this
  rw [this]
  have := hc j hj
  rcases (show k % 2 = 0 ∨ k % 2 = 1 by omega) with h0 | h0
  · rw [h0]
    by_cases h1 : k / 2 < c 0 j <;> simp [h1] <;> omega
  · rw [h0]
    by_cases h1 : k / 2 < c 1 j <;> simp [h1] <;> omega

theorem pRun_zf (m t : Nat) (z : Int) : ∀ (e : Nat) (L : List Int) (c : Nat → Nat), e ≤ t + 1 → L.length = m → PS (2 ^ e) c (zf z L) → (∀ j, j < 2 ^ e → c j ≤ 2 ^ (t + 1 - e)) →
    ∃ c', PS 1 c' (zf z (applyL (pRun m t e) L)) := by
  intro e
  induction e with
  | zero => intro L c _ _ hf _; exact ⟨c, hf⟩
  | succ e ih =>
    intro L c he hL hf hc
    unfold pRun
    rw [applyL_app, applyL_app]
    have hp : 0 < 2 ^ e := Nat.two_pow_pos e
    rw [Nat.pow_succ, Nat.mul_comm] at hf
    have h2 := PS_P2 hf
    have hA := stageA hp h2
    have hst := stage_zf m (2 ^ e) 0 (2 ^ e) z hp (fun x hx => dis0 hp x hx) _ 0 L rfl hL
    rw [← hst] at hA
    have hc0 : ∀ r j, r < 2 → j < 2 ^ e → c (r * 2 ^ e + j) ≤ 2 ^ (t - e) := fun r j hr hj => by
      have hlt : r * 2 ^ e + j < 2 ^ (e + 1) := by
        have : r * 2 ^ e ≤ 1 * 2 ^ e := Nat.mul_le_mul_right _ (by omega)
        rw [Nat.pow_succ]
        omega
      have := hc _ hlt
      rwa [show t + 1 - (e + 1) = t - e by omega] at this
    obtain ⟨c', h3, h4⟩ := qRun_zf m e z t _ _ (by omega) (by rw [applyL_length]; exact hL) hA (fun j hj => by
      have a := hc0 0 j (by omega) hj
      have b := hc0 1 j (by omega) hj
      simp only [if_neg (show ¬ (1 : Nat) = 0 by omega), if_true]
      omega)
    refine ih _ _ (by omega) (by rw [applyL_length, applyL_length]; exact hL) (P2_PS h3 (fun j hj => ⟨(h4 j hj).1, (h4 j hj).2.1⟩)) (fun j hj => ?_)
    have a := hc0 0 j (by omega) hj
    have b := hc0 1 j (by omega) hj
    have d := (h4 j hj).2.2
    simp only [if_neg (show ¬ (1 : Nat) = 0 by omega), if_true] at d
    rw [show t + 1 - e = t - e + 1 by omega, Nat.pow_succ]
    omega

theorem topE_ge : ∀ m, m < 257 → m ≤ 2 ^ (topE m + 1) := by decide +kernel

theorem net_zf {m : Nat} {L : List Int} (hm : m ≤ 256) (hL : L.length = m) (z : Int) : ∃ c : Nat, ∀ i, zf z (applyL (netL m) L) i = decide (i < c) := by
  have htop := topE_ge m (by omega)
  obtain ⟨c', h⟩ := pRun_zf m (topE m) z (topE m + 1) L (fun j => if zf z L j then 1 else 0) (Nat.le_refl _) hL (fun k j hj => by
    by_cases hk : k = 0
    · subst hk
      rw [Nat.zero_mul, Nat.zero_add]
      show zf z L j = decide (0 < if zf z L j = true then 1 else 0)
      by_cases hb : zf z L j = true
      · simp [hb]
      · simp [hb]
    · have h1 : 1 * 2 ^ (topE m + 1) ≤ k * 2 ^ (topE m + 1) := Nat.mul_le_mul_right _ (by omega)
      rw [zf_out (by omega)]
      symm
      simp
      split <;> omega) (fun j _ => by simp; split <;> omega)
  refine ⟨c' 0, fun i => ?_⟩
  have := h i 0 (by omega)
  unfold netL
  simpa using this

theorem net_sorts {m : Nat} {L : List Int} (hm : m ≤ 256) (hL : L.length = m) : (applyL (netL m) L).Pairwise (· ≤ ·) := by
  rw [List.pairwise_iff_getElem]
  intro i j hi hj hij
  by_cases h : (applyL (netL m) L)[i] ≤ (applyL (netL m) L)[j]
  · exact h
  · exfalso
    obtain ⟨c, hc⟩ := net_zf hm hL ((applyL (netL m) L)[i])
    have h1 := hc i
    have h2 := hc j
    rw [zf_some (List.getElem?_eq_getElem hi)] at h1
    rw [zf_some (List.getElem?_eq_getElem hj)] at h2
    have h3 : ¬ i < c := by simpa using h1
    have h4 : j < c := by
      have : (applyL (netL m) L)[j] < (applyL (netL m) L)[i] := by omega
      simpa [this] using h2
    omega

theorem applyS_perm {m : Nat} {L : List Int} {x : Int × Int} (hx : pairOk m x = true) (hL : L.length = m) : (applyS L x).Perm L := by
  unfold pairOk at hx
  rw [Bool.and_eq_true] at hx
  have r1 := inB_true hx.1
  have r2 := inB_true hx.2
  unfold applyS
  split
  · have ha : x.1.toNat < L.length := by omega
    have hb : x.2.toNat < L.length := by omega
    rw [List.getD_eq_getElem?_getD, List.getD_eq_getElem?_getD, List.getElem?_eq_getElem ha, List.getElem?_eq_getElem hb]
    exact List.set_set_perm ha hb
  · exact List.Perm.refl _
theorem applyL_perm {m : Nat} {xs : List (Int × Int)} : ∀ {L : List Int}, fitB m xs = true → L.length = m → (applyL xs L).Perm L := by
  induction xs with
  | nil => intro L _ _; exact List.Perm.refl _
  | cons x xs ih =>
    intro L hf hL
    have hf' : pairOk m x = true ∧ fitB m xs = true := by simpa [fitB] using hf
    have h1 := applyS_perm hf'.1 hL
    have h2 := ih (L := applyS L x) hf'.2 (by rw [applyS_length]; exact hL)
    exact h2.trans h1

/-- Numbers in order stay as they are. -/
theorem applyL_sorted {m : Nat} {xs : List (Int × Int)} {L : List Int} (hf : fitB m xs = true) (hL : L.length = m) (hs : L.Pairwise (· ≤ ·)) : applyL xs L = L := by
  induction xs with
  | nil => rfl
  | cons x xs ih =>
    have hf' : pairOk m x = true ∧ fitB m xs = true := by simpa [fitB] using hf
    have h1 : applyS L x = L := by
      have hx := hf'.1
      unfold pairOk at hx
      rw [Bool.and_eq_true] at hx
      have r1 := inB_true hx.1
      have r2 := inB_true hx.2
      unfold applyS
      rw [if_neg]
      have ha : x.1.toNat < L.length := by omega
      have hb : x.2.toNat < L.length := by omega
      rw [List.getD_eq_getElem?_getD, List.getD_eq_getElem?_getD, List.getElem?_eq_getElem ha, List.getElem?_eq_getElem hb]
      have := List.pairwise_iff_getElem.1 hs x.1.toNat x.2.toNat ha hb (by omega)
      simp only [Option.getD_some]
      omega
    show applyL xs (applyS L x) = L
    rw [h1]
    exact ih hf'.2

/-! the network's pairs are pairs of its places -/
theorem passI_fit (m p s d i : Nat) (hd : 0 < d) : fitB m (passI m p s d i) = true := by
  unfold fitB passI
  rw [List.all_eq_true]
  intro x hx
  simp only [List.mem_map, List.mem_filter, List.mem_range'_1] at hx
  obtain ⟨j, ⟨hj, _⟩, rfl⟩ := hx
  unfold pairOk
  rw [inB_mk (by omega), inB_mk (by omega)]
  rfl
theorem fitB_app {m : Int} {xs ys : List (Int × Int)} : fitB m (xs ++ ys) = (fitB m xs && fitB m ys) := by simp [fitB]
theorem qRun_fit (m e q : Nat) : fitB m (qRun m e q) = true := by
  induction q with
  | zero => rfl
  | succ q ih =>
    unfold qRun
    split
    · rename_i h
      rw [fitB_app, ih, passI_fit _ _ _ _ _ (by
        have := Nat.pow_lt_pow_right (show 1 < 2 by omega) h
        omega)]
      rfl
    · rfl
theorem pRun_fit (m t e : Nat) : fitB m (pRun m t e) = true := by
  induction e with
  | zero => rfl
  | succ e ih =>
    unfold pRun
    rw [fitB_app, fitB_app, ih, qRun_fit, passI_fit _ _ _ _ _ (Nat.two_pow_pos e)]
    rfl
theorem netL_fit (m : Nat) : fitB m (netL m) = true := pRun_fit _ _ _
end Go.Proofs.YtnihhbmihbcgbaaDoor
