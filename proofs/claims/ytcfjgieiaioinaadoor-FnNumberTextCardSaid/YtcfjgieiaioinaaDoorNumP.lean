/- Numbers and their texts: the plain part. -/
import Derived.Test.YtcfjgieiaioinaaDoorBase
import Derived.Lib.ItoaMem
import Derived.Lib.AtoiAll
namespace Go.Proofs.YtcfjgieiaioinaaDoor
open Go Go.Lib
theorem dec_digit : ∀ (u : Nat) (c : UInt8), c ∈ decDigits u → 48 ≤ c.toNat ∧ c.toNat ≤ 57 := by
  intro u
  induction u using Nat.strongRecOn with
  | _ u ih =>
    intro c hc
    rw [decDigits] at hc
    split at hc
    · rw [List.mem_singleton] at hc
      subst hc
      simp
      omega
    · rcases List.mem_append.1 hc with h | h
      · exact ih (u / 10) (by omega) c h
      · rw [List.mem_singleton] at h
        subst h
        simp
        omega
def valL (acc : Nat) (l : List UInt8) : Nat := l.foldl (fun a c => 10 * a + (c.toNat - 48)) acc
theorem valL_snoc (acc : Nat) (l : List UInt8) (c : UInt8) : valL acc (l ++ [c]) = 10 * valL acc l + (c.toNat - 48) := by
  unfold valL
  rw [List.foldl_append]
  rfl
theorem valL_le : ∀ (l : List UInt8) (acc : Nat), acc ≤ valL acc l
  | [], acc => Nat.le_refl _
  | c :: r, acc => by
    have := valL_le r (10 * acc + (c.toNat - 48))
    show acc ≤ valL (10 * acc + (c.toNat - 48)) r
    omega
theorem dec_val : ∀ u : Nat, valL 0 (decDigits u) = u := by
  intro u
  induction u using Nat.strongRecOn with
  | _ u ih =>
    rw [decDigits]
    split
    · simp [valL]
      omega
    · rw [valL_snoc, ih (u / 10) (by omega)]
      simp
      omega
theorem dec_ne (u : Nat) : decDigits u ≠ [] := by
  rw [decDigits]
  split <;> simp
theorem dec_len : ∀ (k u : Nat), u < 10 ^ (k + 1) → (decDigits u).length ≤ k + 1
  | 0, u, h => by rw [decDigits, dif_pos (by simpa using h)]; simp
  | k + 1, u, h => by
    rw [decDigits]
    split
    · simp
    · rw [List.length_append]
      have := dec_len k (u / 10) (by rw [Nat.pow_succ] at h; omega)
      simp
      omega
theorem parse_ok : ∀ (l : List UInt8) (acc : Nat), (∀ c ∈ l, 48 ≤ c.toNat ∧ c.toNat ≤ 57) → valL acc l ≤ 1000000000 → parseUint10 acc l = .ok (valL acc l)
  | [], acc, _, _ => rfl
  | c :: r, acc, hd, hv => by
    have h1 := hd c (List.mem_cons_self)
    have h2 : valL acc (c :: r) = valL (10 * acc + (c.toNat - 48)) r := rfl
    rw [h2] at hv ⊢
    have h3 := valL_le r (10 * acc + (c.toNat - 48))
    rw [parseUint10, if_pos h1, if_neg (by omega), if_neg (by omega), Nat.mul_comm acc 10]
    exact parse_ok r _ (fun x hx => hd x (List.mem_cons_of_mem _ hx)) hv
theorem mag_ok (u : Nat) (h : u ≤ 1000000000) : parseMag (decDigits u) = .ok u := by
  unfold parseMag
  rw [if_neg (dec_ne u), parse_ok _ 0 (dec_digit u) (by rw [dec_val]; exact h), dec_val]
def bodyL : List UInt8 → List UInt8
  | [] => []
  | c :: r => if c = 45 then r else c :: r
theorem body_dec (u : Nat) : bodyL (decDigits u) = decDigits u := by
  cases h : decDigits u with
  | nil => rfl
  | cons c r =>
    have := dec_digit u c (by rw [h]; exact List.mem_cons_self)
    have hne : c ≠ 45 := by
      intro e
      rw [e] at this
      simp at this
    show (if c = 45 then r else c :: r) = c :: r
    rw [if_neg hne]
theorem itoa_neg' {n : Int} (h : n < 0) : itoa n = 45 :: decDigits n.natAbs := by unfold itoa; rw [if_pos h]
theorem itoa_pos' {n : Int} (h : ¬ n < 0) : itoa n = decDigits n.natAbs := by unfold itoa; rw [if_neg h]; congr 1; omega
theorem body_itoa (n : Int) : bodyL (itoa n) = decDigits n.natAbs := by
  by_cases h : n < 0
  · rw [itoa_neg' h]; simp [bodyL]
  · rw [itoa_pos' h, body_dec]
theorem itoa_ne (n : Int) : itoa n ≠ [] := by
  by_cases h : n < 0
  · rw [itoa_neg' h]; simp
  · rw [itoa_pos' h]; exact dec_ne _
theorem itoa_head (n : Int) : ((itoa n).head? = some 45) ↔ n < 0 := by
  by_cases h : n < 0
  · rw [itoa_neg' h]; simp [h]
  · rw [itoa_pos' h]
    cases hd : decDigits n.natAbs with
    | nil => exact absurd hd (dec_ne _)
    | cons c r =>
      have := dec_digit n.natAbs c (by rw [hd]; exact List.mem_cons_self)
      simp only [List.head?_cons, Option.some.injEq]
      refine ⟨fun e => by subst e; simp at this, fun e => absurd e h⟩
theorem itoa_at {n : Int} {k : Nat} {c : UInt8} (h : (itoa n)[k]? = some c) : (k = 0 ∧ c = 45) ∨ (48 ≤ c.toNat ∧ c.toNat ≤ 57) := by
  by_cases hn : n < 0
  · rw [itoa_neg' hn] at h
    cases k with
    | zero => simp at h; exact .inl ⟨rfl, h.symm⟩
    | succ k => rw [List.getElem?_cons_succ] at h; exact .inr (dec_digit _ c (List.mem_of_getElem? h))
  · rw [itoa_pos' hn] at h
    exact .inr (dec_digit _ c (List.mem_of_getElem? h))
theorem itoa_len {n : Int} (h0 : -100000 ≤ n) (h1 : n ≤ 100000) : (itoa n).length ≤ 7 := by
  have hl : (decDigits n.natAbs).length ≤ 6 := dec_len 5 _ (by omega)
  by_cases hn : n < 0
  · rw [itoa_neg' hn, List.length_cons]; omega
  · rw [itoa_pos' hn]; omega
theorem itoa_inj {a b : Int} (h : itoa a = itoa b) : a = b := by
  have h1 := body_itoa a
  rw [h, body_itoa] at h1
  have h2 := congrArg (valL 0) h1
  rw [dec_val, dec_val] at h2
  have h3 := itoa_head a
  rw [h, itoa_head] at h3
  omega
theorem atoi_itoa {n : Int} (h0 : -100000 ≤ n) (h1 : n ≤ 100000) : atoiAll (itoa n) = .ok n := by
  by_cases hn : n < 0
  · rw [itoa_neg' hn]
    unfold atoiAll
    have h3 := mag_ok n.natAbs (by omega)
    have e1 : (45 : UInt8).toNat = 45 := rfl
    simp only [e1, or_true, if_true, h3, not_true_eq_false, false_and, if_false, true_and]
    rw [if_neg (by omega)]
    congr 1
    omega
  · rw [itoa_pos' hn]
    cases hd : decDigits n.natAbs with
    | nil => exact absurd hd (dec_ne _)
    | cons c r =>
      have h2 := dec_digit n.natAbs c (by rw [hd]; exact List.mem_cons_self)
      have h3 := mag_ok n.natAbs (by omega)
      rw [hd] at h3
      have h4 : ¬ (c.toNat = 43 ∨ c.toNat = 45) := by omega
      have h5 : ¬ c.toNat = 45 := by omega
      have h43 : ¬ c.toNat = 43 := by omega
      simp only [atoiAll, h43, h5, or_self, if_false, h3, not_false_eq_true, true_and, false_and]
      have h6 : ¬ 9223372036854775808 ≤ n.natAbs := by omega
      rw [if_neg h6]
      congr 1
      omega
def inV (n : Int) : Prop := -100000 ≤ n ∧ n ≤ 100000
instance (n : Int) : Decidable (inV n) := by unfold inV; infer_instance
def numS (n : Int) : ByteArray := if inV n then ⟨(itoa n).toArray⟩ else ⟨#[]⟩
theorem numS_yes {n : Int} (h : inV n) : numS n = ⟨(itoa n).toArray⟩ := if_pos h
theorem numS_no {n : Int} (h : ¬ inV n) : numS n = ⟨#[]⟩ := if_neg h
theorem numS_list {n : Int} (h : inV n) : (numS n).data.toList = itoa n := by rw [numS_yes h]
theorem numS_size (n : Int) : (numS n).size ≤ 7 := by
  by_cases h : inV n
  · rw [numS_yes h]
    have := itoa_len h.1 h.2
    show (itoa n).toArray.size ≤ 7
    simpa using this
  · rw [numS_no h]
    exact Nat.zero_le _
theorem numS_eq {n : Int} {s : ByteArray} (hne : s.size ≠ 0) : numS n = s ↔ (inV n ∧ s.data.toList = itoa n) := by
  constructor
  · intro h
    by_cases hv : inV n
    · refine ⟨hv, ?_⟩
      rw [← h, numS_list hv]
    · rw [numS_no hv] at h
      subst h
      exact absurd rfl hne
  · rintro ⟨hv, hl⟩
    rw [numS_yes hv, ← hl]
/-- What ReadNumber answers. -/
def ReadIs (s : ByteArray) (n : Int) (ok : Bool) : Prop :=
  (ok = true ∧ inV n ∧ s.data.toList = itoa n) ∨ (ok = false ∧ n = 0 ∧ ∀ v, inV v → s.data.toList ≠ itoa v)
theorem ReadIs.ex (s : ByteArray) : ∃ n ok, ReadIs s n ok := by
  by_cases h : ∃ v, inV v ∧ s.data.toList = itoa v
  · obtain ⟨v, h1, h2⟩ := h
    exact ⟨v, true, .inl ⟨rfl, h1, h2⟩⟩
  · exact ⟨0, false, .inr ⟨rfl, rfl, fun v h1 h2 => h ⟨v, h1, h2⟩⟩⟩
theorem ReadIs.yes {s : ByteArray} {n v : Int} {ok : Bool} (h : ReadIs s n ok) (hv : inV v) (hs : s.data.toList = itoa v) : n = v ∧ ok = true := by
  rcases h with ⟨h1, h2, h3⟩ | ⟨_, _, h3⟩
  · exact ⟨itoa_inj (h3.symm.trans hs), h1⟩
  · exact absurd hs (h3 v hv)
theorem ReadIs.no {s : ByteArray} {n : Int} {ok : Bool} (h : ReadIs s n ok) (hn : ∀ v, inV v → s.data.toList ≠ itoa v) : n = 0 ∧ ok = false := by
  rcases h with ⟨h1, h2, h3⟩ | ⟨h1, h2, _⟩
  · exact absurd h3 (hn n h2)
  · exact ⟨h2, h1⟩
theorem read_atoi {s : ByteArray} {v w : Int} (ha : atoiAll s.data.toList = .ok v) (hw : inV w) (hs : s.data.toList = itoa w) : w = v := by
  rw [hs, atoi_itoa hw.1 hw.2] at ha
  injection ha
theorem atoi_none {s : ByteArray} (h : ∀ v, atoiAll s.data.toList ≠ .ok v) (v : Int) (hv : inV v) : s.data.toList ≠ itoa v := fun hs => h v (by rw [hs, atoi_itoa hv.1 hv.2])
/-- How far the reference's loop has read. -/
structure RdInv (l : List UInt8) (k n : Nat) : Prop where
  val : n = valL 0 (bodyL (l.take k))
  lt : n < 10 ^ k
  le : k ≤ 8 ∨ False
theorem take_c {l : List UInt8} {k : Nat} {c : UInt8} (h : l[k]? = some c) : l.take (k + 1) = l.take k ++ [c] := by
  rw [List.take_add_one, h]
  rfl
theorem body_snoc {l : List UInt8} {c : UInt8} (h : l ≠ [] ∨ c ≠ 45) : bodyL (l ++ [c]) = bodyL l ++ [c] := by
  cases l with
  | nil =>
    have : c ≠ 45 := by rcases h with h | h; exact absurd rfl h; exact h
    simp [bodyL, this]
  | cons a r =>
    simp only [List.cons_append, bodyL]
    split <;> rfl
theorem RdInv.zero (l : List UInt8) : RdInv l 0 0 := ⟨by simp [bodyL, valL], by simp, .inl (by omega)⟩
theorem RdInv.minus {l : List UInt8} {n : Nat} (h : RdInv l 0 n) (hc : l[0]? = some 45) : RdInv l 1 n := by
  have e : n = 0 := by have := h.lt; simp at this; exact this
  subst e
  refine ⟨?_, by simp, .inl (by omega)⟩
  rw [take_c hc]
  simp [bodyL, valL]
theorem RdInv.digit {l : List UInt8} {k n : Nat} {c : UInt8} (h : RdInv l k n) (hc : l[k]? = some c) (h0 : 48 ≤ c.toNat) (h1 : c.toNat ≤ 57) (hk : k ≤ 7) : RdInv l (k + 1) (10 * n + (c.toNat - 48)) := by
  refine ⟨?_, ?_, .inl (by omega)⟩
  · rw [take_c hc, body_snoc (Or.inr (fun e => by subst e; simp at h0)), valL_snoc, ← h.val]
  · have := h.lt
    rw [Nat.pow_succ]
    omega
theorem RdInv.small {l : List UInt8} {k n : Nat} (h : RdInv l k n) : n ≤ 100000000 := by
  have h1 := h.lt
  have h2 : 10 ^ k ≤ 10 ^ 8 := Nat.pow_le_pow_right (by omega) (by rcases h.le with h | h; exact h; exact h.elim)
  have h3 : 10 ^ 8 = 100000000 := by decide
  omega
theorem RdInv.early {l : List UInt8} {k : Nat} {c : UInt8} (hc : l[k]? = some c) (hm : ¬ (c = 45 ∧ k = 0)) (hd : ¬ (48 ≤ c.toNat ∧ c.toNat ≤ 57) ∨ 7 < k) (v : Int) (hv : inV v) : l ≠ itoa v := by
  intro e
  subst e
  have hl := itoa_len hv.1 hv.2
  have hk := (List.getElem?_eq_some_iff.1 hc).1
  rcases itoa_at hc with ⟨h1, h2⟩ | h
  · exact hm ⟨h2, h1⟩
  · rcases hd with hd | hd
    · exact hd h
    · omega
theorem RdInv.end_ {l : List UInt8} {k n : Nat} (h : RdInv l k n) (hk : l.length ≤ k) {v : Int} (hl : l = itoa v) : v = if v < 0 then -(n : Int) else n := by
  have := h.val
  rw [List.take_of_length_le hk, hl, body_itoa, dec_val] at this
  subst this
  split <;> omega
end Go.Proofs.YtcfjgieiaioinaaDoor
