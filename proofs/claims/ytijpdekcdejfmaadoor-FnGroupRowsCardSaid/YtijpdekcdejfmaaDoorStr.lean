/- strings and slices of strings, in plain Lean (the same words as in XStrs and XTok; for the door seats: never import both). -/
import Derived.Test.YtijpdekcdejfmaaDoorBase
namespace Go.Proofs.YtijpdekcdejfmaaDoor
open Go Go.RowKit

theorem infoStr : (Tryd.prog.info? 9).map (fun i => (i.zero, i.size, i.bytes)) = some (some (.string ⟨#[]⟩), 1, 16) := by kernel_rfl
def stCells (xs : List ByteArray) : List Value := xs.map Value.string
theorem stCells_length (xs : List ByteArray) : (stCells xs).length = xs.length := by simp [stCells]
theorem stCells_append (xs ys : List ByteArray) : stCells (xs ++ ys) = stCells xs ++ stCells ys := by simp [stCells]
theorem str_ne {a b : ByteArray} (h : ¬ a = b) : (a.toList == b.toList) = false := by
  rw [ByteArray.toList_eq, ByteArray.toList_eq]
  cases hc : (a.data.toList == b.data.toList)
  · rfl
  · exact absurd (ByteArray.ext (Array.toList_inj.1 (by simpa using hc))) h
theorem st_at {w : World} {B n : Nat} {A : Option Addr} {xs : List ByteArray} {k : Nat} (h : Reads w B 1 A n (stCells xs)) (hxn : xs.length = n) (hk : k < n) :
    ∃ ad x, A = some ad ∧ ad.block < B ∧ xs[k]? = some x ∧ w.cell? (ad.add k) = some (.string x) := by
  obtain ⟨ad, u, rfl, hb, hu, hc⟩ := h.at_ hk
  obtain ⟨x, hx⟩ : ∃ x, xs[k]? = some x := ⟨_, List.getElem?_eq_getElem (by omega)⟩
  have : u = .string x := by simpa [stCells, hx] using hu.symm
  subst this
  exact ⟨ad, x, rfl, hb, hx, hc⟩

def sb (s : ByteArray) : List UInt8 := s.data.toList
theorem sb_len (s : ByteArray) : (sb s).length = s.size := Array.length_toList
theorem sb_at {s : ByteArray} {k : Nat} {b : UInt8} (h : (sb s)[k]? = some b) : ∃ hk : k < s.size, s[k]'hk = b := by
  obtain ⟨hk, e⟩ := List.getElem?_eq_some_iff.1 h
  refine ⟨by rw [sb_len] at hk; exact hk, ?_⟩
  rw [← e]
  simp [sb]
  rfl
theorem sb_extract (s : ByteArray) (a b : Nat) : sb (s.extract a b) = ((sb s).take b).drop a := by
  unfold sb
  simp [ByteArray.data_extract, List.extract]
  rw [List.drop_take]
def isL (b : UInt8) : Bool := decide (97 ≤ b.toNat) && decide (b.toNat ≤ 122)
def isD (b : UInt8) : Bool := decide (48 ≤ b.toNat) && decide (b.toNat ≤ 57)

theorem tw_lt {L : List UInt8} {p : UInt8 → Bool} {k T : Nat} (hT : (L.takeWhile p).length = T) (h : k < T) : ∃ b, L[k]? = some b ∧ p b = true := by
  subst hT
  induction L generalizing k with
  | nil => simp at h
  | cons a L ih =>
    by_cases hp : p a = true
    · rw [List.takeWhile_cons_of_pos hp, List.length_cons] at h
      cases k with
      | zero => exact ⟨a, rfl, hp⟩
      | succ k => simpa using ih (k := k) (by omega)
    · rw [List.takeWhile_cons_of_neg hp] at h; simp at h
theorem tw_eq {L : List UInt8} {p : UInt8 → Bool} {T : Nat} (hT : (L.takeWhile p).length = T) (h : T < L.length) : ∃ b, L[T]? = some b ∧ p b = false := by
  subst hT
  induction L with
  | nil => simp at h
  | cons a L ih =>
    by_cases hp : p a = true
    · rw [List.takeWhile_cons_of_pos hp, List.length_cons] at h ⊢
      simpa using ih (by simpa using h)
    · rw [List.takeWhile_cons_of_neg hp]
      exact ⟨a, rfl, by simpa using hp⟩
theorem tw_le {L : List UInt8} {p : UInt8 → Bool} {T : Nat} (hT : (L.takeWhile p).length = T) : T ≤ L.length := by
  subst hT
  exact (List.takeWhile_prefix p).length_le

end Go.Proofs.YtijpdekcdejfmaaDoor
