/- spec.l20Name, spec.DrawNameValid. -/
import Derived.Test.YtcfjgieiaioinaaDoorDraw
namespace Go.Proofs.YtcfjgieiaioinaaDoor
open Go Go.RowKit
set_option maxRecDepth 100000

def strLe (m : Nat) : Value → Bool | .string s => decide (s.size ≤ m) | _ => false
def intIn (lo hi : Int) : Value → Bool | .int .i64 z => decide (lo ≤ z) && decide (z ≤ hi) | _ => false
/-- A fresh row of texts, read behind draws. -/
theorem strs_cell {w w' : World} {R g x m : Nat} {t : TypeId} {cs : Array Value} (hb : Blk w g t cs) (hg : R < g) (ht : Touch R (R + 1) w w') (hx : x < cs.size) (hall : cs.all (strLe m) = true) :
    ∃ s : ByteArray, w'.cell? ⟨g, x, none⟩ = some (.string s) ∧ s.size ≤ m := by
  have h := (ht.blk hb (Or.inr hg)).cell x
  rw [Array.getElem?_eq_getElem hx] at h
  have h1 := Array.all_eq_true.1 hall x hx
  cases hv : cs[x] <;> rw [hv] at h h1 <;> simp [strLe] at h1
  exact ⟨_, h, h1⟩
theorem ints_cell {w w' : World} {R g x : Nat} {lo hi : Int} {t : TypeId} {cs : Array Value} (hb : Blk w g t cs) (hg : R < g) (ht : Touch R (R + 1) w w') (hx : x < cs.size) (hall : cs.all (intIn lo hi) = true) :
    ∃ z : Int, w'.cell? ⟨g, x, none⟩ = some (.int .i64 z) ∧ lo ≤ z ∧ z ≤ hi := by
  have h := (ht.blk hb (Or.inr hg)).cell x
  rw [Array.getElem?_eq_getElem hx] at h
  have h1 := Array.all_eq_true.1 hall x hx
  cases hv : cs[x] with
  | int k z =>
    rw [hv] at h h1
    cases k <;> simp [intIn] at h1
    exact ⟨_, h, h1.1, h1.2⟩
  | _ => rw [hv] at h1; simp [intIn] at h1

/-- What a call of l20Name leaves. -/
def Nm (R B : Nat) (w : World) (e : Ending) (w' : World) : Prop := ∃ s : ByteArray, e = .returned (.string s) ∧ s.size ≤ 9 ∧ Rc w' R B ∧ Touch R (R + 1) w w'
end Go.Proofs.YtcfjgieiaioinaaDoor
