/- Slices of texts as arguments of the Exact laws: opened, measured, copied, compared, marked. -/
import Derived.Test.YtijpdekcdejfmaaDoorProj
import Derived.Test.YtijpdekcdejfmaaDoorMarkTab
namespace Go.Proofs.YtijpdekcdejfmaaDoor
open Go Go.RowKit Go.WideShapes Go.ChangeShapes Go.WideElems Go.Deep
set_option maxRecDepth 100000
def StrR (w : World) (v : Value) (xs : List ByteArray) : Prop := ∃ (A : Option Addr) (c : Nat), v = .slice A xs.length c ∧ xs.length ≤ c ∧ Reads w w.heap.size 1 A xs.length (stCells xs)
def StrV (w : World) (lo hi : Nat) (v : Value) (xs : List ByteArray) : Prop := w.ownsRow lo 9 1 v xs.length (stCells xs) ∧ ∀ g, v.ownBlock = some g → g < hi
def StrO (w : World) (lo : Nat) (v : Value) (xs : List ByteArray) : Prop := w.ownsRow lo 9 1 v xs.length (stCells xs)
section
variable {w w' : World} {lo hi : Nat} {v : Value} {xs : List ByteArray}
theorem StrR.below (h : StrR w v xs) (hb : Below w.heap.size w w') : StrR w' v xs := by
  obtain ⟨A, c, h1, h2, h3⟩ := h
  exact ⟨A, c, h1, h2, (h3.below hb).more hb.size⟩
theorem StrR.at_ {A : Option Addr} {n c : Nat} (h : StrR w (.slice A n c) xs) : Reads w w.heap.size 1 A n (stCells xs) ∧ n ≤ c := by
  obtain ⟨A', c', e, h2, h3⟩ := h
  simp only [Value.slice.injEq] at e
  obtain ⟨rfl, rfl, rfl⟩ := e
  exact ⟨h3, h2⟩
theorem strR_mk {A : Option Addr} {n c : Nat} (hl : xs.length = n) (hc : n ≤ c) (hx : Reads w w.heap.size 1 A n (stCells xs)) : StrR w (.slice A n c) xs := by
  subst hl
  exact ⟨A, c, rfl, hc, hx⟩
theorem StrV.below (h : StrV w lo hi v xs) (hb : Below w.heap.size w w') : StrV w' lo hi v xs := ⟨own_below h.1 hb, h.2⟩
theorem StrV.touch {lo' hi' : Nat} (h : StrV w lo hi v xs) (ht : Touch lo' hi' w w') (hd : hi ≤ lo' ∨ hi' ≤ lo) : StrV w' lo hi v xs :=
  ⟨ht.own h.1 (fun g e => by have := (h.1.lt g e).1; have := h.2 g e; omega), h.2⟩
theorem StrV.strR (h : StrV w lo hi v xs) : StrR w v xs := by
  obtain ⟨A, c, rfl, hc, _⟩ := own_form h.1
  exact ⟨A, c, rfl, hc, Reads.of_own h.1⟩
theorem StrO.strV (h : StrO w lo v xs) : StrV w lo w.heap.size v xs := ⟨h, fun g e => (World.ownsRow.lt h g e).2⟩
end
section
variable {H : Type} {enc : TypeId × Value → H} {W : World} {sp : Nat → Bool} {base : Nat}
theorem open_strs {v : Value} {d : DataW H} {p : List MemPlace} (hv : Value.okWide Tryd.prog W .any base 23 v) (h : DataW.Trod enc Tryd.prog W 0 sp true 23 v d p) :
    ∃ (A : Option Addr) (n c : Nat) (xs : List ByteArray), v = .slice A n c ∧ xs.length = n ∧ n ≤ c ∧ n ≤ maxLen ∧ (∀ x ∈ xs, x.size ≤ maxLen) ∧ Reads W W.heap.size 1 A n (stCells xs) := by
  obtain ⟨a0, len, cap, rfl⟩ := okWide_slice Tryd.underlying23 hv
  obtain ⟨fuel, hf⟩ := h
  obtain ⟨A, c, xs, e, h2, h3, h4, h5⟩ := trod_names (v := .slice a0 len cap) hf
  simp only [Value.slice.injEq] at e
  obtain ⟨rfl, rfl, rfl⟩ := e
  exact ⟨_, _, _, xs, rfl, rfl, h2, by omega, h4, h5⟩
end
end Go.Proofs.YtijpdekcdejfmaaDoor
