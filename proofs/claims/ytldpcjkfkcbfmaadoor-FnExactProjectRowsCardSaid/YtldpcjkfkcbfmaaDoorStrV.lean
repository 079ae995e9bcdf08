/- Slices of texts as arguments of the Exact laws: opened, measured, copied, compared, marked. -/
import Derived.Test.YtldpcjkfkcbfmaaDoorProj
import Derived.Test.YtldpcjkfkcbfmaaDoorMarkTab
namespace Go.Proofs.YtldpcjkfkcbfmaaDoor
open Go Go.RowKit Go.WideShapes Go.ChangeShapes Go.WideElems Go.Deep
set_option maxRecDepth 100000
def StrR (w : World) (v : Value) (xs : List ByteArray) : Prop := ∃ (A : Option Addr) (c : Nat), v = .slice A xs.length c ∧ xs.length ≤ c ∧ Reads w w.heap.size 1 A xs.length (stCells xs)
def StrV (w : World) (lo hi : Nat) (v : Value) (xs : List ByteArray) : Prop := w.ownsRow lo 9 1 v xs.length (stCells xs) ∧ ∀ g, v.ownBlock = some g → g < hi
def StrO (w : World) (lo : Nat) (v : Value) (xs : List ByteArray) : Prop := w.ownsRow lo 9 1 v xs.length (stCells xs)
section
variable {w w' : World} {lo hi : Nat} {v : Value} {xs : List ByteArray}
theorem StrR.below (h : StrR w v xs) (hb : Below w.heap.size w w') : StrR w' v xs := by
  obtain ⟨A, c, h1, h2, h3⟩ := h
  exact ⟨A, c, h1, h2, (h3.below hb).more hb.size⟩
theorem StrR.at_ {A : Option Addr} {n c : Nat} (h : StrR w (.slice A n c) xs) : Reads w w.heap.size 1 A n (stCells xs) ∧ n ≤ c := by
  obtain ⟨A', c', e, h2, h3⟩ := h
  simp only [Value.slice.injEq] at e
  obtain ⟨rfl, rfl, rfl⟩ := e
  exact ⟨h3, h2⟩
theorem strR_mk {A : Option Addr} {n c : Nat} (hl : xs.length = n) (hc : n ≤ c) (hx : Reads w w.heap.size 1 A n (stCells xs)) : StrR w (.slice A n c) xs := by
  subst hl
  exact ⟨A, c, rfl, hc, hx⟩
theorem StrV.below (h : StrV w lo hi v xs) (hb : Below w.heap.size w w') : StrV w' lo hi v xs := ⟨own_below h.1 hb, h.2⟩
theorem StrV.touch {lo' hi' : Nat} (h : StrV w lo hi v xs) (ht : Touch lo' hi' w w') (hd : hi ≤ lo' ∨ hi' ≤ lo) : StrV w' lo hi v xs :=
  ⟨ht.own h.1 (fun g e => by have := (h.1.lt g e).1; have := h.2 g e; omega), h.2⟩
theorem StrV.strR (h : StrV w lo hi v xs) : StrR w v xs := by
  obtain ⟨A, c, rfl, hc, _⟩ := own_form h.1
  exact ⟨A, c, rfl, hc, Reads.of_own h.1⟩
theorem StrO.strV (h : StrO w lo v xs) : StrV w lo w.heap.size v xs := ⟨h, fun g e => (World.ownsRow.lt h g e).2⟩
end
section
variable {H : Type} {enc : TypeId × Value → H} {W : World} {sp : Nat → Bool} {base : Nat}
theorem open_strs {v : Value} {d : DataW H} {p : List MemPlace} (hv : Value.okWide Tryd.prog W .any base 22 v) (h : DataW.Trod enc Tryd.prog W 0 sp true 22 v d p) :
    ∃ (A : Option Addr) (n c : Nat) (xs : List ByteArray), v = .slice A n c ∧ xs.length = n ∧ n ≤ c ∧ n ≤ maxLen ∧ (∀ x ∈ xs, x.size ≤ maxLen) ∧ Reads W W.heap.size 1 A n (stCells xs) := by
  obtain ⟨a0, len, cap, rfl⟩ := okWide_slice Tryd.underlying22 hv
  obtain ⟨fuel, hf⟩ := h
  obtain ⟨A, c, xs, e, h2, h3, h4, h5⟩ := trod_names (v := .slice a0 len cap) hf
  simp only [Value.slice.injEq] at e
  obtain ⟨rfl, rfl, rfl⟩ := e
  exact ⟨_, _, _, xs, rfl, rfl, h2, by omega, h4, h5⟩
end
theorem szStrs_any (A : Option Addr) (n c : Nat) (xs : List ByteArray) (l : Int) (w : World) (h0 : 0 ≤ l) (h1 : l ≤ 1048576) (hx : StrR w (.slice A n c) xs) (hn : n ≤ maxLen) (hs : ∀ x ∈ xs, x.size ≤ maxLen) (hxn : xs.length = n) :
    Calls Tryd.prog 13 #[.slice A n c, .int .i64 l] w fun e w' => ∃ r : Int, e = .returned (.int .i64 r) ∧ -1 ≤ r ∧ r ≤ l ∧ (0 ≤ r → SmallS xs) ∧ Below w.heap.size w w' := by
  refine (szStringS_any A n c xs l w h0 h1 hx.at_.1 hxn (by unfold maxLen at hn; omega) (fun x h => by have := hs x h; unfold maxLen at this; omega)).mono ?_
  rintro e w' ⟨r, rfl, g1, g2, g3, rfl⟩
  exact ⟨r, rfl, g1, g2, fun h => ⟨by rw [hxn]; exact (g3 h).1, (g3 h).2⟩, Below.refl _ _⟩
theorem toStrs_any (A : Option Addr) (n c : Nat) (xs : List ByteArray) (w : World) (hx : StrR w (.slice A n c) xs) (hs : SmallS xs) (hxn : xs.length = n) :
    Calls Tryd.prog 15 #[.slice A n c] w fun e w' => ∃ (A' : Option Addr) (c' : Nat), e = .returned (.slice A' n c') ∧ StrO w' w.heap.size (.slice A' n c') xs ∧ Below w.heap.size w w' := by
  refine (toStringS_any A n c xs w hx.at_.1 (by rw [← hxn]; exact hs.n1) hxn).mono ?_
  rintro e w' ⟨v, rfl, ho, hb⟩
  obtain ⟨A', c', rfl, _, _⟩ := own_form ho
  refine ⟨A', c', rfl, ?_, hb⟩
  unfold StrO
  rw [hxn]
  exact ho
theorem eqStrs_yes (v u : Value) (xs : List ByteArray) (w : World) (hv : StrR w v xs) (hu : StrR w u xs) (hs : SmallS xs) :
    Calls Tryd.prog 17 #[v, u] w fun e w' => e = .returned (.bool true) ∧ Below w.heap.size w w' := by
  obtain ⟨A, c, rfl, _, hx⟩ := hv
  obtain ⟨B, d, rfl, _, hy⟩ := hu
  exact eqStringS_yes A B _ c d xs w rfl hx hy (by have := hs.n1; omega)
theorem markStrs_any (lo hi k : Nat) (v : Value) (xs : List ByteArray) (w : World) (hv : StrV w lo hi v xs) (_hh : hi ≤ w.heap.size) (hs : SmallS xs) (hk : k ≤ 2500000000000) :
    Calls Tryd.prog 18 #[v, .int .i64 k] w fun e w' => e = .returned (.int .i64 (k + xs.length : Nat)) ∧ True ∧ Touch lo hi w w' := by
  refine (markStringS_any lo xs.length k v _ w hv.1 (by omega) (by have := hs.n1; omega)).mono ?_
  rintro e w' ⟨rfl, _, hg⟩
  exact ⟨rfl, trivial, Touch.of_grown hg fun g e => ⟨(hv.1.lt g e).1, hv.2 g e⟩⟩
end Go.Proofs.YtldpcjkfkcbfmaaDoor
