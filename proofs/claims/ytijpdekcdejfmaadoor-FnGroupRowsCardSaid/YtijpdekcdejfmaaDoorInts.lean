/- slices of ints: toIntS, eqIntS, markIntS, heldIntS, slices.Clone. -/
import Derived.Test.YtijpdekcdejfmaaDoorBase
import Derived.Test.YtijpdekcdejfmaaDoorOpen
namespace Go.Proofs.YtijpdekcdejfmaaDoor
open Go Go.RowKit
set_option maxRecDepth 100000

theorem infoInt : (Tryd.prog.info? 3).map (fun i => (i.zero, i.size, i.bytes)) = some (some (.int .i64 0), 1, 8) := by kernel_rfl
def inCells (xs : List Int) : List Value := xs.map (Value.int .i64)
theorem inCells_length (xs : List Int) : (inCells xs).length = xs.length := by simp [inCells]
theorem inCells_one (xs : List Int) : ∀ u ∈ inCells xs, u.oneCell' = true := by
  intro u hu
  simp only [inCells, List.mem_map] at hu
  obtain ⟨z, _, rfl⟩ := hu
  rfl
theorem inCells_append (xs ys : List Int) : inCells (xs ++ ys) = inCells xs ++ inCells ys := by simp [inCells]
theorem in_at {w : World} {B n : Nat} {A : Option Addr} {xs : List Int} {k : Nat} (h : Reads w B 1 A n (inCells xs)) (hxn : xs.length = n) (hk : k < n) :
    ∃ ad x, A = some ad ∧ ad.block < B ∧ xs[k]? = some x ∧ w.cell? (ad.add k) = some (.int .i64 x) := by
  obtain ⟨ad, u, rfl, hb, hu, hc⟩ := h.at_ hk
  obtain ⟨x, hx⟩ : ∃ x, xs[k]? = some x := ⟨_, List.getElem?_eq_getElem (by omega)⟩
  have : u = .int .i64 x := by simpa [inCells, hx] using hu.symm
  subst this
  exact ⟨ad, x, rfl, hb, hx, hc⟩


theorem set1 {α : Type} (ys xs : List α) (j : Nat) (a : α) (hy : ys.length = j) (hx : j < xs.length) : (ys ++ xs.drop j).set j a = (ys ++ [a]) ++ xs.drop (j + 1) := by
  rw [List.drop_eq_getElem_cons hx, List.set_append_right _ _ (by omega), hy, Nat.sub_self, List.set_cons_zero, List.append_assoc]
  rfl
theorem own_store1 {w : World} {base g n cap j : Nat} {e : TypeId} {xs ys : List Value} (h : w.ownsRow base e 1 (.slice (some ⟨g, 0, none⟩) n cap) n (ys ++ xs.drop j)) (hx : xs.length = n) (hy : ys.length = j) (hj : j < n) (a : Value) :
    (w.setCell ⟨g, j, none⟩ a).ownsRow base e 1 (.slice (some ⟨g, 0, none⟩) n cap) n ((ys ++ [a]) ++ xs.drop (j + 1)) ∧ w.grownBy (w.setCell ⟨g, j, none⟩ a) (some g) := by
  have s1 := h.stored j a
  rw [set1 ys xs j a hy (by omega)] at s1
  exact s1

def inMarks (k : Int) (m : Nat) : List Int := (List.range m).map fun (i : Nat) => k + i
theorem inMarks_succ (k : Int) (m : Nat) : inMarks k (m + 1) = inMarks k m ++ [k + m] := by simp [inMarks, List.range_succ]
theorem inMarks_length (k : Int) (m : Nat) : (inMarks k m).length = m := by simp [inMarks]
theorem inMarks_at (k : Int) (m j : Nat) (h : j < m) : (inMarks k m)[j]? = some (k + j) := by simp [inMarks, h]

set_option maxHeartbeats 400000 in
theorem cloneInt_any (A : Option Addr) (n c : Nat) (xs : List Int) (w : World) (hx : Reads w w.heap.size 1 A n (inCells xs)) (hn : n ≤ 1000000000) (hxn : xs.length = n) (hA : A = none → c = 0 ∧ n = 0) :
    Calls Tryd.prog 36 #[.slice A n c] w fun e w' => ∃ v, e = .returned v ∧ w'.ownsRow w.heap.size 3 1 v n (inCells xs) ∧ Below w.heap.size w w' := by
  obtain ⟨i0, hi0, hz0, hz1, hz2⟩ := info_parts infoInt
  cases A with
  | none =>
    obtain ⟨rfl, rfl⟩ := hA rfl
    have hxs : xs = [] := List.eq_nil_of_length_eq_zero hxn
    subst hxs
    have hnil := fun (w : World) (a : Option Addr) (n c n' c' : Nat) => Lib.run_eql_slice_nil (P := Tryd.prog) w 40 3 a n c n' c' Tryd.underlying40
    go_enter Tryd.func36, Tryd.ntmps36
    go_wp2
    go_ret
    exact ⟨_, rfl, World.ownsRow_nil _ _ _ _, Below.refl _ _⟩
  | some ad =>
    have hnil := fun (w : World) (a : Option Addr) (n c n' c' : Nat) => Lib.run_eql_slice_nil (P := Tryd.prog) w 40 3 a n c n' c' Tryd.underlying40
    have HX := Lib.hid hxn
    clear hxn hA
    go_enter Tryd.func36, Tryd.ntmps36
    go_wp2_with (first
      | (at_builtin; refine wpList_append_any _ rfl _ _ 40 rfl w.heap.size 3 i0 _ 1 8 Tryd.underlying40 hi0 hz0 hz1 hz2 rfl (by omega) _ 0 [] rfl (World.ownsRow_made w #[] 0 (Nat.le_refl _) (by unfold maxLen; omega) rfl) w.heap.size _ n c (inCells xs) rfl (hx.alloc (Nat.le_refl _) _) (inCells_one xs) (by unfold maxLen; omega) (by omega) (by simp) ?_; intro v1 w1 hown1 hg1 hat1))
    go_ret
    refine ⟨_, rfl, by simpa using hown1, ((Below.refl _ _).alloc (Nat.le_refl _) _).grown hg1 (by simp) (fun g hg => ((World.ownsRow_made (base := w.heap.size) (e := 3) (size := 1) w #[] 0 (Nat.le_refl _) (by unfold maxLen; omega) rfl).lt g hg).1)⟩
end Go.Proofs.YtijpdekcdejfmaaDoor
