/- spec.l20Name, spec.DrawNameValid. -/
import Derived.Test.YtijpdekcdejfmaaDoorDraw
namespace Go.Proofs.YtijpdekcdejfmaaDoor
open Go Go.RowKit
set_option maxRecDepth 100000

def strLe (m : Nat) : Value → Bool | .string s => decide (s.size ≤ m) | _ => false
def intIn (lo hi : Int) : Value → Bool | .int .i64 z => decide (lo ≤ z) && decide (z ≤ hi) | _ => false
/-- A fresh row of texts, read behind draws. -/
theorem strs_cell {w w' : World} {R g x m : Nat} {t : TypeId} {cs : Array Value} (hb : Blk w g t cs) (hg : R < g) (ht : Touch R (R + 1) w w') (hx : x < cs.size) (hall : cs.all (strLe m) = true) :
    ∃ s : ByteArray, w'.cell? ⟨g, x, none⟩ = some (.string s) ∧ s.size ≤ m := by
  have h := (ht.blk hb (Or.inr hg)).cell x
  rw [Array.getElem?_eq_getElem hx] at h
  have h1 := Array.all_eq_true.1 hall x hx
  cases hv : cs[x] <;> rw [hv] at h h1 <;> simp [strLe] at h1
  exact ⟨_, h, h1⟩
theorem ints_cell {w w' : World} {R g x : Nat} {lo hi : Int} {t : TypeId} {cs : Array Value} (hb : Blk w g t cs) (hg : R < g) (ht : Touch R (R + 1) w w') (hx : x < cs.size) (hall : cs.all (intIn lo hi) = true) :
    ∃ z : Int, w'.cell? ⟨g, x, none⟩ = some (.int .i64 z) ∧ lo ≤ z ∧ z ≤ hi := by
  have h := (ht.blk hb (Or.inr hg)).cell x
  rw [Array.getElem?_eq_getElem hx] at h
  have h1 := Array.all_eq_true.1 hall x hx
  cases hv : cs[x] with
  | int k z =>
    rw [hv] at h h1
    cases k <;> simp [intIn] at h1
    exact ⟨_, h, h1.1, h1.2⟩
  | _ => rw [hv] at h1; simp [intIn] at h1

/-- What a call of l20Name leaves. -/
def Nm (R B : Nat) (w : World) (e : Ending) (w' : World) : Prop := ∃ s : ByteArray, e = .returned (.string s) ∧ s.size ≤ 9 ∧ Rc w' R B ∧ Touch R (R + 1) w w'
set_option maxHeartbeats 400000 in
theorem name_c (R B : Nat) (n : Int) (w : World) (h : Rc w R (B + 2)) (hn : n ≤ 100000) :
    Calls Tryd.prog 44 #[.pointer (some ⟨R, 0, none⟩), .int .i64 n] w (Nm R B w) := by
  go_enter Tryd.func44, Tryd.ntmps44
  go_wp2_with fail
  refine (odd_c R (B + 1) n _ h hn).mono ?_
  rintro e w1 ⟨q, rfl, r1, t1, -⟩
  have hR := r1.lt
  cases q
  · go_wp2_with fail
    refine (pick_c R B 10 _ ((r1.alloc _).alloc _) (by omega)).mono ?_
    rintro e w2 ⟨x, rfl, hx, r2, t2, -⟩
    obtain ⟨z, c1, hz0, hz1⟩ := ints_cell (lo := 0) (hi := 7) (Blk.new _ _ _) (by simp; omega) t2 (x := x) (by simp; omega) (by kernel_rfl)
    obtain ⟨s, c2, hs⟩ := strs_cell (m := 9) ((Blk.new _ _ _).alloc _) hR t2 (x := z.toNat) (by simp; omega) (by kernel_rfl)
    rw [World.size_alloc] at c1
    have hx0 : (x : Int) < 10 := by omega
    have hz2 : z < 8 := by omega
    have ht : Touch R (R + 1) w w2 := ((t1.alloc _).alloc _).trans t2
    clear hx hz1 t1 t2
    go_wp2_with fail
    go_ret
    exact ⟨s, rfl, hs, r2, ht⟩
  · go_wp2_with fail
    refine (pick_c R B 7 _ (r1.alloc _) (by omega)).mono ?_
    rintro e w2 ⟨x, rfl, hx, r2, t2, -⟩
    obtain ⟨s, c2, hs⟩ := strs_cell (m := 9) (Blk.new _ _ _) hR t2 (x := x) (by simp; omega) (by kernel_rfl)
    have hx0 : (x : Int) < 7 := by omega
    have ht : Touch R (R + 1) w w2 := (t1.alloc _).trans t2
    clear hx t1 t2
    go_wp2_with fail
    go_ret
    exact ⟨s, rfl, hs, r2, ht⟩
end Go.Proofs.YtijpdekcdejfmaaDoor
