/- laws.eqAccess, laws.eqAccessS: equality of accesses. -/
import Derived.Test.YtfkojdakgnbffaaBase
import Derived.Deep.LoopGhost
import Derived.Deep.RegionHeld3
import Derived.StillTailTactics
namespace Go.Proofs.Ytfkojdakgnbffaa
open Go Go.RowKit

def accV (a : Int × Int × Bool) : Value := .agg #[.int .i64 a.1, .int .i64 a.2.1, .bool a.2.2]

set_option maxHeartbeats 400000 in
theorem eqAccess_any (b : Bool) (a1 a2 b1 b2 : Int) (a3 b3 : Bool) (w : World) (hb : (decide (a1 = b1) && decide (a2 = b2) && decide (a3 = b3)) = b) :
    Calls Try.prog 47 #[.agg #[.int .i64 a1, .int .i64 a2, .bool a3], .agg #[.int .i64 b1, .int .i64 b2, .bool b3]] w fun e w' => e = .returned (.bool b) ∧ Below w.heap.size w w' := by
  have hfin : Below w.heap.size w ((w.alloc (.cells #[.int .i64 a1, .int .i64 a2, .bool a3] 56)).alloc (.cells #[.int .i64 b1, .int .i64 b2, .bool b3] 56)) := ((Below.refl _ _).alloc (Nat.le_refl _) _).alloc (by simp) _
  by_cases h1 : a1 = b1
  · by_cases h2 : a2 = b2
    · subst h1 h2
      cases a3 <;> cases b3 <;> simp at hb <;> subst hb
      all_goals
        go_enter Try.func47, Try.ntmps47
        go_wp2
        go_ret
        exact ⟨rfl, hfin⟩
    · subst h1
      simp [h2] at hb
      subst hb
      go_enter Try.func47, Try.ntmps47
      go_wp2
      go_ret
      exact ⟨rfl, hfin⟩
  · simp [h1] at hb
    subst hb
    go_enter Try.func47, Try.ntmps47
    go_wp2
    go_ret
    exact ⟨rfl, hfin⟩

def accCells (xs : List (Int × Int × Bool)) : List Value := xs.flatMap fun a => [.int .i64 a.1, .int .i64 a.2.1, .bool a.2.2]
theorem accCells_at (xs : List (Int × Int × Bool)) (k : Nat) (a : Int × Int × Bool) (h : xs[k]? = some a) :
    (accCells xs)[k * 3]? = some (.int .i64 a.1) ∧ (accCells xs)[k * 3 + 1]? = some (.int .i64 a.2.1) ∧ (accCells xs)[k * 3 + 2]? = some (.bool a.2.2) := by
  induction xs generalizing k with
  | nil => simp at h
  | cons x xs ih =>
    cases k with
    | zero => simp at h; subst h; exact ⟨rfl, rfl, rfl⟩
    | succ k =>
      have := ih k (by simpa using h)
      have e : (k + 1) * 3 = k * 3 + 1 + 1 + 1 := by omega
      rw [e]
      exact this
theorem take_ext {α : Type} (xs ys : List α) (k : Nat) (a : α) (h : xs.take k = ys.take k) (hx : xs[k]? = some a) (hy : ys[k]? = some a) : xs.take (k + 1) = ys.take (k + 1) := by
  rw [List.take_add_one, List.take_add_one, h, hx, hy]

set_option maxHeartbeats 400000 in
theorem eqAccessS_any (b : Bool) (A B : Option Addr) (n m c d : Nat) (xs ys : List (Int × Int × Bool)) (w : World) (hb : decide (xs = ys) = b) (hxn : xs.length = n) (hym : ys.length = m)
    (hx : Reads w w.heap.size 3 A n (accCells xs)) (hy : Reads w w.heap.size 3 B m (accCells ys)) (hn : n ≤ 1000000000) (hm : m ≤ 1000000000) :
    Calls Try.prog 16 #[.slice A n c, .slice B m d] w fun e w' => e = .returned (.bool b) ∧ Below w.heap.size w w' := by
  by_cases hnm : n = m
  · subst hnm
    have HB := Lib.hid hb
    have HX := Lib.hid hxn
    have HY := Lib.hid hym
    clear hxn hym hb
    go_enter Try.func16, Try.ntmps16
    go_wp2
    go_loopw [5] (fun i wr => ∃ k : Nat, k ≤ n ∧ i = .int .i64 k ∧ xs.take k = ys.take k ∧ Below w.heap.size w wr) (fun i _ => n - (intOf i).toNat)
    case atStart => exact ⟨0, Nat.zero_le _, rfl, rfl, Below.refl _ _⟩
    case round =>
      obtain ⟨k, hk, rfl, htk, hb⟩ := hrel
      have HT := Lib.hid htk
      clear htk
      by_cases hlt : k < n
      · obtain ⟨⟨x1, x2, x3⟩, hxk⟩ : ∃ x : Int × Int × Bool, xs[k]? = some x := ⟨_, List.getElem?_eq_getElem (by have := HX.out; omega)⟩
        obtain ⟨⟨y1, y2, y3⟩, hyk⟩ : ∃ y : Int × Int × Bool, ys[k]? = some y := ⟨_, List.getElem?_eq_getElem (by have := HY.out; omega)⟩
        obtain ⟨ad, u0, u1, u2, rfl, hadb, g0, g1, g2, e1, e2, e3⟩ := (hx.below hb).at3 hlt
        obtain ⟨bd, v0, v1, v2, rfl, hbdb, j0, j1, j2, f1, f2, f3⟩ := (hy.below hb).at3 hlt
        obtain ⟨rfl, rfl, rfl⟩ : u0 = .int .i64 x1 ∧ u1 = .int .i64 x2 ∧ u2 = .bool x3 := by
          have := accCells_at xs k _ hxk
          exact ⟨Option.some.inj (g0.symm.trans this.1), Option.some.inj (g1.symm.trans this.2.1), Option.some.inj (g2.symm.trans this.2.2)⟩
        obtain ⟨rfl, rfl, rfl⟩ : v0 = .int .i64 y1 ∧ v1 = .int .i64 y2 ∧ v2 = .bool y3 := by
          have := accCells_at ys k _ hyk
          exact ⟨Option.some.inj (j0.symm.trans this.1), Option.some.inj (j1.symm.trans this.2.1), Option.some.inj (j2.symm.trans this.2.2)⟩
        have HXK := Lib.hid hxk
        have HYK := Lib.hid hyk
        clear hxk hyk g0 g1 g2 j0 j1 j2 hx hy
        have hk0 : (0 : Int) ≤ (k : Int) := Int.natCast_nonneg _
        have hk1 : (k : Int) < (n : Int) := by omega
        obtain ⟨q, hq⟩ : ∃ q : Bool, (decide (x1 = y1) && decide (x2 = y2) && decide (x3 = y3)) = q := ⟨_, rfl⟩
        have HQ := Lib.hid hq
        clear hq
        cases q
        all_goals
          go_wp2_with fail
          go_region_held3 (fun w' => w'.cell? (ad.add (k * 3)) = some (.int .i64 x1) ∧ w'.cell? ⟨(ad.add (k * 3)).block, (ad.add (k * 3)).off + 1, none⟩ = some (.int .i64 x2) ∧ w'.cell? ⟨(ad.add (k * 3)).block, (ad.add (k * 3)).off + 2, none⟩ = some (.bool x3) ∧ w'.cell? (bd.add (k * 3)) = some (.int .i64 y1) ∧ w'.cell? ⟨(bd.add (k * 3)).block, (bd.add (k * 3)).off + 1, none⟩ = some (.int .i64 y2) ∧ w'.cell? ⟨(bd.add (k * 3)).block, (bd.add (k * 3)).off + 2, none⟩ = some (.bool y3)) (first | go_keep | (go_split_ands; refine ⟨?_, ?_, ?_, ?_, ?_, ?_⟩ <;> (refine below_keep hb' ?_; assumption)))
            (first | (go_at_call 47; refine (eqAccess_any _ _ _ _ _ _ _ _ HQ.out).mono ?_; rintro e w' ⟨rfl, hb'⟩))
          have hbb := hb.drew.trans (hb'.mono hb.size)
          clear hb'
          go_wp2
        · go_ret
          refine ⟨ret_bool ?_, hbb⟩
          rw [← HB.out]
          symm
          rw [decide_eq_false_iff_not]
          intro he
          subst he
          have h1 := Option.some.inj (HXK.out.symm.trans HYK.out)
          have h2 := HQ.out
          simp only [Prod.mk.injEq] at h1
          simp [h1] at h2
        · go_roundw
          case rel =>
            have h2 := HQ.out
            simp at h2
            obtain ⟨⟨rfl, rfl⟩, rfl⟩ := h2
            exact ⟨k + 1, by omega, by go_num, take_ext _ _ _ _ HT.out HXK.out HYK.out, hbb⟩
          case measure => simp [intOf]; omega
      · obtain rfl : k = n := by omega
        go_wp2
        go_ret
        refine ⟨ret_bool ?_, hb⟩
        rw [← HB.out]
        symm
        rw [decide_eq_true_iff]
        have h1 := HT.out
        rwa [List.take_of_length_le (by have := HX.out; omega), List.take_of_length_le (by have := HY.out; omega)] at h1
  · have hb' : b = false := by
      rw [← hb, decide_eq_false_iff_not]
      intro he
      subst he
      omega
    subst hb'
    have hd : (n : Int) ≠ (m : Int) := by omega
    clear hb
    go_enter Try.func16, Try.ntmps16
    go_wp2
    go_ret
    exact ⟨rfl, Below.refl _ _⟩
end Go.Proofs.Ytfkojdakgnbffaa
