/- slices of ints: toIntS, eqIntS, markIntS, heldIntS, slices.Clone. -/
import Derived.Test.YtldpcjkfkcbfmaaDoorBase
import Derived.Test.YtldpcjkfkcbfmaaDoorOpen
namespace Go.Proofs.YtldpcjkfkcbfmaaDoor
open Go Go.RowKit
set_option maxRecDepth 100000

theorem infoInt : (Tryd.prog.info? 3).map (fun i => (i.zero, i.size, i.bytes)) = some (some (.int .i64 0), 1, 8) := by kernel_rfl
def inCells (xs : List Int) : List Value := xs.map (Value.int .i64)
theorem inCells_length (xs : List Int) : (inCells xs).length = xs.length := by simp [inCells]
theorem inCells_one (xs : List Int) : ∀ u ∈ inCells xs, u.oneCell' = true := by
  intro u hu
  simp only [inCells, List.mem_map] at hu
  obtain ⟨z, _, rfl⟩ := hu
  rfl
theorem inCells_append (xs ys : List Int) : inCells (xs ++ ys) = inCells xs ++ inCells ys := by simp [inCells]
theorem in_at {w : World} {B n : Nat} {A : Option Addr} {xs : List Int} {k : Nat} (h : Reads w B 1 A n (inCells xs)) (hxn : xs.length = n) (hk : k < n) :
    ∃ ad x, A = some ad ∧ ad.block < B ∧ xs[k]? = some x ∧ w.cell? (ad.add k) = some (.int .i64 x) := by
  obtain ⟨ad, u, rfl, hb, hu, hc⟩ := h.at_ hk
  obtain ⟨x, hx⟩ : ∃ x, xs[k]? = some x := ⟨_, List.getElem?_eq_getElem (by omega)⟩
  have : u = .int .i64 x := by simpa [inCells, hx] using hu.symm
  subst this
  exact ⟨ad, x, rfl, hb, hx, hc⟩

set_option maxHeartbeats 400000 in
theorem eqIntS_any (b : Bool) (A B : Option Addr) (n m c d : Nat) (xs ys : List Int) (w : World) (hb : decide (xs = ys) = b) (hxn : xs.length = n) (hym : ys.length = m)
    (hx : Reads w w.heap.size 1 A n (inCells xs)) (hy : Reads w w.heap.size 1 B m (inCells ys)) (hn : n ≤ 1000000000) (hm : m ≤ 1000000000) :
    Calls Tryd.prog 49 #[.slice A n c, .slice B m d] w fun e w' => e = .returned (.bool b) ∧ Below w.heap.size w w' := by
  by_cases hnm : n = m
  · subst hnm
    have HB := Lib.hid hb
    have HX := Lib.hid hxn
    have HY := Lib.hid hym
    clear hxn hym hb
    go_enter Tryd.func49, Tryd.ntmps49
    go_wp2
    go_loopw [5] (fun i wr => ∃ k : Nat, k ≤ n ∧ i = .int .i64 k ∧ xs.take k = ys.take k ∧ Below w.heap.size w wr) (fun i _ => n - (intOf i).toNat)
    case atStart => exact ⟨0, Nat.zero_le _, rfl, rfl, Below.refl _ _⟩
    case round =>
      obtain ⟨k, hk, rfl, htk, hb⟩ := hrel
      have HT := Lib.hid htk
      clear htk
      by_cases hlt : k < n
      · obtain ⟨ad, x, rfl, _, hxk, e1⟩ := in_at (hx.below hb) HX.out hlt
        obtain ⟨bd, y, rfl, _, hyk, f1⟩ := in_at (hy.below hb) HY.out hlt
        have HXK := Lib.hid hxk
        have HYK := Lib.hid hyk
        clear hxk hyk hx hy
        have hk0 : (0 : Int) ≤ (k : Int) := Int.natCast_nonneg _
        have hk1 : (k : Int) < (n : Int) := by omega
        by_cases hq : x = y
        · subst hq
          go_wp2_with fail
          go_quiet (fail)
          go_wp2
          go_roundw
          case rel => exact ⟨k + 1, by omega, by go_num, take_ext _ _ _ _ HT.out HXK.out HYK.out, below_drewN hb _⟩
          case measure => simp [intOf]; omega
        · go_wp2_with fail
          go_quiet (fail)
          go_wp2
          go_ret
          refine ⟨ret_bool ?_, below_drewN hb _⟩
          rw [← HB.out]
          symm
          rw [decide_eq_false_iff_not]
          intro he
          subst he
          exact hq (Option.some.inj (HXK.out.symm.trans HYK.out))
      · obtain rfl : k = n := by omega
        go_wp2
        go_ret
        refine ⟨ret_bool ?_, hb⟩
        rw [← HB.out]
        symm
        rw [decide_eq_true_iff]
        have h1 := HT.out
        rwa [List.take_of_length_le (by have := HX.out; omega), List.take_of_length_le (by have := HY.out; omega)] at h1
  · have hb' : b = false := by
      rw [← hb, decide_eq_false_iff_not]
      intro he
      subst he
      omega
    subst hb'
    have hd : (n : Int) ≠ (m : Int) := by omega
    clear hb
    go_enter Tryd.func49, Tryd.ntmps49
    go_wp2
    go_ret
    exact ⟨rfl, Below.refl _ _⟩

theorem set1 {α : Type} (ys xs : List α) (j : Nat) (a : α) (hy : ys.length = j) (hx : j < xs.length) : (ys ++ xs.drop j).set j a = (ys ++ [a]) ++ xs.drop (j + 1) := by
  rw [List.drop_eq_getElem_cons hx, List.set_append_right _ _ (by omega), hy, Nat.sub_self, List.set_cons_zero, List.append_assoc]
  rfl
theorem own_store1 {w : World} {base g n cap j : Nat} {e : TypeId} {xs ys : List Value} (h : w.ownsRow base e 1 (.slice (some ⟨g, 0, none⟩) n cap) n (ys ++ xs.drop j)) (hx : xs.length = n) (hy : ys.length = j) (hj : j < n) (a : Value) :
    (w.setCell ⟨g, j, none⟩ a).ownsRow base e 1 (.slice (some ⟨g, 0, none⟩) n cap) n ((ys ++ [a]) ++ xs.drop (j + 1)) ∧ w.grownBy (w.setCell ⟨g, j, none⟩ a) (some g) := by
  have s1 := h.stored j a
  rw [set1 ys xs j a hy (by omega)] at s1
  exact s1

def inMarks (k : Int) (m : Nat) : List Int := (List.range m).map fun (i : Nat) => k + i
theorem inMarks_succ (k : Int) (m : Nat) : inMarks k (m + 1) = inMarks k m ++ [k + m] := by simp [inMarks, List.range_succ]
theorem inMarks_length (k : Int) (m : Nat) : (inMarks k m).length = m := by simp [inMarks]
theorem inMarks_at (k : Int) (m j : Nat) (h : j < m) : (inMarks k m)[j]? = some (k + j) := by simp [inMarks, h]

set_option maxHeartbeats 400000 in
theorem markIntS_own (g cap : Nat) (base : Nat) (n : Nat) (k : Int) (xs : List Value) (w : World) (hown : w.ownsRow base 3 1 (.slice (some ⟨g, 0, none⟩) n cap) n xs)
    (hk0 : 0 ≤ k) (hk1 : k ≤ 1000000000000000) (hn : n ≤ 1000000000) :
    Calls Tryd.prog 50 #[.slice (some ⟨g, 0, none⟩) n cap, .int .i64 k] w fun e w' => e = .returned (.int .i64 (k + n)) ∧ w'.ownsRow base 3 1 (.slice (some ⟨g, 0, none⟩) n cap) n (inCells (inMarks k n)) ∧ w.grownBy w' (some g) := by
  have HXN := Lib.hid (show xs.length = n by have := hown.1; omega)
  go_enter Tryd.func50, Tryd.ntmps50
  go_wp2
  go_loopw [1, 5] (fun q i wr => ∃ j : Nat, j ≤ n ∧ i = .int .i64 j ∧ q = .int .i64 (k + j) ∧ wr.ownsRow base 3 1 (.slice (some ⟨g, 0, none⟩) n cap) n (inCells (inMarks k j) ++ xs.drop j) ∧ w.grownBy wr (some g)) (fun _ i _ => n - (intOf i).toNat)
  case atStart => exact ⟨0, Nat.zero_le _, rfl, by simp, by simpa [inMarks, inCells] using hown, World.grownBy.refl _ _⟩
  case round =>
    obtain ⟨j, hj, rfl, rfl, ho, hg⟩ := hrel
    by_cases hlt : j < n
    · have hl := ho.1
      obtain ⟨u0, h0⟩ : ∃ u, wr.cell? ⟨g, j, none⟩ = some u := ⟨_, (ho.cellAt j (by omega)).trans (List.getElem?_eq_getElem (by omega))⟩
      have f0 := ho.frozenAt j
      have HO := Lib.hid ho
      clear ho hl hown
      go_wp2
      go_roundw
      case rel =>
        refine ⟨j + 1, by omega, by go_num, by go_num, ?_⟩
        have R := own_store1 (j := j) (ys := inCells (inMarks k j)) (xs := xs) HO.out HXN.out (by rw [inCells_length, inMarks_length]) hlt (.int .i64 (k + j))
        rw [inMarks_succ, inCells_append]
        exact ⟨R.1, hg.trans R.2⟩
      case measure => simp [intOf]; omega
    · obtain rfl : j = n := by omega
      go_wp2
      go_ret
      refine ⟨rfl, ?_, hg⟩
      rw [List.drop_of_length_le (by have := HXN.out; omega), List.append_nil] at ho
      exact ho

theorem markIntS_any (base : Nat) (n : Nat) (k : Int) (v : Value) (xs : List Value) (w : World) (hown : w.ownsRow base 3 1 v n xs)
    (hk0 : 0 ≤ k) (hk1 : k ≤ 1000000000000000) (hn : n ≤ 1000000000) :
    Calls Tryd.prog 50 #[v, .int .i64 k] w fun e w' => e = .returned (.int .i64 (k + n)) ∧ w'.ownsRow base 3 1 v n (inCells (inMarks k n)) ∧ w.grownBy w' v.ownBlock := by
  rcases own_cases hown with ⟨rfl, rfl, rfl⟩ | ⟨g, cap, rfl⟩
  · go_enter Tryd.func50, Tryd.ntmps50
    go_wp2
    refine wp_loop_rounds 1 ?_
    rw [rounds_succ]
    go_wp2
    go_ret
    exact ⟨ret_int (by simp), hown, World.grownBy.refl _ _⟩
  · refine (markIntS_own g cap base n k xs w hown hk0 hk1 hn).mono ?_
    rintro e w' ⟨rfl, h1, h2⟩
    exact ⟨rfl, h1, h2⟩
set_option maxHeartbeats 400000 in
theorem heldIntS_any (A : Option Addr) (n c : Nat) (k : Int) (w : World) (hx : Reads w w.heap.size 1 A n (inCells (inMarks k n)))
    (hk0 : 0 ≤ k) (hk1 : k ≤ 1000000000000000) (hn : n ≤ 1000000000) :
    Calls Tryd.prog 51 #[.slice A n c, .int .i64 k] w fun e w' => e = .returned (.int .i64 (k + n)) ∧ w = w' := by
  go_enter Tryd.func51, Tryd.ntmps51
  go_wp2
  go_loop [1, 5] (fun q i => ∃ j : Nat, j ≤ n ∧ i = .int .i64 j ∧ q = .int .i64 (k + j)) (fun _ i => n - (intOf i).toNat)
  case atStart => exact ⟨0, Nat.zero_le _, rfl, by simp⟩
  case round =>
    obtain ⟨j, hj, rfl, rfl⟩ := hrel
    by_cases hlt : j < n
    · obtain ⟨ad, x, rfl, _, hxk, e1⟩ := in_at hx (inMarks_length k n) hlt
      obtain rfl : x = k + j := Option.some.inj (hxk.symm.trans (inMarks_at k n j hlt))
      clear hxk hx
      go_wp2
      go_round
      case rel => exact ⟨j + 1, by omega, by go_num, by go_num⟩
      case measure => simp [intOf]; omega
    · obtain rfl : j = n := by omega
      go_wp2
      go_ret
      exact ⟨rfl, rfl⟩
set_option maxHeartbeats 400000 in
theorem toIntS_any (A : Option Addr) (n c : Nat) (xs : List Int) (w : World) (hx : Reads w w.heap.size 1 A n (inCells xs)) (hn : n ≤ 1048576) (hxn : xs.length = n) :
    Calls Tryd.prog 45 #[.slice A n c] w fun e w' => ∃ v, e = .returned v ∧ w'.ownsRow w.heap.size 3 1 v n (inCells xs) ∧ Below w.heap.size w w' := by
  obtain ⟨i0, hi0, hz0, hz1, hz2⟩ := info_parts infoInt
  have HX := Lib.hid hxn
  clear hxn
  go_enter Tryd.func45, Tryd.ntmps45
  go_wp2_with (at_make; refine wpList_make_full _ rfl _ _ 44 rfl w.heap.size 3 i0 _ 1 Tryd.underlying44 hi0 hz0 hz1 .i64 .i64 _ _ n rfl rfl rfl rfl (by rw [hz2]; omega) (by unfold maxLen; omega) (Nat.le_refl _) ?_; intro w1 hown1 hgrow1)
  have hb1 : Below w.heap.size w w1 := (Below.refl _ _).grown hgrow1 (Nat.le_refl _) (by simp)
  generalize hD : (madeCells (Value.int IntKind.i64 0).cells (n * 1)).toList = D at hown1
  have HDL := Lib.hid (show D.length = n by have := hown1.1; omega)
  clear hD hgrow1
  go_loopw [4] (fun i wr => ∃ j : Nat, j ≤ n ∧ i = .int .i64 j ∧ wr.ownsRow w.heap.size 3 1 (.slice (some ⟨w.heap.size, 0, none⟩) n n) n (inCells (xs.take j) ++ D.drop j) ∧ Below w.heap.size w wr) (fun i _ => n - (intOf i).toNat)
  case atStart => exact ⟨0, Nat.zero_le _, rfl, by simpa [inCells] using hown1, hb1⟩
  case round =>
    clear hown1 hb1
    obtain ⟨j, hj, rfl, hown, hb⟩ := hrel
    by_cases hlt : j < n
    · obtain ⟨ad, x, rfl, _, hxk, e1⟩ := in_at (hx.below hb) HX.out hlt
      have HXK := Lib.hid hxk
      have hl := hown.1
      obtain ⟨y0, h0⟩ : ∃ u, wr.cell? ⟨w.heap.size, j, none⟩ = some u := ⟨_, (hown.cellAt j (by omega)).trans (List.getElem?_eq_getElem (by omega))⟩
      have f0 := hown.frozenAt j
      have HO := Lib.hid hown
      clear hxk hx hl hown
      go_wp2
      go_roundw
      case rel =>
        have e : inCells (xs.take (j + 1)) = inCells (xs.take j) ++ [.int .i64 x] := by
          rw [List.take_add_one, HXK.out, inCells_append]; rfl
        have R := own_store1 (j := j) (ys := inCells (xs.take j)) (xs := D) HO.out HDL.out (by rw [inCells_length, List.length_take]; have := HX.out; omega) hlt (.int .i64 x)
        refine ⟨j + 1, by omega, by go_num, by rw [e]; exact R.1, ?_⟩
        exact hb.grown R.2 hb.size (by simp)
      case measure => simp [intOf]; omega
    · obtain rfl : j = n := by omega
      go_wp2
      go_ret
      refine ⟨_, rfl, ?_, hb⟩
      rw [List.take_of_length_le (by have := HX.out; omega), List.drop_of_length_le (by have := HDL.out; omega), List.append_nil] at hown
      exact hown
set_option maxHeartbeats 400000 in
theorem cloneInt_any (A : Option Addr) (n c : Nat) (xs : List Int) (w : World) (hx : Reads w w.heap.size 1 A n (inCells xs)) (hn : n ≤ 1000000000) (hxn : xs.length = n) (hA : A = none → c = 0 ∧ n = 0) :
    Calls Tryd.prog 29 #[.slice A n c] w fun e w' => ∃ v, e = .returned v ∧ w'.ownsRow w.heap.size 3 1 v n (inCells xs) ∧ Below w.heap.size w w' := by
  obtain ⟨i0, hi0, hz0, hz1, hz2⟩ := info_parts infoInt
  cases A with
  | none =>
    obtain ⟨rfl, rfl⟩ := hA rfl
    have hxs : xs = [] := List.eq_nil_of_length_eq_zero hxn
    subst hxs
    have hnil := fun (w : World) (a : Option Addr) (n c n' c' : Nat) => Lib.run_eql_slice_nil (P := Tryd.prog) w 44 3 a n c n' c' Tryd.underlying44
    go_enter Tryd.func29, Tryd.ntmps29
    go_wp2
    go_ret
    exact ⟨_, rfl, World.ownsRow_nil _ _ _ _, Below.refl _ _⟩
  | some ad =>
    have hnil := fun (w : World) (a : Option Addr) (n c n' c' : Nat) => Lib.run_eql_slice_nil (P := Tryd.prog) w 44 3 a n c n' c' Tryd.underlying44
    have HX := Lib.hid hxn
    clear hxn hA
    go_enter Tryd.func29, Tryd.ntmps29
    go_wp2_with (first
      | (at_builtin; refine wpList_append_any _ rfl _ _ 44 rfl w.heap.size 3 i0 _ 1 8 Tryd.underlying44 hi0 hz0 hz1 hz2 rfl (by omega) _ 0 [] rfl (World.ownsRow_made w #[] 0 (Nat.le_refl _) (by unfold maxLen; omega) rfl) w.heap.size _ n c (inCells xs) rfl (hx.alloc (Nat.le_refl _) _) (inCells_one xs) (by unfold maxLen; omega) (by omega) (by simp) ?_; intro v1 w1 hown1 hg1 hat1))
    go_ret
    refine ⟨_, rfl, by simpa using hown1, ((Below.refl _ _).alloc (Nat.le_refl _) _).grown hg1 (by simp) (fun g hg => ((World.ownsRow_made (base := w.heap.size) (e := 3) (size := 1) w #[] 0 (Nat.le_refl _) (by unfold maxLen; omega) rfl).lt g hg).1)⟩
end Go.Proofs.YtldpcjkfkcbfmaaDoor
