/- laws.eqPair, eqPairS, markPairS, heldPairS, toPair, toPairS, szPairS. -/
import Derived.Test.YtfkojdakgnbffaaBase
import Derived.Deep.LoopGhost
import Derived.Deep.RegionHeld3
namespace Go.Proofs.Ytfkojdakgnbffaa
open Go Go.RowKit

theorem infoPair : (Try.prog.info? 62).map (fun i => (i.zero, i.size, i.bytes)) = some (some (.agg #[.int .i64 0, .int .i64 0]), 2, 16) := by kernel_rfl

def prCells (xs : List (Int × Int)) : List Value := xs.flatMap fun a => [.int .i64 a.1, .int .i64 a.2]
theorem prCells_at (xs : List (Int × Int)) (k : Nat) (a : Int × Int) (h : xs[k]? = some a) :
    (prCells xs)[k * 2]? = some (.int .i64 a.1) ∧ (prCells xs)[k * 2 + 1]? = some (.int .i64 a.2) := by
  induction xs generalizing k with
  | nil => simp at h
  | cons x xs ih =>
    cases k with
    | zero => simp at h; subst h; exact ⟨rfl, rfl⟩
    | succ k =>
      have := ih k (by simpa using h)
      have e : (k + 1) * 2 = k * 2 + 1 + 1 := by omega
      rw [e]
      exact this
theorem prCells_length (xs : List (Int × Int)) : (prCells xs).length = 2 * xs.length := by
  induction xs with
  | nil => rfl
  | cons x xs ih =>
    have h : prCells (x :: xs) = [.int .i64 x.1, .int .i64 x.2] ++ prCells xs := rfl
    rw [h, List.length_append, ih]; simp; omega
theorem prCells_append (xs ys : List (Int × Int)) : prCells (xs ++ ys) = prCells xs ++ prCells ys := by simp [prCells, List.flatMap_append]
/-- The k-th pair of what is read: its two numbers, in the walk's spelling. -/
theorem pr_at {w : World} {B n : Nat} {A : Option Addr} {xs : List (Int × Int)} {k : Nat} (h : Reads w B 2 A n (prCells xs)) (hxn : xs.length = n) (hk : k < n) :
    ∃ ad x1 x2, A = some ad ∧ ad.block < B ∧ xs[k]? = some (x1, x2) ∧ w.cell? (ad.add (k * 2)) = some (.int .i64 x1) ∧ w.cell? ⟨(ad.add (k * 2)).block, (ad.add (k * 2)).off + 1, none⟩ = some (.int .i64 x2) := by
  obtain ⟨⟨x1, x2⟩, hxk⟩ : ∃ x : Int × Int, xs[k]? = some x := ⟨_, List.getElem?_eq_getElem (by omega)⟩
  obtain ⟨ad, u0, u1, rfl, hadb, g0, g1, e1, e2⟩ := h.at2 hk
  have := prCells_at xs k _ hxk
  obtain rfl : u0 = .int .i64 x1 := Option.some.inj (g0.symm.trans this.1)
  obtain rfl : u1 = .int .i64 x2 := Option.some.inj (g1.symm.trans this.2)
  exact ⟨ad, x1, x2, rfl, hadb, hxk, e1, e2⟩

set_option maxHeartbeats 400000 in
theorem eqPair_any (b : Bool) (a1 a2 b1 b2 : Int) (w : World) (hb : (decide (a1 = b1) && decide (a2 = b2)) = b) :
    Calls Try.prog 54 #[.agg #[.int .i64 a1, .int .i64 a2], .agg #[.int .i64 b1, .int .i64 b2]] w fun e w' => e = .returned (.bool b) ∧ Below w.heap.size w w' := by
  by_cases h1 : a1 = b1
  · by_cases h2 : a2 = b2
    · subst h1 h2
      simp at hb
      subst hb
      go_enter Try.func54, Try.ntmps54
      go_wp2
      go_ret
      exact ⟨rfl, ((Below.refl _ _).alloc (Nat.le_refl _) _).alloc (by simp) _⟩
    · subst h1
      simp [h2] at hb
      subst hb
      go_enter Try.func54, Try.ntmps54
      go_wp2
      go_ret
      exact ⟨rfl, ((Below.refl _ _).alloc (Nat.le_refl _) _).alloc (by simp) _⟩
  · simp [h1] at hb
    subst hb
    go_enter Try.func54, Try.ntmps54
    go_wp2
    go_ret
    exact ⟨rfl, ((Below.refl _ _).alloc (Nat.le_refl _) _).alloc (by simp) _⟩

set_option maxHeartbeats 400000 in
theorem eqPairS_any (b : Bool) (A B : Option Addr) (n m c d : Nat) (xs ys : List (Int × Int)) (w : World) (hb : decide (xs = ys) = b) (hxn : xs.length = n) (hym : ys.length = m)
    (hx : Reads w w.heap.size 2 A n (prCells xs)) (hy : Reads w w.heap.size 2 B m (prCells ys)) (hn : n ≤ 1000000000) (hm : m ≤ 1000000000) :
    Calls Try.prog 27 #[.slice A n c, .slice B m d] w fun e w' => e = .returned (.bool b) ∧ Below w.heap.size w w' := by
  by_cases hnm : n = m
  · subst hnm
    have HB := Lib.hid hb
    have HX := Lib.hid hxn
    have HY := Lib.hid hym
    clear hxn hym hb
    go_enter Try.func27, Try.ntmps27
    go_wp2
    go_loopw [5] (fun i wr => ∃ k : Nat, k ≤ n ∧ i = .int .i64 k ∧ xs.take k = ys.take k ∧ Below w.heap.size w wr) (fun i _ => n - (intOf i).toNat)
    case atStart => exact ⟨0, Nat.zero_le _, rfl, rfl, Below.refl _ _⟩
    case round =>
      obtain ⟨k, hk, rfl, htk, hb⟩ := hrel
      have HT := Lib.hid htk
      clear htk
      by_cases hlt : k < n
      · obtain ⟨ad, x1, x2, rfl, _, hxk, e1, e2⟩ := pr_at (hx.below hb) HX.out hlt
        obtain ⟨bd, y1, y2, rfl, _, hyk, f1, f2⟩ := pr_at (hy.below hb) HY.out hlt
        have HXK := Lib.hid hxk
        have HYK := Lib.hid hyk
        clear hxk hyk hx hy
        have hk0 : (0 : Int) ≤ (k : Int) := Int.natCast_nonneg _
        have hk1 : (k : Int) < (n : Int) := by omega
        obtain ⟨q, hq⟩ : ∃ q : Bool, (decide (x1 = y1) && decide (x2 = y2)) = q := ⟨_, rfl⟩
        have HQ := Lib.hid hq
        clear hq
        cases q
        all_goals
          go_wp2_with fail
          go_region_held3 (fun w' => w'.cell? (ad.add (k * 2)) = some (.int .i64 x1) ∧ w'.cell? ⟨(ad.add (k * 2)).block, (ad.add (k * 2)).off + 1, none⟩ = some (.int .i64 x2) ∧ w'.cell? (bd.add (k * 2)) = some (.int .i64 y1) ∧ w'.cell? ⟨(bd.add (k * 2)).block, (bd.add (k * 2)).off + 1, none⟩ = some (.int .i64 y2)) (first | go_keep | (go_split_ands; refine ⟨?_, ?_, ?_, ?_⟩ <;> (refine below_keep hb' ?_; assumption)))
            (first | (go_at_call 54; refine (eqPair_any _ _ _ _ _ _ HQ.out).mono ?_; rintro e w' ⟨rfl, hb'⟩))
          have hbb := hb.drew.trans (hb'.mono hb.size)
          clear hb'
          go_wp2
        · go_ret
          refine ⟨ret_bool ?_, hbb⟩
          rw [← HB.out]
          symm
          rw [decide_eq_false_iff_not]
          intro he
          subst he
          have h1 := Option.some.inj (HXK.out.symm.trans HYK.out)
          have h2 := HQ.out
          simp only [Prod.mk.injEq] at h1
          simp [h1] at h2
        · go_roundw
          case rel =>
            have h2 := HQ.out
            simp at h2
            obtain ⟨rfl, rfl⟩ := h2
            exact ⟨k + 1, by omega, by go_num, take_ext _ _ _ _ HT.out HXK.out HYK.out, hbb⟩
          case measure => simp [intOf]; omega
      · obtain rfl : k = n := by omega
        go_wp2
        go_ret
        refine ⟨ret_bool ?_, hb⟩
        rw [← HB.out]
        symm
        rw [decide_eq_true_iff]
        have h1 := HT.out
        rwa [List.take_of_length_le (by have := HX.out; omega), List.take_of_length_le (by have := HY.out; omega)] at h1
  · have hb' : b = false := by
      rw [← hb, decide_eq_false_iff_not]
      intro he
      subst he
      omega
    subst hb'
    have hd : (n : Int) ≠ (m : Int) := by omega
    clear hb
    go_enter Try.func27, Try.ntmps27
    go_wp2
    go_ret
    exact ⟨rfl, Below.refl _ _⟩

theorem set2 {α : Type} (ys xs : List α) (j : Nat) (a b : α) (hy : ys.length = j * 2) (hx : j * 2 + 1 < xs.length) :
    ((ys ++ xs.drop (2 * j)).set (j * 2) a).set (j * 2 + 1) b = (ys ++ [a, b]) ++ xs.drop (2 * (j + 1)) := by
  obtain ⟨x0, x1, r, hr⟩ : ∃ x0 x1 r, xs.drop (2 * j) = x0 :: x1 :: r := by
    have hl : 2 ≤ (xs.drop (2 * j)).length := by rw [List.length_drop]; omega
    match h : xs.drop (2 * j), hl with
    | x0 :: x1 :: r, _ => exact ⟨x0, x1, r, rfl⟩
  have hr' : xs.drop (2 * (j + 1)) = r := by
    have : xs.drop (2 * (j + 1)) = (xs.drop (2 * j)).drop 2 := by rw [List.drop_drop]; congr 1
    rw [this, hr]; rfl
  rw [hr, hr']
  rw [List.set_append_right _ _ (by omega), List.set_append_right _ _ (by omega)]
  rw [hy, show j * 2 - j * 2 = 0 by omega, show j * 2 + 1 - j * 2 = 1 by omega]
  simp
theorem own_store2 {w : World} {base g n cap j : Nat} {e : TypeId} {xs ys : List Value} (h : w.ownsRow base e 2 (.slice (some ⟨g, 0, none⟩) n cap) n (ys ++ xs.drop (2 * j))) (hx : xs.length = n * 2) (hy : ys.length = j * 2) (hj : j < n) (a b : Value) :
    ((w.setCell ⟨g, j * 2, none⟩ a).setCell ⟨g, j * 2 + 1, none⟩ b).ownsRow base e 2 (.slice (some ⟨g, 0, none⟩) n cap) n ((ys ++ [a, b]) ++ xs.drop (2 * (j + 1))) ∧
      w.grownBy ((w.setCell ⟨g, j * 2, none⟩ a).setCell ⟨g, j * 2 + 1, none⟩ b) (some g) := by
  have s1 := h.stored (j * 2) a
  have s2 := s1.1.stored (j * 2 + 1) b
  rw [set2 ys xs j a b hy (by omega)] at s2
  exact ⟨s2.1, s1.2.trans s2.2⟩

def prMarks (k : Int) (m : Nat) : List (Int × Int) := (List.range m).map fun (i : Nat) => (k + 2 * i, k + 2 * i + 1)
theorem prMarks_succ (k : Int) (m : Nat) : prMarks k (m + 1) = prMarks k m ++ [(k + 2 * m, k + 2 * m + 1)] := by
  simp [prMarks, List.range_succ]
theorem prMarks_length (k : Int) (m : Nat) : (prMarks k m).length = m := by simp [prMarks]
theorem prMarks_at (k : Int) (m j : Nat) (h : j < m) : (prMarks k m)[j]? = some (k + 2 * j, k + 2 * j + 1) := by
  simp [prMarks, h]

set_option maxHeartbeats 400000 in
theorem markPairS_own (g cap : Nat) (base : Nat) (n : Nat) (k : Int) (xs : List Value) (w : World) (hown : w.ownsRow base 62 2 (.slice (some ⟨g, 0, none⟩) n cap) n xs)
    (hk0 : 0 ≤ k) (hk1 : k ≤ 1000000000) (hn : n ≤ 1000000000) :
    Calls Try.prog 30 #[.slice (some ⟨g, 0, none⟩) n cap, .int .i64 k] w fun e w' => e = .returned (.int .i64 (k + 2 * n)) ∧ w'.ownsRow base 62 2 (.slice (some ⟨g, 0, none⟩) n cap) n (prCells (prMarks k n)) ∧ w.grownBy w' (some g) := by
  have HXN := Lib.hid hown.1
  go_enter Try.func30, Try.ntmps30
  go_wp2
  go_loopw [1, 5] (fun q i wr => ∃ j : Nat, j ≤ n ∧ i = .int .i64 j ∧ q = .int .i64 (k + 2 * j) ∧ wr.ownsRow base 62 2 (.slice (some ⟨g, 0, none⟩) n cap) n (prCells (prMarks k j) ++ xs.drop (2 * j)) ∧ w.grownBy wr (some g)) (fun _ i _ => n - (intOf i).toNat)
  case atStart => exact ⟨0, Nat.zero_le _, rfl, by simp, by simpa [prMarks, prCells] using hown, World.grownBy.refl _ _⟩
  case round =>
    obtain ⟨j, hj, rfl, rfl, ho, hg⟩ := hrel
    by_cases hlt : j < n
    · have hl := ho.1
      obtain ⟨u0, h0⟩ : ∃ u, wr.cell? ⟨g, j * 2, none⟩ = some u := ⟨_, (ho.cellAt (j * 2) (by omega)).trans (List.getElem?_eq_getElem (by omega))⟩
      obtain ⟨u1, h1⟩ : ∃ u, wr.cell? ⟨g, j * 2 + 1, none⟩ = some u := ⟨_, (ho.cellAt (j * 2 + 1) (by omega)).trans (List.getElem?_eq_getElem (by omega))⟩
      have f0 := ho.frozenAt (j * 2)
      have f1 := ho.frozenAt (j * 2 + 1)
      have HO := Lib.hid ho
      have HL := Lib.hid hl
      clear ho hl hown
      go_wp2
      go_roundw
      case rel =>
        refine ⟨j + 1, by omega, by go_num, by go_num, ?_⟩
        have R := own_store2 (j := j) (ys := prCells (prMarks k j)) (xs := xs) HO.out HXN.out (by rw [prCells_length, prMarks_length]; omega) hlt (.int .i64 (k + 2 * j)) (.int .i64 (k + 2 * j + 1))
        rw [prMarks_succ, prCells_append]
        exact ⟨R.1, hg.trans R.2⟩
      case measure => simp [intOf]; omega
    · obtain rfl : j = n := by omega
      go_wp2
      go_ret
      refine ⟨rfl, ?_, hg⟩
      rw [List.drop_of_length_le (by have := HXN.out; omega), List.append_nil] at ho
      exact ho

theorem markPairS_any (base : Nat) (n : Nat) (k : Int) (v : Value) (xs : List Value) (w : World) (hown : w.ownsRow base 62 2 v n xs)
    (hk0 : 0 ≤ k) (hk1 : k ≤ 1000000000) (hn : n ≤ 1000000000) :
    Calls Try.prog 30 #[v, .int .i64 k] w fun e w' => e = .returned (.int .i64 (k + 2 * n)) ∧ w'.ownsRow base 62 2 v n (prCells (prMarks k n)) ∧ w.grownBy w' v.ownBlock := by
  rcases own_cases hown with ⟨rfl, rfl, rfl⟩ | ⟨g, cap, rfl⟩
  · go_enter Try.func30, Try.ntmps30
    go_wp2
    refine wp_loop_rounds 1 ?_
    rw [rounds_succ]
    go_wp2
    go_ret
    exact ⟨ret_int (by simp), hown, World.grownBy.refl _ _⟩
  · refine (markPairS_own g cap base n k xs w hown hk0 hk1 hn).mono ?_
    rintro e w' ⟨rfl, h1, h2⟩
    exact ⟨rfl, h1, h2⟩
set_option maxHeartbeats 400000 in
theorem heldPairS_any (A : Option Addr) (n c : Nat) (k : Int) (w : World) (hx : Reads w w.heap.size 2 A n (prCells (prMarks k n)))
    (hk0 : 0 ≤ k) (hk1 : k ≤ 1000000000) (hn : n ≤ 1000000000) :
    Calls Try.prog 31 #[.slice A n c, .int .i64 k] w fun e w' => e = .returned (.int .i64 (k + 2 * n)) ∧ w = w' := by
  go_enter Try.func31, Try.ntmps31
  go_wp2
  go_loop [1, 5] (fun q i => ∃ j : Nat, j ≤ n ∧ i = .int .i64 j ∧ q = .int .i64 (k + 2 * j)) (fun _ i => n - (intOf i).toNat)
  case atStart => exact ⟨0, Nat.zero_le _, rfl, by simp⟩
  case round =>
    obtain ⟨j, hj, rfl, rfl⟩ := hrel
    by_cases hlt : j < n
    · obtain ⟨ad, x1, x2, rfl, _, hxk, e1, e2⟩ := pr_at hx (prMarks_length k n) hlt
      have h := Option.some.inj (hxk.symm.trans (prMarks_at k n j hlt))
      simp only [Prod.mk.injEq] at h
      obtain ⟨rfl, rfl⟩ := h
      clear hxk hx
      go_wp2
      go_round
      case rel => exact ⟨j + 1, by omega, by go_num, by go_num⟩
      case measure => simp [intOf]; omega
    · obtain rfl : j = n := by omega
      go_wp2
      go_ret
      exact ⟨rfl, rfl⟩
set_option maxHeartbeats 400000 in
theorem toPair_any (a1 a2 : Int) (w : World) :
    Calls Try.prog 52 #[.agg #[.int .i64 a1, .int .i64 a2]] w fun e w' => e = .returned (.agg #[.int .i64 a1, .int .i64 a2]) ∧ Below w.heap.size w w' := by
  go_enter Try.func52, Try.ntmps52
  go_wp2
  refine bodyPost_ret (v := .agg #[.int .i64 a1, .int .i64 a2]) (by simp [results, Try.results52, go_sem]) rfl ⟨rfl, ?_⟩
  exact (((Below.refl _ _).alloc (Nat.le_refl _) _).alloc (by simp) _).alloc (by simp; omega) _

set_option maxHeartbeats 400000 in
theorem toPairS_any (A : Option Addr) (n c : Nat) (xs : List (Int × Int)) (w : World) (hx : Reads w w.heap.size 2 A n (prCells xs)) (hn : n ≤ 1048576) (hxn : xs.length = n) :
    Calls Try.prog 25 #[.slice A n c] w fun e w' => ∃ v, e = .returned v ∧ w'.ownsRow w.heap.size 62 2 v n (prCells xs) ∧ Below w.heap.size w w' := by
  obtain ⟨i0, hi0, hz0, hz1, hz2⟩ := info_parts infoPair
  have HX := Lib.hid hxn
  clear hxn
  go_enter Try.func25, Try.ntmps25
  go_wp2_with (at_make; refine wpList_make_full _ rfl _ _ 35 rfl w.heap.size 62 i0 _ 2 Try.underlying35 hi0 hz0 hz1 .i64 .i64 _ _ n rfl rfl rfl rfl (by rw [hz2]; omega) (by unfold maxLen; omega) (Nat.le_refl _) ?_; intro w1 hown1 hgrow1)
  have hb1 : Below w.heap.size w w1 := (Below.refl _ _).grown hgrow1 (Nat.le_refl _) (by simp)
  generalize hD : (madeCells (Value.agg #[Value.int IntKind.i64 0, Value.int IntKind.i64 0]).cells (n * 2)).toList = D at hown1
  have HDL := Lib.hid hown1.1
  clear hD hgrow1
  go_loopw [4] (fun i wr => ∃ j : Nat, j ≤ n ∧ i = .int .i64 j ∧ wr.ownsRow w.heap.size 62 2 (.slice (some ⟨w.heap.size, 0, none⟩) n n) n (prCells (xs.take j) ++ D.drop (2 * j)) ∧ Below w.heap.size w wr) (fun i _ => n - (intOf i).toNat)
  case atStart => exact ⟨0, Nat.zero_le _, rfl, by simpa [prCells] using hown1, hb1⟩
  case round =>
    clear hown1 hb1
    obtain ⟨j, hj, rfl, hown, hb⟩ := hrel
    by_cases hlt : j < n
    · obtain ⟨ad, x1, x2, rfl, _, hxk, e1, e2⟩ := pr_at (hx.below hb) HX.out hlt
      have HXK := Lib.hid hxk
      clear hxk hx
      go_wp2_with fail
      refine (toPair_any _ _ _).mono ?_
      rintro e w2 ⟨rfl, hb2⟩
      have ho2 := own_below hown hb2
      have hbb := hb.trans (hb2.mono hb.size)
      have hl := ho2.1
      obtain ⟨y0, h0⟩ : ∃ u, w2.cell? ⟨w.heap.size, j * 2, none⟩ = some u := ⟨_, (ho2.cellAt (j * 2) (by omega)).trans (List.getElem?_eq_getElem (by omega))⟩
      obtain ⟨y1, h1⟩ : ∃ u, w2.cell? ⟨w.heap.size, j * 2 + 1, none⟩ = some u := ⟨_, (ho2.cellAt (j * 2 + 1) (by omega)).trans (List.getElem?_eq_getElem (by omega))⟩
      have f0 := ho2.frozenAt (j * 2)
      have f1 := ho2.frozenAt (j * 2 + 1)
      have HO := Lib.hid ho2
      clear ho2 hl hown hb hb2
      go_wp2
      go_roundw
      case rel =>
        have e : prCells (xs.take (j + 1)) = prCells (xs.take j) ++ [.int .i64 x1, .int .i64 x2] := by
          rw [List.take_add_one, HXK.out, prCells_append]; rfl
        have R := own_store2 (j := j) (ys := prCells (xs.take j)) (xs := D) HO.out HDL.out (by rw [prCells_length, List.length_take]; have := HX.out; omega) hlt (.int .i64 x1) (.int .i64 x2)
        refine ⟨j + 1, by omega, by go_num, by rw [e]; exact R.1, ?_⟩
        exact hbb.grown R.2 hbb.size (by simp)
      case measure => simp [intOf]; omega
    · obtain rfl : j = n := by omega
      go_wp2
      go_ret
      refine ⟨_, rfl, ?_, hb⟩
      rw [List.take_of_length_le (by have := HX.out; omega), List.drop_of_length_le (by have := HDL.out; omega), List.append_nil] at hown
      exact hown

set_option maxHeartbeats 400000 in
theorem szPairS_any (A : Option Addr) (n c : Nat) (l : Int) (w : World) (h0 : 0 ≤ l) (h1 : l ≤ 1048576) (hn : n ≤ 9223372036854775807) :
    Calls Try.prog 23 #[.slice A n c, .int .i64 l] w fun e w' => e = .returned (.int .i64 (if l < n then -1 else l - n)) ∧ w = w' := by
  by_cases h : l < n
  · rw [if_pos h]
    go_enter Try.func23, Try.ntmps23
    go_wp2
    go_ret
    exact ⟨rfl, rfl⟩
  · rw [if_neg h]
    go_enter Try.func23, Try.ntmps23
    go_wp2
    go_ret
    exact ⟨rfl, rfl⟩
end Go.Proofs.Ytfkojdakgnbffaa
