/- slices of strings: eqStringS, markStringS, heldStringS. -/
import Derived.Test.YtfkojdakgnbffaaMarkText
import Derived.Test.YtfkojdakgnbffaaInts
import Derived.Deep.LoopGhost
import Derived.Deep.RegionHeld3
import Derived.StillTailTactics
namespace Go.Proofs.Ytfkojdakgnbffaa
open Go Go.RowKit

theorem infoStr : (Try.prog.info? 9).map (fun i => (i.zero, i.size, i.bytes)) = some (some (.string ⟨#[]⟩), 1, 16) := by kernel_rfl
def stCells (xs : List ByteArray) : List Value := xs.map Value.string
theorem stCells_length (xs : List ByteArray) : (stCells xs).length = xs.length := by simp [stCells]
theorem stCells_append (xs ys : List ByteArray) : stCells (xs ++ ys) = stCells xs ++ stCells ys := by simp [stCells]
theorem str_ne {a b : ByteArray} (h : ¬ a = b) : (a.toList == b.toList) = false := by
  rw [ByteArray.toList_eq, ByteArray.toList_eq]
  cases hc : (a.data.toList == b.data.toList)
  · rfl
  · exact absurd (ByteArray.ext (Array.toList_inj.1 (by simpa using hc))) h
theorem st_at {w : World} {B n : Nat} {A : Option Addr} {xs : List ByteArray} {k : Nat} (h : Reads w B 1 A n (stCells xs)) (hxn : xs.length = n) (hk : k < n) :
    ∃ ad x, A = some ad ∧ ad.block < B ∧ xs[k]? = some x ∧ w.cell? (ad.add k) = some (.string x) := by
  obtain ⟨ad, u, rfl, hb, hu, hc⟩ := h.at_ hk
  obtain ⟨x, hx⟩ : ∃ x, xs[k]? = some x := ⟨_, List.getElem?_eq_getElem (by omega)⟩
  have : u = .string x := by simpa [stCells, hx] using hu.symm
  subst this
  exact ⟨ad, x, rfl, hb, hx, hc⟩

set_option maxHeartbeats 400000 in
theorem eqStringS_any (b : Bool) (A B : Option Addr) (n m c d : Nat) (xs ys : List ByteArray) (w : World) (hb : decide (xs = ys) = b) (hxn : xs.length = n) (hym : ys.length = m)
    (hx : Reads w w.heap.size 1 A n (stCells xs)) (hy : Reads w w.heap.size 1 B m (stCells ys)) (hn : n ≤ 1000000000) (hm : m ≤ 1000000000) :
    Calls Try.prog 36 #[.slice A n c, .slice B m d] w fun e w' => e = .returned (.bool b) ∧ Below w.heap.size w w' := by
  by_cases hnm : n = m
  · subst hnm
    have HB := Lib.hid hb
    have HX := Lib.hid hxn
    have HY := Lib.hid hym
    clear hxn hym hb
    go_enter Try.func36, Try.ntmps36
    go_wp2
    go_loopw [5] (fun i wr => ∃ k : Nat, k ≤ n ∧ i = .int .i64 k ∧ xs.take k = ys.take k ∧ Below w.heap.size w wr) (fun i _ => n - (intOf i).toNat)
    case atStart => exact ⟨0, Nat.zero_le _, rfl, rfl, Below.refl _ _⟩
    case round =>
      obtain ⟨k, hk, rfl, htk, hb⟩ := hrel
      have HT := Lib.hid htk
      clear htk
      by_cases hlt : k < n
      · obtain ⟨ad, x, rfl, _, hxk, e1⟩ := st_at (hx.below hb) HX.out hlt
        obtain ⟨bd, y, rfl, _, hyk, f1⟩ := st_at (hy.below hb) HY.out hlt
        have HXK := Lib.hid hxk
        have HYK := Lib.hid hyk
        clear hxk hyk hx hy
        have hk0 : (0 : Int) ≤ (k : Int) := Int.natCast_nonneg _
        have hk1 : (k : Int) < (n : Int) := by omega
        by_cases hq : x = y
        · subst hq
          go_wp2_with fail
          go_quiet (fail)
          go_wp2
          go_roundw
          case rel => exact ⟨k + 1, by omega, by go_num, take_ext _ _ _ _ HT.out HXK.out HYK.out, below_drewN hb _⟩
          case measure => simp [intOf]; omega
        · have hqs := str_ne hq
          go_wp2_with fail
          go_quiet (fail)
          go_wp2
          go_ret
          refine ⟨ret_bool ?_, below_drewN hb _⟩
          rw [← HB.out]
          symm
          rw [decide_eq_false_iff_not]
          intro he
          subst he
          exact hq (Option.some.inj (HXK.out.symm.trans HYK.out))
      · obtain rfl : k = n := by omega
        go_wp2
        go_ret
        refine ⟨ret_bool ?_, hb⟩
        rw [← HB.out]
        symm
        rw [decide_eq_true_iff]
        have h1 := HT.out
        rwa [List.take_of_length_le (by have := HX.out; omega), List.take_of_length_le (by have := HY.out; omega)] at h1
  · have hb' : b = false := by
      rw [← hb, decide_eq_false_iff_not]
      intro he
      subst he
      omega
    subst hb'
    have hd : (n : Int) ≠ (m : Int) := by omega
    clear hb
    go_enter Try.func36, Try.ntmps36
    go_wp2
    go_ret
    exact ⟨rfl, Below.refl _ _⟩

def stMarks (k m : Nat) : List ByteArray := (List.range m).map fun (i : Nat) => markT (k + i)
theorem stMarks_succ (k m : Nat) : stMarks k (m + 1) = stMarks k m ++ [markT (k + m)] := by simp [stMarks, List.range_succ]
theorem stMarks_length (k m : Nat) : (stMarks k m).length = m := by simp [stMarks]
theorem stMarks_at (k m j : Nat) (h : j < m) : (stMarks k m)[j]? = some (markT (k + j)) := by simp [stMarks, h]

set_option maxHeartbeats 400000 in
theorem markStringS_own (g cap : Nat) (base : Nat) (n k : Nat) (xs : List Value) (w : World) (hown : w.ownsRow base 9 1 (.slice (some ⟨g, 0, none⟩) n cap) n xs)
    (hk1 : k ≤ 1000000000) (hn : n ≤ 1000000000) :
    Calls Try.prog 37 #[.slice (some ⟨g, 0, none⟩) n cap, .int .i64 k] w fun e w' => e = .returned (.int .i64 (k + n : Nat)) ∧ w'.ownsRow base 9 1 (.slice (some ⟨g, 0, none⟩) n cap) n (stCells (stMarks k n)) ∧ w.grownBy w' (some g) := by
  have HXN := Lib.hid (show xs.length = n by have := hown.1; omega)
  go_enter Try.func37, Try.ntmps37
  go_wp2
  go_loopw [1, 5] (fun q i wr => ∃ j : Nat, j ≤ n ∧ i = .int .i64 j ∧ q = .int .i64 (k + j : Nat) ∧ wr.ownsRow base 9 1 (.slice (some ⟨g, 0, none⟩) n cap) n (stCells (stMarks k j) ++ xs.drop j) ∧ w.grownBy wr (some g)) (fun _ i _ => n - (intOf i).toNat)
  case atStart => exact ⟨0, Nat.zero_le _, rfl, by simp, by simpa [stMarks, stCells] using hown, World.grownBy.refl _ _⟩
  case round =>
    obtain ⟨j, hj, rfl, rfl, ho, hg⟩ := hrel
    by_cases hlt : j < n
    · go_wp2_with fail
      refine (markText_any (k + j) _ (by omega)).mono ?_
      rintro e w2 ⟨rfl, b2⟩
      obtain ⟨T, hT⟩ : ∃ T, markT (k + j) = T := ⟨_, rfl⟩
      have ho2 := own_below ho b2
      have hg2 := hg.trans (only_of_below b2 (some g))
      rw [hT]
      have HT := Lib.hid hT
      have hl := ho2.1
      obtain ⟨u0, h0⟩ : ∃ u, w2.cell? ⟨g, j, none⟩ = some u := ⟨_, (ho2.cellAt j (by omega)).trans (List.getElem?_eq_getElem (by omega))⟩
      have f0 := ho2.frozenAt j
      have HO := Lib.hid ho2
      have HG := Lib.hid hg2
      clear ho hl hown ho2 hg hg2 b2 hT
      go_wp2
      go_roundw
      case rel =>
        refine ⟨j + 1, by omega, by go_num, by go_num, ?_⟩
        have R := own_store1 (j := j) (ys := stCells (stMarks k j)) (xs := xs) HO.out HXN.out (by rw [stCells_length, stMarks_length]) hlt (.string T)
        rw [stMarks_succ, stCells_append, HT.out]
        exact ⟨R.1, HG.out.trans R.2⟩
      case measure => simp [intOf]; omega
    · obtain rfl : j = n := by omega
      go_wp2
      go_ret
      refine ⟨rfl, ?_, hg⟩
      rw [List.drop_of_length_le (by have := HXN.out; omega), List.append_nil] at ho
      exact ho

theorem markStringS_any (base : Nat) (n k : Nat) (v : Value) (xs : List Value) (w : World) (hown : w.ownsRow base 9 1 v n xs)
    (hk1 : k ≤ 1000000000) (hn : n ≤ 1000000000) :
    Calls Try.prog 37 #[v, .int .i64 k] w fun e w' => e = .returned (.int .i64 (k + n : Nat)) ∧ w'.ownsRow base 9 1 v n (stCells (stMarks k n)) ∧ w.grownBy w' v.ownBlock := by
  rcases own_cases hown with ⟨rfl, rfl, rfl⟩ | ⟨g, cap, rfl⟩
  · go_enter Try.func37, Try.ntmps37
    go_wp2
    refine wp_loop_rounds 1 ?_
    rw [rounds_succ]
    go_wp2
    go_ret
    exact ⟨ret_int (by simp), hown, World.grownBy.refl _ _⟩
  · refine (markStringS_own g cap base n k xs w hown hk1 hn).mono ?_
    rintro e w' ⟨rfl, h1, h2⟩
    exact ⟨rfl, h1, h2⟩
set_option maxHeartbeats 400000 in
theorem heldStringS_any (A : Option Addr) (n c k : Nat) (w : World) (hx : Reads w w.heap.size 1 A n (stCells (stMarks k n)))
    (hk1 : k ≤ 1000000000) (hn : n ≤ 1000000000) :
    Calls Try.prog 38 #[.slice A n c, .int .i64 k] w fun e w' => e = .returned (.int .i64 (k + n : Nat)) ∧ Below w.heap.size w w' := by
  go_enter Try.func38, Try.ntmps38
  go_wp2
  go_loopw [1, 5] (fun q i wr => ∃ j : Nat, j ≤ n ∧ i = .int .i64 j ∧ q = .int .i64 (k + j : Nat) ∧ Below w.heap.size w wr) (fun _ i _ => n - (intOf i).toNat)
  case atStart => exact ⟨0, Nat.zero_le _, rfl, by simp, Below.refl _ _⟩
  case round =>
    obtain ⟨j, hj, rfl, rfl, hb⟩ := hrel
    by_cases hlt : j < n
    · obtain ⟨ad, x, rfl, _, hxk, e1⟩ := st_at (hx.below hb) (stMarks_length k n) hlt
      obtain rfl : x = markT (k + j) := Option.some.inj (hxk.symm.trans (stMarks_at k n j hlt))
      have MT := Lib.hid (fun w => markText_any (k + j) w (by omega))
      obtain ⟨T, hT⟩ : ∃ T, markT (k + j) = T := ⟨_, rfl⟩
      rw [hT] at e1 MT
      have hk0 : (0 : Int) ≤ (j : Int) := Int.natCast_nonneg _
      have hk1 : (j : Int) < (n : Int) := by omega
      clear hxk hx hT
      go_wp2_with fail
      go_region_held3 (fun w' => w'.cell? (ad.add j) = some (.string T)) (first | go_keep | (refine below_keep hb' ?_; assumption))
        (first | (go_at_call 60; refine (MT.out _).mono ?_; rintro e w' ⟨rfl, hb'⟩))
      have hbb := hb.drew.trans (hb'.mono hb.size)
      clear hb'
      go_wp2
      go_roundw
      case rel => exact ⟨j + 1, by omega, by go_num, by go_num, hbb⟩
      case measure => simp [intOf]; omega
    · obtain rfl : j = n := by omega
      go_wp2
      go_ret
      exact ⟨rfl, hb⟩
end Go.Proofs.Ytfkojdakgnbffaa
