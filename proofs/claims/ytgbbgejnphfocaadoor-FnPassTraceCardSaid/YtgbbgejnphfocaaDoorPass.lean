/- impl.PassTrace and spec.PassTrace: what they return, as cells. -/
import Derived.Test.YtgbbgejnphfocaaDoorMarkAccess
import Derived.Deep.LoopGhost
import Derived.Deep.Light
namespace Go.Proofs.YtgbbgejnphfocaaDoor
open Go Go.RowKit
set_option maxRecDepth 100000

theorem infoAccess : (Tryd.prog.info? 29).map (fun i => (i.zero, i.size, i.bytes)) = some (some (.agg #[.int .i64 0, .int .i64 0, .bool false]), 3, 24) := by kernel_rfl

def passCells (r : Int) (m : Nat) : List Value := (List.range m).flatMap fun (i : Nat) => [.int .i64 r, .int .i64 i, .bool false, .int .i64 r, .int .i64 i, .bool true]
theorem passCells_succ (r : Int) (m : Nat) : passCells r (m + 1) = passCells r m ++ [.int .i64 r, .int .i64 m, .bool false, .int .i64 r, .int .i64 m, .bool true] := by
  simp [passCells, List.range_succ, List.flatMap_append]
theorem passCells_length (r : Int) (m : Nat) : (passCells r m).length = 6 * m := by
  induction m with
  | zero => rfl
  | succ m ih => rw [passCells_succ, List.length_append, ih]; simp; omega

def passOk (r m : Int) : Bool := inB r 0 2 && inB m 0 256
def passL (r m : Int) : List (Int × Int × Bool) := if passOk r m then (List.range m.toNat).flatMap fun (i : Nat) => [(r, (i : Int), false), (r, (i : Int), true)] else []
theorem passL_cells (r : Int) (m : Nat) (h : passOk r m = true) : accCells (passL r m) = passCells r m := by
  simp only [passL, h, if_true, Int.toNat_natCast]
  simp [accCells, passCells, List.flatMap_assoc]
theorem passL_length (r : Int) (m : Nat) (h : passOk r m = true) : (passL r m).length = 2 * m := by
  have h1 := passCells_length r m
  rw [← passL_cells r m h, accCells_length] at h1
  omega

set_option maxHeartbeats 400000 in
theorem passTrace_yes (r : Int) (m : Nat) (w : World) (h1 : inB r 0 2 = true) (h2 : inB m 0 256 = true) :
    Calls Tryd.prog 5 #[.int .i64 r, .int .i64 m] w fun e w' => ∃ v, e = .returned v ∧ w'.ownsRow w.heap.size 29 3 v (2 * m) (passCells r m) ∧ Below w.heap.size w w' := by
  have hm := inB_true h2
  have H1 := Lib.hid h1
  have H2 := Lib.hid h2
  clear h1 h2
  obtain ⟨i0, hi0, hz0, hz1, hz2⟩ := info_parts infoAccess
  go_enter Tryd.func5, Tryd.ntmps5
  go_wp2_with (first
    | (go_at_call 11; refine (isRegion_is true _ _ H1.out).mono ?_; rintro e w' ⟨rfl, rfl⟩)
    | (go_at_call 12; refine (in_is true _ _ _ _ H2.out).mono ?_; rintro e w' ⟨rfl, rfl⟩))
  go_loopw [5, 16] (fun v i wr => ∃ k : Nat, k ≤ m ∧ i = .int .i64 k ∧ wr.ownsRow w.heap.size 29 3 v (2 * k) (passCells r k) ∧ Below w.heap.size w wr) (fun _ i _ => m - (intOf i).toNat)
  case atStart => exact ⟨0, Nat.zero_le _, rfl, World.ownsRow_nil _ _ _ _, Below.refl _ _⟩
  case round =>
    obtain ⟨k, hk, rfl, hown, hb⟩ := hrel
    by_cases hlt : k < m
    · go_wp2_with (first
        | (at_builtin; refine wpList_append_own _ rfl _ _ 25 rfl w.heap.size 29 i0 _ 3 24 Tryd.underlying25 hi0 hz0 hz1 hz2 rfl (by decide) _ _ _ rfl (hown.alloc _) ⟨wr.heap.size, 0, none⟩ 2 2 [.int .i64 r, .int .i64 k, .bool false, .int .i64 r, .int .i64 k, .bool true] rfl rfl (cells_new _ _ _) (oneCells rfl) (by unfold maxLen; omega) (by omega) (by have := hb.size; simp; omega) ?_))
      intro v' w1 hown' hgrow _
      have R : w1.ownsRow w.heap.size 29 3 v' (2 * (k + 1)) (passCells r (k + 1)) ∧ Below w.heap.size w w1 := ⟨by rw [passCells_succ]; exact hown', below_append hb hown hgrow (Nat.le_refl _)⟩
      clear hown' hgrow hown hb
      go_wp2
      go_roundw
      case rel => exact ⟨k + 1, by omega, by go_num, R.1, R.2⟩
      case measure => simp [intOf]; omega
    · obtain rfl : k = m := by omega
      go_wp2
      go_ret
      exact ⟨_, rfl, hown, hb⟩

set_option maxHeartbeats 400000 in
theorem passTrace_no (r m : Int) (w : World) (h : (inB r 0 2 && inB m 0 256) = false) :
    Calls Tryd.prog 5 #[.int .i64 r, .int .i64 m] w fun e w' => e = .returned (.slice none 0 0) ∧ w = w' := by
  cases h1 : inB r 0 2
  · have H1 := Lib.hid h1
    clear h1 h
    go_enter Tryd.func5, Tryd.ntmps5
    go_wp2_with (first
      | (go_at_call 11; refine (isRegion_is false _ _ H1.out).mono ?_; rintro e w' ⟨rfl, rfl⟩))
    go_ret
    exact ⟨rfl, rfl⟩
  · have h2 : inB m 0 256 = false := by simpa [h1] using h
    have H1 := Lib.hid h1
    have H2 := Lib.hid h2
    clear h1 h h2
    go_enter Tryd.func5, Tryd.ntmps5
    go_wp2_with (first
      | (go_at_call 11; refine (isRegion_is true _ _ H1.out).mono ?_; rintro e w' ⟨rfl, rfl⟩)
      | (go_at_call 12; refine (in_is false _ _ _ _ H2.out).mono ?_; rintro e w' ⟨rfl, rfl⟩))
    go_ret
    exact ⟨rfl, rfl⟩

theorem passTrace_any (r m : Int) (w : World) :
    Calls Tryd.prog 5 #[.int .i64 r, .int .i64 m] w fun e w' => ∃ v, e = .returned v ∧ w'.ownsRow w.heap.size 29 3 v (passL r m).length (accCells (passL r m)) ∧ Below w.heap.size w w' := by
  cases h : passOk r m
  · refine (passTrace_no r m w h).mono ?_
    rintro e w' ⟨rfl, rfl⟩
    refine ⟨_, rfl, ?_, Below.refl _ _⟩
    have e : passL r m = [] := by simp [passL, h]
    rw [e]
    exact World.ownsRow_nil _ _ _ _
  · have h' : inB r 0 2 = true ∧ inB m 0 256 = true := by simpa [passOk] using h
    have hm := inB_true h'.2
    obtain ⟨k, rfl⟩ := Int.eq_ofNat_of_zero_le hm.1
    refine (passTrace_yes r k w h'.1 h'.2).mono ?_
    rintro e w' ⟨v, rfl, ho, hb⟩
    refine ⟨_, rfl, ?_, hb⟩
    rw [passL_length r k h, passL_cells r k h]
    exact ho

set_option maxHeartbeats 400000 in
theorem specPass_yes (r : Int) (m : Nat) (w : World) (h1 : inB r 0 2 = true) (h2 : inB m 0 256 = true) :
    Calls Tryd.prog 7 #[.int .i64 r, .int .i64 m] w fun e w' => ∃ v, e = .returned v ∧ w'.ownsRow w.heap.size 29 3 v (2 * m) (passCells r m) ∧ Below w.heap.size w w' := by
  have hm := inB_true h2
  have H1 := Lib.hid h1
  have H2 := Lib.hid h2
  clear h1 h2
  obtain ⟨i0, hi0, hz0, hz1, hz2⟩ := info_parts infoAccess
  go_enter Tryd.func7, Tryd.ntmps7
  go_wp2
  go_loopw [5, 6] (fun v i wr => ∃ k : Nat, k ≤ m ∧ i = .int .i64 k ∧ wr.ownsRow w.heap.size 29 3 v (2 * k) (passCells r k) ∧ Below w.heap.size w wr) (fun _ i _ => m - (intOf i).toNat)
  case atStart => exact ⟨0, Nat.zero_le _, rfl, World.ownsRow_made w #[] 0 (Nat.le_refl _) (by unfold maxLen; omega) rfl, (Below.refl _ _).alloc (Nat.le_refl _) _⟩
  case round =>
    obtain ⟨k, hk, rfl, hown, hb⟩ := hrel
    by_cases hlt : k < m
    · go_wp2_with (first
        | (go_at_call 14; (with_reducible refine (l1In_is true _ 0 2 _ H1.out).mono ?_); rintro e w' ⟨rfl, rfl⟩)
        | (go_at_call 14; (with_reducible refine (l1In_is true _ 0 256 _ H2.out).mono ?_); rintro e w' ⟨rfl, rfl⟩)
        | (at_builtin; refine wpList_append_own _ rfl _ _ 25 rfl w.heap.size 29 i0 _ 3 24 Tryd.underlying25 hi0 hz0 hz1 hz2 rfl (by decide) _ _ _ rfl (hown.alloc _) ⟨wr.heap.size, 0, none⟩ 2 2 [.int .i64 r, .int .i64 k, .bool false, .int .i64 r, .int .i64 k, .bool true] rfl rfl (cells_new _ _ _) (oneCells rfl) (by unfold maxLen; omega) (by omega) (by have := hb.size; simp; omega) ?_))
      intro v' w1 hown' hgrow _
      have R : w1.ownsRow w.heap.size 29 3 v' (2 * (k + 1)) (passCells r (k + 1)) ∧ Below w.heap.size w w1 := ⟨by rw [passCells_succ]; exact hown', below_append hb hown hgrow (Nat.le_refl _)⟩
      clear hown' hgrow hown hb
      go_wp2
      go_roundw
      case rel => exact ⟨k + 1, by omega, by go_num, R.1, R.2⟩
      case measure => simp [intOf]; omega
    · obtain rfl : k = m := by omega
      go_wp2
      go_ret
      exact ⟨_, rfl, hown, hb⟩
set_option maxHeartbeats 400000 in
theorem specPass_no (r m : Int) (w : World) (h : (inB r 0 2 && inB m 0 256) = false) :
    Calls Tryd.prog 7 #[.int .i64 r, .int .i64 m] w fun e w' => ∃ v, e = .returned v ∧ w'.ownsRow w.heap.size 29 3 v 0 [] ∧ Below w.heap.size w w' := by
  have hfin : (w.alloc (.cells #[] 29)).ownsRow w.heap.size 29 3 (.slice (some ⟨w.heap.size, 0, none⟩) 0 0) 0 [] ∧ Below w.heap.size w (w.alloc (.cells #[] 29)) :=
    ⟨World.ownsRow_made w #[] 0 (Nat.le_refl _) (by unfold maxLen; omega) rfl, (Below.refl _ _).alloc (Nat.le_refl _) _⟩
  have HF := Lib.hid hfin
  clear hfin
  by_cases h0 : 0 < m
  · cases h1 : inB r 0 2
    · have H1 := Lib.hid h1
      clear h1 h
      go_enter Tryd.func7, Tryd.ntmps7
      go_wp2
      refine wp_loop_rounds 1 ?_
      rw [rounds_succ]
      go_wp2_with (first
        | (go_at_call 14; (with_reducible refine (l1In_is false _ 0 2 _ H1.out).mono ?_); rintro e w' ⟨rfl, rfl⟩))
      go_ret
      exact ⟨_, rfl, HF.out⟩
    · have h2 : inB m 0 256 = false := by simpa [h1] using h
      have H1 := Lib.hid h1
      have H2 := Lib.hid h2
      clear h1 h h2
      go_enter Tryd.func7, Tryd.ntmps7
      go_wp2
      refine wp_loop_rounds 1 ?_
      rw [rounds_succ]
      go_wp2_with (first
        | (go_at_call 14; (with_reducible refine (l1In_is true _ 0 2 _ H1.out).mono ?_); rintro e w' ⟨rfl, rfl⟩)
        | (go_at_call 14; (with_reducible refine (l1In_is false _ 0 256 _ H2.out).mono ?_); rintro e w' ⟨rfl, rfl⟩))
      go_ret
      exact ⟨_, rfl, HF.out⟩
  · clear h
    go_enter Tryd.func7, Tryd.ntmps7
    go_wp2
    refine wp_loop_rounds 1 ?_
    rw [rounds_succ]
    go_wp2
    go_ret
    exact ⟨_, rfl, HF.out⟩

theorem specPass_any (r m : Int) (w : World) :
    Calls Tryd.prog 7 #[.int .i64 r, .int .i64 m] w fun e w' => ∃ v, e = .returned v ∧ w'.ownsRow w.heap.size 29 3 v (passL r m).length (accCells (passL r m)) ∧ Below w.heap.size w w' := by
  cases h : passOk r m
  · refine (specPass_no r m w h).mono ?_
    rintro e w' ⟨v, rfl, ho, hb⟩
    refine ⟨_, rfl, ?_, hb⟩
    have e : passL r m = [] := by simp [passL, h]
    rw [e]
    exact ho
  · have h' : inB r 0 2 = true ∧ inB m 0 256 = true := by simpa [passOk] using h
    have hm := inB_true h'.2
    obtain ⟨k, rfl⟩ := Int.eq_ofNat_of_zero_le hm.1
    refine (specPass_yes r k w h'.1 h'.2).mono ?_
    rintro e w' ⟨v, rfl, ho, hb⟩
    refine ⟨_, rfl, ?_, hb⟩
    rw [passL_length r k h, passL_cells r k h]
    exact ho

end Go.Proofs.YtgbbgejnphfocaaDoor
