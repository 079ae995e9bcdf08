/- impl.CrossTrace and spec.CrossTrace: what they return, as cells. -/
import Derived.Test.YtnihhbmihbcgbaaDoorPass
namespace Go.Proofs.YtnihhbmihbcgbaaDoor
open Go Go.RowKit
set_option maxRecDepth 100000

def crossRow (b i : Nat) (m : Nat) : List (Int × Int × Bool) := (List.range m).flatMap fun (k : Nat) => [((0 : Int), (i : Int), false), ((1 : Int), (k : Int), false), ((2 : Int), (i : Int) * (b : Int) + (k : Int), true)]
def crossAll (b : Nat) (a : Nat) : List (Int × Int × Bool) := (List.range a).flatMap fun (i : Nat) => crossRow b i b
theorem crossRow_succ (b i m : Nat) : crossRow b i (m + 1) = crossRow b i m ++ [((0 : Int), (i : Int), false), ((1 : Int), (m : Int), false), ((2 : Int), (i : Int) * (b : Int) + (m : Int), true)] := by
  simp [crossRow, List.range_succ, List.flatMap_append]
theorem crossAll_succ (b a : Nat) : crossAll b (a + 1) = crossAll b a ++ crossRow b a b := by
  simp [crossAll, List.range_succ, List.flatMap_append]
theorem crossRow_length (b i m : Nat) : (crossRow b i m).length = 3 * m := by
  induction m with
  | zero => rfl
  | succ m ih => rw [crossRow_succ, List.length_append, ih]; simp; omega
theorem crossAll_length (b a : Nat) : (crossAll b a).length = a * (3 * b) := by
  induction a with
  | zero => simp [crossAll]
  | succ a ih => rw [crossAll_succ, List.length_append, ih, crossRow_length, Nat.add_mul, Nat.one_mul]
def crossCells (b i k : Nat) : List Value := [.int .i64 0, .int .i64 i, .bool false, .int .i64 1, .int .i64 k, .bool false, .int .i64 2, .int .i64 ((i : Int) * (b : Int) + (k : Int)), .bool true]
theorem crossCells_succ (b i k : Nat) (pre : List (Int × Int × Bool)) : accCells (pre ++ crossRow b i (k + 1)) = accCells (pre ++ crossRow b i k) ++ crossCells b i k := by
  rw [crossRow_succ, ← List.append_assoc, accCells_append]; rfl

def crossL (a b : Int) : List (Int × Int × Bool) := if inB a 0 16 && inB b 0 16 then crossAll b.toNat a.toNat else []

set_option maxHeartbeats 800000 in
theorem crossTrace_yes (a b : Nat) (w : World) (h1 : inB a 0 16 = true) (h2 : inB b 0 16 = true) :
    Calls Tryd.prog 20 #[.int .i64 a, .int .i64 b] w fun e w' => ∃ v, e = .returned v ∧ w'.ownsRow w.heap.size 29 3 v (crossAll b a).length (accCells (crossAll b a)) ∧ Below w.heap.size w w' := by
  have ha := inB_true h1
  have hb := inB_true h2
  have H1 := Lib.hid h1
  have H2 := Lib.hid h2
  clear h1 h2
  obtain ⟨i0, hi0, hz0, hz1, hz2⟩ := info_parts infoAccess
  go_enter Tryd.func20, Tryd.ntmps20
  go_wp2_with (first
    | (go_at_call 49; (with_reducible refine (in_is true (a : Int) 0 16 _ H1.out).mono ?_); rintro e w' ⟨rfl, rfl⟩)
    | (go_at_call 49; (with_reducible refine (in_is true (b : Int) 0 16 _ H2.out).mono ?_); rintro e w' ⟨rfl, rfl⟩))
  go_loopw [5, 17] (fun v i wr => ∃ k : Nat, k ≤ a ∧ i = .int .i64 k ∧ wr.ownsRow w.heap.size 29 3 v (crossAll b k).length (accCells (crossAll b k)) ∧ Below w.heap.size w wr) (fun _ i _ => a - (intOf i).toNat)
  case atStart => exact ⟨0, Nat.zero_le _, rfl, World.ownsRow_nil _ _ _ _, Below.refl _ _⟩
  case round =>
    obtain ⟨k, hk, rfl, hown, hbel⟩ := hrel
    obtain ⟨wo, rfl⟩ : ∃ wo : World, wo = wr := ⟨_, rfl⟩
    by_cases hlt : k < a
    · go_wp2
      go_loopw [5, 21] (fun v i wr => ∃ j : Nat, j ≤ b ∧ i = .int .i64 j ∧ wr.ownsRow w.heap.size 29 3 v (crossAll b k ++ crossRow b k j).length (accCells (crossAll b k ++ crossRow b k j)) ∧ Below w.heap.size w wr) (fun _ i _ => b - (intOf i).toNat)
      case atStart => exact ⟨0, Nat.zero_le _, rfl, by simpa [crossRow] using hown, hbel⟩
      case round =>
        clear hown hbel
        obtain ⟨j, hj, rfl, hown, hbel⟩ := hrel
        by_cases hlj : j < b
        · have hmul : (k : Int) * (b : Int) ≤ 300 ∧ 0 ≤ (k : Int) * (b : Int) := by
            constructor
            · have : k * b ≤ 16 * 16 := Nat.mul_le_mul (by omega) (by omega)
              have h' : ((k * b : Nat) : Int) ≤ 300 := by omega
              simpa using h'
            · exact Int.mul_nonneg (by omega) (by omega)
          have hlen : (crossAll b k ++ crossRow b k j).length ≤ 2000 := by
            rw [List.length_append, crossAll_length, crossRow_length]
            have : k * (3 * b) ≤ 16 * 48 := Nat.mul_le_mul (by omega) (by omega)
            omega
          go_wp2_with (first
            | (at_builtin; refine wpList_append_own _ rfl _ _ 25 rfl w.heap.size 29 i0 _ 3 24 Tryd.underlying25 hi0 hz0 hz1 hz2 rfl (by decide) _ _ _ rfl (hown.alloc _) ⟨wr.heap.size, 0, none⟩ 3 3 (crossCells b k j) rfl rfl (cells_new _ _ _) (oneCells rfl) (by unfold maxLen; omega) (by omega) (by have := hbel.size; simp; omega) ?_))
          intro v' w1 hown' hgrow _
          have R : w1.ownsRow w.heap.size 29 3 v' (crossAll b k ++ crossRow b k (j + 1)).length (accCells (crossAll b k ++ crossRow b k (j + 1))) ∧ Below w.heap.size w w1 :=
            ⟨by rw [crossCells_succ]; have e : (crossAll b k ++ crossRow b k (j + 1)).length = (crossAll b k).length + (crossRow b k j).length + 3 := by { simp only [List.length_append, crossRow_length]; omega }
                rw [e]; exact hown', below_append hbel hown hgrow (Nat.le_refl _)⟩
          clear hown' hgrow hown hbel hmul hlen
          go_wp2
          go_roundw
          case rel => exact ⟨j + 1, by omega, by go_num, R.1, R.2⟩
          case measure => simp [intOf]; omega
        · obtain rfl : j = b := by omega
          go_wp2
          go_roundw
          case rel => exact ⟨k + 1, by omega, by go_num, by rw [crossAll_succ]; exact hown, hbel⟩
          case measure => simp [intOf]; omega
    · obtain rfl : k = a := by omega
      go_wp2
      go_ret
      exact ⟨_, rfl, hown, hbel⟩

set_option maxHeartbeats 400000 in
theorem crossTrace_no (a b : Int) (w : World) (h : (inB a 0 16 && inB b 0 16) = false) :
    Calls Tryd.prog 20 #[.int .i64 a, .int .i64 b] w fun e w' => e = .returned (.slice none 0 0) ∧ w = w' := by
  cases h1 : inB a 0 16
  · have H1 := Lib.hid h1
    clear h1 h
    go_enter Tryd.func20, Tryd.ntmps20
    go_wp2_with (first
      | (go_at_call 49; (with_reducible refine (in_is false a 0 16 _ H1.out).mono ?_); rintro e w' ⟨rfl, rfl⟩))
    go_ret
    exact ⟨rfl, rfl⟩
  · have h2 : inB b 0 16 = false := by simpa [h1] using h
    have H1 := Lib.hid h1
    have H2 := Lib.hid h2
    clear h1 h h2
    go_enter Tryd.func20, Tryd.ntmps20
    go_wp2_with fail
    refine (in_is true a 0 16 _ H1.out).mono ?_
    rintro e w' ⟨rfl, rfl⟩
    go_wp2_with fail
    refine (in_is false b 0 16 _ H2.out).mono ?_
    rintro e w' ⟨rfl, rfl⟩
    go_wp2_with fail
    go_ret
    exact ⟨rfl, rfl⟩

theorem crossTrace_any (a b : Int) (w : World) :
    Calls Tryd.prog 20 #[.int .i64 a, .int .i64 b] w fun e w' => ∃ v, e = .returned v ∧ w'.ownsRow w.heap.size 29 3 v (crossL a b).length (accCells (crossL a b)) ∧ Below w.heap.size w w' := by
  cases h : (inB a 0 16 && inB b 0 16)
  · refine (crossTrace_no a b w h).mono ?_
    rintro e w' ⟨rfl, rfl⟩
    refine ⟨_, rfl, ?_, Below.refl _ _⟩
    have e : crossL a b = [] := by simp [crossL, h]
    rw [e]
    exact World.ownsRow_nil _ _ _ _
  · have h' : inB a 0 16 = true ∧ inB b 0 16 = true := by simpa using h
    have ha := inB_true h'.1
    have hb := inB_true h'.2
    obtain ⟨x, rfl⟩ := Int.eq_ofNat_of_zero_le ha.1
    obtain ⟨y, rfl⟩ := Int.eq_ofNat_of_zero_le hb.1
    refine (crossTrace_yes x y w h'.1 h'.2).mono ?_
    rintro e w' ⟨v, rfl, ho, hb⟩
    refine ⟨_, rfl, ?_, hb⟩
    have e : crossL x y = crossAll y x := by simp only [crossL, h, if_true, Int.toNat_natCast]
    rw [e]
    exact ho

set_option maxHeartbeats 800000 in
theorem specCross_yes (a b : Nat) (w : World) (h1 : inB a 0 16 = true) (h2 : inB b 0 16 = true) :
    Calls Tryd.prog 21 #[.int .i64 a, .int .i64 b] w fun e w' => ∃ v, e = .returned v ∧ w'.ownsRow w.heap.size 29 3 v (crossAll b a).length (accCells (crossAll b a)) ∧ Below w.heap.size w w' := by
  have ha := inB_true h1
  have hb := inB_true h2
  have H1 := Lib.hid h1
  have H2 := Lib.hid h2
  clear h1 h2
  obtain ⟨i0, hi0, hz0, hz1, hz2⟩ := info_parts infoAccess
  go_enter Tryd.func21, Tryd.ntmps21
  go_wp2
  go_loopw [5, 6, 7] (fun v i x wr => ∃ k : Nat, k ≤ a ∧ i = .int .i64 k ∧ wr.ownsRow w.heap.size 29 3 v (crossAll b k).length (accCells (crossAll b k)) ∧ Below w.heap.size w wr) (fun _ i _ _ => a - (intOf i).toNat)
  case atStart => exact ⟨0, Nat.zero_le _, rfl, World.ownsRow_made w #[] 0 (Nat.le_refl _) (by unfold maxLen; omega) rfl, (Below.refl _ _).alloc (Nat.le_refl _) _⟩
  case round =>
    obtain ⟨k, hk, rfl, hown, hbel⟩ := hrel
    obtain ⟨wo, rfl⟩ : ∃ wo : World, wo = wr := ⟨_, rfl⟩
    by_cases hlt : k < a
    · go_wp2_with fail
      refine (l1In_is true (a : Int) 0 16 _ H1.out).mono ?_
      rintro e w' ⟨rfl, rfl⟩
      go_wp2_with fail
      refine (l1In_is true (b : Int) 0 16 _ H2.out).mono ?_
      rintro e w' ⟨rfl, rfl⟩
      go_wp2_with fail
      go_loopw [5, 7] (fun v i wr => ∃ j : Nat, j ≤ b ∧ i = .int .i64 j ∧ wr.ownsRow w.heap.size 29 3 v (crossAll b k ++ crossRow b k j).length (accCells (crossAll b k ++ crossRow b k j)) ∧ Below w.heap.size w wr) (fun _ i _ => b - (intOf i).toNat)
      case atStart => exact ⟨0, Nat.zero_le _, rfl, by simpa [crossRow] using hown, hbel⟩
      case round =>
        clear hown hbel
        obtain ⟨j, hj, rfl, hown, hbel⟩ := hrel
        by_cases hlj : j < b
        · have hmul : (k : Int) * (b : Int) ≤ 300 ∧ 0 ≤ (k : Int) * (b : Int) := by
            constructor
            · have : k * b ≤ 16 * 16 := Nat.mul_le_mul (by omega) (by omega)
              have h' : ((k * b : Nat) : Int) ≤ 300 := by omega
              simpa using h'
            · exact Int.mul_nonneg (by omega) (by omega)
          have hlen : (crossAll b k ++ crossRow b k j).length ≤ 2000 := by
            rw [List.length_append, crossAll_length, crossRow_length]
            have : k * (3 * b) ≤ 16 * 48 := Nat.mul_le_mul (by omega) (by omega)
            omega
          go_wp2_with (first
            | (at_builtin; refine wpList_append_own _ rfl _ _ 25 rfl w.heap.size 29 i0 _ 3 24 Tryd.underlying25 hi0 hz0 hz1 hz2 rfl (by decide) _ _ _ rfl (hown.alloc _) ⟨wr.heap.size, 0, none⟩ 3 3 (crossCells b k j) rfl rfl (cells_new _ _ _) (oneCells rfl) (by unfold maxLen; omega) (by omega) (by have := hbel.size; simp; omega) ?_))
          intro v' w1 hown' hgrow _
          have R : w1.ownsRow w.heap.size 29 3 v' (crossAll b k ++ crossRow b k (j + 1)).length (accCells (crossAll b k ++ crossRow b k (j + 1))) ∧ Below w.heap.size w w1 :=
            ⟨by rw [crossCells_succ]; have e : (crossAll b k ++ crossRow b k (j + 1)).length = (crossAll b k).length + (crossRow b k j).length + 3 := by { simp only [List.length_append, crossRow_length]; omega }
                rw [e]; exact hown', below_append hbel hown hgrow (Nat.le_refl _)⟩
          clear hown' hgrow hown hbel hmul hlen
          go_wp2
          go_roundw
          case rel => exact ⟨j + 1, by omega, by go_num, R.1, R.2⟩
          case measure => simp [intOf]; omega
        · obtain rfl : j = b := by omega
          go_wp2
          go_roundw
          case rel => exact ⟨k + 1, by omega, by go_num, by rw [crossAll_succ]; exact hown, hbel⟩
          case measure => simp [intOf]; omega
    · obtain rfl : k = a := by omega
      go_wp2
      go_ret
      exact ⟨_, rfl, hown, hbel⟩

set_option maxHeartbeats 400000 in
theorem specCross_no (a b : Int) (w : World) (h : (inB a 0 16 && inB b 0 16) = false) :
    Calls Tryd.prog 21 #[.int .i64 a, .int .i64 b] w fun e w' => ∃ v, e = .returned v ∧ w'.ownsRow w.heap.size 29 3 v 0 [] ∧ Below w.heap.size w w' := by
  have hfin : (w.alloc (.cells #[] 29)).ownsRow w.heap.size 29 3 (.slice (some ⟨w.heap.size, 0, none⟩) 0 0) 0 [] ∧ Below w.heap.size w (w.alloc (.cells #[] 29)) :=
    ⟨World.ownsRow_made w #[] 0 (Nat.le_refl _) (by unfold maxLen; omega) rfl, (Below.refl _ _).alloc (Nat.le_refl _) _⟩
  have HF := Lib.hid hfin
  clear hfin
  by_cases h0 : 0 < a
  · cases h1 : inB a 0 16
    · have H1 := Lib.hid h1
      clear h1 h
      go_enter Tryd.func21, Tryd.ntmps21
      go_wp2
      refine wp_loop_rounds 1 ?_
      rw [rounds_succ]
      go_wp2_with (first
        | (go_at_call 51; (with_reducible refine (l1In_is false a 0 16 _ H1.out).mono ?_); rintro e w' ⟨rfl, rfl⟩))
      go_ret
      exact ⟨_, rfl, HF.out⟩
    · have h2 : inB b 0 16 = false := by simpa [h1] using h
      have H1 := Lib.hid h1
      have H2 := Lib.hid h2
      clear h1 h h2
      go_enter Tryd.func21, Tryd.ntmps21
      go_wp2
      refine wp_loop_rounds 1 ?_
      rw [rounds_succ]
      go_wp2_with fail
      refine (l1In_is true a 0 16 _ H1.out).mono ?_
      rintro e w' ⟨rfl, rfl⟩
      go_wp2_with fail
      refine (l1In_is false b 0 16 _ H2.out).mono ?_
      rintro e w' ⟨rfl, rfl⟩
      go_wp2_with fail
      go_ret
      exact ⟨_, rfl, HF.out⟩
  · clear h
    go_enter Tryd.func21, Tryd.ntmps21
    go_wp2
    refine wp_loop_rounds 1 ?_
    rw [rounds_succ]
    go_wp2
    go_ret
    exact ⟨_, rfl, HF.out⟩

theorem specCross_any (a b : Int) (w : World) :
    Calls Tryd.prog 21 #[.int .i64 a, .int .i64 b] w fun e w' => ∃ v, e = .returned v ∧ w'.ownsRow w.heap.size 29 3 v (crossL a b).length (accCells (crossL a b)) ∧ Below w.heap.size w w' := by
  cases h : (inB a 0 16 && inB b 0 16)
  · refine (specCross_no a b w h).mono ?_
    rintro e w' ⟨v, rfl, ho, hb⟩
    refine ⟨_, rfl, ?_, hb⟩
    have e : crossL a b = [] := by simp [crossL, h]
    rw [e]
    exact ho
  · have h' : inB a 0 16 = true ∧ inB b 0 16 = true := by simpa using h
    have ha := inB_true h'.1
    have hb := inB_true h'.2
    obtain ⟨x, rfl⟩ := Int.eq_ofNat_of_zero_le ha.1
    obtain ⟨y, rfl⟩ := Int.eq_ofNat_of_zero_le hb.1
    refine (specCross_yes x y w h'.1 h'.2).mono ?_
    rintro e w' ⟨v, rfl, ho, hb⟩
    refine ⟨_, rfl, ?_, hb⟩
    have e : crossL x y = crossAll y x := by simp only [crossL, h, if_true, Int.toNat_natCast]
    rw [e]
    exact ho

theorem crossL_le (a b : Int) : (crossL a b).length ≤ 1000 := by
  cases h : (inB a 0 16 && inB b 0 16)
  · simp [crossL, h]
  · have h' : inB a 0 16 = true ∧ inB b 0 16 = true := by simpa using h
    have ha := inB_true h'.1
    have hb := inB_true h'.2
    simp only [crossL, h, if_true]
    rw [crossAll_length]
    have : a.toNat * (3 * b.toNat) ≤ 16 * 48 := Nat.mul_le_mul (by omega) (by omega)
    omega
end Go.Proofs.YtnihhbmihbcgbaaDoor
