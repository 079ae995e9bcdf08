/- slices.SortFunc over slices of rows, by slices.Compare. -/
import Derived.Test.YtijpdekcdejfmaaDoorSortL
import Derived.Test.YtijpdekcdejfmaaDoorTab
import Derived.Test.YtijpdekcdejfmaaDoorGrpP
namespace Go.Proofs.YtijpdekcdejfmaaDoor
open Go Go.RowKit Go.Sort Go.Shelf
set_option maxRecDepth 100000
def cmpL : List Int → List Int → Int
  | [], [] => 0
  | [], _ :: _ => -1
  | _ :: _, [] => 1
  | x :: a, y :: b => if x < y then -1 else if y < x then 1 else cmpL a b
theorem cmpL_self (a : List Int) : cmpL a a = 0 := by
  induction a with
  | nil => rfl
  | cons x a ih => simp [cmpL, ih]
theorem cmpL_trans : ∀ (a b c : List Int), cmpL a b < 0 → cmpL b c < 0 → cmpL a c < 0 := by
  intro a
  induction a with
  | nil =>
    intro b c h1 h2
    cases b with
    | nil => simp [cmpL] at h1
    | cons y b =>
      cases c with
      | nil => simp [cmpL] at h2
      | cons z c => simp [cmpL]
  | cons x a ih =>
    intro b c h1 h2
    cases b with
    | nil => simp [cmpL] at h1
    | cons y b =>
      cases c with
      | nil => simp [cmpL] at h2
      | cons z c =>
        simp only [cmpL] at h1 h2 ⊢
        split at h1
        · split at h2
          · rw [if_pos (by omega)]; omega
          · split at h2
            · omega
            · rw [if_pos (by omega)]; omega
        · split at h1
          · omega
          · split at h2
            · rw [if_pos (by omega)]; omega
            · split at h2
              · omega
              · rw [if_neg (by omega), if_neg (by omega)]
                exact ih b c h1 h2
theorem cmpL_ntrans : ∀ (a b c : List Int), ¬ cmpL a b < 0 → ¬ cmpL b c < 0 → ¬ cmpL a c < 0 := by
  intro a
  induction a with
  | nil =>
    intro b c h1 h2
    cases b with
    | nil =>
      cases c with
      | nil => simp [cmpL]
      | cons z c => simp [cmpL] at h2
    | cons y b => simp [cmpL] at h1
  | cons x a ih =>
    intro b c h1 h2
    cases c with
    | nil => simp [cmpL]
    | cons z c =>
      cases b with
      | nil => simp [cmpL] at h2
      | cons y b =>
        simp only [cmpL] at h1 h2 ⊢
        split at h1
        · omega
        · split at h1
          · split at h2
            · omega
            · split at h2
              · rw [if_neg (by omega), if_pos (by omega)]; omega
              · rw [if_neg (by omega), if_pos (by omega)]; omega
          · split at h2
            · omega
            · split at h2
              · rw [if_neg (by omega), if_pos (by omega)]; omega
              · rw [if_neg (by omega), if_neg (by omega)]
                exact ih b c h1 h2
theorem cmpL_key {a b : List Int} {x y : Int} (ha : a[0]? = some x) (hb : b[0]? = some y) (h : ¬ cmpL b a < 0) : x ≤ y := by
  cases a with
  | nil => simp at ha
  | cons u a =>
    cases b with
    | nil => simp at hb
    | cons v b =>
      simp at ha hb
      subst ha hb
      simp only [cmpL] at h
      split at h
      · omega
      · omega
def cmpI (x y : Int) : Int := if x < y then -1 else if y < x then 1 else 0
theorem isNaN_is (x : Int) (w : World) : Calls Tryd.prog 71 #[.int .i64 x] w fun e w' => e = .returned (.bool false) ∧ w = w' := by
  go_enter Tryd.func71, Tryd.ntmps71
  go_wp2
  go_ret
  exact ⟨by simp, rfl⟩
theorem cmpI_is (x y : Int) (w : World) : Calls Tryd.prog 58 #[.int .i64 x, .int .i64 y] w fun e w' => e = .returned (.int .i64 (cmpI x y)) ∧ w = w' := by
  have H := Lib.hid (fun z => isNaN_is z w)
  by_cases h1 : x < y
  · have hc : cmpI x y = -1 := by simp [cmpI, h1]
    rw [hc]
    clear hc
    go_enter Tryd.func58, Tryd.ntmps58
    go_wp2_with fail
    refine (H.out _).mono ?_
    rintro e w' ⟨rfl, rfl⟩
    go_wp2_with fail
    refine (H.out _).mono ?_
    rintro e w' ⟨rfl, rfl⟩
    go_wp2_with fail
    go_ret
    exact ⟨rfl, rfl⟩
  · by_cases h2 : y < x
    · have hc : cmpI x y = 1 := by simp [cmpI, h1, h2]
      rw [hc]
      clear hc
      go_enter Tryd.func58, Tryd.ntmps58
      go_wp2_with fail
      refine (H.out _).mono ?_
      rintro e w' ⟨rfl, rfl⟩
      go_wp2_with fail
      refine (H.out _).mono ?_
      rintro e w' ⟨rfl, rfl⟩
      go_wp2_with fail
      go_ret
      exact ⟨rfl, rfl⟩
    · have hc : cmpI x y = 0 := by simp [cmpI, h1, h2]
      rw [hc]
      clear hc
      go_enter Tryd.func58, Tryd.ntmps58
      go_wp2_with fail
      refine (H.out _).mono ?_
      rintro e w' ⟨rfl, rfl⟩
      go_wp2_with fail
      refine (H.out _).mono ?_
      rintro e w' ⟨rfl, rfl⟩
      go_wp2_with fail
      go_ret
      exact ⟨rfl, rfl⟩
theorem cmpL_step {xs ys : List Int} {k : Nat} {x y : Int} (hx : xs[k]? = some x) (hy : ys[k]? = some y) : cmpL (xs.drop k) (ys.drop k) = if x < y then -1 else if y < x then 1 else cmpL (xs.drop (k + 1)) (ys.drop (k + 1)) := by
  obtain ⟨h1, e1⟩ := List.getElem?_eq_some_iff.1 hx
  obtain ⟨h2, e2⟩ := List.getElem?_eq_some_iff.1 hy
  rw [List.drop_eq_getElem_cons h1, List.drop_eq_getElem_cons h2, e1, e2]
  rfl
set_option maxHeartbeats 800000 in
theorem compare_is (A B : Option Addr) (n m c d : Nat) (xs ys : List Int) (w : World) (hxn : xs.length = n) (hym : ys.length = m) (hx : Reads w w.heap.size 1 A n (inCells xs)) (hy : Reads w w.heap.size 1 B m (inCells ys)) (hn : n ≤ 1000000000) (hm : m ≤ 1000000000) :
    Calls Tryd.prog 41 #[.slice A n c, .slice B m d] w fun e w' => e = .returned (.int .i64 (cmpL xs ys)) ∧ w = w' := by
  have HX := Lib.hid hxn
  have HY := Lib.hid hym
  have CM := Lib.hid (fun x y => cmpI_is x y w)
  obtain ⟨q, hq⟩ : ∃ q, cmpL xs ys = q := ⟨_, rfl⟩
  rw [hq]
  have START : Hid (cmpL (xs.drop 0) (ys.drop 0) = q) := Lib.hid hq
  clear hxn hym hq
  go_enter Tryd.func41, Tryd.ntmps41
  go_wp2_with fail
  go_loop [5, 6, 7, 8, 11] (fun _ _ _ _ v => ∃ k : Nat, k ≤ n ∧ k ≤ m ∧ v = .int .i64 k ∧ Hid (cmpL (xs.drop k) (ys.drop k) = q)) (fun _ _ _ _ v => n - (intOf v).toNat)
  case atStart => exact ⟨0, Nat.zero_le _, Nat.zero_le _, rfl, START⟩
  case round =>
    clear START
    obtain ⟨k, hk, hkm, rfl, hc⟩ := hrel
    have hk0 : (0 : Int) ≤ (k : Int) := Int.natCast_nonneg _
    by_cases hlt : k < n
    · have hk1 : (k : Int) < (n : Int) := by omega
      obtain ⟨ad, x, rfl, _, hxk, e1⟩ := in_at hx HX.out hlt
      by_cases hltm : k < m
      · have hk2 : (k : Int) < (m : Int) := by omega
        have hk3 : ¬ (m : Int) ≤ (k : Int) := by omega
        obtain ⟨bd, y, rfl, _, hyk, e2⟩ := in_at hy HY.out hltm
        have HS := Lib.hid (cmpL_step hxk hyk)
        clear hxk hyk hx hy
        by_cases h1 : x < y
        · obtain rfl : q = -1 := by rw [← hc.out, HS.out, if_pos h1]
          have hcm : cmpI x y = -1 := by simp [cmpI, h1]
          have CXY := CM.out x y
          rw [hcm] at CXY
          have CC := Lib.hid CXY
          clear CXY hcm
          go_wp2_with fail
          refine CC.out.mono ?_
          rintro e w' ⟨rfl, rfl⟩
          go_wp2_with fail
          go_ret
          exact ⟨rfl, rfl⟩
        · by_cases h2 : y < x
          · obtain rfl : q = 1 := by rw [← hc.out, HS.out, if_neg h1, if_pos h2]
            have hcm : cmpI x y = 1 := by simp [cmpI, h1, h2]
            have CXY := CM.out x y
            rw [hcm] at CXY
            have CC := Lib.hid CXY
            clear CXY hcm
            go_wp2_with fail
            refine CC.out.mono ?_
            rintro e w' ⟨rfl, rfl⟩
            go_wp2_with fail
            go_ret
            exact ⟨rfl, rfl⟩
          · have hc2 : cmpL (xs.drop (k + 1)) (ys.drop (k + 1)) = q := by rw [← hc.out, HS.out, if_neg h1, if_neg h2]
            have HC2 := Lib.hid hc2
            have hcm : cmpI x y = 0 := by simp [cmpI, h1, h2]
            have CXY := CM.out x y
            rw [hcm] at CXY
            have CC := Lib.hid CXY
            clear CXY hcm hc2
            go_wp2_with fail
            refine CC.out.mono ?_
            rintro e w' ⟨rfl, rfl⟩
            go_wp2_with fail
            go_round
            case rel => exact ⟨k + 1, by omega, by omega, by go_num, HC2⟩
            case measure => simp [intOf]; omega
      · obtain rfl : k = m := by omega
        obtain rfl : q = 1 := by
          rw [← hc.out, List.drop_of_length_le (show ys.length ≤ k by have := HY.out; omega), List.drop_eq_getElem_cons (show k < xs.length by have := HX.out; omega)]
          rfl
        clear hxk hx hy
        go_wp2_with fail
        go_ret
        exact ⟨rfl, rfl⟩
    · obtain rfl : k = n := by omega
      rcases Nat.lt_or_eq_of_le hkm with hl | rfl
      · have hl1 : (k : Int) < (m : Int) := by omega
        obtain rfl : q = -1 := by
          rw [← hc.out, List.drop_of_length_le (show xs.length ≤ k by have := HX.out; omega), List.drop_eq_getElem_cons (show k < ys.length by have := HY.out; omega)]
          rfl
        clear hx hy
        go_wp2_with fail
        go_ret
        exact ⟨rfl, rfl⟩
      · obtain rfl : q = 0 := by
          rw [← hc.out, List.drop_of_length_le (show xs.length ≤ k by have := HX.out; omega), List.drop_of_length_le (show ys.length ≤ k by have := HY.out; omega)]
          rfl
        clear hx hy
        go_wp2_with fail
        go_ret
        exact ⟨rfl, rfl⟩
end Go.Proofs.YtijpdekcdejfmaaDoor
