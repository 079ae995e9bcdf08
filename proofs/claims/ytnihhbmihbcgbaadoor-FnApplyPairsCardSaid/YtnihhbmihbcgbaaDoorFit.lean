/- impl.pairsFit, spec.l9Good: pairs of so many places. -/
import Derived.Test.YtnihhbmihbcgbaaDoorPair
import Derived.Test.YtnihhbmihbcgbaaDoorOpen
import Derived.IntWalk
import Derived.WalkSmall
namespace Go.Proofs.YtnihhbmihbcgbaaDoor
open Go Go.RowKit
set_option maxRecDepth 100000

def pairOk (many : Int) (x : Int × Int) : Bool := inB x.1 0 (many - 1) && inB x.2 (x.1 + 1) (many - 1)
def fitB (many : Int) (xs : List (Int × Int)) : Bool := xs.all (pairOk many)
theorem fitB_split {m : Int} {xs ys : List (Int × Int)} : fitB m (xs ++ ys) = (fitB m xs && fitB m ys) := by simp [fitB]
theorem fit_take_succ {many : Int} {xs : List (Int × Int)} {k : Nat} {x : Int × Int} (h : fitB many (xs.take k) = true) (hx : xs[k]? = some x) (ho : pairOk many x = true) : fitB many (xs.take (k + 1)) = true := by
  rw [List.take_add_one, hx]
  simp [fitB, List.all_append] at h ⊢
  exact ⟨h, ho⟩
theorem fit_bad {many : Int} {xs : List (Int × Int)} {k : Nat} {x : Int × Int} (hx : xs[k]? = some x) (ho : pairOk many x = false) : fitB many xs = false := by
  simp only [fitB, List.all_eq_false]
  exact ⟨x, List.mem_of_getElem? hx, by simp [ho]⟩

set_option maxHeartbeats 400000 in
theorem pairsFit_any (b : Bool) (A : Option Addr) (n c : Nat) (xs : List (Int × Int)) (many : Int) (w : World) (hxn : xs.length = n) (hx : Reads w w.heap.size 2 A n (prCells xs)) (hm0 : 0 ≤ many) (hm1 : many ≤ 1000000)
    (hn : n ≤ 9223372036854775807) (hb : (fitB many xs && decide (n ≤ 10000)) = b) :
    Calls Tryd.prog 54 #[.slice A n c, .int .i64 many] w fun e w' => e = .returned (.bool b) ∧ Below w.heap.size w w' := by
  have HB := Lib.hid hb
  have HX := Lib.hid hxn
  clear hxn hb
  go_enter Tryd.func54, Tryd.ntmps54
  go_wp2
  go_loopw [9] (fun i wr => ∃ k : Nat, k ≤ n ∧ i = .int .i64 k ∧ fitB many (xs.take k) = true ∧ Below w.heap.size w wr) (fun i _ => n - (intOf i).toNat)
  case atStart => exact ⟨0, Nat.zero_le _, rfl, rfl, Below.refl _ _⟩
  case round =>
    obtain ⟨k, hk, rfl, hfit, hbel⟩ := hrel
    have HF := Lib.hid hfit
    clear hfit
    by_cases hlt : k < n
    · obtain ⟨ad, x1, x2, rfl, _, hxk, e1, e2⟩ := pr_at (hx.below hbel) HX.out hlt
      have HXK := Lib.hid hxk
      clear hxk hx
      obtain ⟨q1, hq1⟩ : ∃ q : Bool, inB x1 0 (many - 1) = q := ⟨_, rfl⟩
      cases q1
      · have HQ := Lib.hid hq1
        clear hq1
        go_wp2_with fail
        refine (in_is false _ _ _ _ HQ.out).mono ?_
        rintro e w' ⟨rfl, rfl⟩
        go_wp2_with fail
        go_ret
        refine ⟨ret_bool ?_, hbel.alloc hbel.size _⟩
        rw [← HB.out, fit_bad HXK.out (by simp [pairOk, HQ.out])]
        rfl
      · have hx1 := inB_true hq1
        obtain ⟨q2, hq2⟩ : ∃ q : Bool, inB x2 (x1 + 1) (many - 1) = q := ⟨_, rfl⟩
        have HQ := Lib.hid hq1
        have HQ2 := Lib.hid hq2
        clear hq1 hq2
        cases q2
        · go_wp2_with fail
          refine (in_is true _ _ _ _ HQ.out).mono ?_
          rintro e w' ⟨rfl, rfl⟩
          go_wp2_with fail
          refine (in_is false _ _ _ _ HQ2.out).mono ?_
          rintro e w' ⟨rfl, rfl⟩
          go_wp2_with fail
          go_ret
          refine ⟨ret_bool ?_, hbel.alloc hbel.size _⟩
          rw [← HB.out, fit_bad HXK.out (by simp [pairOk, HQ2.out])]
          rfl
        · go_wp2_with fail
          refine (in_is true _ _ _ _ HQ.out).mono ?_
          rintro e w' ⟨rfl, rfl⟩
          go_wp2_with fail
          refine (in_is true _ _ _ _ HQ2.out).mono ?_
          rintro e w' ⟨rfl, rfl⟩
          go_wp2_with fail
          go_roundw
          case rel => exact ⟨k + 1, by omega, by go_num, fit_take_succ HF.out HXK.out (by simp [pairOk, HQ.out, HQ2.out]), hbel.alloc hbel.size _⟩
          case measure => simp [intOf]; omega
    · obtain rfl : k = n := by omega
      have hfin : decide ((k : Int) ≤ 10000) = b := by
        have h1 := HF.out
        rw [List.take_of_length_le (by have := HX.out; omega)] at h1
        rw [← HB.out, h1]
        simp
        omega
      have HFN := Lib.hid hfin
      clear hfin
      go_wp2
      all_goals go_ret
      all_goals exact ⟨ret_bool (by rw [← HFN.out]), hbel⟩

set_option maxHeartbeats 1000000 in
theorem l9Good_any (b : Bool) (A : Option Addr) (n c : Nat) (xs : List (Int × Int)) (many : Int) (w : World) (hxn : xs.length = n) (hx : Reads w w.heap.size 2 A n (prCells xs)) (hmi : i64ok many) (hr : ∀ x ∈ xs, i64ok x.1 ∧ i64ok x.2)
    (hn : n ≤ 9223372036854775807) (hb : (inB many 0 256 && (fitB many xs && decide (n ≤ 10000))) = b) :
    Calls Tryd.prog 56 #[.int .i64 many, .slice A n c] w fun e w' => e = .returned (.bool b) ∧ Below w.heap.size w w' := by
  by_cases hmany : 0 ≤ many ∧ many ≤ 256
  · have hb' : (fitB many xs && decide (n ≤ 10000)) = b := by rw [← hb, inB_mk hmany]; simp
    have HB := Lib.hid hb'
    have HX := Lib.hid hxn
    clear hxn hb hb' hr hmi
    obtain ⟨hm0, hm1⟩ := hmany
    go_enter Tryd.func56, Tryd.ntmps56
    go_wp2
    go_loopw [5] (fun i wr => ∃ k : Nat, k ≤ n ∧ i = .int .i64 k ∧ fitB many (xs.take k) = true ∧ Below w.heap.size w wr) (fun i _ => n - (intOf i).toNat)
    case atStart => exact ⟨0, Nat.zero_le _, rfl, rfl, Below.refl _ _⟩
    case round =>
      obtain ⟨k, hk, rfl, hfit, hbel⟩ := hrel
      have HF := Lib.hid hfit
      clear hfit
      by_cases hlt : k < n
      · obtain ⟨ad, x1, x2, rfl, _, hxk, e1, e2⟩ := pr_at (hx.below hbel) HX.out hlt
        have HXK := Lib.hid hxk
        clear hxk hx
        have hk0 : (0 : Int) ≤ (k : Int) := Int.natCast_nonneg _
        have hk1 : (k : Int) < (n : Int) := by omega
        obtain ⟨q1, hq1⟩ : ∃ q : Bool, inB x1 0 (many - 1) = q := ⟨_, rfl⟩
        cases q1
        · have HQ := Lib.hid hq1
          clear hq1
          go_wp2_with fail
          go_quiet (first | (go_at_call 51; exact quiet_left (l1In_is false _ _ _ _ HQ.out)))
          go_wp2_with fail
          go_ret
          refine ⟨ret_bool ?_, below_drewN hbel _⟩
          rw [← HB.out, fit_bad HXK.out (by simp [pairOk, HQ.out])]
          rfl
        · have hx1 := inB_true hq1
          obtain ⟨q2, hq2⟩ : ∃ q : Bool, inB x2 (x1 + 1) (many - 1) = q := ⟨_, rfl⟩
          have HQ := Lib.hid hq1
          have HQ2 := Lib.hid hq2
          clear hq1 hq2
          have s1 : IntKind.i64.wrap (many - 1) = many - 1 := IntWalk.i64_in _ (by omega)
          have s2 : IntKind.i64.wrap (x1 + 1) = x1 + 1 := IntWalk.i64_in _ (by omega)
          cases q2
          · go_wp2_with fail
            go_quiet (first | (go_at_call 51; with_reducible exact quiet_left (l1In_is true _ 0 _ _ HQ.out)) | (go_at_call 51; with_reducible exact quiet_left (l1In_is false _ (x1 + 1) _ _ HQ2.out)))
            clear s1 s2
            go_wp2_with fail
            go_ret
            refine ⟨ret_bool ?_, below_drewN hbel _⟩
            rw [← HB.out, fit_bad HXK.out (by simp [pairOk, HQ2.out])]
            rfl
          · go_wp2_with fail
            go_quiet (first | (go_at_call 51; with_reducible exact quiet_left (l1In_is true _ 0 _ _ HQ.out)) | (go_at_call 51; with_reducible exact quiet_left (l1In_is true _ (x1 + 1) _ _ HQ2.out)))
            clear s1 s2
            go_wp2_with fail
            go_roundw
            case rel => exact ⟨k + 1, by omega, by go_num, fit_take_succ HF.out HXK.out (by simp [pairOk, HQ.out, HQ2.out]), below_drewN hbel _⟩
            case measure => simp [intOf]; omega
      · obtain rfl : k = n := by omega
        have hfin : decide ((k : Int) ≤ 10000) = b := by
          have h1 := HF.out
          rw [List.take_of_length_le (by have := HX.out; omega)] at h1
          rw [← HB.out, h1]
          simp
          omega
        have HFN := Lib.hid hfin
        clear hfin
        have HM := Lib.hid (inB_mk (n := many) (lo := 0) (hi := 256) ⟨hm0, hm1⟩)
        go_wp2_with fail
        refine (l1In_is true _ _ _ _ HM.out).mono ?_
        rintro e w' ⟨rfl, rfl⟩
        go_wp2_with fail
        go_ret
        exact ⟨ret_bool (by rw [← HFN.out]), hbel⟩
  · obtain rfl : b = false := by rw [← hb, inB_no hmany]; rfl
    have HM := Lib.hid (inB_no hmany)
    have HX := Lib.hid hxn
    clear hxn hb hr hmi hmany
    go_enter Tryd.func56, Tryd.ntmps56
    go_wp2
    go_loopw [5] (fun i wr => ∃ k : Nat, k ≤ n ∧ i = .int .i64 k ∧ Below w.heap.size w wr) (fun i _ => n - (intOf i).toNat)
    case atStart => exact ⟨0, Nat.zero_le _, rfl, Below.refl _ _⟩
    case round =>
      obtain ⟨k, hk, rfl, hbel⟩ := hrel
      by_cases hlt : k < n
      · obtain ⟨ad, x1, x2, rfl, _, _, e1, e2⟩ := pr_at (hx.below hbel) HX.out hlt
        clear hx
        have hk0 : (0 : Int) ≤ (k : Int) := Int.natCast_nonneg _
        have hk1 : (k : Int) < (n : Int) := by omega
        obtain ⟨q1, hq1⟩ : ∃ q : Bool, inB x1 0 (wrap64 (many - 1)) = q := ⟨_, rfl⟩
        obtain ⟨q2, hq2⟩ : ∃ q : Bool, inB x2 (wrap64 (x1 + 1)) (wrap64 (many - 1)) = q := ⟨_, rfl⟩
        have HQ := Lib.hid hq1
        have HQ2 := Lib.hid hq2
        clear hq1 hq2
        cases q1
        · go_wp2_with fail
          go_quiet ((go_at_call 51; with_reducible exact quiet_left (l1In_is false _ _ (wrap64 _) _ HQ.out)))
          go_wp2_with fail
          go_ret
          exact ⟨rfl, below_drewN hbel _⟩
        · cases q2
          · go_wp2_with fail
            go_quiet ((go_at_call 51; with_reducible (first | exact quiet_left (l1In_is true _ 0 (wrap64 _) _ HQ.out) | exact quiet_left (l1In_is false _ (wrap64 _) (wrap64 _) _ HQ2.out))))
            go_wp2_with fail
            go_ret
            exact ⟨rfl, below_drewN hbel _⟩
          · go_wp2_with fail
            go_quiet ((go_at_call 51; with_reducible (first | exact quiet_left (l1In_is true _ 0 (wrap64 _) _ HQ.out) | exact quiet_left (l1In_is true _ (wrap64 _) (wrap64 _) _ HQ2.out))))
            go_wp2_with fail
            go_roundw
            case rel => exact ⟨k + 1, by omega, by go_num, below_drewN hbel _⟩
            case measure => simp [intOf]; omega
      · obtain rfl : k = n := by omega
        go_wp2_with fail
        refine (l1In_is false _ _ _ _ HM.out).mono ?_
        rintro e w' ⟨rfl, rfl⟩
        go_wp2_with fail
        go_ret
        exact ⟨rfl, hbel⟩

end Go.Proofs.YtnihhbmihbcgbaaDoor
