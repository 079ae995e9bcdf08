/- impl.columnsValid, impl.rowsFit, impl.TableValid; spec.l1Names, spec.TableValid. -/
import Derived.Test.YtijpdekcdejfmaaDoorName
import Derived.Test.YtijpdekcdejfmaaDoorTab
namespace Go.Proofs.YtijpdekcdejfmaaDoor
open Go Go.RowKit
set_option maxRecDepth 100000

/-! ### in plain Lean -/
def valB (x : Int) : Bool := inB x (-100000) 100000
def nameAt (xs : List ByteArray) (k : Nat) : Bool := match xs[k]? with | some x => nameB x && !hasW (xs.take k) x | none => true
def namesB (xs : List ByteArray) : Bool := (List.range xs.length).all (nameAt xs) && inB xs.length 1 6
def rowB (m : Nat) (row : List Int) : Bool := decide (row.length = m) && row.all valB
def rowsB (m : Nat) (rows : List (List Int)) : Bool := rows.all (rowB m)
def tableB (names : List ByteArray) (rows : List (List Int)) : Bool := namesB names && (decide (rows.length ≤ 16) && rowsB names.length rows)
theorem nameAt_some {xs : List ByteArray} {k : Nat} {x : ByteArray} (h : xs[k]? = some x) : nameAt xs k = (nameB x && !hasW (xs.take k) x) := by simp [nameAt, h]
theorem namesB_bad {xs : List ByteArray} {k : Nat} (hk : k < xs.length) (h : nameAt xs k = false) : namesB xs = false := by
  unfold namesB
  have : (List.range xs.length).all (nameAt xs) = false := by
    rw [List.all_eq_false]
    exact ⟨k, List.mem_range.2 hk, by simp [h]⟩
  rw [this]; rfl
theorem namesB_good {xs : List ByteArray} (h : ∀ j, j < xs.length → nameAt xs j = true) : namesB xs = inB xs.length 1 6 := by
  unfold namesB
  have : (List.range xs.length).all (nameAt xs) = true := List.all_eq_true.2 fun j hj => h j (List.mem_range.1 hj)
  rw [this, Bool.true_and]
theorem rowsB_bad {m : Nat} {rows : List (List Int)} {k : Nat} {r : List Int} (h : rows[k]? = some r) (hb : rowB m r = false) : rowsB m rows = false := by
  unfold rowsB
  rw [List.all_eq_false]
  exact ⟨r, List.mem_of_getElem? h, by simp [hb]⟩
theorem rowsB_good {m : Nat} {rows : List (List Int)} (h : ∀ j r, j < rows.length → rows[j]? = some r → rowB m r = true) : rowsB m rows = true := by
  unfold rowsB
  rw [List.all_eq_true]
  intro r hr
  obtain ⟨j, hj, e⟩ := List.getElem_of_mem hr
  exact h j r hj (by rw [List.getElem?_eq_getElem hj, e])
theorem Reads.first {w : World} {B size n k : Nat} {A : Option Addr} {xs : List Value} (h : Reads w B size A n xs) (hk : k ≤ n) : Reads w B size A k (xs.take (k * size)) := by
  have hle : k * size ≤ n * size := Nat.mul_le_mul_right _ hk
  refine ⟨by rw [List.length_take, h.1]; omega, fun h0 => ?_⟩
  obtain ⟨ad, e, hb, hc⟩ := h.2 (by omega)
  refine ⟨ad, e, hb, fun j u hu => hc j u ?_⟩
  rw [List.getElem?_take] at hu
  split at hu
  · exact hu
  · cases hu
theorem Reads.firstS {w : World} {B n k : Nat} {A : Option Addr} {xs : List ByteArray} (h : Reads w B 1 A n (stCells xs)) (hk : k ≤ n) : Reads w B 1 A k (stCells (xs.take k)) := by
  have := h.first hk
  rw [Nat.mul_one] at this
  unfold stCells at this ⊢
  rw [List.map_take]
  exact this

set_option maxHeartbeats 800000 in
theorem columns_any (q : Bool) (A : Option Addr) (n c : Nat) (xs : List ByteArray) (RA : Option Addr) (RC : Nat) (w : World) (hv : w.cell? ⟨0, 0, none⟩ = some (.slice RA 13 RC)) (hr : Reads w w.heap.size 1 RA 13 (stCells resW))
    (hxn : xs.length = n) (hx : Reads w w.heap.size 1 A n (stCells xs)) (hn : n ≤ 1000000000) (hc : n ≤ c) (hs : ∀ x ∈ xs, x.size ≤ 9223372036854775807) (hq : namesB xs = q) :
    Calls Tryd.prog 32 #[.slice A n c] w fun e w' => e = .returned (.bool q) ∧ w = w' := by
  have HX := Lib.hid hxn
  have HQ := Lib.hid hq
  have HS := Lib.hid hs
  have HN := Lib.hid (fun (q : Bool) (s : ByteArray) (h1 : s.size ≤ 9223372036854775807) (h2 : nameB s = q) => implName_any q s RA RC w hv hr h1 h2)
  clear hxn hq hv hr hs
  go_enter Tryd.func32, Tryd.ntmps32
  go_wp2_with fail
  go_loop [3, 4, 7] (fun _ _ v => ∃ k : Nat, k ≤ n ∧ v = .int .i64 k ∧ Hid (∀ j, j < k → nameAt xs j = true)) (fun _ _ v => n - (intOf v).toNat)
  case atStart => exact ⟨0, Nat.zero_le _, rfl, fun j hj => by omega⟩
  case round =>
    obtain ⟨k, hk, rfl, hok⟩ := hrel
    have hk0 : (0 : Int) ≤ (k : Int) := Int.natCast_nonneg _
    by_cases hlt : k < n
    · obtain ⟨ad, y, rfl, _, hy, e1⟩ := st_at hx HX.out hlt
      have hk1 : (k : Int) < (n : Int) := by omega
      have hk2 : (k : Int) ≤ (c : Int) := by omega
      have HY := Lib.hid hy
      obtain ⟨p, hp⟩ : ∃ p, nameB y = p := ⟨_, rfl⟩
      have NM := Lib.hid (HN.out p y (HS.out y (List.mem_of_getElem? hy)) hp)
      have HP := Lib.hid hp
      obtain ⟨u, hu⟩ : ∃ u, hasW (xs.take k) y = u := ⟨_, rfl⟩
      have HU := Lib.hid hu
      have CT := Lib.hid (containsStr_any u (some ad) k c (xs.take k) y w w.heap.size (by have := HX.out; rw [List.length_take]; omega) (hx.firstS (Nat.le_of_lt hlt)) (by omega) hu)
      clear hy hp hu hx
      go_wp2_with fail
      refine NM.out.mono ?_
      rintro e w' ⟨rfl, rfl⟩
      cases p
      · go_wp2_with fail
        go_ret
        exact ⟨ret_bool (by rw [← HQ.out, namesB_bad (k := k) (by rw [HX.out]; exact hlt) (by rw [nameAt_some HY.out, HP.out]; rfl)]), rfl⟩
      · go_wp2_with fail
        refine CT.out.mono ?_
        rintro e w' ⟨rfl, rfl⟩
        cases u
        · go_wp2_with fail
          go_round
          case rel =>
            refine ⟨k + 1, by omega, by go_num, fun j hj => ?_⟩
            rcases Nat.lt_succ_iff_lt_or_eq.1 hj with h | rfl
            · exact hok.out j h
            · rw [nameAt_some HY.out, HP.out, HU.out]; rfl
          case measure => simp [intOf]; omega
        · go_wp2_with fail
          go_ret
          exact ⟨ret_bool (by rw [← HQ.out, namesB_bad (k := k) (by rw [HX.out]; exact hlt) (by rw [nameAt_some HY.out, HP.out, HU.out]; rfl)]), rfl⟩
    · obtain rfl : k = n := by omega
      have IN := Lib.hid (in_is q (k : Int) 1 6 w (by rw [← HQ.out, namesB_good (by rw [HX.out]; exact hok.out), HX.out]))
      clear hx
      go_wp2_with fail
      refine IN.out.mono ?_
      rintro e w' ⟨rfl, rfl⟩
      go_wp2_with fail
      go_ret
      exact ⟨rfl, rfl⟩

set_option maxHeartbeats 400000 in
theorem isValue_is (q : Bool) (x : Int) (w : World) (hq : valB x = q) : Calls Tryd.prog 55 #[.int .i64 x] w fun e w' => e = .returned (.bool q) ∧ w = w' := by
  have H := Lib.hid (in_is q x (-100000) 100000 w hq)
  clear hq
  go_enter Tryd.func55, Tryd.ntmps55
  go_wp2_with fail
  refine H.out.mono ?_
  rintro e w' ⟨rfl, rfl⟩
  go_wp2_with fail
  go_ret
  exact ⟨rfl, rfl⟩
set_option maxHeartbeats 400000 in
theorem rowsFit1_is (q : Bool) (x : Int) (w : World) (hq : valB x = q) : Calls Tryd.prog 54 #[.int .i64 x] w fun e w' => e = .returned (.bool !q) ∧ w = w' := by
  have H := Lib.hid (isValue_is q x w hq)
  clear hq
  go_enter Tryd.func54, Tryd.ntmps54
  go_wp2_with fail
  refine H.out.mono ?_
  rintro e w' ⟨rfl, rfl⟩
  go_wp2_with fail
  go_ret
  exact ⟨rfl, rfl⟩
set_option maxHeartbeats 800000 in
theorem indexVal_any (q : Bool) (A : Option Addr) (n c : Nat) (xs : List Int) (w : World) (B : Nat) (hxn : xs.length = n) (hx : Reads w B 1 A n (inCells xs)) (hn : n ≤ 1000000000) (hq : xs.all valB = q) :
    Calls Tryd.prog 60 #[.slice A n c, .func (.func 54) #[] #[]] w fun e w' => ∃ r : Int, e = .returned (.int .i64 r) ∧ decide (0 ≤ r) = !q ∧ w = w' := by
  have HX := Lib.hid hxn
  have HQ := Lib.hid hq
  clear hxn hq
  go_enter Tryd.func60, Tryd.ntmps60
  go_wp2_with fail
  go_loop [5, 8] (fun _ v => ∃ k : Nat, k ≤ n ∧ v = .int .i64 k ∧ Hid ((xs.take k).all valB = true)) (fun _ v => n - (intOf v).toNat)
  case atStart => exact ⟨0, Nat.zero_le _, rfl, rfl⟩
  case round =>
    obtain ⟨k, hk, rfl, hok⟩ := hrel
    have hk0 : (0 : Int) ≤ (k : Int) := Int.natCast_nonneg _
    by_cases hlt : k < n
    · obtain ⟨ad, y, rfl, _, hy, e1⟩ := in_at hx HX.out hlt
      have hk1 : (k : Int) < (n : Int) := by omega
      obtain ⟨p, hp⟩ : ∃ p, valB y = p := ⟨_, rfl⟩
      have HY := Lib.hid hy
      have HP := Lib.hid hp
      have RF := Lib.hid (rowsFit1_is p y w hp)
      clear hy hp hx
      go_wp2_with fail
      refine RF.out.mono ?_
      rintro e w' ⟨rfl, rfl⟩
      cases p
      · go_wp2_with fail
        go_ret
        refine ⟨_, rfl, ?_, rfl⟩
        have : xs.all valB = false := by rw [List.all_eq_false]; exact ⟨y, List.mem_of_getElem? HY.out, by simp [HP.out]⟩
        rw [← HQ.out, this]
        simp
      · go_wp2_with fail
        go_round
        case rel =>
          refine ⟨k + 1, by omega, by go_num, ?_⟩
          unfold Hid
          rw [List.take_add_one, HY.out, List.all_append, hok.out]
          simp [HP.out]
        case measure => simp [intOf]; omega
    · obtain rfl : k = n := by omega
      clear hx
      go_wp2_with fail
      go_ret
      refine ⟨_, rfl, ?_, rfl⟩
      have h := hok.out
      rw [List.take_of_length_le (by have := HX.out; omega)] at h
      rw [← HQ.out, h]
      simp
set_option maxHeartbeats 400000 in
theorem containsVal_any (q : Bool) (A : Option Addr) (n c : Nat) (xs : List Int) (w : World) (B : Nat) (hxn : xs.length = n) (hx : Reads w B 1 A n (inCells xs)) (hn : n ≤ 1000000000) (hq : xs.all valB = q) :
    Calls Tryd.prog 53 #[.slice A n c, .func (.func 54) #[] #[]] w fun e w' => e = .returned (.bool !q) ∧ w = w' := by
  have HQ := Lib.hid hq
  clear hq
  go_enter Tryd.func53, Tryd.ntmps53
  go_wp2_with fail
  refine (indexVal_any q A n c xs _ B hxn hx hn HQ.out).mono ?_
  rintro e w' ⟨r, rfl, hr, rfl⟩
  by_cases h0 : 0 ≤ r
  · go_wp2_with fail
    go_ret
    exact ⟨ret_bool (by rw [← hr] <;> simp [h0]), rfl⟩
  · go_wp2_with fail
    go_ret
    exact ⟨ret_bool (by rw [← hr] <;> simp [h0]), rfl⟩
set_option maxHeartbeats 800000 in
theorem rowsFit_any (q : Bool) (A : Option Addr) (m c : Nat) (B : Option Addr) (n d : Nat) (rows : List (List Int)) (w : World) (hx : RowsR w w.heap.size B n rows) (hn : n ≤ 1000000000) (hl : ∀ r ∈ rows, r.length ≤ 1000000000) (hm : m ≤ 9223372036854775807) (hq : rowsB m rows = q) :
    Calls Tryd.prog 33 #[.slice A m c, .slice B n d] w fun e w' => e = .returned (.bool q) ∧ w = w' := by
  have HQ := Lib.hid hq
  have HL := Lib.hid hl
  clear hq hl
  go_enter Tryd.func33, Tryd.ntmps33
  go_wp2_with fail
  go_loop [6, 9] (fun _ v => ∃ k : Nat, k ≤ n ∧ v = .int .i64 k ∧ Hid (∀ j r, j < k → rows[j]? = some r → rowB m r = true)) (fun _ v => n - (intOf v).toNat)
  case atStart => exact ⟨0, Nat.zero_le _, rfl, fun j r hj => by omega⟩
  case round =>
    obtain ⟨k, hk, rfl, hok⟩ := hrel
    have hk0 : (0 : Int) ≤ (k : Int) := Int.natCast_nonneg _
    by_cases hlt : k < n
    · obtain ⟨ad, row, Ak, ck, rfl, _, hrow, e1, g1, g2, g3, rr⟩ := hx.at_ hlt
      have hk1 : (k : Int) < (n : Int) := by omega
      have hrl := HL.out row (List.mem_of_getElem? hrow)
      obtain ⟨p, hp⟩ : ∃ p, row.all valB = p := ⟨_, rfl⟩
      have CV := Lib.hid (containsVal_any p Ak row.length ck row w w.heap.size rfl rr hrl hp)
      have HP := Lib.hid hp
      have HR := Lib.hid hrow
      clear hp hrow g3 rr hx
      by_cases hlm : row.length = m
      · subst hlm
        go_wp2_with fail
        refine CV.out.mono ?_
        rintro e w' ⟨rfl, rfl⟩
        cases p
        · go_wp2_with fail
          go_ret
          exact ⟨ret_bool (by rw [← HQ.out, rowsB_bad HR.out (by unfold rowB; rw [HP.out]; simp)]), rfl⟩
        · go_wp2_with fail
          go_round
          case rel =>
            refine ⟨k + 1, by omega, by go_num, fun j r hj hr => ?_⟩
            rcases Nat.lt_succ_iff_lt_or_eq.1 hj with h | rfl
            · exact hok.out j r h hr
            · obtain rfl := Option.some.inj (HR.out.symm.trans hr)
              unfold rowB; rw [HP.out]; simp
          case measure => simp [intOf]; omega
      · have hne : ((row.length : Int) == (m : Int)) = false := by simp only [beq_eq_false_iff_ne]; omega
        have hne2 : ¬ (row.length : Int) = (m : Int) := by omega
        go_wp2_with fail
        go_ret
        exact ⟨ret_bool (by rw [← HQ.out, rowsB_bad HR.out (by unfold rowB; rw [decide_eq_false hlm]; rfl)]), rfl⟩
    · obtain rfl : k = n := by omega
      have hfin : q = true := by rw [← HQ.out]; exact rowsB_good (by rw [hx.len]; exact fun j r hj hr => hok.out j r hj hr)
      subst hfin
      clear hx
      go_wp2_with fail
      go_ret
      exact ⟨rfl, rfl⟩
end Go.Proofs.YtijpdekcdejfmaaDoor
