/- impl.ColumnOf, spec.ColumnOf, and what they call. -/
import Derived.Test.YtijpdekcdejfmaaDoorTableW
namespace Go.Proofs.YtijpdekcdejfmaaDoor
open Go Go.RowKit
set_option maxRecDepth 100000

/-- r is the number of the first y in xs; -1 if there is none. -/
def ColIs (xs : List ByteArray) (y : ByteArray) (r : Int) : Prop := (r = -1 ∧ hasW xs y = false) ∨ ∃ k : Nat, r = (k : Int) ∧ k < xs.length ∧ xs[k]? = some y ∧ hasW (xs.take k) y = false
theorem hasW_mem {xs : List ByteArray} {y : ByteArray} {k : Nat} (h : xs[k]? = some y) : hasW xs y = true := List.any_eq_true.2 ⟨y, List.mem_of_getElem? h, by simp⟩
theorem ColIs.uniq {xs : List ByteArray} {y : ByteArray} {r s : Int} (h : ColIs xs y r) (g : ColIs xs y s) : r = s := by
  have lt : ∀ {k j : Nat}, xs[k]? = some y → hasW (xs.take j) y = false → j ≤ k := by
    intro k j hk hj
    rcases Nat.lt_or_ge k j with h | h
    · rw [hasW_mem (k := k) (by rw [List.getElem?_take, if_pos h]; exact hk)] at hj
      cases hj
    · exact h
  rcases h with ⟨rfl, h⟩ | ⟨k, rfl, _, hk, h⟩
  · rcases g with ⟨rfl, g⟩ | ⟨j, rfl, _, hj, g⟩
    · rfl
    · rw [hasW_mem hj] at h; cases h
  · rcases g with ⟨rfl, g⟩ | ⟨j, rfl, _, hj, g⟩
    · rw [hasW_mem hk] at g; cases g
    · have h1 := lt hk g
      have h2 := lt hj h
      omega
theorem ColIs.ex (xs : List ByteArray) (y : ByteArray) : ∃ r, ColIs xs y r := by
  induction xs with
  | nil => exact ⟨-1, .inl ⟨rfl, rfl⟩⟩
  | cons x xs ih =>
    by_cases hxy : y = x
    · subst hxy; exact ⟨0, .inr ⟨0, rfl, by simp, rfl, rfl⟩⟩
    · obtain ⟨r, ⟨rfl, h⟩ | ⟨k, rfl, h1, h2, h3⟩⟩ := ih
      · exact ⟨-1, .inl ⟨rfl, by unfold hasW at h ⊢; simp [hxy] at h ⊢; exact h⟩⟩
      · exact ⟨(k + 1 : Nat), .inr ⟨k + 1, rfl, by simp; omega, by simpa using h2, by unfold hasW at h3 ⊢; rw [List.take_succ_cons, List.any_cons, h3]; simp [hxy]⟩⟩

set_option maxHeartbeats 400000 in
theorem indexStr_is (r : Int) (A : Option Addr) (n c : Nat) (xs : List ByteArray) (x : ByteArray) (w : World) (B : Nat) (hxn : xs.length = n) (hx : Reads w B 1 A n (stCells xs)) (hn : n ≤ 1000000000) (hq : ColIs xs x r) :
    Calls Tryd.prog 35 #[.slice A n c, .string x] w fun e w' => e = .returned (.int .i64 r) ∧ w = w' := by
  have HX := Lib.hid hxn
  have HQ := Lib.hid hq
  clear hxn hq
  go_enter Tryd.func35, Tryd.ntmps35
  go_wp2
  go_loop [5, 8] (fun _ v => ∃ k : Nat, k ≤ n ∧ v = .int .i64 k ∧ hasW (xs.take k) x = false) (fun _ v => n - (intOf v).toNat)
  case atStart => exact ⟨0, Nat.zero_le _, rfl, rfl⟩
  case round =>
    obtain ⟨k, hk, rfl, hno⟩ := hrel
    have HN := Lib.hid hno
    clear hno
    by_cases hlt : k < n
    · obtain ⟨ad, y, rfl, _, hy, e1⟩ := st_at hx HX.out hlt
      have HY := Lib.hid hy
      clear hy hx
      by_cases hxy : x = y
      · subst hxy
        obtain rfl : r = (k : Int) := HQ.out.uniq (.inr ⟨k, rfl, by have := HX.out; omega, HY.out, HN.out⟩)
        go_wp2
        go_ret
        exact ⟨rfl, rfl⟩
      · have hne := str_ne hxy
        go_wp2
        go_round
        case rel =>
          refine ⟨k + 1, by omega, by go_num, ?_⟩
          unfold hasW
          rw [List.take_add_one, HY.out, List.any_append, show ((xs.take k).any fun y => decide (x = y)) = false from HN.out]
          simp [hxy]
        case measure => simp [intOf]; omega
    · obtain rfl : k = n := by omega
      have h := HN.out
      rw [List.take_of_length_le (by have := HX.out; omega)] at h
      obtain rfl : r = -1 := HQ.out.uniq (.inl ⟨rfl, h⟩)
      clear h
      go_wp2
      go_ret
      exact ⟨rfl, rfl⟩
set_option maxHeartbeats 400000 in
theorem l1Column_is (r : Int) (A : Option Addr) (n c : Nat) (xs : List ByteArray) (x : ByteArray) (w : World) (B : Nat) (hxn : xs.length = n) (hx : Reads w B 1 A n (stCells xs)) (hn : n ≤ 1000000000) (hq : ColIs xs x r) :
    Calls Tryd.prog 29 #[.slice A n c, .string x] w fun e w' => e = .returned (.int .i64 r) ∧ w = w' := by
  have HX := Lib.hid hxn
  have HQ := Lib.hid hq
  clear hxn hq
  go_enter Tryd.func29, Tryd.ntmps29
  go_wp2
  go_loop [5] (fun v => ∃ k : Nat, k ≤ n ∧ v = .int .i64 k ∧ hasW (xs.take k) x = false) (fun v => n - (intOf v).toNat)
  case atStart => exact ⟨0, Nat.zero_le _, rfl, rfl⟩
  case round =>
    obtain ⟨k, hk, rfl, hno⟩ := hrel
    have HN := Lib.hid hno
    clear hno
    have hk0 : (0 : Int) ≤ (k : Int) := Int.natCast_nonneg _
    by_cases hlt : k < n
    · obtain ⟨ad, y, rfl, _, hy, e1⟩ := st_at hx HX.out hlt
      have HY := Lib.hid hy
      have hk1 : (k : Int) < (n : Int) := by omega
      clear hy hx
      by_cases hxy : y = x
      · subst hxy
        obtain rfl : r = (k : Int) := HQ.out.uniq (.inr ⟨k, rfl, by have := HX.out; omega, HY.out, HN.out⟩)
        go_wp2
        go_ret
        exact ⟨rfl, rfl⟩
      · have hne := str_ne hxy
        go_wp2
        go_round
        case rel =>
          refine ⟨k + 1, by omega, by go_num, ?_⟩
          unfold hasW
          rw [List.take_add_one, HY.out, List.any_append, show ((xs.take k).any fun y => decide (x = y)) = false from HN.out]
          simp [Ne.symm hxy]
        case measure => simp [intOf]; omega
    · obtain rfl : k = n := by omega
      have h := HN.out
      rw [List.take_of_length_le (by have := HX.out; omega)] at h
      obtain rfl : r = -1 := HQ.out.uniq (.inl ⟨rfl, h⟩)
      clear h
      go_wp2
      go_ret
      exact ⟨rfl, rfl⟩
set_option maxHeartbeats 800000 in
theorem implCol_any (q : Bool) (c : Int) (v : Value) (names : List ByteArray) (rows : List (List Int)) (y : ByteArray) (RA : Option Addr) (RC : Nat) (w : World) (hv : w.cell? ⟨0, 0, none⟩ = some (.slice RA 13 RC)) (hr : Reads w w.heap.size 1 RA 13 (stCells resW)) (ht : TabR w v names rows) (hs : TabOk names rows) (hq : tableB names rows = q) (hc : ColIs names y c) :
    Calls Tryd.prog 16 #[v, .string y] w fun e w' => e = .returned (.int .i64 (if q then c else -1)) ∧ Below w.heap.size w w' := by
  have HT := Lib.hid ht
  obtain ⟨A, c', B, d', rfl, _, hx, _⟩ := ht
  have HX := Lib.hid (fun (wr : World) (hb : Below w.heap.size w wr) => hx.below hb)
  have hn1 := hs.n1
  obtain ⟨n, hnn⟩ : ∃ n, names.length = n := ⟨_, rfl⟩
  obtain ⟨m, hmm⟩ : ∃ m, rows.length = m := ⟨_, rfl⟩
  rw [hnn, hmm] at HT
  rw [hnn] at HX hn1
  rw [hnn, hmm]
  obtain ⟨w1, hw1⟩ : ∃ w1, w1 = w.alloc (.cells #[.slice A n c', .slice B m d'] 26) := ⟨_, rfl⟩
  have b1 : Below w.heap.size w w1 := by rw [hw1]; exact (Below.refl _ _).alloc (Nat.le_refl _) _
  have kb : Blk w1 w.heap.size 26 #[.slice A n c', .slice B m d'] := by rw [hw1]; exact Blk.new _ _ _
  have KB := Lib.hid (fun (wr : World) (hb : Below w1.heap.size w1 wr) => kb.below hb kb.lt)
  have IM := Lib.hid (implTab_any q _ names rows RA RC w1 (below_keep b1 hv) ((hr.below b1).more b1.size) (HT.out.below b1) hs hq)
  have c0 := kb.cell 0
  have c1 := kb.cell 1
  simp at c0 c1
  have HW := Lib.hid hw1
  have HC := Lib.hid hc
  have HN := Lib.hid hnn
  clear hx hs hq hc kb hv hr hnn hmm
  go_enter Tryd.func16, Tryd.ntmps16
  go_wp2_with fail
  rw [← HW.out]
  clear hw1
  refine IM.out.mono ?_
  rintro e w2 ⟨rfl, b2⟩
  have B2 := b1.trans (b2.mono b1.size)
  cases q
  · go_wp2_with fail
    go_ret
    exact ⟨rfl, B2⟩
  · have d0 := (KB.out w2 b2).cell 0
    have IX := Lib.hid (indexStr_is c A n c' names y w2 _ HN.out (HX.out w2 B2) hn1 HC.out)
    simp at d0
    clear c0 c1
    go_wp2_with fail
    refine IX.out.mono ?_
    rintro e w3 ⟨rfl, rfl⟩
    go_wp2_with fail
    go_ret
    exact ⟨rfl, B2⟩
end Go.Proofs.YtijpdekcdejfmaaDoor
