/- laws.markIntSS, heldIntSS, markTable, heldTable. -/
import Derived.Test.YtldpcjkfkcbfmaaDoorMarkP
namespace Go.Proofs.YtldpcjkfkcbfmaaDoor
open Go Go.RowKit
set_option maxRecDepth 100000

set_option maxHeartbeats 800000 in
theorem markIntSS_own (G cap lo hi : Nat) (n k : Nat) (vs : List Value) (rows : List (List Int)) (w : World) (hn0 : rows.length = n) (hv : RowsV w lo hi (.slice (some ⟨G, 0, none⟩) n cap) vs rows) (hk : k + total rows ≤ 100000000000000) (hn : n ≤ 1000000000) (hl : ∀ r ∈ rows, r.length ≤ 1000000000) :
    Calls Tryd.prog 31 #[.slice (some ⟨G, 0, none⟩) n cap, .int .i64 k] w fun e w' => e = .returned (.int .i64 (k + total rows : Nat)) ∧ RowsV w' lo hi (.slice (some ⟨G, 0, none⟩) n cap) vs (rowMarks k rows) ∧ Only (fun g => ∃ (j : Nat) (u : Value), vs[j]? = some u ∧ u.ownBlock = some g) w w' := by
  have HN := Lib.hid hn0
  have HL := Lib.hid hl
  have HVL := Lib.hid hv.len
  clear hl
  go_enter Tryd.func31, Tryd.ntmps31
  go_wp2_with fail
  go_loopw [1, 5] (fun q i wr => ∃ j : Nat, j ≤ n ∧ i = .int .i64 j ∧ q = .int .i64 (k + total (rows.take j) : Nat) ∧ Hid (RowsV wr lo hi (.slice (some ⟨G, 0, none⟩) n cap) vs (rowMarks k (rows.take j) ++ rows.drop j)) ∧ Hid (Only (fun g => ∃ (j : Nat) (u : Value), vs[j]? = some u ∧ u.ownBlock = some g) w wr)) (fun _ i _ => n - (intOf i).toNat)
  case atStart => exact ⟨0, Nat.zero_le _, rfl, by simp [total], by unfold Hid; simpa [rowMarks] using hv, Only.refl _ _⟩
  case round =>
    clear hv
    obtain ⟨j, hj, rfl, rfl, hv, ho⟩ := hrel
    have hj0 : (0 : Int) ≤ (j : Int) := Int.natCast_nonneg _
    by_cases hlt : j < n
    · have hj1 : (j : Int) < (n : Int) := by omega
      obtain ⟨r, hr⟩ : ∃ r, rows[j]? = some r := ⟨_, List.getElem?_eq_getElem (by omega)⟩
      obtain ⟨u, hu⟩ : ∃ u, vs[j]? = some u := ⟨_, List.getElem?_eq_getElem (by have := HVL.out; omega)⟩
      have hrow := hv.out.row j u r hu (marks_at hr k)
      have e1 : wr.cell? ⟨G, j, none⟩ = some u := own_at hv.out.own hu
      have MK := Lib.hid (markIntS_any lo r.length ((k + total (rows.take j) : Nat) : Int) u _ wr hrow (by omega) (by have := total_take rows j; omega) (HL.out r (List.mem_of_getElem? hr)))
      obtain ⟨Au, cu, rfl, _, _⟩ := own_form hrow
      have HR := Lib.hid hr
      have HU := Lib.hid hu
      clear hrow hr hu
      go_wp2_with fail
      refine MK.out.mono ?_
      rintro e w2 ⟨rfl, o2, g2⟩
      have V2 := Lib.hid (hv.out.write (r' := inMarks ((k + total (rows.take j) : Nat) : Int) r.length) HU.out (marks_at HR.out k) g2 (by rw [inMarks_length]; exact o2))
      have O2 := Lib.hid (ho.out.grown g2 (fun g e => ⟨j, _, HU.out, e⟩))
      have HT := Lib.hid (total_step HR.out)
      clear o2 g2 hv ho e1
      go_wp2_with fail
      go_roundw
      case rel => exact ⟨j + 1, by omega, by go_num, by rw [HT.out]; go_num, by rw [← marks_set HR.out k]; exact V2.out, O2.out⟩
      case measure => simp [intOf]; omega
    · obtain rfl : j = n := by omega
      have e : rows.take rows.length = rows := List.take_length
      go_wp2_with fail
      go_ret
      have h1 := hv.out
      rw [← HN.out, List.take_length, List.drop_length, List.append_nil] at h1
      rw [HN.out] at h1
      refine ⟨?_, h1, ho.out⟩
      rw [← HN.out, List.take_length]
      rfl
theorem markIntSS_any (lo hi : Nat) (k : Nat) (v : Value) (vs : List Value) (rows : List (List Int)) (w : World) (hv : RowsV w lo hi v vs rows) (hk : k + total rows ≤ 100000000000000) (hn : rows.length ≤ 1000000000) (hl : ∀ r ∈ rows, r.length ≤ 1000000000) :
    Calls Tryd.prog 31 #[v, .int .i64 k] w fun e w' => e = .returned (.int .i64 (k + total rows : Nat)) ∧ RowsV w' lo hi v vs (rowMarks k rows) ∧ Only (fun g => ∃ (j : Nat) (u : Value), vs[j]? = some u ∧ u.ownBlock = some g) w w' := by
  rcases own_cases hv.own with ⟨rfl, h0, rfl⟩ | ⟨g, cap, rfl⟩
  · obtain rfl : rows = [] := List.eq_nil_of_length_eq_zero h0
    go_enter Tryd.func31, Tryd.ntmps31
    go_wp2
    refine wp_loop_rounds 1 ?_
    rw [rounds_succ]
    go_wp2
    go_ret
    exact ⟨ret_int (by simp [total]), hv, Only.refl _ _⟩
  · exact markIntSS_own g cap lo hi _ k vs rows w rfl hv hk hn hl
set_option maxHeartbeats 800000 in
theorem heldIntSS_any (A : Option Addr) (n c k : Nat) (rows : List (List Int)) (w : World) (hx : RowsR w w.heap.size A n (rowMarks k rows)) (hk : k + total rows ≤ 100000000000000) (hn : n ≤ 1000000000) (hl : ∀ r ∈ rows, r.length ≤ 1000000000) :
    Calls Tryd.prog 33 #[.slice A n c, .int .i64 k] w fun e w' => e = .returned (.int .i64 (k + total rows : Nat)) ∧ w = w' := by
  have HN := Lib.hid (show rows.length = n by have := hx.len; rwa [rowMarks_length] at this)
  have HL := Lib.hid hl
  clear hl
  go_enter Tryd.func33, Tryd.ntmps33
  go_wp2_with fail
  go_loop [1, 5] (fun q i => ∃ j : Nat, j ≤ n ∧ i = .int .i64 j ∧ q = .int .i64 (k + total (rows.take j) : Nat)) (fun _ i => n - (intOf i).toNat)
  case atStart => exact ⟨0, Nat.zero_le _, rfl, by simp [total]⟩
  case round =>
    obtain ⟨j, hj, rfl, rfl⟩ := hrel
    have hj0 : (0 : Int) ≤ (j : Int) := Int.natCast_nonneg _
    by_cases hlt : j < n
    · have hj1 : (j : Int) < (n : Int) := by omega
      obtain ⟨r, hr⟩ : ∃ r, rows[j]? = some r := ⟨_, List.getElem?_eq_getElem (by have := HN.out; omega)⟩
      obtain ⟨ad, row, Ak, ck, rfl, _, hrow, e1, g1, g2, g3, rr⟩ := hx.at_ hlt
      obtain rfl : row = inMarks ((k + total (rows.take j) : Nat) : Int) r.length := Option.some.inj (hrow.symm.trans (rowMarks_at hr k))
      rw [inMarks_length] at e1 rr
      have HT := Lib.hid (total_step hr)
      have hT := total_take rows j
      have hT' := total_take rows (j + 1)
      have hT2 := HT.out
      have HE := Lib.hid (heldIntS_any Ak r.length ck ((k + total (rows.take j) : Nat) : Int) w rr (by omega) (by omega) (HL.out r (List.mem_of_getElem? hr)))
      clear hrow g1 g3 rr hx hr
      go_wp2_with fail
      refine HE.out.mono ?_
      rintro e w2 ⟨rfl, rfl⟩
      go_wp2_with fail
      go_round
      case rel => exact ⟨j + 1, by omega, by go_num, by rw [HT.out]; go_num⟩
      case measure => simp [intOf]; omega
    · obtain rfl : j = n := by omega
      clear hx
      go_wp2_with fail
      go_ret
      refine ⟨?_, rfl⟩
      rw [← HN.out, List.take_length]
      rfl
theorem RowsV.off_own {w w' : World} {lo hi b n z : Nat} {e0 : TypeId} {v v0 : Value} {vs xs : List Value} {rows : List (List Int)} (h : RowsV w lo hi v vs rows) (h0 : w.ownsRow b e0 z v0 n xs) (h1 : 44 ≠ e0) (h2 : 3 ≠ e0) (hg : w.grownBy w' v0.ownBlock) : RowsV w' lo hi v vs rows :=
  ⟨h.len, own_block h.own (fun g e => hg.block g (h.own.lt g e).2 (fun e' => own_types h.own h0 h1 g e e'.symm)), h.top, fun k u r hu hr => own_block (h.row k u r hu hr) (fun g e => hg.block g ((h.row k u r hu hr).lt g e).2 (fun e' => own_types (h.row k u r hu hr) h0 h2 g e e'.symm)), h.under, h.off, h.apart⟩
theorem RowsV.rowAt {w : World} {lo hi : Nat} {v : Value} {vs : List Value} {rows : List (List Int)} (h : RowsV w lo hi v vs rows) {k : Nat} {u : Value} (hu : vs[k]? = some u) : ∃ r, rows[k]? = some r := by
  have h1 := (List.getElem?_eq_some_iff.1 hu).1
  exact ⟨_, List.getElem?_eq_getElem (by have := h.len; omega)⟩
theorem Small.total {names : List ByteArray} {rows : List (List Int)} (h : Small names rows) : total rows ≤ 1100000000000 := by
  have h1 := total_le 1048576 rows h.r2
  have h2 := Nat.mul_le_mul_right 1048576 h.r1
  omega
set_option maxHeartbeats 800000 in
theorem markTable_any (lo hi k : Nat) (v : Value) (names : List ByteArray) (rows : List (List Int)) (w : World) (hv : TabV w lo hi v names rows) (hh : hi ≤ w.heap.size) (hs : Small names rows) (hk : k ≤ 2500000000000) :
    Calls Tryd.prog 11 #[v, .int .i64 k] w fun e w' => e = .returned (.int .i64 (k + names.length + total rows : Nat)) ∧ TabV w' lo hi v (stMarks k names.length) (rowMarks (k + names.length) rows) ∧ Touch lo hi w w' := by
  obtain ⟨v0, v1, rfl, h0, htop, ⟨vs, h1⟩⟩ := hv
  have HT := hs.total
  have hn1 := hs.n1
  have hr1 := hs.r1
  have hr2 := fun r h => Nat.le_trans (hs.r2 r h) (show 1048576 ≤ 1000000000 by omega)
  obtain ⟨w1, hw1⟩ : ∃ w1, w1 = w.alloc (.cells #[v0, v1] 27) := ⟨_, rfl⟩
  have b1 : Below w.heap.size w w1 := by rw [hw1]; exact (Below.refl _ _).alloc (Nat.le_refl _) _
  have kb : Blk w1 w.heap.size 27 #[v0, v1] := by rw [hw1]; exact Blk.new _ _ _
  have h0' := own_below h0 b1
  have h1' := h1.below b1
  have MS := Lib.hid (markStringS_any lo names.length k v0 _ w1 h0' (by omega) (by omega))
  have MI := Lib.hid (fun (wr : World) (hr : RowsV wr lo hi v1 vs rows) => markIntSS_any lo hi (k + names.length) v1 vs rows wr hr (by omega) (by omega) hr2)
  obtain ⟨A, c, rfl, _, _⟩ := own_form h0
  obtain ⟨B, d, rfl, _⟩ := h1.form
  have HTOP := Lib.hid htop
  have c0 := kb.cell 0
  simp at c0
  have HW := Lib.hid hw1
  have KB := Lib.hid (And.intro kb (And.intro h0' h1'))
  have BB := Lib.hid (And.intro b1 hh)
  obtain ⟨q, hq⟩ : ∃ q : Nat, q = k + names.length := ⟨_, rfl⟩
  rw [← hq] at MS MI ⊢
  have HQ := Lib.hid hq
  have h63 : (q : Int) ≤ 2600000000000 := by omega
  clear h0 h1 htop hw1 kb h0' h1' hr2 hs b1 HT hn1 hr1 hk hh hq h63
  go_enter Tryd.func11, Tryd.ntmps11
  go_wp2_with fail
  rw [← HW.out]
  refine MS.out.mono ?_
  rintro e w2 ⟨rfl, o2, g2⟩
  have R2 := Lib.hid (KB.out.2.2.off_own KB.out.2.1 (by decide) (by decide) g2)
  have P2 := Lib.hid (KB.out.1.grown g2 (fun e => by have := HTOP.out _ e.symm; have := BB.out.2; omega))
  have T2 := Lib.hid ((Touch.of_below (lo := lo) (hi := hi) BB.out.1).grown g2 (fun g e => Or.inl ⟨(KB.out.2.1.lt g e).1, HTOP.out g e⟩))
  have d1 := P2.out.cell 1
  simp at d1
  have MI2 := Lib.hid (MI.out _ R2.out)
  have O2 := Lib.hid o2
  clear c0 o2 g2 MI
  go_wp2_with fail
  refine MI2.out.mono ?_
  rintro e w3 ⟨rfl, r3, on3⟩
  have O3 := on3.own O2.out (fun g e ⟨j, u, hu, hg⟩ => by
    obtain ⟨r, hr⟩ := R2.out.rowAt hu
    exact own_types O2.out (R2.out.row j u r hu hr) (by decide) g e hg)
  have T3 := T2.out.trans (on3.touch (lo := lo) (hi := hi) (fun g ⟨j, u, hu, hg⟩ => by
    obtain ⟨r, hr⟩ := R2.out.rowAt hu
    exact ⟨((R2.out.row j u r hu hr).lt g hg).1, R2.out.under j u g hu hg⟩))
  clear on3 d1
  go_wp2_with fail
  go_ret
  exact ⟨rfl, ⟨_, _, rfl, by rw [stMarks_length]; exact O3, HTOP.out, ⟨vs, r3⟩⟩, T3⟩
set_option maxHeartbeats 800000 in
theorem heldTable_any (k n : Nat) (v : Value) (rows : List (List Int)) (w : World) (hv : TabR w v (stMarks k n) (rowMarks (k + n) rows)) (hk : k ≤ 100000000) (hn : n ≤ 1048576) (hr1 : rows.length ≤ 1048576) (hr2 : ∀ r ∈ rows, r.length ≤ 1048576) :
    Calls Tryd.prog 12 #[v, .int .i64 k] w fun e w' => e = .returned (.int .i64 (k + n + total rows : Nat)) ∧ Below w.heap.size w w' := by
  obtain ⟨A, c, B, d, rfl, _, hx, hy⟩ := hv
  rw [stMarks_length] at hx ⊢
  rw [rowMarks_length] at hy ⊢
  have h1 := total_le 1048576 rows hr2
  have h2 := Nat.mul_le_mul_right 1048576 hr1
  have hr3 := fun r h => Nat.le_trans (hr2 r h) (show 1048576 ≤ 1000000000 by omega)
  have HT : total rows ≤ 1100000000000 := by omega
  obtain ⟨w1, hw1⟩ : ∃ w1, w1 = w.alloc (.cells #[.slice A n c, .slice B rows.length d] 27) := ⟨_, rfl⟩
  have b1 : Below w.heap.size w w1 := by rw [hw1]; exact (Below.refl _ _).alloc (Nat.le_refl _) _
  have kb : Blk w1 w.heap.size 27 #[.slice A n c, .slice B rows.length d] := by rw [hw1]; exact Blk.new _ _ _
  have MS := Lib.hid (heldStringS_any A n c k w1 ((hx.below b1).more b1.size) (by omega) (by omega))
  have MI := Lib.hid (fun (wr : World) (hb : Below w1.heap.size w1 wr) => heldIntSS_any B rows.length d (k + n) rows wr ((hy.below b1).below hb) (by omega) (by omega) hr3)
  have c0 := kb.cell 0
  simp at c0
  have HW := Lib.hid hw1
  have KB := Lib.hid (fun (wr : World) (hb : Below w1.heap.size w1 wr) => kb.below hb kb.lt)
  obtain ⟨q, hq⟩ : ∃ q : Nat, q = k + n := ⟨_, rfl⟩
  obtain ⟨tt, htt⟩ : ∃ tt : Nat, tt = total rows := ⟨_, rfl⟩
  rw [← hq] at MS MI ⊢
  rw [← htt] at MI HT ⊢
  have h63 : (q : Int) ≤ 200000000 := by omega
  have hq0 : (0 : Int) ≤ (q : Int) := by omega
  have hq1 : (0 : Int) ≤ ((q + tt : Nat) : Int) := by omega
  clear hx hy hw1 kb hr2 hr3 h1 h2 hq htt HT hr1 hk
  go_enter Tryd.func12, Tryd.ntmps12
  go_wp2_with fail
  rw [← HW.out]
  refine MS.out.mono ?_
  rintro e w2 ⟨rfl, b2⟩
  have d1 := (KB.out w2 b2).cell 1
  simp at d1
  have MI2 := Lib.hid (MI.out w2 b2)
  have B2 := b1.trans (b2.mono b1.size)
  clear c0 b2
  go_wp2_with fail
  refine MI2.out.mono ?_
  rintro e w3 ⟨rfl, rfl⟩
  go_wp2_with fail
  go_ret
  exact ⟨rfl, B2⟩
end Go.Proofs.YtldpcjkfkcbfmaaDoor
