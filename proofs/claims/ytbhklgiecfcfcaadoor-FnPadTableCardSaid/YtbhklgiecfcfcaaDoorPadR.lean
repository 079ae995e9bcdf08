/- impl.RealRows, spec.RealRows; PaddedValid over tables' values. -/
import Derived.Test.YtbhklgiecfcfcaaDoorPadY
namespace Go.Proofs.YtbhklgiecfcfcaaDoor
open Go Go.RowKit
set_option maxRecDepth 100000
theorem specPad_any (q : Bool) (v : Value) (names : List ByteArray) (rows : List (List Int)) (real : List Bool) (w : World) (ht : PadR w v names rows real) (hs : SmallP names rows real) (hq : padB names rows real = q) :
    Calls Tryd.prog 37 #[v] w fun e w' => e = .returned (.bool q) ∧ Below w.heap.size w w' := by
  obtain ⟨A, c, B, d, C, f, rfl, hc, hx, hy, hz⟩ := ht
  exact padSpec_any q A _ c names B _ d rows C _ f real w rfl hx hy rfl hz (by have := hs.b; omega) hs.t.ok hq
theorem implPad_any (q : Bool) (v : Value) (names : List ByteArray) (rows : List (List Int)) (real : List Bool) (RA : Option Addr) (RC : Nat) (w : World) (hv : w.cell? ⟨0, 0, none⟩ = some (.slice RA 13 RC)) (hr : Reads w w.heap.size 1 RA 13 (stCells resW)) (ht : PadR w v names rows real) (hs : SmallP names rows real) (hq : padB names rows real = q) :
    Calls Tryd.prog 20 #[v] w fun e w' => e = .returned (.bool q) ∧ Below w.heap.size w w' := by
  obtain ⟨A, c, B, d, C, f, rfl, hc, hx, hy, hz⟩ := ht
  exact padImpl_any q A _ c names B _ d rows C _ f real RA RC w hv hr rfl hc hx hy rfl hz (by have := hs.b; omega) hs.t.ok hq
def cntB (real : List Bool) : Nat := real.count true
theorem cnt_next {real : List Bool} {k : Nat} {b : Bool} (h : real[k]? = some b) : cntB (real.take (k + 1)) = cntB (real.take k) + if b then 1 else 0 := by
  unfold cntB
  rw [List.take_add_one, h, List.count_append]
  cases b <;> simp
theorem cnt_le (real : List Bool) : cntB real ≤ real.length := List.count_le_length
set_option maxHeartbeats 800000 in
theorem reals_any (v : Value) (names : List ByteArray) (rows : List (List Int)) (real : List Bool) (w : World) (ht : PadR w v names rows real) (hs : SmallP names rows real) :
    Calls Tryd.prog 35 #[v] w fun e w' => e = .returned (.int .i64 (cntB real)) ∧ Below w.heap.size w w' := by
  obtain ⟨A, c, B, d, C, f, rfl, hc, hx, hy, hz⟩ := ht
  have hb := hs.b
  clear hx hy hc hs
  obtain ⟨n, hnn⟩ : ∃ n, names.length = n := ⟨_, rfl⟩
  obtain ⟨m, hmm⟩ : ∃ m, rows.length = m := ⟨_, rfl⟩
  obtain ⟨l, hl⟩ : ∃ l, real.length = l := ⟨_, rfl⟩
  rw [hnn, hmm, hl]
  rw [hl] at hz hb
  obtain ⟨w1, hw1⟩ : ∃ w1, w1 = w.alloc (.cells #[.slice A n c, .slice B m d, .slice C l f] 37) := ⟨_, rfl⟩
  have b1 : Below w.heap.size w w1 := by rw [hw1]; exact (Below.refl _ _).alloc (Nat.le_refl _) _
  have kb : Blk w1 w.heap.size 37 #[.slice A n c, .slice B m d, .slice C l f] := by rw [hw1]; exact Blk.new _ _ _
  have c2 := kb.cell 2
  simp at c2
  have HZ := Lib.hid ((hz.below b1).more b1.size)
  have HW := Lib.hid hw1
  have HL := Lib.hid hl
  clear hz kb hnn hmm hl
  go_enter Tryd.func35, Tryd.ntmps35
  go_wp2_with fail
  rw [← HW.out]
  clear hw1
  go_loop [3, 5, 9] (fun mv _ kv => ∃ k : Nat, k ≤ l ∧ kv = .int .i64 k ∧ mv = .int .i64 (cntB (real.take k))) (fun _ _ kv => l - (intOf kv).toNat)
  case atStart => exact ⟨0, Nat.zero_le _, rfl, rfl⟩
  case round =>
    obtain ⟨k, hk, rfl, rfl⟩ := hrel
    have hk0 : (0 : Int) ≤ (k : Int) := Int.natCast_nonneg _
    by_cases hlt : k < l
    · obtain ⟨bd, b, rfl, _, hbv, e1⟩ := bo_at HZ.out HL.out hlt
      have hk1 : (k : Int) < (l : Int) := by omega
      have hcn := cnt_next hbv
      have hcl : cntB (real.take k) ≤ 1048576 := by
        have := cnt_le (real.take k)
        rw [List.length_take] at this
        omega
      obtain ⟨a, ha⟩ : ∃ a, cntB (real.take k) = a := ⟨_, rfl⟩
      rw [ha] at hcn hcl ⊢
      have HC := Lib.hid hcn
      clear hbv hcn ha
      cases b
      · go_wp2_with fail
        go_round
        case rel => exact ⟨k + 1, by omega, by go_num, by rw [HC.out]; simp⟩
        case measure => simp [intOf]; omega
      · go_wp2_with fail
        go_round
        case rel => exact ⟨k + 1, by omega, by go_num, by rw [HC.out]; simp⟩
        case measure => simp [intOf]; omega
    · obtain rfl : k = l := by omega
      have hfin : real.take k = real := List.take_of_length_le (by have := HL.out; omega)
      rw [hfin]
      go_wp2_with fail
      go_ret
      exact ⟨rfl, b1⟩
set_option maxHeartbeats 800000 in
theorem implReal_any (q : Bool) (v : Value) (names : List ByteArray) (rows : List (List Int)) (real : List Bool) (RA : Option Addr) (RC : Nat) (w : World) (hv : w.cell? ⟨0, 0, none⟩ = some (.slice RA 13 RC)) (hr : Reads w w.heap.size 1 RA 13 (stCells resW)) (ht : PadR w v names rows real) (hs : SmallP names rows real) (hq : padB names rows real = q) :
    Calls Tryd.prog 16 #[v] w fun e w' => e = .returned (.int .i64 (if q then (cntB real : Int) else -1)) ∧ Below w.heap.size w w' := by
  have HT := Lib.hid ht
  obtain ⟨A, c, B, d, C, f, rfl, _, _, _, _⟩ := ht
  obtain ⟨n, hnn⟩ : ∃ n, names.length = n := ⟨_, rfl⟩
  obtain ⟨m, hmm⟩ : ∃ m, rows.length = m := ⟨_, rfl⟩
  obtain ⟨l, hl⟩ : ∃ l, real.length = l := ⟨_, rfl⟩
  rw [hnn, hmm, hl] at HT ⊢
  obtain ⟨w1, hw1⟩ : ∃ w1, w1 = w.alloc (.cells #[.slice A n c, .slice B m d, .slice C l f] 37) := ⟨_, rfl⟩
  have b1 : Below w.heap.size w w1 := by rw [hw1]; exact (Below.refl _ _).alloc (Nat.le_refl _) _
  have kb : Blk w1 w.heap.size 37 #[.slice A n c, .slice B m d, .slice C l f] := by rw [hw1]; exact Blk.new _ _ _
  have KB := Lib.hid (fun (wr : World) (hb : Below w1.heap.size w1 wr) => kb.below hb kb.lt)
  have c0 := kb.cell 0
  have c1 := kb.cell 1
  have c2 := kb.cell 2
  simp at c0 c1 c2
  have IM := Lib.hid (implPad_any q _ names rows real RA RC w1 (below_keep b1 hv) ((hr.below b1).more b1.size) (HT.out.below b1) hs hq)
  have RE := Lib.hid (fun (wr : World) (hb : Below w.heap.size w wr) => reals_any _ names rows real wr (HT.out.below hb) hs)
  have HW := Lib.hid hw1
  clear hv hr kb hnn hmm hl hs hq
  go_enter Tryd.func16, Tryd.ntmps16
  go_wp2_with fail
  rw [← HW.out]
  clear hw1
  refine IM.out.mono ?_
  rintro e w2 ⟨rfl, b2⟩
  have B2 := b1.trans (b2.mono b1.size)
  cases q
  · go_wp2_with fail
    go_ret
    exact ⟨rfl, B2⟩
  · have d0 := (KB.out w2 b2).cell 0
    have d1 := (KB.out w2 b2).cell 1
    have d2 := (KB.out w2 b2).cell 2
    simp at d0 d1 d2
    have RE' := Lib.hid (RE.out w2 B2)
    clear c0 c1 c2
    go_wp2_with fail
    refine RE'.out.mono ?_
    rintro e w3 ⟨rfl, b3⟩
    have B3 := B2.trans (b3.mono B2.size)
    go_wp2_with fail
    go_ret
    exact ⟨rfl, B3⟩
set_option maxHeartbeats 800000 in
theorem specReal_any (q : Bool) (v : Value) (names : List ByteArray) (rows : List (List Int)) (real : List Bool) (w : World) (ht : PadR w v names rows real) (hs : SmallP names rows real) (hq : padB names rows real = q) :
    Calls Tryd.prog 38 #[v] w fun e w' => e = .returned (.int .i64 (if q then (cntB real : Int) else -1)) ∧ Below w.heap.size w w' := by
  have HT := Lib.hid ht
  obtain ⟨A, c, B, d, C, f, rfl, _, _, _, hz⟩ := ht
  have hb := hs.b
  obtain ⟨n, hnn⟩ : ∃ n, names.length = n := ⟨_, rfl⟩
  obtain ⟨m, hmm⟩ : ∃ m, rows.length = m := ⟨_, rfl⟩
  obtain ⟨l, hl⟩ : ∃ l, real.length = l := ⟨_, rfl⟩
  rw [hnn, hmm, hl] at HT ⊢
  rw [hl] at hz hb
  obtain ⟨w1, hw1⟩ : ∃ w1, w1 = w.alloc (.cells #[.slice A n c, .slice B m d, .slice C l f] 37) := ⟨_, rfl⟩
  have b1 : Below w.heap.size w w1 := by rw [hw1]; exact (Below.refl _ _).alloc (Nat.le_refl _) _
  have kb : Blk w1 w.heap.size 37 #[.slice A n c, .slice B m d, .slice C l f] := by rw [hw1]; exact Blk.new _ _ _
  have c0 := kb.cell 0
  have c1 := kb.cell 1
  have c2 := kb.cell 2
  simp at c0 c1 c2
  have SP := Lib.hid (specPad_any q _ names rows real w1 (HT.out.below b1) hs hq)
  have HZ := Lib.hid ((hz.below b1).more b1.size)
  have HW := Lib.hid hw1
  have HL := Lib.hid hl
  clear hz kb hnn hmm hl hs hq
  go_enter Tryd.func38, Tryd.ntmps38
  go_wp2_with fail
  rw [← HW.out]
  clear hw1
  go_loop [3, 4] (fun mv kv => ∃ k : Nat, k ≤ l ∧ kv = .int .i64 k ∧ mv = .int .i64 (cntB (real.take k))) (fun _ kv => l - (intOf kv).toNat)
  case atStart => exact ⟨0, Nat.zero_le _, rfl, rfl⟩
  case round =>
    obtain ⟨k, hk, rfl, rfl⟩ := hrel
    have hk0 : (0 : Int) ≤ (k : Int) := Int.natCast_nonneg _
    by_cases hlt : k < l
    · obtain ⟨bd, b, rfl, _, hbv, e1⟩ := bo_at HZ.out HL.out hlt
      have hk1 : (k : Int) < (l : Int) := by omega
      have hcn := cnt_next hbv
      have hcl : cntB (real.take k) ≤ 1048576 := by
        have := cnt_le (real.take k)
        rw [List.length_take] at this
        omega
      obtain ⟨a, ha⟩ : ∃ a, cntB (real.take k) = a := ⟨_, rfl⟩
      rw [ha] at hcn hcl ⊢
      have HC := Lib.hid hcn
      clear hbv hcn ha
      cases b
      · go_wp2_with fail
        go_round
        case rel => exact ⟨k + 1, by omega, by go_num, by rw [HC.out]; simp⟩
        case measure => simp [intOf]; omega
      · go_wp2_with fail
        go_round
        case rel => exact ⟨k + 1, by omega, by go_num, by rw [HC.out]; simp⟩
        case measure => simp [intOf]; omega
    · obtain rfl : k = l := by omega
      have hfin : real.take k = real := List.take_of_length_le (by have := HL.out; omega)
      rw [hfin]
      go_wp2_with fail
      refine SP.out.mono ?_
      rintro e w2 ⟨rfl, b2⟩
      have B2 := b1.trans (b2.mono b1.size)
      cases q
      · go_wp2_with fail
        go_ret
        exact ⟨rfl, B2⟩
      · go_wp2_with fail
        go_ret
        exact ⟨rfl, B2⟩
end Go.Proofs.YtbhklgiecfcfcaaDoor
