/- laws.FnLimitRows: the walk. -/
import Derived.Test.YtbhklgiecfcfcaaDoorDrawLim
import Derived.Test.YtbhklgiecfcfcaaDoorLimit
import Derived.Test.YtbhklgiecfcfcaaDoorSameT
namespace Go.Proofs.YtbhklgiecfcfcaaDoor
open Go Go.RowKit
set_option maxRecDepth 100000
theorem DrawnT.small {names : List ByteArray} {rows : List (List Int)} (h : DrawnT names rows) : Small names rows :=
  ⟨by have := h.n1; omega, fun x hx => by have := h.n2 x hx; omega, by have := h.r1; omega, fun r hr => by have := h.r2 r hr; omega⟩
theorem TabR.rowsR {w : World} {A B : Option Addr} {n c m d : Nat} {names : List ByteArray} {rows : List (List Int)} (h : TabR w (.agg #[.slice A n c, .slice B m d]) names rows) : RowsR w w.heap.size B m rows := by
  obtain ⟨A', c', B', d', e, _, _, hy⟩ := h
  simp only [Value.agg.injEq, Array.mk.injEq, List.cons.injEq, and_true, Value.slice.injEq] at e
  obtain ⟨_, rfl, rfl, _⟩ := e
  exact hy
theorem TabC.rows {w : World} {A B : Option Addr} {n c m d : Nat} {names : List ByteArray} {rows : List (List Int)} (h : TabC w (.agg #[.slice A n c, .slice B m d]) names rows) : m ≤ d ∧ ((B = none ∧ d = 0 ∧ m = 0) ∨ ∃ g, B = some ⟨g, 0, none⟩) ∧ rows.length = m := by
  obtain ⟨A', c', B', d', e, h1, h2, _⟩ := h
  simp only [Value.agg.injEq, Array.mk.injEq, List.cons.injEq, and_true, Value.slice.injEq] at e
  obtain ⟨_, rfl, rfl, rfl⟩ := e
  exact ⟨h1, h2, rfl⟩
/-- The greatest limit leaves all rows. -/
theorem lim_all {names : List ByteArray} {rows : List (List Int)} {many : Int} (h : limB names rows many = true) : LimIs names rows 16 true names rows ∧ 0 ≤ many ∧ many ≤ 16 := by
  simp only [limB, Bool.and_eq_true] at h
  obtain ⟨h1, h2⟩ := h
  have h3 := inB_true h2
  have hr : rows.length ≤ 16 := by
    have := h1
    unfold tableB at this
    simp only [Bool.and_eq_true, decide_eq_true_eq] at this
    exact this.2.1
  have hb : limB names rows 16 = true := by
    unfold limB
    rw [h1, inB_mk (by omega)]
    rfl
  refine ⟨⟨hb, by rw [hb]; rfl, ?_⟩, h3.1, h3.2⟩
  rw [hb]
  simp only [if_true]
  exact (List.take_of_length_le (by simpa using hr)).symm
set_option maxHeartbeats 3200000 in
theorem fnLimit_walk {w : World} (A : Option Addr) (n c : Nat) (xs : List UInt8) (hl : xs.length = n) (hc : n ≤ c) (hm : c ≤ maxLen) (hx : Reads w w.heap.size 1 A n (byCells xs))
    (RA : Option Addr) (RC : Nat) (hv : w.cell? ⟨0, 0, none⟩ = some (.slice RA 13 RC)) (hr : Reads w w.heap.size 1 RA 13 (stCells resW)) :
    Calls Tryd.prog 3 #[.slice A n c] w fun e w' => e = .returned (.bool true) ∧ Below w.heap.size w w' := by
  by_cases hbig : (1048576 : Int) < (n : Int)
  · clear hx hr
    go_enter Tryd.func3, Tryd.ntmps3
    go_wp2_with fail
    go_ret
    exact ⟨rfl, Below.refl _ _⟩
  have HD := Lib.hid (drawLimit_any A n c xs w hx hl (by omega) hc hm)
  have RV := Lib.hid (fun (w' : World) (hb : Below w.heap.size w w') => And.intro (below_keep hb hv) ((hr.below hb).more hb.size))
  clear hx hr hl hv
  go_enter Tryd.func3, Tryd.ntmps3
  go_wp2_with fail
  refine HD.out.mono ?_
  rintro e w1 ⟨nv, rv, many, names, rows, rfl, _, _, ho, hd, b1⟩
  obtain ⟨A1, c1, B1, d1, rfl, rfl⟩ := ho.form
  obtain ⟨ok, N, R, hL⟩ := LimIs.ex names rows many
  obtain ⟨l1, hl1⟩ : ∃ n, names.length = n := ⟨_, rfl⟩
  obtain ⟨l2, hl2⟩ : ∃ n, rows.length = n := ⟨_, rfl⟩
  obtain ⟨nN, hNN⟩ : ∃ n, N.length = n := ⟨_, rfl⟩
  obtain ⟨nR, hRR⟩ : ∃ n, R.length = n := ⟨_, rfl⟩
  have SM := Lib.hid hd.small
  have SN := Lib.hid (hL.small hd.small)
  have HL := Lib.hid hL
  rw [hl1, hl2] at ho ⊢
  have HNR := Lib.hid (And.intro hNN hRR)
  have HLL := Lib.hid (And.intro hl1 hl2)
  clear hL hNN hRR hl1 hl2 hd HD
  have hqq : (ok != ok) = false := by cases ok <;> rfl
  -- t3
  obtain ⟨w2, hw2⟩ : ∃ w2, w2 = w1.alloc (.cells #[.slice A1 l1 c1, .slice B1 l2 d1] 26) := ⟨_, rfl⟩
  have b2 : Below w1.heap.size w1 w2 := by rw [hw2]; exact (Below.refl _ _).alloc (Nat.le_refl _) _
  have k2 : Blk w2 w1.heap.size 26 #[.slice A1 l1 c1, .slice B1 l2 d1] := by rw [hw2]; exact Blk.new _ _ _
  have B2 := Lib.hid (b1.trans (b2.mono b1.size))
  have P2 := Lib.hid (fun (wr : World) (hb : Below w2.heap.size w2 wr) => And.intro (k2.below hb k2.lt) ((ho.below b2).below hb).tabC)
  have IM := Lib.hid (implLimit_any _ names rows many ok N R HL.out RA RC w2 (RV.out w2 B2.out).1 (RV.out w2 B2.out).2 ((P2.out w2 (Below.refl _ _)).2) SM.out)
  have HW2 := Lib.hid hw2
  clear k2 ho b2
  go_wp2_with fail
  rw [← HW2.out]
  clear hw2 HW2
  refine IM.out.mono ?_
  rintro e w3 hres
  obtain ⟨A3, c3, B3, d3, rfl, o3, b3⟩ := hres.form
  rw [HNR.out.1, HNR.out.2] at o3 ⊢
  clear hres IM
  obtain ⟨w4, hw4⟩ : ∃ w4, w4 = w3.alloc (.cells #[.slice A3 nN c3, .slice B3 nR d3] 26) := ⟨_, rfl⟩
  have b4 : Below w3.heap.size w3 w4 := by rw [hw4]; exact (Below.refl _ _).alloc (Nat.le_refl _) _
  have k4 : Blk w4 w3.heap.size 26 #[.slice A3 nN c3, .slice B3 nR d3] := by rw [hw4]; exact Blk.new _ _ _
  have b24 := Lib.hid (b3.trans (b4.mono b3.size))
  have T4 := Lib.hid (fun (wr : World) (hb : Below w4.heap.size w4 wr) => And.intro (k4.below hb k4.lt) ((o3.below b4).below hb).reads)
  have x0 := (P2.out w4 b24.out).1.cell 0
  have x1 := (P2.out w4 b24.out).1.cell 1
  simp at x0 x1
  have SP := Lib.hid (specLimit_any _ names rows many ok N R HL.out w4 (P2.out w4 b24.out).2.tabR SM.out)
  have HW4 := Lib.hid hw4
  rw [hw4] at x0 x1
  clear k4 o3 b4 b3
  go_wp2_with fail
  rw [← HW4.out]
  clear hw4 HW4 x0 x1
  refine SP.out.mono ?_
  rintro e w5 hres
  obtain ⟨A5, c5, B5, d5, rfl, o5, b5⟩ := hres.form
  rw [HNR.out.1, HNR.out.2] at o5 ⊢
  clear hres SP
  obtain ⟨w6, hw6⟩ : ∃ w6, w6 = w5.alloc (.cells #[.slice A5 nN c5, .slice B5 nR d5] 26) := ⟨_, rfl⟩
  have b6 : Below w5.heap.size w5 w6 := by rw [hw6]; exact (Below.refl _ _).alloc (Nat.le_refl _) _
  have k6 : Blk w6 w5.heap.size 26 #[.slice A5 nN c5, .slice B5 nR d5] := by rw [hw6]; exact Blk.new _ _ _
  have b46 := Lib.hid (b5.trans (b6.mono b5.size))
  have x0 := (T4.out w6 b46.out).1.cell 0
  have x1 := (T4.out w6 b46.out).1.cell 1
  have y0 := k6.cell 0
  have y1 := k6.cell 1
  simp at x0 x1 y0 y1
  have EQ := Lib.hid (sameTable_yes _ _ N R w6 (T4.out w6 b46.out).2 ((o5.below b6).reads) SN.out.ok)
  have HW6 := Lib.hid hw6
  rw [hw6] at x0 x1 y0 y1
  clear k6 o5 b6 b5
  go_wp2_with fail
  rw [← HW6.out]
  clear hw6 HW6 x0 x1 y0 y1
  refine EQ.out.mono ?_
  rintro e w7 ⟨rfl, b7⟩
  have b47 := Lib.hid (b46.out.trans (b7.mono b46.out.size))
  have b27 := Lib.hid (b24.out.trans (b47.out.mono b24.out.size))
  have B7 := Lib.hid (B2.out.trans (b27.out.mono B2.out.size))
  clear EQ b7 b46
  cases htk : limB names rows many with
  | false =>
    obtain ⟨rfl, rfl, rfl⟩ := HL.out.no htk
    obtain rfl : nN = 0 := HNR.out.1.symm
    have x0 := (T4.out w7 b47.out).1.cell 0
    simp at x0
    have AL := Lib.hid (alive_yes RA RC w7 (RV.out w7 B7.out).1 (RV.out w7 B7.out).2)
    clear htk
    go_wp2_with fail
    refine AL.out.mono ?_
    rintro e w' ⟨rfl, rfl⟩
    go_wp2_with fail
    go_ret
    exact ⟨rfl, B7.out⟩
  | true =>
    obtain ⟨rfl, rfl, rfl⟩ := HL.out.yes htk
    obtain ⟨h2, hm0, hm16⟩ := lim_all htk
    obtain ⟨k, rfl⟩ : ∃ k : Nat, many = (k : Int) := ⟨many.toNat, by omega⟩
    obtain ⟨hmd, hBB, _⟩ := (P2.out w7 b27.out).2.rows
    have AG := Lib.hid (implLimit_any _ N rows 16 true N rows h2 RA RC w7 (RV.out w7 B7.out).1 (RV.out w7 B7.out).2 (P2.out w7 b27.out).2 SM.out)
    have x0 := (P2.out w7 b27.out).1.cell 0
    have x1 := (P2.out w7 b27.out).1.cell 1
    simp at x0 x1
    clear htk h2
    go_wp2_with fail
    refine AG.out.mono ?_
    rintro e w8 hres
    obtain ⟨A8, c8, B8, d8, rfl, o8, b8⟩ := hres.form
    rw [HNR.out.1, HLL.out.2] at o8 ⊢
    clear hres AG x0 x1
    obtain ⟨w9, hw9⟩ : ∃ w9, w9 = w8.alloc (.cells #[.slice A8 nN c8, .slice B8 l2 d8] 26) := ⟨_, rfl⟩
    have b9 : Below w8.heap.size w8 w9 := by rw [hw9]; exact (Below.refl _ _).alloc (Nat.le_refl _) _
    have k9 : Blk w9 w8.heap.size 26 #[.slice A8 nN c8, .slice B8 l2 d8] := by rw [hw9]; exact Blk.new _ _ _
    have b79 := Lib.hid (b8.trans (b9.mono b8.size))
    have b29 := Lib.hid (b27.out.trans (b79.out.mono b27.out.size))
    have b49 := Lib.hid (b47.out.trans (b79.out.mono b47.out.size))
    have B9 := Lib.hid (B7.out.trans (b79.out.mono B7.out.size))
    have x0 := (T4.out w9 b49.out).1.cell 0
    have x1 := (T4.out w9 b49.out).1.cell 1
    have y0 := (P2.out w9 b29.out).1.cell 0
    have y1 := (P2.out w9 b29.out).1.cell 1
    have z0 := k9.cell 0
    have z1 := k9.cell 1
    simp at x0 x1 y0 y1 z0 z1
    have SR := Lib.hid (fun (wr : World) (hb : Below w9.heap.size w9 wr) (hq : nR ≤ l2) (e : rows.take nR = rows.take (k : Int).toNat) => sameRows_yes B3 B1 nR d3 d1 (rows.take (k : Int).toNat) wr (T4.out wr (b49.out.trans (hb.mono b49.out.size))).2.rowsR (by rw [← e]; exact (P2.out wr (b29.out.trans (hb.mono b29.out.size))).2.tabR.rowsR.take hq) (by have := SN.out.r1; rw [HNR.out.2] at this; omega) SN.out.ok.r2)
    have ST := Lib.hid (fun (wr : World) (hb : Below w9.heap.size w9 wr) => sameTable_yes _ _ N rows wr ((o8.below b9).below hb).reads (P2.out wr (b29.out.trans (hb.mono b29.out.size))).2.tabR SM.out.ok)
    have hlr : (rows.take (k : Int).toNat).length = nR := HNR.out.2
    rw [List.length_take, HLL.out.2, Int.toNat_natCast] at hlr
    have e0 : rows.take nR = rows.take (k : Int).toNat := by
      rw [Int.toNat_natCast, ← hlr]
      rcases Nat.le_total k l2 with h | h
      · rw [Nat.min_eq_left h]
      · rw [Nat.min_eq_right h, List.take_of_length_le (by rw [HLL.out.2]; omega), List.take_of_length_le (by rw [HLL.out.2]; omega)]
    have hq : nR ≤ l2 := by omega
    have hqd : nR ≤ d1 := by omega
    have hqd' : (nR : Int) ≤ (d1 : Int) := by omega
    have hq0 : (0 : Int) ≤ (nR : Int) := Int.natCast_nonneg _
    have SR' := Lib.hid (fun (wr : World) (hb : Below w9.heap.size w9 wr) => SR.out wr hb hq e0)
    have HW9 := Lib.hid hw9
    clear k9 o8 b8 b9 SR e0
    rcases hBB with ⟨rfl, rfl, rfl⟩ | ⟨g, rfl⟩
    · obtain rfl : nR = 0 := by omega
      rcases Nat.eq_zero_or_pos k with rfl | hkp
      · have hkk : True := trivial
        rw [hw9] at x0 x1 y0 y1 z0 z1
        go_wp2_with fail
        rw [← HW9.out] at x0 x1 y0 y1 z0 z1 ⊢
        clear hw9 HW9
        go_region_held3 (fun w' => w'.cell? ⟨w3.heap.size, 0, none⟩ = some (.slice A3 nN c3) ∧ w'.cell? ⟨w3.heap.size, 1, none⟩ = some (.slice B3 0 d3) ∧ w'.cell? ⟨w1.heap.size, 0, none⟩ = some (.slice A1 l1 c1) ∧ w'.cell? ⟨w1.heap.size, 1, none⟩ = some (.slice none 0 0) ∧ w'.cell? ⟨w8.heap.size, 0, none⟩ = some (.slice A8 nN c8) ∧ w'.cell? ⟨w8.heap.size, 1, none⟩ = some (.slice B8 0 d8))
          (first | go_keep | (go_split_ands; refine ⟨?_, ?_, ?_, ?_, ?_, ?_⟩ <;> (refine below_keep hb' ?_; assumption)))
          (first | (go_at_call 11; refine (SR'.out _ ((Below.refl _ _).drew)).mono ?_; rintro e w' ⟨rfl, hb'⟩) | (go_at_call 9; refine (ST.out _ ((Below.refl _ _).drew.trans hb')).mono ?_; rintro e w' ⟨rfl, hb2⟩; have hb3 := hb'.trans (hb2.mono hb'.size); have hb' := (Below.refl _ _).trans hb2))
        all_goals (
          have hf := B9.out.drew.trans (hb3.mono B9.out.size)
          clear hb3 hb2 hb' SR' ST x0 x1 y0 y1 z0 z1
          go_wp2_with fail
          go_ret
          exact ⟨rfl, hf⟩)
      · have hkm' : ¬ (k : Int) ≤ 0 := by omega
        have hmk' : (0 : Int) < (k : Int) := by omega
        rw [hw9] at x0 x1 y0 y1 z0 z1
        go_wp2_with fail
        rw [← HW9.out] at x0 x1 y0 y1 z0 z1 ⊢
        clear hw9 HW9
        go_region_held3 (fun w' => w'.cell? ⟨w3.heap.size, 0, none⟩ = some (.slice A3 nN c3) ∧ w'.cell? ⟨w3.heap.size, 1, none⟩ = some (.slice B3 0 d3) ∧ w'.cell? ⟨w1.heap.size, 0, none⟩ = some (.slice A1 l1 c1) ∧ w'.cell? ⟨w1.heap.size, 1, none⟩ = some (.slice none 0 0) ∧ w'.cell? ⟨w8.heap.size, 0, none⟩ = some (.slice A8 nN c8) ∧ w'.cell? ⟨w8.heap.size, 1, none⟩ = some (.slice B8 0 d8))
          (first | go_keep | (go_split_ands; refine ⟨?_, ?_, ?_, ?_, ?_, ?_⟩ <;> (refine below_keep hb' ?_; assumption)))
          (first | (go_at_call 11; refine (SR'.out _ ((Below.refl _ _).drew)).mono ?_; rintro e w' ⟨rfl, hb'⟩) | (go_at_call 9; refine (ST.out _ ((Below.refl _ _).drew.trans hb')).mono ?_; rintro e w' ⟨rfl, hb2⟩; have hb3 := hb'.trans (hb2.mono hb'.size); have hb' := (Below.refl _ _).trans hb2))
        all_goals (
          have hf := B9.out.drew.trans (hb3.mono B9.out.size)
          clear hb3 hb2 hb' SR' ST x0 x1 y0 y1 z0 z1
          go_wp2_with fail
          go_ret
          exact ⟨rfl, hf⟩)
    · by_cases hkm : k ≤ l2
      · obtain rfl : nR = k := by omega
        have hmn : ¬ l2 < nR := by omega
        have hmk' : ¬ (l2 : Int) < (nR : Int) := by omega
        rw [hw9] at x0 x1 y0 y1 z0 z1
        go_wp2_with fail
        rw [← HW9.out] at x0 x1 y0 y1 z0 z1 ⊢
        clear hw9 HW9
        go_region_held3 (fun w' => w'.cell? ⟨w3.heap.size, 0, none⟩ = some (.slice A3 nN c3) ∧ w'.cell? ⟨w3.heap.size, 1, none⟩ = some (.slice B3 nR d3) ∧ w'.cell? ⟨w1.heap.size, 0, none⟩ = some (.slice A1 l1 c1) ∧ w'.cell? ⟨w1.heap.size, 1, none⟩ = some (.slice (some ⟨g, 0, none⟩) l2 d1) ∧ w'.cell? ⟨w8.heap.size, 0, none⟩ = some (.slice A8 nN c8) ∧ w'.cell? ⟨w8.heap.size, 1, none⟩ = some (.slice B8 l2 d8))
          (first | go_keep | (go_split_ands; refine ⟨?_, ?_, ?_, ?_, ?_, ?_⟩ <;> (refine below_keep hb' ?_; assumption)))
          (first | (go_at_call 11; refine (SR'.out _ ((Below.refl _ _).drew)).mono ?_; rintro e w' ⟨rfl, hb'⟩) | (go_at_call 9; refine (ST.out _ ((Below.refl _ _).drew.trans hb')).mono ?_; rintro e w' ⟨rfl, hb2⟩; have hb3 := hb'.trans (hb2.mono hb'.size); have hb' := (Below.refl _ _).trans hb2))
        all_goals (
          have hf := B9.out.drew.trans (hb3.mono B9.out.size)
          clear hb3 hb2 hb' SR' ST x0 x1 y0 y1 z0 z1
          go_wp2_with fail
          go_ret
          exact ⟨rfl, hf⟩)
      · obtain rfl : nR = l2 := by omega
        have hmk' : (nR : Int) < (k : Int) := by omega
        have hmn : nR < k := by omega
        rw [hw9] at x0 x1 y0 y1 z0 z1
        go_wp2_with fail
        rw [← HW9.out] at x0 x1 y0 y1 z0 z1 ⊢
        clear hw9 HW9
        go_region_held3 (fun w' => w'.cell? ⟨w3.heap.size, 0, none⟩ = some (.slice A3 nN c3) ∧ w'.cell? ⟨w3.heap.size, 1, none⟩ = some (.slice B3 nR d3) ∧ w'.cell? ⟨w1.heap.size, 0, none⟩ = some (.slice A1 l1 c1) ∧ w'.cell? ⟨w1.heap.size, 1, none⟩ = some (.slice (some ⟨g, 0, none⟩) nR d1) ∧ w'.cell? ⟨w8.heap.size, 0, none⟩ = some (.slice A8 nN c8) ∧ w'.cell? ⟨w8.heap.size, 1, none⟩ = some (.slice B8 nR d8))
          (first | go_keep | (go_split_ands; refine ⟨?_, ?_, ?_, ?_, ?_, ?_⟩ <;> (refine below_keep hb' ?_; assumption)))
          (first | (go_at_call 11; refine (SR'.out _ ((Below.refl _ _).drew)).mono ?_; rintro e w' ⟨rfl, hb'⟩) | (go_at_call 9; refine (ST.out _ ((Below.refl _ _).drew.trans hb')).mono ?_; rintro e w' ⟨rfl, hb2⟩; have hb3 := hb'.trans (hb2.mono hb'.size); have hb' := (Below.refl _ _).trans hb2))
        all_goals (
          have hf := B9.out.drew.trans (hb3.mono B9.out.size)
          clear hb3 hb2 hb' SR' ST x0 x1 y0 y1 z0 z1
          go_wp2_with fail
          go_ret
          exact ⟨rfl, hf⟩)
end Go.Proofs.YtbhklgiecfcfcaaDoor
