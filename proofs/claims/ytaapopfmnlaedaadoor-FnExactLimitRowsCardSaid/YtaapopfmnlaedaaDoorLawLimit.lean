/- laws.FnExactLimitRows: the walk. -/
import Derived.Test.YtaapopfmnlaedaaDoorLimit
import Derived.Deep.RegionHeld3
namespace Go.Proofs.YtaapopfmnlaedaaDoor
open Go Go.RowKit
set_option maxRecDepth 100000
set_option maxHeartbeats 3200000 in
theorem lawExactLimit_walk {w : World} (v : Value) (names : List ByteArray) (rows : List (List Int)) (ht : TabA w v names rows) (many : Int) (_hy : i64ok many) (RA : Option Addr) (RC : Nat) (hv : w.cell? ⟨0, 0, none⟩ = some (.slice RA 13 RC)) (hr : Reads w w.heap.size 1 RA 13 (stCells resW)) :
    Calls Tryd.prog 3 #[v, .int .i64 many] w fun e w' => e = .returned (.bool true) ∧ Below w.heap.size w w' := by
  obtain ⟨ok, N, R, hL⟩ := LimIs.ex names rows many
  have HT := Lib.hid ht
  obtain ⟨A, c, B, d, rfl, _, _, _⟩ := ht.form
  clear ht
  obtain ⟨n, hnn⟩ : ∃ n, names.length = n := ⟨_, rfl⟩
  obtain ⟨m, hmm⟩ : ∃ m, rows.length = m := ⟨_, rfl⟩
  obtain ⟨nN, hNN⟩ : ∃ n, N.length = n := ⟨_, rfl⟩
  obtain ⟨nR, hRR⟩ : ∃ n, R.length = n := ⟨_, rfl⟩
  rw [hnn, hmm] at HT ⊢
  obtain ⟨w1, hw1⟩ : ∃ w1, w1 = w.alloc (.cells #[.slice A n c, .slice B m d] 25) := ⟨_, rfl⟩
  have Bw1 : Below w.heap.size w w1 := by rw [hw1]; exact (Below.refl _ _).alloc (Nat.le_refl _) _
  have k0_1 : Blk w1 w.heap.size 25 #[.slice A n c, .slice B m d] := by rw [hw1]; exact Blk.new _ _ _
  have SZ := Lib.hid (szTable_any _ names rows 1048576 w1 (by decide) (by decide) (HT.out.below Bw1))
  have c0 := k0_1.cell 0
  have c1 := k0_1.cell 1
  simp at c0 c1
  have HW := Lib.hid hw1
  have HV := Lib.hid hv
  have HR := Lib.hid hr
  have HN := Lib.hid (And.intro hnn hmm)
  have HNR := Lib.hid (And.intro hNN hRR)
  have HL := Lib.hid hL
  have S1 := Lib.hid (And.intro Bw1 k0_1)
  clear hv hr hnn hmm hNN hRR hL Bw1 k0_1
  go_enter Tryd.func3, Tryd.ntmps3
  go_wp2_with fail
  rw [← HW.out]
  clear hw1
  refine SZ.out.mono ?_
  rintro e w2 ⟨r, rfl, g1, g2, g3, b2⟩
  have G3 := Lib.hid g3
  obtain ⟨Bw1, k0_1⟩ := S1.out
  clear S1
  have Bw2 := Bw1.trans (b2.mono Bw1.size)
  have k0_2 := k0_1.below b2 k0_1.lt
  clear Bw1 k0_1 c0 c1 g3 b2
  by_cases hr : r < 0
  · go_wp2_with fail
    go_ret
    exact ⟨rfl, Bw2⟩
  have SM := Lib.hid (show Small names rows by
    obtain ⟨⟨a, b⟩, c, d⟩ := G3.out (by omega)
    exact ⟨a, b, c, d⟩)
  have SN := Lib.hid (HL.out.small SM.out)
  have d0 := k0_2.cell 0
  have d1 := k0_2.cell 1
  simp at d0 d1
  have TO := Lib.hid (fun (wr : World) (hb : Below w.heap.size w wr) => toTab_any _ names rows wr (HT.out.below hb).reads SM.out)
  rw [HN.out.1, HN.out.2] at TO
  have hr0 : ¬ r < 0 := hr
  have hqq : (ok != ok) = false := by cases ok <;> rfl
  clear G3 g1 g2 SZ hr
  go_wp2_with fail
  refine (TO.out w2 Bw2).mono ?_
  rintro e w3 ⟨A3, c3, B3, d3, rfl, o3, b3⟩
  clear d0 d1
  have Bw3 := Bw2.trans (b3.mono Bw2.size)
  have k0_3 := k0_2.below b3 k0_2.lt
  clear Bw2 k0_2
  have SP := Lib.hid (specLimit_any _ names rows many ok N R HL.out w3 o3.reads SM.out)
  clear b3 o3
  go_wp2_with fail
  refine SP.out.mono ?_
  rintro e w4 hres
  obtain ⟨A4, c4, B4, d4, rfl, o4, b4⟩ := hres.form
  rw [HNR.out.1, HNR.out.2] at o4 ⊢
  have Bw4 := Bw3.trans (b4.mono Bw3.size)
  have k0_4 := k0_3.below b4 k0_3.lt
  clear Bw3 k0_3
  clear b4 SP hres
  obtain ⟨w5, hw5⟩ : ∃ w5, w5 = w4.alloc (.cells #[.slice A4 nN c4, .slice B4 nR d4] 27) := ⟨_, rfl⟩
  have b5 : Below w4.heap.size w4 w5 := by rw [hw5]; exact (Below.refl _ _).alloc (Nat.le_refl _) _
  have k6_5 : Blk w5 w4.heap.size 27 #[.slice A4 nN c4, .slice B4 nR d4] := by rw [hw5]; exact Blk.new _ _ _
  have W0_5 := (o4.reads.tabB).belowW (Nat.le_refl _) b5
  have Bw5 := Bw4.trans (b5.mono Bw4.size)
  have k0_5 := k0_4.below b5 k0_4.lt
  clear Bw4 k0_4
  have l04 : w.heap.size < w5.heap.size := k0_5.lt
  have l45 : w4.heap.size < w5.heap.size := k6_5.lt
  have d0 := k0_5.cell 0
  have d1 := k0_5.cell 1
  simp at d0 d1
  have HW5 := Lib.hid hw5
  rw [hw5] at d0 d1
  clear b5 o4
  go_wp2_with fail
  rw [← HW5.out]
  clear hw5 HW5 d0 d1
  refine (TO.out w5 Bw5).mono ?_
  rintro e w6 ⟨A6, c6, B6, d6, rfl, o6, b6⟩
  have Bw6 := Bw5.trans (b6.mono Bw5.size)
  have k0_6 := k0_5.below b6 k0_5.lt
  have W0_6 := W0_5.belowW (Nat.le_of_lt k6_5.lt) b6
  have k6_6 := k6_5.below b6 k6_5.lt
  clear Bw5 k6_5 W0_5 k0_5
  have l56 : w5.heap.size ≤ w6.heap.size := b6.size
  obtain ⟨w7, hw7⟩ : ∃ w7, w7 = w6.alloc (.cells #[.slice A6 n c6, .slice B6 m d6] 27) := ⟨_, rfl⟩
  have b7 : Below w6.heap.size w6 w7 := by rw [hw7]; exact (Below.refl _ _).alloc (Nat.le_refl _) _
  have k8_7 : Blk w7 w6.heap.size 27 #[.slice A6 n c6, .slice B6 m d6] := by rw [hw7]; exact Blk.new _ _ _
  have X0_7 := o6.tabV.below b7
  have Bw7 := Bw6.trans (b7.mono Bw6.size)
  have k0_7 := k0_6.below b7 k0_6.lt
  have W0_7 := W0_6.belowW (Nat.le_of_lt k6_6.lt) b7
  have k6_7 := k6_6.below b7 k6_6.lt
  clear Bw6 k6_6 W0_6 k0_6
  have l67 : w6.heap.size < w7.heap.size := k8_7.lt
  have IM := Lib.hid (implLimit_any _ names rows many ok N R HL.out RA RC w7 (below_keep Bw7 HV.out) ((HR.out.below Bw7).more Bw7.size) X0_7.tabC SM.out)
  have HW7 := Lib.hid hw7
  clear b6 b7 o6
  go_wp2_with fail
  rw [← HW7.out]
  clear hw7 HW7
  refine IM.out.mono ?_
  rintro e w8 hres
  obtain ⟨A8, c8, B8, d8, rfl, o8, b8⟩ := hres.form
  rw [HNR.out.1, HNR.out.2] at o8 ⊢
  have Bw8 := Bw7.trans (b8.mono Bw7.size)
  have k0_8 := k0_7.below b8 k0_7.lt
  have W0_8 := W0_7.belowW (Nat.le_of_lt k6_7.lt) b8
  have k6_8 := k6_7.below b8 k6_7.lt
  have X0_8 := X0_7.below b8
  have k8_8 := k8_7.below b8 k8_7.lt
  clear Bw7 k8_7 X0_7 k6_7 W0_7 k0_7
  have l78 : w7.heap.size ≤ w8.heap.size := b8.size
  clear b8 IM hres
  obtain ⟨w9, hw9⟩ : ∃ w9, w9 = w8.alloc (.cells #[.slice A8 nN c8, .slice B8 nR d8] 27) := ⟨_, rfl⟩
  have b9 : Below w8.heap.size w8 w9 := by rw [hw9]; exact (Below.refl _ _).alloc (Nat.le_refl _) _
  have k9_9 : Blk w9 w8.heap.size 27 #[.slice A8 nN c8, .slice B8 nR d8] := by rw [hw9]; exact Blk.new _ _ _
  have G0_9 := o8.tabV.below b9
  have Bw9 := Bw8.trans (b9.mono Bw8.size)
  have k0_9 := k0_8.below b9 k0_8.lt
  have W0_9 := W0_8.belowW (Nat.le_of_lt k6_8.lt) b9
  have k6_9 := k6_8.below b9 k6_8.lt
  have X0_9 := X0_8.below b9
  have k8_9 := k8_8.below b9 k8_8.lt
  clear Bw8 k8_8 X0_8 k6_8 W0_8 k0_8
  have l89 : w8.heap.size < w9.heap.size := k9_9.lt
  have e0 := k9_9.cell 0
  have e1 := k9_9.cell 1
  have f0 := k6_9.cell 0
  have f1 := k6_9.cell 1
  simp at e0 e1 f0 f1
  have EQ := Lib.hid (fun (wr : World) (x y : Value) (hx : TabR wr x N R) (hy : TabR wr y N R) => eqTable_yes x y N R wr hx hy SN.out.ok)
  have EX := Lib.hid (fun (wr : World) (x y : Value) (hx : TabR wr x names rows) (hy : TabR wr y names rows) => eqTable_yes x y names rows wr hx hy SM.out.ok)
  have HW9 := Lib.hid hw9
  rw [hw9] at e0 e1 f0 f1
  clear b9 o8
  go_wp2_with fail
  rw [← HW9.out]
  clear hw9 HW9 e0 e1 f0 f1
  refine (EQ.out w9 _ _ G0_9.tabR (W0_9.tabR (Nat.le_of_lt k6_9.lt))).mono ?_
  rintro e w10 ⟨rfl, b10⟩
  have Bw10 := Bw9.trans (b10.mono Bw9.size)
  have k0_10 := k0_9.below b10 k0_9.lt
  have W0_10 := W0_9.belowW (Nat.le_of_lt k6_9.lt) b10
  have k6_10 := k6_9.below b10 k6_9.lt
  have X0_10 := X0_9.below b10
  have k8_10 := k8_9.below b10 k8_9.lt
  have G0_10 := G0_9.below b10
  have k9_10 := k9_9.below b10 k9_9.lt
  clear Bw9 k9_9 G0_9 k8_9 X0_9 k6_9 W0_9 k0_9
  have d0 := k0_10.cell 0
  have d1 := k0_10.cell 1
  have e0 := k8_10.cell 0
  have e1 := k8_10.cell 1
  simp at d0 d1 e0 e1
  have ST := Lib.hid (And.intro Bw10 (And.intro k0_10 (And.intro W0_10 (And.intro k6_10 (And.intro X0_10 (And.intro k8_10 (And.intro G0_10 k9_10)))))))
  clear b10 Bw10 k0_10 W0_10 k6_10 X0_10 k8_10 G0_10 k9_10
  have TO' := Lib.hid (fun (w' : World) (hb : Below w10.heap.size w10 w') => TO.out w' (ST.out.1.trans (hb.mono ST.out.1.size)))
  have EX' := Lib.hid (fun (w' : World) (hb : Below w10.heap.size w10 w') (u : Value) (hu : TabR w' u names rows) => EX.out w' _ u (ST.out.2.2.2.2.1.below hb).tabR hu)
  go_wp2_with fail
  go_region_held3 (fun w' => w'.cell? ⟨w.heap.size, 0, none⟩ = some (.slice A n c) ∧ w'.cell? ⟨w.heap.size, 1, none⟩ = some (.slice B m d) ∧ w'.cell? ⟨w6.heap.size, 0, none⟩ = some (.slice A6 n c6) ∧ w'.cell? ⟨w6.heap.size, 1, none⟩ = some (.slice B6 m d6))
    (first | go_keep | (go_split_ands; refine ⟨?_, ?_, ?_, ?_⟩ <;> (refine below_keep hb' ?_; assumption)))
    (first | (go_at_call 10; refine (TO'.out _ ((Below.refl _ _).drew)).mono ?_; rintro e w' ⟨A10, c10, B10, d10, rfl, o8, hb'⟩) | (go_at_call 12; refine (EX'.out _ ((Below.refl _ _).drew.trans hb') _ o8.reads).mono ?_; rintro e w' ⟨rfl, hb2⟩; have hb3 := hb'.trans (hb2.mono hb'.size); have hb' := (Below.refl _ _).trans hb2))
  have b11 := (Below.refl w10.heap.size w10).drew.trans hb3
  clear hb3 hb2 hb' o8 EX' TO' d0 d1 e0 e1
  obtain ⟨w11, rfl⟩ : ∃ x, x = w' := ⟨_, rfl⟩
  obtain ⟨Bw10, k0_10, W0_10, k6_10, X0_10, k8_10, G0_10, k9_10⟩ := ST.out
  clear ST
  have Bw11 := Bw10.trans (b11.mono Bw10.size)
  have k0_11 := k0_10.below b11 k0_10.lt
  have W0_11 := W0_10.belowW (Nat.le_of_lt k6_10.lt) b11
  have k6_11 := k6_10.below b11 k6_10.lt
  have X0_11 := X0_10.below b11
  have k8_11 := k8_10.below b11 k8_10.lt
  have G0_11 := G0_10.below b11
  have k9_11 := k9_10.below b11 k9_10.lt
  clear Bw10 k9_10 G0_10 k8_10 X0_10 k6_10 W0_10 k0_10
  have e0 := k8_11.cell 0
  have e1 := k8_11.cell 1
  simp at e0 e1
  obtain ⟨K1, hK1⟩ : ∃ K, 1 + names.length + total rows = K := ⟨_, rfl⟩
  obtain ⟨K2, hK2⟩ : ∃ K, 1 + N.length + total R = K := ⟨_, rfl⟩
  have MX := Lib.hid (markTable_any w5.heap.size w6.heap.size 1 _ names rows w11 X0_11 (Nat.le_of_lt k8_11.lt) SM.out (by decide))
  have MG := Lib.hid (fun (wr : World) (hg : TabV wr w7.heap.size w8.heap.size (.agg #[.slice A8 nN c8, .slice B8 nR d8]) N R) (hh : w8.heap.size ≤ wr.heap.size) => markTable_any w7.heap.size w8.heap.size 1 _ N R wr hg hh SN.out (by decide))
  have HG := Lib.hid (fun (wr : World) (hg : TabR wr (.agg #[.slice A8 nN c8, .slice B8 nR d8]) (stMarks 1 N.length) (rowMarks (1 + N.length) R)) => heldTable_any 1 N.length _ R wr hg (by decide) SN.out.n1 SN.out.r1 SN.out.r2)
  rw [hK1] at MX
  rw [hK2] at MG HG
  have hk1 : ¬ ((K1 : Int) < 0) := by omega
  have hk2 : ¬ ((K2 : Int) < 0) := by omega
  clear hK1 hK2 b11
  go_wp2_with fail
  refine MX.out.mono ?_
  rintro e w12 ⟨rfl, -, t12⟩
  clear e0 e1
  have Bw12 := t12.below Bw11 (Nat.le_of_lt l04)
  have k0_12 := t12.blk k0_11 (Or.inl l04)
  have W0_12 := W0_11.touch t12 (Nat.le_of_lt l45) (Nat.le_of_lt k6_11.lt)
  have k6_12 := t12.blk k6_11 (Or.inl l45)
  have G0_12 := G0_11.touch t12 (Or.inr (Nat.le_of_lt l67))
  have k9_12 := t12.blk k9_11 (Or.inr (Nat.le_trans (Nat.le_of_lt l67) l78))
  clear Bw11 k9_11 G0_11 k6_11 W0_11 k0_11
  have e0 := k9_12.cell 0
  have e1 := k9_12.cell 1
  simp at e0 e1
  have f0 := k6_12.cell 0
  have f1 := k6_12.cell 1
  simp at f0 f1
  clear X0_11 k8_11 MX t12
  go_wp2_with fail
  refine (EQ.out w12 _ _ G0_12.tabR (W0_12.tabR (Nat.le_of_lt k6_12.lt))).mono ?_
  rintro e w13 ⟨rfl, b13⟩
  clear e0 e1 f0 f1
  have Bw13 := Bw12.trans (b13.mono Bw12.size)
  have k0_13 := k0_12.below b13 k0_12.lt
  have W0_13 := W0_12.belowW (Nat.le_of_lt k6_12.lt) b13
  have k6_13 := k6_12.below b13 k6_12.lt
  have G0_13 := G0_12.below b13
  have k9_13 := k9_12.below b13 k9_12.lt
  clear Bw12 k9_12 G0_12 k6_12 W0_12 k0_12
  clear b13
  have e0 := k9_13.cell 0
  have e1 := k9_13.cell 1
  simp at e0 e1
  go_wp2_with fail
  refine (MG.out w13 G0_13 (Nat.le_of_lt k9_13.lt)).mono ?_
  rintro e w14 ⟨rfl, G1_14, t14⟩
  have l47 : w4.heap.size < w7.heap.size := Nat.lt_of_lt_of_le l45 (Nat.le_trans l56 (Nat.le_of_lt l67))
  have l07 : w.heap.size < w7.heap.size := Nat.lt_of_lt_of_le l04 (Nat.le_trans l56 (Nat.le_of_lt l67))
  clear e0 e1
  have Bw14 := t14.below Bw13 (Nat.le_of_lt l07)
  have k0_14 := t14.blk k0_13 (Or.inl l07)
  have W0_14 := W0_13.touch t14 (Nat.le_of_lt l47) (Nat.le_of_lt k6_13.lt)
  have k6_14 := t14.blk k6_13 (Or.inl l47)
  have k9_14 := t14.blk k9_13 (Or.inr (Nat.le_refl _))
  clear Bw13 k9_13 k6_13 W0_13 k0_13
  have e0 := k9_14.cell 0
  have e1 := k9_14.cell 1
  simp at e0 e1
  clear G0_13 MG t14
  go_wp2_with fail
  refine (HG.out w14 G1_14.tabR).mono ?_
  rintro e w15 ⟨rfl, b15⟩
  clear e0 e1
  have Bw15 := Bw14.trans (b15.mono Bw14.size)
  have k0_15 := k0_14.below b15 k0_14.lt
  have W0_15 := W0_14.belowW (Nat.le_of_lt k6_14.lt) b15
  have k6_15 := k6_14.below b15 k6_14.lt
  have G1_15 := G1_14.below b15
  have k9_15 := k9_14.below b15 k9_14.lt
  clear Bw14 k9_14 G1_14 k6_14 W0_14 k0_14
  clear b15
  have d0 := k0_15.cell 0
  have d1 := k0_15.cell 1
  simp at d0 d1
  go_wp2_with fail
  refine (TO.out w15 Bw15).mono ?_
  rintro e w16 ⟨A16, c16, B16, d16, rfl, o16, b16⟩
  clear d0 d1
  have Bw16 := Bw15.trans (b16.mono Bw15.size)
  have W0_16 := W0_15.belowW (Nat.le_of_lt k6_15.lt) b16
  have k6_16 := k6_15.below b16 k6_15.lt
  have G1_16 := G1_15.below b16
  have k9_16 := k9_15.below b16 k9_15.lt
  clear Bw15 k9_15 G1_15 k6_15 W0_15
  clear b16 k0_15
  have IM := Lib.hid (implLimit_any _ names rows many ok N R HL.out RA RC w16 (below_keep Bw16 HV.out) ((HR.out.below Bw16).more Bw16.size) o16.tabC SM.out)
  clear o16
  go_wp2_with fail
  refine IM.out.mono ?_
  rintro e w17 hres
  obtain ⟨A17, c17, B17, d17, rfl, o17, b17⟩ := hres.form
  rw [HNR.out.1, HNR.out.2] at o17 ⊢
  have Bw17 := Bw16.trans (b17.mono Bw16.size)
  have W0_17 := W0_16.belowW (Nat.le_of_lt k6_16.lt) b17
  have k6_17 := k6_16.below b17 k6_16.lt
  have G1_17 := G1_16.below b17
  have k9_17 := k9_16.below b17 k9_16.lt
  clear Bw16 k9_16 G1_16 k6_16 W0_16
  clear b17 IM hres
  obtain ⟨w18, hw18⟩ : ∃ w18, w18 = w17.alloc (.cells #[.slice A17 nN c17, .slice B17 nR d17] 27) := ⟨_, rfl⟩
  have b18 : Below w17.heap.size w17 w18 := by rw [hw18]; exact (Below.refl _ _).alloc (Nat.le_refl _) _
  have k14_18 : Blk w18 w17.heap.size 27 #[.slice A17 nN c17, .slice B17 nR d17] := by rw [hw18]; exact Blk.new _ _ _
  have Y0_18 := o17.tabV.below b18
  have Bw18 := Bw17.trans (b18.mono Bw17.size)
  have W0_18 := W0_17.belowW (Nat.le_of_lt k6_17.lt) b18
  have k6_18 := k6_17.below b18 k6_17.lt
  have G1_18 := G1_17.below b18
  have k9_18 := k9_17.below b18 k9_17.lt
  clear Bw17 k9_17 G1_17 k6_17 W0_17
  have e0 := k14_18.cell 0
  have e1 := k14_18.cell 1
  simp at e0 e1
  have f0 := k6_18.cell 0
  have f1 := k6_18.cell 1
  simp at f0 f1
  have HW18 := Lib.hid hw18
  rw [hw18] at e0 e1 f0 f1
  clear b18 o17 k14_18
  go_wp2_with fail
  rw [← HW18.out]
  clear hw18 HW18 e0 e1 f0 f1
  refine (EQ.out w18 _ _ Y0_18.tabR (W0_18.tabR (Nat.le_of_lt k6_18.lt))).mono ?_
  rintro e w19 ⟨rfl, b19⟩
  clear Y0_18
  have Bw19 := Bw18.trans (b19.mono Bw18.size)
  have G1_19 := G1_18.below b19
  have k9_19 := k9_18.below b19 k9_18.lt
  clear Bw18 k9_18 G1_18
  clear b19 W0_18 k6_18
  have e0 := k9_19.cell 0
  have e1 := k9_19.cell 1
  simp at e0 e1
  go_wp2_with fail
  refine (HG.out w19 G1_19.tabR).mono ?_
  rintro e w20 ⟨rfl, b20⟩
  have Bw20 := Bw19.trans (b20.mono Bw19.size)
  clear e0 e1
  go_wp2_with fail
  go_ret
  exact ⟨rfl, Bw20⟩
end Go.Proofs.YtaapopfmnlaedaaDoor
