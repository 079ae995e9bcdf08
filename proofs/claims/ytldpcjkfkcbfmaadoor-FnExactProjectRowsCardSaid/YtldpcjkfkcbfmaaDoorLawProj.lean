/- laws.FnExactProjectRows: the walk. -/
import Derived.Test.YtldpcjkfkcbfmaaDoorProjI
import Derived.Test.YtldpcjkfkcbfmaaDoorStrV
namespace Go.Proofs.YtldpcjkfkcbfmaaDoor
open Go Go.RowKit
set_option maxRecDepth 100000
set_option maxHeartbeats 3200000 in
theorem lawExactProj_walk {w : World} (v0 : Value) (names0 : List ByteArray) (rows0 : List (List Int)) (ht0 : TabA w v0 names0 rows0) (A1 : Option Addr) (n1 c1 : Nat) (xs1 : List ByteArray) (hl1 : xs1.length = n1) (hc1 : n1 ≤ c1) (hz1 : n1 ≤ maxLen) (hn1 : ∀ x ∈ xs1, x.size ≤ maxLen) (hx1 : Reads w w.heap.size 1 A1 n1 (stCells xs1))  (RA : Option Addr) (RC : Nat) (hv : w.cell? ⟨0, 0, none⟩ = some (.slice RA 13 RC)) (hr : Reads w w.heap.size 1 RA 13 (stCells resW)) :
    Calls Tryd.prog 4 #[v0, .slice A1 n1 c1] w fun e w' => e = .returned (.bool true) ∧ Below w.heap.size w w' := by
  obtain ⟨ok, N, R, hL⟩ := ProjIs.ex names0 rows0 xs1
  have HT0 := Lib.hid ht0
  obtain ⟨A0, c0, B0, d0, rfl, _, _, _⟩ := ht0.form
  clear ht0
  obtain ⟨n0, hlnn0⟩ : ∃ n, names0.length = n := ⟨_, rfl⟩
  obtain ⟨m0, hlnm0⟩ : ∃ n, rows0.length = n := ⟨_, rfl⟩
  rw [hlnn0, hlnm0] at HT0 ⊢
  have HLN0 := Lib.hid (And.intro hlnn0 hlnm0)
  clear hlnn0 hlnm0
  have HT1 := Lib.hid (strR_mk hl1 hc1 hx1)
  have HC1 := Lib.hid (And.intro hc1 (And.intro hz1 hn1))
  have HLN1 := Lib.hid hl1
  clear hx1 hl1 hz1 hn1 hc1
  obtain ⟨nN, hlnnN⟩ : ∃ n, N.length = n := ⟨_, rfl⟩
  obtain ⟨nR, hlnnR⟩ : ∃ n, R.length = n := ⟨_, rfl⟩
  have HNR := Lib.hid (And.intro hlnnN hlnnR)
  clear hlnnN hlnnR
  obtain ⟨w1, hw1⟩ : ∃ w1, w1 = (w.alloc (.cells #[.slice A0 n0 c0, .slice B0 m0 d0] 25)) := ⟨_, rfl⟩
  have Bw1 : Below w.heap.size w w1 := by rw [hw1]; exact (Below.refl _ _).alloc (Nat.le_refl _) _
  have k0_1 : Blk w1 w.heap.size 25 #[.slice A0 n0 c0, .slice B0 m0 d0] := by rw [hw1]; exact (Blk.new _ _ _)
  have s1 := Lib.hid k0_1.lt
  have qc0_0 := k0_1.cell 0
  have qc0_1 := k0_1.cell 1
  simp at qc0_0 qc0_1
  have HW := Lib.hid hw1
  have HV := Lib.hid hv
  have HR := Lib.hid hr
  have HL := Lib.hid hL
  have S1 := Lib.hid (And.intro Bw1 k0_1)
  clear hv hr hL Bw1 k0_1
  have SZ0 := Lib.hid (fun (hb : Below w.heap.size w w1) => szTable_any _ names0 rows0 1048576 w1 (by decide) (by decide) (HT0.out.below hb))
  have SZ0 := Lib.hid (SZ0.out S1.out.1)
  go_enter Tryd.func4, Tryd.ntmps4
  go_wp2_with fail
  rw [← HW.out]
  clear hw1
  obtain ⟨Bw1, k0_1⟩ := S1.out
  clear S1
  refine SZ0.out.mono ?_
  rintro e w2 ⟨r0, rfl, g1, hg0, g3, b2⟩
  have G3 := Lib.hid g3
  clear qc0_0 qc0_1
  clear g3 SZ0
  have Bw2 := Bw1.trans (b2.mono Bw1.size)
  have k0_2 := k0_1.below b2 k0_1.lt
  have s2 := Lib.hid b2.size
  clear Bw1 k0_1 b2
  by_cases hr0 : r0 < 0
  · go_wp2_with fail
    go_ret
    exact ⟨rfl, Bw2⟩
  have hr0n : ¬ r0 < 0 := hr0
  have hr0z : 0 ≤ r0 := by omega
  have SM0 := Lib.hid (show Small names0 rows0 by
    obtain ⟨⟨a, b⟩, c, d⟩ := G3.out hr0z
    exact ⟨a, b, c, d⟩)
  clear G3 g1 hr0
  have SZ1 := Lib.hid (szStrs_any A1 n1 c1 xs1 r0 w2 (by omega) (by omega) (HT1.out.below Bw2) HC1.out.2.1 HC1.out.2.2 HLN1.out)
  go_wp2_with fail
  refine SZ1.out.mono ?_
  rintro e w3 ⟨r1, rfl, g1, hg1, g3, b3⟩
  have G3 := Lib.hid g3
  clear g3 SZ1
  have Bw3 := Bw2.trans (b3.mono Bw2.size)
  have k0_3 := k0_2.below b3 k0_2.lt
  have s3 := Lib.hid b3.size
  clear Bw2 k0_2 b3
  by_cases hr1 : r1 < 0
  · go_wp2_with fail
    go_ret
    exact ⟨rfl, Bw3⟩
  have hr1n : ¬ r1 < 0 := hr1
  have hr1z : 0 ≤ r1 := by omega
  have SM1 := Lib.hid (G3.out hr1z)
  clear G3 g1 hr1
  have SN := Lib.hid (HL.out.small SM0.out SM1.out)
  have TO0 := Lib.hid (fun (wr : World) (hb : Below w.heap.size w wr) => toTab_any _ names0 rows0 wr (HT0.out.below hb).reads SM0.out)
  rw [HLN0.out.1, HLN0.out.2] at TO0
  have TO1 := Lib.hid (fun (wr : World) (hb : Below w.heap.size w wr) => toStrs_any A1 n1 c1 xs1 wr ((HT1.out.below hb)) SM1.out HLN1.out)
  have hqq : (ok != ok) = false := by cases ok <;> rfl
  have qd0 := k0_3.cell 0
  have qd1 := k0_3.cell 1
  simp at qd0 qd1
  go_wp2_with fail
  refine (TO0.out w3 Bw3).mono ?_
  rintro e w4 ⟨A4, c4, B4, d4, rfl, o4, b4⟩
  clear qd0 qd1
  have Bw4 := Bw3.trans (b4.mono Bw3.size)
  have k0_4 := k0_3.below b4 k0_3.lt
  have s4 := Lib.hid b4.size
  clear Bw3 k0_3 b4
  have T0_4 := o4.tabV
  clear o4
  go_wp2_with fail
  refine (TO1.out w4 Bw4).mono ?_
  rintro e w5 ⟨A5, c5, rfl, o5, b5⟩
  have Bw5 := Bw4.trans (b5.mono Bw4.size)
  have k0_5 := k0_4.below b5 k0_4.lt
  have T0_5 := T0_4.below b5
  have s5 := Lib.hid b5.size
  clear Bw4 T0_4 k0_4 b5
  have T1_5 := o5.strV
  clear o5
  have CL := Lib.hid (specProj_any _ names0 rows0 _ n1 c5 xs1 ok N R HL.out w5 T0_5.tabR SM0.out T1_5.strR.at_.1 HLN1.out SM1.out)
  go_wp2_with fail
  refine CL.out.mono ?_
  rintro e w6 hres
  obtain ⟨A6, c6, B6, d6, rfl, o6, b6⟩ := hres.form
  rw [HNR.out.1, HNR.out.2] at o6 ⊢
  clear CL hres
  clear T0_5
  clear T1_5
  have Bw6 := Bw5.trans (b6.mono Bw5.size)
  have k0_6 := k0_5.below b6 k0_5.lt
  have s6 := Lib.hid b6.size
  clear Bw5 k0_5 b6
  obtain ⟨w7, hw7⟩ : ∃ w7, w7 = w6.alloc (.cells #[.slice A6 nN c6, .slice B6 nR d6] 27) := ⟨_, rfl⟩
  have b7 : Below w6.heap.size w6 w7 := by rw [hw7]; exact (Below.refl _ _).alloc (Nat.le_refl _) _
  have k6_7 : Blk w7 w6.heap.size 27 #[.slice A6 nN c6, .slice B6 nR d6] := by rw [hw7]; exact Blk.new _ _ _
  have W0_7 := (o6.reads.tabB).belowW (Nat.le_refl _) b7
  clear o6
  have Bw7 := Bw6.trans (b7.mono Bw6.size)
  have k0_7 := k0_6.below b7 k0_6.lt
  have s7 := Lib.hid b7.size
  clear Bw6 k0_6 b7
  have s7 := Lib.hid k6_7.lt
  have qd0 := k0_7.cell 0
  have qd1 := k0_7.cell 1
  simp at qd0 qd1
  have HW7 := Lib.hid hw7
  rw [hw7] at qd0 qd1
  go_wp2_with fail
  rw [← HW7.out]
  clear hw7 HW7
  refine (TO0.out w7 Bw7).mono ?_
  rintro e w8 ⟨A8, c8, B8, d8, rfl, o8, b8⟩
  clear qd0 qd1
  have Bw8 := Bw7.trans (b8.mono Bw7.size)
  have k0_8 := k0_7.below b8 k0_7.lt
  have k6_8 := k6_7.below b8 k6_7.lt
  have W0_8 := W0_7.belowW (Nat.le_of_lt s7.out) b8
  have s8 := Lib.hid b8.size
  clear Bw7 W0_7 k6_7 k0_7 b8
  obtain ⟨w9, hw9⟩ : ∃ w9, w9 = w8.alloc (.cells #[.slice A8 n0 c8, .slice B8 m0 d8] 27) := ⟨_, rfl⟩
  have b9 : Below w8.heap.size w8 w9 := by rw [hw9]; exact (Below.refl _ _).alloc (Nat.le_refl _) _
  have h0_9 : Blk w9 w8.heap.size 27 #[.slice A8 n0 c8, .slice B8 m0 d8] := by rw [hw9]; exact Blk.new _ _ _
  have X0_9 := o8.tabV.below b9
  clear o8
  have Bw9 := Bw8.trans (b9.mono Bw8.size)
  have k0_9 := k0_8.below b9 k0_8.lt
  have k6_9 := k6_8.below b9 k6_8.lt
  have W0_9 := W0_8.belowW (Nat.le_trans (Nat.le_of_lt s7.out) s8.out) b9
  have s9 := Lib.hid b9.size
  clear Bw8 W0_8 k6_8 k0_8 b9
  have s9 := Lib.hid h0_9.lt
  have HW9 := Lib.hid hw9
  go_wp2_with fail
  rw [← HW9.out]
  clear hw9 HW9
  refine (TO1.out w9 Bw9).mono ?_
  rintro e w10 ⟨A10, c10, rfl, o10, b10⟩
  have Bw10 := Bw9.trans (b10.mono Bw9.size)
  have k0_10 := k0_9.below b10 k0_9.lt
  have k6_10 := k6_9.below b10 k6_9.lt
  have W0_10 := W0_9.belowW (Nat.le_trans (Nat.le_trans (Nat.le_of_lt s7.out) s8.out) (Nat.le_of_lt s9.out)) b10
  have X0_10 := X0_9.below b10
  have h0_10 := h0_9.below b10 h0_9.lt
  have s10 := Lib.hid b10.size
  clear Bw9 h0_9 X0_9 W0_9 k6_9 k0_9 b10
  have X1_10 := o10.strV
  clear o10
  have qu0_0 := h0_10.cell 0
  have qu0_1 := h0_10.cell 1
  simp at qu0_0 qu0_1
  go_wp2_with fail
  have CL := Lib.hid (implProj_any _ names0 rows0 _ n1 c10 xs1 ok N R HL.out RA RC w10 (below_keep Bw10 HV.out) ((HR.out.below Bw10).more Bw10.size) X0_10.tabR SM0.out X1_10.strR.at_.1 HLN1.out X1_10.strR.at_.2 SM1.out)
  refine CL.out.mono ?_
  rintro e w11 hres
  obtain ⟨A11, c11, B11, d11, rfl, o11, b11⟩ := hres.form
  rw [HNR.out.1, HNR.out.2] at o11 ⊢
  clear CL hres
  clear qu0_0 qu0_1
  have Bw11 := Bw10.trans (b11.mono Bw10.size)
  have k0_11 := k0_10.below b11 k0_10.lt
  have k6_11 := k6_10.below b11 k6_10.lt
  have W0_11 := W0_10.belowW (Nat.le_trans (Nat.le_trans (Nat.le_trans (Nat.le_of_lt s7.out) s8.out) (Nat.le_of_lt s9.out)) s10.out) b11
  have X0_11 := X0_10.below b11
  have h0_11 := h0_10.below b11 h0_10.lt
  have X1_11 := X1_10.below b11
  have s11 := Lib.hid b11.size
  clear Bw10 X1_10 h0_10 X0_10 W0_10 k6_10 k0_10 b11
  obtain ⟨w12, hw12⟩ : ∃ w12, w12 = w11.alloc (.cells #[.slice A11 nN c11, .slice B11 nR d11] 27) := ⟨_, rfl⟩
  have b12 : Below w11.heap.size w11 w12 := by rw [hw12]; exact (Below.refl _ _).alloc (Nat.le_refl _) _
  have kg_12 : Blk w12 w11.heap.size 27 #[.slice A11 nN c11, .slice B11 nR d11] := by rw [hw12]; exact Blk.new _ _ _
  have G0_12 := o11.tabV.below b12
  clear o11
  have Bw12 := Bw11.trans (b12.mono Bw11.size)
  have k0_12 := k0_11.below b12 k0_11.lt
  have k6_12 := k6_11.below b12 k6_11.lt
  have W0_12 := W0_11.belowW (Nat.le_trans (Nat.le_trans (Nat.le_trans (Nat.le_trans (Nat.le_of_lt s7.out) s8.out) (Nat.le_of_lt s9.out)) s10.out) s11.out) b12
  have X0_12 := X0_11.below b12
  have h0_12 := h0_11.below b12 h0_11.lt
  have X1_12 := X1_11.below b12
  have s12 := Lib.hid b12.size
  clear Bw11 X1_11 h0_11 X0_11 W0_11 k6_11 k0_11 b12
  have s12 := Lib.hid kg_12.lt
  have EQ := Lib.hid (fun (wr : World) (x y : Value) (hx : TabR wr x N R) (hy : TabR wr y N R) => eqTable_yes x y N R wr hx hy SN.out.ok)
  have qu0 := kg_12.cell 0
  have qu1 := kg_12.cell 1
  simp at qu0 qu1
  have qz0 := k6_12.cell 0
  have qz1 := k6_12.cell 1
  simp at qz0 qz1
  have HW12 := Lib.hid hw12
  rw [hw12] at qu0 qu1 qz0 qz1
  go_wp2_with fail
  rw [← HW12.out]
  clear hw12 HW12
  refine (EQ.out w12 _ _ G0_12.tabR (W0_12.tabR (Nat.le_trans (Nat.le_trans (Nat.le_trans (Nat.le_trans (Nat.le_trans (Nat.le_of_lt s7.out) s8.out) (Nat.le_of_lt s9.out)) s10.out) s11.out) (Nat.le_of_lt s12.out)))).mono ?_
  rintro e w13 ⟨rfl, b13⟩
  clear qu0 qu1 qz0 qz1
  have Bw13 := Bw12.trans (b13.mono Bw12.size)
  have k0_13 := k0_12.below b13 k0_12.lt
  have k6_13 := k6_12.below b13 k6_12.lt
  have W0_13 := W0_12.belowW (Nat.le_trans (Nat.le_trans (Nat.le_trans (Nat.le_trans (Nat.le_trans (Nat.le_of_lt s7.out) s8.out) (Nat.le_of_lt s9.out)) s10.out) s11.out) (Nat.le_of_lt s12.out)) b13
  have X0_13 := X0_12.below b13
  have h0_13 := h0_12.below b13 h0_12.lt
  have X1_13 := X1_12.below b13
  have kg_13 := kg_12.below b13 kg_12.lt
  have G0_13 := G0_12.below b13
  have s13 := Lib.hid b13.size
  clear Bw12 G0_12 kg_12 X1_12 h0_12 X0_12 W0_12 k6_12 k0_12 b13
  have qd0 := k0_13.cell 0
  have qd1 := k0_13.cell 1
  simp at qd0 qd1
  have qu0 := h0_13.cell 0
  have qu1 := h0_13.cell 1
  simp at qu0 qu1
  have STT := Lib.hid (And.intro Bw13 (And.intro k0_13 (And.intro k6_13 (And.intro W0_13 (And.intro X0_13 (And.intro h0_13 (And.intro X1_13 (And.intro kg_13 G0_13))))))))
  clear Bw13 G0_13 kg_13 X1_13 h0_13 X0_13 W0_13 k6_13 k0_13
  have TO' := Lib.hid (fun (w' : World) (hb : Below w13.heap.size w13 w') => TO0.out w' (STT.out.1.trans (hb.mono STT.out.1.size)))
  have EX' := Lib.hid (fun (w' : World) (hb : Below w13.heap.size w13 w') (u : Value) (hu : TabR w' u names0 rows0) => eqTable_yes _ u names0 rows0 w' (STT.out.2.2.2.2.1.below hb).tabR hu SM0.out.ok)
  go_wp2_with fail
  go_region_held3 (fun w' => w'.cell? ⟨w.heap.size, 0, none⟩ = some (.slice A0 n0 c0) ∧ w'.cell? ⟨w.heap.size, 1, none⟩ = some (.slice B0 m0 d0) ∧ w'.cell? ⟨w8.heap.size, 0, none⟩ = some (.slice A8 n0 c8) ∧ w'.cell? ⟨w8.heap.size, 1, none⟩ = some (.slice B8 m0 d8))
    (first | go_keep | (go_split_ands; refine ⟨?_, ?_, ?_, ?_⟩ <;> (refine below_keep hb' ?_; assumption)))
    (first | (go_at_call 8; refine (TO'.out _ ((Below.refl _ _).drew)).mono ?_; rintro e w' ⟨A90, c90, B90, d90, rfl, o8, hb'⟩) | (go_at_call 10; refine (EX'.out _ ((Below.refl _ _).drew.trans hb') _ o8.reads).mono ?_; rintro e w' ⟨rfl, hb2⟩; have hb3 := hb'.trans (hb2.mono hb'.size); have hb' := (Below.refl _ _).trans hb2))
  have b14 := (Below.refl w13.heap.size w13).drew.trans hb3
  clear hb3 hb2 hb' o8 EX' TO' qd0 qd1 qu0 qu1
  obtain ⟨w14, rfl⟩ : ∃ x, x = w' := ⟨_, rfl⟩
  obtain ⟨Bw13, k0_13, k6_13, W0_13, X0_13, h0_13, X1_13, kg_13, G0_13⟩ := STT.out
  clear STT
  have Bw14 := Bw13.trans (b14.mono Bw13.size)
  have k0_14 := k0_13.below b14 k0_13.lt
  have k6_14 := k6_13.below b14 k6_13.lt
  have W0_14 := W0_13.belowW (Nat.le_trans (Nat.le_trans (Nat.le_trans (Nat.le_trans (Nat.le_trans (Nat.le_trans (Nat.le_of_lt s7.out) s8.out) (Nat.le_of_lt s9.out)) s10.out) s11.out) (Nat.le_of_lt s12.out)) s13.out) b14
  have X0_14 := X0_13.below b14
  have h0_14 := h0_13.below b14 h0_13.lt
  have X1_14 := X1_13.below b14
  have kg_14 := kg_13.below b14 kg_13.lt
  have G0_14 := G0_13.below b14
  have s14 := Lib.hid b14.size
  clear Bw13 G0_13 kg_13 X1_13 h0_13 X0_13 W0_13 k6_13 k0_13 b14
  go_wp2_with fail
  refine (TO1.out w14 Bw14).mono ?_
  rintro e w15 ⟨A15, c15, rfl, o15, b15⟩
  have Bw15 := Bw14.trans (b15.mono Bw14.size)
  have k0_15 := k0_14.below b15 k0_14.lt
  have k6_15 := k6_14.below b15 k6_14.lt
  have W0_15 := W0_14.belowW (Nat.le_trans (Nat.le_trans (Nat.le_trans (Nat.le_trans (Nat.le_trans (Nat.le_trans (Nat.le_trans (Nat.le_of_lt s7.out) s8.out) (Nat.le_of_lt s9.out)) s10.out) s11.out) (Nat.le_of_lt s12.out)) s13.out) s14.out) b15
  have X0_15 := X0_14.below b15
  have h0_15 := h0_14.below b15 h0_14.lt
  have X1_15 := X1_14.below b15
  have kg_15 := kg_14.below b15 kg_14.lt
  have G0_15 := G0_14.below b15
  have s15 := Lib.hid b15.size
  clear Bw14 G0_14 kg_14 X1_14 h0_14 X0_14 W0_14 k6_14 k0_14 b15
  go_wp2_with fail
  refine (eqStrs_yes _ _ xs1 w15 X1_15.strR o15.strV.strR SM1.out).mono ?_
  rintro e w16 ⟨rfl, b16⟩
  clear o15
  have Bw16 := Bw15.trans (b16.mono Bw15.size)
  have k0_16 := k0_15.below b16 k0_15.lt
  have k6_16 := k6_15.below b16 k6_15.lt
  have W0_16 := W0_15.belowW (Nat.le_trans (Nat.le_trans (Nat.le_trans (Nat.le_trans (Nat.le_trans (Nat.le_trans (Nat.le_trans (Nat.le_trans (Nat.le_of_lt s7.out) s8.out) (Nat.le_of_lt s9.out)) s10.out) s11.out) (Nat.le_of_lt s12.out)) s13.out) s14.out) s15.out) b16
  have X0_16 := X0_15.below b16
  have h0_16 := h0_15.below b16 h0_15.lt
  have X1_16 := X1_15.below b16
  have kg_16 := kg_15.below b16 kg_15.lt
  have G0_16 := G0_15.below b16
  have s16 := Lib.hid b16.size
  clear Bw15 G0_15 kg_15 X1_15 h0_15 X0_15 W0_15 k6_15 k0_15 b16
  obtain ⟨K0, hK0⟩ : ∃ K, 1 + names0.length + total rows0 = K := ⟨_, rfl⟩
  have qu0 := h0_16.cell 0
  have qu1 := h0_16.cell 1
  simp at qu0 qu1
  have MX := Lib.hid (markTable_any w7.heap.size w8.heap.size 1 _ names0 rows0 w16 X0_16 (Nat.le_trans (Nat.le_trans (Nat.le_trans (Nat.le_trans (Nat.le_trans (Nat.le_trans (Nat.le_trans (Nat.le_of_lt s9.out) s10.out) s11.out) (Nat.le_of_lt s12.out)) s13.out) s14.out) s15.out) s16.out) SM0.out (by decide))
  rw [hK0] at MX
  have hbK0 : K0 ≤ 2200000000000 := by rw [← hK0]; exact (by have h1 := SM0.out.total; have h2 := SM0.out.n1; omega)
  clear hK0
  go_wp2_with fail
  refine MX.out.mono ?_
  rintro e w17 ⟨rfl, -, t17⟩
  clear qu0 qu1
  clear MX
  clear X0_16
  clear h0_16
  have Bw17 := t17.below Bw16 (Nat.le_trans (Nat.le_trans (Nat.le_trans (Nat.le_trans (Nat.le_trans (Nat.le_trans (Nat.le_of_lt s1.out) s2.out) s3.out) s4.out) s5.out) s6.out) (Nat.le_of_lt s7.out))
  have k0_17 := t17.blk k0_16 (Or.inl (Nat.lt_of_lt_of_le s1.out (Nat.le_trans (Nat.le_trans (Nat.le_trans (Nat.le_trans (Nat.le_trans s2.out s3.out) s4.out) s5.out) s6.out) (Nat.le_of_lt s7.out))))
  have k6_17 := t17.blk k6_16 (Or.inl s7.out)
  have W0_17 := W0_16.touch t17 (Nat.le_of_lt s7.out) (Nat.le_trans (Nat.le_trans (Nat.le_trans (Nat.le_trans (Nat.le_trans (Nat.le_trans (Nat.le_trans (Nat.le_trans (Nat.le_trans (Nat.le_of_lt s7.out) s8.out) (Nat.le_of_lt s9.out)) s10.out) s11.out) (Nat.le_of_lt s12.out)) s13.out) s14.out) s15.out) s16.out)
  have X1_17 := X1_16.touch t17 (Or.inr (Nat.le_of_lt s9.out))
  have kg_17 := t17.blk kg_16 (Or.inr (Nat.le_trans (Nat.le_trans (Nat.le_of_lt s9.out) s10.out) s11.out))
  have G0_17 := G0_16.touch t17 (Or.inr (Nat.le_trans (Nat.le_of_lt s9.out) s10.out))
  have s17 := Lib.hid t17.size
  clear Bw16 G0_16 kg_16 X1_16 W0_16 k6_16 k0_16 t17
  obtain ⟨K1, hK1⟩ : ∃ K, K0 + xs1.length = K := ⟨_, rfl⟩
  have MX := Lib.hid (markStrs_any w9.heap.size w10.heap.size K0 _ xs1 w17 X1_17 (Nat.le_trans (Nat.le_trans (Nat.le_trans (Nat.le_trans (Nat.le_trans (Nat.le_trans s11.out (Nat.le_of_lt s12.out)) s13.out) s14.out) s15.out) s16.out) s17.out) SM1.out (Nat.le_trans hbK0 (by decide)))
  rw [hK1] at MX
  skip
  clear hK1
  go_wp2_with fail
  refine MX.out.mono ?_
  rintro e w18 ⟨rfl, -, t18⟩
  clear MX
  clear X1_17
  have Bw18 := t18.below Bw17 (Nat.le_trans (Nat.le_trans (Nat.le_trans (Nat.le_trans (Nat.le_trans (Nat.le_trans (Nat.le_trans (Nat.le_trans (Nat.le_of_lt s1.out) s2.out) s3.out) s4.out) s5.out) s6.out) (Nat.le_of_lt s7.out)) s8.out) (Nat.le_of_lt s9.out))
  have k0_18 := t18.blk k0_17 (Or.inl (Nat.lt_of_lt_of_le s1.out (Nat.le_trans (Nat.le_trans (Nat.le_trans (Nat.le_trans (Nat.le_trans (Nat.le_trans (Nat.le_trans s2.out s3.out) s4.out) s5.out) s6.out) (Nat.le_of_lt s7.out)) s8.out) (Nat.le_of_lt s9.out))))
  have k6_18 := t18.blk k6_17 (Or.inl (Nat.lt_of_lt_of_le s7.out (Nat.le_trans s8.out (Nat.le_of_lt s9.out))))
  have W0_18 := W0_17.touch t18 (Nat.le_trans (Nat.le_trans (Nat.le_of_lt s7.out) s8.out) (Nat.le_of_lt s9.out)) (Nat.le_trans (Nat.le_trans (Nat.le_trans (Nat.le_trans (Nat.le_trans (Nat.le_trans (Nat.le_trans (Nat.le_trans (Nat.le_trans (Nat.le_trans (Nat.le_of_lt s7.out) s8.out) (Nat.le_of_lt s9.out)) s10.out) s11.out) (Nat.le_of_lt s12.out)) s13.out) s14.out) s15.out) s16.out) s17.out)
  have kg_18 := t18.blk kg_17 (Or.inr s11.out)
  have G0_18 := G0_17.touch t18 (Or.inr (Nat.le_refl _))
  have s18 := Lib.hid t18.size
  clear Bw17 G0_17 kg_17 W0_17 k6_17 k0_17 t18
  have hk1 : ¬ ((K1 : Int) < 0) := Int.not_lt.2 (Int.natCast_nonneg _)
  have qu0 := kg_18.cell 0
  have qu1 := kg_18.cell 1
  simp at qu0 qu1
  have qz0 := k6_18.cell 0
  have qz1 := k6_18.cell 1
  simp at qz0 qz1
  go_wp2_with fail
  refine (EQ.out w18 _ _ G0_18.tabR (W0_18.tabR (Nat.le_trans (Nat.le_trans (Nat.le_trans (Nat.le_trans (Nat.le_trans (Nat.le_trans (Nat.le_trans (Nat.le_trans (Nat.le_trans (Nat.le_trans (Nat.le_trans (Nat.le_of_lt s7.out) s8.out) (Nat.le_of_lt s9.out)) s10.out) s11.out) (Nat.le_of_lt s12.out)) s13.out) s14.out) s15.out) s16.out) s17.out) s18.out))).mono ?_
  rintro e w19 ⟨rfl, b19⟩
  clear qu0 qu1 qz0 qz1
  have Bw19 := Bw18.trans (b19.mono Bw18.size)
  have k0_19 := k0_18.below b19 k0_18.lt
  have k6_19 := k6_18.below b19 k6_18.lt
  have W0_19 := W0_18.belowW (Nat.le_trans (Nat.le_trans (Nat.le_trans (Nat.le_trans (Nat.le_trans (Nat.le_trans (Nat.le_trans (Nat.le_trans (Nat.le_trans (Nat.le_trans (Nat.le_trans (Nat.le_of_lt s7.out) s8.out) (Nat.le_of_lt s9.out)) s10.out) s11.out) (Nat.le_of_lt s12.out)) s13.out) s14.out) s15.out) s16.out) s17.out) s18.out) b19
  have kg_19 := kg_18.below b19 kg_18.lt
  have G0_19 := G0_18.below b19
  have s19 := Lib.hid b19.size
  clear Bw18 G0_18 kg_18 W0_18 k6_18 k0_18 b19
  obtain ⟨KG, hKG⟩ : ∃ K, 1 + N.length + total R = K := ⟨_, rfl⟩
  have qu0 := kg_19.cell 0
  have qu1 := kg_19.cell 1
  simp at qu0 qu1
  have MG := Lib.hid (markTable_any w10.heap.size w11.heap.size 1 _ N R w19 G0_19 (Nat.le_trans (Nat.le_trans (Nat.le_trans (Nat.le_trans (Nat.le_trans (Nat.le_trans (Nat.le_trans (Nat.le_of_lt s12.out) s13.out) s14.out) s15.out) s16.out) s17.out) s18.out) s19.out) SN.out (by decide))
  rw [hKG] at MG
  have HG := Lib.hid (fun (wr : World) (hg : TabR wr (.agg #[.slice A11 nN c11, .slice B11 nR d11]) (stMarks 1 N.length) (rowMarks (1 + N.length) R)) => heldTable_any 1 N.length _ R wr hg (by decide) SN.out.n1 SN.out.r1 SN.out.r2)
  rw [hKG] at HG
  have hk2 : ¬ ((KG : Int) < 0) := Int.not_lt.2 (Int.natCast_nonneg _)
  clear hKG
  go_wp2_with fail
  refine MG.out.mono ?_
  rintro e w20 ⟨rfl, G1_20, t20⟩
  clear qu0 qu1 MG
  clear G0_19
  have Bw20 := t20.below Bw19 (Nat.le_trans (Nat.le_trans (Nat.le_trans (Nat.le_trans (Nat.le_trans (Nat.le_trans (Nat.le_trans (Nat.le_trans (Nat.le_trans (Nat.le_of_lt s1.out) s2.out) s3.out) s4.out) s5.out) s6.out) (Nat.le_of_lt s7.out)) s8.out) (Nat.le_of_lt s9.out)) s10.out)
  have k0_20 := t20.blk k0_19 (Or.inl (Nat.lt_of_lt_of_le s1.out (Nat.le_trans (Nat.le_trans (Nat.le_trans (Nat.le_trans (Nat.le_trans (Nat.le_trans (Nat.le_trans (Nat.le_trans s2.out s3.out) s4.out) s5.out) s6.out) (Nat.le_of_lt s7.out)) s8.out) (Nat.le_of_lt s9.out)) s10.out)))
  have k6_20 := t20.blk k6_19 (Or.inl (Nat.lt_of_lt_of_le s7.out (Nat.le_trans (Nat.le_trans s8.out (Nat.le_of_lt s9.out)) s10.out)))
  have W0_20 := W0_19.touch t20 (Nat.le_trans (Nat.le_trans (Nat.le_trans (Nat.le_of_lt s7.out) s8.out) (Nat.le_of_lt s9.out)) s10.out) (Nat.le_trans (Nat.le_trans (Nat.le_trans (Nat.le_trans (Nat.le_trans (Nat.le_trans (Nat.le_trans (Nat.le_trans (Nat.le_trans (Nat.le_trans (Nat.le_trans (Nat.le_trans (Nat.le_of_lt s7.out) s8.out) (Nat.le_of_lt s9.out)) s10.out) s11.out) (Nat.le_of_lt s12.out)) s13.out) s14.out) s15.out) s16.out) s17.out) s18.out) s19.out)
  have kg_20 := t20.blk kg_19 (Or.inr (Nat.le_refl _))
  have s20 := Lib.hid t20.size
  clear Bw19 kg_19 W0_19 k6_19 k0_19 t20
  have qu0 := kg_20.cell 0
  have qu1 := kg_20.cell 1
  simp at qu0 qu1
  go_wp2_with fail
  refine (HG.out w20 G1_20.tabR).mono ?_
  rintro e w21 ⟨rfl, b21⟩
  clear qu0 qu1
  have Bw21 := Bw20.trans (b21.mono Bw20.size)
  have k0_21 := k0_20.below b21 k0_20.lt
  have k6_21 := k6_20.below b21 k6_20.lt
  have W0_21 := W0_20.belowW (Nat.le_trans (Nat.le_trans (Nat.le_trans (Nat.le_trans (Nat.le_trans (Nat.le_trans (Nat.le_trans (Nat.le_trans (Nat.le_trans (Nat.le_trans (Nat.le_trans (Nat.le_trans (Nat.le_trans (Nat.le_of_lt s7.out) s8.out) (Nat.le_of_lt s9.out)) s10.out) s11.out) (Nat.le_of_lt s12.out)) s13.out) s14.out) s15.out) s16.out) s17.out) s18.out) s19.out) s20.out) b21
  have kg_21 := kg_20.below b21 kg_20.lt
  have G1_21 := G1_20.below b21
  have s21 := Lib.hid b21.size
  clear Bw20 G1_20 kg_20 W0_20 k6_20 k0_20 b21
  have qd0 := k0_21.cell 0
  have qd1 := k0_21.cell 1
  simp at qd0 qd1
  go_wp2_with fail
  refine (TO0.out w21 Bw21).mono ?_
  rintro e w22 ⟨A22, c22, B22, d22, rfl, o22, b22⟩
  clear qd0 qd1
  have Bw22 := Bw21.trans (b22.mono Bw21.size)
  have k0_22 := k0_21.below b22 k0_21.lt
  have k6_22 := k6_21.below b22 k6_21.lt
  have W0_22 := W0_21.belowW (Nat.le_trans (Nat.le_trans (Nat.le_trans (Nat.le_trans (Nat.le_trans (Nat.le_trans (Nat.le_trans (Nat.le_trans (Nat.le_trans (Nat.le_trans (Nat.le_trans (Nat.le_trans (Nat.le_trans (Nat.le_trans (Nat.le_of_lt s7.out) s8.out) (Nat.le_of_lt s9.out)) s10.out) s11.out) (Nat.le_of_lt s12.out)) s13.out) s14.out) s15.out) s16.out) s17.out) s18.out) s19.out) s20.out) s21.out) b22
  have kg_22 := kg_21.below b22 kg_21.lt
  have G1_22 := G1_21.below b22
  have s22 := Lib.hid b22.size
  clear Bw21 G1_21 kg_21 W0_21 k6_21 k0_21 b22
  have T0_22 := o22.tabV
  clear o22
  go_wp2_with fail
  refine (TO1.out w22 Bw22).mono ?_
  rintro e w23 ⟨A23, c23, rfl, o23, b23⟩
  have Bw23 := Bw22.trans (b23.mono Bw22.size)
  have k0_23 := k0_22.below b23 k0_22.lt
  have k6_23 := k6_22.below b23 k6_22.lt
  have W0_23 := W0_22.belowW (Nat.le_trans (Nat.le_trans (Nat.le_trans (Nat.le_trans (Nat.le_trans (Nat.le_trans (Nat.le_trans (Nat.le_trans (Nat.le_trans (Nat.le_trans (Nat.le_trans (Nat.le_trans (Nat.le_trans (Nat.le_trans (Nat.le_trans (Nat.le_of_lt s7.out) s8.out) (Nat.le_of_lt s9.out)) s10.out) s11.out) (Nat.le_of_lt s12.out)) s13.out) s14.out) s15.out) s16.out) s17.out) s18.out) s19.out) s20.out) s21.out) s22.out) b23
  have kg_23 := kg_22.below b23 kg_22.lt
  have G1_23 := G1_22.below b23
  have T0_23 := T0_22.below b23
  have s23 := Lib.hid b23.size
  clear Bw22 T0_22 G1_22 kg_22 W0_22 k6_22 k0_22 b23
  have T1_23 := o23.strV
  clear o23
  have CL := Lib.hid (implProj_any _ names0 rows0 _ n1 c23 xs1 ok N R HL.out RA RC w23 (below_keep Bw23 HV.out) ((HR.out.below Bw23).more Bw23.size) T0_23.tabR SM0.out T1_23.strR.at_.1 HLN1.out T1_23.strR.at_.2 SM1.out)
  go_wp2_with fail
  refine CL.out.mono ?_
  rintro e w24 hres
  obtain ⟨A24, c24, B24, d24, rfl, o24, b24⟩ := hres.form
  rw [HNR.out.1, HNR.out.2] at o24 ⊢
  clear CL hres
  clear T0_23
  clear T1_23
  have Bw24 := Bw23.trans (b24.mono Bw23.size)
  have k0_24 := k0_23.below b24 k0_23.lt
  have k6_24 := k6_23.below b24 k6_23.lt
  have W0_24 := W0_23.belowW (Nat.le_trans (Nat.le_trans (Nat.le_trans (Nat.le_trans (Nat.le_trans (Nat.le_trans (Nat.le_trans (Nat.le_trans (Nat.le_trans (Nat.le_trans (Nat.le_trans (Nat.le_trans (Nat.le_trans (Nat.le_trans (Nat.le_trans (Nat.le_trans (Nat.le_of_lt s7.out) s8.out) (Nat.le_of_lt s9.out)) s10.out) s11.out) (Nat.le_of_lt s12.out)) s13.out) s14.out) s15.out) s16.out) s17.out) s18.out) s19.out) s20.out) s21.out) s22.out) s23.out) b24
  have kg_24 := kg_23.below b24 kg_23.lt
  have G1_24 := G1_23.below b24
  have s24 := Lib.hid b24.size
  clear Bw23 G1_23 kg_23 W0_23 k6_23 k0_23 b24
  obtain ⟨w25, hw25⟩ : ∃ w25, w25 = w24.alloc (.cells #[.slice A24 nN c24, .slice B24 nR d24] 27) := ⟨_, rfl⟩
  have b25 : Below w24.heap.size w24 w25 := by rw [hw25]; exact (Below.refl _ _).alloc (Nat.le_refl _) _
  have ky_25 : Blk w25 w24.heap.size 27 #[.slice A24 nN c24, .slice B24 nR d24] := by rw [hw25]; exact Blk.new _ _ _
  have Y0_25 := o24.tabV.below b25
  clear o24
  have Bw25 := Bw24.trans (b25.mono Bw24.size)
  have k0_25 := k0_24.below b25 k0_24.lt
  have k6_25 := k6_24.below b25 k6_24.lt
  have W0_25 := W0_24.belowW (Nat.le_trans (Nat.le_trans (Nat.le_trans (Nat.le_trans (Nat.le_trans (Nat.le_trans (Nat.le_trans (Nat.le_trans (Nat.le_trans (Nat.le_trans (Nat.le_trans (Nat.le_trans (Nat.le_trans (Nat.le_trans (Nat.le_trans (Nat.le_trans (Nat.le_trans (Nat.le_of_lt s7.out) s8.out) (Nat.le_of_lt s9.out)) s10.out) s11.out) (Nat.le_of_lt s12.out)) s13.out) s14.out) s15.out) s16.out) s17.out) s18.out) s19.out) s20.out) s21.out) s22.out) s23.out) s24.out) b25
  have kg_25 := kg_24.below b25 kg_24.lt
  have G1_25 := G1_24.below b25
  have s25 := Lib.hid b25.size
  clear Bw24 G1_24 kg_24 W0_24 k6_24 k0_24 b25
  have s25 := Lib.hid ky_25.lt
  have qu0 := ky_25.cell 0
  have qu1 := ky_25.cell 1
  simp at qu0 qu1
  have qz0 := k6_25.cell 0
  have qz1 := k6_25.cell 1
  simp at qz0 qz1
  have HW25 := Lib.hid hw25
  rw [hw25] at qu0 qu1 qz0 qz1
  go_wp2_with fail
  rw [← HW25.out]
  clear hw25 HW25
  refine (EQ.out w25 _ _ Y0_25.tabR (W0_25.tabR (Nat.le_trans (Nat.le_trans (Nat.le_trans (Nat.le_trans (Nat.le_trans (Nat.le_trans (Nat.le_trans (Nat.le_trans (Nat.le_trans (Nat.le_trans (Nat.le_trans (Nat.le_trans (Nat.le_trans (Nat.le_trans (Nat.le_trans (Nat.le_trans (Nat.le_trans (Nat.le_trans (Nat.le_of_lt s7.out) s8.out) (Nat.le_of_lt s9.out)) s10.out) s11.out) (Nat.le_of_lt s12.out)) s13.out) s14.out) s15.out) s16.out) s17.out) s18.out) s19.out) s20.out) s21.out) s22.out) s23.out) s24.out) (Nat.le_of_lt s25.out)))).mono ?_
  rintro e w26 ⟨rfl, b26⟩
  clear qu0 qu1 qz0 qz1
  have Bw26 := Bw25.trans (b26.mono Bw25.size)
  have k0_26 := k0_25.below b26 k0_25.lt
  have k6_26 := k6_25.below b26 k6_25.lt
  have W0_26 := W0_25.belowW (Nat.le_trans (Nat.le_trans (Nat.le_trans (Nat.le_trans (Nat.le_trans (Nat.le_trans (Nat.le_trans (Nat.le_trans (Nat.le_trans (Nat.le_trans (Nat.le_trans (Nat.le_trans (Nat.le_trans (Nat.le_trans (Nat.le_trans (Nat.le_trans (Nat.le_trans (Nat.le_trans (Nat.le_of_lt s7.out) s8.out) (Nat.le_of_lt s9.out)) s10.out) s11.out) (Nat.le_of_lt s12.out)) s13.out) s14.out) s15.out) s16.out) s17.out) s18.out) s19.out) s20.out) s21.out) s22.out) s23.out) s24.out) (Nat.le_of_lt s25.out)) b26
  have kg_26 := kg_25.below b26 kg_25.lt
  have G1_26 := G1_25.below b26
  have ky_26 := ky_25.below b26 ky_25.lt
  have Y0_26 := Y0_25.below b26
  have s26 := Lib.hid b26.size
  clear Bw25 Y0_25 ky_25 G1_25 kg_25 W0_25 k6_25 k0_25 b26
  clear Y0_26
  clear ky_26
  have qu0 := kg_26.cell 0
  have qu1 := kg_26.cell 1
  simp at qu0 qu1
  go_wp2_with fail
  refine (HG.out w26 G1_26.tabR).mono ?_
  rintro e w27 ⟨rfl, b27⟩
  clear qu0 qu1
  have Bw27 := Bw26.trans (b27.mono Bw26.size)
  have k0_27 := k0_26.below b27 k0_26.lt
  have k6_27 := k6_26.below b27 k6_26.lt
  have W0_27 := W0_26.belowW (Nat.le_trans (Nat.le_trans (Nat.le_trans (Nat.le_trans (Nat.le_trans (Nat.le_trans (Nat.le_trans (Nat.le_trans (Nat.le_trans (Nat.le_trans (Nat.le_trans (Nat.le_trans (Nat.le_trans (Nat.le_trans (Nat.le_trans (Nat.le_trans (Nat.le_trans (Nat.le_trans (Nat.le_trans (Nat.le_of_lt s7.out) s8.out) (Nat.le_of_lt s9.out)) s10.out) s11.out) (Nat.le_of_lt s12.out)) s13.out) s14.out) s15.out) s16.out) s17.out) s18.out) s19.out) s20.out) s21.out) s22.out) s23.out) s24.out) (Nat.le_of_lt s25.out)) s26.out) b27
  have kg_27 := kg_26.below b27 kg_26.lt
  have G1_27 := G1_26.below b27
  have s27 := Lib.hid b27.size
  clear Bw26 G1_26 kg_26 W0_26 k6_26 k0_26 b27
  go_wp2_with fail
  go_ret
  exact ⟨rfl, Bw27⟩
end Go.Proofs.YtldpcjkfkcbfmaaDoor
