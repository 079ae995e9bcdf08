/- laws.FnExactGroupRows: the walk. -/
import Derived.Test.YtldpcjkfkcbfmaaDoorGrpSp
import Derived.Test.YtldpcjkfkcbfmaaDoorMarkTab
namespace Go.Proofs.YtldpcjkfkcbfmaaDoor
open Go Go.RowKit
set_option maxRecDepth 100000
set_option maxHeartbeats 3200000 in
theorem lawExactGroup_walk {w : World} (v0 : Value) (names0 : List ByteArray) (rows0 : List (List Int)) (ht0 : TabA w v0 names0 rows0) (g : ByteArray) (hzg : g.size ≤ maxLen) (s : ByteArray) (hzs : s.size ≤ maxLen) (RA : Option Addr) (RC : Nat) (hv : w.cell? ⟨0, 0, none⟩ = some (.slice RA 13 RC)) (hr : Reads w w.heap.size 1 RA 13 (stCells resW)) :
    Calls Tryd.prog 5 #[v0, .string g, .string s] w fun e w' => e = .returned (.bool true) ∧ Below w.heap.size w w' := by
  obtain ⟨ok, N, R, hL⟩ := GrpIs.ex names0 rows0 g s
  have HT0 := Lib.hid ht0
  obtain ⟨A0, c0, B0, d0, rfl, _, _, _⟩ := ht0.form
  clear ht0
  obtain ⟨n0, hlnn0⟩ : ∃ n, names0.length = n := ⟨_, rfl⟩
  obtain ⟨m0, hlnm0⟩ : ∃ n, rows0.length = n := ⟨_, rfl⟩
  rw [hlnn0, hlnm0] at HT0 ⊢
  have HLN0 := Lib.hid (And.intro hlnn0 hlnm0)
  clear hlnn0 hlnm0
  obtain ⟨nN, hlnnN⟩ : ∃ n, N.length = n := ⟨_, rfl⟩
  obtain ⟨nR, hlnnR⟩ : ∃ n, R.length = n := ⟨_, rfl⟩
  have HNR := Lib.hid (And.intro hlnnN hlnnR)
  clear hlnnN hlnnR
  obtain ⟨w1, hw1⟩ : ∃ w1, w1 = (w.alloc (.cells #[.slice A0 n0 c0, .slice B0 m0 d0] 25)) := ⟨_, rfl⟩
  have Bw1 : Below w.heap.size w w1 := by rw [hw1]; exact (Below.refl _ _).alloc (Nat.le_refl _) _
  have k0_1 : Blk w1 w.heap.size 25 #[.slice A0 n0 c0, .slice B0 m0 d0] := by rw [hw1]; exact (Blk.new _ _ _)
  have s1 := Lib.hid k0_1.lt
  have qc0_0 := k0_1.cell 0
  have qc0_1 := k0_1.cell 1
  simp at qc0_0 qc0_1
  have HW := Lib.hid hw1
  have HV := Lib.hid hv
  have HR := Lib.hid hr
  have HL := Lib.hid hL
  have S1 := Lib.hid (And.intro Bw1 k0_1)
  clear hv hr hL Bw1 k0_1
  unfold maxLen at hzg
  unfold maxLen at hzs
  have SZ0 := Lib.hid (fun (hb : Below w.heap.size w w1) => szTable_any _ names0 rows0 1048576 w1 (by decide) (by decide) (HT0.out.below hb))
  have SZ0 := Lib.hid (SZ0.out S1.out.1)
  go_enter Tryd.func5, Tryd.ntmps5
  by_cases hlongg : 1048576 < (g.size : Int)
  · go_wp2_with fail
    go_ret
    exact ⟨rfl, by rw [← HW.out]; exact S1.out.1⟩
  by_cases hlongs : 1048576 < (s.size : Int)
  · go_wp2_with fail
    go_ret
    exact ⟨rfl, by rw [← HW.out]; exact S1.out.1⟩
  go_wp2_with fail
  rw [← HW.out]
  clear hw1
  obtain ⟨Bw1, k0_1⟩ := S1.out
  clear S1
  refine SZ0.out.mono ?_
  rintro e w2 ⟨r0, rfl, g1, hg0, g3, b2⟩
  have G3 := Lib.hid g3
  clear qc0_0 qc0_1
  clear g3 SZ0
  have Bw2 := Bw1.trans (b2.mono Bw1.size)
  have k0_2 := k0_1.below b2 k0_1.lt
  have s2 := Lib.hid b2.size
  clear Bw1 k0_1 b2
  by_cases hr0 : r0 < 0
  · go_wp2_with fail
    go_ret
    exact ⟨rfl, Bw2⟩
  have hr0n : ¬ r0 < 0 := hr0
  have hr0z : 0 ≤ r0 := by omega
  have SM0 := Lib.hid (show Small names0 rows0 by
    obtain ⟨⟨a, b⟩, c, d⟩ := G3.out hr0z
    exact ⟨a, b, c, d⟩)
  clear G3 g1 hr0
  have SN := Lib.hid (HL.out.small SM0.out)
  have TO0 := Lib.hid (fun (wr : World) (hb : Below w.heap.size w wr) => toTab_any _ names0 rows0 wr (HT0.out.below hb).reads SM0.out)
  rw [HLN0.out.1, HLN0.out.2] at TO0
  have hqq : (ok != ok) = false := by cases ok <;> rfl
  have qd0 := k0_2.cell 0
  have qd1 := k0_2.cell 1
  simp at qd0 qd1
  go_wp2_with fail
  refine (TO0.out w2 Bw2).mono ?_
  rintro e w3 ⟨A3, c3, B3, d3, rfl, o3, b3⟩
  clear qd0 qd1
  have Bw3 := Bw2.trans (b3.mono Bw2.size)
  have k0_3 := k0_2.below b3 k0_2.lt
  have s3 := Lib.hid b3.size
  clear Bw2 k0_2 b3
  have T0_3 := o3.tabV
  clear o3
  have CL := Lib.hid (specGroup_any _ names0 rows0 g s ok N R HL.out w3 T0_3.tabR SM0.out)
  go_wp2_with fail
  refine CL.out.mono ?_
  rintro e w4 hres
  obtain ⟨A4, c4, B4, d4, rfl, o4, b4⟩ := hres.form
  rw [HNR.out.1, HNR.out.2] at o4 ⊢
  clear CL hres
  clear T0_3
  have Bw4 := Bw3.trans (b4.mono Bw3.size)
  have k0_4 := k0_3.below b4 k0_3.lt
  have s4 := Lib.hid b4.size
  clear Bw3 k0_3 b4
  obtain ⟨w5, hw5⟩ : ∃ w5, w5 = w4.alloc (.cells #[.slice A4 nN c4, .slice B4 nR d4] 27) := ⟨_, rfl⟩
  have b5 : Below w4.heap.size w4 w5 := by rw [hw5]; exact (Below.refl _ _).alloc (Nat.le_refl _) _
  have k6_5 : Blk w5 w4.heap.size 27 #[.slice A4 nN c4, .slice B4 nR d4] := by rw [hw5]; exact Blk.new _ _ _
  have W0_5 := (o4.reads.tabB).belowW (Nat.le_refl _) b5
  clear o4
  have Bw5 := Bw4.trans (b5.mono Bw4.size)
  have k0_5 := k0_4.below b5 k0_4.lt
  have s5 := Lib.hid b5.size
  clear Bw4 k0_4 b5
  have s5 := Lib.hid k6_5.lt
  have qd0 := k0_5.cell 0
  have qd1 := k0_5.cell 1
  simp at qd0 qd1
  have HW5 := Lib.hid hw5
  rw [hw5] at qd0 qd1
  go_wp2_with fail
  rw [← HW5.out]
  clear hw5 HW5
  refine (TO0.out w5 Bw5).mono ?_
  rintro e w6 ⟨A6, c6, B6, d6, rfl, o6, b6⟩
  clear qd0 qd1
  have Bw6 := Bw5.trans (b6.mono Bw5.size)
  have k0_6 := k0_5.below b6 k0_5.lt
  have k6_6 := k6_5.below b6 k6_5.lt
  have W0_6 := W0_5.belowW (Nat.le_of_lt s5.out) b6
  have s6 := Lib.hid b6.size
  clear Bw5 W0_5 k6_5 k0_5 b6
  obtain ⟨w7, hw7⟩ : ∃ w7, w7 = w6.alloc (.cells #[.slice A6 n0 c6, .slice B6 m0 d6] 27) := ⟨_, rfl⟩
  have b7 : Below w6.heap.size w6 w7 := by rw [hw7]; exact (Below.refl _ _).alloc (Nat.le_refl _) _
  have h0_7 : Blk w7 w6.heap.size 27 #[.slice A6 n0 c6, .slice B6 m0 d6] := by rw [hw7]; exact Blk.new _ _ _
  have X0_7 := o6.tabV.below b7
  clear o6
  have Bw7 := Bw6.trans (b7.mono Bw6.size)
  have k0_7 := k0_6.below b7 k0_6.lt
  have k6_7 := k6_6.below b7 k6_6.lt
  have W0_7 := W0_6.belowW (Nat.le_trans (Nat.le_of_lt s5.out) s6.out) b7
  have s7 := Lib.hid b7.size
  clear Bw6 W0_6 k6_6 k0_6 b7
  have s7 := Lib.hid h0_7.lt
  have qu0_0 := h0_7.cell 0
  have qu0_1 := h0_7.cell 1
  simp at qu0_0 qu0_1
  have HW7 := Lib.hid hw7
  rw [hw7] at qu0_0 qu0_1
  go_wp2_with fail
  rw [← HW7.out]
  clear hw7 HW7
  have CL := Lib.hid (implGroup_any _ names0 rows0 g s ok N R HL.out RA RC w7 (below_keep Bw7 HV.out) ((HR.out.below Bw7).more Bw7.size) X0_7.tabR SM0.out)
  refine CL.out.mono ?_
  rintro e w8 hres
  obtain ⟨A8, c8, B8, d8, rfl, o8, b8⟩ := hres.form
  rw [HNR.out.1, HNR.out.2] at o8 ⊢
  clear CL hres
  clear qu0_0 qu0_1
  have Bw8 := Bw7.trans (b8.mono Bw7.size)
  have k0_8 := k0_7.below b8 k0_7.lt
  have k6_8 := k6_7.below b8 k6_7.lt
  have W0_8 := W0_7.belowW (Nat.le_trans (Nat.le_trans (Nat.le_of_lt s5.out) s6.out) (Nat.le_of_lt s7.out)) b8
  have X0_8 := X0_7.below b8
  have h0_8 := h0_7.below b8 h0_7.lt
  have s8 := Lib.hid b8.size
  clear Bw7 h0_7 X0_7 W0_7 k6_7 k0_7 b8
  obtain ⟨w9, hw9⟩ : ∃ w9, w9 = w8.alloc (.cells #[.slice A8 nN c8, .slice B8 nR d8] 27) := ⟨_, rfl⟩
  have b9 : Below w8.heap.size w8 w9 := by rw [hw9]; exact (Below.refl _ _).alloc (Nat.le_refl _) _
  have kg_9 : Blk w9 w8.heap.size 27 #[.slice A8 nN c8, .slice B8 nR d8] := by rw [hw9]; exact Blk.new _ _ _
  have G0_9 := o8.tabV.below b9
  clear o8
  have Bw9 := Bw8.trans (b9.mono Bw8.size)
  have k0_9 := k0_8.below b9 k0_8.lt
  have k6_9 := k6_8.below b9 k6_8.lt
  have W0_9 := W0_8.belowW (Nat.le_trans (Nat.le_trans (Nat.le_trans (Nat.le_of_lt s5.out) s6.out) (Nat.le_of_lt s7.out)) s8.out) b9
  have X0_9 := X0_8.below b9
  have h0_9 := h0_8.below b9 h0_8.lt
  have s9 := Lib.hid b9.size
  clear Bw8 h0_8 X0_8 W0_8 k6_8 k0_8 b9
  have s9 := Lib.hid kg_9.lt
  have EQ := Lib.hid (fun (wr : World) (x y : Value) (hx : TabR wr x N R) (hy : TabR wr y N R) => eqTable_yes x y N R wr hx hy SN.out.ok)
  have qu0 := kg_9.cell 0
  have qu1 := kg_9.cell 1
  simp at qu0 qu1
  have qz0 := k6_9.cell 0
  have qz1 := k6_9.cell 1
  simp at qz0 qz1
  have HW9 := Lib.hid hw9
  rw [hw9] at qu0 qu1 qz0 qz1
  go_wp2_with fail
  rw [← HW9.out]
  clear hw9 HW9
  refine (EQ.out w9 _ _ G0_9.tabR (W0_9.tabR (Nat.le_trans (Nat.le_trans (Nat.le_trans (Nat.le_trans (Nat.le_of_lt s5.out) s6.out) (Nat.le_of_lt s7.out)) s8.out) (Nat.le_of_lt s9.out)))).mono ?_
  rintro e w10 ⟨rfl, b10⟩
  clear qu0 qu1 qz0 qz1
  have Bw10 := Bw9.trans (b10.mono Bw9.size)
  have k0_10 := k0_9.below b10 k0_9.lt
  have k6_10 := k6_9.below b10 k6_9.lt
  have W0_10 := W0_9.belowW (Nat.le_trans (Nat.le_trans (Nat.le_trans (Nat.le_trans (Nat.le_of_lt s5.out) s6.out) (Nat.le_of_lt s7.out)) s8.out) (Nat.le_of_lt s9.out)) b10
  have X0_10 := X0_9.below b10
  have h0_10 := h0_9.below b10 h0_9.lt
  have kg_10 := kg_9.below b10 kg_9.lt
  have G0_10 := G0_9.below b10
  have s10 := Lib.hid b10.size
  clear Bw9 G0_9 kg_9 h0_9 X0_9 W0_9 k6_9 k0_9 b10
  have qd0 := k0_10.cell 0
  have qd1 := k0_10.cell 1
  simp at qd0 qd1
  have qu0 := h0_10.cell 0
  have qu1 := h0_10.cell 1
  simp at qu0 qu1
  have STT := Lib.hid (And.intro Bw10 (And.intro k0_10 (And.intro k6_10 (And.intro W0_10 (And.intro X0_10 (And.intro h0_10 (And.intro kg_10 G0_10)))))))
  clear Bw10 G0_10 kg_10 h0_10 X0_10 W0_10 k6_10 k0_10
  have TO' := Lib.hid (fun (w' : World) (hb : Below w10.heap.size w10 w') => TO0.out w' (STT.out.1.trans (hb.mono STT.out.1.size)))
  have EX' := Lib.hid (fun (w' : World) (hb : Below w10.heap.size w10 w') (u : Value) (hu : TabR w' u names0 rows0) => eqTable_yes _ u names0 rows0 w' (STT.out.2.2.2.2.1.below hb).tabR hu SM0.out.ok)
  go_wp2_with fail
  go_region_held3 (fun w' => w'.cell? ⟨w.heap.size, 0, none⟩ = some (.slice A0 n0 c0) ∧ w'.cell? ⟨w.heap.size, 1, none⟩ = some (.slice B0 m0 d0) ∧ w'.cell? ⟨w6.heap.size, 0, none⟩ = some (.slice A6 n0 c6) ∧ w'.cell? ⟨w6.heap.size, 1, none⟩ = some (.slice B6 m0 d6))
    (first | go_keep | (go_split_ands; refine ⟨?_, ?_, ?_, ?_⟩ <;> (refine below_keep hb' ?_; assumption)))
    (first | (go_at_call 8; refine (TO'.out _ ((Below.refl _ _).drew)).mono ?_; rintro e w' ⟨A90, c90, B90, d90, rfl, o8, hb'⟩) | (go_at_call 10; refine (EX'.out _ ((Below.refl _ _).drew.trans hb') _ o8.reads).mono ?_; rintro e w' ⟨rfl, hb2⟩; have hb3 := hb'.trans (hb2.mono hb'.size); have hb' := (Below.refl _ _).trans hb2))
  have b11 := (Below.refl w10.heap.size w10).drew.trans hb3
  clear hb3 hb2 hb' o8 EX' TO' qd0 qd1 qu0 qu1
  obtain ⟨w11, rfl⟩ : ∃ x, x = w' := ⟨_, rfl⟩
  obtain ⟨Bw10, k0_10, k6_10, W0_10, X0_10, h0_10, kg_10, G0_10⟩ := STT.out
  clear STT
  have Bw11 := Bw10.trans (b11.mono Bw10.size)
  have k0_11 := k0_10.below b11 k0_10.lt
  have k6_11 := k6_10.below b11 k6_10.lt
  have W0_11 := W0_10.belowW (Nat.le_trans (Nat.le_trans (Nat.le_trans (Nat.le_trans (Nat.le_trans (Nat.le_of_lt s5.out) s6.out) (Nat.le_of_lt s7.out)) s8.out) (Nat.le_of_lt s9.out)) s10.out) b11
  have X0_11 := X0_10.below b11
  have h0_11 := h0_10.below b11 h0_10.lt
  have kg_11 := kg_10.below b11 kg_10.lt
  have G0_11 := G0_10.below b11
  have s11 := Lib.hid b11.size
  clear Bw10 G0_10 kg_10 h0_10 X0_10 W0_10 k6_10 k0_10 b11
  obtain ⟨K0, hK0⟩ : ∃ K, 1 + names0.length + total rows0 = K := ⟨_, rfl⟩
  have qu0 := h0_11.cell 0
  have qu1 := h0_11.cell 1
  simp at qu0 qu1
  have MX := Lib.hid (markTable_any w5.heap.size w6.heap.size 1 _ names0 rows0 w11 X0_11 (Nat.le_trans (Nat.le_trans (Nat.le_trans (Nat.le_trans (Nat.le_of_lt s7.out) s8.out) (Nat.le_of_lt s9.out)) s10.out) s11.out) SM0.out (by decide))
  rw [hK0] at MX
  skip
  clear hK0
  go_wp2_with fail
  refine MX.out.mono ?_
  rintro e w12 ⟨rfl, -, t12⟩
  clear qu0 qu1
  clear MX
  clear X0_11
  clear h0_11
  have Bw12 := t12.below Bw11 (Nat.le_trans (Nat.le_trans (Nat.le_trans (Nat.le_trans (Nat.le_of_lt s1.out) s2.out) s3.out) s4.out) (Nat.le_of_lt s5.out))
  have k0_12 := t12.blk k0_11 (Or.inl (Nat.lt_of_lt_of_le s1.out (Nat.le_trans (Nat.le_trans (Nat.le_trans s2.out s3.out) s4.out) (Nat.le_of_lt s5.out))))
  have k6_12 := t12.blk k6_11 (Or.inl s5.out)
  have W0_12 := W0_11.touch t12 (Nat.le_of_lt s5.out) (Nat.le_trans (Nat.le_trans (Nat.le_trans (Nat.le_trans (Nat.le_trans (Nat.le_trans (Nat.le_of_lt s5.out) s6.out) (Nat.le_of_lt s7.out)) s8.out) (Nat.le_of_lt s9.out)) s10.out) s11.out)
  have kg_12 := t12.blk kg_11 (Or.inr (Nat.le_trans (Nat.le_of_lt s7.out) s8.out))
  have G0_12 := G0_11.touch t12 (Or.inr (Nat.le_of_lt s7.out))
  have s12 := Lib.hid t12.size
  clear Bw11 G0_11 kg_11 W0_11 k6_11 k0_11 t12
  have hk1 : ¬ ((K0 : Int) < 0) := Int.not_lt.2 (Int.natCast_nonneg _)
  have qu0 := kg_12.cell 0
  have qu1 := kg_12.cell 1
  simp at qu0 qu1
  have qz0 := k6_12.cell 0
  have qz1 := k6_12.cell 1
  simp at qz0 qz1
  go_wp2_with fail
  refine (EQ.out w12 _ _ G0_12.tabR (W0_12.tabR (Nat.le_trans (Nat.le_trans (Nat.le_trans (Nat.le_trans (Nat.le_trans (Nat.le_trans (Nat.le_trans (Nat.le_of_lt s5.out) s6.out) (Nat.le_of_lt s7.out)) s8.out) (Nat.le_of_lt s9.out)) s10.out) s11.out) s12.out))).mono ?_
  rintro e w13 ⟨rfl, b13⟩
  clear qu0 qu1 qz0 qz1
  have Bw13 := Bw12.trans (b13.mono Bw12.size)
  have k0_13 := k0_12.below b13 k0_12.lt
  have k6_13 := k6_12.below b13 k6_12.lt
  have W0_13 := W0_12.belowW (Nat.le_trans (Nat.le_trans (Nat.le_trans (Nat.le_trans (Nat.le_trans (Nat.le_trans (Nat.le_trans (Nat.le_of_lt s5.out) s6.out) (Nat.le_of_lt s7.out)) s8.out) (Nat.le_of_lt s9.out)) s10.out) s11.out) s12.out) b13
  have kg_13 := kg_12.below b13 kg_12.lt
  have G0_13 := G0_12.below b13
  have s13 := Lib.hid b13.size
  clear Bw12 G0_12 kg_12 W0_12 k6_12 k0_12 b13
  obtain ⟨KG, hKG⟩ : ∃ K, 1 + N.length + total R = K := ⟨_, rfl⟩
  have qu0 := kg_13.cell 0
  have qu1 := kg_13.cell 1
  simp at qu0 qu1
  have MG := Lib.hid (markTable_any w7.heap.size w8.heap.size 1 _ N R w13 G0_13 (Nat.le_trans (Nat.le_trans (Nat.le_trans (Nat.le_trans (Nat.le_of_lt s9.out) s10.out) s11.out) s12.out) s13.out) SN.out (by decide))
  rw [hKG] at MG
  have HG := Lib.hid (fun (wr : World) (hg : TabR wr (.agg #[.slice A8 nN c8, .slice B8 nR d8]) (stMarks 1 N.length) (rowMarks (1 + N.length) R)) => heldTable_any 1 N.length _ R wr hg (by decide) SN.out.n1 SN.out.r1 SN.out.r2)
  rw [hKG] at HG
  have hk2 : ¬ ((KG : Int) < 0) := Int.not_lt.2 (Int.natCast_nonneg _)
  clear hKG
  go_wp2_with fail
  refine MG.out.mono ?_
  rintro e w14 ⟨rfl, G1_14, t14⟩
  clear qu0 qu1 MG
  clear G0_13
  have Bw14 := t14.below Bw13 (Nat.le_trans (Nat.le_trans (Nat.le_trans (Nat.le_trans (Nat.le_trans (Nat.le_trans (Nat.le_of_lt s1.out) s2.out) s3.out) s4.out) (Nat.le_of_lt s5.out)) s6.out) (Nat.le_of_lt s7.out))
  have k0_14 := t14.blk k0_13 (Or.inl (Nat.lt_of_lt_of_le s1.out (Nat.le_trans (Nat.le_trans (Nat.le_trans (Nat.le_trans (Nat.le_trans s2.out s3.out) s4.out) (Nat.le_of_lt s5.out)) s6.out) (Nat.le_of_lt s7.out))))
  have k6_14 := t14.blk k6_13 (Or.inl (Nat.lt_of_lt_of_le s5.out (Nat.le_trans s6.out (Nat.le_of_lt s7.out))))
  have W0_14 := W0_13.touch t14 (Nat.le_trans (Nat.le_trans (Nat.le_of_lt s5.out) s6.out) (Nat.le_of_lt s7.out)) (Nat.le_trans (Nat.le_trans (Nat.le_trans (Nat.le_trans (Nat.le_trans (Nat.le_trans (Nat.le_trans (Nat.le_trans (Nat.le_of_lt s5.out) s6.out) (Nat.le_of_lt s7.out)) s8.out) (Nat.le_of_lt s9.out)) s10.out) s11.out) s12.out) s13.out)
  have kg_14 := t14.blk kg_13 (Or.inr (Nat.le_refl _))
  have s14 := Lib.hid t14.size
  clear Bw13 kg_13 W0_13 k6_13 k0_13 t14
  have qu0 := kg_14.cell 0
  have qu1 := kg_14.cell 1
  simp at qu0 qu1
  go_wp2_with fail
  refine (HG.out w14 G1_14.tabR).mono ?_
  rintro e w15 ⟨rfl, b15⟩
  clear qu0 qu1
  have Bw15 := Bw14.trans (b15.mono Bw14.size)
  have k0_15 := k0_14.below b15 k0_14.lt
  have k6_15 := k6_14.below b15 k6_14.lt
  have W0_15 := W0_14.belowW (Nat.le_trans (Nat.le_trans (Nat.le_trans (Nat.le_trans (Nat.le_trans (Nat.le_trans (Nat.le_trans (Nat.le_trans (Nat.le_trans (Nat.le_of_lt s5.out) s6.out) (Nat.le_of_lt s7.out)) s8.out) (Nat.le_of_lt s9.out)) s10.out) s11.out) s12.out) s13.out) s14.out) b15
  have kg_15 := kg_14.below b15 kg_14.lt
  have G1_15 := G1_14.below b15
  have s15 := Lib.hid b15.size
  clear Bw14 G1_14 kg_14 W0_14 k6_14 k0_14 b15
  have qd0 := k0_15.cell 0
  have qd1 := k0_15.cell 1
  simp at qd0 qd1
  go_wp2_with fail
  refine (TO0.out w15 Bw15).mono ?_
  rintro e w16 ⟨A16, c16, B16, d16, rfl, o16, b16⟩
  clear qd0 qd1
  have Bw16 := Bw15.trans (b16.mono Bw15.size)
  have k0_16 := k0_15.below b16 k0_15.lt
  have k6_16 := k6_15.below b16 k6_15.lt
  have W0_16 := W0_15.belowW (Nat.le_trans (Nat.le_trans (Nat.le_trans (Nat.le_trans (Nat.le_trans (Nat.le_trans (Nat.le_trans (Nat.le_trans (Nat.le_trans (Nat.le_trans (Nat.le_of_lt s5.out) s6.out) (Nat.le_of_lt s7.out)) s8.out) (Nat.le_of_lt s9.out)) s10.out) s11.out) s12.out) s13.out) s14.out) s15.out) b16
  have kg_16 := kg_15.below b16 kg_15.lt
  have G1_16 := G1_15.below b16
  have s16 := Lib.hid b16.size
  clear Bw15 G1_15 kg_15 W0_15 k6_15 k0_15 b16
  have T0_16 := o16.tabV
  clear o16
  have CL := Lib.hid (implGroup_any _ names0 rows0 g s ok N R HL.out RA RC w16 (below_keep Bw16 HV.out) ((HR.out.below Bw16).more Bw16.size) T0_16.tabR SM0.out)
  go_wp2_with fail
  refine CL.out.mono ?_
  rintro e w17 hres
  obtain ⟨A17, c17, B17, d17, rfl, o17, b17⟩ := hres.form
  rw [HNR.out.1, HNR.out.2] at o17 ⊢
  clear CL hres
  clear T0_16
  have Bw17 := Bw16.trans (b17.mono Bw16.size)
  have k0_17 := k0_16.below b17 k0_16.lt
  have k6_17 := k6_16.below b17 k6_16.lt
  have W0_17 := W0_16.belowW (Nat.le_trans (Nat.le_trans (Nat.le_trans (Nat.le_trans (Nat.le_trans (Nat.le_trans (Nat.le_trans (Nat.le_trans (Nat.le_trans (Nat.le_trans (Nat.le_trans (Nat.le_of_lt s5.out) s6.out) (Nat.le_of_lt s7.out)) s8.out) (Nat.le_of_lt s9.out)) s10.out) s11.out) s12.out) s13.out) s14.out) s15.out) s16.out) b17
  have kg_17 := kg_16.below b17 kg_16.lt
  have G1_17 := G1_16.below b17
  have s17 := Lib.hid b17.size
  clear Bw16 G1_16 kg_16 W0_16 k6_16 k0_16 b17
  obtain ⟨w18, hw18⟩ : ∃ w18, w18 = w17.alloc (.cells #[.slice A17 nN c17, .slice B17 nR d17] 27) := ⟨_, rfl⟩
  have b18 : Below w17.heap.size w17 w18 := by rw [hw18]; exact (Below.refl _ _).alloc (Nat.le_refl _) _
  have ky_18 : Blk w18 w17.heap.size 27 #[.slice A17 nN c17, .slice B17 nR d17] := by rw [hw18]; exact Blk.new _ _ _
  have Y0_18 := o17.tabV.below b18
  clear o17
  have Bw18 := Bw17.trans (b18.mono Bw17.size)
  have k0_18 := k0_17.below b18 k0_17.lt
  have k6_18 := k6_17.below b18 k6_17.lt
  have W0_18 := W0_17.belowW (Nat.le_trans (Nat.le_trans (Nat.le_trans (Nat.le_trans (Nat.le_trans (Nat.le_trans (Nat.le_trans (Nat.le_trans (Nat.le_trans (Nat.le_trans (Nat.le_trans (Nat.le_trans (Nat.le_of_lt s5.out) s6.out) (Nat.le_of_lt s7.out)) s8.out) (Nat.le_of_lt s9.out)) s10.out) s11.out) s12.out) s13.out) s14.out) s15.out) s16.out) s17.out) b18
  have kg_18 := kg_17.below b18 kg_17.lt
  have G1_18 := G1_17.below b18
  have s18 := Lib.hid b18.size
  clear Bw17 G1_17 kg_17 W0_17 k6_17 k0_17 b18
  have s18 := Lib.hid ky_18.lt
  have qu0 := ky_18.cell 0
  have qu1 := ky_18.cell 1
  simp at qu0 qu1
  have qz0 := k6_18.cell 0
  have qz1 := k6_18.cell 1
  simp at qz0 qz1
  have HW18 := Lib.hid hw18
  rw [hw18] at qu0 qu1 qz0 qz1
  go_wp2_with fail
  rw [← HW18.out]
  clear hw18 HW18
  refine (EQ.out w18 _ _ Y0_18.tabR (W0_18.tabR (Nat.le_trans (Nat.le_trans (Nat.le_trans (Nat.le_trans (Nat.le_trans (Nat.le_trans (Nat.le_trans (Nat.le_trans (Nat.le_trans (Nat.le_trans (Nat.le_trans (Nat.le_trans (Nat.le_trans (Nat.le_of_lt s5.out) s6.out) (Nat.le_of_lt s7.out)) s8.out) (Nat.le_of_lt s9.out)) s10.out) s11.out) s12.out) s13.out) s14.out) s15.out) s16.out) s17.out) (Nat.le_of_lt s18.out)))).mono ?_
  rintro e w19 ⟨rfl, b19⟩
  clear qu0 qu1 qz0 qz1
  have Bw19 := Bw18.trans (b19.mono Bw18.size)
  have k0_19 := k0_18.below b19 k0_18.lt
  have k6_19 := k6_18.below b19 k6_18.lt
  have W0_19 := W0_18.belowW (Nat.le_trans (Nat.le_trans (Nat.le_trans (Nat.le_trans (Nat.le_trans (Nat.le_trans (Nat.le_trans (Nat.le_trans (Nat.le_trans (Nat.le_trans (Nat.le_trans (Nat.le_trans (Nat.le_trans (Nat.le_of_lt s5.out) s6.out) (Nat.le_of_lt s7.out)) s8.out) (Nat.le_of_lt s9.out)) s10.out) s11.out) s12.out) s13.out) s14.out) s15.out) s16.out) s17.out) (Nat.le_of_lt s18.out)) b19
  have kg_19 := kg_18.below b19 kg_18.lt
  have G1_19 := G1_18.below b19
  have ky_19 := ky_18.below b19 ky_18.lt
  have Y0_19 := Y0_18.below b19
  have s19 := Lib.hid b19.size
  clear Bw18 Y0_18 ky_18 G1_18 kg_18 W0_18 k6_18 k0_18 b19
  clear Y0_19
  clear ky_19
  have qu0 := kg_19.cell 0
  have qu1 := kg_19.cell 1
  simp at qu0 qu1
  go_wp2_with fail
  refine (HG.out w19 G1_19.tabR).mono ?_
  rintro e w20 ⟨rfl, b20⟩
  clear qu0 qu1
  have Bw20 := Bw19.trans (b20.mono Bw19.size)
  have k0_20 := k0_19.below b20 k0_19.lt
  have k6_20 := k6_19.below b20 k6_19.lt
  have W0_20 := W0_19.belowW (Nat.le_trans (Nat.le_trans (Nat.le_trans (Nat.le_trans (Nat.le_trans (Nat.le_trans (Nat.le_trans (Nat.le_trans (Nat.le_trans (Nat.le_trans (Nat.le_trans (Nat.le_trans (Nat.le_trans (Nat.le_trans (Nat.le_of_lt s5.out) s6.out) (Nat.le_of_lt s7.out)) s8.out) (Nat.le_of_lt s9.out)) s10.out) s11.out) s12.out) s13.out) s14.out) s15.out) s16.out) s17.out) (Nat.le_of_lt s18.out)) s19.out) b20
  have kg_20 := kg_19.below b20 kg_19.lt
  have G1_20 := G1_19.below b20
  have s20 := Lib.hid b20.size
  clear Bw19 G1_19 kg_19 W0_19 k6_19 k0_19 b20
  go_wp2_with fail
  go_ret
  exact ⟨rfl, Bw20⟩
end Go.Proofs.YtldpcjkfkcbfmaaDoor
