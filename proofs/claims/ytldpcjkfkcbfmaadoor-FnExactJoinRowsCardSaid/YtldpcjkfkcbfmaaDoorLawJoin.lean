/- laws.FnExactJoinRows: the walk. -/
import Derived.Test.YtldpcjkfkcbfmaaDoorJoinI
import Derived.Test.YtldpcjkfkcbfmaaDoorMarkTab
import Derived.Deep.DeepCutAuto
namespace Go.Proofs.YtldpcjkfkcbfmaaDoor
open Go Go.RowKit
set_option maxRecDepth 100000
theorem drawn_old {w3 : World} {D lo : Nat} {a b x y : Value} {N : List ByteArray} {R : List (List Int)} (o : TabO w3 lo (.agg #[a, b]) N R) (k : Blk w3 D 27 #[x, y]) (hD : D + 1 ≤ lo) :
    TabR ((w3.setCell ⟨D, 0, none⟩ a).setCell ⟨D, 1, none⟩ b) (.agg #[a, b]) N R ∧ Blk ((w3.setCell ⟨D, 0, none⟩ a).setCell ⟨D, 1, none⟩ b) D 27 #[a, b] := by
  have tt : Touch D (D + 1) w3 ((w3.setCell ⟨D, 0, none⟩ a).setCell ⟨D, 1, none⟩ b) := ((Touch.refl _ _ _).setCell (p := ⟨D, 0, none⟩) (Or.inl ⟨Nat.le_refl _, Nat.lt_succ_self _⟩) _).setCell (p := ⟨D, 1, none⟩) (Or.inl ⟨Nat.le_refl _, Nat.lt_succ_self _⟩) _
  have kk := (k.set_ 0 a).set_ 1 b
  simp at kk
  exact ⟨(o.touch tt hD (by simp [World.setCell])).reads, kk⟩
set_option maxHeartbeats 3200000 in
theorem lawExactJoin_walk {w : World} (v0 : Value) (names0 : List ByteArray) (rows0 : List (List Int)) (ht0 : TabA w v0 names0 rows0) (v1 : Value) (names1 : List ByteArray) (rows1 : List (List Int)) (ht1 : TabA w v1 names1 rows1) (l : ByteArray) (hzl : l.size ≤ maxLen) (r : ByteArray) (hzr : r.size ≤ maxLen) (RA : Option Addr) (RC : Nat) (hv : w.cell? ⟨0, 0, none⟩ = some (.slice RA 13 RC)) (hr : Reads w w.heap.size 1 RA 13 (stCells resW)) :
    Calls Tryd.prog 3 #[v0, v1, .string l, .string r] w fun e w' => e = .returned (.bool true) ∧ Below w.heap.size w w' := by
  obtain ⟨ok, N, R, hL⟩ := JoinIs.ex names0 rows0 names1 rows1 l r
  have HT0 := Lib.hid ht0
  obtain ⟨A0, c0, B0, d0, rfl, _, _, _⟩ := ht0.form
  clear ht0
  obtain ⟨n0, hlnn0⟩ : ∃ n, names0.length = n := ⟨_, rfl⟩
  obtain ⟨m0, hlnm0⟩ : ∃ n, rows0.length = n := ⟨_, rfl⟩
  rw [hlnn0, hlnm0] at HT0 ⊢
  have HLN0 := Lib.hid (And.intro hlnn0 hlnm0)
  clear hlnn0 hlnm0
  have HT1 := Lib.hid ht1
  obtain ⟨A1, c1, B1, d1, rfl, _, _, _⟩ := ht1.form
  clear ht1
  obtain ⟨n1, hlnn1⟩ : ∃ n, names1.length = n := ⟨_, rfl⟩
  obtain ⟨m1, hlnm1⟩ : ∃ n, rows1.length = n := ⟨_, rfl⟩
  rw [hlnn1, hlnm1] at HT1 ⊢
  have HLN1 := Lib.hid (And.intro hlnn1 hlnm1)
  clear hlnn1 hlnm1
  obtain ⟨nN, hlnnN⟩ : ∃ n, N.length = n := ⟨_, rfl⟩
  obtain ⟨nR, hlnnR⟩ : ∃ n, R.length = n := ⟨_, rfl⟩
  have HNR := Lib.hid (And.intro hlnnN hlnnR)
  clear hlnnN hlnnR
  obtain ⟨w1, hw1⟩ : ∃ w1, w1 = ((w.alloc (.cells #[.slice A0 n0 c0, .slice B0 m0 d0] 25)).alloc (.cells #[.slice A1 n1 c1, .slice B1 m1 d1] 25)) := ⟨_, rfl⟩
  have Bw1 : Below w.heap.size w w1 := by rw [hw1]; exact ((Below.refl _ _).alloc (Nat.le_refl _) _).alloc (by simp) _
  have k0_1 : Blk w1 w.heap.size 25 #[.slice A0 n0 c0, .slice B0 m0 d0] := by rw [hw1]; exact (Blk.new _ _ _).alloc _
  have k1_1 : Blk w1 (w.heap.size + 1) 25 #[.slice A1 n1 c1, .slice B1 m1 d1] := by
    have := Blk.new (w.alloc (.cells #[.slice A0 n0 c0, .slice B0 m0 d0] 25)) 25 #[.slice A1 n1 c1, .slice B1 m1 d1]
    rw [World.size_alloc] at this
    rw [hw1]; exact this
  have s1 := Lib.hid k1_1.lt
  have qc0_0 := k0_1.cell 0
  have qc0_1 := k0_1.cell 1
  simp at qc0_0 qc0_1
  have qc1_0 := k1_1.cell 0
  have qc1_1 := k1_1.cell 1
  simp at qc1_0 qc1_1
  have HW := Lib.hid hw1
  have HV := Lib.hid hv
  have HR := Lib.hid hr
  have HL := Lib.hid hL
  have S1 := Lib.hid (And.intro Bw1 (And.intro k0_1 k1_1))
  clear hv hr hL Bw1 k0_1 k1_1
  unfold maxLen at hzl
  unfold maxLen at hzr
  have SZ0 := Lib.hid (fun (hb : Below w.heap.size w w1) => szTable_any _ names0 rows0 1048576 w1 (by decide) (by decide) (HT0.out.below hb))
  have SZ0 := Lib.hid (SZ0.out S1.out.1)
  go_enter Tryd.func3, Tryd.ntmps3
  by_cases hlongl : 1048576 < (l.size : Int)
  · go_wp2_with fail
    go_ret
    exact ⟨rfl, by rw [← HW.out]; exact S1.out.1⟩
  by_cases hlongr : 1048576 < (r.size : Int)
  · go_wp2_with fail
    go_ret
    exact ⟨rfl, by rw [← HW.out]; exact S1.out.1⟩
  go_wp2_with fail
  rw [← HW.out]
  clear hw1
  obtain ⟨Bw1, k0_1, k1_1⟩ := S1.out
  clear S1
  refine SZ0.out.mono ?_
  rintro e w2 ⟨r0, rfl, g1, hg0, g3, b2⟩
  have G3 := Lib.hid g3
  clear qc0_0 qc0_1 qc1_0 qc1_1
  clear g3 SZ0
  have Bw2 := Bw1.trans (b2.mono Bw1.size)
  have k0_2 := k0_1.below b2 k0_1.lt
  have k1_2 := k1_1.below b2 k1_1.lt
  have s2 := Lib.hid b2.size
  clear Bw1 k1_1 k0_1 b2
  by_cases hr0 : r0 < 0
  · go_wp2_with fail
    go_ret
    exact ⟨rfl, Bw2⟩
  have hr0n : ¬ r0 < 0 := hr0
  have hr0z : 0 ≤ r0 := by omega
  have SM0 := Lib.hid (show Small names0 rows0 by
    obtain ⟨⟨a, b⟩, c, d⟩ := G3.out hr0z
    exact ⟨a, b, c, d⟩)
  clear G3 g1 hr0
  have qc0 := k1_2.cell 0
  have qc1 := k1_2.cell 1
  simp at qc0 qc1
  have SZ1 := Lib.hid (szTable_any _ names1 rows1 r0 w2 (by omega) (by omega) (HT1.out.below Bw2))
  go_wp2_with fail
  clear qc0 qc1
  refine SZ1.out.mono ?_
  rintro e w3 ⟨r1, rfl, g1, hg1, g3, b3⟩
  have G3 := Lib.hid g3
  clear g3 SZ1
  have Bw3 := Bw2.trans (b3.mono Bw2.size)
  have k0_3 := k0_2.below b3 k0_2.lt
  have k1_3 := k1_2.below b3 k1_2.lt
  have s3 := Lib.hid b3.size
  clear Bw2 k1_2 k0_2 b3
  by_cases hr1 : r1 < 0
  · go_wp2_with fail
    go_ret
    exact ⟨rfl, Bw3⟩
  have hr1n : ¬ r1 < 0 := hr1
  have hr1z : 0 ≤ r1 := by omega
  have SM1 := Lib.hid (show Small names1 rows1 by
    obtain ⟨⟨a, b⟩, c, d⟩ := G3.out hr1z
    exact ⟨a, b, c, d⟩)
  clear G3 g1 hr1
  have SN := Lib.hid (HL.out.small SM0.out SM1.out)
  have TO0 := Lib.hid (fun (wr : World) (hb : Below w.heap.size w wr) => toTab_any _ names0 rows0 wr (HT0.out.below hb).reads SM0.out)
  rw [HLN0.out.1, HLN0.out.2] at TO0
  have TO1 := Lib.hid (fun (wr : World) (hb : Below w.heap.size w wr) => toTab_any _ names1 rows1 wr (HT1.out.below hb).reads SM1.out)
  rw [HLN1.out.1, HLN1.out.2] at TO1
  have hqq : (ok != ok) = false := by cases ok <;> rfl
  have qda0 := k0_3.cell 0
  have qda1 := k0_3.cell 1
  simp at qda0 qda1
  have qdb0 := k1_3.cell 0
  have qdb1 := k1_3.cell 1
  simp at qdb0 qdb1
  have STT := Lib.hid (And.intro Bw3 (And.intro k0_3 k1_3))
  clear Bw3 k1_3 k0_3
  go_upto_region 12 with fail
  have BDW : Below w3.heap.size w3 w3.drew := (Below.refl _ _).drew
  have BWD := Lib.hid (fun (w' : World) (h : Below w3.heap.size w3 w') => STT.out.1.trans (h.mono STT.out.1.size))
  go_cut [10, 11] (fun v1 v2 w' => ∃ (D : Nat) (A6 : Option Addr) (c6 : Nat) (B6 : Option Addr) (d6 : Nat), v1 = .pointer (some ⟨D, 0, none⟩) ∧ v2 = .bool ok ∧ w3.heap.size ≤ D ∧ Hid (Blk w' D 27 #[.slice A6 nN c6, .slice B6 nR d6]) ∧ Hid (TabR w' (.agg #[.slice A6 nN c6, .slice B6 nR d6]) N R) ∧ Hid (Below w3.heap.size w3 w'))
  case first =>
    go_region_held3 (fun w' => w'.cell? ⟨w.heap.size, 0, none⟩ = some (.slice A0 n0 c0) ∧ w'.cell? ⟨w.heap.size, 1, none⟩ = some (.slice B0 m0 d0) ∧ w'.cell? ⟨w.heap.size + 1, 0, none⟩ = some (.slice A1 n1 c1) ∧ w'.cell? ⟨w.heap.size + 1, 1, none⟩ = some (.slice B1 m1 d1))
      (first | (exact ⟨below_keep ((bC.setCell (p := ⟨_, 0, none⟩) hDl _).setCell (p := ⟨_, 1, none⟩) hDl _) qda0, below_keep ((bC.setCell (p := ⟨_, 0, none⟩) hDl _).setCell (p := ⟨_, 1, none⟩) hDl _) qda1, below_keep ((bC.setCell (p := ⟨_, 0, none⟩) hDl _).setCell (p := ⟨_, 1, none⟩) hDl _) qdb0, below_keep ((bC.setCell (p := ⟨_, 0, none⟩) hDl _).setCell (p := ⟨_, 1, none⟩) hDl _) qdb1⟩) | (exact ⟨below_keep (bC.alloc bC.size _) qda0, below_keep (bC.alloc bC.size _) qda1, below_keep (bC.alloc bC.size _) qdb0, below_keep (bC.alloc bC.size _) qdb1⟩) | (exact ⟨below_keep (bC) qda0, below_keep (bC) qda1, below_keep (bC) qdb0, below_keep (bC) qdb1⟩) | (exact ⟨below_keep (bB.alloc bB.size _) qda0, below_keep (bB.alloc bB.size _) qda1, below_keep (bB.alloc bB.size _) qdb0, below_keep (bB.alloc bB.size _) qdb1⟩) | (exact ⟨below_keep (bB) qda0, below_keep (bB) qda1, below_keep (bB) qdb0, below_keep (bB) qdb1⟩) | (exact ⟨below_keep (bA.alloc bA.size _) qda0, below_keep (bA.alloc bA.size _) qda1, below_keep (bA.alloc bA.size _) qdb0, below_keep (bA.alloc bA.size _) qdb1⟩) | (exact ⟨below_keep (bA) qda0, below_keep (bA) qda1, below_keep (bA) qdb0, below_keep (bA) qdb1⟩) | (exact ⟨below_keep (((Below.refl _ w3).alloc (Nat.le_refl _) _).drew) qda0, below_keep (((Below.refl _ w3).alloc (Nat.le_refl _) _).drew) qda1, below_keep (((Below.refl _ w3).alloc (Nat.le_refl _) _).drew) qdb0, below_keep (((Below.refl _ w3).alloc (Nat.le_refl _) _).drew) qdb1⟩) | (exact ⟨below_keep (BDW) qda0, below_keep (BDW) qda1, below_keep (BDW) qdb0, below_keep (BDW) qdb1⟩))
      (first
        | (go_at_call 8; with_reducible refine (TO0.out _ (BWD.out _ (((Below.refl _ w3).alloc (Nat.le_refl _) (.cells #[nilV, nilV] 27)).drew))).mono ?_; rintro e wA ⟨AoA, coA, BoA, doA, rfl, oA, hoA⟩; have bA := (((Below.refl _ w3).alloc (Nat.le_refl _) (.cells #[nilV, nilV] 27)).drew).trans (hoA.mono (((Below.refl _ w3).alloc (Nat.le_refl _) (.cells #[nilV, nilV] 27)).drew).size); have kTA := ((Blk.new w3 27 #[nilV, nilV]).drew).below hoA ((Blk.new w3 27 #[nilV, nilV]).drew).lt; have kTAl : w3.heap.size ≤ w3.heap.size := Nat.le_refl _)
        | (go_at_call 8; with_reducible refine (TO0.out _ (BWD.out _ (BDW))).mono ?_; rintro e wA ⟨AoA, coA, BoA, doA, rfl, oA, hoA⟩; have bA := (BDW).trans (hoA.mono (BDW).size))
        | (go_at_call 8; with_reducible refine (TO1.out _ (BWD.out _ (bA))).mono ?_; rintro e wB ⟨AoB, coB, BoB, doB, rfl, oB, hoB⟩; have bB := (bA).trans (hoB.mono (bA).size); have rA := ((oA.reads)).below hoB; have kTB := (kTA).below hoB (kTA).lt; have kTBl : w3.heap.size ≤ _ := kTAl)
        | (go_at_call 8; with_reducible refine (TO1.out _ (BWD.out _ (bA.alloc bA.size (.cells #[nilV, nilV] 27)))).mono ?_; rintro e wB ⟨AoB, coB, BoB, doB, rfl, oB, hoB⟩; have bB := (bA.alloc bA.size (.cells #[nilV, nilV] 27)).trans (hoB.mono (bA.alloc bA.size (.cells #[nilV, nilV] 27)).size); have rA := ((oA.reads.below ((Below.refl _ wA).alloc (Nat.le_refl _) (.cells #[nilV, nilV] 27)))).below hoB; have kTB := (Blk.new wA 27 #[nilV, nilV]).below hoB (Blk.new wA 27 #[nilV, nilV]).lt; have kTBl : w3.heap.size ≤ wA.heap.size := bA.size)
        | (go_at_call 8; with_reducible refine (TO1.out _ (BWD.out _ (bA))).mono ?_; rintro e wB ⟨AoB, coB, BoB, doB, rfl, oB, hoB⟩; have bB := (bA).trans (hoB.mono (bA).size); have rA := ((oA.reads)).below hoB)
        | (go_at_call 7; with_reducible refine (specJoin_any _ _ names0 rows0 names1 rows1 l r ok N R HL.out _ (rA) (oB.reads) SM0.out SM1.out).mono ?_; rintro e wC hres; obtain ⟨A6, c6, B6, d6, rfl, o6, b6⟩ := hres.form; rw [HNR.out.1, HNR.out.2] at o6 ⊢; have bC := (bB).trans (b6.mono (bB).size); clear hres; have hDl : w3.heap.size ≤ _ := kTBl; have hDs : _ + 1 ≤ _ := kTB.lt; have kTC := (kTB).below b6 (kTB).lt; have t0 := kTC.cell 0; have t1 := kTC.cell 1; have t0f := kTC.frozen 0; have t1f := kTC.frozen 1; simp at t0 t1 t0f t1f)
        | (go_at_call 7; with_reducible refine (specJoin_any _ _ names0 rows0 names1 rows1 l r ok N R HL.out _ (rA.below ((Below.refl _ wB).alloc (Nat.le_refl _) (.cells #[nilV, nilV] 27))) (oB.reads.below ((Below.refl _ wB).alloc (Nat.le_refl _) (.cells #[nilV, nilV] 27))) SM0.out SM1.out).mono ?_; rintro e wC hres; obtain ⟨A6, c6, B6, d6, rfl, o6, b6⟩ := hres.form; rw [HNR.out.1, HNR.out.2] at o6 ⊢; have bC := (bB.alloc bB.size (.cells #[nilV, nilV] 27)).trans (b6.mono (bB.alloc bB.size (.cells #[nilV, nilV] 27)).size); clear hres; have hDl : w3.heap.size ≤ wB.heap.size := bB.size; have hDs : wB.heap.size + 1 ≤ (wB.alloc (.cells #[nilV, nilV] 27)).heap.size := (by simp); have kTC := ((Blk.new wB 27 #[nilV, nilV])).below b6 ((Blk.new wB 27 #[nilV, nilV])).lt; have t0 := kTC.cell 0; have t1 := kTC.cell 1; have t0f := kTC.frozen 0; have t1f := kTC.frozen 1; simp at t0 t1 t0f t1f)
        | (go_at_call 7; with_reducible refine (specJoin_any _ _ names0 rows0 names1 rows1 l r ok N R HL.out _ (rA) (oB.reads) SM0.out SM1.out).mono ?_; rintro e wC hres; obtain ⟨A6, c6, B6, d6, rfl, o6, b6⟩ := hres.form; rw [HNR.out.1, HNR.out.2] at o6 ⊢; have bC := (bB).trans (b6.mono (bB).size); clear hres))
    all_goals (
      go_wp2_with fail
      go_meet
      case rel =>
        first
          | exact ⟨_, A6, c6, B6, d6, rfl, rfl, hDl, (drawn_old o6 kTC hDs).2, (drawn_old o6 kTC hDs).1, (bC.setCell (p := ⟨_, 0, none⟩) hDl _).setCell (p := ⟨_, 1, none⟩) hDl _⟩
          | exact ⟨_, A6, c6, B6, d6, rfl, rfl, bC.size, Blk.new _ _ _, o6.reads.below ((Below.refl _ _).alloc (Nat.le_refl _) _), bC.alloc bC.size _⟩)
  obtain ⟨D4, A4, c4, B4, d4, rfl, rfl, hD4, hk4, ht4, hb4⟩ := hcut
  obtain ⟨w4, rfl⟩ : ∃ x, x = wc := ⟨_, rfl⟩
  clear BDW BWD qda0 qda1 qdb0 qdb1
  obtain ⟨Bw3, k0_3, k1_3⟩ := STT.out
  clear STT
  have b4 := hb4.out
  have k6_4 := hk4.out
  have W0_4 := ht4.out.tabB
  have HDD4 := Lib.hid hD4
  have Bw4 := Bw3.trans (b4.mono Bw3.size)
  have k0_4 := k0_3.below b4 k0_3.lt
  have k1_4 := k1_3.below b4 k1_3.lt
  have s4 := Lib.hid b4.size
  clear Bw3 k1_3 k0_3 b4
  have sD4 := Lib.hid k6_4.lt
  clear hk4 ht4 hb4 hD4
  have qd0 := k0_4.cell 0
  have qd1 := k0_4.cell 1
  simp at qd0 qd1
  go_wp2_with fail
  refine (TO0.out w4 Bw4).mono ?_
  rintro e w5 ⟨A5, c5, B5, d5, rfl, o5, b5⟩
  clear qd0 qd1
  have Bw5 := Bw4.trans (b5.mono Bw4.size)
  have k0_5 := k0_4.below b5 k0_4.lt
  have k1_5 := k1_4.below b5 k1_4.lt
  have k6_5 := k6_4.below b5 k6_4.lt
  have W0_5 := W0_4.belowW (Nat.le_refl _) b5
  have s5 := Lib.hid b5.size
  clear Bw4 W0_4 k6_4 k1_4 k0_4 b5
  obtain ⟨w6, hw6⟩ : ∃ w6, w6 = w5.alloc (.cells #[.slice A5 n0 c5, .slice B5 m0 d5] 27) := ⟨_, rfl⟩
  have b6 : Below w5.heap.size w5 w6 := by rw [hw6]; exact (Below.refl _ _).alloc (Nat.le_refl _) _
  have h0_6 : Blk w6 w5.heap.size 27 #[.slice A5 n0 c5, .slice B5 m0 d5] := by rw [hw6]; exact Blk.new _ _ _
  have X0_6 := o5.tabV.below b6
  clear o5
  have Bw6 := Bw5.trans (b6.mono Bw5.size)
  have k0_6 := k0_5.below b6 k0_5.lt
  have k1_6 := k1_5.below b6 k1_5.lt
  have k6_6 := k6_5.below b6 k6_5.lt
  have W0_6 := W0_5.belowW s5.out b6
  have s6 := Lib.hid b6.size
  clear Bw5 W0_5 k6_5 k1_5 k0_5 b6
  have s6 := Lib.hid h0_6.lt
  have qd0 := k1_6.cell 0
  have qd1 := k1_6.cell 1
  simp at qd0 qd1
  have HW6 := Lib.hid hw6
  rw [hw6] at qd0 qd1
  go_wp2_with fail
  rw [← HW6.out]
  clear hw6 HW6
  refine (TO1.out w6 Bw6).mono ?_
  rintro e w7 ⟨A7, c7, B7, d7, rfl, o7, b7⟩
  clear qd0 qd1
  have Bw7 := Bw6.trans (b7.mono Bw6.size)
  have k0_7 := k0_6.below b7 k0_6.lt
  have k1_7 := k1_6.below b7 k1_6.lt
  have k6_7 := k6_6.below b7 k6_6.lt
  have W0_7 := W0_6.belowW (Nat.le_trans s5.out (Nat.le_of_lt s6.out)) b7
  have X0_7 := X0_6.below b7
  have h0_7 := h0_6.below b7 h0_6.lt
  have s7 := Lib.hid b7.size
  clear Bw6 h0_6 X0_6 W0_6 k6_6 k1_6 k0_6 b7
  obtain ⟨w8, hw8⟩ : ∃ w8, w8 = w7.alloc (.cells #[.slice A7 n1 c7, .slice B7 m1 d7] 27) := ⟨_, rfl⟩
  have b8 : Below w7.heap.size w7 w8 := by rw [hw8]; exact (Below.refl _ _).alloc (Nat.le_refl _) _
  have h1_8 : Blk w8 w7.heap.size 27 #[.slice A7 n1 c7, .slice B7 m1 d7] := by rw [hw8]; exact Blk.new _ _ _
  have X1_8 := o7.tabV.below b8
  clear o7
  have Bw8 := Bw7.trans (b8.mono Bw7.size)
  have k0_8 := k0_7.below b8 k0_7.lt
  have k1_8 := k1_7.below b8 k1_7.lt
  have k6_8 := k6_7.below b8 k6_7.lt
  have W0_8 := W0_7.belowW (Nat.le_trans (Nat.le_trans s5.out (Nat.le_of_lt s6.out)) s7.out) b8
  have X0_8 := X0_7.below b8
  have h0_8 := h0_7.below b8 h0_7.lt
  have s8 := Lib.hid b8.size
  clear Bw7 h0_7 X0_7 W0_7 k6_7 k1_7 k0_7 b8
  have s8 := Lib.hid h1_8.lt
  have qu0_0 := h0_8.cell 0
  have qu0_1 := h0_8.cell 1
  simp at qu0_0 qu0_1
  have qu1_0 := h1_8.cell 0
  have qu1_1 := h1_8.cell 1
  simp at qu1_0 qu1_1
  have HW8 := Lib.hid hw8
  rw [hw8] at qu0_0 qu0_1 qu1_0 qu1_1
  go_wp2_with fail
  rw [← HW8.out]
  clear hw8 HW8
  have CL := Lib.hid (implJoin_any _ _ names0 rows0 names1 rows1 l r ok N R HL.out RA RC _ (below_keep Bw8 HV.out) ((HR.out.below Bw8).more Bw8.size) (X0_8.tabR) (X1_8.tabR) SM0.out SM1.out)
  refine CL.out.mono ?_
  rintro e w9 hres
  obtain ⟨A9, c9, B9, d9, rfl, o9, b9⟩ := hres.form
  rw [HNR.out.1, HNR.out.2] at o9 ⊢
  clear CL hres
  clear qu0_0 qu0_1 qu1_0 qu1_1
  have Bw9 := Bw8.trans (b9.mono Bw8.size)
  have k0_9 := k0_8.below b9 k0_8.lt
  have k1_9 := k1_8.below b9 k1_8.lt
  have k6_9 := k6_8.below b9 k6_8.lt
  have W0_9 := W0_8.belowW (Nat.le_trans (Nat.le_trans (Nat.le_trans s5.out (Nat.le_of_lt s6.out)) s7.out) (Nat.le_of_lt s8.out)) b9
  have X0_9 := X0_8.below b9
  have h0_9 := h0_8.below b9 h0_8.lt
  have X1_9 := X1_8.below b9
  have h1_9 := h1_8.below b9 h1_8.lt
  have s9 := Lib.hid b9.size
  clear Bw8 h1_8 X1_8 h0_8 X0_8 W0_8 k6_8 k1_8 k0_8 b9
  obtain ⟨w10, hw10⟩ : ∃ w10, w10 = w9.alloc (.cells #[.slice A9 nN c9, .slice B9 nR d9] 27) := ⟨_, rfl⟩
  have b10 : Below w9.heap.size w9 w10 := by rw [hw10]; exact (Below.refl _ _).alloc (Nat.le_refl _) _
  have kg_10 : Blk w10 w9.heap.size 27 #[.slice A9 nN c9, .slice B9 nR d9] := by rw [hw10]; exact Blk.new _ _ _
  have G0_10 := o9.tabV.below b10
  clear o9
  have Bw10 := Bw9.trans (b10.mono Bw9.size)
  have k0_10 := k0_9.below b10 k0_9.lt
  have k1_10 := k1_9.below b10 k1_9.lt
  have k6_10 := k6_9.below b10 k6_9.lt
  have W0_10 := W0_9.belowW (Nat.le_trans (Nat.le_trans (Nat.le_trans (Nat.le_trans s5.out (Nat.le_of_lt s6.out)) s7.out) (Nat.le_of_lt s8.out)) s9.out) b10
  have X0_10 := X0_9.below b10
  have h0_10 := h0_9.below b10 h0_9.lt
  have X1_10 := X1_9.below b10
  have h1_10 := h1_9.below b10 h1_9.lt
  have s10 := Lib.hid b10.size
  clear Bw9 h1_9 X1_9 h0_9 X0_9 W0_9 k6_9 k1_9 k0_9 b10
  have s10 := Lib.hid kg_10.lt
  have EQ := Lib.hid (fun (wr : World) (x y : Value) (hx : TabR wr x N R) (hy : TabR wr y N R) => eqTable_yes x y N R wr hx hy SN.out.ok)
  have qu0 := kg_10.cell 0
  have qu1 := kg_10.cell 1
  simp at qu0 qu1
  have qz0 := k6_10.cell 0
  have qz1 := k6_10.cell 1
  simp at qz0 qz1
  have HW10 := Lib.hid hw10
  rw [hw10] at qu0 qu1 qz0 qz1
  go_wp2_with fail
  rw [← HW10.out]
  clear hw10 HW10
  refine (EQ.out w10 _ _ G0_10.tabR (W0_10.tabR (Nat.le_trans (Nat.le_trans (Nat.le_trans (Nat.le_trans (Nat.le_trans s5.out (Nat.le_of_lt s6.out)) s7.out) (Nat.le_of_lt s8.out)) s9.out) (Nat.le_of_lt s10.out)))).mono ?_
  rintro e w11 ⟨rfl, b11⟩
  clear qu0 qu1 qz0 qz1
  have Bw11 := Bw10.trans (b11.mono Bw10.size)
  have k0_11 := k0_10.below b11 k0_10.lt
  have k1_11 := k1_10.below b11 k1_10.lt
  have k6_11 := k6_10.below b11 k6_10.lt
  have W0_11 := W0_10.belowW (Nat.le_trans (Nat.le_trans (Nat.le_trans (Nat.le_trans (Nat.le_trans s5.out (Nat.le_of_lt s6.out)) s7.out) (Nat.le_of_lt s8.out)) s9.out) (Nat.le_of_lt s10.out)) b11
  have X0_11 := X0_10.below b11
  have h0_11 := h0_10.below b11 h0_10.lt
  have X1_11 := X1_10.below b11
  have h1_11 := h1_10.below b11 h1_10.lt
  have kg_11 := kg_10.below b11 kg_10.lt
  have G0_11 := G0_10.below b11
  have s11 := Lib.hid b11.size
  clear Bw10 G0_10 kg_10 h1_10 X1_10 h0_10 X0_10 W0_10 k6_10 k1_10 k0_10 b11
  have qd0 := k0_11.cell 0
  have qd1 := k0_11.cell 1
  simp at qd0 qd1
  have qu0 := h0_11.cell 0
  have qu1 := h0_11.cell 1
  simp at qu0 qu1
  have STT := Lib.hid (And.intro Bw11 (And.intro k0_11 (And.intro k1_11 (And.intro k6_11 (And.intro W0_11 (And.intro X0_11 (And.intro h0_11 (And.intro X1_11 (And.intro h1_11 (And.intro kg_11 G0_11))))))))))
  clear Bw11 G0_11 kg_11 h1_11 X1_11 h0_11 X0_11 W0_11 k6_11 k1_11 k0_11
  have TO' := Lib.hid (fun (w' : World) (hb : Below w11.heap.size w11 w') => TO0.out w' (STT.out.1.trans (hb.mono STT.out.1.size)))
  have EX' := Lib.hid (fun (w' : World) (hb : Below w11.heap.size w11 w') (u : Value) (hu : TabR w' u names0 rows0) => eqTable_yes _ u names0 rows0 w' (STT.out.2.2.2.2.2.1.below hb).tabR hu SM0.out.ok)
  go_wp2_with fail
  go_region_held3 (fun w' => w'.cell? ⟨w.heap.size, 0, none⟩ = some (.slice A0 n0 c0) ∧ w'.cell? ⟨w.heap.size, 1, none⟩ = some (.slice B0 m0 d0) ∧ w'.cell? ⟨w5.heap.size, 0, none⟩ = some (.slice A5 n0 c5) ∧ w'.cell? ⟨w5.heap.size, 1, none⟩ = some (.slice B5 m0 d5))
    (first | go_keep | (go_split_ands; refine ⟨?_, ?_, ?_, ?_⟩ <;> (refine below_keep hb' ?_; assumption)))
    (first | (go_at_call 8; refine (TO'.out _ ((Below.refl _ _).drew)).mono ?_; rintro e w' ⟨A90, c90, B90, d90, rfl, o8, hb'⟩) | (go_at_call 10; refine (EX'.out _ ((Below.refl _ _).drew.trans hb') _ o8.reads).mono ?_; rintro e w' ⟨rfl, hb2⟩; have hb3 := hb'.trans (hb2.mono hb'.size); have hb' := (Below.refl _ _).trans hb2))
  have b12 := (Below.refl w11.heap.size w11).drew.trans hb3
  clear hb3 hb2 hb' o8 EX' TO' qd0 qd1 qu0 qu1
  obtain ⟨w12, rfl⟩ : ∃ x, x = w' := ⟨_, rfl⟩
  obtain ⟨Bw11, k0_11, k1_11, k6_11, W0_11, X0_11, h0_11, X1_11, h1_11, kg_11, G0_11⟩ := STT.out
  clear STT
  have Bw12 := Bw11.trans (b12.mono Bw11.size)
  have k0_12 := k0_11.below b12 k0_11.lt
  have k1_12 := k1_11.below b12 k1_11.lt
  have k6_12 := k6_11.below b12 k6_11.lt
  have W0_12 := W0_11.belowW (Nat.le_trans (Nat.le_trans (Nat.le_trans (Nat.le_trans (Nat.le_trans (Nat.le_trans s5.out (Nat.le_of_lt s6.out)) s7.out) (Nat.le_of_lt s8.out)) s9.out) (Nat.le_of_lt s10.out)) s11.out) b12
  have X0_12 := X0_11.below b12
  have h0_12 := h0_11.below b12 h0_11.lt
  have X1_12 := X1_11.below b12
  have h1_12 := h1_11.below b12 h1_11.lt
  have kg_12 := kg_11.below b12 kg_11.lt
  have G0_12 := G0_11.below b12
  have s12 := Lib.hid b12.size
  clear Bw11 G0_11 kg_11 h1_11 X1_11 h0_11 X0_11 W0_11 k6_11 k1_11 k0_11 b12
  have qd0 := k1_12.cell 0
  have qd1 := k1_12.cell 1
  simp at qd0 qd1
  have qu0 := h1_12.cell 0
  have qu1 := h1_12.cell 1
  simp at qu0 qu1
  have STT := Lib.hid (And.intro Bw12 (And.intro k0_12 (And.intro k1_12 (And.intro k6_12 (And.intro W0_12 (And.intro X0_12 (And.intro h0_12 (And.intro X1_12 (And.intro h1_12 (And.intro kg_12 G0_12))))))))))
  clear Bw12 G0_12 kg_12 h1_12 X1_12 h0_12 X0_12 W0_12 k6_12 k1_12 k0_12
  have TO' := Lib.hid (fun (w' : World) (hb : Below w12.heap.size w12 w') => TO1.out w' (STT.out.1.trans (hb.mono STT.out.1.size)))
  have EX' := Lib.hid (fun (w' : World) (hb : Below w12.heap.size w12 w') (u : Value) (hu : TabR w' u names1 rows1) => eqTable_yes _ u names1 rows1 w' (STT.out.2.2.2.2.2.2.2.1.below hb).tabR hu SM1.out.ok)
  go_wp2_with fail
  go_region_held3 (fun w' => w'.cell? ⟨w.heap.size + 1, 0, none⟩ = some (.slice A1 n1 c1) ∧ w'.cell? ⟨w.heap.size + 1, 1, none⟩ = some (.slice B1 m1 d1) ∧ w'.cell? ⟨w7.heap.size, 0, none⟩ = some (.slice A7 n1 c7) ∧ w'.cell? ⟨w7.heap.size, 1, none⟩ = some (.slice B7 m1 d7))
    (first | go_keep | (go_split_ands; refine ⟨?_, ?_, ?_, ?_⟩ <;> (refine below_keep hb' ?_; assumption)))
    (first | (go_at_call 8; refine (TO'.out _ ((Below.refl _ _).drew)).mono ?_; rintro e w' ⟨A90, c90, B90, d90, rfl, o8, hb'⟩) | (go_at_call 10; refine (EX'.out _ ((Below.refl _ _).drew.trans hb') _ o8.reads).mono ?_; rintro e w' ⟨rfl, hb2⟩; have hb3 := hb'.trans (hb2.mono hb'.size); have hb' := (Below.refl _ _).trans hb2))
  have b13 := (Below.refl w12.heap.size w12).drew.trans hb3
  clear hb3 hb2 hb' o8 EX' TO' qd0 qd1 qu0 qu1
  obtain ⟨w13, rfl⟩ : ∃ x, x = w' := ⟨_, rfl⟩
  obtain ⟨Bw12, k0_12, k1_12, k6_12, W0_12, X0_12, h0_12, X1_12, h1_12, kg_12, G0_12⟩ := STT.out
  clear STT
  have Bw13 := Bw12.trans (b13.mono Bw12.size)
  have k0_13 := k0_12.below b13 k0_12.lt
  have k1_13 := k1_12.below b13 k1_12.lt
  have k6_13 := k6_12.below b13 k6_12.lt
  have W0_13 := W0_12.belowW (Nat.le_trans (Nat.le_trans (Nat.le_trans (Nat.le_trans (Nat.le_trans (Nat.le_trans (Nat.le_trans s5.out (Nat.le_of_lt s6.out)) s7.out) (Nat.le_of_lt s8.out)) s9.out) (Nat.le_of_lt s10.out)) s11.out) s12.out) b13
  have X0_13 := X0_12.below b13
  have h0_13 := h0_12.below b13 h0_12.lt
  have X1_13 := X1_12.below b13
  have h1_13 := h1_12.below b13 h1_12.lt
  have kg_13 := kg_12.below b13 kg_12.lt
  have G0_13 := G0_12.below b13
  have s13 := Lib.hid b13.size
  clear Bw12 G0_12 kg_12 h1_12 X1_12 h0_12 X0_12 W0_12 k6_12 k1_12 k0_12 b13
  obtain ⟨K0, hK0⟩ : ∃ K, 1 + names0.length + total rows0 = K := ⟨_, rfl⟩
  have qu0 := h0_13.cell 0
  have qu1 := h0_13.cell 1
  simp at qu0 qu1
  have MX := Lib.hid (markTable_any w4.heap.size w5.heap.size 1 _ names0 rows0 w13 X0_13 (Nat.le_trans (Nat.le_trans (Nat.le_trans (Nat.le_trans (Nat.le_trans (Nat.le_trans (Nat.le_trans (Nat.le_of_lt s6.out) s7.out) (Nat.le_of_lt s8.out)) s9.out) (Nat.le_of_lt s10.out)) s11.out) s12.out) s13.out) SM0.out (by decide))
  rw [hK0] at MX
  have hbK0 : K0 ≤ 2200000000000 := by rw [← hK0]; exact (by have h1 := SM0.out.total; have h2 := SM0.out.n1; omega)
  clear hK0
  go_wp2_with fail
  refine MX.out.mono ?_
  rintro e w14 ⟨rfl, -, t14⟩
  clear qu0 qu1
  clear MX
  clear X0_13
  clear h0_13
  have Bw14 := t14.below Bw13 (Nat.le_trans (Nat.le_trans (Nat.le_trans (Nat.le_trans (Nat.le_trans (Nat.le_of_lt (Nat.lt_succ_self w.heap.size)) (Nat.le_of_lt s1.out)) s2.out) s3.out) HDD4.out) (Nat.le_of_lt sD4.out))
  have k0_14 := t14.blk k0_13 (Or.inl (Nat.lt_of_lt_of_le (Nat.lt_succ_self w.heap.size) (Nat.le_trans (Nat.le_trans (Nat.le_trans (Nat.le_trans (Nat.le_of_lt s1.out) s2.out) s3.out) HDD4.out) (Nat.le_of_lt sD4.out))))
  have k1_14 := t14.blk k1_13 (Or.inl (Nat.lt_of_lt_of_le s1.out (Nat.le_trans (Nat.le_trans (Nat.le_trans s2.out s3.out) HDD4.out) (Nat.le_of_lt sD4.out))))
  have k6_14 := t14.blk k6_13 (Or.inl sD4.out)
  have W0_14 := W0_13.touch t14 (Nat.le_refl _) (Nat.le_trans (Nat.le_trans (Nat.le_trans (Nat.le_trans (Nat.le_trans (Nat.le_trans (Nat.le_trans (Nat.le_trans s5.out (Nat.le_of_lt s6.out)) s7.out) (Nat.le_of_lt s8.out)) s9.out) (Nat.le_of_lt s10.out)) s11.out) s12.out) s13.out)
  have X1_14 := X1_13.touch t14 (Or.inr (Nat.le_of_lt s6.out))
  have h1_14 := t14.blk h1_13 (Or.inr (Nat.le_trans (Nat.le_of_lt s6.out) s7.out))
  have kg_14 := t14.blk kg_13 (Or.inr (Nat.le_trans (Nat.le_trans (Nat.le_trans (Nat.le_of_lt s6.out) s7.out) (Nat.le_of_lt s8.out)) s9.out))
  have G0_14 := G0_13.touch t14 (Or.inr (Nat.le_trans (Nat.le_trans (Nat.le_of_lt s6.out) s7.out) (Nat.le_of_lt s8.out)))
  have s14 := Lib.hid t14.size
  clear Bw13 G0_13 kg_13 h1_13 X1_13 W0_13 k6_13 k1_13 k0_13 t14
  obtain ⟨K1, hK1⟩ : ∃ K, K0 + names1.length + total rows1 = K := ⟨_, rfl⟩
  have qu0 := h1_14.cell 0
  have qu1 := h1_14.cell 1
  simp at qu0 qu1
  have MX := Lib.hid (markTable_any w6.heap.size w7.heap.size K0 _ names1 rows1 w14 X1_14 (Nat.le_trans (Nat.le_trans (Nat.le_trans (Nat.le_trans (Nat.le_trans (Nat.le_trans (Nat.le_of_lt s8.out) s9.out) (Nat.le_of_lt s10.out)) s11.out) s12.out) s13.out) s14.out) SM1.out (Nat.le_trans hbK0 (by decide)))
  rw [hK1] at MX
  skip
  clear hK1
  go_wp2_with fail
  refine MX.out.mono ?_
  rintro e w15 ⟨rfl, -, t15⟩
  clear qu0 qu1
  clear MX
  clear X1_14
  clear h1_14
  have Bw15 := t15.below Bw14 (Nat.le_trans (Nat.le_trans (Nat.le_trans (Nat.le_trans (Nat.le_trans (Nat.le_trans (Nat.le_trans (Nat.le_of_lt (Nat.lt_succ_self w.heap.size)) (Nat.le_of_lt s1.out)) s2.out) s3.out) HDD4.out) (Nat.le_of_lt sD4.out)) s5.out) (Nat.le_of_lt s6.out))
  have k0_15 := t15.blk k0_14 (Or.inl (Nat.lt_of_lt_of_le (Nat.lt_succ_self w.heap.size) (Nat.le_trans (Nat.le_trans (Nat.le_trans (Nat.le_trans (Nat.le_trans (Nat.le_trans (Nat.le_of_lt s1.out) s2.out) s3.out) HDD4.out) (Nat.le_of_lt sD4.out)) s5.out) (Nat.le_of_lt s6.out))))
  have k1_15 := t15.blk k1_14 (Or.inl (Nat.lt_of_lt_of_le s1.out (Nat.le_trans (Nat.le_trans (Nat.le_trans (Nat.le_trans (Nat.le_trans s2.out s3.out) HDD4.out) (Nat.le_of_lt sD4.out)) s5.out) (Nat.le_of_lt s6.out))))
  have k6_15 := t15.blk k6_14 (Or.inl (Nat.lt_of_lt_of_le sD4.out (Nat.le_trans s5.out (Nat.le_of_lt s6.out))))
  have W0_15 := W0_14.touch t15 (Nat.le_trans s5.out (Nat.le_of_lt s6.out)) (Nat.le_trans (Nat.le_trans (Nat.le_trans (Nat.le_trans (Nat.le_trans (Nat.le_trans (Nat.le_trans (Nat.le_trans (Nat.le_trans s5.out (Nat.le_of_lt s6.out)) s7.out) (Nat.le_of_lt s8.out)) s9.out) (Nat.le_of_lt s10.out)) s11.out) s12.out) s13.out) s14.out)
  have kg_15 := t15.blk kg_14 (Or.inr (Nat.le_trans (Nat.le_of_lt s8.out) s9.out))
  have G0_15 := G0_14.touch t15 (Or.inr (Nat.le_of_lt s8.out))
  have s15 := Lib.hid t15.size
  clear Bw14 G0_14 kg_14 W0_14 k6_14 k1_14 k0_14 t15
  have hk1 : ¬ ((K1 : Int) < 0) := Int.not_lt.2 (Int.natCast_nonneg _)
  have qu0 := kg_15.cell 0
  have qu1 := kg_15.cell 1
  simp at qu0 qu1
  have qz0 := k6_15.cell 0
  have qz1 := k6_15.cell 1
  simp at qz0 qz1
  go_wp2_with fail
  refine (EQ.out w15 _ _ G0_15.tabR (W0_15.tabR (Nat.le_trans (Nat.le_trans (Nat.le_trans (Nat.le_trans (Nat.le_trans (Nat.le_trans (Nat.le_trans (Nat.le_trans (Nat.le_trans (Nat.le_trans s5.out (Nat.le_of_lt s6.out)) s7.out) (Nat.le_of_lt s8.out)) s9.out) (Nat.le_of_lt s10.out)) s11.out) s12.out) s13.out) s14.out) s15.out))).mono ?_
  rintro e w16 ⟨rfl, b16⟩
  clear qu0 qu1 qz0 qz1
  have Bw16 := Bw15.trans (b16.mono Bw15.size)
  have k0_16 := k0_15.below b16 k0_15.lt
  have k1_16 := k1_15.below b16 k1_15.lt
  have k6_16 := k6_15.below b16 k6_15.lt
  have W0_16 := W0_15.belowW (Nat.le_trans (Nat.le_trans (Nat.le_trans (Nat.le_trans (Nat.le_trans (Nat.le_trans (Nat.le_trans (Nat.le_trans (Nat.le_trans (Nat.le_trans s5.out (Nat.le_of_lt s6.out)) s7.out) (Nat.le_of_lt s8.out)) s9.out) (Nat.le_of_lt s10.out)) s11.out) s12.out) s13.out) s14.out) s15.out) b16
  have kg_16 := kg_15.below b16 kg_15.lt
  have G0_16 := G0_15.below b16
  have s16 := Lib.hid b16.size
  clear Bw15 G0_15 kg_15 W0_15 k6_15 k1_15 k0_15 b16
  obtain ⟨KG, hKG⟩ : ∃ K, 1 + N.length + total R = K := ⟨_, rfl⟩
  have qu0 := kg_16.cell 0
  have qu1 := kg_16.cell 1
  simp at qu0 qu1
  have MG := Lib.hid (markTable_any w8.heap.size w9.heap.size 1 _ N R w16 G0_16 (Nat.le_trans (Nat.le_trans (Nat.le_trans (Nat.le_trans (Nat.le_trans (Nat.le_trans (Nat.le_of_lt s10.out) s11.out) s12.out) s13.out) s14.out) s15.out) s16.out) SN.out (by decide))
  rw [hKG] at MG
  have HG := Lib.hid (fun (wr : World) (hg : TabR wr (.agg #[.slice A9 nN c9, .slice B9 nR d9]) (stMarks 1 N.length) (rowMarks (1 + N.length) R)) => heldTable_any 1 N.length _ R wr hg (by decide) SN.out.n1 SN.out.r1 SN.out.r2)
  rw [hKG] at HG
  have hk2 : ¬ ((KG : Int) < 0) := Int.not_lt.2 (Int.natCast_nonneg _)
  clear hKG
  go_wp2_with fail
  refine MG.out.mono ?_
  rintro e w17 ⟨rfl, G1_17, t17⟩
  clear qu0 qu1 MG
  clear G0_16
  have Bw17 := t17.below Bw16 (Nat.le_trans (Nat.le_trans (Nat.le_trans (Nat.le_trans (Nat.le_trans (Nat.le_trans (Nat.le_trans (Nat.le_trans (Nat.le_trans (Nat.le_of_lt (Nat.lt_succ_self w.heap.size)) (Nat.le_of_lt s1.out)) s2.out) s3.out) HDD4.out) (Nat.le_of_lt sD4.out)) s5.out) (Nat.le_of_lt s6.out)) s7.out) (Nat.le_of_lt s8.out))
  have k0_17 := t17.blk k0_16 (Or.inl (Nat.lt_of_lt_of_le (Nat.lt_succ_self w.heap.size) (Nat.le_trans (Nat.le_trans (Nat.le_trans (Nat.le_trans (Nat.le_trans (Nat.le_trans (Nat.le_trans (Nat.le_trans (Nat.le_of_lt s1.out) s2.out) s3.out) HDD4.out) (Nat.le_of_lt sD4.out)) s5.out) (Nat.le_of_lt s6.out)) s7.out) (Nat.le_of_lt s8.out))))
  have k1_17 := t17.blk k1_16 (Or.inl (Nat.lt_of_lt_of_le s1.out (Nat.le_trans (Nat.le_trans (Nat.le_trans (Nat.le_trans (Nat.le_trans (Nat.le_trans (Nat.le_trans s2.out s3.out) HDD4.out) (Nat.le_of_lt sD4.out)) s5.out) (Nat.le_of_lt s6.out)) s7.out) (Nat.le_of_lt s8.out))))
  have k6_17 := t17.blk k6_16 (Or.inl (Nat.lt_of_lt_of_le sD4.out (Nat.le_trans (Nat.le_trans (Nat.le_trans s5.out (Nat.le_of_lt s6.out)) s7.out) (Nat.le_of_lt s8.out))))
  have W0_17 := W0_16.touch t17 (Nat.le_trans (Nat.le_trans (Nat.le_trans s5.out (Nat.le_of_lt s6.out)) s7.out) (Nat.le_of_lt s8.out)) (Nat.le_trans (Nat.le_trans (Nat.le_trans (Nat.le_trans (Nat.le_trans (Nat.le_trans (Nat.le_trans (Nat.le_trans (Nat.le_trans (Nat.le_trans (Nat.le_trans s5.out (Nat.le_of_lt s6.out)) s7.out) (Nat.le_of_lt s8.out)) s9.out) (Nat.le_of_lt s10.out)) s11.out) s12.out) s13.out) s14.out) s15.out) s16.out)
  have kg_17 := t17.blk kg_16 (Or.inr (Nat.le_refl _))
  have s17 := Lib.hid t17.size
  clear Bw16 kg_16 W0_16 k6_16 k1_16 k0_16 t17
  have qu0 := kg_17.cell 0
  have qu1 := kg_17.cell 1
  simp at qu0 qu1
  go_wp2_with fail
  refine (HG.out w17 G1_17.tabR).mono ?_
  rintro e w18 ⟨rfl, b18⟩
  clear qu0 qu1
  have Bw18 := Bw17.trans (b18.mono Bw17.size)
  have k0_18 := k0_17.below b18 k0_17.lt
  have k1_18 := k1_17.below b18 k1_17.lt
  have k6_18 := k6_17.below b18 k6_17.lt
  have W0_18 := W0_17.belowW (Nat.le_trans (Nat.le_trans (Nat.le_trans (Nat.le_trans (Nat.le_trans (Nat.le_trans (Nat.le_trans (Nat.le_trans (Nat.le_trans (Nat.le_trans (Nat.le_trans (Nat.le_trans s5.out (Nat.le_of_lt s6.out)) s7.out) (Nat.le_of_lt s8.out)) s9.out) (Nat.le_of_lt s10.out)) s11.out) s12.out) s13.out) s14.out) s15.out) s16.out) s17.out) b18
  have kg_18 := kg_17.below b18 kg_17.lt
  have G1_18 := G1_17.below b18
  have s18 := Lib.hid b18.size
  clear Bw17 G1_17 kg_17 W0_17 k6_17 k1_17 k0_17 b18
  have qda0 := k0_18.cell 0
  have qda1 := k0_18.cell 1
  simp at qda0 qda1
  have qdb0 := k1_18.cell 0
  have qdb1 := k1_18.cell 1
  simp at qdb0 qdb1
  have STT := Lib.hid (And.intro Bw18 (And.intro k0_18 (And.intro k1_18 (And.intro k6_18 (And.intro W0_18 (And.intro kg_18 G1_18))))))
  clear Bw18 G1_18 kg_18 W0_18 k6_18 k1_18 k0_18
  go_upto_region 35 with fail
  have BDW : Below w18.heap.size w18 w18.drew := (Below.refl _ _).drew
  have BWD := Lib.hid (fun (w' : World) (h : Below w18.heap.size w18 w') => STT.out.1.trans (h.mono STT.out.1.size))
  go_cut [19, 20] (fun v1 v2 w' => ∃ (D : Nat) (A6 : Option Addr) (c6 : Nat) (B6 : Option Addr) (d6 : Nat), v1 = .pointer (some ⟨D, 0, none⟩) ∧ v2 = .bool ok ∧ w18.heap.size ≤ D ∧ Hid (Blk w' D 27 #[.slice A6 nN c6, .slice B6 nR d6]) ∧ Hid (TabR w' (.agg #[.slice A6 nN c6, .slice B6 nR d6]) N R) ∧ Hid (Below w18.heap.size w18 w'))
  case first =>
    go_region_held3 (fun w' => w'.cell? ⟨w.heap.size, 0, none⟩ = some (.slice A0 n0 c0) ∧ w'.cell? ⟨w.heap.size, 1, none⟩ = some (.slice B0 m0 d0) ∧ w'.cell? ⟨w.heap.size + 1, 0, none⟩ = some (.slice A1 n1 c1) ∧ w'.cell? ⟨w.heap.size + 1, 1, none⟩ = some (.slice B1 m1 d1))
      (first | (exact ⟨below_keep ((bC.setCell (p := ⟨_, 0, none⟩) hDl _).setCell (p := ⟨_, 1, none⟩) hDl _) qda0, below_keep ((bC.setCell (p := ⟨_, 0, none⟩) hDl _).setCell (p := ⟨_, 1, none⟩) hDl _) qda1, below_keep ((bC.setCell (p := ⟨_, 0, none⟩) hDl _).setCell (p := ⟨_, 1, none⟩) hDl _) qdb0, below_keep ((bC.setCell (p := ⟨_, 0, none⟩) hDl _).setCell (p := ⟨_, 1, none⟩) hDl _) qdb1⟩) | (exact ⟨below_keep (bC.alloc bC.size _) qda0, below_keep (bC.alloc bC.size _) qda1, below_keep (bC.alloc bC.size _) qdb0, below_keep (bC.alloc bC.size _) qdb1⟩) | (exact ⟨below_keep (bC) qda0, below_keep (bC) qda1, below_keep (bC) qdb0, below_keep (bC) qdb1⟩) | (exact ⟨below_keep (bB.alloc bB.size _) qda0, below_keep (bB.alloc bB.size _) qda1, below_keep (bB.alloc bB.size _) qdb0, below_keep (bB.alloc bB.size _) qdb1⟩) | (exact ⟨below_keep (bB) qda0, below_keep (bB) qda1, below_keep (bB) qdb0, below_keep (bB) qdb1⟩) | (exact ⟨below_keep (bA.alloc bA.size _) qda0, below_keep (bA.alloc bA.size _) qda1, below_keep (bA.alloc bA.size _) qdb0, below_keep (bA.alloc bA.size _) qdb1⟩) | (exact ⟨below_keep (bA) qda0, below_keep (bA) qda1, below_keep (bA) qdb0, below_keep (bA) qdb1⟩) | (exact ⟨below_keep (((Below.refl _ w18).alloc (Nat.le_refl _) _).drew) qda0, below_keep (((Below.refl _ w18).alloc (Nat.le_refl _) _).drew) qda1, below_keep (((Below.refl _ w18).alloc (Nat.le_refl _) _).drew) qdb0, below_keep (((Below.refl _ w18).alloc (Nat.le_refl _) _).drew) qdb1⟩) | (exact ⟨below_keep (BDW) qda0, below_keep (BDW) qda1, below_keep (BDW) qdb0, below_keep (BDW) qdb1⟩))
      (first
        | (go_at_call 8; with_reducible refine (TO0.out _ (BWD.out _ (((Below.refl _ w18).alloc (Nat.le_refl _) (.cells #[nilV, nilV] 27)).drew))).mono ?_; rintro e wA ⟨AoA, coA, BoA, doA, rfl, oA, hoA⟩; have bA := (((Below.refl _ w18).alloc (Nat.le_refl _) (.cells #[nilV, nilV] 27)).drew).trans (hoA.mono (((Below.refl _ w18).alloc (Nat.le_refl _) (.cells #[nilV, nilV] 27)).drew).size); have kTA := ((Blk.new w18 27 #[nilV, nilV]).drew).below hoA ((Blk.new w18 27 #[nilV, nilV]).drew).lt; have kTAl : w18.heap.size ≤ w18.heap.size := Nat.le_refl _)
        | (go_at_call 8; with_reducible refine (TO0.out _ (BWD.out _ (BDW))).mono ?_; rintro e wA ⟨AoA, coA, BoA, doA, rfl, oA, hoA⟩; have bA := (BDW).trans (hoA.mono (BDW).size))
        | (go_at_call 8; with_reducible refine (TO1.out _ (BWD.out _ (bA))).mono ?_; rintro e wB ⟨AoB, coB, BoB, doB, rfl, oB, hoB⟩; have bB := (bA).trans (hoB.mono (bA).size); have rA := ((oA.reads)).below hoB; have kTB := (kTA).below hoB (kTA).lt; have kTBl : w18.heap.size ≤ _ := kTAl)
        | (go_at_call 8; with_reducible refine (TO1.out _ (BWD.out _ (bA.alloc bA.size (.cells #[nilV, nilV] 27)))).mono ?_; rintro e wB ⟨AoB, coB, BoB, doB, rfl, oB, hoB⟩; have bB := (bA.alloc bA.size (.cells #[nilV, nilV] 27)).trans (hoB.mono (bA.alloc bA.size (.cells #[nilV, nilV] 27)).size); have rA := ((oA.reads.below ((Below.refl _ wA).alloc (Nat.le_refl _) (.cells #[nilV, nilV] 27)))).below hoB; have kTB := (Blk.new wA 27 #[nilV, nilV]).below hoB (Blk.new wA 27 #[nilV, nilV]).lt; have kTBl : w18.heap.size ≤ wA.heap.size := bA.size)
        | (go_at_call 8; with_reducible refine (TO1.out _ (BWD.out _ (bA))).mono ?_; rintro e wB ⟨AoB, coB, BoB, doB, rfl, oB, hoB⟩; have bB := (bA).trans (hoB.mono (bA).size); have rA := ((oA.reads)).below hoB)
        | (go_at_call 9; with_reducible refine (implJoin_any _ _ names0 rows0 names1 rows1 l r ok N R HL.out RA RC _ (below_keep (BWD.out _ (bB)) HV.out) ((HR.out.below (BWD.out _ (bB))).more (BWD.out _ (bB)).size) (rA) (oB.reads) SM0.out SM1.out).mono ?_; rintro e wC hres; obtain ⟨A6, c6, B6, d6, rfl, o6, b6⟩ := hres.form; rw [HNR.out.1, HNR.out.2] at o6 ⊢; have bC := (bB).trans (b6.mono (bB).size); clear hres; have hDl : w18.heap.size ≤ _ := kTBl; have hDs : _ + 1 ≤ _ := kTB.lt; have kTC := (kTB).below b6 (kTB).lt; have t0 := kTC.cell 0; have t1 := kTC.cell 1; have t0f := kTC.frozen 0; have t1f := kTC.frozen 1; simp at t0 t1 t0f t1f)
        | (go_at_call 9; with_reducible refine (implJoin_any _ _ names0 rows0 names1 rows1 l r ok N R HL.out RA RC _ (below_keep (BWD.out _ (bB.alloc bB.size (.cells #[nilV, nilV] 27))) HV.out) ((HR.out.below (BWD.out _ (bB.alloc bB.size (.cells #[nilV, nilV] 27)))).more (BWD.out _ (bB.alloc bB.size (.cells #[nilV, nilV] 27))).size) (rA.below ((Below.refl _ wB).alloc (Nat.le_refl _) (.cells #[nilV, nilV] 27))) (oB.reads.below ((Below.refl _ wB).alloc (Nat.le_refl _) (.cells #[nilV, nilV] 27))) SM0.out SM1.out).mono ?_; rintro e wC hres; obtain ⟨A6, c6, B6, d6, rfl, o6, b6⟩ := hres.form; rw [HNR.out.1, HNR.out.2] at o6 ⊢; have bC := (bB.alloc bB.size (.cells #[nilV, nilV] 27)).trans (b6.mono (bB.alloc bB.size (.cells #[nilV, nilV] 27)).size); clear hres; have hDl : w18.heap.size ≤ wB.heap.size := bB.size; have hDs : wB.heap.size + 1 ≤ (wB.alloc (.cells #[nilV, nilV] 27)).heap.size := (by simp); have kTC := ((Blk.new wB 27 #[nilV, nilV])).below b6 ((Blk.new wB 27 #[nilV, nilV])).lt; have t0 := kTC.cell 0; have t1 := kTC.cell 1; have t0f := kTC.frozen 0; have t1f := kTC.frozen 1; simp at t0 t1 t0f t1f)
        | (go_at_call 9; with_reducible refine (implJoin_any _ _ names0 rows0 names1 rows1 l r ok N R HL.out RA RC _ (below_keep (BWD.out _ (bB)) HV.out) ((HR.out.below (BWD.out _ (bB))).more (BWD.out _ (bB)).size) (rA) (oB.reads) SM0.out SM1.out).mono ?_; rintro e wC hres; obtain ⟨A6, c6, B6, d6, rfl, o6, b6⟩ := hres.form; rw [HNR.out.1, HNR.out.2] at o6 ⊢; have bC := (bB).trans (b6.mono (bB).size); clear hres))
    all_goals (
      go_wp2_with fail
      go_meet
      case rel =>
        first
          | exact ⟨_, A6, c6, B6, d6, rfl, rfl, hDl, (drawn_old o6 kTC hDs).2, (drawn_old o6 kTC hDs).1, (bC.setCell (p := ⟨_, 0, none⟩) hDl _).setCell (p := ⟨_, 1, none⟩) hDl _⟩
          | exact ⟨_, A6, c6, B6, d6, rfl, rfl, bC.size, Blk.new _ _ _, o6.reads.below ((Below.refl _ _).alloc (Nat.le_refl _) _), bC.alloc bC.size _⟩)
  obtain ⟨D19, A19, c19, B19, d19, rfl, rfl, hD19, hk19, ht19, hb19⟩ := hcut
  obtain ⟨w19, rfl⟩ : ∃ x, x = wc := ⟨_, rfl⟩
  clear BDW BWD qda0 qda1 qdb0 qdb1
  obtain ⟨Bw18, k0_18, k1_18, k6_18, W0_18, kg_18, G1_18⟩ := STT.out
  clear STT
  have b19 := hb19.out
  have ky_19 := hk19.out
  have Y0_19 := ht19.out.tabB
  have HDD19 := Lib.hid hD19
  have Bw19 := Bw18.trans (b19.mono Bw18.size)
  have k0_19 := k0_18.below b19 k0_18.lt
  have k1_19 := k1_18.below b19 k1_18.lt
  have k6_19 := k6_18.below b19 k6_18.lt
  have W0_19 := W0_18.belowW (Nat.le_trans (Nat.le_trans (Nat.le_trans (Nat.le_trans (Nat.le_trans (Nat.le_trans (Nat.le_trans (Nat.le_trans (Nat.le_trans (Nat.le_trans (Nat.le_trans (Nat.le_trans (Nat.le_trans s5.out (Nat.le_of_lt s6.out)) s7.out) (Nat.le_of_lt s8.out)) s9.out) (Nat.le_of_lt s10.out)) s11.out) s12.out) s13.out) s14.out) s15.out) s16.out) s17.out) s18.out) b19
  have kg_19 := kg_18.below b19 kg_18.lt
  have G1_19 := G1_18.below b19
  have s19 := Lib.hid b19.size
  clear Bw18 G1_18 kg_18 W0_18 k6_18 k1_18 k0_18 b19
  have sD19 := Lib.hid ky_19.lt
  clear hk19 ht19 hb19 hD19
  have qu0 := ky_19.cell 0
  have qu1 := ky_19.cell 1
  simp at qu0 qu1
  have qz0 := k6_19.cell 0
  have qz1 := k6_19.cell 1
  simp at qz0 qz1
  go_wp2_with fail
  refine (EQ.out w19 _ _ (Y0_19.tabR (Nat.le_refl _)) (W0_19.tabR (Nat.le_trans (Nat.le_trans (Nat.le_trans (Nat.le_trans (Nat.le_trans (Nat.le_trans (Nat.le_trans (Nat.le_trans (Nat.le_trans (Nat.le_trans (Nat.le_trans (Nat.le_trans (Nat.le_trans (Nat.le_trans (Nat.le_trans s5.out (Nat.le_of_lt s6.out)) s7.out) (Nat.le_of_lt s8.out)) s9.out) (Nat.le_of_lt s10.out)) s11.out) s12.out) s13.out) s14.out) s15.out) s16.out) s17.out) s18.out) HDD19.out) (Nat.le_of_lt sD19.out)))).mono ?_
  rintro e w20 ⟨rfl, b20⟩
  clear qu0 qu1 qz0 qz1
  have Bw20 := Bw19.trans (b20.mono Bw19.size)
  have k0_20 := k0_19.below b20 k0_19.lt
  have k1_20 := k1_19.below b20 k1_19.lt
  have k6_20 := k6_19.below b20 k6_19.lt
  have W0_20 := W0_19.belowW (Nat.le_trans (Nat.le_trans (Nat.le_trans (Nat.le_trans (Nat.le_trans (Nat.le_trans (Nat.le_trans (Nat.le_trans (Nat.le_trans (Nat.le_trans (Nat.le_trans (Nat.le_trans (Nat.le_trans (Nat.le_trans (Nat.le_trans s5.out (Nat.le_of_lt s6.out)) s7.out) (Nat.le_of_lt s8.out)) s9.out) (Nat.le_of_lt s10.out)) s11.out) s12.out) s13.out) s14.out) s15.out) s16.out) s17.out) s18.out) HDD19.out) (Nat.le_of_lt sD19.out)) b20
  have kg_20 := kg_19.below b20 kg_19.lt
  have G1_20 := G1_19.below b20
  have ky_20 := ky_19.below b20 ky_19.lt
  have Y0_20 := Y0_19.belowW (Nat.le_refl _) b20
  have s20 := Lib.hid b20.size
  clear Bw19 Y0_19 ky_19 G1_19 kg_19 W0_19 k6_19 k1_19 k0_19 b20
  clear Y0_20
  clear ky_20
  have qu0 := kg_20.cell 0
  have qu1 := kg_20.cell 1
  simp at qu0 qu1
  go_wp2_with fail
  refine (HG.out w20 G1_20.tabR).mono ?_
  rintro e w21 ⟨rfl, b21⟩
  clear qu0 qu1
  have Bw21 := Bw20.trans (b21.mono Bw20.size)
  have k0_21 := k0_20.below b21 k0_20.lt
  have k1_21 := k1_20.below b21 k1_20.lt
  have k6_21 := k6_20.below b21 k6_20.lt
  have W0_21 := W0_20.belowW (Nat.le_trans (Nat.le_trans (Nat.le_trans (Nat.le_trans (Nat.le_trans (Nat.le_trans (Nat.le_trans (Nat.le_trans (Nat.le_trans (Nat.le_trans (Nat.le_trans (Nat.le_trans (Nat.le_trans (Nat.le_trans (Nat.le_trans (Nat.le_trans s5.out (Nat.le_of_lt s6.out)) s7.out) (Nat.le_of_lt s8.out)) s9.out) (Nat.le_of_lt s10.out)) s11.out) s12.out) s13.out) s14.out) s15.out) s16.out) s17.out) s18.out) HDD19.out) (Nat.le_of_lt sD19.out)) s20.out) b21
  have kg_21 := kg_20.below b21 kg_20.lt
  have G1_21 := G1_20.below b21
  have s21 := Lib.hid b21.size
  clear Bw20 G1_20 kg_20 W0_20 k6_20 k1_20 k0_20 b21
  go_wp2_with fail
  go_ret
  exact ⟨rfl, Bw21⟩
end Go.Proofs.YtldpcjkfkcbfmaaDoor
