/- laws.FnJoinRows: the walk. -/
import Derived.Test.YtijpdekcdejfmaaDoorDrawJoin
import Derived.Test.YtijpdekcdejfmaaDoorJoinI
import Derived.Test.YtijpdekcdejfmaaDoorColumn
import Derived.Test.YtijpdekcdejfmaaDoorSameT
import Derived.Test.YtijpdekcdejfmaaDoorFnJoinP
import Derived.BigQuiet
namespace Go.Proofs.YtijpdekcdejfmaaDoor
open Go Go.RowKit
set_option maxRecDepth 100000
theorem DrawnT.smallJ {names : List ByteArray} {rows : List (List Int)} (h : DrawnT names rows) : Small names rows :=
  ⟨by have := h.n1; omega, fun x hx => by have := h.n2 x hx; omega, by have := h.r1; omega, fun r hr => by have := h.r2 r hr; omega⟩
theorem TabR.rowsJ {w : World} {A B : Option Addr} {n c m d : Nat} {names : List ByteArray} {rows : List (List Int)} (h : TabR w (.agg #[.slice A n c, .slice B m d]) names rows) : RowsR w w.heap.size B m rows := by
  obtain ⟨A', c', B', d', e, _, _, hy⟩ := h
  simp only [Value.agg.injEq, Array.mk.injEq, List.cons.injEq, and_true, Value.slice.injEq] at e
  obtain ⟨_, rfl, rfl, _⟩ := e
  exact hy
set_option maxHeartbeats 3200000 in
theorem fnJoin_walk {w : World} (A : Option Addr) (n c : Nat) (xs : List UInt8) (hl : xs.length = n) (hc : n ≤ c) (hm : c ≤ maxLen) (hx : Reads w w.heap.size 1 A n (byCells xs))
    (RA : Option Addr) (RC : Nat) (hv : w.cell? ⟨0, 0, none⟩ = some (.slice RA 13 RC)) (hr : Reads w w.heap.size 1 RA 13 (stCells resW)) :
    Calls Tryd.prog 4 #[.slice A n c] w fun e w' => e = .returned (.bool true) ∧ Below w.heap.size w w' := by
  by_cases hbig : (1048576 : Int) < (n : Int)
  · clear hx hr
    go_enter Tryd.func4, Tryd.ntmps4
    go_wp2_with fail
    go_ret
    exact ⟨rfl, Below.refl _ _⟩
  have HD := Lib.hid (drawJoin_any A n c xs w hx hl (by omega) hc hm)
  have RV := Lib.hid (fun (w' : World) (hb : Below w.heap.size w w') => And.intro (below_keep hb hv) ((hr.below hb).more hb.size))
  clear hx hr hl hv
  go_enter Tryd.func4, Tryd.ntmps4
  go_wp2_with fail
  refine HD.out.mono ?_
  rintro e w1 ⟨nv, rv, nv2, rv2, l, r, na, ra, nb, rb, rfl, hoa, hda, hob, hdb, b1⟩
  obtain ⟨A1, c1, B1, d1, rfl, rfl⟩ := hoa.form
  obtain ⟨A2, c2, B2, d2, rfl, rfl⟩ := hob.form
  obtain ⟨ok, N, R, hL⟩ := JoinIs.ex na ra nb rb l r
  obtain ⟨l1, hl1⟩ : ∃ n, na.length = n := ⟨_, rfl⟩
  obtain ⟨l2, hl2⟩ : ∃ n, ra.length = n := ⟨_, rfl⟩
  obtain ⟨m1, hm1⟩ : ∃ n, nb.length = n := ⟨_, rfl⟩
  obtain ⟨m2, hm2⟩ : ∃ n, rb.length = n := ⟨_, rfl⟩
  obtain ⟨nN, hNN⟩ : ∃ n, N.length = n := ⟨_, rfl⟩
  obtain ⟨nR, hRR⟩ : ∃ n, R.length = n := ⟨_, rfl⟩
  have SA := Lib.hid hda.smallJ
  have SB := Lib.hid hdb.smallJ
  have SN := Lib.hid (hL.small hda.smallJ hdb.smallJ)
  have HL := Lib.hid hL
  have HBD := Lib.hid (And.intro hda.r1 hdb.r1)
  rw [hl1, hl2] at hoa ⊢
  rw [hm1, hm2] at hob ⊢
  have HNR := Lib.hid (And.intro hNN hRR)
  have HLL := Lib.hid (And.intro (And.intro hl1 hl2) (And.intro hm1 hm2))
  clear hL hNN hRR hl1 hl2 hm1 hm2 hda hdb HD
  have hqq : (ok != ok) = false := by cases ok <;> rfl
  obtain ⟨w2, hw2⟩ : ∃ w2, w2 = (w1.alloc (.cells #[.slice A1 l1 c1, .slice B1 l2 d1] 26)).alloc (.cells #[.slice A2 m1 c2, .slice B2 m2 d2] 26) := ⟨_, rfl⟩
  have b2 : Below w1.heap.size w1 w2 := by rw [hw2]; exact ((Below.refl _ _).alloc (Nat.le_refl _) _).alloc (by simp) _
  have k2 : Blk w2 w1.heap.size 26 #[.slice A1 l1 c1, .slice B1 l2 d1] := by rw [hw2]; exact (Blk.new _ _ _).alloc _
  have k2' : Blk w2 (w1.heap.size + 1) 26 #[.slice A2 m1 c2, .slice B2 m2 d2] := by
    rw [hw2]
    have h := Blk.new (w1.alloc (.cells #[.slice A1 l1 c1, .slice B1 l2 d1] 26)) 26 #[.slice A2 m1 c2, .slice B2 m2 d2]
    rw [World.size_alloc] at h
    exact h
  have B2' := Lib.hid (b1.trans (b2.mono b1.size))
  have P2 := Lib.hid (fun (wr : World) (hb : Below w2.heap.size w2 wr) => And.intro (And.intro (k2.below hb k2.lt) (k2'.below hb k2'.lt)) (And.intro ((hoa.below b2).below hb).tabC.tabR ((hob.below b2).below hb).tabC.tabR))
  have IM := Lib.hid (implJoin_any _ _ na ra nb rb l r ok N R HL.out RA RC w2 (RV.out w2 B2'.out).1 (RV.out w2 B2'.out).2 (P2.out w2 (Below.refl _ _)).2.1 (P2.out w2 (Below.refl _ _)).2.2 SA.out SB.out)
  have HW2 := Lib.hid hw2
  clear k2 k2' hoa hob b2
  go_wp2_with fail
  rw [← HW2.out]
  clear hw2 HW2
  refine IM.out.mono ?_
  rintro e w3 hres
  obtain ⟨A3, c3, B3, d3, rfl, o3, b3⟩ := TabRes.form hres
  rw [HNR.out.1, HNR.out.2] at o3 ⊢
  clear hres IM
  obtain ⟨w4, hw4⟩ : ∃ w4, w4 = w3.alloc (.cells #[.slice A3 nN c3, .slice B3 nR d3] 26) := ⟨_, rfl⟩
  have b4 : Below w3.heap.size w3 w4 := by rw [hw4]; exact (Below.refl _ _).alloc (Nat.le_refl _) _
  have k4 : Blk w4 w3.heap.size 26 #[.slice A3 nN c3, .slice B3 nR d3] := by rw [hw4]; exact Blk.new _ _ _
  have b24 := Lib.hid (b3.trans (b4.mono b3.size))
  have T4 := Lib.hid (fun (wr : World) (hb : Below w4.heap.size w4 wr) => And.intro (k4.below hb k4.lt) ((o3.below b4).below hb).reads)
  have x0 := (P2.out w4 b24.out).1.1.cell 0
  have x1 := (P2.out w4 b24.out).1.1.cell 1
  have y0 := (P2.out w4 b24.out).1.2.cell 0
  have y1 := (P2.out w4 b24.out).1.2.cell 1
  simp at x0 x1 y0 y1
  have SP := Lib.hid (specJoin_any _ _ na ra nb rb l r ok N R HL.out w4 (P2.out w4 b24.out).2.1 (P2.out w4 b24.out).2.2 SA.out SB.out)
  have HW4 := Lib.hid hw4
  rw [hw4] at x0 x1 y0 y1
  clear k4 o3 b4 b3
  go_wp2_with fail
  rw [← HW4.out]
  clear hw4 HW4 x0 x1 y0 y1
  refine SP.out.mono ?_
  rintro e w5 hres
  obtain ⟨A5, c5, B5, d5, rfl, o5, b5⟩ := TabRes.form hres
  rw [HNR.out.1, HNR.out.2] at o5 ⊢
  clear hres SP
  obtain ⟨w6, hw6⟩ : ∃ w6, w6 = w5.alloc (.cells #[.slice A5 nN c5, .slice B5 nR d5] 26) := ⟨_, rfl⟩
  have b6 : Below w5.heap.size w5 w6 := by rw [hw6]; exact (Below.refl _ _).alloc (Nat.le_refl _) _
  have k6 : Blk w6 w5.heap.size 26 #[.slice A5 nN c5, .slice B5 nR d5] := by rw [hw6]; exact Blk.new _ _ _
  have b46 := Lib.hid (b5.trans (b6.mono b5.size))
  have x0 := (T4.out w6 b46.out).1.cell 0
  have x1 := (T4.out w6 b46.out).1.cell 1
  have y0 := k6.cell 0
  have y1 := k6.cell 1
  simp at x0 x1 y0 y1
  have EQ := Lib.hid (sameTable_yes _ _ N R w6 (T4.out w6 b46.out).2 ((o5.below b6).reads) SN.out.ok)
  have HW6 := Lib.hid hw6
  rw [hw6] at x0 x1 y0 y1
  clear k6 o5 b6 b5
  go_wp2_with fail
  rw [← HW6.out]
  clear hw6 HW6 x0 x1 y0 y1
  refine EQ.out.mono ?_
  rintro e w7 ⟨rfl, b7⟩
  have b47 := Lib.hid (b46.out.trans (b7.mono b46.out.size))
  have b27 := Lib.hid (b24.out.trans (b47.out.mono b24.out.size))
  have B7 := Lib.hid (B2'.out.trans (b27.out.mono B2'.out.size))
  clear EQ b7 b46
  cases htk : joinB na ra nb rb l r with
  | false =>
    obtain ⟨rfl, rfl, rfl⟩ := HL.out.no htk
    obtain rfl : nN = 0 := HNR.out.1.symm
    have x0 := (T4.out w7 b47.out).1.cell 0
    simp at x0
    have AL := Lib.hid (alive_yes RA RC w7 (RV.out w7 B7.out).1 (RV.out w7 B7.out).2)
    clear htk
    go_wp2_with fail
    refine AL.out.mono ?_
    rintro e w' ⟨rfl, rfl⟩
    go_wp2_with fail
    go_ret
    exact ⟨rfl, B7.out⟩
  | true =>
    obtain ⟨rfl, eN, eR⟩ := HL.out.yes htk
    obtain ⟨h2, hlenT⟩ := join_turn htk
    obtain ⟨hcl, hcr, hTV, hleP, hrw⟩ := join_cols htk
    rw [← eN] at hcl hcr hTV
    rw [← eR] at hTV hleP hrw hlenT
    have HEN := Lib.hid (show nN = l1 + m1 by rw [← HNR.out.1, eN, List.length_append, HLL.out.1.1, HLL.out.2.1])
    have HTV := Lib.hid hTV
    have HRW := Lib.hid hrw
    rw [HLL.out.1.1] at hcr
    have hga := colN_lt (show hasW na l = true by unfold joinB at htk; simp only [Bool.and_eq_true] at htk; exact htk.2.2.1)
    have hgb := colN_lt (show hasW nb r = true by unfold joinB at htk; simp only [Bool.and_eq_true] at htk; exact htk.2.2.2.1)
    rw [HLL.out.1.1] at hga
    rw [HLL.out.2.1] at hgb
    obtain ⟨ca, hca⟩ : ∃ x, colN na l = x := ⟨_, rfl⟩
    obtain ⟨cb, hcb⟩ : ∃ x, l1 + colN nb r = x := ⟨_, rfl⟩
    have HCA := Lib.hid hca
    have HCB := Lib.hid hcb
    have hcaN : ca < nN := by rw [HEN.out]; omega
    have hcbN : cb < nN := by rw [HEN.out]; omega
    rw [hca] at hcl
    rw [hcb] at hcr
    rw [HNR.out.2, HLL.out.1.2, HLL.out.2.2] at hleP
    rw [HNR.out.2] at hlenT
    obtain ⟨Rt, hRt⟩ : ∃ x, joinA (colN nb r) (colN na l) rb ra = x := ⟨_, rfl⟩
    rw [hRt] at h2 hlenT
    have HRT := Lib.hid hlenT
    have hnRb : nR ≤ 1048576 := by rw [← HNR.out.2]; exact SN.out.r1
    have hle : (nR : Int) ≤ (l2 : Int) * (m2 : Int) := by exact_mod_cast hleP
    have hl17 := HBD.out.1
    have hm17 := HBD.out.2
    rw [HLL.out.1.2] at hl17
    rw [HLL.out.2.2] at hm17
    have hmul : (l2 : Int) * (m2 : Int) ≤ 289 := by exact_mod_cast Nat.mul_le_mul hl17 hm17
    have hmul0 : (0 : Int) ≤ (l2 : Int) * (m2 : Int) := by omega
    have hwm : IntKind.i64.wrap ((l2 : Int) * (m2 : Int)) = (l2 : Int) * (m2 : Int) := IntWalk.i64_in _ (by omega)
    clear hleP
    have AG := Lib.hid (implJoin_any _ _ nb rb na ra r l true (nb ++ na) Rt h2 RA RC w7 (RV.out w7 B7.out).1 (RV.out w7 B7.out).2 (P2.out w7 b27.out).2.2 (P2.out w7 b27.out).2.1 SB.out SA.out)
    have x0 := (P2.out w7 b27.out).1.1.cell 0
    have x1 := (P2.out w7 b27.out).1.1.cell 1
    have y0 := (P2.out w7 b27.out).1.2.cell 0
    have y1 := (P2.out w7 b27.out).1.2.cell 1
    simp at x0 x1 y0 y1
    have HCL := Lib.hid hcl
    have HCR := Lib.hid hcr
    clear htk h2 eN eR hTV hrw hRt hga hgb hca hcb hlenT hcl hcr
    go_wp2_with fail
    refine AG.out.mono ?_
    rintro e w8 hres
    obtain ⟨A8, c8, B8, d8, rfl, o8, b8⟩ := TabRes.form hres
    rw [HRT.out] at o8 ⊢
    clear hres AG x0 x1 y0 y1
    obtain ⟨l8, hl8⟩ : ∃ x, (nb ++ na).length = x := ⟨_, rfl⟩
    rw [hl8] at o8 ⊢
    clear hl8 o8
    obtain ⟨w9, hw9⟩ : ∃ w9, w9 = w8.alloc (.cells #[.slice A8 l8 c8, .slice B8 nR d8] 26) := ⟨_, rfl⟩
    have b9 : Below w8.heap.size w8 w9 := by rw [hw9]; exact (Below.refl _ _).alloc (Nat.le_refl _) _
    have k9 : Blk w9 w8.heap.size 26 #[.slice A8 l8 c8, .slice B8 nR d8] := by rw [hw9]; exact Blk.new _ _ _
    have b79 := Lib.hid (b8.trans (b9.mono b8.size))
    have b29 := Lib.hid (b27.out.trans (b79.out.mono b27.out.size))
    have b49 := Lib.hid (b47.out.trans (b79.out.mono b47.out.size))
    have B9 := Lib.hid (B7.out.trans (b79.out.mono B7.out.size))
    have T9 := Lib.hid (fun (wr : World) (hb : Below w9.heap.size w9 wr) => k9.below hb k9.lt)
    have CC := Lib.hid (fun (y : ByteArray) (ci : Int) (h : ColIs N y ci) (wr : World) (hb : Below w9.heap.size w9 wr) => implCol_any true ci _ N R y RA RC wr (RV.out wr (B9.out.trans (hb.mono B9.out.size))).1 (RV.out wr (B9.out.trans (hb.mono B9.out.size))).2 (T4.out wr (b49.out.trans (hb.mono b49.out.size))).2 SN.out.ok HTV.out h)
    have IV := Lib.hid (fun (wr : World) (hb : Below w9.heap.size w9 wr) => implTab_any true _ N R RA RC wr (RV.out wr (B9.out.trans (hb.mono B9.out.size))).1 (RV.out wr (B9.out.trans (hb.mono B9.out.size))).2 (T4.out wr (b49.out.trans (hb.mono b49.out.size))).2 SN.out.ok HTV.out)
    have x0 := (T4.out w9 b49.out).1.cell 0
    have x1 := (T4.out w9 b49.out).1.cell 1
    simp at x0 x1
    have HW9 := Lib.hid hw9
    rw [hw9] at x0 x1
    clear k9 b8 b9
    go_wp2_with fail
    rw [← HW9.out]
    clear hw9 HW9 x0 x1
    refine (CC.out l _ HCL.out w9 (Below.refl _ _)).mono ?_
    rintro e wa ⟨rfl, ba⟩
    have x0 := (T4.out wa (b49.out.trans (ba.mono b49.out.size))).1.cell 0
    have x1 := (T4.out wa (b49.out.trans (ba.mono b49.out.size))).1.cell 1
    simp at x0 x1
    go_wp2_with fail
    clear x0 x1
    refine (CC.out r _ HCR.out wa ba).mono ?_
    rintro e wb ⟨rfl, bb0⟩
    have BB := Lib.hid (ba.trans (bb0.mono ba.size))
    clear bb0 ba CC
    go_wp2_with fail
    go_loopw [15] (fun i wr => ∃ k : Nat, k ≤ nR ∧ i = .int .i64 k ∧ Hid (Below w9.heap.size w9 wr)) (fun i _ => nR - (intOf i).toNat)
    case atStart => exact ⟨0, Nat.zero_le _, rfl, BB⟩
    case round =>
      obtain ⟨k, hk, rfl, hb⟩ := hrel
      obtain ⟨wi, rfl⟩ : ∃ x, x = wr := ⟨_, rfl⟩
      have T := T4.out wi (b49.out.trans (hb.out.mono b49.out.size))
      have t1 := T.1.cell 1
      simp at t1
      have hk0 : (0 : Int) ≤ (k : Int) := Int.natCast_nonneg _
      by_cases hlt : k < nR
      · have hk1 : (k : Int) < (nR : Int) := by omega
        obtain ⟨ad, row, Ak, ck, rfl, hadb, hrow, e1, g1, g2, g3, rr⟩ := T.2.rowsJ.at_ hlt
        have hmem := List.mem_of_getElem? hrow
        have hrl : row.length = nN := by rw [(tab_rows HTV.out row hmem).1, HNR.out.1]
        obtain ⟨v, hv1, hv2⟩ := HRW.out row hmem
        rw [HCA.out] at hv1
        rw [HLL.out.1.1, HCB.out] at hv2
        obtain ⟨rd, rfl, hrb, q1⟩ := in_cell (k := ca) (x := v) rr hv1 rfl
        obtain ⟨rd', erd, _, q2⟩ := in_cell (k := cb) (x := v) rr hv2 rfl
        obtain rfl := Option.some.inj erd
        rw [hrl] at e1
        have hc1 : (0 : Int) ≤ (ca : Int) := Int.natCast_nonneg _
        have hc2 : (ca : Int) < (nN : Int) := by omega
        have hc3 : (0 : Int) ≤ (cb : Int) := Int.natCast_nonneg _
        have hc4 : (cb : Int) < (nN : Int) := by omega
        have hd1 : decide ((ca : Int) < 0) = false := by simp
        have hd2 : decide ((cb : Int) < 0) = false := by simp
        have hd3 : decide ((nN : Int) ≤ (ca : Int)) = false := by simp; omega
        have hd4 : decide ((nN : Int) ≤ (cb : Int)) = false := by simp; omega
        have hvv : (v != v) = false := by simp
        clear hrow hmem hv1 hv2 rr erd hrb hadb T g1 g2 g3
        go_wp2_with fail
        go_quiet (fail)
        go_wp2_with fail
        go_roundw
        case rel => exact ⟨k + 1, by omega, by go_num, Lib.hid (below_drewN' hb.out _)⟩
        case measure => simp [intOf]; omega
      · have hkn : ¬ (k : Int) < (nR : Int) := by omega
        obtain rfl : k = nR := by omega
        have t0 := T.1.cell 0
        have PW := P2.out wi (b29.out.trans (hb.out.mono b29.out.size))
        have p1 := PW.1.1.cell 1
        have p2 := PW.1.2.cell 1
        have z1 := (T9.out wi hb.out).cell 1
        simp at t0 p1 p2 z1
        clear T PW
        go_wp2_with fail
        refine (IV.out wi hb.out).mono ?_
        rintro e wj ⟨rfl, bj⟩
        have q0 := below_keep bj t0
        have q1 := below_keep bj t1
        have q2 := below_keep bj p1
        have q3 := below_keep bj p2
        have q4 := below_keep bj z1
        clear t0 t1 p1 p2 z1
        have BJ := Lib.hid (B9.out.trans ((hb.out.trans (bj.mono hb.out.size)).mono B9.out.size))
        clear bj
        go_wp2_with fail
        go_ret
        exact ⟨rfl, BJ.out⟩
end Go.Proofs.YtijpdekcdejfmaaDoor
