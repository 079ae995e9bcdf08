/- spec.GroupRows. -/
import Derived.Test.YtijpdekcdejfmaaDoorGrpN
import Derived.Test.YtijpdekcdejfmaaDoorOwnT
import Derived.Deep.DeepCutAuto
import Derived.Deep.CutRange
namespace Go.Proofs.YtijpdekcdejfmaaDoor
open Go Go.RowKit
set_option maxRecDepth 100000
set_option maxHeartbeats 6400000 in
theorem specGroup_any (v : Value) (names : List ByteArray) (rows : List (List Int)) (g s : ByteArray) (ok : Bool) (N : List ByteArray) (R : List (List Int)) (hL : GrpIs names rows g s ok N R) (w : World) (ht : TabR w v names rows) (hs : Small names rows) :
    Calls Tryd.prog 19 #[v, .string g, .string s] w fun e w' => TabRes w ok N R e w' := by
  have HT := Lib.hid ht
  obtain ⟨A, c, B, d, rfl, _, _, _⟩ := ht
  obtain ⟨i0, hi0, hz0, hz1, hz2⟩ := info_parts infoStr
  obtain ⟨j0, hjI, hjz0, hjz1, hjz2⟩ := info_parts infoRow
  obtain ⟨z0, hzI, hzz0, hzz1, hzz2⟩ := info_parts infoInt
  obtain ⟨n, hnn⟩ : ∃ n, names.length = n := ⟨_, rfl⟩
  obtain ⟨m, hmm⟩ : ∃ m, rows.length = m := ⟨_, rfl⟩
  have hn1 := hs.n1
  have hm1 := hs.r1
  rw [hnn] at hn1
  rw [hmm] at hm1
  rw [hnn, hmm] at HT ⊢
  obtain ⟨w1, hw1⟩ : ∃ w1, w1 = (w.alloc (.cells #[.slice A n c, .slice B m d] 26)).alloc (.cells #[nilV, nilV] 26) := ⟨_, rfl⟩
  have b1 : Below w.heap.size w w1 := by rw [hw1]; exact ((Below.refl _ _).alloc (Nat.le_refl _) _).alloc (by simp) _
  have hs1 : w1.heap.size = w.heap.size + 1 + 1 := by rw [hw1]; simp
  have k1 : Blk w1 w.heap.size 26 #[.slice A n c, .slice B m d] := by rw [hw1]; exact (Blk.new _ _ _).alloc _
  have k2 : Blk w1 (w.heap.size + 1) 26 #[.slice none 0 0, .slice none 0 0] := by
    have := Blk.new (w.alloc (.cells #[.slice A n c, .slice B m d] 26)) 26 #[nilV, nilV]
    rw [World.size_alloc] at this
    rw [hw1]; exact this
  have c0 := k1.cell 0
  have c1 := k1.cell 1
  simp at c0 c1
  have OT := Lib.hid (l1OwnTable_any _ names rows w1 (HT.out.below b1) hs)
  obtain ⟨q, hq⟩ : ∃ q, tableB names rows = q := ⟨_, rfl⟩
  have ST := Lib.hid (fun (v : Value) (w' : World) (h : TabR w' v names rows) => specTab_any q v names rows w' h hs.ok hq)
  have HW := Lib.hid hw1
  have HNM := Lib.hid (And.intro hnn hmm)
  have HS := Lib.hid hs
  have K12 := Lib.hid (And.intro k1 k2)
  have B1 := Lib.hid b1
  have HL := Lib.hid hL
  have HU := Lib.hid hq
  clear hs HT hnn hmm hw1 hq k1 k2 b1 hL
  go_enter Tryd.func19, Tryd.ntmps19
  go_wp2_with fail
  rw [← HW.out]
  refine OT.out.mono ?_
  rintro e w2 ⟨A2, c2, B2, d2, rfl, o2, b2⟩
  rw [HNM.out.1, HNM.out.2] at o2 ⊢
  have B2' := B1.out.trans (b2.mono B1.out.size)
  have m1 := K12.out.1.below b2 K12.out.1.lt
  have m2 := K12.out.2.below b2 K12.out.2.lt
  have x0 := m1.cell 0
  have x1 := m1.cell 1
  have f0 := m1.frozen 0
  have f1 := m1.frozen 1
  simp at x0 x1
  obtain ⟨w3, hw3⟩ : ∃ w3, w3 = (w2.setCell ⟨w.heap.size, 0, none⟩ (.slice A2 n c2)).setCell ⟨w.heap.size, 1, none⟩ (.slice B2 m d2) := ⟨_, rfl⟩
  have t3 : Touch w.heap.size (w.heap.size + 1) w2 w3 := by rw [hw3]; exact ((Touch.refl _ _ _).setCell (p := ⟨w.heap.size, 0, none⟩) (Or.inl ⟨Nat.le_refl _, Nat.lt_succ_self _⟩) _).setCell (p := ⟨w.heap.size, 1, none⟩) (Or.inl ⟨Nat.le_refl _, Nat.lt_succ_self _⟩) _
  have B3 : Below w.heap.size w w3 := by rw [hw3]; exact (B2'.setCell (p := ⟨w.heap.size, 0, none⟩) (Nat.le_refl _) _).setCell (p := ⟨w.heap.size, 1, none⟩) (Nat.le_refl _) _
  have hs3 : w3.heap.size = w2.heap.size := by rw [hw3]; simp [World.setCell]
  have o3 := o2.touch t3 (by omega) hs3
  have k3 : Blk w3 w.heap.size 26 #[.slice A2 n c2, .slice B2 m d2] := by
    have := (m1.set_ 0 (.slice A2 n c2)).set_ 1 (.slice B2 m d2)
    rw [hw3]
    simpa using this
  have k4 := t3.blk m2 (Or.inr (Nat.le_refl _))
  have hw3n : w.heap.size + 1 + 1 ≤ w3.heap.size := by have := b2.size; omega
  have ST3 := Lib.hid (ST.out _ w3 o3.reads)
  have y0 := k3.cell 0
  have y1 := k3.cell 1
  have g0 := k4.cell 0
  have g1 := k4.cell 1
  have h0 := k4.frozen 0
  have h1 := k4.frozen 1
  simp at y0 y1 g0 g1
  have HW3 := Lib.hid hw3
  have OR3 := Lib.hid o3.reads.rowsR'
  rw [hw3] at y0 y1 g0 g1 h0 h1
  have K3 := Lib.hid (fun (wr : World) (hb : Below w3.heap.size w3 wr) => And.intro (k3.below hb k3.lt) (And.intro (k4.below hb k4.lt) (And.intro (o3.reads.below hb) (B3.trans (hb.mono B3.size)))))
  clear c0 c1 m1 m2 b2 o2 o3 k3 k4 t3 ST OT K12 B2'
  go_wp2_with fail
  rw [← HW3.out]
  clear hw3 HW3 x0 x1 f0 f1 y0 y1 g0 g1 h0 h1
  refine ST3.out.mono ?_
  rintro e w4 ⟨rfl, b4⟩
  have B34 := Lib.hid b4
  have hw4n : w.heap.size + 1 + 1 ≤ w4.heap.size := Nat.le_trans hw3n b4.size
  obtain ⟨k3, k4, o4, B4⟩ := K3.out w4 b4
  have g0 := k4.cell 0
  have g1 := k4.cell 1
  have h0 := k4.frozen 0
  have h1 := k4.frozen 1
  simp at g0 g1
  have RS := Lib.hid (res_store B4 k4 (Nat.le_succ _) (.slice none 0 0) (.slice none 0 0))
  clear k3 k4 o4 ST3 b4
  cases q
  · have HNO := HL.out.no (by unfold grpBase; rw [HU.out]; rfl)
    go_wp2_with fail
    obtain ⟨r0, r1, rb, _⟩ := RS.out
    obtain ⟨rfl, rfl, rfl⟩ := HNO
    clear RS
    generalize ((w4.setCell ⟨w.heap.size + 1, 0, none⟩ (.slice none 0 0)).setCell ⟨w.heap.size + 1, 1, none⟩ (.slice none 0 0)) = w6 at r0 r1 rb ⊢
    exact bodyPost_ret (v := .tuple #[.agg #[.slice none 0 0, .slice none 0 0], .bool false]) (by simp [results, Tryd.results19, go_sem, r0, r1]) rfl (TabO.nilRes rb)
  · obtain ⟨p1, hp1⟩ : ∃ p, hasW names g = p := ⟨_, rfl⟩
    obtain ⟨p2, hp2⟩ : ∃ p, hasW names s = p := ⟨_, rfl⟩
    have LG := Lib.hid (fun (z : Int) (hz : ColIs names g z) => l1Column_is z A2 n c2 names g w4 w4.heap.size HNM.out.1 (K3.out w4 B34.out).2.2.1.namesR.1 (by omega) hz)
    have LS := Lib.hid (fun (z : Int) (hz : ColIs names s z) => l1Column_is z A2 n c2 names s w4 w4.heap.size HNM.out.1 (K3.out w4 B34.out).2.2.1.namesR.1 (by omega) hz)
    have HP := Lib.hid (And.intro hp1 hp2)
    have KF := Lib.hid (K3.out w4 B34.out).1
    have y0 := KF.out.cell 0
    simp at y0
    clear hp1 hp2
    cases p1
    · have HNO := HL.out.no (by unfold grpBase; rw [HP.out.1]; simp)
      have LX := Lib.hid (LG.out (-1) (colN_no HP.out.1))
      go_wp2_with fail
      refine LX.out.mono ?_
      rintro e w' ⟨rfl, rfl⟩
      go_wp2_with fail
      obtain ⟨r0, r1, rb, _⟩ := RS.out
      obtain ⟨rfl, rfl, rfl⟩ := HNO
      clear RS
      generalize ((w4.setCell ⟨w.heap.size + 1, 0, none⟩ (.slice none 0 0)).setCell ⟨w.heap.size + 1, 1, none⟩ (.slice none 0 0)) = w6 at r0 r1 rb ⊢
      exact bodyPost_ret (v := .tuple #[.agg #[.slice none 0 0, .slice none 0 0], .bool false]) (by simp [results, Tryd.results19, go_sem, r0, r1]) rfl (TabO.nilRes rb)
    · obtain ⟨gi, hgi⟩ : ∃ c, colN names g = c := ⟨_, rfl⟩
      have hgi0 : ¬ (gi : Int) < 0 := Int.not_lt.2 (Int.natCast_nonneg _)
      have LXG := Lib.hid (LG.out (gi : Int) (by rw [← hgi]; exact colN_is HP.out.1))
      have HGI := Lib.hid hgi
      clear hgi LG
      cases p2
      · have HNO := HL.out.no (by unfold grpBase; rw [HP.out.2]; simp)
        have LX := Lib.hid (LS.out (-1) (colN_no HP.out.2))
        go_wp2_with fail
        refine LXG.out.mono ?_
        rintro e w' ⟨rfl, rfl⟩
        go_wp2_with fail
        refine LX.out.mono ?_
        rintro e w' ⟨rfl, rfl⟩
        go_wp2_with fail
        obtain ⟨r0, r1, rb, _⟩ := RS.out
        obtain ⟨rfl, rfl, rfl⟩ := HNO
        clear RS
        generalize ((w4.setCell ⟨w.heap.size + 1, 0, none⟩ (.slice none 0 0)).setCell ⟨w.heap.size + 1, 1, none⟩ (.slice none 0 0)) = w6 at r0 r1 rb ⊢
        exact bodyPost_ret (v := .tuple #[.agg #[.slice none 0 0, .slice none 0 0], .bool false]) (by simp [results, Tryd.results19, go_sem, r0, r1]) rfl (TabO.nilRes rb)
      · obtain ⟨si, hsi⟩ : ∃ c, colN names s = c := ⟨_, rfl⟩
        have hsi0 : ¬ (si : Int) < 0 := Int.not_lt.2 (Int.natCast_nonneg _)
        have LXS := Lib.hid (LS.out (si : Int) (by rw [← hsi]; exact colN_is HP.out.2))
        have HSI := Lib.hid hsi
        have HBASE := Lib.hid (show grpBase names rows g s = true by unfold grpBase; rw [HU.out, HP.out.1, HP.out.2]; rfl)
        clear hsi LS RS g0 g1 h0 h1
        go_wp2_with fail
        refine LXG.out.mono ?_
        rintro e w' ⟨rfl, rfl⟩
        go_wp2_with fail
        refine LXS.out.mono ?_
        rintro e w' ⟨rfl, rfl⟩
        go_wp2_with fail
        refine LXG.out.mono ?_
        rintro e w' ⟨rfl, rfl⟩
        go_wp2_with fail
        refine LXS.out.mono ?_
        rintro e w' ⟨rfl, rfl⟩
        have O5 := own_lit2 w4 w4.heap.size 9 (stCells [g, countB, totalB]) (Nat.le_refl _) (by unfold maxLen; simp [stCells])
        have b45 : Below w4.heap.size w4 (w4.alloc (.cells (stCells [g, countB, totalB]).toArray 9)) := (Below.refl _ _).alloc (Nat.le_refl _) _
        obtain ⟨w5, hw5⟩ : ∃ x, x = w4.alloc (.cells (stCells [g, countB, totalB]).toArray 9) := ⟨_, rfl⟩
        have START : Hid (HalfZ w5 ((w4.alloc (.cells (stCells [g, countB, totalB]).toArray 9)).alloc (.cells #[.slice (some ⟨w4.heap.size, 0, none⟩) 3 3, .slice none 0 0] 26)) w4.heap.size (w4.heap.size + 1) (w4.heap.size + 1 + 1) 26 #[.slice (some ⟨w4.heap.size, 0, none⟩) 3 3, .slice none 0 0] (.slice (some ⟨w4.heap.size, 0, none⟩) 3 3) (.slice none 0 0) [g, countB, totalB] [] []) := Lib.hid (by
          have h := halfZ_at (lo := w4.heap.size) O5 (show [g, countB, totalB].length = 3 from rfl)
          rw [World.size_alloc] at h
          rw [hw5]
          exact h)
        have b35 := Lib.hid (show Below w3.heap.size w3 w5 by rw [hw5]; exact B34.out.trans (b45.mono B34.out.size))
        have H45 := Lib.hid (show w5.heap.size = w4.heap.size + 1 by rw [hw5]; simp)
        clear hw5 b45
        clear O5 y0
        have HPP : ∀ p ∈ grpP names rows g s, ∃ a b : Int, p = [a, b] ∧ -100000 ≤ b ∧ b ≤ 100000 ∧ -100000 ≤ a ∧ a ≤ 100000 := fun p hp => grp_pair HBASE.out hp
        have HVB : ∀ p ∈ grpP names rows g s, -100000 ≤ valOf p ∧ valOf p ≤ 100000 := fun p hp => by
          obtain ⟨a, b, rfl, h1, h2, _⟩ := HPP p hp
          exact ⟨h1, h2⟩
        have HF := Lib.hid (And.intro HPP HVB)
        have hm16 := (table_bd HU.out).2.2.1
        rw [HNM.out.2] at hm16
        clear HPP HVB
        go_wp2_with fail
        go_loopw [11, 12, 13] (fun kv _ _ wr => ∃ (k : Nat) (vs : List Value) (ov : Value) (G : List (List Int)), k ≤ m ∧ kv = .int .i64 k ∧ Hid (HalfZ w5 wr w4.heap.size (w4.heap.size + 1) (w4.heap.size + 1 + 1) 26 #[.slice (some ⟨w4.heap.size, 0, none⟩) 3 3, ov] (.slice (some ⟨w4.heap.size, 0, none⟩) 3 3) ov [g, countB, totalB] vs G) ∧ Hid (GroupR ((grpP names rows g s).take k) G)) (fun kv _ _ _ => m - (intOf kv).toNat)
        case atStart => exact ⟨0, [], _, [], Nat.zero_le _, rfl, START, by rw [List.take_zero]; exact Lib.hid GroupR.nil⟩
        case round =>
          clear START
          obtain ⟨k, vs, ov, G, hk, rfl, hh, hG⟩ := hrel
          obtain ⟨wo, rfl⟩ : ∃ x, x = wr := ⟨_, rfl⟩
          have hk0 : (0 : Int) ≤ (k : Int) := Int.natCast_nonneg _
          obtain ⟨q, hq⟩ : ∃ q, G.length = q := ⟨_, rfl⟩
          obtain ⟨A9, c9, e9, hqc, hc9, hqn⟩ := hh.out.rows.form
          rw [hq] at e9 hqc hqn
          subst e9
          have hq16 : q ≤ 16 := by have := hG.out.len; rw [List.length_take] at this; omega
          have KO := Lib.hid (K3.out wo (b35.out.trans (hh.out.below.mono b35.out.size)))
          have y1 := KO.out.1.cell 1
          simp at y1
          by_cases hlt : k < m
          · have hk1 : (k : Int) < (m : Int) := by omega
            obtain ⟨ad, row, Ak, ck, rfl, hadb, hrow, e1, g1, g2, g3, rr⟩ := OR3.out.at_ hlt
            have hrl : row.length = n := by rw [rows_len HU.out (List.mem_of_getElem? hrow), HNM.out.1]
            rw [hrl] at e1 g1
            have hgl := colN_lt HP.out.1
            have hsl := colN_lt HP.out.2
            rw [HGI.out, HNM.out.1, ← hrl] at hgl
            rw [HSI.out, HNM.out.1, ← hrl] at hsl
            obtain ⟨a, ha⟩ : ∃ x, row[gi]? = some x := ⟨_, List.getElem?_eq_getElem hgl⟩
            obtain ⟨b, hb⟩ : ∃ x, row[si]? = some x := ⟨_, List.getElem?_eq_getElem hsl⟩
            obtain ⟨rd, rfl, hrb, q1⟩ := in_cell (k := gi) (x := a) rr ha rfl
            obtain ⟨rd', erd, _, q2⟩ := in_cell (k := si) (x := b) rr hb rfl
            obtain rfl := Option.some.inj erd
            have HPK := Lib.hid (show (grpP names rows g s)[k]? = some [a, b] by
              unfold grpP
              rw [List.getElem?_map, hrow]
              show some (projRow names [g, s] row) = _
              rw [pair_is, HGI.out, HSI.out, List.getD_eq_getElem?_getD, List.getD_eq_getElem?_getD, ha, hb]
              rfl)
            obtain ⟨a', b', eab, hb1, hb2, ha1, ha2⟩ := HF.out.1 [a, b] (List.mem_of_getElem? HPK.out)
            simp only [List.cons.injEq, and_true] at eab
            obtain ⟨rfl, rfl⟩ := eab
            have RDK := Lib.hid (fun (W : World) (h : Below w3.heap.size w3 W) => show W.cell? ⟨w.heap.size, 1, none⟩ = some (.slice (some ad) m d2) ∧ W.cell? (ad.add k) = some (.slice (some rd) n ck) ∧ W.cell? (rd.add gi) = some (.int .i64 a) ∧ W.cell? (rd.add si) = some (.int .i64 b) from
              ⟨by have h1 := (K3.out W h).1.cell 1; simp at h1; exact h1, below_keep h e1, below_keep h q1, below_keep h q2⟩)
            have hgi1 : (0 : Int) ≤ (gi : Int) := Int.natCast_nonneg _
            have hgi2 : (gi : Int) < (n : Int) := by omega
            have hgi3 : gi < n := by omega
            have hsi1 : (0 : Int) ≤ (si : Int) := Int.natCast_nonneg _
            have hsi2 : (si : Int) < (n : Int) := by omega
            have hsi3 : si < n := by omega
            clear hrow ha hb e1 g3 rr q1 q2 erd hgl hsl
            go_wp2_with fail
            clear y1
            go_loopw [12] (fun av wi => ∃ i : Nat, i ≤ q ∧ av = .int .i64 i ∧ Hid (∀ (j : Nat) (r : List Int), j < i → G[j]? = some r → keyOf r < a) ∧ Hid (HalfZ w5 wi w4.heap.size (w4.heap.size + 1) (w4.heap.size + 1 + 1) 26 #[.slice (some ⟨w4.heap.size, 0, none⟩) 3 3, .slice A9 q c9] (.slice (some ⟨w4.heap.size, 0, none⟩) 3 3) (.slice A9 q c9) [g, countB, totalB] vs G)) (fun av _ => q - (intOf av).toNat)
            case atStart => exact ⟨0, Nat.zero_le _, rfl, fun j r h => by omega, hh⟩
            case round =>
              clear hh KO
              obtain ⟨i, hiq, rfl, hlo, hh⟩ := hrel
              obtain ⟨wi, rfl⟩ : ∃ x, x = wr := ⟨_, rfl⟩
              have hi0 : (0 : Int) ≤ (i : Int) := Int.natCast_nonneg _
              have x3 := hh.out.blk.cell 1
              simp at x3
              obtain ⟨s0, s1, s2, s3⟩ := RDK.out wi (b35.out.trans (hh.out.below.mono b35.out.size))
              by_cases hlt2 : i < q
              · have hi1 : (i : Int) < (q : Int) := by omega
                obtain ⟨r, hr⟩ : ∃ r, G[i]? = some r := ⟨_, List.getElem?_eq_getElem (by omega)⟩
                obtain ⟨x, c0, t0, rfl, hc1, hc2, ht1, ht2⟩ := hG.out.row3 (by omega) HF.out.2 hr
                obtain ⟨gR, gb, cb, eA, hu, f0, f1, f2, f3, f4, f5, hz1, hz2, hne, hl1, hl2⟩ := hh.out.at3 hq hr
                subst eA
                by_cases hxa : x < a
                · go_wp2_with fail
                  go_quiet (fail)
                  go_wp2_with fail
                  have HH := Lib.hid (hh.out.go (below_drewN' (Below.refl _ _) nq))
                  have HLO := Lib.hid (show ∀ (j : Nat) (r : List Int), j < i + 1 → G[j]? = some r → keyOf r < a from fun j r hj hjr => by
                    rcases Nat.lt_succ_iff_lt_or_eq.1 hj with h | rfl
                    · exact hlo.out j r h hjr
                    · obtain rfl := Option.some.inj (hr.symm.trans hjr)
                      exact hxa)
                  go_roundw
                  case rel => exact ⟨i + 1, by omega, by go_num, HLO, HH⟩
                  case measure => simp [intOf]; omega
                · by_cases hx : x = a
                  · subst hx
                    have HGT := Lib.hid (hG.out.at_hit HPK.out hr)
                    have HR := Lib.hid hr
                    have hib : ((i : Int) == (q : Int)) = false := by simp; omega
                    clear hr
                    go_wp2_with fail
                    go_quiet (fail)
                    go_wp2_with fail
                    clear f0 f1 f2 f3 f4 f5 hz1 hz2 hne hl1 hl2 s0 s1 s2 s3 hu
                    have HH := Lib.hid (hh.out.go (below_drewN' (Below.refl wi.heap.size wi) nq))
                    clear x3
                    generalize wi.drewN nq = wq at HH ⊢
                    have x3 := HH.out.blk.cell 1
                    simp at x3
                    obtain ⟨s0, s1, s2, s3⟩ := RDK.out wq (b35.out.trans (HH.out.below.mono b35.out.size))
                    obtain ⟨gR, gb, cb, eA, hu, f0, f1, f2, f3, f4, f5, hz1, hz2, hne, hl1, hl2⟩ := HH.out.at3 hq HR.out
                    (first | subst eA | (simp only [Option.some.injEq, Addr.mk.injEq, and_true] at eA; subst eA))
                    go_quiet (fail)
                    go_wp2_with fail
                    clear f0 f1 f2 f3 f4 f5 hz1 hz2 hne hl1 hl2 s0 s1 s2 s3 hu
                    have HH2 := Lib.hid (HH.out.go (below_drewN' (Below.refl wq.heap.size wq) nq))
                    clear x3
                    generalize wq.drewN nq = wp at HH2 ⊢
                    obtain ⟨gR, gb, cb, eA, hu, f0, f1, f2, f3, f4, f5, hz1, hz2, hne, hl1, hl2⟩ := HH2.out.at3 hq HR.out
                    (first | subst eA | (simp only [Option.some.injEq, Addr.mk.injEq, and_true] at eA; subst eA))
                    have x3 := HH2.out.blk.cell 1
                    simp at x3
                    go_wp2_with fail
                    have H0 := Lib.hid HH2.out.drew
                    have H1 := Lib.hid (H0.out.put (j := 1) hu HR.out (c0 + 1))
                    have hwc : IntKind.i64.wrap (c0 + 1) = c0 + 1 := IntWalk.i64_in _ (by omega)
                    have HS : wp.drew.cell? ⟨w4.heap.size + 1, 1, none⟩ = some (.slice (some ⟨gR, 0, none⟩) q c9) ∧ wp.drew.cell? ⟨gR, i, none⟩ = some (.slice (some ⟨gb, 0, none⟩) 3 cb) ∧ wp.drew.cell? ⟨gb, 1, none⟩ = some (.int .i64 c0) := ⟨x3, f0, f2⟩
                    refine wp_region_noPanic ?_
                    refine wp_region_K (by kernel_rfl) (fun w' => w'.cell? ⟨w4.heap.size + 1, 1, none⟩ = some (.slice (some ⟨gR, 0, none⟩) q c9) ∧ w'.cell? ⟨gR, i, none⟩ = some (.slice (some ⟨gb, 0, none⟩) 3 cb) ∧ w'.cell? ⟨gb, 1, none⟩ = some (.int .i64 c0)) 14 ?_
                    refine atK_take (i := 0) rfl (by kernel_rfl) (by kernel_rfl) (by kernel_rfl) (by kernel_rfl) (fun _ _ _ h => h) (by rfl) (by intro w hSw; (try dsimp only at hSw); go_split_ands; first | (go_simp; done) | (go_simp; with_reducible rfl)) HS ?_
                    simp only [List.getElem_toArray, List.getElem_cons_zero, List.getElem_cons_succ, Act.put, List.setIfInBounds_toArray, List.set_cons_zero, List.set_cons_succ]
                    refine atK_take (i := 1) rfl (by kernel_rfl) (by kernel_rfl) (by kernel_rfl) (by kernel_rfl) (fun _ _ _ h => h) (by rfl) (by intro w hSw; (try dsimp only at hSw); go_split_ands; first | (go_simp; done) | (go_simp; with_reducible rfl)) HS ?_
                    simp only [List.getElem_toArray, List.getElem_cons_zero, List.getElem_cons_succ, Act.put, List.setIfInBounds_toArray, List.set_cons_zero, List.set_cons_succ]
                    refine atK_take (i := 2) rfl (by kernel_rfl) (by kernel_rfl) (by kernel_rfl) (by kernel_rfl) (fun _ _ _ h => h) (by rfl) (by intro w hSw; (try dsimp only at hSw); go_split_ands; first | (go_simp; done) | (go_simp; with_reducible rfl)) HS ?_
                    simp only [List.getElem_toArray, List.getElem_cons_zero, List.getElem_cons_succ, Act.put, List.setIfInBounds_toArray, List.set_cons_zero, List.set_cons_succ]
                    refine atK_take (i := 3) rfl (by kernel_rfl) (by kernel_rfl) (by kernel_rfl) (by kernel_rfl) (fun _ _ _ h => h) (by rfl) (by intro w hSw; (try dsimp only at hSw); go_split_ands; first | (go_simp; done) | (go_simp; with_reducible rfl)) HS ?_
                    simp only [List.getElem_toArray, List.getElem_cons_zero, List.getElem_cons_succ, Act.put, List.setIfInBounds_toArray, List.set_cons_zero, List.set_cons_succ]
                    refine atK_take (i := 4) rfl (by kernel_rfl) (by kernel_rfl) (by kernel_rfl) (by kernel_rfl) (fun _ _ _ h => h) (by rfl) (by intro w hSw; (try dsimp only at hSw); go_split_ands; first | (go_simp; done) | (go_simp; with_reducible rfl)) HS ?_
                    simp only [List.getElem_toArray, List.getElem_cons_zero, List.getElem_cons_succ, Act.put, List.setIfInBounds_toArray, List.set_cons_zero, List.set_cons_succ]
                    refine atK_take (i := 5) rfl (by kernel_rfl) (by kernel_rfl) (by kernel_rfl) (by kernel_rfl) (fun _ _ _ h => h) (by rfl) (by intro w hSw; (try dsimp only at hSw); go_split_ands; first | (go_simp; done) | (go_simp; with_reducible rfl)) HS ?_
                    simp only [List.getElem_toArray, List.getElem_cons_zero, List.getElem_cons_succ, Act.put, List.setIfInBounds_toArray, List.set_cons_zero, List.set_cons_succ]
                    refine atK_take (i := 6) rfl (by kernel_rfl) (by kernel_rfl) (by kernel_rfl) (by kernel_rfl) (fun _ _ _ h => h) (by rfl) (by intro w hSw; (try dsimp only at hSw); go_split_ands; first | (go_simp; done) | (go_simp; with_reducible rfl)) HS ?_
                    simp only [List.getElem_toArray, List.getElem_cons_zero, List.getElem_cons_succ, Act.put, List.setIfInBounds_toArray, List.set_cons_zero, List.set_cons_succ]
                    refine atK_take (i := 7) rfl (by kernel_rfl) (by kernel_rfl) (by kernel_rfl) (by kernel_rfl) (fun _ _ _ h => h) (by rfl) (by intro w hSw; (try dsimp only at hSw); go_split_ands; first | (go_simp; done) | (go_simp; with_reducible rfl)) HS ?_
                    simp only [List.getElem_toArray, List.getElem_cons_zero, List.getElem_cons_succ, Act.put, List.setIfInBounds_toArray, List.set_cons_zero, List.set_cons_succ]
                    refine atK_take (i := 8) rfl (by kernel_rfl) (by kernel_rfl) (by kernel_rfl) (by kernel_rfl) (fun _ _ _ h => h) (by rfl) (by intro w hSw; (try dsimp only at hSw); go_split_ands; first | (go_simp; done) | (go_simp; with_reducible rfl)) HS ?_
                    simp only [List.getElem_toArray, List.getElem_cons_zero, List.getElem_cons_succ, Act.put, List.setIfInBounds_toArray, List.set_cons_zero, List.set_cons_succ]
                    refine atK_take (i := 9) rfl (by kernel_rfl) (by kernel_rfl) (by kernel_rfl) (by kernel_rfl) (fun _ _ _ h => h) (by rfl) (by intro w hSw; (try dsimp only at hSw); go_split_ands; first | (go_simp; done) | (go_simp; with_reducible rfl)) HS ?_
                    simp only [List.getElem_toArray, List.getElem_cons_zero, List.getElem_cons_succ, Act.put, List.setIfInBounds_toArray, List.set_cons_zero, List.set_cons_succ]
                    refine atK_take (i := 10) rfl (by kernel_rfl) (by kernel_rfl) (by kernel_rfl) (by kernel_rfl) (fun _ _ _ h => h) (by rfl) (by intro w hSw; (try dsimp only at hSw); go_split_ands; first | (go_simp; done) | (go_simp; with_reducible rfl)) HS ?_
                    simp only [List.getElem_toArray, List.getElem_cons_zero, List.getElem_cons_succ, Act.put, List.setIfInBounds_toArray, List.set_cons_zero, List.set_cons_succ]
                    refine atK_take (i := 11) rfl (by kernel_rfl) (by kernel_rfl) (by kernel_rfl) (by kernel_rfl) (fun _ _ _ h => h) (by rfl) (by intro w hSw; (try dsimp only at hSw); go_split_ands; first | (go_simp; done) | (go_simp; with_reducible rfl)) HS ?_
                    simp only [List.getElem_toArray, List.getElem_cons_zero, List.getElem_cons_succ, Act.put, List.setIfInBounds_toArray, List.set_cons_zero, List.set_cons_succ]
                    refine atK_take (i := 12) rfl (by kernel_rfl) (by kernel_rfl) (by kernel_rfl) (by kernel_rfl) (fun _ _ _ h => h) (by rfl) (by intro w hSw; (try dsimp only at hSw); go_split_ands; first | (go_simp; done) | (go_simp; with_reducible rfl)) HS ?_
                    simp only [List.getElem_toArray, List.getElem_cons_zero, List.getElem_cons_succ, Act.put, List.setIfInBounds_toArray, List.set_cons_zero, List.set_cons_succ]
                    refine atK_take (i := 13) rfl (by kernel_rfl) (by kernel_rfl) (by kernel_rfl) (by kernel_rfl) (fun _ _ _ h => h) (by rfl) (by intro w hSw; (try dsimp only at hSw); go_split_ands; first | (go_simp; done) | (go_simp; with_reducible rfl)) HS ?_
                    simp only [List.getElem_toArray, List.getElem_cons_zero, List.getElem_cons_succ, Act.put, List.setIfInBounds_toArray, List.set_cons_zero, List.set_cons_succ]
                    refine atK_one (i := 14) (by kernel_rfl) rfl (fun K' hK => ?_)
                    rw [if_pos (by rfl)]
                    go_simp
                    refine hK.out _ _ (fun h => absurd rfl h) ?_
                    clear hK K'
                    try simp only [List.getElem_toArray, List.getElem_cons_zero, List.getElem_cons_succ, Act.put, List.setIfInBounds_toArray, List.set_cons_zero, List.set_cons_succ]
                    refine atK_done (by kernel_rfl) ?_ _
                    refine NoPanic.normal ?_
                    have hr1 : (G.set i [x, c0 + 1, t0])[i]? = some [x, c0 + 1, t0] := List.getElem?_set_self (by rw [hq]; omega)
                    have H1' : Hid (HalfZ w5 (wp.setCell ⟨gb, 1, none⟩ (.int .i64 (c0 + 1))).drew w4.heap.size (w4.heap.size + 1) (w4.heap.size + 1 + 1) 26 _ (.slice (some ⟨w4.heap.size, 0, none⟩) 3 3) _ [g, countB, totalB] vs (G.set i [x, c0 + 1, t0])) := Lib.hid H1.out
                    have hl1s : (G.set i [x, c0 + 1, t0]).length = q := by rw [List.length_set]; exact hq
                    clear x3 f0 f1 f2 f3 f4 f5 hne hl1 hl2 hz1 hz2 H1 H0 hwc HS
                    generalize (wp.setCell ⟨gb, 1, none⟩ (.int .i64 (c0 + 1))).drew = w10 at H1' ⊢
                    go_wp2_with fail
                    have H1d := Lib.hid H1'.out.drew
                    obtain ⟨gR', gb', cb', eA, hu1, f0, f1, f2, f3, f4, f5, hz1, hz2, hne, hl1, hl2⟩ := H1d.out.at3 hl1s hr1
                    simp only [Option.some.injEq, Addr.mk.injEq, and_true] at eA
                    obtain rfl := eA
                    have x3 := H1d.out.blk.cell 1
                    simp at x3
                    obtain ⟨s0, s1, s2, s3⟩ := RDK.out w10.drew (b35.out.trans (H1d.out.below.mono b35.out.size))
                    have hwc : IntKind.i64.wrap (t0 + b) = t0 + b := IntWalk.i64_in _ (by omega)
                    have H2 := Lib.hid (H1d.out.put (j := 2) hu1 hr1 (t0 + b))
                    have HS : w10.drew.cell? ⟨w4.heap.size + 1, 1, none⟩ = some (.slice (some ⟨gR, 0, none⟩) q c9) ∧ w10.drew.cell? ⟨gR, i, none⟩ = some (.slice (some ⟨gb', 0, none⟩) 3 cb') ∧ w10.drew.cell? ⟨gb', 2, none⟩ = some (.int .i64 t0) ∧ w10.drew.cell? ⟨w.heap.size, 1, none⟩ = some (.slice (some ad) m d2) ∧ w10.drew.cell? (ad.add k) = some (.slice (some rd) n ck) ∧ w10.drew.cell? (rd.add si) = some (.int .i64 b) := ⟨x3, f0, f3, s0, s1, s3⟩
                    refine wp_region_noPanic ?_
                    refine wp_region_K (by kernel_rfl) (fun w' => w'.cell? ⟨w4.heap.size + 1, 1, none⟩ = some (.slice (some ⟨gR, 0, none⟩) q c9) ∧ w'.cell? ⟨gR, i, none⟩ = some (.slice (some ⟨gb', 0, none⟩) 3 cb') ∧ w'.cell? ⟨gb', 2, none⟩ = some (.int .i64 t0) ∧ w'.cell? ⟨w.heap.size, 1, none⟩ = some (.slice (some ad) m d2) ∧ w'.cell? (ad.add k) = some (.slice (some rd) n ck) ∧ w'.cell? (rd.add si) = some (.int .i64 b)) 22 ?_
                    refine atK_take (i := 0) rfl (by kernel_rfl) (by kernel_rfl) (by kernel_rfl) (by kernel_rfl) (fun _ _ _ h => h) (by rfl) (by intro w hSw; (try dsimp only at hSw); go_split_ands; first | (go_simp; done) | (go_simp; with_reducible rfl)) HS ?_
                    simp only [List.getElem_toArray, List.getElem_cons_zero, List.getElem_cons_succ, Act.put, List.setIfInBounds_toArray, List.set_cons_zero, List.set_cons_succ]
                    refine atK_take (i := 1) rfl (by kernel_rfl) (by kernel_rfl) (by kernel_rfl) (by kernel_rfl) (fun _ _ _ h => h) (by rfl) (by intro w hSw; (try dsimp only at hSw); go_split_ands; first | (go_simp; done) | (go_simp; with_reducible rfl)) HS ?_
                    simp only [List.getElem_toArray, List.getElem_cons_zero, List.getElem_cons_succ, Act.put, List.setIfInBounds_toArray, List.set_cons_zero, List.set_cons_succ]
                    refine atK_take (i := 2) rfl (by kernel_rfl) (by kernel_rfl) (by kernel_rfl) (by kernel_rfl) (fun _ _ _ h => h) (by rfl) (by intro w hSw; (try dsimp only at hSw); go_split_ands; first | (go_simp; done) | (go_simp; with_reducible rfl)) HS ?_
                    simp only [List.getElem_toArray, List.getElem_cons_zero, List.getElem_cons_succ, Act.put, List.setIfInBounds_toArray, List.set_cons_zero, List.set_cons_succ]
                    refine atK_take (i := 3) rfl (by kernel_rfl) (by kernel_rfl) (by kernel_rfl) (by kernel_rfl) (fun _ _ _ h => h) (by rfl) (by intro w hSw; (try dsimp only at hSw); go_split_ands; first | (go_simp; done) | (go_simp; with_reducible rfl)) HS ?_
                    simp only [List.getElem_toArray, List.getElem_cons_zero, List.getElem_cons_succ, Act.put, List.setIfInBounds_toArray, List.set_cons_zero, List.set_cons_succ]
                    refine atK_take (i := 4) rfl (by kernel_rfl) (by kernel_rfl) (by kernel_rfl) (by kernel_rfl) (fun _ _ _ h => h) (by rfl) (by intro w hSw; (try dsimp only at hSw); go_split_ands; first | (go_simp; done) | (go_simp; with_reducible rfl)) HS ?_
                    simp only [List.getElem_toArray, List.getElem_cons_zero, List.getElem_cons_succ, Act.put, List.setIfInBounds_toArray, List.set_cons_zero, List.set_cons_succ]
                    refine atK_take (i := 5) rfl (by kernel_rfl) (by kernel_rfl) (by kernel_rfl) (by kernel_rfl) (fun _ _ _ h => h) (by rfl) (by intro w hSw; (try dsimp only at hSw); go_split_ands; first | (go_simp; done) | (go_simp; with_reducible rfl)) HS ?_
                    simp only [List.getElem_toArray, List.getElem_cons_zero, List.getElem_cons_succ, Act.put, List.setIfInBounds_toArray, List.set_cons_zero, List.set_cons_succ]
                    refine atK_take (i := 6) rfl (by kernel_rfl) (by kernel_rfl) (by kernel_rfl) (by kernel_rfl) (fun _ _ _ h => h) (by rfl) (by intro w hSw; (try dsimp only at hSw); go_split_ands; first | (go_simp; done) | (go_simp; with_reducible rfl)) HS ?_
                    simp only [List.getElem_toArray, List.getElem_cons_zero, List.getElem_cons_succ, Act.put, List.setIfInBounds_toArray, List.set_cons_zero, List.set_cons_succ]
                    refine atK_take (i := 7) rfl (by kernel_rfl) (by kernel_rfl) (by kernel_rfl) (by kernel_rfl) (fun _ _ _ h => h) (by rfl) (by intro w hSw; (try dsimp only at hSw); go_split_ands; first | (go_simp; done) | (go_simp; with_reducible rfl)) HS ?_
                    simp only [List.getElem_toArray, List.getElem_cons_zero, List.getElem_cons_succ, Act.put, List.setIfInBounds_toArray, List.set_cons_zero, List.set_cons_succ]
                    refine atK_take (i := 8) rfl (by kernel_rfl) (by kernel_rfl) (by kernel_rfl) (by kernel_rfl) (fun _ _ _ h => h) (by rfl) (by intro w hSw; (try dsimp only at hSw); go_split_ands; first | (go_simp; done) | (go_simp; with_reducible rfl)) HS ?_
                    simp only [List.getElem_toArray, List.getElem_cons_zero, List.getElem_cons_succ, Act.put, List.setIfInBounds_toArray, List.set_cons_zero, List.set_cons_succ]
                    refine atK_take (i := 9) rfl (by kernel_rfl) (by kernel_rfl) (by kernel_rfl) (by kernel_rfl) (fun _ _ _ h => h) (by rfl) (by intro w hSw; (try dsimp only at hSw); go_split_ands; first | (go_simp; done) | (go_simp; with_reducible rfl)) HS ?_
                    simp only [List.getElem_toArray, List.getElem_cons_zero, List.getElem_cons_succ, Act.put, List.setIfInBounds_toArray, List.set_cons_zero, List.set_cons_succ]
                    refine atK_take (i := 10) rfl (by kernel_rfl) (by kernel_rfl) (by kernel_rfl) (by kernel_rfl) (fun _ _ _ h => h) (by rfl) (by intro w hSw; (try dsimp only at hSw); go_split_ands; first | (go_simp; done) | (go_simp; with_reducible rfl)) HS ?_
                    simp only [List.getElem_toArray, List.getElem_cons_zero, List.getElem_cons_succ, Act.put, List.setIfInBounds_toArray, List.set_cons_zero, List.set_cons_succ]
                    refine atK_take (i := 11) rfl (by kernel_rfl) (by kernel_rfl) (by kernel_rfl) (by kernel_rfl) (fun _ _ _ h => h) (by rfl) (by intro w hSw; (try dsimp only at hSw); go_split_ands; first | (go_simp; done) | (go_simp; with_reducible rfl)) HS ?_
                    simp only [List.getElem_toArray, List.getElem_cons_zero, List.getElem_cons_succ, Act.put, List.setIfInBounds_toArray, List.set_cons_zero, List.set_cons_succ]
                    refine atK_take (i := 12) rfl (by kernel_rfl) (by kernel_rfl) (by kernel_rfl) (by kernel_rfl) (fun _ _ _ h => h) (by rfl) (by intro w hSw; (try dsimp only at hSw); go_split_ands; first | (go_simp; done) | (go_simp; with_reducible rfl)) HS ?_
                    simp only [List.getElem_toArray, List.getElem_cons_zero, List.getElem_cons_succ, Act.put, List.setIfInBounds_toArray, List.set_cons_zero, List.set_cons_succ]
                    refine atK_take (i := 13) rfl (by kernel_rfl) (by kernel_rfl) (by kernel_rfl) (by kernel_rfl) (fun _ _ _ h => h) (by rfl) (by intro w hSw; (try dsimp only at hSw); go_split_ands; first | (go_simp; done) | (go_simp; with_reducible rfl)) HS ?_
                    simp only [List.getElem_toArray, List.getElem_cons_zero, List.getElem_cons_succ, Act.put, List.setIfInBounds_toArray, List.set_cons_zero, List.set_cons_succ]
                    refine atK_take (i := 14) rfl (by kernel_rfl) (by kernel_rfl) (by kernel_rfl) (by kernel_rfl) (fun _ _ _ h => h) (by rfl) (by intro w hSw; (try dsimp only at hSw); go_split_ands; first | (go_simp; done) | (go_simp; with_reducible rfl)) HS ?_
                    simp only [List.getElem_toArray, List.getElem_cons_zero, List.getElem_cons_succ, Act.put, List.setIfInBounds_toArray, List.set_cons_zero, List.set_cons_succ]
                    refine atK_take (i := 15) rfl (by kernel_rfl) (by kernel_rfl) (by kernel_rfl) (by kernel_rfl) (fun _ _ _ h => h) (by rfl) (by intro w hSw; (try dsimp only at hSw); go_split_ands; first | (go_simp; done) | (go_simp; with_reducible rfl)) HS ?_
                    simp only [List.getElem_toArray, List.getElem_cons_zero, List.getElem_cons_succ, Act.put, List.setIfInBounds_toArray, List.set_cons_zero, List.set_cons_succ]
                    refine atK_take (i := 16) rfl (by kernel_rfl) (by kernel_rfl) (by kernel_rfl) (by kernel_rfl) (fun _ _ _ h => h) (by rfl) (by intro w hSw; (try dsimp only at hSw); go_split_ands; first | (go_simp; done) | (go_simp; with_reducible rfl)) HS ?_
                    simp only [List.getElem_toArray, List.getElem_cons_zero, List.getElem_cons_succ, Act.put, List.setIfInBounds_toArray, List.set_cons_zero, List.set_cons_succ]
                    refine atK_take (i := 17) rfl (by kernel_rfl) (by kernel_rfl) (by kernel_rfl) (by kernel_rfl) (fun _ _ _ h => h) (by rfl) (by intro w hSw; (try dsimp only at hSw); go_split_ands; first | (go_simp; done) | (go_simp; with_reducible rfl)) HS ?_
                    simp only [List.getElem_toArray, List.getElem_cons_zero, List.getElem_cons_succ, Act.put, List.setIfInBounds_toArray, List.set_cons_zero, List.set_cons_succ]
                    refine atK_take (i := 18) rfl (by kernel_rfl) (by kernel_rfl) (by kernel_rfl) (by kernel_rfl) (fun _ _ _ h => h) (by rfl) (by intro w hSw; (try dsimp only at hSw); go_split_ands; first | (go_simp; done) | (go_simp; with_reducible rfl)) HS ?_
                    simp only [List.getElem_toArray, List.getElem_cons_zero, List.getElem_cons_succ, Act.put, List.setIfInBounds_toArray, List.set_cons_zero, List.set_cons_succ]
                    refine atK_take (i := 19) rfl (by kernel_rfl) (by kernel_rfl) (by kernel_rfl) (by kernel_rfl) (fun _ _ _ h => h) (by rfl) (by intro w hSw; (try dsimp only at hSw); go_split_ands; first | (go_simp; done) | (go_simp; with_reducible rfl)) HS ?_
                    simp only [List.getElem_toArray, List.getElem_cons_zero, List.getElem_cons_succ, Act.put, List.setIfInBounds_toArray, List.set_cons_zero, List.set_cons_succ]
                    refine atK_take (i := 20) rfl (by kernel_rfl) (by kernel_rfl) (by kernel_rfl) (by kernel_rfl) (fun _ _ _ h => h) (by rfl) (by intro w hSw; (try dsimp only at hSw); go_split_ands; first | (go_simp; done) | (go_simp; with_reducible rfl)) HS ?_
                    simp only [List.getElem_toArray, List.getElem_cons_zero, List.getElem_cons_succ, Act.put, List.setIfInBounds_toArray, List.set_cons_zero, List.set_cons_succ]
                    refine atK_take (i := 21) rfl (by kernel_rfl) (by kernel_rfl) (by kernel_rfl) (by kernel_rfl) (fun _ _ _ h => h) (by rfl) (by intro w hSw; (try dsimp only at hSw); go_split_ands; first | (go_simp; done) | (go_simp; with_reducible rfl)) HS ?_
                    simp only [List.getElem_toArray, List.getElem_cons_zero, List.getElem_cons_succ, Act.put, List.setIfInBounds_toArray, List.set_cons_zero, List.set_cons_succ]
                    refine atK_one (i := 22) (by kernel_rfl) rfl (fun K' hK => ?_)
                    rw [if_pos (by rfl)]
                    go_simp
                    refine hK.out _ _ (fun h => absurd rfl h) ?_
                    clear hK K'
                    try simp only [List.getElem_toArray, List.getElem_cons_zero, List.getElem_cons_succ, Act.put, List.setIfInBounds_toArray, List.set_cons_zero, List.set_cons_succ]
                    refine atK_done (by kernel_rfl) ?_ _
                    refine NoPanic.normal ?_
                    have H3 := H2.out
                    rw [List.set_set] at H3
                    have HH3 := Lib.hid H3
                    clear H3 H2 f0 f1 f2 f3 f4 f5 hz1 hz2 hne hl1 hl2 x3 HS hwc s0 s1 s2 s3
                    go_wp2_with fail
                    go_roundw
                    case rel => exact ⟨k + 1, _, _, _, by omega, by go_num, HH3, HGT⟩
                    case measure => simp [intOf]; omega
                  · have hxb : (x == a) = false := by simp [hx]
                    have hxn : (x != a) = true := by simp [hx]
                    have hib : ((i : Int) == (q : Int)) = false := by simp; omega
                    have HGM := Lib.hid (hG.out.mid_miss HPK.out (by rw [hq]; exact hiq) hlo.out (fun r' hr' => by
                      obtain rfl := Option.some.inj (hr.symm.trans hr')
                      show a < x
                      omega))
                    have HR := Lib.hid hr
                    clear hr
                    go_wp2_with fail
                    go_quiet (fail)
                    go_wp2_with fail
                    clear f0 f1 f2 f3 f4 f5 hz1 hz2 hne hl1 hl2 s0 s1 s2 s3 hu
                    have HH := Lib.hid (hh.out.go (below_drewN' (Below.refl wi.heap.size wi) nq))
                    clear x3
                    generalize wi.drewN nq = wq at HH ⊢
                    have x3 := HH.out.blk.cell 1
                    simp at x3
                    obtain ⟨s0, s1, s2, s3⟩ := RDK.out wq (b35.out.trans (HH.out.below.mono b35.out.size))
                    obtain ⟨gR, gb, cb, eA, hu, f0, f1, f2, f3, f4, f5, hz1, hz2, hne, hl1, hl2⟩ := HH.out.at3 hq HR.out
                    (first | subst eA | (simp only [Option.some.injEq, Addr.mk.injEq, and_true] at eA; subst eA))
                    go_quiet (fail)
                    clear f0 f1 f2 f3 f4 f5 hz1 hz2 hne hl1 hl2 s0 s1 s2 s3 hu
                    have HH2 := Lib.hid (HH.out.go (below_drewN' (Below.refl wq.heap.size wq) nq))
                    clear x3
                    generalize wq.drewN nq = wp at HH2 ⊢
                    obtain ⟨A9, hA9⟩ : ∃ A : Option Addr, A = some ⟨gR, 0, none⟩ := ⟨_, rfl⟩
                    rw [← hA9] at HH2
                    clear hA9 hc1 hc2 ht1 ht2 hxb hxn hib hxa hx HR hh HH
                    have x3 := HH2.out.blk.cell 1
                    simp at x3
                    obtain ⟨s0, s1, s2, s3⟩ := RDK.out wp (b35.out.trans (HH2.out.below.mono b35.out.size))
                    have OW := Lib.hid (show wp.ownsRow (w4.heap.size + 1 + 1) 40 1 (.slice A9 q c9) q vs by have h := HH2.out.rows.own; rw [hq] at h; exact h)
                    have ONE := Lib.hid HH2.out.rows.one
                    have hzz := HH2.out.zs
                    have hTw := HH2.out.blk.lt
                    have hbw := HH2.out.below.size
                    have hbase := HH2.out.base
                    have RO := Lib.hid (((Reads.of_own OW.out).alloc (Nat.le_refl _) (.cells #[] 40)).cut (k := i) (cap := c9) hiq hqc)
                    simp only [Nat.mul_one] at RO
                    have omP := Lib.hid (World.ownsRow_made (base := wp.heap.size) (e := 40) (size := 1) wp #[] 0 (Nat.le_refl _) (by unfold maxLen; omega) rfl)
                    have x3' := fun o => (World.cell?_alloc_some wp ⟨w4.heap.size + 1, 1, none⟩ o (by rw [x3]; rfl)).trans x3
                    have hiq0 : (i : Int) ≤ (q : Int) := by omega
                    have hic0 : (i : Int) ≤ (c9 : Int) := by omega
                    have hic : i ≤ c9 := by omega
                    have hqc0 : (q : Int) ≤ (c9 : Int) := by omega
                    go_upto_region 14 with fail
                    go_cut [13] from 45 to 159 (fun v13 w' => ∃ (A13 : Option Addr) (c13 : Nat), v13 = .slice A13 (q - i) c13 ∧ Hid (w'.ownsRow wp.heap.size 40 1 (.slice A13 (q - i) c13) (q - i) (vs.drop i)) ∧ Hid (Below wp.heap.size wp w'))
                    case first =>
                      by_cases hci : c9 = i
                      · exact absurd hci (by omega)
                      · have RO1 := RO.out
                        rw [if_neg hci] at RO1
                        have RO2 := Lib.hid RO1
                        clear RO1
                        go_wp2_with (first
                          | (at_builtin; refine wpList_append_any _ rfl (.tmp 100) (.tmp 104) 24 rfl wp.heap.size 40 j0 _ 1 24 Tryd.underlying24 hjI hjz0 hjz1 hjz2 rfl (by decide) _ 0 [] rfl omP.out wp.heap.size _ (q - i) _ (vs.drop i) rfl RO2.out (fun u hu => ONE.out u (List.mem_of_mem_drop hu)) (by unfold maxLen; omega) (by omega) (by simp) ?_; intro v13 w6 ho13 hg13 hd13; rw [List.nil_append, Nat.zero_add] at ho13; obtain ⟨A13, c13, rfl, _, _⟩ := own_form ho13; have b6 : Below wp.heap.size wp w6 := ((Below.refl _ _).alloc (Nat.le_refl _) _).grown hg13 (by simp) (fun g' e => by simp [Act.eval, Value.ownBlock] at e ⊢; omega)))
                        go_meet
                        case rel => exact ⟨A13, c13, rfl, ho13, b6⟩
                    obtain ⟨A13, c13, rfl, O13, B6⟩ := hcut
                    obtain ⟨w6, rfl⟩ : ∃ x, x = wc := ⟨_, rfl⟩
                    clear x3' omP RO
                    go_wp2_with fail
                    have HS0 : wp.cell? ⟨w4.heap.size + 1, 1, none⟩ = some (.slice A9 q c9) ∧ wp.cell? ⟨w.heap.size, 1, none⟩ = some (.slice (some ad) m d2) ∧ wp.cell? (ad.add k) = some (.slice (some rd) n ck) ∧ wp.cell? (rd.add gi) = some (.int .i64 a) := ⟨x3, s0, s1, s2⟩
                    have KEEP := Lib.hid (fun (w' : World) (h : Below wp.heap.size wp w') => show w'.cell? ⟨w4.heap.size + 1, 1, none⟩ = some (.slice A9 q c9) ∧ w'.cell? ⟨w.heap.size, 1, none⟩ = some (.slice (some ad) m d2) ∧ w'.cell? (ad.add k) = some (.slice (some rd) n ck) ∧ w'.cell? (rd.add gi) = some (.int .i64 a) from ⟨below_keep h HS0.1, below_keep h HS0.2.1, below_keep h HS0.2.2.1, below_keep h HS0.2.2.2⟩)
                    have b6 := B6.out
                    have bd : Below wp.heap.size wp w6.drew := b6.drew
                    have HS := KEEP.out _ bd
                    have hs6 := b6.size
                    refine wp_region_noPanic ?_
                    refine wp_region_K (by kernel_rfl) (fun w' => w'.cell? ⟨w4.heap.size + 1, 1, none⟩ = some (.slice A9 q c9) ∧ w'.cell? ⟨w.heap.size, 1, none⟩ = some (.slice (some ad) m d2) ∧ w'.cell? (ad.add k) = some (.slice (some rd) n ck) ∧ w'.cell? (rd.add gi) = some (.int .i64 a)) 18 ?_
                    refine atK_take (i := 0) rfl (by kernel_rfl) (by kernel_rfl) (by kernel_rfl) (by kernel_rfl) (fun _ _ _ h => h) (by rfl) (by intro w hSw; (try dsimp only at hSw); go_split_ands; first | (go_simp; done) | (go_simp; with_reducible rfl)) HS ?_
                    simp only [List.getElem_toArray, List.getElem_cons_zero, List.getElem_cons_succ, Act.put, List.setIfInBounds_toArray, List.set_cons_zero, List.set_cons_succ]
                    refine atK_take (i := 1) rfl (by kernel_rfl) (by kernel_rfl) (by kernel_rfl) (by kernel_rfl) (fun _ _ _ h => h) (by rfl) (by intro w hSw; (try dsimp only at hSw); go_split_ands; first | (go_simp; done) | (go_simp; with_reducible rfl)) HS ?_
                    simp only [List.getElem_toArray, List.getElem_cons_zero, List.getElem_cons_succ, Act.put, List.setIfInBounds_toArray, List.set_cons_zero, List.set_cons_succ]
                    refine atK_take (i := 2) rfl (by kernel_rfl) (by kernel_rfl) (by kernel_rfl) (by kernel_rfl) (fun _ _ _ h => h) (by rfl) (by intro w hSw; (try dsimp only at hSw); go_split_ands; first | (go_simp; done) | (go_simp; with_reducible rfl)) HS ?_
                    simp only [List.getElem_toArray, List.getElem_cons_zero, List.getElem_cons_succ, Act.put, List.setIfInBounds_toArray, List.set_cons_zero, List.set_cons_succ]
                    refine atK_take (i := 3) rfl (by kernel_rfl) (by kernel_rfl) (by kernel_rfl) (by kernel_rfl) (fun _ _ _ h => h) (by rfl) (by intro w hSw; (try dsimp only at hSw); go_split_ands; first | (go_simp; done) | (go_simp; with_reducible rfl)) HS ?_
                    simp only [List.getElem_toArray, List.getElem_cons_zero, List.getElem_cons_succ, Act.put, List.setIfInBounds_toArray, List.set_cons_zero, List.set_cons_succ]
                    refine atK_take (i := 4) rfl (by kernel_rfl) (by kernel_rfl) (by kernel_rfl) (by kernel_rfl) (fun _ _ _ h => h) (by rfl) (by intro w hSw; (try dsimp only at hSw); go_split_ands; first | (go_simp; done) | (go_simp; with_reducible rfl)) HS ?_
                    simp only [List.getElem_toArray, List.getElem_cons_zero, List.getElem_cons_succ, Act.put, List.setIfInBounds_toArray, List.set_cons_zero, List.set_cons_succ]
                    refine atK_take (i := 5) rfl (by kernel_rfl) (by kernel_rfl) (by kernel_rfl) (by kernel_rfl) (fun _ _ _ h => h) (by rfl) (by intro w hSw; (try dsimp only at hSw); go_split_ands; first | (go_simp; done) | (go_simp; with_reducible rfl)) HS ?_
                    simp only [List.getElem_toArray, List.getElem_cons_zero, List.getElem_cons_succ, Act.put, List.setIfInBounds_toArray, List.set_cons_zero, List.set_cons_succ]
                    refine atK_take (i := 6) rfl (by kernel_rfl) (by kernel_rfl) (by kernel_rfl) (by kernel_rfl) (fun _ _ _ h => h) (by rfl) (by intro w hSw; (try dsimp only at hSw); go_split_ands; first | (go_simp; done) | (go_simp; with_reducible rfl)) HS ?_
                    simp only [List.getElem_toArray, List.getElem_cons_zero, List.getElem_cons_succ, Act.put, List.setIfInBounds_toArray, List.set_cons_zero, List.set_cons_succ]
                    refine atK_take (i := 7) rfl (by kernel_rfl) (by kernel_rfl) (by kernel_rfl) (by kernel_rfl) (fun _ _ _ h => h) (by rfl) (by intro w hSw; (try dsimp only at hSw); go_split_ands; first | (go_simp; done) | (go_simp; with_reducible rfl)) HS ?_
                    simp only [List.getElem_toArray, List.getElem_cons_zero, List.getElem_cons_succ, Act.put, List.setIfInBounds_toArray, List.set_cons_zero, List.set_cons_succ]
                    refine atK_take (i := 8) rfl (by kernel_rfl) (by kernel_rfl) (by kernel_rfl) (by kernel_rfl) (fun _ _ _ h => h) (by rfl) (by intro w hSw; (try dsimp only at hSw); go_split_ands; first | (go_simp; done) | (go_simp; with_reducible rfl)) HS ?_
                    simp only [List.getElem_toArray, List.getElem_cons_zero, List.getElem_cons_succ, Act.put, List.setIfInBounds_toArray, List.set_cons_zero, List.set_cons_succ]
                    refine atK_take (i := 9) rfl (by kernel_rfl) (by kernel_rfl) (by kernel_rfl) (by kernel_rfl) (fun _ _ _ h => h) (by rfl) (by intro w hSw; (try dsimp only at hSw); go_split_ands; first | (go_simp; done) | (go_simp; with_reducible rfl)) HS ?_
                    simp only [List.getElem_toArray, List.getElem_cons_zero, List.getElem_cons_succ, Act.put, List.setIfInBounds_toArray, List.set_cons_zero, List.set_cons_succ]
                    refine atK_take (i := 10) rfl (by kernel_rfl) (by kernel_rfl) (by kernel_rfl) (by kernel_rfl) (fun _ _ _ h => h) (by rfl) (by intro w hSw; (try dsimp only at hSw); go_split_ands; first | (go_simp; done) | (go_simp; with_reducible rfl)) HS ?_
                    simp only [List.getElem_toArray, List.getElem_cons_zero, List.getElem_cons_succ, Act.put, List.setIfInBounds_toArray, List.set_cons_zero, List.set_cons_succ]
                    refine atK_take (i := 11) rfl (by kernel_rfl) (by kernel_rfl) (by kernel_rfl) (by kernel_rfl) (fun _ _ _ h => h) (by rfl) (by intro w hSw; (try dsimp only at hSw); go_split_ands; first | (go_simp; done) | (go_simp; with_reducible rfl)) HS ?_
                    simp only [List.getElem_toArray, List.getElem_cons_zero, List.getElem_cons_succ, Act.put, List.setIfInBounds_toArray, List.set_cons_zero, List.set_cons_succ]
                    refine atK_take (i := 15) rfl (by kernel_rfl) (by kernel_rfl) (by kernel_rfl) (by kernel_rfl) (fun _ _ _ h => h) (by rfl) (by intro w hSw; (try dsimp only at hSw); go_split_ands; first | (go_simp; done) | (go_simp; with_reducible rfl)) HS ?_
                    simp only [List.getElem_toArray, List.getElem_cons_zero, List.getElem_cons_succ, Act.put, List.setIfInBounds_toArray, List.set_cons_zero, List.set_cons_succ]
                    refine atK_one (i := 12) (by kernel_rfl) rfl (fun K' hK => ?_)
                    rw [if_pos (by rfl)]
                    go_simp
                    have b5' : Below wp.heap.size wp (w6.alloc (.cells #[.int .i64 a, .int .i64 0, .int .i64 0] 3)).drew := (b6.alloc hs6 _).drew
                    have OU := Lib.hid (own_lit2 w6 w6.heap.size 3 (inCells [a, 0, 0]) (Nat.le_refl _) (by unfold maxLen; simp [inCells])).drew
                    refine hK.out _ _ (fun _ => KEEP.out _ b5') ?_
                    clear hK K'
                    try simp only [List.getElem_toArray, List.getElem_cons_zero, List.getElem_cons_succ, Act.put, List.setIfInBounds_toArray, List.set_cons_zero, List.set_cons_succ]
                    refine atK_one (i := 13) (by kernel_rfl) rfl (fun K' hK => ?_)
                    rw [if_pos (by rfl)]
                    go_simp
                    have b5a : Below wp.heap.size wp ((w6.alloc (.cells #[.int .i64 a, .int .i64 0, .int .i64 0] 3)).alloc (.cells #[.slice (some ⟨w6.heap.size, 0, none⟩) 3 3] 40)).drew := ((b6.alloc hs6 _).alloc (by simp; omega) _).drew
                    have OU2 := Lib.hid ((OU.out.alloc (.cells #[.slice (some ⟨w6.heap.size, 0, none⟩) 3 3] 40)))
                    have hsz5 : ((w6.alloc (.cells #[.int .i64 a, .int .i64 0, .int .i64 0] 3)).alloc (.cells #[.slice (some ⟨w6.heap.size, 0, none⟩) 3 3] 40)).drew.heap.size = w6.heap.size + 1 + 1 := by
                      show ((w6.alloc (.cells #[.int .i64 a, .int .i64 0, .int .i64 0] 3)).alloc (.cells #[.slice (some ⟨w6.heap.size, 0, none⟩) 3 3] 40)).heap.size = _
                      simp
                    refine hK.out _ _ (fun _ => KEEP.out _ b5a) ?_
                    clear hK K'
                    try simp only [List.getElem_toArray, List.getElem_cons_zero, List.getElem_cons_succ, Act.put, List.setIfInBounds_toArray, List.set_cons_zero, List.set_cons_succ]
                    refine atK_one (i := 14) (by kernel_rfl) rfl (fun K' hK => ?_)
                    refine step_append_any _ (by rfl) (.tmp 109) (.tmp 119) 24 (by rfl) (w4.heap.size + 1 + 1) 40 j0 _ 1 24 Tryd.underlying24 hjI hjz0 hjz1 hjz2 (by rfl) (by decide) _ i (vs.take i) (by rfl) (own_take (own_below OW.out b5a) hiq) (w6.heap.size + 1 + 1) (some ⟨w6.heap.size + 1, 0, none⟩) 1 1 [.slice (some ⟨w6.heap.size, 0, none⟩) 3 3] (by rfl) ⟨rfl, fun _ => ⟨_, rfl, (show w6.heap.size + 1 < _ by omega), fun j u hu => by
                      have h := cells_new (w6.alloc (.cells #[.int .i64 a, .int .i64 0, .int .i64 0] 3)) 40 [.slice (some ⟨w6.heap.size, 0, none⟩) 3 3] j u hu
                      rw [World.size_alloc] at h
                      exact h⟩⟩ (oneCells rfl) (by unfold maxLen; omega) (by omega) (by have := b5a.size; omega) ?_
                    intro v7 w7 ho7 hg7 hd7
                    have hob := ob_len A9 q i c9
                    have hrow : ∀ g', (Value.slice A9 q c9).ownBlock = some g' → w4.heap.size + 1 + 1 ≤ g' ∧ g' < wp.heap.size := fun g' e => OW.out.lt g' e
                    have GR7 : wp.grownBy w7 (Value.slice A9 q c9).ownBlock := grown_then (only_of_below b5a _) hg7 (fun g' e => .inl (by rw [← hob]; exact e))
                    have o13 := (own_below O13.out ((Below.refl w6.heap.size w6).alloc (Nat.le_refl _) (.cells #[.int .i64 a, .int .i64 0, .int .i64 0] 3))).alloc (.cells #[.slice (some ⟨w6.heap.size, 0, none⟩) 3 3] 40)
                    have o13d := o13.drew
                    have O137 := o13d.kept hg7 (by
                      cases e : (Value.slice A13 (q - i) c13).ownBlock with
                      | none => exact .inl rfl
                      | some g' => exact .inr (fun e' => by have h1 := (O13.out.lt g' e).1; have h2 := (hrow g' (by rw [← hob]; exact e'.symm)).2; omega))
                    have OU7 := (OU2.out).kept hg7 (.inr (fun e' => by have h2 := (hrow w6.heap.size (by rw [← hob]; exact e'.symm)).2; omega))
                    obtain ⟨A7, c7, rfl, _, _⟩ := own_form ho7
                    have hv7 : ∀ g', (Value.slice A7 (i + 1) c7).ownBlock = some g' → (Value.slice A9 q c9).ownBlock = some g' ∨ wp.heap.size ≤ g' := fun g' e => by
                      rcases hd7 with h | h
                      · exact .inl (by rw [← hob, ← h]; exact e)
                      · rw [e] at h
                        have := Option.some.inj h
                        exact .inr (by omega)
                    have KEEPG := Lib.hid (fun (w' : World) (hg : wp.grownBy w' (Value.slice A9 q c9).ownBlock) => show w'.cell? ⟨w4.heap.size + 1, 1, none⟩ = some (.slice A9 q c9) ∧ w'.cell? ⟨w.heap.size, 1, none⟩ = some (.slice (some ad) m d2) ∧ w'.cell? (ad.add k) = some (.slice (some rd) n ck) ∧ w'.cell? (rd.add gi) = some (.int .i64 a) from by
                      have kp : ∀ (p : Addr) (v : Value), p.block < w4.heap.size + 1 + 1 → p.block < wp.heap.size → wp.cell? p = some v → w'.cell? p = some v := fun p v h1 h2 hc => (World.cell?_of_block (hg.block _ h2 (fun e => by have := (hrow _ e.symm).1; omega))).trans hc
                      have hb35 := b35.out.size
                      have h45 := H45.out
                      have hrd : (rd.add gi).block < w3.heap.size := by rw [block_of_add]; exact hrb
                      have had : (ad.add k).block < w3.heap.size := by rw [block_of_add]; exact hadb
                      exact ⟨kp ⟨w4.heap.size + 1, 1, none⟩ _ (show w4.heap.size + 1 < _ by omega) hTw HS0.1, kp ⟨w.heap.size, 1, none⟩ _ (show w.heap.size < _ by omega) (show w.heap.size < _ by omega) HS0.2.1, kp _ _ (by omega) (by omega) HS0.2.2.1, kp _ _ (by omega) (by omega) HS0.2.2.2⟩)
                    refine hK.out _ _ (fun _ => KEEPG.out _ GR7) ?_
                    clear hK K'
                    try simp only [List.getElem_toArray, List.getElem_cons_zero, List.getElem_cons_succ, Act.put, List.setIfInBounds_toArray, List.set_cons_zero, List.set_cons_succ]
                    refine atK_one (i := 16) (by kernel_rfl) rfl (fun K' hK => ?_)
                    refine step_append_any _ (by rfl) (.tmp 120) (.tmp 121) 24 (by rfl) (w4.heap.size + 1 + 1) 40 j0 _ 1 24 Tryd.underlying24 hjI hjz0 hjz1 hjz2 (by rfl) (by decide) _ (i + 1) _ (by rfl) ho7 w7.heap.size A13 (q - i) c13 (vs.drop i) (by rfl) (Reads.of_own O137) (fun u hu => ONE.out u (List.mem_of_mem_drop hu)) (by unfold maxLen; omega) (by omega) (by have := GR7.size; omega) ?_
                    intro v8 w8 ho8 hg8 hd8
                    have GR8 : wp.grownBy w8 (Value.slice A9 q c9).ownBlock := grown_then GR7 hg8 hv7
                    have OU8 := OU7.kept hg8 (.inr (fun e' => own_types OU7 ho7 (by decide) w6.heap.size rfl e'.symm))
                    obtain ⟨q1, hq1⟩ : ∃ q1, q1 = q + 1 := ⟨_, rfl⟩
                    have HQ1 := Lib.hid hq1
                    have hsum : i + 1 + (q - i) = q1 := by omega
                    rw [hsum, List.append_assoc] at ho8
                    obtain ⟨A8, c8, rfl, _, _⟩ := own_form ho8
                    have PU := Lib.hid (HH2.out.insert (i := i) (r := [a, 0, 0]) GR8 (OU8.base_le (by omega)) (fun g' e => by simp [Value.ownBlock] at e; omega) (by rw [hq, ← hq1]; exact ho8) (by rw [hq]; exact hiq))
                    have F8 := HH2.out.blk.grown GR8 (fun e => by have : w4.heap.size + 1 + 1 ≤ w4.heap.size + 1 := (hrow _ e.symm).1; omega)
                    have F8c := F8.cell 1
                    have F8f := F8.frozen 1
                    simp at F8c
                    have HS8 := KEEPG.out _ GR8
                    refine hK.out _ _ (fun _ => HS8) ?_
                    have hqq1 : (i : Int) < (q1 : Int) := by omega
                    have hqq2 : i < q1 := by omega
                    clear hK K' hg7 hd7 hg8 hd8 hq1 hsum
                    try simp only [List.getElem_toArray, List.getElem_cons_zero, List.getElem_cons_succ, Act.put, List.setIfInBounds_toArray, List.set_cons_zero, List.set_cons_succ]
                    refine atK_take (i := 17) rfl (by kernel_rfl) (by kernel_rfl) (by kernel_rfl) (by kernel_rfl) (fun _ _ _ h => h) (by rfl) (by intro w hSw; (try dsimp only at hSw); go_split_ands; first | (go_simp; done) | (go_simp; with_reducible rfl)) HS8 ?_
                    simp only [List.getElem_toArray, List.getElem_cons_zero, List.getElem_cons_succ, Act.put, List.setIfInBounds_toArray, List.set_cons_zero, List.set_cons_succ]
                    refine atK_one (i := 18) (by kernel_rfl) rfl (fun K' hK => ?_)
                    rw [if_pos (by rfl)]
                    go_simp
                    refine hK.out _ _ (fun h => absurd rfl h) ?_
                    clear hK K'
                    try simp only [List.getElem_toArray, List.getElem_cons_zero, List.getElem_cons_succ, Act.put, List.setIfInBounds_toArray, List.set_cons_zero, List.set_cons_succ]
                    refine atK_done (by kernel_rfl) ?_ _
                    refine NoPanic.normal ?_
                    have HHT := Lib.hid PU.out
                    have hql : (G.take i ++ [a, 0, 0] :: G.drop i).length = q1 := by rw [ins_len (by rw [hq]; exact hiq), hq, HQ1.out]
                    clear PU F8 F8c F8f HS8 HS HS0 x3 s0 s1 s2 s3 ho7 ho8 OU7 OU8 O137 o13 o13d GR7 GR8 hv7 hrow hob b5' b5a b6 bd hsz5
                    simp only [Array.setIfInBounds] at HHT
                    generalize hw9 : w8.setCell ⟨w4.heap.size + 1, 1, none⟩ (.slice A8 q1 c8) = w9 at HHT ⊢
                    clear hw9
                    have hrT := ins_mid (y := [a, 0, 0]) (l := G) (i := i) (by rw [hq]; exact hiq)
                    clear c0 t0
                    obtain ⟨c0, hc0⟩ : ∃ c : Int, c = 0 := ⟨_, rfl⟩
                    obtain ⟨t0, ht0⟩ : ∃ c : Int, c = 0 := ⟨_, rfl⟩
                    have HRT := Lib.hid (show (G.take i ++ [a, 0, 0] :: G.drop i)[i]? = some [a, c0, t0] by rw [hc0, ht0]; exact hrT)
                    have HGT := Lib.hid (show GroupR ((grpP names rows g s).take (k + 1)) ((G.take i ++ [a, 0, 0] :: G.drop i).set i [a, c0 + 1, t0 + b]) by rw [hc0, ht0]; exact HGM.out)
                    have hc1 : 0 ≤ c0 := by omega
                    have hc2 : c0 ≤ 16 := by omega
                    have ht1 : -1600000 ≤ t0 := by omega
                    have ht2 : t0 ≤ 1600000 := by omega
                    clear hc0 ht0 hrT HGM
                    obtain ⟨gR, gb, cb, eA, hu, f0, f1, f2, f3, f4, f5, hz1, hz2, hne, hl1, hl2⟩ := HHT.out.at3 hql HRT.out
                    (first | subst eA | (simp only [Option.some.injEq, Addr.mk.injEq, and_true] at eA; subst eA))
                    have x3 := HHT.out.blk.cell 1
                    simp at x3
                    go_wp2_with fail
                    have H0 := Lib.hid HHT.out.drew
                    have H1 := Lib.hid (H0.out.put (j := 1) hu HRT.out (c0 + 1))
                    have hwc : IntKind.i64.wrap (c0 + 1) = c0 + 1 := IntWalk.i64_in _ (by omega)
                    have HS : w9.drew.cell? ⟨w4.heap.size + 1, 1, none⟩ = some (.slice (some ⟨gR, 0, none⟩) q1 c8) ∧ w9.drew.cell? ⟨gR, i, none⟩ = some (.slice (some ⟨gb, 0, none⟩) 3 cb) ∧ w9.drew.cell? ⟨gb, 1, none⟩ = some (.int .i64 c0) := ⟨x3, f0, f2⟩
                    refine wp_region_noPanic ?_
                    refine wp_region_K (by kernel_rfl) (fun w' => w'.cell? ⟨w4.heap.size + 1, 1, none⟩ = some (.slice (some ⟨gR, 0, none⟩) q1 c8) ∧ w'.cell? ⟨gR, i, none⟩ = some (.slice (some ⟨gb, 0, none⟩) 3 cb) ∧ w'.cell? ⟨gb, 1, none⟩ = some (.int .i64 c0)) 14 ?_
                    refine atK_take (i := 0) rfl (by kernel_rfl) (by kernel_rfl) (by kernel_rfl) (by kernel_rfl) (fun _ _ _ h => h) (by rfl) (by intro w hSw; (try dsimp only at hSw); go_split_ands; first | (go_simp; done) | (go_simp; with_reducible rfl)) HS ?_
                    simp only [List.getElem_toArray, List.getElem_cons_zero, List.getElem_cons_succ, Act.put, List.setIfInBounds_toArray, List.set_cons_zero, List.set_cons_succ]
                    refine atK_take (i := 1) rfl (by kernel_rfl) (by kernel_rfl) (by kernel_rfl) (by kernel_rfl) (fun _ _ _ h => h) (by rfl) (by intro w hSw; (try dsimp only at hSw); go_split_ands; first | (go_simp; done) | (go_simp; with_reducible rfl)) HS ?_
                    simp only [List.getElem_toArray, List.getElem_cons_zero, List.getElem_cons_succ, Act.put, List.setIfInBounds_toArray, List.set_cons_zero, List.set_cons_succ]
                    refine atK_take (i := 2) rfl (by kernel_rfl) (by kernel_rfl) (by kernel_rfl) (by kernel_rfl) (fun _ _ _ h => h) (by rfl) (by intro w hSw; (try dsimp only at hSw); go_split_ands; first | (go_simp; done) | (go_simp; with_reducible rfl)) HS ?_
                    simp only [List.getElem_toArray, List.getElem_cons_zero, List.getElem_cons_succ, Act.put, List.setIfInBounds_toArray, List.set_cons_zero, List.set_cons_succ]
                    refine atK_take (i := 3) rfl (by kernel_rfl) (by kernel_rfl) (by kernel_rfl) (by kernel_rfl) (fun _ _ _ h => h) (by rfl) (by intro w hSw; (try dsimp only at hSw); go_split_ands; first | (go_simp; done) | (go_simp; with_reducible rfl)) HS ?_
                    simp only [List.getElem_toArray, List.getElem_cons_zero, List.getElem_cons_succ, Act.put, List.setIfInBounds_toArray, List.set_cons_zero, List.set_cons_succ]
                    refine atK_take (i := 4) rfl (by kernel_rfl) (by kernel_rfl) (by kernel_rfl) (by kernel_rfl) (fun _ _ _ h => h) (by rfl) (by intro w hSw; (try dsimp only at hSw); go_split_ands; first | (go_simp; done) | (go_simp; with_reducible rfl)) HS ?_
                    simp only [List.getElem_toArray, List.getElem_cons_zero, List.getElem_cons_succ, Act.put, List.setIfInBounds_toArray, List.set_cons_zero, List.set_cons_succ]
                    refine atK_take (i := 5) rfl (by kernel_rfl) (by kernel_rfl) (by kernel_rfl) (by kernel_rfl) (fun _ _ _ h => h) (by rfl) (by intro w hSw; (try dsimp only at hSw); go_split_ands; first | (go_simp; done) | (go_simp; with_reducible rfl)) HS ?_
                    simp only [List.getElem_toArray, List.getElem_cons_zero, List.getElem_cons_succ, Act.put, List.setIfInBounds_toArray, List.set_cons_zero, List.set_cons_succ]
                    refine atK_take (i := 6) rfl (by kernel_rfl) (by kernel_rfl) (by kernel_rfl) (by kernel_rfl) (fun _ _ _ h => h) (by rfl) (by intro w hSw; (try dsimp only at hSw); go_split_ands; first | (go_simp; done) | (go_simp; with_reducible rfl)) HS ?_
                    simp only [List.getElem_toArray, List.getElem_cons_zero, List.getElem_cons_succ, Act.put, List.setIfInBounds_toArray, List.set_cons_zero, List.set_cons_succ]
                    refine atK_take (i := 7) rfl (by kernel_rfl) (by kernel_rfl) (by kernel_rfl) (by kernel_rfl) (fun _ _ _ h => h) (by rfl) (by intro w hSw; (try dsimp only at hSw); go_split_ands; first | (go_simp; done) | (go_simp; with_reducible rfl)) HS ?_
                    simp only [List.getElem_toArray, List.getElem_cons_zero, List.getElem_cons_succ, Act.put, List.setIfInBounds_toArray, List.set_cons_zero, List.set_cons_succ]
                    refine atK_take (i := 8) rfl (by kernel_rfl) (by kernel_rfl) (by kernel_rfl) (by kernel_rfl) (fun _ _ _ h => h) (by rfl) (by intro w hSw; (try dsimp only at hSw); go_split_ands; first | (go_simp; done) | (go_simp; with_reducible rfl)) HS ?_
                    simp only [List.getElem_toArray, List.getElem_cons_zero, List.getElem_cons_succ, Act.put, List.setIfInBounds_toArray, List.set_cons_zero, List.set_cons_succ]
                    refine atK_take (i := 9) rfl (by kernel_rfl) (by kernel_rfl) (by kernel_rfl) (by kernel_rfl) (fun _ _ _ h => h) (by rfl) (by intro w hSw; (try dsimp only at hSw); go_split_ands; first | (go_simp; done) | (go_simp; with_reducible rfl)) HS ?_
                    simp only [List.getElem_toArray, List.getElem_cons_zero, List.getElem_cons_succ, Act.put, List.setIfInBounds_toArray, List.set_cons_zero, List.set_cons_succ]
                    refine atK_take (i := 10) rfl (by kernel_rfl) (by kernel_rfl) (by kernel_rfl) (by kernel_rfl) (fun _ _ _ h => h) (by rfl) (by intro w hSw; (try dsimp only at hSw); go_split_ands; first | (go_simp; done) | (go_simp; with_reducible rfl)) HS ?_
                    simp only [List.getElem_toArray, List.getElem_cons_zero, List.getElem_cons_succ, Act.put, List.setIfInBounds_toArray, List.set_cons_zero, List.set_cons_succ]
                    refine atK_take (i := 11) rfl (by kernel_rfl) (by kernel_rfl) (by kernel_rfl) (by kernel_rfl) (fun _ _ _ h => h) (by rfl) (by intro w hSw; (try dsimp only at hSw); go_split_ands; first | (go_simp; done) | (go_simp; with_reducible rfl)) HS ?_
                    simp only [List.getElem_toArray, List.getElem_cons_zero, List.getElem_cons_succ, Act.put, List.setIfInBounds_toArray, List.set_cons_zero, List.set_cons_succ]
                    refine atK_take (i := 12) rfl (by kernel_rfl) (by kernel_rfl) (by kernel_rfl) (by kernel_rfl) (fun _ _ _ h => h) (by rfl) (by intro w hSw; (try dsimp only at hSw); go_split_ands; first | (go_simp; done) | (go_simp; with_reducible rfl)) HS ?_
                    simp only [List.getElem_toArray, List.getElem_cons_zero, List.getElem_cons_succ, Act.put, List.setIfInBounds_toArray, List.set_cons_zero, List.set_cons_succ]
                    refine atK_take (i := 13) rfl (by kernel_rfl) (by kernel_rfl) (by kernel_rfl) (by kernel_rfl) (fun _ _ _ h => h) (by rfl) (by intro w hSw; (try dsimp only at hSw); go_split_ands; first | (go_simp; done) | (go_simp; with_reducible rfl)) HS ?_
                    simp only [List.getElem_toArray, List.getElem_cons_zero, List.getElem_cons_succ, Act.put, List.setIfInBounds_toArray, List.set_cons_zero, List.set_cons_succ]
                    refine atK_one (i := 14) (by kernel_rfl) rfl (fun K' hK => ?_)
                    rw [if_pos (by rfl)]
                    go_simp
                    refine hK.out _ _ (fun h => absurd rfl h) ?_
                    clear hK K'
                    try simp only [List.getElem_toArray, List.getElem_cons_zero, List.getElem_cons_succ, Act.put, List.setIfInBounds_toArray, List.set_cons_zero, List.set_cons_succ]
                    refine atK_done (by kernel_rfl) ?_ _
                    refine NoPanic.normal ?_
                    have hr1 : ((G.take i ++ [a, 0, 0] :: G.drop i).set i [a, c0 + 1, t0])[i]? = some [a, c0 + 1, t0] := List.getElem?_set_self (by rw [hql]; omega)
                    have H1' : Hid (HalfZ w5 (w9.setCell ⟨gb, 1, none⟩ (.int .i64 (c0 + 1))).drew w4.heap.size (w4.heap.size + 1) (w4.heap.size + 1 + 1) 26 _ (.slice (some ⟨w4.heap.size, 0, none⟩) 3 3) _ [g, countB, totalB] (vs.take i ++ .slice (some ⟨w6.heap.size, 0, none⟩) 3 3 :: vs.drop i) ((G.take i ++ [a, 0, 0] :: G.drop i).set i [a, c0 + 1, t0])) := Lib.hid H1.out
                    have hl1s : ((G.take i ++ [a, 0, 0] :: G.drop i).set i [a, c0 + 1, t0]).length = q1 := by rw [List.length_set]; exact hql
                    clear x3 f0 f1 f2 f3 f4 f5 hne hl1 hl2 hz1 hz2 H1 H0 hwc HS
                    generalize (w9.setCell ⟨gb, 1, none⟩ (.int .i64 (c0 + 1))).drew = w10 at H1' ⊢
                    go_wp2_with fail
                    have H1d := Lib.hid H1'.out.drew
                    obtain ⟨gR', gb', cb', eA, hu1, f0, f1, f2, f3, f4, f5, hz1, hz2, hne, hl1, hl2⟩ := H1d.out.at3 hl1s hr1
                    simp only [Option.some.injEq, Addr.mk.injEq, and_true] at eA
                    obtain rfl := eA
                    have x3 := H1d.out.blk.cell 1
                    simp at x3
                    obtain ⟨s0, s1, s2, s3⟩ := RDK.out w10.drew (b35.out.trans (H1d.out.below.mono b35.out.size))
                    have hwc : IntKind.i64.wrap (t0 + b) = t0 + b := IntWalk.i64_in _ (by omega)
                    have H2 := Lib.hid (H1d.out.put (j := 2) hu1 hr1 (t0 + b))
                    have HS : w10.drew.cell? ⟨w4.heap.size + 1, 1, none⟩ = some (.slice (some ⟨gR, 0, none⟩) q1 c8) ∧ w10.drew.cell? ⟨gR, i, none⟩ = some (.slice (some ⟨gb', 0, none⟩) 3 cb') ∧ w10.drew.cell? ⟨gb', 2, none⟩ = some (.int .i64 t0) ∧ w10.drew.cell? ⟨w.heap.size, 1, none⟩ = some (.slice (some ad) m d2) ∧ w10.drew.cell? (ad.add k) = some (.slice (some rd) n ck) ∧ w10.drew.cell? (rd.add si) = some (.int .i64 b) := ⟨x3, f0, f3, s0, s1, s3⟩
                    refine wp_region_noPanic ?_
                    refine wp_region_K (by kernel_rfl) (fun w' => w'.cell? ⟨w4.heap.size + 1, 1, none⟩ = some (.slice (some ⟨gR, 0, none⟩) q1 c8) ∧ w'.cell? ⟨gR, i, none⟩ = some (.slice (some ⟨gb', 0, none⟩) 3 cb') ∧ w'.cell? ⟨gb', 2, none⟩ = some (.int .i64 t0) ∧ w'.cell? ⟨w.heap.size, 1, none⟩ = some (.slice (some ad) m d2) ∧ w'.cell? (ad.add k) = some (.slice (some rd) n ck) ∧ w'.cell? (rd.add si) = some (.int .i64 b)) 22 ?_
                    refine atK_take (i := 0) rfl (by kernel_rfl) (by kernel_rfl) (by kernel_rfl) (by kernel_rfl) (fun _ _ _ h => h) (by rfl) (by intro w hSw; (try dsimp only at hSw); go_split_ands; first | (go_simp; done) | (go_simp; with_reducible rfl)) HS ?_
                    simp only [List.getElem_toArray, List.getElem_cons_zero, List.getElem_cons_succ, Act.put, List.setIfInBounds_toArray, List.set_cons_zero, List.set_cons_succ]
                    refine atK_take (i := 1) rfl (by kernel_rfl) (by kernel_rfl) (by kernel_rfl) (by kernel_rfl) (fun _ _ _ h => h) (by rfl) (by intro w hSw; (try dsimp only at hSw); go_split_ands; first | (go_simp; done) | (go_simp; with_reducible rfl)) HS ?_
                    simp only [List.getElem_toArray, List.getElem_cons_zero, List.getElem_cons_succ, Act.put, List.setIfInBounds_toArray, List.set_cons_zero, List.set_cons_succ]
                    refine atK_take (i := 2) rfl (by kernel_rfl) (by kernel_rfl) (by kernel_rfl) (by kernel_rfl) (fun _ _ _ h => h) (by rfl) (by intro w hSw; (try dsimp only at hSw); go_split_ands; first | (go_simp; done) | (go_simp; with_reducible rfl)) HS ?_
                    simp only [List.getElem_toArray, List.getElem_cons_zero, List.getElem_cons_succ, Act.put, List.setIfInBounds_toArray, List.set_cons_zero, List.set_cons_succ]
                    refine atK_take (i := 3) rfl (by kernel_rfl) (by kernel_rfl) (by kernel_rfl) (by kernel_rfl) (fun _ _ _ h => h) (by rfl) (by intro w hSw; (try dsimp only at hSw); go_split_ands; first | (go_simp; done) | (go_simp; with_reducible rfl)) HS ?_
                    simp only [List.getElem_toArray, List.getElem_cons_zero, List.getElem_cons_succ, Act.put, List.setIfInBounds_toArray, List.set_cons_zero, List.set_cons_succ]
                    refine atK_take (i := 4) rfl (by kernel_rfl) (by kernel_rfl) (by kernel_rfl) (by kernel_rfl) (fun _ _ _ h => h) (by rfl) (by intro w hSw; (try dsimp only at hSw); go_split_ands; first | (go_simp; done) | (go_simp; with_reducible rfl)) HS ?_
                    simp only [List.getElem_toArray, List.getElem_cons_zero, List.getElem_cons_succ, Act.put, List.setIfInBounds_toArray, List.set_cons_zero, List.set_cons_succ]
                    refine atK_take (i := 5) rfl (by kernel_rfl) (by kernel_rfl) (by kernel_rfl) (by kernel_rfl) (fun _ _ _ h => h) (by rfl) (by intro w hSw; (try dsimp only at hSw); go_split_ands; first | (go_simp; done) | (go_simp; with_reducible rfl)) HS ?_
                    simp only [List.getElem_toArray, List.getElem_cons_zero, List.getElem_cons_succ, Act.put, List.setIfInBounds_toArray, List.set_cons_zero, List.set_cons_succ]
                    refine atK_take (i := 6) rfl (by kernel_rfl) (by kernel_rfl) (by kernel_rfl) (by kernel_rfl) (fun _ _ _ h => h) (by rfl) (by intro w hSw; (try dsimp only at hSw); go_split_ands; first | (go_simp; done) | (go_simp; with_reducible rfl)) HS ?_
                    simp only [List.getElem_toArray, List.getElem_cons_zero, List.getElem_cons_succ, Act.put, List.setIfInBounds_toArray, List.set_cons_zero, List.set_cons_succ]
                    refine atK_take (i := 7) rfl (by kernel_rfl) (by kernel_rfl) (by kernel_rfl) (by kernel_rfl) (fun _ _ _ h => h) (by rfl) (by intro w hSw; (try dsimp only at hSw); go_split_ands; first | (go_simp; done) | (go_simp; with_reducible rfl)) HS ?_
                    simp only [List.getElem_toArray, List.getElem_cons_zero, List.getElem_cons_succ, Act.put, List.setIfInBounds_toArray, List.set_cons_zero, List.set_cons_succ]
                    refine atK_take (i := 8) rfl (by kernel_rfl) (by kernel_rfl) (by kernel_rfl) (by kernel_rfl) (fun _ _ _ h => h) (by rfl) (by intro w hSw; (try dsimp only at hSw); go_split_ands; first | (go_simp; done) | (go_simp; with_reducible rfl)) HS ?_
                    simp only [List.getElem_toArray, List.getElem_cons_zero, List.getElem_cons_succ, Act.put, List.setIfInBounds_toArray, List.set_cons_zero, List.set_cons_succ]
                    refine atK_take (i := 9) rfl (by kernel_rfl) (by kernel_rfl) (by kernel_rfl) (by kernel_rfl) (fun _ _ _ h => h) (by rfl) (by intro w hSw; (try dsimp only at hSw); go_split_ands; first | (go_simp; done) | (go_simp; with_reducible rfl)) HS ?_
                    simp only [List.getElem_toArray, List.getElem_cons_zero, List.getElem_cons_succ, Act.put, List.setIfInBounds_toArray, List.set_cons_zero, List.set_cons_succ]
                    refine atK_take (i := 10) rfl (by kernel_rfl) (by kernel_rfl) (by kernel_rfl) (by kernel_rfl) (fun _ _ _ h => h) (by rfl) (by intro w hSw; (try dsimp only at hSw); go_split_ands; first | (go_simp; done) | (go_simp; with_reducible rfl)) HS ?_
                    simp only [List.getElem_toArray, List.getElem_cons_zero, List.getElem_cons_succ, Act.put, List.setIfInBounds_toArray, List.set_cons_zero, List.set_cons_succ]
                    refine atK_take (i := 11) rfl (by kernel_rfl) (by kernel_rfl) (by kernel_rfl) (by kernel_rfl) (fun _ _ _ h => h) (by rfl) (by intro w hSw; (try dsimp only at hSw); go_split_ands; first | (go_simp; done) | (go_simp; with_reducible rfl)) HS ?_
                    simp only [List.getElem_toArray, List.getElem_cons_zero, List.getElem_cons_succ, Act.put, List.setIfInBounds_toArray, List.set_cons_zero, List.set_cons_succ]
                    refine atK_take (i := 12) rfl (by kernel_rfl) (by kernel_rfl) (by kernel_rfl) (by kernel_rfl) (fun _ _ _ h => h) (by rfl) (by intro w hSw; (try dsimp only at hSw); go_split_ands; first | (go_simp; done) | (go_simp; with_reducible rfl)) HS ?_
                    simp only [List.getElem_toArray, List.getElem_cons_zero, List.getElem_cons_succ, Act.put, List.setIfInBounds_toArray, List.set_cons_zero, List.set_cons_succ]
                    refine atK_take (i := 13) rfl (by kernel_rfl) (by kernel_rfl) (by kernel_rfl) (by kernel_rfl) (fun _ _ _ h => h) (by rfl) (by intro w hSw; (try dsimp only at hSw); go_split_ands; first | (go_simp; done) | (go_simp; with_reducible rfl)) HS ?_
                    simp only [List.getElem_toArray, List.getElem_cons_zero, List.getElem_cons_succ, Act.put, List.setIfInBounds_toArray, List.set_cons_zero, List.set_cons_succ]
                    refine atK_take (i := 14) rfl (by kernel_rfl) (by kernel_rfl) (by kernel_rfl) (by kernel_rfl) (fun _ _ _ h => h) (by rfl) (by intro w hSw; (try dsimp only at hSw); go_split_ands; first | (go_simp; done) | (go_simp; with_reducible rfl)) HS ?_
                    simp only [List.getElem_toArray, List.getElem_cons_zero, List.getElem_cons_succ, Act.put, List.setIfInBounds_toArray, List.set_cons_zero, List.set_cons_succ]
                    refine atK_take (i := 15) rfl (by kernel_rfl) (by kernel_rfl) (by kernel_rfl) (by kernel_rfl) (fun _ _ _ h => h) (by rfl) (by intro w hSw; (try dsimp only at hSw); go_split_ands; first | (go_simp; done) | (go_simp; with_reducible rfl)) HS ?_
                    simp only [List.getElem_toArray, List.getElem_cons_zero, List.getElem_cons_succ, Act.put, List.setIfInBounds_toArray, List.set_cons_zero, List.set_cons_succ]
                    refine atK_take (i := 16) rfl (by kernel_rfl) (by kernel_rfl) (by kernel_rfl) (by kernel_rfl) (fun _ _ _ h => h) (by rfl) (by intro w hSw; (try dsimp only at hSw); go_split_ands; first | (go_simp; done) | (go_simp; with_reducible rfl)) HS ?_
                    simp only [List.getElem_toArray, List.getElem_cons_zero, List.getElem_cons_succ, Act.put, List.setIfInBounds_toArray, List.set_cons_zero, List.set_cons_succ]
                    refine atK_take (i := 17) rfl (by kernel_rfl) (by kernel_rfl) (by kernel_rfl) (by kernel_rfl) (fun _ _ _ h => h) (by rfl) (by intro w hSw; (try dsimp only at hSw); go_split_ands; first | (go_simp; done) | (go_simp; with_reducible rfl)) HS ?_
                    simp only [List.getElem_toArray, List.getElem_cons_zero, List.getElem_cons_succ, Act.put, List.setIfInBounds_toArray, List.set_cons_zero, List.set_cons_succ]
                    refine atK_take (i := 18) rfl (by kernel_rfl) (by kernel_rfl) (by kernel_rfl) (by kernel_rfl) (fun _ _ _ h => h) (by rfl) (by intro w hSw; (try dsimp only at hSw); go_split_ands; first | (go_simp; done) | (go_simp; with_reducible rfl)) HS ?_
                    simp only [List.getElem_toArray, List.getElem_cons_zero, List.getElem_cons_succ, Act.put, List.setIfInBounds_toArray, List.set_cons_zero, List.set_cons_succ]
                    refine atK_take (i := 19) rfl (by kernel_rfl) (by kernel_rfl) (by kernel_rfl) (by kernel_rfl) (fun _ _ _ h => h) (by rfl) (by intro w hSw; (try dsimp only at hSw); go_split_ands; first | (go_simp; done) | (go_simp; with_reducible rfl)) HS ?_
                    simp only [List.getElem_toArray, List.getElem_cons_zero, List.getElem_cons_succ, Act.put, List.setIfInBounds_toArray, List.set_cons_zero, List.set_cons_succ]
                    refine atK_take (i := 20) rfl (by kernel_rfl) (by kernel_rfl) (by kernel_rfl) (by kernel_rfl) (fun _ _ _ h => h) (by rfl) (by intro w hSw; (try dsimp only at hSw); go_split_ands; first | (go_simp; done) | (go_simp; with_reducible rfl)) HS ?_
                    simp only [List.getElem_toArray, List.getElem_cons_zero, List.getElem_cons_succ, Act.put, List.setIfInBounds_toArray, List.set_cons_zero, List.set_cons_succ]
                    refine atK_take (i := 21) rfl (by kernel_rfl) (by kernel_rfl) (by kernel_rfl) (by kernel_rfl) (fun _ _ _ h => h) (by rfl) (by intro w hSw; (try dsimp only at hSw); go_split_ands; first | (go_simp; done) | (go_simp; with_reducible rfl)) HS ?_
                    simp only [List.getElem_toArray, List.getElem_cons_zero, List.getElem_cons_succ, Act.put, List.setIfInBounds_toArray, List.set_cons_zero, List.set_cons_succ]
                    refine atK_one (i := 22) (by kernel_rfl) rfl (fun K' hK => ?_)
                    rw [if_pos (by rfl)]
                    go_simp
                    refine hK.out _ _ (fun h => absurd rfl h) ?_
                    clear hK K'
                    try simp only [List.getElem_toArray, List.getElem_cons_zero, List.getElem_cons_succ, Act.put, List.setIfInBounds_toArray, List.set_cons_zero, List.set_cons_succ]
                    refine atK_done (by kernel_rfl) ?_ _
                    refine NoPanic.normal ?_
                    have H3 := H2.out
                    rw [List.set_set] at H3
                    have HH3 := Lib.hid H3
                    clear H3 H2 f0 f1 f2 f3 f4 f5 hz1 hz2 hne hl1 hl2 x3 HS hwc s0 s1 s2 s3
                    go_wp2_with fail
                    go_roundw
                    case rel => exact ⟨k + 1, _, _, _, by omega, by go_num, HH3, HGT⟩
                    case measure => simp [intOf]; omega
              · have hiq2 : ¬ (i : Int) < (q : Int) := by omega
                have hib : ((i : Int) == (q : Int)) = true := by simp; omega
                have HIQ := Lib.hid (show i = q by omega)
                have HGM := Lib.hid (hG.out.mid_miss HPK.out (by rw [hq]; exact hiq) hlo.out (fun r' hr' => by rw [List.getElem?_eq_none (by omega)] at hr'; cases hr'))
                have hdq : decide ((i : Int) < (q : Int)) = false := by simp; omega
                have hdq2 : decide (i < q) = false := by simp; omega
                go_wp2_with fail
                go_quiet (fail)
                go_wp2_with fail
                clear s0 s1 s2 s3
                have HH := Lib.hid (hh.out.go (below_drewN' (Below.refl wi.heap.size wi) nq))
                clear x3
                generalize wi.drewN nq = wq at HH ⊢
                have x3 := HH.out.blk.cell 1
                simp at x3
                obtain ⟨s0, s1, s2, s3⟩ := RDK.out wq (b35.out.trans (HH.out.below.mono b35.out.size))
                go_quiet (fail)
                clear s0 s1 s2 s3
                have HH2 := Lib.hid (HH.out.go (below_drewN' (Below.refl wq.heap.size wq) nq))
                clear x3
                generalize wq.drewN nq = wp at HH2 ⊢
                clear hib hiq2 hh HH hdq hdq2 hlt2
                have x3 := HH2.out.blk.cell 1
                simp at x3
                obtain ⟨s0, s1, s2, s3⟩ := RDK.out wp (b35.out.trans (HH2.out.below.mono b35.out.size))
                have OW := Lib.hid (show wp.ownsRow (w4.heap.size + 1 + 1) 40 1 (.slice A9 q c9) q vs by have h := HH2.out.rows.own; rw [hq] at h; exact h)
                have ONE := Lib.hid HH2.out.rows.one
                have hzz := HH2.out.zs
                have hTw := HH2.out.blk.lt
                have hbw := HH2.out.below.size
                have hbase := HH2.out.base
                have RO := Lib.hid (((Reads.of_own OW.out).alloc (Nat.le_refl _) (.cells #[] 40)).cut (k := i) (cap := c9) hiq hqc)
                simp only [Nat.mul_one] at RO
                have omP := Lib.hid (World.ownsRow_made (base := wp.heap.size) (e := 40) (size := 1) wp #[] 0 (Nat.le_refl _) (by unfold maxLen; omega) rfl)
                have x3' := fun o => (World.cell?_alloc_some wp ⟨w4.heap.size + 1, 1, none⟩ o (by rw [x3]; rfl)).trans x3
                have hiq0 : (i : Int) ≤ (q : Int) := by omega
                have hic0 : (i : Int) ≤ (c9 : Int) := by omega
                have hic : i ≤ c9 := by omega
                have hqc0 : (q : Int) ≤ (c9 : Int) := by omega
                go_upto_region 14 with fail
                go_cut [13] from 45 to 159 (fun v13 w' => ∃ (A13 : Option Addr) (c13 : Nat), v13 = .slice A13 (q - i) c13 ∧ Hid (w'.ownsRow wp.heap.size 40 1 (.slice A13 (q - i) c13) (q - i) (vs.drop i)) ∧ Hid (Below wp.heap.size wp w'))
                case first =>
                  by_cases hci : c9 = i
                  · have RO1 := RO.out
                    rw [if_pos hci] at RO1
                    have RO2 := Lib.hid RO1
                    clear RO1
                    go_wp2_with (first
                      | (at_builtin; refine wpList_append_any _ rfl (.tmp 100) (.tmp 104) 24 rfl wp.heap.size 40 j0 _ 1 24 Tryd.underlying24 hjI hjz0 hjz1 hjz2 rfl (by decide) _ 0 [] rfl omP.out wp.heap.size _ (q - i) _ (vs.drop i) rfl RO2.out (fun u hu => ONE.out u (List.mem_of_mem_drop hu)) (by unfold maxLen; omega) (by omega) (by simp) ?_; intro v13 w6 ho13 hg13 hd13; rw [List.nil_append, Nat.zero_add] at ho13; obtain ⟨A13, c13, rfl, _, _⟩ := own_form ho13; have b6 : Below wp.heap.size wp w6 := ((Below.refl _ _).alloc (Nat.le_refl _) _).grown hg13 (by simp) (fun g' e => by simp [Act.eval, Value.ownBlock] at e ⊢; omega)))
                    go_meet
                    case rel => exact ⟨A13, c13, rfl, ho13, b6⟩
                  · have RO1 := RO.out
                    rw [if_neg hci] at RO1
                    have RO2 := Lib.hid RO1
                    clear RO1
                    go_wp2_with (first
                      | (at_builtin; refine wpList_append_any _ rfl (.tmp 100) (.tmp 104) 24 rfl wp.heap.size 40 j0 _ 1 24 Tryd.underlying24 hjI hjz0 hjz1 hjz2 rfl (by decide) _ 0 [] rfl omP.out wp.heap.size _ (q - i) _ (vs.drop i) rfl RO2.out (fun u hu => ONE.out u (List.mem_of_mem_drop hu)) (by unfold maxLen; omega) (by omega) (by simp) ?_; intro v13 w6 ho13 hg13 hd13; rw [List.nil_append, Nat.zero_add] at ho13; obtain ⟨A13, c13, rfl, _, _⟩ := own_form ho13; have b6 : Below wp.heap.size wp w6 := ((Below.refl _ _).alloc (Nat.le_refl _) _).grown hg13 (by simp) (fun g' e => by simp [Act.eval, Value.ownBlock] at e ⊢; omega)))
                    go_meet
                    case rel => exact ⟨A13, c13, rfl, ho13, b6⟩
                obtain ⟨A13, c13, rfl, O13, B6⟩ := hcut
                obtain ⟨w6, rfl⟩ : ∃ x, x = wc := ⟨_, rfl⟩
                clear x3' omP RO
                go_wp2_with fail
                have HS0 : wp.cell? ⟨w4.heap.size + 1, 1, none⟩ = some (.slice A9 q c9) ∧ wp.cell? ⟨w.heap.size, 1, none⟩ = some (.slice (some ad) m d2) ∧ wp.cell? (ad.add k) = some (.slice (some rd) n ck) ∧ wp.cell? (rd.add gi) = some (.int .i64 a) := ⟨x3, s0, s1, s2⟩
                have KEEP := Lib.hid (fun (w' : World) (h : Below wp.heap.size wp w') => show w'.cell? ⟨w4.heap.size + 1, 1, none⟩ = some (.slice A9 q c9) ∧ w'.cell? ⟨w.heap.size, 1, none⟩ = some (.slice (some ad) m d2) ∧ w'.cell? (ad.add k) = some (.slice (some rd) n ck) ∧ w'.cell? (rd.add gi) = some (.int .i64 a) from ⟨below_keep h HS0.1, below_keep h HS0.2.1, below_keep h HS0.2.2.1, below_keep h HS0.2.2.2⟩)
                have b6 := B6.out
                have bd : Below wp.heap.size wp w6.drew := b6.drew
                have HS := KEEP.out _ bd
                have hs6 := b6.size
                refine wp_region_noPanic ?_
                refine wp_region_K (by kernel_rfl) (fun w' => w'.cell? ⟨w4.heap.size + 1, 1, none⟩ = some (.slice A9 q c9) ∧ w'.cell? ⟨w.heap.size, 1, none⟩ = some (.slice (some ad) m d2) ∧ w'.cell? (ad.add k) = some (.slice (some rd) n ck) ∧ w'.cell? (rd.add gi) = some (.int .i64 a)) 18 ?_
                refine atK_take (i := 0) rfl (by kernel_rfl) (by kernel_rfl) (by kernel_rfl) (by kernel_rfl) (fun _ _ _ h => h) (by rfl) (by intro w hSw; (try dsimp only at hSw); go_split_ands; first | (go_simp; done) | (go_simp; with_reducible rfl)) HS ?_
                simp only [List.getElem_toArray, List.getElem_cons_zero, List.getElem_cons_succ, Act.put, List.setIfInBounds_toArray, List.set_cons_zero, List.set_cons_succ]
                refine atK_take (i := 1) rfl (by kernel_rfl) (by kernel_rfl) (by kernel_rfl) (by kernel_rfl) (fun _ _ _ h => h) (by rfl) (by intro w hSw; (try dsimp only at hSw); go_split_ands; first | (go_simp; done) | (go_simp; with_reducible rfl)) HS ?_
                simp only [List.getElem_toArray, List.getElem_cons_zero, List.getElem_cons_succ, Act.put, List.setIfInBounds_toArray, List.set_cons_zero, List.set_cons_succ]
                refine atK_take (i := 2) rfl (by kernel_rfl) (by kernel_rfl) (by kernel_rfl) (by kernel_rfl) (fun _ _ _ h => h) (by rfl) (by intro w hSw; (try dsimp only at hSw); go_split_ands; first | (go_simp; done) | (go_simp; with_reducible rfl)) HS ?_
                simp only [List.getElem_toArray, List.getElem_cons_zero, List.getElem_cons_succ, Act.put, List.setIfInBounds_toArray, List.set_cons_zero, List.set_cons_succ]
                refine atK_take (i := 3) rfl (by kernel_rfl) (by kernel_rfl) (by kernel_rfl) (by kernel_rfl) (fun _ _ _ h => h) (by rfl) (by intro w hSw; (try dsimp only at hSw); go_split_ands; first | (go_simp; done) | (go_simp; with_reducible rfl)) HS ?_
                simp only [List.getElem_toArray, List.getElem_cons_zero, List.getElem_cons_succ, Act.put, List.setIfInBounds_toArray, List.set_cons_zero, List.set_cons_succ]
                refine atK_take (i := 4) rfl (by kernel_rfl) (by kernel_rfl) (by kernel_rfl) (by kernel_rfl) (fun _ _ _ h => h) (by rfl) (by intro w hSw; (try dsimp only at hSw); go_split_ands; first | (go_simp; done) | (go_simp; with_reducible rfl)) HS ?_
                simp only [List.getElem_toArray, List.getElem_cons_zero, List.getElem_cons_succ, Act.put, List.setIfInBounds_toArray, List.set_cons_zero, List.set_cons_succ]
                refine atK_take (i := 5) rfl (by kernel_rfl) (by kernel_rfl) (by kernel_rfl) (by kernel_rfl) (fun _ _ _ h => h) (by rfl) (by intro w hSw; (try dsimp only at hSw); go_split_ands; first | (go_simp; done) | (go_simp; with_reducible rfl)) HS ?_
                simp only [List.getElem_toArray, List.getElem_cons_zero, List.getElem_cons_succ, Act.put, List.setIfInBounds_toArray, List.set_cons_zero, List.set_cons_succ]
                refine atK_take (i := 6) rfl (by kernel_rfl) (by kernel_rfl) (by kernel_rfl) (by kernel_rfl) (fun _ _ _ h => h) (by rfl) (by intro w hSw; (try dsimp only at hSw); go_split_ands; first | (go_simp; done) | (go_simp; with_reducible rfl)) HS ?_
                simp only [List.getElem_toArray, List.getElem_cons_zero, List.getElem_cons_succ, Act.put, List.setIfInBounds_toArray, List.set_cons_zero, List.set_cons_succ]
                refine atK_take (i := 7) rfl (by kernel_rfl) (by kernel_rfl) (by kernel_rfl) (by kernel_rfl) (fun _ _ _ h => h) (by rfl) (by intro w hSw; (try dsimp only at hSw); go_split_ands; first | (go_simp; done) | (go_simp; with_reducible rfl)) HS ?_
                simp only [List.getElem_toArray, List.getElem_cons_zero, List.getElem_cons_succ, Act.put, List.setIfInBounds_toArray, List.set_cons_zero, List.set_cons_succ]
                refine atK_take (i := 8) rfl (by kernel_rfl) (by kernel_rfl) (by kernel_rfl) (by kernel_rfl) (fun _ _ _ h => h) (by rfl) (by intro w hSw; (try dsimp only at hSw); go_split_ands; first | (go_simp; done) | (go_simp; with_reducible rfl)) HS ?_
                simp only [List.getElem_toArray, List.getElem_cons_zero, List.getElem_cons_succ, Act.put, List.setIfInBounds_toArray, List.set_cons_zero, List.set_cons_succ]
                refine atK_take (i := 9) rfl (by kernel_rfl) (by kernel_rfl) (by kernel_rfl) (by kernel_rfl) (fun _ _ _ h => h) (by rfl) (by intro w hSw; (try dsimp only at hSw); go_split_ands; first | (go_simp; done) | (go_simp; with_reducible rfl)) HS ?_
                simp only [List.getElem_toArray, List.getElem_cons_zero, List.getElem_cons_succ, Act.put, List.setIfInBounds_toArray, List.set_cons_zero, List.set_cons_succ]
                refine atK_take (i := 10) rfl (by kernel_rfl) (by kernel_rfl) (by kernel_rfl) (by kernel_rfl) (fun _ _ _ h => h) (by rfl) (by intro w hSw; (try dsimp only at hSw); go_split_ands; first | (go_simp; done) | (go_simp; with_reducible rfl)) HS ?_
                simp only [List.getElem_toArray, List.getElem_cons_zero, List.getElem_cons_succ, Act.put, List.setIfInBounds_toArray, List.set_cons_zero, List.set_cons_succ]
                refine atK_take (i := 11) rfl (by kernel_rfl) (by kernel_rfl) (by kernel_rfl) (by kernel_rfl) (fun _ _ _ h => h) (by rfl) (by intro w hSw; (try dsimp only at hSw); go_split_ands; first | (go_simp; done) | (go_simp; with_reducible rfl)) HS ?_
                simp only [List.getElem_toArray, List.getElem_cons_zero, List.getElem_cons_succ, Act.put, List.setIfInBounds_toArray, List.set_cons_zero, List.set_cons_succ]
                refine atK_take (i := 15) rfl (by kernel_rfl) (by kernel_rfl) (by kernel_rfl) (by kernel_rfl) (fun _ _ _ h => h) (by rfl) (by intro w hSw; (try dsimp only at hSw); go_split_ands; first | (go_simp; done) | (go_simp; with_reducible rfl)) HS ?_
                simp only [List.getElem_toArray, List.getElem_cons_zero, List.getElem_cons_succ, Act.put, List.setIfInBounds_toArray, List.set_cons_zero, List.set_cons_succ]
                refine atK_one (i := 12) (by kernel_rfl) rfl (fun K' hK => ?_)
                rw [if_pos (by rfl)]
                go_simp
                have b5' : Below wp.heap.size wp (w6.alloc (.cells #[.int .i64 a, .int .i64 0, .int .i64 0] 3)).drew := (b6.alloc hs6 _).drew
                have OU := Lib.hid (own_lit2 w6 w6.heap.size 3 (inCells [a, 0, 0]) (Nat.le_refl _) (by unfold maxLen; simp [inCells])).drew
                refine hK.out _ _ (fun _ => KEEP.out _ b5') ?_
                clear hK K'
                try simp only [List.getElem_toArray, List.getElem_cons_zero, List.getElem_cons_succ, Act.put, List.setIfInBounds_toArray, List.set_cons_zero, List.set_cons_succ]
                refine atK_one (i := 13) (by kernel_rfl) rfl (fun K' hK => ?_)
                rw [if_pos (by rfl)]
                go_simp
                have b5a : Below wp.heap.size wp ((w6.alloc (.cells #[.int .i64 a, .int .i64 0, .int .i64 0] 3)).alloc (.cells #[.slice (some ⟨w6.heap.size, 0, none⟩) 3 3] 40)).drew := ((b6.alloc hs6 _).alloc (by simp; omega) _).drew
                have OU2 := Lib.hid ((OU.out.alloc (.cells #[.slice (some ⟨w6.heap.size, 0, none⟩) 3 3] 40)))
                have hsz5 : ((w6.alloc (.cells #[.int .i64 a, .int .i64 0, .int .i64 0] 3)).alloc (.cells #[.slice (some ⟨w6.heap.size, 0, none⟩) 3 3] 40)).drew.heap.size = w6.heap.size + 1 + 1 := by
                  show ((w6.alloc (.cells #[.int .i64 a, .int .i64 0, .int .i64 0] 3)).alloc (.cells #[.slice (some ⟨w6.heap.size, 0, none⟩) 3 3] 40)).heap.size = _
                  simp
                refine hK.out _ _ (fun _ => KEEP.out _ b5a) ?_
                clear hK K'
                try simp only [List.getElem_toArray, List.getElem_cons_zero, List.getElem_cons_succ, Act.put, List.setIfInBounds_toArray, List.set_cons_zero, List.set_cons_succ]
                refine atK_one (i := 14) (by kernel_rfl) rfl (fun K' hK => ?_)
                refine step_append_any _ (by rfl) (.tmp 109) (.tmp 119) 24 (by rfl) (w4.heap.size + 1 + 1) 40 j0 _ 1 24 Tryd.underlying24 hjI hjz0 hjz1 hjz2 (by rfl) (by decide) _ i (vs.take i) (by rfl) (own_take (own_below OW.out b5a) hiq) (w6.heap.size + 1 + 1) (some ⟨w6.heap.size + 1, 0, none⟩) 1 1 [.slice (some ⟨w6.heap.size, 0, none⟩) 3 3] (by rfl) ⟨rfl, fun _ => ⟨_, rfl, (show w6.heap.size + 1 < _ by omega), fun j u hu => by
                  have h := cells_new (w6.alloc (.cells #[.int .i64 a, .int .i64 0, .int .i64 0] 3)) 40 [.slice (some ⟨w6.heap.size, 0, none⟩) 3 3] j u hu
                  rw [World.size_alloc] at h
                  exact h⟩⟩ (oneCells rfl) (by unfold maxLen; omega) (by omega) (by have := b5a.size; omega) ?_
                intro v7 w7 ho7 hg7 hd7
                have hob := ob_len A9 q i c9
                have hrow : ∀ g', (Value.slice A9 q c9).ownBlock = some g' → w4.heap.size + 1 + 1 ≤ g' ∧ g' < wp.heap.size := fun g' e => OW.out.lt g' e
                have GR7 : wp.grownBy w7 (Value.slice A9 q c9).ownBlock := grown_then (only_of_below b5a _) hg7 (fun g' e => .inl (by rw [← hob]; exact e))
                have o13 := (own_below O13.out ((Below.refl w6.heap.size w6).alloc (Nat.le_refl _) (.cells #[.int .i64 a, .int .i64 0, .int .i64 0] 3))).alloc (.cells #[.slice (some ⟨w6.heap.size, 0, none⟩) 3 3] 40)
                have o13d := o13.drew
                have O137 := o13d.kept hg7 (by
                  cases e : (Value.slice A13 (q - i) c13).ownBlock with
                  | none => exact .inl rfl
                  | some g' => exact .inr (fun e' => by have h1 := (O13.out.lt g' e).1; have h2 := (hrow g' (by rw [← hob]; exact e'.symm)).2; omega))
                have OU7 := (OU2.out).kept hg7 (.inr (fun e' => by have h2 := (hrow w6.heap.size (by rw [← hob]; exact e'.symm)).2; omega))
                obtain ⟨A7, c7, rfl, _, _⟩ := own_form ho7
                have hv7 : ∀ g', (Value.slice A7 (i + 1) c7).ownBlock = some g' → (Value.slice A9 q c9).ownBlock = some g' ∨ wp.heap.size ≤ g' := fun g' e => by
                  rcases hd7 with h | h
                  · exact .inl (by rw [← hob, ← h]; exact e)
                  · rw [e] at h
                    have := Option.some.inj h
                    exact .inr (by omega)
                have KEEPG := Lib.hid (fun (w' : World) (hg : wp.grownBy w' (Value.slice A9 q c9).ownBlock) => show w'.cell? ⟨w4.heap.size + 1, 1, none⟩ = some (.slice A9 q c9) ∧ w'.cell? ⟨w.heap.size, 1, none⟩ = some (.slice (some ad) m d2) ∧ w'.cell? (ad.add k) = some (.slice (some rd) n ck) ∧ w'.cell? (rd.add gi) = some (.int .i64 a) from by
                  have kp : ∀ (p : Addr) (v : Value), p.block < w4.heap.size + 1 + 1 → p.block < wp.heap.size → wp.cell? p = some v → w'.cell? p = some v := fun p v h1 h2 hc => (World.cell?_of_block (hg.block _ h2 (fun e => by have := (hrow _ e.symm).1; omega))).trans hc
                  have hb35 := b35.out.size
                  have h45 := H45.out
                  have hrd : (rd.add gi).block < w3.heap.size := by rw [block_of_add]; exact hrb
                  have had : (ad.add k).block < w3.heap.size := by rw [block_of_add]; exact hadb
                  exact ⟨kp ⟨w4.heap.size + 1, 1, none⟩ _ (show w4.heap.size + 1 < _ by omega) hTw HS0.1, kp ⟨w.heap.size, 1, none⟩ _ (show w.heap.size < _ by omega) (show w.heap.size < _ by omega) HS0.2.1, kp _ _ (by omega) (by omega) HS0.2.2.1, kp _ _ (by omega) (by omega) HS0.2.2.2⟩)
                refine hK.out _ _ (fun _ => KEEPG.out _ GR7) ?_
                clear hK K'
                try simp only [List.getElem_toArray, List.getElem_cons_zero, List.getElem_cons_succ, Act.put, List.setIfInBounds_toArray, List.set_cons_zero, List.set_cons_succ]
                refine atK_one (i := 16) (by kernel_rfl) rfl (fun K' hK => ?_)
                refine step_append_any _ (by rfl) (.tmp 120) (.tmp 121) 24 (by rfl) (w4.heap.size + 1 + 1) 40 j0 _ 1 24 Tryd.underlying24 hjI hjz0 hjz1 hjz2 (by rfl) (by decide) _ (i + 1) _ (by rfl) ho7 w7.heap.size A13 (q - i) c13 (vs.drop i) (by rfl) (Reads.of_own O137) (fun u hu => ONE.out u (List.mem_of_mem_drop hu)) (by unfold maxLen; omega) (by omega) (by have := GR7.size; omega) ?_
                intro v8 w8 ho8 hg8 hd8
                have GR8 : wp.grownBy w8 (Value.slice A9 q c9).ownBlock := grown_then GR7 hg8 hv7
                have OU8 := OU7.kept hg8 (.inr (fun e' => own_types OU7 ho7 (by decide) w6.heap.size rfl e'.symm))
                obtain ⟨q1, hq1⟩ : ∃ q1, q1 = q + 1 := ⟨_, rfl⟩
                have HQ1 := Lib.hid hq1
                have hsum : i + 1 + (q - i) = q1 := by omega
                rw [hsum, List.append_assoc] at ho8
                obtain ⟨A8, c8, rfl, _, _⟩ := own_form ho8
                have PU := Lib.hid (HH2.out.insert (i := i) (r := [a, 0, 0]) GR8 (OU8.base_le (by omega)) (fun g' e => by simp [Value.ownBlock] at e; omega) (by rw [hq, ← hq1]; exact ho8) (by rw [hq]; exact hiq))
                have F8 := HH2.out.blk.grown GR8 (fun e => by have : w4.heap.size + 1 + 1 ≤ w4.heap.size + 1 := (hrow _ e.symm).1; omega)
                have F8c := F8.cell 1
                have F8f := F8.frozen 1
                simp at F8c
                have HS8 := KEEPG.out _ GR8
                refine hK.out _ _ (fun _ => HS8) ?_
                have hqq1 : (i : Int) < (q1 : Int) := by omega
                have hqq2 : i < q1 := by omega
                clear hK K' hg7 hd7 hg8 hd8 hq1 hsum
                try simp only [List.getElem_toArray, List.getElem_cons_zero, List.getElem_cons_succ, Act.put, List.setIfInBounds_toArray, List.set_cons_zero, List.set_cons_succ]
                refine atK_take (i := 17) rfl (by kernel_rfl) (by kernel_rfl) (by kernel_rfl) (by kernel_rfl) (fun _ _ _ h => h) (by rfl) (by intro w hSw; (try dsimp only at hSw); go_split_ands; first | (go_simp; done) | (go_simp; with_reducible rfl)) HS8 ?_
                simp only [List.getElem_toArray, List.getElem_cons_zero, List.getElem_cons_succ, Act.put, List.setIfInBounds_toArray, List.set_cons_zero, List.set_cons_succ]
                refine atK_one (i := 18) (by kernel_rfl) rfl (fun K' hK => ?_)
                rw [if_pos (by rfl)]
                go_simp
                refine hK.out _ _ (fun h => absurd rfl h) ?_
                clear hK K'
                try simp only [List.getElem_toArray, List.getElem_cons_zero, List.getElem_cons_succ, Act.put, List.setIfInBounds_toArray, List.set_cons_zero, List.set_cons_succ]
                refine atK_done (by kernel_rfl) ?_ _
                refine NoPanic.normal ?_
                have HHT := Lib.hid PU.out
                have hql : (G.take i ++ [a, 0, 0] :: G.drop i).length = q1 := by rw [ins_len (by rw [hq]; exact hiq), hq, HQ1.out]
                clear PU F8 F8c F8f HS8 HS HS0 x3 s0 s1 s2 s3 ho7 ho8 OU7 OU8 O137 o13 o13d GR7 GR8 hv7 hrow hob b5' b5a b6 bd hsz5
                simp only [Array.setIfInBounds] at HHT
                generalize hw9 : w8.setCell ⟨w4.heap.size + 1, 1, none⟩ (.slice A8 q1 c8) = w9 at HHT ⊢
                clear hw9
                have hrT := ins_mid (y := [a, 0, 0]) (l := G) (i := i) (by rw [hq]; exact hiq)
                obtain ⟨c0, hc0⟩ : ∃ c : Int, c = 0 := ⟨_, rfl⟩
                obtain ⟨t0, ht0⟩ : ∃ c : Int, c = 0 := ⟨_, rfl⟩
                have HRT := Lib.hid (show (G.take i ++ [a, 0, 0] :: G.drop i)[i]? = some [a, c0, t0] by rw [hc0, ht0]; exact hrT)
                have HGT := Lib.hid (show GroupR ((grpP names rows g s).take (k + 1)) ((G.take i ++ [a, 0, 0] :: G.drop i).set i [a, c0 + 1, t0 + b]) by rw [hc0, ht0]; exact HGM.out)
                have hc1 : 0 ≤ c0 := by omega
                have hc2 : c0 ≤ 16 := by omega
                have ht1 : -1600000 ≤ t0 := by omega
                have ht2 : t0 ≤ 1600000 := by omega
                clear hc0 ht0 hrT HGM
                obtain ⟨gR, gb, cb, eA, hu, f0, f1, f2, f3, f4, f5, hz1, hz2, hne, hl1, hl2⟩ := HHT.out.at3 hql HRT.out
                (first | subst eA | (simp only [Option.some.injEq, Addr.mk.injEq, and_true] at eA; subst eA))
                have x3 := HHT.out.blk.cell 1
                simp at x3
                go_wp2_with fail
                have H0 := Lib.hid HHT.out.drew
                have H1 := Lib.hid (H0.out.put (j := 1) hu HRT.out (c0 + 1))
                have hwc : IntKind.i64.wrap (c0 + 1) = c0 + 1 := IntWalk.i64_in _ (by omega)
                have HS : w9.drew.cell? ⟨w4.heap.size + 1, 1, none⟩ = some (.slice (some ⟨gR, 0, none⟩) q1 c8) ∧ w9.drew.cell? ⟨gR, i, none⟩ = some (.slice (some ⟨gb, 0, none⟩) 3 cb) ∧ w9.drew.cell? ⟨gb, 1, none⟩ = some (.int .i64 c0) := ⟨x3, f0, f2⟩
                refine wp_region_noPanic ?_
                refine wp_region_K (by kernel_rfl) (fun w' => w'.cell? ⟨w4.heap.size + 1, 1, none⟩ = some (.slice (some ⟨gR, 0, none⟩) q1 c8) ∧ w'.cell? ⟨gR, i, none⟩ = some (.slice (some ⟨gb, 0, none⟩) 3 cb) ∧ w'.cell? ⟨gb, 1, none⟩ = some (.int .i64 c0)) 14 ?_
                refine atK_take (i := 0) rfl (by kernel_rfl) (by kernel_rfl) (by kernel_rfl) (by kernel_rfl) (fun _ _ _ h => h) (by rfl) (by intro w hSw; (try dsimp only at hSw); go_split_ands; first | (go_simp; done) | (go_simp; with_reducible rfl)) HS ?_
                simp only [List.getElem_toArray, List.getElem_cons_zero, List.getElem_cons_succ, Act.put, List.setIfInBounds_toArray, List.set_cons_zero, List.set_cons_succ]
                refine atK_take (i := 1) rfl (by kernel_rfl) (by kernel_rfl) (by kernel_rfl) (by kernel_rfl) (fun _ _ _ h => h) (by rfl) (by intro w hSw; (try dsimp only at hSw); go_split_ands; first | (go_simp; done) | (go_simp; with_reducible rfl)) HS ?_
                simp only [List.getElem_toArray, List.getElem_cons_zero, List.getElem_cons_succ, Act.put, List.setIfInBounds_toArray, List.set_cons_zero, List.set_cons_succ]
                refine atK_take (i := 2) rfl (by kernel_rfl) (by kernel_rfl) (by kernel_rfl) (by kernel_rfl) (fun _ _ _ h => h) (by rfl) (by intro w hSw; (try dsimp only at hSw); go_split_ands; first | (go_simp; done) | (go_simp; with_reducible rfl)) HS ?_
                simp only [List.getElem_toArray, List.getElem_cons_zero, List.getElem_cons_succ, Act.put, List.setIfInBounds_toArray, List.set_cons_zero, List.set_cons_succ]
                refine atK_take (i := 3) rfl (by kernel_rfl) (by kernel_rfl) (by kernel_rfl) (by kernel_rfl) (fun _ _ _ h => h) (by rfl) (by intro w hSw; (try dsimp only at hSw); go_split_ands; first | (go_simp; done) | (go_simp; with_reducible rfl)) HS ?_
                simp only [List.getElem_toArray, List.getElem_cons_zero, List.getElem_cons_succ, Act.put, List.setIfInBounds_toArray, List.set_cons_zero, List.set_cons_succ]
                refine atK_take (i := 4) rfl (by kernel_rfl) (by kernel_rfl) (by kernel_rfl) (by kernel_rfl) (fun _ _ _ h => h) (by rfl) (by intro w hSw; (try dsimp only at hSw); go_split_ands; first | (go_simp; done) | (go_simp; with_reducible rfl)) HS ?_
                simp only [List.getElem_toArray, List.getElem_cons_zero, List.getElem_cons_succ, Act.put, List.setIfInBounds_toArray, List.set_cons_zero, List.set_cons_succ]
                refine atK_take (i := 5) rfl (by kernel_rfl) (by kernel_rfl) (by kernel_rfl) (by kernel_rfl) (fun _ _ _ h => h) (by rfl) (by intro w hSw; (try dsimp only at hSw); go_split_ands; first | (go_simp; done) | (go_simp; with_reducible rfl)) HS ?_
                simp only [List.getElem_toArray, List.getElem_cons_zero, List.getElem_cons_succ, Act.put, List.setIfInBounds_toArray, List.set_cons_zero, List.set_cons_succ]
                refine atK_take (i := 6) rfl (by kernel_rfl) (by kernel_rfl) (by kernel_rfl) (by kernel_rfl) (fun _ _ _ h => h) (by rfl) (by intro w hSw; (try dsimp only at hSw); go_split_ands; first | (go_simp; done) | (go_simp; with_reducible rfl)) HS ?_
                simp only [List.getElem_toArray, List.getElem_cons_zero, List.getElem_cons_succ, Act.put, List.setIfInBounds_toArray, List.set_cons_zero, List.set_cons_succ]
                refine atK_take (i := 7) rfl (by kernel_rfl) (by kernel_rfl) (by kernel_rfl) (by kernel_rfl) (fun _ _ _ h => h) (by rfl) (by intro w hSw; (try dsimp only at hSw); go_split_ands; first | (go_simp; done) | (go_simp; with_reducible rfl)) HS ?_
                simp only [List.getElem_toArray, List.getElem_cons_zero, List.getElem_cons_succ, Act.put, List.setIfInBounds_toArray, List.set_cons_zero, List.set_cons_succ]
                refine atK_take (i := 8) rfl (by kernel_rfl) (by kernel_rfl) (by kernel_rfl) (by kernel_rfl) (fun _ _ _ h => h) (by rfl) (by intro w hSw; (try dsimp only at hSw); go_split_ands; first | (go_simp; done) | (go_simp; with_reducible rfl)) HS ?_
                simp only [List.getElem_toArray, List.getElem_cons_zero, List.getElem_cons_succ, Act.put, List.setIfInBounds_toArray, List.set_cons_zero, List.set_cons_succ]
                refine atK_take (i := 9) rfl (by kernel_rfl) (by kernel_rfl) (by kernel_rfl) (by kernel_rfl) (fun _ _ _ h => h) (by rfl) (by intro w hSw; (try dsimp only at hSw); go_split_ands; first | (go_simp; done) | (go_simp; with_reducible rfl)) HS ?_
                simp only [List.getElem_toArray, List.getElem_cons_zero, List.getElem_cons_succ, Act.put, List.setIfInBounds_toArray, List.set_cons_zero, List.set_cons_succ]
                refine atK_take (i := 10) rfl (by kernel_rfl) (by kernel_rfl) (by kernel_rfl) (by kernel_rfl) (fun _ _ _ h => h) (by rfl) (by intro w hSw; (try dsimp only at hSw); go_split_ands; first | (go_simp; done) | (go_simp; with_reducible rfl)) HS ?_
                simp only [List.getElem_toArray, List.getElem_cons_zero, List.getElem_cons_succ, Act.put, List.setIfInBounds_toArray, List.set_cons_zero, List.set_cons_succ]
                refine atK_take (i := 11) rfl (by kernel_rfl) (by kernel_rfl) (by kernel_rfl) (by kernel_rfl) (fun _ _ _ h => h) (by rfl) (by intro w hSw; (try dsimp only at hSw); go_split_ands; first | (go_simp; done) | (go_simp; with_reducible rfl)) HS ?_
                simp only [List.getElem_toArray, List.getElem_cons_zero, List.getElem_cons_succ, Act.put, List.setIfInBounds_toArray, List.set_cons_zero, List.set_cons_succ]
                refine atK_take (i := 12) rfl (by kernel_rfl) (by kernel_rfl) (by kernel_rfl) (by kernel_rfl) (fun _ _ _ h => h) (by rfl) (by intro w hSw; (try dsimp only at hSw); go_split_ands; first | (go_simp; done) | (go_simp; with_reducible rfl)) HS ?_
                simp only [List.getElem_toArray, List.getElem_cons_zero, List.getElem_cons_succ, Act.put, List.setIfInBounds_toArray, List.set_cons_zero, List.set_cons_succ]
                refine atK_take (i := 13) rfl (by kernel_rfl) (by kernel_rfl) (by kernel_rfl) (by kernel_rfl) (fun _ _ _ h => h) (by rfl) (by intro w hSw; (try dsimp only at hSw); go_split_ands; first | (go_simp; done) | (go_simp; with_reducible rfl)) HS ?_
                simp only [List.getElem_toArray, List.getElem_cons_zero, List.getElem_cons_succ, Act.put, List.setIfInBounds_toArray, List.set_cons_zero, List.set_cons_succ]
                refine atK_one (i := 14) (by kernel_rfl) rfl (fun K' hK => ?_)
                rw [if_pos (by rfl)]
                go_simp
                refine hK.out _ _ (fun h => absurd rfl h) ?_
                clear hK K'
                try simp only [List.getElem_toArray, List.getElem_cons_zero, List.getElem_cons_succ, Act.put, List.setIfInBounds_toArray, List.set_cons_zero, List.set_cons_succ]
                refine atK_done (by kernel_rfl) ?_ _
                refine NoPanic.normal ?_
                have hr1 : ((G.take i ++ [a, 0, 0] :: G.drop i).set i [a, c0 + 1, t0])[i]? = some [a, c0 + 1, t0] := List.getElem?_set_self (by rw [hql]; omega)
                have H1' : Hid (HalfZ w5 (w9.setCell ⟨gb, 1, none⟩ (.int .i64 (c0 + 1))).drew w4.heap.size (w4.heap.size + 1) (w4.heap.size + 1 + 1) 26 _ (.slice (some ⟨w4.heap.size, 0, none⟩) 3 3) _ [g, countB, totalB] (vs.take i ++ .slice (some ⟨w6.heap.size, 0, none⟩) 3 3 :: vs.drop i) ((G.take i ++ [a, 0, 0] :: G.drop i).set i [a, c0 + 1, t0])) := Lib.hid H1.out
                have hl1s : ((G.take i ++ [a, 0, 0] :: G.drop i).set i [a, c0 + 1, t0]).length = q1 := by rw [List.length_set]; exact hql
                clear x3 f0 f1 f2 f3 f4 f5 hne hl1 hl2 hz1 hz2 H1 H0 hwc HS
                generalize (w9.setCell ⟨gb, 1, none⟩ (.int .i64 (c0 + 1))).drew = w10 at H1' ⊢
                go_wp2_with fail
                have H1d := Lib.hid H1'.out.drew
                obtain ⟨gR', gb', cb', eA, hu1, f0, f1, f2, f3, f4, f5, hz1, hz2, hne, hl1, hl2⟩ := H1d.out.at3 hl1s hr1
                simp only [Option.some.injEq, Addr.mk.injEq, and_true] at eA
                obtain rfl := eA
                have x3 := H1d.out.blk.cell 1
                simp at x3
                obtain ⟨s0, s1, s2, s3⟩ := RDK.out w10.drew (b35.out.trans (H1d.out.below.mono b35.out.size))
                have hwc : IntKind.i64.wrap (t0 + b) = t0 + b := IntWalk.i64_in _ (by omega)
                have H2 := Lib.hid (H1d.out.put (j := 2) hu1 hr1 (t0 + b))
                have HS : w10.drew.cell? ⟨w4.heap.size + 1, 1, none⟩ = some (.slice (some ⟨gR, 0, none⟩) q1 c8) ∧ w10.drew.cell? ⟨gR, i, none⟩ = some (.slice (some ⟨gb', 0, none⟩) 3 cb') ∧ w10.drew.cell? ⟨gb', 2, none⟩ = some (.int .i64 t0) ∧ w10.drew.cell? ⟨w.heap.size, 1, none⟩ = some (.slice (some ad) m d2) ∧ w10.drew.cell? (ad.add k) = some (.slice (some rd) n ck) ∧ w10.drew.cell? (rd.add si) = some (.int .i64 b) := ⟨x3, f0, f3, s0, s1, s3⟩
                refine wp_region_noPanic ?_
                refine wp_region_K (by kernel_rfl) (fun w' => w'.cell? ⟨w4.heap.size + 1, 1, none⟩ = some (.slice (some ⟨gR, 0, none⟩) q1 c8) ∧ w'.cell? ⟨gR, i, none⟩ = some (.slice (some ⟨gb', 0, none⟩) 3 cb') ∧ w'.cell? ⟨gb', 2, none⟩ = some (.int .i64 t0) ∧ w'.cell? ⟨w.heap.size, 1, none⟩ = some (.slice (some ad) m d2) ∧ w'.cell? (ad.add k) = some (.slice (some rd) n ck) ∧ w'.cell? (rd.add si) = some (.int .i64 b)) 22 ?_
                refine atK_take (i := 0) rfl (by kernel_rfl) (by kernel_rfl) (by kernel_rfl) (by kernel_rfl) (fun _ _ _ h => h) (by rfl) (by intro w hSw; (try dsimp only at hSw); go_split_ands; first | (go_simp; done) | (go_simp; with_reducible rfl)) HS ?_
                simp only [List.getElem_toArray, List.getElem_cons_zero, List.getElem_cons_succ, Act.put, List.setIfInBounds_toArray, List.set_cons_zero, List.set_cons_succ]
                refine atK_take (i := 1) rfl (by kernel_rfl) (by kernel_rfl) (by kernel_rfl) (by kernel_rfl) (fun _ _ _ h => h) (by rfl) (by intro w hSw; (try dsimp only at hSw); go_split_ands; first | (go_simp; done) | (go_simp; with_reducible rfl)) HS ?_
                simp only [List.getElem_toArray, List.getElem_cons_zero, List.getElem_cons_succ, Act.put, List.setIfInBounds_toArray, List.set_cons_zero, List.set_cons_succ]
                refine atK_take (i := 2) rfl (by kernel_rfl) (by kernel_rfl) (by kernel_rfl) (by kernel_rfl) (fun _ _ _ h => h) (by rfl) (by intro w hSw; (try dsimp only at hSw); go_split_ands; first | (go_simp; done) | (go_simp; with_reducible rfl)) HS ?_
                simp only [List.getElem_toArray, List.getElem_cons_zero, List.getElem_cons_succ, Act.put, List.setIfInBounds_toArray, List.set_cons_zero, List.set_cons_succ]
                refine atK_take (i := 3) rfl (by kernel_rfl) (by kernel_rfl) (by kernel_rfl) (by kernel_rfl) (fun _ _ _ h => h) (by rfl) (by intro w hSw; (try dsimp only at hSw); go_split_ands; first | (go_simp; done) | (go_simp; with_reducible rfl)) HS ?_
                simp only [List.getElem_toArray, List.getElem_cons_zero, List.getElem_cons_succ, Act.put, List.setIfInBounds_toArray, List.set_cons_zero, List.set_cons_succ]
                refine atK_take (i := 4) rfl (by kernel_rfl) (by kernel_rfl) (by kernel_rfl) (by kernel_rfl) (fun _ _ _ h => h) (by rfl) (by intro w hSw; (try dsimp only at hSw); go_split_ands; first | (go_simp; done) | (go_simp; with_reducible rfl)) HS ?_
                simp only [List.getElem_toArray, List.getElem_cons_zero, List.getElem_cons_succ, Act.put, List.setIfInBounds_toArray, List.set_cons_zero, List.set_cons_succ]
                refine atK_take (i := 5) rfl (by kernel_rfl) (by kernel_rfl) (by kernel_rfl) (by kernel_rfl) (fun _ _ _ h => h) (by rfl) (by intro w hSw; (try dsimp only at hSw); go_split_ands; first | (go_simp; done) | (go_simp; with_reducible rfl)) HS ?_
                simp only [List.getElem_toArray, List.getElem_cons_zero, List.getElem_cons_succ, Act.put, List.setIfInBounds_toArray, List.set_cons_zero, List.set_cons_succ]
                refine atK_take (i := 6) rfl (by kernel_rfl) (by kernel_rfl) (by kernel_rfl) (by kernel_rfl) (fun _ _ _ h => h) (by rfl) (by intro w hSw; (try dsimp only at hSw); go_split_ands; first | (go_simp; done) | (go_simp; with_reducible rfl)) HS ?_
                simp only [List.getElem_toArray, List.getElem_cons_zero, List.getElem_cons_succ, Act.put, List.setIfInBounds_toArray, List.set_cons_zero, List.set_cons_succ]
                refine atK_take (i := 7) rfl (by kernel_rfl) (by kernel_rfl) (by kernel_rfl) (by kernel_rfl) (fun _ _ _ h => h) (by rfl) (by intro w hSw; (try dsimp only at hSw); go_split_ands; first | (go_simp; done) | (go_simp; with_reducible rfl)) HS ?_
                simp only [List.getElem_toArray, List.getElem_cons_zero, List.getElem_cons_succ, Act.put, List.setIfInBounds_toArray, List.set_cons_zero, List.set_cons_succ]
                refine atK_take (i := 8) rfl (by kernel_rfl) (by kernel_rfl) (by kernel_rfl) (by kernel_rfl) (fun _ _ _ h => h) (by rfl) (by intro w hSw; (try dsimp only at hSw); go_split_ands; first | (go_simp; done) | (go_simp; with_reducible rfl)) HS ?_
                simp only [List.getElem_toArray, List.getElem_cons_zero, List.getElem_cons_succ, Act.put, List.setIfInBounds_toArray, List.set_cons_zero, List.set_cons_succ]
                refine atK_take (i := 9) rfl (by kernel_rfl) (by kernel_rfl) (by kernel_rfl) (by kernel_rfl) (fun _ _ _ h => h) (by rfl) (by intro w hSw; (try dsimp only at hSw); go_split_ands; first | (go_simp; done) | (go_simp; with_reducible rfl)) HS ?_
                simp only [List.getElem_toArray, List.getElem_cons_zero, List.getElem_cons_succ, Act.put, List.setIfInBounds_toArray, List.set_cons_zero, List.set_cons_succ]
                refine atK_take (i := 10) rfl (by kernel_rfl) (by kernel_rfl) (by kernel_rfl) (by kernel_rfl) (fun _ _ _ h => h) (by rfl) (by intro w hSw; (try dsimp only at hSw); go_split_ands; first | (go_simp; done) | (go_simp; with_reducible rfl)) HS ?_
                simp only [List.getElem_toArray, List.getElem_cons_zero, List.getElem_cons_succ, Act.put, List.setIfInBounds_toArray, List.set_cons_zero, List.set_cons_succ]
                refine atK_take (i := 11) rfl (by kernel_rfl) (by kernel_rfl) (by kernel_rfl) (by kernel_rfl) (fun _ _ _ h => h) (by rfl) (by intro w hSw; (try dsimp only at hSw); go_split_ands; first | (go_simp; done) | (go_simp; with_reducible rfl)) HS ?_
                simp only [List.getElem_toArray, List.getElem_cons_zero, List.getElem_cons_succ, Act.put, List.setIfInBounds_toArray, List.set_cons_zero, List.set_cons_succ]
                refine atK_take (i := 12) rfl (by kernel_rfl) (by kernel_rfl) (by kernel_rfl) (by kernel_rfl) (fun _ _ _ h => h) (by rfl) (by intro w hSw; (try dsimp only at hSw); go_split_ands; first | (go_simp; done) | (go_simp; with_reducible rfl)) HS ?_
                simp only [List.getElem_toArray, List.getElem_cons_zero, List.getElem_cons_succ, Act.put, List.setIfInBounds_toArray, List.set_cons_zero, List.set_cons_succ]
                refine atK_take (i := 13) rfl (by kernel_rfl) (by kernel_rfl) (by kernel_rfl) (by kernel_rfl) (fun _ _ _ h => h) (by rfl) (by intro w hSw; (try dsimp only at hSw); go_split_ands; first | (go_simp; done) | (go_simp; with_reducible rfl)) HS ?_
                simp only [List.getElem_toArray, List.getElem_cons_zero, List.getElem_cons_succ, Act.put, List.setIfInBounds_toArray, List.set_cons_zero, List.set_cons_succ]
                refine atK_take (i := 14) rfl (by kernel_rfl) (by kernel_rfl) (by kernel_rfl) (by kernel_rfl) (fun _ _ _ h => h) (by rfl) (by intro w hSw; (try dsimp only at hSw); go_split_ands; first | (go_simp; done) | (go_simp; with_reducible rfl)) HS ?_
                simp only [List.getElem_toArray, List.getElem_cons_zero, List.getElem_cons_succ, Act.put, List.setIfInBounds_toArray, List.set_cons_zero, List.set_cons_succ]
                refine atK_take (i := 15) rfl (by kernel_rfl) (by kernel_rfl) (by kernel_rfl) (by kernel_rfl) (fun _ _ _ h => h) (by rfl) (by intro w hSw; (try dsimp only at hSw); go_split_ands; first | (go_simp; done) | (go_simp; with_reducible rfl)) HS ?_
                simp only [List.getElem_toArray, List.getElem_cons_zero, List.getElem_cons_succ, Act.put, List.setIfInBounds_toArray, List.set_cons_zero, List.set_cons_succ]
                refine atK_take (i := 16) rfl (by kernel_rfl) (by kernel_rfl) (by kernel_rfl) (by kernel_rfl) (fun _ _ _ h => h) (by rfl) (by intro w hSw; (try dsimp only at hSw); go_split_ands; first | (go_simp; done) | (go_simp; with_reducible rfl)) HS ?_
                simp only [List.getElem_toArray, List.getElem_cons_zero, List.getElem_cons_succ, Act.put, List.setIfInBounds_toArray, List.set_cons_zero, List.set_cons_succ]
                refine atK_take (i := 17) rfl (by kernel_rfl) (by kernel_rfl) (by kernel_rfl) (by kernel_rfl) (fun _ _ _ h => h) (by rfl) (by intro w hSw; (try dsimp only at hSw); go_split_ands; first | (go_simp; done) | (go_simp; with_reducible rfl)) HS ?_
                simp only [List.getElem_toArray, List.getElem_cons_zero, List.getElem_cons_succ, Act.put, List.setIfInBounds_toArray, List.set_cons_zero, List.set_cons_succ]
                refine atK_take (i := 18) rfl (by kernel_rfl) (by kernel_rfl) (by kernel_rfl) (by kernel_rfl) (fun _ _ _ h => h) (by rfl) (by intro w hSw; (try dsimp only at hSw); go_split_ands; first | (go_simp; done) | (go_simp; with_reducible rfl)) HS ?_
                simp only [List.getElem_toArray, List.getElem_cons_zero, List.getElem_cons_succ, Act.put, List.setIfInBounds_toArray, List.set_cons_zero, List.set_cons_succ]
                refine atK_take (i := 19) rfl (by kernel_rfl) (by kernel_rfl) (by kernel_rfl) (by kernel_rfl) (fun _ _ _ h => h) (by rfl) (by intro w hSw; (try dsimp only at hSw); go_split_ands; first | (go_simp; done) | (go_simp; with_reducible rfl)) HS ?_
                simp only [List.getElem_toArray, List.getElem_cons_zero, List.getElem_cons_succ, Act.put, List.setIfInBounds_toArray, List.set_cons_zero, List.set_cons_succ]
                refine atK_take (i := 20) rfl (by kernel_rfl) (by kernel_rfl) (by kernel_rfl) (by kernel_rfl) (fun _ _ _ h => h) (by rfl) (by intro w hSw; (try dsimp only at hSw); go_split_ands; first | (go_simp; done) | (go_simp; with_reducible rfl)) HS ?_
                simp only [List.getElem_toArray, List.getElem_cons_zero, List.getElem_cons_succ, Act.put, List.setIfInBounds_toArray, List.set_cons_zero, List.set_cons_succ]
                refine atK_take (i := 21) rfl (by kernel_rfl) (by kernel_rfl) (by kernel_rfl) (by kernel_rfl) (fun _ _ _ h => h) (by rfl) (by intro w hSw; (try dsimp only at hSw); go_split_ands; first | (go_simp; done) | (go_simp; with_reducible rfl)) HS ?_
                simp only [List.getElem_toArray, List.getElem_cons_zero, List.getElem_cons_succ, Act.put, List.setIfInBounds_toArray, List.set_cons_zero, List.set_cons_succ]
                refine atK_one (i := 22) (by kernel_rfl) rfl (fun K' hK => ?_)
                rw [if_pos (by rfl)]
                go_simp
                refine hK.out _ _ (fun h => absurd rfl h) ?_
                clear hK K'
                try simp only [List.getElem_toArray, List.getElem_cons_zero, List.getElem_cons_succ, Act.put, List.setIfInBounds_toArray, List.set_cons_zero, List.set_cons_succ]
                refine atK_done (by kernel_rfl) ?_ _
                refine NoPanic.normal ?_
                have H3 := H2.out
                rw [List.set_set] at H3
                have HH3 := Lib.hid H3
                clear H3 H2 f0 f1 f2 f3 f4 f5 hz1 hz2 hne hl1 hl2 x3 HS hwc s0 s1 s2 s3
                go_wp2_with fail
                go_roundw
                case rel => exact ⟨k + 1, _, _, _, by omega, by go_num, HH3, HGT⟩
                case measure => simp [intOf]; omega
          · obtain rfl : k = m := by omega
            have GG := hG.out
            rw [List.take_of_length_le (by unfold grpP; rw [List.length_map]; have := HNM.out.2; omega)] at GG
            have T0 : TabO wo w4.heap.size (.agg #[.slice (some ⟨w4.heap.size, 0, none⟩) 3 3, .slice A9 q c9]) [g, countB, totalB] G := ⟨_, _, rfl, hh.out.own, vs, hh.out.rows.low (by omega)⟩
            obtain ⟨u, hu⟩ : ∃ u, tableB [g, countB, totalB] G = u := ⟨_, rfl⟩
            have SV := Lib.hid (specTab_any u _ _ _ wo T0.reads (grp_ok HBASE.out (by unfold grpP; rw [List.length_map]; exact Nat.le_refl _) GG) hu)
            have HEND := Lib.hid (show u = ok ∧ N = (if ok then [g, countB, totalB] else []) ∧ R = (if ok then G else []) by
              have h := HL.out.end_ HBASE.out GG
              rw [hu] at h
              exact h)
            have HT0 := Lib.hid T0
            have z0 := hh.out.blk.cell 0
            have z1 := hh.out.blk.cell 1
            simp at z0 z1
            have KB := Lib.hid hh.out.blk
            have hTlt := hh.out.blk.lt
            have K4R := Lib.hid KO.out.2.1
            have BWR := Lib.hid KO.out.2.2.2
            clear GG T0 hu hG KO
            go_wp2_with fail
            refine SV.out.mono ?_
            rintro e w6 ⟨rfl, b6⟩
            have K26 := Lib.hid (K4R.out.below b6 K4R.out.lt)
            have B6 := Lib.hid (BWR.out.trans (b6.mono BWR.out.size))
            have T6 := HT0.out.below b6
            have KB6 := KB.out.below b6 hTlt
            clear z0 z1 b6 y1
            have z0 := KB6.cell 0
            have z1 := KB6.cell 1
            simp at z0 z1
            have y0 := K26.out.cell 0
            have y1 := K26.out.cell 1
            have y0f := K26.out.frozen 0
            have y1f := K26.out.frozen 1
            simp at y0 y1
            obtain ⟨rfl, rfl, rfl⟩ := HEND.out
            cases u
            · have RS := Lib.hid (res_store (g := w.heap.size + 1) B6.out K26.out (by omega) (.slice none 0 0) (.slice none 0 0))
              go_wp2_with fail
              obtain ⟨r0, r1, rb, _⟩ := RS.out
              clear RS y0 y1 y0f y1f z0 z1
              generalize ((w6.setCell ⟨w.heap.size + 1, 0, none⟩ (.slice none 0 0)).setCell ⟨w.heap.size + 1, 1, none⟩ (.slice none 0 0)) = w8 at r0 r1 rb ⊢
              exact bodyPost_ret (v := .tuple #[.agg #[.slice none 0 0, .slice none 0 0], .bool false]) (by simp [results, Tryd.results19, go_sem, r0, r1]) rfl (TabO.nilRes rb)
            · have Q2 := Lib.hid (res_end (g := w.heap.size + 1) B6.out K26.out (by omega) T6 (by omega))
              clear T6 KB6
              go_wp2_with fail
              obtain ⟨r0, r1, RR⟩ := Q2.out
              clear Q2 y0 y1 y0f y1f z0 z1
              generalize ((w6.setCell ⟨w.heap.size + 1, 0, none⟩ (.slice (some ⟨w4.heap.size, 0, none⟩) 3 3)).setCell ⟨w.heap.size + 1, 1, none⟩ (.slice A9 q c9)) = w8 at r0 r1 RR ⊢
              exact bodyPost_ret (v := .tuple #[.agg #[.slice (some ⟨w4.heap.size, 0, none⟩) 3 3, .slice A9 q c9], .bool true]) (by simp [results, Tryd.results19, go_sem, r0, r1]) rfl RR
end Go.Proofs.YtijpdekcdejfmaaDoor
