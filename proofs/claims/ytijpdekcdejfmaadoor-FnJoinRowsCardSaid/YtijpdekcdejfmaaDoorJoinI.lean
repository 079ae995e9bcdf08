/- impl.joinNames, impl.JoinRows. -/
import Derived.Test.YtijpdekcdejfmaaDoorJoinS
namespace Go.Proofs.YtijpdekcdejfmaaDoor
open Go Go.RowKit
set_option maxRecDepth 100000
set_option maxHeartbeats 1600000 in
theorem joinNames_any (A : Option Addr) (n c : Nat) (na : List ByteArray) (A' : Option Addr) (n' c' : Nat) (nb : List ByteArray) (l r : ByteArray) (RA : Option Addr) (RC : Nat) (w : World)
    (hv : w.cell? ⟨0, 0, none⟩ = some (.slice RA 13 RC)) (hr : Reads w w.heap.size 1 RA 13 (stCells resW))
    (hnn : na.length = n) (hx : Reads w w.heap.size 1 A n (stCells na)) (hn : n ≤ 1048576) (hnn' : nb.length = n') (hx' : Reads w w.heap.size 1 A' n' (stCells nb)) (hn' : n' ≤ 1048576)
    (hs : ∀ x ∈ na ++ nb, x.size ≤ 9223372036854775807) (q : Bool) (hq : (namesB (na ++ nb) && (hasW na l && hasW nb r)) = q) :
    Calls Tryd.prog 34 #[.slice A n c, .slice A' n' c', .string l, .string r] w fun e w' => ∃ v, e = .returned (.tuple #[v, .bool q]) ∧ w'.ownsRow w.heap.size 9 1 v (n + n') (stCells (na ++ nb)) ∧ Below w.heap.size w w' := by
  obtain ⟨i0, hi0, hz0, hz1, hz2⟩ := info_parts infoStr
  obtain ⟨p, hp⟩ : ∃ p, namesB (na ++ nb) = p := ⟨_, rfl⟩
  obtain ⟨p1, hp1⟩ : ∃ p, hasW na l = p := ⟨_, rfl⟩
  obtain ⟨p2, hp2⟩ : ∃ p, hasW nb r = p := ⟨_, rfl⟩
  rw [hp, hp1, hp2] at hq
  have CN := Lib.hid (cloneNames_any A n c na w hx (by omega))
  have hal : (na ++ nb).length = n + n' := by rw [List.length_append, hnn, hnn']
  have CV := Lib.hid (fun (A2 : Option Addr) (c2 : Nat) (h2 : n + n' ≤ c2) (w' : World) (h : Below w.heap.size w w') (hx : Reads w' w'.heap.size 1 A2 (n + n') (stCells (na ++ nb))) => columns_any p A2 (n + n') c2 (na ++ nb) RA RC w' (below_keep h hv) ((hr.below h).more h.size) hal hx (by omega) h2 hs hp)
  have C1 := Lib.hid (fun (w' : World) (h : Below w.heap.size w w') => containsStr_any p1 A n c na l w' w'.heap.size hnn ((hx.below h).more h.size) (by omega) hp1)
  have C2 := Lib.hid (fun (w' : World) (h : Below w.heap.size w w') => containsStr_any p2 A' n' c' nb r w' w'.heap.size hnn' ((hx'.below h).more h.size) (by omega) hp2)
  have RB := Lib.hid (fun (w' : World) (h : Below w.heap.size w w') => (hx'.below h).more h.size)
  have HQ := Lib.hid hq
  have HAL := Lib.hid hal
  clear hx hx' hv hr hp hp1 hp2 hq hs hnn hnn' hal
  go_enter Tryd.func34, Tryd.ntmps34
  go_wp2_with fail
  refine CN.out.mono ?_
  rintro e w1 ⟨v1, rfl, o1, b1⟩
  obtain ⟨A1, c1, rfl, _, _⟩ := own_form o1
  have r1 := RB.out _ b1
  have O1 := Lib.hid o1
  have B1 := Lib.hid b1
  clear o1 b1
  go_wp2_with (first
    | (at_builtin; refine wpList_append_any _ rfl (.tmp 12) (.tmp 13) 23 rfl w.heap.size 9 i0 _ 1 16 Tryd.underlying23 hi0 hz0 hz1 hz2 rfl (by decide) _ n (stCells na) rfl O1.out w1.heap.size A' n' c' (stCells nb) rfl r1 (stOne _) (by unfold maxLen; omega) (by omega) B1.out.size ?_; intro v2 w2 o2 g2 d2; obtain ⟨A2, c2, rfl, hc2, _⟩ := own_form o2; have b2 : Below w.heap.size w w2 := B1.out.grown g2 B1.out.size (fun g e => (O1.out.lt g e).1); rw [← stCells_append] at o2; have O2 := Lib.hid o2; have B2 := Lib.hid b2; have CV2 := Lib.hid (CV.out A2 c2 hc2 w2 b2 (Reads.of_own o2)); clear o2 g2 d2 b2 r1))
  refine CV2.out.mono ?_
  rintro e w' ⟨rfl, rfl⟩
  cases p
  · go_wp2_with fail
    go_ret2
    exact ⟨_, by rw [← HQ.out]; rfl, O2.out, B2.out⟩
  · cases p1
    · go_wp2_with fail
      refine (C1.out _ B2.out).mono ?_
      rintro e w' ⟨rfl, rfl⟩
      go_wp2_with fail
      go_ret2
      exact ⟨_, by rw [← HQ.out]; rfl, O2.out, B2.out⟩
    · go_wp2_with fail
      refine (C1.out _ B2.out).mono ?_
      rintro e w' ⟨rfl, rfl⟩
      go_wp2_with fail
      refine (C2.out _ B2.out).mono ?_
      rintro e w' ⟨rfl, rfl⟩
      go_wp2_with fail
      go_ret2
      exact ⟨_, by rw [← HQ.out]; simp, O2.out, B2.out⟩
set_option maxHeartbeats 6400000 in
theorem implJoin_any (va vb : Value) (na : List ByteArray) (ra : List (List Int)) (nb : List ByteArray) (rb : List (List Int)) (l r : ByteArray) (ok : Bool) (N : List ByteArray) (R : List (List Int)) (hL : JoinIs na ra nb rb l r ok N R) (RA : Option Addr) (RC : Nat) (w : World)
    (hv : w.cell? ⟨0, 0, none⟩ = some (.slice RA 13 RC)) (hr : Reads w w.heap.size 1 RA 13 (stCells resW))
    (hta : TabR w va na ra) (htb : TabR w vb nb rb) (hsa : Small na ra) (hsb : Small nb rb) :
    Calls Tryd.prog 14 #[va, vb, .string l, .string r] w fun e w' => TabRes w ok N R e w' := by
  have HTA := Lib.hid hta
  have HTB := Lib.hid htb
  obtain ⟨A, c, B, d, rfl, _, _, _⟩ := hta
  obtain ⟨A', c', B', d', rfl, _, _, _⟩ := htb
  obtain ⟨i0, hi0, hz0, hz1, hz2⟩ := info_parts infoStr
  obtain ⟨j0, hjI, hjz0, hjz1, hjz2⟩ := info_parts infoRow
  obtain ⟨z0, hzI, hzz0, hzz1, hzz2⟩ := info_parts infoInt
  obtain ⟨n, hnn⟩ : ∃ n, na.length = n := ⟨_, rfl⟩
  obtain ⟨m, hmm⟩ : ∃ m, ra.length = m := ⟨_, rfl⟩
  obtain ⟨n', hnn'⟩ : ∃ n, nb.length = n := ⟨_, rfl⟩
  obtain ⟨m', hmm'⟩ : ∃ m, rb.length = m := ⟨_, rfl⟩
  have hn1 := hsa.n1
  have hm1 := hsa.r1
  have hn1' := hsb.n1
  have hm1' := hsb.r1
  rw [hnn] at hn1
  rw [hmm] at hm1
  rw [hnn'] at hn1'
  rw [hmm'] at hm1'
  rw [hnn, hmm] at HTA ⊢
  rw [hnn', hmm'] at HTB ⊢
  obtain ⟨w1, hw1⟩ : ∃ w1, w1 = ((w.alloc (.cells #[.slice A n c, .slice B m d] 26)).alloc (.cells #[.slice A' n' c', .slice B' m' d'] 26)).alloc (.cells #[nilV, nilV] 26) := ⟨_, rfl⟩
  have b1 : Below w.heap.size w w1 := by rw [hw1]; exact (((Below.refl _ _).alloc (Nat.le_refl _) _).alloc (by simp) _).alloc (by simp; omega) _
  have hs1 : w1.heap.size = w.heap.size + 1 + 1 + 1 := by rw [hw1]; simp
  have k1 : Blk w1 w.heap.size 26 #[.slice A n c, .slice B m d] := by rw [hw1]; exact ((Blk.new _ _ _).alloc _).alloc _
  have k2 : Blk w1 (w.heap.size + 1) 26 #[.slice A' n' c', .slice B' m' d'] := by
    have := (Blk.new (w.alloc (.cells #[.slice A n c, .slice B m d] 26)) 26 #[.slice A' n' c', .slice B' m' d']).alloc (.cells #[nilV, nilV] 26)
    rw [World.size_alloc] at this
    rw [hw1]; exact this
  have k3 : Blk w1 (w.heap.size + 1 + 1) 26 #[.slice none 0 0, .slice none 0 0] := by
    have := Blk.new ((w.alloc (.cells #[.slice A n c, .slice B m d] 26)).alloc (.cells #[.slice A' n' c', .slice B' m' d'] 26)) 26 #[nilV, nilV]
    rw [World.size_alloc, World.size_alloc] at this
    rw [hw1]; exact this
  have c0 := k1.cell 0
  have c1 := k1.cell 1
  simp at c0 c1
  obtain ⟨q, hq⟩ : ∃ q, tableB na ra = q := ⟨_, rfl⟩
  obtain ⟨q', hq'⟩ : ∃ q, tableB nb rb = q := ⟨_, rfl⟩
  obtain ⟨p, hp⟩ : ∃ p, hasW na l = p := ⟨_, rfl⟩
  obtain ⟨p', hp'⟩ : ∃ p, hasW nb r = p := ⟨_, rfl⟩
  have ST := Lib.hid (fun (w' : World) (h : Below w.heap.size w w') => implTab_any q _ na ra RA RC w' (below_keep h hv) ((hr.below h).more h.size) (HTA.out.below h) hsa.ok hq)
  have ST' := Lib.hid (fun (w' : World) (h : Below w.heap.size w w') => implTab_any q' _ nb rb RA RC w' (below_keep h hv) ((hr.below h).more h.size) (HTB.out.below h) hsb.ok hq')
  have LA := Lib.hid (fun (z : Int) (hz : ColIs na l z) (w' : World) (h : Below w.heap.size w w') => indexStr_is z A n c na l w' w'.heap.size hnn (HTA.out.below h).namesR.1 (by omega) hz)
  have LB := Lib.hid (fun (z : Int) (hz : ColIs nb r z) (w' : World) (h : Below w.heap.size w w') => indexStr_is z A' n' c' nb r w' w'.heap.size hnn' (HTB.out.below h).namesR.1 (by omega) hz)
  obtain ⟨pn, hpn⟩ : ∃ p, (namesB (na ++ nb) && (hasW na l && hasW nb r)) = p := ⟨_, rfl⟩
  have JN := Lib.hid (fun (w' : World) (h : Below w.heap.size w w') => joinNames_any A n c na A' n' c' nb l r RA RC w' (below_keep h hv) ((hr.below h).more h.size) hnn (HTA.out.below h).namesR.1 (by omega) hnn' (HTB.out.below h).namesR.1 (by omega) (fun x hx => by
    rcases List.mem_append.1 hx with h | h
    · have := hsa.n2 x h; omega
    · have := hsb.n2 x h; omega) pn hpn)
  have HV := Lib.hid hv
  have HR := Lib.hid hr
  have KK := Lib.hid (fun (w' : World) (h : Below w1.heap.size w1 w') => And.intro (k1.below h k1.lt) (And.intro (k2.below h k2.lt) (And.intro (k3.below h k3.lt) (b1.trans (h.mono b1.size)))))
  have HW := Lib.hid hw1
  have HNM := Lib.hid (And.intro hnn hmm)
  have HNM' := Lib.hid (And.intro hnn' hmm')
  have HQ := Lib.hid (And.intro hq hq')
  have HPN := Lib.hid hpn
  have B1 := Lib.hid b1
  have HL := Lib.hid hL
  have HNO := Lib.hid (fun (h : (q && (q' && pn)) = false) => hL.no (by
    unfold joinB tableB
    have hq := hq
    have hq' := hq'
    unfold tableB at hq hq'
    rw [hq, hq']
    revert h hpn
    cases q <;> cases q' <;> cases pn <;> cases namesB (na ++ nb) <;> cases hasW na l <;> cases hasW nb r <;> simp))
  clear hsa hsb hnn hmm hnn' hmm' hq hq' hpn hw1 k1 k2 k3 b1 hL hv hr hp hp'
  go_enter Tryd.func14, Tryd.ntmps14
  go_wp2_with fail
  rw [← HW.out]
  refine (ST.out w1 B1.out).mono ?_
  rintro e w2 ⟨rfl, b2⟩
  have B12 := Lib.hid b2
  obtain ⟨k1, k2, k3, B2⟩ := KK.out w2 b2
  clear c0 c1 b2
  have xa0 := k1.cell 0
  have xa1 := k1.cell 1
  simp at xa0 xa1
  have xb0 := k2.cell 0
  have xb1 := k2.cell 1
  simp at xb0 xb1
  have y0 := k3.cell 0
  have y1 := k3.cell 1
  have y0f := k3.frozen 0
  have y1f := k3.frozen 1
  simp at y0 y1
  have hw2n : w.heap.size + 1 + 1 + 1 ≤ w2.heap.size := by have := B12.out.size; omega
  cases q
  · have K3 := k3
    have BZ := B2
    clear k1 k2 k3 B2
    have RS := Lib.hid (res_store BZ K3 (by omega) (.slice none 0 0) (.slice none 0 0))
    go_wp2_with fail
    obtain ⟨r0, r1, rb, _⟩ := RS.out
    obtain ⟨rfl, rfl, rfl⟩ := HNO.out (by rfl)
    clear RS y0 y1 y0f y1f
    generalize ((w2.setCell ⟨w.heap.size + 1 + 1, 0, none⟩ (.slice none 0 0)).setCell ⟨w.heap.size + 1 + 1, 1, none⟩ (.slice none 0 0)) = w6 at r0 r1 rb ⊢
    exact bodyPost_ret (v := .tuple #[.agg #[.slice none 0 0, .slice none 0 0], .bool false]) (by simp [results, Tryd.results14, go_sem, r0, r1]) rfl (TabO.nilRes rb)
  · clear k1 k2 k3
    go_wp2_with fail
    refine (ST'.out w2 B2).mono ?_
    rintro e w3 ⟨rfl, b3⟩
    have B13 := Lib.hid (B12.out.trans (b3.mono B12.out.size))
    clear xa0 xa1 xb0 xb1 y0 y1 y0f y1f
    obtain ⟨k1, k2, k3, B3⟩ := KK.out w3 B13.out
    clear b3
    have xa0 := k1.cell 0
    have xa1 := k1.cell 1
    simp at xa0 xa1
    have xb0 := k2.cell 0
    have xb1 := k2.cell 1
    simp at xb0 xb1
    have y0 := k3.cell 0
    have y1 := k3.cell 1
    have y0f := k3.frozen 0
    have y1f := k3.frozen 1
    simp at y0 y1
    have hw3n : w.heap.size + 1 + 1 + 1 ≤ w3.heap.size := by have := B13.out.size; omega
    have K3 := Lib.hid k3
    have BZ := Lib.hid B3
    clear k1 k2 k3 B3
    cases q'
    · 
      have RS := Lib.hid (res_store BZ.out K3.out (by omega) (.slice none 0 0) (.slice none 0 0))
      go_wp2_with fail
      obtain ⟨r0, r1, rb, _⟩ := RS.out
      obtain ⟨rfl, rfl, rfl⟩ := HNO.out (by rfl)
      clear RS y0 y1 y0f y1f
      generalize ((w3.setCell ⟨w.heap.size + 1 + 1, 0, none⟩ (.slice none 0 0)).setCell ⟨w.heap.size + 1 + 1, 1, none⟩ (.slice none 0 0)) = w6 at r0 r1 rb ⊢
      exact bodyPost_ret (v := .tuple #[.agg #[.slice none 0 0, .slice none 0 0], .bool false]) (by simp [results, Tryd.results14, go_sem, r0, r1]) rfl (TabO.nilRes rb)
    · go_wp2_with fail
      refine (JN.out w3 BZ.out).mono ?_
      rintro e w4 ⟨v4, rfl, o4, b4⟩
      obtain ⟨A6, c6, rfl, _, _⟩ := own_form o4
      have B14 := Lib.hid (B13.out.trans (b4.mono B13.out.size))
      have b34 := Lib.hid b4
      clear xa0 xa1 xb0 xb1 y0 y1 y0f y1f K3
      obtain ⟨k1, k2, k3, B4⟩ := KK.out w4 B14.out
      have xa0 := k1.cell 0
      have xa1 := k1.cell 1
      simp at xa0 xa1
      have xb0 := k2.cell 0
      have xb1 := k2.cell 1
      simp at xb0 xb1
      have y0 := k3.cell 0
      have y1 := k3.cell 1
      have y0f := k3.frozen 0
      have y1f := k3.frozen 1
      simp at y0 y1
      have hw4n : w.heap.size + 1 + 1 + 1 ≤ w4.heap.size := by have := B14.out.size; omega
      have K3 := Lib.hid k3
      have O4 := Lib.hid o4
      have B4' := Lib.hid B4
      clear k1 k2 k3 B4 o4 b4
      cases pn
      · 
        have RS := Lib.hid (res_store B4'.out K3.out (by omega) (.slice none 0 0) (.slice none 0 0))
        go_wp2_with fail
        obtain ⟨r0, r1, rb, _⟩ := RS.out
        obtain ⟨rfl, rfl, rfl⟩ := HNO.out (by rfl)
        clear RS y0 y1 y0f y1f
        generalize ((w4.setCell ⟨w.heap.size + 1 + 1, 0, none⟩ (.slice none 0 0)).setCell ⟨w.heap.size + 1 + 1, 1, none⟩ (.slice none 0 0)) = w6 at r0 r1 rb ⊢
        exact bodyPost_ret (v := .tuple #[.agg #[.slice none 0 0, .slice none 0 0], .bool false]) (by simp [results, Tryd.results14, go_sem, r0, r1]) rfl (TabO.nilRes rb)
      · have hpn := HPN.out
        simp only [Bool.and_eq_true] at hpn
        have HP := Lib.hid hpn.2
        have HPNB := Lib.hid hpn.1
        clear hpn
        obtain ⟨ca, hca⟩ : ∃ ca, colN na l = ca := ⟨_, rfl⟩
        have LXA := Lib.hid (LA.out (ca : Int) (by rw [← hca]; exact colN_is HP.out.1))
        have HCA := Lib.hid hca
        obtain ⟨cb, hcb⟩ : ∃ cb, colN nb r = cb := ⟨_, rfl⟩
        have LXB := Lib.hid (LB.out (cb : Int) (by rw [← hcb]; exact colN_is HP.out.2))
        have HCB := Lib.hid hcb
        have hal : (na ++ nb).length = n + n' := by rw [List.length_append, HNM.out.1, HNM'.out.1]
        have START := Lib.hid (halfZ_new O4.out hal b34.out)
        have xa1' := fun o => (World.cell?_alloc_some w4 ⟨w.heap.size, 1, none⟩ o (by rw [xa1]; rfl)).trans xa1
        clear hca hcb hal K3 y0 y1 y0f y1f
        go_wp2_with fail
        clear xa0 xa1 xb0 xb1 xa1'
        go_loopw [14, 16, 44] (fun _ _ kv wr => ∃ (k : Nat) (vs : List Value) (ov : Value), k ≤ m ∧ kv = .int .i64 k ∧ Hid (HalfZ w3 wr w3.heap.size w4.heap.size (w4.heap.size + 1) 26 #[.slice A6 (n + n') c6, ov] (.slice A6 (n + n') c6) ov (na ++ nb) vs (joinA ca cb (ra.take k) rb))) (fun _ _ kv _ => m - (intOf kv).toNat)
        case atStart => exact ⟨0, [], _, Nat.zero_le _, rfl, START⟩
        case round =>
          clear START
          obtain ⟨k, vs, ov, hk, rfl, hh⟩ := hrel
          obtain ⟨wo, rfl⟩ : ∃ x, x = wr := ⟨_, rfl⟩
          have hk0 : (0 : Int) ≤ (k : Int) := Int.natCast_nonneg _
          by_cases hlt : k < m
          · have hk1 : (k : Int) < (m : Int) := by omega
            obtain ⟨x, hxk⟩ : ∃ x, ra[k]? = some x := ⟨_, List.getElem?_eq_getElem (by have := HNM.out.2; omega)⟩
            have hxl : x.length = n := by rw [rows_len HQ.out.1 (List.mem_of_getElem? hxk), HNM.out.1]
            have hcl := colN_lt HP.out.1
            rw [HCA.out, HNM.out.1, ← hxl] at hcl
            obtain ⟨xv, hxv⟩ : ∃ v, x[ca]? = some v := ⟨_, List.getElem?_eq_getElem hcl⟩
            have hca1 : (0 : Int) ≤ (ca : Int) := Int.natCast_nonneg _
            have hca2 : (ca : Int) < (n : Int) := by omega
            obtain ⟨_, k2, _, BO⟩ := KK.out wo (B13.out.trans (hh.out.below.mono B13.out.size))
            obtain ⟨ad, x', Ak, ck, rfl, hadb, hrow, e1, g1, g2, g3, rr⟩ := ((HTA.out.rowsR').belowW (Nat.le_refl _) BO).at_ hlt
            obtain rfl : x = x' := Option.some.inj (hxk.symm.trans hrow)
            rw [hxl] at e1 g1
            obtain ⟨rd, rfl, hrb, q1⟩ := in_cell (k := ca) (x := xv) rr hxv rfl
            have RX := Lib.hid (fun (w' : World) (h : Below w.heap.size w w') => rr.keep (fun p hp => (h.cell hp).trans (BO.cell hp).symm))
            have xb1 := k2.cell 1
            simp at xb1
            have HXK := Lib.hid (And.intro hxk hxv)
            have hcl2 : ca < n := by omega
            clear hxk hxv hrow rr q1 k2 g3 hcl
            have hbase0 := hh.out.below.size
            go_wp2_with fail
            clear xb1 e1
            go_loopw [16, 51] (fun _ jv wi => ∃ (j : Nat) (vs : List Value) (ov : Value), j ≤ m' ∧ jv = .int .i64 j ∧ Hid (HalfZ w3 wi w3.heap.size w4.heap.size (w4.heap.size + 1) 26 #[.slice A6 (n + n') c6, ov] (.slice A6 (n + n') c6) ov (na ++ nb) vs (joinA ca cb (ra.take k) rb ++ joinK ca cb x (rb.take j)))) (fun _ jv _ => m' - (intOf jv).toNat)
            case atStart => exact ⟨0, vs, ov, Nat.zero_le _, rfl, by
              have e : joinA ca cb (ra.take k) rb ++ joinK ca cb x (rb.take 0) = joinA ca cb (ra.take k) rb := by simp [joinK]
              rw [e]; exact hh⟩
            case round =>
              clear hh BO
              obtain ⟨j, vs, ov, hj, rfl, hh⟩ := hrel
              obtain ⟨wi, rfl⟩ : ∃ x, x = wr := ⟨_, rfl⟩
              have hj0 : (0 : Int) ≤ (j : Int) := Int.natCast_nonneg _
              obtain ⟨k1, k2, k3, BI⟩ := KK.out wi (B13.out.trans (hh.out.below.mono B13.out.size))
              have xa0 := k1.cell 0
              have xa1 := k1.cell 1
              simp at xa0 xa1
              have xb0 := k2.cell 0
              have xb1 := k2.cell 1
              simp at xb0 xb1
              have BWI := Lib.hid BI
              clear k1 k2 k3 BI
              by_cases hlt2 : j < m'
              · have hj1 : (j : Int) < (m' : Int) := by omega
                obtain ⟨rd', ea', hrb', q1⟩ := in_cell (k := ca) (x := xv) (RX.out wi BWI.out) HXK.out.2 rfl
                obtain rfl := Option.some.inj ea'
                obtain ⟨bd, y, Bk, dk, rfl, hbdb, hyow, e2, g1', g2', g3', rr'⟩ := ((HTB.out.rowsR').belowW (Nat.le_refl _) BWI.out).at_ hlt2
                have hyl : y.length = n' := by rw [rows_len HQ.out.2 (List.mem_of_getElem? hyow), HNM'.out.1]
                rw [hyl] at e2 g1'
                have hcl' := colN_lt HP.out.2
                rw [HCB.out, HNM'.out.1, ← hyl] at hcl'
                obtain ⟨yv, hyv⟩ : ∃ v, y[cb]? = some v := ⟨_, List.getElem?_eq_getElem hcl'⟩
                obtain ⟨sd, rfl, hsb, q2⟩ := in_cell (k := cb) (x := yv) rr' hyv rfl
                have hcb1 : (0 : Int) ≤ (cb : Int) := Int.natCast_nonneg _
                have hcb2 : (cb : Int) < (n' : Int) := by omega
                have HYK := Lib.hid (And.intro hyow hyv)
                have RY := Lib.hid rr'
                have hcl2' : cb < n' := by omega
                clear hyow hyv g3' rr' hcl'
                by_cases he : xv = yv
                · subst he
                  go_wp2_with fail
                  go_region_held3 (fun w' => w'.cell? ⟨w.heap.size, 0, none⟩ = some (.slice A n c) ∧ w'.cell? ⟨w.heap.size + 1, 0, none⟩ = some (.slice A' n' c') ∧ w'.cell? (rd.add ca) = some (.int .i64 xv) ∧ w'.cell? (sd.add cb) = some (.int .i64 xv))
                    (first | assumption | go_keep)
                    (first | (go_at_call 35; with_reducible refine (LXA.out _ (BWI.out.drew)).mono ?_; rintro e w' ⟨rfl, rfl⟩) | (go_at_call 35; with_reducible refine (LXB.out _ (BWI.out.drew)).mono ?_; rintro e w' ⟨rfl, rfl⟩))
                  go_wp2_with fail
                  have x3 := hh.out.blk.cell 1
                  simp at x3
                  obtain ⟨A9, c9, e9, _, _, _⟩ := hh.out.rows.form
                  obtain ⟨q, hq⟩ : ∃ q, (joinA ca cb (ra.take k) rb ++ joinK ca cb x (rb.take j)).length = q := ⟨_, rfl⟩
                  have hqb : q ≤ 1048576 * 1048576 + 1048576 := by
                    rw [← hq, List.length_append]
                    have h1 := joinA_len ca cb (ra.take k) rb
                    have h2 := joinK_len ca cb x (rb.take j)
                    have h3 := Nat.mul_le_mul (show (ra.take k).length ≤ 1048576 by rw [List.length_take]; omega) (show rb.length ≤ 1048576 by have := HNM'.out.2; omega)
                    have h4 : (rb.take j).length ≤ 1048576 := by rw [List.length_take]; omega
                    omega
                  rw [hq] at e9
                  subst e9
                  have OW := Lib.hid (show wi.ownsRow (w4.heap.size + 1) 40 1 (.slice A9 q c9) q vs by have h := hh.out.rows.own; rw [hq] at h; exact h)
                  have CL := Lib.hid (fun (w' : World) (h' : Below wi.heap.size wi w') => cloneInt_any (some rd) n ck x w' (by have := (((RX.out wi BWI.out).belowW BWI.out.size h').more (Nat.le_trans BWI.out.size h'.size)); rw [hxl] at this; exact this) (by omega) hxl (fun h => by cases h))
                  have HS0 : wi.cell? ⟨w4.heap.size, 1, none⟩ = some (.slice A9 q c9) := x3
                  have KEEP := Lib.hid (fun (w' : World) (h : Below wi.heap.size wi w') => show w'.cell? ⟨w4.heap.size, 1, none⟩ = some (.slice A9 q c9) from below_keep h HS0)
                  have bdd : Below wi.heap.size wi wi.drew.drew := (Below.refl _ _).drew.drew
                  have HS := KEEP.out _ bdd
                  have hzz := hh.out.zs
                  have htz := hh.out.tz
                  refine wp_region_noPanic ?_
                  refine wp_region_K (by kernel_rfl) (fun w' => w'.cell? ⟨w4.heap.size, 1, none⟩ = some (.slice A9 q c9)) 9 ?_
                  refine atK_take (i := 0) rfl (by kernel_rfl) (by kernel_rfl) (by kernel_rfl) (by kernel_rfl) (fun _ _ _ h => h) (by rfl) (by intro w hSw; (try dsimp only at hSw); go_split_ands; first | (go_simp; done) | (go_simp; with_reducible rfl)) HS ?_
                  simp only [List.getElem_toArray, List.getElem_cons_zero, List.getElem_cons_succ, Act.put, List.setIfInBounds_toArray, List.set_cons_zero, List.set_cons_succ]
                  refine atK_take (i := 1) rfl (by kernel_rfl) (by kernel_rfl) (by kernel_rfl) (by kernel_rfl) (fun _ _ _ h => h) (by rfl) (by intro w hSw; (try dsimp only at hSw); go_split_ands; first | (go_simp; done) | (go_simp; with_reducible rfl)) HS ?_
                  simp only [List.getElem_toArray, List.getElem_cons_zero, List.getElem_cons_succ, Act.put, List.setIfInBounds_toArray, List.set_cons_zero, List.set_cons_succ]
                  refine atK_take (i := 2) rfl (by kernel_rfl) (by kernel_rfl) (by kernel_rfl) (by kernel_rfl) (fun _ _ _ h => h) (by rfl) (by intro w hSw; (try dsimp only at hSw); go_split_ands; first | (go_simp; done) | (go_simp; with_reducible rfl)) HS ?_
                  simp only [List.getElem_toArray, List.getElem_cons_zero, List.getElem_cons_succ, Act.put, List.setIfInBounds_toArray, List.set_cons_zero, List.set_cons_succ]
                  refine atK_take (i := 4) rfl (by kernel_rfl) (by kernel_rfl) (by kernel_rfl) (by kernel_rfl) (fun _ _ _ h => h) (by rfl) (by intro w hSw; (try dsimp only at hSw); go_split_ands; first | (go_simp; done) | (go_simp; with_reducible rfl)) HS ?_
                  simp only [List.getElem_toArray, List.getElem_cons_zero, List.getElem_cons_succ, Act.put, List.setIfInBounds_toArray, List.set_cons_zero, List.set_cons_succ]
                  refine atK_one (i := 3) (by kernel_rfl) rfl (fun K' hK => ?_)
                  refine step_call (by rfl) (f := 36) Tryd.func36 (by kernel_rfl) (by kernel_rfl) (by rfl) #[.slice (some rd) n ck] (by kernel_rfl) ?_
                  refine (CL.out _ bdd).mono ?_
                  rintro e w5 ⟨u, rfl, ou, hb5⟩
                  obtain ⟨Au, cu, rfl, _, _⟩ := own_form ou
                  have b5 : Below wi.heap.size wi w5 := bdd.trans hb5
                  refine ⟨_, rfl, ?_⟩
                  refine hK.out _ _ (fun _ => KEEP.out _ b5) ?_
                  clear hK K'
                  try simp only [List.getElem_toArray, List.getElem_cons_zero, List.getElem_cons_succ, Act.put, List.setIfInBounds_toArray, List.set_cons_zero, List.set_cons_succ]
                  refine atK_one (i := 5) (by kernel_rfl) rfl (fun K' hK => ?_)
                  refine step_append_any _ (by rfl) (.tmp 73) (.tmp 74) 40 (by rfl) wi.heap.size 3 z0 _ 1 8 Tryd.underlying40 hzI hzz0 hzz1 hzz2 (by rfl) (by decide) _ n (inCells x) (by rfl) ou w.heap.size (some sd) n' dk (inCells y) (by rfl) (by have := RY.out.belowW BWI.out.size b5; rw [hyl] at this; exact this) (inCells_one y) (by unfold maxLen; omega) (by omega) b5.size ?_
                  intro v6 w6 ho6 hg6 hd6
                  obtain ⟨A6', c6', rfl, _, _⟩ := own_form ho6
                  have b6 : Below wi.heap.size wi w6 := b5.grown hg6 b5.size (fun g e => (ou.lt g e).1)
                  have OU := Lib.hid (show w6.ownsRow wi.heap.size 3 1 (.slice A6' (n + n') c6') (x ++ y).length (inCells (x ++ y)) by rw [inCells_append, List.length_append, hxl, hyl]; exact ho6)
                  refine hK.out _ _ (fun _ => KEEP.out _ b6) ?_
                  clear hK K' ou ho6 hg6 hd6 hb5
                  try simp only [List.getElem_toArray, List.getElem_cons_zero, List.getElem_cons_succ, Act.put, List.setIfInBounds_toArray, List.set_cons_zero, List.set_cons_succ]
                  refine atK_one (i := 6) (by kernel_rfl) rfl (fun K' hK => ?_)
                  rw [if_pos (by rfl)]
                  go_simp
                  refine hK.out _ _ (fun _ => KEEP.out _ (b6.alloc b6.size _)) ?_
                  clear hK K'
                  try simp only [List.getElem_toArray, List.getElem_cons_zero, List.getElem_cons_succ, Act.put, List.setIfInBounds_toArray, List.set_cons_zero, List.set_cons_succ]
                  refine atK_one (i := 7) (by kernel_rfl) rfl (fun K' hK => ?_)
                  refine step_append_any _ (by rfl) (.tmp 71) (.tmp 76) 24 (by rfl) (w4.heap.size + 1) 40 j0 _ 1 24 Tryd.underlying24 hjI hjz0 hjz1 hjz2 (by rfl) (by decide) _ q vs (by rfl) ((own_below OW.out b6).alloc _) (w6.heap.size + 1) (some ⟨w6.heap.size, 0, none⟩) 1 1 [.slice A6' (n + n') c6'] (by rfl) ⟨rfl, fun _ => ⟨_, rfl, by simp, cells_new _ _ _⟩⟩ (oneCells rfl) (by unfold maxLen; omega) (by omega) (by have := b6.size; simp; omega) ?_
                  intro v7 w7 ho7 hg7 hd7
                  obtain ⟨A7, c7, rfl, _, _⟩ := own_form ho7
                  have PU := Lib.hid (hh.out.push (r := x ++ y) OU.out b6 (by rw [hq]; exact ho7) hg7 hd7)
                  have F7 := ((hh.out.go b6).blk.alloc (.cells #[.slice A6' (n + n') c6'] 40)).grown hg7 (fun e => by have := hh.out.rvge _ e.symm; omega)
                  have F7c := F7.cell 1
                  have F7f := F7.frozen 1
                  simp at F7c
                  have hzd : ∀ g, (Value.slice A9 q c9).ownBlock = some g → w4.heap.size + 1 ≤ g := hh.out.rvge
                  have hTw := hh.out.blk.lt
                  have HS7 : w7.cell? ⟨w4.heap.size, 1, none⟩ = some (.slice A9 q c9) := (World.cell?_of_block ((hg7.block _ (show w4.heap.size < _ by have := b6.size; simp; omega) (fun e => by have : w4.heap.size + 1 ≤ w4.heap.size := hzd _ e.symm; omega)).trans ((Below.heap_alloc _ _ _ (show w4.heap.size < _ by have := b6.size; omega)).trans (b6.block _ hTw)))).trans HS0
                  refine hK.out _ _ (fun _ => HS7) ?_
                  clear hK K' ho7 hg7 hd7
                  try simp only [List.getElem_toArray, List.getElem_cons_zero, List.getElem_cons_succ, Act.put, List.setIfInBounds_toArray, List.set_cons_zero, List.set_cons_succ]
                  refine atK_take (i := 8) rfl (by kernel_rfl) (by kernel_rfl) (by kernel_rfl) (by kernel_rfl) (fun _ _ _ h => h) (by rfl) (by intro w hSw; (try dsimp only at hSw); go_split_ands; first | (go_simp; done) | (go_simp; with_reducible rfl)) HS7 ?_
                  simp only [List.getElem_toArray, List.getElem_cons_zero, List.getElem_cons_succ, Act.put, List.setIfInBounds_toArray, List.set_cons_zero, List.set_cons_succ]
                  refine atK_one (i := 9) (by kernel_rfl) rfl (fun K' hK => ?_)
                  rw [if_pos (by rfl)]
                  go_simp
                  refine hK.out _ _ (fun h => absurd rfl h) ?_
                  clear hK K'
                  try simp only [List.getElem_toArray, List.getElem_cons_zero, List.getElem_cons_succ, Act.put, List.setIfInBounds_toArray, List.set_cons_zero, List.set_cons_succ]
                  refine atK_done (by kernel_rfl) ?_ _
                  refine NoPanic.normal ?_
                  have P7 := PU.out
                  rw [List.append_assoc, ← joinK_yes HYK.out.1 (show x.getD ca 0 = y.getD cb 0 by rw [List.getD_eq_getElem?_getD, List.getD_eq_getElem?_getD, HXK.out.2, HYK.out.2])] at P7
                  have PP := Lib.hid P7
                  clear P7 PU F7 F7c F7f
                  go_wp2_with fail
                  go_roundw
                  case rel => exact ⟨j + 1, _, _, by omega, by go_num, PP⟩
                  case measure => simp [intOf]; omega
                · go_wp2_with fail
                  go_region_held3 (fun w' => w'.cell? ⟨w.heap.size, 0, none⟩ = some (.slice A n c) ∧ w'.cell? ⟨w.heap.size + 1, 0, none⟩ = some (.slice A' n' c') ∧ w'.cell? (rd.add ca) = some (.int .i64 xv) ∧ w'.cell? (sd.add cb) = some (.int .i64 yv))
                    (first | assumption | go_keep)
                    (first | (go_at_call 35; with_reducible refine (LXA.out _ (BWI.out.drew)).mono ?_; rintro e w' ⟨rfl, rfl⟩) | (go_at_call 35; with_reducible refine (LXB.out _ (BWI.out.drew)).mono ?_; rintro e w' ⟨rfl, rfl⟩))
                  go_wp2_with fail
                  go_roundw
                  case rel => exact ⟨j + 1, vs, ov, by omega, by go_num, by rw [joinK_no HYK.out.1 (by
                    rw [List.getD_eq_getElem?_getD, List.getD_eq_getElem?_getD, HXK.out.2, HYK.out.2]; exact he)]; exact hh.out.drew⟩
                  case measure => simp [intOf]; omega
              · obtain rfl : j = m' := by omega
                have H2 := hh.out
                rw [List.take_of_length_le (show rb.length ≤ j by have := HNM'.out.2; omega), ← joinA_next HXK.out.1] at H2
                have HH2 := Lib.hid H2
                clear H2
                go_wp2_with fail
                go_roundw
                case rel => exact ⟨k + 1, vs, ov, by omega, by go_num, HH2⟩
                case measure => simp [intOf]; omega
          · obtain rfl : k = m := by omega
            have H2 := hh.out
            rw [List.take_of_length_le (by have := HNM.out.2; omega)] at H2
            have HH2 := Lib.hid H2
            obtain ⟨A9, c9, e9, _, _, _⟩ := H2.rows.form
            obtain ⟨J, hJ⟩ : ∃ J, joinA ca cb ra rb = J := ⟨_, rfl⟩
            rw [hJ] at HH2 e9
            have HJ := Lib.hid hJ
            obtain ⟨q, hq⟩ : ∃ q, J.length = q := ⟨_, rfl⟩
            rw [hq] at e9
            subst e9
            have T0 : TabO wo w3.heap.size (.agg #[.slice A6 (n + n') c6, .slice A9 q c9]) (na ++ nb) J := ⟨_, _, rfl, HH2.out.own, vs, HH2.out.rows.low (by have := HH2.out.base; have := HH2.out.tz; omega)⟩
            obtain ⟨u, hu⟩ : ∃ u, tableB (na ++ nb) J = u := ⟨_, rfl⟩
            have KO := Lib.hid (KK.out wo (B13.out.trans (hh.out.below.mono B13.out.size)))
            have TR0 := T0.reads
            have hal : (na ++ nb).length = n + n' := by rw [List.length_append, HNM.out.1, HNM'.out.1]
            have SV := Lib.hid (implTab_any u _ _ _ RA RC wo (below_keep KO.out.2.2.2 HV.out) ((HR.out.below KO.out.2.2.2).more KO.out.2.2.2.size) TR0 (by rw [← HJ.out, ← HCA.out, ← HCB.out]; exact join_ok HQ.out.2 HQ.out.1) hu)
            have HJB := Lib.hid (show joinB na ra nb rb l r = u by
              unfold joinB
              rw [HQ.out.1, HQ.out.2, HP.out.1, HP.out.2, HCA.out, HCB.out, HJ.out, hu]
              rfl)
            have HT0 := Lib.hid T0
            have z0 := HH2.out.blk.cell 0
            have z1 := HH2.out.blk.cell 1
            simp at z0 z1
            have KB := Lib.hid HH2.out.blk
            have hTlt := HH2.out.blk.lt
            have h3w := hh.out.below.size
            clear hh H2 HH2 T0 hJ hu hq TR0 hal
            go_wp2_with fail
            refine SV.out.mono ?_
            rintro e w5 ⟨rfl, b5⟩
            obtain ⟨_, _, k3, B5⟩ := KO.out
            have K35 := Lib.hid (k3.below b5 k3.lt)
            have B5' := Lib.hid (B5.trans (b5.mono B5.size))
            have T5 := HT0.out.below b5
            have KB5 := KB.out.below b5 hTlt
            clear z0 z1 k3 B5 b5 KO
            have z0 := KB5.cell 0
            have z1 := KB5.cell 1
            simp at z0 z1
            have y0 := K35.out.cell 0
            have y1 := K35.out.cell 1
            have y0f := K35.out.frozen 0
            have y1f := K35.out.frozen 1
            simp at y0 y1
            cases u
            · 
              have RS := Lib.hid (res_store B5'.out K35.out (by omega) (.slice none 0 0) (.slice none 0 0))
              go_wp2_with fail
              obtain ⟨r0, r1, rb, _⟩ := RS.out
              obtain ⟨rfl, rfl, rfl⟩ := HL.out.no HJB.out
              clear RS y0 y1 y0f y1f z0 z1
              generalize ((w5.setCell ⟨w.heap.size + 1 + 1, 0, none⟩ (.slice none 0 0)).setCell ⟨w.heap.size + 1 + 1, 1, none⟩ (.slice none 0 0)) = w6 at r0 r1 rb ⊢
              exact bodyPost_ret (v := .tuple #[.agg #[.slice none 0 0, .slice none 0 0], .bool false]) (by simp [results, Tryd.results14, go_sem, r0, r1]) rfl (TabO.nilRes rb)
            · obtain ⟨rfl, rfl, rfl⟩ := HL.out.yes HJB.out
              have Q2 := Lib.hid (res_end (g := w.heap.size + 1 + 1) B5'.out K35.out (by omega) T5 (by omega))
              clear T5 KB5
              go_wp2_with fail
              obtain ⟨r0, r1, RR⟩ := Q2.out
              clear Q2 y0 y1 y0f y1f z0 z1
              generalize ((w5.setCell ⟨w.heap.size + 1 + 1, 0, none⟩ (.slice A6 (n + n') c6)).setCell ⟨w.heap.size + 1 + 1, 1, none⟩ (.slice A9 q c9)) = w6 at r0 r1 RR ⊢
              have hJe : joinA (colN na l) (colN nb r) ra rb = J := by rw [HCA.out, HCB.out]; exact HJ.out
              rw [hJe]
              exact bodyPost_ret (v := .tuple #[.agg #[.slice A6 (n + n') c6, .slice A9 q c9], .bool true]) (by simp [results, Tryd.results14, go_sem, r0, r1]) rfl RR
end Go.Proofs.YtijpdekcdejfmaaDoor
