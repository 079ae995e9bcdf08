/- laws.FnProjectRows: the walk. -/
import Derived.Test.YtijpdekcdejfmaaDoorDrawProj
import Derived.Test.YtijpdekcdejfmaaDoorProjI
import Derived.Test.YtijpdekcdejfmaaDoorSameT
namespace Go.Proofs.YtijpdekcdejfmaaDoor
open Go Go.RowKit
set_option maxRecDepth 100000
theorem DrawnT.small' {names : List ByteArray} {rows : List (List Int)} (h : DrawnT names rows) : Small names rows :=
  ⟨by have := h.n1; omega, fun x hx => by have := h.n2 x hx; omega, by have := h.r1; omega, fun r hr => by have := h.r2 r hr; omega⟩
theorem namesB_at {names : List ByteArray} (h : namesB names = true) {k : Nat} (hk : k < names.length) : colN names names[k] = k := by
  have hg : names[k]? = some names[k] := List.getElem?_eq_getElem hk
  have h1 : nameAt names k = true := by
    unfold namesB at h
    rw [Bool.and_eq_true] at h
    exact List.all_eq_true.1 h.1 k (List.mem_range.2 hk)
  rw [nameAt_some hg, Bool.and_eq_true] at h1
  have h2 : hasW (names.take k) names[k] = false := by simpa using h1.2
  have c1 := colN_is (hasW_mem hg)
  have c2 : ColIs names names[k] (k : Int) := .inr ⟨k, rfl, hk, hg, h2⟩
  have := c1.uniq c2
  omega
theorem projRow_self {names : List ByteArray} (h : namesB names = true) {row : List Int} (hl : row.length = names.length) : projRow names names row = row := by
  unfold projRow
  apply List.ext_getElem
  · rw [List.length_map, hl]
  · intro k h1 h2
    have hk : k < names.length := by rw [← hl]; exact h2
    rw [List.getElem_map, namesB_at h hk, List.getD_eq_getElem?_getD, List.getElem?_eq_getElem h2]
    rfl
theorem proj_all {names cols : List ByteArray} {rows : List (List Int)} (h : projB names rows cols = true) : ProjIs names rows names true names rows ∧ tableB cols (rows.map (projRow names cols)) = true := by
  unfold projB at h
  simp only [Bool.and_eq_true] at h
  obtain ⟨ht, hc, hall⟩ := h
  have ht' := ht
  unfold tableB at ht'
  simp only [Bool.and_eq_true, decide_eq_true_eq] at ht'
  obtain ⟨hn, hr16, hrows⟩ := ht'
  have hR : ∀ r ∈ rows, r.length = names.length ∧ r.all valB = true := by
    intro r hr
    unfold rowsB at hrows
    have := List.all_eq_true.1 hrows r hr
    unfold rowB at this
    simpa using this
  have hmem : names.all (hasW names) = true := List.all_eq_true.2 fun x hx => by
    obtain ⟨k, hk, rfl⟩ := List.getElem_of_mem hx
    exact hasW_mem (List.getElem?_eq_getElem hk)
  have hb : projB names rows names = true := by
    unfold projB
    rw [ht, hn, hmem]
    rfl
  have hmap : rows.map (projRow names names) = rows := by
    conv => rhs; rw [← List.map_id rows]
    exact List.map_congr_left fun r hr => projRow_self hn (hR r hr).1
  refine ⟨⟨hb, by rw [hb]; rfl, by rw [hb]; simp only [if_true]; exact hmap.symm⟩, ?_⟩
  unfold tableB
  simp only [Bool.and_eq_true, decide_eq_true_eq, List.length_map]
  refine ⟨hc, hr16, ?_⟩
  unfold rowsB
  rw [List.all_eq_true]
  intro r hr
  obtain ⟨r0, hr0, rfl⟩ := List.mem_map.1 hr
  have hv := (hR r0 hr0).2
  unfold rowB projRow
  simp only [Bool.and_eq_true, decide_eq_true_eq, List.length_map, true_and]
  rw [List.all_eq_true]
  intro x hx
  obtain ⟨y, _, rfl⟩ := List.mem_map.1 hx
  rw [List.getD_eq_getElem?_getD]
  rcases hg : r0[colN names y]? with _ | z
  · decide
  · exact List.all_eq_true.1 hv z (List.mem_of_getElem? hg)
set_option maxHeartbeats 3200000 in
theorem fnProj_walk {w : World} (A : Option Addr) (n c : Nat) (xs : List UInt8) (hl : xs.length = n) (hc : n ≤ c) (hm : c ≤ maxLen) (hx : Reads w w.heap.size 1 A n (byCells xs))
    (RA : Option Addr) (RC : Nat) (hv : w.cell? ⟨0, 0, none⟩ = some (.slice RA 13 RC)) (hr : Reads w w.heap.size 1 RA 13 (stCells resW)) :
    Calls Tryd.prog 3 #[.slice A n c] w fun e w' => e = .returned (.bool true) ∧ Below w.heap.size w w' := by
  by_cases hbig : (1048576 : Int) < (n : Int)
  · clear hx hr
    go_enter Tryd.func3, Tryd.ntmps3
    go_wp2_with fail
    go_ret
    exact ⟨rfl, Below.refl _ _⟩
  have HD := Lib.hid (drawProj_any A n c xs w hx hl (by omega) hc hm)
  have RV := Lib.hid (fun (w' : World) (hb : Below w.heap.size w w') => And.intro (below_keep hb hv) ((hr.below hb).more hb.size))
  clear hx hr hl hv
  go_enter Tryd.func3, Tryd.ntmps3
  go_wp2_with fail
  refine HD.out.mono ?_
  rintro e w1 ⟨nv, rv, cv, cols, names, rows, rfl, hcb, hcv, ho, hd, b1⟩
  obtain ⟨A1, c1, B1, d1, rfl, rfl⟩ := ho.form
  obtain ⟨CA, cc, rfl, hcc0, hcr⟩ := hcv
  obtain ⟨ok, N, R, hL⟩ := ProjIs.ex names rows cols
  obtain ⟨l1, hl1⟩ : ∃ n, names.length = n := ⟨_, rfl⟩
  obtain ⟨l2, hl2⟩ : ∃ n, rows.length = n := ⟨_, rfl⟩
  obtain ⟨nc, hnc⟩ : ∃ n, cols.length = n := ⟨_, rfl⟩
  obtain ⟨nN, hNN⟩ : ∃ n, N.length = n := ⟨_, rfl⟩
  obtain ⟨nR, hRR⟩ : ∃ n, R.length = n := ⟨_, rfl⟩
  have SM := Lib.hid hd.small'
  have SC : Hid (SmallS cols) := Lib.hid ⟨by have := hcb.1; omega, fun x hx => by have := hcb.2 x hx; omega⟩
  have SN := Lib.hid (hL.small hd.small' SC.out)
  have HL := Lib.hid hL
  rw [hl1, hl2] at ho ⊢
  rw [hnc] at hcr hcc0 ⊢
  have HCC := Lib.hid hcc0
  have HNR := Lib.hid (And.intro hNN hRR)
  have HLL := Lib.hid (And.intro hl1 (And.intro hl2 hnc))
  clear hL hNN hRR hl1 hl2 hnc hd HD hcb hcc0
  have hqq : (ok != ok) = false := by cases ok <;> rfl
  obtain ⟨w2, hw2⟩ : ∃ w2, w2 = w1.alloc (.cells #[.slice A1 l1 c1, .slice B1 l2 d1] 26) := ⟨_, rfl⟩
  have b2 : Below w1.heap.size w1 w2 := by rw [hw2]; exact (Below.refl _ _).alloc (Nat.le_refl _) _
  have k2 : Blk w2 w1.heap.size 26 #[.slice A1 l1 c1, .slice B1 l2 d1] := by rw [hw2]; exact Blk.new _ _ _
  have B2 := Lib.hid (b1.trans (b2.mono b1.size))
  have P2 := Lib.hid (fun (wr : World) (hb : Below w2.heap.size w2 wr) => And.intro (k2.below hb k2.lt) (((ho.below b2).below hb).tabC.tabR))
  have CO := Lib.hid (fun (wr : World) (hb : Below w2.heap.size w2 wr) => show Reads wr wr.heap.size 1 CA nc (stCells cols) from ((((hcr.below b2).more b2.size).below hb).more hb.size))
  have IM := Lib.hid (implProj_any _ names rows CA nc cc cols ok N R HL.out RA RC w2 (RV.out w2 B2.out).1 (RV.out w2 B2.out).2 ((P2.out w2 (Below.refl _ _)).2) SM.out (CO.out w2 (Below.refl _ _)) HLL.out.2.2 HCC.out SC.out)
  have HW2 := Lib.hid hw2
  clear k2 ho b2 hcr
  go_wp2_with fail
  rw [← HW2.out]
  clear hw2 HW2
  refine IM.out.mono ?_
  rintro e w3 hres
  obtain ⟨A3, c3, B3, d3, rfl, o3, b3⟩ := TabRes.form hres
  rw [HNR.out.1, HNR.out.2] at o3 ⊢
  clear hres IM
  obtain ⟨w4, hw4⟩ : ∃ w4, w4 = w3.alloc (.cells #[.slice A3 nN c3, .slice B3 nR d3] 26) := ⟨_, rfl⟩
  have b4 : Below w3.heap.size w3 w4 := by rw [hw4]; exact (Below.refl _ _).alloc (Nat.le_refl _) _
  have k4 : Blk w4 w3.heap.size 26 #[.slice A3 nN c3, .slice B3 nR d3] := by rw [hw4]; exact Blk.new _ _ _
  have b24 := Lib.hid (b3.trans (b4.mono b3.size))
  have T4 := Lib.hid (fun (wr : World) (hb : Below w4.heap.size w4 wr) => And.intro (k4.below hb k4.lt) ((o3.below b4).below hb).reads)
  have x0 := (P2.out w4 b24.out).1.cell 0
  have x1 := (P2.out w4 b24.out).1.cell 1
  simp at x0 x1
  have SP := Lib.hid (specProj_any _ names rows CA nc cc cols ok N R HL.out w4 (P2.out w4 b24.out).2 SM.out (CO.out w4 b24.out) HLL.out.2.2 SC.out)
  have HW4 := Lib.hid hw4
  rw [hw4] at x0 x1
  clear k4 o3 b4 b3
  go_wp2_with fail
  rw [← HW4.out]
  clear hw4 HW4 x0 x1
  refine SP.out.mono ?_
  rintro e w5 hres
  obtain ⟨A5, c5, B5, d5, rfl, o5, b5⟩ := TabRes.form hres
  rw [HNR.out.1, HNR.out.2] at o5 ⊢
  clear hres SP
  obtain ⟨w6, hw6⟩ : ∃ w6, w6 = w5.alloc (.cells #[.slice A5 nN c5, .slice B5 nR d5] 26) := ⟨_, rfl⟩
  have b6 : Below w5.heap.size w5 w6 := by rw [hw6]; exact (Below.refl _ _).alloc (Nat.le_refl _) _
  have k6 : Blk w6 w5.heap.size 26 #[.slice A5 nN c5, .slice B5 nR d5] := by rw [hw6]; exact Blk.new _ _ _
  have b46 := Lib.hid (b5.trans (b6.mono b5.size))
  have x0 := (T4.out w6 b46.out).1.cell 0
  have x1 := (T4.out w6 b46.out).1.cell 1
  have y0 := k6.cell 0
  have y1 := k6.cell 1
  simp at x0 x1 y0 y1
  have EQ := Lib.hid (sameTable_yes _ _ N R w6 (T4.out w6 b46.out).2 ((o5.below b6).reads) SN.out.ok)
  have HW6 := Lib.hid hw6
  rw [hw6] at x0 x1 y0 y1
  clear k6 o5 b6 b5
  go_wp2_with fail
  rw [← HW6.out]
  clear hw6 HW6 x0 x1 y0 y1
  refine EQ.out.mono ?_
  rintro e w7 ⟨rfl, b7⟩
  have b47 := Lib.hid (b46.out.trans (b7.mono b46.out.size))
  have b27 := Lib.hid (b24.out.trans (b47.out.mono b24.out.size))
  have B7 := Lib.hid (B2.out.trans (b27.out.mono B2.out.size))
  clear EQ b7 b46
  cases htk : projB names rows cols with
  | false =>
    obtain ⟨rfl, rfl, rfl⟩ := HL.out.no htk
    obtain rfl : nN = 0 := HNR.out.1.symm
    have x0 := (T4.out w7 b47.out).1.cell 0
    simp at x0
    have AL := Lib.hid (alive_yes RA RC w7 (RV.out w7 B7.out).1 (RV.out w7 B7.out).2)
    clear htk
    go_wp2_with fail
    refine AL.out.mono ?_
    rintro e w' ⟨rfl, rfl⟩
    go_wp2_with fail
    go_ret
    exact ⟨rfl, B7.out⟩
  | true =>
    obtain ⟨rfl, eN, eR⟩ := HL.out.yes htk
    obtain ⟨h2, hTV⟩ := proj_all htk
    have HTV : Hid (tableB N R = true) := Lib.hid (by rw [eN, eR]; exact hTV)
    have hnc : nc = nN := by rw [← HLL.out.2.2, ← HNR.out.1, eN]
    subst hnc
    have hl2 : nR = l2 := by rw [← HLL.out.2.1, ← HNR.out.2, eR, List.length_map]
    subst hl2
    have HEN := Lib.hid eN
    have AG := Lib.hid (implProj_any _ names rows A1 l1 c1 names true names rows h2 RA RC w7 (RV.out w7 B7.out).1 (RV.out w7 B7.out).2 (P2.out w7 b27.out).2 SM.out (P2.out w7 b27.out).2.namesR.1 HLL.out.1 (P2.out w7 b27.out).2.namesR.2 ⟨SM.out.n1, SM.out.n2⟩)
    have x0 := (P2.out w7 b27.out).1.cell 0
    have x1 := (P2.out w7 b27.out).1.cell 1
    simp at x0 x1
    clear htk h2 eN eR hTV
    go_wp2_with fail
    refine AG.out.mono ?_
    rintro e w8 hres
    obtain ⟨A8, c8, B8, d8, rfl, o8, b8⟩ := TabRes.form hres
    rw [HLL.out.1, HLL.out.2.1] at o8 ⊢
    clear hres AG x0 x1
    obtain ⟨w9, hw9⟩ : ∃ w9, w9 = w8.alloc (.cells #[.slice A8 l1 c8, .slice B8 nR d8] 26) := ⟨_, rfl⟩
    have b9 : Below w8.heap.size w8 w9 := by rw [hw9]; exact (Below.refl _ _).alloc (Nat.le_refl _) _
    have k9 : Blk w9 w8.heap.size 26 #[.slice A8 l1 c8, .slice B8 nR d8] := by rw [hw9]; exact Blk.new _ _ _
    have b79 := Lib.hid (b8.trans (b9.mono b8.size))
    have b29 := Lib.hid (b27.out.trans (b79.out.mono b27.out.size))
    have b49 := Lib.hid (b47.out.trans (b79.out.mono b47.out.size))
    have B9 := Lib.hid (B7.out.trans (b79.out.mono B7.out.size))
    have x0 := (T4.out w9 b49.out).1.cell 0
    have x1 := (T4.out w9 b49.out).1.cell 1
    have y0 := (P2.out w9 b29.out).1.cell 0
    have y1 := (P2.out w9 b29.out).1.cell 1
    have z0 := k9.cell 0
    have z1 := k9.cell 1
    simp at x0 x1 y0 y1 z0 z1
    have ST := Lib.hid (fun (wr : World) (hb : Below w9.heap.size w9 wr) => sameTable_yes _ _ names rows wr ((o8.below b9).below hb).reads (P2.out wr (b29.out.trans (hb.mono b29.out.size))).2 SM.out.ok)
    have TX := Lib.hid (fun (wr : World) (hb : Below w9.heap.size w9 wr) => sameTexts_yes A3 CA nc c3 cc N wr HNR.out.1 (T4.out wr (b49.out.trans (hb.mono b49.out.size))).2.namesR.1 (by rw [HEN.out]; exact CO.out wr (b29.out.trans (hb.mono b29.out.size))) (by have := SN.out.n1; rw [HNR.out.1] at this; omega))
    have IV := Lib.hid (fun (wr : World) (hb : Below w9.heap.size w9 wr) => implTab_any true _ N R RA RC wr (RV.out wr (B9.out.trans (hb.mono B9.out.size))).1 (RV.out wr (B9.out.trans (hb.mono B9.out.size))).2 (T4.out wr (b49.out.trans (hb.mono b49.out.size))).2 SN.out.ok HTV.out)
    have HW9 := Lib.hid hw9
    clear k9 o8 b8 b9
    rw [hw9] at x0 x1 y0 y1 z0 z1
    go_wp2_with fail
    rw [← HW9.out] at x0 x1 y0 y1 z0 z1 ⊢
    clear hw9 HW9
    refine (TX.out _ (Below.refl _ _)).mono ?_
    rintro e wa ⟨rfl, ha⟩
    obtain ⟨x0, x1, y0, y1, z0, z1⟩ : wa.cell? ⟨w3.heap.size, 0, none⟩ = some (.slice A3 nc c3) ∧ wa.cell? ⟨w3.heap.size, 1, none⟩ = some (.slice B3 nR d3) ∧ wa.cell? ⟨w1.heap.size, 0, none⟩ = some (.slice A1 l1 c1) ∧ wa.cell? ⟨w1.heap.size, 1, none⟩ = some (.slice B1 nR d1) ∧ wa.cell? ⟨w8.heap.size, 0, none⟩ = some (.slice A8 l1 c8) ∧ wa.cell? ⟨w8.heap.size, 1, none⟩ = some (.slice B8 nR d8) := by
      refine ⟨?_, ?_, ?_, ?_, ?_, ?_⟩ <;> (refine below_keep ha ?_; assumption)
    go_wp2_with fail
    refine (ST.out _ ha).mono ?_
    rintro e wb ⟨rfl, hb⟩
    obtain ⟨x0, x1, y0, y1, z0, z1⟩ : wb.cell? ⟨w3.heap.size, 0, none⟩ = some (.slice A3 nc c3) ∧ wb.cell? ⟨w3.heap.size, 1, none⟩ = some (.slice B3 nR d3) ∧ wb.cell? ⟨w1.heap.size, 0, none⟩ = some (.slice A1 l1 c1) ∧ wb.cell? ⟨w1.heap.size, 1, none⟩ = some (.slice B1 nR d1) ∧ wb.cell? ⟨w8.heap.size, 0, none⟩ = some (.slice A8 l1 c8) ∧ wb.cell? ⟨w8.heap.size, 1, none⟩ = some (.slice B8 nR d8) := by
      refine ⟨?_, ?_, ?_, ?_, ?_, ?_⟩ <;> (refine below_keep hb ?_; assumption)
    go_wp2_with fail
    have hab := ha.trans (hb.mono ha.size)
    refine (IV.out _ hab).mono ?_
    rintro e wd ⟨rfl, hd⟩
    have hf := B9.out.trans ((hab.trans (hd.mono hab.size)).mono B9.out.size)
    clear hd hab ha hb TX ST IV x0 x1 y0 y1 z0 z1
    go_wp2_with fail
    go_ret
    exact ⟨rfl, hf⟩
end Go.Proofs.YtijpdekcdejfmaaDoor
