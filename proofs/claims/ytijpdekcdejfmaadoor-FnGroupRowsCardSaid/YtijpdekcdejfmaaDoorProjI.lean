/- ProjectRows: the program's. -/
import Derived.Test.YtijpdekcdejfmaaDoorProj
namespace Go.Proofs.YtijpdekcdejfmaaDoor
open Go Go.RowKit
set_option maxRecDepth 100000
set_option maxHeartbeats 400000 in
theorem taken1_is (q : Bool) (b : Nat) (A : Option Addr) (n c : Nat) (names : List ByteArray) (y : ByteArray) (w : World) (B : Nat) (hcell : w.cell? ⟨b, 0, none⟩ = some (.slice A n c)) (hxn : names.length = n) (hx : Reads w B 1 A n (stCells names)) (hn : n ≤ 1000000000) (hq : hasW names y = q) :
    Calls Tryd.prog 46 #[.string y, .pointer (some ⟨b, 0, none⟩)] w fun e w' => e = .returned (.bool !q) ∧ w = w' := by
  have H := Lib.hid (containsStr_any q A n c names y w B hxn hx hn hq)
  clear hq hx hxn
  go_enter Tryd.func46, Tryd.ntmps46
  go_wp2_with fail
  refine H.out.mono ?_
  rintro e w' ⟨rfl, rfl⟩
  go_wp2_with fail
  go_ret
  exact ⟨rfl, rfl⟩
set_option maxHeartbeats 800000 in
theorem indexTaken_any (q : Bool) (b : Nat) (NA : Option Addr) (m d : Nat) (names : List ByteArray) (A : Option Addr) (n c : Nat) (xs : List ByteArray) (w : World) (B : Nat) (hcell : w.cell? ⟨b, 0, none⟩ = some (.slice NA m d)) (hmn : names.length = m) (hy : Reads w B 1 NA m (stCells names)) (hm : m ≤ 1000000000)
    (hxn : xs.length = n) (hx : Reads w B 1 A n (stCells xs)) (hn : n ≤ 1000000000) (hq : xs.all (hasW names) = q) :
    Calls Tryd.prog 59 #[.slice A n c, .func (.func 46) #[] #[.pointer (some ⟨b, 0, none⟩)]] w fun e w' => ∃ r : Int, e = .returned (.int .i64 r) ∧ decide (0 ≤ r) = !q ∧ w = w' := by
  have HX := Lib.hid hxn
  have HQ := Lib.hid hq
  have TK := Lib.hid (fun (p : Bool) (y : ByteArray) (h : hasW names y = p) => taken1_is p b NA m d names y w B hcell hmn hy hm h)
  clear hxn hq hy hcell
  go_enter Tryd.func59, Tryd.ntmps59
  go_wp2_with fail
  go_loop [5, 8] (fun _ v => ∃ k : Nat, k ≤ n ∧ v = .int .i64 k ∧ Hid ((xs.take k).all (hasW names) = true)) (fun _ v => n - (intOf v).toNat)
  case atStart => exact ⟨0, Nat.zero_le _, rfl, rfl⟩
  case round =>
    obtain ⟨k, hk, rfl, hok⟩ := hrel
    have hk0 : (0 : Int) ≤ (k : Int) := Int.natCast_nonneg _
    by_cases hlt : k < n
    · obtain ⟨ad, y, rfl, _, hy, e1⟩ := st_at hx HX.out hlt
      have hk1 : (k : Int) < (n : Int) := by omega
      obtain ⟨p, hp⟩ : ∃ p, hasW names y = p := ⟨_, rfl⟩
      have HY := Lib.hid hy
      have HP := Lib.hid hp
      have RF := Lib.hid (TK.out p y hp)
      clear hy hp hx
      go_wp2_with fail
      refine RF.out.mono ?_
      rintro e w' ⟨rfl, rfl⟩
      cases p
      · go_wp2_with fail
        go_ret
        refine ⟨_, rfl, ?_, rfl⟩
        have : xs.all (hasW names) = false := by rw [List.all_eq_false]; exact ⟨y, List.mem_of_getElem? HY.out, by simp [HP.out]⟩
        rw [← HQ.out, this]
        simp
      · go_wp2_with fail
        go_round
        case rel =>
          refine ⟨k + 1, by omega, by go_num, ?_⟩
          unfold Hid
          rw [List.take_add_one, HY.out, List.all_append, hok.out]
          simp [HP.out]
        case measure => simp [intOf]; omega
    · obtain rfl : k = n := by omega
      clear hx
      go_wp2_with fail
      go_ret
      refine ⟨_, rfl, ?_, rfl⟩
      have h := hok.out
      rw [List.take_of_length_le (by have := HX.out; omega)] at h
      rw [← HQ.out, h]
      simp
set_option maxHeartbeats 400000 in
theorem containsTaken_any (q : Bool) (b : Nat) (NA : Option Addr) (m d : Nat) (names : List ByteArray) (A : Option Addr) (n c : Nat) (xs : List ByteArray) (w : World) (B : Nat) (hcell : w.cell? ⟨b, 0, none⟩ = some (.slice NA m d)) (hmn : names.length = m) (hy : Reads w B 1 NA m (stCells names)) (hm : m ≤ 1000000000)
    (hxn : xs.length = n) (hx : Reads w B 1 A n (stCells xs)) (hn : n ≤ 1000000000) (hq : xs.all (hasW names) = q) :
    Calls Tryd.prog 45 #[.slice A n c, .func (.func 46) #[] #[.pointer (some ⟨b, 0, none⟩)]] w fun e w' => e = .returned (.bool !q) ∧ w = w' := by
  have H := Lib.hid (indexTaken_any q b NA m d names A n c xs w B hcell hmn hy hm hxn hx hn hq)
  clear hq hx hy hcell
  go_enter Tryd.func45, Tryd.ntmps45
  go_wp2_with fail
  refine H.out.mono ?_
  rintro e w' ⟨r, rfl, hr, rfl⟩
  by_cases h0 : 0 ≤ r
  · go_wp2_with fail
    go_ret
    exact ⟨ret_bool (by rw [← hr] <;> simp [h0]), rfl⟩
  · go_wp2_with fail
    go_ret
    exact ⟨ret_bool (by rw [← hr] <;> simp [h0]), rfl⟩
set_option maxHeartbeats 800000 in
theorem taken_any (q : Bool) (NA : Option Addr) (n d : Nat) (names : List ByteArray) (A : Option Addr) (k c : Nat) (cols : List ByteArray) (RA : Option Addr) (RC : Nat) (w : World)
    (hv : w.cell? ⟨0, 0, none⟩ = some (.slice RA 13 RC)) (hr : Reads w w.heap.size 1 RA 13 (stCells resW))
    (hxn : names.length = n) (hx : Reads w w.heap.size 1 NA n (stCells names)) (hn : n ≤ 1000000000)
    (hzn : cols.length = k) (hz : Reads w w.heap.size 1 A k (stCells cols)) (hk : k ≤ 1000000000) (hc : k ≤ c) (hs : ∀ x ∈ cols, x.size ≤ 9223372036854775807) (hq : (namesB cols && cols.all (hasW names)) = q) :
    Calls Tryd.prog 23 #[.slice NA n d, .slice A k c] w fun e w' => e = .returned (.bool q) ∧ Below w.heap.size w w' := by
  obtain ⟨w1, hw1⟩ : ∃ w1, w1 = w.alloc (.cells #[.slice NA n d] 23) := ⟨_, rfl⟩
  have b1 : Below w.heap.size w w1 := by rw [hw1]; exact (Below.refl _ _).alloc (Nat.le_refl _) _
  have kb : Blk w1 w.heap.size 23 #[.slice NA n d] := by rw [hw1]; exact Blk.new _ _ _
  have c0 := kb.cell 0
  simp at c0
  obtain ⟨p, hp⟩ : ∃ p, namesB cols = p := ⟨_, rfl⟩
  obtain ⟨u, hu⟩ : ∃ u, cols.all (hasW names) = u := ⟨_, rfl⟩
  rw [hp, hu] at hq
  have CO := Lib.hid (columns_any p A k c cols RA RC w1 (below_keep b1 hv) ((hr.below b1).more b1.size) hzn ((hz.below b1).more b1.size) hk hc hs hp)
  have CT := Lib.hid (containsTaken_any u w.heap.size NA n d names A k c cols w1 w1.heap.size c0 hxn ((hx.below b1).more b1.size) hn hzn ((hz.below b1).more b1.size) hk hu)
  have HW := Lib.hid hw1
  have HQ := Lib.hid hq
  clear hx hz hv hr hp hu hq hzn kb hw1
  go_enter Tryd.func23, Tryd.ntmps23
  go_wp2_with fail
  rw [← HW.out]
  refine CO.out.mono ?_
  rintro e w' ⟨rfl, rfl⟩
  cases p
  · go_wp2_with fail
    go_ret
    exact ⟨ret_bool (by rw [← HQ.out]; rfl), b1⟩
  · go_wp2_with fail
    refine CT.out.mono ?_
    rintro e w' ⟨rfl, rfl⟩
    go_wp2_with fail
    go_ret
    exact ⟨ret_bool (by rw [← HQ.out]; simp), b1⟩
/-! ### impl.take -/
set_option maxHeartbeats 1600000 in
theorem implTake_rows (NA : Option Addr) (n d : Nat) (names : List ByteArray) (RB : Option Addr) (m c : Nat) (rows : List (List Int)) (CA : Option Addr) (k cc : Nat) (cols : List ByteArray) (w : World)
    (hnn : names.length = n) (hx : Reads w w.heap.size 1 NA n (stCells names)) (hn : n ≤ 1000000000) (hy : RowsR w w.heap.size RB m rows) (hm : m ≤ 1000000000) (hrl : ∀ r ∈ rows, r.length = n)
    (hcl : cols.length = k) (hz : Reads w w.heap.size 1 CA k (stCells cols)) (hk : k ≤ 1000000000) (hall : ∀ y ∈ cols, hasW names y = true) :
    Calls Tryd.prog 25 #[.slice NA n d, .slice RB m c, .slice CA k cc] w fun e w' => ∃ v, e = .returned v ∧ RowsO w' w.heap.size w'.heap.size v (rows.map (projRow names cols)) ∧ Below w.heap.size w w' := by
  obtain ⟨j0, hjI, hjz0, hjz1, hjz2⟩ := info_parts infoRow
  obtain ⟨z0, hzI, hzz0, hzz1, hzz2⟩ := info_parts infoInt
  have HMM := Lib.hid hy.len
  have HRL := Lib.hid hrl
  have HCL := Lib.hid hcl
  have HNN := Lib.hid hnn
  have HALL := Lib.hid hall
  have HX := Lib.hid (fun (wr : World) (hb : Below w.heap.size w wr) => (hx.below hb).more hb.size)
  have HY := Lib.hid (fun (wr : World) (hb : Below w.heap.size w wr) => hy.below hb)
  have HZ := Lib.hid (fun (wr : World) (hb : Below w.heap.size w wr) => (hz.below hb).more hb.size)
  clear hx hy hz hrl hcl hnn hall
  have START : Hid (RowsV w w.heap.size w.heap.size nilV [] ((rows.take 0).map (projRow names cols))) := Lib.hid (RowsV.nil w _ _)
  go_enter Tryd.func25, Tryd.ntmps25
  go_wp2_with fail
  go_loopw [7, 9, 10, 12, 15] (fun ov _ _ _ jv wr => ∃ (j : Nat) (vs : List Value), j ≤ m ∧ jv = .int .i64 j ∧ Hid (RowsV wr w.heap.size wr.heap.size ov vs ((rows.take j).map (projRow names cols))) ∧ Hid (Below w.heap.size w wr)) (fun _ _ _ _ jv _ => m - (intOf jv).toNat)
  case atStart => exact ⟨0, [], Nat.zero_le _, rfl, START, Lib.hid (Below.refl _ _)⟩
  case round =>
    clear START
    obtain ⟨j, vs, hj, rfl, hv, hbo⟩ := hrel
    obtain ⟨wo, rfl⟩ : ∃ x, x = wr := ⟨_, rfl⟩
    have hj0 : (0 : Int) ≤ (j : Int) := Int.natCast_nonneg _
    have hlk : ((rows.take j).map (projRow names cols)).length = j := by rw [List.length_map, List.length_take]; have := HMM.out; omega
    obtain ⟨A7, c7, e7, _, _, _⟩ := hv.out.form
    rw [hlk] at e7
    subst e7
    by_cases hlt : j < m
    · have hj1 : (j : Int) < (m : Int) := by omega
      obtain ⟨ad, row, Ak, ck, rfl, hadb, hrow, e1, g1, g2, g3, rr⟩ := (HY.out wo hbo.out).at_ hlt
      have hrl : row.length = n := HRL.out row (List.mem_of_getElem? hrow)
      have RR := Lib.hid rr
      have HROW := Lib.hid hrow
      have omR := Lib.hid (World.ownsRow_nil wo wo.heap.size 3 1)
      clear hrow g3 rr
      go_wp2_with fail
      go_loopw [10, 12, 21] (fun rv _ iv wi => ∃ i : Nat, i ≤ k ∧ iv = .int .i64 i ∧ Hid (wi.ownsRow wo.heap.size 3 1 rv i (inCells (projRow names (cols.take i) row))) ∧ Hid (Below wo.heap.size wo wi)) (fun _ _ iv _ => k - (intOf iv).toNat)
      case atStart => exact ⟨0, Nat.zero_le _, rfl, by rw [List.take_zero]; exact omR, Lib.hid (Below.refl _ _)⟩
      case round =>
        clear omR
        obtain ⟨i, hi, rfl, hp, hb⟩ := hrel
        obtain ⟨wi, rfl⟩ : ∃ x, x = wr := ⟨_, rfl⟩
        have hi0 : (0 : Int) ≤ (i : Int) := Int.natCast_nonneg _
        obtain ⟨A6, c6, e6, _, _⟩ := own_form hp.out
        subst e6
        by_cases hlt3 : i < k
        · have hi1 : (i : Int) < (k : Int) := by omega
          have B3 := hbo.out.trans (hb.out.mono hbo.out.size)
          obtain ⟨cd, y, rfl, hcd, hyk, e3⟩ := st_at (HZ.out wi B3) HCL.out hlt3
          have hyw := HALL.out y (List.mem_of_getElem? hyk)
          have hcl := colN_lt hyw
          rw [HNN.out, ← hrl] at hcl
          have IX := Lib.hid (indexStr_is (colN names y : Int) NA n d names y wi wi.heap.size HNN.out (HX.out wi B3) hn (colN_is hyw))
          obtain ⟨cn, hcn⟩ : ∃ cn, colN names y = cn := ⟨_, rfl⟩
          rw [hcn] at hcl IX
          obtain ⟨x, hxr⟩ : ∃ x, row[cn]? = some x := ⟨_, List.getElem?_eq_getElem hcl⟩
          obtain ⟨rd, rfl, hrb, q1⟩ := in_cell (k := cn) (x := x) (RR.out.below hb.out) hxr rfl
          have hc0 : (0 : Int) ≤ (cn : Int) := Int.natCast_nonneg _
          have hc1 : (cn : Int) < (row.length : Int) := by omega
          have hc2 : cn < row.length := hcl
          have HYK := Lib.hid hyk
          have HXR := Lib.hid (And.intro hxr hcn)
          have hbs := hb.out.size
          have hpd := Lib.hid hp.out
          clear hyk hyw hcn hxr B3
          go_wp2_with fail
          refine IX.out.mono ?_
          rintro e w' ⟨rfl, rfl⟩
          go_wp2_with (first
            | (at_builtin; (refine wpList_append_own_at _ rfl _ _ 40 rfl wo.heap.size 3 z0 _ 1 8 Tryd.underlying40 hzI hzz0 hzz1 hzz2 rfl (by decide) _ _ _ rfl (hpd.out.alloc _) ⟨wi.heap.size, 0, none⟩ 1 1 [.int .i64 x] rfl rfl (cells_new wi _ _) (oneCells rfl) (by unfold maxLen; omega) (by omega) (by simp; omega) ?_; intro v' w6 hown' hgrow _ hat)))
          have B6 := Lib.hid ((hb.out.alloc hbs (.cells #[.int .i64 x] 3)).grown hgrow (by simp; omega) (fun g e => (hpd.out.lt g e).1))
          have O6 := Lib.hid hown'
          clear hown' hgrow hat hpd q1
          go_roundw
          case rel =>
            refine ⟨i + 1, by omega, by go_num, ?_, B6⟩
            unfold Hid
            rw [projRow_next HYK.out, inCells_append, HXR.out.2]
            have e : row.getD cn 0 = x := by rw [List.getD_eq_getElem?_getD, HXR.out.1]; rfl
            rw [e]
            exact O6.out
          case measure => simp [intOf]; omega
        · obtain rfl : i = k := by omega
          have hp' := hp.out
          rw [List.take_of_length_le (by have := HCL.out; omega)] at hp'
          have hlr : (projRow names cols row).length = i := by unfold projRow; rw [List.length_map]; exact HCL.out
          have OU := Lib.hid (show wi.ownsRow wo.heap.size 3 1 (.slice A6 i c6) (projRow names cols row).length (inCells (projRow names cols row)) by rw [hlr]; exact hp')
          have hwb := hb.out.size
          have hbw := hbo.out.size
          have FR := Lib.hid (hv.out.fresh OU.out)
          have HV2 := Lib.hid (hv.out.below hb.out)
          have ho0 := HV2.out.own
          rw [hlk] at ho0
          have hb2 := hbo.out.trans (hb.out.mono hbw)
          clear hp'
          go_wp2_with (first
            | (at_builtin; (refine wpList_append_own_at _ rfl _ _ 24 rfl w.heap.size 40 j0 _ 1 24 Tryd.underlying24 hjI hjz0 hjz1 hjz2 rfl (by decide) _ _ _ rfl (ho0.alloc _) ⟨wi.heap.size, 0, none⟩ 1 1 [.slice A6 i c6] rfl rfl (cells_new _ _ _) (oneCells rfl) (by unfold maxLen; omega) (by omega) (by simp; omega) ?_; intro v' w6 hown' hgrow _ hat)))
          have V6 := Lib.hid ((HV2.out.alloc (.cells #[.slice A6 i c6] 40)).push (r := projRow names cols row) (hi' := w6.heap.size) ((OU.out.alloc _).base_le hbw) hgrow (by rw [hlk]; exact hown') hat FR.out.1 FR.out.2 (Nat.le_trans hwb (Nat.le_trans (by simp) hgrow.size)) (fun g e => (hown'.lt g e).2) (fun g e => Nat.lt_of_lt_of_le (OU.out.lt g e).2 (Nat.le_trans (by simp) hgrow.size)))
          have B6 := Lib.hid ((hb2.alloc hb2.size (.cells #[.slice A6 i c6] 40)).grown hgrow (by have := hb2.size; simp; omega) (fun g e => (ho0.lt g e).1))
          clear ho0 hgrow hown' hat hb2
          have e2 : (rows.take (j + 1)).map (projRow names cols) = (rows.take j).map (projRow names cols) ++ [projRow names cols row] := by rw [take_snoc rows j row HROW.out, List.map_append]; rfl
          go_roundw
          case rel => exact ⟨j + 1, _, by omega, by go_num, by rw [e2]; exact V6, B6⟩
          case measure => simp [intOf]; omega
    · obtain rfl : j = m := by omega
      go_wp2_with fail
      go_ret
      refine ⟨_, rfl, ⟨vs, ?_⟩, hbo.out⟩
      have := hv.out
      rwa [List.take_of_length_le (by have := HMM.out; omega)] at this

set_option maxHeartbeats 3200000 in
theorem implProj_any (v : Value) (names : List ByteArray) (rows : List (List Int)) (CA : Option Addr) (nc cc : Nat) (cols : List ByteArray) (ok : Bool) (N : List ByteArray) (R : List (List Int)) (hL : ProjIs names rows cols ok N R) (RA : Option Addr) (RC : Nat) (w : World)
    (hv : w.cell? ⟨0, 0, none⟩ = some (.slice RA 13 RC)) (hr : Reads w w.heap.size 1 RA 13 (stCells resW)) (ht : TabR w v names rows) (hs : Small names rows)
    (hcr : Reads w w.heap.size 1 CA nc (stCells cols)) (hcl : cols.length = nc) (hcc : nc ≤ cc) (hcs : SmallS cols) :
    Calls Tryd.prog 7 #[v, .slice CA nc cc] w fun e w' => TabRes w ok N R e w' := by
  have HT := Lib.hid ht
  obtain ⟨A, c, B, d, rfl, hc', hx, hy⟩ := ht
  obtain ⟨n, hnn⟩ : ∃ n, names.length = n := ⟨_, rfl⟩
  obtain ⟨m, hmm⟩ : ∃ m, rows.length = m := ⟨_, rfl⟩
  have hm1 := hs.r1
  have hn1 := hs.n1
  have hnc := hcs.n1
  rw [hcl] at hnc
  rw [hmm] at hm1 hy
  rw [hnn] at hn1 hx
  rw [hnn, hmm] at HT ⊢
  obtain ⟨w1, hw1⟩ : ∃ w1, w1 = (w.alloc (.cells #[.slice A n c, .slice B m d] 26)).alloc (.cells #[nilV, nilV] 26) := ⟨_, rfl⟩
  have b1 : Below w.heap.size w w1 := by rw [hw1]; exact ((Below.refl _ _).alloc (Nat.le_refl _) _).alloc (by simp) _
  have hs1 : w1.heap.size = w.heap.size + 1 + 1 := by rw [hw1]; simp
  have k1 : Blk w1 w.heap.size 26 #[.slice A n c, .slice B m d] := by rw [hw1]; exact (Blk.new _ _ _).alloc _
  have k2 : Blk w1 (w.heap.size + 1) 26 #[.slice none 0 0, .slice none 0 0] := by
    have := Blk.new (w.alloc (.cells #[.slice A n c, .slice B m d] 26)) 26 #[nilV, nilV]
    rw [World.size_alloc] at this
    rw [hw1]; exact this
  have c0 := k1.cell 0
  have c1 := k1.cell 1
  simp at c0 c1
  obtain ⟨q, hq⟩ : ∃ q, tableB names rows = q := ⟨_, rfl⟩
  obtain ⟨p, hp⟩ : ∃ p, (namesB cols && cols.all (hasW names)) = p := ⟨_, rfl⟩
  have ST := Lib.hid (implTab_any q _ names rows RA RC w1 (below_keep b1 hv) ((hr.below b1).more b1.size) (HT.out.below b1) hs.ok hq)
  have TN := Lib.hid (fun (w' : World) (h : Below w.heap.size w w') => taken_any p A n c names CA nc cc cols RA RC w' (below_keep h hv) ((hr.below h).more h.size) hnn ((hx.below h).more h.size) (by omega) hcl ((hcr.below h).more h.size) (by omega) hcc (fun x hx => by have := hcs.n2 x hx; omega) hp)
  have CN := Lib.hid (fun (w' : World) (h : Below w.heap.size w w') => cloneNames_any CA nc cc cols w' ((hcr.below h).more h.size) (by omega))
  have TK := Lib.hid (fun (w' : World) (h : Below w.heap.size w w') (h1 : ∀ r ∈ rows, r.length = n) (h2 : ∀ y ∈ cols, hasW names y = true) => implTake_rows A n c names B m d rows CA nc cc cols w' hnn ((hx.below h).more h.size) (by omega) (hy.below h) (by omega) h1 hcl ((hcr.below h).more h.size) (by omega) h2)
  have HW := Lib.hid hw1
  have hlim : projB names rows cols = (q && p) := by simp [projB, hq, hp]
  have HP := Lib.hid hp
  have HQ := Lib.hid hq
  have HCL := Lib.hid hcl
  have HM := Lib.hid hmm
  have HN := Lib.hid hnn
  have K12 := Lib.hid (And.intro k1 k2)
  have B1 := Lib.hid b1
  clear hs HT hmm hnn hq hp hw1 k1 k2 b1 hx hy hv hr hcr hcl hcs hc'
  have HLIM := Lib.hid hlim
  have HL := Lib.hid hL
  clear hlim hL
  go_enter Tryd.func7, Tryd.ntmps7
  go_wp2_with fail
  rw [← HW.out]
  refine ST.out.mono ?_
  rintro e w2 ⟨rfl, b2⟩
  have B2 := Lib.hid (B1.out.trans (b2.mono B1.out.size))
  have k1 := K12.out.1.below b2 K12.out.1.lt
  have K2 := K12.out.2.below b2 K12.out.2.lt
  have x0 := k1.cell 0
  have x1 := k1.cell 1
  have y0 := K2.cell 0
  have y1 := K2.cell 1
  have f0 := K2.frozen 0
  have f1 := K2.frozen 1
  simp at x0 x1 y0 y1
  have KK2 := Lib.hid K2
  have hw2n : w.heap.size + 1 + 1 ≤ w2.heap.size := Nat.le_trans (Nat.le_of_eq hs1.symm) b2.size
  have KK1 := Lib.hid k1
  clear c0 c1 k1 K2 b2
  cases q
  · have RS := Lib.hid (res_store B2.out KK2.out (Nat.le_succ _) (.slice none 0 0) (.slice none 0 0))
    go_wp2_with fail
    obtain ⟨r0, r1, rb, _⟩ := RS.out
    obtain ⟨rfl, rfl, rfl⟩ := HL.out.no (HLIM.out.trans (by rfl))
    clear f0 f1 x0 x1 y0 y1 RS
    generalize ((w2.setCell ⟨w.heap.size + 1, 0, none⟩ (.slice none 0 0)).setCell ⟨w.heap.size + 1, 1, none⟩ (.slice none 0 0)) = w6 at r0 r1 rb ⊢
    exact bodyPost_ret (v := .tuple #[.agg #[.slice none 0 0, .slice none 0 0], .bool false]) (by simp [results, Tryd.results7, go_sem, r0, r1]) rfl (TabO.nilRes rb)
  · have TN2 := Lib.hid (TN.out w2 B2.out)
    cases p
    · go_wp2_with fail
      refine TN2.out.mono ?_
      rintro e w3 ⟨rfl, b3⟩
      have B3 := Lib.hid (B2.out.trans (b3.mono B2.out.size))
      have K3 := Lib.hid (KK2.out.below b3 KK2.out.lt)
      have RS := Lib.hid (res_store B3.out K3.out (Nat.le_succ _) (.slice none 0 0) (.slice none 0 0))
      clear x0 x1 y0 y1 f0 f1
      have y0 := K3.out.cell 0
      have y1 := K3.out.cell 1
      have f0 := K3.out.frozen 0
      have f1 := K3.out.frozen 1
      simp at y0 y1
      go_wp2_with fail
      obtain ⟨r0, r1, rb, _⟩ := RS.out
      obtain ⟨rfl, rfl, rfl⟩ := HL.out.no (HLIM.out.trans (by rfl))
      clear f0 f1 y0 y1 RS
      generalize ((w3.setCell ⟨w.heap.size + 1, 0, none⟩ (.slice none 0 0)).setCell ⟨w.heap.size + 1, 1, none⟩ (.slice none 0 0)) = w6 at r0 r1 rb ⊢
      exact bodyPost_ret (v := .tuple #[.agg #[.slice none 0 0, .slice none 0 0], .bool false]) (by simp [results, Tryd.results7, go_sem, r0, r1]) rfl (TabO.nilRes rb)
    · obtain ⟨rfl, rfl, rfl⟩ := HL.out.yes (HLIM.out.trans (by rfl))
      go_wp2_with fail
      refine TN2.out.mono ?_
      rintro e w3 ⟨rfl, b3⟩
      have B3 := Lib.hid (B2.out.trans (b3.mono B2.out.size))
      have K3 := Lib.hid (KK2.out.below b3 KK2.out.lt)
      have K31 := KK1.out.below b3 KK1.out.lt
      have hw3n : w.heap.size + 1 + 1 ≤ w3.heap.size := Nat.le_trans hw2n b3.size
      have hall := HP.out
      rw [Bool.and_eq_true, List.all_eq_true] at hall
      have HA := Lib.hid (And.intro (fun (r : List Int) (hr : r ∈ rows) => (rows_len HQ.out hr).trans HN.out) hall.2)
      have hwl : w.heap.size ≠ w.heap.size + 1 := Nat.ne_of_lt (Nat.lt_succ_self _)
      clear x0 x1 y0 y1 f0 f1 hall b3
      have x0 := K31.cell 0
      have x1 := K31.cell 1
      simp at x0 x1
      clear K31
      go_wp2_with fail
      go_region_held3 (fun w' => w'.cell? ⟨w.heap.size, 0, none⟩ = some (.slice A n c) ∧ w'.cell? ⟨w.heap.size, 1, none⟩ = some (.slice B m d)) (first | go_keep | (go_split_ands; refine ⟨?_, ?_⟩ <;> (refine below_keep hb'' ?_; refine below_keep hb' ?_; assumption)) | (go_split_ands; refine ⟨?_, ?_⟩ <;> (refine below_keep hb' ?_; assumption)))
        (first
          | (go_at_call 24; refine (CN.out _ (B3.out.drew)).mono ?_; rintro e w' ⟨u, rfl, ou, hb'⟩; obtain ⟨Au, cu, rfl, _, _⟩ := own_form ou)
          | (go_at_call 25; refine (TK.out _ (B3.out.drew.trans (hb'.mono B3.out.size)) HA.out.1 HA.out.2).mono ?_; rintro e w'' ⟨u2, rfl, ou2, hb''⟩; obtain ⟨ll, hll⟩ : ∃ ll, (rows.map (projRow names N)).length = ll := ⟨_, rfl⟩; obtain ⟨us2, ov2⟩ := id ou2; obtain ⟨Bu, du, eu, _⟩ := ov2.form; rw [hll] at eu; subst eu; clear us2 ov2 hll; have K4 := (K3.out.drew.below hb' K3.out.lt).below hb'' (Nat.lt_of_lt_of_le K3.out.lt hb'.size); have z0 := K4.cell 0; have z1 := K4.cell 1; have g0 := K4.frozen 0; have g1 := K4.frozen 1; simp at z0 z1))
      all_goals (
        rw [← HCL.out] at ou
        have T0 := TabO.mk2 ou hb'' ou2 hb'.size
        have BB3 := B3.out.drew.trans ((hb'.mono B3.out.size).trans (hb''.mono (Nat.le_trans B3.out.size hb'.size)))
        rw [HCL.out] at T0
        obtain ⟨r0, r1, RR⟩ := res_end BB3 K4 (Nat.le_succ _) T0 hw3n
        clear T0 BB3 K4 z0 z1 g0 g1
        go_wp2_with fail
        generalize hgen : ((w''.setCell ⟨w.heap.size + 1, 0, none⟩ _).setCell ⟨w.heap.size + 1, 1, none⟩ _) = w6 at r0 r1 RR ⊢
        exact bodyPost_ret (v := .tuple #[.agg #[.slice Au nc cu, .slice Bu ll du], .bool true]) (by simp [results, Tryd.results7, go_sem, r0, r1]) rfl RR)
end Go.Proofs.YtijpdekcdejfmaaDoor
