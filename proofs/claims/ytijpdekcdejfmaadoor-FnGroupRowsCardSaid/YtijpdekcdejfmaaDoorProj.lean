/- ProjectRows: the reference's. -/
import Derived.Test.YtijpdekcdejfmaaDoorOwnT
import Derived.Test.YtijpdekcdejfmaaDoorColumn
import Derived.Deep.RegionHeld3
namespace Go.Proofs.YtijpdekcdejfmaaDoor
open Go Go.RowKit
set_option maxRecDepth 100000
def colN (names : List ByteArray) (y : ByteArray) : Nat := names.findIdx fun z => decide (y = z)
theorem colN_lt {names : List ByteArray} {y : ByteArray} (h : hasW names y = true) : colN names y < names.length := by
  unfold colN
  rw [List.findIdx_lt_length]
  unfold hasW at h
  rw [List.any_eq_true] at h
  exact h
theorem colN_is {names : List ByteArray} {y : ByteArray} (h : hasW names y = true) : ColIs names y (colN names y : Int) := by
  have hl := colN_lt h
  refine .inr ⟨colN names y, rfl, hl, ?_, ?_⟩
  · have := List.findIdx_getElem (w := hl)
    rw [List.getElem?_eq_getElem hl]
    have e : y = names[List.findIdx (fun z => decide (y = z)) names] := of_decide_eq_true this
    exact congrArg some e.symm
  · unfold hasW
    rw [List.any_eq_false]
    intro z hz
    obtain ⟨i, hi, rfl⟩ := List.getElem_of_mem hz
    rw [List.length_take] at hi
    have := List.not_of_lt_findIdx (p := fun z => decide (y = z)) (xs := names) (i := i) (by unfold colN at hi; omega)
    rw [List.getElem_take, this]
    simp
theorem colN_no {names : List ByteArray} {y : ByteArray} (h : hasW names y = false) : ColIs names y (-1) := .inl ⟨rfl, h⟩
def projB (names : List ByteArray) (rows : List (List Int)) (cols : List ByteArray) : Bool := tableB names rows && (namesB cols && cols.all (hasW names))
def projRow (names : List ByteArray) (cols : List ByteArray) (row : List Int) : List Int := cols.map fun y => row.getD (colN names y) 0
def ProjIs (names : List ByteArray) (rows : List (List Int)) (cols : List ByteArray) (ok : Bool) (N : List ByteArray) (R : List (List Int)) : Prop :=
  projB names rows cols = ok ∧ N = (if projB names rows cols then cols else []) ∧ R = (if projB names rows cols then rows.map (projRow names cols) else [])
section
variable {names cols N : List ByteArray} {rows R : List (List Int)} {ok : Bool}
theorem ProjIs.no (h : ProjIs names rows cols ok N R) (hb : projB names rows cols = false) : ok = false ∧ N = [] ∧ R = [] := by
  obtain ⟨rfl, rfl, rfl⟩ := h
  simp [hb]
theorem ProjIs.yes (h : ProjIs names rows cols ok N R) (hb : projB names rows cols = true) : ok = true ∧ N = cols ∧ R = rows.map (projRow names cols) := by
  obtain ⟨rfl, rfl, rfl⟩ := h
  simp [hb]
theorem ProjIs.ex (names : List ByteArray) (rows : List (List Int)) (cols : List ByteArray) : ∃ ok N R, ProjIs names rows cols ok N R := ⟨_, _, _, rfl, rfl, rfl⟩
end
/-- Slices of texts that a law draws within bounds. -/
structure SmallS (xs : List ByteArray) : Prop where
  n1 : xs.length ≤ 1048576
  n2 : ∀ x ∈ xs, x.size ≤ 1048576
theorem ProjIs.small {names cols N : List ByteArray} {rows R : List (List Int)} {ok : Bool} (h : ProjIs names rows cols ok N R) (hs : Small names rows) (hc : SmallS cols) : Small N R := by
  cases hb : projB names rows cols with
  | false => obtain ⟨_, rfl, rfl⟩ := h.no hb; exact Small.none_
  | true =>
    obtain ⟨_, rfl, rfl⟩ := h.yes hb
    refine ⟨hc.n1, hc.n2, by rw [List.length_map]; exact hs.r1, fun r hr => ?_⟩
    obtain ⟨r0, _, rfl⟩ := List.mem_map.1 hr
    unfold projRow
    rw [List.length_map]
    exact hc.n1
def colsZ (names cols : List ByteArray) : List Int := cols.map fun y => (colN names y : Int)
theorem colsZ_next {names cols : List ByteArray} {k : Nat} {y : ByteArray} (h : cols[k]? = some y) : colsZ names (cols.take (k + 1)) = colsZ names (cols.take k) ++ [(colN names y : Int)] := by
  unfold colsZ
  rw [take_snoc cols k y h, List.map_append]
  rfl
theorem projRow_next {names cols : List ByteArray} {row : List Int} {k : Nat} {y : ByteArray} (h : cols[k]? = some y) : projRow names (cols.take (k + 1)) row = projRow names (cols.take k) row ++ [row.getD (colN names y) 0] := by
  unfold projRow
  rw [take_snoc cols k y h, List.map_append]
  rfl
theorem TabR.namesR {w : World} {A B : Option Addr} {n c m d : Nat} {names : List ByteArray} {rows : List (List Int)} (h : TabR w (.agg #[.slice A n c, .slice B m d]) names rows) : Reads w w.heap.size 1 A n (stCells names) ∧ n ≤ c := by
  obtain ⟨A', c', B', d', e, hc, hx, _⟩ := h
  simp only [Value.agg.injEq, Array.mk.injEq, List.cons.injEq, and_true, Value.slice.injEq] at e
  obtain ⟨⟨rfl, rfl, rfl⟩, _⟩ := e
  exact ⟨hx, hc⟩
theorem TabR.rowsR' {w : World} {A B : Option Addr} {n c m d : Nat} {names : List ByteArray} {rows : List (List Int)} (h : TabR w (.agg #[.slice A n c, .slice B m d]) names rows) : RowsR w w.heap.size B m rows := by
  obtain ⟨A', c', B', d', e, _, _, hy⟩ := h
  simp only [Value.agg.injEq, Array.mk.injEq, List.cons.injEq, and_true, Value.slice.injEq] at e
  obtain ⟨_, rfl, rfl, _⟩ := e
  exact hy
theorem in_cell {w : World} {B n : Nat} {A : Option Addr} {xs : List Int} {k : Nat} {x : Int} (h : Reads w B 1 A n (inCells xs)) (hk : xs[k]? = some x) (hn : xs.length = n) : ∃ ad, A = some ad ∧ ad.block < B ∧ w.cell? (ad.add k) = some (.int .i64 x) := by
  have hlt := (List.getElem?_eq_some_iff.1 hk).1
  obtain ⟨ad, y, rfl, hb, hy, hc⟩ := in_at (k := k) h hn (by omega)
  obtain rfl := Option.some.inj (hk.symm.trans hy)
  exact ⟨ad, rfl, hb, hc⟩
theorem rows_len {names : List ByteArray} {rows : List (List Int)} (h : tableB names rows = true) {r : List Int} (hr : r ∈ rows) : r.length = names.length := by
  unfold tableB at h
  simp only [Bool.and_eq_true, decide_eq_true_eq] at h
  have h2 := h.2.2
  unfold rowsB at h2
  rw [List.all_eq_true] at h2
  have := h2 r hr
  unfold rowB at this
  simp only [Bool.and_eq_true, decide_eq_true_eq] at this
  exact this.1
set_option maxHeartbeats 3200000 in
theorem specProj_any (v : Value) (names : List ByteArray) (rows : List (List Int)) (CA : Option Addr) (nc cc : Nat) (cols : List ByteArray) (ok : Bool) (N : List ByteArray) (R : List (List Int)) (hL : ProjIs names rows cols ok N R) (w : World) (ht : TabR w v names rows) (hs : Small names rows)
    (hcr : Reads w w.heap.size 1 CA nc (stCells cols)) (hcl : cols.length = nc) (hcs : SmallS cols) :
    Calls Tryd.prog 8 #[v, .slice CA nc cc] w fun e w' => TabRes w ok N R e w' := by
  have HT := Lib.hid ht
  obtain ⟨A, c, B, d, rfl, _, _, _⟩ := ht
  obtain ⟨i0, hi0, hz0, hz1, hz2⟩ := info_parts infoStr
  obtain ⟨j0, hjI, hjz0, hjz1, hjz2⟩ := info_parts infoRow
  obtain ⟨z0, hzI, hzz0, hzz1, hzz2⟩ := info_parts infoInt
  obtain ⟨n, hnn⟩ : ∃ n, names.length = n := ⟨_, rfl⟩
  obtain ⟨m, hmm⟩ : ∃ m, rows.length = m := ⟨_, rfl⟩
  have hn1 := hs.n1
  have hm1 := hs.r1
  have hnc := hcs.n1
  rw [hcl] at hnc
  rw [hnn] at hn1
  rw [hmm] at hm1
  rw [hnn, hmm] at HT ⊢
  obtain ⟨w1, hw1⟩ : ∃ w1, w1 = (w.alloc (.cells #[.slice A n c, .slice B m d] 26)).alloc (.cells #[nilV, nilV] 26) := ⟨_, rfl⟩
  have b1 : Below w.heap.size w w1 := by rw [hw1]; exact ((Below.refl _ _).alloc (Nat.le_refl _) _).alloc (by simp) _
  have hs1 : w1.heap.size = w.heap.size + 1 + 1 := by rw [hw1]; simp
  have k1 : Blk w1 w.heap.size 26 #[.slice A n c, .slice B m d] := by rw [hw1]; exact (Blk.new _ _ _).alloc _
  have k2 : Blk w1 (w.heap.size + 1) 26 #[.slice none 0 0, .slice none 0 0] := by
    have := Blk.new (w.alloc (.cells #[.slice A n c, .slice B m d] 26)) 26 #[nilV, nilV]
    rw [World.size_alloc] at this
    rw [hw1]; exact this
  have c0 := k1.cell 0
  have c1 := k1.cell 1
  simp at c0 c1
  have OT := Lib.hid (l1OwnTable_any _ names rows w1 (HT.out.below b1) hs)
  obtain ⟨q, hq⟩ : ∃ q, tableB names rows = q := ⟨_, rfl⟩
  obtain ⟨p, hp⟩ : ∃ p, namesB cols = p := ⟨_, rfl⟩
  have HCR := Lib.hid (fun (w' : World) (h : Below w.heap.size w w') => (hcr.below h).more h.size)
  have LN := Lib.hid (fun (w' : World) (h : Below w.heap.size w w') => l1Names_any p CA nc cc cols w' hcl (HCR.out w' h) (by omega) (fun x hx => by have := hcs.n2 x hx; omega) hp)
  have ST := Lib.hid (fun (v : Value) (w' : World) (h : TabR w' v names rows) => specTab_any q v names rows w' h hs.ok hq)
  have hlim : projB names rows cols = (q && (p && cols.all (hasW names))) := by simp [projB, hq, hp]
  have HW := Lib.hid hw1
  have HCL := Lib.hid hcl
  have HNM := Lib.hid (And.intro hnn hmm)
  have HS := Lib.hid hs
  have K12 := Lib.hid (And.intro k1 k2)
  have B1 := Lib.hid b1
  have HLIM := Lib.hid hlim
  have HL := Lib.hid hL
  clear hs HT hnn hmm hq hp hw1 k1 k2 b1 hlim hL hcr hcl hcs
  go_enter Tryd.func8, Tryd.ntmps8
  go_wp2_with fail
  rw [← HW.out]
  refine OT.out.mono ?_
  rintro e w2 ⟨A2, c2, B2, d2, rfl, o2, b2⟩
  rw [HNM.out.1, HNM.out.2] at o2 ⊢
  have B2' := B1.out.trans (b2.mono B1.out.size)
  have m1 := K12.out.1.below b2 K12.out.1.lt
  have m2 := K12.out.2.below b2 K12.out.2.lt
  have x0 := m1.cell 0
  have x1 := m1.cell 1
  have f0 := m1.frozen 0
  have f1 := m1.frozen 1
  simp at x0 x1
  obtain ⟨w3, hw3⟩ : ∃ w3, w3 = (w2.setCell ⟨w.heap.size, 0, none⟩ (.slice A2 n c2)).setCell ⟨w.heap.size, 1, none⟩ (.slice B2 m d2) := ⟨_, rfl⟩
  have t3 : Touch w.heap.size (w.heap.size + 1) w2 w3 := by rw [hw3]; exact ((Touch.refl _ _ _).setCell (p := ⟨w.heap.size, 0, none⟩) (Or.inl ⟨Nat.le_refl _, Nat.lt_succ_self _⟩) _).setCell (p := ⟨w.heap.size, 1, none⟩) (Or.inl ⟨Nat.le_refl _, Nat.lt_succ_self _⟩) _
  have B3 : Below w.heap.size w w3 := by rw [hw3]; exact (B2'.setCell (p := ⟨w.heap.size, 0, none⟩) (Nat.le_refl _) _).setCell (p := ⟨w.heap.size, 1, none⟩) (Nat.le_refl _) _
  have hs3 : w3.heap.size = w2.heap.size := by rw [hw3]; simp [World.setCell]
  have o3 := o2.touch t3 (by omega) hs3
  have k3 : Blk w3 w.heap.size 26 #[.slice A2 n c2, .slice B2 m d2] := by
    have := (m1.set_ 0 (.slice A2 n c2)).set_ 1 (.slice B2 m d2)
    rw [hw3]
    simpa using this
  have k4 := t3.blk m2 (Or.inr (Nat.le_refl _))
  have hw3n : w.heap.size + 1 + 1 ≤ w3.heap.size := by have := b2.size; omega
  have ST3 := Lib.hid (ST.out _ w3 o3.reads)
  have y0 := k3.cell 0
  have y1 := k3.cell 1
  have g0 := k4.cell 0
  have g1 := k4.cell 1
  have h0 := k4.frozen 0
  have h1 := k4.frozen 1
  simp at y0 y1 g0 g1
  have HW3 := Lib.hid hw3
  rw [hw3] at y0 y1 g0 g1 h0 h1
  have K3 := Lib.hid (fun (wr : World) (hb : Below w3.heap.size w3 wr) => And.intro (k3.below hb k3.lt) (And.intro (k4.below hb k4.lt) (And.intro (o3.reads.below hb) (B3.trans (hb.mono B3.size)))))
  clear c0 c1 m1 m2 b2 o2 o3 k3 k4 t3 ST OT K12 B2'
  go_wp2_with fail
  rw [← HW3.out]
  clear hw3 HW3 x0 x1 f0 f1 y0 y1 g0 g1 h0 h1
  refine ST3.out.mono ?_
  rintro e w4 ⟨rfl, b4⟩
  have B34 := Lib.hid b4
  have hw4n : w.heap.size + 1 + 1 ≤ w4.heap.size := Nat.le_trans hw3n b4.size
  obtain ⟨k3, k4, o4, B4⟩ := K3.out w4 b4
  have g0 := k4.cell 0
  have g1 := k4.cell 1
  have h0 := k4.frozen 0
  have h1 := k4.frozen 1
  simp at g0 g1
  have LN4 := Lib.hid (LN.out w4 B4)
  have RS := Lib.hid (res_store B4 k4 (Nat.le_succ _) (.slice none 0 0) (.slice none 0 0))
  clear k3 k4 o4 ST3 b4
  cases q
  · go_wp2_with fail
    obtain ⟨r0, r1, rb, _⟩ := RS.out
    obtain ⟨rfl, rfl, rfl⟩ := HL.out.no (HLIM.out.trans (by rfl))
    clear RS
    generalize ((w4.setCell ⟨w.heap.size + 1, 0, none⟩ (.slice none 0 0)).setCell ⟨w.heap.size + 1, 1, none⟩ (.slice none 0 0)) = w6 at r0 r1 rb ⊢
    exact bodyPost_ret (v := .tuple #[.agg #[.slice none 0 0, .slice none 0 0], .bool false]) (by simp [results, Tryd.results8, go_sem, r0, r1]) rfl (TabO.nilRes rb)
  · cases p
    · clear RS
      go_wp2_with fail
      refine LN4.out.mono ?_
      rintro e w5 ⟨rfl, b5⟩
      obtain ⟨k3, k4, o4, B5⟩ := K3.out w5 (B34.out.trans (b5.mono B34.out.size))
      have RS := Lib.hid (res_store B5 k4 (Nat.le_succ _) (.slice none 0 0) (.slice none 0 0))
      clear g0 g1 h0 h1
      have g0 := k4.cell 0
      have g1 := k4.cell 1
      have h0 := k4.frozen 0
      have h1 := k4.frozen 1
      simp at g0 g1
      clear k3 k4 o4
      go_wp2_with fail
      obtain ⟨r0, r1, rb, _⟩ := RS.out
      obtain ⟨rfl, rfl, rfl⟩ := HL.out.no (HLIM.out.trans (by rfl))
      clear RS
      generalize ((w5.setCell ⟨w.heap.size + 1, 0, none⟩ (.slice none 0 0)).setCell ⟨w.heap.size + 1, 1, none⟩ (.slice none 0 0)) = w6 at r0 r1 rb ⊢
      exact bodyPost_ret (v := .tuple #[.agg #[.slice none 0 0, .slice none 0 0], .bool false]) (by simp [results, Tryd.results8, go_sem, r0, r1]) rfl (TabO.nilRes rb)
    · clear RS
      go_wp2_with fail
      refine LN4.out.mono ?_
      rintro e w5 ⟨rfl, b5⟩
      clear g0 g1 h0 h1 LN4
      have B35 := Lib.hid (B34.out.trans (b5.mono B34.out.size))
      go_wp2_with fail
      have omP := World.ownsRow_made (base := w5.heap.size) (e := 3) (size := 1) w5 #[] 0 (Nat.le_refl _) (by unfold maxLen; omega) rfl
      have S0 := Lib.hid omP
      clear omP
      go_loopw [6, 7] (fun pv kv wr => ∃ k : Nat, k ≤ nc ∧ kv = .int .i64 k ∧ Hid (wr.ownsRow w5.heap.size 3 1 pv k (inCells (colsZ names (cols.take k)))) ∧ Hid (Below w5.heap.size w5 wr) ∧ Hid ((cols.take k).all (hasW names) = true)) (fun _ kv _ => nc - (intOf kv).toNat)
      case atStart => exact ⟨0, Nat.zero_le _, rfl, S0, Lib.hid ((Below.refl _ _).alloc (Nat.le_refl _) _), by unfold Hid; simp⟩
      case round =>
        clear S0
        obtain ⟨k, hk, rfl, hp, hb, hall⟩ := hrel
        have hk0 : (0 : Int) ≤ (k : Int) := Int.natCast_nonneg _
        by_cases hlt : k < nc
        · have hk1 : (k : Int) < (nc : Int) := by omega
          have b3r := B35.out.trans (hb.out.mono B35.out.size)
          obtain ⟨k3, k4, o4, B4⟩ := K3.out wr b3r
          obtain ⟨cd, y, rfl, hcd, hyk, e1⟩ := st_at (HCR.out wr B4) HCL.out hlt
          have y0 := k3.cell 0
          have g0 := k4.cell 0
          have g1 := k4.cell 1
          have h0 := k4.frozen 0
          have h1 := k4.frozen 1
          simp at y0 g0 g1
          obtain ⟨A6, c6, e6, _, _⟩ := own_form hp.out
          subst e6
          have HYK := Lib.hid hyk
          cases hw : hasW names y with
          | false =>
            have LC := Lib.hid (l1Column_is (-1) A2 n c2 names y wr.drew wr.heap.size HNM.out.1 o4.namesR.1 (by omega) (colN_no hw))
            have RS := Lib.hid (res_store B4 k4 (Nat.le_succ _) (.slice none 0 0) (.slice none 0 0))
            have HNO := Lib.hid (show projB names rows cols = false by
              rw [HLIM.out, show cols.all (hasW names) = false from List.all_eq_false.2 ⟨y, List.mem_of_getElem? hyk, by simp [hw]⟩]
              rfl)
            clear k3 k4 o4 B4 hyk hw
            go_wp2_with fail
            go_region_held3 (fun w' => w'.cell? ⟨w.heap.size, 0, none⟩ = some (.slice A2 n c2) ∧ w'.cell? (cd.add k) = some (.string y)) (go_keep) (first | (go_at_call 29; refine LC.out.mono ?_; rintro e w' ⟨rfl, rfl⟩))
            go_wp2_with fail
            obtain ⟨r0, r1, rb, _⟩ := RS.out
            obtain ⟨rfl, rfl, rfl⟩ := HL.out.no HNO.out
            clear RS g0 g1 h0 h1 y0
            generalize ((wr.setCell ⟨w.heap.size + 1, 0, none⟩ (.slice none 0 0)).setCell ⟨w.heap.size + 1, 1, none⟩ (.slice none 0 0)) = w6 at r0 r1 rb ⊢
            have q0 : w6.drew.cell? ⟨w.heap.size + 1, 0, none⟩ = some (.slice none 0 0) := r0
            have q1 : w6.drew.cell? ⟨w.heap.size + 1, 1, none⟩ = some (.slice none 0 0) := r1
            exact bodyPost_ret (v := .tuple #[.agg #[.slice none 0 0, .slice none 0 0], .bool false]) (by simp [results, Tryd.results8, go_sem, q0, q1]) rfl (TabO.nilRes rb.drew)
          | true =>
            have LC := Lib.hid (l1Column_is (colN names y : Int) A2 n c2 names y wr.drew wr.heap.size HNM.out.1 o4.namesR.1 (by omega) (colN_is hw))
            obtain ⟨cn, hcn⟩ : ∃ cn, colN names y = cn := ⟨_, rfl⟩
            rw [hcn] at LC
            have HCN := Lib.hid (And.intro hcn hw)
            have hcn0 : ¬ (cn : Int) < 0 := Int.not_lt.2 (Int.natCast_nonneg _)
            have hbs := hb.out.size
            clear k3 k4 o4 B4 hyk hw g0 g1 h0 h1 hcn
            go_wp2_with fail
            go_region_held3 (fun w' => w'.cell? ⟨w.heap.size, 0, none⟩ = some (.slice A2 n c2) ∧ w'.cell? (cd.add k) = some (.string y)) (go_keep) (first | (go_at_call 29; refine LC.out.mono ?_; rintro e w' ⟨rfl, rfl⟩))
            have hpd := hp.out.drew
            go_wp2_with (first
              | (at_builtin; (refine wpList_append_own_at _ rfl _ _ 40 rfl w5.heap.size 3 z0 _ 1 8 Tryd.underlying40 hzI hzz0 hzz1 hzz2 rfl (by decide) _ _ _ rfl (hpd.alloc _) ⟨wr.heap.size, 0, none⟩ 1 1 [.int .i64 (cn : Int)] rfl rfl (cells_new wr.drew _ _) (oneCells rfl) (by unfold maxLen; omega) (by omega) (by simp; have h : wr.drew.heap.size = wr.heap.size := rfl; omega) ?_; intro v' w6 hown' hgrow _ hat)))
            have B6 := Lib.hid ((hb.out.drew.alloc hbs (.cells #[.int .i64 (cn : Int)] 3)).grown hgrow (by have h : wr.drew.heap.size = wr.heap.size := rfl; simp; omega) (fun g e => (hpd.lt g e).1))
            have O6 := Lib.hid hown'
            clear hown' hgrow hat hpd
            go_roundw
            case rel =>
              refine ⟨k + 1, by omega, by go_num, ?_, B6, ?_⟩
              · rw [colsZ_next HYK.out, HCN.out.1]
                have := O6.out
                unfold Hid
                rw [inCells_append]
                exact this
              · unfold Hid
                rw [take_snoc cols k y HYK.out, List.all_append, hall.out]
                simp [HCN.out.2]
            case measure => simp [intOf]; omega
        · obtain rfl : k = nc := by omega
          have hall' := hall.out
          rw [List.take_of_length_le (by have := HCL.out; omega)] at hall'
          have hp' := hp.out
          rw [List.take_of_length_le (by have := HCL.out; omega)] at hp'
          obtain ⟨rfl, rfl, rfl⟩ := HL.out.yes (by rw [HLIM.out, hall']; rfl)
          obtain ⟨PA, pc, e6, _, _⟩ := own_form hp'
          subst e6
          have hwall := List.all_eq_true.1 hall'
          have HALL := Lib.hid hwall
          have b3r := Lib.hid (B35.out.trans (hb.out.mono B35.out.size))
          have B4 := (K3.out wr b3r.out).2.2.2
          have HPL := Lib.hid (fun (w' : World) (h : Below wr.heap.size wr w') => ((Reads.of_own hp').below h).more h.size)
          have HX3 := Lib.hid ((HCR.out wr B4).alloc (Nat.le_refl _) (.cells #[] 9))
          have om := World.ownsRow_made (base := wr.heap.size) (e := 9) (size := 1) wr #[] 0 (Nat.le_refl _) (by unfold maxLen; omega) rfl
          obtain ⟨wl, rfl⟩ : ∃ x, x = wr := ⟨_, rfl⟩
          clear hall hp hall' hp' hwall
          go_wp2_with (first
            | (at_builtin; refine wpList_append_any _ rfl _ _ 23 rfl wl.heap.size 9 i0 _ 1 16 Tryd.underlying23 hi0 hz0 hz1 hz2 rfl (by omega) _ 0 [] rfl om wl.heap.size _ k cc (stCells N) rfl HX3.out (stOne _) (by unfold maxLen; omega) (by omega) (by simp) ?_; intro v7 w7 hown7 hg7 hat7; rw [List.nil_append, Nat.zero_add] at hown7; obtain ⟨A7, c7, rfl, _, _⟩ := own_form hown7))
          have hb7 : Below wl.heap.size wl w7 := ((Below.refl _ _).alloc (Nat.le_refl _) _).grown hg7 (by simp) (fun g e => by simp [Act.eval, Value.ownBlock] at e ⊢; omega)
          have hb7s := hb7.size
          have START : Hid (Half wl (w7.alloc (.cells #[.slice A7 k c7, .slice none 0 0] 26)) wl.heap.size w7.heap.size 26 #[.slice A7 k c7, .slice none 0 0] (.slice A7 k c7) (.slice none 0 0) N [] []) :=
            Lib.hid ⟨Blk.new _ _ _, by rw [HCL.out]; exact hown7.alloc _, fun g e => (hown7.lt g e).2, RowsV.nil _ _ _, hb7.alloc hb7s _, hb7s⟩
          clear om hb7 hg7 hat7 hown7 HX3 hb
          have HTB := Lib.hid (show tableB names rows = true by
            have := HLIM.out
            unfold projB at this
            cases h : tableB names rows
            · rw [h] at this
              simp [List.all_eq_true.2 HALL.out] at this
            · rfl)
          go_loopw [10, 11, 12] (fun jv _ _ wr => ∃ (j : Nat) (vs : List Value) (ov : Value), j ≤ m ∧ jv = .int .i64 j ∧ Hid (Half wl wr wl.heap.size w7.heap.size 26 #[.slice A7 k c7, ov] (.slice A7 k c7) ov N vs ((rows.take j).map (projRow names N)))) (fun jv _ _ _ => m - (intOf jv).toNat)
          case atStart => exact ⟨0, [], _, Nat.zero_le _, rfl, by rw [List.take_zero]; exact START⟩
          case round =>
            clear START
            obtain ⟨j, vs, ov, hj, rfl, hh⟩ := hrel
            obtain ⟨wo, rfl⟩ : ∃ x, x = wr := ⟨_, rfl⟩
            have hj0 : (0 : Int) ≤ (j : Int) := Int.natCast_nonneg _
            have hlw := hh.out.below.size
            have b3o := Lib.hid (b3r.out.trans (hh.out.below.mono b3r.out.size))
            have KK := Lib.hid (K3.out wo b3o.out)
            have x1 := KK.out.1.cell 1
            simp at x1
            by_cases hlt2 : j < m
            · have hj1 : (j : Int) < (m : Int) := by omega
              obtain ⟨ad, row, Ak, ck, rfl, hadb, hrow, e1, g1, g2, g3, rr⟩ := KK.out.2.2.1.rowsR'.at_ hlt2
              have hrl : row.length = n := by rw [rows_len HTB.out (List.mem_of_getElem? hrow), HNM.out.1]
              have RR := Lib.hid rr
              have HROW := Lib.hid hrow
              have hlk : ((rows.take j).map (projRow names N)).length = j := by rw [List.length_map, List.length_take]; have := HNM.out.2; omega
              have x3 := hh.out.blk.cell 1
              simp at x3
              obtain ⟨A9, c9, e9, _, _, _⟩ := hh.out.rows.form
              rw [hlk] at e9
              subst e9
              have hwT := hh.out.lt
              have hwo : w.heap.size < wo.heap.size := by have := KK.out.1.lt; exact this
              have omR := Lib.hid (World.ownsRow_made (base := wo.heap.size) (e := 3) (size := 1) wo #[] 0 (Nat.le_refl _) (by unfold maxLen; omega) rfl)
              clear hrow g3 rr
              go_wp2_with fail
              clear x1
              go_loopw [11, 12] (fun rv iv wi => ∃ i : Nat, i ≤ k ∧ iv = .int .i64 i ∧ Hid (wi.ownsRow wo.heap.size 3 1 rv i (inCells (projRow names (N.take i) row))) ∧ Hid (Below wo.heap.size wo wi)) (fun _ iv _ => k - (intOf iv).toNat)
              case atStart => exact ⟨0, Nat.zero_le _, rfl, by rw [List.take_zero]; exact omR, Lib.hid ((Below.refl _ _).alloc (Nat.le_refl _) _)⟩
              case round =>
                clear omR
                obtain ⟨i, hi, rfl, hp, hb⟩ := hrel
                obtain ⟨wi, rfl⟩ : ∃ x, x = wr := ⟨_, rfl⟩
                have hi0 : (0 : Int) ≤ (i : Int) := Int.natCast_nonneg _
                obtain ⟨A6, c6, e6, _, _⟩ := own_form hp.out
                subst e6
                by_cases hlt3 : i < k
                · have hi1 : (i : Int) < (k : Int) := by omega
                  obtain ⟨y, hy⟩ : ∃ y, N[i]? = some y := ⟨_, List.getElem?_eq_getElem (by have := HCL.out; omega)⟩
                  have hyw := HALL.out y (List.mem_of_getElem? hy)
                  have hcl := colN_lt hyw
                  rw [HNM.out.1, ← hrl] at hcl
                  obtain ⟨cn, hcn⟩ : ∃ cn, colN names y = cn := ⟨_, rfl⟩
                  rw [hcn] at hcl
                  obtain ⟨x, hxr⟩ : ∃ x, row[cn]? = some x := ⟨_, List.getElem?_eq_getElem hcl⟩
                  obtain ⟨pd, rfl, hpb, p0⟩ := in_cell (k := i) (x := (cn : Int)) (HPL.out wo hh.out.below) (by unfold colsZ; rw [List.getElem?_map, hy]; simp [hcn]) (by unfold colsZ; rw [List.length_map]; exact HCL.out)
                  have p1 := below_keep hb.out p0
                  obtain ⟨rd, rfl, hrb, q1⟩ := in_cell (k := cn) (x := x) (RR.out.below hb.out) hxr rfl
                  have e1' := below_keep hb.out e1
                  rw [hrl] at e1'
                  have b3i := b3o.out.trans (hb.out.mono b3o.out.size)
                  have x1 := (K3.out wi b3i).1.cell 1
                  simp at x1
                  have hc0 : (0 : Int) ≤ (cn : Int) := Int.natCast_nonneg _
                  have hc1 : (cn : Int) < (n : Int) := by omega
                  have hc2 : cn < n := by omega
                  have HY := Lib.hid hy
                  have hbs := hb.out.size
                  have KP := Lib.hid (fun (wa wb : World) (hg : wa.grownBy wb (Value.slice A6 i c6).ownBlock) (p : Addr) (hq : p.block < wo.heap.size) (x : Value) (hc : wa.cell? p = some x) =>
                    show wb.cell? p = some x from (World.cell?_of_block (hg.block _ (World.block_lt_of_cell? _ _ hc) (fun e => by have := (hp.out.lt _ e.symm).1; omega))).trans hc)
                  have hq1 : (⟨w.heap.size, 1, none⟩ : Addr).block < wo.heap.size := hwo
                  have hq2 : (ad.add j).block < wo.heap.size := by rw [block_of_add]; omega
                  have hq3 : (rd.add cn).block < wo.heap.size := by rw [block_of_add]; exact hrb
                  have HXR := Lib.hid (And.intro hxr hcn)
                  have hq4 : (pd.add i).block < wo.heap.size := by rw [block_of_add]; exact hpb
                  have hpd := Lib.hid hp.out.drew
                  clear hy hyw hcn hxr hpb p0
                  go_wp2_with fail
                  go_region_held3 (fun w' => w'.cell? ⟨w.heap.size, 1, none⟩ = some (.slice (some ad) m d2) ∧ w'.cell? (ad.add j) = some (.slice (some rd) n ck) ∧ w'.cell? (pd.add i) = some (.int .i64 (cn : Int)) ∧ w'.cell? (rd.add cn) = some (.int .i64 x))
                    (first | go_keep | (go_split_ands; refine ⟨KP.out _ _ hg6 _ hq1 _ ?_, KP.out _ _ hg6 _ hq2 _ ?_, KP.out _ _ hg6 _ hq4 _ ?_, KP.out _ _ hg6 _ hq3 _ ?_⟩ <;> assumption))
                    (first | ((refine step_append_any _ (by rfl) (.tmp 63) (.tmp 75) 40 (by rfl) wo.heap.size 3 z0 _ 1 8 Tryd.underlying40 hzI hzz0 hzz1 hzz2 (by rfl) (by decide) _ i _ (by rfl) (hpd.out.alloc _) (wi.heap.size + 1) (some ⟨wi.heap.size, 0, none⟩) 1 1 [.int .i64 x] (by rfl) ⟨rfl, fun _ => ⟨_, rfl, by simp, cells_new wi.drew _ _⟩⟩ (oneCells rfl) (by unfold maxLen; omega) (by omega) (by have h2 : wi.drew.heap.size = wi.heap.size := rfl; simp; omega) ?_; intro v6 w6 ho6 hg6 hd6)))
                  have B6 := Lib.hid ((hb.out.drew.alloc hbs (.cells #[.int .i64 x] 3)).grown hg6 (by have h : wi.drew.heap.size = wi.heap.size := rfl; simp; omega) (fun g e => (hp.out.lt g e).1))
                  have O6 := Lib.hid ho6
                  clear ho6 hg6 hd6 KP hpd e1' x1 p1 q1
                  go_wp2_with fail
                  go_roundw
                  case rel =>
                    refine ⟨i + 1, by omega, by go_num, ?_, B6⟩
                    unfold Hid
                    rw [projRow_next HY.out, inCells_append, HXR.out.2]
                    have e : row.getD cn 0 = x := by rw [List.getD_eq_getElem?_getD, HXR.out.1]; rfl
                    rw [e]
                    exact O6.out
                  case measure => simp [intOf]; omega
                · obtain rfl : i = k := by omega
                  have hp' := hp.out
                  rw [List.take_of_length_le (by have := HCL.out; omega)] at hp'
                  have hlr : (projRow names N row).length = i := by unfold projRow; rw [List.length_map]; exact HCL.out
                  have OU := Lib.hid (show wi.ownsRow wo.heap.size 3 1 (.slice A6 i c6) (projRow names N row).length (inCells (projRow names N row)) by rw [hlr]; exact hp')
                  have H2 := hh.out.go hb.out
                  have x3' := H2.blk.cell 1
                  simp at x3'
                  have hwb := hb.out.size
                  have OW := Lib.hid (show wi.ownsRow (w7.heap.size + 1) 40 1 (.slice A9 j c9) j vs by have h := H2.rows.own; rw [hlk] at h; exact h)
                  have PU := Lib.hid (fun (v6 : Value) (w6 : World) (t' : TypeId) (ho6 : w6.ownsRow (w7.heap.size + 1) 40 1 v6 (j + 1) (vs ++ [.slice A6 i c6])) (hg6 : (wi.alloc (.cells #[.slice A6 i c6] t')).grownBy w6 (Value.slice A9 j c9).ownBlock) (hd6 : v6.ownBlock = (Value.slice A9 j c9).ownBlock ∨ v6.ownBlock = some (wi.alloc (.cells #[.slice A6 i c6] t')).heap.size) =>
                    hh.out.push (r := projRow names N row) OU.out hb.out (by rw [hlk]; exact ho6) hg6 hd6)
                  have F6 := Lib.hid (fun (w6 : World) (o : Obj) (hg6 : (wi.alloc o).grownBy w6 (Value.slice A9 j c9).ownBlock) => (H2.blk.alloc o).grown hg6 (fun e => by have := hh.out.rvge _ e.symm; omega))
                  clear H2 hp'
                  go_wp2_with (first
                    | (at_builtin; (refine wpList_append_own_at _ rfl _ _ 24 rfl (w7.heap.size + 1) 40 j0 _ 1 24 Tryd.underlying24 hjI hjz0 hjz1 hjz2 rfl (by decide) _ _ _ rfl (OW.out.alloc _) ⟨wi.heap.size, 0, none⟩ 1 1 [.slice A6 i c6] rfl rfl (cells_new _ _ _) (oneCells rfl) (by unfold maxLen; omega) (by omega) (by simp; omega) ?_; intro v6 w6 ho6 hg6 _ hd6; obtain ⟨A10, c10, rfl, _, _⟩ := own_form ho6; have H3 := Lib.hid (PU.out _ _ _ ho6 hg6 hd6); have f6 := F6.out _ _ hg6; have m1 := f6.cell 1; have m1f := f6.frozen 1; simp at m1; clear PU F6 ho6 hg6 hd6 f6 OW)))
                  have e2 : (rows.take (j + 1)).map (projRow names N) = (rows.take j).map (projRow names N) ++ [projRow names N row] := by rw [take_snoc rows j row HROW.out, List.map_append]; rfl
                  go_roundw
                  case rel => exact ⟨j + 1, _, _, by omega, by go_num, by rw [e2]; exact H3⟩
                  case measure => simp [intOf]; omega
            · obtain rfl : j = m := by omega
              have hh2 := hh.out
              rw [List.take_of_length_le (by have := HNM.out.2; omega)] at hh2
              obtain ⟨A9, c9, e9, _, _, _⟩ := hh2.rows.form
              rw [List.length_map, HNM.out.2] at e9
              subst e9
              have z0 := hh2.blk.cell 0
              have z1 := hh2.blk.cell 1
              have K2 := KK.out.2.1
              have y0 := K2.cell 0
              have y1 := K2.cell 1
              have f0 := K2.frozen 0
              have f1 := K2.frozen 1
              simp at y0 y1 z0 z1
              have T0 : TabO wo wl.heap.size (.agg #[.slice A7 k c7, .slice A9 j c9]) N (rows.map (projRow names N)) := ⟨_, _, rfl, hh2.own, vs, hh2.rows.low (Nat.le_trans hh2.base (Nat.le_succ _))⟩
              have Q2 := Lib.hid (res_end KK.out.2.2.2 K2 (Nat.le_succ _) T0 (by have := b3r.out.size; omega))
              clear K2 T0 hh2 hh
              go_wp2_with fail
              obtain ⟨r0, r1, RR⟩ := Q2.out
              clear Q2 f0 f1 y0 y1 z0 z1
              generalize ((wo.setCell ⟨w.heap.size + 1, 0, none⟩ (.slice A7 k c7)).setCell ⟨w.heap.size + 1, 1, none⟩ (.slice A9 j c9)) = w6 at r0 r1 RR ⊢
              exact bodyPost_ret (v := .tuple #[.agg #[.slice A7 k c7, .slice A9 j c9], .bool true]) (by simp [results, Tryd.results8, go_sem, r0, r1]) rfl RR
end Go.Proofs.YtijpdekcdejfmaaDoor
