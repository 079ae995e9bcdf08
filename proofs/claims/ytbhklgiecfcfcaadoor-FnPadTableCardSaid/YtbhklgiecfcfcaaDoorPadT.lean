/- PadTable: the reference's and the program's. -/
import Derived.Test.YtbhklgiecfcfcaaDoorHalfP
namespace Go.Proofs.YtbhklgiecfcfcaaDoor
open Go Go.RowKit
set_option maxRecDepth 100000
def padRows (n : Nat) (rows : List (List Int)) (k : Nat) : List (List Int) := (List.range k).map fun i => (rows[i]?).getD (List.replicate n 0)
def padReal (m k : Nat) : List Bool := (List.range k).map fun i => decide (i < m)
theorem padRows_length (n : Nat) (rows : List (List Int)) (k : Nat) : (padRows n rows k).length = k := by simp [padRows]
theorem padReal_length (m k : Nat) : (padReal m k).length = k := by simp [padReal]
theorem padRows_next (n : Nat) (rows : List (List Int)) (k : Nat) : padRows n rows (k + 1) = padRows n rows k ++ [(rows[k]?).getD (List.replicate n 0)] := by simp [padRows, List.range_succ]
theorem padReal_next (m k : Nat) : padReal m (k + 1) = padReal m k ++ [decide (k < m)] := by simp [padReal, List.range_succ]
theorem padRows_mem (n M : Nat) (rows : List (List Int)) (k : Nat) (hn : n ≤ M) (hr : ∀ r ∈ rows, r.length ≤ M) : ∀ r ∈ padRows n rows k, r.length ≤ M := by
  intro r h
  simp only [padRows, List.mem_map] at h
  obtain ⟨i, _, rfl⟩ := h
  cases hi : rows[i]? with
  | none => simpa using hn
  | some x => simpa using hr x (List.mem_of_getElem? hi)
def ptB (names : List ByteArray) (rows : List (List Int)) (size : Int) : Bool := tableB names rows && inB size rows.length 256
def PtIs (names : List ByteArray) (rows : List (List Int)) (size : Int) (ok : Bool) (N : List ByteArray) (R : List (List Int)) (Q : List Bool) : Prop :=
  ptB names rows size = ok ∧ N = (if ptB names rows size then names else []) ∧ R = (if ptB names rows size then padRows names.length rows size.toNat else []) ∧ Q = (if ptB names rows size then padReal rows.length size.toNat else [])
section
variable {names N : List ByteArray} {rows R : List (List Int)} {Q : List Bool} {size : Int} {ok : Bool}
theorem PtIs.no (h : PtIs names rows size ok N R Q) (hb : ptB names rows size = false) : ok = false ∧ N = [] ∧ R = [] ∧ Q = [] := by
  obtain ⟨rfl, rfl, rfl, rfl⟩ := h
  simp [hb]
theorem PtIs.yes (h : PtIs names rows size ok N R Q) (hb : ptB names rows size = true) : ok = true ∧ N = names ∧ R = padRows names.length rows size.toNat ∧ Q = padReal rows.length size.toNat := by
  obtain ⟨rfl, rfl, rfl, rfl⟩ := h
  simp [hb]
theorem PtIs.ex (names : List ByteArray) (rows : List (List Int)) (size : Int) : ∃ ok N R Q, PtIs names rows size ok N R Q := ⟨_, _, _, _, rfl, rfl, rfl, rfl⟩
theorem PtIs.small (h : PtIs names rows size ok N R Q) (hs : Small names rows) : SmallP N R Q := by
  cases hb : ptB names rows size with
  | false => obtain ⟨_, rfl, rfl, rfl⟩ := h.no hb; exact ⟨Small.none_, by simp⟩
  | true =>
    obtain ⟨_, rfl, rfl, rfl⟩ := h.yes hb
    have h2 := inB_true (Bool.and_eq_true _ _ ▸ hb : tableB _ rows = true ∧ inB size rows.length 256 = true).2
    exact ⟨⟨hs.n1, hs.n2, by rw [padRows_length]; omega, padRows_mem _ _ _ _ hs.n1 hs.r2⟩, by rw [padReal_length]; omega⟩
end
theorem zeros_cells (n : Nat) : inCells (List.replicate n 0) = List.replicate n (.int .i64 0) := by simp [inCells]
set_option maxHeartbeats 400000 in
theorem l8Blank_any (n : Nat) (w : World) (hn : n ≤ 1048576) :
    Calls Tryd.prog 41 #[.int .i64 n] w fun e w' => ∃ v, e = .returned v ∧ w'.ownsRow w.heap.size 3 1 v n (inCells (List.replicate n 0)) ∧ Below w.heap.size w w' := by
  obtain ⟨i0, hi0, hz0, hz1, hz2⟩ := info_parts infoInt
  go_enter Tryd.func41, Tryd.ntmps41
  go_wp2_with (at_make; refine wpList_make_full _ rfl _ _ 49 rfl w.heap.size 3 i0 _ 1 Tryd.underlying49 hi0 hz0 hz1 .i64 .i64 _ _ n rfl rfl rfl rfl (by rw [hz2]; omega) (by unfold maxLen; omega) (Nat.le_refl _) ?_; intro w1 hown1 hgrow1)
  have hb1 : Below w.heap.size w w1 := (Below.refl _ _).grown hgrow1 (Nat.le_refl _) (by simp)
  go_ret
  refine ⟨_, rfl, ?_, hb1⟩
  rw [zeros_cells, ← made_one _ rfl]
  exact hown1
set_option maxHeartbeats 3200000 in
theorem specPadT_any (v : Value) (names : List ByteArray) (rows : List (List Int)) (size : Int) (ok : Bool) (N : List ByteArray) (R : List (List Int)) (Q : List Bool) (hL : PtIs names rows size ok N R Q) (w : World) (ht : TabR w v names rows) (hs : Small names rows) :
    Calls Tryd.prog 18 #[v, .int .i64 size] w fun e w' => PadRes w ok N R Q e w' := by
  have HT := Lib.hid ht
  obtain ⟨A, c, B, d, rfl, _, hx, hy⟩ := ht
  obtain ⟨i0, hi0, hz0, hz1, hz2⟩ := info_parts infoStr
  obtain ⟨j0, hjI, hjz0, hjz1, hjz2⟩ := info_parts infoRow
  obtain ⟨q0, hqI, hqz0, hqz1, hqz2⟩ := info_parts infoBool
  obtain ⟨n, hnn⟩ : ∃ n, names.length = n := ⟨_, rfl⟩
  obtain ⟨m, hmm⟩ : ∃ m, rows.length = m := ⟨_, rfl⟩
  have hn1 := hs.n1
  have HR2 := Lib.hid hs.r2
  rw [hnn] at hx hn1
  rw [hmm] at hy
  rw [hnn, hmm] at HT ⊢
  obtain ⟨w1, hw1⟩ : ∃ w1, w1 = (w.alloc (.cells #[.slice A n c, .slice B m d] 26)).alloc (.cells #[nilV, nilV, nilV] 37) := ⟨_, rfl⟩
  have b1 : Below w.heap.size w w1 := by rw [hw1]; exact ((Below.refl _ _).alloc (Nat.le_refl _) _).alloc (by simp) _
  have hs1 : w1.heap.size = w.heap.size + 1 + 1 := by rw [hw1]; simp
  have k1 : Blk w1 w.heap.size 26 #[.slice A n c, .slice B m d] := by rw [hw1]; exact (Blk.new _ _ _).alloc _
  have k2 : Blk w1 (w.heap.size + 1) 37 #[.slice none 0 0, .slice none 0 0, .slice none 0 0] := by
    have := Blk.new (w.alloc (.cells #[.slice A n c, .slice B m d] 26)) 37 #[nilV, nilV, nilV]
    rw [World.size_alloc] at this
    rw [hw1]; exact this
  have c0 := k1.cell 0
  have c1 := k1.cell 1
  simp at c0 c1
  obtain ⟨q, hq⟩ : ∃ q, tableB names rows = q := ⟨_, rfl⟩
  obtain ⟨p, hp⟩ : ∃ p, inB size m 256 = p := ⟨_, rfl⟩
  have ST := Lib.hid (specTab_any q _ names rows w1 (HT.out.below b1) hs.ok hq)
  have IN := Lib.hid (fun (w' : World) => l1In_is p size m 256 w' hp)
  have hlim : ptB names rows size = (q && p) := by simp [ptB, hq, hp, hmm]
  have HW := Lib.hid hw1
  have HP := Lib.hid hp
  have HX := Lib.hid hx
  have HY := Lib.hid hy
  have HNM := Lib.hid (And.intro hnn hmm)
  have K12 := Lib.hid (And.intro k1 k2)
  have B1 := Lib.hid b1
  have HLIM := Lib.hid hlim
  have HL := Lib.hid hL
  clear hs HT hnn hmm hq hp hw1 k1 k2 b1 hlim hL hx hy
  go_enter Tryd.func18, Tryd.ntmps18
  go_wp2_with fail
  rw [← HW.out]
  refine ST.out.mono ?_
  rintro e w3 ⟨rfl, b2⟩
  have B3 := Lib.hid (B1.out.trans (b2.mono B1.out.size))
  have k1 := K12.out.1.below b2 K12.out.1.lt
  have K2 := K12.out.2.below b2 K12.out.2.lt
  have x0 := k1.cell 0
  have x1 := k1.cell 1
  have y0 := K2.cell 0
  have y1 := K2.cell 1
  have y2 := K2.cell 2
  have f0 := K2.frozen 0
  have f1 := K2.frozen 1
  have f2 := K2.frozen 2
  simp at x0 x1 y0 y1 y2
  have JK1 := Lib.hid k1
  have JK2 := Lib.hid K2
  have hw3n : w.heap.size + 1 + 1 ≤ w3.heap.size := Nat.le_trans (Nat.le_of_eq hs1.symm) b2.size
  have RS := Lib.hid (resP_store B3.out JK2.out (Nat.le_succ _) (.slice none 0 0) (.slice none 0 0) (.slice none 0 0))
  clear c0 c1 k1 K2 b2 K12
  cases q
  · go_wp2_with fail
    obtain ⟨r0, r1, r2, rb, _⟩ := RS.out
    obtain ⟨rfl, rfl, rfl, rfl⟩ := HL.out.no (HLIM.out.trans (by rfl))
    clear RS f0 f1 f2 x0 x1 y0 y1 y2
    generalize (((w3.setCell ⟨w.heap.size + 1, 0, none⟩ (.slice none 0 0)).setCell ⟨w.heap.size + 1, 1, none⟩ (.slice none 0 0)).setCell ⟨w.heap.size + 1, 2, none⟩ (.slice none 0 0)) = w6 at r0 r1 r2 rb ⊢
    exact bodyPost_ret (v := .tuple #[.agg #[.slice none 0 0, .slice none 0 0, .slice none 0 0], .bool false]) (by simp [results, Tryd.results18, go_sem, r0, r1, r2]) rfl (PadRes.nil rb)
  · cases p
    · go_wp2_with (first | (go_at_call 29; refine (IN.out _).mono ?_; rintro e w' ⟨rfl, rfl⟩))
      obtain ⟨r0, r1, r2, rb, _⟩ := RS.out
      obtain ⟨rfl, rfl, rfl, rfl⟩ := HL.out.no (HLIM.out.trans (by rfl))
      clear RS f0 f1 f2 x0 x1 y0 y1 y2
      generalize (((w3.setCell ⟨w.heap.size + 1, 0, none⟩ (.slice none 0 0)).setCell ⟨w.heap.size + 1, 1, none⟩ (.slice none 0 0)).setCell ⟨w.heap.size + 1, 2, none⟩ (.slice none 0 0)) = w6 at r0 r1 r2 rb ⊢
      exact bodyPost_ret (v := .tuple #[.agg #[.slice none 0 0, .slice none 0 0, .slice none 0 0], .bool false]) (by simp [results, Tryd.results18, go_sem, r0, r1, r2]) rfl (PadRes.nil rb)
    · obtain ⟨rfl, rfl, rfl, rfl⟩ := HL.out.yes (HLIM.out.trans (by rfl))
      obtain ⟨hsm, hs256⟩ := inB_true HP.out
      obtain ⟨s, rfl⟩ : ∃ s : Nat, size = (s : Int) := ⟨size.toNat, by omega⟩
      have hm256 : m ≤ 256 := by omega
      have hs256' : s ≤ 256 := by omega
      have om := World.ownsRow_made (base := w3.heap.size) (e := 9) (size := 1) w3 #[] 0 (Nat.le_refl _) (by unfold maxLen; omega) rfl
      have c0 := (JK1.out.alloc (.cells #[] 9)).cell 0
      simp at c0
      have HX3 := Lib.hid (((HX.out.below B3.out).more B3.out.size).alloc (Nat.le_refl _) (.cells #[] 9))
      have HY3 := Lib.hid (HY.out.below B3.out)
      have hNn := HNM.out.1
      have hmm := HNM.out.2
      have HN' := Lib.hid hNn
      have HMM := Lib.hid hmm
      clear hNn hmm HX HY HW HLIM HL HNM HP y0 y1 y2 f0 f1 f2 hs1 RS x0
      go_wp2_with (first
        | (go_at_call 29; refine (IN.out _).mono ?_; rintro e w' ⟨rfl, rfl⟩)
        | (at_builtin; refine wpList_append_any _ rfl _ _ 23 rfl w3.heap.size 9 i0 _ 1 16 Tryd.underlying23 hi0 hz0 hz1 hz2 rfl (by omega) _ 0 [] rfl om w3.heap.size _ n c (stCells N) rfl HX3.out (stOne _) (by unfold maxLen; omega) (by omega) (by simp) ?_; intro v5 w5 hown5 hg5 hat5; rw [List.nil_append, Nat.zero_add] at hown5; obtain ⟨A5, c5, rfl, _, _⟩ := own_form hown5))
      have hsz5 := hg5.size
      have hb5 : Below w3.heap.size w3 w5 := ((Below.refl _ _).alloc (Nat.le_refl _) _).grown hg5 (by simp) (fun g e => by simp [Act.eval, Value.ownBlock] at e ⊢; omega)
      have hb5s := hb5.size
      have START : Hid (HalfP w3 (w5.alloc (.cells #[.slice A5 n c5, .slice none 0 0, .slice none 0 0] 37)) w3.heap.size w5.heap.size 37 #[.slice A5 n c5, .slice none 0 0, .slice none 0 0] (.slice A5 n c5) (.slice none 0 0) (.slice none 0 0) N [] [] []) :=
        Lib.hid ⟨⟨Blk.new _ _ _, by rw [HN'.out]; exact hown5.alloc _, fun g e => (hown5.lt g e).2, RowsV.nil _ _ _, hb5.alloc hb5s _, hb5s⟩, World.ownsRow_nil _ _ _ _⟩
      clear om c0 hb5 hsz5 hg5 hat5 hown5 HX3 IN x1
      go_loopw [7] (fun kv wr => ∃ (k : Nat) (vs : List Value) (ov bv : Value), k ≤ s ∧ kv = .int .i64 k ∧ Hid (HalfP w3 wr w3.heap.size w5.heap.size 37 #[.slice A5 n c5, ov, bv] (.slice A5 n c5) ov bv N vs (padRows n rows k) (padReal m k))) (fun kv _ => s - (intOf kv).toNat)
      case atStart => exact ⟨0, [], _, _, Nat.zero_le _, rfl, START⟩
      case round =>
        clear START
        obtain ⟨k, vs, ov, bv, hk, rfl, hh⟩ := hrel
        have hk0 : (0 : Int) ≤ (k : Int) := Int.natCast_nonneg _
        by_cases hlt : k < s
        · have hk1 : (k : Int) < (s : Int) := by omega
          obtain ⟨A7, c7, e7, _, _, _⟩ := hh.out.h.rows.form
          rw [padRows_length] at e7
          subst e7
          obtain ⟨A8, c8, e8, _, _⟩ := own_form hh.out.bown
          rw [padReal_length] at e8
          subst e8
          have kk := JK1.out.below hh.out.h.below JK1.out.lt
          have x0 := kk.cell 0
          simp at x0
          have KK := Lib.hid kk
          have LB := Lib.hid (l8Blank_any n wr hn1)
          clear kk
          go_wp2_with fail
          refine LB.out.mono ?_
          rintro e w2 ⟨ub, rfl, oub, b2⟩
          obtain ⟨Ab, cb, rfl, _, _⟩ := own_form oub
          clear LB x0
          have kk := KK.out.below b2 KK.out.lt
          have x1 := kk.cell 1
          simp at x1
          clear kk
          by_cases hkm : k < m
          · have hkm1 : (k : Int) < (m : Int) := by omega
            obtain ⟨ad, row, Ak, ck, rfl, hadb, hrow, e1, g1, g2, g3, rr⟩ := ((HY3.out.belowW (Nat.le_refl _) hh.out.h.below).belowW hh.out.h.below.size b2).at_ hkm
            have CL := Lib.hid (l1Copy_any Ak row.length ck row w2 (rr.more (Nat.le_trans hh.out.h.below.size b2.size)) (by have := HR2.out row (List.mem_of_getElem? hrow); omega))
            have B2 := Lib.hid b2
            have OUB := Lib.hid oub
            have HROW := Lib.hid hrow
            clear hrow g3 rr hadb b2 oub
            go_wp2_with fail
            refine CL.out.mono ?_
            rintro e w' ⟨u, rfl, ou, b3⟩
            obtain ⟨Au, cu, rfl, _, _⟩ := own_form ou
            have hb' := B2.out.trans (b3.mono B2.out.size)
            have OU := Lib.hid (ou.base_le B2.out.size)
            clear ou b3 x1 e1 CL
            have H2 := hh.out.go hb'
            have x3 := H2.h.blk.cell 1
            simp at x3
            have HB2 := Lib.hid (JK1.out.below (hh.out.h.below.trans (hb'.mono hh.out.h.below.size)) JK1.out.lt)
            have hwT := hh.out.h.lt
            have hwb := hb'.size
            have hwTb : w5.heap.size + 1 ≤ w'.heap.size := by omega
            have hne : w.heap.size ≠ w5.heap.size := by have := hh.out.h.base; omega
            have OW := Lib.hid (show w'.ownsRow (w5.heap.size + 1) 49 1 (.slice A7 k c7) k vs by have h := H2.h.rows.own; rw [padRows_length] at h; exact h)
            have PU := Lib.hid (fun (v6 : Value) (w6 : World) (t' : TypeId) (ho6 : w6.ownsRow (w5.heap.size + 1) 49 1 v6 (k + 1) (vs ++ [.slice Au row.length cu])) (hg6 : (w'.alloc (.cells #[.slice Au row.length cu] t')).grownBy w6 (Value.slice A7 k c7).ownBlock) (hd6 : v6.ownBlock = (Value.slice A7 k c7).ownBlock ∨ v6.ownBlock = some (w'.alloc (.cells #[.slice Au row.length cu] t')).heap.size) =>
              hh.out.push (r := row) OU.out hb' (by rw [padRows_length]; exact ho6) hg6 hd6)
            have B6 := Lib.hid (fun (w6 : World) (o : Obj) (hg6 : (w'.alloc o).grownBy w6 (Value.slice A7 k c7).ownBlock) => And.intro ((H2.h.blk.alloc o).grown hg6 (fun e => by have := hh.out.h.rvge _ e.symm; omega)) ((HB2.out.alloc o).grown hg6 (fun e => by have := hh.out.h.rvge _ e.symm; have := hh.out.h.base; have := JK1.out.lt; omega)))
            clear H2
            go_wp2_with (first
              | (at_builtin; (refine wpList_append_own_at _ rfl _ _ 24 rfl (w5.heap.size + 1) 49 j0 _ 1 24 Tryd.underlying24 hjI hjz0 hjz1 hjz2 rfl (by decide) _ _ _ rfl (OW.out.alloc _) ⟨w'.heap.size, 0, none⟩ 1 1 [.slice Au row.length cu] rfl rfl (cells_new _ _ _) (oneCells rfl) (by unfold maxLen; omega) (by omega) (by simp; omega) ?_; intro v6 w6 ho6 hg6 _ hd6; obtain ⟨A6, c6, rfl, _, _⟩ := own_form ho6; have H3 := Lib.hid (PU.out _ _ _ ho6 hg6 hd6); obtain ⟨F6, J6⟩ := B6.out _ _ hg6; have m1 := F6.cell 1; have m1f := F6.frozen 1; have m2 := F6.cell 2; have m2' := H3.out.h.blk.cell 2; have m2f := H3.out.h.blk.frozen 2; have j1 := J6.cell 1; have j1' := (J6.far (p := ⟨w5.heap.size, 1, none⟩) hne (.slice A6 (k + 1) c6)).cell 1; simp at m1 m2 m2' j1 j1'; have PB := Lib.hid (fun (v8 : Value) (w8 : World) (o : Obj) (ho8 : w8.ownsRow (w5.heap.size + 1) 4 1 v8 (k + 1) (boCells (padReal m k) ++ [.bool true])) (hg8 : ((w6.setCell ⟨w5.heap.size, 1, none⟩ (.slice A6 (k + 1) c6)).alloc o).grownBy w8 (Value.slice A8 k c8).ownBlock) => And.intro (H3.out.pushB (x := true) (by rw [padReal_length]; exact ho8) hg8) ((H3.out.h.alloc o).off (H3.out.bown.alloc o) H3.out.bge (by decide) (by decide) hg8).blk); have BW := Lib.hid (show (w6.setCell ⟨w5.heap.size, 1, none⟩ (.slice A6 (k + 1) c6)).ownsRow (w5.heap.size + 1) 4 1 (.slice A8 k c8) k (boCells (padReal m k)) by have h := H3.out.bown; rw [padReal_length] at h; exact h); have hs6 := hg6.size; simp at hs6; clear PU B6 ho6 hg6 hd6 F6 J6 OW))
              | (at_builtin; (refine wpList_append_own_at _ rfl _ _ 35 rfl (w5.heap.size + 1) 4 q0 _ 1 1 Tryd.underlying35 hqI hqz0 hqz1 hqz2 rfl (by decide) _ _ _ rfl (BW.out.alloc _) ⟨w6.heap.size, 0, none⟩ 1 1 [.bool true] rfl rfl (cells_newS _ _ _ _ _) (oneCells rfl) (by unfold maxLen; omega) (by omega) (by simp [World.setCell]; omega) ?_; intro v8 w8 ho8 hg8 _ _; obtain ⟨A9, c9, rfl, _, _⟩ := own_form ho8; obtain ⟨H4, F8⟩ := PB.out _ _ _ ho8 hg8; have HH4 := Lib.hid H4; have p2 := F8.cell 2; have p2f := F8.frozen 2; simp at p2; clear H4 F8 PB ho8 hg8 BW)))
            have e1 : padRows n rows (k + 1) = padRows n rows k ++ [row] := by rw [padRows_next, HROW.out]; rfl
            have e2 : padReal m (k + 1) = padReal m k ++ [true] := by rw [padReal_next]; simp [hkm]
            go_roundw
            case rel => exact ⟨k + 1, _, _, _, by omega, by go_num, by rw [e1, e2]; exact HH4⟩
            case measure => simp [intOf]; omega
          · have hkm1 : ¬ (k : Int) < (m : Int) := by omega
            have hrow : rows[k]? = none := List.getElem?_eq_none (by rw [HMM.out]; omega)
            have HROW := Lib.hid hrow
            obtain ⟨w', rfl⟩ : ∃ x, x = w2 := ⟨_, rfl⟩
            obtain ⟨Au, rfl⟩ : ∃ x, x = Ab := ⟨_, rfl⟩
            obtain ⟨cu, rfl⟩ : ∃ x, x = cb := ⟨_, rfl⟩
            have hb' := b2
            have OU := Lib.hid (show w'.ownsRow wr.heap.size 3 1 (.slice Au n cu) (List.replicate n (0 : Int)).length (inCells (List.replicate n 0)) by rw [List.length_replicate]; exact oub)
            clear b2 oub hrow
            have H2 := hh.out.go hb'
            have x3 := H2.h.blk.cell 1
            simp at x3
            have HB2 := Lib.hid (JK1.out.below (hh.out.h.below.trans (hb'.mono hh.out.h.below.size)) JK1.out.lt)
            have hwT := hh.out.h.lt
            have hwb := hb'.size
            have hwTb : w5.heap.size + 1 ≤ w'.heap.size := by omega
            have hne : w.heap.size ≠ w5.heap.size := by have := hh.out.h.base; omega
            have OW := Lib.hid (show w'.ownsRow (w5.heap.size + 1) 49 1 (.slice A7 k c7) k vs by have h := H2.h.rows.own; rw [padRows_length] at h; exact h)
            have PU := Lib.hid (fun (v6 : Value) (w6 : World) (t' : TypeId) (ho6 : w6.ownsRow (w5.heap.size + 1) 49 1 v6 (k + 1) (vs ++ [.slice Au n cu])) (hg6 : (w'.alloc (.cells #[.slice Au n cu] t')).grownBy w6 (Value.slice A7 k c7).ownBlock) (hd6 : v6.ownBlock = (Value.slice A7 k c7).ownBlock ∨ v6.ownBlock = some (w'.alloc (.cells #[.slice Au n cu] t')).heap.size) =>
              hh.out.push (r := List.replicate n 0) OU.out hb' (by rw [padRows_length]; exact ho6) hg6 hd6)
            have B6 := Lib.hid (fun (w6 : World) (o : Obj) (hg6 : (w'.alloc o).grownBy w6 (Value.slice A7 k c7).ownBlock) => And.intro ((H2.h.blk.alloc o).grown hg6 (fun e => by have := hh.out.h.rvge _ e.symm; omega)) ((HB2.out.alloc o).grown hg6 (fun e => by have := hh.out.h.rvge _ e.symm; have := hh.out.h.base; have := JK1.out.lt; omega)))
            clear H2
            go_wp2_with (first
              | (at_builtin; (refine wpList_append_own_at _ rfl _ _ 24 rfl (w5.heap.size + 1) 49 j0 _ 1 24 Tryd.underlying24 hjI hjz0 hjz1 hjz2 rfl (by decide) _ _ _ rfl (OW.out.alloc _) ⟨w'.heap.size, 0, none⟩ 1 1 [.slice Au n cu] rfl rfl (cells_new _ _ _) (oneCells rfl) (by unfold maxLen; omega) (by omega) (by simp; omega) ?_; intro v6 w6 ho6 hg6 _ hd6; obtain ⟨A6, c6, rfl, _, _⟩ := own_form ho6; have H3 := Lib.hid (PU.out _ _ _ ho6 hg6 hd6); obtain ⟨F6, J6⟩ := B6.out _ _ hg6; have m1 := F6.cell 1; have m1f := F6.frozen 1; have m2 := F6.cell 2; have m2' := H3.out.h.blk.cell 2; have m2f := H3.out.h.blk.frozen 2; have j1 := J6.cell 1; have j1' := (J6.far (p := ⟨w5.heap.size, 1, none⟩) hne (.slice A6 (k + 1) c6)).cell 1; simp at m1 m2 m2' j1 j1'; have PB := Lib.hid (fun (v8 : Value) (w8 : World) (o : Obj) (ho8 : w8.ownsRow (w5.heap.size + 1) 4 1 v8 (k + 1) (boCells (padReal m k) ++ [.bool false])) (hg8 : ((w6.setCell ⟨w5.heap.size, 1, none⟩ (.slice A6 (k + 1) c6)).alloc o).grownBy w8 (Value.slice A8 k c8).ownBlock) => And.intro (H3.out.pushB (x := false) (by rw [padReal_length]; exact ho8) hg8) ((H3.out.h.alloc o).off (H3.out.bown.alloc o) H3.out.bge (by decide) (by decide) hg8).blk); have BW := Lib.hid (show (w6.setCell ⟨w5.heap.size, 1, none⟩ (.slice A6 (k + 1) c6)).ownsRow (w5.heap.size + 1) 4 1 (.slice A8 k c8) k (boCells (padReal m k)) by have h := H3.out.bown; rw [padReal_length] at h; exact h); have hs6 := hg6.size; simp at hs6; clear PU B6 ho6 hg6 hd6 F6 J6 OW))
              | (at_builtin; (refine wpList_append_own_at _ rfl _ _ 35 rfl (w5.heap.size + 1) 4 q0 _ 1 1 Tryd.underlying35 hqI hqz0 hqz1 hqz2 rfl (by decide) _ _ _ rfl (BW.out.alloc _) ⟨w6.heap.size, 0, none⟩ 1 1 [.bool false] rfl rfl (cells_newS _ _ _ _ _) (oneCells rfl) (by unfold maxLen; omega) (by omega) (by simp [World.setCell]; omega) ?_; intro v8 w8 ho8 hg8 _ _; obtain ⟨A9, c9, rfl, _, _⟩ := own_form ho8; obtain ⟨H4, F8⟩ := PB.out _ _ _ ho8 hg8; have HH4 := Lib.hid H4; have p2 := F8.cell 2; have p2f := F8.frozen 2; simp at p2; clear H4 F8 PB ho8 hg8 BW)))
            have e1 : padRows n rows (k + 1) = padRows n rows k ++ [List.replicate n 0] := by rw [padRows_next, HROW.out]; rfl
            have e2 : padReal m (k + 1) = padReal m k ++ [false] := by rw [padReal_next]; simp [hkm]
            go_roundw
            case rel => exact ⟨k + 1, _, _, _, by omega, by go_num, by rw [e1, e2]; exact HH4⟩
            case measure => simp [intOf]; omega
        · obtain rfl : k = s := by omega
          obtain ⟨A7, c7, e7, _, _, _⟩ := hh.out.h.rows.form
          rw [padRows_length] at e7
          subst e7
          obtain ⟨A8, c8, e8, _, _⟩ := own_form hh.out.bown
          rw [padReal_length] at e8
          subst e8
          have z0 := hh.out.h.blk.cell 0
          have z1 := hh.out.h.blk.cell 1
          have z2 := hh.out.h.blk.cell 2
          have K2 := JK2.out.below hh.out.h.below JK2.out.lt
          have y0 := K2.cell 0
          have y1 := K2.cell 1
          have y2 := K2.cell 2
          have f0 := K2.frozen 0
          have f1 := K2.frozen 1
          have f2 := K2.frozen 2
          simp at y0 y1 y2 z0 z1 z2
          have Q2 := Lib.hid (resP_end (B3.out.trans (hh.out.h.below.mono B3.out.size)) K2 (Nat.le_succ _) (hh.out.padO (Nat.le_trans hh.out.h.base (Nat.le_succ _))) hw3n)
          clear K2 hh
          go_wp2_with fail
          obtain ⟨r0, r1, r2, RR⟩ := Q2.out
          clear Q2
          generalize (((wr.setCell ⟨w.heap.size + 1, 0, none⟩ (.slice A5 n c5)).setCell ⟨w.heap.size + 1, 1, none⟩ (.slice A7 k c7)).setCell ⟨w.heap.size + 1, 2, none⟩ (.slice A8 k c8)) = w6 at r0 r1 r2 RR ⊢
          refine bodyPost_ret (v := .tuple #[.agg #[.slice A5 n c5, .slice A7 k c7, .slice A8 k c8], .bool true]) (by simp [results, Tryd.results18, go_sem, r0, r1, r2]) rfl ?_
          rw [HN'.out, HMM.out]
          exact RR
set_option maxHeartbeats 3200000 in
theorem add_true (T n c5 k c7 c8 : Nat) (A5 A7 A8 : Option Addr) (N : List ByteArray) (vs : List Value) (R : List (List Int)) (Q : List Bool) (w1 wr : World) (hp : Hid (HalfP w1 wr w1.heap.size T 37 #[.slice A5 n c5, .slice A7 k c7, .slice A8 k c8] (.slice A5 n c5) (.slice A7 k c7) (.slice A8 k c8) N vs R Q)) (hlk : R.length = k) (hqk : Q.length = k) (hk : k ≤ 1000)
    (Ak : Option Addr) (ck : Nat) (row : List Int) (rr : Reads wr wr.heap.size 1 Ak row.length (inCells row)) (hrl : row.length ≤ 1048576) (hA : Ak = none → ck = 0 ∧ row.length = 0) :
    Calls Tryd.prog 40 #[.pointer (some ⟨T, 0, none⟩), .slice Ak row.length ck, .bool true] wr fun e w' => e = .returned (.tuple #[]) ∧ ∃ (vs' : List Value) (rv' bv' : Value), HalfP w1 w' w1.heap.size T 37 #[.slice A5 n c5, rv', bv'] (.slice A5 n c5) rv' bv' N vs' (R ++ [row]) (Q ++ [true]) := by
  obtain ⟨j0, hjI, hjz0, hjz1, hjz2⟩ := info_parts infoRow
  obtain ⟨q0, hqI, hqz0, hqz1, hqz2⟩ := info_parts infoBool
  have HQK := Lib.hid hqk
  have CL := Lib.hid (fun (w' : World) (h' : Below wr.heap.size wr w') => cloneInt_any Ak row.length ck row w' ((rr.belowW (Nat.le_refl _) h').more h'.size) (by omega) rfl hA)
  clear hqk hA rr
  go_enter Tryd.func40, Tryd.ntmps40
  have hLL : row.length = row.length := rfl
  have hh := Lib.hid hp.out.h
  have x3 := hh.out.blk.cell 1
  simp at x3
  have hwT := hh.out.lt
  have HA7 := Lib.hid hh.out.rvge
  have FIN := Lib.hid (show ∀ (w' : World) (u : Value) (tt : TypeId), w'.ownsRow wr.drew.heap.size 3 1 u row.length (inCells (row)) → Below wr.drew.heap.size wr.drew w' → ∀ (v6 : Value) (w6 : World), w6.ownsRow (T + 1) 49 1 v6 (k + 1) (vs ++ [u]) → (w'.alloc (.cells #[u] tt)).grownBy w6 (Value.slice A7 k c7).ownBlock → (v6.ownBlock = (Value.slice A7 k c7).ownBlock ∨ v6.ownBlock = some (w'.alloc (.cells #[u] tt)).heap.size) →
      Hid (HalfP w1 (w6.setCell ⟨T, 1, none⟩ v6) w1.heap.size T 37 #[.slice A5 n c5, v6, .slice A8 k c8] (.slice A5 n c5) v6 (.slice A8 k c8) N (vs ++ [u]) (R ++ [row]) Q) from by
    intro w' u tt ou hb v6 w6 ho6 hg6 hd6
    exact Lib.hid (hp.out.drew.push (by rw [hLL]; exact ou) hb (by rw [hlk]; exact ho6) hg6 hd6))
  have hwq := hh.out.lt
  go_wp2_with fail
  go_region_law (first
      | (refine step_call (by rfl) (f := 36) Tryd.func36 (by kernel_rfl) (by kernel_rfl) (by rfl) #[.slice Ak row.length ck] (by kernel_rfl) ?_; refine (CL.out _ ((Below.refl _ _).drew)).mono ?_; rintro e w' ⟨u, rfl, ou, hb'⟩; obtain ⟨Au, cu, rfl, _, _⟩ := own_form ou; have x3' := below_keep hb' (show wr.drew.cell? ⟨T, 1, none⟩ = _ from x3); refine ⟨_, rfl, ?_⟩; have x3a := fun o => (World.cell?_alloc_some w' ⟨T, 1, none⟩ o (by rw [x3']; rfl)).trans x3')
      | ((refine step_append_any _ (by rfl) (.tmp 18) (.tmp 21) 24 (by rfl) (T + 1) 49 j0 _ 1 24 Tryd.underlying24 hjI hjz0 hjz1 hjz2 (by rfl) (by decide) _ k vs (by rfl) (by have h := (hh.out.drew.go hb').rows.own; rw [hlk] at h; exact h.alloc _) (w'.heap.size + 1) (some ⟨w'.heap.size, 0, none⟩) 1 1 [.slice Au row.length cu] (by rfl) ⟨rfl, fun _ => ⟨_, rfl, by simp, cells_new _ _ _⟩⟩ (oneCells rfl) (by unfold maxLen; omega) (by omega) (by have h := hb'.size; have h2 : wr.drew.heap.size = wr.heap.size := rfl; simp; omega) ?_; intro v6 w6 ho6 hg6 hd6; obtain ⟨A6, c6, rfl, _, _⟩ := own_form ho6; have F6 := (((hh.out.drew.go hb').blk.alloc _).grown hg6 (fun e => by have := HA7.out _ e.symm; omega)); have F6c := F6.cell 1; have F6f := F6.frozen 1; simp at F6c)))
  all_goals (
    have H3 := FIN.out _ _ _ ou hb' _ _ ho6 hg6 hd6
    have m2' := H3.out.h.blk.cell 2
    have m2f := H3.out.h.blk.frozen 2
    simp at m2'
    have PB := Lib.hid (fun (v8 : Value) (w8 : World) (o : Obj) (ho8 : w8.ownsRow (T + 1) 4 1 v8 (k + 1) (boCells Q ++ [.bool true])) (hg8 : ((w6.setCell ⟨T, 1, none⟩ (.slice A6 (k + 1) c6)).alloc o).grownBy w8 (Value.slice A8 k c8).ownBlock) => And.intro (H3.out.pushB (x := true) (by rw [HQK.out]; exact ho8) hg8) ((H3.out.h.alloc o).off (H3.out.bown.alloc o) H3.out.bge (by decide) (by decide) hg8).blk)
    have BW := Lib.hid (show (w6.setCell ⟨T, 1, none⟩ (.slice A6 (k + 1) c6)).ownsRow (T + 1) 4 1 (.slice A8 k c8) k (boCells Q) by have h := H3.out.bown; rw [HQK.out] at h; exact h)
    have hs6 := hg6.size
    simp at hs6
    have hbs' := hb'.size
    have hsd : wr.drew.heap.size = wr.heap.size := rfl
    have hT6 : T + 1 ≤ w6.heap.size := by omega
    clear F6 F6c F6f ho6 hg6 hd6
    go_wp2_with (first
      | (at_builtin; (refine wpList_append_own_at _ rfl _ _ 35 rfl (T + 1) 4 q0 _ 1 1 Tryd.underlying35 hqI hqz0 hqz1 hqz2 rfl (by decide) _ _ _ rfl (BW.out.alloc _) ⟨w6.heap.size, 0, none⟩ 1 1 [.bool true] rfl rfl (cells_newS _ _ _ _ _) (oneCells rfl) (by unfold maxLen; omega) (by omega) (by simp [World.setCell]; omega) ?_; intro v8 w8 ho8 hg8 _ _; obtain ⟨A9, c9, rfl, _, _⟩ := own_form ho8; obtain ⟨H4, F8⟩ := PB.out _ _ _ ho8 hg8; have HH4 := Lib.hid H4; have p2 := F8.cell 2; have p2f := F8.frozen 2; simp at p2; clear H4 F8 PB ho8 hg8 BW)))
    exact bodyPost_end (v := .tuple #[]) (by simp [results, Tryd.results40, go_sem]) rfl ⟨rfl, _, _, _, HH4.out⟩)
set_option maxHeartbeats 3200000 in
theorem add_false (T n c5 k c7 c8 : Nat) (A5 A7 A8 : Option Addr) (N : List ByteArray) (vs : List Value) (R : List (List Int)) (Q : List Bool) (w1 w : World) (hp0 : Hid (HalfP w1 w w1.heap.size T 37 #[.slice A5 n c5, .slice A7 k c7, .slice A8 k c8] (.slice A5 n c5) (.slice A7 k c7) (.slice A8 k c8) N vs R Q)) (hlk : R.length = k) (hqk : Q.length = k) (hk : k ≤ 1000) (hn : n ≤ 1048576) :
    Calls Tryd.prog 40 #[.pointer (some ⟨T, 0, none⟩), .slice none 0 0, .bool false] w fun e w' => e = .returned (.tuple #[]) ∧ ∃ (vs' : List Value) (rv' bv' : Value), HalfP w1 w' w1.heap.size T 37 #[.slice A5 n c5, rv', bv'] (.slice A5 n c5) rv' bv' N vs' (R ++ [List.replicate n 0]) (Q ++ [false]) := by
  obtain ⟨j0, hjI, hjz0, hjz1, hjz2⟩ := info_parts infoRow
  obtain ⟨q0, hqI, hqz0, hqz1, hqz2⟩ := info_parts infoBool
  obtain ⟨i0, hi0, hz0, hz1, hz2⟩ := info_parts infoInt
  have HQK := Lib.hid hqk
  have x0 := hp0.out.h.blk.cell 0
  simp at x0
  obtain ⟨row, hrow⟩ : ∃ row, row = List.replicate n (0 : Int) := ⟨_, rfl⟩
  have hLL : row.length = n := by rw [hrow, List.length_replicate]
  rw [← hrow]
  have HROW := Lib.hid hrow
  clear hqk hrow
  go_enter Tryd.func40, Tryd.ntmps40
  go_wp2_with (at_make; refine wpList_make_full _ rfl _ _ 49 rfl w.heap.size 3 i0 _ 1 Tryd.underlying49 hi0 hz0 hz1 .i64 .i64 _ _ n rfl rfl rfl rfl (by rw [hz2]; omega) (by unfold maxLen; omega) (Nat.le_refl _) ?_; intro wr hown1 hgrow1)
  have hb1 : Below w.heap.size w wr := (Below.refl _ _).grown hgrow1 (Nat.le_refl _) (by simp)
  have rr := Reads.of_own (show wr.ownsRow w.heap.size 3 1 (.slice (some ⟨w.heap.size, 0, none⟩) n n) n (inCells row) by rw [HROW.out, zeros_cells, ← made_one _ rfl]; exact hown1)
  have hp := Lib.hid (hp0.out.go hb1)
  have CL := Lib.hid (fun (w' : World) (h' : Below wr.heap.size wr w') => cloneInt_any (some ⟨w.heap.size, 0, none⟩) n n row w' ((rr.belowW (Nat.le_refl _) h').more h'.size) (by omega) hLL (fun h => by cases h))
  clear hp0 hown1 hgrow1 rr x0 hb1
  have hh := Lib.hid hp.out.h
  have x3 := hh.out.blk.cell 1
  simp at x3
  have hwT := hh.out.lt
  have HA7 := Lib.hid hh.out.rvge
  have FIN := Lib.hid (show ∀ (w' : World) (u : Value) (tt : TypeId), w'.ownsRow wr.drew.heap.size 3 1 u n (inCells (row)) → Below wr.drew.heap.size wr.drew w' → ∀ (v6 : Value) (w6 : World), w6.ownsRow (T + 1) 49 1 v6 (k + 1) (vs ++ [u]) → (w'.alloc (.cells #[u] tt)).grownBy w6 (Value.slice A7 k c7).ownBlock → (v6.ownBlock = (Value.slice A7 k c7).ownBlock ∨ v6.ownBlock = some (w'.alloc (.cells #[u] tt)).heap.size) →
      Hid (HalfP w1 (w6.setCell ⟨T, 1, none⟩ v6) w1.heap.size T 37 #[.slice A5 n c5, v6, .slice A8 k c8] (.slice A5 n c5) v6 (.slice A8 k c8) N (vs ++ [u]) (R ++ [row]) Q) from by
    intro w' u tt ou hb v6 w6 ho6 hg6 hd6
    exact Lib.hid (hp.out.drew.push (by rw [hLL]; exact ou) hb (by rw [hlk]; exact ho6) hg6 hd6))
  have hwq := hh.out.lt
  go_wp2_with fail
  go_region_law (first
      | (refine step_call (by rfl) (f := 36) Tryd.func36 (by kernel_rfl) (by kernel_rfl) (by rfl) #[.slice (some ⟨w.heap.size, 0, none⟩) n n] (by kernel_rfl) ?_; refine (CL.out _ ((Below.refl _ _).drew)).mono ?_; rintro e w' ⟨u, rfl, ou, hb'⟩; obtain ⟨Au, cu, rfl, _, _⟩ := own_form ou; have x3' := below_keep hb' (show wr.drew.cell? ⟨T, 1, none⟩ = _ from x3); refine ⟨_, rfl, ?_⟩; have x3a := fun o => (World.cell?_alloc_some w' ⟨T, 1, none⟩ o (by rw [x3']; rfl)).trans x3')
      | ((refine step_append_any _ (by rfl) (.tmp 18) (.tmp 21) 24 (by rfl) (T + 1) 49 j0 _ 1 24 Tryd.underlying24 hjI hjz0 hjz1 hjz2 (by rfl) (by decide) _ k vs (by rfl) (by have h := (hh.out.drew.go hb').rows.own; rw [hlk] at h; exact h.alloc _) (w'.heap.size + 1) (some ⟨w'.heap.size, 0, none⟩) 1 1 [.slice Au n cu] (by rfl) ⟨rfl, fun _ => ⟨_, rfl, by simp, cells_new _ _ _⟩⟩ (oneCells rfl) (by unfold maxLen; omega) (by omega) (by have h := hb'.size; have h2 : wr.drew.heap.size = wr.heap.size := rfl; simp; omega) ?_; intro v6 w6 ho6 hg6 hd6; obtain ⟨A6, c6, rfl, _, _⟩ := own_form ho6; have F6 := (((hh.out.drew.go hb').blk.alloc _).grown hg6 (fun e => by have := HA7.out _ e.symm; omega)); have F6c := F6.cell 1; have F6f := F6.frozen 1; simp at F6c)))
  all_goals (
    have H3 := FIN.out _ _ _ ou hb' _ _ ho6 hg6 hd6
    have m2' := H3.out.h.blk.cell 2
    have m2f := H3.out.h.blk.frozen 2
    simp at m2'
    have PB := Lib.hid (fun (v8 : Value) (w8 : World) (o : Obj) (ho8 : w8.ownsRow (T + 1) 4 1 v8 (k + 1) (boCells Q ++ [.bool false])) (hg8 : ((w6.setCell ⟨T, 1, none⟩ (.slice A6 (k + 1) c6)).alloc o).grownBy w8 (Value.slice A8 k c8).ownBlock) => And.intro (H3.out.pushB (x := false) (by rw [HQK.out]; exact ho8) hg8) ((H3.out.h.alloc o).off (H3.out.bown.alloc o) H3.out.bge (by decide) (by decide) hg8).blk)
    have BW := Lib.hid (show (w6.setCell ⟨T, 1, none⟩ (.slice A6 (k + 1) c6)).ownsRow (T + 1) 4 1 (.slice A8 k c8) k (boCells Q) by have h := H3.out.bown; rw [HQK.out] at h; exact h)
    have hs6 := hg6.size
    simp at hs6
    have hbs' := hb'.size
    have hsd : wr.drew.heap.size = wr.heap.size := rfl
    have hT6 : T + 1 ≤ w6.heap.size := by omega
    clear F6 F6c F6f ho6 hg6 hd6
    go_wp2_with (first
      | (at_builtin; (refine wpList_append_own_at _ rfl _ _ 35 rfl (T + 1) 4 q0 _ 1 1 Tryd.underlying35 hqI hqz0 hqz1 hqz2 rfl (by decide) _ _ _ rfl (BW.out.alloc _) ⟨w6.heap.size, 0, none⟩ 1 1 [.bool false] rfl rfl (cells_newS _ _ _ _ _) (oneCells rfl) (by unfold maxLen; omega) (by omega) (by simp [World.setCell]; omega) ?_; intro v8 w8 ho8 hg8 _ _; obtain ⟨A9, c9, rfl, _, _⟩ := own_form ho8; obtain ⟨H4, F8⟩ := PB.out _ _ _ ho8 hg8; have HH4 := Lib.hid H4; have p2 := F8.cell 2; have p2f := F8.frozen 2; simp at p2; clear H4 F8 PB ho8 hg8 BW)))
    exact bodyPost_end (v := .tuple #[]) (by simp [results, Tryd.results40, go_sem]) rfl ⟨rfl, _, _, _, HH4.out⟩)
set_option maxHeartbeats 3200000 in
theorem implPadT_any (v : Value) (names : List ByteArray) (rows : List (List Int)) (size : Int) (ok : Bool) (N : List ByteArray) (R : List (List Int)) (Q : List Bool) (hL : PtIs names rows size ok N R Q) (RA : Option Addr) (RC : Nat) (w : World) (hv : w.cell? ⟨0, 0, none⟩ = some (.slice RA 13 RC)) (hr : Reads w w.heap.size 1 RA 13 (stCells resW)) (ht : TabR w v names rows) (hs : Small names rows) :
    Calls Tryd.prog 15 #[v, .int .i64 size] w fun e w' => PadRes w ok N R Q e w' := by
  have HT := Lib.hid ht
  obtain ⟨A, c, B, d, rfl, _, hx, hy⟩ := ht
  obtain ⟨i0, hi0, hz0, hz1, hz2⟩ := info_parts infoStr
  obtain ⟨j0, hjI, hjz0, hjz1, hjz2⟩ := info_parts infoRow
  obtain ⟨q0, hqI, hqz0, hqz1, hqz2⟩ := info_parts infoBool
  obtain ⟨n, hnn⟩ : ∃ n, names.length = n := ⟨_, rfl⟩
  obtain ⟨m, hmm⟩ : ∃ m, rows.length = m := ⟨_, rfl⟩
  have hn1 := hs.n1
  have HR2 := Lib.hid hs.r2
  rw [hnn] at hx hn1
  rw [hmm] at hy
  rw [hnn, hmm] at HT ⊢
  obtain ⟨w1, hw1⟩ : ∃ w1, w1 = (w.alloc (.cells #[.slice A n c, .slice B m d] 26)).alloc (.cells #[nilV, nilV, nilV] 37) := ⟨_, rfl⟩
  have b1 : Below w.heap.size w w1 := by rw [hw1]; exact ((Below.refl _ _).alloc (Nat.le_refl _) _).alloc (by simp) _
  have hs1 : w1.heap.size = w.heap.size + 1 + 1 := by rw [hw1]; simp
  have k1 : Blk w1 w.heap.size 26 #[.slice A n c, .slice B m d] := by rw [hw1]; exact (Blk.new _ _ _).alloc _
  have k2 : Blk w1 (w.heap.size + 1) 37 #[.slice none 0 0, .slice none 0 0, .slice none 0 0] := by
    have := Blk.new (w.alloc (.cells #[.slice A n c, .slice B m d] 26)) 37 #[nilV, nilV, nilV]
    rw [World.size_alloc] at this
    rw [hw1]; exact this
  have c0 := k1.cell 0
  have c1 := k1.cell 1
  simp at c0 c1
  obtain ⟨q, hq⟩ : ∃ q, tableB names rows = q := ⟨_, rfl⟩
  obtain ⟨p, hp⟩ : ∃ p, inB size m 256 = p := ⟨_, rfl⟩
  have ST := Lib.hid (implTab_any q _ names rows RA RC w1 (below_keep b1 hv) ((hr.below b1).more b1.size) (HT.out.below b1) hs.ok hq)
  have IN := Lib.hid (fun (w' : World) => in_is p size m 256 w' hp)
  have hlim : ptB names rows size = (q && p) := by simp [ptB, hq, hp, hmm]
  have HW := Lib.hid hw1
  have HP := Lib.hid hp
  have HX := Lib.hid hx
  have HY := Lib.hid hy
  have HNM := Lib.hid (And.intro hnn hmm)
  have K12 := Lib.hid (And.intro k1 k2)
  have B1 := Lib.hid b1
  have HLIM := Lib.hid hlim
  have HL := Lib.hid hL
  clear hv hr hs HT hnn hmm hq hp hw1 k1 k2 b1 hlim hL hx hy
  go_enter Tryd.func15, Tryd.ntmps15
  go_wp2_with fail
  rw [← HW.out]
  refine ST.out.mono ?_
  rintro e w3 ⟨rfl, b2⟩
  have B3 := Lib.hid (B1.out.trans (b2.mono B1.out.size))
  have k1 := K12.out.1.below b2 K12.out.1.lt
  have K2 := K12.out.2.below b2 K12.out.2.lt
  have x0 := k1.cell 0
  have x1 := k1.cell 1
  have y0 := K2.cell 0
  have y1 := K2.cell 1
  have y2 := K2.cell 2
  have f0 := K2.frozen 0
  have f1 := K2.frozen 1
  have f2 := K2.frozen 2
  simp at x0 x1 y0 y1 y2
  have JK1 := Lib.hid k1
  have JK2 := Lib.hid K2
  have hw3n : w.heap.size + 1 + 1 ≤ w3.heap.size := Nat.le_trans (Nat.le_of_eq hs1.symm) b2.size
  have RS := Lib.hid (resP_store B3.out JK2.out (Nat.le_succ _) (.slice none 0 0) (.slice none 0 0) (.slice none 0 0))
  clear c0 c1 k1 K2 b2 K12
  cases q
  · go_wp2_with fail
    obtain ⟨r0, r1, r2, rb, _⟩ := RS.out
    obtain ⟨rfl, rfl, rfl, rfl⟩ := HL.out.no (HLIM.out.trans (by rfl))
    clear RS f0 f1 f2 x0 x1 y0 y1 y2
    generalize (((w3.setCell ⟨w.heap.size + 1, 0, none⟩ (.slice none 0 0)).setCell ⟨w.heap.size + 1, 1, none⟩ (.slice none 0 0)).setCell ⟨w.heap.size + 1, 2, none⟩ (.slice none 0 0)) = w6 at r0 r1 r2 rb ⊢
    exact bodyPost_ret (v := .tuple #[.agg #[.slice none 0 0, .slice none 0 0, .slice none 0 0], .bool false]) (by simp [results, Tryd.results15, go_sem, r0, r1, r2]) rfl (PadRes.nil rb)
  · cases p
    · go_wp2_with (first | (go_at_call 25; refine (IN.out _).mono ?_; rintro e w' ⟨rfl, rfl⟩))
      obtain ⟨r0, r1, r2, rb, _⟩ := RS.out
      obtain ⟨rfl, rfl, rfl, rfl⟩ := HL.out.no (HLIM.out.trans (by rfl))
      clear RS f0 f1 f2 x0 x1 y0 y1 y2
      generalize (((w3.setCell ⟨w.heap.size + 1, 0, none⟩ (.slice none 0 0)).setCell ⟨w.heap.size + 1, 1, none⟩ (.slice none 0 0)).setCell ⟨w.heap.size + 1, 2, none⟩ (.slice none 0 0)) = w6 at r0 r1 r2 rb ⊢
      exact bodyPost_ret (v := .tuple #[.agg #[.slice none 0 0, .slice none 0 0, .slice none 0 0], .bool false]) (by simp [results, Tryd.results15, go_sem, r0, r1, r2]) rfl (PadRes.nil rb)
    · obtain ⟨rfl, rfl, rfl, rfl⟩ := HL.out.yes (HLIM.out.trans (by rfl))
      obtain ⟨hsm, hs256⟩ := inB_true HP.out
      obtain ⟨s, rfl⟩ : ∃ s : Nat, size = (s : Int) := ⟨size.toNat, by omega⟩
      have hm256 : m ≤ 256 := by omega
      have hs256' : s ≤ 256 := by omega
      have x0 := JK1.out.cell 0
      simp at x0
      have CN := Lib.hid (cloneNames_any A n c N w3 ((HX.out.below B3.out).more B3.out.size) (by omega))
      have HY3 := Lib.hid (HY.out.below B3.out)
      have hNn := HNM.out.1
      have hmm := HNM.out.2
      have HN' := Lib.hid hNn
      have HMM := Lib.hid hmm
      clear hNn hmm HX HY HW HLIM HL HNM HP y0 y1 y2 f0 f1 f2 hs1 RS
      go_wp2_with (first | (go_at_call 25; refine (IN.out _).mono ?_; rintro e w' ⟨rfl, rfl⟩))
      refine CN.out.mono ?_
      rintro e w5 ⟨v5, rfl, hown5, hb5⟩
      obtain ⟨A5, c5, rfl, _, _⟩ := own_form hown5
      have hb5s := hb5.size
      clear x0 x1
      have START : Hid (HalfP w3 (w5.alloc (.cells #[.slice A5 n c5, .slice none 0 0, .slice none 0 0] 37)) w3.heap.size w5.heap.size 37 #[.slice A5 n c5, .slice none 0 0, .slice none 0 0] (.slice A5 n c5) (.slice none 0 0) (.slice none 0 0) N [] [] []) :=
        Lib.hid ⟨⟨Blk.new _ _ _, by rw [HN'.out]; exact hown5.alloc _, fun g e => (hown5.lt g e).2, RowsV.nil _ _ _, hb5.alloc hb5s _, hb5s⟩, World.ownsRow_nil _ _ _ _⟩
      clear hb5 hown5 CN IN
      go_wp2_with fail
      go_loopw [25] (fun kv wr => ∃ (k : Nat) (vs : List Value) (ov bv : Value), k ≤ s ∧ kv = .int .i64 k ∧ Hid (HalfP w3 wr w3.heap.size w5.heap.size 37 #[.slice A5 n c5, ov, bv] (.slice A5 n c5) ov bv N vs (padRows n rows k) (padReal m k))) (fun kv _ => s - (intOf kv).toNat)
      case atStart => exact ⟨0, [], _, _, Nat.zero_le _, rfl, START⟩
      case round =>
        clear START
        obtain ⟨k, vs, ov, bv, hk, rfl, hh⟩ := hrel
        have hk0 : (0 : Int) ≤ (k : Int) := Int.natCast_nonneg _
        by_cases hlt : k < s
        · have hk1 : (k : Int) < (s : Int) := by omega
          obtain ⟨A7, c7, e7, _, _, _⟩ := hh.out.h.rows.form
          rw [padRows_length] at e7
          subst e7
          obtain ⟨A8, c8, e8, _, _⟩ := own_form hh.out.bown
          rw [padReal_length] at e8
          subst e8
          have kk := JK1.out.below hh.out.h.below JK1.out.lt
          have x1 := kk.cell 1
          simp at x1
          clear kk
          have hlk : (padRows n rows k).length = k := padRows_length n rows k
          have hqk : (padReal m k).length = k := padReal_length m k
          by_cases hkm : k < m
          · have hkm1 : (k : Int) < (m : Int) := by omega
            obtain ⟨ad, row, Ak, ck, rfl, hadb, hrow, e1, g1, g2, g3, rr⟩ := (HY3.out.belowW (Nat.le_refl _) hh.out.h.below).at_ hkm
            have AD := Lib.hid (add_true w5.heap.size n c5 k c7 c8 A5 A7 A8 N vs _ _ w3 wr hh hlk hqk (by omega) Ak ck row (rr.more hh.out.h.below.size) (by have := HR2.out row (List.mem_of_getElem? hrow); omega) (fun h => ⟨g3 h, by have := g3 h; omega⟩))
            have q1 : padRows n rows (k + 1) = padRows n rows k ++ [row] := by rw [padRows_next, hrow]; rfl
            have q2 : padReal m (k + 1) = padReal m k ++ [true] := by rw [padReal_next]; simp [hkm]
            have QQ := Lib.hid (And.intro q1 q2)
            clear hrow g3 rr hadb q1 q2 hh hlk hqk
            go_wp2_with fail
            refine AD.out.mono ?_
            rintro e w6 ⟨rfl, vs', rv', bv', H6⟩
            have HH4 := Lib.hid H6
            clear H6 AD x1 e1
            go_wp2_with fail
            go_roundw
            case rel => exact ⟨k + 1, _, _, _, by omega, by go_num, by rw [QQ.out.1, QQ.out.2]; exact HH4⟩
            case measure => simp [intOf]; omega
          · have hkm1 : ¬ (k : Int) < (m : Int) := by omega
            have hrow : rows[k]? = none := List.getElem?_eq_none (by rw [HMM.out]; omega)
            have AD := Lib.hid (add_false w5.heap.size n c5 k c7 c8 A5 A7 A8 N vs _ _ w3 wr hh hlk hqk (by omega) hn1)
            have q1 : padRows n rows (k + 1) = padRows n rows k ++ [List.replicate n 0] := by rw [padRows_next, hrow]; rfl
            have q2 : padReal m (k + 1) = padReal m k ++ [false] := by rw [padReal_next]; simp [hkm]
            have QQ := Lib.hid (And.intro q1 q2)
            clear hrow q1 q2 hh hlk hqk
            go_wp2_with fail
            refine AD.out.mono ?_
            rintro e w6 ⟨rfl, vs', rv', bv', H6⟩
            have HH4 := Lib.hid H6
            clear H6 AD x1
            go_wp2_with fail
            go_roundw
            case rel => exact ⟨k + 1, _, _, _, by omega, by go_num, by rw [QQ.out.1, QQ.out.2]; exact HH4⟩
            case measure => simp [intOf]; omega
        · obtain rfl : k = s := by omega
          obtain ⟨A7, c7, e7, _, _, _⟩ := hh.out.h.rows.form
          rw [padRows_length] at e7
          subst e7
          obtain ⟨A8, c8, e8, _, _⟩ := own_form hh.out.bown
          rw [padReal_length] at e8
          subst e8
          have z0 := hh.out.h.blk.cell 0
          have z1 := hh.out.h.blk.cell 1
          have z2 := hh.out.h.blk.cell 2
          have K2 := JK2.out.below hh.out.h.below JK2.out.lt
          have y0 := K2.cell 0
          have y1 := K2.cell 1
          have y2 := K2.cell 2
          have f0 := K2.frozen 0
          have f1 := K2.frozen 1
          have f2 := K2.frozen 2
          simp at y0 y1 y2 z0 z1 z2
          have Q2 := Lib.hid (resP_end (B3.out.trans (hh.out.h.below.mono B3.out.size)) K2 (Nat.le_succ _) (hh.out.padO (Nat.le_trans hh.out.h.base (Nat.le_succ _))) hw3n)
          clear K2 hh
          go_wp2_with fail
          obtain ⟨r0, r1, r2, RR⟩ := Q2.out
          clear Q2
          generalize (((wr.setCell ⟨w.heap.size + 1, 0, none⟩ (.slice A5 n c5)).setCell ⟨w.heap.size + 1, 1, none⟩ (.slice A7 k c7)).setCell ⟨w.heap.size + 1, 2, none⟩ (.slice A8 k c8)) = w6 at r0 r1 r2 RR ⊢
          refine bodyPost_ret (v := .tuple #[.agg #[.slice A5 n c5, .slice A7 k c7, .slice A8 k c8], .bool true]) (by simp [results, Tryd.results15, go_sem, r0, r1, r2]) rfl ?_
          rw [HN'.out, HMM.out]
          exact RR
end Go.Proofs.YtbhklgiecfcfcaaDoor
