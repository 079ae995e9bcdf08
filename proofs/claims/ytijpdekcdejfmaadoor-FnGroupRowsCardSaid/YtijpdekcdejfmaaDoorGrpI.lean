/- impl.GroupRows. -/
import Derived.Test.YtijpdekcdejfmaaDoorGrp
import Derived.Test.YtijpdekcdejfmaaDoorGrpT
import Derived.Test.YtijpdekcdejfmaaDoorProjI
import Derived.StillTailTactics
namespace Go.Proofs.YtijpdekcdejfmaaDoor
open Go Go.RowKit
set_option maxRecDepth 100000
section
variable {w1 w w' : World} {lo T Z i q c : Nat} {t : TypeId} {cs : Array Value} {nv rv : Value} {A : Option Addr} {names : List ByteArray} {vs : List Value} {rows : List (List Int)} {x y z : Int}
/-- Row i of the table under construction, with its cells. -/
theorem HalfZ.at3 (h : HalfZ w1 w lo T Z t cs nv (.slice A q c) names vs rows) (hq : rows.length = q) (hi : rows[i]? = some [x, y, z]) :
    ∃ gR gb cb : Nat, A = some ⟨gR, 0, none⟩ ∧ vs[i]? = some (.slice (some ⟨gb, 0, none⟩) 3 cb) ∧ w.cell? ⟨gR, i, none⟩ = some (.slice (some ⟨gb, 0, none⟩) 3 cb) ∧ w.cell? ⟨gb, 0, none⟩ = some (.int .i64 x) ∧ w.cell? ⟨gb, 1, none⟩ = some (.int .i64 y) ∧
      w.cell? ⟨gb, 2, none⟩ = some (.int .i64 z) ∧ w.frozen? ⟨gb, 1, none⟩ = false ∧ w.frozen? ⟨gb, 2, none⟩ = false ∧ Z ≤ gb ∧ Z ≤ gR ∧ gb ≠ gR ∧ gb < w.heap.size ∧ gR < w.heap.size := by
  subst hq
  have hil := (List.getElem?_eq_some_iff.1 hi).1
  have hv := h.rows
  rcases own_cases hv.own with ⟨e, h0, _⟩ | ⟨gR, cap, e⟩
  · omega
  · simp only [Value.slice.injEq, true_and] at e
    obtain ⟨rfl, rfl⟩ := e
    have hu : vs[i]? = some (vs[i]'(by have := hv.len; omega)) := List.getElem?_eq_getElem _
    obtain ⟨u, hu'⟩ : ∃ u, vs[i]? = some u := ⟨_, hu⟩
    have ho := hv.row i u _ hu' hi
    have hoff := hv.off i u hu'
    rcases own_cases ho with ⟨_, h0, _⟩ | ⟨gb, cb, rfl⟩
    · simp at h0
    · have e0 := ho.cellAt 0 (by simp [inCells])
      have e1 := ho.cellAt 1 (by simp [inCells])
      have e2 := ho.cellAt 2 (by simp [inCells])
      have hlt := ho.lt gb rfl
      have hlt2 := hv.own.lt gR rfl
      refine ⟨gR, gb, cb, rfl, hu', (hv.own.cellAt i (by have := hv.len; omega)).trans hu', e0, e1, e2, ho.frozenAt 1, ho.frozenAt 2, hlt.1, hlt2.1, fun e => ?_, hlt.2, hlt2.2⟩
      rcases hoff with h | h
      · simp [Value.ownBlock] at h
      · simp [Value.ownBlock, e] at h
/-- A value of row i is stored. -/
theorem HalfZ.put {gb cb j : Nat} {r : List Int} (h : HalfZ w1 w lo T Z t cs nv rv names vs rows) (hu : vs[i]? = some (.slice (some ⟨gb, 0, none⟩) r.length cb)) (hr : rows[i]? = some r) (u : Int) :
    HalfZ w1 (w.setCell ⟨gb, j, none⟩ (.int .i64 u)) lo T Z t cs nv rv names vs (rows.set i (r.set j u)) := by
  have ho := h.rows.row i _ _ hu hr
  have hlt := ho.lt gb rfl
  have hst := ho.stored j (.int .i64 u)
  have htz := h.tz
  have hne : T ≠ gb := by omega
  have hs : (w.setCell ⟨gb, j, none⟩ (.int .i64 u)).heap.size = w.heap.size := by simp [World.setCell]
  refine ⟨h.blk.far hne _, own_block h.own fun g e => ?_, h.top, htz, by rw [hs]; exact h.zs, ?_, h.below.setCell (by show w1.heap.size ≤ gb; have := h.base; omega) _, h.base⟩
  · have := (h.top g e).1
    rw [Below.heap_setCell _ _ _ _ (by show g ≠ gb; omega)]
  · rw [hs]
    refine h.rows.write hu hr hst.2 ?_
    rw [List.length_set]
    have e : inCells (r.set j u) = (inCells r).set j (.int .i64 u) := by simp [inCells, List.map_set]
    rw [e]
    exact hst.1
theorem halfZ_at {w6 : World} {k : Nat} {xs : List ByteArray} (ho : w6.ownsRow lo 9 1 nv k (stCells xs)) (hk : xs.length = k) :
    HalfZ w6 (w6.alloc (.cells #[nv, .slice none 0 0] 26)) lo w6.heap.size (w6.heap.size + 1) 26 #[nv, .slice none 0 0] nv (.slice none 0 0) xs [] [] := by
  subst hk
  exact ⟨Blk.new _ _ _, ho.alloc _, fun g e => by have := (ho.lt g e).2; omega, Nat.lt_succ_self _, by simp, RowsV.nil _ _ _, (Below.refl _ _).alloc (Nat.le_refl _) _, Nat.le_refl _⟩
end
set_option maxHeartbeats 6400000 in
theorem implGroup_any (v : Value) (names : List ByteArray) (rows : List (List Int)) (g s : ByteArray) (ok : Bool) (N : List ByteArray) (R : List (List Int)) (hL : GrpIs names rows g s ok N R) (RA : Option Addr) (RC : Nat) (w : World)
    (hv : w.cell? ⟨0, 0, none⟩ = some (.slice RA 13 RC)) (hr : Reads w w.heap.size 1 RA 13 (stCells resW)) (ht : TabR w v names rows) (hs : Small names rows) :
    Calls Tryd.prog 18 #[v, .string g, .string s] w fun e w' => TabRes w ok N R e w' := by
  have HT := Lib.hid ht
  obtain ⟨A, c, B, d, rfl, _, _, _⟩ := ht
  obtain ⟨j0, hjI, hjz0, hjz1, hjz2⟩ := info_parts infoRow
  obtain ⟨n, hnn⟩ : ∃ n, names.length = n := ⟨_, rfl⟩
  obtain ⟨m, hmm⟩ : ∃ m, rows.length = m := ⟨_, rfl⟩
  have hn1 := hs.n1
  have hm1 := hs.r1
  rw [hnn] at hn1
  rw [hmm] at hm1
  rw [hnn, hmm] at HT ⊢
  obtain ⟨w1, hw1⟩ : ∃ w1, w1 = (w.alloc (.cells #[.slice A n c, .slice B m d] 26)).alloc (.cells #[nilV, nilV] 26) := ⟨_, rfl⟩
  have b1 : Below w.heap.size w w1 := by rw [hw1]; exact ((Below.refl _ _).alloc (Nat.le_refl _) _).alloc (by simp) _
  have hs1 : w1.heap.size = w.heap.size + 1 + 1 := by rw [hw1]; simp
  have k1 : Blk w1 w.heap.size 26 #[.slice A n c, .slice B m d] := by rw [hw1]; exact (Blk.new _ _ _).alloc _
  have k2 : Blk w1 (w.heap.size + 1) 26 #[.slice none 0 0, .slice none 0 0] := by
    have := Blk.new (w.alloc (.cells #[.slice A n c, .slice B m d] 26)) 26 #[nilV, nilV]
    rw [World.size_alloc] at this
    rw [hw1]; exact this
  have c0 := k1.cell 0
  have c1 := k1.cell 1
  simp at c0 c1
  obtain ⟨u, hu⟩ : ∃ u, tableB names rows = u := ⟨_, rfl⟩
  have GN := Lib.hid (groupNames_any A n c names g s w1 hnn (HT.out.below b1).namesR.1 (by omega))
  have ST := Lib.hid (fun (w' : World) (h : Below w.heap.size w w') => implTab_any u _ names rows RA RC w' (below_keep h hv) ((hr.below h).more h.size) (HT.out.below h) hs.ok hu)
  have TK := Lib.hid (fun (w' : World) (h : Below w.heap.size w w') (CA : Option Addr) (hc : Reads w' w'.heap.size 1 CA 2 (stCells [g, s])) (h1 : ∀ r ∈ rows, r.length = n) (h2 : ∀ y ∈ [g, s], hasW names y = true) => implTake_rows A n c names B m d rows CA 2 2 [g, s] w' hnn (HT.out.below h).namesR.1 (by omega) (HT.out.below h).rowsR' (by omega) h1 rfl hc (by omega) h2)
  have KK := Lib.hid (And.intro k1 k2)
  have HV := Lib.hid hv
  have HR := Lib.hid hr
  have HW := Lib.hid hw1
  have HU := Lib.hid hu
  have HM := Lib.hid hmm
  have HN := Lib.hid hnn
  have B1 := Lib.hid b1
  have HL := Lib.hid hL
  have HS := Lib.hid hs
  clear hs hnn hmm hu hw1 k1 k2 b1 hL hv hr
  go_enter Tryd.func18, Tryd.ntmps18
  go_wp2_with fail
  rw [← HW.out]
  refine GN.out.mono ?_
  rintro e w2 ⟨nv, q, rfl, hq, o2, b2⟩
  obtain ⟨NA, nc, rfl, _, _⟩ := own_form o2
  have HQ := Lib.hid hq
  have B12 := Lib.hid b2
  have O2 := Lib.hid o2
  have K1 := Lib.hid (KK.out.1.below b2 KK.out.1.lt)
  have K2 := Lib.hid (KK.out.2.below b2 KK.out.2.lt)
  have B2 := Lib.hid (B1.out.trans (b2.mono B1.out.size))
  clear hq o2 b2 c0 c1
  have x0 := K1.out.cell 0
  have x1 := K1.out.cell 1
  simp at x0 x1
  go_wp2_with fail
  refine (ST.out w2 B2.out).mono ?_
  rintro e w3 ⟨rfl, b3⟩
  have K13 := Lib.hid (K1.out.below b3 K1.out.lt)
  have K23 := Lib.hid (K2.out.below b3 K2.out.lt)
  have B3 := Lib.hid (B2.out.trans (b3.mono B2.out.size))
  have O3 := Lib.hid (own_below O2.out b3)
  have hw3n : w.heap.size + 1 + 1 ≤ w3.heap.size := by have := B12.out.size; have := b3.size; omega
  clear x0 x1 b3
  have x0 := K13.out.cell 0
  have x1 := K13.out.cell 1
  simp at x0 x1
  have y0 := K23.out.cell 0
  have y1 := K23.out.cell 1
  have y0f := K23.out.frozen 0
  have y1f := K23.out.frozen 1
  simp at y0 y1
  cases u
  · have HNO := HL.out.no (by unfold grpBase; rw [HU.out]; rfl)
    have RS := Lib.hid (res_store B3.out K23.out (by omega) (.slice none 0 0) (.slice none 0 0))
    go_wp2_with fail
    obtain ⟨r0, r1, rb, _⟩ := RS.out
    obtain ⟨rfl, rfl, rfl⟩ := HNO
    clear RS y0 y1 y0f y1f
    generalize ((w3.setCell ⟨w.heap.size + 1, 0, none⟩ (.slice none 0 0)).setCell ⟨w.heap.size + 1, 1, none⟩ (.slice none 0 0)) = w6 at r0 r1 rb ⊢
    exact bodyPost_ret (v := .tuple #[.agg #[.slice none 0 0, .slice none 0 0], .bool false]) (by simp [results, Tryd.results18, go_sem, r0, r1]) rfl (TabO.nilRes rb)
  · cases q
    · have HNO := Lib.hid (show ok = false ∧ N = [] ∧ R = [] from by
        by_cases hb : grpBase names rows g s = true
        · refine HL.out.no2 (Classical.byContradiction fun hn => ?_)
          unfold grpBase at hb
          rw [Bool.and_eq_true] at hb
          exact absurd (HQ.out.2 ⟨hb.2, hn⟩) (by simp)
        · exact HL.out.no (by simpa using hb))
      have RS := Lib.hid (res_store B3.out K23.out (by omega) (.slice none 0 0) (.slice none 0 0))
      go_wp2_with fail
      obtain ⟨r0, r1, rb, _⟩ := RS.out
      obtain ⟨rfl, rfl, rfl⟩ := HNO.out
      clear RS y0 y1 y0f y1f
      generalize ((w3.setCell ⟨w.heap.size + 1, 0, none⟩ (.slice none 0 0)).setCell ⟨w.heap.size + 1, 1, none⟩ (.slice none 0 0)) = w6 at r0 r1 rb ⊢
      exact bodyPost_ret (v := .tuple #[.agg #[.slice none 0 0, .slice none 0 0], .bool false]) (by simp [results, Tryd.results18, go_sem, r0, r1]) rfl (TabO.nilRes rb)
    · have hq := HQ.out.1 rfl
      have HBASE := Lib.hid (show grpBase names rows g s = true by unfold grpBase; rw [HU.out, hq.1]; rfl)
      have hall : ∀ y ∈ [g, s], hasW names y = true := by
        have h := hq.1
        rw [Bool.and_eq_true] at h
        intro y hy
        simp only [List.mem_cons, List.not_mem_nil, or_false] at hy
        rcases hy with rfl | rfl
        · exact h.1
        · exact h.2
      have TK2 := Lib.hid (TK.out (w3.alloc (.cells #[.string g, .string s] 9)) (B3.out.alloc B3.out.size _) (some ⟨w3.heap.size, 0, none⟩) (Reads.of_own (own_lit2 w3 w3.heap.size 9 (stCells [g, s]) (Nat.le_refl _) (by unfold maxLen; simp [stCells]))) (fun r hr => (rows_len HU.out hr).trans HN.out) hall)
      have x0' := fun o => (World.cell?_alloc_some w3 ⟨w.heap.size, 0, none⟩ o (by rw [x0]; rfl)).trans x0
      have x1' := fun o => (World.cell?_alloc_some w3 ⟨w.heap.size, 1, none⟩ o (by rw [x1]; rfl)).trans x1
      clear hq hall HQ y0 y1 y0f y1f
      go_wp2_with fail
      clear x0 x1 x0' x1'
      refine TK2.out.mono ?_
      rintro e w4 ⟨v4, rfl, o4, b4⟩
      have ba : Below w3.heap.size w3 (w3.alloc (.cells #[.string g, .string s] 9)) := (Below.refl _ _).alloc (Nat.le_refl _) _
      have b34 := ba.trans (b4.mono ba.size)
      have SO := Lib.hid (sortO_any _ _ v4 _ w4 o4 (by rw [List.length_map]; have := HM.out; omega) (fun r hr => by
        obtain ⟨row, _, rfl⟩ := List.mem_map.1 hr
        rw [pair_is]; simp))
      have hs34 := b34.size
      have K14 := K13.out.below b34 K13.out.lt
      have K24 := K23.out.below b34 K23.out.lt
      have B4 := B3.out.trans (b34.mono B3.out.size)
      have O4 := own_below O3.out b34
      have hsa : (w3.alloc (.cells #[.string g, .string s] 9)).heap.size = w3.heap.size + 1 := by simp
      have hO3 := O3.out.lt
      clear TK2 b4 ba
      have KEEP := Lib.hid (And.intro K14 (And.intro K24 (And.intro B4 (And.intro O4 b34))))
      clear K14 K24 B4 O4 b34
      go_wp2_with fail
      refine SO.out.mono ?_
      rintro e w5 ⟨rfl, PA, pc, S, e4, hperm, hsort, hPR, t5⟩
      have hlen : (rows.map (projRow names [g, s])).length = m := by rw [List.length_map]; exact HM.out
      rw [hlen] at e4 hPR
      subst e4
      obtain ⟨K14, K24, B4, O4, b34⟩ := KEEP.out
      have hs34 := b34.size
      rw [hsa] at t5
      have K15 := Lib.hid (t5.blk K14 (Or.inl (by omega)))
      have K25 := Lib.hid (t5.blk K24 (Or.inl (by omega)))
      have B5 := Lib.hid (t5.below B4 (by omega))
      have O5 := t5.own O4 (fun g' e => Or.inl (by have := hO3 g' e; omega))
      have START := Lib.hid (halfZ_at O5 (show [g, countB, totalB].length = 3 from rfl))
      have hSL : S.length = m := by rw [hperm.length_eq]; exact hlen
      have HPP : ∀ p ∈ S, ∃ a b : Int, p = [a, b] ∧ -100000 ≤ b ∧ b ≤ 100000 ∧ -100000 ≤ a ∧ a ≤ 100000 := fun p hp => grp_pair HBASE.out (hperm.mem_iff.1 hp)
      have HVB : ∀ p ∈ S, -100000 ≤ valOf p ∧ valOf p ≤ 100000 := fun p hp => by
        obtain ⟨a, b, rfl, h1, h2, _⟩ := HPP p hp
        exact ⟨h1, h2⟩
      have HSORT := Lib.hid (fun (k : Nat) (a b : Int) (hk : S[k]? = some [a, b]) => show ∀ p ∈ S.take k, keyOf p ≤ a from fun p hp => by
        obtain ⟨j, hj, rfl⟩ := List.getElem_of_mem hp
        rw [List.length_take] at hj
        rw [List.getElem_take]
        obtain ⟨x, y, e, _⟩ := HPP (S[j]'(by omega)) (List.getElem_mem _)
        have h := hsort j k _ _ (by omega) (List.getElem?_eq_getElem (by omega)) hk
        rw [e] at h ⊢
        exact cmpL_key (a := [x, y]) (b := [a, b]) rfl rfl (by first | exact h | exact Int.not_lt.2 h))
      have HF := Lib.hid (And.intro hSL (And.intro HPP (And.intro HVB hperm)))
      have HPR := Lib.hid hPR
      have hm16 := (table_bd HU.out).2.2.1
      rw [HM.out] at hm16
      have hs5 : w.heap.size + 1 + 1 ≤ w5.heap.size := by have := t5.size; omega
      clear K14 K24 B4 O4 b34 KEEP SO hSL HPP HVB hperm hsort hPR t5 O5 hlen hO3 hsa hs34
      go_wp2_with fail
      go_loopw [13, 14, 45] (fun _ _ kv wr => ∃ (k : Nat) (vs : List Value) (ov : Value) (G : List (List Int)), k ≤ m ∧ kv = .int .i64 k ∧ Hid (HalfZ w5 wr w1.heap.size w5.heap.size (w5.heap.size + 1) 26 #[.slice NA 3 nc, ov] (.slice NA 3 nc) ov [g, countB, totalB] vs G) ∧ Hid (GroupR (S.take k) G)) (fun _ _ kv _ => m - (intOf kv).toNat)
      case atStart => exact ⟨0, [], _, [], Nat.zero_le _, rfl, START, by rw [List.take_zero]; exact Lib.hid GroupR.nil⟩
      case round =>
        clear START
        obtain ⟨k, vs, ov, G, hk, rfl, hh, hG⟩ := hrel
        have hk0 : (0 : Int) ≤ (k : Int) := Int.natCast_nonneg _
        obtain ⟨q, hq⟩ : ∃ q, G.length = q := ⟨_, rfl⟩
        obtain ⟨A9, c9, e9, hqc, _, _⟩ := hh.out.rows.form
        rw [hq] at e9 hqc
        subst e9
        have hq16 : q ≤ 16 := by have := hG.out.len; rw [List.length_take] at this; omega
        by_cases hlt : k < m
        · have hk1 : (k : Int) < (m : Int) := by omega
          obtain ⟨pd, p, Pk, pck, rfl, hpb, hpk, e1, pg1, pg2, pg3, prr⟩ := (HPR.out.belowW (Nat.le_refl _) hh.out.below).at_ hlt
          obtain ⟨a, b, rfl, hb1, hb2, ha1, ha2⟩ := HF.out.2.1 p (List.mem_of_getElem? hpk)
          obtain ⟨pr, rfl, hprb, p0⟩ := in_cell (k := 0) (x := a) prr rfl rfl
          obtain ⟨pr', ep, _, p1⟩ := in_cell (k := 1) (x := b) prr rfl rfl
          obtain rfl := Option.some.inj ep
          have e1' : wr.cell? (pd.add k) = some (.slice (some pr) 2 pck) := e1
          have pg1' : 2 ≤ pck := pg1
          have x3 := hh.out.blk.cell 1
          simp at x3
          have HPK := Lib.hid hpk
          have hsk := Lib.hid (HSORT.out k a b hpk)
          have HRR := Lib.hid (And.intro hprb (And.intro p0 p1))
          clear e1 pg1 pg3 prr ep hpk p0 p1
          have P0 := Lib.hid (fun (W : World) (hW : Below w5.heap.size w5 W) => show W.cell? pr = some (.int .i64 a) from (hW.cell HRR.out.1).trans ((hh.out.below.cell HRR.out.1).symm.trans HRR.out.2.1))
          have P1 := Lib.hid (fun (W : World) (hW : Below w5.heap.size w5 W) => show W.cell? ⟨pr.block, pr.off + 1, none⟩ = some (.int .i64 b) from (hW.cell (p := pr.add 1) (by rw [block_of_add]; exact HRR.out.1)).trans ((hh.out.below.cell (by rw [block_of_add]; exact HRR.out.1)).symm.trans HRR.out.2.2))
          rcases Nat.eq_zero_or_pos q with hqz | hqp
          · have hneg : (q : Int) - 1 < 0 := by omega
            have HGM := Lib.hid (hG.out.last_miss HPK.out hsk.out (fun r hr => by rw [List.getElem?_eq_none (by omega)] at hr; cases hr))
            rw [hq] at HGM
            clear hqz
            go_wp2_with fail
            go_quiet (fail)
            go_wp2_with fail
            have bq : Below wr.heap.size wr (wr.drewN nq) := below_drewN' (Below.refl _ _) nq
            have HH := Lib.hid (hh.out.go bq)
            clear x3 bq
            generalize wr.drewN nq = wq at HH ⊢
            have x3 := HH.out.blk.cell 1
            simp at x3
            have p0q : wq.cell? pr = some (.int .i64 a) := P0.out wq HH.out.below
            have OW := Lib.hid (show wq.ownsRow (w5.heap.size + 1) 40 1 (.slice A9 q c9) q vs by have h := HH.out.rows.own; rw [hq] at h; exact h)
            have KEEP := Lib.hid (fun (w' : World) (h : Below wq.heap.size wq w') => show w'.cell? ⟨w5.heap.size, 1, none⟩ = some (.slice A9 q c9) ∧ w'.cell? pr = some (.int .i64 a) from ⟨below_keep h x3, below_keep h p0q⟩)
            have bd : Below wq.heap.size wq wq.drew := (Below.refl _ _).drew
            have HS := KEEP.out _ bd
            have hzz := HH.out.zs
            have htz := HH.out.tz
            have hTw := HH.out.blk.lt
            refine wp_region_noPanic ?_
            refine wp_region_K (by kernel_rfl) (fun w' => w'.cell? ⟨w5.heap.size, 1, none⟩ = some (.slice A9 q c9) ∧ w'.cell? pr = some (.int .i64 a)) 9 ?_
            refine atK_take (i := 0) rfl (by kernel_rfl) (by kernel_rfl) (by kernel_rfl) (by kernel_rfl) (fun _ _ _ h => h) (by rfl) (by intro w hSw; (try dsimp only at hSw); go_split_ands; first | (go_simp; done) | (go_simp; with_reducible rfl)) HS ?_
            simp only [List.getElem_toArray, List.getElem_cons_zero, List.getElem_cons_succ, Act.put, List.setIfInBounds_toArray, List.set_cons_zero, List.set_cons_succ]
            refine atK_take (i := 1) rfl (by kernel_rfl) (by kernel_rfl) (by kernel_rfl) (by kernel_rfl) (fun _ _ _ h => h) (by rfl) (by intro w hSw; (try dsimp only at hSw); go_split_ands; first | (go_simp; done) | (go_simp; with_reducible rfl)) HS ?_
            simp only [List.getElem_toArray, List.getElem_cons_zero, List.getElem_cons_succ, Act.put, List.setIfInBounds_toArray, List.set_cons_zero, List.set_cons_succ]
            refine atK_take (i := 2) rfl (by kernel_rfl) (by kernel_rfl) (by kernel_rfl) (by kernel_rfl) (fun _ _ _ h => h) (by rfl) (by intro w hSw; (try dsimp only at hSw); go_split_ands; first | (go_simp; done) | (go_simp; with_reducible rfl)) HS ?_
            simp only [List.getElem_toArray, List.getElem_cons_zero, List.getElem_cons_succ, Act.put, List.setIfInBounds_toArray, List.set_cons_zero, List.set_cons_succ]
            refine atK_take (i := 3) rfl (by kernel_rfl) (by kernel_rfl) (by kernel_rfl) (by kernel_rfl) (fun _ _ _ h => h) (by rfl) (by intro w hSw; (try dsimp only at hSw); go_split_ands; first | (go_simp; done) | (go_simp; with_reducible rfl)) HS ?_
            simp only [List.getElem_toArray, List.getElem_cons_zero, List.getElem_cons_succ, Act.put, List.setIfInBounds_toArray, List.set_cons_zero, List.set_cons_succ]
            refine atK_take (i := 4) rfl (by kernel_rfl) (by kernel_rfl) (by kernel_rfl) (by kernel_rfl) (fun _ _ _ h => h) (by rfl) (by intro w hSw; (try dsimp only at hSw); go_split_ands; first | (go_simp; done) | (go_simp; with_reducible rfl)) HS ?_
            simp only [List.getElem_toArray, List.getElem_cons_zero, List.getElem_cons_succ, Act.put, List.setIfInBounds_toArray, List.set_cons_zero, List.set_cons_succ]
            refine atK_one (i := 5) (by kernel_rfl) rfl (fun K' hK => ?_)
            rw [if_pos (by rfl)]
            go_simp
            have b5' : Below wq.heap.size wq (wq.alloc (.cells #[.int .i64 a, .int .i64 0, .int .i64 0] 3)).drew := ((Below.refl _ _).alloc (Nat.le_refl _) _).drew
            have OU := Lib.hid (own_lit2 wq wq.heap.size 3 (inCells [a, 0, 0]) (Nat.le_refl _) (by unfold maxLen; simp [inCells])).drew
            refine hK.out _ _ (fun _ => KEEP.out _ b5') ?_
            clear hK K'
            try simp only [List.getElem_toArray, List.getElem_cons_zero, List.getElem_cons_succ, Act.put, List.setIfInBounds_toArray, List.set_cons_zero, List.set_cons_succ]
            refine atK_one (i := 6) (by kernel_rfl) rfl (fun K' hK => ?_)
            rw [if_pos (by rfl)]
            go_simp
            refine hK.out _ _ (fun _ => KEEP.out _ (b5'.alloc b5'.size _)) ?_
            clear hK K'
            try simp only [List.getElem_toArray, List.getElem_cons_zero, List.getElem_cons_succ, Act.put, List.setIfInBounds_toArray, List.set_cons_zero, List.set_cons_succ]
            refine atK_one (i := 7) (by kernel_rfl) rfl (fun K' hK => ?_)
            refine step_append_any _ (by rfl) (.tmp 69) (.tmp 74) 24 (by rfl) (w5.heap.size + 1) 40 j0 _ 1 24 Tryd.underlying24 hjI hjz0 hjz1 hjz2 (by rfl) (by decide) _ q vs (by rfl) ((own_below OW.out b5').alloc _) (wq.heap.size + 1 + 1) (some ⟨wq.heap.size + 1, 0, none⟩) 1 1 [.slice (some ⟨wq.heap.size, 0, none⟩) 3 3] (by rfl) ⟨rfl, fun _ => ⟨_, rfl, (show wq.heap.size + 1 < _ by omega), fun j u hu => by
              have h := cells_new (wq.alloc (.cells #[.int .i64 a, .int .i64 0, .int .i64 0] 3)) 40 [.slice (some ⟨wq.heap.size, 0, none⟩) 3 3] j u hu
              rw [World.size_alloc] at h
              exact h⟩⟩ (oneCells rfl) (by unfold maxLen; omega) (by omega) (by have := b5'.size; simp; omega) ?_
            intro v7 w7 ho7 hg7 hd7
            obtain ⟨q1, hq1⟩ : ∃ q1, q1 = q + 1 := ⟨_, rfl⟩
            have HQ1 := Lib.hid hq1
            have hql : (G ++ [[a, 0, 0]]).length = q1 := by rw [List.length_append, hq, hq1]; rfl
            have PU := Lib.hid (HH.out.push (r := [a, 0, 0]) OU.out b5' (by rw [hq]; exact ho7) hg7 hd7)
            rw [← hq1] at ho7
            have hqq1 : (q : Int) < (q1 : Int) := by omega
            have hqq2 : q < q1 := by omega
            have hqq0 : (0 : Int) ≤ (q : Int) := Int.natCast_nonneg _
            clear hq1
            obtain ⟨A7, c7, rfl, _, _⟩ := own_form ho7
            have F7 := ((HH.out.go b5').blk.alloc (.cells #[.slice (some ⟨wq.heap.size, 0, none⟩) 3 3] 40)).grown hg7 (fun e => by have := HH.out.rvge _ e.symm; omega)
            have F7c := F7.cell 1
            have F7f := F7.frozen 1
            simp at F7c
            have hprb5 := HRR.out.1
            have HS7 : w7.cell? ⟨w5.heap.size, 1, none⟩ = some (.slice A9 q c9) ∧ w7.cell? pr = some (.int .i64 a) := by
              refine ⟨F7c, ?_⟩
              have hlt0 : pr.block < wq.heap.size := by omega
              have hlt1 : pr.block < ((wq.alloc (.cells #[.int .i64 a, .int .i64 0, .int .i64 0] 3)).drew).heap.size := Nat.lt_of_lt_of_le hlt0 b5'.size
              refine (World.cell?_of_block ((hg7.block _ (Nat.lt_of_lt_of_le hlt1 (by simp)) (fun e => by have := HH.out.rvge _ e.symm; omega)).trans ((Below.heap_alloc _ _ _ hlt1).trans (b5'.block _ hlt0)))).trans p0q
            refine hK.out _ _ (fun _ => HS7) ?_
            clear hK K' hg7 hd7
            try simp only [List.getElem_toArray, List.getElem_cons_zero, List.getElem_cons_succ, Act.put, List.setIfInBounds_toArray, List.set_cons_zero, List.set_cons_succ]
            refine atK_take (i := 8) rfl (by kernel_rfl) (by kernel_rfl) (by kernel_rfl) (by kernel_rfl) (fun _ _ _ h => h) (by rfl) (by intro w hSw; (try dsimp only at hSw); go_split_ands; first | (go_simp; done) | (go_simp; with_reducible rfl)) HS7 ?_
            simp only [List.getElem_toArray, List.getElem_cons_zero, List.getElem_cons_succ, Act.put, List.setIfInBounds_toArray, List.set_cons_zero, List.set_cons_succ]
            refine atK_one (i := 9) (by kernel_rfl) rfl (fun K' hK => ?_)
            rw [if_pos (by rfl)]
            go_simp
            refine hK.out _ _ (fun h => absurd rfl h) ?_
            clear hK K'
            try simp only [List.getElem_toArray, List.getElem_cons_zero, List.getElem_cons_succ, Act.put, List.setIfInBounds_toArray, List.set_cons_zero, List.set_cons_succ]
            refine atK_done (by kernel_rfl) ?_ _
            refine NoPanic.normal ?_
            have HHT := Lib.hid PU.out
            clear PU F7 F7c F7f HS7 HS x3 p0q ho7
            simp only [Array.setIfInBounds] at HHT
            generalize hw8 : w7.setCell ⟨w5.heap.size, 1, none⟩ (.slice A7 q1 c7) = w8 at HHT ⊢
            clear hw8
            have hrT : (G ++ [[a, 0, 0]])[q]? = some [a, 0, 0] := by rw [← hq, List.getElem?_append_right (Nat.le_refl _), Nat.sub_self]; rfl
            obtain ⟨c0, hc0⟩ : ∃ c : Int, c = 0 := ⟨_, rfl⟩
            obtain ⟨t0, ht0⟩ : ∃ c : Int, c = 0 := ⟨_, rfl⟩
            have HRT := Lib.hid (show (G ++ [[a, 0, 0]])[q]? = some [a, c0, t0] by rw [hc0, ht0]; exact hrT)
            have HGT := Lib.hid (show GroupR (S.take (k + 1)) ((G ++ [[a, 0, 0]]).set q [a, c0 + 1, t0 + b]) by rw [hc0, ht0]; exact HGM.out)
            have hc1 : 0 ≤ c0 := by omega
            have hc2 : c0 ≤ 16 := by omega
            have ht1 : -1600000 ≤ t0 := by omega
            have ht2 : t0 ≤ 1600000 := by omega
            clear hc0 ht0 hrT HGM
            obtain ⟨gR, gb, cb, eA, hu, f0, f1, f2, f3, f4, f5, hz1, hz2, hne, hl1, hl2⟩ := HHT.out.at3 hql HRT.out
            (first | subst eA | (simp only [Option.some.injEq, Addr.mk.injEq, and_true] at eA; subst eA))
            have x3 := HHT.out.blk.cell 1
            simp at x3
            have H1 := Lib.hid (HHT.out.put (j := 1) hu HRT.out (c0 + 1))
            have hwc : IntKind.i64.wrap (c0 + 1) = c0 + 1 := IntWalk.i64_in _ (by omega)
            go_wp2_with fail
            have hr1 : ((G ++ [[a, 0, 0]]).set q [a, c0 + 1, t0])[q]? = some [a, c0 + 1, t0] := List.getElem?_set_self (by rw [hql]; omega)
            have H1' : Hid (HalfZ w5 (w8.setCell ⟨gb, 1, none⟩ (.int .i64 (c0 + 1))).drew w1.heap.size w5.heap.size (w5.heap.size + 1) 26 _ (.slice NA 3 nc) _ [g, countB, totalB] (vs ++ [.slice (some ⟨wq.heap.size, 0, none⟩) 3 3]) ((G ++ [[a, 0, 0]]).set q [a, c0 + 1, t0])) := Lib.hid H1.out.drew
            have hl1s : ((G ++ [[a, 0, 0]]).set q [a, c0 + 1, t0]).length = q1 := by rw [List.length_set]; exact hql
            clear x3 f0 f1 f2 f3 f4 f5 hne hl1 hl2 hz1 hz2 H1 hwc
            have hws : (w8.setCell ⟨gb, 1, none⟩ (.int .i64 (c0 + 1))).heap.size = w8.heap.size := by simp [World.setCell]
            generalize w8.setCell ⟨gb, 1, none⟩ (.int .i64 (c0 + 1)) = w9 at H1' hws ⊢
            obtain ⟨gR', gb', cb', eA, hu1, f0, f1, f2, f3, f4, f5, hz1, hz2, hne, hl1, hl2⟩ := H1'.out.at3 hl1s hr1
            simp only [Option.some.injEq, Addr.mk.injEq, and_true] at eA
            obtain rfl := eA
            have x3 := H1'.out.blk.cell 1
            simp at x3
            have p1q : w9.drew.cell? ⟨pr.block, pr.off + 1, none⟩ = some (.int .i64 b) := P1.out _ H1'.out.below
            have hwc : IntKind.i64.wrap (t0 + b) = t0 + b := IntWalk.i64_in _ (by omega)
            have H2 := Lib.hid (H1'.out.put (j := 2) hu1 hr1 (t0 + b))
            have HS : w9.drew.cell? ⟨w5.heap.size, 1, none⟩ = some (.slice (some ⟨gR, 0, none⟩) q1 c7) ∧ w9.drew.cell? ⟨gR, q, none⟩ = some (.slice (some ⟨gb', 0, none⟩) 3 cb') ∧ w9.drew.cell? ⟨gb', 2, none⟩ = some (.int .i64 t0) ∧ w9.drew.cell? ⟨pr.block, pr.off + 1, none⟩ = some (.int .i64 b) := ⟨x3, f0, f3, p1q⟩
            refine wp_region_noPanic ?_
            refine wp_region_K (by kernel_rfl) (fun w' => w'.cell? ⟨w5.heap.size, 1, none⟩ = some (.slice (some ⟨gR, 0, none⟩) q1 c7) ∧ w'.cell? ⟨gR, q, none⟩ = some (.slice (some ⟨gb', 0, none⟩) 3 cb') ∧ w'.cell? ⟨gb', 2, none⟩ = some (.int .i64 t0) ∧ w'.cell? ⟨pr.block, pr.off + 1, none⟩ = some (.int .i64 b)) 12 ?_
            refine atK_take (i := 0) rfl (by kernel_rfl) (by kernel_rfl) (by kernel_rfl) (by kernel_rfl) (fun _ _ _ h => h) (by rfl) (by intro w hSw; (try dsimp only at hSw); go_split_ands; first | (go_simp; done) | (go_simp; with_reducible rfl)) HS ?_
            simp only [List.getElem_toArray, List.getElem_cons_zero, List.getElem_cons_succ, Act.put, List.setIfInBounds_toArray, List.set_cons_zero, List.set_cons_succ]
            refine atK_take (i := 1) rfl (by kernel_rfl) (by kernel_rfl) (by kernel_rfl) (by kernel_rfl) (fun _ _ _ h => h) (by rfl) (by intro w hSw; (try dsimp only at hSw); go_split_ands; first | (go_simp; done) | (go_simp; with_reducible rfl)) HS ?_
            simp only [List.getElem_toArray, List.getElem_cons_zero, List.getElem_cons_succ, Act.put, List.setIfInBounds_toArray, List.set_cons_zero, List.set_cons_succ]
            refine atK_take (i := 2) rfl (by kernel_rfl) (by kernel_rfl) (by kernel_rfl) (by kernel_rfl) (fun _ _ _ h => h) (by rfl) (by intro w hSw; (try dsimp only at hSw); go_split_ands; first | (go_simp; done) | (go_simp; with_reducible rfl)) HS ?_
            simp only [List.getElem_toArray, List.getElem_cons_zero, List.getElem_cons_succ, Act.put, List.setIfInBounds_toArray, List.set_cons_zero, List.set_cons_succ]
            refine atK_take (i := 3) rfl (by kernel_rfl) (by kernel_rfl) (by kernel_rfl) (by kernel_rfl) (fun _ _ _ h => h) (by rfl) (by intro w hSw; (try dsimp only at hSw); go_split_ands; first | (go_simp; done) | (go_simp; with_reducible rfl)) HS ?_
            simp only [List.getElem_toArray, List.getElem_cons_zero, List.getElem_cons_succ, Act.put, List.setIfInBounds_toArray, List.set_cons_zero, List.set_cons_succ]
            refine atK_take (i := 4) rfl (by kernel_rfl) (by kernel_rfl) (by kernel_rfl) (by kernel_rfl) (fun _ _ _ h => h) (by rfl) (by intro w hSw; (try dsimp only at hSw); go_split_ands; first | (go_simp; done) | (go_simp; with_reducible rfl)) HS ?_
            simp only [List.getElem_toArray, List.getElem_cons_zero, List.getElem_cons_succ, Act.put, List.setIfInBounds_toArray, List.set_cons_zero, List.set_cons_succ]
            refine atK_take (i := 5) rfl (by kernel_rfl) (by kernel_rfl) (by kernel_rfl) (by kernel_rfl) (fun _ _ _ h => h) (by rfl) (by intro w hSw; (try dsimp only at hSw); go_split_ands; first | (go_simp; done) | (go_simp; with_reducible rfl)) HS ?_
            simp only [List.getElem_toArray, List.getElem_cons_zero, List.getElem_cons_succ, Act.put, List.setIfInBounds_toArray, List.set_cons_zero, List.set_cons_succ]
            refine atK_take (i := 6) rfl (by kernel_rfl) (by kernel_rfl) (by kernel_rfl) (by kernel_rfl) (fun _ _ _ h => h) (by rfl) (by intro w hSw; (try dsimp only at hSw); go_split_ands; first | (go_simp; done) | (go_simp; with_reducible rfl)) HS ?_
            simp only [List.getElem_toArray, List.getElem_cons_zero, List.getElem_cons_succ, Act.put, List.setIfInBounds_toArray, List.set_cons_zero, List.set_cons_succ]
            refine atK_take (i := 7) rfl (by kernel_rfl) (by kernel_rfl) (by kernel_rfl) (by kernel_rfl) (fun _ _ _ h => h) (by rfl) (by intro w hSw; (try dsimp only at hSw); go_split_ands; first | (go_simp; done) | (go_simp; with_reducible rfl)) HS ?_
            simp only [List.getElem_toArray, List.getElem_cons_zero, List.getElem_cons_succ, Act.put, List.setIfInBounds_toArray, List.set_cons_zero, List.set_cons_succ]
            refine atK_take (i := 8) rfl (by kernel_rfl) (by kernel_rfl) (by kernel_rfl) (by kernel_rfl) (fun _ _ _ h => h) (by rfl) (by intro w hSw; (try dsimp only at hSw); go_split_ands; first | (go_simp; done) | (go_simp; with_reducible rfl)) HS ?_
            simp only [List.getElem_toArray, List.getElem_cons_zero, List.getElem_cons_succ, Act.put, List.setIfInBounds_toArray, List.set_cons_zero, List.set_cons_succ]
            refine atK_take (i := 9) rfl (by kernel_rfl) (by kernel_rfl) (by kernel_rfl) (by kernel_rfl) (fun _ _ _ h => h) (by rfl) (by intro w hSw; (try dsimp only at hSw); go_split_ands; first | (go_simp; done) | (go_simp; with_reducible rfl)) HS ?_
            simp only [List.getElem_toArray, List.getElem_cons_zero, List.getElem_cons_succ, Act.put, List.setIfInBounds_toArray, List.set_cons_zero, List.set_cons_succ]
            refine atK_take (i := 10) rfl (by kernel_rfl) (by kernel_rfl) (by kernel_rfl) (by kernel_rfl) (fun _ _ _ h => h) (by rfl) (by intro w hSw; (try dsimp only at hSw); go_split_ands; first | (go_simp; done) | (go_simp; with_reducible rfl)) HS ?_
            simp only [List.getElem_toArray, List.getElem_cons_zero, List.getElem_cons_succ, Act.put, List.setIfInBounds_toArray, List.set_cons_zero, List.set_cons_succ]
            refine atK_take (i := 11) rfl (by kernel_rfl) (by kernel_rfl) (by kernel_rfl) (by kernel_rfl) (fun _ _ _ h => h) (by rfl) (by intro w hSw; (try dsimp only at hSw); go_split_ands; first | (go_simp; done) | (go_simp; with_reducible rfl)) HS ?_
            simp only [List.getElem_toArray, List.getElem_cons_zero, List.getElem_cons_succ, Act.put, List.setIfInBounds_toArray, List.set_cons_zero, List.set_cons_succ]
            refine atK_one (i := 12) (by kernel_rfl) rfl (fun K' hK => ?_)
            rw [if_pos (by rfl)]
            go_simp
            refine hK.out _ _ (fun h => absurd rfl h) ?_
            clear hK K'
            try simp only [List.getElem_toArray, List.getElem_cons_zero, List.getElem_cons_succ, Act.put, List.setIfInBounds_toArray, List.set_cons_zero, List.set_cons_succ]
            refine atK_done (by kernel_rfl) ?_ _
            refine NoPanic.normal ?_
            have H3 := H2.out
            rw [List.set_set] at H3
            have HH3 := Lib.hid H3
            clear H3 H2 f0 f1 f2 f3 f4 f5 hz1 hz2 hne hl1 hl2 x3 p1q HS hwc
            go_wp2_with fail
            go_roundw
            case rel => exact ⟨k + 1, _, _, _, by omega, by go_num, HH3, HGT⟩
            case measure => simp [intOf]; omega
          · obtain ⟨i, hqi⟩ : ∃ i, i + 1 = q := ⟨q - 1, by omega⟩
            obtain ⟨r, hr⟩ : ∃ r, G[i]? = some r := ⟨_, List.getElem?_eq_getElem (by omega)⟩
            obtain ⟨x, c0, t0, rfl, hc1, hc2, ht1, ht2⟩ := hG.out.row3 (by omega) HF.out.2.2.1 hr
            obtain ⟨gR, gb, cb, rfl, hu, f0, f1, f2, f3, f4, f5, hz1, hz2, hne, hl1, hl2⟩ := hh.out.at3 hq hr
            have HRU := Lib.hid (And.intro hr (And.intro hu hqi))
            have hi1 : (q : Int) - 1 = (i : Int) := by omega
            have hi0 : (0 : Int) ≤ (i : Int) := Int.natCast_nonneg _
            have hi2 : (i : Int) < (q : Int) := by omega
            have hi3 : i < q := by omega
            have hq0 : ¬ (i : Int) < 0 := by omega
            have p0' : wr.cell? pr = some (.int .i64 a) := HRR.out.2.1
            clear hr hu hqi hqp
            by_cases hx : x = a
            · subst hx
              have HGT := Lib.hid (hG.out.at_hit HPK.out HRU.out.1)
              go_wp2_with fail
              go_quiet (fail)
              clear f0 f1 f2 f3 f4 f5 hz1 hz2 hne hl1 hl2 p0'
              have bq : Below wr.heap.size wr (wr.drewN nq) := below_drewN' (Below.refl _ _) nq
              have HH := Lib.hid (hh.out.go bq)
              clear x3 bq
              generalize wr.drewN nq = wq at HH ⊢
              obtain ⟨gR, gb, cb, eA, hu, f0, f1, f2, f3, f4, f5, hz1, hz2, hne, hl1, hl2⟩ := HH.out.at3 hq HRU.out.1
              (first | subst eA | (simp only [Option.some.injEq, Addr.mk.injEq, and_true] at eA; subst eA))
              have x3 := HH.out.blk.cell 1
              simp at x3
              have H1 := Lib.hid (HH.out.put (j := 1) hu HRU.out.1 (c0 + 1))
              have hwc : IntKind.i64.wrap (c0 + 1) = c0 + 1 := IntWalk.i64_in _ (by omega)
              go_wp2_with fail
              have hr1 : (G.set i [x, c0 + 1, t0])[i]? = some [x, c0 + 1, t0] := List.getElem?_set_self (by rw [hq]; omega)
              have H1' : Hid (HalfZ w5 (wq.setCell ⟨gb, 1, none⟩ (.int .i64 (c0 + 1))).drew w1.heap.size w5.heap.size (w5.heap.size + 1) 26 _ (.slice NA 3 nc) _ [g, countB, totalB] vs (G.set i [x, c0 + 1, t0])) := Lib.hid H1.out.drew
              have hl1s : (G.set i [x, c0 + 1, t0]).length = q := by rw [List.length_set]; exact hq
              clear x3 f0 f1 f2 f3 f4 f5 hne hl1 hl2 hz1 hz2 H1 hwc
              have hws : (wq.setCell ⟨gb, 1, none⟩ (.int .i64 (c0 + 1))).heap.size = wq.heap.size := by simp [World.setCell]
              generalize wq.setCell ⟨gb, 1, none⟩ (.int .i64 (c0 + 1)) = w9 at H1' hws ⊢
              obtain ⟨gR', gb', cb', eA, hu1, f0, f1, f2, f3, f4, f5, hz1, hz2, hne, hl1, hl2⟩ := H1'.out.at3 hl1s hr1
              simp only [Option.some.injEq, Addr.mk.injEq, and_true] at eA
              obtain rfl := eA
              have x3 := H1'.out.blk.cell 1
              simp at x3
              have p1q : w9.drew.cell? ⟨pr.block, pr.off + 1, none⟩ = some (.int .i64 b) := P1.out _ H1'.out.below
              have hwc : IntKind.i64.wrap (t0 + b) = t0 + b := IntWalk.i64_in _ (by omega)
              have H2 := Lib.hid (H1'.out.put (j := 2) hu1 hr1 (t0 + b))
              have HS : w9.drew.cell? ⟨w5.heap.size, 1, none⟩ = some (.slice (some ⟨gR, 0, none⟩) q c9) ∧ w9.drew.cell? ⟨gR, i, none⟩ = some (.slice (some ⟨gb', 0, none⟩) 3 cb') ∧ w9.drew.cell? ⟨gb', 2, none⟩ = some (.int .i64 t0) ∧ w9.drew.cell? ⟨pr.block, pr.off + 1, none⟩ = some (.int .i64 b) := ⟨x3, f0, f3, p1q⟩
              refine wp_region_noPanic ?_
              refine wp_region_K (by kernel_rfl) (fun w' => w'.cell? ⟨w5.heap.size, 1, none⟩ = some (.slice (some ⟨gR, 0, none⟩) q c9) ∧ w'.cell? ⟨gR, i, none⟩ = some (.slice (some ⟨gb', 0, none⟩) 3 cb') ∧ w'.cell? ⟨gb', 2, none⟩ = some (.int .i64 t0) ∧ w'.cell? ⟨pr.block, pr.off + 1, none⟩ = some (.int .i64 b)) 12 ?_
              refine atK_take (i := 0) rfl (by kernel_rfl) (by kernel_rfl) (by kernel_rfl) (by kernel_rfl) (fun _ _ _ h => h) (by rfl) (by intro w hSw; (try dsimp only at hSw); go_split_ands; first | (go_simp; done) | (go_simp; with_reducible rfl)) HS ?_
              simp only [List.getElem_toArray, List.getElem_cons_zero, List.getElem_cons_succ, Act.put, List.setIfInBounds_toArray, List.set_cons_zero, List.set_cons_succ]
              refine atK_take (i := 1) rfl (by kernel_rfl) (by kernel_rfl) (by kernel_rfl) (by kernel_rfl) (fun _ _ _ h => h) (by rfl) (by intro w hSw; (try dsimp only at hSw); go_split_ands; first | (go_simp; done) | (go_simp; with_reducible rfl)) HS ?_
              simp only [List.getElem_toArray, List.getElem_cons_zero, List.getElem_cons_succ, Act.put, List.setIfInBounds_toArray, List.set_cons_zero, List.set_cons_succ]
              refine atK_take (i := 2) rfl (by kernel_rfl) (by kernel_rfl) (by kernel_rfl) (by kernel_rfl) (fun _ _ _ h => h) (by rfl) (by intro w hSw; (try dsimp only at hSw); go_split_ands; first | (go_simp; done) | (go_simp; with_reducible rfl)) HS ?_
              simp only [List.getElem_toArray, List.getElem_cons_zero, List.getElem_cons_succ, Act.put, List.setIfInBounds_toArray, List.set_cons_zero, List.set_cons_succ]
              refine atK_take (i := 3) rfl (by kernel_rfl) (by kernel_rfl) (by kernel_rfl) (by kernel_rfl) (fun _ _ _ h => h) (by rfl) (by intro w hSw; (try dsimp only at hSw); go_split_ands; first | (go_simp; done) | (go_simp; with_reducible rfl)) HS ?_
              simp only [List.getElem_toArray, List.getElem_cons_zero, List.getElem_cons_succ, Act.put, List.setIfInBounds_toArray, List.set_cons_zero, List.set_cons_succ]
              refine atK_take (i := 4) rfl (by kernel_rfl) (by kernel_rfl) (by kernel_rfl) (by kernel_rfl) (fun _ _ _ h => h) (by rfl) (by intro w hSw; (try dsimp only at hSw); go_split_ands; first | (go_simp; done) | (go_simp; with_reducible rfl)) HS ?_
              simp only [List.getElem_toArray, List.getElem_cons_zero, List.getElem_cons_succ, Act.put, List.setIfInBounds_toArray, List.set_cons_zero, List.set_cons_succ]
              refine atK_take (i := 5) rfl (by kernel_rfl) (by kernel_rfl) (by kernel_rfl) (by kernel_rfl) (fun _ _ _ h => h) (by rfl) (by intro w hSw; (try dsimp only at hSw); go_split_ands; first | (go_simp; done) | (go_simp; with_reducible rfl)) HS ?_
              simp only [List.getElem_toArray, List.getElem_cons_zero, List.getElem_cons_succ, Act.put, List.setIfInBounds_toArray, List.set_cons_zero, List.set_cons_succ]
              refine atK_take (i := 6) rfl (by kernel_rfl) (by kernel_rfl) (by kernel_rfl) (by kernel_rfl) (fun _ _ _ h => h) (by rfl) (by intro w hSw; (try dsimp only at hSw); go_split_ands; first | (go_simp; done) | (go_simp; with_reducible rfl)) HS ?_
              simp only [List.getElem_toArray, List.getElem_cons_zero, List.getElem_cons_succ, Act.put, List.setIfInBounds_toArray, List.set_cons_zero, List.set_cons_succ]
              refine atK_take (i := 7) rfl (by kernel_rfl) (by kernel_rfl) (by kernel_rfl) (by kernel_rfl) (fun _ _ _ h => h) (by rfl) (by intro w hSw; (try dsimp only at hSw); go_split_ands; first | (go_simp; done) | (go_simp; with_reducible rfl)) HS ?_
              simp only [List.getElem_toArray, List.getElem_cons_zero, List.getElem_cons_succ, Act.put, List.setIfInBounds_toArray, List.set_cons_zero, List.set_cons_succ]
              refine atK_take (i := 8) rfl (by kernel_rfl) (by kernel_rfl) (by kernel_rfl) (by kernel_rfl) (fun _ _ _ h => h) (by rfl) (by intro w hSw; (try dsimp only at hSw); go_split_ands; first | (go_simp; done) | (go_simp; with_reducible rfl)) HS ?_
              simp only [List.getElem_toArray, List.getElem_cons_zero, List.getElem_cons_succ, Act.put, List.setIfInBounds_toArray, List.set_cons_zero, List.set_cons_succ]
              refine atK_take (i := 9) rfl (by kernel_rfl) (by kernel_rfl) (by kernel_rfl) (by kernel_rfl) (fun _ _ _ h => h) (by rfl) (by intro w hSw; (try dsimp only at hSw); go_split_ands; first | (go_simp; done) | (go_simp; with_reducible rfl)) HS ?_
              simp only [List.getElem_toArray, List.getElem_cons_zero, List.getElem_cons_succ, Act.put, List.setIfInBounds_toArray, List.set_cons_zero, List.set_cons_succ]
              refine atK_take (i := 10) rfl (by kernel_rfl) (by kernel_rfl) (by kernel_rfl) (by kernel_rfl) (fun _ _ _ h => h) (by rfl) (by intro w hSw; (try dsimp only at hSw); go_split_ands; first | (go_simp; done) | (go_simp; with_reducible rfl)) HS ?_
              simp only [List.getElem_toArray, List.getElem_cons_zero, List.getElem_cons_succ, Act.put, List.setIfInBounds_toArray, List.set_cons_zero, List.set_cons_succ]
              refine atK_take (i := 11) rfl (by kernel_rfl) (by kernel_rfl) (by kernel_rfl) (by kernel_rfl) (fun _ _ _ h => h) (by rfl) (by intro w hSw; (try dsimp only at hSw); go_split_ands; first | (go_simp; done) | (go_simp; with_reducible rfl)) HS ?_
              simp only [List.getElem_toArray, List.getElem_cons_zero, List.getElem_cons_succ, Act.put, List.setIfInBounds_toArray, List.set_cons_zero, List.set_cons_succ]
              refine atK_one (i := 12) (by kernel_rfl) rfl (fun K' hK => ?_)
              rw [if_pos (by rfl)]
              go_simp
              refine hK.out _ _ (fun h => absurd rfl h) ?_
              clear hK K'
              try simp only [List.getElem_toArray, List.getElem_cons_zero, List.getElem_cons_succ, Act.put, List.setIfInBounds_toArray, List.set_cons_zero, List.set_cons_succ]
              refine atK_done (by kernel_rfl) ?_ _
              refine NoPanic.normal ?_
              have H3 := H2.out
              rw [List.set_set] at H3
              have HH3 := Lib.hid H3
              clear H3 H2 f0 f1 f2 f3 f4 f5 hz1 hz2 hne hl1 hl2 x3 p1q HS hwc
              go_wp2_with fail
              go_roundw
              case rel => exact ⟨k + 1, _, _, _, by omega, by go_num, HH3, HGT⟩
              case measure => simp [intOf]; omega
            · have HGM := Lib.hid (hG.out.last_miss HPK.out hsk.out (fun r hr => by
                have e : G.length - 1 = i := by have := HRU.out.2.2; omega
                rw [e, HRU.out.1] at hr
                obtain rfl := Option.some.inj hr
                exact hx))
              rw [hq] at HGM
              have hi4 : (i : Int) + 1 = (q : Int) := by have := HRU.out.2.2; omega
              have hxb : (x == a) = false := by simp [hx]
              have hxn : (x != a) = true := by simp [hx]
              go_wp2_with fail
              go_quiet (fail)
              go_wp2_with fail
              clear f0 f1 f2 f3 f4 f5 hz1 hz2 hne hl1 hl2 p0' hi1 hi2 hi3 hq0 hc1 hc2 ht1 ht2
              have bq : Below wr.heap.size wr (wr.drewN nq) := below_drewN' (Below.refl _ _) nq
              have HH := Lib.hid (hh.out.go bq)
              clear x3 bq
              generalize wr.drewN nq = wq at HH ⊢
              have x3 := HH.out.blk.cell 1
              simp at x3
              have p0q : wq.cell? pr = some (.int .i64 a) := P0.out wq HH.out.below
              have OW := Lib.hid (show wq.ownsRow (w5.heap.size + 1) 40 1 (.slice (some ⟨gR, 0, none⟩) q c9) q vs by have h := HH.out.rows.own; rw [hq] at h; exact h)
              have KEEP := Lib.hid (fun (w' : World) (h : Below wq.heap.size wq w') => show w'.cell? ⟨w5.heap.size, 1, none⟩ = some (.slice (some ⟨gR, 0, none⟩) q c9) ∧ w'.cell? pr = some (.int .i64 a) from ⟨below_keep h x3, below_keep h p0q⟩)
              have bd : Below wq.heap.size wq wq.drew := (Below.refl _ _).drew
              have HS := KEEP.out _ bd
              have hzz := HH.out.zs
              have htz := HH.out.tz
              have hTw := HH.out.blk.lt
              refine wp_region_noPanic ?_
              refine wp_region_K (by kernel_rfl) (fun w' => w'.cell? ⟨w5.heap.size, 1, none⟩ = some (.slice (some ⟨gR, 0, none⟩) q c9) ∧ w'.cell? pr = some (.int .i64 a)) 9 ?_
              refine atK_take (i := 0) rfl (by kernel_rfl) (by kernel_rfl) (by kernel_rfl) (by kernel_rfl) (fun _ _ _ h => h) (by rfl) (by intro w hSw; (try dsimp only at hSw); go_split_ands; first | (go_simp; done) | (go_simp; with_reducible rfl)) HS ?_
              simp only [List.getElem_toArray, List.getElem_cons_zero, List.getElem_cons_succ, Act.put, List.setIfInBounds_toArray, List.set_cons_zero, List.set_cons_succ]
              refine atK_take (i := 1) rfl (by kernel_rfl) (by kernel_rfl) (by kernel_rfl) (by kernel_rfl) (fun _ _ _ h => h) (by rfl) (by intro w hSw; (try dsimp only at hSw); go_split_ands; first | (go_simp; done) | (go_simp; with_reducible rfl)) HS ?_
              simp only [List.getElem_toArray, List.getElem_cons_zero, List.getElem_cons_succ, Act.put, List.setIfInBounds_toArray, List.set_cons_zero, List.set_cons_succ]
              refine atK_take (i := 2) rfl (by kernel_rfl) (by kernel_rfl) (by kernel_rfl) (by kernel_rfl) (fun _ _ _ h => h) (by rfl) (by intro w hSw; (try dsimp only at hSw); go_split_ands; first | (go_simp; done) | (go_simp; with_reducible rfl)) HS ?_
              simp only [List.getElem_toArray, List.getElem_cons_zero, List.getElem_cons_succ, Act.put, List.setIfInBounds_toArray, List.set_cons_zero, List.set_cons_succ]
              refine atK_take (i := 3) rfl (by kernel_rfl) (by kernel_rfl) (by kernel_rfl) (by kernel_rfl) (fun _ _ _ h => h) (by rfl) (by intro w hSw; (try dsimp only at hSw); go_split_ands; first | (go_simp; done) | (go_simp; with_reducible rfl)) HS ?_
              simp only [List.getElem_toArray, List.getElem_cons_zero, List.getElem_cons_succ, Act.put, List.setIfInBounds_toArray, List.set_cons_zero, List.set_cons_succ]
              refine atK_take (i := 4) rfl (by kernel_rfl) (by kernel_rfl) (by kernel_rfl) (by kernel_rfl) (fun _ _ _ h => h) (by rfl) (by intro w hSw; (try dsimp only at hSw); go_split_ands; first | (go_simp; done) | (go_simp; with_reducible rfl)) HS ?_
              simp only [List.getElem_toArray, List.getElem_cons_zero, List.getElem_cons_succ, Act.put, List.setIfInBounds_toArray, List.set_cons_zero, List.set_cons_succ]
              refine atK_one (i := 5) (by kernel_rfl) rfl (fun K' hK => ?_)
              rw [if_pos (by rfl)]
              go_simp
              have b5' : Below wq.heap.size wq (wq.alloc (.cells #[.int .i64 a, .int .i64 0, .int .i64 0] 3)).drew := ((Below.refl _ _).alloc (Nat.le_refl _) _).drew
              have OU := Lib.hid (own_lit2 wq wq.heap.size 3 (inCells [a, 0, 0]) (Nat.le_refl _) (by unfold maxLen; simp [inCells])).drew
              refine hK.out _ _ (fun _ => KEEP.out _ b5') ?_
              clear hK K'
              try simp only [List.getElem_toArray, List.getElem_cons_zero, List.getElem_cons_succ, Act.put, List.setIfInBounds_toArray, List.set_cons_zero, List.set_cons_succ]
              refine atK_one (i := 6) (by kernel_rfl) rfl (fun K' hK => ?_)
              rw [if_pos (by rfl)]
              go_simp
              refine hK.out _ _ (fun _ => KEEP.out _ (b5'.alloc b5'.size _)) ?_
              clear hK K'
              try simp only [List.getElem_toArray, List.getElem_cons_zero, List.getElem_cons_succ, Act.put, List.setIfInBounds_toArray, List.set_cons_zero, List.set_cons_succ]
              refine atK_one (i := 7) (by kernel_rfl) rfl (fun K' hK => ?_)
              refine step_append_any _ (by rfl) (.tmp 69) (.tmp 74) 24 (by rfl) (w5.heap.size + 1) 40 j0 _ 1 24 Tryd.underlying24 hjI hjz0 hjz1 hjz2 (by rfl) (by decide) _ q vs (by rfl) ((own_below OW.out b5').alloc _) (wq.heap.size + 1 + 1) (some ⟨wq.heap.size + 1, 0, none⟩) 1 1 [.slice (some ⟨wq.heap.size, 0, none⟩) 3 3] (by rfl) ⟨rfl, fun _ => ⟨_, rfl, (show wq.heap.size + 1 < _ by omega), fun j u hu => by
                have h := cells_new (wq.alloc (.cells #[.int .i64 a, .int .i64 0, .int .i64 0] 3)) 40 [.slice (some ⟨wq.heap.size, 0, none⟩) 3 3] j u hu
                rw [World.size_alloc] at h
                exact h⟩⟩ (oneCells rfl) (by unfold maxLen; omega) (by omega) (by have := b5'.size; simp; omega) ?_
              intro v7 w7 ho7 hg7 hd7
              obtain ⟨q1, hq1⟩ : ∃ q1, q1 = q + 1 := ⟨_, rfl⟩
              have HQ1 := Lib.hid hq1
              have hql : (G ++ [[a, 0, 0]]).length = q1 := by rw [List.length_append, hq, hq1]; rfl
              have PU := Lib.hid (HH.out.push (r := [a, 0, 0]) OU.out b5' (by rw [hq]; exact ho7) hg7 hd7)
              rw [← hq1] at ho7
              have hqq1 : (q : Int) < (q1 : Int) := by omega
              have hqq2 : q < q1 := by omega
              have hqq0 : (0 : Int) ≤ (q : Int) := Int.natCast_nonneg _
              clear hq1
              obtain ⟨A7, c7, rfl, _, _⟩ := own_form ho7
              have F7 := ((HH.out.go b5').blk.alloc (.cells #[.slice (some ⟨wq.heap.size, 0, none⟩) 3 3] 40)).grown hg7 (fun e => by have := HH.out.rvge _ e.symm; omega)
              have F7c := F7.cell 1
              have F7f := F7.frozen 1
              simp at F7c
              have hprb5 := HRR.out.1
              have HS7 : w7.cell? ⟨w5.heap.size, 1, none⟩ = some (.slice (some ⟨gR, 0, none⟩) q c9) ∧ w7.cell? pr = some (.int .i64 a) := by
                refine ⟨F7c, ?_⟩
                have hlt0 : pr.block < wq.heap.size := by omega
                have hlt1 : pr.block < ((wq.alloc (.cells #[.int .i64 a, .int .i64 0, .int .i64 0] 3)).drew).heap.size := Nat.lt_of_lt_of_le hlt0 b5'.size
                refine (World.cell?_of_block ((hg7.block _ (Nat.lt_of_lt_of_le hlt1 (by simp)) (fun e => by have := HH.out.rvge _ e.symm; omega)).trans ((Below.heap_alloc _ _ _ hlt1).trans (b5'.block _ hlt0)))).trans p0q
              refine hK.out _ _ (fun _ => HS7) ?_
              clear hK K' hg7 hd7
              try simp only [List.getElem_toArray, List.getElem_cons_zero, List.getElem_cons_succ, Act.put, List.setIfInBounds_toArray, List.set_cons_zero, List.set_cons_succ]
              refine atK_take (i := 8) rfl (by kernel_rfl) (by kernel_rfl) (by kernel_rfl) (by kernel_rfl) (fun _ _ _ h => h) (by rfl) (by intro w hSw; (try dsimp only at hSw); go_split_ands; first | (go_simp; done) | (go_simp; with_reducible rfl)) HS7 ?_
              simp only [List.getElem_toArray, List.getElem_cons_zero, List.getElem_cons_succ, Act.put, List.setIfInBounds_toArray, List.set_cons_zero, List.set_cons_succ]
              refine atK_one (i := 9) (by kernel_rfl) rfl (fun K' hK => ?_)
              rw [if_pos (by rfl)]
              go_simp
              refine hK.out _ _ (fun h => absurd rfl h) ?_
              clear hK K'
              try simp only [List.getElem_toArray, List.getElem_cons_zero, List.getElem_cons_succ, Act.put, List.setIfInBounds_toArray, List.set_cons_zero, List.set_cons_succ]
              refine atK_done (by kernel_rfl) ?_ _
              refine NoPanic.normal ?_
              have HHT := Lib.hid PU.out
              clear PU F7 F7c F7f HS7 HS x3 p0q ho7
              simp only [Array.setIfInBounds] at HHT
              generalize hw8 : w7.setCell ⟨w5.heap.size, 1, none⟩ (.slice A7 q1 c7) = w8 at HHT ⊢
              clear hw8
              have hrT : (G ++ [[a, 0, 0]])[q]? = some [a, 0, 0] := by rw [← hq, List.getElem?_append_right (Nat.le_refl _), Nat.sub_self]; rfl
              clear HRU hx hxb hxn
              clear c0 t0
              obtain ⟨c0, hc0⟩ : ∃ c : Int, c = 0 := ⟨_, rfl⟩
              obtain ⟨t0, ht0⟩ : ∃ c : Int, c = 0 := ⟨_, rfl⟩
              have HRT := Lib.hid (show (G ++ [[a, 0, 0]])[q]? = some [a, c0, t0] by rw [hc0, ht0]; exact hrT)
              have HGT := Lib.hid (show GroupR (S.take (k + 1)) ((G ++ [[a, 0, 0]]).set q [a, c0 + 1, t0 + b]) by rw [hc0, ht0]; exact HGM.out)
              have hc1 : 0 ≤ c0 := by omega
              have hc2 : c0 ≤ 16 := by omega
              have ht1 : -1600000 ≤ t0 := by omega
              have ht2 : t0 ≤ 1600000 := by omega
              clear hc0 ht0 hrT HGM
              obtain ⟨gR, gb, cb, eA, hu, f0, f1, f2, f3, f4, f5, hz1, hz2, hne, hl1, hl2⟩ := HHT.out.at3 hql HRT.out
              (first | subst eA | (simp only [Option.some.injEq, Addr.mk.injEq, and_true] at eA; subst eA))
              have x3 := HHT.out.blk.cell 1
              simp at x3
              have H1 := Lib.hid (HHT.out.put (j := 1) hu HRT.out (c0 + 1))
              have hwc : IntKind.i64.wrap (c0 + 1) = c0 + 1 := IntWalk.i64_in _ (by omega)
              go_wp2_with fail
              have hr1 : ((G ++ [[a, 0, 0]]).set q [a, c0 + 1, t0])[q]? = some [a, c0 + 1, t0] := List.getElem?_set_self (by rw [hql]; omega)
              have H1' : Hid (HalfZ w5 (w8.setCell ⟨gb, 1, none⟩ (.int .i64 (c0 + 1))).drew w1.heap.size w5.heap.size (w5.heap.size + 1) 26 _ (.slice NA 3 nc) _ [g, countB, totalB] (vs ++ [.slice (some ⟨wq.heap.size, 0, none⟩) 3 3]) ((G ++ [[a, 0, 0]]).set q [a, c0 + 1, t0])) := Lib.hid H1.out.drew
              have hl1s : ((G ++ [[a, 0, 0]]).set q [a, c0 + 1, t0]).length = q1 := by rw [List.length_set]; exact hql
              clear x3 f0 f1 f2 f3 f4 f5 hne hl1 hl2 hz1 hz2 H1 hwc
              have hws : (w8.setCell ⟨gb, 1, none⟩ (.int .i64 (c0 + 1))).heap.size = w8.heap.size := by simp [World.setCell]
              generalize w8.setCell ⟨gb, 1, none⟩ (.int .i64 (c0 + 1)) = w9 at H1' hws ⊢
              obtain ⟨gR', gb', cb', eA, hu1, f0, f1, f2, f3, f4, f5, hz1, hz2, hne, hl1, hl2⟩ := H1'.out.at3 hl1s hr1
              simp only [Option.some.injEq, Addr.mk.injEq, and_true] at eA
              obtain rfl := eA
              have x3 := H1'.out.blk.cell 1
              simp at x3
              have p1q : w9.drew.cell? ⟨pr.block, pr.off + 1, none⟩ = some (.int .i64 b) := P1.out _ H1'.out.below
              have hwc : IntKind.i64.wrap (t0 + b) = t0 + b := IntWalk.i64_in _ (by omega)
              have H2 := Lib.hid (H1'.out.put (j := 2) hu1 hr1 (t0 + b))
              have HS : w9.drew.cell? ⟨w5.heap.size, 1, none⟩ = some (.slice (some ⟨gR, 0, none⟩) q1 c7) ∧ w9.drew.cell? ⟨gR, q, none⟩ = some (.slice (some ⟨gb', 0, none⟩) 3 cb') ∧ w9.drew.cell? ⟨gb', 2, none⟩ = some (.int .i64 t0) ∧ w9.drew.cell? ⟨pr.block, pr.off + 1, none⟩ = some (.int .i64 b) := ⟨x3, f0, f3, p1q⟩
              refine wp_region_noPanic ?_
              refine wp_region_K (by kernel_rfl) (fun w' => w'.cell? ⟨w5.heap.size, 1, none⟩ = some (.slice (some ⟨gR, 0, none⟩) q1 c7) ∧ w'.cell? ⟨gR, q, none⟩ = some (.slice (some ⟨gb', 0, none⟩) 3 cb') ∧ w'.cell? ⟨gb', 2, none⟩ = some (.int .i64 t0) ∧ w'.cell? ⟨pr.block, pr.off + 1, none⟩ = some (.int .i64 b)) 12 ?_
              refine atK_take (i := 0) rfl (by kernel_rfl) (by kernel_rfl) (by kernel_rfl) (by kernel_rfl) (fun _ _ _ h => h) (by rfl) (by intro w hSw; (try dsimp only at hSw); go_split_ands; first | (go_simp; done) | (go_simp; with_reducible rfl)) HS ?_
              simp only [List.getElem_toArray, List.getElem_cons_zero, List.getElem_cons_succ, Act.put, List.setIfInBounds_toArray, List.set_cons_zero, List.set_cons_succ]
              refine atK_take (i := 1) rfl (by kernel_rfl) (by kernel_rfl) (by kernel_rfl) (by kernel_rfl) (fun _ _ _ h => h) (by rfl) (by intro w hSw; (try dsimp only at hSw); go_split_ands; first | (go_simp; done) | (go_simp; with_reducible rfl)) HS ?_
              simp only [List.getElem_toArray, List.getElem_cons_zero, List.getElem_cons_succ, Act.put, List.setIfInBounds_toArray, List.set_cons_zero, List.set_cons_succ]
              refine atK_take (i := 2) rfl (by kernel_rfl) (by kernel_rfl) (by kernel_rfl) (by kernel_rfl) (fun _ _ _ h => h) (by rfl) (by intro w hSw; (try dsimp only at hSw); go_split_ands; first | (go_simp; done) | (go_simp; with_reducible rfl)) HS ?_
              simp only [List.getElem_toArray, List.getElem_cons_zero, List.getElem_cons_succ, Act.put, List.setIfInBounds_toArray, List.set_cons_zero, List.set_cons_succ]
              refine atK_take (i := 3) rfl (by kernel_rfl) (by kernel_rfl) (by kernel_rfl) (by kernel_rfl) (fun _ _ _ h => h) (by rfl) (by intro w hSw; (try dsimp only at hSw); go_split_ands; first | (go_simp; done) | (go_simp; with_reducible rfl)) HS ?_
              simp only [List.getElem_toArray, List.getElem_cons_zero, List.getElem_cons_succ, Act.put, List.setIfInBounds_toArray, List.set_cons_zero, List.set_cons_succ]
              refine atK_take (i := 4) rfl (by kernel_rfl) (by kernel_rfl) (by kernel_rfl) (by kernel_rfl) (fun _ _ _ h => h) (by rfl) (by intro w hSw; (try dsimp only at hSw); go_split_ands; first | (go_simp; done) | (go_simp; with_reducible rfl)) HS ?_
              simp only [List.getElem_toArray, List.getElem_cons_zero, List.getElem_cons_succ, Act.put, List.setIfInBounds_toArray, List.set_cons_zero, List.set_cons_succ]
              refine atK_take (i := 5) rfl (by kernel_rfl) (by kernel_rfl) (by kernel_rfl) (by kernel_rfl) (fun _ _ _ h => h) (by rfl) (by intro w hSw; (try dsimp only at hSw); go_split_ands; first | (go_simp; done) | (go_simp; with_reducible rfl)) HS ?_
              simp only [List.getElem_toArray, List.getElem_cons_zero, List.getElem_cons_succ, Act.put, List.setIfInBounds_toArray, List.set_cons_zero, List.set_cons_succ]
              refine atK_take (i := 6) rfl (by kernel_rfl) (by kernel_rfl) (by kernel_rfl) (by kernel_rfl) (fun _ _ _ h => h) (by rfl) (by intro w hSw; (try dsimp only at hSw); go_split_ands; first | (go_simp; done) | (go_simp; with_reducible rfl)) HS ?_
              simp only [List.getElem_toArray, List.getElem_cons_zero, List.getElem_cons_succ, Act.put, List.setIfInBounds_toArray, List.set_cons_zero, List.set_cons_succ]
              refine atK_take (i := 7) rfl (by kernel_rfl) (by kernel_rfl) (by kernel_rfl) (by kernel_rfl) (fun _ _ _ h => h) (by rfl) (by intro w hSw; (try dsimp only at hSw); go_split_ands; first | (go_simp; done) | (go_simp; with_reducible rfl)) HS ?_
              simp only [List.getElem_toArray, List.getElem_cons_zero, List.getElem_cons_succ, Act.put, List.setIfInBounds_toArray, List.set_cons_zero, List.set_cons_succ]
              refine atK_take (i := 8) rfl (by kernel_rfl) (by kernel_rfl) (by kernel_rfl) (by kernel_rfl) (fun _ _ _ h => h) (by rfl) (by intro w hSw; (try dsimp only at hSw); go_split_ands; first | (go_simp; done) | (go_simp; with_reducible rfl)) HS ?_
              simp only [List.getElem_toArray, List.getElem_cons_zero, List.getElem_cons_succ, Act.put, List.setIfInBounds_toArray, List.set_cons_zero, List.set_cons_succ]
              refine atK_take (i := 9) rfl (by kernel_rfl) (by kernel_rfl) (by kernel_rfl) (by kernel_rfl) (fun _ _ _ h => h) (by rfl) (by intro w hSw; (try dsimp only at hSw); go_split_ands; first | (go_simp; done) | (go_simp; with_reducible rfl)) HS ?_
              simp only [List.getElem_toArray, List.getElem_cons_zero, List.getElem_cons_succ, Act.put, List.setIfInBounds_toArray, List.set_cons_zero, List.set_cons_succ]
              refine atK_take (i := 10) rfl (by kernel_rfl) (by kernel_rfl) (by kernel_rfl) (by kernel_rfl) (fun _ _ _ h => h) (by rfl) (by intro w hSw; (try dsimp only at hSw); go_split_ands; first | (go_simp; done) | (go_simp; with_reducible rfl)) HS ?_
              simp only [List.getElem_toArray, List.getElem_cons_zero, List.getElem_cons_succ, Act.put, List.setIfInBounds_toArray, List.set_cons_zero, List.set_cons_succ]
              refine atK_take (i := 11) rfl (by kernel_rfl) (by kernel_rfl) (by kernel_rfl) (by kernel_rfl) (fun _ _ _ h => h) (by rfl) (by intro w hSw; (try dsimp only at hSw); go_split_ands; first | (go_simp; done) | (go_simp; with_reducible rfl)) HS ?_
              simp only [List.getElem_toArray, List.getElem_cons_zero, List.getElem_cons_succ, Act.put, List.setIfInBounds_toArray, List.set_cons_zero, List.set_cons_succ]
              refine atK_one (i := 12) (by kernel_rfl) rfl (fun K' hK => ?_)
              rw [if_pos (by rfl)]
              go_simp
              refine hK.out _ _ (fun h => absurd rfl h) ?_
              clear hK K'
              try simp only [List.getElem_toArray, List.getElem_cons_zero, List.getElem_cons_succ, Act.put, List.setIfInBounds_toArray, List.set_cons_zero, List.set_cons_succ]
              refine atK_done (by kernel_rfl) ?_ _
              refine NoPanic.normal ?_
              have H3 := H2.out
              rw [List.set_set] at H3
              have HH3 := Lib.hid H3
              clear H3 H2 f0 f1 f2 f3 f4 f5 hz1 hz2 hne hl1 hl2 x3 p1q HS hwc
              go_wp2_with fail
              go_roundw
              case rel => exact ⟨k + 1, _, _, _, by omega, by go_num, HH3, HGT⟩
              case measure => simp [intOf]; omega
        · obtain rfl : k = m := by omega
          have GG := hG.out
          rw [List.take_of_length_le (by have := HF.out.1; omega)] at GG
          have GP := Lib.hid (GG.perm HF.out.2.2.2)
          have T0 : TabO wr w1.heap.size (.agg #[.slice NA 3 nc, .slice A9 q c9]) [g, countB, totalB] G := ⟨_, _, rfl, hh.out.own, vs, hh.out.rows.low (by have := hh.out.base; have := hh.out.tz; omega)⟩
          obtain ⟨u, hu⟩ : ∃ u, tableB [g, countB, totalB] G = u := ⟨_, rfl⟩
          have BWR := Lib.hid (B5.out.trans (hh.out.below.mono B5.out.size))
          have SV := Lib.hid (implTab_any u _ _ _ RA RC wr (below_keep BWR.out HV.out) ((HR.out.below BWR.out).more BWR.out.size) T0.reads (grp_ok HBASE.out (by rw [HF.out.1, HM.out]; exact Nat.le_refl _) GG) hu)
          have HEND := Lib.hid (show u = ok ∧ N = (if ok then [g, countB, totalB] else []) ∧ R = (if ok then G else []) by
            have h := HL.out.end_ HBASE.out GP.out
            rw [hu] at h
            exact h)
          have HT0 := Lib.hid T0
          have z0 := hh.out.blk.cell 0
          have z1 := hh.out.blk.cell 1
          simp at z0 z1
          have KB := Lib.hid hh.out.blk
          have hTlt := hh.out.blk.lt
          have K2R := Lib.hid (K25.out.below hh.out.below K25.out.lt)
          clear GG T0 hu hG
          go_wp2_with fail
          refine SV.out.mono ?_
          rintro e w6 ⟨rfl, b6⟩
          have K26 := Lib.hid (K2R.out.below b6 K2R.out.lt)
          have B6 := Lib.hid (BWR.out.trans (b6.mono BWR.out.size))
          have T6 := HT0.out.below b6
          have KB6 := KB.out.below b6 hTlt
          clear z0 z1 b6
          have z0 := KB6.cell 0
          have z1 := KB6.cell 1
          simp at z0 z1
          have y0 := K26.out.cell 0
          have y1 := K26.out.cell 1
          have y0f := K26.out.frozen 0
          have y1f := K26.out.frozen 1
          simp at y0 y1
          obtain ⟨rfl, rfl, rfl⟩ := HEND.out
          cases u
          · have HNO : false = false ∧ (if false = true then [g, countB, totalB] else []) = ([] : List ByteArray) ∧ (if false = true then G else []) = ([] : List (List Int)) := ⟨rfl, rfl, rfl⟩
            have RS := Lib.hid (res_store (g := w.heap.size + 1) B6.out K26.out (by omega) (.slice none 0 0) (.slice none 0 0))
            go_wp2_with fail
            obtain ⟨r0, r1, rb, _⟩ := RS.out
            clear RS y0 y1 y0f y1f z0 z1
            generalize ((w6.setCell ⟨w.heap.size + 1, 0, none⟩ (.slice none 0 0)).setCell ⟨w.heap.size + 1, 1, none⟩ (.slice none 0 0)) = w8 at r0 r1 rb ⊢
            exact bodyPost_ret (v := .tuple #[.agg #[.slice none 0 0, .slice none 0 0], .bool false]) (by simp [results, Tryd.results18, go_sem, r0, r1]) rfl (TabO.nilRes rb)
          · have Q2 := Lib.hid (res_end (g := w.heap.size + 1) B6.out K26.out (by omega) T6 (by omega))
            clear T6 KB6
            go_wp2_with fail
            obtain ⟨r0, r1, RR⟩ := Q2.out
            clear Q2 y0 y1 y0f y1f z0 z1
            generalize ((w6.setCell ⟨w.heap.size + 1, 0, none⟩ (.slice NA 3 nc)).setCell ⟨w.heap.size + 1, 1, none⟩ (.slice A9 q c9)) = w8 at r0 r1 RR ⊢
            exact bodyPost_ret (v := .tuple #[.agg #[.slice NA 3 nc, .slice A9 q c9], .bool true]) (by simp [results, Tryd.results18, go_sem, r0, r1]) rfl RR
end Go.Proofs.YtijpdekcdejfmaaDoor
