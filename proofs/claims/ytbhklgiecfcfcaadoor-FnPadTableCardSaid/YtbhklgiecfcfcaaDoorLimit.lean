/- LimitRows: the reference's and the program's. -/
import Derived.Test.YtbhklgiecfcfcaaDoorRes
import Derived.Deep.RegionHeld3
namespace Go.Proofs.YtbhklgiecfcfcaaDoor
open Go Go.RowKit
set_option maxRecDepth 100000
def limB (names : List ByteArray) (rows : List (List Int)) (many : Int) : Bool := tableB names rows && inB many 0 16
def LimIs (names : List ByteArray) (rows : List (List Int)) (many : Int) (ok : Bool) (N : List ByteArray) (R : List (List Int)) : Prop := limB names rows many = ok ∧ N = (if limB names rows many then names else []) ∧ R = (if limB names rows many then rows.take many.toNat else [])
theorem LimIs.no {names N : List ByteArray} {rows R : List (List Int)} {many : Int} {ok : Bool} (h : LimIs names rows many ok N R) (hb : limB names rows many = false) : ok = false ∧ N = [] ∧ R = [] := by
  obtain ⟨rfl, rfl, rfl⟩ := h
  simp [hb]
theorem LimIs.yes {names N : List ByteArray} {rows R : List (List Int)} {many : Int} {ok : Bool} (h : LimIs names rows many ok N R) (hb : limB names rows many = true) : ok = true ∧ N = names ∧ R = rows.take many.toNat := by
  obtain ⟨rfl, rfl, rfl⟩ := h
  simp [hb]
theorem LimIs.ex (names : List ByteArray) (rows : List (List Int)) (many : Int) : ∃ ok N R, LimIs names rows many ok N R := ⟨_, _, _, rfl, rfl, rfl⟩
theorem LimIs.small {names N : List ByteArray} {rows R : List (List Int)} {many : Int} {ok : Bool} (h : LimIs names rows many ok N R) (hs : Small names rows) : Small N R := by
  cases hb : limB names rows many with
  | false => obtain ⟨_, rfl, rfl⟩ := h.no hb; exact Small.none_
  | true =>
    obtain ⟨_, rfl, rfl⟩ := h.yes hb
    exact ⟨hs.n1, hs.n2, by rw [List.length_take]; have := hs.r1; omega, fun r hr => hs.r2 r (List.mem_of_mem_take hr)⟩
set_option maxHeartbeats 1600000 in
theorem specLimit_any (v : Value) (names : List ByteArray) (rows : List (List Int)) (many : Int) (ok : Bool) (N : List ByteArray) (R : List (List Int)) (hL : LimIs names rows many ok N R) (w : World) (ht : TabR w v names rows) (hs : Small names rows) :
    Calls Tryd.prog 8 #[v, .int .i64 many] w fun e w' => TabRes w ok N R e w' := by
  have HT := Lib.hid ht
  obtain ⟨A, c, B, d, rfl, _, _, _⟩ := ht
  obtain ⟨n, hnn⟩ : ∃ n, names.length = n := ⟨_, rfl⟩
  obtain ⟨m, hmm⟩ : ∃ m, rows.length = m := ⟨_, rfl⟩
  have hm1 := hs.r1
  rw [hmm] at hm1
  rw [hnn, hmm] at HT ⊢
  obtain ⟨w1, hw1⟩ : ∃ w1, w1 = (w.alloc (.cells #[.slice A n c, .slice B m d] 26)).alloc (.cells #[(.slice none 0 0), (.slice none 0 0)] 26) := ⟨_, rfl⟩
  have b1 : Below w.heap.size w w1 := by rw [hw1]; exact ((Below.refl _ _).alloc (Nat.le_refl _) _).alloc (by simp) _
  have hs1 : w1.heap.size = w.heap.size + 1 + 1 := by rw [hw1]; simp
  have k1 : Blk w1 w.heap.size 26 #[.slice A n c, .slice B m d] := by rw [hw1]; exact (Blk.new _ _ _).alloc _
  have k2 : Blk w1 (w.heap.size + 1) 26 #[.slice none 0 0, .slice none 0 0] := by
    have := Blk.new (w.alloc (.cells #[.slice A n c, .slice B m d] 26)) 26 #[(.slice none 0 0), (.slice none 0 0)]
    rw [World.size_alloc] at this
    rw [hw1]; exact this
  have c0 := k1.cell 0
  have c1 := k1.cell 1
  simp at c0 c1
  obtain ⟨q, hq⟩ : ∃ q, tableB names rows = q := ⟨_, rfl⟩
  have ST := Lib.hid (specTab_any q _ names rows w1 (HT.out.below b1) hs.ok hq)
  have CP := Lib.hid (fun (w' : World) (h : Below w.heap.size w w') => l5Copy_any _ names rows w' (HT.out.below h) hs)
  obtain ⟨p, hp⟩ : ∃ p, inB many 0 16 = p := ⟨_, rfl⟩
  have IN := Lib.hid (fun (w' : World) => l1In_is p many 0 16 w' hp)
  have HW := Lib.hid hw1
  have hlim : limB names rows many = (q && p) := by simp [limB, hq, hp]
  have HP := Lib.hid hp
  have HM := Lib.hid hmm
  have HN := Lib.hid hnn
  have K12 := Lib.hid (And.intro k1 k2)
  have B1 := Lib.hid b1
  clear hs HT hmm hnn hq hp hw1 k1 k2 b1
  have HLIM := Lib.hid hlim
  have HL := Lib.hid hL
  clear hlim hL
  go_enter Tryd.func8, Tryd.ntmps8
  go_wp2_with fail
  rw [← HW.out]
  refine ST.out.mono ?_
  rintro e w2 ⟨rfl, b2⟩
  have B2 := Lib.hid (B1.out.trans (b2.mono B1.out.size))
  have k1 := K12.out.1.below b2 K12.out.1.lt
  have K2 := K12.out.2.below b2 K12.out.2.lt
  have x0 := k1.cell 0
  have x1 := k1.cell 1
  have y0 := K2.cell 0
  have y1 := K2.cell 1
  have f0 := K2.frozen 0
  have f1 := K2.frozen 1
  simp at x0 x1 y0 y1
  have KK2 := Lib.hid K2
  have hw2n : w.heap.size + 1 + 1 ≤ w2.heap.size := Nat.le_trans (Nat.le_of_eq hs1.symm) b2.size
  clear c0 c1 k1 K2 b2
  cases q
  · have RS := Lib.hid (res_store B2.out KK2.out (Nat.le_succ _) (.slice none 0 0) (.slice none 0 0))
    go_wp2_with fail
    obtain ⟨r0, r1, rb, _⟩ := RS.out
    obtain ⟨rfl, rfl, rfl⟩ := HL.out.no (HLIM.out.trans (by rfl))
    clear f0 f1 x0 x1 y0 y1 RS
    generalize ((w2.setCell ⟨w.heap.size + 1, 0, none⟩ (.slice none 0 0)).setCell ⟨w.heap.size + 1, 1, none⟩ (.slice none 0 0)) = w6 at r0 r1 rb ⊢
    exact bodyPost_ret (v := .tuple #[.agg #[.slice none 0 0, .slice none 0 0], .bool false]) (by simp [results, Tryd.results8, go_sem, r0, r1]) rfl (TabO.nilRes rb)
  · cases p
    · have RS := Lib.hid (res_store B2.out KK2.out (Nat.le_succ _) (.slice none 0 0) (.slice none 0 0))
      go_wp2_with (first | (go_at_call 29; refine (IN.out _).mono ?_; rintro e w' ⟨rfl, rfl⟩))
      obtain ⟨r0, r1, rb, _⟩ := RS.out
      obtain ⟨rfl, rfl, rfl⟩ := HL.out.no (HLIM.out.trans (by rfl))
      clear f0 f1 x0 x1 y0 y1 RS
      generalize ((w2.setCell ⟨w.heap.size + 1, 0, none⟩ (.slice none 0 0)).setCell ⟨w.heap.size + 1, 1, none⟩ (.slice none 0 0)) = w6 at r0 r1 rb ⊢
      exact bodyPost_ret (v := .tuple #[.agg #[.slice none 0 0, .slice none 0 0], .bool false]) (by simp [results, Tryd.results8, go_sem, r0, r1]) rfl (TabO.nilRes rb)
    · go_wp2_with (first | (go_at_call 29; refine (IN.out _).mono ?_; rintro e w' ⟨rfl, rfl⟩))
      refine (CP.out w2 B2.out).mono ?_
      rintro e w3 ⟨A3, c3, B3, d3, hd3, rfl, T3, b3⟩
      obtain ⟨rfl, rfl, rfl⟩ := HL.out.yes (HLIM.out.trans (by rfl))
      rw [HM.out] at hd3
      rw [HN.out, HM.out] at T3 ⊢
      obtain ⟨hk0, hk16⟩ := inB_true HP.out
      obtain ⟨k, rfl⟩ : ∃ k : Nat, many = (k : Int) := ⟨many.toNat, by omega⟩
      have B3' := Lib.hid (B2.out.trans (b3.mono B2.out.size))
      have KK3 := Lib.hid (KK2.out.below b3 KK2.out.lt)
      have hb3s := Nat.lt_of_lt_of_le KK2.out.lt b3.size
      have hb2s : w2.heap.size ≤ w3.heap.size := b3.size
      have hww : w.heap.size ≤ w2.heap.size := B2.out.size
      have hB : (B3 = none ∧ d3 = 0 ∧ m = 0) ∨ ∃ g, B3 = some ⟨g, 0, none⟩ := by
        obtain ⟨v0, v1, e, _, ⟨us, hu⟩⟩ := T3
        simp only [Value.agg.injEq, Array.mk.injEq, List.cons.injEq, and_true] at e
        obtain ⟨rfl, rfl⟩ := e
        rcases hu.own.2 with ⟨h, h0⟩ | ⟨g, _, _, h, _⟩
        · simp only [Value.slice.injEq] at h
          exact .inl ⟨h.1, h.2.2, h.2.1⟩
        · simp only [Value.slice.injEq] at h
          exact .inr ⟨g, h.1⟩
      have TK := Lib.hid (fun (j : Nat) (hj : j ≤ m) => T3.takeRows HM.out hj)
      have hkz : (0 : Int) ≤ (k : Int) := hk0
      have hmz : (0 : Int) ≤ (m : Int) := Int.natCast_nonneg _
      clear f0 f1 y0 y1
      have y0 := fun o => (KK3.out.alloc o).cell 0
      have f0 := fun o => (KK3.out.alloc o).frozen 0
      have y1 := fun o v => ((KK3.out.set_ 0 v).alloc o).cell 1
      have f1 := fun o v => ((KK3.out.set_ 0 v).alloc o).frozen 1
      simp at y0 y1
      clear T3 x0 x1 b3 KK2 B2 CP ST
      have hw22 : w.heap.size + 1 + 1 ≤ w2.heap.size := hw2n
      rcases hB with ⟨rfl, rfl, hm0⟩ | ⟨g, rfl⟩
      · subst hm0
        have e0 : ∀ j, rows.take j = rows.take 0 := fun j => by rw [List.eq_nil_of_length_eq_zero HM.out]; simp
        rcases Nat.eq_zero_or_pos k with rfl | hkp
        · go_wp2_with fail
          obtain ⟨r0, r1, RR⟩ := res_endA (.cells #[.slice A3 n c3, .slice none 0 0] 26) B3'.out KK3.out (Nat.le_succ _) (TK.out 0 (Nat.le_refl _)) hw22
          generalize (((w3.setCell ⟨w.heap.size + 1, 0, none⟩ (.slice A3 n c3)).setCell ⟨w.heap.size + 1, 1, none⟩ (.slice none 0 0)).alloc (.cells #[.slice A3 n c3, .slice none 0 0] 26)) = w6 at r0 r1 RR ⊢
          exact bodyPost_ret (v := .tuple #[.agg #[.slice A3 n c3, .slice none 0 0], .bool true]) (by simp [results, Tryd.results8, go_sem, r0, r1]) rfl (by (try rw [e0]); exact RR)
        · have hkm' : ¬ (k : Int) ≤ 0 := by omega
          have hmk' : (0 : Int) < (k : Int) := by omega
          go_wp2_with fail
          obtain ⟨r0, r1, RR⟩ := res_endA (.cells #[.slice A3 n c3, .slice none 0 0] 26) B3'.out KK3.out (Nat.le_succ _) (TK.out 0 (Nat.le_refl _)) hw22
          generalize (((w3.setCell ⟨w.heap.size + 1, 0, none⟩ (.slice A3 n c3)).setCell ⟨w.heap.size + 1, 1, none⟩ (.slice none 0 0)).alloc (.cells #[.slice A3 n c3, .slice none 0 0] 26)) = w6 at r0 r1 RR ⊢
          exact bodyPost_ret (v := .tuple #[.agg #[.slice A3 n c3, .slice none 0 0], .bool true]) (by simp [results, Tryd.results8, go_sem, r0, r1]) rfl (by (try rw [e0]); exact RR)
      · by_cases hkm : k ≤ m
        · have hkm' : (k : Int) ≤ (m : Int) := by omega
          have hkd : k ≤ d3 := by omega
          have hkd' : (k : Int) ≤ (d3 : Int) := by omega
          go_wp2_with fail
          obtain ⟨r0, r1, RR⟩ := res_endA (.cells #[.slice A3 n c3, .slice (some ⟨g, 0, none⟩) k d3] 26) B3'.out KK3.out (Nat.le_succ _) (TK.out k hkm) hw22
          generalize (((w3.setCell ⟨w.heap.size + 1, 0, none⟩ (.slice A3 n c3)).setCell ⟨w.heap.size + 1, 1, none⟩ (.slice (some ⟨g, 0, none⟩) k d3)).alloc (.cells #[.slice A3 n c3, .slice (some ⟨g, 0, none⟩) k d3] 26)) = w6 at r0 r1 RR ⊢
          exact bodyPost_ret (v := .tuple #[.agg #[.slice A3 n c3, .slice (some ⟨g, 0, none⟩) k d3], .bool true]) (by simp [results, Tryd.results8, go_sem, r0, r1]) rfl (by simpa using RR)
        · have hkm' : ¬ (k : Int) ≤ (m : Int) := by omega
          have hmk' : (m : Int) < (k : Int) := by omega
          have hkd' : (m : Int) ≤ (d3 : Int) := by omega
          have e0 : rows.take (k : Int).toNat = rows.take m := by rw [List.take_of_length_le (by rw [HM.out]; simp; omega), List.take_of_length_le (by rw [HM.out]; omega)]
          go_wp2_with fail
          obtain ⟨r0, r1, RR⟩ := res_endA (.cells #[.slice A3 n c3, .slice (some ⟨g, 0, none⟩) m d3] 26) B3'.out KK3.out (Nat.le_succ _) (TK.out m (Nat.le_refl _)) hw22
          generalize (((w3.setCell ⟨w.heap.size + 1, 0, none⟩ (.slice A3 n c3)).setCell ⟨w.heap.size + 1, 1, none⟩ (.slice (some ⟨g, 0, none⟩) m d3)).alloc (.cells #[.slice A3 n c3, .slice (some ⟨g, 0, none⟩) m d3] 26)) = w6 at r0 r1 RR ⊢
          exact bodyPost_ret (v := .tuple #[.agg #[.slice A3 n c3, .slice (some ⟨g, 0, none⟩) m d3], .bool true]) (by simp [results, Tryd.results8, go_sem, r0, r1]) rfl (by rw [e0]; exact RR)
set_option maxHeartbeats 3200000 in
theorem implLimit_any (v : Value) (names : List ByteArray) (rows : List (List Int)) (many : Int) (ok : Bool) (N : List ByteArray) (R : List (List Int)) (hL : LimIs names rows many ok N R) (RA : Option Addr) (RC : Nat) (w : World)
    (hv : w.cell? ⟨0, 0, none⟩ = some (.slice RA 13 RC)) (hr : Reads w w.heap.size 1 RA 13 (stCells resW)) (ht : TabC w v names rows) (hs : Small names rows) :
    Calls Tryd.prog 7 #[v, .int .i64 many] w fun e w' => TabRes w ok N R e w' := by
  have HT := Lib.hid ht.tabR
  obtain ⟨A, c, B, d, rfl, hmd, hB, hx⟩ := ht
  obtain ⟨A', c', B', d', e', hc', hx, hy⟩ := hx
  simp only [Value.agg.injEq, Array.mk.injEq, List.cons.injEq, and_true, Value.slice.injEq, true_and] at e'
  obtain ⟨⟨rfl, rfl⟩, rfl, rfl⟩ := e'
  clear hc'
  obtain ⟨n, hnn⟩ : ∃ n, names.length = n := ⟨_, rfl⟩
  obtain ⟨m, hmm⟩ : ∃ m, rows.length = m := ⟨_, rfl⟩
  have hm1 := hs.r1
  have hn1 := hs.n1
  have HR2 := Lib.hid hs.r2
  rw [hmm] at hm1
  rw [hnn] at hn1
  rw [hnn, hmm] at HT ⊢
  rw [hnn] at hx
  rw [hmm] at hy hB hmd
  obtain ⟨w1, hw1⟩ : ∃ w1, w1 = (w.alloc (.cells #[.slice A n c, .slice B m d] 26)).alloc (.cells #[nilV, nilV] 26) := ⟨_, rfl⟩
  have b1 : Below w.heap.size w w1 := by rw [hw1]; exact ((Below.refl _ _).alloc (Nat.le_refl _) _).alloc (by simp) _
  have hs1 : w1.heap.size = w.heap.size + 1 + 1 := by rw [hw1]; simp
  have k1 : Blk w1 w.heap.size 26 #[.slice A n c, .slice B m d] := by rw [hw1]; exact (Blk.new _ _ _).alloc _
  have k2 : Blk w1 (w.heap.size + 1) 26 #[.slice none 0 0, .slice none 0 0] := by
    have := Blk.new (w.alloc (.cells #[.slice A n c, .slice B m d] 26)) 26 #[nilV, nilV]
    rw [World.size_alloc] at this
    rw [hw1]; exact this
  have c0 := k1.cell 0
  have c1 := k1.cell 1
  simp at c0 c1
  obtain ⟨q, hq⟩ : ∃ q, tableB names rows = q := ⟨_, rfl⟩
  have ST := Lib.hid (implTab_any q _ names rows RA RC w1 (below_keep b1 hv) ((hr.below b1).more b1.size) (HT.out.below b1) hs.ok hq)
  have CN := Lib.hid (fun (w' : World) (h : Below w.heap.size w w') => cloneNames_any A n c names w' ((hx.below h).more h.size) (by omega))
  have CR := Lib.hid (fun (w' : World) (h : Below w.heap.size w w') (j : Nat) (hj : j ≤ m) => cloneRows_any B j d (rows.take j) w' ((hy.below h).take hj) (by omega) (fun r h => by have := HR2.out r (List.mem_of_mem_take h); omega))
  obtain ⟨p, hp⟩ : ∃ p, inB many 0 16 = p := ⟨_, rfl⟩
  have IN := Lib.hid (fun (w' : World) => in_is p many 0 16 w' hp)
  have HW := Lib.hid hw1
  have hlim : limB names rows many = (q && p) := by simp [limB, hq, hp]
  have HP := Lib.hid hp
  have HM := Lib.hid hmm
  have HN := Lib.hid hnn
  have K12 := Lib.hid (And.intro k1 k2)
  have B1 := Lib.hid b1
  clear hs HT hmm hnn hq hp hw1 k1 k2 b1 hx hy hv hr
  have HLIM := Lib.hid hlim
  have HL := Lib.hid hL
  clear hlim hL
  go_enter Tryd.func7, Tryd.ntmps7
  go_wp2_with fail
  rw [← HW.out]
  refine ST.out.mono ?_
  rintro e w2 ⟨rfl, b2⟩
  have B2 := Lib.hid (B1.out.trans (b2.mono B1.out.size))
  have k1 := K12.out.1.below b2 K12.out.1.lt
  have K2 := K12.out.2.below b2 K12.out.2.lt
  have x0 := k1.cell 0
  have x1 := k1.cell 1
  have y0 := K2.cell 0
  have y1 := K2.cell 1
  have f0 := K2.frozen 0
  have f1 := K2.frozen 1
  simp at x0 x1 y0 y1
  have KK2 := Lib.hid K2
  have hw2n : w.heap.size + 1 + 1 ≤ w2.heap.size := Nat.le_trans (Nat.le_of_eq hs1.symm) b2.size
  clear c0 c1 k1 K2 b2
  cases q
  · have RS := Lib.hid (res_store B2.out KK2.out (Nat.le_succ _) (.slice none 0 0) (.slice none 0 0))
    go_wp2_with fail
    obtain ⟨r0, r1, rb, _⟩ := RS.out
    obtain ⟨rfl, rfl, rfl⟩ := HL.out.no (HLIM.out.trans (by rfl))
    clear f0 f1 x0 x1 y0 y1 RS
    generalize ((w2.setCell ⟨w.heap.size + 1, 0, none⟩ (.slice none 0 0)).setCell ⟨w.heap.size + 1, 1, none⟩ (.slice none 0 0)) = w6 at r0 r1 rb ⊢
    exact bodyPost_ret (v := .tuple #[.agg #[.slice none 0 0, .slice none 0 0], .bool false]) (by simp [results, Tryd.results7, go_sem, r0, r1]) rfl (TabO.nilRes rb)
  · cases p
    · have RS := Lib.hid (res_store B2.out KK2.out (Nat.le_succ _) (.slice none 0 0) (.slice none 0 0))
      go_wp2_with (first | (go_at_call 25; refine (IN.out _).mono ?_; rintro e w' ⟨rfl, rfl⟩))
      obtain ⟨r0, r1, rb, _⟩ := RS.out
      obtain ⟨rfl, rfl, rfl⟩ := HL.out.no (HLIM.out.trans (by rfl))
      clear f0 f1 x0 x1 y0 y1 RS
      generalize ((w2.setCell ⟨w.heap.size + 1, 0, none⟩ (.slice none 0 0)).setCell ⟨w.heap.size + 1, 1, none⟩ (.slice none 0 0)) = w6 at r0 r1 rb ⊢
      exact bodyPost_ret (v := .tuple #[.agg #[.slice none 0 0, .slice none 0 0], .bool false]) (by simp [results, Tryd.results7, go_sem, r0, r1]) rfl (TabO.nilRes rb)
    · obtain ⟨rfl, rfl, rfl⟩ := HL.out.yes (HLIM.out.trans (by rfl))
      obtain ⟨hk0, hk16⟩ := inB_true HP.out
      obtain ⟨k, rfl⟩ : ∃ k : Nat, many = (k : Int) := ⟨many.toNat, by omega⟩
      have hkz : (0 : Int) ≤ (k : Int) := hk0
      have hmz : (0 : Int) ≤ (m : Int) := Int.natCast_nonneg _
      have hwl : w.heap.size ≠ w.heap.size + 1 := Nat.ne_of_lt (Nat.lt_succ_self _)
      rcases hB with ⟨rfl, rfl, hm0⟩ | ⟨g, rfl⟩
      · subst hm0
        have e0 : ∀ j, rows.take j = rows.take 0 := fun j => by rw [List.eq_nil_of_length_eq_zero HM.out]; simp
        rcases Nat.eq_zero_or_pos k with rfl | hkp
        · have hkk : True := trivial
          go_wp2_with (first | (go_at_call 25; refine (IN.out _).mono ?_; rintro e w' ⟨rfl, rfl⟩))
          go_region_held3 (fun w' => w'.cell? ⟨w.heap.size, 0, none⟩ = some (.slice A n c) ∧ w'.cell? ⟨w.heap.size, 1, none⟩ = some (.slice none 0 0)) (first | go_keep | (go_split_ands; refine ⟨?_, ?_⟩ <;> (refine below_keep hb'' ?_; refine below_keep hb' ?_; assumption)) | (go_split_ands; refine ⟨?_, ?_⟩ <;> (refine below_keep hb' ?_; assumption)))
            (first
              | (go_at_call 26; refine (CN.out _ (B2.out.drew)).mono ?_; rintro e w' ⟨u, rfl, ou, hb'⟩; obtain ⟨Au, cu, rfl, _, _⟩ := own_form ou)
              | (go_at_call 27; refine (CR.out _ (B2.out.drew.trans (hb'.mono B2.out.size)) 0 (Nat.le_refl _)).mono ?_; rintro e w'' ⟨u2, rfl, ou2, hb''⟩; obtain ⟨ll, hll⟩ : ∃ ll, (rows.take 0).length = ll := ⟨_, rfl⟩; obtain ⟨us2, ov2⟩ := id ou2; obtain ⟨Bu, du, eu, _⟩ := ov2.form; rw [hll] at eu; subst eu; clear us2 ov2 hll; have K3 := (KK2.out.drew.below hb' KK2.out.lt).below hb'' (Nat.lt_of_lt_of_le KK2.out.lt hb'.size); have z0 := K3.cell 0; have z1 := K3.cell 1; have g0 := K3.frozen 0; have g1 := K3.frozen 1; simp at z0 z1))
          all_goals (
            rw [← HN.out] at ou
            have T0 := TabO.mk2 ou hb'' ou2 hb'.size
            have BB3 := B2.out.drew.trans ((hb'.mono B2.out.size).trans (hb''.mono (Nat.le_trans B2.out.size hb'.size)))
            rw [HN.out] at T0
            obtain ⟨r0, r1, RR⟩ := res_end BB3 K3 (Nat.le_succ _) T0 hw2n
            clear T0 BB3 K3 z0 z1 g0 g1
            go_wp2_with fail
            generalize hgen : ((w''.setCell ⟨w.heap.size + 1, 0, none⟩ _).setCell ⟨w.heap.size + 1, 1, none⟩ _) = w6 at r0 r1 RR ⊢
            exact bodyPost_ret (v := .tuple #[.agg #[.slice Au n cu, .slice Bu ll du], .bool true]) (by simp [results, Tryd.results7, go_sem, r0, r1]) rfl (by (try rw [e0]); exact RR))
        · have hkm' : ¬ (k : Int) ≤ 0 := by omega
          have hmk' : (0 : Int) < (k : Int) := by omega
          go_wp2_with (first | (go_at_call 25; refine (IN.out _).mono ?_; rintro e w' ⟨rfl, rfl⟩))
          go_region_held3 (fun w' => w'.cell? ⟨w.heap.size, 0, none⟩ = some (.slice A n c) ∧ w'.cell? ⟨w.heap.size, 1, none⟩ = some (.slice none 0 0)) (first | go_keep | (go_split_ands; refine ⟨?_, ?_⟩ <;> (refine below_keep hb'' ?_; refine below_keep hb' ?_; assumption)) | (go_split_ands; refine ⟨?_, ?_⟩ <;> (refine below_keep hb' ?_; assumption)))
            (first
              | (go_at_call 26; refine (CN.out _ (B2.out.drew)).mono ?_; rintro e w' ⟨u, rfl, ou, hb'⟩; obtain ⟨Au, cu, rfl, _, _⟩ := own_form ou)
              | (go_at_call 27; refine (CR.out _ (B2.out.drew.trans (hb'.mono B2.out.size)) 0 (Nat.le_refl _)).mono ?_; rintro e w'' ⟨u2, rfl, ou2, hb''⟩; obtain ⟨ll, hll⟩ : ∃ ll, (rows.take 0).length = ll := ⟨_, rfl⟩; obtain ⟨us2, ov2⟩ := id ou2; obtain ⟨Bu, du, eu, _⟩ := ov2.form; rw [hll] at eu; subst eu; clear us2 ov2 hll; have K3 := (KK2.out.drew.below hb' KK2.out.lt).below hb'' (Nat.lt_of_lt_of_le KK2.out.lt hb'.size); have z0 := K3.cell 0; have z1 := K3.cell 1; have g0 := K3.frozen 0; have g1 := K3.frozen 1; simp at z0 z1))
          all_goals (
            rw [← HN.out] at ou
            have T0 := TabO.mk2 ou hb'' ou2 hb'.size
            have BB3 := B2.out.drew.trans ((hb'.mono B2.out.size).trans (hb''.mono (Nat.le_trans B2.out.size hb'.size)))
            rw [HN.out] at T0
            obtain ⟨r0, r1, RR⟩ := res_end BB3 K3 (Nat.le_succ _) T0 hw2n
            clear T0 BB3 K3 z0 z1 g0 g1
            go_wp2_with fail
            generalize hgen : ((w''.setCell ⟨w.heap.size + 1, 0, none⟩ _).setCell ⟨w.heap.size + 1, 1, none⟩ _) = w6 at r0 r1 RR ⊢
            exact bodyPost_ret (v := .tuple #[.agg #[.slice Au n cu, .slice Bu ll du], .bool true]) (by simp [results, Tryd.results7, go_sem, r0, r1]) rfl (by (try rw [e0]); exact RR))
      · by_cases hkm : k ≤ m
        · have hkm' : (k : Int) ≤ (m : Int) := by omega
          have hmk' : ¬ (m : Int) < (k : Int) := by omega
          have hkd : k ≤ d := by omega
          have hmn : ¬ m < k := by omega
          have hkd' : (k : Int) ≤ (d : Int) := by omega
          go_wp2_with (first | (go_at_call 25; refine (IN.out _).mono ?_; rintro e w' ⟨rfl, rfl⟩))
          go_region_held3 (fun w' => w'.cell? ⟨w.heap.size, 0, none⟩ = some (.slice A n c) ∧ w'.cell? ⟨w.heap.size, 1, none⟩ = some (.slice (some ⟨g, 0, none⟩) m d)) (first | go_keep | (go_split_ands; refine ⟨?_, ?_⟩ <;> (refine below_keep hb'' ?_; refine below_keep hb' ?_; assumption)) | (go_split_ands; refine ⟨?_, ?_⟩ <;> (refine below_keep hb' ?_; assumption)))
            (first
              | (go_at_call 26; refine (CN.out _ (B2.out.drew)).mono ?_; rintro e w' ⟨u, rfl, ou, hb'⟩; obtain ⟨Au, cu, rfl, _, _⟩ := own_form ou)
              | (go_at_call 27; refine (CR.out _ (B2.out.drew.trans (hb'.mono B2.out.size)) k hkm).mono ?_; rintro e w'' ⟨u2, rfl, ou2, hb''⟩; obtain ⟨ll, hll⟩ : ∃ ll, (rows.take k).length = ll := ⟨_, rfl⟩; obtain ⟨us2, ov2⟩ := id ou2; obtain ⟨Bu, du, eu, _⟩ := ov2.form; rw [hll] at eu; subst eu; clear us2 ov2 hll; have K3 := (KK2.out.drew.below hb' KK2.out.lt).below hb'' (Nat.lt_of_lt_of_le KK2.out.lt hb'.size); have z0 := K3.cell 0; have z1 := K3.cell 1; have g0 := K3.frozen 0; have g1 := K3.frozen 1; simp at z0 z1))
          all_goals (
            rw [← HN.out] at ou
            have T0 := TabO.mk2 ou hb'' ou2 hb'.size
            have BB3 := B2.out.drew.trans ((hb'.mono B2.out.size).trans (hb''.mono (Nat.le_trans B2.out.size hb'.size)))
            rw [HN.out] at T0
            obtain ⟨r0, r1, RR⟩ := res_end BB3 K3 (Nat.le_succ _) T0 hw2n
            clear T0 BB3 K3 z0 z1 g0 g1
            go_wp2_with fail
            generalize hgen : ((w''.setCell ⟨w.heap.size + 1, 0, none⟩ _).setCell ⟨w.heap.size + 1, 1, none⟩ _) = w6 at r0 r1 RR ⊢
            exact bodyPost_ret (v := .tuple #[.agg #[.slice Au n cu, .slice Bu ll du], .bool true]) (by simp [results, Tryd.results7, go_sem, r0, r1]) rfl RR)
        · have hkm' : ¬ (k : Int) ≤ (m : Int) := by omega
          have hmk' : (m : Int) < (k : Int) := by omega
          have hkd' : (m : Int) ≤ (d : Int) := by omega
          have e0 : rows.take k = rows.take m := by rw [List.take_of_length_le (by rw [HM.out]; omega), List.take_of_length_le (by rw [HM.out]; omega)]
          go_wp2_with (first | (go_at_call 25; refine (IN.out _).mono ?_; rintro e w' ⟨rfl, rfl⟩))
          go_region_held3 (fun w' => w'.cell? ⟨w.heap.size, 0, none⟩ = some (.slice A n c) ∧ w'.cell? ⟨w.heap.size, 1, none⟩ = some (.slice (some ⟨g, 0, none⟩) m d)) (first | go_keep | (go_split_ands; refine ⟨?_, ?_⟩ <;> (refine below_keep hb'' ?_; refine below_keep hb' ?_; assumption)) | (go_split_ands; refine ⟨?_, ?_⟩ <;> (refine below_keep hb' ?_; assumption)))
            (first
              | (go_at_call 26; refine (CN.out _ (B2.out.drew)).mono ?_; rintro e w' ⟨u, rfl, ou, hb'⟩; obtain ⟨Au, cu, rfl, _, _⟩ := own_form ou)
              | (go_at_call 27; refine (CR.out _ (B2.out.drew.trans (hb'.mono B2.out.size)) m (Nat.le_refl _)).mono ?_; rintro e w'' ⟨u2, rfl, ou2, hb''⟩; obtain ⟨ll, hll⟩ : ∃ ll, (rows.take m).length = ll := ⟨_, rfl⟩; obtain ⟨us2, ov2⟩ := id ou2; obtain ⟨Bu, du, eu, _⟩ := ov2.form; rw [hll] at eu; subst eu; clear us2 ov2 hll; have K3 := (KK2.out.drew.below hb' KK2.out.lt).below hb'' (Nat.lt_of_lt_of_le KK2.out.lt hb'.size); have z0 := K3.cell 0; have z1 := K3.cell 1; have g0 := K3.frozen 0; have g1 := K3.frozen 1; simp at z0 z1))
          all_goals (
            rw [← HN.out] at ou
            have T0 := TabO.mk2 ou hb'' ou2 hb'.size
            have BB3 := B2.out.drew.trans ((hb'.mono B2.out.size).trans (hb''.mono (Nat.le_trans B2.out.size hb'.size)))
            rw [HN.out] at T0
            obtain ⟨r0, r1, RR⟩ := res_end BB3 K3 (Nat.le_succ _) T0 hw2n
            clear T0 BB3 K3 z0 z1 g0 g1
            go_wp2_with fail
            generalize hgen : ((w''.setCell ⟨w.heap.size + 1, 0, none⟩ _).setCell ⟨w.heap.size + 1, 1, none⟩ _) = w6 at r0 r1 RR ⊢
            exact bodyPost_ret (v := .tuple #[.agg #[.slice Au n cu, .slice Bu ll du], .bool true]) (by simp [results, Tryd.results7, go_sem, r0, r1]) rfl (by (try rw [Int.toNat_natCast]); rw [e0]; exact RR))
end Go.Proofs.YtbhklgiecfcfcaaDoor
