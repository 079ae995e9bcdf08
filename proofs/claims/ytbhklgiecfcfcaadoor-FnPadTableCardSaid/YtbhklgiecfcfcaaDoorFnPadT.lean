/- laws.FnPadTable: the walk. -/
import Derived.Test.YtbhklgiecfcfcaaDoorFnLimit
import Derived.Test.YtbhklgiecfcfcaaDoorFnTake
namespace Go.Proofs.YtbhklgiecfcfcaaDoor
open Go Go.RowKit
set_option maxRecDepth 100000
set_option maxHeartbeats 400000 in
theorem sameMarks_yes (A B : Option Addr) (n c d : Nat) (xs : List Bool) (w : World) (hxn : xs.length = n) (hx : Reads w w.heap.size 1 A n (boCells xs)) (hy : Reads w w.heap.size 1 B n (boCells xs)) (hn : n ≤ 1000000000) :
    Calls Tryd.prog 42 #[.slice A n c, .slice B n d] w fun e w' => e = .returned (.bool true) ∧ Below w.heap.size w w' := by
  have HX := Lib.hid hxn
  clear hxn
  go_enter Tryd.func42, Tryd.ntmps42
  go_wp2
  go_loopw [5] (fun i wr => ∃ k : Nat, k ≤ n ∧ i = .int .i64 k ∧ Below w.heap.size w wr) (fun i _ => n - (intOf i).toNat)
  case atStart => exact ⟨0, Nat.zero_le _, rfl, Below.refl _ _⟩
  case round =>
    obtain ⟨k, hk, rfl, hb⟩ := hrel
    by_cases hlt : k < n
    · obtain ⟨ad, x, rfl, _, hxk, e1⟩ := bo_at (hx.below hb) HX.out hlt
      obtain ⟨bd, y, rfl, _, hyk, f1⟩ := bo_at (hy.below hb) HX.out hlt
      obtain rfl : x = y := Option.some.inj (hxk.symm.trans hyk)
      clear hxk hyk
      clear hx hy
      have hk0 : (0 : Int) ≤ (k : Int) := Int.natCast_nonneg _
      have hk1 : (k : Int) < (n : Int) := by omega
      go_wp2_with fail
      go_quiet (fail)
      go_wp2
      go_roundw
      case rel => exact ⟨k + 1, by omega, by go_num, below_drewN hb _⟩
      case measure => simp [intOf]; omega
    · obtain rfl : k = n := by omega
      go_wp2
      go_ret
      exact ⟨rfl, hb⟩

set_option maxHeartbeats 800000 in
theorem samePadded_yes (v u : Value) (names : List ByteArray) (rows : List (List Int)) (real : List Bool) (w : World) (hv : PadR w v names rows real) (hu : PadR w u names rows real) (hs : SmallP names rows real) :
    Calls Tryd.prog 19 #[v, u] w fun e w' => e = .returned (.bool true) ∧ Below w.heap.size w w' := by
  obtain ⟨A, c, B, d, C, f, rfl, _, hx, hy, hz⟩ := hv
  obtain ⟨A', c', B', d', C', f', rfl, _, hx', hy', hz'⟩ := hu
  obtain ⟨n, hn⟩ : ∃ n, names.length = n := ⟨_, rfl⟩
  obtain ⟨m, hm⟩ : ∃ m, rows.length = m := ⟨_, rfl⟩
  obtain ⟨l, hl⟩ : ∃ l, real.length = l := ⟨_, rfl⟩
  have hn1 := hs.t.ok.n1
  have hr1 := hs.t.ok.r1
  have hb1 := hs.b
  rw [hn] at hx hx' hn1 ⊢
  rw [hm] at hy hy' hr1 ⊢
  rw [hl] at hz hz' hb1 ⊢
  obtain ⟨w1, hw1⟩ : ∃ w1, w1 = (w.alloc (.cells #[.slice A n c, .slice B m d, .slice C l f] 37)).alloc (.cells #[.slice A' n c', .slice B' m d', .slice C' l f'] 37) := ⟨_, rfl⟩
  have b1 : Below w.heap.size w w1 := by rw [hw1]; exact ((Below.refl _ _).alloc (Nat.le_refl _) _).alloc (by simp) _
  have k1 : Blk w1 w.heap.size 37 #[.slice A n c, .slice B m d, .slice C l f] := by rw [hw1]; exact (Blk.new _ _ _).alloc _
  have k2 : Blk w1 (w.heap.size + 1) 37 #[.slice A' n c', .slice B' m d', .slice C' l f'] := by
    have := Blk.new (w.alloc (.cells #[.slice A n c, .slice B m d, .slice C l f] 37)) 37 #[.slice A' n c', .slice B' m d', .slice C' l f']
    rw [World.size_alloc] at this
    rw [hw1]; exact this
  have KB := Lib.hid (fun (wr : World) (hb : Below w1.heap.size w1 wr) => And.intro (k1.below hb k1.lt) (k2.below hb k2.lt))
  have E1 := Lib.hid (sameTexts_yes A A' n c c' names w1 hn ((hx.below b1).more b1.size) ((hx'.below b1).more b1.size) hn1)
  have E2 := Lib.hid (fun (wr : World) (hb : Below w1.heap.size w1 wr) => sameRows_yes B B' m d d' rows wr ((hy.below b1).below hb) ((hy'.below b1).below hb) hr1 hs.t.ok.r2)
  have E3 := Lib.hid (fun (wr : World) (hb : Below w1.heap.size w1 wr) => sameMarks_yes C C' l f f' real wr hl (((hz.below b1).below (hb.mono b1.size)).more (Nat.le_trans b1.size hb.size)) (((hz'.below b1).below (hb.mono b1.size)).more (Nat.le_trans b1.size hb.size)) (by omega))
  have c0 := k1.cell 0
  have c1 := k2.cell 0
  simp at c0 c1
  have HW := Lib.hid hw1
  clear hx hy hx' hy' hz hz' hs hn hm hl k1 k2 hw1
  go_enter Tryd.func19, Tryd.ntmps19
  go_wp2_with fail
  rw [← HW.out]
  refine E1.out.mono ?_
  rintro e w2 ⟨rfl, b2⟩
  have d0 := (KB.out w2 b2).1.cell 1
  have d1 := (KB.out w2 b2).2.cell 1
  simp at d0 d1
  clear c0 c1
  have E2' := Lib.hid (E2.out w2 b2)
  go_wp2_with fail
  refine E2'.out.mono ?_
  rintro e w3 ⟨rfl, b3⟩
  have b13 := b2.trans (b3.mono b2.size)
  have q0 := (KB.out w3 b13).1.cell 2
  have q1 := (KB.out w3 b13).2.cell 2
  simp at q0 q1
  have E3' := Lib.hid (E3.out w3 b13)
  have B3 := b1.trans (b13.mono b1.size)
  clear d0 d1 b2 b3 E2'
  go_wp2_with fail
  refine E3'.out.mono ?_
  rintro e w4 ⟨rfl, b4⟩
  have B4 := B3.trans (b4.mono B3.size)
  go_wp2_with fail
  go_ret
  exact ⟨rfl, B4⟩
theorem realR_snoc : ∀ (a : List (List Int)) (b : List Bool) (r : List Int) (x : Bool), a.length = b.length → realR (a ++ [r]) (b ++ [x]) = realR a b ++ (if x then [r] else [])
  | [], [], r, x, _ => by cases x <;> simp [realR]
  | [], _ :: _, _, _, h => by simp at h
  | _ :: _, [], _, _, h => by simp at h
  | r0 :: a, b0 :: b, r, x, h => by
    simp only [List.cons_append, realR]
    rw [realR_snoc a b r x (by simpa using h)]
    cases b0 <;> simp
theorem pad_real (n : Nat) (rows : List (List Int)) : ∀ k, realR (padRows n rows k) (padReal rows.length k) = rows.take k
  | 0 => by simp [padRows, padReal, realR]
  | k + 1 => by
    rw [padRows_next, padReal_next, realR_snoc _ _ _ _ (by rw [padRows_length, padReal_length]), pad_real n rows k, List.take_add_one]
    by_cases h : k < rows.length
    · simp [h]
    · simp [h]
theorem pad_count (m : Nat) : ∀ k, cntB (padReal m k) = min k m
  | 0 => by simp [padReal, cntB]
  | k + 1 => by
    rw [padReal_next]
    unfold cntB
    rw [List.count_append, show List.count true (padReal m k) = cntB (padReal m k) from rfl, pad_count m k]
    by_cases h : k < m
    · simp [h]; omega
    · simp [h]; omega
theorem pad_back {names : List ByteArray} {rows : List (List Int)} {size : Int} (h : ptB names rows size = true) :
    0 ≤ size ∧ size ≤ 256 ∧ TakIs names (padRows names.length rows size.toNat) (padReal rows.length size.toNat) true names rows ∧ padB names (padRows names.length rows size.toNat) (padReal rows.length size.toNat) = true ∧ cntB (padReal rows.length size.toNat) = rows.length := by
  unfold ptB at h
  rw [Bool.and_eq_true] at h
  obtain ⟨ht, hi⟩ := h
  obtain ⟨h1, h2⟩ := inB_true hi
  have ht' := ht
  unfold tableB at ht'
  simp only [Bool.and_eq_true, decide_eq_true_eq] at ht'
  obtain ⟨a1, a2, a3⟩ := ht'
  have hs : rows.length ≤ size.toNat := by omega
  have hcnt : cntB (padReal rows.length size.toNat) = rows.length := by rw [pad_count]; omega
  have hp : padB names (padRows names.length rows size.toNat) (padReal rows.length size.toNat) = true := by
    unfold padB
    simp only [Bool.and_eq_true, decide_eq_true_eq]
    refine ⟨a1, by rw [padRows_length]; omega, by rw [padRows_length, padReal_length], ?_, ?_⟩
    · unfold rowsB at a3 ⊢
      rw [List.all_eq_true] at a3 ⊢
      intro r hr
      simp only [padRows, List.mem_map] at hr
      obtain ⟨i, _, rfl⟩ := hr
      cases hi : rows[i]? with
      | none =>
        have hv : valB 0 = true := by decide
        simp [rowB, hv]
      | some x => simpa using a3 x (List.mem_of_getElem? hi)
    · rw [List.all_eq_true]
      intro k hk
      rw [List.mem_range, padRows_length] at hk
      have g1 : (padRows names.length rows size.toNat)[k]? = some ((rows[k]?).getD (List.replicate names.length 0)) := by simp [padRows, hk]
      have g2 : (padReal rows.length size.toNat)[k]? = some (decide (k < rows.length)) := by simp [padReal, hk]
      rw [blankAt_some g1 g2]
      by_cases h : k < rows.length
      · simp [h]
      · simp [h, isZero]
  have htb : takB names (padRows names.length rows size.toNat) (padReal rows.length size.toNat) = true := by
    unfold takB
    rw [hp, hcnt]
    simp [a2]
  refine ⟨by omega, h2, ⟨htb, by rw [htb]; rfl, ?_⟩, hp, hcnt⟩
  rw [htb]
  simp only [if_true]
  rw [pad_real, List.take_of_length_le hs]
set_option maxHeartbeats 3200000 in
theorem fnPadT_walk {w : World} (A : Option Addr) (n c : Nat) (xs : List UInt8) (hl : xs.length = n) (hc : n ≤ c) (hm : c ≤ maxLen) (hx : Reads w w.heap.size 1 A n (byCells xs))
    (RA : Option Addr) (RC : Nat) (hv : w.cell? ⟨0, 0, none⟩ = some (.slice RA 13 RC)) (hr : Reads w w.heap.size 1 RA 13 (stCells resW)) :
    Calls Tryd.prog 5 #[.slice A n c] w fun e w' => e = .returned (.bool true) ∧ Below w.heap.size w w' := by
  by_cases hbig : (1048576 : Int) < (n : Int)
  · clear hx hr
    go_enter Tryd.func5, Tryd.ntmps5
    go_wp2_with fail
    go_ret
    exact ⟨rfl, Below.refl _ _⟩
  have HD := Lib.hid (drawPadT_any A n c xs w hx hl (by omega) hc hm)
  have RV := Lib.hid (fun (w' : World) (hb : Below w.heap.size w w') => And.intro (below_keep hb hv) ((hr.below hb).more hb.size))
  clear hx hr hl hv
  go_enter Tryd.func5, Tryd.ntmps5
  go_wp2_with fail
  refine HD.out.mono ?_
  rintro e w1 ⟨nv, rv, size, names, rows, rfl, _, _, ho, hd, b1⟩
  obtain ⟨A1, c1, B1, d1, rfl, rfl⟩ := ho.form
  obtain ⟨ok, N, R, Q, hL⟩ := PtIs.ex names rows size
  obtain ⟨l1, hl1⟩ : ∃ n, names.length = n := ⟨_, rfl⟩
  obtain ⟨l2, hl2⟩ : ∃ n, rows.length = n := ⟨_, rfl⟩
  obtain ⟨nN, hNN⟩ : ∃ n, N.length = n := ⟨_, rfl⟩
  obtain ⟨nR, hRR⟩ : ∃ n, R.length = n := ⟨_, rfl⟩
  obtain ⟨nQ, hQQ⟩ : ∃ n, Q.length = n := ⟨_, rfl⟩
  have SM := Lib.hid hd.small
  have SN := Lib.hid (hL.small hd.small)
  have HL := Lib.hid hL
  rw [hl1, hl2] at ho ⊢
  have HNR := Lib.hid (And.intro hNN (And.intro hRR hQQ))
  have HLL := Lib.hid (And.intro hl1 hl2)
  clear hL hNN hRR hQQ hl1 hl2 hd HD
  have hqq : (ok != ok) = false := by cases ok <;> rfl
  -- t3
  obtain ⟨w2, hw2⟩ : ∃ w2, w2 = w1.alloc (.cells #[.slice A1 l1 c1, .slice B1 l2 d1] 26) := ⟨_, rfl⟩
  have b2 : Below w1.heap.size w1 w2 := by rw [hw2]; exact (Below.refl _ _).alloc (Nat.le_refl _) _
  have k2 : Blk w2 w1.heap.size 26 #[.slice A1 l1 c1, .slice B1 l2 d1] := by rw [hw2]; exact Blk.new _ _ _
  have B2 := Lib.hid (b1.trans (b2.mono b1.size))
  have P2 := Lib.hid (fun (wr : World) (hb : Below w2.heap.size w2 wr) => And.intro (k2.below hb k2.lt) ((ho.below b2).below hb).reads)
  have IM := Lib.hid (implPadT_any _ names rows size ok N R Q HL.out RA RC w2 (RV.out w2 B2.out).1 (RV.out w2 B2.out).2 ((P2.out w2 (Below.refl _ _)).2) SM.out)
  have HW2 := Lib.hid hw2
  clear k2 ho b2
  go_wp2_with fail
  rw [← HW2.out]
  clear hw2 HW2
  refine IM.out.mono ?_
  rintro e w3 hres
  obtain ⟨A3, c3, B3, d3, C3, f3, rfl, o3, b3⟩ := hres.form
  rw [HNR.out.1, HNR.out.2.1, HNR.out.2.2] at o3 ⊢
  clear hres IM
  obtain ⟨w4, hw4⟩ : ∃ w4, w4 = w3.alloc (.cells #[.slice A3 nN c3, .slice B3 nR d3, .slice C3 nQ f3] 37) := ⟨_, rfl⟩
  have b4 : Below w3.heap.size w3 w4 := by rw [hw4]; exact (Below.refl _ _).alloc (Nat.le_refl _) _
  have k4 : Blk w4 w3.heap.size 37 #[.slice A3 nN c3, .slice B3 nR d3, .slice C3 nQ f3] := by rw [hw4]; exact Blk.new _ _ _
  have b24 := Lib.hid (b3.trans (b4.mono b3.size))
  have T4 := Lib.hid (fun (wr : World) (hb : Below w4.heap.size w4 wr) => And.intro (k4.below hb k4.lt) ((o3.below b4).below hb).reads)
  have x0 := (P2.out w4 b24.out).1.cell 0
  have x1 := (P2.out w4 b24.out).1.cell 1
  simp at x0 x1
  have SP := Lib.hid (specPadT_any _ names rows size ok N R Q HL.out w4 (P2.out w4 b24.out).2 SM.out)
  have HW4 := Lib.hid hw4
  rw [hw4] at x0 x1
  clear k4 o3 b4 b3
  go_wp2_with fail
  rw [← HW4.out]
  clear hw4 HW4 x0 x1
  refine SP.out.mono ?_
  rintro e w5 hres
  obtain ⟨A5, c5, B5, d5, C5, f5, rfl, o5, b5⟩ := hres.form
  rw [HNR.out.1, HNR.out.2.1, HNR.out.2.2] at o5 ⊢
  clear hres SP
  obtain ⟨w6, hw6⟩ : ∃ w6, w6 = w5.alloc (.cells #[.slice A5 nN c5, .slice B5 nR d5, .slice C5 nQ f5] 37) := ⟨_, rfl⟩
  have b6 : Below w5.heap.size w5 w6 := by rw [hw6]; exact (Below.refl _ _).alloc (Nat.le_refl _) _
  have k6 : Blk w6 w5.heap.size 37 #[.slice A5 nN c5, .slice B5 nR d5, .slice C5 nQ f5] := by rw [hw6]; exact Blk.new _ _ _
  have b46 := Lib.hid (b5.trans (b6.mono b5.size))
  have x0 := (T4.out w6 b46.out).1.cell 0
  have x1 := (T4.out w6 b46.out).1.cell 1
  have x2 := (T4.out w6 b46.out).1.cell 2
  have y0 := k6.cell 0
  have y1 := k6.cell 1
  have y2 := k6.cell 2
  simp at x0 x1 x2 y0 y1 y2
  have EQ := Lib.hid (samePadded_yes _ _ N R Q w6 (T4.out w6 b46.out).2 ((o5.below b6).reads) SN.out)
  have HW6 := Lib.hid hw6
  rw [hw6] at x0 x1 x2 y0 y1 y2
  clear k6 o5 b6 b5
  go_wp2_with fail
  rw [← HW6.out]
  clear hw6 HW6 x0 x1 x2 y0 y1 y2
  refine EQ.out.mono ?_
  rintro e w7 ⟨rfl, b7⟩
  have b47 := Lib.hid (b46.out.trans (b7.mono b46.out.size))
  have b27 := Lib.hid (b24.out.trans (b47.out.mono b24.out.size))
  have B7 := Lib.hid (B2.out.trans (b27.out.mono B2.out.size))
  have x0 := (T4.out w7 b47.out).1.cell 0
  have x1 := (T4.out w7 b47.out).1.cell 1
  have x2 := (T4.out w7 b47.out).1.cell 2
  simp at x0 x1 x2
  clear EQ b7 b46
  cases htk : ptB names rows size with
  | false =>
    obtain ⟨rfl, rfl, rfl, rfl⟩ := HL.out.no htk
    obtain rfl : nN = 0 := HNR.out.1.symm
    have AL := Lib.hid (alive_yes RA RC w7 (RV.out w7 B7.out).1 (RV.out w7 B7.out).2)
    clear htk
    go_wp2_with fail
    refine AL.out.mono ?_
    rintro e w' ⟨rfl, rfl⟩
    go_wp2_with fail
    go_ret
    exact ⟨rfl, B7.out⟩
  | true =>
    obtain ⟨rfl, rfl, hR, hQ⟩ := HL.out.yes htk
    obtain ⟨hs0, hs1, h2, h3, h4⟩ := pad_back htk
    rw [← hR, ← hQ] at h2
    obtain ⟨s, rfl⟩ : ∃ s : Nat, size = (s : Int) := ⟨size.toNat, by omega⟩
    obtain rfl : nR = s := by rw [← HNR.out.2.1, hR, padRows_length, Int.toNat_natCast]
    rw [← hR, ← hQ] at h3
    rw [← hQ, HLL.out.2] at h4
    have AG := Lib.hid (implTake_any _ N R Q true N rows h2 RA RC w7 (RV.out w7 B7.out).1 (RV.out w7 B7.out).2 (T4.out w7 b47.out).2 SN.out)
    have PV := Lib.hid (fun (wr : World) (hb : Below w7.heap.size w7 wr) => implPad_any true _ N R Q RA RC wr (RV.out wr (B7.out.trans (hb.mono B7.out.size))).1 (RV.out wr (B7.out.trans (hb.mono B7.out.size))).2 (T4.out wr (b47.out.trans (hb.mono b47.out.size))).2 SN.out h3)
    have RL := Lib.hid (fun (wr : World) (hb : Below w7.heap.size w7 wr) => implReal_any true _ N R Q RA RC wr (RV.out wr (B7.out.trans (hb.mono B7.out.size))).1 (RV.out wr (B7.out.trans (hb.mono B7.out.size))).2 (T4.out wr (b47.out.trans (hb.mono b47.out.size))).2 SN.out h3)
    rw [if_pos rfl, h4] at RL
    clear h2 h3 h4 htk hs0 hs1 hR hQ
    go_wp2_with fail
    refine AG.out.mono ?_
    rintro e w8 hres
    obtain ⟨A8, c8, B8, d8, rfl, o8, b8⟩ := hres.form
    rw [HLL.out.1, HLL.out.2] at o8 ⊢
    clear hres AG x0 x1 x2
    obtain ⟨w9, hw9⟩ : ∃ w9, w9 = w8.alloc (.cells #[.slice A8 l1 c8, .slice B8 l2 d8] 26) := ⟨_, rfl⟩
    have b9 : Below w8.heap.size w8 w9 := by rw [hw9]; exact (Below.refl _ _).alloc (Nat.le_refl _) _
    have k9 : Blk w9 w8.heap.size 26 #[.slice A8 l1 c8, .slice B8 l2 d8] := by rw [hw9]; exact Blk.new _ _ _
    have b79 := Lib.hid (b8.trans (b9.mono b8.size))
    have b29 := Lib.hid (b27.out.trans (b79.out.mono b27.out.size))
    have b49 := Lib.hid (b47.out.trans (b79.out.mono b47.out.size))
    have B9 := Lib.hid (B7.out.trans (b79.out.mono B7.out.size))
    have x0 := (T4.out w9 b49.out).1.cell 0
    have x1 := (T4.out w9 b49.out).1.cell 1
    have x2 := (T4.out w9 b49.out).1.cell 2
    have y0 := (P2.out w9 b29.out).1.cell 0
    have y1 := (P2.out w9 b29.out).1.cell 1
    have z0 := k9.cell 0
    have z1 := k9.cell 1
    simp at x0 x1 x2 y0 y1 z0 z1
    have PV' := Lib.hid (fun (wr : World) (hb : Below w9.heap.size w9 wr) => PV.out wr (b79.out.trans (hb.mono b79.out.size)))
    have RL' := Lib.hid (fun (wr : World) (hb : Below w9.heap.size w9 wr) => RL.out wr (b79.out.trans (hb.mono b79.out.size)))
    have ST' := Lib.hid (fun (wr : World) (hb : Below w9.heap.size w9 wr) => sameTable_yes _ _ N rows wr ((o8.below b9).below hb).reads (P2.out wr (b29.out.trans (hb.mono b29.out.size))).2 SM.out.ok)
    have HW9 := Lib.hid hw9
    clear PV RL k9 o8 b8 b9
    rw [hw9] at x0 x1 x2 y0 y1 z0 z1
    go_wp2_with fail
    rw [← HW9.out] at x0 x1 x2 y0 y1 z0 z1 ⊢
    clear hw9 HW9
    go_region_held3 (fun w' => w'.cell? ⟨w3.heap.size, 0, none⟩ = some (.slice A3 nN c3) ∧ w'.cell? ⟨w3.heap.size, 1, none⟩ = some (.slice B3 nR d3) ∧ w'.cell? ⟨w3.heap.size, 2, none⟩ = some (.slice C3 nQ f3) ∧ w'.cell? ⟨w1.heap.size, 0, none⟩ = some (.slice A1 l1 c1) ∧ w'.cell? ⟨w1.heap.size, 1, none⟩ = some (.slice B1 l2 d1) ∧ w'.cell? ⟨w8.heap.size, 0, none⟩ = some (.slice A8 l1 c8) ∧ w'.cell? ⟨w8.heap.size, 1, none⟩ = some (.slice B8 l2 d8))
      (first | go_keep | (go_split_ands; refine ⟨?_, ?_, ?_, ?_, ?_, ?_, ?_⟩ <;> (refine below_keep hb' ?_; assumption)))
      (first | (go_at_call 20; refine (PV'.out _ ((Below.refl _ _).drew)).mono ?_; rintro e w' ⟨rfl, hb'⟩; have hb1 := hb') | (go_at_call 9; refine (ST'.out _ ((Below.refl _ _).drew.trans hb1)).mono ?_; rintro e w' ⟨rfl, hb2⟩; have hb3 := hb1.trans (hb2.mono hb1.size); have hb' := (Below.refl _ _).trans hb2) | (go_at_call 16; refine (RL'.out _ ((Below.refl _ _).drew.trans hb3)).mono ?_; rintro e w' ⟨rfl, hb4⟩; have hb5 := hb3.trans (hb4.mono hb3.size); have hb' := (Below.refl _ _).trans hb4))
    all_goals (
      have hf := B9.out.drew.trans (hb5.mono B9.out.size)
      clear hb5 hb4 hb3 hb2 hb1 hb' PV' RL' ST' x0 x1 x2 y0 y1 z0 z1
      go_wp2_with fail
      go_ret
      exact ⟨rfl, hf⟩)
end Go.Proofs.YtbhklgiecfcfcaaDoor
