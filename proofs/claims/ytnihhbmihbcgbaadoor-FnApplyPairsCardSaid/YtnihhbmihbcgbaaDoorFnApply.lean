/- spec.DrawApplyPairs; laws.FnApplyPairs: the walk. -/
import Derived.Test.YtnihhbmihbcgbaaDoorFnSort
namespace Go.Proofs.YtnihhbmihbcgbaaDoor
open Go Go.RowKit
set_option maxRecDepth 100000

def PairsInts (w : World) (e : Ending) (w' : World) : Prop := ∃ (v u : Value) (L : List (Int × Int)) (N : List Int), e = .returned (.tuple #[v, u]) ∧ w'.ownsRow w.heap.size 37 2 v L.length (prCells L) ∧ w'.ownsRow w.heap.size 3 1 u N.length (inCells N) ∧ PairsOk L ∧ N.length ≤ 20 ∧ Below w.heap.size w w'
set_option maxHeartbeats 800000 in
theorem drawApply_any (A : Option Addr) (n c : Nat) (xs : List UInt8) (w : World) (hx : Reads w w.heap.size 1 A n (byCells xs)) (hl : xs.length = n) (hn : n ≤ 1048576) (hc : n ≤ c) (hc2 : c ≤ maxLen) :
    Calls Tryd.prog 33 #[.slice A n c] w (PairsInts w) := by
  have HO := Lib.hid (open_c A n c xs w hx hl hn hc hc2)
  obtain ⟨i0, hi0, hz0, hz1, hz2⟩ := info_parts infoInt
  clear hx hl
  go_enter Tryd.func33, Tryd.ntmps33
  go_wp2_with fail
  refine HO.out.mono ?_
  rintro e w1 ⟨rfl, r1, b1, -⟩
  have hR := r1.lt
  go_wp2_with fail
  refine (pick_c _ 1000 12 _ ((r1.alloc _).less (by omega)) (by omega)).mono ?_
  rintro e w2 ⟨y, rfl, hy, r2, t2, -⟩
  have o2 := t2.own (World.ownsRow_made (base := w.heap.size + 1) (e := 3) (size := 1) w1 #[] 0 (by omega) (by unfold maxLen; omega) rfl) (fun g' e => Or.inr (by simp [Value.ownBlock] at e; omega))
  have B2 := t2.below (b1.alloc b1.size _) (Nat.le_refl _)
  have hy12 : y ≤ 11 := by omega
  clear t2 b1 r1 hy HO hR
  go_wp2_with fail
  go_loopw [5, 6] (fun ov kv wr => ∃ (k : Nat) (N : List Int), kv = .int .i64 k ∧ k ≤ 11 ∧ N.length + k ≤ 11 ∧ wr.ownsRow (w.heap.size + 1) 3 1 ov N.length (inCells N) ∧ Rc wr w.heap.size (100 + k) ∧ Below w.heap.size w wr) (fun _ kv _ => (intOf kv).toNat)
  case atStart => exact ⟨y, [], rfl, hy12, by simp; omega, o2, r2.less (by omega), B2⟩
  case round =>
    obtain ⟨k, N, rfl, hk, hNk, hown, rc, hb⟩ := hrel
    by_cases hk0 : k = 0
    · subst hk0
      have hN : N.length ≤ 20 := by omega
      obtain ⟨A0, c0, rfl, _, _⟩ := own_form hown
      have hR := rc.lt
      go_wp2_with fail
      refine (pairs_c _ 10 N.length 9 _ (rc.less (by omega)) (by omega) (by omega)).mono ?_
      rintro e w3 ⟨v, L, rfl, o3, hok, r3, t3⟩
      have B3 := t3.below hb (Nat.le_refl _)
      have ou := t3.own_above hown (Nat.le_refl _)
      have o3' := o3.base_le (show w.heap.size ≤ wr.heap.size by omega)
      have ou' := ou.base_le (show w.heap.size ≤ w.heap.size + 1 by omega)
      have PF := Lib.hid (And.intro hok hN)
      clear o3 ou t3 hok hN
      go_wp2_with fail
      go_ret2
      exact ⟨_, _, L, N, rfl, o3', ou', PF.out.1, PF.out.2, B3⟩
    · have hk1 : (0 : Int) < (k : Int) := by omega
      have hR := rc.lt
      go_wp2_with fail
      refine (pick_c _ (100 + (k - 1)) 9 _ (rc.less (by omega)) (by omega)).mono ?_
      rintro e w3 ⟨x, rfl, hx, r3, t3, -⟩
      have o3 := t3.own_above hown (Nat.le_refl _)
      have B3 := t3.below hb (Nat.le_refl _)
      have hs3 : w.heap.size < w3.heap.size := r3.lt
      clear hown t3 hb rc
      go_wp2_with (first
        | (at_builtin; refine wpList_append_own _ rfl _ _ 41 rfl (w.heap.size + 1) 3 i0 _ 1 8 Tryd.underlying41 hi0 hz0 hz1 hz2 rfl (by decide) _ _ _ rfl (o3.alloc _) ⟨w3.heap.size, 0, none⟩ 1 1 [.int .i64 (x : Int)] rfl rfl (cells_new _ _ _) (oneCells rfl) (by unfold maxLen; omega) (by omega) (by simp; omega) ?_; intro v' w1 hown' hgrow _; have P := Lib.hid (And.intro hown' hgrow); clear hown' hgrow))
      have hpc : inCells (N ++ [(x : Int)]) = inCells N ++ [.int .i64 (x : Int)] := by rw [inCells_append]; rfl
      go_wp2
      go_roundw
      case rel =>
        refine ⟨k - 1, N ++ [(x : Int)], ?_, by omega, by rw [List.length_append]; simp; omega, ?_, ?_, below_append B3 o3 P.out.2 (by omega)⟩
        · rw [Int.natCast_sub (by omega)]; rfl
        · rw [hpc, List.length_append]; exact P.out.1
        · exact (r3.alloc _).touch (Touch.of_grown P.out.2 (fun g' e => o3.lt g' e)) (by omega)
      case measure => simp [intOf]; omega

/-! the law in plain Lean -/
theorem pairwise_perm_eq : ∀ {X Y : List Int}, X.Perm Y → X.Pairwise (· ≤ ·) → Y.Pairwise (· ≤ ·) → X = Y := by
  intro X
  induction X with
  | nil => intro Y h _ _; exact (List.nil_perm.1 h).symm
  | cons x X ih =>
    intro Y h hX hY
    cases Y with
    | nil => exact absurd h (by simp)
    | cons y Y =>
      have hx := List.pairwise_cons.1 hX
      have hy := List.pairwise_cons.1 hY
      have h1 : x ∈ y :: Y := h.subset (List.mem_cons_self ..)
      have h2 : y ∈ x :: X := h.symm.subset (List.mem_cons_self ..)
      have e : x = y := by
        rcases List.mem_cons.1 h1 with h1 | h1
        · exact h1
        · rcases List.mem_cons.1 h2 with h2 | h2
          · exact h2.symm
          · have := hx.1 y h2
            have := hy.1 x h1
            omega
      subst e
      rw [ih ((List.perm_cons x).1 h) hx.2 hy.2]
theorem apply_law {L : List (Int × Int)} {N : List Int} (hok : PairsOk L) (hN : N.length ≤ 20) (hl : (applyOf L N).length = N.length) :
    applyOf (netOf (N.length : Int)) N = applyOf (netOf (N.length : Int)) (applyOf L N) ∧
    (¬ N.length = 0 → applyOf L (applyOf (netOf (N.length : Int)) N) = applyOf (netOf (N.length : Int)) N) := by
  by_cases h0 : N.length = 0
  · have hn : N = [] := List.eq_nil_of_length_eq_zero h0
    subst hn
    have hx : applyOf L [] = [] := List.eq_nil_of_length_eq_zero hl
    rw [hx]
    exact ⟨rfl, fun h => absurd rfl h⟩
  · have hfit : applyOk L N = true := by
      cases h : applyOk L N
      · unfold applyOf at hl
        rw [h] at hl
        simp at hl
        omega
      · rfl
    have e1 : applyOf L N = applyL L N := by unfold applyOf; rw [if_pos hfit]
    have hf : fitB (N.length : Int) L = true := by
      unfold applyOk at hfit
      rw [Bool.and_eq_true, Bool.and_eq_true] at hfit
      exact hfit.2.1
    rw [e1, applyOf_net (by omega) rfl, applyOf_net (by omega) (applyL_length _ _)]
    have s1 := net_sorts (m := N.length) (L := N) (by omega) rfl
    have s2 := net_sorts (m := N.length) (L := applyL L N) (by omega) (applyL_length _ _)
    have p1 := applyL_perm (m := N.length) (netL_fit N.length) (L := N) rfl
    have p2 := applyL_perm (m := N.length) (netL_fit N.length) (L := applyL L N) (applyL_length _ _)
    have p3 := applyL_perm (m := N.length) hf (L := N) rfl
    refine ⟨pairwise_perm_eq (p1.trans (p3.symm.trans p2.symm)) s1 s2, fun _ => ?_⟩
    have hfit2 : applyOk L (applyL (netL N.length) N) = true := by
      unfold applyOk at hfit ⊢
      rw [applyL_length]
      exact hfit
    unfold applyOf
    rw [if_pos hfit2]
    exact applyL_sorted (m := N.length) hf (applyL_length _ _) s1

theorem applyOf_lens (L : List (Int × Int)) (N : List Int) : (applyOf L N).length = N.length ∨ (applyOf L N).length = 0 := by
  unfold applyOf
  split
  · left; exact applyL_length _ _
  · right; rfl
set_option maxHeartbeats 1600000 in
theorem fnApply_walk {w : World} (A : Option Addr) (n c : Nat) (xs : List UInt8) (hl : xs.length = n) (hc : n ≤ c) (hm : c ≤ maxLen) (hx : Reads w w.heap.size 1 A n (byCells xs))
    (RA : Option Addr) (RC : Nat) (hv : w.cell? ⟨0, 0, none⟩ = some (.slice RA 13 RC)) (hr : Reads w w.heap.size 1 RA 13 (stCells resW)) :
    Calls Tryd.prog 10 #[.slice A n c] w fun e w' => e = .returned (.bool true) ∧ Below w.heap.size w w' := by
  by_cases hbig : (1048576 : Int) < (n : Int)
  · clear hx hr
    go_enter Tryd.func10, Tryd.ntmps10
    go_wp2_with fail
    go_ret
    exact ⟨rfl, Below.refl _ _⟩
  · have HD := Lib.hid (drawApply_any A n c xs w hx hl (by omega) hc hm)
    have HV := Lib.hid (fun (w' : World) (hb : Below w.heap.size w w') => alive_yes RA RC w' (below_keep hb hv) ((hr.below hb).more hb.size))
    clear hx hr hl hv
    go_enter Tryd.func10, Tryd.ntmps10
    go_wp2_with fail
    refine HD.out.mono ?_
    rintro e w1 ⟨v, u, L, N, rfl, o1, u1, hok, hN, b1⟩
    have hle : L.length ≤ 9990 := hok.1
    obtain ⟨A0, c0, rfl, hc0, hcm, hA0⟩ := own_form' o1
    obtain ⟨A1, c1, rfl, hc1, hcm1, hA1⟩ := own_form' u1
    have RL := Reads.of_own o1
    have RN := Reads.of_own u1
    have HLAW := Lib.hid (fun h => apply_law (L := L) (N := N) hok hN h)
    have HOK := Lib.hid hok
    obtain ⟨X, hX⟩ : ∃ X, applyOf L N = X := ⟨_, rfl⟩
    have hXl : X.length ≤ 256 := by rw [← hX]; exact applyOf_len L N
    have IM := implApply_any A0 A1 L.length N.length c0 c1 L N w1 rfl rfl RL RN (by omega) (by omega) hA1
    have SP := fun (w' : World) (hb : Below w1.heap.size w1 w') => specApply_any A0 A1 L.length N.length c0 c1 L N w' rfl rfl ((RL.below hb).more hb.size) ((RN.below hb).more hb.size) (by omega) (by omega)
    have HLN := Lib.hid (applyOf_lens L N)
    rw [hX] at IM HLAW HLN
    simp only [hX] at SP
    have IMH := Lib.hid IM
    have SPH := Lib.hid SP
    have HA1 := Lib.hid hA1
    clear IM SP hX hok o1 u1 hA0 hA1 HD
    go_wp2_with fail
    refine IMH.out.mono ?_
    rintro e w2 ⟨v2, rfl, o2, b2⟩
    obtain ⟨A2, c2, rfl, hc2, hcm2, hA2⟩ := own_form' o2
    have HA2 := Lib.hid hA2
    have B2 := b1.trans (b2.mono b1.size)
    go_wp2_with fail
    refine (SPH.out w2 b2 HOK.out.2).mono ?_
    rintro e w3 ⟨v3, rfl, o3, b3⟩
    obtain ⟨A3, c3, rfl, hc3, hcm3⟩ := own_form o3
    have o2' := own_below o2 b3
    have B3 := B2.trans (b3.mono B2.size)
    have b13 := b2.trans (b3.mono b2.size)
    go_wp2_with fail
    refine (sameInts_yes A2 A3 X.length c2 c3 X _ rfl (Reads.of_own o2') (Reads.of_own o3) (by omega)).mono ?_
    rintro e w4 ⟨rfl, b4⟩
    have RX := Reads.of_own (own_below o2' b4)
    have B4 := B3.trans (b4.mono B3.size)
    have b14 := b13.trans (b4.mono b13.size)
    have RL4 := (RL.below b14).more b14.size
    have RN4 := (RN.below b14).more b14.size
    have AL := Lib.hid (HV.out w4 B4)
    clear IMH SPH HV o2 o2' o3 hA2 b1 b2 b3 b4 b13 b14 B2 B3 RL RN
    by_cases hXN : X.length = N.length
    · obtain ⟨K, hK⟩ : ∃ K, N.length = K := ⟨_, rfl⟩
      rw [hK] at hXN
      have hK20 : K ≤ 20 := by omega
      have LW := HLAW.out (by omega)
      rw [hK] at LW RN4 hN hc1 HA1
      rw [hXN] at RX hc2 hXl HA2
      obtain ⟨NL, hNL⟩ : ∃ NL, NL = netOf (K : Int) := ⟨_, rfl⟩
      have NLok : PairsOk NL := by rw [hNL]; exact netOf_ok _
      have hNLl := NLok.1
      have NI := fun w => implNet_any (K : Int) w
      rw [← hNL] at LW NI
      obtain ⟨Y, hY⟩ : ∃ Y, applyOf NL N = Y := ⟨_, rfl⟩
      have hYl : Y.length ≤ 256 := by rw [← hY]; exact applyOf_len NL N
      have LW1 : applyOf NL X = Y := by rw [← LW.1, hY]
      have LW2 : ¬ K = 0 → applyOf L Y = Y := fun h => by have := LW.2 h; rwa [hY] at this
      have AN := fun (A B : Option Addr) (c d : Nat) (w : World) hx hy hB => implApply_any A B NL.length K c d NL N w rfl hK hx hy (by omega) (by omega) hB
      have AX := fun (A B : Option Addr) (c d : Nat) (w : World) hx hy hB => implApply_any A B NL.length K c d NL X w rfl hXN hx hy (by omega) (by omega) hB
      have AY := fun (h : ¬ K = 0) (A B : Option Addr) (c d : Nat) (w : World) hx hy hB => implApply_any A B L.length Y.length c d L Y w rfl rfl hx hy (by omega) (by omega) hB
      rw [hY] at AN
      simp only [LW1] at AX
      have NIH := Lib.hid NI
      have ANH := Lib.hid AN
      have AXH := Lib.hid AX
      have AYH := Lib.hid AY
      have LW2H := Lib.hid LW2
      have HXN := Lib.hid hXN
      have HK := Lib.hid hK
      clear LW LW1 LW2 NI AN AX AY hY hNL NLok hXN hK HLAW HLN AL
      have e1 : N.length = K := HK.out
      have e2 : X.length = K := HXN.out
      go_wp2_with fail
      refine (NIH.out _).mono ?_
      rintro e w5 ⟨v5, rfl, o5, b5⟩
      obtain ⟨A5, c5, rfl, _, _⟩ := own_form o5
      have B5 := B4.trans (b5.mono B4.size)
      go_wp2_with fail
      refine (ANH.out A5 A1 c5 c1 w5 (Reads.of_own o5) ((RN4.below b5).more b5.size) HA1.out).mono ?_
      rintro e w6 ⟨v6, rfl, o6, b6⟩
      obtain ⟨A6, c6, rfl, hc6, hcm6, hA6⟩ := own_form' o6
      have B6 := B5.trans (b6.mono B5.size)
      have b46 := b5.trans (b6.mono b5.size)
      have HA6 := Lib.hid hA6
      clear o5 b5 hA6 B5
      go_wp2_with fail
      refine (NIH.out _).mono ?_
      rintro e w7 ⟨v7, rfl, o7, b7⟩
      obtain ⟨A7, c7, rfl, _, _⟩ := own_form o7
      have B7 := B6.trans (b7.mono B6.size)
      have b47 := b46.trans (b7.mono b46.size)
      go_wp2_with fail
      refine (AXH.out A7 A2 c7 c2 w7 (Reads.of_own o7) ((RX.below b47).more b47.size) HA2.out).mono ?_
      rintro e w8 ⟨v8, rfl, o8, b8⟩
      obtain ⟨A8, c8, rfl, hc8, hcm8⟩ := own_form o8
      have B8 := B7.trans (b8.mono B7.size)
      have b48 := b47.trans (b8.mono b47.size)
      have o6' := own_below (own_below o6 b7) b8
      clear o6 o7 b6 b7 b8 b46 b47 B6 B7
      go_wp2_with fail
      refine (sameInts_yes A6 A8 Y.length c6 c8 Y _ rfl (Reads.of_own o6') (Reads.of_own o8) (by omega)).mono ?_
      rintro e w9 ⟨rfl, b9⟩
      have B9 := B8.trans (b9.mono B8.size)
      have b49 := b48.trans (b9.mono b48.size)
      have o9 := own_below o6' b9
      have RY := Reads.of_own o9
      by_cases hK0 : K = 0
      · have hK0' : (K : Int) = 0 := by omega
        clear RY RX RN4 RL4
        go_wp2_with fail
        go_ret
        exact ⟨rfl, B9⟩
      · have hK0' : ((K : Int) == 0) = false := by simp only [beq_eq_false_iff_ne]; omega
        have e3 := LW2H.out hK0
        have AY1 := AYH.out hK0 A0 A6 c0 c6 w9 ((RL4.below b49).more b49.size) RY HA6.out
        rw [e3] at AY1
        have AY1H := Lib.hid AY1
        clear RX RN4 RL4 e3 AY1 hK0
        go_wp2_with fail
        refine AY1H.out.mono ?_
        rintro e w10 ⟨v10, rfl, o10, b10⟩
        obtain ⟨A10, c10, rfl, _, _⟩ := own_form o10
        have B10 := B9.trans (b10.mono B9.size)
        go_wp2_with fail
        refine (sameInts_yes A10 A6 Y.length c10 c6 Y _ rfl (Reads.of_own o10) ((RY.below b10).more b10.size) (by omega)).mono ?_
        rintro e w11 ⟨rfl, b11⟩
        have B11 := B10.trans (b11.mono B10.size)
        go_wp2_with fail
        go_ret
        exact ⟨rfl, B11⟩
    · have hX0 : X.length = 0 := by
        rcases HLN.out with h | h
        · exact absurd h hXN
        · exact h
      have hN0 : 0 < N.length := by omega
      have h1 : ((X.length : Int) == (N.length : Int)) = false := by simp only [beq_eq_false_iff_ne]; omega
      have h2 : (X.length : Int) = 0 := by omega
      have h3 : ((0 : Int) == (N.length : Int)) = false := by simp only [beq_eq_false_iff_ne]; omega
      clear RX RN4 RL4 HLAW HLN hX0 h1
      go_wp2_with fail
      refine AL.out.mono ?_
      rintro e w' ⟨rfl, rfl⟩
      go_wp2_with fail
      go_ret
      exact ⟨rfl, B4⟩
end Go.Proofs.YtnihhbmihbcgbaaDoor
