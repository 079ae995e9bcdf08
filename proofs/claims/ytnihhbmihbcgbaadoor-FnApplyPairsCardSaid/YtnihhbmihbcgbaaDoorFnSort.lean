/- laws.FnPairsSort: the walk. -/
import Derived.Test.YtnihhbmihbcgbaaDoorFnNetOf
import Derived.Test.YtnihhbmihbcgbaaDoorDrawPairs
import Derived.Test.YtnihhbmihbcgbaaDoorCalm
namespace Go.Proofs.YtnihhbmihbcgbaaDoor
open Go Go.RowKit
set_option maxRecDepth 100000

theorem sortedB_le {Y : List Int} (h : sortedB Y = true) : ∀ j, j < Y.length → Y.getD 0 0 ≤ Y.getD j 0 := by
  intro j
  induction j with
  | zero => intro _; exact Int.le_refl _
  | succ j ih =>
    intro hj
    have h1 := List.all_eq_true.1 h (j + 1) (List.mem_range.2 hj)
    have h2 : Y.getD j 0 ≤ Y.getD (j + 1) 0 := by simpa using h1
    exact Int.le_trans (ih (by omega)) h2
theorem sort_more {m : Nat} {L : List (Int × Int)} (hl : L.length ≤ 9990) (h2 : 2 ≤ m) (h : sortOf (m : Int) L = true) : sortOf (m : Int) (L ++ [(0, (m : Int) - 1)]) = true := by
  unfold sortOf sortB at h ⊢
  simp only [Bool.and_eq_true, decide_eq_true_eq, Int.toNat_natCast] at h ⊢
  obtain ⟨⟨h1, h3, _⟩, h4⟩ := h
  refine ⟨⟨h1, ?_, by rw [List.length_append]; simp; omega⟩, ?_⟩
  · rw [fitB_split, h3]
    have : fitB (m : Int) [(0, (m : Int) - 1)] = true := by
      unfold fitB pairOk
      simp only [List.all_cons, List.all_nil, Bool.and_true]
      rw [inB_mk ⟨by omega, by omega⟩, inB_mk ⟨by omega, by omega⟩]
      rfl
    rw [this]; rfl
  · unfold sortsB at h4 ⊢
    rw [List.all_eq_true] at h4 ⊢
    intro s hs
    have h5 := h4 s hs
    have e : applyL (L ++ [(0, (m : Int) - 1)]) (bitsOf m s) = applyL L (bitsOf m s) := by
      rw [applyL_app]
      have hlen : (applyL L (bitsOf m s)).length = m := by rw [applyL_length, bitsOf_length]
      have h6 := sortedB_le h5 (m - 1) (by omega)
      show applyS (applyL L (bitsOf m s)) (0, (m : Int) - 1) = _
      unfold applyS
      rw [if_neg]
      have e1 : ((m : Int) - 1).toNat = m - 1 := by omega
      simp only [e1, Int.toNat_zero]
      omega
    rw [e]
    exact h5
theorem sortsB_nil : ∀ m, m < 11 → sortsB m [] = decide (m < 2) := by decide +kernel
theorem sortOf_nil {m : Int} (h0 : 0 ≤ m) (h1 : m ≤ 10) : sortOf m [] = decide (m < 2) := by
  obtain ⟨k, rfl⟩ := Int.eq_ofNat_of_zero_le h0
  unfold sortOf sortB
  rw [inB_mk ⟨h0, h1⟩]
  simp only [Int.toNat_natCast, sortsB_nil k (by omega)]
  simp [fitB]
  omega
theorem sortOf_out {m : Int} {L : List (Int × Int)} (h : m < 0 ∨ 10 < m) : sortOf m L = false := by
  unfold sortOf sortB
  rw [inB_no (by omega)]
  rfl

set_option maxHeartbeats 1600000 in
theorem fnSort_walk {w : World} (A : Option Addr) (n c : Nat) (xs : List UInt8) (hl : xs.length = n) (hc : n ≤ c) (hm : c ≤ maxLen) (hx : Reads w w.heap.size 1 A n (byCells xs))
    (RA : Option Addr) (RC : Nat) (hv : w.cell? ⟨0, 0, none⟩ = some (.slice RA 13 RC)) (hr : Reads w w.heap.size 1 RA 13 (stCells resW)) :
    Calls Tryd.prog 9 #[.slice A n c] w fun e w' => e = .returned (.bool true) ∧ Below w.heap.size w w' := by
  by_cases hbig : (1048576 : Int) < (n : Int)
  · clear hx hr
    go_enter Tryd.func9, Tryd.ntmps9
    go_wp2_with fail
    go_ret
    exact ⟨rfl, Below.refl _ _⟩
  · have HD := Lib.hid (drawSort_any A n c xs w hx hl (by omega) hc hm)
    have HV := Lib.hid (fun (w' : World) (hb : Below w.heap.size w w') => alive_yes RA RC w' (below_keep hb hv) ((hr.below hb).more hb.size))
    obtain ⟨i0, hi0, hz0, hz1, hz2⟩ := info_parts infoPair
    clear hx hr hl hv
    go_enter Tryd.func9, Tryd.ntmps9
    go_wp2_with fail
    refine HD.out.mono ?_
    rintro e w1 ⟨m, v, L, rfl, ha0, ha1, o1, hok, b1⟩
    have hle : L.length ≤ 9990 := hok.1
    have HOK := Lib.hid hok.2
    obtain ⟨A0, c0, rfl, hc0, hcm, hA0⟩ := own_form' o1
    have R1 := Reads.of_own o1
    have hmi : i64ok m := by unfold i64ok; omega
    obtain ⟨q, hq⟩ : ∃ q, sortOf m L = q := ⟨_, rfl⟩
    have IM := Lib.hid (implSort_any q A0 L.length c0 L m w1 rfl R1 (by omega) hok.2 hq)
    have SP := Lib.hid (fun (w' : World) (hb : Below w1.heap.size w1 w') => specSort_any q A0 L.length c0 L m w' rfl ((R1.below hb).more hb.size) (by omega) hmi hok.2 hq)
    have HQ := Lib.hid hq
    clear hq hok hmi o1 hA0
    go_wp2_with fail
    refine IM.out.mono ?_
    rintro e w2 ⟨rfl, b2⟩
    have B2 := b1.trans (b2.mono b1.size)
    go_wp2_with fail
    refine (SP.out w2 b2).mono ?_
    rintro e w3 ⟨rfl, b3⟩
    have B3 := B2.trans (b3.mono B2.size)
    have b13 := b2.trans (b3.mono b2.size)
    have R3 := (R1.below b13).more b13.size
    have AL := Lib.hid (HV.out w3 B3)
    clear IM SP HV b1 b2 b3 b13 B2 R1 HD
    by_cases hout : m < 0 ∨ 10 < m
    · obtain rfl : q = false := by rw [← HQ.out]; exact sortOf_out hout
      clear R3
      rcases hout with h | h
      · go_wp2_with fail
        refine AL.out.mono ?_
        rintro e w' ⟨rfl, rfl⟩
        go_wp2_with fail
        go_ret
        exact ⟨rfl, B3⟩
      · have h2 : ¬ m < 0 := by omega
        go_wp2_with fail
        refine AL.out.mono ?_
        rintro e w' ⟨rfl, rfl⟩
        go_wp2_with fail
        go_ret
        exact ⟨rfl, B3⟩
    · have h0 : 0 ≤ m := by omega
      have h10 : m ≤ 10 := by omega
      obtain ⟨M, rfl⟩ := Int.eq_ofNat_of_zero_le h0
      clear AL hout
      have R4 := R3.alloc (Nat.le_refl _) (.cells #[] 37)
      have OM := Lib.hid (World.ownsRow_made (base := w3.heap.size) (e := 37) (size := 2) w3 #[] 0 (Nat.le_refl _) (by unfold maxLen; omega) rfl)
      by_cases hM2 : (M : Int) < 2
      · have HN := Lib.hid (show sortOf (M : Int) [] = true by rw [sortOf_nil h0 h10]; simpa using hM2)
        cases q
        · clear R3 HQ HOK
          go_wp2_with (first
            | (at_builtin; refine wpList_append_any _ rfl (.tmp 34) (.tmp 35) 33 rfl w3.heap.size 37 i0 _ 2 16 Tryd.underlying33 hi0 hz0 hz1 hz2 rfl (by decide) _ 0 [] rfl OM.out w3.heap.size A0 L.length c0 (prCells L) rfl R4 (prCells_one _) (by unfold maxLen; omega) (by omega) (by simp) ?_; intro v4 w4 ho4 hg4 _; have b4 := ((Below.refl w3.heap.size w3).alloc (Nat.le_refl _) _).grown hg4 (by simp) (fun g e => (OM.out.lt g e).1); have hs4 := b4.size; clear hg4)
            | (at_builtin; refine wpList_append_own _ rfl (.tmp 36) (.tmp 40) 33 rfl w3.heap.size 37 i0 _ 2 16 Tryd.underlying33 hi0 hz0 hz1 hz2 rfl (by decide) _ _ _ rfl (ho4.alloc _) ⟨w4.heap.size, 0, none⟩ 1 1 [.int .i64 0, .int .i64 ((M : Int) - 1)] rfl rfl (cells_new _ _ _) (oneCells rfl) (by unfold maxLen; omega) (by omega) (by simp; omega) ?_; intro v5 w5 ho5 hg5 _; have b5 := below_append b4 ho4 hg5 (Nat.le_refl _); clear hg5))
          have B5 := B3.trans (b5.mono B3.size)
          have BB := B5
          refine (implSort_any true none 0 0 [] (M : Int) _ rfl Reads.none_ (by omega) (fun x hx => by cases hx) HN.out).mono ?_
          rintro e w7 ⟨rfl, b7⟩
          go_wp2_with fail
          go_ret
          first
            | exact ⟨rfl, BB.trans (b7.mono BB.size)⟩
            | exact ⟨ret_bool (by simp; omega), BB.trans (b7.mono BB.size)⟩
        · clear R3 HQ HOK
          go_wp2_with (first
            | (at_builtin; refine wpList_append_any _ rfl (.tmp 34) (.tmp 35) 33 rfl w3.heap.size 37 i0 _ 2 16 Tryd.underlying33 hi0 hz0 hz1 hz2 rfl (by decide) _ 0 [] rfl OM.out w3.heap.size A0 L.length c0 (prCells L) rfl R4 (prCells_one _) (by unfold maxLen; omega) (by omega) (by simp) ?_; intro v4 w4 ho4 hg4 _; have b4 := ((Below.refl w3.heap.size w3).alloc (Nat.le_refl _) _).grown hg4 (by simp) (fun g e => (OM.out.lt g e).1); have hs4 := b4.size; clear hg4)
            | (at_builtin; refine wpList_append_own _ rfl (.tmp 36) (.tmp 40) 33 rfl w3.heap.size 37 i0 _ 2 16 Tryd.underlying33 hi0 hz0 hz1 hz2 rfl (by decide) _ _ _ rfl (ho4.alloc _) ⟨w4.heap.size, 0, none⟩ 1 1 [.int .i64 0, .int .i64 ((M : Int) - 1)] rfl rfl (cells_new _ _ _) (oneCells rfl) (by unfold maxLen; omega) (by omega) (by simp; omega) ?_; intro v5 w5 ho5 hg5 _; have b5 := below_append b4 ho4 hg5 (Nat.le_refl _); clear hg5))
          have B5 := B3.trans (b5.mono B3.size)
          have BB := B5
          refine (implSort_any true none 0 0 [] (M : Int) _ rfl Reads.none_ (by omega) (fun x hx => by cases hx) HN.out).mono ?_
          rintro e w7 ⟨rfl, b7⟩
          go_wp2_with fail
          go_ret
          first
            | exact ⟨rfl, BB.trans (b7.mono BB.size)⟩
            | exact ⟨ret_bool (by simp; omega), BB.trans (b7.mono BB.size)⟩
      · have HN := Lib.hid (show sortOf (M : Int) [] = false by rw [sortOf_nil h0 h10]; simpa using hM2)
        cases q
        · clear R3 HQ HOK
          go_wp2_with (first
            | (at_builtin; refine wpList_append_any _ rfl (.tmp 34) (.tmp 35) 33 rfl w3.heap.size 37 i0 _ 2 16 Tryd.underlying33 hi0 hz0 hz1 hz2 rfl (by decide) _ 0 [] rfl OM.out w3.heap.size A0 L.length c0 (prCells L) rfl R4 (prCells_one _) (by unfold maxLen; omega) (by omega) (by simp) ?_; intro v4 w4 ho4 hg4 _; have b4 := ((Below.refl w3.heap.size w3).alloc (Nat.le_refl _) _).grown hg4 (by simp) (fun g e => (OM.out.lt g e).1); have hs4 := b4.size; clear hg4)
            | (at_builtin; refine wpList_append_own _ rfl (.tmp 36) (.tmp 40) 33 rfl w3.heap.size 37 i0 _ 2 16 Tryd.underlying33 hi0 hz0 hz1 hz2 rfl (by decide) _ _ _ rfl (ho4.alloc _) ⟨w4.heap.size, 0, none⟩ 1 1 [.int .i64 0, .int .i64 ((M : Int) - 1)] rfl rfl (cells_new _ _ _) (oneCells rfl) (by unfold maxLen; omega) (by omega) (by simp; omega) ?_; intro v5 w5 ho5 hg5 _; have b5 := below_append b4 ho4 hg5 (Nat.le_refl _); clear hg5))
          have B5 := B3.trans (b5.mono B3.size)
          have BB := B5
          refine (implSort_any false none 0 0 [] (M : Int) _ rfl Reads.none_ (by omega) (fun x hx => by cases hx) HN.out).mono ?_
          rintro e w7 ⟨rfl, b7⟩
          go_wp2_with fail
          go_ret
          first
            | exact ⟨rfl, BB.trans (b7.mono BB.size)⟩
            | exact ⟨ret_bool (by simp; omega), BB.trans (b7.mono BB.size)⟩
        · have HMORE := Lib.hid (sort_more hle (by omega) HQ.out)
          have HOK2 := Lib.hid (show ∀ x ∈ L ++ [(0, (M : Int) - 1)], i64ok x.1 ∧ i64ok x.2 by
            intro x hx
            rcases List.mem_append.1 hx with hx | hx
            · exact HOK.out x hx
            · simp at hx; subst hx; unfold i64ok; simp only; omega)
          clear R3 HQ HOK
          go_wp2_with (first
            | (at_builtin; refine wpList_append_any _ rfl (.tmp 34) (.tmp 35) 33 rfl w3.heap.size 37 i0 _ 2 16 Tryd.underlying33 hi0 hz0 hz1 hz2 rfl (by decide) _ 0 [] rfl OM.out w3.heap.size A0 L.length c0 (prCells L) rfl R4 (prCells_one _) (by unfold maxLen; omega) (by omega) (by simp) ?_; intro v4 w4 ho4 hg4 _; have b4 := ((Below.refl w3.heap.size w3).alloc (Nat.le_refl _) _).grown hg4 (by simp) (fun g e => (OM.out.lt g e).1); have hs4 := b4.size; clear hg4)
            | (at_builtin; refine wpList_append_own _ rfl (.tmp 36) (.tmp 40) 33 rfl w3.heap.size 37 i0 _ 2 16 Tryd.underlying33 hi0 hz0 hz1 hz2 rfl (by decide) _ _ _ rfl (ho4.alloc _) ⟨w4.heap.size, 0, none⟩ 1 1 [.int .i64 0, .int .i64 ((M : Int) - 1)] rfl rfl (cells_new _ _ _) (oneCells rfl) (by unfold maxLen; omega) (by omega) (by simp; omega) ?_; intro v5 w5 ho5 hg5 _; have b5 := below_append b4 ho4 hg5 (Nat.le_refl _); clear hg5))
          have B5 := B3.trans (b5.mono B3.size)
          have hpc : [] ++ prCells L ++ [Value.int .i64 0, Value.int .i64 ((M : Int) - 1)] = prCells (L ++ [(0, (M : Int) - 1)]) := by rw [prCells_append]; rfl
          rw [hpc] at ho5
          obtain ⟨C, d, rfl, hd1, hd2, _⟩ := own_form' ho5
          refine (implSort_any true C _ d (L ++ [(0, (M : Int) - 1)]) (M : Int) _ (by rw [List.length_append]; simp) (Reads.of_own ho5) (by omega) HOK2.out HMORE.out).mono ?_
          rintro e w6 ⟨rfl, b6⟩
          have BB := B5.trans (b6.mono B5.size)
          clear hpc
          go_wp2_with fail
          refine (implSort_any false none 0 0 [] (M : Int) _ rfl Reads.none_ (by omega) (fun x hx => by cases hx) HN.out).mono ?_
          rintro e w7 ⟨rfl, b7⟩
          go_wp2_with fail
          go_ret
          first
            | exact ⟨rfl, BB.trans (b7.mono BB.size)⟩
            | exact ⟨ret_bool (by simp; omega), BB.trans (b7.mono BB.size)⟩
end Go.Proofs.YtnihhbmihbcgbaaDoor
