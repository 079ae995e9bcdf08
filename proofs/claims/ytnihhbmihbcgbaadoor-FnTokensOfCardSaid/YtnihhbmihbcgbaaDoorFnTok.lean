/- laws.FnTokensOf: the walk. -/
import Derived.Test.YtnihhbmihbcgbaaDoorSameL
import Derived.Test.YtnihhbmihbcgbaaDoorDrawTok
import Derived.Test.YtnihhbmihbcgbaaDoorTokPlain
import Derived.Test.YtnihhbmihbcgbaaDoorTokSpec
namespace Go.Proofs.YtnihhbmihbcgbaaDoor
open Go Go.RowKit
set_option maxRecDepth 100000

theorem sb_append (a b : ByteArray) : sb (a ++ b) = sb a ++ sb b := by simp [sb, ByteArray.data_append]
theorem sb_inj {a b : ByteArray} (h : sb a = sb b) : a = b := ByteArray.ext (Array.toList_inj.1 h)
theorem flat_snoc (T : List ByteArray) (k : Nat) (t : ByteArray) (h : T[k]? = some t) : ((T.take (k + 1)).map sb).flatten = ((T.take k).map sb).flatten ++ sb t := by
  rw [List.take_add_one, h]; simp
theorem filt_snoc (L : List UInt8) (k : Nat) (c : UInt8) (h : L[k]? = some c) : (L.take (k + 1)).filter (fun c => decide (c ≠ 32)) = (L.take k).filter (fun c => decide (c ≠ 32)) ++ (if c = 32 then [] else [c]) := by
  rw [List.take_add_one, h, List.filter_append]
  congr 1
  by_cases hc : c = 32
  · subst hc; rfl
  · rw [if_neg hc]
    simp [hc]
theorem sb_one (s : ByteArray) (k : Nat) (c : UInt8) (h : (sb s)[k]? = some c) : sb (s.extract k (k + 1)) = [c] := by
  rw [sb_extract]
  have hk := (List.getElem?_eq_some_iff.1 h).1
  rw [List.drop_take, show k + 1 - k = 1 by omega]
  obtain ⟨h1, e⟩ := List.getElem?_eq_some_iff.1 h
  rw [List.drop_eq_getElem_cons h1, e]
  rfl

set_option maxHeartbeats 1600000 in
theorem fnTok_walk {w : World} (A : Option Addr) (n c : Nat) (xs : List UInt8) (hl : xs.length = n) (hc : n ≤ c) (hm : c ≤ maxLen) (hx : Reads w w.heap.size 1 A n (byCells xs))
    (RA : Option Addr) (RC : Nat) (hv : w.cell? ⟨0, 0, none⟩ = some (.slice RA 13 RC)) (hr : Reads w w.heap.size 1 RA 13 (stCells resW)) :
    Calls Tryd.prog 11 #[.slice A n c] w fun e w' => e = .returned (.bool true) ∧ Below w.heap.size w w' := by
  by_cases hbig : (1048576 : Int) < (n : Int)
  · clear hx hr
    go_enter Tryd.func11, Tryd.ntmps11
    go_wp2_with fail
    go_ret
    exact ⟨rfl, Below.refl _ _⟩
  · have HD := Lib.hid (drawTok_any A n c xs w hx hl (by omega) hc hm)
    have HV := Lib.hid (fun (w' : World) (hb : Below w.heap.size w w') => alive_yes RA RC w' (below_keep hb hv) ((hr.below hb).more hb.size))
    clear hx hr hl hv
    go_enter Tryd.func11, Tryd.ntmps11
    go_wp2_with fail
    refine HD.out.mono ?_
    rintro e w1 ⟨s, rfl, hs, b1⟩
    obtain ⟨O, hO⟩ : ∃ O, tokensOf s = O := ⟨_, rfl⟩
    have IM := Lib.hid (implTokens_any s O w1 hO (by omega))
    have SP := Lib.hid (fun w' => specTokens_any s O w' hO (by omega))
    have HO := Lib.hid hO
    clear hO HD
    go_wp2_with fail
    refine IM.out.mono ?_
    rintro e w2 ⟨v2, rfl, o2, b2⟩
    obtain ⟨A2, c2, rfl, _, _⟩ := own_form o2
    have B2 := b1.trans (b2.mono b1.size)
    go_wp2_with fail
    refine (SP.out w2).mono ?_
    rintro e w3 ⟨v3, rfl, o3, b3⟩
    obtain ⟨A3, c3, rfl, _, _⟩ := own_form o3
    have o2' := own_below o2 b3
    have B3 := B2.trans (b3.mono B2.size)
    cases O with
    | none =>
      simp only [Option.getD_none, List.length_nil, Option.isSome_none] at o2' o3 ⊢
      go_wp2_with fail
      refine (sameTexts_yes A2 A3 0 c2 c3 [] _ rfl (Reads.of_own o2') (Reads.of_own o3) (by omega)).mono ?_
      rintro e w4 ⟨rfl, b4⟩
      have B4 := B3.trans (b4.mono B3.size)
      have AL := Lib.hid (HV.out w4 B4)
      clear o2 o2' o3
      go_wp2_with fail
      refine AL.out.mono ?_
      rintro e w' ⟨rfl, rfl⟩
      go_wp2_with fail
      go_ret
      exact ⟨rfl, B4⟩
    | some T =>
      obtain ⟨q1, q2, q3⟩ := tokensOf_parts HO.out
      have hTl : T.length ≤ 100 := by
        have h1 := toks_count HO.out
        omega
      have Q2 := Lib.hid q2
      have Q3 := Lib.hid q3
      simp only [Option.getD_some, Option.isSome_some] at o2' o3 ⊢
      clear q2 q3 IM SP HV o2
      go_wp2_with fail
      refine (sameTexts_yes A2 A3 T.length c2 c3 T _ rfl (Reads.of_own o2') (Reads.of_own o3) (by omega)).mono ?_
      rintro e w4 ⟨rfl, b4⟩
      have B4 := B3.trans (b4.mono B3.size)
      have R4 := Reads.of_own (own_below o2' b4)
      clear o2' o3 b1 b2 b3 b4 B2 B3
      go_wp2_with fail
      go_loopw [8, 9, 10, 11] (fun av kv _ _ wr => ∃ (k : Nat) (a : ByteArray), av = .string a ∧ kv = .int .i64 k ∧ k ≤ T.length ∧ a.size ≤ 1000 * k ∧ Hid (sb a = ((T.take k).map sb).flatten) ∧ Below w.heap.size w wr ∧ Below w4.heap.size w4 wr) (fun _ kv _ _ _ => 200 - (intOf kv).toNat)
      case atStart => exact ⟨0, ByteArray.empty, rfl, rfl, Nat.zero_le _, by simp, rfl, B4, Below.refl _ _⟩
      case round =>
        obtain ⟨k, a, rfl, rfl, hk, has, hsa, hbk, hbk4⟩ := hrel
        by_cases hkl : k < T.length
        · obtain ⟨ad, t, rfl, _, ht, e1⟩ := st_at (R4.below hbk4) rfl hkl
          have ht2 := Q3.out t (List.mem_of_getElem? ht)
          have hts := ht2.2
          have TI := Lib.hid (implTokens_any t (some [t]) wr ht2.1 (by omega))
          have HT := Lib.hid ht
          have hk0 : (0 : Int) ≤ (k : Int) := by omega
          have hk1 : (k : Int) < (T.length : Int) := by omega
          clear ht ht2 R4
          go_wp2_with fail
          refine TI.out.mono ?_
          rintro e w5 ⟨v5, rfl, o5, b5⟩
          obtain ⟨A5, c5, rfl, _, _⟩ := own_form o5
          have hb5 := hbk.trans (b5.mono hbk.size)
          have hb54 := hbk4.trans (b5.mono hbk4.size)
          have e2 := below_keep b5 e1
          simp only [Option.getD_some, List.length_singleton, Option.isSome_some]
          clear e1 o5 b5
          go_wp2_with fail
          go_roundw
          case rel => exact ⟨k + 1, a ++ t, rfl, by go_num, by omega, by rw [ByteArray.size_append]; omega, by unfold Hid; rw [flat_snoc T k t HT.out, sb_append, hsa.out], hb5, hb54⟩
          case measure => simp [intOf]; omega
        · obtain rfl : k = T.length := by omega
          have hall : sb a = (sb s).filter (fun c => decide (c ≠ 32)) := by rw [hsa.out, List.take_of_length_le (Nat.le_refl _), Q2.out]
          have HALL := Lib.hid hall
          clear hall R4
          go_wp2_with fail
          go_loopw [12, 13] (fun bv jv wr => ∃ (j : Nat) (b : ByteArray), bv = .string b ∧ jv = .int .i64 j ∧ j ≤ s.size ∧ b.size ≤ j ∧ Hid (sb b = ((sb s).take j).filter (fun c => decide (c ≠ 32))) ∧ Below w.heap.size w wr) (fun _ jv _ => 2000 - (intOf jv).toNat)
          case atStart => exact ⟨0, ByteArray.empty, rfl, rfl, Nat.zero_le _, by simp, rfl, hbk⟩
          case round =>
            obtain ⟨j, b, rfl, rfl, hj, hbs, hsb, hbj⟩ := hrel
            by_cases hjl : j < s.size
            · obtain ⟨ch, hch⟩ : ∃ ch, (sb s)[j]? = some ch := ⟨_, List.getElem?_eq_getElem (by rw [sb_len]; exact hjl)⟩
              obtain ⟨hjs, hsc⟩ := sb_at hch
              have HCH := Lib.hid hch
              have hj0 : (0 : Int) ≤ (j : Int) := by omega
              have hj1 : (j : Int) < (s.size : Int) := by omega
              have hj2 : (j : Int) + 1 ≤ (s.size : Int) := by omega
              clear hch
              by_cases h32 : ch = 32
              · subst h32
                go_wp2_with fail
                go_roundw
                case rel => exact ⟨j + 1, b, rfl, by go_num, by omega, by omega, by unfold Hid; rw [filt_snoc _ j _ HCH.out, if_pos rfl, List.append_nil]; exact hsb.out, hbj⟩
                case measure => simp [intOf]; omega
              · obtain ⟨m, hmm⟩ : ∃ m, ch.toNat = m := ⟨_, rfl⟩
                have hne : ((m : Int) == 32) = false := beqF (by have := u8_ne (n := 32) (by omega) h32; omega)
                have hne2 : ¬ (m : Int) = 32 := by have := u8_ne (n := 32) (by omega) h32; omega
                go_wp2_with fail
                go_roundw
                case rel => exact ⟨j + 1, b ++ s.extract j (j + 1), rfl, by go_num, by omega, by rw [ByteArray.size_append, ByteArray.size_extract]; omega, by unfold Hid; rw [filt_snoc _ j _ HCH.out, if_neg h32, sb_append, sb_one s j ch HCH.out, hsb.out], hbj⟩
                case measure => simp [intOf]; omega
            · obtain rfl : j = s.size := by omega
              obtain rfl : a = b := by
                refine sb_inj ?_
                rw [HALL.out, hsb.out, List.take_of_length_le (by rw [sb_len]; exact Nat.le_refl _)]
              have hj1 : ¬ (s.size : Int) < (s.size : Int) := by omega
              go_wp2_with fail
              go_ret
              exact ⟨rfl, hbj⟩
end Go.Proofs.YtnihhbmihbcgbaaDoor
