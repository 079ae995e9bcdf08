/- ReadNumber: the program's and the reference's. -/
import Derived.Test.YtcfjgieiaioinaaDoorNum
import Derived.Test.YtcfjgieiaioinaaDoorTok
namespace Go.Proofs.YtcfjgieiaioinaaDoor
open Go Go.RowKit
set_option maxRecDepth 100000
/-- Atoi at every string, in the words of ReadNumber: the number, no error; or no number of the program's, and an error. -/
theorem atoi_c (s : ByteArray) (hs : s.size ≤ 2000000) (w : World) (hL : LV w) :
    Calls Tryd.prog 19 #[.string s] w fun e w' => ((∃ v : Int, Lib.atoiAll s.data.toList = .ok v ∧ e = .returned (.tuple #[.int .i64 v, .nilIface])) ∨ ((∀ v, Lib.atoiAll s.data.toList ≠ .ok v) ∧ ∃ (x : Int) (t : TypeId) (p : Value), e = .returned (.tuple #[.int .i64 x, .iface t p]))) ∧ Below w.heap.size w w' := by
  obtain ⟨hN, ⟨t1, p1, h1⟩, ⟨t2, p2, h2⟩⟩ := hL
  cases ha : Lib.atoiAll s.data.toList with
  | ok v =>
    refine (Tryd.strconv_Atoi_ok s (by omega) v ha w).mono ?_
    rintro e w' ⟨rfl, hw⟩
    refine ⟨.inl ⟨v, rfl, rfl⟩, ?_⟩
    rcases hw with rfl | ⟨t, rfl⟩
    · exact Below.refl _ _
    · exact Lib.bytesWorld_below _ _ _
  | «syntax» =>
    refine (Tryd.strconv_Atoi_syntax s (by omega) ha _ w h1 (.inr ⟨_, _, rfl⟩)).mono ?_
    rintro e w' ⟨N, rfl, _, _, hb⟩
    exact ⟨.inr ⟨fun v h => (by cases h), _, _, _, rfl⟩, hb⟩
  | range =>
    refine (Tryd.strconv_Atoi_range s (by omega) ha _ w h2 (.inr ⟨_, _, rfl⟩)).mono ?_
    rintro e w' ⟨N, rfl, _, _, hb⟩
    exact ⟨.inr ⟨fun v h => (by cases h), _, _, _, rfl⟩, hb⟩
set_option maxHeartbeats 1600000 in
theorem implRead_any (s : ByteArray) (n : Int) (ok : Bool) (hR : ReadIs s n ok) (hs : s.size ≤ 2000000) (w : World) (hL : LV w) :
    Calls Tryd.prog 10 #[.string s] w fun e w' => e = .returned (.tuple #[.int .i64 n, .bool ok]) ∧ Below w.heap.size w w' := by
  have AC := Lib.hid (atoi_c s hs w hL)
  have HL := Lib.hid (fun (w' : World) (hb : Below w.heap.size w w') => hL.below hb)
  have HR := Lib.hid hR
  clear hL hR
  go_enter Tryd.func10, Tryd.ntmps10
  go_wp2_with fail
  refine AC.out.mono ?_
  rintro e w1 ⟨hc, b1⟩
  clear AC
  rcases hc with ⟨v, hv, rfl⟩ | ⟨hno, x, t, p, rfl⟩
  · have NU := Lib.hid (implNum_any v w1 (HL.out w1 b1).tab)
    by_cases hq : numS v = s
    · have hne : s.size ≠ 0 := by
        intro h0
        have : s.data.toList = [] := List.eq_nil_of_length_eq_zero (by rw [Array.length_toList]; exact h0)
        rw [this] at hv
        simp [Lib.atoiAll] at hv
      have HQ := Lib.hid ((numS_eq hne).1 hq)
      have HQ2 := Lib.hid (HR.out.yes HQ.out.1 HQ.out.2)
      rw [hq] at NU
      clear hq hv
      go_wp2_with fail
      refine NU.out.mono ?_
      rintro e w2 ⟨rfl, b2⟩
      have B2 := b1.trans (b2.mono b1.size)
      go_wp2_with fail
      go_ret2
      obtain ⟨rfl, rfl⟩ := HQ2.out
      exact ⟨rfl, B2⟩
    · have hne := str_ne hq
      have HQ2 := Lib.hid (HR.out.no (fun u hu hsu => by
        have e := read_atoi hv hu hsu
        subst e
        exact hq (by rw [numS_yes hu, ← hsu])))
      obtain ⟨S, hS⟩ : ∃ S, numS v = S := ⟨_, rfl⟩
      rw [hS] at NU hne
      clear hq hv hS
      go_wp2_with fail
      refine NU.out.mono ?_
      rintro e w2 ⟨rfl, b2⟩
      have B2 := b1.trans (b2.mono b1.size)
      go_wp2_with fail
      go_ret2
      obtain ⟨rfl, rfl⟩ := HQ2.out
      exact ⟨rfl, B2⟩
  · have HQ2 := Lib.hid (HR.out.no (atoi_none hno))
    clear hno
    go_wp2_with fail
    go_ret2
    obtain ⟨rfl, rfl⟩ := HQ2.out
    exact ⟨rfl, b1⟩
set_option maxHeartbeats 3200000 in
theorem specRead_any (s : ByteArray) (n : Int) (ok : Bool) (hR : ReadIs s n ok) (hs : s.size ≤ 2000000) (w : World) :
    Calls Tryd.prog 9 #[.string s] w fun e w' => e = .returned (.tuple #[.int .i64 n, .bool ok]) ∧ Below w.heap.size w w' := by
  have HR := Lib.hid hR
  clear hR
  go_enter Tryd.func9, Tryd.ntmps9
  go_wp2_with fail
  go_loopw [4, 5] (fun nv kv wr => ∃ k m : Nat, nv = .int .i64 m ∧ kv = .int .i64 k ∧ k ≤ s.size ∧ Hid (RdInv (sb s) k m) ∧ w = wr) (fun _ kv _ => s.size - (intOf kv).toNat)
  case atStart => exact ⟨0, 0, rfl, rfl, Nat.zero_le _, Lib.hid (RdInv.zero _), rfl⟩
  case round =>
    obtain ⟨k, m, rfl, rfl, hk, hI, rfl⟩ := hrel
    have hk0 : (0 : Int) ≤ (k : Int) := Int.natCast_nonneg _
    have hm8 := hI.out.small
    by_cases hlt : k < s.size
    · have hk1 : (k : Int) < (s.size : Int) := by omega
      obtain ⟨c, hc⟩ : ∃ c, (sb s)[k]? = some c := ⟨_, List.getElem?_eq_getElem (by rw [sb_len]; exact hlt)⟩
      obtain ⟨_, hsb⟩ := sb_at hc
      have HC := Lib.hid hc
      obtain ⟨y, hy⟩ : ∃ y, c.toNat = y := ⟨_, rfl⟩
      have hy256 : y < 256 := by rw [← hy]; exact c.toNat_lt
      have LD := Lib.hid (fun (q : Bool) (w' : World) (h : isD c = q) => l2Digit_is q c w' h)
      rw [hy] at LD
      by_cases h45 : y = 45
      · have hc45 : c = 45 := by
          apply UInt8.toNat.inj
          rw [hy, h45]
          rfl
        subst h45
        rcases Nat.eq_zero_or_pos k with hz | hz
        · subst hz
          have HI2 := Lib.hid (hI.out.minus (by rw [HC.out, hc45]))
          clear hI hc hc45
          go_wp2_with fail
          go_roundw
          case rel => exact ⟨1, m, rfl, rfl, by omega, HI2, by first | trivial | rfl⟩
          case measure => simp [intOf]; omega
        · have HE := Lib.hid (fun v hv => RdInv.early (k := k) HC.out (by omega) (.inl (by omega)) v hv)
          have hkz : ((k : Int) == 0) = false := by simp; omega
          have L1 := Lib.hid (LD.out false w (by unfold isD; simp; omega))
          clear hI hc hc45
          go_wp2_with fail
          refine L1.out.mono ?_
          rintro e w' ⟨rfl, rfl⟩
          go_wp2_with fail
          go_ret2
          obtain ⟨rfl, rfl⟩ := HR.out.no HE.out
          exact ⟨rfl, Below.refl _ _⟩
      · have hy45 : ((y : Int) == 45) = false := by simp; omega
        by_cases hd : 48 ≤ y ∧ y ≤ 57
        · by_cases h7 : k ≤ 7
          · have hk7 : ¬ (7 : Int) < (k : Int) := by omega
            have L1 := Lib.hid (LD.out true w (by unfold isD; simp; omega))
            have HI2 := Lib.hid (hI.out.digit HC.out (by omega) (by omega) h7)
            rw [hy] at HI2
            obtain ⟨hd0, hd1⟩ := hd
            have hd0' : (48 : Int) ≤ (y : Int) := by omega
            clear hI hc
            go_wp2_with fail
            refine L1.out.mono ?_
            rintro e w' ⟨rfl, rfl⟩
            go_wp2_with fail
            go_roundw
            case rel => exact ⟨k + 1, 10 * m + (y - 48), by go_num, by go_num, by omega, HI2, by first | trivial | rfl⟩
            case measure => simp [intOf]; omega
          · have hk7 : (7 : Int) < (k : Int) := by omega
            have L1 := Lib.hid (LD.out true w (by unfold isD; simp; omega))
            have HE := Lib.hid (fun v hv => RdInv.early (k := k) HC.out (by omega) (.inr (by omega)) v hv)
            clear hI hc
            go_wp2_with fail
            refine L1.out.mono ?_
            rintro e w' ⟨rfl, rfl⟩
            go_wp2_with fail
            go_ret2
            obtain ⟨rfl, rfl⟩ := HR.out.no HE.out
            exact ⟨rfl, Below.refl _ _⟩
        · have L1 := Lib.hid (LD.out false w (by unfold isD; simp; omega))
          have HE := Lib.hid (fun v hv => RdInv.early (k := k) HC.out (by intro h; rw [h.1] at hy; exact h45 hy.symm) (.inl (by omega)) v hv)
          clear hI hc
          go_wp2_with fail
          refine L1.out.mono ?_
          rintro e w' ⟨rfl, rfl⟩
          go_wp2_with fail
          go_ret2
          obtain ⟨rfl, rfl⟩ := HR.out.no HE.out
          exact ⟨rfl, Below.refl _ _⟩
    · obtain rfl : k = s.size := by omega
      have hlt' : ¬ (s.size : Int) < (s.size : Int) := by omega
      by_cases hs0 : s = ⟨#[]⟩
      · have HE := Lib.hid (HR.out.no (fun v _ h => by rw [hs0] at h; exact itoa_ne v h.symm))
        subst hs0
        clear hI
        go_wp2_with fail
        go_ret2
        obtain ⟨rfl, rfl⟩ := HE.out
        exact ⟨rfl, Below.refl _ _⟩
      · have hnl : (s.toList = []) = False := by
          refine eq_false (fun h => hs0 ?_)
          rw [ByteArray.toList_eq] at h
          exact ByteArray.ext (Array.toList_inj.1 h)
        have hie : s.toList.isEmpty = false := by
          cases h : s.toList with
          | nil => exact absurd h (by rw [hnl]; exact id)
          | cons a r => rfl
        have hsz : s.size ≠ 0 := fun h => hs0 (ByteArray.ext (Array.eq_empty_of_size_eq_zero h))
        obtain ⟨c, hc⟩ : ∃ c, (sb s)[0]? = some c := ⟨_, List.getElem?_eq_getElem (by rw [sb_len]; omega)⟩
        obtain ⟨_, hsb⟩ := sb_at hc
        have HC := Lib.hid hc
        obtain ⟨y, hy⟩ : ∃ y, c.toNat = y := ⟨_, rfl⟩
        have hsz0 : (0 : Int) < (s.size : Int) := by omega
        have HEND := Lib.hid (fun (v : Int) (h : sb s = Lib.itoa v) => hI.out.end_ (by rw [sb_len]; exact Nat.le_refl _) h)
        have hhead : (sb s).head? = some c := by rw [← hc, List.head?_eq_getElem?]
        by_cases h45 : y = 45
        · have hc45 : c = 45 := by
            apply UInt8.toNat.inj
            rw [hy, h45]
            rfl
          subst h45
          have HV := Lib.hid (fun (v : Int) (h : sb s = Lib.itoa v) => show v = -(m : Int) by
            have h1 := HEND.out v h
            have h2 : v < 0 := (itoa_head v).1 (by rw [← h, hhead, hc45])
            rw [if_pos h2] at h1
            exact h1)
          have NU := Lib.hid (specNum_any (-(m : Int)) w)
          clear hI HEND hc hhead
          by_cases hq : numS (-(m : Int)) = s
          · have HQ := Lib.hid (HR.out.yes ((numS_eq hsz).1 hq).1 ((numS_eq hsz).1 hq).2)
            rw [hq] at NU
            clear hq HV
            go_wp2_with fail
            refine NU.out.mono ?_
            rintro e w2 ⟨rfl, b2⟩
            go_wp2_with fail
            go_ret2
            obtain ⟨rfl, rfl⟩ := HQ.out
            exact ⟨rfl, b2⟩
          · have hnq := str_ne hq
            have HQ := Lib.hid (HR.out.no (fun u hu h => hq ((numS_eq hsz).2 (by have e := HV.out u h; subst e; exact ⟨hu, h⟩))))
            obtain ⟨S, hS⟩ : ∃ S, numS (-(m : Int)) = S := ⟨_, rfl⟩
            rw [hS] at NU hnq
            clear hq HV hS
            go_wp2_with fail
            refine NU.out.mono ?_
            rintro e w2 ⟨rfl, b2⟩
            go_wp2_with fail
            go_ret2
            obtain ⟨rfl, rfl⟩ := HQ.out
            exact ⟨rfl, b2⟩
        · have hy45 : ((y : Int) == 45) = false := by simp; omega
          have HV := Lib.hid (fun (v : Int) (h : sb s = Lib.itoa v) => show v = (m : Int) by
            have h1 := HEND.out v h
            have h2 : ¬ v < 0 := fun hv => by
              have h3 := (itoa_head v).2 hv
              rw [← h, hhead] at h3
              exact h45 (by rw [← hy, Option.some.inj h3]; rfl)
            rw [if_neg h2] at h1
            exact h1)
          have NU := Lib.hid (specNum_any (m : Int) w)
          clear hI HEND hc hhead
          by_cases hq : numS (m : Int) = s
          · have HQ := Lib.hid (HR.out.yes ((numS_eq hsz).1 hq).1 ((numS_eq hsz).1 hq).2)
            rw [hq] at NU
            clear hq HV
            go_wp2_with fail
            refine NU.out.mono ?_
            rintro e w2 ⟨rfl, b2⟩
            go_wp2_with fail
            go_ret2
            obtain ⟨rfl, rfl⟩ := HQ.out
            exact ⟨rfl, b2⟩
          · have hnq := str_ne hq
            have HQ := Lib.hid (HR.out.no (fun u hu h => hq ((numS_eq hsz).2 (by have e := HV.out u h; subst e; exact ⟨hu, h⟩))))
            obtain ⟨S, hS⟩ : ∃ S, numS (m : Int) = S := ⟨_, rfl⟩
            rw [hS] at NU hnq
            clear hq HV hS
            go_wp2_with fail
            refine NU.out.mono ?_
            rintro e w2 ⟨rfl, b2⟩
            go_wp2_with fail
            go_ret2
            obtain ⟨rfl, rfl⟩ := HQ.out
            exact ⟨rfl, b2⟩
end Go.Proofs.YtcfjgieiaioinaaDoor
