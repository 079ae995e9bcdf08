/- impl.tableAt, impl.CatalogValid, spec.CatalogValid. -/
import Derived.Test.YtcgmcikceohdoaaDoorCatX
namespace Go.Proofs.YtcgmcikceohdoaaDoor
open Go Go.RowKit
set_option maxRecDepth 100000

def namesOf (cs : List CatE) : List ByteArray := cs.map (·.1)
theorem namesOf_at {cs : List CatE} {k : Nat} {s : ByteArray} {x : List ByteArray × List (List Int)} (h : cs[k]? = some (s, x)) : (namesOf cs)[k]? = some s := by simp [namesOf, h]
theorem namesOf_len (cs : List CatE) : (namesOf cs).length = cs.length := by simp [namesOf]
/-- The look at element k. -/
def catAt (cs : List CatE) (k : Nat) : Bool := match cs[k]? with | some c => nameB c.1 && (!hasW ((namesOf cs).take k) c.1 && tableB c.2.1 c.2.2) | none => true
def catB (cs : List CatE) : Bool := (List.range cs.length).all (catAt cs) && decide (cs.length ≤ 4)
theorem catAt_some {cs : List CatE} {k : Nat} {s : ByteArray} {names : List ByteArray} {rows : List (List Int)} (h : cs[k]? = some (s, names, rows)) : catAt cs k = (nameB s && (!hasW ((namesOf cs).take k) s && tableB names rows)) := by simp [catAt, h]
theorem catB_bad {cs : List CatE} {k : Nat} (hk : k < cs.length) (h : catAt cs k = false) : catB cs = false := by
  have h0 : (List.range cs.length).all (catAt cs) = false := by
    rw [List.all_eq_false]
    exact ⟨k, List.mem_range.2 hk, by rw [h]; simp⟩
  unfold catB
  rw [h0]; rfl
theorem catB_good {cs : List CatE} (h : ∀ j, j < cs.length → catAt cs j = true) : catB cs = decide (cs.length ≤ 4) := by
  have h0 : (List.range cs.length).all (catAt cs) = true := by
    rw [List.all_eq_true]
    exact fun k hk => h k (List.mem_range.1 hk)
  unfold catB
  rw [h0]; rfl

set_option maxHeartbeats 800000 in
theorem tableAt1_is (s y : ByteArray) (A : Option Addr) (na ca : Nat) (B : Option Addr) (nb db : Nat) (p : Addr) (w : World) (hp : w.cell? p = some (.string y)) :
    Calls Tryd.prog 83 #[.agg #[.string s, .slice A na ca, .slice B nb db], .pointer (some p)] w fun e w' => e = .returned (.bool (decide (s = y))) ∧ Below w.heap.size w w' := by
  have b1 : Below w.heap.size w (w.alloc (.cells #[.string s, .slice A na ca, .slice B nb db] 58)) := (Below.refl _ _).alloc (Nat.le_refl _) _
  have hp1 := below_keep b1 hp
  by_cases h : s = y
  · subst h
    go_enter Tryd.func83, Tryd.ntmps83
    go_wp2_with fail
    go_ret
    exact ⟨ret_bool (by simp), b1⟩
  · have hne := str_ne h
    go_enter Tryd.func83, Tryd.ntmps83
    go_wp2_with fail
    go_ret
    exact ⟨ret_bool (by simp [h]), b1⟩
set_option maxHeartbeats 800000 in
theorem indexNamed_is (r : Int) (A : Option Addr) (n c : Nat) (cs : List CatE) (y : ByteArray) (p : Addr) (w : World) (hp : w.cell? p = some (.string y)) (hx : CatR w A n cs) (hn : n ≤ 1000000000) (hq : ColIs (namesOf cs) y r) :
    Calls Tryd.prog 82 #[.slice A n c, .func (.func 83) #[] #[.pointer (some p)]] w fun e w' => e = .returned (.int .i64 r) ∧ Below w.heap.size w w' := by
  have HX := Lib.hid (fun (wr : World) (hb : Below w.heap.size w wr) => hx.below hb)
  have HL := Lib.hid hx.1
  have HQ := Lib.hid hq
  have HP := Lib.hid hp
  clear hx hq hp
  go_enter Tryd.func82, Tryd.ntmps82
  go_wp2_with fail
  go_loopw [5, 8] (fun _ v wr => ∃ k : Nat, k ≤ n ∧ v = .int .i64 k ∧ Hid (hasW ((namesOf cs).take k) y = false) ∧ Below w.heap.size w wr) (fun _ v _ => n - (intOf v).toNat)
  case atStart => exact ⟨0, Nat.zero_le _, rfl, rfl, Below.refl _ _⟩
  case round =>
    obtain ⟨k, hk, rfl, hno, hb⟩ := hrel
    have hk0 : (0 : Int) ≤ (k : Int) := Int.natCast_nonneg _
    by_cases hlt : k < n
    · obtain ⟨ad, s, names, rows, Ak, ck, Bk, dk, rfl, hc, e1, e2, e3, tt⟩ := (HX.out wr hb).at_ hlt
      have hk1 : (k : Int) < (n : Int) := by omega
      have S := Lib.hid (tableAt1_is s y Ak names.length ck Bk rows.length dk p wr (below_keep hb HP.out))
      have HY := Lib.hid (namesOf_at hc)
      clear hc tt
      go_wp2_with fail
      refine S.out.mono ?_
      rintro e w2 ⟨rfl, b2⟩
      have hb2 := hb.trans (b2.mono hb.size)
      clear e1 e2 e3 b2
      by_cases hsy : s = y
      · subst hsy
        obtain rfl : r = (k : Int) := HQ.out.uniq (.inr ⟨k, rfl, by rw [namesOf_len]; have := HL.out; omega, HY.out, hno.out⟩)
        go_wp2_with fail
        go_ret
        exact ⟨rfl, hb2⟩
      · have hd : decide (s = y) = false := decide_eq_false hsy
        go_wp2_with fail
        go_roundw
        case rel =>
          refine ⟨k + 1, by omega, by go_num, ?_, hb2⟩
          unfold Hid hasW
          rw [List.take_add_one, HY.out, List.any_append, show (((namesOf cs).take k).any fun w => decide (y = w)) = false from hno.out]
          simp [Ne.symm hsy]
        case measure => simp [intOf]; omega
    · obtain rfl : k = n := by omega
      have h := hno.out
      rw [List.take_of_length_le (by rw [namesOf_len]; have := HL.out; omega)] at h
      obtain rfl : r = -1 := HQ.out.uniq (.inl ⟨rfl, h⟩)
      clear h
      go_wp2_with fail
      go_ret
      exact ⟨rfl, hb⟩
set_option maxHeartbeats 800000 in
theorem tableAt_is (r : Int) (A : Option Addr) (n c : Nat) (cs : List CatE) (y : ByteArray) (w : World) (hx : CatR w A n cs) (hn : n ≤ 1000000000) (hq : ColIs (namesOf cs) y r) :
    Calls Tryd.prog 69 #[.slice A n c, .string y] w fun e w' => e = .returned (.int .i64 r) ∧ Below w.heap.size w w' := by
  have b1 : Below w.heap.size w (w.alloc (.cells #[.string y] 9)) := (Below.refl _ _).alloc (Nat.le_refl _) _
  have k1 : Blk (w.alloc (.cells #[.string y] 9)) w.heap.size 9 #[.string y] := Blk.new _ _ _
  have c0 : (w.alloc (.cells #[.string y] 9)).cell? ⟨w.heap.size, 0, none⟩ = some (.string y) := by simp
  have IX := Lib.hid (indexNamed_is r A n c cs y ⟨w.heap.size, 0, none⟩ _ c0 (hx.below b1) hn hq)
  clear c0 hx hq k1
  go_enter Tryd.func69, Tryd.ntmps69
  go_wp2_with fail
  refine IX.out.mono ?_
  rintro e w2 ⟨rfl, b2⟩
  have B2 := b1.trans (b2.mono b1.size)
  go_wp2_with fail
  go_ret
  exact ⟨rfl, B2⟩
theorem colIs_here {xs : List ByteArray} {s : ByteArray} {k : Nat} {r : Int} (hr : ColIs xs s r) (hk : xs[k]? = some s) (h : hasW (xs.take k) s = false) : r = (k : Int) :=
  hr.uniq (.inr ⟨k, rfl, (List.getElem?_eq_some_iff.1 hk).1, hk, h⟩)
theorem colIs_off {xs : List ByteArray} {s : ByteArray} {k : Nat} {r : Int} (hr : ColIs xs s r) (h : hasW (xs.take k) s = true) : ¬ r = (k : Int) := by
  intro e
  rcases hr with ⟨rfl, _⟩ | ⟨j, rfl, _, _, g⟩
  · omega
  · have : j = k := by omega
    subst this
    rw [h] at g; cases g
set_option maxHeartbeats 1600000 in
theorem implCat_any (q : Bool) (A : Option Addr) (n c : Nat) (cs : List CatE) (RA : Option Addr) (RC : Nat) (w : World) (hv : w.cell? ⟨0, 0, none⟩ = some (.slice RA 13 RC)) (hr : Reads w w.heap.size 1 RA 13 (stCells resW))
    (hx : CatR w A n cs) (hn : n ≤ 1000000000) (hs : ∀ c ∈ cs, SmallE c) (hq : catB cs = q) :
    Calls Tryd.prog 38 #[.slice A n c] w fun e w' => e = .returned (.bool q) ∧ Below w.heap.size w w' := by
  have HX := Lib.hid (fun (wr : World) (hb : Below w.heap.size w wr) => hx.below hb)
  have HL := Lib.hid hx.1
  have HS := Lib.hid hs
  have HQ := Lib.hid hq
  have HV := Lib.hid (fun (wr : World) (hb : Below w.heap.size w wr) => And.intro (below_keep hb hv) ((hr.below hb).more hb.size))
  clear hx hq hs hv hr
  go_enter Tryd.func38, Tryd.ntmps38
  go_wp2_with fail
  go_loopw [3, 4, 7] (fun _ _ v wr => ∃ k : Nat, k ≤ n ∧ v = .int .i64 k ∧ Hid (∀ j, j < k → catAt cs j = true) ∧ Below w.heap.size w wr) (fun _ _ v _ => n - (intOf v).toNat)
  case atStart => exact ⟨0, Nat.zero_le _, rfl, fun j hj => by omega, Below.refl _ _⟩
  case round =>
    obtain ⟨k, hk, rfl, hok, hb⟩ := hrel
    have hk0 : (0 : Int) ≤ (k : Int) := Int.natCast_nonneg _
    by_cases hlt : k < n
    · obtain ⟨ad, s, names, rows, Ak, ck, Bk, dk, rfl, hc, e1, e2, e3, tt⟩ := (HX.out wr hb).at_ hlt
      have hk1 : (k : Int) < (n : Int) := by omega
      have hse := HS.out _ (List.mem_of_getElem? hc)
      have hsz : s.size ≤ 1048576 := hse.s
      obtain ⟨w1, hw1⟩ : ∃ w1, w1 = wr.alloc (.cells #[.string s, .slice Ak names.length ck, .slice Bk rows.length dk] 58) := ⟨_, rfl⟩
      have b1 : Below wr.heap.size wr w1 := by rw [hw1]; exact (Below.refl _ _).alloc (Nat.le_refl _) _
      have kb : Blk w1 wr.heap.size 58 #[.string s, .slice Ak names.length ck, .slice Bk rows.length dk] := by rw [hw1]; exact Blk.new _ _ _
      have B1 := hb.trans (b1.mono hb.size)
      have c0 := kb.cell 0
      simp at c0
      have KB := Lib.hid (fun (wq : World) (hq : Below w1.heap.size w1 wq) => kb.below hq kb.lt)
      obtain ⟨p, hp⟩ : ∃ p, nameB s = p := ⟨_, rfl⟩
      obtain ⟨u, hu⟩ : ∃ u, tableB names rows = u := ⟨_, rfl⟩
      obtain ⟨r, hr⟩ := ColIs.ex (namesOf cs) s
      have NM := Lib.hid (implName_any p s RA RC w1 (HV.out w1 B1).1 (HV.out w1 B1).2 (by omega) hp)
      have TA := Lib.hid (tableAt_is r (some ad) n c cs s w1 (HX.out w1 B1) hn hr)
      have TV := Lib.hid (fun (wq : World) (hq : Below w.heap.size w wq) (hq2 : Below w1.heap.size w1 wq) => implTab_any u _ names rows RA RC wq (HV.out wq hq).1 (HV.out wq hq).2 ((tt.below b1).below hq2) hse.t.ok hu)
      have HC := Lib.hid (catAt_some hc)
      have HK := Lib.hid (namesOf_at hc)
      have HR := Lib.hid hr
      have HP := Lib.hid hp
      have HU := Lib.hid hu
      have HKL := Lib.hid (show k < cs.length by have := HL.out; omega)
      have HW := Lib.hid hw1
      have HB1 := Lib.hid B1
      clear hc tt hse hp hu hr hb b1 kb B1
      go_wp2_with fail
      rw [← HW.out]
      clear hw1 e1 e2 e3
      refine NM.out.mono ?_
      rintro e w' ⟨rfl, rfl⟩
      cases p
      · go_wp2_with fail
        go_ret
        exact ⟨ret_bool (by rw [← HQ.out, catB_bad HKL.out (by rw [HC.out, HP.out]; rfl)]), HB1.out⟩
      · go_wp2_with fail
        refine TA.out.mono ?_
        rintro e w2 ⟨rfl, b2⟩
        have B2 := HB1.out.trans (b2.mono HB1.out.size)
        by_cases hw : hasW ((namesOf cs).take k) s = true
        · have hne := colIs_off HR.out hw
          have hne2 : (r != (k : Int)) = true := by simpa using hne
          have HH := Lib.hid hw
          clear hw
          go_wp2_with fail
          go_ret
          exact ⟨ret_bool (by rw [← HQ.out, catB_bad HKL.out (by rw [HC.out, HH.out]; simp)]), B2⟩
        · have hw' : hasW ((namesOf cs).take k) s = false := by simpa using hw
          obtain rfl : r = (k : Int) := colIs_here HR.out HK.out hw'
          have HH := Lib.hid hw'
          have TV' := Lib.hid (TV.out w2 B2 b2)
          have d1 := (KB.out w2 b2).cell 1
          have d2 := (KB.out w2 b2).cell 2
          simp at d1 d2
          clear hw hw' b2 c0
          go_wp2_with fail
          refine TV'.out.mono ?_
          rintro e w3 ⟨rfl, b3⟩
          have B3 := B2.trans (b3.mono B2.size)
          clear d1 d2 b3 B2
          cases u
          · go_wp2_with fail
            go_ret
            exact ⟨ret_bool (by rw [← HQ.out, catB_bad HKL.out (by rw [HC.out, HU.out]; simp)]), B3⟩
          · go_wp2_with fail
            go_roundw
            case rel =>
              refine ⟨k + 1, by omega, by go_num, fun j hj => ?_, B3⟩
              rcases Nat.lt_succ_iff_lt_or_eq.1 hj with h | rfl
              · exact hok.out j h
              · rw [HC.out, HP.out, HU.out, HH.out]; rfl
            case measure => simp [intOf]; omega
    · obtain rfl : k = n := by omega
      have hfin : q = decide (k ≤ 4) := by rw [← HQ.out, catB_good (by rw [HL.out]; exact hok.out), HL.out]
      by_cases h4 : k ≤ 4
      · have h4' : (k : Int) ≤ 4 := by omega
        obtain rfl : q = true := by rw [hfin]; exact decide_eq_true h4
        clear hfin
        go_wp2_with fail
        go_ret
        exact ⟨ret_bool (by first | (simp; done) | (simp; omega)), hb⟩
      · have h4' : ¬ (k : Int) ≤ 4 := by omega
        obtain rfl : q = false := by rw [hfin]; exact decide_eq_false h4
        clear hfin
        go_wp2_with fail
        go_ret
        exact ⟨ret_bool (by first | (simp; done) | (simp; omega)), hb⟩
set_option maxHeartbeats 1600000 in
theorem specCat_any (q : Bool) (A : Option Addr) (n c : Nat) (cs : List CatE) (w : World) (hx : CatR w A n cs) (hn : n ≤ 1000000000) (hs : ∀ c ∈ cs, SmallE c) (hq : catB cs = q) :
    Calls Tryd.prog 39 #[.slice A n c] w fun e w' => e = .returned (.bool q) ∧ Below w.heap.size w w' := by
  have HX := Lib.hid (fun (wr : World) (hb : Below w.heap.size w wr) => hx.below hb)
  have HL := Lib.hid hx.1
  have HS := Lib.hid hs
  have HQ := Lib.hid hq
  clear hx hq hs
  go_enter Tryd.func39, Tryd.ntmps39
  go_wp2_with fail
  go_loopw [3, 4] (fun v _ wr => ∃ k : Nat, k ≤ n ∧ v = .int .i64 k ∧ Hid (∀ j, j < k → catAt cs j = true) ∧ Below w.heap.size w wr) (fun v _ _ => n - (intOf v).toNat)
  case atStart => exact ⟨0, Nat.zero_le _, rfl, fun j hj => by omega, Below.refl _ _⟩
  case round =>
    obtain ⟨k, hk, rfl, hok, hb⟩ := hrel
    have hk0 : (0 : Int) ≤ (k : Int) := Int.natCast_nonneg _
    by_cases hlt : k < n
    · obtain ⟨ad, s, names, rows, Ak, ck, Bk, dk, rfl, hc, e1, e2, e3, tt⟩ := (HX.out wr hb).at_ hlt
      have hk1 : (k : Int) < (n : Int) := by omega
      have hse := HS.out _ (List.mem_of_getElem? hc)
      have hsz : s.size ≤ 1048576 := hse.s
      obtain ⟨p, hp⟩ : ∃ p, nameB s = p := ⟨_, rfl⟩
      obtain ⟨u, hu⟩ : ∃ u, tableB names rows = u := ⟨_, rfl⟩
      have NM := Lib.hid (specName_any p s wr (by omega) hp)
      have TV := Lib.hid (fun (wq : World) (hq : Below wr.heap.size wr wq) => specTab_any u _ names rows wq (tt.below hq) hse.t.ok hu)
      have HE := Lib.hid (fun (wq : World) (hq : Below wr.heap.size wr wq) => And.intro (below_keep hq e2) (below_keep hq e3))
      have HC := Lib.hid (catAt_some hc)
      have HK := Lib.hid (namesOf_at hc)
      have HCC := Lib.hid hc
      have HP := Lib.hid hp
      have HU := Lib.hid hu
      have HKL := Lib.hid (show k < cs.length by have := HL.out; omega)
      have HB := Lib.hid hb
      clear hc tt hse hp hu hb e2 e3
      go_wp2_with fail
      refine NM.out.mono ?_
      rintro e w2 ⟨rfl, b2⟩
      have B2 := HB.out.trans (b2.mono HB.out.size)
      clear e1
      cases p
      · go_wp2_with fail
        go_ret
        exact ⟨ret_bool (by rw [← HQ.out, catB_bad HKL.out (by rw [HC.out, HP.out]; rfl)]), B2⟩
      · have d2 := (HE.out w2 b2).1
        have d3 := (HE.out w2 b2).2
        have TV' := Lib.hid (TV.out w2 b2)
        clear b2
        go_wp2_with fail
        refine TV'.out.mono ?_
        rintro e w3 ⟨rfl, b3⟩
        have B3 := B2.trans (b3.mono B2.size)
        clear d2 d3 b3 B2
        cases u
        · go_wp2_with fail
          go_ret
          exact ⟨ret_bool (by rw [← HQ.out, catB_bad HKL.out (by rw [HC.out, HU.out]; simp)]), B3⟩
        · go_wp2_with fail
          go_loopw [4] (fun v wr => ∃ j : Nat, j ≤ k ∧ v = .int .i64 j ∧ Hid (hasW ((namesOf cs).take j) s = false) ∧ Below w.heap.size w wr) (fun v _ => k - (intOf v).toNat)
          case atStart => exact ⟨0, Nat.zero_le _, rfl, rfl, B3⟩
          case round =>
            obtain ⟨j, hj, rfl, hno, hbj⟩ := hrel
            have hj0 : (0 : Int) ≤ (j : Int) := Int.natCast_nonneg _
            by_cases hjk : j < k
            · obtain ⟨ad1, s1, names1, rows1, Ak1, ck1, Bk1, dk1, hA1, hc1, e1, _, _, _⟩ := (HX.out wr hbj).at_ (show j < n by omega)
              obtain rfl := Option.some.inj hA1
              obtain ⟨ad2, s2, names2, rows2, Ak2, ck2, Bk2, dk2, hA2, hc2, f1, _, _, _⟩ := (HX.out wr hbj).at_ hlt
              obtain rfl := Option.some.inj hA2
              obtain ⟨rfl, rfl, rfl⟩ : s = s2 ∧ names = names2 ∧ rows = rows2 := by
                have := Option.some.inj (HCC.out.symm.trans hc2)
                simp only [Prod.mk.injEq] at this
                exact this
              have hj1 : (j : Int) < (n : Int) := by omega
              have HY := Lib.hid (namesOf_at hc1)
              clear hc1 hc2 hA1 hA2
              by_cases hs1 : s1 = s
              · subst hs1
                go_wp2_with fail
                go_quiet (fail)
                go_wp2_with fail
                go_ret
                have hw : hasW ((namesOf cs).take k) s1 = true := by
                  unfold hasW
                  refine List.any_eq_true.2 ⟨s1, ?_, by simp⟩
                  exact List.mem_of_getElem? (i := j) (by rw [List.getElem?_take, if_pos hjk]; exact HY.out)
                exact ⟨ret_bool (by rw [← HQ.out, catB_bad HKL.out (by rw [HC.out, hw]; simp)]), below_drewN' hbj nq⟩
              · have hne := str_ne hs1
                go_wp2_with fail
                go_quiet (fail)
                go_wp2_with fail
                go_roundw
                case rel =>
                  refine ⟨j + 1, by omega, by go_num, ?_, below_drewN' hbj nq⟩
                  unfold Hid hasW
                  rw [List.take_add_one, HY.out, List.any_append, show (((namesOf cs).take j).any fun w => decide (s = w)) = false from hno.out]
                  simp [Ne.symm hs1]
                case measure => simp [intOf]; omega
            · obtain rfl : j = k := by omega
              go_wp2_with fail
              go_roundw
              case rel =>
                refine ⟨j + 1, by omega, by go_num, fun i hi => ?_, hbj⟩
                rcases Nat.lt_succ_iff_lt_or_eq.1 hi with h | rfl
                · exact hok.out i h
                · rw [HC.out, HP.out, HU.out, hno.out]; rfl
              case measure => simp [intOf]; omega
    · obtain rfl : k = n := by omega
      have hfin : q = decide (k ≤ 4) := by rw [← HQ.out, catB_good (by rw [HL.out]; exact hok.out), HL.out]
      by_cases h4 : k ≤ 4
      · have h4' : (k : Int) ≤ 4 := by omega
        obtain rfl : q = true := by rw [hfin]; exact decide_eq_true h4
        clear hfin
        go_wp2_with fail
        go_ret
        exact ⟨ret_bool (by first | (simp; done) | (simp; omega)), hb⟩
      · have h4' : ¬ (k : Int) ≤ 4 := by omega
        obtain rfl : q = false := by rw [hfin]; exact decide_eq_false h4
        clear hfin
        go_wp2_with fail
        go_ret
        exact ⟨ret_bool (by first | (simp; done) | (simp; omega)), hb⟩
end Go.Proofs.YtcgmcikceohdoaaDoor
