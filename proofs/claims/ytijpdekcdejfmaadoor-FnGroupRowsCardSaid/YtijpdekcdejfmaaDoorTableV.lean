/- impl.TableValid; spec.l1Names, spec.TableValid. -/
import Derived.Test.YtijpdekcdejfmaaDoorTable
namespace Go.Proofs.YtijpdekcdejfmaaDoor
open Go Go.RowKit
set_option maxRecDepth 100000

/-- What is asked of a table's rows and names in memory. -/
structure TabOk (names : List ByteArray) (rows : List (List Int)) : Prop where
  n1 : names.length ≤ 1000000000
  n2 : ∀ x ∈ names, x.size ≤ 9223372036854775807
  r1 : rows.length ≤ 1000000000
  r2 : ∀ r ∈ rows, r.length ≤ 1000000000

theorem below_drewN' {w w' : World} (hb : Below w.heap.size w w') (n : Nat) : Below w.heap.size w (w'.drewN n) := ⟨hb.os, hb.tape, hb.output, hb.size, hb.block⟩

set_option maxHeartbeats 800000 in
theorem tableImpl_any (q : Bool) (A : Option Addr) (n c : Nat) (names : List ByteArray) (B : Option Addr) (m d : Nat) (rows : List (List Int)) (RA : Option Addr) (RC : Nat) (w : World) (hv : w.cell? ⟨0, 0, none⟩ = some (.slice RA 13 RC)) (hr : Reads w w.heap.size 1 RA 13 (stCells resW))
    (hxn : names.length = n) (hc : n ≤ c) (hx : Reads w w.heap.size 1 A n (stCells names)) (hy : RowsR w w.heap.size B m rows) (hok : TabOk names rows) (hq : tableB names rows = q) :
    Calls Tryd.prog 12 #[.agg #[.slice A n c, .slice B m d]] w fun e w' => e = .returned (.bool q) ∧ Below w.heap.size w w' := by
  obtain ⟨w1, hw1⟩ : ∃ w1, w1 = w.alloc (.cells #[.slice A n c, .slice B m d] 26) := ⟨_, rfl⟩
  have b1 : Below w.heap.size w w1 := by rw [hw1]; exact (Below.refl _ _).alloc (Nat.le_refl _) _
  have kb : Blk w1 w.heap.size 26 #[.slice A n c, .slice B m d] := by rw [hw1]; exact Blk.new _ _ _
  have c0 := kb.cell 0
  have c1 := kb.cell 1
  simp at c0 c1
  obtain ⟨p, hp⟩ : ∃ p, namesB names = p := ⟨_, rfl⟩
  obtain ⟨u, hu⟩ : ∃ u, rowsB n rows = u := ⟨_, rfl⟩
  have hm : rows.length = m := hy.len
  have hr1 := hok.r1
  have hn1 := hok.n1
  have CO := Lib.hid (columns_any p A n c names RA RC w1 (below_keep b1 hv) ((hr.below b1).more b1.size) hxn ((hx.below b1).more b1.size) (by omega) hc hok.n2 hp)
  have RF := Lib.hid (rowsFit_any u A n c B m d rows w1 (hy.below b1) (by omega) hok.r2 (by omega) hu)
  have HQ := Lib.hid (show (p && (decide (m ≤ 16) && u)) = q by rw [← hq, tableB, hp, hxn, hu, hm])
  have HW := Lib.hid hw1
  have HM := Lib.hid hm
  clear hx hy hv hr hp hu hq hok hxn hm kb
  go_enter Tryd.func12, Tryd.ntmps12
  go_wp2_with fail
  rw [← HW.out]
  clear hw1
  refine CO.out.mono ?_
  rintro e w' ⟨rfl, rfl⟩
  cases p
  · obtain rfl : q = false := by rw [← HQ.out]; rfl
    go_wp2_with fail
    go_ret
    exact ⟨rfl, b1⟩
  · by_cases h16 : m ≤ 16
    · have h16' : (m : Int) ≤ 16 := by omega
      go_wp2_with fail
      refine RF.out.mono ?_
      rintro e w' ⟨rfl, rfl⟩
      obtain rfl : q = u := by rw [← HQ.out, decide_eq_true h16]; rfl
      go_wp2_with fail
      go_ret
      exact ⟨rfl, b1⟩
    · have h16' : ¬ (m : Int) ≤ 16 := by omega
      obtain rfl : q = false := by rw [← HQ.out, decide_eq_false h16]; rfl
      go_wp2_with fail
      go_ret
      exact ⟨rfl, b1⟩

set_option maxHeartbeats 1600000 in
theorem l1Names_any (q : Bool) (A : Option Addr) (n c : Nat) (xs : List ByteArray) (w : World) (hxn : xs.length = n) (hx : Reads w w.heap.size 1 A n (stCells xs)) (hn : n ≤ 1000000000) (hs : ∀ x ∈ xs, x.size ≤ 9223372036854775807) (hq : namesB xs = q) :
    Calls Tryd.prog 28 #[.slice A n c] w fun e w' => e = .returned (.bool q) ∧ Below w.heap.size w w' := by
  have HX := Lib.hid hxn
  have HQ := Lib.hid hq
  have HS := Lib.hid hs
  clear hxn hq hs
  go_enter Tryd.func28, Tryd.ntmps28
  go_wp2_with fail
  go_loopw [3, 4] (fun kv _ wr => ∃ k : Nat, k ≤ n ∧ kv = .int .i64 k ∧ Hid (∀ j, j < k → nameAt xs j = true) ∧ Below w.heap.size w wr) (fun kv _ _ => n - (intOf kv).toNat)
  case atStart => exact ⟨0, Nat.zero_le _, rfl, fun j hj => by omega, Below.refl _ _⟩
  case round =>
    obtain ⟨k, hk, rfl, hok, hb⟩ := hrel
    have hk0 : (0 : Int) ≤ (k : Int) := Int.natCast_nonneg _
    by_cases hlt : k < n
    · obtain ⟨ad, y, hA, _, hy, e1⟩ := st_at (hx.below hb) HX.out hlt
      have hk1 : (k : Int) < (n : Int) := by omega
      obtain ⟨p, hp⟩ : ∃ p, nameB y = p := ⟨_, rfl⟩
      have NM := Lib.hid (specName_any p y wr (HS.out y (List.mem_of_getElem? hy)) hp)
      have HP := Lib.hid hp
      have HY := Lib.hid hy
      have HA := Lib.hid hA
      clear hy hp
      subst hA
      go_wp2_with fail
      refine NM.out.mono ?_
      rintro e w2 ⟨rfl, b2⟩
      have hb2 := hb.trans (b2.mono hb.size)
      cases p
      · go_wp2_with fail
        go_ret
        exact ⟨ret_bool (by rw [← HQ.out, namesB_bad (k := k) (by rw [HX.out]; exact hlt) (by rw [nameAt_some HY.out, HP.out]; rfl)]), hb2⟩
      · clear e1
        go_wp2_with fail
        go_loopw [4] (fun jv wr => ∃ j : Nat, j ≤ k ∧ jv = .int .i64 j ∧ Hid (hasW (xs.take j) y = false) ∧ Below w.heap.size w wr) (fun jv _ => k - (intOf jv).toNat)
        case atStart => exact ⟨0, Nat.zero_le _, rfl, rfl, hb2⟩
        case round =>
          obtain ⟨j, hj, rfl, hno, hbj⟩ := hrel
          have hj0 : (0 : Int) ≤ (j : Int) := Int.natCast_nonneg _
          by_cases hjk : j < k
          · obtain ⟨ad1, z, hA1, _, hz, f1⟩ := st_at (hx.below hbj) HX.out (show j < n by omega)
            obtain rfl := Option.some.inj hA1
            obtain ⟨ad2, y', hA2, _, hy2, f2⟩ := st_at (hx.below hbj) HX.out hlt
            obtain rfl := Option.some.inj hA2
            obtain rfl := Option.some.inj (HY.out.symm.trans hy2)
            have hj1 : (j : Int) < (n : Int) := by omega
            have HZ := Lib.hid hz
            clear hz hy2 hA1 hA2
            by_cases hzy : z = y
            · subst hzy
              go_wp2_with fail
              go_quiet (fail)
              go_wp2_with fail
              go_ret
              have hw : hasW (xs.take k) z = true := by
                unfold hasW
                refine List.any_eq_true.2 ⟨z, ?_, by simp⟩
                exact List.mem_of_getElem? (i := j) (by rw [List.getElem?_take, if_pos hjk]; exact HZ.out)
              exact ⟨ret_bool (by rw [← HQ.out, namesB_bad (k := k) (by rw [HX.out]; exact hlt) (by rw [nameAt_some HY.out, hw]; simp)]), below_drewN' hbj nq⟩
            · have hne := str_ne hzy
              go_wp2_with fail
              go_quiet (fail)
              go_wp2_with fail
              go_roundw
              case rel =>
                refine ⟨j + 1, by omega, by go_num, ?_, below_drewN' hbj nq⟩
                unfold Hid hasW
                rw [List.take_add_one, HZ.out, List.any_append, show ((xs.take j).any fun w => decide (y = w)) = false from hno.out]
                simp [Ne.symm hzy]
              case measure => simp [intOf]; omega
          · obtain rfl : j = k := by omega
            go_wp2_with fail
            go_roundw
            case rel =>
              refine ⟨j + 1, by omega, by go_num, fun i hi => ?_, hbj⟩
              rcases Nat.lt_succ_iff_lt_or_eq.1 hi with h | rfl
              · exact hok.out i h
              · rw [nameAt_some HY.out, HP.out, hno.out]; rfl
            case measure => simp [intOf]; omega
    · obtain rfl : k = n := by omega
      have IN := Lib.hid (l1In_is q (k : Int) 1 6 wr (by rw [← HQ.out, namesB_good (by rw [HX.out]; exact hok.out), HX.out]))
      clear hx
      go_wp2_with fail
      refine IN.out.mono ?_
      rintro e w' ⟨rfl, rfl⟩
      go_wp2_with fail
      go_ret
      exact ⟨rfl, hb⟩

set_option maxHeartbeats 1600000 in
theorem tableSpec_any (q : Bool) (A : Option Addr) (n c : Nat) (names : List ByteArray) (B : Option Addr) (m d : Nat) (rows : List (List Int)) (w : World)
    (hxn : names.length = n) (hx : Reads w w.heap.size 1 A n (stCells names)) (hy : RowsR w w.heap.size B m rows) (hok : TabOk names rows) (hq : tableB names rows = q) :
    Calls Tryd.prog 27 #[.agg #[.slice A n c, .slice B m d]] w fun e w' => e = .returned (.bool q) ∧ Below w.heap.size w w' := by
  obtain ⟨w1, hw1⟩ : ∃ w1, w1 = w.alloc (.cells #[.slice A n c, .slice B m d] 26) := ⟨_, rfl⟩
  have b1 : Below w.heap.size w w1 := by rw [hw1]; exact (Below.refl _ _).alloc (Nat.le_refl _) _
  have hs1 : w1.heap.size = w.heap.size + 1 := by rw [hw1]; simp
  have kb : Blk w1 w.heap.size 26 #[.slice A n c, .slice B m d] := by rw [hw1]; exact Blk.new _ _ _
  have KB := Lib.hid (fun (wr : World) (hb : Below w1.heap.size w1 wr) => kb.below hb (show w.heap.size < w1.heap.size by omega))
  obtain ⟨p, hp⟩ : ∃ p, namesB names = p := ⟨_, rfl⟩
  obtain ⟨u, hu⟩ : ∃ u, rowsB n rows = u := ⟨_, rfl⟩
  have hm : rows.length = m := hy.len
  have hr1 := hok.r1
  have hn1 := hok.n1
  have HR2 := Lib.hid hok.r2
  have hy1 := hy.below b1
  have NM := Lib.hid (fun (wr : World) (hb : Below w1.heap.size w1 wr) => l1Names_any p A n c names wr hxn ((((hx.below b1).more b1.size).below hb).more hb.size) (by omega) hok.n2 hp)
  have HQ := Lib.hid (show (p && (decide (m ≤ 16) && u)) = q by rw [← hq, tableB, hp, hxn, hu, hm])
  have HU := Lib.hid hu
  have HW := Lib.hid hw1
  have HM := Lib.hid hm
  have hn : n ≤ 1000000000 := by omega
  have hmm : m ≤ 1000000000 := by omega
  clear hx hy hp hu hq hok hxn hm kb hs1 hr1 hn1
  go_enter Tryd.func27, Tryd.ntmps27
  go_wp2_with fail
  rw [← HW.out]
  clear hw1
  go_loopw [3, 4] (fun kv _ wr => ∃ k : Nat, k ≤ m ∧ kv = .int .i64 k ∧ Hid (∀ j r, j < k → rows[j]? = some r → rowB n r = true) ∧ Below w1.heap.size w1 wr) (fun kv _ _ => m - (intOf kv).toNat)
  case atStart => exact ⟨0, Nat.zero_le _, rfl, fun j r hj => by omega, Below.refl _ _⟩
  case round =>
    obtain ⟨k, hk, rfl, hok, hb⟩ := hrel
    have hk0 : (0 : Int) ≤ (k : Int) := Int.natCast_nonneg _
    have c0 := (KB.out wr hb).cell 0
    have c1 := (KB.out wr hb).cell 1
    simp at c0 c1
    by_cases hlt : k < m
    · obtain ⟨ad, row, Ak, ck, rfl, _, hrow, e1, g1, g2, g3, rr⟩ := (hy1.belowW (Nat.le_refl _) hb).at_ hlt
      have hk1 : (k : Int) < (m : Int) := by omega
      have hrl := HR2.out row (List.mem_of_getElem? hrow)
      have HR := Lib.hid hrow
      clear hrow g3
      by_cases hlm : row.length = n
      · subst hlm
        go_wp2_with fail
        go_quiet (fail)
        have hb' := below_drewN' hb nq
        clear c0 c1 e1 rr
        go_wp2_with fail
        generalize wr.drewN nq = wq at hb' ⊢
        clear hb
        go_loopw [4] (fun jv wr => ∃ j : Nat, j ≤ row.length ∧ jv = .int .i64 j ∧ Hid ((row.take j).all valB = true) ∧ Below w1.heap.size w1 wr) (fun jv _ => row.length - (intOf jv).toNat)
        case atStart => exact ⟨0, Nat.zero_le _, rfl, rfl, hb'⟩
        case round =>
          obtain ⟨j, hj, rfl, hgo, hbj⟩ := hrel
          have hj0 : (0 : Int) ≤ (j : Int) := Int.natCast_nonneg _
          have c0 := (KB.out wr hbj).cell 0
          have c1 := (KB.out wr hbj).cell 1
          simp at c0 c1
          obtain ⟨ad1, row1, Ak1, ck1, hA1, _, hrow1, e1, g1', g2', g3', rr⟩ := (hy1.belowW (Nat.le_refl _) hbj).at_ hlt
          obtain rfl := Option.some.inj hA1
          obtain rfl := Option.some.inj (HR.out.symm.trans hrow1)
          clear hA1 hrow1 g3'
          by_cases hjl : j < row.length
          · obtain ⟨ad2, y, rfl, _, hyv, e2⟩ := in_at rr rfl hjl
            obtain ⟨v, hv⟩ : ∃ v, valB y = v := ⟨_, rfl⟩
            have LI := Lib.hid (l1In_is v y (-100000) 100000 wr hv)
            have HV := Lib.hid hv
            have HYV := Lib.hid hyv
            have hj1 : (j : Int) < (row.length : Int) := by omega
            clear hv hyv rr
            go_wp2_with fail
            refine LI.out.mono ?_
            rintro e w' ⟨rfl, rfl⟩
            cases v
            · go_wp2_with fail
              go_ret
              have hu0 : u = false := by
                rw [← HU.out, rowsB_bad HR.out]
                unfold rowB
                have : row.all valB = false := by rw [List.all_eq_false]; exact ⟨y, List.mem_of_getElem? HYV.out, by simp [HV.out]⟩
                rw [this]; simp
              exact ⟨ret_bool (by rw [← HQ.out, hu0]; simp), b1.trans (hbj.mono b1.size)⟩
            · go_wp2_with fail
              go_roundw
              case rel =>
                refine ⟨j + 1, by omega, by go_num, ?_, hbj⟩
                unfold Hid
                rw [List.take_add_one, HYV.out, List.all_append, hgo.out]
                simp [HV.out]
              case measure => simp [intOf]; omega
          · obtain rfl : j = row.length := by omega
            clear rr
            go_wp2_with fail
            go_roundw
            case rel =>
              refine ⟨k + 1, by omega, by go_num, fun i r hi hr => ?_, hbj⟩
              rcases Nat.lt_succ_iff_lt_or_eq.1 hi with h | rfl
              · exact hok.out i r h hr
              · obtain rfl := Option.some.inj (HR.out.symm.trans hr)
                have h := hgo.out
                rw [List.take_of_length_le (Nat.le_refl _)] at h
                unfold rowB; rw [h]; simp
            case measure => simp [intOf]; omega
      · have hne : ((row.length : Int) == (n : Int)) = false := by simp only [beq_eq_false_iff_ne]; omega
        have hne2 : ¬ (row.length : Int) = (n : Int) := by omega
        clear rr
        go_wp2_with fail
        go_quiet (fail)
        go_wp2_with fail
        go_ret
        have hu0 : u = false := by rw [← HU.out, rowsB_bad HR.out (by unfold rowB; rw [decide_eq_false hlm]; rfl)]
        exact ⟨ret_bool (by rw [← HQ.out, hu0]; simp), b1.trans ((below_drewN' hb nq).mono b1.size)⟩
    · obtain rfl : k = m := by omega
      have hu1 : u = true := by rw [← HU.out]; exact rowsB_good (by rw [HM.out]; exact hok.out)
      subst hu1
      have NM' := Lib.hid (NM.out wr hb)
      clear hy1
      go_wp2_with fail
      refine NM'.out.mono ?_
      rintro e w2 ⟨rfl, b2⟩
      have hb2 := hb.trans (b2.mono hb.size)
      have B2 := b1.trans (hb2.mono b1.size)
      have d0 := (KB.out w2 hb2).cell 0
      have d1 := (KB.out w2 hb2).cell 1
      simp at d0 d1
      clear c0 c1
      cases p
      · obtain rfl : q = false := by rw [← HQ.out]; rfl
        go_wp2_with fail
        go_ret
        exact ⟨rfl, B2⟩
      · by_cases h16 : k ≤ 16
        · have h16' : (k : Int) ≤ 16 := by omega
          obtain rfl : q = true := by rw [← HQ.out, decide_eq_true h16]; rfl
          go_wp2_with fail
          go_ret
          exact ⟨rfl, B2⟩
        · have h16' : ¬ (k : Int) ≤ 16 := by omega
          obtain rfl : q = false := by rw [← HQ.out, decide_eq_false h16]; rfl
          go_wp2_with fail
          go_ret
          exact ⟨ret_bool (by simp; omega), B2⟩
end Go.Proofs.YtijpdekcdejfmaaDoor
