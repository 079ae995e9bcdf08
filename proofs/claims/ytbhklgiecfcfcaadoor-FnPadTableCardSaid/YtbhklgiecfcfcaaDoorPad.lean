/- impl.PaddedValid, spec.PaddedValid. -/
import Derived.Test.YtbhklgiecfcfcaaDoorTableV
namespace Go.Proofs.YtbhklgiecfcfcaaDoor
open Go Go.RowKit
set_option maxRecDepth 100000

def boCells (xs : List Bool) : List Value := xs.map Value.bool
theorem bo_at {w : World} {B n : Nat} {A : Option Addr} {xs : List Bool} {k : Nat} (h : Reads w B 1 A n (boCells xs)) (hxn : xs.length = n) (hk : k < n) :
    ∃ ad x, A = some ad ∧ ad.block < B ∧ xs[k]? = some x ∧ w.cell? (ad.add k) = some (.bool x) := by
  obtain ⟨ad, u, rfl, hb, hu, hc⟩ := h.at_ hk
  obtain ⟨x, hx⟩ : ∃ x, xs[k]? = some x := ⟨_, List.getElem?_eq_getElem (by omega)⟩
  have : u = .bool x := by simpa [boCells, hx] using hu.symm
  subst this
  exact ⟨ad, x, rfl, hb, hx, hc⟩
def isZero (x : Int) : Bool := decide (x = 0)
def blankAt (rows : List (List Int)) (real : List Bool) (k : Nat) : Bool := match rows[k]?, real[k]? with | some r, some b => b || r.all isZero | _, _ => true
def padB (names : List ByteArray) (rows : List (List Int)) (real : List Bool) : Bool := namesB names && (decide (rows.length ≤ 256) && (decide (real.length = rows.length) && (rowsB names.length rows && (List.range rows.length).all (blankAt rows real))))
theorem blankAt_some {rows : List (List Int)} {real : List Bool} {k : Nat} {r : List Int} {b : Bool} (h : rows[k]? = some r) (g : real[k]? = some b) : blankAt rows real k = (b || r.all isZero) := by simp [blankAt, h, g]
theorem padB_blank {names : List ByteArray} {rows : List (List Int)} {real : List Bool} {k : Nat} {r : List Int} {b : Bool} (h : rows[k]? = some r) (g : real[k]? = some b) (hb : (b || r.all isZero) = false) : padB names rows real = false := by
  have h0 : (List.range rows.length).all (blankAt rows real) = false := by
    rw [List.all_eq_false]
    exact ⟨k, List.mem_range.2 (List.getElem?_eq_some_iff.1 h).1, by rw [blankAt_some h g, hb]; simp⟩
  unfold padB
  rw [h0]; simp
theorem padB_rows {names : List ByteArray} {rows : List (List Int)} {real : List Bool} (h : rowsB names.length rows = false) : padB names rows real = false := by
  unfold padB
  rw [h]; simp
theorem blank_all {rows : List (List Int)} {real : List Bool} (h : ∀ j r b, j < rows.length → rows[j]? = some r → real[j]? = some b → (b || r.all isZero) = true) : (List.range rows.length).all (blankAt rows real) = true := by
  rw [List.all_eq_true]
  intro k hk
  have hk' := List.mem_range.1 hk
  obtain ⟨r, hr⟩ : ∃ r, rows[k]? = some r := ⟨_, List.getElem?_eq_getElem hk'⟩
  cases hb : real[k]? with
  | none => simp [blankAt, hr, hb]
  | some b => rw [blankAt_some hr hb]; exact h k r b hk' hr hb

set_option maxHeartbeats 400000 in
theorem pad1_is (q : Bool) (x : Int) (w : World) (hq : isZero x = q) : Calls Tryd.prog 46 #[.int .i64 x] w fun e w' => e = .returned (.bool !q) ∧ w = w' := by
  by_cases h : x = 0
  · obtain rfl : q = true := by rw [← hq]; simp [isZero, h]
    subst h
    clear hq
    go_enter Tryd.func46, Tryd.ntmps46
    go_wp2_with fail
    go_ret
    exact ⟨rfl, rfl⟩
  · obtain rfl : q = false := by rw [← hq]; simp [isZero, h]
    clear hq
    have h2 : (x != 0) = true := by simpa using h
    go_enter Tryd.func46, Tryd.ntmps46
    go_wp2_with fail
    go_ret
    exact ⟨ret_bool (by simp [h]), rfl⟩
set_option maxHeartbeats 800000 in
theorem indexZero_any (q : Bool) (A : Option Addr) (n c : Nat) (xs : List Int) (w : World) (B : Nat) (hxn : xs.length = n) (hx : Reads w B 1 A n (inCells xs)) (hn : n ≤ 1000000000) (hq : xs.all isZero = q) :
    Calls Tryd.prog 55 #[.slice A n c, .func (.func 46) #[] #[]] w fun e w' => ∃ r : Int, e = .returned (.int .i64 r) ∧ decide (0 ≤ r) = !q ∧ w = w' := by
  have HX := Lib.hid hxn
  have HQ := Lib.hid hq
  clear hxn hq
  go_enter Tryd.func55, Tryd.ntmps55
  go_wp2_with fail
  go_loop [5, 8] (fun _ v => ∃ k : Nat, k ≤ n ∧ v = .int .i64 k ∧ Hid ((xs.take k).all isZero = true)) (fun _ v => n - (intOf v).toNat)
  case atStart => exact ⟨0, Nat.zero_le _, rfl, rfl⟩
  case round =>
    obtain ⟨k, hk, rfl, hok⟩ := hrel
    have hk0 : (0 : Int) ≤ (k : Int) := Int.natCast_nonneg _
    by_cases hlt : k < n
    · obtain ⟨ad, y, rfl, _, hy, e1⟩ := in_at hx HX.out hlt
      have hk1 : (k : Int) < (n : Int) := by omega
      obtain ⟨p, hp⟩ : ∃ p, isZero y = p := ⟨_, rfl⟩
      have HY := Lib.hid hy
      have HP := Lib.hid hp
      have RF := Lib.hid (pad1_is p y w hp)
      clear hy hp hx
      go_wp2_with fail
      refine RF.out.mono ?_
      rintro e w' ⟨rfl, rfl⟩
      cases p
      · go_wp2_with fail
        go_ret
        refine ⟨_, rfl, ?_, rfl⟩
        have : xs.all isZero = false := by rw [List.all_eq_false]; exact ⟨y, List.mem_of_getElem? HY.out, by simp [HP.out]⟩
        rw [← HQ.out, this]
        simp
      · go_wp2_with fail
        go_round
        case rel =>
          refine ⟨k + 1, by omega, by go_num, ?_⟩
          unfold Hid
          rw [List.take_add_one, HY.out, List.all_append, hok.out]
          simp [HP.out]
        case measure => simp [intOf]; omega
    · obtain rfl : k = n := by omega
      clear hx
      go_wp2_with fail
      go_ret
      refine ⟨_, rfl, ?_, rfl⟩
      have h := hok.out
      rw [List.take_of_length_le (by have := HX.out; omega)] at h
      rw [← HQ.out, h]
      simp
set_option maxHeartbeats 400000 in
theorem containsZero_any (q : Bool) (A : Option Addr) (n c : Nat) (xs : List Int) (w : World) (B : Nat) (hxn : xs.length = n) (hx : Reads w B 1 A n (inCells xs)) (hn : n ≤ 1000000000) (hq : xs.all isZero = q) :
    Calls Tryd.prog 45 #[.slice A n c, .func (.func 46) #[] #[]] w fun e w' => e = .returned (.bool !q) ∧ w = w' := by
  have HQ := Lib.hid hq
  clear hq
  go_enter Tryd.func45, Tryd.ntmps45
  go_wp2_with fail
  refine (indexZero_any q A n c xs _ B hxn hx hn HQ.out).mono ?_
  rintro e w' ⟨r, rfl, hr, rfl⟩
  by_cases h0 : 0 ≤ r
  · go_wp2_with fail
    go_ret
    exact ⟨ret_bool (by rw [← hr] <;> simp [h0]), rfl⟩
  · go_wp2_with fail
    go_ret
    exact ⟨ret_bool (by rw [← hr] <;> simp [h0]), rfl⟩
set_option maxHeartbeats 1600000 in
theorem padImpl_any (q : Bool) (A : Option Addr) (n c : Nat) (names : List ByteArray) (B : Option Addr) (m d : Nat) (rows : List (List Int)) (C : Option Addr) (l f : Nat) (real : List Bool) (RA : Option Addr) (RC : Nat) (w : World) (hv : w.cell? ⟨0, 0, none⟩ = some (.slice RA 13 RC)) (hr : Reads w w.heap.size 1 RA 13 (stCells resW))
    (hxn : names.length = n) (hc : n ≤ c) (hx : Reads w w.heap.size 1 A n (stCells names)) (hy : RowsR w w.heap.size B m rows) (hzn : real.length = l) (hz : Reads w w.heap.size 1 C l (boCells real)) (hl : l ≤ 1000000000) (hok : TabOk names rows) (hq : padB names rows real = q) :
    Calls Tryd.prog 20 #[.agg #[.slice A n c, .slice B m d, .slice C l f]] w fun e w' => e = .returned (.bool q) ∧ Below w.heap.size w w' := by
  obtain ⟨w1, hw1⟩ : ∃ w1, w1 = w.alloc (.cells #[.slice A n c, .slice B m d, .slice C l f] 37) := ⟨_, rfl⟩
  have b1 : Below w.heap.size w w1 := by rw [hw1]; exact (Below.refl _ _).alloc (Nat.le_refl _) _
  have kb : Blk w1 w.heap.size 37 #[.slice A n c, .slice B m d, .slice C l f] := by rw [hw1]; exact Blk.new _ _ _
  have c0 := kb.cell 0
  have c1 := kb.cell 1
  have c2 := kb.cell 2
  simp at c0 c1 c2
  obtain ⟨p, hp⟩ : ∃ p, namesB names = p := ⟨_, rfl⟩
  obtain ⟨u, hu⟩ : ∃ u, rowsB n rows = u := ⟨_, rfl⟩
  have hm : rows.length = m := hy.len
  have hr1 := hok.r1
  have hn1 := hok.n1
  have hy1 := hy.below b1
  have hz1 := (hz.below b1).more b1.size
  have HL := Lib.hid hok.r2
  have CO := Lib.hid (columns_any p A n c names RA RC w1 (below_keep b1 hv) ((hr.below b1).more b1.size) hxn ((hx.below b1).more b1.size) (by omega) hc hok.n2 hp)
  have RF := Lib.hid (rowsFit_any u A n c B m d rows w1 hy1 (by omega) hok.r2 (by omega) hu)
  have HQ := Lib.hid (show (p && (decide (m ≤ 256) && (decide (l = m) && (u && (List.range m).all (blankAt rows real))))) = q by rw [← hq, padB, hp, hxn, hu, hm, hzn])
  have HB := Lib.hid (fun (k : Nat) (r : List Int) (b : Bool) (h : rows[k]? = some r) (g : real[k]? = some b) (h0 : (b || r.all isZero) = false) => (hq.symm.trans (padB_blank (names := names) h g h0) : q = false))
  have HW := Lib.hid hw1
  have HM := Lib.hid hm
  have HZN := Lib.hid hzn
  have hm1 : m ≤ 1000000000 := by omega
  have HY1 := Lib.hid hy1
  have HZ1 := Lib.hid hz1
  clear hx hy hz hv hr hp hu hq hok hxn hm kb hr1 hn1 hzn
  go_enter Tryd.func20, Tryd.ntmps20
  go_wp2_with fail
  rw [← HW.out]
  clear hw1
  refine CO.out.mono ?_
  rintro e w' ⟨rfl, rfl⟩
  cases p
  · obtain rfl : q = false := by rw [← HQ.out]; rfl
    clear hy1 hz1
    go_wp2_with fail
    go_ret
    exact ⟨rfl, b1⟩
  · by_cases h16 : m ≤ 256
    · have h16' : (m : Int) ≤ 256 := by omega
      by_cases hlm : l = m
      · subst hlm
        have RF' := RF
        clear hy1 hz1
        go_wp2_with fail
        refine RF'.out.mono ?_
        rintro e w' ⟨rfl, rfl⟩
        cases u
        · obtain rfl : q = false := by rw [← HQ.out]; simp
          go_wp2_with fail
          go_ret
          exact ⟨rfl, b1⟩
        · go_wp2_with fail
          go_loop [3, 4, 35] (fun _ _ v => ∃ k : Nat, k ≤ l ∧ v = .int .i64 k ∧ Hid (∀ j r b, j < k → rows[j]? = some r → real[j]? = some b → (b || r.all isZero) = true)) (fun _ _ v => l - (intOf v).toNat)
          case atStart => exact ⟨0, Nat.zero_le _, rfl, fun j r b hj => by omega⟩
          case round =>
            obtain ⟨k, hk, rfl, hok⟩ := hrel
            have hk0 : (0 : Int) ≤ (k : Int) := Int.natCast_nonneg _
            by_cases hlt : k < l
            · obtain ⟨ad, row, Ak, ck, rfl, _, hrow, e1, g1, g2, g3, rr⟩ := HY1.out.at_ hlt
              obtain ⟨bd, b, rfl, _, hb, e2⟩ := bo_at HZ1.out HZN.out hlt
              have hk1 : (k : Int) < (l : Int) := by omega
              obtain ⟨z, hz⟩ : ∃ z, row.all isZero = z := ⟨_, rfl⟩
              have CV := Lib.hid (containsZero_any z Ak row.length ck row w1 w1.heap.size rfl rr (HL.out row (List.mem_of_getElem? hrow)) hz)
              have HR := Lib.hid hrow
              have HBk := Lib.hid hb
              have HZ := Lib.hid hz
              have step : Hid ((b || z) = true → ∀ j r b, j < k + 1 → rows[j]? = some r → real[j]? = some b → (b || r.all isZero) = true) := by
                intro hbz j r b' hj h1 h2
                rcases Nat.lt_succ_iff_lt_or_eq.1 hj with h | rfl
                · exact hok.out j r b' h h1 h2
                · obtain rfl := Option.some.inj (HR.out.symm.trans h1)
                  obtain rfl := Option.some.inj (HBk.out.symm.trans h2)
                  rw [HZ.out]; exact hbz
              clear hrow hb hz rr g3
              cases b
              · go_wp2_with fail
                refine CV.out.mono ?_
                rintro e w' ⟨rfl, rfl⟩
                cases z
                · go_wp2_with fail
                  go_ret
                  exact ⟨ret_bool (HB.out k row false HR.out HBk.out (by rw [HZ.out]; rfl)).symm, b1⟩
                · go_wp2_with fail
                  go_round
                  case rel => exact ⟨k + 1, by omega, by go_num, step.out rfl⟩
                  case measure => simp [intOf]; omega
              · go_wp2_with fail
                go_round
                case rel => exact ⟨k + 1, by omega, by go_num, step.out rfl⟩
                case measure => simp [intOf]; omega
            · obtain rfl : k = l := by omega
              have hfin : q = true := by
                rw [← HQ.out, decide_eq_true h16]
                have := blank_all (rows := rows) (real := real) (by rw [HM.out]; exact hok.out)
                rw [HM.out] at this
                simp [this]
              subst hfin
              go_wp2_with fail
              go_ret
              exact ⟨rfl, b1⟩
      · have hlm' : ((l : Int) != (m : Int)) = true := by simp only [bne_iff_ne]; omega
        have hlm2 : ((l : Int) == (m : Int)) = false := by simp only [beq_eq_false_iff_ne]; omega
        obtain rfl : q = false := by rw [← HQ.out, decide_eq_false hlm]; simp
        clear hy1 hz1
        go_wp2_with fail
        go_ret
        exact ⟨rfl, b1⟩
    · have h16' : ¬ (m : Int) ≤ 256 := by omega
      obtain rfl : q = false := by rw [← HQ.out, decide_eq_false h16]; rfl
      clear hy1 hz1
      go_wp2_with fail
      go_ret
      exact ⟨rfl, b1⟩

set_option maxHeartbeats 3200000 in
theorem padSpec_any (q : Bool) (A : Option Addr) (n c : Nat) (names : List ByteArray) (B : Option Addr) (m d : Nat) (rows : List (List Int)) (C : Option Addr) (l f : Nat) (real : List Bool) (w : World)
    (hxn : names.length = n) (hx : Reads w w.heap.size 1 A n (stCells names)) (hy : RowsR w w.heap.size B m rows) (hzn : real.length = l) (hz : Reads w w.heap.size 1 C l (boCells real)) (hl : l ≤ 1000000000) (hok : TabOk names rows) (hq : padB names rows real = q) :
    Calls Tryd.prog 37 #[.agg #[.slice A n c, .slice B m d, .slice C l f]] w fun e w' => e = .returned (.bool q) ∧ Below w.heap.size w w' := by
  obtain ⟨w1, hw1⟩ : ∃ w1, w1 = w.alloc (.cells #[.slice A n c, .slice B m d, .slice C l f] 37) := ⟨_, rfl⟩
  have b1 : Below w.heap.size w w1 := by rw [hw1]; exact (Below.refl _ _).alloc (Nat.le_refl _) _
  have hs1 : w1.heap.size = w.heap.size + 1 := by rw [hw1]; simp
  have kb : Blk w1 w.heap.size 37 #[.slice A n c, .slice B m d, .slice C l f] := by rw [hw1]; exact Blk.new _ _ _
  have KB := Lib.hid (fun (wr : World) (hb : Below w1.heap.size w1 wr) => kb.below hb kb.lt)
  obtain ⟨p, hp⟩ : ∃ p, namesB names = p := ⟨_, rfl⟩
  have hm : rows.length = m := hy.len
  have hr1 := hok.r1
  have hn1 := hok.n1
  have HR2 := Lib.hid hok.r2
  have HY1 := Lib.hid (fun (wr : World) (hb : Below w1.heap.size w1 wr) => (hy.below b1).belowW (Nat.le_refl _) hb)
  have HZ1 := Lib.hid (fun (wr : World) (hb : Below w1.heap.size w1 wr) => ((hz.below b1).more b1.size).below hb)
  have NM := Lib.hid (fun (wr : World) (hb : Below w1.heap.size w1 wr) => l1Names_any p A n c names wr hxn ((((hx.below b1).more b1.size).below hb).more hb.size) (by omega) hok.n2 hp)
  have HQ := Lib.hid (show rowsB n rows = true → (List.range m).all (blankAt rows real) = true → (p && (decide (m ≤ 256) && decide (l = m))) = q by
    intro h1 h2
    rw [← hq, padB, hp, hxn, h1, hm, h2, hzn]; simp)
  have HB := Lib.hid (fun (k : Nat) (r : List Int) (b : Bool) (h : rows[k]? = some r) (g : real[k]? = some b) (h0 : (b || r.all isZero) = false) => (hq.symm.trans (padB_blank (names := names) h g h0) : q = false))
  have HC := Lib.hid (fun (k : Nat) (r : List Int) (h : rows[k]? = some r) (h0 : rowB n r = false) => (hq.symm.trans (padB_rows (by rw [hxn]; exact rowsB_bad h h0)) : q = false))
  have HW := Lib.hid hw1
  have HM := Lib.hid hm
  have HZN := Lib.hid hzn
  have hn : n ≤ 1000000000 := by omega
  have hmm : m ≤ 1000000000 := by omega
  clear hx hy hz hp hq hok hxn hm kb hs1 hr1 hn1 hzn
  go_enter Tryd.func37, Tryd.ntmps37
  go_wp2_with fail
  rw [← HW.out]
  clear hw1
  go_loopw [3, 4] (fun kv _ wr => ∃ k : Nat, k ≤ m ∧ kv = .int .i64 k ∧ Hid (∀ j r, j < k → rows[j]? = some r → rowB n r = true ∧ ∀ b, real[j]? = some b → (b || r.all isZero) = true) ∧ Below w1.heap.size w1 wr) (fun kv _ _ => m - (intOf kv).toNat)
  case atStart => exact ⟨0, Nat.zero_le _, rfl, fun j r hj => by omega, Below.refl _ _⟩
  case round =>
    obtain ⟨k, hk, rfl, hok, hb⟩ := hrel
    have hk0 : (0 : Int) ≤ (k : Int) := Int.natCast_nonneg _
    have c0 := (KB.out wr hb).cell 0
    have c1 := (KB.out wr hb).cell 1
    simp at c0 c1
    by_cases hlt : k < m
    · obtain ⟨ad, row, Ak, ck, rfl, _, hrow, e1, g1, g2, g3, rr⟩ := (HY1.out wr hb).at_ hlt
      have hk1 : (k : Int) < (m : Int) := by omega
      have hrl := HR2.out row (List.mem_of_getElem? hrow)
      have HR := Lib.hid hrow
      clear hrow g3 rr
      by_cases hlm : row.length = n
      · subst hlm
        go_wp2_with fail
        go_quiet (fail)
        have hb' := below_drewN' hb nq
        clear c0 c1 e1
        go_wp2_with fail
        generalize wr.drewN nq = wq at hb' ⊢
        clear hb
        go_loopw [4] (fun jv wr => ∃ j : Nat, j ≤ row.length ∧ jv = .int .i64 j ∧ Hid ((row.take j).all valB = true ∧ ∀ b, real[k]? = some b → (b || (row.take j).all isZero) = true) ∧ Below w1.heap.size w1 wr) (fun jv _ => row.length - (intOf jv).toNat)
        case atStart => exact ⟨0, Nat.zero_le _, rfl, ⟨rfl, fun b _ => by simp⟩, hb'⟩
        case round =>
          obtain ⟨j, hj, rfl, hgo, hbj⟩ := hrel
          have hj0 : (0 : Int) ≤ (j : Int) := Int.natCast_nonneg _
          have c0 := (KB.out wr hbj).cell 0
          have c1 := (KB.out wr hbj).cell 1
          have c2 := (KB.out wr hbj).cell 2
          simp at c0 c1 c2
          obtain ⟨ad1, row1, Ak1, ck1, hA1, _, hrow1, e1, g1', g2', g3', rr⟩ := (HY1.out wr hbj).at_ hlt
          obtain rfl := Option.some.inj hA1
          obtain rfl := Option.some.inj (HR.out.symm.trans hrow1)
          clear hA1 hrow1 g3'
          by_cases hjl : j < row.length
          · obtain ⟨ad2, y, rfl, _, hyv, e2⟩ := in_at rr rfl hjl
            obtain ⟨v, hv⟩ : ∃ v, valB y = v := ⟨_, rfl⟩
            have LI := Lib.hid (l1In_is v y (-100000) 100000 wr hv)
            have HV := Lib.hid hv
            have HYV := Lib.hid hyv
            have hj1 : (j : Int) < (row.length : Int) := by omega
            clear hv hyv rr
            have next : Hid (v = true → (∀ b, real[k]? = some b → (b || isZero y) = true) → (row.take (j + 1)).all valB = true ∧ ∀ b, real[k]? = some b → (b || (row.take (j + 1)).all isZero) = true) := by
              intro h1 h2
              constructor
              · rw [List.take_add_one, HYV.out, List.all_append, hgo.out.1]
                simp [HV.out, h1]
              · intro b hb
                have h3 := hgo.out.2 b hb
                have h4 := h2 b hb
                cases b
                · rw [List.take_add_one, HYV.out, List.all_append]
                  simp at h3 h4 ⊢
                  exact ⟨h3, h4⟩
                · rfl
            cases v
            · go_wp2_with fail
              refine LI.out.mono ?_
              rintro e w' ⟨rfl, rfl⟩
              go_wp2_with fail
              go_ret
              have hu0 : rowB row.length row = false := by
                unfold rowB
                have : row.all valB = false := by rw [List.all_eq_false]; exact ⟨y, List.mem_of_getElem? HYV.out, by simp [HV.out]⟩
                rw [this]; simp
              exact ⟨ret_bool (HC.out k row HR.out hu0).symm, b1.trans (hbj.mono b1.size)⟩
            · by_cases hkl : k < l
              · obtain ⟨bd, b, rfl, _, hbv, e3⟩ := bo_at (HZ1.out wr hbj) HZN.out hkl
                have hk2 : (k : Int) < (l : Int) := by omega
                have HBV := Lib.hid hbv
                clear hbv
                cases b
                · by_cases hy0 : y = 0
                  · have hyy : (y != 0) = false := by simp [hy0]
                    have next' := Lib.hid (next.out rfl (fun b hb => by
                      obtain rfl := Option.some.inj (HBV.out.symm.trans hb); simp [isZero, hy0]))
                    have hyd : decide (y = 0) = true := by simp [hy0]
                    clear hy0
                    go_wp2_with fail
                    refine LI.out.mono ?_
                    rintro e w' ⟨rfl, rfl⟩
                    go_wp2_with fail
                    go_roundw
                    case rel => exact ⟨j + 1, by omega, by go_num, next'.out, hbj⟩
                    case measure => simp [intOf]; omega
                  · have hyy : (y != 0) = true := by simpa using hy0
                    go_wp2_with fail
                    refine LI.out.mono ?_
                    rintro e w' ⟨rfl, rfl⟩
                    go_wp2_with fail
                    go_ret
                    have hz0 : row.all isZero = false := by rw [List.all_eq_false]; exact ⟨y, List.mem_of_getElem? HYV.out, by simp [isZero, hy0]⟩
                    exact ⟨ret_bool (HB.out k row false HR.out HBV.out (by rw [hz0]; rfl)).symm, b1.trans (hbj.mono b1.size)⟩
                · have next' := Lib.hid (next.out rfl (fun b hb => by
                    obtain rfl := Option.some.inj (HBV.out.symm.trans hb); rfl))
                  go_wp2_with fail
                  refine LI.out.mono ?_
                  rintro e w' ⟨rfl, rfl⟩
                  go_wp2_with fail
                  go_roundw
                  case rel => exact ⟨j + 1, by omega, by go_num, next'.out, hbj⟩
                  case measure => simp [intOf]; omega
              · have hk2 : ¬ (k : Int) < (l : Int) := by omega
                have next' := Lib.hid (next.out rfl (fun b hb => by
                  have h1 := (List.getElem?_eq_some_iff.1 hb).1
                  have h2 := HZN.out
                  omega))
                go_wp2_with fail
                refine LI.out.mono ?_
                rintro e w' ⟨rfl, rfl⟩
                go_wp2_with fail
                go_roundw
                case rel => exact ⟨j + 1, by omega, by go_num, next'.out, hbj⟩
                case measure => simp [intOf]; omega
          · obtain rfl : j = row.length := by omega
            clear rr
            go_wp2_with fail
            go_roundw
            case rel =>
              refine ⟨k + 1, by omega, by go_num, fun i r hi hr => ?_, hbj⟩
              rcases Nat.lt_succ_iff_lt_or_eq.1 hi with h | rfl
              · exact hok.out i r h hr
              · obtain rfl := Option.some.inj (HR.out.symm.trans hr)
                have h := hgo.out
                rw [List.take_of_length_le (Nat.le_refl _)] at h
                exact ⟨by unfold rowB; rw [h.1]; simp, h.2⟩
            case measure => simp [intOf]; omega
      · have hne : ((row.length : Int) == (n : Int)) = false := by simp only [beq_eq_false_iff_ne]; omega
        have hne2 : ¬ (row.length : Int) = (n : Int) := by omega
        go_wp2_with fail
        go_quiet (fail)
        go_wp2_with fail
        go_ret
        exact ⟨ret_bool (HC.out k row HR.out (by unfold rowB; rw [decide_eq_false hlm]; rfl)).symm, b1.trans ((below_drewN' hb nq).mono b1.size)⟩
    · obtain rfl : k = m := by omega
      have HQ' := Lib.hid (HQ.out (rowsB_good (by rw [HM.out]; exact fun j r h1 h2 => (hok.out j r h1 h2).1)) (by
        have := blank_all (rows := rows) (real := real) (by rw [HM.out]; exact fun j r b h1 h2 h3 => (hok.out j r h1 h2).2 b h3)
        rw [HM.out] at this
        exact this))
      have NM' := Lib.hid (NM.out wr hb)
      go_wp2_with fail
      refine NM'.out.mono ?_
      rintro e w2 ⟨rfl, b2⟩
      have hb2 := hb.trans (b2.mono hb.size)
      have B2 := b1.trans (hb2.mono b1.size)
      have d0 := (KB.out w2 hb2).cell 0
      have d1 := (KB.out w2 hb2).cell 1
      have d2 := (KB.out w2 hb2).cell 2
      simp at d0 d1 d2
      clear c0 c1
      cases p
      · obtain rfl : q = false := by rw [← HQ'.out]; rfl
        go_wp2_with fail
        go_ret
        exact ⟨rfl, B2⟩
      · by_cases h16 : k ≤ 256
        · have h16' : (k : Int) ≤ 256 := by omega
          by_cases hlk : l = k
          · subst hlk
            obtain rfl : q = true := by rw [← HQ'.out, decide_eq_true h16]; simp
            go_wp2_with fail
            go_ret
            exact ⟨rfl, B2⟩
          · have hne : ((l : Int) == (k : Int)) = false := by simp only [beq_eq_false_iff_ne]; omega
            have hne2 : ¬ (l : Int) = (k : Int) := by omega
            obtain rfl : q = false := by rw [← HQ'.out, decide_eq_false hlk]; simp
            go_wp2_with fail
            go_ret
            exact ⟨ret_bool (by first | (simp; done) | (simp; omega)), B2⟩
        · have h16' : ¬ (k : Int) ≤ 256 := by omega
          obtain rfl : q = false := by rw [← HQ'.out, decide_eq_false h16]; rfl
          go_wp2_with fail
          go_ret
          exact ⟨ret_bool (by first | (simp; done) | (simp; omega)), B2⟩
end Go.Proofs.YtbhklgiecfcfcaaDoor
