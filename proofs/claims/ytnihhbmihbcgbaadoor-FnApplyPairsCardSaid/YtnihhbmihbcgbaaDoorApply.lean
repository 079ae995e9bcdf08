/- impl.ApplyPairs, spec.l9Apply, spec.ApplyPairs. -/
import Derived.Test.YtnihhbmihbcgbaaDoorFit
import Derived.Test.YtnihhbmihbcgbaaDoorInts
import Derived.BigRegion
namespace Go.Proofs.YtnihhbmihbcgbaaDoor
open Go Go.RowKit
set_option maxRecDepth 100000

def applyS (L : List Int) (x : Int × Int) : List Int :=
  if L.getD x.2.toNat 0 < L.getD x.1.toNat 0 then (L.set x.1.toNat (L.getD x.2.toNat 0)).set x.2.toNat (L.getD x.1.toNat 0) else L
def applyL (xs : List (Int × Int)) (L : List Int) : List Int := xs.foldl applyS L
theorem applyS_length (L : List Int) (x : Int × Int) : (applyS L x).length = L.length := by
  unfold applyS; split <;> simp
theorem applyL_length (xs : List (Int × Int)) (L : List Int) : (applyL xs L).length = L.length := by
  unfold applyL
  induction xs generalizing L with
  | nil => rfl
  | cons x xs ih => rw [List.foldl_cons, ih, applyS_length]
theorem applyL_succ (xs : List (Int × Int)) (L : List Int) (k : Nat) (x : Int × Int) (hx : xs[k]? = some x) : applyL (xs.take (k + 1)) L = applyS (applyL (xs.take k) L) x := by
  rw [List.take_add_one, hx]; simp [applyL, List.foldl_append]
theorem fit_zero {xs : List (Int × Int)} (h : fitB 0 xs = true) : xs = [] := by
  cases xs with
  | nil => rfl
  | cons x xs =>
    simp [fitB, pairOk] at h
    have h1 := inB_true h.1.1
    omega
/-- What a pair of places finds: both numbers, and the places in range. -/
theorem fit_at {m : Nat} {xs : List (Int × Int)} {k : Nat} {x1 x2 : Int} {L : List Int} (hf : fitB m xs = true) (hx : xs[k]? = some (x1, x2)) (hL : L.length = m) :
    ∃ (a b : Nat) (la lb : Int), x1 = a ∧ x2 = b ∧ a < b ∧ b < m ∧ L[a]? = some la ∧ L[b]? = some lb := by
  have hok : pairOk m (x1, x2) = true := List.all_eq_true.1 hf _ (List.mem_of_getElem? hx)
  simp [pairOk] at hok
  have r1 := inB_true hok.1
  have r2 := inB_true hok.2
  obtain ⟨a, rfl⟩ := Int.eq_ofNat_of_zero_le r1.1
  obtain ⟨b, rfl⟩ := Int.eq_ofNat_of_zero_le (show 0 ≤ x2 by omega)
  exact ⟨a, b, _, _, rfl, rfl, by omega, by omega, List.getElem?_eq_getElem (by omega), List.getElem?_eq_getElem (by omega)⟩
theorem applyS_at {L : List Int} {a b : Nat} {la lb : Int} (ha : L[a]? = some la) (hb : L[b]? = some lb) : applyS L ((a : Int), (b : Int)) = if lb < la then (L.set a lb).set b la else L := by
  simp [applyS, List.getD_eq_getElem?_getD, ha, hb]
theorem own_swap {wr : World} {base G m cap : Nat} {e : TypeId} {L : List Int} (h : wr.ownsRow base e 1 (.slice (some ⟨G, 0, none⟩) m cap) m (inCells L)) (a b : Nat) (R Q : Int) :
    ((wr.setCell ⟨G, a, none⟩ (.int .i64 R)).setCell ⟨G, b, none⟩ (.int .i64 Q)).ownsRow base e 1 (.slice (some ⟨G, 0, none⟩) m cap) m (inCells ((L.set a R).set b Q)) ∧
      wr.grownBy ((wr.setCell ⟨G, a, none⟩ (.int .i64 R)).setCell ⟨G, b, none⟩ (.int .i64 Q)) (some G) := by
  have s1 := h.stored a (.int .i64 R)
  have s2 := s1.1.stored b (.int .i64 Q)
  refine ⟨?_, s1.2.trans s2.2⟩
  unfold inCells
  rw [List.map_set, List.map_set]
  exact s2.1
theorem own_lt {w : World} {base g n cap size : Nat} {e : TypeId} {xs : List Value} (h : w.ownsRow base e size (.slice (some ⟨g, 0, none⟩) n cap) n xs) : base ≤ g ∧ g < w.heap.size := h.lt g rfl

set_option maxHeartbeats 1000000 in
theorem l9Apply_any (A B : Option Addr) (n m c d : Nat) (xs : List (Int × Int)) (L : List Int) (w : World) (hxn : xs.length = n) (hLm : L.length = m) (hx : Reads w w.heap.size 2 A n (prCells xs)) (hy : Reads w w.heap.size 1 B m (inCells L)) (hn : n ≤ 1000000) (hm : m ≤ 1000000)
    (hfit : fitB m xs = true) :
    Calls Tryd.prog 59 #[.slice A n c, .slice B m d] w fun e w' => ∃ v, e = .returned v ∧ w'.ownsRow w.heap.size 3 1 v m (inCells (applyL xs L)) ∧ Below w.heap.size w w' := by
  obtain ⟨i0, hi0, hz0, hz1, hz2⟩ := info_parts infoInt
  have HX := Lib.hid hxn
  have HL := Lib.hid hLm
  have HF := Lib.hid hfit
  clear hxn hLm hfit
  go_enter Tryd.func59, Tryd.ntmps59
  go_wp2_with (first
    | (at_builtin; refine wpList_append_any _ rfl _ _ 41 rfl w.heap.size 3 i0 _ 1 8 Tryd.underlying41 hi0 hz0 hz1 hz2 rfl (by omega) _ 0 [] rfl (World.ownsRow_made w #[] 0 (Nat.le_refl _) (by unfold maxLen; omega) rfl) w.heap.size _ m d (inCells L) rfl (hy.alloc (Nat.le_refl _) _) (inCells_one L) (by unfold maxLen; omega) (by omega) (by simp) ?_; intro v1 w1 hown1 hg1 hat1))
  have hb1 : Below w.heap.size w w1 := ((Below.refl _ _).alloc (Nat.le_refl _) _).grown hg1 (by simp) (fun g hg => ((World.ownsRow_made (base := w.heap.size) (e := 3) (size := 1) w #[] 0 (Nat.le_refl _) (by unfold maxLen; omega) rfl).lt g hg).1)
  rw [Nat.zero_add, List.nil_append] at hown1
  clear hg1 hat1 hy
  rcases own_cases hown1 with ⟨rfl, rfl, _⟩ | ⟨G, cap, rfl⟩
  · obtain rfl := fit_zero HF.out
    obtain rfl : n = 0 := HX.out.symm
    refine wp_loop_rounds 1 ?_
    rw [rounds_succ]
    go_wp2
    go_ret
    exact ⟨_, rfl, hown1, hb1⟩
  · have hG := own_lt hown1
    go_loopw [6] (fun i wr => ∃ k : Nat, k ≤ n ∧ i = .int .i64 k ∧ wr.ownsRow w.heap.size 3 1 (.slice (some ⟨G, 0, none⟩) m cap) m (inCells (applyL (xs.take k) L)) ∧ Below w.heap.size w wr) (fun i _ => n - (intOf i).toNat)
    case atStart => exact ⟨0, Nat.zero_le _, rfl, by simpa [applyL] using hown1, hb1⟩
    case round =>
      clear hown1 hb1
      obtain ⟨k, hk, rfl, hown, hb⟩ := hrel
      by_cases hlt : k < n
      · obtain ⟨ad, x1, x2, rfl, hadb, hxk, e1, e2⟩ := pr_at (hx.below hb) HX.out hlt
        obtain ⟨a, b, la, lb, rfl, rfl, hab, hbm, hla, hlb⟩ := fit_at HF.out hxk (show (applyL (xs.take k) L).length = m by rw [applyL_length, HL.out])
        have hst := applyL_succ xs L k _ hxk
        rw [applyS_at hla hlb] at hst
        have c1 : wr.cell? ⟨G, a, none⟩ = some (.int .i64 la) := by rw [hown.cellAt a (by omega)]; simp [inCells, hla]
        have c2 : wr.cell? ⟨G, b, none⟩ = some (.int .i64 lb) := by rw [hown.cellAt b (by omega)]; simp [inCells, hlb]
        have f1 := hown.frozenAt a
        have f2 := hown.frozenAt b
        have HO := Lib.hid hown
        have HS := Lib.hid hst
        have hk0 : (0 : Int) ≤ (k : Int) := Int.natCast_nonneg _
        have hk1 : (k : Int) < (n : Int) := by omega
        have ha0 : (0 : Int) ≤ (a : Int) := Int.natCast_nonneg _
        have hb0 : (0 : Int) ≤ (b : Int) := Int.natCast_nonneg _
        have ha1 : (a : Int) < (m : Int) := by omega
        have hb1 : (b : Int) < (m : Int) := by omega
        have hne : ¬ (ad.add (k * 2)).block = G := by rw [block_of_add]; omega
        clear hown hst hxk hla hlb hx
        by_cases hsw : lb < la
        · go_wp2_with fail
          go_quiet (fail)
          go_wp2
          go_roundw
          case rel =>
            have h1 : (wr.drewN nq).ownsRow w.heap.size 3 1 (.slice (some ⟨G, 0, none⟩) m cap) m (inCells (applyL (xs.take k) L)) := HO.out
            have R := own_swap h1 a b lb la
            refine ⟨k + 1, by omega, by go_num, ?_, ?_⟩
            · rw [HS.out, if_pos hsw]; exact R.1
            · exact (below_drewN hb nq).grown R.2 hb.size (fun g hg => by injection hg with hg; omega)
          case measure => simp [intOf]; omega
        · go_wp2_with fail
          go_quiet (fail)
          go_wp2
          go_roundw
          case rel =>
            have h1 : (wr.drewN nq).ownsRow w.heap.size 3 1 (.slice (some ⟨G, 0, none⟩) m cap) m (inCells (applyL (xs.take k) L)) := HO.out
            refine ⟨k + 1, by omega, by go_num, ?_, below_drewN hb nq⟩
            rw [HS.out, if_neg (by omega)]; exact h1
          case measure => simp [intOf]; omega
      · obtain rfl : k = n := by omega
        go_wp2
        go_ret
        refine ⟨_, rfl, ?_, hb⟩
        rw [List.take_of_length_le (by have := HX.out; omega)] at hown
        exact hown

def applyOk (xs : List (Int × Int)) (L : List Int) : Bool := decide (L.length ≤ 256) && (fitB L.length xs && decide (xs.length ≤ 10000))
def applyOf (xs : List (Int × Int)) (L : List Int) : List Int := if applyOk xs L then applyL xs L else []
theorem applyOf_len (xs : List (Int × Int)) (L : List Int) : (applyOf xs L).length ≤ 256 := by
  cases h : applyOk xs L
  · simp [applyOf, h]
  · simp only [applyOf, h, if_true]
    rw [applyL_length]
    simp [applyOk] at h
    exact h.1

set_option maxHeartbeats 1000000 in
theorem implApply_yes (A B : Option Addr) (n m c d : Nat) (xs : List (Int × Int)) (L : List Int) (w : World) (hxn : xs.length = n) (hLm : L.length = m) (hx : Reads w w.heap.size 2 A n (prCells xs)) (hy : Reads w w.heap.size 1 B m (inCells L)) (hn : n ≤ 10000) (hm : m ≤ 256)
    (hfit : fitB m xs = true) (hB : B = none → d = 0 ∧ m = 0) :
    Calls Tryd.prog 29 #[.slice A n c, .slice B m d] w fun e w' => ∃ v, e = .returned v ∧ w'.ownsRow w.heap.size 3 1 v m (inCells (applyL xs L)) ∧ Below w.heap.size w w' := by
  have HX := Lib.hid hxn
  have HL := Lib.hid hLm
  have HF := Lib.hid hfit
  have HP := Lib.hid (show (fitB m xs && decide (n ≤ 10000)) = true by rw [hfit]; simpa using hn)
  have HB := Lib.hid hB
  clear hxn hLm hfit hB
  go_enter Tryd.func29, Tryd.ntmps29
  go_wp2_with fail
  refine (pairsFit_any true A n c xs m _ HX.out hx (by omega) (by omega) (by omega) HP.out).mono ?_
  rintro e w0 ⟨rfl, hb0⟩
  have hx0 := hx.belowW (Nat.le_refl _) hb0
  have hy0 := (hy.belowW (Nat.le_refl _) hb0).more hb0.size
  clear hx hy
  go_wp2_with fail
  refine (cloneInt_any B m d L _ hy0 (by omega) HL.out HB.out).mono ?_
  rintro e w1 ⟨v1, rfl, hown1, hb1⟩
  have hx1 := hx0.keep (w' := w1) (fun p hp => hb1.cell (Nat.lt_of_lt_of_le hp hb0.size))
  have hB1 : Below w.heap.size w w1 := hb0.trans (hb1.mono hb0.size)
  have hown1 := hown1.base_le hb0.size
  clear hx0 hy0 hb1
  rcases own_cases hown1 with ⟨rfl, rfl, _⟩ | ⟨G, cap, rfl⟩
  · obtain rfl := fit_zero HF.out
    obtain rfl : n = 0 := HX.out.symm
    go_wp2_with fail
    refine wp_loop_rounds 1 ?_
    rw [rounds_succ]
    go_wp2
    go_ret
    exact ⟨_, rfl, hown1, hB1⟩
  · have hG := own_lt hown1
    clear hb0
    go_wp2_with fail
    go_loopw [22] (fun i wr => ∃ k : Nat, k ≤ n ∧ i = .int .i64 k ∧ wr.ownsRow w.heap.size 3 1 (.slice (some ⟨G, 0, none⟩) m cap) m (inCells (applyL (xs.take k) L)) ∧ Below w.heap.size w wr ∧ Reads wr w.heap.size 2 A n (prCells xs)) (fun i _ => n - (intOf i).toNat)
    case atStart => exact ⟨0, Nat.zero_le _, rfl, by simpa [applyL] using hown1, hB1, hx1⟩
    case round =>
      clear hown1 hB1 hx1 hG
      obtain ⟨k, hk, rfl, hown, hb, hx⟩ := hrel
      have hG := own_lt hown
      by_cases hlt : k < n
      · obtain ⟨ad, x1, x2, rfl, hadb, hxk, e1, e2⟩ := pr_at hx HX.out hlt
        obtain ⟨a, b, la, lb, rfl, rfl, hab, hbm, hla, hlb⟩ := fit_at HF.out hxk (show (applyL (xs.take k) L).length = m by rw [applyL_length, HL.out])
        have hst := applyL_succ xs L k _ hxk
        rw [applyS_at hla hlb] at hst
        have c1 : wr.cell? ⟨G, a, none⟩ = some (.int .i64 la) := by rw [hown.cellAt a (by omega)]; simp [inCells, hla]
        have c2 : wr.cell? ⟨G, b, none⟩ = some (.int .i64 lb) := by rw [hown.cellAt b (by omega)]; simp [inCells, hlb]
        have f1 := hown.frozenAt a
        have f2 := hown.frozenAt b
        have HO := Lib.hid hown
        have HS := Lib.hid hst
        have HXX := Lib.hid hx
        have hk0 : (0 : Int) ≤ (k : Int) := Int.natCast_nonneg _
        have hk1 : (k : Int) < (n : Int) := by omega
        have ha0 : (0 : Int) ≤ (a : Int) := Int.natCast_nonneg _
        have hb0 : (0 : Int) ≤ (b : Int) := Int.natCast_nonneg _
        have ha1 : (a : Int) < (m : Int) := by omega
        have hb1 : (b : Int) < (m : Int) := by omega
        have hne : ¬ (ad.add (k * 2)).block = G := by rw [block_of_add]; omega
        have hne2 : ¬ wr.heap.size = G := by omega
        clear hown hst hxk hla hlb hx
        by_cases hsw : lb < la
        · go_wp2_with fail
          go_quiet (fail)
          go_wp2_with fail
          go_region
          go_wp2
          go_roundw
          case rel =>
            have h1 : ((wr.alloc (.cells #[.int .i64 (a : Int), .int .i64 (b : Int)] 37)).drewN (nq + 1)).ownsRow w.heap.size 3 1 (.slice (some ⟨G, 0, none⟩) m cap) m (inCells (applyL (xs.take k) L)) := HO.out.alloc _
            have hbb : Below w.heap.size w ((wr.alloc (.cells #[.int .i64 (a : Int), .int .i64 (b : Int)] 37)).drewN (nq + 1)) := below_drewN (hb.alloc hb.size _) _
            have R := own_swap h1 a b lb la
            refine ⟨k + 1, by omega, by go_num, ?_, ?_, ?_⟩
            · rw [HS.out, if_pos hsw]; exact R.1
            · exact hbb.grown R.2 hbb.size (fun g hg => by injection hg with hg; omega)
            · exact ((HXX.out.alloc hb.size _).drewN (nq + 1)).grown R.2 hbb.size (fun g hg => by injection hg with hg; omega)
          case measure => simp [intOf]; omega
        · go_wp2_with fail
          go_quiet (fail)
          go_wp2
          go_roundw
          case rel =>
            have h1 : ((wr.alloc (.cells #[.int .i64 (a : Int), .int .i64 (b : Int)] 37)).drewN nq).ownsRow w.heap.size 3 1 (.slice (some ⟨G, 0, none⟩) m cap) m (inCells (applyL (xs.take k) L)) := HO.out.alloc _
            refine ⟨k + 1, by omega, by go_num, ?_, below_drewN (hb.alloc hb.size _) nq, (HXX.out.alloc hb.size _).drewN nq⟩
            rw [HS.out, if_neg (by omega)]; exact h1
          case measure => simp [intOf]; omega
      · obtain rfl : k = n := by omega
        go_wp2
        go_ret
        refine ⟨_, rfl, ?_, hb⟩
        rw [List.take_of_length_le (by have := HX.out; omega)] at hown
        exact hown

set_option maxHeartbeats 400000 in
theorem implApply_any (A B : Option Addr) (n m c d : Nat) (xs : List (Int × Int)) (L : List Int) (w : World) (hxn : xs.length = n) (hLm : L.length = m) (hx : Reads w w.heap.size 2 A n (prCells xs)) (hy : Reads w w.heap.size 1 B m (inCells L)) (hn : n ≤ 9223372036854775807) (hm : m ≤ 9223372036854775807)
    (hB : B = none → d = 0 ∧ m = 0) :
    Calls Tryd.prog 29 #[.slice A n c, .slice B m d] w fun e w' => ∃ v, e = .returned v ∧ w'.ownsRow w.heap.size 3 1 v (applyOf xs L).length (inCells (applyOf xs L)) ∧ Below w.heap.size w w' := by
  cases hd : applyOk xs L
  · have e : applyOf xs L = [] := by simp [applyOf, hd]
    rw [e]
    by_cases h1 : m ≤ 256
    · have h2 : (fitB m xs && decide (n ≤ 10000)) = false := by simpa [applyOk, hLm, h1, hxn] using hd
      have H2 := Lib.hid h2
      have HX := Lib.hid hxn
      clear hd e hxn h2 hLm hB
      go_enter Tryd.func29, Tryd.ntmps29
      go_wp2_with fail
      refine (pairsFit_any false A n c xs m _ HX.out hx (by omega) (by omega) hn H2.out).mono ?_
      rintro e w0 ⟨rfl, hb0⟩
      go_wp2_with fail
      go_ret
      exact ⟨_, rfl, World.ownsRow_nil _ _ _ _, hb0⟩
    · clear hd e hxn hLm hB
      go_enter Tryd.func29, Tryd.ntmps29
      go_wp2_with fail
      go_ret
      exact ⟨_, rfl, World.ownsRow_nil _ _ _ _, Below.refl _ _⟩
  · have h := hd
    simp [applyOk] at h
    have e : applyOf xs L = applyL xs L := by simp [applyOf, hd]
    rw [e, applyL_length, hLm]
    rw [hLm] at h
    exact implApply_yes A B n m c d xs L w hxn hLm hx hy (by omega) h.1 h.2.1 hB

set_option maxHeartbeats 400000 in
theorem specApply_any (A B : Option Addr) (n m c d : Nat) (xs : List (Int × Int)) (L : List Int) (w : World) (hxn : xs.length = n) (hLm : L.length = m) (hx : Reads w w.heap.size 2 A n (prCells xs)) (hy : Reads w w.heap.size 1 B m (inCells L)) (hn : n ≤ 9223372036854775807) (hm : m ≤ 9223372036854775807)
    (hr : ∀ x ∈ xs, i64ok x.1 ∧ i64ok x.2) :
    Calls Tryd.prog 35 #[.slice A n c, .slice B m d] w fun e w' => ∃ v, e = .returned v ∧ w'.ownsRow w.heap.size 3 1 v (applyOf xs L).length (inCells (applyOf xs L)) ∧ Below w.heap.size w w' := by
  cases hd : applyOk xs L
  · have e : applyOf xs L = [] := by simp [applyOf, hd]
    rw [e]
    have h2 : (inB (m : Int) 0 256 && (fitB m xs && decide (n ≤ 10000))) = false := by
      rw [← hd]
      simp only [applyOk, hLm, hxn, inB]
      congr 1
      simp
      omega
    have H2 := Lib.hid h2
    have HX := Lib.hid hxn
    have HR := Lib.hid hr
    clear hd e hxn h2 hLm hr
    go_enter Tryd.func35, Tryd.ntmps35
    go_wp2_with fail
    refine (l9Good_any false A n c xs m _ HX.out hx (by unfold i64ok; omega) HR.out hn H2.out).mono ?_
    rintro e w0 ⟨rfl, hb0⟩
    go_wp2_with fail
    go_ret
    exact ⟨_, rfl, World.ownsRow_made w0 #[] 0 hb0.size (by unfold maxLen; omega) rfl, hb0.alloc hb0.size _⟩
  · have h := hd
    simp [applyOk] at h
    have e : applyOf xs L = applyL xs L := by simp [applyOf, hd]
    rw [e, applyL_length, hLm]
    rw [hLm] at h
    have h2 : (inB (m : Int) 0 256 && (fitB m xs && decide (n ≤ 10000))) = true := by
      rw [inB_mk (n := (m : Int)) (lo := 0) (hi := 256) ⟨by omega, by omega⟩, h.2.1]
      simp
      omega
    have H2 := Lib.hid h2
    have HX := Lib.hid hxn
    have HL := Lib.hid hLm
    have HR := Lib.hid hr
    have HF := Lib.hid h.2.1
    have hn' : n ≤ 10000 := by omega
    have hm' : m ≤ 256 := h.1
    clear hd e hxn h2 hLm hr h
    go_enter Tryd.func35, Tryd.ntmps35
    go_wp2_with fail
    refine (l9Good_any true A n c xs m _ HX.out hx (by unfold i64ok; omega) HR.out hn H2.out).mono ?_
    rintro e w0 ⟨rfl, hb0⟩
    go_wp2_with fail
    refine (l9Apply_any A B n m c d xs L _ HX.out HL.out ((hx.belowW (Nat.le_refl _) hb0).more hb0.size) ((hy.belowW (Nat.le_refl _) hb0).more hb0.size) (by omega) (by omega) HF.out).mono ?_
    rintro e w1 ⟨v, rfl, ho, hb1⟩
    obtain ⟨A1, c1, rfl, _, _⟩ := own_form ho
    go_wp2_with fail
    go_ret
    exact ⟨_, rfl, ho.base_le hb0.size, hb0.trans (hb1.mono hb0.size)⟩
end Go.Proofs.YtnihhbmihbcgbaaDoor
