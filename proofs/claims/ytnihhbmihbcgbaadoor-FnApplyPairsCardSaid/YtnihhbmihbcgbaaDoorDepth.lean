/- impl.PairsDepth, spec.PairsDepth. -/
import Derived.Test.YtnihhbmihbcgbaaDoorFit
import Derived.Test.YtnihhbmihbcgbaaDoorInts
namespace Go.Proofs.YtnihhbmihbcgbaaDoor
open Go Go.RowKit
set_option maxRecDepth 100000

def dStep (s : List Int × Int) (x : Int × Int) : List Int × Int :=
  (((s.1.set x.1.toNat (max (s.1.getD x.1.toNat 0) (s.1.getD x.2.toNat 0) + 1)).set x.2.toNat (max (s.1.getD x.1.toNat 0) (s.1.getD x.2.toNat 0) + 1)), max s.2 (max (s.1.getD x.1.toNat 0) (s.1.getD x.2.toNat 0) + 1))
def dRun (many : Nat) (xs : List (Int × Int)) : List Int × Int := xs.foldl dStep (List.replicate many 0, 0)
theorem dRun_succ (many : Nat) (xs : List (Int × Int)) (k : Nat) (x : Int × Int) (hx : xs[k]? = some x) : dRun many (xs.take (k + 1)) = dStep (dRun many (xs.take k)) x := by
  rw [List.take_add_one, hx]; simp [dRun, List.foldl_append]
theorem dRun_inv (many : Nat) (xs : List (Int × Int)) : (dRun many xs).1.length = many ∧ (∀ z ∈ (dRun many xs).1, 0 ≤ z ∧ z ≤ xs.length) ∧ 0 ≤ (dRun many xs).2 ∧ (dRun many xs).2 ≤ xs.length := by
  suffices h : ∀ (xs : List (Int × Int)) (s : List Int × Int) (m : Nat), s.1.length = many → (∀ z ∈ s.1, 0 ≤ z ∧ z ≤ m) → (0 ≤ s.2 ∧ s.2 ≤ m) →
      (xs.foldl dStep s).1.length = many ∧ (∀ z ∈ (xs.foldl dStep s).1, 0 ≤ z ∧ z ≤ (m + xs.length : Nat)) ∧ 0 ≤ (xs.foldl dStep s).2 ∧ (xs.foldl dStep s).2 ≤ (m + xs.length : Nat) by
    have := h xs (List.replicate many 0, 0) 0 (by simp) (by intro z hz; simp at hz; omega) (by simp)
    simpa [dRun] using this
  intro xs
  induction xs with
  | nil => intro s m h1 h2 h3; exact ⟨h1, by simpa using h2, by simpa using h3⟩
  | cons x xs ih =>
    intro s m h1 h2 h3
    have hg : ∀ i : Nat, 0 ≤ s.1.getD i 0 ∧ s.1.getD i 0 ≤ m := by
      intro i
      rw [List.getD_eq_getElem?_getD]
      cases h : s.1[i]? with
      | none => simp
      | some z => simp; exact h2 z (List.mem_of_getElem? h)
    have g1 := hg x.1.toNat
    have g2 := hg x.2.toNat
    have hr : 0 ≤ max (s.1.getD x.1.toNat 0) (s.1.getD x.2.toNat 0) + 1 ∧ max (s.1.getD x.1.toNat 0) (s.1.getD x.2.toNat 0) + 1 ≤ (m + 1 : Nat) := by omega
    have := ih (dStep s x) (m + 1) (by simp [dStep, h1]) ?_ ?_
    · rw [List.foldl_cons, List.length_cons, show m + (xs.length + 1) = m + 1 + xs.length by omega]
      exact this
    · intro z hz
      simp only [dStep] at hz
      rcases List.mem_or_eq_of_mem_set hz with hz | rfl
      · rcases List.mem_or_eq_of_mem_set hz with hz | rfl
        · have := h2 z hz; omega
        · exact hr
      · exact hr
    · simp only [dStep]; omega


theorem own_set2_ints {wr : World} {base G m : Nat} {e : TypeId} {L : List Int} (h : wr.ownsRow base e 1 (.slice (some ⟨G, 0, none⟩) m m) m (L.map (Value.int .i64))) (a b : Nat) (R Q : Int) :
    ((wr.setCell ⟨G, a, none⟩ (.int .i64 R)).setCell ⟨G, b, none⟩ (.int .i64 Q)).ownsRow base e 1 (.slice (some ⟨G, 0, none⟩) m m) m (((L.set a R).set b Q).map (Value.int .i64)) ∧
      wr.grownBy ((wr.setCell ⟨G, a, none⟩ (.int .i64 R)).setCell ⟨G, b, none⟩ (.int .i64 Q)) (some G) := by
  have s1 := h.stored a (.int .i64 R)
  have s2 := s1.1.stored b (.int .i64 Q)
  refine ⟨?_, s1.2.trans s2.2⟩
  rw [List.map_set, List.map_set]
  exact s2.1
theorem depth_close {w wr : World} {base G m : Nat} {e : TypeId} {L : List Int} (h : wr.ownsRow base e 1 (.slice (some ⟨G, 0, none⟩) m m) m (L.map (Value.int .i64))) (hG : G < wr.heap.size) (hb : Below w.heap.size w wr) (hw : w.heap.size ≤ G) (o : Obj) (q : Nat) (a b : Nat) (R : Int) :
    ((((wr.alloc o).drewN q).setCell ⟨G, a, none⟩ (.int .i64 R)).setCell ⟨G, b, none⟩ (.int .i64 R)).ownsRow base e 1 (.slice (some ⟨G, 0, none⟩) m m) m (((L.set a R).set b R).map (Value.int .i64)) ∧
      G < ((((wr.alloc o).drewN q).setCell ⟨G, a, none⟩ (.int .i64 R)).setCell ⟨G, b, none⟩ (.int .i64 R)).heap.size ∧
      Below w.heap.size w ((((wr.alloc o).drewN q).setCell ⟨G, a, none⟩ (.int .i64 R)).setCell ⟨G, b, none⟩ (.int .i64 R)) := by
  have h1 : ((wr.alloc o).drewN q).ownsRow base e 1 (.slice (some ⟨G, 0, none⟩) m m) m (L.map (Value.int .i64)) := h.alloc o
  have h2 := own_set2_ints h1 a b R R
  have hb1 : Below w.heap.size w ((wr.alloc o).drewN q) := below_drewN (hb.alloc hb.size o) q
  have hs : ((wr.alloc o).drewN q).heap.size = wr.heap.size + 1 := by show (wr.alloc o).heap.size = _; simp
  have hsz := h2.2.size
  refine ⟨h2.1, by omega, hb1.grown h2.2 hb1.size (fun g hg => ?_)⟩
  injection hg with hg
  omega

set_option maxHeartbeats 1000000 in
theorem implDepth_yes (A : Option Addr) (n c : Nat) (xs : List (Int × Int)) (m : Nat) (w : World) (hxn : xs.length = n) (hx : Reads w w.heap.size 2 A n (prCells xs)) (hm : m ≤ 256)
    (hn : n ≤ 10000) (hfit : fitB m xs = true) :
    Calls Tryd.prog 26 #[.int .i64 m, .slice A n c] w fun e w' => e = .returned (.int .i64 (dRun m xs).2) ∧ Below w.heap.size w w' := by
  obtain ⟨i0, hi0, hz0, hz1, hz2⟩ := info_parts infoInt
  have HX := Lib.hid hxn
  have HF := Lib.hid hfit
  have HM := Lib.hid (inB_mk (n := (m : Int)) (lo := 0) (hi := 256) ⟨by omega, by omega⟩)
  have HP := Lib.hid (show (fitB m xs && decide (n ≤ 10000)) = true by rw [hfit]; simpa using hn)
  clear hxn hfit
  go_enter Tryd.func26, Tryd.ntmps26
  go_wp2_with fail
  refine (in_is true _ _ _ _ HM.out).mono ?_
  rintro e w' ⟨rfl, rfl⟩
  go_wp2_with fail
  refine (pairsFit_any true A n c xs m _ HX.out hx (by omega) (by omega) (by omega) HP.out).mono ?_
  rintro e w0 ⟨rfl, hb0⟩
  go_wp2_with (at_make; refine wpList_make_full _ rfl _ _ 41 rfl w.heap.size 3 i0 _ 1 Tryd.underlying41 hi0 hz0 hz1 .i64 .i64 _ _ m rfl rfl rfl rfl (by rw [hz2]; omega) (by unfold maxLen; omega) hb0.size ?_; intro w1 hown1 hgrow1)
  have hb1 : Below w.heap.size w w1 := hb0.grown hgrow1 hb0.size (by simp)
  have e0 : (madeCells (Value.int IntKind.i64 0).cells (m * 1)).toList = (dRun m (xs.take 0)).1.map (Value.int .i64) := by
    rw [Nat.mul_one]
    exact (toList_madeCells_one _ m).trans (by simp [dRun])
  rw [e0] at hown1
  clear e0 hgrow1
  have hG := hb0.size
  obtain ⟨G, hGe⟩ : ∃ G, w0.heap.size = G := ⟨_, rfl⟩
  rw [hGe] at hown1 hG ⊢
  have HG1 : G < w1.heap.size := by
    rcases hown1.2 with ⟨h, _⟩ | ⟨g, cap, cur, h, _, hh, _⟩
    · simp at h
    · simp at h
      obtain ⟨rfl, _⟩ := h
      exact Blk.lt hh
  clear hb0 hGe
  go_loopw [6, 23] (fun d i wr => ∃ k : Nat, k ≤ n ∧ i = .int .i64 k ∧ d = .int .i64 (dRun m (xs.take k)).2 ∧ wr.ownsRow w.heap.size 3 1 (.slice (some ⟨G, 0, none⟩) m m) m ((dRun m (xs.take k)).1.map (Value.int .i64)) ∧ G < wr.heap.size ∧ Below w.heap.size w wr) (fun _ i _ => n - (intOf i).toNat)
  case atStart => exact ⟨0, Nat.zero_le _, rfl, rfl, hown1, HG1, hb1⟩
  case round =>
    clear hown1 hb1 HG1
    obtain ⟨k, hk, rfl, rfl, hown, hGs, hb⟩ := hrel
    by_cases hlt : k < n
    · obtain ⟨ad, x1, x2, rfl, hadb, hxk, e1, e2⟩ := pr_at (hx.below hb) HX.out hlt
      have hok : pairOk m (x1, x2) = true := List.all_eq_true.1 HF.out _ (List.mem_of_getElem? hxk)
      simp [pairOk] at hok
      have r1 := inB_true hok.1
      have r2 := inB_true hok.2
      obtain ⟨a, rfl⟩ := Int.eq_ofNat_of_zero_le r1.1
      obtain ⟨b, rfl⟩ := Int.eq_ofNat_of_zero_le (show 0 ≤ x2 by omega)
      have ha : a < b := by omega
      have hbm : b < m := by omega
      have hinv := dRun_inv m (xs.take k)
      have hstep := dRun_succ m xs k _ hxk
      generalize hS : dRun m (xs.take k) = S at hown hinv hstep
      obtain ⟨L, d⟩ := S
      simp only at hown hinv
      obtain ⟨hL, hLr, hd0, hd1⟩ := hinv
      have htl : (xs.take k).length ≤ 10000 := by rw [List.length_take]; omega
      obtain ⟨la, hla⟩ : ∃ z, L[a]? = some z := ⟨_, List.getElem?_eq_getElem (by omega)⟩
      obtain ⟨lb, hlb⟩ : ∃ z, L[b]? = some z := ⟨_, List.getElem?_eq_getElem (by omega)⟩
      have ra := hLr la (List.mem_of_getElem? hla)
      have rb := hLr lb (List.mem_of_getElem? hlb)
      have c1 : wr.cell? ⟨G, a, none⟩ = some (.int .i64 la) := by rw [hown.cellAt a (by omega)]; simp [hla]
      have c2 : wr.cell? ⟨G, b, none⟩ = some (.int .i64 lb) := by rw [hown.cellAt b (by omega)]; simp [hlb]
      have f1 := hown.frozenAt a
      have f2 := hown.frozenAt b
      have ga : L.getD a 0 = la := by rw [List.getD_eq_getElem?_getD, hla]; rfl
      have gb : L.getD b 0 = lb := by rw [List.getD_eq_getElem?_getD, hlb]; rfl
      have hS2 : dRun m (xs.take (k + 1)) = ((L.set a (max la lb + 1)).set b (max la lb + 1), max d (max la lb + 1)) := by
        rw [hstep]; simp only [dStep, Int.toNat_natCast, ga, gb]
      have HS2 := Lib.hid hS2
      have HO := Lib.hid hown
      have ra0 : 0 ≤ la := ra.1
      have ra1 : la ≤ 10000 := by omega
      have rb0 : 0 ≤ lb := rb.1
      have rb1 : lb ≤ 10000 := by omega
      have rd1 : d ≤ 10000 := by omega
      have hk0 : (0 : Int) ≤ (k : Int) := Int.natCast_nonneg _
      have hk1 : (k : Int) < (n : Int) := by omega
      have ha0 : (0 : Int) ≤ (a : Int) := Int.natCast_nonneg _
      have hb0 : (0 : Int) ≤ (b : Int) := Int.natCast_nonneg _
      have ha1 : (a : Int) < (m : Int) := by omega
      have hb1 : (b : Int) < (m : Int) := by omega
      have hne : wr.heap.size ≠ G := by omega
      clear hS hstep hS2 hL hLr hla hlb ga gb ra rb hok r1 r2 hown htl hxk hd1 hx
      rcases Int.lt_or_le la lb with hab | hab
      · have em : max la lb + 1 = lb + 1 := by omega
        rcases Int.lt_or_le d (lb + 1) with hdr | hdr
        all_goals
          go_wp2_with fail
          go_quiet (fail)
          go_wp2_with fail
          go_region
          go_wp2
          go_roundw
          case rel =>
            have C := depth_close HO.out hGs hb hG (Obj.cells #[Value.int IntKind.i64 ↑a, Value.int IntKind.i64 ↑b] 37) (nq + 1) a b (lb + 1)
            have E := HS2.out
            rw [em] at E
            exact ⟨k + 1, by omega, by go_num, by rw [E]; simp only [Value.int.injEq, true_and]; omega, by rw [E]; exact C.1, C.2⟩
          case measure => simp [intOf]; omega
      · have em : max la lb + 1 = la + 1 := by omega
        rcases Int.lt_or_le d (la + 1) with hdr | hdr
        all_goals
          go_wp2_with fail
          go_quiet (fail)
          go_wp2_with fail
          go_region
          go_wp2
          go_roundw
          case rel =>
            have C := depth_close HO.out hGs hb hG (Obj.cells #[Value.int IntKind.i64 ↑a, Value.int IntKind.i64 ↑b] 37) (nq + 1) a b (la + 1)
            have E := HS2.out
            rw [em] at E
            exact ⟨k + 1, by omega, by go_num, by rw [E]; simp only [Value.int.injEq, true_and]; omega, by rw [E]; exact C.1, C.2⟩
          case measure => simp [intOf]; omega
    · obtain rfl : k = n := by omega
      go_wp2
      go_ret
      refine ⟨ret_int ?_, hb⟩
      rw [List.take_of_length_le (by have := HX.out; omega)]

theorem depth_close2 {w wr : World} {base G m : Nat} {e : TypeId} {L : List Int} (h : wr.ownsRow base e 1 (.slice (some ⟨G, 0, none⟩) m m) m (L.map (Value.int .i64))) (hG : G < wr.heap.size) (hb : Below w.heap.size w wr) (hw : w.heap.size ≤ G) (q : Nat) (a b : Nat) (R : Int) :
    (((wr.drewN q).setCell ⟨G, a, none⟩ (.int .i64 R)).setCell ⟨G, b, none⟩ (.int .i64 R)).ownsRow base e 1 (.slice (some ⟨G, 0, none⟩) m m) m (((L.set a R).set b R).map (Value.int .i64)) ∧
      G < (((wr.drewN q).setCell ⟨G, a, none⟩ (.int .i64 R)).setCell ⟨G, b, none⟩ (.int .i64 R)).heap.size ∧
      Below w.heap.size w (((wr.drewN q).setCell ⟨G, a, none⟩ (.int .i64 R)).setCell ⟨G, b, none⟩ (.int .i64 R)) := by
  have h1 : (wr.drewN q).ownsRow base e 1 (.slice (some ⟨G, 0, none⟩) m m) m (L.map (Value.int .i64)) := h
  have h2 := own_set2_ints h1 a b R R
  have hb1 : Below w.heap.size w (wr.drewN q) := below_drewN hb q
  have hs : (wr.drewN q).heap.size = wr.heap.size := rfl
  have hsz := h2.2.size
  refine ⟨h2.1, by omega, hb1.grown h2.2 hb1.size (fun g hg => ?_)⟩
  injection hg with hg
  omega

set_option maxHeartbeats 1000000 in
theorem specDepth_yes (A : Option Addr) (n c : Nat) (xs : List (Int × Int)) (m : Nat) (w : World) (hxn : xs.length = n) (hx : Reads w w.heap.size 2 A n (prCells xs)) (hm : m ≤ 256)
    (hn : n ≤ 10000) (hfit : fitB m xs = true) (hrr : ∀ x ∈ xs, i64ok x.1 ∧ i64ok x.2) :
    Calls Tryd.prog 28 #[.int .i64 m, .slice A n c] w fun e w' => e = .returned (.int .i64 (dRun m xs).2) ∧ Below w.heap.size w w' := by
  obtain ⟨i0, hi0, hz0, hz1, hz2⟩ := info_parts infoInt
  have HX := Lib.hid hxn
  have HF := Lib.hid hfit
  have HP := Lib.hid (show (inB (m : Int) 0 256 && (fitB m xs && decide (n ≤ 10000))) = true by rw [hfit, inB_mk (n := (m : Int)) (lo := 0) (hi := 256) ⟨by omega, by omega⟩]; simpa using hn)
  clear hxn hfit
  go_enter Tryd.func28, Tryd.ntmps28
  go_wp2_with fail
  refine (l9Good_any true A n c xs m _ HX.out hx (by unfold i64ok; omega) hrr (by omega) HP.out).mono ?_
  rintro e w0 ⟨rfl, hb0⟩
  go_wp2_with (at_make; refine wpList_make_full _ rfl _ _ 41 rfl w.heap.size 3 i0 _ 1 Tryd.underlying41 hi0 hz0 hz1 .i64 .i64 _ _ m rfl rfl rfl rfl (by rw [hz2]; omega) (by unfold maxLen; omega) hb0.size ?_; intro w1 hown1 hgrow1)
  have hb1 : Below w.heap.size w w1 := hb0.grown hgrow1 hb0.size (by simp)
  have e0 : (madeCells (Value.int IntKind.i64 0).cells (m * 1)).toList = (dRun m (xs.take 0)).1.map (Value.int .i64) := by
    rw [Nat.mul_one]
    exact (toList_madeCells_one _ m).trans (by simp [dRun])
  rw [e0] at hown1
  clear e0 hgrow1
  have hG := hb0.size
  obtain ⟨G, hGe⟩ : ∃ G, w0.heap.size = G := ⟨_, rfl⟩
  rw [hGe] at hown1 hG ⊢
  have HG1 : G < w1.heap.size := by
    rcases hown1.2 with ⟨h, _⟩ | ⟨g, cap, cur, h, _, hh, _⟩
    · simp at h
    · simp at h
      obtain ⟨rfl, _⟩ := h
      exact Blk.lt hh
  clear hb0 hGe
  go_loopw [6, 7] (fun d i wr => ∃ k : Nat, k ≤ n ∧ i = .int .i64 k ∧ d = .int .i64 (dRun m (xs.take k)).2 ∧ wr.ownsRow w.heap.size 3 1 (.slice (some ⟨G, 0, none⟩) m m) m ((dRun m (xs.take k)).1.map (Value.int .i64)) ∧ G < wr.heap.size ∧ Below w.heap.size w wr) (fun _ i _ => n - (intOf i).toNat)
  case atStart => exact ⟨0, Nat.zero_le _, rfl, rfl, hown1, HG1, hb1⟩
  case round =>
    clear hown1 hb1 HG1
    obtain ⟨k, hk, rfl, rfl, hown, hGs, hb⟩ := hrel
    by_cases hlt : k < n
    · obtain ⟨ad, x1, x2, rfl, hadb, hxk, e1, e2⟩ := pr_at (hx.below hb) HX.out hlt
      have hok : pairOk m (x1, x2) = true := List.all_eq_true.1 HF.out _ (List.mem_of_getElem? hxk)
      simp [pairOk] at hok
      have r1 := inB_true hok.1
      have r2 := inB_true hok.2
      obtain ⟨a, rfl⟩ := Int.eq_ofNat_of_zero_le r1.1
      obtain ⟨b, rfl⟩ := Int.eq_ofNat_of_zero_le (show 0 ≤ x2 by omega)
      have ha : a < b := by omega
      have hbm : b < m := by omega
      have hinv := dRun_inv m (xs.take k)
      have hstep := dRun_succ m xs k _ hxk
      generalize hS : dRun m (xs.take k) = S at hown hinv hstep
      obtain ⟨L, d⟩ := S
      simp only at hown hinv
      obtain ⟨hL, hLr, hd0, hd1⟩ := hinv
      have htl : (xs.take k).length ≤ 10000 := by rw [List.length_take]; omega
      obtain ⟨la, hla⟩ : ∃ z, L[a]? = some z := ⟨_, List.getElem?_eq_getElem (by omega)⟩
      obtain ⟨lb, hlb⟩ : ∃ z, L[b]? = some z := ⟨_, List.getElem?_eq_getElem (by omega)⟩
      have ra := hLr la (List.mem_of_getElem? hla)
      have rb := hLr lb (List.mem_of_getElem? hlb)
      have c1 : wr.cell? ⟨G, a, none⟩ = some (.int .i64 la) := by rw [hown.cellAt a (by omega)]; simp [hla]
      have c2 : wr.cell? ⟨G, b, none⟩ = some (.int .i64 lb) := by rw [hown.cellAt b (by omega)]; simp [hlb]
      have f1 := hown.frozenAt a
      have f2 := hown.frozenAt b
      have ga : L.getD a 0 = la := by rw [List.getD_eq_getElem?_getD, hla]; rfl
      have gb : L.getD b 0 = lb := by rw [List.getD_eq_getElem?_getD, hlb]; rfl
      have hS2 : dRun m (xs.take (k + 1)) = ((L.set a (max la lb + 1)).set b (max la lb + 1), max d (max la lb + 1)) := by
        rw [hstep]; simp only [dStep, Int.toNat_natCast, ga, gb]
      have HS2 := Lib.hid hS2
      have HO := Lib.hid hown
      have ra0 : 0 ≤ la := ra.1
      have ra1 : la ≤ 10000 := by omega
      have rb0 : 0 ≤ lb := rb.1
      have rb1 : lb ≤ 10000 := by omega
      have rd1 : d ≤ 10000 := by omega
      have hk0 : (0 : Int) ≤ (k : Int) := Int.natCast_nonneg _
      have hk1 : (k : Int) < (n : Int) := by omega
      have ha0 : (0 : Int) ≤ (a : Int) := Int.natCast_nonneg _
      have hb0 : (0 : Int) ≤ (b : Int) := Int.natCast_nonneg _
      have ha1 : (a : Int) < (m : Int) := by omega
      have hb1 : (b : Int) < (m : Int) := by omega
      have hne : ¬ (ad.add (k * 2)).block = G := by rw [block_of_add]; omega
      clear hS hstep hS2 hL hLr hla hlb ga gb ra rb hok r1 r2 hown htl hxk hd1 hx
      rcases Int.lt_or_le la lb with hab | hab
      · have em : max la lb + 1 = lb + 1 := by omega
        rcases Int.lt_or_le d (lb + 1) with hdr | hdr
        all_goals
          go_wp2_with fail
          go_quiet (fail)
          go_wp2
          go_roundw
          case rel =>
            have C := depth_close2 HO.out hGs hb hG nq a b (lb + 1)
            have E := HS2.out
            rw [em] at E
            exact ⟨k + 1, by omega, by go_num, by rw [E]; simp only [Value.int.injEq, true_and]; omega, by rw [E]; exact C.1, C.2⟩
          case measure => simp [intOf]; omega
      · have em : max la lb + 1 = la + 1 := by omega
        rcases Int.lt_or_le d (la + 1) with hdr | hdr
        all_goals
          go_wp2_with fail
          go_quiet (fail)
          go_wp2
          go_roundw
          case rel =>
            have C := depth_close2 HO.out hGs hb hG nq a b (la + 1)
            have E := HS2.out
            rw [em] at E
            exact ⟨k + 1, by omega, by go_num, by rw [E]; simp only [Value.int.injEq, true_and]; omega, by rw [E]; exact C.1, C.2⟩
          case measure => simp [intOf]; omega
    · obtain rfl : k = n := by omega
      go_wp2
      go_ret
      refine ⟨ret_int ?_, hb⟩
      rw [List.take_of_length_le (by have := HX.out; omega)]

def depthB (many : Int) (xs : List (Int × Int)) : Bool := inB many 0 256 && (fitB many xs && decide (xs.length ≤ 10000))
def depthOf (many : Int) (xs : List (Int × Int)) : Int := if depthB many xs then (dRun many.toNat xs).2 else -1

set_option maxHeartbeats 400000 in
theorem implDepth_any (A : Option Addr) (n c : Nat) (xs : List (Int × Int)) (many : Int) (w : World) (hxn : xs.length = n) (hx : Reads w w.heap.size 2 A n (prCells xs)) (hn : n ≤ 9223372036854775807) :
    Calls Tryd.prog 26 #[.int .i64 many, .slice A n c] w fun e w' => e = .returned (.int .i64 (depthOf many xs)) ∧ Below w.heap.size w w' := by
  cases hd : depthB many xs
  · have e : depthOf many xs = -1 := by simp [depthOf, hd]
    rw [e]
    cases h1 : inB many 0 256
    · have H1 := Lib.hid h1
      clear h1 hd e hxn
      go_enter Tryd.func26, Tryd.ntmps26
      go_wp2_with fail
      refine (in_is false _ _ _ _ H1.out).mono ?_
      rintro e w' ⟨rfl, rfl⟩
      go_wp2_with fail
      go_ret
      exact ⟨rfl, Below.refl _ _⟩
    · have hm := inB_true h1
      have h2 : (fitB many xs && decide (n ≤ 10000)) = false := by simpa [depthB, h1, hxn] using hd
      have H1 := Lib.hid h1
      have H2 := Lib.hid h2
      have HX := Lib.hid hxn
      clear h1 hd e hxn h2
      go_enter Tryd.func26, Tryd.ntmps26
      go_wp2_with fail
      refine (in_is true _ _ _ _ H1.out).mono ?_
      rintro e w' ⟨rfl, rfl⟩
      go_wp2_with fail
      refine (pairsFit_any false A n c xs many _ HX.out hx (by omega) (by omega) hn H2.out).mono ?_
      rintro e w0 ⟨rfl, hb0⟩
      go_wp2_with fail
      go_ret
      exact ⟨rfl, hb0⟩
  · have h := hd
    simp [depthB] at h
    have hm := inB_true h.1
    obtain ⟨m, rfl⟩ := Int.eq_ofNat_of_zero_le hm.1
    have e : depthOf m xs = (dRun m xs).2 := by simp [depthOf, hd]
    rw [e]
    exact implDepth_yes A n c xs m w hxn hx (by omega) (by omega) h.2.1

set_option maxHeartbeats 400000 in
theorem specDepth_any (A : Option Addr) (n c : Nat) (xs : List (Int × Int)) (many : Int) (w : World) (hxn : xs.length = n) (hx : Reads w w.heap.size 2 A n (prCells xs)) (hn : n ≤ 9223372036854775807) (hmi : i64ok many) (hrr : ∀ x ∈ xs, i64ok x.1 ∧ i64ok x.2) :
    Calls Tryd.prog 28 #[.int .i64 many, .slice A n c] w fun e w' => e = .returned (.int .i64 (depthOf many xs)) ∧ Below w.heap.size w w' := by
  cases hd : depthB many xs
  · have e : depthOf many xs = -1 := by simp [depthOf, hd]
    rw [e]
    have h2 : (inB many 0 256 && (fitB many xs && decide (n ≤ 10000))) = false := by rw [← hxn]; exact hd
    have H2 := Lib.hid h2
    have HX := Lib.hid hxn
    clear hd e hxn h2
    go_enter Tryd.func28, Tryd.ntmps28
    go_wp2_with fail
    refine (l9Good_any false A n c xs many _ HX.out hx hmi hrr hn H2.out).mono ?_
    rintro e w0 ⟨rfl, hb0⟩
    go_wp2_with fail
    go_ret
    exact ⟨rfl, hb0⟩
  · have h := hd
    simp [depthB] at h
    have hm := inB_true h.1
    obtain ⟨m, rfl⟩ := Int.eq_ofNat_of_zero_le hm.1
    have e : depthOf m xs = (dRun m xs).2 := by simp [depthOf, hd]
    rw [e]
    exact specDepth_yes A n c xs m w hxn hx (by omega) (by omega) h.2.1 hrr
end Go.Proofs.YtnihhbmihbcgbaaDoor
