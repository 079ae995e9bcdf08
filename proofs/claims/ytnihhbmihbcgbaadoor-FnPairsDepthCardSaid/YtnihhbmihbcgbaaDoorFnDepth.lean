/- laws.FnPairsDepth: the walk. -/
import Derived.Test.YtnihhbmihbcgbaaDoorSameL
import Derived.Test.YtnihhbmihbcgbaaDoorDrawPairs
import Derived.Test.YtnihhbmihbcgbaaDoorCalm
namespace Go.Proofs.YtnihhbmihbcgbaaDoor
open Go Go.RowKit
set_option maxRecDepth 100000

theorem depth_parts {m : Int} {L : List (Int × Int)} (h : Nat) (h0 : 0 ≤ depthOf m L) :
    depthOf m L ≤ L.length ∧ 0 ≤ depthOf m (L.take h) ∧ depthOf m (L.take h) ≤ depthOf m L ∧ depthOf m L ≤ depthOf m (L.take h) + depthOf m (L.drop h) ∧ depthOf m (L.take h) + depthOf m (L.drop h) ≤ 20000 := by
  have hb : depthB m L = true := by
    cases hb : depthB m L
    · unfold depthOf at h0; rw [hb] at h0; simp at h0
    · rfl
  have hb' := hb
  unfold depthB at hb'
  rw [Bool.and_eq_true, Bool.and_eq_true, decide_eq_true_eq] at hb'
  obtain ⟨hm, hf, hl⟩ := hb'
  have e0 := List.take_append_drop h L
  rw [← e0, fitB_split, Bool.and_eq_true] at hf
  have l1 : (L.take h).length ≤ L.length := by rw [List.length_take]; omega
  have l2 : (L.drop h).length ≤ L.length := by rw [List.length_drop]; omega
  have b1 : depthB m (L.take h) = true := by unfold depthB; rw [hm, hf.1]; simpa using by omega
  have b2 : depthB m (L.drop h) = true := by unfold depthB; rw [hm, hf.2]; simpa using by omega
  unfold depthOf
  rw [if_pos hb, if_pos b1, if_pos b2]
  have i0 := dRun_inv m.toNat L
  have i1 := dRun_inv m.toNat (L.take h)
  have i2 := dRun_inv m.toNat (L.drop h)
  have p := dRun_parts m.toNat (L.take h) (L.drop h)
  have q : (dRun m.toNat (L.take h)).2 ≤ (dRun m.toNat L).2 := by
    have : dRun m.toNat L = (L.drop h).foldl dStep (dRun m.toNat (L.take h)) := by rw [← dRun_append, e0]
    rw [this]
    exact dFold_mono _ _
  rw [e0] at p
  omega

theorem Reads.firstP {w : World} {B n k : Nat} {A : Option Addr} {L : List (Int × Int)} (h : Reads w B 2 A n (prCells L)) (hk : k ≤ n) : Reads w B 2 A k (prCells (L.take k)) := by
  rw [← prCells_take]; exact h.first hk
theorem Reads.cutP {w : World} {B n k cap : Nat} {A : Option Addr} {L : List (Int × Int)} (h : Reads w B 2 A n (prCells L)) (hk : k ≤ n) (hc : n ≤ cap) : Reads w B 2 (if cap = k then A else A.map (·.add (k * 2))) (n - k) (prCells (L.drop k)) := by
  rw [← prCells_drop]; exact h.cut hk hc

set_option maxHeartbeats 1600000 in
theorem fnDepth_walk {w : World} (A : Option Addr) (n c : Nat) (xs : List UInt8) (hl : xs.length = n) (hc : n ≤ c) (hm : c ≤ maxLen) (hx : Reads w w.heap.size 1 A n (byCells xs))
    (RA : Option Addr) (RC : Nat) (hv : w.cell? ⟨0, 0, none⟩ = some (.slice RA 13 RC)) (hr : Reads w w.heap.size 1 RA 13 (stCells resW)) :
    Calls Tryd.prog 7 #[.slice A n c] w fun e w' => e = .returned (.bool true) ∧ Below w.heap.size w w' := by
  by_cases hbig : (1048576 : Int) < (n : Int)
  · clear hx hr
    go_enter Tryd.func7, Tryd.ntmps7
    go_wp2_with fail
    go_ret
    exact ⟨rfl, Below.refl _ _⟩
  · have HD := Lib.hid (drawDepth_any A n c xs w hx hl (by omega) hc hm)
    have HV := Lib.hid (fun (w' : World) (hb : Below w.heap.size w w') => alive_yes RA RC w' (below_keep hb hv) ((hr.below hb).more hb.size))
    clear hx hr hl hv
    go_enter Tryd.func7, Tryd.ntmps7
    go_wp2_with fail
    refine HD.out.mono ?_
    rintro e w1 ⟨m, v, L, rfl, ha0, ha1, o1, hok, b1⟩
    have hle : L.length ≤ 9990 := hok.1
    obtain ⟨A0, c0, rfl, hc0, hcm, hA0⟩ := own_form' o1
    have R1 := Reads.of_own o1
    have hmi : i64ok m := by unfold i64ok; omega
    have IM := Lib.hid (implDepth_any A0 L.length c0 L m w1 rfl R1 (by omega))
    have SP := Lib.hid (fun (w' : World) (hb : Below w1.heap.size w1 w') => specDepth_any A0 L.length c0 L m w' rfl ((R1.below hb).more hb.size) (by omega) hmi hok.2)
    have DP := fun h => depth_parts (m := m) (L := L) h
    have HD1 := Lib.hid (show depthOf m L = -1 ∨ 0 ≤ depthOf m L by
      unfold depthOf
      split
      · right; exact (dRun_inv m.toNat L).2.2.1
      · left; rfl)
    obtain ⟨D, hD⟩ : ∃ D, depthOf m L = D := ⟨_, rfl⟩
    rw [hD] at IM SP DP HD1
    have DP := Lib.hid DP
    clear hD hok hmi o1
    go_wp2_with fail
    refine IM.out.mono ?_
    rintro e w2 ⟨rfl, b2⟩
    have B2 := b1.trans (b2.mono b1.size)
    go_wp2_with fail
    refine (SP.out w2 b2).mono ?_
    rintro e w3 ⟨rfl, b3⟩
    have B3 := B2.trans (b3.mono B2.size)
    have b13 := b2.trans (b3.mono b2.size)
    have R3 := (R1.below b13).more b13.size
    have AL := Lib.hid (HV.out w3 B3)
    clear IM SP HV b1 b2 b3 b13 B2 R1 HD
    rcases HD1.out with h1 | h1
    · subst h1
      clear R3
      go_wp2_with fail
      refine AL.out.mono ?_
      rintro e w' ⟨rfl, rfl⟩
      go_wp2_with fail
      go_ret
      exact ⟨rfl, B3⟩
    · have hneg : decide (D < 0) = false := by simpa using h1
      obtain ⟨q1, q2, q3, q4, q5⟩ := DP.out (L.length / 2) h1
      obtain ⟨h, hh⟩ : ∃ h, L.length / 2 = h := ⟨_, rfl⟩
      rw [hh] at q2 q3 q4 q5
      have hhl : h ≤ L.length := by omega
      have hdiv : (L.length : Int) / 2 = (h : Int) := by omega
      have C1 := Lib.hid (fun (w' : World) (hb : Below w3.heap.size w3 w') => (implDepth_any A0 h c0 (L.take h) m w' (by rw [List.length_take]; omega) (((R3.firstP hhl).below hb).more hb.size) (by omega)))
      have C2 := Lib.hid (fun (w' : World) (hb : Below w3.heap.size w3 w') => (implDepth_any _ (L.length - h) (c0 - h) (L.drop h) m w' (by rw [List.length_drop]) (((R3.cutP hhl hc0).below hb).more hb.size) (by omega)))
      obtain ⟨D1, hD1⟩ : ∃ D, depthOf m (L.take h) = D := ⟨_, rfl⟩
      obtain ⟨D2, hD2⟩ : ∃ D, depthOf m (L.drop h) = D := ⟨_, rfl⟩
      rw [hD1] at C1 q2 q3 q4 q5
      rw [hD2] at C2 q4 q5
      have g1 : decide (D ≤ (L.length : Int)) = true := by simpa using q1
      have g2 : decide (D ≤ D1 + D2) = true := by simpa using q4
      have g3 : decide (D1 ≤ D) = true := by simpa using q3
      have hw1 : IntKind.i64.wrap (D1 + D2) = D1 + D2 := IntWalk.i64_in _ (by omega)
      have i1 : (0 : Int) ≤ (h : Int) := by omega
      have i2 : (h : Int) ≤ (c0 : Int) := by omega
      have i3 : (h : Int) ≤ (L.length : Int) := by omega
      clear DP HD1 hD1 hD2 R3 q2 q5 hh
      go_wp2_with fail
      refine wp_region_calm (by kernel_rfl) (by kernel_rfl) ?_
      repeat (first | go_big_quiet_skip | (go_big_quiet_want; go_big_quiet_op; first | go_big_quiet_on | (apply Exists.intro; refine ⟨fun _ => ?_, ?_⟩; (first | with_reducible exact calm_call C1.out | with_reducible exact calm_call C2.out); go_big_quiet_on)))
      refine wpQuiet_nil ?_
      intro w5 hu
      obtain ⟨u, rfl⟩ := hu
      have B5 := B3.trans (u.h.mono B3.size)
      go_wp2_with fail
      all_goals
        go_ret
        exact ⟨rfl, B5⟩
end Go.Proofs.YtnihhbmihbcgbaaDoor
