/- spec.l20Pairs, DrawPairsDepth, DrawPairsSort, DrawApplyPairs. -/
import Derived.Test.YtnihhbmihbcgbaaDoorDrawName
import Derived.Test.YtnihhbmihbcgbaaDoorNet
import Derived.Test.YtnihhbmihbcgbaaDoorRounds
import Derived.Deep.RegionHeld3
import Derived.Deep.RegionLaw
namespace Go.Proofs.YtnihhbmihbcgbaaDoor
open Go Go.RowKit
set_option maxRecDepth 100000

def PairsOk (L : List (Int × Int)) : Prop := L.length ≤ 9990 ∧ ∀ x ∈ L, i64ok x.1 ∧ i64ok x.2
/-- What a call of l20Pairs leaves. -/
def Prs (R B : Nat) (w : World) (e : Ending) (w' : World) : Prop := ∃ (v : Value) (L : List (Int × Int)), e = .returned v ∧ w'.ownsRow w.heap.size 37 2 v L.length (prCells L) ∧ PairsOk L ∧ Rc w' R B ∧ Touch R (R + 1) w w'

theorem net_len99 : ∀ m, m < 257 → (netL m).length ≤ 9216 := by
  intro m hm
  have h1 := topE_le m (by omega)
  have hp : ∀ (p s d : Nat), (passI m p s d 0).length ≤ 256 := fun p s d => Nat.le_trans (passI_len m p s d 0) (by omega)
  have hq : ∀ (e q : Nat), (qRun m e q).length ≤ 256 * (q - e) := by
    intro e q
    induction q with
    | zero => simp [qRun]
    | succ q ih =>
      unfold qRun
      split
      · rename_i h
        rw [List.length_append]
        have := hp (2 ^ e) 1 (2 ^ (q + 1) - 2 ^ e)
        omega
      · simp
  have hr : ∀ (t e : Nat), (pRun m t e).length ≤ 256 * stages t e := by
    intro t e
    induction e with
    | zero => simp [pRun]
    | succ e ih =>
      unfold pRun stages
      rw [List.length_append, List.length_append]
      have a := hp (2 ^ e) 0 (2 ^ e)
      have b := hq e t
      omega
  have h2 := hr (topE m) (topE m + 1)
  rw [stages_all _ (by omega)] at h2
  have h3 : (topE m + 1) * (topE m + 2) ≤ 8 * 9 := Nat.mul_le_mul (by omega) (by omega)
  unfold netL
  omega
theorem netOf_ok (m : Int) : PairsOk (netOf m) := by
  unfold netOf
  split
  · rename_i h
    have hm := inB_true h
    have hl := net_len99 m.toNat (by omega)
    refine ⟨by omega, fun x hx => ?_⟩
    have hfit : ∀ (p s d i : Nat), 0 < d → ∀ x ∈ passI m.toNat p s d i, 0 ≤ x.1 ∧ x.1 ≤ 256 ∧ 0 ≤ x.2 ∧ x.2 ≤ 256 := by
      intro p s d i _ x hx
      unfold passI at hx
      simp only [List.mem_map, List.mem_filter, List.mem_range'_1] at hx
      obtain ⟨j, ⟨hj, _⟩, rfl⟩ := hx
      simp only
      omega
    have hq : ∀ (e q : Nat), ∀ x ∈ qRun m.toNat e q, 0 ≤ x.1 ∧ x.1 ≤ 256 ∧ 0 ≤ x.2 ∧ x.2 ≤ 256 := by
      intro e q
      induction q with
      | zero => intro x hx; simp [qRun] at hx
      | succ q ih =>
        intro x hx
        unfold qRun at hx
        split at hx
        · rename_i h
          have hpw := Nat.pow_lt_pow_right (show 1 < 2 by omega) h
          rcases List.mem_append.1 hx with hx | hx
          · exact hfit _ _ _ _ (by omega) x hx
          · exact ih x hx
        · simp at hx
    have hr : ∀ (t e : Nat), ∀ x ∈ pRun m.toNat t e, 0 ≤ x.1 ∧ x.1 ≤ 256 ∧ 0 ≤ x.2 ∧ x.2 ≤ 256 := by
      intro t e
      induction e with
      | zero => intro x hx; simp [pRun] at hx
      | succ e ih =>
        intro x hx
        unfold pRun at hx
        rcases List.mem_append.1 hx with hx | hx
        · exact hfit _ _ _ _ (Nat.two_pow_pos e) x hx
        · rcases List.mem_append.1 hx with hx | hx
          · exact hq _ _ x hx
          · exact ih x hx
    have := hr _ _ x hx
    unfold i64ok
    omega
  · exact ⟨by simp, by simp⟩
theorem pairsOk_cut {L : List (Int × Int)} (h : PairsOk L) (k : Nat) : PairsOk (L.take k ++ L.drop (k + 1)) := by
  refine ⟨by have := h.1; rw [List.length_append, List.length_take, List.length_drop]; omega, fun x hx => h.2 x ?_⟩
  rcases List.mem_append.1 hx with hx | hx
  · exact List.mem_of_mem_take hx
  · exact List.mem_of_mem_drop hx

theorem Reads.first {w : World} {B size n k : Nat} {A : Option Addr} {xs : List Value} (h : Reads w B size A n xs) (hk : k ≤ n) : Reads w B size A k (xs.take (k * size)) := by
  have hle : k * size ≤ n * size := Nat.mul_le_mul_right _ hk
  refine ⟨by rw [List.length_take, h.1]; omega, fun h0 => ?_⟩
  obtain ⟨ad, e, hb, hc⟩ := h.2 (by omega)
  refine ⟨ad, e, hb, fun j u hu => hc j u ?_⟩
  rw [List.getElem?_take] at hu
  split at hu
  · exact hu
  · cases hu
theorem prCells_take (L : List (Int × Int)) : ∀ k, (prCells L).take (k * 2) = prCells (L.take k) := by
  induction L with
  | nil => intro k; simp [prCells]
  | cons x L ih =>
    intro k
    cases k with
    | zero => simp [prCells]
    | succ k =>
      have e : (k + 1) * 2 = k * 2 + 1 + 1 := by omega
      have h : prCells (x :: L) = .int .i64 x.1 :: .int .i64 x.2 :: prCells L := rfl
      rw [h, e, List.take_succ_cons, List.take_succ_cons, ih, List.take_succ_cons]
      rfl
theorem prCells_drop (L : List (Int × Int)) : ∀ k, (prCells L).drop (k * 2) = prCells (L.drop k) := by
  induction L with
  | nil => intro k; simp [prCells]
  | cons x L ih =>
    intro k
    cases k with
    | zero => simp
    | succ k =>
      have e : (k + 1) * 2 = k * 2 + 1 + 1 := by omega
      have h : prCells (x :: L) = .int .i64 x.1 :: .int .i64 x.2 :: prCells L := rfl
      rw [h, e, List.drop_succ_cons, List.drop_succ_cons, ih, List.drop_succ_cons]
theorem prCells_one (L : List (Int × Int)) : ∀ u ∈ prCells L, u.oneCell' = true := by
  intro u hu
  unfold prCells at hu
  simp only [List.mem_flatMap, List.mem_cons, List.not_mem_nil, or_false] at hu
  obtain ⟨x, _, rfl | rfl⟩ := hu <;> rfl

set_option maxHeartbeats 1600000 in
theorem pairs_c (R B : Nat) (m : Nat) (n : Int) (w : World) (h : Rc w R (B + 30)) (hm : m ≤ 1000) (hn : n ≤ 100000) :
    Calls Tryd.prog 55 #[.pointer (some ⟨R, 0, none⟩), .int .i64 (m : Int), .int .i64 n] w (Prs R B w) := by
  have hR0 := h.lt
  have NO := Lib.hid (netOf_ok (m : Int))
  have NW := Lib.hid (fun w => specNet_any (m : Int) w)
  obtain ⟨i0, hi0, hz0, hz1, hz2⟩ := info_parts infoPair
  go_enter Tryd.func55, Tryd.ntmps55
  go_wp2_with fail
  refine (pick_c R (B + 29) 2 _ ((h.less (by omega)).alloc _) (by omega)).mono ?_
  rintro e w1 ⟨x, rfl, hx, r1, t1, -⟩
  have T1 : Touch R (R + 1) w w1 := ((Touch.refl R (R + 1) w).alloc _).trans t1
  by_cases hx0 : x = 0
  · subst hx0
    clear hx h
    go_wp2_with fail
    refine (NW.out _).mono ?_
    rintro e w2 ⟨v1, rfl, o2, b2⟩
    have r2 := r1.below b2
    have T2 := T1.then_below b2
    obtain ⟨L, hL⟩ : ∃ L, netOf (m : Int) = L := ⟨_, rfl⟩
    have NO := Lib.hid (show PairsOk L by rw [← hL]; exact NO.out)
    rw [hL] at o2
    have o2 := o2.base_le (show w.heap.size ≤ w1.heap.size from T1.size)
    have hlen := NO.out.1
    clear hL t1 r1 T1
    rcases own_cases o2 with ⟨rfl, hl0, hc0⟩ | ⟨g, cap, rfl⟩
    · have h0 : (L.length : Int) = 0 := by omega
      clear hl0 hc0
      go_wp2_with fail
      go_ret
      exact ⟨_, L, rfl, o2, NO.out, r2.less (by omega), T2⟩
    · have hc := (own_form o2)
      by_cases hl0 : L.length = 0
      · have h0 : (L.length : Int) = 0 := by omega
        have h0' : ¬ (0 < L.length) := by omega
        clear hl0
        go_wp2_with fail
        go_ret
        exact ⟨_, L, rfl, o2, NO.out, r2.less (by omega), T2⟩
      · have h0 : 0 < L.length := by omega
        go_wp2_with fail
        refine (pick_c R (B + 28) 2 _ r2 (by omega)).mono ?_
        rintro e w3 ⟨y, rfl, hy, r3, t3, -⟩
        by_cases hy0 : y = 0
        · subst hy0
          go_wp2_with fail
          refine (pick_c R (B + 27) _ _ r3 (by omega)).mono ?_
          rintro e w4 ⟨k, rfl, hk, r4, t4, -⟩
          go_wp2_with fail
          have t3s := t3.trans t4
          have o4 := t3s.own o2 (fun g' e => Or.inr (by have := (o2.lt g' e).1; omega))
          have hkl : k < L.length := by omega
          have RL := (Reads.of_own o4)
          clear r2 r3 hk hy h0 t3 hc o2
          obtain ⟨A', c', hAc, hlc, hcm⟩ := own_form o4
          obtain rfl : cap = c' := by injection hAc
          have R1 := (RL.drew.alloc (show w4.heap.size ≤ w4.drew.heap.size from Nat.le_refl _) (.cells #[] 37)).first (show k ≤ L.length by omega)
          rw [prCells_take] at R1
          have R2 := fun (wA : World) (hg : (w4.drew.alloc (.cells #[] 37)).grownBy wA (some w4.heap.size)) => ((RL.drew.alloc (show w4.heap.size ≤ w4.drew.heap.size from Nat.le_refl _) (.cells #[] 37)).grown hg (by simp) (fun g e => by injection e with e; omega)).cut (k := k + 1) (cap := cap) (by omega) hlc
          simp only [prCells_drop] at R2
          have hL16 : L.length ≤ 9990 := hlen
          have hw1 : IntKind.i64.wrap ((k : Int) + 1) = (k : Int) + 1 := IntWalk.i64_in _ (by omega)
          have i0 : (0 : Int) ≤ (k : Int) := by omega
          have i1 : (k : Int) ≤ (cap : Int) := by omega
          have i2 : (0 : Int) ≤ (k : Int) + 1 := by omega
          have i3 : (k : Int) + 1 ≤ (L.length : Int) := by omega
          have i4 : ((k : Int) + 1).toNat = k + 1 := by omega
          have HR1 := Lib.hid R1
          have HR2 := Lib.hid R2
          clear R1 R2 hAc
          have t3' := t3s
          by_cases hcap : cap = k + 1
          · have hA : (if cap = k + 1 then some (⟨g, 0, none⟩ : Addr) else Option.map (fun a : Addr => a.add ((k + 1) * 2)) (some (⟨g, 0, none⟩ : Addr))) = some ⟨g, 0, none⟩ := if_pos hcap
            have HR2' := Lib.hid (fun wA hg => hA ▸ HR2.out wA hg)
            have hcl : L.length - (k + 1) = 0 := by omega
            have hcapT : (cap = k + 1) = True := eq_true hcap
            have HCL := Lib.hid hcl
            clear hcap hcl
            clear HR2 hA
            go_region_held3 (fun w' => True) (trivial) (first
              | ((refine step_append_any _ (by rfl) (.tmp 29) (.tmp 32) 33 (by rfl) w4.heap.size 37 _ _ 2 16 Tryd.underlying33 hi0 hz0 hz1 hz2 (by rfl) (by decide) _ 0 [] (by rfl) (World.ownsRow_made w4.drew #[] 0 (Nat.le_refl _) (by unfold maxLen; omega) rfl) _ (some ⟨g, 0, none⟩) k cap (prCells (L.take k)) (by rfl) HR1.out (prCells_one _) (by unfold maxLen; omega) (by omega) (by simp) ?_; intro v1 wA ho1 hg1 hd1))
              | ((refine step_append_any _ (by rfl) (.tmp 33) (.tmp 37) 33 (by rfl) w4.heap.size 37 _ _ 2 16 Tryd.underlying33 hi0 hz0 hz1 hz2 (by rfl) (by decide) _ (0 + k) _ (by rfl) ho1 _ (some ⟨g, 0, none⟩) (L.length - (k + 1)) _ (prCells (L.drop (k + 1))) (by rfl) (HR2'.out wA hg1) (prCells_one _) (by unfold maxLen; omega) (by omega) (by have := hg1.size; simp at this; omega) ?_; intro v2 wB ho2 hg2 hd2)))
            have hle : w4.heap.size + 1 ≤ wA.heap.size := by simpa using hg1.size
            have b1 : Below w4.heap.size w4 wA := ((Below.refl _ w4).alloc (Nat.le_refl _) _).drew.grown hg1 (by simp) (fun g' e => by simp [Value.ownBlock] at e; omega)
            have b2 : Below w4.heap.size w4 wB := b1.grown hg2 (by omega) (fun g' e => (ho1.lt g' e).1)
            have hlen2 : (L.take k ++ L.drop (k + 1)).length = 0 + k + (L.length - (k + 1)) := by rw [List.length_append, List.length_take, List.length_drop]; omega
            have ho3 : wB.ownsRow w4.heap.size 37 2 v2 (L.take k ++ L.drop (k + 1)).length (prCells (L.take k ++ L.drop (k + 1))) := by
              rw [hlen2, prCells_append]
              simpa using ho2
            have PF := Lib.hid (And.intro ho3 (And.intro (T2.trans (t3'.trans (Touch.of_below b2))) (r4.below b2)))
            clear ho1 ho2 hg1 hg2 hd1 hd2 hle b1 b2 hlen2 ho3 hw1 i4
            go_wp2_with fail
            go_ret
            exact ⟨_, _, rfl, PF.out.1.base_le (by have := (T2.trans t3').size; exact this), pairsOk_cut NO.out k, PF.out.2.2.less (by omega), PF.out.2.1⟩
          · have hA : (if cap = k + 1 then some (⟨g, 0, none⟩ : Addr) else Option.map (fun a : Addr => a.add ((k + 1) * 2)) (some (⟨g, 0, none⟩ : Addr))) = some ⟨g, (k + 1) * 2, none⟩ := by rw [if_neg hcap, Option.map_some, addr_zero_add]
            have HR2' := Lib.hid (fun wA hg => hA ▸ HR2.out wA hg)
            clear HR2 hA
            go_region_held3 (fun w' => True) (trivial) (first
              | ((refine step_append_any _ (by rfl) (.tmp 29) (.tmp 32) 33 (by rfl) w4.heap.size 37 _ _ 2 16 Tryd.underlying33 hi0 hz0 hz1 hz2 (by rfl) (by decide) _ 0 [] (by rfl) (World.ownsRow_made w4.drew #[] 0 (Nat.le_refl _) (by unfold maxLen; omega) rfl) _ (some ⟨g, 0, none⟩) k cap (prCells (L.take k)) (by rfl) HR1.out (prCells_one _) (by unfold maxLen; omega) (by omega) (by simp) ?_; intro v1 wA ho1 hg1 hd1))
              | ((refine step_append_any _ (by rfl) (.tmp 33) (.tmp 37) 33 (by rfl) w4.heap.size 37 _ _ 2 16 Tryd.underlying33 hi0 hz0 hz1 hz2 (by rfl) (by decide) _ (0 + k) _ (by rfl) ho1 _ (some ⟨g, (k + 1) * 2, none⟩) (L.length - (k + 1)) (cap - (k + 1)) (prCells (L.drop (k + 1))) (by rfl) (HR2'.out wA hg1) (prCells_one _) (by unfold maxLen; omega) (by omega) (by have := hg1.size; simp at this; omega) ?_; intro v2 wB ho2 hg2 hd2)))
            have hle : w4.heap.size + 1 ≤ wA.heap.size := by simpa using hg1.size
            have b1 : Below w4.heap.size w4 wA := ((Below.refl _ w4).alloc (Nat.le_refl _) _).drew.grown hg1 (by simp) (fun g' e => by simp [Value.ownBlock] at e; omega)
            have b2 : Below w4.heap.size w4 wB := b1.grown hg2 (by omega) (fun g' e => (ho1.lt g' e).1)
            have hlen2 : (L.take k ++ L.drop (k + 1)).length = 0 + k + (L.length - (k + 1)) := by rw [List.length_append, List.length_take, List.length_drop]; omega
            have ho3 : wB.ownsRow w4.heap.size 37 2 v2 (L.take k ++ L.drop (k + 1)).length (prCells (L.take k ++ L.drop (k + 1))) := by
              rw [hlen2, prCells_append]
              simpa using ho2
            have PF := Lib.hid (And.intro ho3 (And.intro (T2.trans (t3'.trans (Touch.of_below b2))) (r4.below b2)))
            clear ho1 ho2 hg1 hg2 hd1 hd2 hle b1 b2 hlen2 ho3 hw1 i4
            go_wp2_with fail
            go_ret
            exact ⟨_, _, rfl, PF.out.1.base_le (by have := (T2.trans t3').size; exact this), pairsOk_cut NO.out k, PF.out.2.2.less (by omega), PF.out.2.1⟩
        · have hy1 : ((y : Int) == 0) = false := by simp; omega
          go_wp2_with fail
          go_ret
          exact ⟨_, L, rfl, t3.own o2 (fun g' e => Or.inr (by have := (o2.lt g' e).1; omega)), NO.out, r3.less (by omega), T2.trans t3⟩
  · have hx1 : ((x : Int) == 0) = false := by simp; omega
    go_wp2_with fail
    refine (pick_c R (B + 25) 9 _ (r1.less (by omega)) (by omega)).mono ?_
    rintro e w2 ⟨y, rfl, hy, r2, t2, -⟩
    have T2 := T1.trans t2
    have o0 := t2.own (t1.own (World.ownsRow_made (base := w.heap.size) (e := 37) (size := 2) w #[] 0 (Nat.le_refl _) (by unfold maxLen; omega) rfl) (fun g' e => Or.inr (by simp [Value.ownBlock] at e; omega))) (fun g' e => Or.inr (by simp [Value.ownBlock] at e; omega))
    go_wp2_with fail
    go_loopw [7, 9, 10] (fun ov kv _ wr => ∃ (k : Nat) (L : List (Int × Int)), kv = .int .i64 k ∧ k ≤ 8 ∧ L.length + k ≤ 8 ∧ wr.ownsRow w.heap.size 37 2 ov L.length (prCells L) ∧ Hid (∀ x ∈ L, i64ok x.1 ∧ i64ok x.2) ∧ Rc wr R (B + 3 + 2 * k) ∧ Touch R (R + 1) w wr) (fun _ kv _ _ => (intOf kv).toNat)
    case atStart => exact ⟨y, [], rfl, by omega, by simp; omega, o0, fun x hx => by simp at hx, r2.less (by omega), T2⟩
    case round =>
      obtain ⟨k, L, rfl, hk8, hLk, hown, hok, rc, T⟩ := hrel
      have hLn : L.length ≤ 20 := by omega
      by_cases hk0 : k = 0
      · subst hk0
        have rc := rc.less (show B + 1 + 1 ≤ B + 3 + 2 * 0 by omega)
        go_wp2_with fail
        refine (odd_c R (B + 1) n _ rc hn).mono ?_
        rintro e w3 ⟨q, rfl, r3, t3, -⟩
        have o3 := t3.own hown (fun g' e => Or.inr (by have := (hown.lt g' e).1; omega))
        have T3 := T.trans t3
        clear hown rc T t3
        cases q
        · go_wp2_with fail
          go_ret
          exact ⟨_, L, rfl, o3, ⟨by omega, hok.out⟩, r3.less (by omega), T3⟩
        · go_wp2_with fail
          have hs3 := T3.size
          refine (pick_c R B 3 _ (r3.alloc _) (by omega)).mono ?_
          rintro e w4 ⟨x, rfl, hx, r4, t4, -⟩
          have o4 := (t4.own (o3.alloc _) (fun g' e => Or.inr (by have := (o3.lt g' e).1; omega)))
          have T4 := (T3.alloc _).trans t4
          have hs4 := t4.size
          rw [World.size_alloc] at hs4
          obtain ⟨p1, p2, hp1, hp2, c1, c2⟩ : ∃ p1 p2 : Int, i64ok p1 ∧ i64ok p2 ∧ w4.cell? ⟨w3.heap.size, x * 2, none⟩ = some (.int .i64 p1) ∧ w4.cell? ⟨w3.heap.size, x * 2 + 1, none⟩ = some (.int .i64 p2) := by
            have hb := t4.blk (Blk.new _ _ _) (Or.inr (show R + 1 ≤ w3.heap.size by omega))
            have g1 := hb.cell (x * 2)
            have g2 := hb.cell (x * 2 + 1)
            rcases (show x = 0 ∨ x = 1 ∨ x = 2 by omega) with rfl | rfl | rfl
            · exact ⟨1, 1, by unfold i64ok; omega, by unfold i64ok; omega, g1, g2⟩
            · exact ⟨-1, 0, by unfold i64ok; omega, by unfold i64ok; omega, g1, g2⟩
            · exact ⟨0, m, by unfold i64ok; omega, by unfold i64ok; omega, g1, g2⟩
          have hx3 : (x : Int) < 3 := by omega
          clear t4 o3 T3 r3 hx
          go_wp2_with (first
            | (at_builtin; refine wpList_append_own _ rfl _ _ 33 rfl w.heap.size 37 i0 _ 2 16 Tryd.underlying33 hi0 hz0 hz1 hz2 rfl (by decide) _ _ _ rfl (o4.alloc _) ⟨w4.heap.size, 0, none⟩ 1 1 [.int .i64 p1, .int .i64 p2] rfl rfl (cells_new _ _ _) (oneCells rfl) (by unfold maxLen; omega) (by omega) (by simp; omega) ?_; intro v' w1 hown' hgrow _; have P := Lib.hid (And.intro hown' hgrow); clear hown' hgrow))
          have hpc : prCells (L ++ [(p1, p2)]) = prCells L ++ [.int .i64 p1, .int .i64 p2] := by rw [prCells_append]; rfl
          have HPC := Lib.hid hpc
          clear hpc
          go_wp2
          go_ret
          refine ⟨_, L ++ [(p1, p2)], rfl, ?_, ⟨by rw [List.length_append]; simp; omega, ?_⟩, ?_, ?_⟩
          · rw [HPC.out, List.length_append]; exact P.out.1
          · intro z hz
            rcases List.mem_append.1 hz with hz | hz
            · exact hok.out z hz
            · simp at hz; subst hz; exact ⟨hp1, hp2⟩
          · exact (r4.alloc _).touch (Touch.of_grown P.out.2 (fun g' e => (o4.lt g' e))) (by omega)
          · exact (T4.alloc _).grown P.out.2 (fun g' e => Or.inr (o4.lt g' e).1)
      · have hk1 : (0 : Int) < (k : Int) := by omega
        by_cases hm1 : m ≤ 1
        · have hm1' : ¬ (1 : Int) < (m : Int) := by omega
          have rc := rc.less (show B + 1 + 1 ≤ B + 3 + 2 * k by omega)
          go_wp2_with fail
          refine (odd_c R (B + 1) n _ rc hn).mono ?_
          rintro e w3 ⟨q, rfl, r3, t3, -⟩
          have o3 := t3.own hown (fun g' e => Or.inr (by have := (hown.lt g' e).1; omega))
          have T3 := T.trans t3
          clear hown rc T t3
          cases q
          · go_wp2_with fail
            go_ret
            exact ⟨_, L, rfl, o3, ⟨by omega, hok.out⟩, r3.less (by omega), T3⟩
          · go_wp2_with fail
            have hs3 := T3.size
            refine (pick_c R B 3 _ (r3.alloc _) (by omega)).mono ?_
            rintro e w4 ⟨x, rfl, hx, r4, t4, -⟩
            have o4 := (t4.own (o3.alloc _) (fun g' e => Or.inr (by have := (o3.lt g' e).1; omega)))
            have T4 := (T3.alloc _).trans t4
            have hs4 := t4.size
            rw [World.size_alloc] at hs4
            obtain ⟨p1, p2, hp1, hp2, c1, c2⟩ : ∃ p1 p2 : Int, i64ok p1 ∧ i64ok p2 ∧ w4.cell? ⟨w3.heap.size, x * 2, none⟩ = some (.int .i64 p1) ∧ w4.cell? ⟨w3.heap.size, x * 2 + 1, none⟩ = some (.int .i64 p2) := by
              have hb := t4.blk (Blk.new _ _ _) (Or.inr (show R + 1 ≤ w3.heap.size by omega))
              have g1 := hb.cell (x * 2)
              have g2 := hb.cell (x * 2 + 1)
              rcases (show x = 0 ∨ x = 1 ∨ x = 2 by omega) with rfl | rfl | rfl
              · exact ⟨1, 1, by unfold i64ok; omega, by unfold i64ok; omega, g1, g2⟩
              · exact ⟨-1, 0, by unfold i64ok; omega, by unfold i64ok; omega, g1, g2⟩
              · exact ⟨0, m, by unfold i64ok; omega, by unfold i64ok; omega, g1, g2⟩
            have hx3 : (x : Int) < 3 := by omega
            clear t4 o3 T3 r3 hx
            go_wp2_with (first
              | (at_builtin; refine wpList_append_own _ rfl _ _ 33 rfl w.heap.size 37 i0 _ 2 16 Tryd.underlying33 hi0 hz0 hz1 hz2 rfl (by decide) _ _ _ rfl (o4.alloc _) ⟨w4.heap.size, 0, none⟩ 1 1 [.int .i64 p1, .int .i64 p2] rfl rfl (cells_new _ _ _) (oneCells rfl) (by unfold maxLen; omega) (by omega) (by simp; omega) ?_; intro v' w1 hown' hgrow _; have P := Lib.hid (And.intro hown' hgrow); clear hown' hgrow))
            have hpc : prCells (L ++ [(p1, p2)]) = prCells L ++ [.int .i64 p1, .int .i64 p2] := by rw [prCells_append]; rfl
            have HPC := Lib.hid hpc
            clear hpc
            go_wp2
            go_ret
            refine ⟨_, L ++ [(p1, p2)], rfl, ?_, ⟨by rw [List.length_append]; simp; omega, ?_⟩, ?_, ?_⟩
            · rw [HPC.out, List.length_append]; exact P.out.1
            · intro z hz
              rcases List.mem_append.1 hz with hz | hz
              · exact hok.out z hz
              · simp at hz; subst hz; exact ⟨hp1, hp2⟩
            · exact (r4.alloc _).touch (Touch.of_grown P.out.2 (fun g' e => (o4.lt g' e))) (by omega)
            · exact (T4.alloc _).grown P.out.2 (fun g' e => Or.inr (o4.lt g' e).1)
        · have hm1' : (1 : Int) < (m : Int) := by omega
          go_wp2_with fail
          refine (pick_c R (B + 3 + 2 * (k - 1) + 1) _ _ (rc.less (by omega)) (by omega)).mono ?_
          rintro e w3 ⟨a, rfl, ha, r3, t3, -⟩
          go_wp2_with fail
          refine (pick_c R (B + 3 + 2 * (k - 1)) _ _ r3 (by omega)).mono ?_
          rintro e w4 ⟨b, rfl, hb, r4, t4, -⟩
          have t34 := t3.trans t4
          have o4 := t34.own hown (fun g' e => Or.inr (by have := (hown.lt g' e).1; omega))
          have T4 := T.trans t34
          have hs4 := T4.size
          clear hown t3 t4 t34 r3 rc T
          go_wp2_with (first
            | (at_builtin; refine wpList_append_own _ rfl _ _ 33 rfl w.heap.size 37 i0 _ 2 16 Tryd.underlying33 hi0 hz0 hz1 hz2 rfl (by decide) _ _ _ rfl (o4.alloc _) ⟨w4.heap.size, 0, none⟩ 1 1 [.int .i64 (a : Int), .int .i64 ((a : Int) + 1 + (b : Int))] rfl rfl (cells_new _ _ _) (oneCells rfl) (by unfold maxLen; omega) (by omega) (by simp; omega) ?_; intro v' w1 hown' hgrow _; have P := Lib.hid (And.intro hown' hgrow); clear hown' hgrow))
          have hpc : prCells (L ++ [((a : Int), (a : Int) + 1 + (b : Int))]) = prCells L ++ [.int .i64 (a : Int), .int .i64 ((a : Int) + 1 + (b : Int))] := by rw [prCells_append]; rfl

          go_wp2
          go_roundw
          case rel =>
            refine ⟨k - 1, L ++ [((a : Int), (a : Int) + 1 + (b : Int))], ?_, by omega, by rw [List.length_append]; simp; omega, ?_, ?_, ?_, ?_⟩
            · rw [Int.natCast_sub (by omega)]; rfl
            · rw [hpc, List.length_append]; exact P.out.1
            · intro z hz
              rcases List.mem_append.1 hz with hz | hz
              · exact hok.out z hz
              · simp at hz; subst hz; unfold i64ok; simp only; omega
            · exact (r4.alloc _).touch (Touch.of_grown P.out.2 (fun g' e => (o4.lt g' e))) (by omega)
            · exact (T4.alloc _).grown P.out.2 (fun g' e => Or.inr (o4.lt g' e).1)
          case measure => simp [intOf]; omega

def IntPairs (lo hi : Int) (w : World) (e : Ending) (w' : World) : Prop := ∃ (m : Int) (v : Value) (L : List (Int × Int)), e = .returned (.tuple #[.int .i64 m, v]) ∧ lo ≤ m ∧ m ≤ hi ∧ w'.ownsRow w.heap.size 37 2 v L.length (prCells L) ∧ PairsOk L ∧ Below w.heap.size w w'
set_option maxHeartbeats 400000 in
theorem drawDepth_any (A : Option Addr) (n c : Nat) (xs : List UInt8) (w : World) (hx : Reads w w.heap.size 1 A n (byCells xs)) (hl : xs.length = n) (hn : n ≤ 1048576) (hc : n ≤ c) (hc2 : c ≤ maxLen) :
    Calls Tryd.prog 27 #[.slice A n c] w (IntPairs 0 19 w) := by
  have HO := Lib.hid (open_c A n c xs w hx hl hn hc hc2)
  clear hx hl
  go_enter Tryd.func27, Tryd.ntmps27
  go_wp2_with fail
  refine HO.out.mono ?_
  rintro e w1 ⟨rfl, r1, b1, -⟩
  go_wp2_with fail
  refine (pick_c _ 100 20 _ (r1.less (by omega)) (by omega)).mono ?_
  rintro e w2 ⟨x, rfl, hx, r2, t2, -⟩
  go_wp2_with fail
  refine (pairs_c _ 10 x 9 _ (r2.less (by omega)) (by omega) (by omega)).mono ?_
  rintro e w3 ⟨v, L, rfl, o3, hok, r3, t3⟩
  have B3 := (t2.trans t3).below b1 (Nat.le_refl _)
  have o3' := o3.base_le (Nat.le_trans b1.size t2.size)
  clear o3 t2 t3 b1
  go_wp2_with fail
  go_ret2
  exact ⟨x, v, L, rfl, by omega, by omega, o3', hok, B3⟩
set_option maxHeartbeats 400000 in
theorem drawSort_any (A : Option Addr) (n c : Nat) (xs : List UInt8) (w : World) (hx : Reads w w.heap.size 1 A n (byCells xs)) (hl : xs.length = n) (hn : n ≤ 1048576) (hc : n ≤ c) (hc2 : c ≤ maxLen) :
    Calls Tryd.prog 31 #[.slice A n c] w (IntPairs (-1) 11 w) := by
  have HO := Lib.hid (open_c A n c xs w hx hl hn hc hc2)
  clear hx hl
  go_enter Tryd.func31, Tryd.ntmps31
  go_wp2_with fail
  refine HO.out.mono ?_
  rintro e w1 ⟨rfl, r1, b1, -⟩
  go_wp2_with fail
  refine (pick_c _ 100 8 _ (r1.less (by omega)) (by omega)).mono ?_
  rintro e w2 ⟨x, rfl, hx, r2, t2, -⟩
  go_wp2_with fail
  have hR := r2.lt
  have hs2 : w.heap.size ≤ w2.heap.size := Nat.le_trans b1.size t2.size
  refine (pairs_c _ 10 x 9 _ (r2.less (by omega)) (by omega) (by omega)).mono ?_
  rintro e w3 ⟨v, L, rfl, o3, hok, r3, t3⟩
  have B3 := (t2.trans t3).below b1 (Nat.le_refl _)
  have HOK := Lib.hid hok
  clear hok t2 t3 b1
  go_wp2_with fail
  refine (odd_c _ 9 9 _ r3 (by omega)).mono ?_
  rintro e w4 ⟨q, rfl, r4, t4, -⟩
  have B4 := t4.below B3 (Nat.le_refl _)
  have o4 := t4.own o3 (fun g' e => Or.inr (by have := (o3.lt g' e).1; omega))
  clear o3 t4 B3
  cases q
  · go_wp2_with fail
    go_ret2
    exact ⟨x, v, L, rfl, by omega, by omega, o4.base_le hs2, HOK.out, B4⟩
  · have hs4 : w.heap.size < w4.heap.size := r4.lt
    go_wp2_with fail
    refine (pick_c _ 8 2 _ (r4.alloc _) (by omega)).mono ?_
    rintro e w5 ⟨y, rfl, hy, r5, t5, -⟩
    have B5 := t5.below (B4.alloc B4.size _) (Nat.le_refl _)
    have o5 := t5.own (o4.alloc _) (fun g' e => Or.inr (by have := (o4.lt g' e).1; omega))
    obtain ⟨z, c1, hz0, hz1⟩ := ints_cell (lo := -1) (hi := 11) (Blk.new _ _ _) hs4 t5 (x := y) (by simp; omega) (by kernel_rfl)
    have hy2 : (y : Int) < 2 := by omega
    clear o4 t5 B4 hy
    go_wp2_with fail
    go_ret2
    exact ⟨z, v, L, rfl, hz0, hz1, o5.base_le hs2, HOK.out, B5⟩
end Go.Proofs.YtnihhbmihbcgbaaDoor
