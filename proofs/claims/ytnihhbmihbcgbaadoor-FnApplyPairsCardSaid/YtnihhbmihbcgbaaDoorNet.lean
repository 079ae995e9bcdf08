/- impl.NetworkOf and spec.NetworkOf: which pairs they return. -/
import Derived.Test.YtnihhbmihbcgbaaDoorPair
import Derived.Laws.BitsAllLaws
import Derived.Laws.BitsLemmas
import Derived.OneCell
namespace Go.Proofs.YtnihhbmihbcgbaaDoor
open Go Go.RowKit
set_option maxRecDepth 100000

/-! ### the pairs, in plain Lean -/
def passI (m p s d i : Nat) : List (Int × Int) := ((List.range' i (m - d - i)).filter fun (j : Nat) => j / p % 2 == s).map fun (j : Nat) => ((j : Int), ((j + d : Nat) : Int))
def qRun (m e : Nat) : Nat → List (Int × Int)
  | 0 => []
  | q + 1 => if e < q + 1 then passI m (2 ^ e) 1 (2 ^ (q + 1) - 2 ^ e) 0 ++ qRun m e q else []
def pRun (m t : Nat) : Nat → List (Int × Int)
  | 0 => []
  | e + 1 => passI m (2 ^ e) 0 (2 ^ e) 0 ++ (qRun m e t ++ pRun m t e)
/-- The exponent of the greatest power of two less than m, for m from 2 on; 0 for 0 and 1. -/
def topE (m : Nat) : Nat := (List.range 8).foldl (fun t i => if 2 ^ (i + 1) < m then i + 1 else t) 0
def netL (m : Nat) : List (Int × Int) := pRun m (topE m) (topE m + 1)

theorem passI_end (m p s d i : Nat) (h : ¬ i + d < m) : passI m p s d i = [] := by
  have : m - d - i = 0 := by omega
  simp [passI, this]
theorem passI_step (m p s d i : Nat) (h : i + d < m) : passI m p s d i = (if i / p % 2 = s then [((i : Int), ((i + d : Nat) : Int))] else []) ++ passI m p s d (i + 1) := by
  have e : m - d - i = (m - d - (i + 1)) + 1 := by omega
  unfold passI
  rw [e, List.range'_succ]
  by_cases hc : i / p % 2 = s
  · simp [hc]
  · simp [hc]

theorem passI_len (m p s d i : Nat) : (passI m p s d i).length ≤ m := by
  unfold passI
  rw [List.length_map]
  refine Nat.le_trans (List.length_filter_le _ _) ?_
  rw [List.length_range']; omega
theorem qRun_len (m e q : Nat) : (qRun m e q).length ≤ q * m := by
  induction q with
  | zero => simp [qRun]
  | succ q ih =>
    unfold qRun
    have e1 : (q + 1) * m = q * m + m := by rw [Nat.add_mul, Nat.one_mul]
    split
    · rw [List.length_append]
      have := passI_len m (2 ^ e) 1 (2 ^ (q + 1) - 2 ^ e) 0
      omega
    · simp
theorem pRun_len (m t c : Nat) : (pRun m t c).length ≤ c * (m + t * m) := by
  induction c with
  | zero => simp [pRun]
  | succ c ih =>
    unfold pRun
    have e1 : (c + 1) * (m + t * m) = c * (m + t * m) + (m + t * m) := by rw [Nat.add_mul, Nat.one_mul]
    rw [List.length_append, List.length_append]
    have h1 := passI_len m (2 ^ c) 0 (2 ^ c) 0
    have h2 := qRun_len m c t
    omega
theorem top_all : ∀ m, m < 257 → ∀ t, t < 8 → (t = 0 ∨ 2 ^ t < m) → m ≤ 2 ^ (t + 1) → topE m = t := by decide +kernel
theorem topE_le : ∀ m, m < 257 → topE m ≤ 7 := by decide +kernel
theorem netL_len (m : Nat) (hm : m ≤ 256) : (netL m).length ≤ 16384 := by
  have h1 := topE_le m (by omega)
  have h2 := pRun_len m (topE m) (topE m + 1)
  have h3 : topE m * m ≤ 7 * 256 := Nat.mul_le_mul h1 hm
  have h4 : (topE m + 1) * (m + topE m * m) ≤ 8 * 2048 := Nat.mul_le_mul (by omega) (by omega)
  exact Nat.le_trans h2 h4
theorem qRun_stop (m e : Nat) : qRun m e e = [] := by
  cases e with
  | zero => rfl
  | succ e => simp [qRun]

theorem and_pow (i e : Nat) : i &&& 2 ^ e = (i / 2 ^ e % 2) * 2 ^ e := by
  apply Nat.eq_of_testBit_eq
  intro j
  rw [Nat.testBit_and, Nat.testBit_two_pow]
  have ht : i.testBit e = decide (i / 2 ^ e % 2 = 1) := Nat.testBit_eq_decide_div_mod_eq
  rcases Nat.mod_two_eq_zero_or_one (i / 2 ^ e) with h | h
  · rw [h, Nat.zero_mul, Nat.zero_testBit]
    by_cases hj : e = j
    · subst hj; rw [ht, h]; rfl
    · simp [hj]
  · rw [h, Nat.one_mul, Nat.testBit_two_pow]
    by_cases hj : e = j
    · subst hj; rw [ht, h]; rfl
    · simp [hj]

theorem ofInt_i64 (a : Nat) (ha : a < 9223372036854775808) : (BitVec.ofInt 64 (a : Int)).toNat = a := by
  rw [BitVec.ofInt_natCast, BitVec.toNat_ofNat]; exact Nat.mod_eq_of_lt (by omega)
theorem i64_and_nat (a b : Nat) (ha : a < 9223372036854775808) (hb : b < 9223372036854775808) : bits .and .i64 (a : Int) (b : Int) = ((a &&& b : Nat) : Int) := by
  have hx : a &&& b < 2 ^ 63 := Nat.and_lt_two_pow _ (by omega)
  show IntKind.i64.wrap ((BitVec.ofInt 64 (a : Int) &&& BitVec.ofInt 64 (b : Int)).toNat : Int) = _
  rw [BitVec.toNat_and, ofInt_i64 a ha, ofInt_i64 b hb, IntKind.wrap_i64]
  omega

/-- What the closure 'compare' keeps: m in its cell, the slice in its own, the pairs C in the slice. -/
structure NetInv (W : World) (base Bm Bo : Nat) (m : Nat) (v : Value) (C : List (Int × Int)) (w : World) : Prop where
  cm : w.cell? ⟨Bm, 0, none⟩ = some (.int .i64 m)
  co : Blk w Bo 33 #[v]
  ho : w.ownsRow base 37 2 v C.length (prCells C)
  hb : Below W.heap.size W w
  b1 : Bm < base
  b2 : Bo < base
  b3 : base ≤ w.heap.size
  b4 : W.heap.size ≤ Bm
  b5 : W.heap.size ≤ Bo
  b6 : Bm ≠ Bo

theorem NetInv.push {W : World} {base Bm Bo m : Nat} {v v' : Value} {C : List (Int × Int)} {w w1 : World} {x : Int × Int} {o : Obj} (h : NetInv W base Bm Bo m v C w)
    (hown : w1.ownsRow base 37 2 v' (C.length + 1) (prCells C ++ [.int .i64 x.1, .int .i64 x.2])) (hg : (w.alloc o).grownBy w1 v.ownBlock) :
    NetInv W base Bm Bo m v' (C ++ [x]) (w1.setCell ⟨Bo, 0, none⟩ v') ∧ w1.cell? ⟨Bo, 0, none⟩ = some v ∧ w1.frozen? ⟨Bo, 0, none⟩ = false := by
  have hne : ∀ g, v.ownBlock = some g → base ≤ g := fun g hg => (h.ho.lt g hg).1
  have hbo : Blk w1 Bo 33 #[v] := (h.co.alloc o).grown hg (fun e => by have := hne _ e.symm; have := h.b2; omega)
  have hb1 : Below W.heap.size W w1 := (h.hb.alloc h.hb.size o).grown hg (by have := h.hb.size; simp; omega) (fun g hg' => by have := hne g hg'; have := h.b4; have := h.b1; omega)
  have hs : base ≤ w1.heap.size := Nat.le_trans (by have := h.b3; simp; omega) hg.size
  refine ⟨⟨?_, ?_, ?_, ?_, h.b1, h.b2, ?_, h.b4, h.b5, h.b6⟩, hbo.cell 0, hbo.frozen 0⟩
  · rw [World.cell?_setCell_other _ _ _ _ (by intro e; injection e with e; exact h.b6 e.symm)]
    rw [World.cell?_of_block (hg.block Bm (by have := h.b1; have := h.b3; simp; omega) (fun e => by have := hne _ e.symm; have := h.b1; omega))]
    rw [World.cell?_alloc_lt w o _ (by have := h.b1; have := h.b3; show Bm < w.heap.size; omega)]
    exact h.cm
  · have := hbo.set_ 0 v'
    simpa using this
  · have e : (C ++ [x]).length = C.length + 1 := by simp
    rw [e, prCells_append]
    exact ownsRow_setCell_below hown (a := ⟨Bo, 0, none⟩) h.b2 v'
  · exact hb1.setCell (p := ⟨Bo, 0, none⟩) h.b5 v'
  · have : (w1.setCell ⟨Bo, 0, none⟩ v').heap.size = w1.heap.size := by simp [World.setCell]
    omega

set_option maxHeartbeats 1000000 in
theorem compare_any (W : World) (base Bm Bo m e set d : Nat) (v : Value) (C : List (Int × Int)) (w : World) (h : NetInv W base Bm Bo m v C w) (hm : m ≤ 256) (he : e ≤ 7) (hs : set = 0 ∨ set = 1) (hd : d ≤ 256) (hC : C.length + m ≤ 100000) :
    Calls Tryd.prog 53 #[.int .i64 ((2 ^ e : Nat) : Int), .int .i64 ((set * 2 ^ e : Nat) : Int), .int .i64 (d : Int), .pointer (some ⟨Bm, 0, none⟩), .pointer (some ⟨Bo, 0, none⟩)] w
      fun en w' => en = .returned (.tuple #[]) ∧ ∃ v', NetInv W base Bm Bo m v' (C ++ passI m (2 ^ e) set d 0) w' := by
  obtain ⟨i0, hi0, hz0, hz1, hz2⟩ := info_parts infoPair
  obtain ⟨p, hp⟩ : ∃ p : Nat, 2 ^ e = p := ⟨_, rfl⟩
  have hpow : p ≤ 128 ∧ 0 < p := by
    have : 2 ^ e ≤ 2 ^ 7 := Nat.pow_le_pow_right (by omega) he
    have h0 : 0 < 2 ^ e := Nat.pos_of_ne_zero (by simp)
    omega
  have hand : ∀ i, i &&& p = i / p % 2 * p := fun i => by rw [← hp]; exact and_pow i e
  rw [hp]
  have HAND := Lib.hid hand
  clear hand hp
  obtain ⟨sp, hsp⟩ : ∃ x : Nat, set * p = x := ⟨_, rfl⟩
  have hspb : sp ≤ 128 := by rcases hs with rfl | rfl <;> omega
  rw [hsp]
  have HSP := Lib.hid hsp
  obtain ⟨F, hF⟩ : ∃ F, C ++ passI m p set d 0 = F := ⟨_, rfl⟩
  rw [hF]
  have HFF := Lib.hid hF
  have HI := Lib.hid h
  clear hsp hF h
  go_enter Tryd.func53, Tryd.ntmps53
  go_wp2
  go_loopw [8] (fun i wr => ∃ (k : Nat) (v : Value) (C' : List (Int × Int)), k ≤ m ∧ i = .int .i64 k ∧ C'.length ≤ C.length + k ∧ NetInv W base Bm Bo m v C' wr ∧ C' ++ passI m p set d k = F) (fun i _ => m - (intOf i).toNat)
  case atStart => exact ⟨0, v, C, Nat.zero_le _, rfl, by omega, HI.out, HFF.out⟩
  case round =>
    obtain ⟨k, v1, C', hk, rfl, hl, hinv, hrest⟩ := hrel
    have cm := hinv.cm
    have co : wr.cell? ⟨Bo, 0, none⟩ = some v1 := hinv.co.cell 0
    have fo : wr.frozen? ⟨Bo, 0, none⟩ = false := hinv.co.frozen 0
    have hown := hinv.ho
    have hbs := hinv.b3
    have INV := Lib.hid hinv
    have HR := Lib.hid hrest
    clear hinv hrest
    by_cases hlt : k + d < m
    · have hand : bits .and .i64 (k : Int) (p : Int) = ((k / p % 2 * p : Nat) : Int) := by rw [i64_and_nat k p (by omega) (by omega), HAND.out]
      have hdiv := Nat.mod_two_eq_zero_or_one (k / p)
      by_cases hc : k / p % 2 = set
      · have ht : ((bits .and .i64 (k : Int) (p : Int)) == (sp : Int)) = true := by rw [hand, hc, HSP.out]; simp
        clear hand hdiv
        obtain ⟨A1, c1, rfl, _, _⟩ := own_form hown
        go_wp2_with (first
          | (at_builtin; refine wpList_append_own _ rfl _ _ 33 rfl base 37 i0 _ 2 16 Tryd.underlying33 hi0 hz0 hz1 hz2 rfl (by decide) _ _ _ rfl (hown.alloc _) ⟨wr.heap.size, 0, none⟩ 1 1 [.int .i64 k, .int .i64 ((k : Int) + d)] rfl rfl (cells_new _ _ _) (oneCells rfl) (by unfold maxLen; omega) (by omega) (by simp; omega) ?_; intro v' w1 hown' hgrow _; obtain ⟨A2, c2, hv, _, _⟩ := own_form hown'; subst hv; have P := NetInv.push (x := ((k : Int), (k : Int) + (d : Int))) INV.out hown' hgrow; have p1 := P.2.1; have p2 := P.2.2))
        go_roundw
        case rel =>
          have hst := passI_step m p set d k hlt
          rw [if_pos hc] at hst
          refine ⟨k + 1, _, C' ++ [((k : Int), (k : Int) + (d : Int))], by omega, by go_num, by simp; omega, P.1, ?_⟩
          have := HR.out
          rw [hst] at this
          rw [List.append_assoc]
          exact this
        case measure => simp [intOf]; omega
      · have ht : ((bits .and .i64 (k : Int) (p : Int)) == (sp : Int)) = false := by
          rw [hand, ← HSP.out]
          rcases hs with rfl | rfl <;> rcases hdiv with h | h <;> rw [h] at hc ⊢ <;> simp at hc ⊢ <;> omega
        clear hand hdiv
        go_wp2
        go_roundw
        case rel =>
          have hst := passI_step m p set d k hlt
          rw [if_neg hc, List.nil_append] at hst
          refine ⟨k + 1, v1, C', by omega, by go_num, by omega, INV.out, ?_⟩
          rw [← hst]
          exact HR.out
        case measure => simp [intOf]; omega
    · go_wp2
      go_end0
      refine ⟨rfl, v1, ?_⟩
      have := HR.out
      rw [passI_end m p set d k hlt, List.append_nil] at this
      rw [← this]
      exact INV.out

theorem compare_at (P S D : Int) (W : World) (base Bm Bo m e set d : Nat) (v : Value) (C : List (Int × Int)) (w : World) (h : NetInv W base Bm Bo m v C w) (hP : P = ((2 ^ e : Nat) : Int)) (hS : S = ((set * 2 ^ e : Nat) : Int)) (hD : D = (d : Int)) (hm : m ≤ 256) (he : e ≤ 7) (hs : set = 0 ∨ set = 1) (hd : d ≤ 256) (hC : C.length + m ≤ 100000) :
    Calls Tryd.prog 53 #[.int .i64 P, .int .i64 S, .int .i64 D, .pointer (some ⟨Bm, 0, none⟩), .pointer (some ⟨Bo, 0, none⟩)] w
      fun en w' => en = .returned (.tuple #[]) ∧ ∃ v', NetInv W base Bm Bo m v' (C ++ passI m (2 ^ e) set d 0) w' := by
  subst hP hS hD
  exact compare_any W base Bm Bo m e set d v C w h hm he hs hd hC

theorem netInv_start {w : World} (m : Nat) : NetInv w (w.heap.size + 2) w.heap.size (w.heap.size + 1) m (.slice none 0 0) [] ((w.alloc (.cells #[.int .i64 (m : Int)] 3)).alloc (.cells #[.slice none 0 0] 33)) := by
  have h1 := Blk.new w 3 #[.int .i64 (m : Int)]
  have h2 := Blk.new (w.alloc (.cells #[.int .i64 (m : Int)] 3)) 33 #[.slice none 0 0]
  have hs : (w.alloc (.cells #[.int .i64 (m : Int)] 3)).heap.size = w.heap.size + 1 := by simp
  rw [hs] at h2
  refine ⟨(h1.alloc _).cell 0, h2, World.ownsRow_nil _ _ _ _, ((Below.refl _ _).alloc (Nat.le_refl _) _).alloc (by simp) _, by omega, by omega, by simp, by omega, by omega, by omega⟩

set_option maxHeartbeats 1000000 in
theorem implNet_yes (m : Nat) (w : World) (hm : m ≤ 256) :
    Calls Tryd.prog 23 #[.int .i64 m] w fun e w' => ∃ v, e = .returned v ∧ w'.ownsRow w.heap.size 37 2 v (netL m).length (prCells (netL m)) ∧ Below w.heap.size w w' := by
  have HM := Lib.hid (inB_mk (n := (m : Int)) (lo := 0) (hi := 256) ⟨by omega, by omega⟩)
  have hlen := netL_len m hm
  go_enter Tryd.func23, Tryd.ntmps23
  go_wp2_with fail
  refine (in_is true _ _ _ _ HM.out).mono ?_
  rintro e w' ⟨rfl, rfl⟩
  go_wp2_with fail
  go_loop [3] (fun t => ∃ te : Nat, te ≤ 7 ∧ t = .int .i64 ((2 ^ te : Nat) : Int) ∧ (te = 0 ∨ 2 ^ te < m)) (fun t => 256 - (intOf t).toNat)
  case atStart => exact ⟨0, by omega, rfl, .inl rfl⟩
  case round =>
    obtain ⟨te, hte, rfl, hlo⟩ := hrel
    obtain ⟨p, hp⟩ : ∃ p : Nat, 2 ^ te = p := ⟨_, rfl⟩
    have hp1 : 2 ^ (te + 1) = 2 * p := by rw [Nat.pow_succ, hp]; omega
    have hpb : p ≤ 128 ∧ 0 < p := by
      have h1 : 2 ^ te ≤ 2 ^ 7 := Nat.pow_le_pow_right (by omega) hte
      have h0 : 0 < 2 ^ te := Nat.pos_of_ne_zero (by simp)
      omega
    rw [hp]
    rw [hp] at hlo
    have HP := Lib.hid hp
    have HP1 := Lib.hid hp1
    have HLO := Lib.hid hlo
    clear hp hp1 hlo
    by_cases hlt : 2 * p < m
    · go_wp2
      go_round
      case rel =>
        refine ⟨te + 1, ?_, ?_, .inr ?_⟩
        · rcases Nat.lt_or_ge te 7 with h | h
          · omega
          · exfalso
            have : te = 7 := by omega
            subst this
            have := HP.out
            omega
        · rw [HP1.out]; go_num
        · rw [HP1.out]; exact hlt
      case measure => simp [intOf]; omega
    · have htop : topE m = te := top_all m (by omega) te (by omega) (by rcases HLO.out with h | h; exact .inl h; exact .inr (by rw [HP.out]; exact h)) (by have := HP1.out; omega)
      have hF : netL m = pRun m te (te + 1) := by unfold netL; rw [htop]
      have HF := Lib.hid hF
      have HST := Lib.hid (netInv_start (w := w) m)
      clear htop hF
      go_wp2_with fail
      go_loopw [6, 7] (fun pv _ wr => ∃ (c pn : Nat) (v : Value) (C : List (Int × Int)), c ≤ te + 1 ∧ 2 ^ c / 2 = pn ∧ pn ≤ p ∧ pv = .int .i64 (pn : Int) ∧ NetInv w (w.heap.size + 2) w.heap.size (w.heap.size + 1) m v C wr ∧ C ++ pRun m te c = netL m) (fun pv _ _ => (intOf pv).toNat)
      case atStart =>
        refine ⟨te + 1, p, _, [], Nat.le_refl _, ?_, Nat.le_refl _, rfl, HST.out, HF.out.symm⟩
        have := HP1.out
        omega
      case round =>
        obtain ⟨c, pn, v, C, hc, hpn, hpnp, rfl, hinv, hC⟩ := hrel
        obtain ⟨wo, rfl⟩ : ∃ wo : World, wo = wr := ⟨_, rfl⟩
        cases c with
        | zero =>
          have : pn = 0 := by rw [← hpn]
          subst this
          have co : wo.cell? ⟨w.heap.size + 1, 0, none⟩ = some v := hinv.co.cell 0
          have hC' : C = netL m := by simpa [pRun] using hC
          have INV := Lib.hid hinv
          have HC' := Lib.hid hC'
          clear hinv hC hC' hpn
          go_wp2
          go_ret
          refine ⟨v, rfl, ?_, INV.out.hb⟩
          rw [← HC'.out]
          exact INV.out.ho.base_le (by omega)
        | succ e =>
          have hpe : 2 ^ e = pn := by rw [← hpn, Nat.pow_succ]; omega
          have hpos : 0 < pn := by rw [← hpe]; exact Nat.pos_of_ne_zero (by simp)
          have INV := Lib.hid hinv
          have HC := Lib.hid hC
          have HPE := Lib.hid hpe
          have hCl : C.length ≤ 16384 := by
            have := congrArg List.length hC
            rw [List.length_append] at this
            omega
          clear hinv hC hpe hpn
          go_wp2_with fail
          refine (compare_at _ _ _ w _ _ _ m e 0 pn v C _ INV.out (by rw [HPE.out]) (by simp) rfl hm (by omega) (.inl rfl) (by omega) (by omega)).mono ?_
          rintro en w2 ⟨rfl, v2, inv2⟩
          have INV2 := Lib.hid inv2
          clear inv2
          go_wp2_with fail
          go_loopw [7] (fun qv wr => ∃ (qe qn : Nat) (v : Value) (C2 : List (Int × Int)), e ≤ qe ∧ qe ≤ te ∧ 2 ^ qe = qn ∧ qn ≤ p ∧ qv = .int .i64 (qn : Int) ∧ NetInv w (w.heap.size + 2) w.heap.size (w.heap.size + 1) m v C2 wr ∧ C2 ++ (qRun m e qe ++ pRun m te e) = netL m) (fun qv _ => (intOf qv).toNat)
          case atStart =>
            refine ⟨te, p, v2, _, by omega, Nat.le_refl _, HP.out, Nat.le_refl _, rfl, INV2.out, ?_⟩
            have := HC.out
            unfold pRun at this
            rw [List.append_assoc, ← HPE.out]
            exact this
          case round =>
            obtain ⟨qe, qn, v3, C3, hq1, hq2, hqn, hqp, rfl, hinv3, hC3⟩ := hrel
            have INV3 := Lib.hid hinv3
            have HC3 := Lib.hid hC3
            have HQN := Lib.hid hqn
            have hCl3 : C3.length ≤ 16384 := by
              have := congrArg List.length hC3
              rw [List.length_append] at this
              omega
            clear hinv3 hC3 hqn
            by_cases hqe : e < qe
            · obtain ⟨q', rfl⟩ : ∃ q', qe = q' + 1 := ⟨qe - 1, by omega⟩
              have hpow : 2 ^ (q' + 1) = 2 * 2 ^ q' := by rw [Nat.pow_succ]; omega
              have hle : 2 ^ e ≤ 2 ^ q' := Nat.pow_le_pow_right (by omega) (by omega)
              have h0 := HQN.out
              have h1 := HPE.out
              have hlt : pn < qn := by omega
              have hhalf : 2 ^ q' = qn / 2 := by omega
              have HH := Lib.hid hhalf
              clear hpow hle h0 h1 hhalf
              go_wp2_with fail
              refine (compare_at _ _ _ w _ _ _ m e 1 (qn - pn) v3 C3 _ INV3.out (by rw [HPE.out]) (by rw [HPE.out]; simp) (by omega) hm (by omega) (.inr rfl) (by omega) (by omega)).mono ?_
              rintro en w4 ⟨rfl, v4, inv4⟩
              have INV4 := Lib.hid inv4
              clear inv4
              go_wp2
              go_roundw
              case rel =>
                refine ⟨q', qn / 2, v4, _, by omega, by omega, HH.out, by omega, by go_num, INV4.out, ?_⟩
                have := HC3.out
                unfold qRun at this
                rw [if_pos hqe, HQN.out] at this
                rw [← HPE.out]
                rw [List.append_assoc] at this ⊢
                exact this
              case measure => simp [intOf]; omega
            · obtain rfl : qe = e := by omega
              have hqp : qn = pn := by rw [← HQN.out, HPE.out]
              subst hqp
              have hC4 : C3 ++ pRun m te qe = netL m := by
                have := HC3.out
                rwa [qRun_stop, List.nil_append] at this
              have HC4 := Lib.hid hC4
              clear hC4
              go_wp2
              go_roundw
              case rel => exact ⟨qe, qn / 2, v3, C3, by omega, by rw [HPE.out], by omega, by go_num, INV3.out, HC4.out⟩
              case measure => simp [intOf]; omega

set_option maxHeartbeats 400000 in
theorem implNet_no (m : Int) (w : World) (h : inB m 0 256 = false) :
    Calls Tryd.prog 23 #[.int .i64 m] w fun e w' => e = .returned (.slice none 0 0) ∧ Below w.heap.size w w' := by
  have H := Lib.hid h
  clear h
  go_enter Tryd.func23, Tryd.ntmps23
  go_wp2_with fail
  refine (in_is false _ _ _ _ H.out).mono ?_
  rintro e w' ⟨rfl, rfl⟩
  go_wp2_with fail
  go_ret
  exact ⟨rfl, (Below.refl _ _).alloc (Nat.le_refl _) _⟩

def netOf (m : Int) : List (Int × Int) := if inB m 0 256 then netL m.toNat else []
theorem implNet_any (m : Int) (w : World) :
    Calls Tryd.prog 23 #[.int .i64 m] w fun e w' => ∃ v, e = .returned v ∧ w'.ownsRow w.heap.size 37 2 v (netOf m).length (prCells (netOf m)) ∧ Below w.heap.size w w' := by
  cases h : inB m 0 256
  · refine (implNet_no m w h).mono ?_
    rintro e w' ⟨rfl, hb⟩
    refine ⟨_, rfl, ?_, hb⟩
    have e : netOf m = [] := by simp [netOf, h]
    rw [e]
    exact World.ownsRow_nil _ _ _ _
  · have hm := inB_true h
    obtain ⟨k, rfl⟩ := Int.eq_ofNat_of_zero_le hm.1
    have e : netOf k = netL k := by simp [netOf, h]
    rw [e]
    exact implNet_yes k w (by omega)
theorem netOf_len (m : Int) : (netOf m).length ≤ 16384 := by
  cases h : inB m 0 256
  · simp [netOf, h]
  · have hm := inB_true h
    simp only [netOf, h, if_true]
    exact netL_len _ (by omega)

/-- What the reference keeps in its loops. -/
structure SpecInv (W : World) (v : Value) (C : List (Int × Int)) (w : World) : Prop where
  ho : w.ownsRow W.heap.size 37 2 v C.length (prCells C)
  hb : Below W.heap.size W w
theorem SpecInv.push {W : World} {v v' : Value} {C : List (Int × Int)} {w w1 : World} {x : Int × Int} {o : Obj} (h : SpecInv W v C w)
    (hown : w1.ownsRow W.heap.size 37 2 v' (C.length + 1) (prCells C ++ [.int .i64 x.1, .int .i64 x.2])) (hg : (w.alloc o).grownBy w1 v.ownBlock) : SpecInv W v' (C ++ [x]) w1 := by
  refine ⟨?_, below_append h.hb h.ho hg (Nat.le_refl _)⟩
  have e : (C ++ [x]).length = C.length + 1 := by simp
  rw [e, prCells_append]
  exact hown

set_option maxHeartbeats 2000000 in
theorem specNet_yes (m : Nat) (w : World) (hm0 : 2 ≤ m) (hm : m ≤ 256) :
    Calls Tryd.prog 25 #[.int .i64 m] w fun e w' => ∃ v, e = .returned v ∧ w'.ownsRow w.heap.size 37 2 v (netL m).length (prCells (netL m)) ∧ Below w.heap.size w w' := by
  have HM := Lib.hid (inB_mk (n := (m : Int)) (lo := 2) (hi := 256) ⟨by omega, by omega⟩)
  have hlen := netL_len m hm
  obtain ⟨i0, hi0, hz0, hz1, hz2⟩ := info_parts infoPair
  have HST : SpecInv w (.slice (some ⟨w.heap.size, 0, none⟩) 0 0) [] (w.alloc (.cells #[] 37)) :=
    ⟨World.ownsRow_made w #[] 0 (Nat.le_refl _) (by unfold maxLen; omega) rfl, (Below.refl _ _).alloc (Nat.le_refl _) _⟩
  go_enter Tryd.func25, Tryd.ntmps25
  go_wp2_with fail
  refine (l1In_is true _ _ _ _ HM.out).mono ?_
  rintro e w' ⟨rfl, rfl⟩
  go_wp2_with fail
  go_loop [4] (fun t => ∃ te : Nat, te ≤ 7 ∧ t = .int .i64 ((2 ^ te : Nat) : Int) ∧ (te = 0 ∨ 2 ^ te < m)) (fun t => 256 - (intOf t).toNat)
  case atStart => exact ⟨0, by omega, rfl, .inl rfl⟩
  case round =>
    obtain ⟨te, hte, rfl, hlo⟩ := hrel
    obtain ⟨p, hp⟩ : ∃ p : Nat, 2 ^ te = p := ⟨_, rfl⟩
    have hp1 : 2 ^ (te + 1) = 2 * p := by rw [Nat.pow_succ, hp]; omega
    have hpb : p ≤ 128 ∧ 0 < p := by
      have h1 : 2 ^ te ≤ 2 ^ 7 := Nat.pow_le_pow_right (by omega) hte
      have h0 : 0 < 2 ^ te := Nat.pos_of_ne_zero (by simp)
      omega
    rw [hp]
    rw [hp] at hlo
    have HP := Lib.hid hp
    have HP1 := Lib.hid hp1
    have HLO := Lib.hid hlo
    clear hp hp1 hlo
    by_cases hlt : 2 * p < m
    · go_wp2
      go_round
      case rel =>
        refine ⟨te + 1, ?_, ?_, .inr ?_⟩
        · rcases Nat.lt_or_ge te 7 with h | h
          · omega
          · exfalso
            have : te = 7 := by omega
            subst this
            have := HP.out
            omega
        · rw [HP1.out]; go_num
        · rw [HP1.out]; exact hlt
      case measure => simp [intOf]; omega
    · have htop : topE m = te := top_all m (by omega) te (by omega) (by rcases HLO.out with h | h; exact .inl h; exact .inr (by rw [HP.out]; exact h)) (by have := HP1.out; omega)
      have hF : netL m = pRun m te (te + 1) := by unfold netL; rw [htop]
      have HF := Lib.hid hF
      clear htop hF
      go_wp2_with fail
      go_loopw [3, 5, 6, 7, 8] (fun v pv _ _ _ wr => ∃ (c pn : Nat) (C : List (Int × Int)), c ≤ te + 1 ∧ 2 ^ c / 2 = pn ∧ pn ≤ p ∧ pv = .int .i64 (pn : Int) ∧ SpecInv w v C wr ∧ C ++ pRun m te c = netL m) (fun _ pv _ _ _ _ => (intOf pv).toNat)
      case atStart =>
        refine ⟨te + 1, p, [], Nat.le_refl _, ?_, Nat.le_refl _, rfl, HST, HF.out.symm⟩
        have := HP1.out
        omega
      case round =>
        obtain ⟨c, pn, C, hc, hpn, hpnp, rfl, hinv, hC⟩ := hrel
        obtain ⟨wo, rfl⟩ : ∃ wo : World, wo = wr := ⟨_, rfl⟩
        cases c with
        | zero =>
          have : pn = 0 := by rw [← hpn]
          subst this
          have hC' : C = netL m := by simpa [pRun] using hC
          have INV := Lib.hid hinv
          have HC' := Lib.hid hC'
          clear hinv hC hC' hpn
          go_wp2
          go_ret
          refine ⟨_, rfl, ?_, INV.out.hb⟩
          rw [← HC'.out]
          exact INV.out.ho
        | succ e =>
          have hpe : 2 ^ e = pn := by rw [← hpn, Nat.pow_succ]; omega
          have hpos : 0 < pn := by rw [← hpe]; exact Nat.pos_of_ne_zero (by simp)
          have INV := Lib.hid hinv
          have HC := Lib.hid hC
          have HPE := Lib.hid hpe
          clear hinv hC hpe hpn
          go_wp2_with fail
          go_loopw [3, 6] (fun v iv wr => ∃ (k : Nat) (C1 : List (Int × Int)), k ≤ m ∧ iv = .int .i64 (k : Int) ∧ SpecInv w v C1 wr ∧ C1 ++ (passI m pn 0 pn k ++ (qRun m e te ++ pRun m te e)) = netL m) (fun _ iv _ => m - (intOf iv).toNat)
          case atStart =>
            refine ⟨0, C, Nat.zero_le _, rfl, INV.out, ?_⟩
            have := HC.out
            unfold pRun at this
            rw [← HPE.out]
            exact this
          case round =>
            obtain ⟨k, C1, hk, rfl, hinv1, hC1⟩ := hrel
            have hC1l : C1.length ≤ 16384 := by
              have := congrArg List.length hC1
              rw [List.length_append] at this
              omega
            have hown := hinv1.ho
            have hbs := hinv1.hb.size
            have INV1 := Lib.hid hinv1
            have HC1 := Lib.hid hC1
            clear hinv1 hC1
            obtain ⟨wo, rfl⟩ : ∃ wo : World, wo = wr := ⟨_, rfl⟩
            by_cases hlt : k + pn < m
            · have hcast : ((k / pn % 2 : Nat) : Int) = (k : Int) / (pn : Int) % 2 := by simp
              have hq0 : 0 ≤ (k : Int) / (pn : Int) := Int.ediv_nonneg (by omega) (by omega)
              have hq1 : (k : Int) / (pn : Int) ≤ 256 := by
                have h1 := Nat.div_le_self k pn
                have h2 : ((k / pn : Nat) : Int) ≤ 256 := by omega
                simpa using h2
              by_cases hc : k / pn % 2 = 0
              · have ht : ((k : Int) / (pn : Int) % 2 == 0) = true := by rw [← hcast, hc]; rfl
                clear hcast
                go_wp2_with (first
                  | (at_builtin; refine wpList_append_own _ rfl _ _ 33 rfl w.heap.size 37 i0 _ 2 16 Tryd.underlying33 hi0 hz0 hz1 hz2 rfl (by decide) _ _ _ rfl (hown.alloc _) ⟨wo.heap.size, 0, none⟩ 1 1 [.int .i64 k, .int .i64 ((k : Int) + pn)] rfl rfl (cells_new _ _ _) (oneCells rfl) (by unfold maxLen; omega) (by omega) (by simp; omega) ?_; intro v' w1 hown' hgrow _; have P := Lib.hid (SpecInv.push (x := ((k : Int), (k : Int) + (pn : Int))) INV1.out hown' hgrow); clear hown' hgrow))
                go_roundw
                case rel =>
                  have hst := passI_step m pn 0 pn k hlt
                  rw [if_pos hc] at hst
                  refine ⟨k + 1, C1 ++ [((k : Int), (k : Int) + (pn : Int))], by omega, by go_num, P.out, ?_⟩
                  have := HC1.out
                  rw [hst, List.append_assoc] at this
                  rw [List.append_assoc]
                  exact this
                case measure => simp [intOf]; omega
              · have ht : ((k : Int) / (pn : Int) % 2 == 0) = false := by
                  rw [← hcast]
                  simp
                  omega
                clear hcast
                go_wp2
                go_roundw
                case rel =>
                  have hst := passI_step m pn 0 pn k hlt
                  rw [if_neg hc, List.nil_append] at hst
                  refine ⟨k + 1, C1, by omega, by go_num, INV1.out, ?_⟩
                  rw [← hst]
                  exact HC1.out
                case measure => simp [intOf]; omega
            · have hC2 : C1 ++ (qRun m e te ++ pRun m te e) = netL m := by
                have := HC1.out
                rwa [passI_end m pn 0 pn k hlt, List.nil_append] at this
              have HC2 := Lib.hid hC2
              clear hC2
              go_wp2_with fail
              go_loopw [3, 7, 8] (fun v qv _ wr => ∃ (qe qn : Nat) (C2 : List (Int × Int)), e ≤ qe ∧ qe ≤ te ∧ 2 ^ qe = qn ∧ qn ≤ p ∧ qv = .int .i64 (qn : Int) ∧ SpecInv w v C2 wr ∧ C2 ++ (qRun m e qe ++ pRun m te e) = netL m) (fun _ qv _ _ => (intOf qv).toNat)
              case atStart => exact ⟨te, p, C1, by omega, Nat.le_refl _, HP.out, Nat.le_refl _, rfl, INV1.out, HC2.out⟩
              case round =>
                clear hown hbs
                obtain ⟨qe, qn, C3, hq1, hq2, hqn, hqp, rfl, hinv3, hC3⟩ := hrel
                obtain ⟨wq, rfl⟩ : ∃ wq : World, wq = wr := ⟨_, rfl⟩
                have INV3 := Lib.hid hinv3
                have HC3 := Lib.hid hC3
                have HQN := Lib.hid hqn
                clear hinv3 hC3 hqn
                by_cases hqe : e < qe
                · obtain ⟨q', rfl⟩ : ∃ q', qe = q' + 1 := ⟨qe - 1, by omega⟩
                  have hpow : 2 ^ (q' + 1) = 2 * 2 ^ q' := by rw [Nat.pow_succ]; omega
                  have hle : 2 ^ e ≤ 2 ^ q' := Nat.pow_le_pow_right (by omega) (by omega)
                  have h0 := HQN.out
                  have h1 := HPE.out
                  have hlq : pn < qn := by omega
                  have hhalf : 2 ^ q' = qn / 2 := by omega
                  have HH := Lib.hid hhalf
                  clear hpow hle h0 h1 hhalf
                  go_wp2_with fail
                  go_loopw [3, 8] (fun v iv wr => ∃ (k : Nat) (C4 : List (Int × Int)), k ≤ m ∧ iv = .int .i64 (k : Int) ∧ SpecInv w v C4 wr ∧ C4 ++ (passI m pn 1 (qn - pn) k ++ (qRun m e q' ++ pRun m te e)) = netL m) (fun _ iv _ => m - (intOf iv).toNat)
                  case atStart =>
                    refine ⟨0, C3, Nat.zero_le _, rfl, INV3.out, ?_⟩
                    have := HC3.out
                    unfold qRun at this
                    rw [if_pos hqe, HQN.out] at this
                    rw [← HPE.out]
                    rw [List.append_assoc] at this
                    exact this
                  case round =>
                    obtain ⟨k4, C4, hk4, rfl, hinv4, hC4⟩ := hrel
                    have hC4l : C4.length ≤ 16384 := by
                      have := congrArg List.length hC4
                      rw [List.length_append] at this
                      omega
                    have hown := hinv4.ho
                    have hbs := hinv4.hb.size
                    have INV4 := Lib.hid hinv4
                    have HC4 := Lib.hid hC4
                    clear hinv4 hC4
                    obtain ⟨w5, rfl⟩ : ∃ w5 : World, w5 = wr := ⟨_, rfl⟩
                    by_cases hlt4 : k4 + (qn - pn) < m
                    · have hcast : ((k4 / pn % 2 : Nat) : Int) = (k4 : Int) / (pn : Int) % 2 := by simp
                      have hq0 : 0 ≤ (k4 : Int) / (pn : Int) := Int.ediv_nonneg (by omega) (by omega)
                      have hq1' : (k4 : Int) / (pn : Int) ≤ 256 := by
                        have h1 := Nat.div_le_self k4 pn
                        have h2 : ((k4 / pn : Nat) : Int) ≤ 256 := by omega
                        simpa using h2
                      have hl4 : (k4 : Int) + (qn : Int) - (pn : Int) < (m : Int) := by omega
                      by_cases hc : k4 / pn % 2 = 1
                      · have ht : ((k4 : Int) / (pn : Int) % 2 == 1) = true := by rw [← hcast, hc]; rfl
                        clear hcast
                        go_wp2_with (first
                          | (at_builtin; refine wpList_append_own _ rfl _ _ 33 rfl w.heap.size 37 i0 _ 2 16 Tryd.underlying33 hi0 hz0 hz1 hz2 rfl (by decide) _ _ _ rfl (hown.alloc _) ⟨w5.heap.size, 0, none⟩ 1 1 [.int .i64 k4, .int .i64 ((k4 : Int) + qn - pn)] rfl rfl (cells_new _ _ _) (oneCells rfl) (by unfold maxLen; omega) (by omega) (by simp; omega) ?_; intro v' w1 hown' hgrow _; have P := Lib.hid (SpecInv.push (x := ((k4 : Int), (k4 : Int) + (qn : Int) - (pn : Int))) INV4.out hown' hgrow); clear hown' hgrow))
                        go_roundw
                        case rel =>
                          have hst := passI_step m pn 1 (qn - pn) k4 hlt4
                          rw [if_pos hc] at hst
                          refine ⟨k4 + 1, C4 ++ [((k4 : Int), (k4 : Int) + (qn : Int) - (pn : Int))], by omega, by go_num, P.out, ?_⟩
                          have := HC4.out
                          rw [hst, List.append_assoc, show ((k4 + (qn - pn) : Nat) : Int) = (k4 : Int) + (qn : Int) - (pn : Int) by omega] at this
                          rw [List.append_assoc]
                          exact this
                        case measure => simp [intOf]; omega
                      · have ht : ((k4 : Int) / (pn : Int) % 2 == 1) = false := by
                          rw [← hcast]
                          simp
                          omega
                        clear hcast
                        go_wp2
                        go_roundw
                        case rel =>
                          have hst := passI_step m pn 1 (qn - pn) k4 hlt4
                          rw [if_neg hc, List.nil_append] at hst
                          refine ⟨k4 + 1, C4, by omega, by go_num, INV4.out, ?_⟩
                          rw [← hst]
                          exact HC4.out
                        case measure => simp [intOf]; omega
                    · have hl4 : ¬ (k4 : Int) + (qn : Int) - (pn : Int) < (m : Int) := by omega
                      have hC5 : C4 ++ (qRun m e q' ++ pRun m te e) = netL m := by
                        have := HC4.out
                        rwa [passI_end m pn 1 (qn - pn) k4 hlt4, List.nil_append] at this
                      have HC5 := Lib.hid hC5
                      clear hC5
                      go_wp2
                      go_roundw
                      case rel => exact ⟨q', qn / 2, C4, by omega, by omega, HH.out, by omega, by go_num, INV4.out, HC5.out⟩
                      case measure => simp [intOf]; omega
                · obtain rfl : qe = e := by omega
                  have hqp : qn = pn := by rw [← HQN.out, HPE.out]
                  subst hqp
                  have hC4 : C3 ++ pRun m te qe = netL m := by
                    have := HC3.out
                    rwa [qRun_stop, List.nil_append] at this
                  have HC4 := Lib.hid hC4
                  clear hC4
                  go_wp2
                  go_roundw
                  case rel => exact ⟨qe, qn / 2, C3, by omega, by rw [HPE.out], by omega, by go_num, INV3.out, HC4.out⟩
                  case measure => simp [intOf]; omega

set_option maxHeartbeats 400000 in
theorem specNet_no (m : Int) (w : World) (h : inB m 2 256 = false) :
    Calls Tryd.prog 25 #[.int .i64 m] w fun e w' => ∃ v, e = .returned v ∧ w'.ownsRow w.heap.size 37 2 v 0 [] ∧ Below w.heap.size w w' := by
  have H := Lib.hid h
  clear h
  have HST := Lib.hid (show (w.alloc (.cells #[] 37)).ownsRow w.heap.size 37 2 (.slice (some ⟨w.heap.size, 0, none⟩) 0 0) 0 [] ∧ Below w.heap.size w (w.alloc (.cells #[] 37)) from
    ⟨World.ownsRow_made w #[] 0 (Nat.le_refl _) (by unfold maxLen; omega) rfl, (Below.refl _ _).alloc (Nat.le_refl _) _⟩)
  go_enter Tryd.func25, Tryd.ntmps25
  go_wp2_with fail
  refine (l1In_is false _ _ _ _ H.out).mono ?_
  rintro e w' ⟨rfl, rfl⟩
  go_wp2_with fail
  go_ret
  exact ⟨_, rfl, HST.out⟩

theorem specNet_any (m : Int) (w : World) :
    Calls Tryd.prog 25 #[.int .i64 m] w fun e w' => ∃ v, e = .returned v ∧ w'.ownsRow w.heap.size 37 2 v (netOf m).length (prCells (netOf m)) ∧ Below w.heap.size w w' := by
  cases h : inB m 2 256
  · refine (specNet_no m w h).mono ?_
    rintro e w' ⟨v, rfl, ho, hb⟩
    refine ⟨_, rfl, ?_, hb⟩
    have hm := inB_false h
    have e : netOf m = [] := by
      cases h2 : inB m 0 256
      · simp [netOf, h2]
      · have hm2 := inB_true h2
        have : m = 0 ∨ m = 1 := by omega
        rcases this with rfl | rfl <;> decide
    rw [e]
    exact ho
  · have hm := inB_true h
    obtain ⟨k, rfl⟩ := Int.eq_ofNat_of_zero_le (show 0 ≤ m by omega)
    have e : netOf k = netL k := by simp [netOf, inB_mk (n := (k : Int)) (lo := 0) (hi := 256) ⟨by omega, by omega⟩]
    rw [e]
    exact specNet_yes k w (by omega) (by omega)
end Go.Proofs.YtnihhbmihbcgbaaDoor
