/- spec.DrawPassTrace; laws.FnPassTrace: the walk. -/
import Derived.Test.YtgbbgejnphfocaaDoorSameL
import Derived.Test.YtgbbgejnphfocaaDoorPass
import Derived.Test.YtgbbgejnphfocaaDoorSameTrace
import Derived.Test.YtgbbgejnphfocaaDoorTypedV
import Derived.Test.YtgbbgejnphfocaaDoorInts
namespace Go.Proofs.YtgbbgejnphfocaaDoor
open Go Go.RowKit
set_option maxRecDepth 100000

theorem passL_row (r : Int) : ∀ (m k : Nat) (x : Int × Int × Bool), ((List.range m).flatMap fun (i : Nat) => [(r, (i : Int), false), (r, (i : Int), true)])[k]? = some x → x = (r, ((k / 2 : Nat) : Int), decide (k % 2 = 1)) := by
  intro m
  induction m with
  | zero => intro k x h; simp at h
  | succ m ih =>
    intro k x h
    rw [List.range_succ, List.flatMap_append] at h
    have hl : ∀ m : Nat, ((List.range m).flatMap fun (i : Nat) => [(r, (i : Int), false), (r, (i : Int), true)]).length = 2 * m := by
      intro m
      induction m with
      | zero => rfl
      | succ m ih => rw [List.range_succ, List.flatMap_append, List.length_append, ih]; simp; omega
    rw [List.getElem?_append, hl] at h
    split at h
    · exact ih k x h
    · rename_i hk
      have h2 : k - 2 * m < 2 := by
        have := (List.getElem?_eq_some_iff.1 h).1
        simpa using this
      rcases (show k - 2 * m = 0 ∨ k - 2 * m = 1 by omega) with e | e
      · rw [e] at h
        simp at h
        subst h
        have h3 : k / 2 = m := by omega
        have h4 : k % 2 = 0 := by omega
        simp [h3, h4]
      · rw [e] at h
        simp at h
        subst h
        have h3 : k / 2 = m := by omega
        have h4 : k % 2 = 1 := by omega
        simp [h3, h4]
theorem passL_at (r m : Int) (k : Nat) (x : Int × Int × Bool) (h : (passL r m)[k]? = some x) : x = (r, ((k / 2 : Nat) : Int), decide (k % 2 = 1)) := by
  unfold passL at h
  split at h
  · exact passL_row r _ k x h
  · simp at h
theorem passL_len (r m : Int) : (passL r m).length = 0 ∨ (0 ≤ m ∧ m ≤ 256 ∧ ((passL r m).length : Int) = 2 * m) := by
  cases h : passOk r m
  · left; unfold passL; rw [h]; rfl
  · right
    have h' := h
    unfold passOk at h'
    rw [Bool.and_eq_true] at h'
    have hm := inB_true h'.2
    obtain ⟨y, rfl⟩ := Int.eq_ofNat_of_zero_le hm.1
    refine ⟨hm.1, hm.2, ?_⟩
    have := passL_length r y h
    omega
def IntR (lo hi : Int) (v : Value) (_ : World) : Prop := ∃ z : Int, v = .int .i64 z ∧ lo ≤ z ∧ z ≤ hi
theorem intR_stable {S : World → World → Prop} {lo hi : Int} : Stable S (IntR lo hi) := fun _ _ _ h _ => h
theorem act_lit' {a : Act} (n : Nat) (hs : a.tmps.size = n) (hd : a.defers = []) : a = ⟨((List.range n).map fun i => a.tmps.getD i undef).toArray, []⟩ := by
  obtain ⟨tm, df⟩ := a
  obtain rfl : df = [] := hd
  have hs : tm.size = n := hs
  congr 1
  apply Array.ext
  · simp [hs]
  · intro i h1 h2
    simp [Array.getD, h1]
theorem not_dst' {ops : Array Oper} {t : Tmp} (h : (ops.toList.all fun o => o.dst != some t) = true) (j : Nat) (hj : j < ops.size) : dstOf ops j ≠ some t := by
  intro e
  unfold dstOf at e
  obtain ⟨o, ho, hod⟩ := Option.bind_eq_some_iff.1 e
  have := List.all_eq_true.1 h o (by
    obtain ⟨hlt, rfl⟩ := Array.getElem?_eq_some_iff.1 ho
    exact Array.getElem_mem_toList hlt)
  rw [hod] at this
  simp at this
theorem acc_at {w : World} {B n : Nat} {A : Option Addr} {xs : List (Int × Int × Bool)} {k : Nat} (h : Reads w B 3 A n (accCells xs)) (hxn : xs.length = n) (hk : k < n) :
    ∃ ad x1 x2 x3, A = some ad ∧ ad.block < B ∧ xs[k]? = some (x1, x2, x3) ∧ w.cell? (ad.add (k * 3)) = some (.int .i64 x1) ∧ w.cell? ⟨(ad.add (k * 3)).block, (ad.add (k * 3)).off + 1, none⟩ = some (.int .i64 x2) ∧ w.cell? ⟨(ad.add (k * 3)).block, (ad.add (k * 3)).off + 2, none⟩ = some (.bool x3) := by
  obtain ⟨⟨x1, x2, x3⟩, hxk⟩ : ∃ x : Int × Int × Bool, xs[k]? = some x := ⟨_, List.getElem?_eq_getElem (by omega)⟩
  obtain ⟨ad, u0, u1, u2, rfl, hadb, g0, g1, g2, e1, e2, e3⟩ := h.at3 hk
  have := accCells_at xs k _ hxk
  obtain rfl := Option.some.inj (g0.symm.trans this.1)
  obtain rfl := Option.some.inj (g1.symm.trans this.2.1)
  obtain rfl := Option.some.inj (g2.symm.trans this.2.2)
  exact ⟨ad, x1, x2, x3, rfl, hadb, hxk, e1, e2, e3⟩

theorem passL_le (r m : Int) : (passL r m).length ≤ 1000 := by
  rcases passL_len r m with h | ⟨_, h2, h3⟩ <;> omega
/-- The drawn region's types. -/
def passV (R : Nat) (i : Nat) (v : Value) (w : World) : Prop := match i with
  | 0 => RowB (· = R) 3 (IntR (-1) 3) 6 v w
  | 1 | 5 | 9 => v = .pointer (some ⟨R, 0, none⟩)
  | 2 | 10 => NatB 6 v w
  | 3 => AddB (· = R) (IntR (-1) 3) v w
  | 4 => IntR (-1) 3 v w
  | 6 => NatB 20 v w
  | 7 => RowB (· = R) 3 (IntR (-1) 257) 4 v w
  | 8 => RowB (· = R) 3 (NatB 4) 6 v w
  | 11 => AddB (· = R) (NatB 4) v w
  | 12 => NatB 4 v w
  | 13 => AddB (· = R) (IntR (-1) 257) v w
  | 14 => IntR (-1) 257 v w
  | 15 => IntR (-1) 3 v w
  | 16 => IntR (-1) 257 v w
  | _ => True
theorem passV_stable {R : Nat} (i : Nat) (v : Value) (w w' : World) (h : passV R i v w) (hs : Mv (· = R) (fun _ => True) w w') : passV R i v w' := by
  unfold passV at h ⊢
  split at h <;> first | exact rowB_stable intR_stable _ _ _ h hs | exact rowB_stable natB_stable _ _ _ h hs | exact addB_stable intR_stable _ _ _ h hs | exact addB_stable natB_stable _ _ _ h hs | exact h
set_option maxHeartbeats 800000 in
theorem drawPass_any (A : Option Addr) (n c : Nat) (xs : List UInt8) (w : World) (hx : Reads w w.heap.size 1 A n (byCells xs)) (hl : xs.length = n) (hn : n ≤ 1048576) (hc : n ≤ c) (hc2 : c ≤ maxLen) :
    Calls Tryd.prog 4 #[.slice A n c] w fun e w' => ∃ a b : Int, e = .returned (.tuple #[.int .i64 a, .int .i64 b]) ∧ -1 ≤ a ∧ a ≤ 3 ∧ -1 ≤ b ∧ b ≤ 257 ∧ Below w.heap.size w w' := by
  obtain ⟨ii, hii, hiz, his', _⟩ := info_parts infoInt
  have HO := Lib.hid (open_c A n c xs w hx hl hn hc hc2)
  clear hx hl
  go_enter Tryd.func4, Tryd.ntmps4
  go_wp2_with fail
  refine HO.out.mono ?_
  rintro e w1 ⟨rfl, r1, b1, -⟩
  go_wp2_with fail
  refine wp_region_typed (by kernel_rfl) (fun _ => true) (lift <| passV w.heap.size) (fun _ => Mv (· = w.heap.size) (fun _ => True)) (ClsR w.heap.size 90000 w1) (by kernel_rfl) (stab passV_stable) ?_ ?_ ?_ (by kernel_rfl) ?_
  · exact dst_lt (n := 22) (by kernel_rfl)
  · exact ⟨r1.less (by show 90000 + 17 ≤ _; omega), (Touch.refl _ _ _).drew⟩
  · refine ok_all ⟨?_, ?_, ?_, ?_, ?_, ?_, ?_, ?_, ?_, ?_, ?_, ?_, ?_, ?_, ?_, ?_, ?_, trivial⟩
    · refine ok_build (p := IntR (-1) 3) (clsR w.heap.size 90000 w1) intR_stable rfl Tryd.underlying34 hii hiz (by rw [his']; decide) (by rw [his']; decide) (fun v _ w hv => hv) (fun a w _ _ _ => ⟨[.int .i64 0, .int .i64 1, .int .i64 2, .int .i64 2, .int .i64 3, .int .i64 (-1)], rfl, ?_, ?_⟩)
      · intro u hu
        simp at hu
        rcases hu with rfl | rfl | rfl | rfl | rfl <;> exact ⟨_, rfl, by decide, by decide⟩
      · rw [his']; kernel_rfl
    · refine ok_put (clsR w.heap.size 90000 w1) (.inl rfl) (fun a w hs hr hh => ?_)
      exact hr 4 (not_dst' (by kernel_rfl))
    · refine ok_call Tryd.func10 (by kernel_rfl) (by kernel_rfl) rfl (fun f a w' hc hs hr hh => ?_)
      obtain ⟨_, rfl, h1⟩ := hh ⟨1, .data⟩ (by simp) rfl
      have h1 := h1 8 rfl
      rw [show #[Operand.tmp 8, Operand.const (Value.int .i64 6)].map a.eval = #[.pointer (some ⟨w.heap.size, 0, none⟩), .int .i64 6] by simp [Act.eval, h1]]
      refine (pick_c w.heap.size (90000 + f) 6 w' hc.1 (by decide)).mono ?_
      rintro e w3 ⟨x, rfl, hx, h2, h3, _⟩
      exact ⟨_, rfl, ⟨x, rfl, by omega⟩, Mv.pick h3, h2, hc.2.trans h3⟩
    · refine ok_index (te := 3) (p := IntR (-1) 3) (n := 6) (clsR w.heap.size 90000 w1) rfl Tryd.underlying34 (by kernel_rfl) (fun v _ w hv => hv) (fun a w hs hr hh => ?_)
      obtain ⟨_, hv1, h1⟩ := hh ⟨0, .data⟩ (by simp) rfl
      have h1 := h1 7 rfl
      obtain ⟨_, hv2, h2⟩ := hh ⟨2, .data⟩ (by simp) rfl
      have h2 := h2 9 rfl
      subst h1
      subst h2
      exact ⟨hv1, hv2⟩
    · refine ok_load (p := IntR (-1) 3) (clsR w.heap.size 90000 w1) rfl (fun w => by simp [go_sem]) (fun v _ w hv => hv) (fun a w hs hr hh => ?_)
      obtain ⟨_, hv1, h1⟩ := hh ⟨3, .data⟩ (by simp) rfl
      have h1 := h1 10 rfl
      subst h1
      exact hv1
    · refine ok_put (clsR w.heap.size 90000 w1) (.inl rfl) (fun a w hs hr hh => ?_)
      exact hr 4 (not_dst' (by kernel_rfl))
    · refine ok_call Tryd.func10 (by kernel_rfl) (by kernel_rfl) rfl (fun f a w' hc hs hr hh => ?_)
      obtain ⟨_, rfl, h1⟩ := hh ⟨5, .data⟩ (by simp) rfl
      have h1 := h1 12 rfl
      rw [show #[Operand.tmp 12, Operand.const (Value.int .i64 20)].map a.eval = #[.pointer (some ⟨w.heap.size, 0, none⟩), .int .i64 20] by simp [Act.eval, h1]]
      refine (pick_c w.heap.size (90000 + f) 20 w' hc.1 (by decide)).mono ?_
      rintro e w3 ⟨x, rfl, hx, h2, h3, _⟩
      exact ⟨_, rfl, ⟨x, rfl, by omega⟩, Mv.pick h3, h2, hc.2.trans h3⟩
    · refine ok_build (p := IntR (-1) 257) (clsR w.heap.size 90000 w1) intR_stable rfl Tryd.underlying34 hii hiz (by rw [his']; decide) (by rw [his']; decide) (fun v _ w hv => hv) (fun a w _ _ hh => ?_)
      obtain ⟨_, ⟨x, rfl, hx⟩, h1⟩ := hh ⟨6, .data⟩ (by simp) rfl
      have h1 := h1 13 rfl
      refine ⟨[.int .i64 x, .int .i64 256, .int .i64 257, .int .i64 (-1)], rfl, ?_, ?_⟩
      · intro u hu
        simp at hu
        rcases hu with rfl | rfl | rfl | rfl
        · exact ⟨x, rfl, by omega, by omega⟩
        · exact ⟨256, rfl, by decide, by decide⟩
        · exact ⟨257, rfl, by decide, by decide⟩
        · exact ⟨-1, rfl, by decide, by decide⟩
      · rw [his']
        simp only [List.map_toArray, List.map_cons, List.map_nil, Act.eval, h1]
        kernel_rfl
    · refine ok_build (p := NatB 4) (clsR w.heap.size 90000 w1) natB_stable rfl Tryd.underlying34 hii hiz (by rw [his']; decide) (by rw [his']; decide) (fun v _ w hv => hv) (fun a w _ _ _ => ⟨[.int .i64 0, .int .i64 0, .int .i64 0, .int .i64 1, .int .i64 2, .int .i64 3], rfl, ?_, ?_⟩)
      · intro u hu
        simp at hu
        rcases hu with rfl | rfl | rfl | rfl <;> exact ⟨_, rfl, by decide⟩
      · rw [his']; kernel_rfl
    · refine ok_put (clsR w.heap.size 90000 w1) (.inl rfl) (fun a w hs hr hh => ?_)
      exact hr 4 (not_dst' (by kernel_rfl))
    · refine ok_call Tryd.func10 (by kernel_rfl) (by kernel_rfl) rfl (fun f a w' hc hs hr hh => ?_)
      obtain ⟨_, rfl, h1⟩ := hh ⟨9, .data⟩ (by simp) rfl
      have h1 := h1 16 rfl
      rw [show #[Operand.tmp 16, Operand.const (Value.int .i64 6)].map a.eval = #[.pointer (some ⟨w.heap.size, 0, none⟩), .int .i64 6] by simp [Act.eval, h1]]
      refine (pick_c w.heap.size (90000 + f) 6 w' hc.1 (by decide)).mono ?_
      rintro e w3 ⟨x, rfl, hx, h2, h3, _⟩
      exact ⟨_, rfl, ⟨x, rfl, by omega⟩, Mv.pick h3, h2, hc.2.trans h3⟩
    · refine ok_index (te := 3) (p := NatB 4) (n := 6) (clsR w.heap.size 90000 w1) rfl Tryd.underlying34 (by kernel_rfl) (fun v _ w hv => hv) (fun a w hs hr hh => ?_)
      obtain ⟨_, hv1, h1⟩ := hh ⟨8, .data⟩ (by simp) rfl
      have h1 := h1 15 rfl
      obtain ⟨_, hv2, h2⟩ := hh ⟨10, .data⟩ (by simp) rfl
      have h2 := h2 17 rfl
      subst h1
      subst h2
      exact ⟨hv1, hv2⟩
    · refine ok_load (p := NatB 4) (clsR w.heap.size 90000 w1) rfl (fun w => by simp [go_sem]) (fun v _ w hv => hv) (fun a w hs hr hh => ?_)
      obtain ⟨_, hv1, h1⟩ := hh ⟨11, .data⟩ (by simp) rfl
      have h1 := h1 18 rfl
      subst h1
      exact hv1
    · refine ok_index (te := 3) (p := IntR (-1) 257) (n := 4) (clsR w.heap.size 90000 w1) rfl Tryd.underlying34 (by kernel_rfl) (fun v _ w hv => hv) (fun a w hs hr hh => ?_)
      obtain ⟨_, hv1, h1⟩ := hh ⟨7, .data⟩ (by simp) rfl
      have h1 := h1 14 rfl
      obtain ⟨_, hv2, h2⟩ := hh ⟨12, .data⟩ (by simp) rfl
      have h2 := h2 19 rfl
      subst h1
      subst h2
      exact ⟨hv1, hv2⟩
    · refine ok_load (p := IntR (-1) 257) (clsR w.heap.size 90000 w1) rfl (fun w => by simp [go_sem]) (fun v _ w hv => hv) (fun a w hs hr hh => ?_)
      obtain ⟨_, hv1, h1⟩ := hh ⟨13, .data⟩ (by simp) rfl
      have h1 := h1 20 rfl
      subst h1
      exact hv1
    · refine ok_put (clsR w.heap.size 90000 w1) (.inr rfl) (fun a w hs hr hh => ?_)
      obtain ⟨_, hv1, h1⟩ := hh ⟨4, .data⟩ (by simp) rfl
      have h1 := h1 11 rfl
      subst h1
      exact hv1
    · refine ok_put (clsR w.heap.size 90000 w1) (.inr rfl) (fun a w hs hr hh => ?_)
      obtain ⟨_, hv1, h1⟩ := hh ⟨14, .data⟩ (by simp) rfl
      have h1 := h1 21 rfl
      subst h1
      exact hv1
  · intro a w' hs hd hr hh hc'
    obtain ⟨_, ⟨z1, rfl, p1, p2⟩, g1⟩ := hh 15 (by decide) rfl
    obtain ⟨_, ⟨z2, rfl, p3, p4⟩, g2⟩ := hh 16 (by decide) rfl
    have e2 : a.tmps.getD 2 undef = .int .i64 z1 := g1 2 rfl
    have e3 : a.tmps.getD 3 undef = .int .i64 z2 := g2 3 rfl
    have ea : a = ⟨#[a.tmps.getD 0 undef, a.tmps.getD 1 undef, a.tmps.getD 2 undef, a.tmps.getD 3 undef, a.tmps.getD 4 undef, a.tmps.getD 5 undef, a.tmps.getD 6 undef, a.tmps.getD 7 undef, a.tmps.getD 8 undef, a.tmps.getD 9 undef, a.tmps.getD 10 undef, a.tmps.getD 11 undef, a.tmps.getD 12 undef, a.tmps.getD 13 undef, a.tmps.getD 14 undef, a.tmps.getD 15 undef, a.tmps.getD 16 undef, a.tmps.getD 17 undef, a.tmps.getD 18 undef, a.tmps.getD 19 undef, a.tmps.getD 20 undef, a.tmps.getD 21 undef], []⟩ := act_lit' 22 hs hd
    rw [e2, e3] at ea
    obtain ⟨U, hU⟩ : ∃ U : Nat → Value, ∀ i, a.tmps.getD i undef = U i := ⟨_, fun _ => rfl⟩
    simp only [hU] at ea
    clear hs hd hr hh hU e2 e3 g1 g2
    subst ea
    have hb := hc'.2.below b1 (Nat.le_refl _)
    clear hc'
    go_wp2_with fail
    go_ret2
    exact ⟨z1, z2, rfl, p1, p2, p3, p4, hb⟩
set_option maxHeartbeats 800000 in
theorem fnPass_walk {w : World} (A : Option Addr) (n c : Nat) (xs : List UInt8) (hl : xs.length = n) (hc : n ≤ c) (hm : c ≤ maxLen) (hx : Reads w w.heap.size 1 A n (byCells xs))
    (RA : Option Addr) (RC : Nat) (hv : w.cell? ⟨0, 0, none⟩ = some (.slice RA 13 RC)) (hr : Reads w w.heap.size 1 RA 13 (stCells resW)) :
    Calls Tryd.prog 3 #[.slice A n c] w fun e w' => e = .returned (.bool true) ∧ Below w.heap.size w w' := by
  by_cases hbig : (1048576 : Int) < (n : Int)
  · clear hx hr
    go_enter Tryd.func3, Tryd.ntmps3
    go_wp2_with fail
    go_ret
    exact ⟨rfl, Below.refl _ _⟩
  · have HD := Lib.hid (drawPass_any A n c xs w hx hl (by omega) hc hm)
    have HV := Lib.hid (fun (w' : World) (hb : Below w.heap.size w w') => alive_yes RA RC w' (below_keep hb hv) ((hr.below hb).more hb.size))
    clear hx hr hl hv
    go_enter Tryd.func3, Tryd.ntmps3
    go_wp2_with fail
    refine HD.out.mono ?_
    rintro e w1 ⟨a, b, rfl, ha0, ha1, hb0, hb1, b1⟩
    obtain ⟨L, hL⟩ : ∃ L, L = passL a b := ⟨_, rfl⟩
    have hle : L.length ≤ 1000 := by rw [hL]; exact passL_le a b
    have IM := passTrace_any a b w1
    have SP := fun w => specPass_any a b w
    have AT := fun k x => passL_at a b k x
    have LN := passL_len a b
    rw [← hL] at IM SP AT LN
    have IM := Lib.hid IM
    have SP := Lib.hid SP
    have AT := Lib.hid AT
    have LN := Lib.hid LN
    clear hL
    go_wp2_with fail
    refine IM.out.mono ?_
    rintro e w2 ⟨v0, rfl, o2, b2⟩
    obtain ⟨A0, c0, rfl, _, _⟩ := own_form o2
    have B2 := b1.trans (b2.mono b1.size)
    go_wp2_with fail
    refine (SP.out _).mono ?_
    rintro e w3 ⟨v1, rfl, o3, b3⟩
    obtain ⟨A1, c1, rfl, _, _⟩ := own_form o3
    have o2' := own_below o2 b3
    have B3 := B2.trans (b3.mono B2.size)
    go_wp2_with fail
    refine (implSame_any true A0 A1 _ _ c0 c1 L L _ (by simp) rfl rfl (Reads.of_own o2') (Reads.of_own o3) (by omega) (by omega)).mono ?_
    rintro e w4 ⟨rfl, b4⟩
    have o4 := own_below o2' b4
    have B4 := B3.trans (b4.mono B3.size)
    have R4 := Reads.of_own o4
    clear IM SP o2 o3 o2' b1 b2 b3 b4 B2 B3 o4
    go_wp2_with fail
    go_loopw [6] (fun i wr => ∃ k : Nat, k ≤ L.length ∧ i = .int .i64 k ∧ Below w.heap.size w wr ∧ Below w4.heap.size w4 wr) (fun i _ => L.length - (intOf i).toNat)
    case atStart => exact ⟨0, Nat.zero_le _, rfl, B4, Below.refl _ _⟩
    case round =>
      obtain ⟨k, hk, rfl, hbk, hbk4⟩ := hrel
      have hk0 : (0 : Int) ≤ (k : Int) := Int.natCast_nonneg _
      by_cases hlt : k < L.length
      · obtain ⟨ad, x1, x2, x3, rfl, _, hxk, e1, e2, e3⟩ := acc_at (R4.below hbk4) rfl hlt
        have hat := AT.out k _ hxk
        simp only [Prod.mk.injEq] at hat
        obtain ⟨rfl, rfl, rfl⟩ := hat
        have hk1 : (k : Int) < (L.length : Int) := by omega
        have t1 : (k : Int).tdiv 2 = ((k / 2 : Nat) : Int) := by rw [Int.tdiv_eq_ediv_of_nonneg (by omega)]; rfl
        have t2 : (k : Int).tmod 2 = ((k % 2 : Nat) : Int) := by rw [Int.tmod_eq_emod_of_nonneg (by omega)]; rfl
        clear hxk R4
        rcases (show k % 2 = 0 ∨ k % 2 = 1 by omega) with h2 | h2
        · rw [h2] at e3 t2
          have t3 : (k : Int) % 2 = 0 := by omega
          go_wp2_with fail
          go_roundw
          case rel => exact ⟨k + 1, by omega, by go_num, hbk, hbk4⟩
          case measure => simp [intOf]; omega
        · rw [h2] at e3 t2
          have t3 : (k : Int) % 2 = 1 := by omega
          go_wp2_with fail
          go_roundw
          case rel => exact ⟨k + 1, by omega, by go_num, hbk, hbk4⟩
          case measure => simp [intOf]; omega
      · obtain rfl : k = L.length := by omega
        have AL := Lib.hid (HV.out wr hbk)
        by_cases h0 : L.length = 0
        · have h0' : (L.length : Int) = 0 := by omega
          clear R4 hbk4
          go_wp2_with fail
          refine AL.out.mono ?_
          rintro e w' ⟨rfl, rfl⟩
          go_wp2_with fail
          go_ret
          exact ⟨rfl, hbk⟩
        · obtain ⟨g1, g2, h1⟩ := LN.out.resolve_left h0
          have h2 : 2 * b = (L.length : Int) := h1.symm
          have h3 : ((L.length : Int) == 0) = false := by simp only [beq_eq_false_iff_ne]; omega
          clear R4 hbk4 h0 h1
          go_wp2_with fail
          refine AL.out.mono ?_
          rintro e w' ⟨rfl, rfl⟩
          clear h2
          go_wp2_with fail
          go_ret
          exact ⟨rfl, hbk⟩
end Go.Proofs.YtgbbgejnphfocaaDoor
