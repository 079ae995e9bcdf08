/- spec.l20Names. -/
import Derived.Test.YtijpdekcdejfmaaDoorTypedV
import Derived.Test.YtijpdekcdejfmaaDoorInts
namespace Go.Proofs.YtijpdekcdejfmaaDoor
open Go Go.RowKit
set_option maxRecDepth 100000
theorem infoNamesRow : (Tryd.prog.info? 23).map (fun i => (i.zero, i.size, i.bytes)) = some (some (.slice none 0 0), 1, 24) := by kernel_rfl
theorem not_dst {ops : Array Oper} {t : Tmp} (h : (ops.toList.all fun o => o.dst != some t) = true) (j : Nat) (hj : j < ops.size) : dstOf ops j ≠ some t := by
  intro e
  unfold dstOf at e
  obtain ⟨o, ho, hod⟩ := Option.bind_eq_some_iff.1 e
  have := List.all_eq_true.1 h o (by
    obtain ⟨hlt, rfl⟩ := Array.getElem?_eq_some_iff.1 ho
    exact Array.getElem_mem_toList hlt)
  rw [hod] at this
  simp at this
def StrRow (R : Nat) (v : Value) (w : World) : Prop := ∃ n, (1 ≤ n ∧ n ≤ 3) ∧ RowB (· = R) 9 (StrB 5) n v w
theorem strRow_stable {R : Nat} : Stable (Mv (· = R) (fun _ => True)) (StrRow R) := by
  rintro v w w' ⟨n, hn, h⟩ hs
  exact ⟨n, hn, rowB_stable strB_stable _ _ _ h hs⟩
def namV (R : Nat) (i : Nat) (v : Value) (w : World) : Prop := match i with
  | 0 | 1 | 2 | 3 | 4 | 5 | 22 | 23 => StrRow R v w
  | 6 => RowB (· = R) 23 (StrRow R) 6 v w
  | 7 | 17 => RowB (· = R) 3 (NatB 6) 3 v w
  | 12 => RowB (· = R) 3 (NatB 6) 2 v w
  | 8 | 13 => v = .pointer (some ⟨R, 0, none⟩)
  | 9 | 18 => NatB 3 v w
  | 14 => NatB 2 v w
  | 10 | 15 | 19 => AddB (· = R) (NatB 6) v w
  | 11 | 16 | 20 => NatB 6 v w
  | 21 => AddB (· = R) (StrRow R) v w
  | _ => True
theorem namV_stable {R : Nat} (i : Nat) (v : Value) (w w' : World) (h : namV R i v w) (hs : Mv (· = R) (fun _ => True) w w') : namV R i v w' := by
  unfold namV at h ⊢
  split at h <;> first | exact strRow_stable _ _ _ h hs | exact rowB_stable strRow_stable _ _ _ h hs | exact rowB_stable natB_stable _ _ _ h hs | exact addB_stable natB_stable _ _ _ h hs | exact addB_stable strRow_stable _ _ _ h hs | exact h
set_option maxHeartbeats 800000 in
theorem names_c (R B kind : Nat) (w : World) (h : Rc w R (B + 24)) (hk : kind < 3) :
    Calls Tryd.prog 42 #[.pointer (some ⟨R, 0, none⟩), .int .i64 (kind : Int)] w fun e w' => ∃ v, e = .returned v ∧ StrRow R v w' ∧ Rc w' R B ∧ Touch R (R + 1) w w' := by
  obtain ⟨is, his, hsz, hss, _⟩ := info_parts infoStr
  obtain ⟨ii, hii, hiz, his', _⟩ := info_parts infoInt
  obtain ⟨ni, hni, hnz, hns, _⟩ := info_parts infoNamesRow
  go_enter Tryd.func42, Tryd.ntmps42
  go_wp2_with fail
  refine wp_region_typed (by kernel_rfl) (fun _ => true) (lift <| namV R) (fun _ => Mv (· = R) (fun _ => True)) (ClsR R B w) (by kernel_rfl) (stab namV_stable) ?_ ?_ ?_ (by kernel_rfl) ?_
  · exact dst_lt (n := 28) (by kernel_rfl)
  · exact ⟨h, (Touch.refl _ _ _).drew⟩
  · refine ok_all ⟨?_, ?_, ?_, ?_, ?_, ?_, ?_, ?_, ?_, ?_, ?_, ?_, ?_, ?_, ?_, ?_, ?_, ?_, ?_, ?_, ?_, ?_, ?_, ?_, trivial⟩
    · refine ok_build (p := StrB 5) (clsR R B w) strB_stable rfl Tryd.underlying23 his hsz (by rw [hss]; decide) (by rw [hss]; decide) (fun v _ w hv => ⟨2, by decide, hv⟩) (fun a w _ _ _ => ⟨[.string ⟨#[97]⟩, .string ⟨#[98]⟩], rfl, ?_, ?_⟩)
      · intro u hu
        simp at hu
        rcases hu with rfl | rfl <;> exact ⟨_, rfl, by decide⟩
      · rw [hss]; kernel_rfl
    · refine ok_build (p := StrB 5) (clsR R B w) strB_stable rfl Tryd.underlying23 his hsz (by rw [hss]; decide) (by rw [hss]; decide) (fun v _ w hv => ⟨3, by decide, hv⟩) (fun a w _ _ _ => ⟨[.string ⟨#[97]⟩, .string ⟨#[98]⟩, .string ⟨#[99]⟩], rfl, ?_, ?_⟩)
      · intro u hu
        simp at hu
        rcases hu with rfl | rfl | rfl <;> exact ⟨_, rfl, by decide⟩
      · rw [hss]; kernel_rfl
    · refine ok_build (p := StrB 5) (clsR R B w) strB_stable rfl Tryd.underlying23 his hsz (by rw [hss]; decide) (by rw [hss]; decide) (fun v _ w hv => ⟨2, by decide, hv⟩) (fun a w _ _ _ => ⟨[.string ⟨#[107, 101, 121]⟩, .string ⟨#[118, 97, 108, 117, 101]⟩], rfl, ?_, ?_⟩)
      · intro u hu
        simp at hu
        rcases hu with rfl | rfl <;> exact ⟨_, rfl, by decide⟩
      · rw [hss]; kernel_rfl
    · refine ok_build (p := StrB 5) (clsR R B w) strB_stable rfl Tryd.underlying23 his hsz (by rw [hss]; decide) (by rw [hss]; decide) (fun v _ w hv => ⟨1, by decide, hv⟩) (fun a w _ _ _ => ⟨[.string ⟨#[97]⟩], rfl, ?_, ?_⟩)
      · intro u hu
        simp at hu
        subst hu <;> exact ⟨_, rfl, by decide⟩
      · rw [hss]; kernel_rfl
    · refine ok_build (p := StrB 5) (clsR R B w) strB_stable rfl Tryd.underlying23 his hsz (by rw [hss]; decide) (by rw [hss]; decide) (fun v _ w hv => ⟨3, by decide, hv⟩) (fun a w _ _ _ => ⟨[.string ⟨#[107, 101, 121]⟩, .string ⟨#[110, 97, 109, 101]⟩, .string ⟨#[118, 97, 108, 117, 101]⟩], rfl, ?_, ?_⟩)
      · intro u hu
        simp at hu
        rcases hu with rfl | rfl | rfl <;> exact ⟨_, rfl, by decide⟩
      · rw [hss]; kernel_rfl
    · refine ok_build (p := StrB 5) (clsR R B w) strB_stable rfl Tryd.underlying23 his hsz (by rw [hss]; decide) (by rw [hss]; decide) (fun v _ w hv => ⟨2, by decide, hv⟩) (fun a w _ _ _ => ⟨[.string ⟨#[98]⟩, .string ⟨#[107, 101, 121]⟩], rfl, ?_, ?_⟩)
      · intro u hu
        simp at hu
        rcases hu with rfl | rfl <;> exact ⟨_, rfl, by decide⟩
      · rw [hss]; kernel_rfl
    · refine ok_build (p := StrRow R) (clsR R B w) strRow_stable rfl Tryd.underlying47 hni hnz (by rw [hns]; decide) (by rw [hns]; decide) (fun v _ w hv => hv) (fun a w _ _ hh => ?_)
      obtain ⟨_, ⟨n0, hn0, g0, xs0, rfl, p0⟩, h0⟩ := hh ⟨0, .data⟩ (by simp) rfl
      have h0 := h0 5 rfl
      obtain ⟨_, ⟨n1, hn1, g1, xs1, rfl, p1⟩, h1⟩ := hh ⟨1, .data⟩ (by simp) rfl
      have h1 := h1 6 rfl
      obtain ⟨_, ⟨n2, hn2, g2, xs2, rfl, p2⟩, h2⟩ := hh ⟨2, .data⟩ (by simp) rfl
      have h2 := h2 7 rfl
      obtain ⟨_, ⟨n3, hn3, g3, xs3, rfl, p3⟩, h3⟩ := hh ⟨3, .data⟩ (by simp) rfl
      have h3 := h3 8 rfl
      obtain ⟨_, ⟨n4, hn4, g4, xs4, rfl, p4⟩, h4⟩ := hh ⟨4, .data⟩ (by simp) rfl
      have h4 := h4 9 rfl
      obtain ⟨_, ⟨n5, hn5, g5, xs5, rfl, p5⟩, h5⟩ := hh ⟨5, .data⟩ (by simp) rfl
      have h5 := h5 10 rfl
      refine ⟨[.slice (some ⟨g0, 0, none⟩) n0 n0, .slice (some ⟨g1, 0, none⟩) n1 n1, .slice (some ⟨g2, 0, none⟩) n2 n2, .slice (some ⟨g3, 0, none⟩) n3 n3, .slice (some ⟨g4, 0, none⟩) n4 n4, .slice (some ⟨g5, 0, none⟩) n5 n5], rfl, ?_, ?_⟩
      · intro u hu
        simp at hu
        rcases hu with rfl | rfl | rfl | rfl | rfl | rfl
        · exact ⟨n0, hn0, g0, xs0, rfl, p0⟩
        · exact ⟨n1, hn1, g1, xs1, rfl, p1⟩
        · exact ⟨n2, hn2, g2, xs2, rfl, p2⟩
        · exact ⟨n3, hn3, g3, xs3, rfl, p3⟩
        · exact ⟨n4, hn4, g4, xs4, rfl, p4⟩
        · exact ⟨n5, hn5, g5, xs5, rfl, p5⟩
      · rw [hns]
        simp only [List.map_toArray, List.map_cons, List.map_nil, Act.eval, h0, h1, h2, h3, h4, h5]
        kernel_rfl
    · refine ok_build (p := NatB 6) (clsR R B w) natB_stable rfl Tryd.underlying40 hii hiz (by rw [his']; decide) (by rw [his']; decide) (fun v _ w hv => hv) (fun a w _ _ _ => ⟨[.int .i64 0, .int .i64 1, .int .i64 3], rfl, ?_, ?_⟩)
      · intro u hu
        simp at hu
        rcases hu with rfl | rfl | rfl <;> exact ⟨_, rfl, by decide⟩
      · rw [his']; kernel_rfl
    · refine ok_put (clsR R B w) (.inl rfl) (fun a w hs hr hh => ?_)
      have h0 := hr 0 (not_dst (by kernel_rfl))
      exact h0
    · refine ok_call Tryd.func22 (by kernel_rfl) (by kernel_rfl) rfl (fun f a w hc hs hr hh => ?_)
      obtain ⟨_, rfl, h1⟩ := hh ⟨8, .data⟩ (by simp) rfl
      have h1 := h1 13 rfl
      rw [show #[Operand.tmp 13, Operand.const (Value.int .i64 3)].map a.eval = #[.pointer (some ⟨R, 0, none⟩), .int .i64 3] by simp [Act.eval, h1]]
      refine (pick_c R (B + f) 3 w hc.1 (by decide)).mono ?_
      rintro e w' ⟨x, rfl, hx, h2, h3, _⟩
      exact ⟨_, rfl, ⟨x, rfl, by omega⟩, Mv.pick h3, h2, hc.2.trans h3⟩
    · refine ok_index (te := 3) (p := NatB 6) (n := 3) (clsR R B w) rfl Tryd.underlying40 (by kernel_rfl) (fun v _ w hv => hv) (fun a w hs hr hh => ?_)
      obtain ⟨_, hv1, h1⟩ := hh ⟨7, .data⟩ (by simp) rfl
      obtain ⟨_, hv2, h2⟩ := hh ⟨9, .data⟩ (by simp) rfl
      have h1 := h1 12 rfl
      have h2 := h2 14 rfl
      subst h1
      subst h2
      exact ⟨hv1, hv2⟩
    · refine ok_load (p := NatB 6) (clsR R B w) rfl (fun w => by simp [go_sem]) (fun v _ w hv => hv) (fun a w hs hr hh => ?_)
      obtain ⟨_, hv1, h1⟩ := hh ⟨10, .data⟩ (by simp) rfl
      have h1 := h1 15 rfl
      subst h1
      exact hv1
    · refine ok_build (p := NatB 6) (clsR R B w) natB_stable rfl Tryd.underlying40 hii hiz (by rw [his']; decide) (by rw [his']; decide) (fun v _ w hv => hv) (fun a w _ _ _ => ⟨[.int .i64 2, .int .i64 4], rfl, ?_, ?_⟩)
      · intro u hu
        simp at hu
        rcases hu with rfl | rfl <;> exact ⟨_, rfl, by decide⟩
      · rw [his']; kernel_rfl
    · refine ok_put (clsR R B w) (.inl rfl) (fun a w hs hr hh => ?_)
      have h0 := hr 0 (not_dst (by kernel_rfl))
      exact h0
    · refine ok_call Tryd.func22 (by kernel_rfl) (by kernel_rfl) rfl (fun f a w hc hs hr hh => ?_)
      obtain ⟨_, rfl, h1⟩ := hh ⟨13, .data⟩ (by simp) rfl
      have h1 := h1 18 rfl
      rw [show #[Operand.tmp 18, Operand.const (Value.int .i64 2)].map a.eval = #[.pointer (some ⟨R, 0, none⟩), .int .i64 2] by simp [Act.eval, h1]]
      refine (pick_c R (B + f) 2 w hc.1 (by decide)).mono ?_
      rintro e w' ⟨x, rfl, hx, h2, h3, _⟩
      exact ⟨_, rfl, ⟨x, rfl, by omega⟩, Mv.pick h3, h2, hc.2.trans h3⟩
    · refine ok_index (te := 3) (p := NatB 6) (n := 2) (clsR R B w) rfl Tryd.underlying40 (by kernel_rfl) (fun v _ w hv => hv) (fun a w hs hr hh => ?_)
      obtain ⟨_, hv1, h1⟩ := hh ⟨12, .data⟩ (by simp) rfl
      obtain ⟨_, hv2, h2⟩ := hh ⟨14, .data⟩ (by simp) rfl
      have h1 := h1 17 rfl
      have h2 := h2 19 rfl
      subst h1
      subst h2
      exact ⟨hv1, hv2⟩
    · refine ok_load (p := NatB 6) (clsR R B w) rfl (fun w => by simp [go_sem]) (fun v _ w hv => hv) (fun a w hs hr hh => ?_)
      obtain ⟨_, hv1, h1⟩ := hh ⟨15, .data⟩ (by simp) rfl
      have h1 := h1 20 rfl
      subst h1
      exact hv1
    · refine ok_build (p := NatB 6) (clsR R B w) natB_stable rfl Tryd.underlying40 hii hiz (by rw [his']; decide) (by rw [his']; decide) (fun v _ w hv => hv) (fun a w _ _ hh => ?_)
      obtain ⟨_, ⟨x, rfl, hx⟩, h1⟩ := hh ⟨11, .data⟩ (by simp) rfl
      obtain ⟨_, ⟨y, rfl, hy⟩, h2⟩ := hh ⟨16, .data⟩ (by simp) rfl
      have h1 := h1 16 rfl
      have h2 := h2 21 rfl
      refine ⟨[.int .i64 x, .int .i64 y, .int .i64 5], rfl, ?_, ?_⟩
      · intro u hu
        simp at hu
        rcases hu with rfl | rfl | rfl
        · exact ⟨x, rfl, hx⟩
        · exact ⟨y, rfl, hy⟩
        · exact ⟨5, rfl, by decide⟩
      · rw [his']
        simp only [List.map_toArray, List.map_cons, List.map_nil, Act.eval, h1, h2]
        kernel_rfl
    · refine ok_put (clsR R B w) (.inl rfl) (fun a w hs hr hh => ?_)
      have h0 := hr 1 (not_dst (by kernel_rfl))
      exact ⟨kind, h0, hk⟩
    · refine ok_index (te := 3) (p := NatB 6) (n := 3) (clsR R B w) rfl Tryd.underlying40 (by kernel_rfl) (fun v _ w hv => hv) (fun a w hs hr hh => ?_)
      obtain ⟨_, hv1, h1⟩ := hh ⟨17, .data⟩ (by simp) rfl
      obtain ⟨_, hv2, h2⟩ := hh ⟨18, .data⟩ (by simp) rfl
      have h1 := h1 22 rfl
      have h2 := h2 23 rfl
      subst h1
      subst h2
      exact ⟨hv1, hv2⟩
    · refine ok_load (p := NatB 6) (clsR R B w) rfl (fun w => by simp [go_sem]) (fun v _ w hv => hv) (fun a w hs hr hh => ?_)
      obtain ⟨_, hv1, h1⟩ := hh ⟨19, .data⟩ (by simp) rfl
      have h1 := h1 24 rfl
      subst h1
      exact hv1
    · refine ok_index (te := 23) (p := StrRow R) (n := 6) (clsR R B w) rfl Tryd.underlying47 (by kernel_rfl) (fun v _ w hv => hv) (fun a w hs hr hh => ?_)
      obtain ⟨_, hv1, h1⟩ := hh ⟨6, .data⟩ (by simp) rfl
      obtain ⟨_, hv2, h2⟩ := hh ⟨20, .data⟩ (by simp) rfl
      have h1 := h1 11 rfl
      have h2 := h2 25 rfl
      subst h1
      subst h2
      exact ⟨hv1, hv2⟩
    · refine ok_load (p := StrRow R) (clsR R B w) rfl (fun w => by simp [go_sem]) (fun v _ w hv => hv) (fun a w hs hr hh => ?_)
      obtain ⟨_, hv1, h1⟩ := hh ⟨21, .data⟩ (by simp) rfl
      have h1 := h1 26 rfl
      subst h1
      exact hv1
    · refine ok_put (clsR R B w) (.inr rfl) (fun a w hs hr hh => ?_)
      obtain ⟨_, hv1, h1⟩ := hh ⟨22, .data⟩ (by simp) rfl
      have h1 := h1 27 rfl
      subst h1
      exact hv1
  · intro a w' hs hd hr hh hc
    obtain ⟨v, hv, h4⟩ := hh 23 (by decide) rfl
    have h4' : a.tmps.getD 4 undef = v := h4 4 rfl
    obtain ⟨tm, df⟩ := a
    obtain rfl : df = [] := hd
    clear hr hh
    go_wp2_with fail
    refine bodyPost_ret (results_tmp (by rfl) _ _ _) rfl ⟨v, ?_, hv, hc.1, hc.2⟩
    exact congrArg Ending.returned h4'
end Go.Proofs.YtijpdekcdejfmaaDoor
