/- spec.DrawProjectRows. -/
import Derived.Test.YtijpdekcdejfmaaDoorDrawLim
import Derived.Test.YtijpdekcdejfmaaDoorDrawNames
import Derived.Test.YtijpdekcdejfmaaDoorStrV
import Derived.ArgAppend
namespace Go.Proofs.YtijpdekcdejfmaaDoor
open Go Go.RowKit
set_option maxRecDepth 100000
def StrRow1 (N : Nat → Prop) (v : Value) (w : World) : Prop := ∃ n, n ≤ 3 ∧ RowB N 9 (StrB 1) n v w
theorem strRow1_stable {N : Nat → Prop} : Stable (Mv N (fun _ => True)) (StrRow1 N) := by
  rintro v w w' ⟨n, hn, h⟩ hs
  exact ⟨n, hn, rowB_stable strB_stable _ _ _ h hs⟩
/-- A drawn list of columns: at most three texts of at most one byte. -/
def ColsV (N : Nat → Prop) (v : Value) (w : World) : Prop := ∃ cols : List ByteArray, cols.length ≤ 3 ∧ (∀ x ∈ cols, x.size ≤ 1) ∧ w.ownsRow 0 9 1 v cols.length (stCells cols) ∧ ∀ g, v.ownBlock = some g → ¬ N g
theorem colsV_stable {N : Nat → Prop} : Stable (Mv N (fun _ => True)) (ColsV N) := by
  rintro v w w' ⟨cols, h1, h2, h3, h4⟩ hs
  exact ⟨cols, h1, h2, hs.1.own h3 h4, h4⟩
theorem strs_of {n : Nat} {w : World} : ∀ (vs : List Value), (∀ u ∈ vs, StrB n u w) → ∃ cols : List ByteArray, vs = stCells cols ∧ cols.length = vs.length ∧ ∀ x ∈ cols, x.size ≤ n
  | [], _ => ⟨[], rfl, rfl, by simp⟩
  | v :: r, h => by
    obtain ⟨s, rfl, hs⟩ := h v (by simp)
    obtain ⟨cols, rfl, hl, hc⟩ := strs_of r (fun u hu => h u (by simp [hu]))
    refine ⟨s :: cols, rfl, by simp [stCells], ?_⟩
    intro x hx
    simp only [List.mem_cons] at hx
    rcases hx with rfl | hx
    · exact hs
    · exact hc x hx
section
variable {P : Program}
theorem wp_buildSlice0 {o : Oper} {a : Act} {w : World} {K : Act → World → Prop} {Q : Exit → Act → World → Prop} (t e : TypeId) (ho : o.op = .buildSlice t 0 #[]) (ie : TypeInfo)
    (hu : P.underlying t = some (.slice e)) (hie : P.info? e = some ie) (h : K (a.put o.dst (.slice (some ⟨w.heap.size, 0, none⟩) 0 0)) (w.alloc (.cells #[] e))) : o.wp P a w K Q := by
  have hrun : (Instr.buildSlice t 0 #[]).run P w = .ok (.slice (some ⟨w.heap.size, 0, none⟩) 0 0) (w.alloc (.cells #[] e)) := by
    simp [Instr.buildSlice, run_underlying hu, sizeOf, typeInfo, hie, Instr.fill, newRow]
    exact congrArg (fun c => w.alloc (.cells c e)) (Array.eq_empty_of_size_eq_zero (by simp))
  unfold Oper.wp execOp
  simp only [ho, Sem.run_bind, List.map_toArray, List.map_nil, hrun, Result.andThen_ok]
  exact h
theorem op_append0 {o : Oper} {a : Act} {w : World} {K : Act → World → Prop} {Q : Exit → Act → World → Prop} (s x : Operand) (t e : TypeId)
    (ho : o.op = .call { callee := .builtin .append, args := #[s, x], argTypes := #[t, t] }) (i : TypeInfo) (z : Value) (size bytes : Nat) (ht : P.underlying t = some (.slice e)) (hi : P.info? e = some i) (hz : i.zero = some z)
    (hsize : i.size = 1) (hby : i.bytes = bytes) (hzs : z.cells.size = 1) (hbb : bytes ≤ 1000)
    (g1 : Nat) (hs : a.eval s = .slice (some ⟨g1, 0, none⟩) 0 0) (g2 n : Nat) (vs : List Value) (hx : a.eval x = .slice (some ⟨g2, 0, none⟩) n n) (hb : Blk w g2 e vs.toArray) (hn : vs.length = n) (h1 : ∀ u ∈ vs, u.oneCell' = true) (hn3 : n ≤ 1000)
    (h0 : n = 0 → K (a.put o.dst (.slice (some ⟨g1, 0, none⟩) 0 0)) w)
    (hk : ∀ v' w', w'.ownsRow w.heap.size e 1 v' n vs → w.grownBy w' none → K (a.put o.dst v') w') : o.wp P a w K Q := by
  have hnews : ∀ j u, vs[j]? = some u → w.cell? ((⟨g2, 0, none⟩ : Addr).add j) = some u := by
    intro j u hj
    have hc := hb.cell j
    rw [Addr.add_lit]
    simp at hc ⊢
    rw [hc]
    exact hj
  by_cases hn0 : n = 0
  · subst hn0
    obtain rfl : vs = [] := List.length_eq_zero_iff.1 hn
    have hrun := run_append_room_cells (P := P) w t o.type e i ht hi g1 0 0 0 ⟨g2, 0, none⟩ 0 0 [] (by simp) (by simp) (by simp) (Nat.le_refl _) (by simp) (by simp)
    unfold Oper.wp execOp
    simp only [ho, resolve, invoke, builtin, Sem.run_bind, Sem.run_pure, Result.andThen_ok, List.map_toArray, List.map_cons, List.map_nil, hs, hx, hrun]
    exact h0 rfl
  · obtain ⟨v', w', hrun, r1, r2⟩ := run_append_arg_grows (P := P) w t o.type e i z 1 bytes ht hi hz hsize hby hzs (by decide) ⟨g1, 0, none⟩ 0 0 [] (by simp) (by intro _ _ h'; simp at h') ⟨g2, 0, none⟩ n n vs (by rw [hn, Nat.mul_one]) hnews (by omega) (by unfold maxLen; omega) (by
      have := Nat.mul_le_mul hn3 hbb
      rw [Nat.zero_add]
      omega)
    rw [List.nil_append, Nat.zero_add] at r1
    unfold Oper.wp execOp
    simp only [ho, resolve, invoke, builtin, Sem.run_bind, Sem.run_pure, Result.andThen_ok, List.map_toArray, List.map_cons, List.map_nil, hs, hx, hrun]
    exact hk v' w' r1 r2
end
section
variable {R B D T K f i : Nat} {F0 F1 : Value} {w0 wT w w' : World} {listed : Array Bool}
theorem ClL.grow (hi : i ≠ K) (hb : Below w.heap.size w w') (h : ClL R B D T K F0 F1 w0 wT (f + 1) listed w) : ClL R B D T K F0 F1 w0 wT f (listed.setIfInBounds i true) w' := by
  obtain ⟨x, y, hB⟩ := h.blk
  exact ⟨fun e => ((h.rc (by rwa [set_ne hi] at e)).less (by omega)).below hb, Nat.lt_of_lt_of_le h.lr hb.size, h.bel.trans (hb.mono h.bel.size), h.chg.trans ⟨hb.size, fun k hk _ => hb.block k hk⟩, ⟨x, y, hB.below hb hB.lt⟩, h.tab.below hb h.tab.lt, h.neR, h.neD, fun e => Blk.below (h.done (by rwa [set_ne hi] at e)) hb hB.lt⟩
theorem ClL.out (h : ClL R B D T K F0 F1 w0 wT f listed w) {g : Nat} (hg : w.heap.size ≤ g) : ¬ ND R D g := by
  obtain ⟨x, y, hb⟩ := h.blk
  have h1 := hb.lt
  have h2 := h.lr
  unfold ND; omega
end
def projV (R D : Nat) (F0 F1 : Value) (i : Nat) (v : Value) (w : World) : Prop := match i with
  | 0 => v = .agg #[F0, F1]
  | 1 => RowB (ND R D) 9 (StrB 1) 0 v w
  | 2 | 3 | 4 | 5 | 6 | 7 | 15 => StrRow1 (ND R D) v w
  | 8 => RowB (ND R D) 23 (StrRow1 (ND R D)) 6 v w
  | 9 => RowB (ND R D) 3 (NatB 6) 8 v w
  | 10 => v = .pointer (some ⟨R, 0, none⟩)
  | 11 => NatB 8 v w
  | 12 => AddB (ND R D) (NatB 6) v w
  | 13 => NatB 6 v w
  | 14 => AddB (ND R D) (StrRow1 (ND R D)) v w
  | 16 | 18 => ColsV (ND R D) v w
  | _ => True
theorem projV_stable {R D : Nat} {F0 F1 : Value} : ∀ i v w w', projV R D F0 F1 i v w → Mv (ND R D) (fun _ => True) w w' → projV R D F0 F1 i v w' := by
  intro i v w w' hv hs
  unfold projV at hv ⊢
  split at hv <;> first | exact hv | exact strRow1_stable v w w' hv hs | exact colsV_stable v w w' hv hs | exact rowB_stable strB_stable v w w' hv hs | exact rowB_stable strRow1_stable v w w' hv hs | exact rowB_stable natB_stable v w w' hv hs | exact addB_stable natB_stable v w w' hv hs | exact addB_stable strRow1_stable v w w' hv hs
/-- What a drawing of a table and a list of columns leaves. -/
def DrewTabCols (w : World) (e : Ending) (w' : World) : Prop := ∃ (nv rv cv : Value) (cols names : List ByteArray) (rows : List (List Int)), e = .returned (.tuple #[.agg #[nv, rv], cv]) ∧ (cols.length ≤ 3 ∧ ∀ x ∈ cols, x.size ≤ 1) ∧ StrR w' cv cols ∧ TabO w' w.heap.size (.agg #[nv, rv]) names rows ∧ DrawnT names rows ∧ Below w.heap.size w w'
set_option maxHeartbeats 1600000 in
theorem drawProj_any (A : Option Addr) (n c : Nat) (xs : List UInt8) (w : World) (hx : Reads w w.heap.size 1 A n (byCells xs)) (hl : xs.length = n) (hn : n ≤ 1048576) (hc : n ≤ c) (hc2 : c ≤ maxLen) :
    Calls Tryd.prog 6 #[.slice A n c] w (DrewTabCols w) := by
  obtain ⟨ii, hii, hiz, his', iib⟩ := info_parts infoInt
  obtain ⟨is, his, hsz, hss, isb⟩ := info_parts infoStr
  obtain ⟨ni, hni, hnz, hns, _⟩ := info_parts infoNamesRow
  have HO := Lib.hid (fun (w' : World) (hb : Below w.heap.size w w') => open_c A n c xs w' ((hx.below hb).more hb.size) hl hn hc hc2)
  clear hx hl
  go_enter Tryd.func6, Tryd.ntmps6
  go_wp2_with fail
  obtain ⟨w0, hw0⟩ : ∃ w0, w0 = w.alloc (.cells #[.slice none 0 0, .slice none 0 0] 26) := ⟨_, rfl⟩
  have b0 : Below w.heap.size w w0 := by rw [hw0]; exact (Below.refl _ _).alloc (Nat.le_refl _) _
  have k0 : Blk w0 w.heap.size 26 #[.slice none 0 0, .slice none 0 0] := by rw [hw0]; exact Blk.new _ _ _
  rw [← hw0]
  clear hw0
  refine (HO.out w0 b0).mono ?_
  rintro e w1 ⟨rfl, r1, b1, -⟩
  have hk0 := k0.lt
  have k1 := k0.below b1 hk0
  have B1 := b0.trans (b1.mono b0.size)
  go_wp2_with fail
  refine (table_c _ 50 0 9 _ (r1.less (by omega)) (by omega) (by omega)).mono ?_
  rintro e w3 ⟨nv, rv, names, rows, rfl, ho, hd, r3, t3⟩
  have k3 := t3.blk k1 (by omega)
  have hsz3 : w1.heap.size ≤ w3.heap.size := t3.size
  have hsz1 : w0.heap.size + 1 ≤ w1.heap.size := r1.lt
  have B3 := t3.below B1 (by omega)
  obtain ⟨A4, c4, A5, c5, rfl, rfl⟩ := ho.form
  go_wp2_with fail
  obtain ⟨w5, hw5⟩ : ∃ w5, w5 = w3.alloc (.cells #[.slice A4 names.length c4, .slice A5 rows.length c5] 26) := ⟨_, rfl⟩
  have b5 : Below w3.heap.size w3 w5 := by rw [hw5]; exact (Below.refl _ _).alloc (Nat.le_refl _) _
  have k5 : Blk w5 w3.heap.size 26 #[.slice A4 names.length c4, .slice A5 rows.length c5] := by rw [hw5]; exact Blk.new _ _ _
  rw [← hw5]
  clear hw5
  have r5 := r3.below b5
  have o5 := ho.below b5
  have k53 := k3.below b5 k3.lt
  have B5 := B3.trans (b5.mono B3.size)
  have hwR : w.heap.size ≤ w0.heap.size := b0.size
  have hDR : w.heap.size ≠ w0.heap.size := by omega
  have hwD : w.heap.size ≤ w.heap.size := Nat.le_refl _
  have CI := Lib.hid (show ClL w0.heap.size 20 w.heap.size w3.heap.size 17 (.slice A4 names.length c4) (.slice A5 rows.length c5) w w5 19 (Array.replicate 19 false) w5.drew from ⟨fun _ => r5.drew.less (by omega), r5.lt, B5.drew, ⟨Nat.le_refl _, fun _ _ _ => rfl⟩, ⟨_, _, k53.drew⟩, k5.drew, by omega, by omega, fun e => by simp at e⟩)
  refine wp_region_typedGL (by kernel_rfl) (fun i => i == 18) (lift <| projV w0.heap.size w.heap.size (.slice A4 names.length c4) (.slice A5 rows.length c5)) (fun _ => Mv (ND w0.heap.size w.heap.size) (fun _ => True)) (ClL w0.heap.size 20 w.heap.size w3.heap.size 17 (.slice A4 names.length c4) (.slice A5 rows.length c5) w w5) (by kernel_rfl) (stab projV_stable) ?_ ?_ ?_ (by kernel_rfl) ?_
  · exact dst_lt (n := 27) (by kernel_rfl)
  · exact CI.out
  · refine ok_all ⟨?_, ?_, ?_, ?_, ?_, ?_, ?_, ?_, ?_, ?_, ?_, ?_, ?_, ?_, ?_, ?_, ?_, ?_, ?_, trivial⟩
    · refine okL rfl ?_
      intro f listed a w' hl hc hs hr hh
      have h0 : a.tmps.getD 5 undef = .pointer (some ⟨w3.heap.size, 0, none⟩) := hr 5 (not_dst (by kernel_rfl))
      have h0' : a.tmps[5]?.getD undef = .pointer (some ⟨w3.heap.size, 0, none⟩) := by simpa using h0
      have y0 := hc.tab.cell 0
      have y1 := hc.tab.cell 1
      simp at y0 y1
      exact wp_valL (v := .agg #[(.slice A4 names.length c4), (.slice A5 rows.length c5)]) (by simp [execOp, go_sem, Act.eval, h0', y0, y1]) ⟨_, rfl, rfl, Mv.refl _, hc.step0 (by decide)⟩
    · refine okL rfl ?_
      intro f listed a w' hl hc hs hr hh
      refine wp_buildSlice0 23 9 rfl is Tryd.underlying23 his ⟨_, rfl, ⟨w'.heap.size, [], rfl, hc.lt, Blk.new _ _ _, rfl, ?_⟩, ⟨(Chg.refl _).alloc _, fun _ => trivial⟩, hc.alloc (by decide) _⟩
      intro u hu
      simp at hu
    · refine okL rfl ?_
      intro f listed a w' hl hc hs hr hh
      refine wp_buildSlice 23 9 1 _ rfl #[.string ⟨#[97]⟩] is _ Tryd.underlying23 his hsz (by rw [hss]; decide) (by rw [hss]; decide) ?_ ⟨_, rfl, ⟨1, by decide, ⟨w'.heap.size, [.string ⟨#[97]⟩], rfl, hc.lt, Blk.new _ _ _, rfl, ?_⟩⟩, ⟨(Chg.refl _).alloc _, fun _ => trivial⟩, hc.alloc (by decide) _⟩
      · rw [hss]; kernel_rfl
      · intro u hu
        simp only [List.mem_cons, List.not_mem_nil, or_false] at hu
        rcases hu with rfl <;> exact ⟨_, rfl, by decide⟩
    · refine okL rfl ?_
      intro f listed a w' hl hc hs hr hh
      refine wp_buildSlice 23 9 2 _ rfl #[.string ⟨#[98]⟩, .string ⟨#[97]⟩] is _ Tryd.underlying23 his hsz (by rw [hss]; decide) (by rw [hss]; decide) ?_ ⟨_, rfl, ⟨2, by decide, ⟨w'.heap.size, [.string ⟨#[98]⟩, .string ⟨#[97]⟩], rfl, hc.lt, Blk.new _ _ _, rfl, ?_⟩⟩, ⟨(Chg.refl _).alloc _, fun _ => trivial⟩, hc.alloc (by decide) _⟩
      · rw [hss]; kernel_rfl
      · intro u hu
        simp only [List.mem_cons, List.not_mem_nil, or_false] at hu
        rcases hu with rfl | rfl <;> exact ⟨_, rfl, by decide⟩
    · refine okL rfl ?_
      intro f listed a w' hl hc hs hr hh
      refine wp_buildSlice 23 9 2 _ rfl #[.string ⟨#[97]⟩, .string ⟨#[97]⟩] is _ Tryd.underlying23 his hsz (by rw [hss]; decide) (by rw [hss]; decide) ?_ ⟨_, rfl, ⟨2, by decide, ⟨w'.heap.size, [.string ⟨#[97]⟩, .string ⟨#[97]⟩], rfl, hc.lt, Blk.new _ _ _, rfl, ?_⟩⟩, ⟨(Chg.refl _).alloc _, fun _ => trivial⟩, hc.alloc (by decide) _⟩
      · rw [hss]; kernel_rfl
      · intro u hu
        simp only [List.mem_cons, List.not_mem_nil, or_false] at hu
        rcases hu with rfl | rfl <;> exact ⟨_, rfl, by decide⟩
    · refine okL rfl ?_
      intro f listed a w' hl hc hs hr hh
      refine wp_buildSlice0 23 9 rfl is Tryd.underlying23 his ⟨_, rfl, ⟨0, by decide, ⟨w'.heap.size, [], rfl, hc.lt, Blk.new _ _ _, rfl, ?_⟩⟩, ⟨(Chg.refl _).alloc _, fun _ => trivial⟩, hc.alloc (by decide) _⟩
      intro u hu
      simp at hu
    · refine okL rfl ?_
      intro f listed a w' hl hc hs hr hh
      refine wp_buildSlice 23 9 3 _ rfl #[.string ⟨#[99]⟩, .string ⟨#[97]⟩, .string ⟨#[98]⟩] is _ Tryd.underlying23 his hsz (by rw [hss]; decide) (by rw [hss]; decide) ?_ ⟨_, rfl, ⟨3, by decide, ⟨w'.heap.size, [.string ⟨#[99]⟩, .string ⟨#[97]⟩, .string ⟨#[98]⟩], rfl, hc.lt, Blk.new _ _ _, rfl, ?_⟩⟩, ⟨(Chg.refl _).alloc _, fun _ => trivial⟩, hc.alloc (by decide) _⟩
      · rw [hss]; kernel_rfl
      · intro u hu
        simp only [List.mem_cons, List.not_mem_nil, or_false] at hu
        rcases hu with rfl | rfl | rfl <;> exact ⟨_, rfl, by decide⟩
    · refine okL rfl ?_
      intro f listed a w' hl hc hs hr hh
      refine wp_buildSlice 23 9 1 _ rfl #[.string ⟨#[65]⟩] is _ Tryd.underlying23 his hsz (by rw [hss]; decide) (by rw [hss]; decide) ?_ ⟨_, rfl, ⟨1, by decide, ⟨w'.heap.size, [.string ⟨#[65]⟩], rfl, hc.lt, Blk.new _ _ _, rfl, ?_⟩⟩, ⟨(Chg.refl _).alloc _, fun _ => trivial⟩, hc.alloc (by decide) _⟩
      · rw [hss]; kernel_rfl
      · intro u hu
        simp only [List.mem_cons, List.not_mem_nil, or_false] at hu
        rcases hu with rfl <;> exact ⟨_, rfl, by decide⟩
    · refine okL rfl ?_
      intro f listed a w' hl hc hs hr hh
      obtain ⟨_, ⟨n0, hn0, g0, xs0, rfl, p0⟩, h0⟩ := hh ⟨2, .data⟩ (by simp) rfl
      have h0 := h0 12 rfl
      obtain ⟨_, ⟨n1, hn1, g1, xs1, rfl, p1⟩, h1⟩ := hh ⟨3, .data⟩ (by simp) rfl
      have h1 := h1 13 rfl
      obtain ⟨_, ⟨n2, hn2, g2, xs2, rfl, p2⟩, h2⟩ := hh ⟨4, .data⟩ (by simp) rfl
      have h2 := h2 14 rfl
      obtain ⟨_, ⟨n3, hn3, g3, xs3, rfl, p3⟩, h3⟩ := hh ⟨5, .data⟩ (by simp) rfl
      have h3 := h3 15 rfl
      obtain ⟨_, ⟨n4, hn4, g4, xs4, rfl, p4⟩, h4⟩ := hh ⟨6, .data⟩ (by simp) rfl
      have h4 := h4 16 rfl
      obtain ⟨_, ⟨n5, hn5, g5, xs5, rfl, p5⟩, h5⟩ := hh ⟨7, .data⟩ (by simp) rfl
      have h5 := h5 17 rfl
      refine wp_buildSlice 47 23 6 _ rfl #[.slice (some ⟨g0, 0, none⟩) n0 n0, .slice (some ⟨g1, 0, none⟩) n1 n1, .slice (some ⟨g2, 0, none⟩) n2 n2, .slice (some ⟨g3, 0, none⟩) n3 n3, .slice (some ⟨g4, 0, none⟩) n4 n4, .slice (some ⟨g5, 0, none⟩) n5 n5] ni _ Tryd.underlying47 hni hnz (by rw [hns]; decide) (by rw [hns]; decide) ?_ ⟨_, rfl, ⟨w'.heap.size, [.slice (some ⟨g0, 0, none⟩) n0 n0, .slice (some ⟨g1, 0, none⟩) n1 n1, .slice (some ⟨g2, 0, none⟩) n2 n2, .slice (some ⟨g3, 0, none⟩) n3 n3, .slice (some ⟨g4, 0, none⟩) n4 n4, .slice (some ⟨g5, 0, none⟩) n5 n5], rfl, hc.lt, Blk.new _ _ _, rfl, ?_⟩, ⟨(Chg.refl _).alloc _, fun _ => trivial⟩, hc.alloc (by decide) _⟩
      · rw [hns]
        simp only [List.map_toArray, List.map_cons, List.map_nil, Act.eval, h0, h1, h2, h3, h4, h5]
        kernel_rfl
      · intro u hu
        simp only [List.mem_cons, List.not_mem_nil, or_false] at hu
        rcases hu with rfl | rfl | rfl | rfl | rfl | rfl
        · exact strRow1_stable _ _ _ ⟨n0, hn0, g0, xs0, rfl, p0⟩ ⟨(Chg.refl _).alloc _, fun _ => trivial⟩
        · exact strRow1_stable _ _ _ ⟨n1, hn1, g1, xs1, rfl, p1⟩ ⟨(Chg.refl _).alloc _, fun _ => trivial⟩
        · exact strRow1_stable _ _ _ ⟨n2, hn2, g2, xs2, rfl, p2⟩ ⟨(Chg.refl _).alloc _, fun _ => trivial⟩
        · exact strRow1_stable _ _ _ ⟨n3, hn3, g3, xs3, rfl, p3⟩ ⟨(Chg.refl _).alloc _, fun _ => trivial⟩
        · exact strRow1_stable _ _ _ ⟨n4, hn4, g4, xs4, rfl, p4⟩ ⟨(Chg.refl _).alloc _, fun _ => trivial⟩
        · exact strRow1_stable _ _ _ ⟨n5, hn5, g5, xs5, rfl, p5⟩ ⟨(Chg.refl _).alloc _, fun _ => trivial⟩
    · refine okL rfl ?_
      intro f listed a w' hl hc hs hr hh
      refine wp_buildSlice 40 3 8 _ rfl #[.int .i64 0, .int .i64 0, .int .i64 1, .int .i64 1, .int .i64 2, .int .i64 3, .int .i64 4, .int .i64 5] ii _ Tryd.underlying40 hii hiz (by rw [his']; decide) (by rw [his']; decide) ?_ ⟨_, rfl, ⟨w'.heap.size, [.int .i64 0, .int .i64 0, .int .i64 1, .int .i64 1, .int .i64 2, .int .i64 3, .int .i64 4, .int .i64 5], rfl, hc.lt, Blk.new _ _ _, rfl, ?_⟩, ⟨(Chg.refl _).alloc _, fun _ => trivial⟩, hc.alloc (by decide) _⟩
      · rw [his']; kernel_rfl
      · intro u hu
        simp only [List.mem_cons, List.not_mem_nil, or_false] at hu
        rcases hu with rfl | rfl | rfl | rfl | rfl | rfl | rfl | rfl
        · exact ⟨0, rfl, by decide⟩
        · exact ⟨0, rfl, by decide⟩
        · exact ⟨1, rfl, by decide⟩
        · exact ⟨1, rfl, by decide⟩
        · exact ⟨2, rfl, by decide⟩
        · exact ⟨3, rfl, by decide⟩
        · exact ⟨4, rfl, by decide⟩
        · exact ⟨5, rfl, by decide⟩
    · refine okL rfl ?_
      intro f listed a w' hl hc hs hr hh
      have h0 : a.tmps.getD 4 undef = .pointer (some ⟨w0.heap.size, 0, none⟩) := hr 4 (not_dst (by kernel_rfl))
      exact op_move rfl ⟨_, rfl, h0, Mv.refl _, hc.step0 (by decide)⟩
    · refine okL rfl ?_
      intro f listed a w' hl hc hs hr hh
      obtain ⟨_, rfl, h1⟩ := hh ⟨10, .data⟩ (by simp) rfl
      have h1 := h1 20 rfl
      have hop := hl.up (k := 17) rfl ⟨16, .chain⟩ (by simp) rfl (hl.up (k := 16) rfl ⟨11, .chain⟩ (by simp) rfl hl.here)
      refine op_call Tryd.func22 (by kernel_rfl) rfl rfl ?_
      rw [show #[Operand.tmp 20, Operand.const (Value.int .i64 8)].map a.eval = #[.pointer (some ⟨w0.heap.size, 0, none⟩), .int .i64 8] by simp [Act.eval]; simpa using h1]
      refine (pick_c w0.heap.size (20 + f) 8 w' ((hc.rc hop).less (by omega)) (by decide)).mono ?_
      rintro e w3 ⟨x, rfl, hx, h2, h3, _⟩
      exact ⟨_, rfl, _, rfl, ⟨x, rfl, by omega⟩, ⟨Chg.of_pick h3 (.inl rfl), fun _ => trivial⟩, hc.pick (by decide) hwR hDR hop h2 h3⟩
    · refine okL rfl ?_
      intro f listed a w' hl hc hs hr hh
      obtain ⟨_, ⟨g, vs, rfl, hg, hb, hln, hq⟩, h1⟩ := hh ⟨9, .data⟩ (by simp) rfl
      have h1 := h1 19 rfl
      obtain ⟨_, ⟨x, rfl, hx⟩, h2⟩ := hh ⟨11, .data⟩ (by simp) rfl
      have h2 := h2 21 rfl
      exact op_index (i := x) rfl Tryd.underlying40 (by kernel_rfl) h1 h2 hx ⟨_, rfl, rowB_at hg hb hln hq hx, Mv.refl _, hc.step0 (by decide)⟩
    · refine okL rfl ?_
      intro f listed a w' hl hc hs hr hh
      obtain ⟨_, ⟨ad, u, rfl, _, hcell, hq⟩, h1⟩ := hh ⟨12, .data⟩ (by simp) rfl
      have h1 := h1 22 rfl
      exact op_load rfl h1 hcell (by simp [go_sem]) ⟨_, rfl, hq, Mv.refl _, hc.step0 (by decide)⟩
    · refine okL rfl ?_
      intro f listed a w' hl hc hs hr hh
      obtain ⟨_, ⟨g, vs, rfl, hg, hb, hln, hq⟩, h1⟩ := hh ⟨8, .data⟩ (by simp) rfl
      have h1 := h1 18 rfl
      obtain ⟨_, ⟨x, rfl, hx⟩, h2⟩ := hh ⟨13, .data⟩ (by simp) rfl
      have h2 := h2 23 rfl
      exact op_index (i := x) rfl Tryd.underlying47 (by kernel_rfl) h1 h2 hx ⟨_, rfl, rowB_at hg hb hln hq hx, Mv.refl _, hc.step0 (by decide)⟩
    · refine okL rfl ?_
      intro f listed a w' hl hc hs hr hh
      obtain ⟨_, ⟨ad, u, rfl, _, hcell, hq⟩, h1⟩ := hh ⟨14, .data⟩ (by simp) rfl
      have h1 := h1 24 rfl
      exact op_load rfl h1 hcell (by simp [go_sem]) ⟨_, rfl, hq, Mv.refl _, hc.step0 (by decide)⟩
    · refine okL rfl ?_
      intro f listed a w' hl hc hs hr hh
      obtain ⟨_, ⟨g1, vs1, rfl, hg1, hb1, hln1, _⟩, h1⟩ := hh ⟨1, .data⟩ (by simp) rfl
      have h1 := h1 11 rfl
      obtain ⟨_, ⟨n2, hn2, g2, vs2, rfl, hg2, hb2, hln2, hq2⟩, h2⟩ := hh ⟨15, .data⟩ (by simp) rfl
      have h2 := h2 25 rfl
      obtain ⟨cols, rfl, hcl, hcs⟩ := strs_of vs2 hq2
      refine op_append0 (.tmp 11) (.tmp 25) 23 9 rfl is _ 1 16 Tryd.underlying23 his hsz hss isb rfl (by decide) g1 h1 g2 n2 (stCells cols) h2 hb2 hln2 (stOne _) (by omega) (fun h0 => ?_) (fun v' w3 ho hg => ?_)
      · refine ⟨_, rfl, ⟨[], by decide, by simp, ⟨rfl, .inr ⟨g1, 0, #[], rfl, Nat.zero_le _, ?_, Nat.le_refl _, Nat.zero_le _, rfl, rfl⟩⟩, ?_⟩, Mv.refl _, hc.step0 (by decide)⟩
        · obtain rfl : vs1 = [] := List.length_eq_zero_iff.1 hln1
          exact hb1
        · intro g e
          obtain rfl := Option.some.inj e
          exact hg1
      · have hb : Below w'.heap.size w' w3 := ⟨hg.os, hg.tape, hg.output, hg.size, fun k hk => hg.block k hk (by simp)⟩
        refine ⟨_, rfl, ⟨cols, by omega, hcs, by rw [hcl, hln2]; exact ho.base_le (Nat.zero_le _), fun g e => ?_⟩, ⟨⟨hb.size, fun k hk _ => hb.block k hk⟩, fun _ => trivial⟩, hc.grow (by decide) hb⟩
        have := (ho.lt g e).1
        exact hc.out this
    · refine okL rfl ?_
      intro f listed a w' hl hc hs hr hh
      obtain ⟨_, rfl, h1⟩ := hh ⟨0, .data⟩ (by simp) rfl
      have h1 := h1 10 rfl
      have h0 : a.tmps.getD 2 undef = .pointer (some ⟨w.heap.size, 0, none⟩) := hr 2 (not_dst (by kernel_rfl))
      have h0' : a.tmps[2]?.getD undef = .pointer (some ⟨w.heap.size, 0, none⟩) := by simpa using h0
      have h1' : a.tmps[10]?.getD undef = .agg #[(.slice A4 names.length c4), (.slice A5 rows.length c5)] := by simpa using h1
      obtain ⟨x, y, hD⟩ := hc.blk
      have y0 := hD.cell 0
      have y1 := hD.cell 1
      have f0 := hD.frozen 0
      have f1 := hD.frozen 1
      simp at y0 y1
      have hb' := (hD.set_ 0 (.slice A4 names.length c4)).set_ 1 (.slice A5 rows.length c5)
      simp at hb'
      unfold Oper.wp
      simp [execOp, h0', h1', go_sem, y0, y1, f0, f1, run_store, storeCells, Oper.upon]
      exact ⟨⟨undef, trivial⟩, ⟨(Chg.setCell _ (.inr rfl) _).trans (Chg.setCell _ (.inr rfl) _), fun _ => trivial⟩, hc.store hb' hwD (by rw [hl.size]; decide)⟩
    · refine okL rfl ?_
      intro f listed a w' hl hc hs hr hh
      obtain ⟨v, hv, h1⟩ := hh ⟨16, .data⟩ (by simp) rfl
      have h1 := h1 26 rfl
      exact op_assign rfl ⟨_, rfl, by show ColsV (ND w0.heap.size w.heap.size) _ _; rw [show a.eval (.tmp 26) = v from h1]; exact hv, Mv.refl _, hc.step0 (by decide)⟩
  · intro a w' hs hd' hr hh hcl
    obtain ⟨listed, hall, hc⟩ := hcl
    have hP := hc.done (hall 17 (by decide))
    obtain ⟨cv, ⟨cols, hcn, hcs, hco, _⟩, h3⟩ := hh 18 (by decide) rfl
    have h3 := h3 3 rfl
    have e2 : a.tmps.getD 2 undef = .pointer (some ⟨w.heap.size, 0, none⟩) := hr 2 (not_dst (by kernel_rfl))
    have ea : a = ⟨#[a.tmps.getD 0 undef, a.tmps.getD 1 undef, a.tmps.getD 2 undef, a.tmps.getD 3 undef, a.tmps.getD 4 undef, a.tmps.getD 5 undef, a.tmps.getD 6 undef, a.tmps.getD 7 undef, a.tmps.getD 8 undef, a.tmps.getD 9 undef, a.tmps.getD 10 undef, a.tmps.getD 11 undef, a.tmps.getD 12 undef, a.tmps.getD 13 undef, a.tmps.getD 14 undef, a.tmps.getD 15 undef, a.tmps.getD 16 undef, a.tmps.getD 17 undef, a.tmps.getD 18 undef, a.tmps.getD 19 undef, a.tmps.getD 20 undef, a.tmps.getD 21 undef, a.tmps.getD 22 undef, a.tmps.getD 23 undef, a.tmps.getD 24 undef, a.tmps.getD 25 undef, a.tmps.getD 26 undef], []⟩ := act_lit 27 hs hd'
    rw [e2, h3] at ea
    obtain ⟨U, hU⟩ : ∃ U : Nat → Value, ∀ i, a.tmps.getD i undef = U i := ⟨_, fun _ => rfl⟩
    simp only [hU] at ea
    have r0 := Blk.cell hP 0
    have r1 := Blk.cell hP 1
    simp at r0 r1
    have hTab : TabO w' w1.heap.size (.agg #[.slice A4 names.length c4, .slice A5 rows.length c5]) names rows := by
      obtain ⟨v0, v1, e, g0, vs, g1⟩ := o5
      have hnd : ∀ g, w1.heap.size ≤ g → ¬ ND w0.heap.size w.heap.size g := fun g hg => by unfold ND; omega
      exact ⟨v0, v1, e, hc.chg.own g0 (fun g e => hnd g (g0.lt g e).1), vs, (g1.block (fun g h1 hg _ => hc.chg.block g hg (hnd g h1))).wide hc.chg.size⟩
    have hB := hc.bel
    obtain ⟨Ac, cc, rfl, hca, _⟩ := own_form hco
    have hRC : StrR w' (.slice Ac cols.length cc) cols := ⟨Ac, cc, rfl, hca, Reads.of_own hco⟩
    clear hs hd' hr hh hU e2 h3 hall hc hP CI
    subst ea
    go_wp2_with fail
    exact bodyPost_ret (v := .tuple #[.agg #[_, _], .slice Ac cols.length cc]) (by simp [results, Tryd.results6, go_sem, r0, r1]) rfl ⟨_, _, _, cols, names, rows, rfl, ⟨hcn, hcs⟩, hRC, hTab.low (by omega), hd, hB⟩
end Go.Proofs.YtijpdekcdejfmaaDoor
