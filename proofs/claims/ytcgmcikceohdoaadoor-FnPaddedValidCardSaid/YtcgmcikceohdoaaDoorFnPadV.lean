/- laws.FnPaddedValid: the walk. -/
import Derived.Test.YtcgmcikceohdoaaDoorFnPad
namespace Go.Proofs.YtcgmcikceohdoaaDoor
open Go Go.RowKit
set_option maxRecDepth 100000

def SP7 (j : Nat) (w w' : World) : Prop := w.heap.size ≤ w'.heap.size ∧ ∀ k, k < w.heap.size → (j = 11 → (∀ cs, ¬ Blk w k 45 cs) → w'.heap[k]? = w.heap[k]?) ∧ (j ≠ 11 → w'.heap[k]? = w.heap[k]?)
theorem SP7.same {j : Nat} {w w' : World} (hs : w.heap.size ≤ w'.heap.size) (h : ∀ k, k < w.heap.size → w'.heap[k]? = w.heap[k]?) : SP7 j w w' := ⟨hs, fun k hk => ⟨fun _ _ => h k hk, fun _ => h k hk⟩⟩
theorem SP7.refl {j : Nat} (w : World) (_ : j ≠ 11) : SP7 j w w := SP7.same (Nat.le_refl _) fun _ _ => rfl
theorem SP7.alloc {j : Nat} (w : World) (o : Obj) (_ : j ≠ 11) : SP7 j w (w.alloc o) := SP7.same (by simp) fun k hk => Below.heap_alloc w o k hk
theorem SP7.below {j : Nat} {w w' : World} (h : Below w.heap.size w w') (_ : j ≠ 11) : SP7 j w w' := SP7.same h.size fun k hk => h.block k hk
theorem SP7.eleven {w w' : World} (hs : w.heap.size ≤ w'.heap.size) (h : ∀ k, k < w.heap.size → (∀ cs, ¬ Blk w k 45 cs) → w'.heap[k]? = w.heap[k]?) : SP7 11 w w' := ⟨hs, fun k hk => ⟨fun _ hb => h k hk hb, fun e => absurd rfl e⟩⟩
theorem SP7.other {j k : Nat} {w w' : World} (h : SP7 j w w') (hk : k < w.heap.size) (h1 : ∀ cs, ¬ Blk w k 45 cs) : w'.heap[k]? = w.heap[k]? := by
  by_cases h11 : j = 11
  · exact (h.2 k hk).1 h11 h1
  · exact (h.2 k hk).2 h11
theorem dst_none {ops : Array Oper} {n j : Nat} (hs : decide (ops.size = n) = true) (hj : n ≤ j) : dstOf ops j = none := by
  have hs : ops.size = n := by simpa using hs
  unfold dstOf
  rw [Array.getElem?_eq_none (by omega)]
  rfl
def lawP7 (z T n4 c4 m c5 : Nat) (A4 A5 : Option Addr) (i : Nat) (v : Value) (a : Act) (w : World) : Prop := match i with
  | 0 => v = .pointer (some ⟨T, 0, none⟩)
  | 1 => v = .slice A4 n4 c4
  | 2 | 4 => v = .pointer (some ⟨T, 1, none⟩)
  | 3 | 5 => v = .slice A5 m c5
  | 6 => v = .int .i64 (m : Int)
  | 7 => v = .int .i64 ((m + 1 : Nat) : Int)
  | 8 => ∃ g, v = .slice (some ⟨g, 0, none⟩) (m + 1) (m + 1) ∧ z ≤ g ∧ w.ownsRow z 4 1 (.slice (some ⟨g, 0, none⟩) (m + 1) (m + 1)) (m + 1) (boCells (List.replicate (m + 1) false))
  | 9 => ∃ g, v = .agg #[.slice A4 n4 c4, .slice A5 m c5, .slice (some ⟨g, 0, none⟩) (m + 1) (m + 1)] ∧ z ≤ g ∧ w.ownsRow z 4 1 (.slice (some ⟨g, 0, none⟩) (m + 1) (m + 1)) (m + 1) (boCells (List.replicate (m + 1) false))
  | 10 => ∃ g, v = .pointer (some ⟨g, 0, none⟩) ∧ z ≤ g ∧ Blk w g 45 #[.slice none 0 0, .slice none 0 0, .slice none 0 0]
  | 11 => ∃ g gA, a.tmps.getD 5 undef = .pointer (some ⟨g, 0, none⟩) ∧ z ≤ g ∧ Blk w g 45 #[.slice A4 n4 c4, .slice A5 m c5, .slice (some ⟨gA, 0, none⟩) (m + 1) (m + 1)] ∧ z ≤ gA ∧ w.ownsRow z 4 1 (.slice (some ⟨gA, 0, none⟩) (m + 1) (m + 1)) (m + 1) (boCells (List.replicate (m + 1) false))
  | _ => True
theorem badP_false (names : List ByteArray) (rows : List (List Int)) : padB names rows (List.replicate (rows.length + 1) false) = false := by
  unfold padB
  simp
set_option maxHeartbeats 1600000 in
theorem fnPad_walk {w : World} (A : Option Addr) (n c : Nat) (xs : List UInt8) (hl : xs.length = n) (hc : n ≤ c) (hm : c ≤ maxLen) (hx : Reads w w.heap.size 1 A n (byCells xs))
    (RA : Option Addr) (RC : Nat) (hv : w.cell? ⟨0, 0, none⟩ = some (.slice RA 13 RC)) (hr : Reads w w.heap.size 1 RA 13 (stCells resW)) :
    Calls Tryd.prog 9 #[.slice A n c] w fun e w' => e = .returned (.bool true) ∧ Below w.heap.size w w' := by
  obtain ⟨ib, hib, hbz0, hbz1, hbz2⟩ := info_parts infoBool
  by_cases hbig : (1048576 : Int) < (n : Int)
  · clear hx hr
    go_enter Tryd.func9, Tryd.ntmps9
    go_wp2_with fail
    go_ret
    exact ⟨rfl, Below.refl _ _⟩
  · have HD := Lib.hid (drawPad_any A n c xs w hx hl (by omega) hc hm)
    have HV := Lib.hid (fun (w' : World) (hb : Below w.heap.size w w') => alive_yes RA RC w' (below_keep hb hv) ((hr.below hb).more hb.size))
    have HI := Lib.hid (fun (q : Bool) (v : Value) (names : List ByteArray) (rows : List (List Int)) (real : List Bool) (w' : World) (hb : Below w.heap.size w w') => implPad_any q v names rows real RA RC w' (below_keep hb hv) ((hr.below hb).more hb.size))
    clear hx hr hl hv
    go_enter Tryd.func9, Tryd.ntmps9
    go_wp2_with fail
    refine HD.out.mono ?_
    rintro e w1 ⟨nv, rv, bv, names, rows, real, rfl, ho, hd, b1⟩
    obtain ⟨A4, c4, A5, c5, A6, c6, rfl, rfl, rfl⟩ := ho.form
    go_wp2_with fail
    obtain ⟨w4, hw4⟩ : ∃ w4, w4 = w1.alloc (.cells #[.slice A4 names.length c4, .slice A5 rows.length c5, .slice A6 real.length c6] 45) := ⟨_, rfl⟩
    have b4 : Below w1.heap.size w1 w4 := by rw [hw4]; exact (Below.refl _ _).alloc (Nat.le_refl _) _
    have k4 : Blk w4 w1.heap.size 45 #[.slice A4 names.length c4, .slice A5 rows.length c5, .slice A6 real.length c6] := by rw [hw4]; exact Blk.new _ _ _
    have O4 := Lib.hid (ho.below b4).reads
    have B4 := b1.trans (b4.mono b1.size)
    rw [← hw4]
    clear hw4 ho b4 b1 HD
    obtain ⟨q, hq⟩ : ∃ q, padB names rows real = q := ⟨_, rfl⟩
    have I1 := Lib.hid (HI.out q _ names rows real w4 B4 O4.out hd.small hq)
    have S1 := Lib.hid (fun (w' : World) (hb : Below w4.heap.size w4 w') => specPad_any q _ names rows real w' (O4.out.below hb) hd.small hq)
    have K := Lib.hid (fun (w' : World) (hb : Below w4.heap.size w4 w') => And.intro (k4.below hb k4.lt) (O4.out.below hb))
    clear hq
    refine I1.out.mono ?_
    rintro e w5 ⟨rfl, b5⟩
    have d0 := (K.out w5 b5).1.cell 0
    have d1 := (K.out w5 b5).1.cell 1
    have d2 := (K.out w5 b5).1.cell 2
    simp at d0 d1 d2
    have S5 := Lib.hid (S1.out w5 b5)
    have B5 := B4.trans (b5.mono B4.size)
    go_wp2_with fail
    refine S5.out.mono ?_
    rintro e w6 ⟨rfl, b6⟩
    have b46 := b5.trans (b6.mono b5.size)
    have B6 := B5.trans (b6.mono B5.size)
    have hqq : (q != q) = false := by cases q <;> rfl
    obtain ⟨T, hT⟩ : ∃ T, T = w1.heap.size := ⟨_, rfl⟩
    obtain ⟨n4, hn4⟩ : ∃ n4, n4 = names.length := ⟨_, rfl⟩
    obtain ⟨m, hm5⟩ : ∃ m, m = rows.length := ⟨_, rfl⟩
    obtain ⟨l6, hl6⟩ : ∃ l6, l6 = real.length := ⟨_, rfl⟩
    have kT := (K.out w6 b46).1
    have O6 := (K.out w6 b46).2
    rw [← hT, ← hn4, ← hm5, ← hl6] at kT
    rw [← hT, ← hn4, ← hm5, ← hl6]
    clear d0 d1 d2 b5 b6 S5 S1 I1 K B5 k4 O4
    have HT1 := Lib.hid hT
    have HN4 := Lib.hid hn4
    have HM5 := Lib.hid hm5
    have HL6 := Lib.hid hl6
    have hm9 : m ≤ 20 := by have := hd.r1; omega
    clear hT hn4 hm5 hl6
    go_wp2_with fail
    refine wp_region_typed (by kernel_rfl) (fun i => decide (i = 11)) (lawP7 w6.heap.size T n4 c4 m c5 A4 A5) SP7 (fun _ w' => Below w6.heap.size w6 w') (by kernel_rfl) ?_ ?_ ?_ ?_ (by kernel_rfl) ?_
    · intro i j v a u wP wQ hij hna hlv hv hs
      unfold lawP7 at hv ⊢
      split at hv <;> first | exact hv | skip
      · obtain ⟨g, e, hz, ho⟩ := hv
        exact ⟨g, e, hz, own_block ho (fun g' hg => SP7.other hs (ho.lt g' hg).2 (fun cs hb => own_blk_ne ho hb (by decide) hg))⟩
      · obtain ⟨g, e, hz, ho⟩ := hv
        exact ⟨g, e, hz, own_block ho (fun g' hg => SP7.other hs (ho.lt g' hg).2 (fun cs hb => own_blk_ne ho hb (by decide) hg))⟩
      · obtain ⟨g, e, hz, hb⟩ := hv
        by_cases h11 : j = 11
        · subst h11
          exact absurd hlv (by rw [show (decide (10 = 11) || liveB _ 11 10) = false by kernel_rfl]; simp)
        · exact ⟨g, e, hz, ((hs.2 g hb.lt).2 h11).trans hb⟩
      · by_cases hj : j < 11
        · exfalso
          match j, hj with
          | 0, _ => exact absurd rfl (hna _ rfl ⟨0, .phase⟩ (by simp) rfl)
          | 1, _ => exact absurd rfl (hna _ rfl ⟨1, .phase⟩ (by simp) rfl)
          | 2, _ => exact absurd rfl (hna _ rfl ⟨2, .phase⟩ (by simp) rfl)
          | 3, _ => exact absurd rfl (hna _ rfl ⟨3, .phase⟩ (by simp) rfl)
          | 4, _ => exact absurd rfl (hna _ rfl ⟨4, .phase⟩ (by simp) rfl)
          | 5, _ => exact absurd rfl (hna _ rfl ⟨5, .phase⟩ (by simp) rfl)
          | 6, _ => exact absurd rfl (hna _ rfl ⟨6, .phase⟩ (by simp) rfl)
          | 7, _ => exact absurd rfl (hna _ rfl ⟨7, .phase⟩ (by simp) rfl)
          | 8, _ => exact absurd rfl (hna _ rfl ⟨8, .phase⟩ (by simp) rfl)
          | 9, _ => exact absurd rfl (hna _ rfl ⟨9, .phase⟩ (by simp) rfl)
          | 10, _ => exact absurd rfl (hna _ rfl ⟨10, .phase⟩ (by simp) rfl)
        · have h16 : 12 ≤ j := by omega
          obtain ⟨g, gA, e, hz, hb, hgA, ho⟩ := hv
          rw [dst_none (n := 12) ?hs16 h16]
          case hs16 => kernel_rfl
          have sm : ∀ k, k < wP.heap.size → wQ.heap[k]? = wP.heap[k]? := fun k hk => (hs.2 k hk).2 (by omega)
          exact ⟨g, gA, e, hz, (sm g hb.lt).trans hb, hgA, own_block ho (fun g' hg => sm g' (ho.lt g' hg).2)⟩
    · exact dst_lt (n := 33) (by kernel_rfl)
    · exact (Below.refl _ _).drew
    · refine ok_all ⟨?_, ?_, ?_, ?_, ?_, ?_, ?_, ?_, ?_, ?_, ?_, ?_, trivial⟩
      · refine ok_valueS (fun w => SP7.refl w (by decide)) (fun f w h => h) (fun f listed a w' hl hc hs hr hh => ⟨.pointer (some ⟨T, 0, none⟩), ?_, rfl⟩)
        have h0 : a.tmps.getD 3 undef = .pointer (some ⟨T, 0, none⟩) := hr 3 (not_dst (by kernel_rfl))
        simp [execOp, Act.eval, h0, field45 T w' 0 (by decide)]
      · refine ok_readS (fun w => SP7.refl w (by decide)) (fun f w h => h) rfl (fun w => by simp [go_sem]) (fun f listed a w' hl hc hs hr hh => ?_)
        obtain ⟨_, rfl, h1⟩ := hh ⟨0, .data⟩ (by simp) rfl
        have h1 := h1 17 rfl
        exact ⟨_, _, h1, (kT.below hc kT.lt).cell 0, rfl⟩
      · refine ok_valueS (fun w => SP7.refl w (by decide)) (fun f w h => h) (fun f listed a w' hl hc hs hr hh => ⟨.pointer (some ⟨T, 1, none⟩), ?_, rfl⟩)
        have h0 : a.tmps.getD 3 undef = .pointer (some ⟨T, 0, none⟩) := hr 3 (not_dst (by kernel_rfl))
        simp [execOp, Act.eval, h0, field45 T w' 1 (by decide)]
      · refine ok_readS (fun w => SP7.refl w (by decide)) (fun f w h => h) rfl (fun w => by simp [go_sem]) (fun f listed a w' hl hc hs hr hh => ?_)
        obtain ⟨_, rfl, h1⟩ := hh ⟨2, .data⟩ (by simp) rfl
        have h1 := h1 19 rfl
        exact ⟨_, _, h1, (kT.below hc kT.lt).cell 1, rfl⟩
      · refine ok_valueS (fun w => SP7.refl w (by decide)) (fun f w h => h) (fun f listed a w' hl hc hs hr hh => ⟨.pointer (some ⟨T, 1, none⟩), ?_, rfl⟩)
        have h0 : a.tmps.getD 3 undef = .pointer (some ⟨T, 0, none⟩) := hr 3 (not_dst (by kernel_rfl))
        simp [execOp, Act.eval, h0, field45 T w' 1 (by decide)]
      · refine ok_readS (fun w => SP7.refl w (by decide)) (fun f w h => h) rfl (fun w => by simp [go_sem]) (fun f listed a w' hl hc hs hr hh => ?_)
        obtain ⟨_, rfl, h1⟩ := hh ⟨4, .data⟩ (by simp) rfl
        have h1 := h1 21 rfl
        exact ⟨_, _, h1, (kT.below hc kT.lt).cell 1, rfl⟩
      · refine ok_valueS (fun w => SP7.refl w (by decide)) (fun f w h => h) (fun f listed a w' hl hc hs hr hh => ⟨.int .i64 (m : Int), ?_, rfl⟩)
        obtain ⟨_, rfl, h1⟩ := hh ⟨5, .data⟩ (by simp) rfl
        have h1 := h1 22 rfl
        simp [execOp, go_sem, Act.eval, h1]
      · refine ok_valueS (fun w => SP7.refl w (by decide)) (fun f w h => h) (fun f listed a w' hl hc hs hr hh => ⟨.int .i64 ((m + 1 : Nat) : Int), ?_, rfl⟩)
        obtain ⟨_, rfl, h1⟩ := hh ⟨6, .data⟩ (by simp) rfl
        have h1 := h1 23 rfl
        have e1 : IntKind.i64.wrap ((m : Int) + 1) = (m : Int) + 1 := IntWalk.i64_in _ (by omega)
        simp [execOp, go_sem, Act.eval, h1, e1]
      · intro f listed a w' hl hc hs hr hh
        obtain ⟨_, rfl, h1⟩ := hh ⟨7, .data⟩ (by simp) rfl
        have h1 := h1 24 rfl
        have hz := hc.size
        obtain ⟨wm, hrun, r1, r2⟩ := run_make_full (P := Tryd.prog) w' w6.heap.size 43 4 ib _ 1 Tryd.underlying43 hib hbz0 hbz1 .i64 .i64 (m + 1) (by rw [hbz2]; omega) (by unfold maxLen; omega) (by omega)
        have hb := grown_none_below r2
        have e0 : (madeCells (Value.bool false).cells ((m + 1) * 1)).toList = boCells (List.replicate (m + 1) false) := by
          rw [Nat.mul_one]
          exact (toList_madeCells_one _ _).trans (by simp [boCells])
        rw [e0] at r1
        have hx : a.eval (.tmp 24) = .int .i64 ((m + 1 : Nat) : Int) := h1
        unfold Oper.wp
        simp only [execOp, hx, Sem.run_bind, hrun, Result.andThen_ok, Sem.run_pure]
        refine ⟨_, rfl, ⟨w'.heap.size, rfl, by omega, r1⟩, SP7.below hb (by decide), hc.trans (hb.mono hc.size)⟩
      · refine ok_valueS (fun w => SP7.refl w (by decide)) (fun f w h => h) (fun f listed a w' hl hc hs hr hh => ?_)
        obtain ⟨_, rfl, h1⟩ := hh ⟨1, .data⟩ (by simp) rfl
        have h1 := h1 18 rfl
        obtain ⟨_, rfl, h2⟩ := hh ⟨3, .data⟩ (by simp) rfl
        have h2 := h2 20 rfl
        obtain ⟨_, ⟨gA, rfl, hgA, ho'⟩, h3⟩ := hh ⟨8, .data⟩ (by simp) rfl
        have h3 := h3 25 rfl
        refine ⟨.agg #[.slice A4 n4 c4, .slice A5 m c5, .slice (some ⟨gA, 0, none⟩) (m + 1) (m + 1)], ?_, ⟨gA, rfl, hgA, ho'⟩⟩
        have h1' : a.tmps[18]?.getD undef = .slice A4 n4 c4 := by simpa using h1
        have h2' : a.tmps[20]?.getD undef = .slice A5 m c5 := by simpa using h2
        have h3' : a.tmps[25]?.getD undef = .slice (some ⟨gA, 0, none⟩) (m + 1) (m + 1) := by simpa using h3
        simp [execOp, go_sem, Act.eval, h1', h2', h3']
      · intro f listed a w' hl hc hs hr hh
        have hz := hc.size
        unfold Oper.wp
        simp [execOp, go_sem, Oper.upon]
        refine ⟨_, rfl, ⟨w'.heap.size, rfl, hz, Blk.new w' 45 #[.slice none 0 0, .slice none 0 0, .slice none 0 0]⟩, SP7.alloc w' _ (by decide), hc.alloc hz _⟩
      · intro f listed a w' hl hc hs hr hh
        obtain ⟨_, ⟨g, rfl, hgz, hgb⟩, h1⟩ := hh ⟨10, .data⟩ (by simp) rfl
        have h1 := h1 5 rfl
        obtain ⟨_, ⟨gA, rfl, hgA, ho'⟩, h2⟩ := hh ⟨9, .data⟩ (by simp) rfl
        have h2 := h2 26 rfl
        have y0 := hgb.cell 0
        have y1 := hgb.cell 1
        have y2 := hgb.cell 2
        have f0 := hgb.frozen 0
        have f1 := hgb.frozen 1
        have f2 := hgb.frozen 2
        simp at y0 y1 y2
        have hk := put3_far w' g (.slice A4 n4 c4) (.slice A5 m c5) (.slice (some ⟨gA, 0, none⟩) (m + 1) (m + 1))
        have hb' := put3_blk hgb (.slice A4 n4 c4) (.slice A5 m c5) (.slice (some ⟨gA, 0, none⟩) (m + 1) (m + 1))
        have h1' : a.tmps[5]?.getD undef = .pointer (some ⟨g, 0, none⟩) := by simpa using h1
        have h2' : a.tmps[26]?.getD undef = .agg #[.slice A4 n4 c4, .slice A5 m c5, .slice (some ⟨gA, 0, none⟩) (m + 1) (m + 1)] := by simpa using h2
        unfold Oper.wp
        simp [execOp, h1', h2', go_sem, y0, y1, y2, f0, f1, f2, run_store, storeCells, Oper.upon]
        unfold put3 at hk hb'
        refine ⟨⟨undef, g, gA, h1, hgz, hb', hgA, own_off_blk ho' hgb (by decide) hk⟩, SP7.eleven (by simp [World.setCell]) (fun k hkl hcs => hk k hkl (fun e => hcs _ (e ▸ hgb))), ((hc.setCell (show w6.heap.size ≤ g from hgz) _).setCell (show w6.heap.size ≤ g from hgz) _).setCell (show w6.heap.size ≤ g from hgz) _⟩
    · intro a w7 hs hd' hr' hh hc'
      obtain ⟨_, ⟨g, gA, e5, hgz, hgb, hgA, hoA⟩, -⟩ := hh 11 (by decide) rfl
      have e0 : a.tmps.getD 0 undef = .slice A n c := hr' 0 (not_dst (by kernel_rfl))
      have e2 : a.tmps.getD 2 undef = .bool false := hr' 2 (not_dst (by kernel_rfl))
      have e3 : a.tmps.getD 3 undef = .pointer (some ⟨T, 0, none⟩) := hr' 3 (not_dst (by kernel_rfl))
      have e4 : a.tmps.getD 4 undef = .bool q := hr' 4 (not_dst (by kernel_rfl))
      have ea : a = ⟨#[a.tmps.getD 0 undef, a.tmps.getD 1 undef, a.tmps.getD 2 undef, a.tmps.getD 3 undef, a.tmps.getD 4 undef, a.tmps.getD 5 undef, a.tmps.getD 6 undef, a.tmps.getD 7 undef, a.tmps.getD 8 undef, a.tmps.getD 9 undef, a.tmps.getD 10 undef, a.tmps.getD 11 undef, a.tmps.getD 12 undef, a.tmps.getD 13 undef, a.tmps.getD 14 undef, a.tmps.getD 15 undef, a.tmps.getD 16 undef, a.tmps.getD 17 undef, a.tmps.getD 18 undef, a.tmps.getD 19 undef, a.tmps.getD 20 undef, a.tmps.getD 21 undef, a.tmps.getD 22 undef, a.tmps.getD 23 undef, a.tmps.getD 24 undef, a.tmps.getD 25 undef, a.tmps.getD 26 undef, a.tmps.getD 27 undef, a.tmps.getD 28 undef, a.tmps.getD 29 undef, a.tmps.getD 30 undef, a.tmps.getD 31 undef, a.tmps.getD 32 undef], []⟩ := act_lit 33 hs hd'
      rw [e0, e2, e3, e4, e5] at ea
      obtain ⟨U, hU⟩ : ∃ U : Nat → Value, ∀ i, a.tmps.getD i undef = U i := ⟨_, fun _ => rfl⟩
      simp only [hU] at ea
      clear hs hd' hr' hh hU e0 e2 e3 e4 e5
      subst ea
      have B7 := B6.trans (hc'.mono B6.size)
      have TB : PadR w7 (.agg #[.slice A4 n4 c4, .slice A5 m c5, .slice (some ⟨gA, 0, none⟩) (m + 1) (m + 1)]) names rows (List.replicate (rows.length + 1) false) := by
        obtain ⟨A', c', B', d', C', f', e, hc, hx, hy, hz⟩ := O6.below hc'
        simp only [Value.agg.injEq] at e
        have e1 := congrArg (fun a => a[0]?) e
        have e2 := congrArg (fun a => a[1]?) e
        simp at e1 e2
        obtain ⟨rfl, rfl⟩ := e1
        obtain ⟨rfl, rfl⟩ := e2
        exact ⟨A4, c4, A5, c5, some ⟨gA, 0, none⟩, m + 1, by rw [HN4.out, HM5.out, List.length_replicate], hc, hx, hy, by rw [List.length_replicate, ← HM5.out]; exact Reads.of_own hoA⟩
      have SB : SmallP names rows (List.replicate (rows.length + 1) false) := ⟨hd.small.t, by rw [List.length_replicate]; have := hd.r1; omega⟩
      have I8 := Lib.hid (HI.out false _ names rows _ w7 B7 TB SB (badP_false names rows))
      have AL := Lib.hid (fun (w' : World) (hb : Below w7.heap.size w7 w') => HV.out w' (B7.trans (hb.mono B7.size)))
      have x0 := hgb.cell 0
      have x1 := hgb.cell 1
      have x2 := hgb.cell 2
      simp at x0 x1 x2
      have HB7 := Lib.hid B7
      clear hgz hgb hgA hoA kT B7 TB SB hc' O6 B6 b46 hib hbz0 hbz1 hbz2
      go_wp2_with fail
      refine I8.out.mono ?_
      rintro e w8 ⟨rfl, b8⟩
      have AL8 := Lib.hid (AL.out w8 b8)
      have HB8 := Lib.hid (HB7.out.trans (b8.mono HB7.out.size))
      clear b8 x0 x1 x2
      go_wp2_with fail
      refine AL8.out.mono ?_
      rintro e w' ⟨rfl, rfl⟩
      go_wp2_with fail
      go_ret
      exact ⟨rfl, HB8.out⟩
end Go.Proofs.YtcgmcikceohdoaaDoor
