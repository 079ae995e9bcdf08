/- spec.DrawPaddedValid, spec.DrawRealRows; laws.FnRealRows: the walk. -/
import Derived.Test.YtcgmcikceohdoaaDoorDrawPadC
import Derived.Test.YtcgmcikceohdoaaDoorFnTable
namespace Go.Proofs.YtcgmcikceohdoaaDoor
open Go Go.RowKit
set_option maxRecDepth 100000

/-- What a drawing of a padded table leaves. -/
def DrewPad (w : World) (e : Ending) (w' : World) : Prop := ∃ (nv rv bv : Value) (names : List ByteArray) (rows : List (List Int)) (real : List Bool), e = .returned (.agg #[nv, rv, bv]) ∧ PadO w' w.heap.size (.agg #[nv, rv, bv]) names rows real ∧ DrawnP names rows real ∧ Below w.heap.size w w'
theorem DrawnP.small {names : List ByteArray} {rows : List (List Int)} {real : List Bool} (h : DrawnP names rows real) : SmallP names rows real :=
  ⟨⟨by have := h.n1; omega, fun x hx => by have := h.n2 x hx; omega, by have := h.r1; omega, fun r hr => by have := h.r2 r hr; omega⟩, by have := h.b1; omega⟩
set_option maxHeartbeats 800000 in
theorem drawPad_any (A : Option Addr) (n c : Nat) (xs : List UInt8) (w : World) (hx : Reads w w.heap.size 1 A n (byCells xs)) (hl : xs.length = n) (hn : n ≤ 1048576) (hc : n ≤ c) (hc2 : c ≤ maxLen) :
    Calls Tryd.prog 28 #[.slice A n c] w (DrewPad w) := by
  have HO := Lib.hid (fun (w' : World) (hb : Below w.heap.size w w') => open_c A n c xs w' ((hx.below hb).more hb.size) hl hn hc hc2)
  clear hx hl
  go_enter Tryd.func28, Tryd.ntmps28
  go_wp2_with fail
  obtain ⟨w0, hw0⟩ : ∃ w0, w0 = w.alloc (.cells #[.slice none 0 0, .slice none 0 0, .slice none 0 0] 45) := ⟨_, rfl⟩
  have b0 : Below w.heap.size w w0 := by rw [hw0]; exact (Below.refl _ _).alloc (Nat.le_refl _) _
  have k0 : Blk w0 w.heap.size 45 #[.slice none 0 0, .slice none 0 0, .slice none 0 0] := by rw [hw0]; exact Blk.new _ _ _
  rw [← hw0]
  clear hw0
  refine (HO.out w0 b0).mono ?_
  rintro e w1 ⟨rfl, r1, b1, -⟩
  have hk0 := k0.lt
  have k1 := k0.below b1 hk0
  have B1 := b0.trans (b1.mono b0.size)
  go_wp2_with fail
  refine (pick_c _ 50000 3 _ (r1.less (by omega)) (by omega)).mono ?_
  rintro e w2 ⟨x, rfl, hx, r2, t2, -⟩
  go_wp2_with fail
  refine (pad_c _ 10 x 9 2 _ (r2.less (by omega)) (by omega) (by omega) (by omega)).mono ?_
  rintro e w3 ⟨nv, rv, bv, names, rows, real, rfl, ho, hd, r3, t3⟩
  have k3 := t3.blk (t2.blk k1 (by omega)) (by omega)
  have hsz : w.heap.size ≤ w2.heap.size := Nat.le_trans B1.size t2.size
  have B3 := (t2.trans t3).below B1 (by omega)
  obtain ⟨D1, D2, D3⟩ := ho.pair k3
  have B4 := D3.below B3 (Nat.le_refl _)
  obtain ⟨A4, c4, A5, c5, A6, c6, rfl, rfl, rfl⟩ := ho.form
  have y0 := k3.cell 0
  have y1 := k3.cell 1
  have y2 := k3.cell 2
  have f0 := k3.frozen 0
  have f1 := k3.frozen 1
  have f2 := k3.frozen 2
  have z0 := D2.cell 0
  have z1 := D2.cell 1
  have z2 := D2.cell 2
  unfold put3 at D1 B4 z0 z1 z2
  simp at y0 y1 y2 z0 z1 z2
  have P := Lib.hid (And.intro D1 B4)
  have Z := Lib.hid (And.intro z0 (And.intro z1 z2))
  clear k0 k1 k3 D1 D2 D3 B4 B3 t2 t3 r2 r3 ho b0 b1 B1 r1 HO z0 z1 z2
  go_wp2_with fail
  have hz := Z.out
  have hp := P.out
  clear y0 y1 y2 f0 f1 f2 Z P
  generalize (World.setCell (World.setCell (World.setCell _ ⟨w.heap.size, 0, none⟩ _) ⟨w.heap.size, 1, none⟩ _) ⟨w.heap.size, 2, none⟩ _) = wZ at hz hp ⊢
  exact bodyPost_ret (v := .agg #[_, _, _]) (by simp [results, Tryd.results28, go_sem, hz.1, hz.2.1, hz.2.2]) rfl ⟨_, _, _, names, rows, real, rfl, hp.1.low hsz, hd, hp.2⟩
set_option maxHeartbeats 800000 in
theorem drawReal_any (A : Option Addr) (n c : Nat) (xs : List UInt8) (w : World) (hx : Reads w w.heap.size 1 A n (byCells xs)) (hl : xs.length = n) (hn : n ≤ 1048576) (hc : n ≤ c) (hc2 : c ≤ maxLen) :
    Calls Tryd.prog 34 #[.slice A n c] w (DrewPad w) := by
  have HO := Lib.hid (fun (w' : World) (hb : Below w.heap.size w w') => open_c A n c xs w' ((hx.below hb).more hb.size) hl hn hc hc2)
  clear hx hl
  go_enter Tryd.func34, Tryd.ntmps34
  go_wp2_with fail
  obtain ⟨w0, hw0⟩ : ∃ w0, w0 = w.alloc (.cells #[.slice none 0 0, .slice none 0 0, .slice none 0 0] 45) := ⟨_, rfl⟩
  have b0 : Below w.heap.size w w0 := by rw [hw0]; exact (Below.refl _ _).alloc (Nat.le_refl _) _
  have k0 : Blk w0 w.heap.size 45 #[.slice none 0 0, .slice none 0 0, .slice none 0 0] := by rw [hw0]; exact Blk.new _ _ _
  rw [← hw0]
  clear hw0
  refine (HO.out w0 b0).mono ?_
  rintro e w1 ⟨rfl, r1, b1, -⟩
  have hk0 := k0.lt
  have k1 := k0.below b1 hk0
  have B1 := b0.trans (b1.mono b0.size)
  go_wp2_with fail
  refine (pad_c _ 10 0 12 9 _ (r1.less (by omega)) (by omega) (by omega) (by omega)).mono ?_
  rintro e w3 ⟨nv, rv, bv, names, rows, real, rfl, ho, hd, r3, t3⟩
  have k3 := t3.blk k1 (by omega)
  have hsz : w.heap.size ≤ w1.heap.size := B1.size
  have B3 := t3.below B1 (by omega)
  obtain ⟨D1, D2, D3⟩ := ho.pair k3
  have B4 := D3.below B3 (Nat.le_refl _)
  obtain ⟨A4, c4, A5, c5, A6, c6, rfl, rfl, rfl⟩ := ho.form
  have y0 := k3.cell 0
  have y1 := k3.cell 1
  have y2 := k3.cell 2
  have f0 := k3.frozen 0
  have f1 := k3.frozen 1
  have f2 := k3.frozen 2
  have z0 := D2.cell 0
  have z1 := D2.cell 1
  have z2 := D2.cell 2
  unfold put3 at D1 B4 z0 z1 z2
  simp at y0 y1 y2 z0 z1 z2
  have P := Lib.hid (And.intro D1 B4)
  have Z := Lib.hid (And.intro z0 (And.intro z1 z2))
  clear k0 k1 k3 D1 D2 D3 B4 B3 t3 r3 ho b0 b1 B1 r1 HO z0 z1 z2
  go_wp2_with fail
  have hz := Z.out
  have hp := P.out
  clear y0 y1 y2 f0 f1 f2 Z P
  generalize (World.setCell (World.setCell (World.setCell _ ⟨w.heap.size, 0, none⟩ _) ⟨w.heap.size, 1, none⟩ _) ⟨w.heap.size, 2, none⟩ _) = wZ at hz hp ⊢
  exact bodyPost_ret (v := .agg #[_, _, _]) (by simp [results, Tryd.results34, go_sem, hz.1, hz.2.1, hz.2.2]) rfl ⟨_, _, _, names, rows, real, rfl, hp.1.low hsz, hd, hp.2⟩
set_option maxHeartbeats 1600000 in
theorem fnReal_walk {w : World} (A : Option Addr) (n c : Nat) (xs : List UInt8) (hl : xs.length = n) (hc : n ≤ c) (hm : c ≤ maxLen) (hx : Reads w w.heap.size 1 A n (byCells xs))
    (RA : Option Addr) (RC : Nat) (hv : w.cell? ⟨0, 0, none⟩ = some (.slice RA 13 RC)) (hr : Reads w w.heap.size 1 RA 13 (stCells resW)) :
    Calls Tryd.prog 11 #[.slice A n c] w fun e w' => e = .returned (.bool true) ∧ Below w.heap.size w w' := by
  by_cases hbig : (1048576 : Int) < (n : Int)
  · clear hx hr
    go_enter Tryd.func11, Tryd.ntmps11
    go_wp2_with fail
    go_ret
    exact ⟨rfl, Below.refl _ _⟩
  · have HD := Lib.hid (drawReal_any A n c xs w hx hl (by omega) hc hm)
    have HV := Lib.hid (fun (w' : World) (hb : Below w.heap.size w w') => alive_yes RA RC w' (below_keep hb hv) ((hr.below hb).more hb.size))
    have HI := Lib.hid (fun (q : Bool) (v : Value) (names : List ByteArray) (rows : List (List Int)) (real : List Bool) (w' : World) (hb : Below w.heap.size w w') => implReal_any q v names rows real RA RC w' (below_keep hb hv) ((hr.below hb).more hb.size))
    clear hx hr hl hv
    go_enter Tryd.func11, Tryd.ntmps11
    go_wp2_with fail
    refine HD.out.mono ?_
    rintro e w1 ⟨nv, rv, bv, names, rows, real, rfl, ho, hd, b1⟩
    obtain ⟨A4, c4, A5, c5, A6, c6, rfl, rfl, rfl⟩ := ho.form
    go_wp2_with fail
    obtain ⟨w4, hw4⟩ : ∃ w4, w4 = w1.alloc (.cells #[.slice A4 names.length c4, .slice A5 rows.length c5, .slice A6 real.length c6] 45) := ⟨_, rfl⟩
    have b4 : Below w1.heap.size w1 w4 := by rw [hw4]; exact (Below.refl _ _).alloc (Nat.le_refl _) _
    have k4 : Blk w4 w1.heap.size 45 #[.slice A4 names.length c4, .slice A5 rows.length c5, .slice A6 real.length c6] := by rw [hw4]; exact Blk.new _ _ _
    have O4 := Lib.hid (ho.below b4).reads
    have B4 := b1.trans (b4.mono b1.size)
    rw [← hw4]
    clear hw4 ho b4 b1 HD
    obtain ⟨q, hq⟩ : ∃ q, padB names rows real = q := ⟨_, rfl⟩
    have I1 := Lib.hid (HI.out q _ names rows real w4 B4 O4.out hd.small hq)
    have S1 := Lib.hid (fun (w' : World) (hb : Below w4.heap.size w4 w') => specReal_any q _ names rows real w' (O4.out.below hb) hd.small hq)
    obtain ⟨r, hr⟩ : ∃ r : Int, r = (if q = true then (cntB real : Int) else -1) := ⟨_, rfl⟩
    have hr' : r = -1 ∨ ∃ k : Nat, r = (k : Int) ∧ k ≤ rows.length := by
      rw [hr]
      by_cases hqt : q = true
      · rw [if_pos hqt]
        refine .inr ⟨_, rfl, ?_⟩
        rw [hqt] at hq
        unfold padB at hq
        simp only [Bool.and_eq_true, decide_eq_true_eq] at hq
        have := cnt_le real
        omega
      · rw [if_neg hqt]; exact .inl rfl
    rw [← hr] at I1 S1
    clear hr
    have HR' := Lib.hid hr'
    clear hr' hq
    have K := Lib.hid (fun (w' : World) (hb : Below w4.heap.size w4 w') => k4.below hb k4.lt)
    refine I1.out.mono ?_
    rintro e w5 ⟨rfl, b5⟩
    have d0 := (K.out w5 b5).cell 0
    have d1 := (K.out w5 b5).cell 1
    have d2 := (K.out w5 b5).cell 2
    simp at d0 d1 d2
    have S5 := Lib.hid (S1.out w5 b5)
    have B5 := B4.trans (b5.mono B4.size)
    go_wp2_with fail
    refine S5.out.mono ?_
    rintro e w6 ⟨rfl, b6⟩
    have b46 := b5.trans (b6.mono b5.size)
    have B6 := B5.trans (b6.mono B5.size)
    have e0 := (K.out w6 b46).cell 0
    have e1 := (K.out w6 b46).cell 1
    have e2 := (K.out w6 b46).cell 2
    simp at e0 e1 e2
    have AL := Lib.hid (HV.out w6 B6)
    clear d0 d1 d2 b5 b6 b46 S5 S1 I1 K B5 k4 B4
    rcases HR'.out with h | ⟨k, h1, h2⟩
    · subst h
      go_wp2_with fail
      refine AL.out.mono ?_
      rintro e w' ⟨rfl, rfl⟩
      go_wp2_with fail
      go_ret
      exact ⟨rfl, B6⟩
    · subst h1
      have hk0 : (0 : Int) ≤ (k : Int) := Int.natCast_nonneg _
      have hk1 : (k : Int) ≤ (rows.length : Int) := by omega
      go_wp2_with fail
      go_ret
      exact ⟨rfl, B6⟩
end Go.Proofs.YtcgmcikceohdoaaDoor
