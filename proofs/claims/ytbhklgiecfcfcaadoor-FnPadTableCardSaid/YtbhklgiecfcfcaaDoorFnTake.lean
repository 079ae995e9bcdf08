/- spec.DrawTakeReal; laws.FnTakeReal: the walk. -/
import Derived.Test.YtbhklgiecfcfcaaDoorDrawPadC
import Derived.Test.YtbhklgiecfcfcaaDoorFnTable
import Derived.Test.YtbhklgiecfcfcaaDoorTake
import Derived.Test.YtbhklgiecfcfcaaDoorPadT
import Derived.Test.YtbhklgiecfcfcaaDoorSameT
namespace Go.Proofs.YtbhklgiecfcfcaaDoor
open Go Go.RowKit
set_option maxRecDepth 100000

/-- What a drawing of a padded table leaves. -/
def DrewPad (w : World) (e : Ending) (w' : World) : Prop := ∃ (nv rv bv : Value) (names : List ByteArray) (rows : List (List Int)) (real : List Bool), e = .returned (.agg #[nv, rv, bv]) ∧ PadO w' w.heap.size (.agg #[nv, rv, bv]) names rows real ∧ DrawnP names rows real ∧ Below w.heap.size w w'
theorem DrawnP.small {names : List ByteArray} {rows : List (List Int)} {real : List Bool} (h : DrawnP names rows real) : SmallP names rows real :=
  ⟨⟨by have := h.n1; omega, fun x hx => by have := h.n2 x hx; omega, by have := h.r1; omega, fun r hr => by have := h.r2 r hr; omega⟩, by have := h.b1; omega⟩
set_option maxHeartbeats 800000 in
theorem drawTake_any (A : Option Addr) (n c : Nat) (xs : List UInt8) (w : World) (hx : Reads w w.heap.size 1 A n (byCells xs)) (hl : xs.length = n) (hn : n ≤ 1048576) (hc : n ≤ c) (hc2 : c ≤ maxLen) :
    Calls Tryd.prog 12 #[.slice A n c] w (DrewPad w) := by
  have HO := Lib.hid (fun (w' : World) (hb : Below w.heap.size w w') => open_c A n c xs w' ((hx.below hb).more hb.size) hl hn hc hc2)
  clear hx hl
  go_enter Tryd.func12, Tryd.ntmps12
  go_wp2_with fail
  obtain ⟨w0, hw0⟩ : ∃ w0, w0 = w.alloc (.cells #[.slice none 0 0, .slice none 0 0, .slice none 0 0] 37) := ⟨_, rfl⟩
  have b0 : Below w.heap.size w w0 := by rw [hw0]; exact (Below.refl _ _).alloc (Nat.le_refl _) _
  have k0 : Blk w0 w.heap.size 37 #[.slice none 0 0, .slice none 0 0, .slice none 0 0] := by rw [hw0]; exact Blk.new _ _ _
  rw [← hw0]
  clear hw0
  refine (HO.out w0 b0).mono ?_
  rintro e w1 ⟨rfl, r1, b1, -⟩
  have hk0 := k0.lt
  have k1 := k0.below b1 hk0
  have B1 := b0.trans (b1.mono b0.size)
  go_wp2_with fail
  refine (pad_c _ 10 0 30 9 _ (r1.less (by omega)) (by omega) (by omega) (by omega)).mono ?_
  rintro e w3 ⟨nv, rv, bv, names, rows, real, rfl, ho, hd, r3, t3⟩
  have k3 := t3.blk k1 (by omega)
  have hsz : w.heap.size ≤ w1.heap.size := B1.size
  have B3 := t3.below B1 (by omega)
  obtain ⟨D1, D2, D3⟩ := ho.pair k3
  have B4 := D3.below B3 (Nat.le_refl _)
  obtain ⟨A4, c4, A5, c5, A6, c6, rfl, rfl, rfl⟩ := ho.form
  have y0 := k3.cell 0
  have y1 := k3.cell 1
  have y2 := k3.cell 2
  have f0 := k3.frozen 0
  have f1 := k3.frozen 1
  have f2 := k3.frozen 2
  have z0 := D2.cell 0
  have z1 := D2.cell 1
  have z2 := D2.cell 2
  unfold put3 at D1 B4 z0 z1 z2
  simp at y0 y1 y2 z0 z1 z2
  have P := Lib.hid (And.intro D1 B4)
  have Z := Lib.hid (And.intro z0 (And.intro z1 z2))
  clear k0 k1 k3 D1 D2 D3 B4 B3 t3 r3 ho b0 b1 B1 r1 HO z0 z1 z2
  go_wp2_with fail
  have hz := Z.out
  have hp := P.out
  clear y0 y1 y2 f0 f1 f2 Z P
  generalize (World.setCell (World.setCell (World.setCell _ ⟨w.heap.size, 0, none⟩ _) ⟨w.heap.size, 1, none⟩ _) ⟨w.heap.size, 2, none⟩ _) = wZ at hz hp ⊢
  exact bodyPost_ret (v := .agg #[_, _, _]) (by simp [results, Tryd.results12, go_sem, hz.1, hz.2.1, hz.2.2]) rfl ⟨_, _, _, _, _, _, rfl, hp.1.low hsz, hd, hp.2⟩
theorem padRows_self (n : Nat) (rows : List (List Int)) : padRows n rows rows.length = rows := by
  refine List.ext_getElem (by rw [padRows_length]) fun i h1 h2 => ?_
  simp [padRows, h2]
theorem padReal_self (m : Nat) : padReal m m = List.replicate m true := by
  refine List.ext_getElem (by rw [padReal_length, List.length_replicate]) fun i h1 h2 => ?_
  rw [padReal_length] at h1
  simp [padReal, h1]
/-- What is taken is a valid table; padded again to its number all its rows are real. -/
theorem take_again {names : List ByteArray} {rows : List (List Int)} {real : List Bool} (h : takB names rows real = true) :
    (realR rows real).length = cntB real ∧ PtIs names (realR rows real) (((realR rows real).length : Nat) : Int) true names (realR rows real) (List.replicate (realR rows real).length true) ∧ padB names (realR rows real) (List.replicate (realR rows real).length true) = true ∧ cntB (List.replicate (realR rows real).length true) = (realR rows real).length ∧ padB names rows real = true := by
  simp only [takB, Bool.and_eq_true, decide_eq_true_eq] at h
  obtain ⟨h1, h2⟩ := h
  have hl := padB_len h1
  have hc := realR_count rows real hl
  have hp := h1
  simp only [padB, Bool.and_eq_true, decide_eq_true_eq] at h1
  obtain ⟨a1, a2, _, a4, _⟩ := h1
  have hr : rowsB names.length (realR rows real) = true := by
    unfold rowsB at a4 ⊢
    rw [List.all_eq_true] at a4 ⊢
    exact fun r hr => a4 r (realR_mem _ _ r hr)
  have ht : tableB names (realR rows real) = true := by
    unfold tableB
    simp only [Bool.and_eq_true, decide_eq_true_eq]
    exact ⟨a1, by omega, hr⟩
  have hb : ptB names (realR rows real) (((realR rows real).length : Nat) : Int) = true := by
    unfold ptB
    rw [ht, inB_mk (by omega)]
    rfl
  refine ⟨hc, ⟨hb, by rw [hb]; rfl, ?_, ?_⟩, ?_, by simp [cntB], hp⟩
  · rw [hb]
    simp only [if_true, Int.toNat_natCast]
    exact (padRows_self _ _).symm
  · rw [hb]
    simp only [if_true, Int.toNat_natCast]
    exact (padReal_self _).symm
  · unfold padB
    simp only [Bool.and_eq_true, decide_eq_true_eq]
    refine ⟨a1, by omega, by simp, hr, ?_⟩
    rw [List.all_eq_true]
    intro k hk
    rw [List.mem_range] at hk
    rw [blankAt_some (r := (realR rows real)[k]) (b := true) (List.getElem?_eq_getElem hk) (by simp [hk])]
    rfl
set_option maxHeartbeats 3200000 in
theorem fnTake_walk {w : World} (A : Option Addr) (n c : Nat) (xs : List UInt8) (hl : xs.length = n) (hc : n ≤ c) (hm : c ≤ maxLen) (hx : Reads w w.heap.size 1 A n (byCells xs))
    (RA : Option Addr) (RC : Nat) (hv : w.cell? ⟨0, 0, none⟩ = some (.slice RA 13 RC)) (hr : Reads w w.heap.size 1 RA 13 (stCells resW)) :
    Calls Tryd.prog 4 #[.slice A n c] w fun e w' => e = .returned (.bool true) ∧ Below w.heap.size w w' := by
  by_cases hbig : (1048576 : Int) < (n : Int)
  · clear hx hr
    go_enter Tryd.func4, Tryd.ntmps4
    go_wp2_with fail
    go_ret
    exact ⟨rfl, Below.refl _ _⟩
  have HD := Lib.hid (drawTake_any A n c xs w hx hl (by omega) hc hm)
  have RV := Lib.hid (fun (w' : World) (hb : Below w.heap.size w w') => And.intro (below_keep hb hv) ((hr.below hb).more hb.size))
  clear hx hr hl hv
  go_enter Tryd.func4, Tryd.ntmps4
  go_wp2_with fail
  refine HD.out.mono ?_
  rintro e w1 ⟨nv, rv, bv, names, rows, real, rfl, ho, hd, b1⟩
  obtain ⟨A1, c1, B1, d1, C1, f1, rfl, rfl, rfl⟩ := ho.form
  obtain ⟨ok, N, R, hL⟩ := TakIs.ex names rows real
  obtain ⟨l1, hl1⟩ : ∃ n, names.length = n := ⟨_, rfl⟩
  obtain ⟨l2, hl2⟩ : ∃ n, rows.length = n := ⟨_, rfl⟩
  obtain ⟨l3, hl3⟩ : ∃ n, real.length = n := ⟨_, rfl⟩
  obtain ⟨nN, hNN⟩ : ∃ n, N.length = n := ⟨_, rfl⟩
  obtain ⟨nR, hRR⟩ : ∃ n, R.length = n := ⟨_, rfl⟩
  have SM := Lib.hid hd.small
  have SN := Lib.hid (hL.small hd.small)
  have HL := Lib.hid hL
  rw [hl1, hl2, hl3] at ho ⊢
  have HNR := Lib.hid (And.intro hNN hRR)
  have HLL := Lib.hid (And.intro hl1 (And.intro hl2 hl3))
  clear hL hNN hRR hl1 hl2 hl3 hd HD
  have hqq : (ok != ok) = false := by cases ok <;> rfl
  -- t3
  obtain ⟨w2, hw2⟩ : ∃ w2, w2 = w1.alloc (.cells #[.slice A1 l1 c1, .slice B1 l2 d1, .slice C1 l3 f1] 37) := ⟨_, rfl⟩
  have b2 : Below w1.heap.size w1 w2 := by rw [hw2]; exact (Below.refl _ _).alloc (Nat.le_refl _) _
  have k2 : Blk w2 w1.heap.size 37 #[.slice A1 l1 c1, .slice B1 l2 d1, .slice C1 l3 f1] := by rw [hw2]; exact Blk.new _ _ _
  have B2 := Lib.hid (b1.trans (b2.mono b1.size))
  have P2 := Lib.hid (fun (wr : World) (hb : Below w2.heap.size w2 wr) => And.intro (k2.below hb k2.lt) ((ho.below b2).reads.below hb))
  have IM := Lib.hid (implTake_any _ names rows real ok N R HL.out RA RC w2 (RV.out w2 B2.out).1 (RV.out w2 B2.out).2 ((P2.out w2 (Below.refl _ _)).2) SM.out)
  have HW2 := Lib.hid hw2
  clear k2 ho b2
  go_wp2_with fail
  rw [← HW2.out]
  clear hw2 HW2
  refine IM.out.mono ?_
  rintro e w3 hres
  obtain ⟨A3, c3, B3, d3, rfl, o3, b3⟩ := hres.form
  rw [HNR.out.1, HNR.out.2] at o3 ⊢
  clear hres IM
  obtain ⟨w4, hw4⟩ : ∃ w4, w4 = w3.alloc (.cells #[.slice A3 nN c3, .slice B3 nR d3] 26) := ⟨_, rfl⟩
  have b4 : Below w3.heap.size w3 w4 := by rw [hw4]; exact (Below.refl _ _).alloc (Nat.le_refl _) _
  have k4 : Blk w4 w3.heap.size 26 #[.slice A3 nN c3, .slice B3 nR d3] := by rw [hw4]; exact Blk.new _ _ _
  have b24 := Lib.hid (b3.trans (b4.mono b3.size))
  have T4 := Lib.hid (fun (wr : World) (hb : Below w4.heap.size w4 wr) => And.intro (k4.below hb k4.lt) ((o3.below b4).below hb).reads)
  have x0 := (P2.out w4 b24.out).1.cell 0
  have x1 := (P2.out w4 b24.out).1.cell 1
  have x2 := (P2.out w4 b24.out).1.cell 2
  simp at x0 x1 x2
  have SP := Lib.hid (specTake_any _ names rows real ok N R HL.out w4 (P2.out w4 b24.out).2 SM.out)
  have HW4 := Lib.hid hw4
  rw [hw4] at x0 x1 x2
  clear k4 o3 b4 b3
  go_wp2_with fail
  rw [← HW4.out]
  clear hw4 HW4 x0 x1 x2
  refine SP.out.mono ?_
  rintro e w5 hres
  obtain ⟨A5, c5, B5, d5, rfl, o5, b5⟩ := hres.form
  rw [HNR.out.1, HNR.out.2] at o5 ⊢
  clear hres SP
  obtain ⟨w6, hw6⟩ : ∃ w6, w6 = w5.alloc (.cells #[.slice A5 nN c5, .slice B5 nR d5] 26) := ⟨_, rfl⟩
  have b6 : Below w5.heap.size w5 w6 := by rw [hw6]; exact (Below.refl _ _).alloc (Nat.le_refl _) _
  have k6 : Blk w6 w5.heap.size 26 #[.slice A5 nN c5, .slice B5 nR d5] := by rw [hw6]; exact Blk.new _ _ _
  have b46 := Lib.hid (b5.trans (b6.mono b5.size))
  have x0 := (T4.out w6 b46.out).1.cell 0
  have x1 := (T4.out w6 b46.out).1.cell 1
  have y0 := k6.cell 0
  have y1 := k6.cell 1
  simp at x0 x1 y0 y1
  have EQ := Lib.hid (sameTable_yes _ _ N R w6 (T4.out w6 b46.out).2 ((o5.below b6).reads) SN.out.ok)
  have HW6 := Lib.hid hw6
  rw [hw6] at x0 x1 y0 y1
  clear k6 o5 b6 b5
  go_wp2_with fail
  rw [← HW6.out]
  clear hw6 HW6 x0 x1 y0 y1
  refine EQ.out.mono ?_
  rintro e w7 ⟨rfl, b7⟩
  have b47 := Lib.hid (b46.out.trans (b7.mono b46.out.size))
  have b27 := Lib.hid (b24.out.trans (b47.out.mono b24.out.size))
  have B7 := Lib.hid (B2.out.trans (b27.out.mono B2.out.size))
  have x0 := (T4.out w7 b47.out).1.cell 0
  have x1 := (T4.out w7 b47.out).1.cell 1
  simp at x0 x1
  clear EQ b7 b46
  cases htk : takB names rows real with
  | false =>
    obtain ⟨rfl, rfl, rfl⟩ := HL.out.no htk
    obtain rfl : nN = 0 := HNR.out.1.symm
    have AL := Lib.hid (alive_yes RA RC w7 (RV.out w7 B7.out).1 (RV.out w7 B7.out).2)
    clear htk
    go_wp2_with fail
    refine AL.out.mono ?_
    rintro e w' ⟨rfl, rfl⟩
    go_wp2_with fail
    go_ret
    exact ⟨rfl, B7.out⟩
  | true =>
    obtain ⟨rfl, rfl, rfl⟩ := HL.out.yes htk
    obtain ⟨h1, h2, h3, h4, h5⟩ := take_again htk
    rw [HNR.out.2] at h1 h2 h3 h4
    have SQ := Lib.hid (h2.small SN.out)
    have AG := Lib.hid (implPadT_any _ N (realR rows real) (nR : Int) true N (realR rows real) (List.replicate nR true) h2 RA RC w7 (RV.out w7 B7.out).1 (RV.out w7 B7.out).2 (T4.out w7 b47.out).2 SN.out)
    have RP := Lib.hid (fun (wr : World) (hb : Below w7.heap.size w7 wr) => implReal_any true _ N rows real RA RC wr (RV.out wr (B7.out.trans (hb.mono B7.out.size))).1 (RV.out wr (B7.out.trans (hb.mono B7.out.size))).2 (P2.out wr (b27.out.trans (hb.mono b27.out.size))).2 SM.out h5)
    rw [if_pos rfl, ← h1] at RP
    have RG := Lib.hid (fun (v : Value) (wr : World) (hb : Below w7.heap.size w7 wr) (hp : PadR wr v N (realR rows real) (List.replicate nR true)) => implReal_any true v N (realR rows real) (List.replicate nR true) RA RC wr (RV.out wr (B7.out.trans (hb.mono B7.out.size))).1 (RV.out wr (B7.out.trans (hb.mono B7.out.size))).2 hp SQ.out h3)
    rw [if_pos rfl, h4] at RG
    have hnQ : (List.replicate nR true).length = nR := List.length_replicate
    have HNQ := Lib.hid hnQ
    clear h1 h2 h3 h4 h5 hnQ
    have hnR0 : (0 : Int) ≤ (nR : Int) := Int.natCast_nonneg _
    go_wp2_with fail
    refine AG.out.mono ?_
    rintro e w8 hres
    obtain ⟨A8, c8, B8, d8, C8, f8, rfl, o8, b8⟩ := hres.form
    rw [HNR.out.1, HNR.out.2, HNQ.out] at o8 ⊢
    clear hres AG x0 x1
    obtain ⟨w9, hw9⟩ : ∃ w9, w9 = w8.alloc (.cells #[.slice A8 nN c8, .slice B8 nR d8, .slice C8 nR f8] 37) := ⟨_, rfl⟩
    have b9 : Below w8.heap.size w8 w9 := by rw [hw9]; exact (Below.refl _ _).alloc (Nat.le_refl _) _
    have k9 : Blk w9 w8.heap.size 37 #[.slice A8 nN c8, .slice B8 nR d8, .slice C8 nR f8] := by rw [hw9]; exact Blk.new _ _ _
    have b79 := Lib.hid (b8.trans (b9.mono b8.size))
    have B9 := Lib.hid (B7.out.trans (b79.out.mono B7.out.size))
    have x0 := (T4.out w9 (b47.out.trans (b79.out.mono b47.out.size))).1.cell 0
    have x1 := (T4.out w9 (b47.out.trans (b79.out.mono b47.out.size))).1.cell 1
    have y0 := (P2.out w9 (b27.out.trans (b79.out.mono b27.out.size))).1.cell 0
    have y1 := (P2.out w9 (b27.out.trans (b79.out.mono b27.out.size))).1.cell 1
    have y2 := (P2.out w9 (b27.out.trans (b79.out.mono b27.out.size))).1.cell 2
    have z0 := k9.cell 0
    have z1 := k9.cell 1
    have z2 := k9.cell 2
    simp at x0 x1 y0 y1 y2 z0 z1 z2
    have RP' := Lib.hid (fun (wr : World) (hb : Below w9.heap.size w9 wr) => RP.out wr (b79.out.trans (hb.mono b79.out.size)))
    have RG' := Lib.hid (fun (wr : World) (hb : Below w9.heap.size w9 wr) => RG.out _ wr (b79.out.trans (hb.mono b79.out.size)) ((o8.below b9).below hb).reads)
    have HW9 := Lib.hid hw9
    clear RP RG k9 o8 b8 b9
    go_wp2_with fail
    rw [← HW9.out]
    clear hw9 HW9
    go_region_held3 (fun w' => w'.cell? ⟨w3.heap.size, 0, none⟩ = some (.slice A3 nN c3) ∧ w'.cell? ⟨w3.heap.size, 1, none⟩ = some (.slice B3 nR d3) ∧ w'.cell? ⟨w1.heap.size, 0, none⟩ = some (.slice A1 l1 c1) ∧ w'.cell? ⟨w1.heap.size, 1, none⟩ = some (.slice B1 l2 d1) ∧ w'.cell? ⟨w1.heap.size, 2, none⟩ = some (.slice C1 l3 f1) ∧ w'.cell? ⟨w8.heap.size, 0, none⟩ = some (.slice A8 nN c8) ∧ w'.cell? ⟨w8.heap.size, 1, none⟩ = some (.slice B8 nR d8) ∧ w'.cell? ⟨w8.heap.size, 2, none⟩ = some (.slice C8 nR f8))
      (first | go_keep | (go_split_ands; refine ⟨?_, ?_, ?_, ?_, ?_, ?_, ?_, ?_⟩ <;> (refine below_keep hb' ?_; assumption)))
      (first | (go_at_call 16; refine (RP'.out _ ((Below.refl _ _).drew)).mono ?_; rintro e w' ⟨rfl, hb'⟩) | (go_at_call 16; refine (RG'.out _ ((Below.refl _ _).drew.trans hb')).mono ?_; rintro e w' ⟨rfl, hb2⟩; have hb3 := hb'.trans (hb2.mono hb'.size); have hb' := (Below.refl _ _).trans hb2))
    have hf := B9.out.drew.trans (hb3.mono B9.out.size)
    clear hb3 hb2 hb' RP' RG' x0 x1 y0 y1 y2 z0 z1 z2
    go_wp2_with fail
    go_ret
    exact ⟨rfl, hf⟩
end Go.Proofs.YtbhklgiecfcfcaaDoor
