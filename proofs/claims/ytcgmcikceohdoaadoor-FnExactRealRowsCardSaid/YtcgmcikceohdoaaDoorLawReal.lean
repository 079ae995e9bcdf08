/- laws.FnExactRealRows: the walk. -/
import Derived.Test.YtcgmcikceohdoaaDoorPadR
namespace Go.Proofs.YtcgmcikceohdoaaDoor
open Go Go.RowKit
set_option maxRecDepth 100000
set_option maxHeartbeats 1600000 in
theorem lawExactReal_walk {w : World} (v : Value) (names : List ByteArray) (rows : List (List Int)) (real : List Bool) (ht : PadA w v names rows real) (RA : Option Addr) (RC : Nat) (hv : w.cell? ⟨0, 0, none⟩ = some (.slice RA 13 RC)) (hr : Reads w w.heap.size 1 RA 13 (stCells resW)) :
    Calls Tryd.prog 12 #[v] w fun e w' => e = .returned (.bool true) ∧ Below w.heap.size w w' := by
  obtain ⟨q, hq⟩ : ∃ q, padB names rows real = q := ⟨_, rfl⟩
  obtain ⟨z, hz⟩ : ∃ z : Int, (if q then (cntB real : Int) else -1) = z := ⟨_, rfl⟩
  have HZ := Lib.hid hz
  clear hz
  have HT := Lib.hid ht
  obtain ⟨A, c, B, d, C, f, rfl, _, _, _, _⟩ := ht.form
  clear ht
  obtain ⟨n, hnn⟩ : ∃ n, names.length = n := ⟨_, rfl⟩
  obtain ⟨m, hmm⟩ : ∃ m, rows.length = m := ⟨_, rfl⟩
  obtain ⟨l, hll⟩ : ∃ l, real.length = l := ⟨_, rfl⟩
  rw [hnn, hmm, hll] at HT ⊢
  obtain ⟨w1, hw1⟩ : ∃ w1, w1 = w.alloc (.cells #[.slice A n c, .slice B m d, .slice C l f] 48) := ⟨_, rfl⟩
  have b1 : Below w.heap.size w w1 := by rw [hw1]; exact (Below.refl _ _).alloc (Nat.le_refl _) _
  have kb : Blk w1 w.heap.size 48 #[.slice A n c, .slice B m d, .slice C l f] := by rw [hw1]; exact Blk.new _ _ _
  have KB := Lib.hid (fun (wr : World) (hb : Below w1.heap.size w1 wr) => kb.below hb kb.lt)
  have SZ := Lib.hid (szPadded_any _ names rows real 1048576 w1 (by decide) (by decide) (HT.out.below b1))
  have c0 := kb.cell 0
  have c1 := kb.cell 1
  have c2 := kb.cell 2
  simp at c0 c1 c2
  have HW := Lib.hid hw1
  have HV := Lib.hid hv
  have HR := Lib.hid hr
  have HN := Lib.hid hnn
  have HM := Lib.hid hmm
  have HL := Lib.hid hll
  clear hv hr kb hnn hmm hll
  go_enter Tryd.func12, Tryd.ntmps12
  go_wp2_with fail
  rw [← HW.out]
  clear hw1
  refine SZ.out.mono ?_
  rintro e w2 ⟨r, rfl, g1, g2, g3, b2⟩
  have G3 := Lib.hid g3
  have B2 := b1.trans (b2.mono b1.size)
  clear c0 c1 c2 g3
  by_cases hr : r < 0
  · go_wp2_with fail
    go_ret
    exact ⟨rfl, B2⟩
  have SM := Lib.hid (show SmallP names rows real by
    obtain ⟨a, b⟩ := G3.out (by omega)
    exact ⟨a, b⟩)
  have HQ := Lib.hid hq
  clear hq
  have d0 := (KB.out w2 b2).cell 0
  have d1 := (KB.out w2 b2).cell 1
  have d2 := (KB.out w2 b2).cell 2
  simp at d0 d1 d2
  have TO := Lib.hid (fun (wr : World) (hb : Below w.heap.size w wr) => toPad_any _ names rows real wr (HT.out.below hb).form SM.out)
  rw [HN.out, HM.out, HL.out] at TO
  go_wp2_with fail
  refine (TO.out w2 B2).mono ?_
  rintro e w3 ⟨A3, c3, B3, d3, C3, f3, rfl, o3, b3⟩
  have B3 := B2.trans (b3.mono B2.size)
  have SP := Lib.hid (specReal_any q _ names rows real w3 o3 SM.out HQ.out)
  have b13 := b2.trans (b3.mono b2.size)
  rw [HZ.out] at SP
  clear d0 d1 d2 b2 b3 B2 o3
  go_wp2_with fail
  refine SP.out.mono ?_
  rintro e w4 ⟨rfl, b4⟩
  have B4 := B3.trans (b4.mono B3.size)
  have b14 := b13.trans (b4.mono b13.size)
  have d0 := (KB.out w4 b14).cell 0
  have d1 := (KB.out w4 b14).cell 1
  have d2 := (KB.out w4 b14).cell 2
  simp at d0 d1 d2
  clear b13 b4 B3 SP
  go_wp2_with fail
  refine (TO.out w4 B4).mono ?_
  rintro e w5 ⟨A5, c5, B5, d5, C5, f5, rfl, o5, b5⟩
  have B5' := B4.trans (b5.mono B4.size)
  have b15 := b14.trans (b5.mono b14.size)
  have O5 := Lib.hid o5
  clear d0 d1 d2 o5 b5 b14 B4
  go_wp2_with fail
  obtain ⟨w6, hw6⟩ : ∃ w6, w6 = w5.alloc (.cells #[.slice A5 n c5, .slice B5 m d5, .slice C5 l f5] 45) := ⟨_, rfl⟩
  have b56 : Below w5.heap.size w5 w6 := by rw [hw6]; exact (Below.refl _ _).alloc (Nat.le_refl _) _
  have k6 : Blk w6 w5.heap.size 45 #[.slice A5 n c5, .slice B5 m d5, .slice C5 l f5] := by rw [hw6]; exact Blk.new _ _ _
  have B6 := B5'.trans (b56.mono B5'.size)
  have b16 := b15.trans (b56.mono b15.size)
  have O6 := Lib.hid (O5.out.below b56)
  have IM := Lib.hid (implReal_any q _ names rows real RA RC w6 (below_keep B6 HV.out) ((HR.out.below B6).more B6.size) O6.out SM.out HQ.out)
  rw [HZ.out] at IM
  rw [← hw6]
  clear hw6 b56 O5 B5' b15
  refine IM.out.mono ?_
  rintro e w7 ⟨rfl, b7⟩
  have B7 := B6.trans (b7.mono B6.size)
  have b17 := b16.trans (b7.mono b16.size)
  have d0 := (KB.out w7 b17).cell 0
  have d1 := (KB.out w7 b17).cell 1
  have d2 := (KB.out w7 b17).cell 2
  have k7 := k6.below b7 k6.lt
  have f0 := k7.cell 0
  have f1 := k7.cell 1
  have f2 := k7.cell 2
  simp at d0 d1 d2 f0 f1 f2
  have O7 := Lib.hid (O6.out.below b7)
  clear b7 b16 O6 IM k6 k7 B6
  have hqq : (z != z) = false := by simp
  go_wp2_with fail
  have EQ := Lib.hid (fun (w' : World) (hb : Below w7.heap.size w7 w') (u : Value) (hu : PadR w' u names rows real) => eqPadded_yes _ u names rows real w' (O7.out.below hb) hu SM.out)
  have TO' := Lib.hid (fun (w' : World) (hb : Below w7.heap.size w7 w') => TO.out w' (B7.trans (hb.mono B7.size)))
  clear TO
  have HB7 := Lib.hid B7
  clear KB HW HV HR HN HM HL HT SM HQ O7 b17 SZ G3 b1 B7 g1 g2
  go_region_held3 (fun w' => w'.cell? ⟨w.heap.size, 0, none⟩ = some (.slice A n c) ∧ w'.cell? ⟨w.heap.size, 1, none⟩ = some (.slice B m d) ∧ w'.cell? ⟨w.heap.size, 2, none⟩ = some (.slice C l f) ∧ w'.cell? ⟨w5.heap.size, 0, none⟩ = some (.slice A5 n c5) ∧ w'.cell? ⟨w5.heap.size, 1, none⟩ = some (.slice B5 m d5) ∧ w'.cell? ⟨w5.heap.size, 2, none⟩ = some (.slice C5 l f5))
    (first | go_keep | (go_split_ands; refine ⟨?_, ?_, ?_, ?_, ?_, ?_⟩ <;> (refine below_keep hb' ?_; assumption)))
    (first | (go_at_call 32; refine (TO'.out _ ((Below.refl _ _).drew)).mono ?_; rintro e w' ⟨A8, c8, B8, d8, C8, f8, rfl, o8, hb'⟩) | (go_at_call 33; refine (EQ.out _ ((Below.refl _ _).drew.trans hb') _ o8).mono ?_; rintro e w' ⟨rfl, hb2⟩; have hb3 := hb'.trans (hb2.mono hb'.size); have hb' := (Below.refl _ _).trans hb2))
  have hf := HB7.out.drew.trans (hb3.mono HB7.out.size)
  clear hb3 hb2 hb' o8 EQ TO'
  go_wp2_with fail
  go_ret
  exact ⟨rfl, hf⟩
end Go.Proofs.YtcgmcikceohdoaaDoor
