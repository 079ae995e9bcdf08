/- laws.eqPadded, laws.toPadded. -/
import Derived.Test.YtaapopfmnlaedaaDoorPadX
namespace Go.Proofs.YtaapopfmnlaedaaDoor
open Go Go.RowKit
set_option maxRecDepth 100000
structure SmallP (names : List ByteArray) (rows : List (List Int)) (real : List Bool) : Prop where
  t : Small names rows
  b : real.length ≤ 1048576
set_option maxHeartbeats 1600000 in
theorem eqPadded_yes (v u : Value) (names : List ByteArray) (rows : List (List Int)) (real : List Bool) (w : World) (hv : PadR w v names rows real) (hu : PadR w u names rows real) (hs : SmallP names rows real) :
    Calls Tryd.prog 19 #[v, u] w fun e w' => e = .returned (.bool true) ∧ Below w.heap.size w w' := by
  obtain ⟨A, c, B, d, C, f, rfl, _, hx, hy, hz⟩ := hv
  obtain ⟨A', c', B', d', C', f', rfl, _, hx', hy', hz'⟩ := hu
  obtain ⟨n, hn⟩ : ∃ n, names.length = n := ⟨_, rfl⟩
  obtain ⟨m, hm⟩ : ∃ m, rows.length = m := ⟨_, rfl⟩
  obtain ⟨k, hk⟩ : ∃ k, real.length = k := ⟨_, rfl⟩
  have hok := hs.t.ok
  have hn1 := hok.n1
  have hr1 := hok.r1
  have hb1 := hs.b
  rw [hn] at hx hx' hn1 ⊢
  rw [hm] at hy hy' hr1 ⊢
  rw [hk] at hz hz' hb1 ⊢
  obtain ⟨w1, hw1⟩ : ∃ w1, w1 = (w.alloc (.cells #[.slice A n c, .slice B m d, .slice C k f] 39)).alloc (.cells #[.slice A' n c', .slice B' m d', .slice C' k f'] 39) := ⟨_, rfl⟩
  have b1 : Below w.heap.size w w1 := by rw [hw1]; exact ((Below.refl _ _).alloc (Nat.le_refl _) _).alloc (by simp) _
  have k1 : Blk w1 w.heap.size 39 #[.slice A n c, .slice B m d, .slice C k f] := by rw [hw1]; exact (Blk.new _ _ _).alloc _
  have k2 : Blk w1 (w.heap.size + 1) 39 #[.slice A' n c', .slice B' m d', .slice C' k f'] := by
    have := Blk.new (w.alloc (.cells #[.slice A n c, .slice B m d, .slice C k f] 39)) 39 #[.slice A' n c', .slice B' m d', .slice C' k f']
    rw [World.size_alloc] at this
    rw [hw1]; exact this
  have KB := Lib.hid (fun (wr : World) (hb : Below w1.heap.size w1 wr) => And.intro (k1.below hb k1.lt) (k2.below hb k2.lt))
  have E1 := Lib.hid (eqStringS_yes A A' n c c' names w1 hn ((hx.below b1).more b1.size) ((hx'.below b1).more b1.size) hn1)
  have E2 := Lib.hid (fun (wr : World) (hb : Below w1.heap.size w1 wr) => eqIntSS_yes B B' m d d' rows wr ((hy.below b1).below hb) ((hy'.below b1).below hb) hr1 hok.r2)
  have E3 := Lib.hid (fun (wr : World) (hb : Below w1.heap.size w1 wr) => eqBoolS_yes C C' k f f' real wr hk ((((hz.below b1).more b1.size).below hb).more hb.size) ((((hz'.below b1).more b1.size).below hb).more hb.size) (by omega))
  have c0 := k1.cell 0
  have c1 := k2.cell 0
  simp at c0 c1
  have HW := Lib.hid hw1
  clear hx hy hz hx' hy' hz' hok hn hm hk k1 k2 hw1 hs
  go_enter Tryd.func19, Tryd.ntmps19
  go_wp2_with fail
  rw [← HW.out]
  refine E1.out.mono ?_
  rintro e w2 ⟨rfl, b2⟩
  have d0 := (KB.out w2 b2).1.cell 1
  have d1 := (KB.out w2 b2).2.cell 1
  simp at d0 d1
  clear c0 c1
  have E2' := Lib.hid (E2.out w2 b2)
  have B2 := b1.trans (b2.mono b1.size)
  go_wp2_with fail
  refine E2'.out.mono ?_
  rintro e w3 ⟨rfl, b3⟩
  have b13 := b2.trans (b3.mono b2.size)
  have B3 := b1.trans (b13.mono b1.size)
  have f0 := (KB.out w3 b13).1.cell 2
  have f1 := (KB.out w3 b13).2.cell 2
  simp at f0 f1
  clear d0 d1 b2 b3
  have E3' := Lib.hid (E3.out w3 b13)
  go_wp2_with fail
  refine E3'.out.mono ?_
  rintro e w4 ⟨rfl, b4⟩
  have B4 := B3.trans (b4.mono B3.size)
  go_wp2_with fail
  go_ret
  exact ⟨rfl, B4⟩
/-- A padded table of the call's own. -/
def PadO (w : World) (lo : Nat) (v : Value) (names : List ByteArray) (rows : List (List Int)) (real : List Bool) : Prop := ∃ v0 v1 v2 : Value, v = .agg #[v0, v1, v2] ∧ w.ownsRow lo 9 1 v0 names.length (stCells names) ∧ RowsO w lo w.heap.size v1 rows ∧ w.ownsRow lo 4 1 v2 real.length (boCells real)
set_option maxHeartbeats 1600000 in
theorem toPadO_any (v : Value) (names : List ByteArray) (rows : List (List Int)) (real : List Bool) (w : World) (ht : PadR w v names rows real) (hs : SmallP names rows real) :
    Calls Tryd.prog 17 #[v] w fun e w' => ∃ (A : Option Addr) (c : Nat) (B : Option Addr) (d : Nat) (C : Option Addr) (f : Nat), e = .returned (.agg #[.slice A names.length c, .slice B rows.length d, .slice C real.length f]) ∧ PadR w' (.agg #[.slice A names.length c, .slice B rows.length d, .slice C real.length f]) names rows real ∧ PadO w' w.heap.size (.agg #[.slice A names.length c, .slice B rows.length d, .slice C real.length f]) names rows real ∧ Below w.heap.size w w' := by
  obtain ⟨A, c, B, d, C, f, rfl, _, hx, hy, hz⟩ := ht
  obtain ⟨n, hnn⟩ : ∃ n, names.length = n := ⟨_, rfl⟩
  obtain ⟨m, hmm⟩ : ∃ m, rows.length = m := ⟨_, rfl⟩
  obtain ⟨k, hkk⟩ : ∃ k, real.length = k := ⟨_, rfl⟩
  have hn := hs.t.n1
  have hm := hs.t.r1
  have hb := hs.b
  rw [hnn] at hx hn ⊢
  rw [hmm] at hy hm ⊢
  rw [hkk] at hz hb ⊢
  have TS := Lib.hid (fun (wr : World) (hb : Below w.heap.size w wr) => toStringS_any A n c names wr ((hx.below hb).more hb.size) hn hnn)
  have TI := Lib.hid (fun (wr : World) (hb : Below w.heap.size w wr) => toIntSS_any B m d rows wr ((hy.belowW (Nat.le_refl _) hb).more hb.size) hm hs.t.r2)
  have TB := Lib.hid (fun (wr : World) (hw : Below w.heap.size w wr) => toBoolS_any C k f real wr ((hz.below hw).more hw.size) hb hkk)
  have HN := Lib.hid hnn
  have HM := Lib.hid hmm
  have HK := Lib.hid hkk
  clear hx hy hz hnn hmm hkk hs
  go_enter Tryd.func17, Tryd.ntmps17
  go_wp2_with fail
  obtain ⟨w1, hw1⟩ : ∃ w1, w1 = ((w.alloc (.cells #[.slice A n c, .slice B m d, .slice C k f] 36)).alloc (.cells #[.slice none 0 0, .slice none 0 0, .slice none 0 0] 39)).alloc (.cells #[.slice none 0 0, .slice none 0 0, .slice none 0 0] 39) := ⟨_, rfl⟩
  have b1 : Below w.heap.size w w1 := by rw [hw1]; exact (((Below.refl _ _).alloc (Nat.le_refl _) _).alloc (by simp) _).alloc (by simp; omega) _
  have hs1 : w1.heap.size = w.heap.size + 1 + 1 + 1 := by rw [hw1]; simp
  have hs1l : w.heap.size + 1 + 1 + 1 ≤ w1.heap.size := by omega
  have k1 : Blk w1 w.heap.size 36 #[.slice A n c, .slice B m d, .slice C k f] := by rw [hw1]; exact ((Blk.new _ _ _).alloc _).alloc _
  have k2 : Blk w1 (w.heap.size + 1) 39 #[.slice none 0 0, .slice none 0 0, .slice none 0 0] := by
    have := (Blk.new (w.alloc (.cells #[.slice A n c, .slice B m d, .slice C k f] 36)) 39 #[.slice none 0 0, .slice none 0 0, .slice none 0 0]).alloc (.cells #[.slice none 0 0, .slice none 0 0, .slice none 0 0] 39)
    rw [World.size_alloc] at this
    rw [hw1]; exact this
  have k3 : Blk w1 (w.heap.size + 1 + 1) 39 #[.slice none 0 0, .slice none 0 0, .slice none 0 0] := by
    have := (Blk.new ((w.alloc (.cells #[.slice A n c, .slice B m d, .slice C k f] 36)).alloc (.cells #[.slice none 0 0, .slice none 0 0, .slice none 0 0] 39)) 39 #[.slice none 0 0, .slice none 0 0, .slice none 0 0])
    rw [World.size_alloc, World.size_alloc] at this
    rw [hw1]; exact this
  rw [← hw1]
  clear hw1
  refine (TS.out w1 b1).mono ?_
  rintro e w2 ⟨v, rfl, o2, b2⟩
  obtain ⟨A2, c2, rfl, ha2, _⟩ := own_form o2
  have B2 := b1.trans (b2.mono b1.size)
  have m1 := k1.below b2 k1.lt
  have m2 := k2.below b2 k2.lt
  have m3 := k3.below b2 k3.lt
  have hs2 := b2.size
  have x30 := m3.cell 0
  have x31 := m3.cell 1
  have f30 := m3.frozen 0
  have x11 := m1.cell 1
  simp at x30 x31 x11
  obtain ⟨w3, hw3⟩ : ∃ w3, w3 = w2.setCell ⟨w.heap.size + 1 + 1, 0, none⟩ (.slice A2 n c2) := ⟨_, rfl⟩
  have B3 : Below w.heap.size w w3 := by rw [hw3]; exact B2.setCell (by show w.heap.size ≤ w.heap.size + 1 + 1; omega) _
  have o3 : w3.ownsRow w1.heap.size 9 1 (.slice A2 n c2) n (stCells names) := by rw [hw3]; exact ownsRow_setCell_below o2 (by show w.heap.size + 1 + 1 < w1.heap.size; omega) _
  have n1 : Blk w3 w.heap.size 36 #[.slice A n c, .slice B m d, .slice C k f] := by rw [hw3]; exact m1.far (by show w.heap.size ≠ w.heap.size + 1 + 1; omega) _
  have n2 : Blk w3 (w.heap.size + 1) 39 #[.slice none 0 0, .slice none 0 0, .slice none 0 0] := by rw [hw3]; exact m2.far (by show w.heap.size + 1 ≠ w.heap.size + 1 + 1; omega) _
  have n3 : Blk w3 (w.heap.size + 1 + 1) 39 #[.slice A2 n c2, .slice none 0 0, .slice none 0 0] := by rw [hw3]; exact m3.set_ 0 (.slice A2 n c2)
  have hs3 : w3.heap.size = w2.heap.size := by rw [hw3]; simp [World.setCell]
  have HW3 := Lib.hid hw3
  have hs3l : w1.heap.size ≤ w3.heap.size := by omega
  have TI3 := Lib.hid (TI.out w3 B3)
  clear o2 b2 k1 k2 k3 m1 m2 m3 TS TI hs1 hw3 b1
  go_wp2_with fail
  rw [← HW3.out]
  refine TI3.out.mono ?_
  rintro e w4 ⟨u, rfl, ⟨us, ou⟩, b4⟩
  obtain ⟨A4, c4, rfl, _, _⟩ := ou.form
  rw [HM.out] at ou ⊢
  have B4 := B3.trans (b4.mono B3.size)
  have o4 := own_below o3 b4
  have p1 := n1.below b4 n1.lt
  have p2 := n2.below b4 n2.lt
  have p3 := n3.below b4 n3.lt
  have hs4 := b4.size
  have x41 := p3.cell 1
  have f41 := p3.frozen 1
  have x12 := p1.cell 2
  simp at x41 x12
  obtain ⟨w5, hw5⟩ : ∃ w5, w5 = w4.setCell ⟨w.heap.size + 1 + 1, 1, none⟩ (.slice A4 m c4) := ⟨_, rfl⟩
  have t5 : Touch (w.heap.size + 1) (w.heap.size + 1 + 1 + 1) w4 w5 := by rw [hw5]; exact (Touch.refl _ _ _).setCell (p := ⟨w.heap.size + 1 + 1, 1, none⟩) (Or.inl (by simp)) _
  have B5 : Below w.heap.size w w5 := by rw [hw5]; exact B4.setCell (by show w.heap.size ≤ w.heap.size + 1 + 1; omega) _
  have o5 := t5.own_above o4 (by omega)
  have ou5 := ou.touch t5 (Or.inr (by omega))
  have q2 : Blk w5 (w.heap.size + 1) 39 #[.slice none 0 0, .slice none 0 0, .slice none 0 0] := by rw [hw5]; exact p2.far (by show w.heap.size + 1 ≠ w.heap.size + 1 + 1; omega) _
  have q3 : Blk w5 (w.heap.size + 1 + 1) 39 #[.slice A2 n c2, .slice A4 m c4, .slice none 0 0] := by rw [hw5]; exact p3.set_ 1 (.slice A4 m c4)
  have hs5 : w5.heap.size = w4.heap.size := by rw [hw5]; simp [World.setCell]
  have HW5 := Lib.hid hw5
  have TB5 := Lib.hid (TB.out w5 B5)
  clear n1 n2 n3 p1 p2 p3 x30 x31 x11 f30 TI3 HW3 b4 B3 B2 o4 o3 ou B4 t5 hw5 TB
  go_wp2_with fail
  rw [← HW5.out]
  refine TB5.out.mono ?_
  rintro e w6 ⟨z, rfl, oz, b6⟩
  obtain ⟨A6, c6, rfl, _, _⟩ := own_form oz
  have B6 := B5.trans (b6.mono B5.size)
  have o6 := own_below o5 b6
  have ou6 := ou5.below b6
  have r2 := q2.below b6 q2.lt
  have r3 := q3.below b6 q3.lt
  have hs6 := b6.size
  have y0 := r3.cell 0
  have y1 := r3.cell 1
  have y2 := r3.cell 2
  have g2 := r3.frozen 2
  have z0 := r2.cell 0
  have z1 := r2.cell 1
  have z2 := r2.cell 2
  have h0 := r2.frozen 0
  have h1 := r2.frozen 1
  have h2 := r2.frozen 2
  simp at y0 y1 y2 z0 z1 z2
  have F := Lib.hid (fun (w' : World) (ht : Touch (w.heap.size + 1) (w.heap.size + 1 + 1 + 1) w6 w') => And.intro (ht.own_above o6 (by omega)) (And.intro (ou6.touch ht (Or.inr (by omega))) (And.intro (ht.own_above oz (by omega)) (And.intro (ht.below B6 (by omega)) (Nat.le_trans (Nat.le_of_eq hs5.symm) (Nat.le_trans hs6 ht.size))))))
  have P2 := Lib.hid r2
  clear q2 q3 r2 r3 x41 f41 x12 TB5 HW5 b6 B5 o5 ou5 o6 ou6 oz B6
  go_wp2_with fail
  have tt : Touch (w.heap.size + 1) (w.heap.size + 1 + 1 + 1) w6 ((((w6.setCell ⟨w.heap.size + 1 + 1, 2, none⟩ (.slice A6 k c6)).setCell ⟨w.heap.size + 1, 0, none⟩ (.slice A2 n c2)).setCell ⟨w.heap.size + 1, 1, none⟩ (.slice A4 m c4)).setCell ⟨w.heap.size + 1, 2, none⟩ (.slice A6 k c6)) :=
    ((((Touch.refl _ _ _).setCell (p := ⟨w.heap.size + 1 + 1, 2, none⟩) (Or.inl (by simp)) _).setCell (p := ⟨w.heap.size + 1, 0, none⟩) (Or.inl (by simp)) _).setCell (p := ⟨w.heap.size + 1, 1, none⟩) (Or.inl (by simp)) _).setCell (p := ⟨w.heap.size + 1, 2, none⟩) (Or.inl (by simp)) _
  have G := F.out _ tt
  have s1 := P2.out.far (p := ⟨w.heap.size + 1 + 1, 2, none⟩) (by show w.heap.size + 1 ≠ w.heap.size + 1 + 1; omega) (.slice A6 k c6)
  have s2 := s1.set_ 0 (.slice A2 n c2)
  have s3 := s2.set_ 1 (.slice A4 m c4)
  have s4 := s3.set_ 2 (.slice A6 k c6)
  have r0 := s4.cell 0
  have r1 := s4.cell 1
  have r2 := s4.cell 2
  simp at r0 r1 r2
  clear s1 s2 s3 s4 tt y0 y1 y2 z0 z1 z2 g2 h0 h1 h2 P2 F
  generalize ((((w6.setCell ⟨w.heap.size + 1 + 1, 2, none⟩ (.slice A6 k c6)).setCell ⟨w.heap.size + 1, 0, none⟩ (.slice A2 n c2)).setCell ⟨w.heap.size + 1, 1, none⟩ (.slice A4 m c4)).setCell ⟨w.heap.size + 1, 2, none⟩ (.slice A6 k c6)) = w7 at G r0 r1 r2 ⊢
  refine bodyPost_ret (v := .agg #[.slice A2 n c2, .slice A4 m c4, .slice A6 k c6]) (by simp [results, Tryd.results17, go_sem, r0, r1, r2]) rfl ⟨_, _, _, _, _, _, rfl, ⟨A2, c2, A4, c4, A6, c6, by rw [HN.out, HM.out, HK.out], by rw [HN.out]; exact ha2, ?_, ?_, ?_⟩, ⟨_, _, _, rfl, by rw [HN.out]; exact G.1.base_le (by omega), ⟨us, ((G.2.1.low (by omega)).wide G.2.2.2.2)⟩, by rw [HK.out]; exact G.2.2.1.base_le (by omega)⟩, G.2.2.2.1⟩
  · rw [HN.out]; exact Reads.of_own G.1
  · rw [HM.out]; exact G.2.1.reads
  · rw [HK.out]; exact Reads.of_own G.2.2.1
theorem toPad_any (v : Value) (names : List ByteArray) (rows : List (List Int)) (real : List Bool) (w : World) (ht : PadR w v names rows real) (hs : SmallP names rows real) :
    Calls Tryd.prog 17 #[v] w fun e w' => ∃ (A : Option Addr) (c : Nat) (B : Option Addr) (d : Nat) (C : Option Addr) (f : Nat), e = .returned (.agg #[.slice A names.length c, .slice B rows.length d, .slice C real.length f]) ∧ PadR w' (.agg #[.slice A names.length c, .slice B rows.length d, .slice C real.length f]) names rows real ∧ Below w.heap.size w w' := by
  refine (toPadO_any v names rows real w ht hs).mono ?_
  rintro e w' ⟨A, c, B, d, C, f, h1, h2, _, h3⟩
  exact ⟨A, c, B, d, C, f, h1, h2, h3⟩
end Go.Proofs.YtaapopfmnlaedaaDoor
