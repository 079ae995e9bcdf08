/- spec.l1OwnRowsInt, spec.l1OwnTable. -/
import Derived.Test.YtijpdekcdejfmaaDoorRes
namespace Go.Proofs.YtijpdekcdejfmaaDoor
open Go Go.RowKit
set_option maxRecDepth 100000
set_option maxHeartbeats 1600000 in
theorem l1OwnRows_any (A : Option Addr) (n c : Nat) (rows : List (List Int)) (w : World) (hx : RowsR w w.heap.size A n rows) (hn : n ≤ 1048576) (hl : ∀ r ∈ rows, r.length ≤ 1000000000) :
    Calls Tryd.prog 48 #[.slice A n c] w fun e w' => ∃ v, e = .returned v ∧ RowsO w' w.heap.size w'.heap.size v rows ∧ Below w.heap.size w w' := by
  obtain ⟨j0, hjI, hjz0, hjz1, hjz2⟩ := info_parts infoRow
  obtain ⟨i0, hi0, hz0, hz1, hz2⟩ := info_parts infoInt
  have HN := Lib.hid hx.len
  have HL := Lib.hid hl
  have HXX := Lib.hid hx
  have om := World.ownsRow_made (base := w.heap.size) (e := 40) (size := 1) w #[] 0 (Nat.le_refl _) (by unfold maxLen; omega) rfl
  have START : Hid (RowsV (w.alloc (.cells #[] 40)) w.heap.size (w.alloc (.cells #[] 40)).heap.size (.slice (some ⟨w.heap.size, 0, none⟩) 0 0) [] (rows.take 0)) :=
    Lib.hid ⟨rfl, om, fun g e => by simp [Value.ownBlock] at e ⊢; omega, fun k u r h => by simp at h, fun k u g h => by simp at h, fun k u h => by simp at h, fun i j u u' _ h => by simp at h⟩
  clear hl hx om
  go_enter Tryd.func48, Tryd.ntmps48
  go_wp2_with fail
  go_loopw [3, 4] (fun ov kv wr => ∃ (k : Nat) (vs : List Value), k ≤ n ∧ kv = .int .i64 k ∧ Hid (RowsV wr w.heap.size wr.heap.size ov vs (rows.take k)) ∧ Below w.heap.size w wr) (fun _ kv _ => n - (intOf kv).toNat)
  case atStart => exact ⟨0, [], Nat.zero_le _, rfl, START, (Below.refl _ _).alloc (Nat.le_refl _) _⟩
  case round =>
    clear START
    obtain ⟨k, vs, hk, rfl, hv, hb⟩ := hrel
    have hk0 : (0 : Int) ≤ (k : Int) := Int.natCast_nonneg _
    by_cases hlt : k < n
    · have hk1 : (k : Int) < (n : Int) := by omega
      obtain ⟨ad, row, Ak, ck, rfl, _, hrow, e1, g1, g2, g3, rr⟩ := (HXX.out.below hb).at_ hlt
      have hrl := HL.out row (List.mem_of_getElem? hrow)
      have HROW := Lib.hid hrow
      have hbs := hb.size
      have hlk : (rows.take k).length = k := by rw [List.length_take]; have := HN.out; omega
      obtain ⟨A7, c7, e7, _, _, _⟩ := hv.out.form
      rw [hlk] at e7
      subst e7
      have om2 := World.ownsRow_made (base := wr.heap.size) (e := 3) (size := 1) wr #[] 0 (Nat.le_refl _) (by unfold maxLen; omega) rfl
      have rr' := rr.alloc (Nat.le_refl _) (.cells #[] 3)
      have e1' := fun o => (World.cell?_alloc_some wr (ad.add k) o (by rw [e1]; rfl)).trans e1
      clear hrow g3 rr
      go_wp2_with (first
        | (at_builtin; (refine wpList_append_any _ rfl _ _ 40 rfl wr.heap.size 3 i0 _ 1 8 Tryd.underlying40 hi0 hz0 hz1 hz2 rfl (by omega) _ 0 [] rfl om2 wr.heap.size _ row.length ck (inCells row) rfl rr' (inCells_one row) (by unfold maxLen; omega) (by omega) (by simp) ?_; intro v1 w2 hown1 hg1 hat1; rw [List.nil_append, Nat.zero_add] at hown1; obtain ⟨Au, cu, rfl, _, _⟩ := own_form hown1; have b2 : Below wr.heap.size wr w2 := ((Below.refl _ _).alloc (Nat.le_refl _) _).grown hg1 (by simp) (fun g e => by simp [Act.eval, Value.ownBlock] at e ⊢; omega); have OU := Lib.hid hown1; have B2 := Lib.hid b2; have FR := Lib.hid (hv.out.fresh hown1); have HV2 := Lib.hid (hv.out.below b2); have hb2 := hb.trans (b2.mono hbs); have ho0 := HV2.out.own; rw [hlk] at ho0; clear hown1 hg1 hat1 b2 om2 rr' e1' e1))
        | (at_builtin; (refine wpList_append_own_at _ rfl _ _ 24 rfl w.heap.size 40 j0 _ 1 24 Tryd.underlying24 hjI hjz0 hjz1 hjz2 rfl (by decide) _ _ _ rfl (ho0.alloc _) ⟨w2.heap.size, 0, none⟩ 1 1 [.slice Au row.length cu] rfl rfl (cells_new _ _ _) (oneCells rfl) (by unfold maxLen; omega) (by omega) (by simp; have := hb2.size; omega) ?_; intro v' w6 hown' hgrow _ hat)))
      have V6 := Lib.hid ((HV2.out.alloc (.cells #[.slice Au row.length cu] 40)).push (r := row) (hi' := w6.heap.size) ((OU.out.alloc _).base_le hbs) hgrow (by rw [hlk]; exact hown') hat FR.out.1 FR.out.2 (Nat.le_trans B2.out.size (Nat.le_trans (by simp) hgrow.size)) (fun g e => (hown'.lt g e).2) (fun g e => Nat.lt_of_lt_of_le (OU.out.lt g e).2 (Nat.le_trans (by simp) hgrow.size)))
      have B6 := Lib.hid ((hb2.alloc hb2.size (.cells #[.slice Au row.length cu] 40)).grown hgrow (by have := hb2.size; simp; omega) (fun g e => (ho0.lt g e).1))
      clear ho0 hgrow hown' hat hb2
      go_roundw
      case rel => exact ⟨k + 1, _, by omega, by go_num, by rw [take_snoc rows k row HROW.out]; exact V6.out, B6.out⟩
      case measure => simp [intOf]; omega
    · obtain rfl : k = n := by omega
      go_wp2_with fail
      go_ret
      refine ⟨_, rfl, ⟨vs, ?_⟩, hb⟩
      have := hv.out
      rwa [List.take_of_length_le (by have := HN.out; omega)] at this
set_option maxHeartbeats 1600000 in
theorem l1OwnTable_any (v : Value) (names : List ByteArray) (rows : List (List Int)) (w : World) (ht : TabR w v names rows) (hs : Small names rows) :
    Calls Tryd.prog 26 #[v] w fun e w' => ∃ (A : Option Addr) (c : Nat) (B : Option Addr) (d : Nat), e = .returned (.agg #[.slice A names.length c, .slice B rows.length d]) ∧ TabO w' w.heap.size (.agg #[.slice A names.length c, .slice B rows.length d]) names rows ∧ Below w.heap.size w w' := by
  obtain ⟨A, c, B, d, rfl, _, hx, hy⟩ := ht
  obtain ⟨i0, hi0, hz0, hz1, hz2⟩ := info_parts infoStr
  obtain ⟨n, hnn⟩ : ∃ n, names.length = n := ⟨_, rfl⟩
  obtain ⟨m, hmm⟩ : ∃ m, rows.length = m := ⟨_, rfl⟩
  have hn1 := hs.n1
  have hm1 := hs.r1
  rw [hnn] at hx hn1 ⊢
  rw [hmm] at hy hm1 ⊢
  have OR := Lib.hid (fun (wr : World) (hb : Below w.heap.size w wr) => l1OwnRows_any B m d rows wr (hy.below hb) hm1 hs.ok.r2)
  obtain ⟨w1, hw1⟩ : ∃ w1, w1 = ((w.alloc (.cells #[.slice A n c, .slice B m d] 26)).alloc (.cells #[.slice none 0 0, .slice none 0 0] 26)).alloc (.cells #[.slice A n c, .slice B m d] 26) := ⟨_, rfl⟩
  have b1 : Below w.heap.size w w1 := by rw [hw1]; exact (((Below.refl _ _).alloc (Nat.le_refl _) _).alloc (by simp) _).alloc (by simp; omega) _
  have hs1 : w1.heap.size = w.heap.size + 1 + 1 + 1 := by rw [hw1]; simp
  have k1 : Blk w1 w.heap.size 26 #[.slice A n c, .slice B m d] := by rw [hw1]; exact ((Blk.new _ _ _).alloc _).alloc _
  have k2 : Blk w1 (w.heap.size + 1) 26 #[.slice none 0 0, .slice none 0 0] := by
    have := (Blk.new (w.alloc (.cells #[.slice A n c, .slice B m d] 26)) 26 #[.slice none 0 0, .slice none 0 0]).alloc (.cells #[.slice A n c, .slice B m d] 26)
    rw [World.size_alloc] at this
    rw [hw1]; exact this
  have k3 : Blk w1 (w.heap.size + 1 + 1) 26 #[.slice A n c, .slice B m d] := by
    have := Blk.new ((w.alloc (.cells #[.slice A n c, .slice B m d] 26)).alloc (.cells #[.slice none 0 0, .slice none 0 0] 26)) 26 #[.slice A n c, .slice B m d]
    rw [World.size_alloc, World.size_alloc] at this
    rw [hw1]; exact this
  have HX := Lib.hid (((hx.below b1).more b1.size).alloc (Nat.le_refl _) (.cells #[] 9))
  have c0 := (k1.alloc (.cells #[] 9)).cell 0
  simp at c0
  have om := World.ownsRow_made (base := w1.heap.size) (e := 9) (size := 1) w1 #[] 0 (Nat.le_refl _) (by unfold maxLen; omega) rfl
  rw [hs1] at om
  have HW := Lib.hid hw1
  have HNM := Lib.hid (And.intro hnn hmm)
  have K := Lib.hid (And.intro k1 (And.intro k2 k3))
  have B1 := Lib.hid b1
  clear hx hy hnn hmm hs hw1 k1 k2 k3 b1
  go_enter Tryd.func26, Tryd.ntmps26
  go_wp2_with (first
    | (at_builtin; rw [← HW.out]; refine wpList_append_any _ rfl _ _ 23 rfl (w.heap.size + 1 + 1 + 1) 9 i0 _ 1 16 Tryd.underlying23 hi0 hz0 hz1 hz2 rfl (by omega) _ 0 [] rfl om w1.heap.size _ n c (stCells names) rfl HX.out (stOne _) (by unfold maxLen; omega) (by omega) (by simp; omega) ?_; intro v2 w2 hown2 hg2 hat2; rw [List.nil_append, Nat.zero_add] at hown2; obtain ⟨A2, c2, rfl, _, _⟩ := own_form hown2; have b2 : Below w1.heap.size w1 w2 := ((Below.refl _ _).alloc (Nat.le_refl _) _).grown hg2 (by simp) (fun g e => by simp [Act.eval, Value.ownBlock] at e ⊢; omega); have k1 := K.out.1.below b2 K.out.1.lt; have k2 := K.out.2.1.below b2 K.out.2.1.lt; have k3 := K.out.2.2.below b2 K.out.2.2.lt; have x30 := k3.cell 0; have x31 := k3.cell 1; have f30 := k3.frozen 0; have x11 := k1.cell 1; simp at x30 x31 x11; have KK := Lib.hid (And.intro k1 (And.intro k2 k3)); have BB2 := Lib.hid b2; have OO2 := Lib.hid hown2; clear k1 k2 k3 b2 hg2 hat2 hown2 c0 om HX K))
  have B2 := B1.out.trans (BB2.out.mono B1.out.size)
  obtain ⟨m1, m2, m3⟩ := KK.out
  have o2 := OO2.out
  have hs2 := BB2.out.size
  obtain ⟨w3, hw3⟩ : ∃ w3, w3 = w2.setCell ⟨w.heap.size + 1 + 1, 0, none⟩ (.slice A2 n c2) := ⟨_, rfl⟩
  have B3 : Below w.heap.size w w3 := by rw [hw3]; exact B2.setCell (by show w.heap.size ≤ w.heap.size + 1 + 1; omega) _
  have o3 : w3.ownsRow (w.heap.size + 1 + 1 + 1) 9 1 (.slice A2 n c2) n (stCells names) := by rw [hw3]; exact ownsRow_setCell_below o2 (by show w.heap.size + 1 + 1 < w.heap.size + 1 + 1 + 1; omega) _
  have n1 : Blk w3 w.heap.size 26 #[.slice A n c, .slice B m d] := by rw [hw3]; exact m1.far (by show w.heap.size ≠ w.heap.size + 1 + 1; omega) _
  have n2 : Blk w3 (w.heap.size + 1) 26 #[.slice none 0 0, .slice none 0 0] := by rw [hw3]; exact m2.far (by show w.heap.size + 1 ≠ w.heap.size + 1 + 1; omega) _
  have n3 : Blk w3 (w.heap.size + 1 + 1) 26 #[.slice A2 n c2, .slice B m d] := by rw [hw3]; exact m3.set_ 0 (.slice A2 n c2)
  have hs3 : w3.heap.size = w2.heap.size := by rw [hw3]; simp [World.setCell]
  have HW3 := Lib.hid hw3
  have hs3l : w.heap.size + 1 + 1 + 1 ≤ w3.heap.size := by omega
  have TI3 := Lib.hid (OR.out w3 B3)
  rw [← HW3.out]
  clear o2 m1 m2 m3 OR hs1 hw3 KK BB2 OO2
  refine TI3.out.mono ?_
  rintro e w4 ⟨u, rfl, ⟨us, ou⟩, b4⟩
  obtain ⟨A4, c4, rfl, _, _⟩ := ou.form
  rw [HNM.out.2] at ou ⊢
  have B4 := B3.trans (b4.mono B3.size)
  have o4 := own_below o3 b4
  have p2 := n2.below b4 n2.lt
  have p3 := n3.below b4 n3.lt
  have hs4 := b4.size
  have x40 := p3.cell 0
  have x41 := p3.cell 1
  have f41 := p3.frozen 1
  have x20 := p2.cell 0
  have x21 := p2.cell 1
  have f20 := p2.frozen 0
  have f21 := p2.frozen 1
  simp at x40 x41 x20 x21
  have F := Lib.hid (fun (w' : World) (ht : Touch (w.heap.size + 1) (w.heap.size + 1 + 1 + 1) w4 w') (hsz : w'.heap.size = w4.heap.size) => And.intro (ht.own_above o4 (by omega)) (And.intro (And.intro (ou.touch ht (Or.inr (by omega))) hsz) (ht.below B4 (by omega))))
  have P2 := Lib.hid p2
  clear n1 n2 n3 p2 p3 x30 x31 x11 f30 TI3 HW3 hs3 b4 B3 B2 o4 o3 ou B4
  go_wp2_with fail
  have tt : Touch (w.heap.size + 1) (w.heap.size + 1 + 1 + 1) w4 (((w4.setCell ⟨w.heap.size + 1 + 1, 1, none⟩ (.slice A4 m c4)).setCell ⟨w.heap.size + 1, 0, none⟩ (.slice A2 n c2)).setCell ⟨w.heap.size + 1, 1, none⟩ (.slice A4 m c4)) :=
    (((Touch.refl _ _ _).setCell (p := ⟨w.heap.size + 1 + 1, 1, none⟩) (Or.inl (by simp)) _).setCell (p := ⟨w.heap.size + 1, 0, none⟩) (Or.inl (by simp)) _).setCell (p := ⟨w.heap.size + 1, 1, none⟩) (Or.inl (by simp)) _
  have G := F.out _ tt (by simp [World.setCell])
  have q1 := P2.out.far (p := ⟨w.heap.size + 1 + 1, 1, none⟩) (by show w.heap.size + 1 ≠ w.heap.size + 1 + 1; omega) (.slice A4 m c4)
  have q2 := q1.set_ 0 (.slice A2 n c2)
  have q3 := q2.set_ 1 (.slice A4 m c4)
  have r0 := q3.cell 0
  have r1 := q3.cell 1
  simp at r0 r1
  clear q1 q2 q3 tt x40 x41 x20 x21 f20 f21 f41 P2 F
  generalize (((w4.setCell ⟨w.heap.size + 1 + 1, 1, none⟩ (.slice A4 m c4)).setCell ⟨w.heap.size + 1, 0, none⟩ (.slice A2 n c2)).setCell ⟨w.heap.size + 1, 1, none⟩ (.slice A4 m c4)) = w6 at G r0 r1 ⊢
  refine bodyPost_ret (v := .agg #[.slice A2 n c2, .slice A4 m c4]) (by simp [results, Tryd.results26, go_sem, r0, r1]) rfl ⟨_, _, _, _, rfl, ⟨_, _, rfl, ?_, ⟨us, (G.2.1.1.low (by omega)).wide (by omega)⟩⟩, G.2.2⟩
  rw [HNM.out.1]
  exact G.1.base_le (by omega)
end Go.Proofs.YtijpdekcdejfmaaDoor
