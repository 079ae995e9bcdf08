/- laws.toNamed, toNamedS. -/
import Derived.Test.YtcgmcikceohdoaaDoorCat
namespace Go.Proofs.YtcgmcikceohdoaaDoor
open Go Go.RowKit
set_option maxRecDepth 100000

set_option maxHeartbeats 1600000 in
theorem toNamed_any (v : Value) (c : CatE) (w : World) (hv : NamR w v c) (hs : SmallE c) :
    Calls Tryd.prog 71 #[v] w fun e w' => ∃ (A : Option Addr) (ca : Nat) (B : Option Addr) (db : Nat), e = .returned (.agg #[.string c.1, .slice A c.2.1.length ca, .slice B c.2.2.length db]) ∧ TabO w' w.heap.size (.agg #[.slice A c.2.1.length ca, .slice B c.2.2.length db]) c.2.1 c.2.2 ∧ Below w.heap.size w w' := by
  obtain ⟨A, ca, B, db, rfl, hx⟩ := hv
  obtain ⟨s, names, rows⟩ := c
  have hsm : Small names rows := hs.t
  simp only at hx ⊢
  have TO := Lib.hid (fun (wr : World) (hb : Below w.heap.size w wr) => toTab_any _ names rows wr (hx.below hb) hsm)
  obtain ⟨n, hnn⟩ : ∃ n, names.length = n := ⟨_, rfl⟩
  obtain ⟨m, hmm⟩ : ∃ m, rows.length = m := ⟨_, rfl⟩
  rw [hnn, hmm] at TO ⊢
  clear hx hs hsm hnn hmm
  go_enter Tryd.func71, Tryd.ntmps71
  obtain ⟨w2, hw2⟩ : ∃ w2, w2 = ((w.alloc (.cells #[.string s, .slice A n ca, .slice B m db] 91)).alloc (.cells #[.string ⟨#[]⟩, .slice none 0 0, .slice none 0 0] 58)).alloc (.cells #[.string s, .slice none 0 0, .slice none 0 0] 58) := ⟨_, rfl⟩
  have B2 : Below w.heap.size w w2 := by rw [hw2]; exact (((Below.refl _ _).alloc (Nat.le_refl _) _).alloc (by simp) _).alloc (by simp; omega) _
  have hs2 : w2.heap.size = w.heap.size + 1 + 1 + 1 := by rw [hw2]; simp
  have hs2l : w.heap.size + 1 + 1 + 1 ≤ w2.heap.size := by omega
  have k2 : Blk w2 (w.heap.size + 1) 58 #[.string ⟨#[]⟩, .slice none 0 0, .slice none 0 0] := by
    have := (Blk.new (w.alloc (.cells #[.string s, .slice A n ca, .slice B m db] 91)) 58 #[.string ⟨#[]⟩, .slice none 0 0, .slice none 0 0]).alloc (.cells #[.string s, .slice none 0 0, .slice none 0 0] 58)
    rw [World.size_alloc] at this
    rw [hw2]; exact this
  have k3 : Blk w2 (w.heap.size + 1 + 1) 58 #[.string s, .slice none 0 0, .slice none 0 0] := by
    have := (Blk.new ((w.alloc (.cells #[.string s, .slice A n ca, .slice B m db] 91)).alloc (.cells #[.string ⟨#[]⟩, .slice none 0 0, .slice none 0 0] 58)) 58 #[.string s, .slice none 0 0, .slice none 0 0])
    rw [World.size_alloc, World.size_alloc] at this
    rw [hw2]; exact this
  have TO2 := Lib.hid (TO.out w2 B2)
  have HW := Lib.hid hw2
  clear TO hs2 hw2
  go_wp2_with fail
  rw [← HW.out]
  refine TO2.out.mono ?_
  rintro e w3 ⟨A3, c3, B3, d3, rfl, o3, b3⟩
  have B3' := B2.trans (b3.mono B2.size)
  have m2 := k2.below b3 k2.lt
  have m3 := k3.below b3 k3.lt
  have hs3 := b3.size
  have x0 := m3.cell 0
  have x1 := m3.cell 1
  have x2 := m3.cell 2
  have f1 := m3.frozen 1
  have f2 := m3.frozen 2
  have y0 := m2.cell 0
  have y1 := m2.cell 1
  have y2 := m2.cell 2
  have g0 := m2.frozen 0
  have g1 := m2.frozen 1
  have g2 := m2.frozen 2
  simp at x0 x1 x2 y0 y1 y2
  have F := Lib.hid (fun (w' : World) (ht : Touch (w.heap.size + 1) (w.heap.size + 1 + 1 + 1) w3 w') (hsz : w'.heap.size = w3.heap.size) => And.intro ((o3.touch ht (by omega) hsz).low (show w.heap.size ≤ w2.heap.size by omega)) (ht.below B3' (by omega)))
  have P2 := Lib.hid m2
  clear k2 k3 TO2 HW B2 o3 b3 m2 m3 B3'
  go_wp2_with fail
  have tt : Touch (w.heap.size + 1) (w.heap.size + 1 + 1 + 1) w3 (((((w3.setCell ⟨w.heap.size + 1 + 1, 1, none⟩ (.slice A3 n c3)).setCell ⟨w.heap.size + 1 + 1, 2, none⟩ (.slice B3 m d3)).setCell ⟨w.heap.size + 1, 0, none⟩ (.string s)).setCell ⟨w.heap.size + 1, 1, none⟩ (.slice A3 n c3)).setCell ⟨w.heap.size + 1, 2, none⟩ (.slice B3 m d3)) :=
    (((((Touch.refl _ _ _).setCell (p := ⟨w.heap.size + 1 + 1, 1, none⟩) (Or.inl (by simp)) _).setCell (p := ⟨w.heap.size + 1 + 1, 2, none⟩) (Or.inl (by simp)) _).setCell (p := ⟨w.heap.size + 1, 0, none⟩) (Or.inl (by simp)) _).setCell (p := ⟨w.heap.size + 1, 1, none⟩) (Or.inl (by simp)) _).setCell (p := ⟨w.heap.size + 1, 2, none⟩) (Or.inl (by simp)) _
  have G := F.out _ tt (by simp [World.setCell])
  have s1 := P2.out.far (p := ⟨w.heap.size + 1 + 1, 1, none⟩) (by show w.heap.size + 1 ≠ w.heap.size + 1 + 1; omega) (.slice A3 n c3)
  have s1' := s1.far (p := ⟨w.heap.size + 1 + 1, 2, none⟩) (by show w.heap.size + 1 ≠ w.heap.size + 1 + 1; omega) (.slice B3 m d3)
  have s2 := s1'.set_ 0 (.string s)
  have s3 := s2.set_ 1 (.slice A3 n c3)
  have s4 := s3.set_ 2 (.slice B3 m d3)
  have r0 := s4.cell 0
  have r1 := s4.cell 1
  have r2 := s4.cell 2
  simp at r0 r1 r2
  clear s1 s1' s2 s3 s4 tt x0 x1 x2 y0 y1 y2 g0 g1 g2 f1 f2 P2 F
  generalize (((((w3.setCell ⟨w.heap.size + 1 + 1, 1, none⟩ (.slice A3 n c3)).setCell ⟨w.heap.size + 1 + 1, 2, none⟩ (.slice B3 m d3)).setCell ⟨w.heap.size + 1, 0, none⟩ (.string s)).setCell ⟨w.heap.size + 1, 1, none⟩ (.slice A3 n c3)).setCell ⟨w.heap.size + 1, 2, none⟩ (.slice B3 m d3)) = w7 at G r0 r1 r2 ⊢
  exact bodyPost_ret (v := .agg #[.string s, .slice A3 n c3, .slice B3 m d3]) (by simp [results, Tryd.results71, go_sem, r0, r1, r2]) rfl ⟨_, _, _, _, rfl, G.1, G.2⟩
theorem infoNamed : (Tryd.prog.info? 58).map (fun i => (i.zero, i.size, i.bytes)) = some (some (.agg #[.string ⟨#[]⟩, .slice none 0 0, .slice none 0 0]), 3, 64) := by kernel_rfl
def CatV (w : World) (lo : Nat) (cs : List CatE) (D : List Value) (j : Nat) : Prop := ∀ (k : Nat) (c : CatE), k < j → cs[k]? = some c → ∃ (Ak : Option Addr) (ck : Nat) (Bk : Option Addr) (dk : Nat),
  D[k * 3]? = some (.string c.1) ∧ D[k * 3 + 1]? = some (.slice Ak c.2.1.length ck) ∧ D[k * 3 + 2]? = some (.slice Bk c.2.2.length dk) ∧ TabO w lo (.agg #[.slice Ak c.2.1.length ck, .slice Bk c.2.2.length dk]) c.2.1 c.2.2
theorem CatV.step {w w' w'' : World} {lo G j : Nat} {cs : List CatE} {D : List Value} {c : CatE} {Ak : Option Addr} {ck : Nat} {Bk : Option Addr} {dk : Nat} (h : CatV w lo cs D j) (hb : Below w.heap.size w w') (ht : Touch G (G + 1) w' w'') (hs : w''.heap.size = w'.heap.size) (hG : G + 1 ≤ lo)
    (hc : cs[j]? = some c) (hD : j * 3 + 2 < D.length) (ho : TabO w' lo (.agg #[.slice Ak c.2.1.length ck, .slice Bk c.2.2.length dk]) c.2.1 c.2.2) :
    CatV w'' lo cs (((D.set (j * 3) (.string c.1)).set (j * 3 + 1) (.slice Ak c.2.1.length ck)).set (j * 3 + 2) (.slice Bk c.2.2.length dk)) (j + 1) := by
  intro k c' hk hc'
  rcases Nat.lt_succ_iff_lt_or_eq.1 hk with hlt | rfl
  · obtain ⟨Ak', ck', Bk', dk', h1, h2, h3, h4⟩ := h k c' hlt hc'
    refine ⟨Ak', ck', Bk', dk', ?_, ?_, ?_, (h4.below hb).touch ht hG hs⟩
    · rw [List.getElem?_set_ne (by omega), List.getElem?_set_ne (by omega), List.getElem?_set_ne (by omega)]; exact h1
    · rw [List.getElem?_set_ne (by omega), List.getElem?_set_ne (by omega), List.getElem?_set_ne (by omega)]; exact h2
    · rw [List.getElem?_set_ne (by omega), List.getElem?_set_ne (by omega), List.getElem?_set_ne (by omega)]; exact h3
  · obtain rfl := Option.some.inj (hc.symm.trans hc')
    refine ⟨Ak, ck, Bk, dk, ?_, ?_, ?_, ho.touch ht hG hs⟩
    · rw [List.getElem?_set_ne (by omega), List.getElem?_set_ne (by omega), List.getElem?_set_self (by omega)]
    · rw [List.getElem?_set_ne (by omega), List.getElem?_set_self (by rw [List.length_set]; omega)]
    · rw [List.getElem?_set_self (by rw [List.length_set, List.length_set]; omega)]
set_option maxHeartbeats 1600000 in
theorem toNamedS_any (A : Option Addr) (n c : Nat) (cs : List CatE) (w : World) (hx : CatR w A n cs) (hn : n ≤ 1048576) (hs : ∀ c ∈ cs, SmallE c) :
    Calls Tryd.prog 41 #[.slice A n c] w fun e w' => ∃ (A' : Option Addr) (c' : Nat), e = .returned (.slice A' n c') ∧ CatR w' A' n cs ∧ Below w.heap.size w w' := by
  obtain ⟨i0, hi0, hz0, hz1, hz2⟩ := info_parts infoNamed
  have HX := Lib.hid (fun (wr : World) (hb : Below w.heap.size w wr) => hx.below hb)
  have HL := Lib.hid hx.1
  have HS := Lib.hid hs
  clear hx hs
  go_enter Tryd.func41, Tryd.ntmps41
  go_wp2_with (at_make; refine wpList_make_full _ rfl _ _ 54 rfl w.heap.size 58 i0 _ 3 Tryd.underlying54 hi0 hz0 hz1 .i64 .i64 _ _ n rfl rfl rfl rfl (by rw [hz2]; omega) (by unfold maxLen; omega) (Nat.le_refl _) ?_; intro w1 hown1 hgrow1)
  have hb1 : Below w.heap.size w w1 := (Below.refl _ _).grown hgrow1 (Nat.le_refl _) (by simp)
  clear hgrow1
  go_loopw [4] (fun i wr => ∃ (j : Nat) (D : List Value), j ≤ n ∧ i = .int .i64 j ∧ wr.ownsRow w.heap.size 58 3 (.slice (some ⟨w.heap.size, 0, none⟩) n n) n D ∧ Hid (CatV wr (w.heap.size + 1) cs D j) ∧ Below w.heap.size w wr) (fun i _ => n - (intOf i).toNat)
  case atStart => exact ⟨0, _, Nat.zero_le _, rfl, hown1, fun k c hk => by omega, hb1⟩
  case round =>
    clear hown1 hb1
    obtain ⟨j, D, hj, rfl, hown, hcv, hb⟩ := hrel
    by_cases hlt : j < n
    · obtain ⟨ad, s, names, rows, Ak, ck, Bk, dk, rfl, hc, e1, e2, e3, tt⟩ := (HX.out wr hb).at_ hlt
      have S := Lib.hid (toNamed_any _ (s, names, rows) wr ⟨Ak, ck, Bk, dk, rfl, tt⟩ (HS.out _ (List.mem_of_getElem? hc)))
      have HC := Lib.hid hc
      have HO1 := Lib.hid hown
      clear hc tt hown
      go_wp2_with fail
      refine S.out.mono ?_
      rintro e w2 ⟨A2, c2, B2, d2, rfl, o2, hb2⟩
      have hown := HO1.out
      have ho2 := own_below hown hb2
      have hbb := hb.trans (hb2.mono hb.size)
      have hl := ho2.1
      have hlen := ho2.1
      obtain ⟨y0, h0⟩ : ∃ u, w2.cell? ⟨w.heap.size, j * 3, none⟩ = some u := ⟨_, (ho2.cellAt (j * 3) (by omega)).trans (List.getElem?_eq_getElem (by omega))⟩
      obtain ⟨y1, h1⟩ : ∃ u, w2.cell? ⟨w.heap.size, j * 3 + 1, none⟩ = some u := ⟨_, (ho2.cellAt (j * 3 + 1) (by omega)).trans (List.getElem?_eq_getElem (by omega))⟩
      obtain ⟨y2, h2⟩ : ∃ u, w2.cell? ⟨w.heap.size, j * 3 + 2, none⟩ = some u := ⟨_, (ho2.cellAt (j * 3 + 2) (by omega)).trans (List.getElem?_eq_getElem (by omega))⟩
      have f0 := ho2.frozenAt (j * 3)
      have f1 := ho2.frozenAt (j * 3 + 1)
      have f2 := ho2.frozenAt (j * 3 + 2)
      have hG := (hown.lt w.heap.size rfl).2
      have O2 := Lib.hid (o2.low (show w.heap.size + 1 ≤ wr.heap.size by omega))
      have HO := Lib.hid ho2
      have HB2 := Lib.hid hb2
      have HLE := Lib.hid (show j * 3 + 2 < D.length by omega)
      clear ho2 hl hown hb hb2 o2 hlen HO1 e1 e2 e3 hG
      go_wp2
      go_roundw
      case rel =>
        have s1 := HO.out.stored (j * 3) (.string s)
        have s2 := s1.1.stored (j * 3 + 1) (.slice A2 names.length c2)
        have s3 := s2.1.stored (j * 3 + 2) (.slice B2 rows.length d2)
        have tt : Touch w.heap.size (w.heap.size + 1) w2 (((w2.setCell ⟨w.heap.size, j * 3, none⟩ (.string s)).setCell ⟨w.heap.size, j * 3 + 1, none⟩ (.slice A2 names.length c2)).setCell ⟨w.heap.size, j * 3 + 2, none⟩ (.slice B2 rows.length d2)) :=
          (((Touch.refl _ _ _).setCell (p := ⟨w.heap.size, j * 3, none⟩) (Or.inl (by simp)) _).setCell (p := ⟨w.heap.size, j * 3 + 1, none⟩) (Or.inl (by simp)) _).setCell (p := ⟨w.heap.size, j * 3 + 2, none⟩) (Or.inl (by simp)) _
        refine ⟨j + 1, _, by omega, by go_num, s3.1, CatV.step hcv.out HB2.out tt (by simp [World.setCell]) (Nat.le_refl _) HC.out HLE.out O2.out, ?_⟩
        exact hbb.grown ((s1.2.trans s2.2).trans s3.2) hbb.size (by simp)
      case measure => simp [intOf]; omega
    · obtain rfl : j = n := by omega
      go_wp2
      go_ret
      refine ⟨_, _, rfl, ⟨HL.out, fun k c hc => ?_⟩, hb⟩
      have hk : k < j := by have := (List.getElem?_eq_some_iff.1 hc).1; have := HL.out; omega
      obtain ⟨Ak, ck, Bk, dk, h1, h2, h3, h4⟩ := hcv.out k c hk hc
      have hl := hown.1
      have hadd : (⟨w.heap.size, 0, none⟩ : Addr).add (k * 3) = ⟨w.heap.size, k * 3, none⟩ := by
        unfold Addr.add
        by_cases h : k * 3 = 0 <;> simp [h]
      refine ⟨⟨w.heap.size, 0, none⟩, Ak, ck, Bk, dk, rfl, ?_, ?_, ?_, h4.reads⟩ <;> rw [hadd]
      · exact (hown.cellAt (k * 3) (by omega)).trans h1
      · exact (hown.cellAt (k * 3 + 1) (by omega)).trans h2
      · exact (hown.cellAt (k * 3 + 2) (by omega)).trans h3
end Go.Proofs.YtcgmcikceohdoaaDoor
