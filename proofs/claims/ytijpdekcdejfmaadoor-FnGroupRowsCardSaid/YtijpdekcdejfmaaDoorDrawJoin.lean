/- spec.DrawJoinRows. -/
import Derived.Test.YtijpdekcdejfmaaDoorDrawLim
import Derived.Test.YtijpdekcdejfmaaDoorDrawNames
namespace Go.Proofs.YtijpdekcdejfmaaDoor
open Go Go.RowKit
set_option maxRecDepth 100000
/-- The blocks that the region may change: the reader's, the two results'. -/
def N3 (R D E : Nat) (k : Nat) : Prop := k = R ∨ k = D ∨ k = E
theorem TabO.chg {N : Nat → Prop} {w w' : World} {lo : Nat} {v : Value} {names : List ByteArray} {rows : List (List Int)} (h : TabO w lo v names rows) (hc : Chg N w w') (hN : ∀ g, lo ≤ g → ¬ N g) : TabO w' lo v names rows := by
  obtain ⟨v0, v1, e, g0, vs, g1⟩ := h
  exact ⟨v0, v1, e, hc.own g0 (fun g e => hN g (g0.lt g e).1), vs, (g1.block (fun g h1 hg _ => hc.block g hg (hN g h1))).wide hc.size⟩
structure ClJ (R B D E T U : Nat) (F0 F1 G0 G1 : Value) (w0 wT : World) (f : Nat) (listed : Array Bool) (w : World) : Prop where
  rc : listed.getD 18 true = false → Rc w R (B + f)
  lr : R < w.heap.size
  bel : Below w0.heap.size w0 w
  chg : Chg (N3 R D E) wT w
  blk : ∃ x y, Blk w D 26 #[x, y]
  blk2 : ∃ x y, Blk w E 26 #[x, y]
  tab : Blk w T 26 #[F0, F1]
  tab2 : Blk w U 26 #[G0, G1]
  ne : (T ≠ R ∧ T ≠ D ∧ T ≠ E) ∧ (U ≠ R ∧ U ≠ D ∧ U ≠ E) ∧ D ≠ R ∧ E ≠ R ∧ D ≠ E
  done : listed.getD 18 false = true → Blk w D 26 #[F0, F1]
  done2 : listed.getD 19 false = true → Blk w E 26 #[G0, G1] ∧ listed.getD 18 false = true
section
variable {R B D E T U f i : Nat} {F0 F1 G0 G1 : Value} {w0 wT w w' : World} {listed : Array Bool}
theorem ClJ.lt (h : ClJ R B D E T U F0 F1 G0 G1 w0 wT f listed w) : ¬ N3 R D E w.heap.size := by
  obtain ⟨x, y, hb⟩ := h.blk
  obtain ⟨x', y', hb'⟩ := h.blk2
  have h1 := hb.lt
  have h3 := hb'.lt
  have h2 := h.lr
  unfold N3; omega
theorem ClJ.step0 (hi : i ≠ 18 ∧ i ≠ 19) (h : ClJ R B D E T U F0 F1 G0 G1 w0 wT (f + 1) listed w) : ClJ R B D E T U F0 F1 G0 G1 w0 wT f (listed.setIfInBounds i true) w :=
  ⟨fun e => (h.rc (by rwa [set_ne hi.1] at e)).less (by omega), h.lr, h.bel, h.chg, h.blk, h.blk2, h.tab, h.tab2, h.ne, fun e => h.done (by rwa [set_ne hi.1] at e), fun e => by rw [set_ne hi.2] at e; rw [set_ne hi.1]; exact h.done2 e⟩
theorem ClJ.alloc (hi : i ≠ 18 ∧ i ≠ 19) (h : ClJ R B D E T U F0 F1 G0 G1 w0 wT (f + 1) listed w) (ob : Obj) : ClJ R B D E T U F0 F1 G0 G1 w0 wT f (listed.setIfInBounds i true) (w.alloc ob) := by
  obtain ⟨x, y, hb⟩ := h.blk
  obtain ⟨x', y', hb'⟩ := h.blk2
  exact ⟨fun e => ((h.rc (by rwa [set_ne hi.1] at e)).less (by omega)).alloc ob, by have := h.lr; simp; omega, h.bel.alloc h.bel.size ob, h.chg.alloc ob, ⟨x, y, hb.alloc ob⟩, ⟨x', y', hb'.alloc ob⟩, h.tab.alloc ob, h.tab2.alloc ob, h.ne, fun e => Blk.alloc (h.done (by rwa [set_ne hi.1] at e)) ob, fun e => by
    rw [set_ne hi.2] at e; rw [set_ne hi.1]; exact ⟨(h.done2 e).1.alloc ob, (h.done2 e).2⟩⟩
theorem ClJ.pick (hi : i ≠ 18 ∧ i ≠ 19) (hR : w0.heap.size ≤ R) (ho : listed.getD 18 true = false) (hr : Rc w' R (B + f)) (ht : Touch R (R + 1) w w') (h : ClJ R B D E T U F0 F1 G0 G1 w0 wT (f + 1) listed w) : ClJ R B D E T U F0 F1 G0 G1 w0 wT f (listed.setIfInBounds i true) w' := by
  obtain ⟨x, y, hb⟩ := h.blk
  obtain ⟨x', y', hb'⟩ := h.blk2
  obtain ⟨⟨n1, n2, n3⟩, ⟨n4, n5, n6⟩, n7, n8, n9⟩ := h.ne
  have no : listed.getD 18 false = true → False := fun e => by
    rw [getD_true e] at ho
    cases ho
  exact ⟨fun _ => hr, hr.lt, ht.below h.bel hR, h.chg.trans (Chg.of_pick ht (.inl rfl)), ⟨x, y, ht.blk hb (by omega)⟩, ⟨x', y', ht.blk hb' (by omega)⟩, ht.blk h.tab (by omega), ht.blk h.tab2 (by omega), h.ne, fun e => by
    rw [set_ne hi.1] at e
    exact (no e).elim, fun e => by
    rw [set_ne hi.2] at e
    exact (no (h.done2 e).2).elim⟩
theorem ClJ.store1 (hp : Blk ((w.setCell ⟨D, 0, none⟩ F0).setCell ⟨D, 1, none⟩ F1) D 26 #[F0, F1]) (hD : w0.heap.size ≤ D) (hK : 18 < listed.size) (h : ClJ R B D E T U F0 F1 G0 G1 w0 wT (f + 1) listed w) : ClJ R B D E T U F0 F1 G0 G1 w0 wT f (listed.setIfInBounds 18 true) ((w.setCell ⟨D, 0, none⟩ F0).setCell ⟨D, 1, none⟩ F1) := by
  have tt : Touch D (D + 1) w ((w.setCell ⟨D, 0, none⟩ F0).setCell ⟨D, 1, none⟩ F1) := ((Touch.refl _ _ _).setCell (p := ⟨D, 0, none⟩) (Or.inl ⟨Nat.le_refl _, Nat.lt_succ_self _⟩) _).setCell (p := ⟨D, 1, none⟩) (Or.inl ⟨Nat.le_refl _, Nat.lt_succ_self _⟩) _
  obtain ⟨x', y', hb'⟩ := h.blk2
  obtain ⟨⟨n1, n2, n3⟩, ⟨n4, n5, n6⟩, n7, n8, n9⟩ := h.ne
  exact ⟨fun e => by simp [Array.getD, hK] at e, Nat.lt_of_lt_of_le h.lr tt.size, (h.bel.setCell (p := ⟨D, 0, none⟩) hD _).setCell (p := ⟨D, 1, none⟩) hD _, (h.chg.trans (Chg.setCell _ (.inr (.inl rfl)) _)).trans (Chg.setCell _ (.inr (.inl rfl)) _), ⟨_, _, hp⟩, ⟨x', y', tt.blk hb' (by omega)⟩, tt.blk h.tab (by omega), tt.blk h.tab2 (by omega), h.ne, fun _ => hp, fun e => by
    rw [set_ne (by decide)] at e
    exact ⟨tt.blk (h.done2 e).1 (by omega), by simp [Array.getD, hK]⟩⟩
theorem ClJ.store2 (hp : Blk ((w.setCell ⟨E, 0, none⟩ G0).setCell ⟨E, 1, none⟩ G1) E 26 #[G0, G1]) (hE : w0.heap.size ≤ E) (hK : 19 < listed.size) (h18 : listed.getD 18 false = true) (h : ClJ R B D E T U F0 F1 G0 G1 w0 wT (f + 1) listed w) : ClJ R B D E T U F0 F1 G0 G1 w0 wT f (listed.setIfInBounds 19 true) ((w.setCell ⟨E, 0, none⟩ G0).setCell ⟨E, 1, none⟩ G1) := by
  have tt : Touch E (E + 1) w ((w.setCell ⟨E, 0, none⟩ G0).setCell ⟨E, 1, none⟩ G1) := ((Touch.refl _ _ _).setCell (p := ⟨E, 0, none⟩) (Or.inl ⟨Nat.le_refl _, Nat.lt_succ_self _⟩) _).setCell (p := ⟨E, 1, none⟩) (Or.inl ⟨Nat.le_refl _, Nat.lt_succ_self _⟩) _
  obtain ⟨x', y', hb'⟩ := h.blk
  obtain ⟨⟨n1, n2, n3⟩, ⟨n4, n5, n6⟩, n7, n8, n9⟩ := h.ne
  have no : listed.getD 18 true = false → False := fun e => by rw [getD_true h18] at e; cases e
  exact ⟨fun e => by rw [set_ne (by decide)] at e; exact (no e).elim, Nat.lt_of_lt_of_le h.lr tt.size, (h.bel.setCell (p := ⟨E, 0, none⟩) hE _).setCell (p := ⟨E, 1, none⟩) hE _, (h.chg.trans (Chg.setCell _ (.inr (.inr rfl)) _)).trans (Chg.setCell _ (.inr (.inr rfl)) _), ⟨x', y', tt.blk hb' (by omega)⟩, ⟨_, _, hp⟩, tt.blk h.tab (by omega), tt.blk h.tab2 (by omega), h.ne, fun e => tt.blk (h.done h18) (by omega), fun _ => ⟨hp, by rw [set_ne (by decide)]; exact h18⟩⟩
end
def joinV (R D E : Nat) (F0 F1 G0 G1 : Value) (i : Nat) (v : Value) (w : World) : Prop := match i with
  | 0 => v = .agg #[F0, F1]
  | 1 => v = .agg #[G0, G1]
  | 2 | 10 => RowB (N3 R D E) 9 (StrB 5) 3 v w
  | 3 | 11 => RowB (N3 R D E) 3 (NatB 3) 5 v w
  | 4 | 12 => v = .pointer (some ⟨R, 0, none⟩)
  | 5 | 13 => NatB 5 v w
  | 6 | 14 => AddB (N3 R D E) (NatB 3) v w
  | 7 | 15 => NatB 3 v w
  | 8 | 16 => AddB (N3 R D E) (StrB 5) v w
  | 9 | 17 | 20 | 21 => StrB 5 v w
  | _ => True
theorem joinV_stable {R D E : Nat} {F0 F1 G0 G1 : Value} : ∀ i v w w', joinV R D E F0 F1 G0 G1 i v w → Mv (N3 R D E) (fun _ => True) w w' → joinV R D E F0 F1 G0 G1 i v w' := by
  intro i v w w' hv hs
  unfold joinV at hv ⊢
  split at hv <;> first | exact hv | exact rowB_stable strB_stable v w w' hv hs | exact rowB_stable natB_stable v w w' hv hs | exact addB_stable natB_stable v w w' hv hs | exact addB_stable strB_stable v w w' hv hs
/-- What a drawing of two tables and two texts leaves. -/
def DrewJoin (w : World) (e : Ending) (w' : World) : Prop := ∃ (nv rv nv2 rv2 : Value) (l r : ByteArray) (na : List ByteArray) (ra : List (List Int)) (nb : List ByteArray) (rb : List (List Int)), e = .returned (.tuple #[.agg #[nv, rv], .agg #[nv2, rv2], .string l, .string r]) ∧ TabO w' w.heap.size (.agg #[nv, rv]) na ra ∧ DrawnT na ra ∧ TabO w' w.heap.size (.agg #[nv2, rv2]) nb rb ∧ DrawnT nb rb ∧ Below w.heap.size w w'
set_option maxHeartbeats 1600000 in
theorem drawJoin_any (A : Option Addr) (n c : Nat) (xs : List UInt8) (w : World) (hx : Reads w w.heap.size 1 A n (byCells xs)) (hl : xs.length = n) (hn : n ≤ 1048576) (hc : n ≤ c) (hc2 : c ≤ maxLen) :
    Calls Tryd.prog 13 #[.slice A n c] w (DrewJoin w) := by
  obtain ⟨ii, hii, hiz, his', iib⟩ := info_parts infoInt
  obtain ⟨is, his, hsz, hss, isb⟩ := info_parts infoStr
  have HO := Lib.hid (fun (w' : World) (hb : Below w.heap.size w w') => open_c A n c xs w' ((hx.below hb).more hb.size) hl hn hc hc2)
  clear hx hl
  go_enter Tryd.func13, Tryd.ntmps13
  go_wp2_with fail
  obtain ⟨w0, hw0⟩ : ∃ w0, w0 = (w.alloc (.cells #[.slice none 0 0, .slice none 0 0] 26)).alloc (.cells #[.slice none 0 0, .slice none 0 0] 26) := ⟨_, rfl⟩
  have b0 : Below w.heap.size w w0 := by rw [hw0]; exact ((Below.refl _ _).alloc (Nat.le_refl _) _).alloc (by simp) _
  have k0 : Blk w0 w.heap.size 26 #[.slice none 0 0, .slice none 0 0] := by rw [hw0]; exact (Blk.new _ _ _).alloc _
  have k0' : Blk w0 (w.heap.size + 1) 26 #[.slice none 0 0, .slice none 0 0] := by
    rw [hw0]
    have h := Blk.new (w.alloc (.cells #[.slice none 0 0, .slice none 0 0] 26)) 26 #[.slice none 0 0, .slice none 0 0]
    rw [World.size_alloc] at h
    exact h
  rw [← hw0]
  clear hw0
  refine (HO.out w0 b0).mono ?_
  rintro e w1 ⟨rfl, r1, b1, -⟩
  have hk0 := k0'.lt
  have k1 := k0.below b1 k0.lt
  have k1' := k0'.below b1 k0'.lt
  have B1 := b0.trans (b1.mono b0.size)
  clear k0 k0'
  go_wp2_with fail
  refine (table_c _ 14100 0 12 _ (r1.less (by omega)) (by omega) (by omega)).mono ?_
  rintro e w3 ⟨nv, rv, na, ra, rfl, ho, hdA, r3, t3⟩
  have hsz1 : w0.heap.size + 1 ≤ w1.heap.size := r1.lt
  have k3 := t3.blk k1 (by omega)
  have k3' := t3.blk k1' (by omega)
  have hsz3 : w1.heap.size ≤ w3.heap.size := t3.size
  have B3 := t3.below B1 (by omega)
  obtain ⟨A4, c4, A5, c5, rfl, rfl⟩ := ho.form
  clear k1 k1'
  go_wp2_with fail
  obtain ⟨w5, hw5⟩ : ∃ w5, w5 = w3.alloc (.cells #[.slice A4 na.length c4, .slice A5 ra.length c5] 26) := ⟨_, rfl⟩
  have b5 : Below w3.heap.size w3 w5 := by rw [hw5]; exact (Below.refl _ _).alloc (Nat.le_refl _) _
  have k5 : Blk w5 w3.heap.size 26 #[.slice A4 na.length c4, .slice A5 ra.length c5] := by rw [hw5]; exact Blk.new _ _ _
  have hs5 : w5.heap.size = w3.heap.size + 1 := by rw [hw5]; simp
  have r5 := r3.below b5
  have HO5 := Lib.hid (ho.below b5)
  have k53 := k3.below b5 k3.lt
  have k53' := k3'.below b5 k3'.lt
  have B5 := B3.trans (b5.mono B3.size)
  clear ho k3 k3' b5
  obtain ⟨w6, hw6⟩ : ∃ w6, w6 = w5.alloc (.cells #[.int .i64 1, .int .i64 1, .int .i64 1, .int .i64 2, .int .i64 0] 3) := ⟨_, rfl⟩
  have hsw6 : w3.heap.size + 1 = w5.heap.size := hs5.symm
  rw [hw5] at hw6
  try simp only [World.size_alloc] at *
  rw [← hw6]
  rw [← hw5] at hw6
  have b6 : Below w5.heap.size w5 w6 := by rw [hw6]; exact (Below.refl _ _).alloc (Nat.le_refl _) _
  have k6 : Blk w6 (w3.heap.size + 1) 3 #[.int .i64 1, .int .i64 1, .int .i64 1, .int .i64 2, .int .i64 0] := by rw [hw6, hsw6]; exact Blk.new _ _ _
  have k65 := k5.below b6 k5.lt
  have k63 := k53.below b6 k53.lt
  have k63' := k53'.below b6 k53'.lt
  have r6 := r5.below b6
  have B6 := B5.trans (b6.mono B5.size)
  have hs6 := b6.size
  have C6 : Chg (N3 w0.heap.size w.heap.size (w.heap.size + 1)) w5 w6 := ⟨b6.size, fun k hk _ => b6.block k hk⟩
  have hs5' : w3.heap.size + 1 ≤ w5.heap.size := by omega
  clear k5 k53 k53' hw6 hw5 b6 hs5 hsw6
  refine (pick_c w0.heap.size 14050 5 w6 (r6.less (by omega)) (by decide)).mono ?_
  rintro e w7 ⟨x, rfl, hx5, r7, t7, -⟩
  have k7 := t7.blk k6 (by omega)
  have k75 := t7.blk k65 (by omega)
  have k73 := t7.blk k63 (by omega)
  have k73' := t7.blk k63' (by omega)
  have B7 := t7.below B6 (by omega)
  have hs7 := t7.size
  obtain ⟨kd, hkd, hcell⟩ : ∃ kd : Nat, kd < 3 ∧ w7.cell? ⟨w3.heap.size + 1, x, none⟩ = some (.int .i64 (kd : Int)) := by
    have h := k7.cell x
    have : x = 0 ∨ x = 1 ∨ x = 2 ∨ x = 3 ∨ x = 4 := by omega
    rcases this with rfl | rfl | rfl | rfl | rfl
    · exact ⟨1, by decide, h⟩
    · exact ⟨1, by decide, h⟩
    · exact ⟨1, by decide, h⟩
    · exact ⟨2, by decide, h⟩
    · exact ⟨0, by decide, h⟩
  have hx0 : (0 : Int) ≤ (x : Int) := Int.natCast_nonneg _
  have hx5' : (x : Int) < 5 := by omega
  have C7 := C6.trans (Chg.of_pick t7 (.inl rfl))
  clear hx5 k6 k65 k63 k63' k7 t7 C6
  go_wp2_with fail
  refine (table_c _ 50 kd 12 _ (r7.less (by omega)) hkd (by omega)).mono ?_
  rintro e w8 ⟨nv, rv, nb, rb, rfl, ho, hdB, r8, t8⟩
  have k85 := t8.blk k75 (by omega)
  have k83 := t8.blk k73 (by omega)
  have k83' := t8.blk k73' (by omega)
  have B8 := t8.below B7 (by omega)
  have hs8 := t8.size
  have C8 := C7.trans (Chg.of_pick t8 (.inl rfl))
  obtain ⟨A6, c6, A7, c7, rfl, rfl⟩ := ho.form
  clear k75 k73 k73' hcell C7 t8
  go_wp2_with fail
  obtain ⟨w9, hw9⟩ : ∃ w9, w9 = w8.alloc (.cells #[.slice A6 nb.length c6, .slice A7 rb.length c7] 26) := ⟨_, rfl⟩
  have b9 : Below w8.heap.size w8 w9 := by rw [hw9]; exact (Below.refl _ _).alloc (Nat.le_refl _) _
  have k9 : Blk w9 w8.heap.size 26 #[.slice A6 nb.length c6, .slice A7 rb.length c7] := by rw [hw9]; exact Blk.new _ _ _
  rw [← hw9]
  clear hw9
  have r9 := r8.below b9
  have HO9 := Lib.hid (ho.below b9)
  have k95 := k85.below b9 k85.lt
  have k93 := k83.below b9 k83.lt
  have k93' := k83'.below b9 k83'.lt
  have B9 := B8.trans (b9.mono B8.size)
  have C59 : Hid (Chg (N3 w0.heap.size w.heap.size (w.heap.size + 1)) w5 w9) := Lib.hid (C8.trans ⟨b9.size, fun k hk _ => b9.block k hk⟩)
  have hwR : w.heap.size ≤ w0.heap.size := by omega
  have hwD : w.heap.size ≤ w.heap.size := Nat.le_refl _
  have hwE : w.heap.size ≤ w.heap.size + 1 := Nat.le_succ _
  have CI := Lib.hid (show ClJ w0.heap.size 20 w.heap.size (w.heap.size + 1) w3.heap.size w8.heap.size (.slice A4 na.length c4) (.slice A5 ra.length c5) (.slice A6 nb.length c6) (.slice A7 rb.length c7) w w9 22 (Array.replicate 22 false) w9.drew from ⟨fun _ => r9.drew.less (by omega), r9.lt, B9.drew, ⟨Nat.le_refl _, fun _ _ _ => rfl⟩, ⟨_, _, k93.drew⟩, ⟨_, _, k93'.drew⟩, k95.drew, k9.drew, by omega, fun e => by simp at e, fun e => by simp at e⟩)
  clear k85 k83 k83' k95 k93 k93' k9 C8 ho b9
  refine wp_region_typedGL (by kernel_rfl) (fun i => i == 20 || i == 21) (lift <| joinV w0.heap.size w.heap.size (w.heap.size + 1) (.slice A4 na.length c4) (.slice A5 ra.length c5) (.slice A6 nb.length c6) (.slice A7 rb.length c7)) (fun _ => Mv (N3 w0.heap.size w.heap.size (w.heap.size + 1)) (fun _ => True)) (ClJ w0.heap.size 20 w.heap.size (w.heap.size + 1) w3.heap.size w8.heap.size (.slice A4 na.length c4) (.slice A5 ra.length c5) (.slice A6 nb.length c6) (.slice A7 rb.length c7) w w9) (by kernel_rfl) (stab joinV_stable) ?_ ?_ ?_ (by kernel_rfl) ?_
  · exact dst_lt (n := 38) (by kernel_rfl)
  · exact CI.out
  · refine ok_all ⟨?_, ?_, ?_, ?_, ?_, ?_, ?_, ?_, ?_, ?_, ?_, ?_, ?_, ?_, ?_, ?_, ?_, ?_, ?_, ?_, ?_, ?_, trivial⟩
    · refine okL rfl ?_
      intro f listed a w' hl hc hs hr hh
      have h0 : a.tmps.getD 7 undef = .pointer (some ⟨w3.heap.size, 0, none⟩) := hr 7 (not_dst (by kernel_rfl))
      have h0' : a.tmps[7]?.getD undef = .pointer (some ⟨w3.heap.size, 0, none⟩) := by simpa using h0
      have y0 := hc.tab.cell 0
      have y1 := hc.tab.cell 1
      simp at y0 y1
      exact wp_valL (v := .agg #[(.slice A4 na.length c4), (.slice A5 ra.length c5)]) (by simp [execOp, go_sem, Act.eval, h0', y0, y1]) ⟨_, rfl, rfl, Mv.refl _, hc.step0 (by decide)⟩
    · refine okL rfl ?_
      intro f listed a w' hl hc hs hr hh
      have h0 : a.tmps.getD 8 undef = .pointer (some ⟨w8.heap.size, 0, none⟩) := hr 8 (not_dst (by kernel_rfl))
      have h0' : a.tmps[8]?.getD undef = .pointer (some ⟨w8.heap.size, 0, none⟩) := by simpa using h0
      have y0 := hc.tab2.cell 0
      have y1 := hc.tab2.cell 1
      simp at y0 y1
      exact wp_valL (v := .agg #[(.slice A6 nb.length c6), (.slice A7 rb.length c7)]) (by simp [execOp, go_sem, Act.eval, h0', y0, y1]) ⟨_, rfl, rfl, Mv.refl _, hc.step0 (by decide)⟩
    · refine okL rfl ?_
      intro f listed a w' hl hc hs hr hh
      refine wp_buildSlice 23 9 3 _ rfl #[.string ⟨#[97]⟩, .string ⟨#[98]⟩, .string ⟨#[120]⟩] is _ Tryd.underlying23 his hsz (by rw [hss]; decide) (by rw [hss]; decide) ?_ ⟨_, rfl, ⟨w'.heap.size, [.string ⟨#[97]⟩, .string ⟨#[98]⟩, .string ⟨#[120]⟩], rfl, hc.lt, Blk.new _ _ _, rfl, ?_⟩, ⟨(Chg.refl _).alloc _, fun _ => trivial⟩, hc.alloc (by decide) _⟩
      · rw [hss]; kernel_rfl
      · intro u hu
        simp only [List.mem_cons, List.not_mem_nil, or_false] at hu
        rcases hu with rfl | rfl | rfl <;> exact ⟨_, rfl, by decide⟩
    · refine okL rfl ?_
      intro f listed a w' hl hc hs hr hh
      refine wp_buildSlice 40 3 5 _ rfl #[.int .i64 0, .int .i64 0, .int .i64 0, .int .i64 1, .int .i64 2] ii _ Tryd.underlying40 hii hiz (by rw [his']; decide) (by rw [his']; decide) ?_ ⟨_, rfl, ⟨w'.heap.size, [.int .i64 0, .int .i64 0, .int .i64 0, .int .i64 1, .int .i64 2], rfl, hc.lt, Blk.new _ _ _, rfl, ?_⟩, ⟨(Chg.refl _).alloc _, fun _ => trivial⟩, hc.alloc (by decide) _⟩
      · rw [his']; kernel_rfl
      · intro u hu
        simp only [List.mem_cons, List.not_mem_nil, or_false] at hu
        rcases hu with rfl | rfl | rfl | rfl | rfl
        · exact ⟨0, rfl, by decide⟩
        · exact ⟨0, rfl, by decide⟩
        · exact ⟨0, rfl, by decide⟩
        · exact ⟨1, rfl, by decide⟩
        · exact ⟨2, rfl, by decide⟩
    · refine okL rfl ?_
      intro f listed a w' hl hc hs hr hh
      have h0 : a.tmps.getD 6 undef = .pointer (some ⟨w0.heap.size, 0, none⟩) := hr 6 (not_dst (by kernel_rfl))
      exact op_move rfl ⟨_, rfl, h0, Mv.refl _, hc.step0 (by decide)⟩
    · refine okL rfl ?_
      intro f listed a w' hl hc hs hr hh
      obtain ⟨_, rfl, h1⟩ := hh ⟨4, .data⟩ (by simp) rfl
      have h1 := h1 24 rfl
      have hop := hl.up (k := 18) rfl ⟨13, .chain⟩ (by simp) rfl (hl.up (k := 13) rfl ⟨5, .chain⟩ (by simp) rfl hl.here)
      refine op_call Tryd.func22 (by kernel_rfl) rfl rfl ?_
      rw [show #[Operand.tmp 24, Operand.const (Value.int .i64 5)].map a.eval = #[.pointer (some ⟨w0.heap.size, 0, none⟩), .int .i64 5] by simp [Act.eval]; simpa using h1]
      refine (pick_c w0.heap.size (20 + f) 5 w' ((hc.rc hop).less (by omega)) (by decide)).mono ?_
      rintro e w3 ⟨x, rfl, hx, h2, h3, _⟩
      exact ⟨_, rfl, _, rfl, ⟨x, rfl, by omega⟩, ⟨Chg.of_pick h3 (.inl rfl), fun _ => trivial⟩, hc.pick (by decide) hwR hop h2 h3⟩
    · refine okL rfl ?_
      intro f listed a w' hl hc hs hr hh
      obtain ⟨_, ⟨g, vs, rfl, hg, hb, hln, hq⟩, h1⟩ := hh ⟨3, .data⟩ (by simp) rfl
      have h1 := h1 23 rfl
      obtain ⟨_, ⟨x, rfl, hx⟩, h2⟩ := hh ⟨5, .data⟩ (by simp) rfl
      have h2 := h2 25 rfl
      exact op_index (i := x) rfl Tryd.underlying40 (by kernel_rfl) h1 h2 hx ⟨_, rfl, rowB_at hg hb hln hq hx, Mv.refl _, hc.step0 (by decide)⟩
    · refine okL rfl ?_
      intro f listed a w' hl hc hs hr hh
      obtain ⟨_, ⟨ad, u, rfl, _, hcell, hq⟩, h1⟩ := hh ⟨6, .data⟩ (by simp) rfl
      have h1 := h1 26 rfl
      exact op_load rfl h1 hcell (by simp [go_sem]) ⟨_, rfl, hq, Mv.refl _, hc.step0 (by decide)⟩
    · refine okL rfl ?_
      intro f listed a w' hl hc hs hr hh
      obtain ⟨_, ⟨g, vs, rfl, hg, hb, hln, hq⟩, h1⟩ := hh ⟨2, .data⟩ (by simp) rfl
      have h1 := h1 22 rfl
      obtain ⟨_, ⟨x, rfl, hx⟩, h2⟩ := hh ⟨7, .data⟩ (by simp) rfl
      have h2 := h2 27 rfl
      exact op_index (i := x) rfl Tryd.underlying23 (by kernel_rfl) h1 h2 hx ⟨_, rfl, rowB_at hg hb hln hq hx, Mv.refl _, hc.step0 (by decide)⟩
    · refine okL rfl ?_
      intro f listed a w' hl hc hs hr hh
      obtain ⟨_, ⟨ad, u, rfl, _, hcell, hq⟩, h1⟩ := hh ⟨8, .data⟩ (by simp) rfl
      have h1 := h1 28 rfl
      exact op_load rfl h1 hcell (by simp [go_sem]) ⟨_, rfl, hq, Mv.refl _, hc.step0 (by decide)⟩
    · refine okL rfl ?_
      intro f listed a w' hl hc hs hr hh
      refine wp_buildSlice 23 9 3 _ rfl #[.string ⟨#[107, 101, 121]⟩, .string ⟨#[118, 97, 108, 117, 101]⟩, .string ⟨#[120]⟩] is _ Tryd.underlying23 his hsz (by rw [hss]; decide) (by rw [hss]; decide) ?_ ⟨_, rfl, ⟨w'.heap.size, [.string ⟨#[107, 101, 121]⟩, .string ⟨#[118, 97, 108, 117, 101]⟩, .string ⟨#[120]⟩], rfl, hc.lt, Blk.new _ _ _, rfl, ?_⟩, ⟨(Chg.refl _).alloc _, fun _ => trivial⟩, hc.alloc (by decide) _⟩
      · rw [hss]; kernel_rfl
      · intro u hu
        simp only [List.mem_cons, List.not_mem_nil, or_false] at hu
        rcases hu with rfl | rfl | rfl <;> exact ⟨_, rfl, by decide⟩
    · refine okL rfl ?_
      intro f listed a w' hl hc hs hr hh
      refine wp_buildSlice 40 3 5 _ rfl #[.int .i64 0, .int .i64 0, .int .i64 0, .int .i64 1, .int .i64 2] ii _ Tryd.underlying40 hii hiz (by rw [his']; decide) (by rw [his']; decide) ?_ ⟨_, rfl, ⟨w'.heap.size, [.int .i64 0, .int .i64 0, .int .i64 0, .int .i64 1, .int .i64 2], rfl, hc.lt, Blk.new _ _ _, rfl, ?_⟩, ⟨(Chg.refl _).alloc _, fun _ => trivial⟩, hc.alloc (by decide) _⟩
      · rw [his']; kernel_rfl
      · intro u hu
        simp only [List.mem_cons, List.not_mem_nil, or_false] at hu
        rcases hu with rfl | rfl | rfl | rfl | rfl
        · exact ⟨0, rfl, by decide⟩
        · exact ⟨0, rfl, by decide⟩
        · exact ⟨0, rfl, by decide⟩
        · exact ⟨1, rfl, by decide⟩
        · exact ⟨2, rfl, by decide⟩
    · refine okL rfl ?_
      intro f listed a w' hl hc hs hr hh
      have h0 : a.tmps.getD 6 undef = .pointer (some ⟨w0.heap.size, 0, none⟩) := hr 6 (not_dst (by kernel_rfl))
      exact op_move rfl ⟨_, rfl, h0, Mv.refl _, hc.step0 (by decide)⟩
    · refine okL rfl ?_
      intro f listed a w' hl hc hs hr hh
      obtain ⟨_, rfl, h1⟩ := hh ⟨12, .data⟩ (by simp) rfl
      have h1 := h1 32 rfl
      have hop := hl.up (k := 18) rfl ⟨13, .chain⟩ (by simp) rfl hl.here
      refine op_call Tryd.func22 (by kernel_rfl) rfl rfl ?_
      rw [show #[Operand.tmp 32, Operand.const (Value.int .i64 5)].map a.eval = #[.pointer (some ⟨w0.heap.size, 0, none⟩), .int .i64 5] by simp [Act.eval]; simpa using h1]
      refine (pick_c w0.heap.size (20 + f) 5 w' ((hc.rc hop).less (by omega)) (by decide)).mono ?_
      rintro e w3 ⟨x, rfl, hx, h2, h3, _⟩
      exact ⟨_, rfl, _, rfl, ⟨x, rfl, by omega⟩, ⟨Chg.of_pick h3 (.inl rfl), fun _ => trivial⟩, hc.pick (by decide) hwR hop h2 h3⟩
    · refine okL rfl ?_
      intro f listed a w' hl hc hs hr hh
      obtain ⟨_, ⟨g, vs, rfl, hg, hb, hln, hq⟩, h1⟩ := hh ⟨11, .data⟩ (by simp) rfl
      have h1 := h1 31 rfl
      obtain ⟨_, ⟨x, rfl, hx⟩, h2⟩ := hh ⟨13, .data⟩ (by simp) rfl
      have h2 := h2 33 rfl
      exact op_index (i := x) rfl Tryd.underlying40 (by kernel_rfl) h1 h2 hx ⟨_, rfl, rowB_at hg hb hln hq hx, Mv.refl _, hc.step0 (by decide)⟩
    · refine okL rfl ?_
      intro f listed a w' hl hc hs hr hh
      obtain ⟨_, ⟨ad, u, rfl, _, hcell, hq⟩, h1⟩ := hh ⟨14, .data⟩ (by simp) rfl
      have h1 := h1 34 rfl
      exact op_load rfl h1 hcell (by simp [go_sem]) ⟨_, rfl, hq, Mv.refl _, hc.step0 (by decide)⟩
    · refine okL rfl ?_
      intro f listed a w' hl hc hs hr hh
      obtain ⟨_, ⟨g, vs, rfl, hg, hb, hln, hq⟩, h1⟩ := hh ⟨10, .data⟩ (by simp) rfl
      have h1 := h1 30 rfl
      obtain ⟨_, ⟨x, rfl, hx⟩, h2⟩ := hh ⟨15, .data⟩ (by simp) rfl
      have h2 := h2 35 rfl
      exact op_index (i := x) rfl Tryd.underlying23 (by kernel_rfl) h1 h2 hx ⟨_, rfl, rowB_at hg hb hln hq hx, Mv.refl _, hc.step0 (by decide)⟩
    · refine okL rfl ?_
      intro f listed a w' hl hc hs hr hh
      obtain ⟨_, ⟨ad, u, rfl, _, hcell, hq⟩, h1⟩ := hh ⟨16, .data⟩ (by simp) rfl
      have h1 := h1 36 rfl
      exact op_load rfl h1 hcell (by simp [go_sem]) ⟨_, rfl, hq, Mv.refl _, hc.step0 (by decide)⟩
    · refine okL rfl ?_
      intro f listed a w' hl hc hs hr hh
      obtain ⟨_, rfl, h1⟩ := hh ⟨0, .data⟩ (by simp) rfl
      have h1 := h1 20 rfl
      have h0 : a.tmps.getD 2 undef = .pointer (some ⟨w.heap.size, 0, none⟩) := hr 2 (not_dst (by kernel_rfl))
      have h0' : a.tmps[2]?.getD undef = .pointer (some ⟨w.heap.size, 0, none⟩) := by simpa using h0
      have h1' : a.tmps[20]?.getD undef = .agg #[(.slice A4 na.length c4), (.slice A5 ra.length c5)] := by simpa using h1
      obtain ⟨x, y, hD⟩ := hc.blk
      have y0 := hD.cell 0
      have y1 := hD.cell 1
      have f0 := hD.frozen 0
      have f1 := hD.frozen 1
      simp at y0 y1
      have hb' := (hD.set_ 0 (.slice A4 na.length c4)).set_ 1 (.slice A5 ra.length c5)
      simp at hb'
      unfold Oper.wp
      simp [execOp, h0', h1', go_sem, y0, y1, f0, f1, run_store, storeCells, Oper.upon]
      exact ⟨⟨undef, trivial⟩, ⟨(Chg.setCell _ (.inr (.inl rfl)) _).trans (Chg.setCell _ (.inr (.inl rfl)) _), fun _ => trivial⟩, hc.store1 hb' hwD (by rw [hl.size]; decide)⟩
    · refine okL rfl ?_
      intro f listed a w' hl hc hs hr hh
      obtain ⟨_, rfl, h1⟩ := hh ⟨1, .data⟩ (by simp) rfl
      have h1 := h1 21 rfl
      have h0 : a.tmps.getD 3 undef = .pointer (some ⟨(w.heap.size + 1), 0, none⟩) := hr 3 (not_dst (by kernel_rfl))
      have h0' : a.tmps[3]?.getD undef = .pointer (some ⟨(w.heap.size + 1), 0, none⟩) := by simpa using h0
      have h1' : a.tmps[21]?.getD undef = .agg #[(.slice A6 nb.length c6), (.slice A7 rb.length c7)] := by simpa using h1
      obtain ⟨x, y, hD⟩ := hc.blk2
      have y0 := hD.cell 0
      have y1 := hD.cell 1
      have f0 := hD.frozen 0
      have f1 := hD.frozen 1
      simp at y0 y1
      have hb' := (hD.set_ 0 (.slice A6 nb.length c6)).set_ 1 (.slice A7 rb.length c7)
      simp at hb'
      unfold Oper.wp
      simp [execOp, h0', h1', go_sem, y0, y1, f0, f1, run_store, storeCells, Oper.upon]
      exact ⟨⟨undef, trivial⟩, ⟨(Chg.setCell _ (.inr (.inr rfl)) _).trans (Chg.setCell _ (.inr (.inr rfl)) _), fun _ => trivial⟩, hc.store2 hb' hwE (by rw [hl.size]; decide) (hl.aft ⟨18, .chain⟩ (by simp) rfl)⟩
    · refine okL rfl ?_
      intro f listed a w' hl hc hs hr hh
      obtain ⟨_, ⟨s, rfl, hs⟩, h1⟩ := hh ⟨9, .data⟩ (by simp) rfl
      have h1 := h1 29 rfl
      exact op_assign rfl ⟨_, rfl, ⟨s, h1, hs⟩, Mv.refl _, hc.step0 (by decide)⟩
    · refine okL rfl ?_
      intro f listed a w' hl hc hs hr hh
      obtain ⟨_, ⟨s, rfl, hs⟩, h1⟩ := hh ⟨17, .data⟩ (by simp) rfl
      have h1 := h1 37 rfl
      exact op_assign rfl ⟨_, rfl, ⟨s, h1, hs⟩, Mv.refl _, hc.step0 (by decide)⟩
  · intro a w' hs hd' hr hh hcl
    obtain ⟨listed, hall, hc⟩ := hcl
    have hP := hc.done (hall 18 (by decide))
    have hP2 := (hc.done2 (hall 19 (by decide))).1
    obtain ⟨_, ⟨sl, rfl, _⟩, h4⟩ := hh 20 (by decide) rfl
    obtain ⟨_, ⟨sr, rfl, _⟩, h5⟩ := hh 21 (by decide) rfl
    have h4 := h4 4 rfl
    have h5 := h5 5 rfl
    have e2 : a.tmps.getD 2 undef = .pointer (some ⟨w.heap.size, 0, none⟩) := hr 2 (not_dst (by kernel_rfl))
    have e3 : a.tmps.getD 3 undef = .pointer (some ⟨w.heap.size + 1, 0, none⟩) := hr 3 (not_dst (by kernel_rfl))
    have ea : a = ⟨#[a.tmps.getD 0 undef, a.tmps.getD 1 undef, a.tmps.getD 2 undef, a.tmps.getD 3 undef, a.tmps.getD 4 undef, a.tmps.getD 5 undef, a.tmps.getD 6 undef, a.tmps.getD 7 undef, a.tmps.getD 8 undef, a.tmps.getD 9 undef, a.tmps.getD 10 undef, a.tmps.getD 11 undef, a.tmps.getD 12 undef, a.tmps.getD 13 undef, a.tmps.getD 14 undef, a.tmps.getD 15 undef, a.tmps.getD 16 undef, a.tmps.getD 17 undef, a.tmps.getD 18 undef, a.tmps.getD 19 undef, a.tmps.getD 20 undef, a.tmps.getD 21 undef, a.tmps.getD 22 undef, a.tmps.getD 23 undef, a.tmps.getD 24 undef, a.tmps.getD 25 undef, a.tmps.getD 26 undef, a.tmps.getD 27 undef, a.tmps.getD 28 undef, a.tmps.getD 29 undef, a.tmps.getD 30 undef, a.tmps.getD 31 undef, a.tmps.getD 32 undef, a.tmps.getD 33 undef, a.tmps.getD 34 undef, a.tmps.getD 35 undef, a.tmps.getD 36 undef, a.tmps.getD 37 undef], []⟩ := act_lit 38 hs hd'
    rw [e2, e3, h4, h5] at ea
    obtain ⟨V, hV⟩ : ∃ V : Nat → Value, ∀ i, a.tmps.getD i undef = V i := ⟨_, fun _ => rfl⟩
    simp only [hV] at ea
    have r0 := Blk.cell hP 0
    have r1 := Blk.cell hP 1
    have r2 := Blk.cell hP2 0
    have r3 := Blk.cell hP2 1
    simp at r0 r1 r2 r3
    have hnd : ∀ g, w1.heap.size ≤ g → ¬ N3 w0.heap.size w.heap.size (w.heap.size + 1) g := fun g hg => by unfold N3; omega
    have T1 := HO5.out.chg (C59.out.trans (Chg.trans ⟨Nat.le_refl _, fun _ _ _ => rfl⟩ hc.chg)) hnd
    have T2 := HO9.out.chg hc.chg (fun g hg => hnd g (by omega))
    have hB := hc.bel
    clear hs hd' hr hh hV e2 e3 h4 h5 hall hc hP hP2 CI
    subst ea
    go_wp2_with fail
    exact bodyPost_ret (v := .tuple #[.agg #[_, _], .agg #[_, _], .string sl, .string sr]) (by simp [results, Tryd.results13, go_sem, r0, r1, r2, r3]) rfl ⟨_, _, _, _, sl, sr, na, ra, nb, rb, rfl, T1.low (by omega), hdA, T2.low (by omega), hdB, hB⟩
end Go.Proofs.YtijpdekcdejfmaaDoor
