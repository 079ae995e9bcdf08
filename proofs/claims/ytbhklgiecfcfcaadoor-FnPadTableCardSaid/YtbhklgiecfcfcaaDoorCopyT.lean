/- spec.l5Copy. -/
import Derived.Test.YtbhklgiecfcfcaaDoorHalf
import Derived.Deep.RegionLaw
namespace Go.Proofs.YtbhklgiecfcfcaaDoor
open Go Go.RowKit
set_option maxRecDepth 100000
set_option maxHeartbeats 1600000 in
theorem l5Copy_any (v : Value) (names : List ByteArray) (rows : List (List Int)) (w : World) (ht : TabR w v names rows) (hs : Small names rows) :
    Calls Tryd.prog 30 #[v] w fun e w' => ∃ (A : Option Addr) (c : Nat) (B : Option Addr) (d : Nat), rows.length ≤ d ∧ e = .returned (.agg #[.slice A names.length c, .slice B rows.length d]) ∧ TabO w' w.heap.size (.agg #[.slice A names.length c, .slice B rows.length d]) names rows ∧ Below w.heap.size w w' := by
  obtain ⟨A, c, B, d, rfl, _, hx, hy⟩ := ht
  obtain ⟨i0, hi0, hz0, hz1, hz2⟩ := info_parts infoStr
  obtain ⟨j0, hjI, hjz0, hjz1, hjz2⟩ := info_parts infoRow
  obtain ⟨n, hnn⟩ : ∃ n, names.length = n := ⟨_, rfl⟩
  obtain ⟨m, hmm⟩ : ∃ m, rows.length = m := ⟨_, rfl⟩
  have hn1 := hs.n1
  have hm1 := hs.r1
  have HR2 := Lib.hid hs.r2
  rw [hnn] at hx hn1 ⊢
  rw [hmm] at hy hm1 ⊢
  obtain ⟨w1, hw1⟩ : ∃ w1, w1 = (w.alloc (.cells #[.slice A n c, .slice B m d] 26)).alloc (.cells #[.slice none 0 0, .slice none 0 0] 26) := ⟨_, rfl⟩
  have b1 : Below w.heap.size w w1 := by rw [hw1]; exact ((Below.refl _ _).alloc (Nat.le_refl _) _).alloc (by simp) _
  have hs1 : w1.heap.size = w.heap.size + 2 := by rw [hw1]; simp
  have k1 : Blk w1 w.heap.size 26 #[.slice A n c, .slice B m d] := by rw [hw1]; exact (Blk.new _ _ _).alloc _
  have k2 : Blk w1 (w.heap.size + 1) 26 #[.slice none 0 0, .slice none 0 0] := by
    have := Blk.new (w.alloc (.cells #[.slice A n c, .slice B m d] 26)) 26 #[.slice none 0 0, .slice none 0 0]
    rw [World.size_alloc] at this
    rw [hw1]; exact this
  have c0 := (k1.alloc (.cells #[] 9)).cell 0
  simp at c0
  have HX := Lib.hid (((hx.below b1).more b1.size).alloc (Nat.le_refl _) (.cells #[] 9))
  have HY := Lib.hid (hy.below b1)
  have HW := Lib.hid hw1
  have B1 := Lib.hid b1
  clear hx hy hw1 hs
  have om := World.ownsRow_made (base := w1.heap.size) (e := 9) (size := 1) w1 #[] 0 (Nat.le_refl _) (by unfold maxLen; omega) rfl
  have hs1' : w1.heap.size = w.heap.size + 1 + 1 := hs1
  rw [hs1'] at om
  clear hs1 b1
  go_enter Tryd.func30, Tryd.ntmps30
  go_wp2_with (first
    | (at_builtin; rw [← HW.out]; refine wpList_append_any _ rfl _ _ 23 rfl (w.heap.size + 1 + 1) 9 i0 _ 1 16 Tryd.underlying23 hi0 hz0 hz1 hz2 rfl (by omega) _ 0 [] rfl om w1.heap.size _ n c (stCells names) rfl HX.out (stOne _) (by unfold maxLen; omega) (by omega) (by simp; omega) ?_; intro v3 w3 hown3 hg3 hat3; rw [List.nil_append, Nat.zero_add] at hown3; obtain ⟨A3, c3, rfl, _, _⟩ := own_form hown3))
  have hsz3 := hg3.size
  have hb3 : Below w1.heap.size w1 w3 := ((Below.refl _ _).alloc (Nat.le_refl _) _).grown hg3 (by simp) (fun g e => by simp [Act.eval, Value.ownBlock, hs1'] at e ⊢; omega)
  have hb3s := hb3.size
  have HT1 : w1.heap.size ≤ w3.heap.size := by omega
  have START : Hid (Half w1 (w3.alloc (.cells #[.slice A3 n c3, .slice none 0 0] 26)) w1.heap.size w3.heap.size 26 #[.slice A3 n c3, .slice none 0 0] (.slice A3 n c3) (.slice none 0 0) names [] []) :=
    Lib.hid ⟨Blk.new _ _ _, by rw [hnn, hs1']; exact hown3.alloc _, fun g e => (hown3.lt g e).2, RowsV.nil _ _ _, hb3.alloc hb3s _, HT1⟩
  have K12 := Lib.hid (And.intro k1 k2)
  clear k1 k2 om c0 hb3 hb3s hsz3 hg3 hat3 hown3 HX
  go_loopw [4] (fun kv wr => ∃ (k : Nat) (vs : List Value) (ov : Value), k ≤ m ∧ kv = .int .i64 k ∧ Hid (Half w1 wr w1.heap.size w3.heap.size 26 #[.slice A3 n c3, ov] (.slice A3 n c3) ov names vs (rows.take k))) (fun kv _ => m - (intOf kv).toNat)
  case atStart => exact ⟨0, [], _, Nat.zero_le _, rfl, by rw [List.take_zero]; exact START⟩
  case round =>
    clear START
    obtain ⟨k, vs, ov, hk, rfl, hh⟩ := hrel
    have hk0 : (0 : Int) ≤ (k : Int) := Int.natCast_nonneg _
    have x1 := (K12.out.1.below hh.out.below K12.out.1.lt).cell 1
    simp at x1
    by_cases hlt : k < m
    · have hk1 : (k : Int) < (m : Int) := by omega
      obtain ⟨ad, row, Ak, ck, rfl, hadb, hrow, e1, g1, g2, g3, rr⟩ := (HY.out.belowW (Nat.le_refl _) hh.out.below).at_ hlt
      have CL := Lib.hid (fun (w' : World) (h' : Below wr.heap.size wr w') => l1Copy_any Ak row.length ck row w' ((rr.belowW hh.out.below.size h').more (Nat.le_trans hh.out.below.size h'.size)) (by have := HR2.out row (List.mem_of_getElem? hrow); omega))
      have hlk : (rows.take k).length = k := by rw [List.length_take]; omega
      have x3 := hh.out.blk.cell 1
      simp at x3
      obtain ⟨A7, c7, e7, _, _, _⟩ := hh.out.rows.form
      rw [hlk] at e7
      subst e7
      have hwT := hh.out.lt
      have HA7 := Lib.hid hh.out.rvge
      have FIN := Lib.hid (show ∀ (w' : World) (u : Value) (t : TypeId), w'.ownsRow wr.drew.heap.size 3 1 u row.length (inCells row) → Below wr.drew.heap.size wr.drew w' → ∀ (v6 : Value) (w6 : World), w6.ownsRow (w3.heap.size + 1) 49 1 v6 (k + 1) (vs ++ [u]) → (w'.alloc (.cells #[u] t)).grownBy w6 (Value.slice A7 k c7).ownBlock → (v6.ownBlock = (Value.slice A7 k c7).ownBlock ∨ v6.ownBlock = some (w'.alloc (.cells #[u] t)).heap.size) →
          Hid (Half w1 (w6.setCell ⟨w3.heap.size, 1, none⟩ v6) w1.heap.size w3.heap.size 26 #[.slice A3 n c3, v6] (.slice A3 n c3) v6 names (vs ++ [u]) (rows.take (k + 1))) from by
        intro w' u t ou hb v6 w6 ho6 hg6 hd6
        rw [take_snoc rows k row hrow]
        exact Lib.hid (hh.out.drew.push ou hb (by rw [hlk]; exact ho6) hg6 hd6))
      clear hrow g3 rr hadb
      go_wp2_with fail
      go_region_law (first
          | (refine step_call (by rfl) (f := 39) Tryd.func39 (by kernel_rfl) (by kernel_rfl) (by rfl) #[.slice Ak row.length ck] (by kernel_rfl) ?_; refine (CL.out _ ((Below.refl _ _).drew)).mono ?_; rintro e w' ⟨u, rfl, ou, hb'⟩; obtain ⟨Au, cu, rfl, _, _⟩ := own_form ou; have x3' := below_keep hb' (show wr.drew.cell? ⟨w3.heap.size, 1, none⟩ = _ from x3); refine ⟨_, rfl, ?_⟩; have x3a := fun o => (World.cell?_alloc_some w' ⟨w3.heap.size, 1, none⟩ o (by rw [x3']; rfl)).trans x3')
          | ((refine step_append_any _ (by rfl) (.tmp 18) (.tmp 25) 24 (by rfl) (w3.heap.size + 1) 49 j0 _ 1 24 Tryd.underlying24 hjI hjz0 hjz1 hjz2 (by rfl) (by decide) _ k vs (by rfl) (by have h := (hh.out.drew.go hb').rows.own; rw [hlk] at h; exact h.alloc _) (w'.heap.size + 1) (some ⟨w'.heap.size, 0, none⟩) 1 1 [.slice Au row.length cu] (by rfl) ⟨rfl, fun _ => ⟨_, rfl, by simp, cells_new _ _ _⟩⟩ (oneCells rfl) (by unfold maxLen; omega) (by omega) (by have h := hb'.size; have h2 : wr.drew.heap.size = wr.heap.size := rfl; simp; omega) ?_; intro v6 w6 ho6 hg6 hd6; obtain ⟨A6, c6, rfl, _, _⟩ := own_form ho6; have F6 := (((hh.out.drew.go hb').blk.alloc _).grown hg6 (fun e => by have := HA7.out _ e.symm; omega)); have F6c := F6.cell 1; have F6f := F6.frozen 1; simp at F6c)))
      all_goals (
        have FF := FIN.out _ _ _ ou hb' _ _ ho6 hg6 hd6
        clear F6 F6c F6f ho6 hg6 hd6
        go_wp2_with fail
        go_roundw
        case rel => exact ⟨k + 1, _, _, by omega, by go_num, FF⟩
        case measure => simp [intOf]; omega)
    · obtain rfl : k = m := by omega
      obtain ⟨A7, c7, e7, c7l, _, _⟩ := hh.out.rows.form
      rw [List.take_of_length_le (by omega), hmm] at e7
      rw [List.take_of_length_le (by omega), hmm] at c7l
      subst e7
      have z := hh.out.blk
      have z0 := z.cell 0
      have z1 := z.cell 1
      simp at z0 z1
      have K2 := K12.out.2.below hh.out.below K12.out.2.lt
      have y0 := K2.cell 0
      have y1 := K2.cell 1
      have f0 := K2.frozen 0
      have f1 := K2.frozen 1
      simp at y0 y1
      have q2 := (K2.set_ 0 (.slice A3 n c3)).set_ 1 (.slice A7 k c7)
      have r0 := q2.cell 0
      have r1 := q2.cell 1
      simp at r0 r1
      have Q2 := Lib.hid (And.intro r0 r1)
      clear z K2 q2 r0 r1
      go_wp2_with fail
      obtain ⟨r0, r1⟩ := Q2.out
      have tt : Touch (w.heap.size + 1) (w.heap.size + 1 + 1) wr ((wr.setCell ⟨w.heap.size + 1, 0, none⟩ (.slice A3 n c3)).setCell ⟨w.heap.size + 1, 1, none⟩ (.slice A7 k c7)) :=
        ((Touch.refl _ _ _).setCell (p := ⟨w.heap.size + 1, 0, none⟩) (Or.inl (by simp)) _).setCell (p := ⟨w.heap.size + 1, 1, none⟩) (Or.inl (by simp)) _
      have T0 : TabO wr w1.heap.size (.agg #[.slice A3 n c3, .slice A7 k c7]) names rows := by
        have h := hh.out.rows
        rw [List.take_of_length_le (by omega)] at h
        exact ⟨_, _, rfl, hh.out.own, vs, h.low (by omega)⟩
      have T1 := (T0.touch tt (by omega) (by simp [World.setCell])).low (lo' := w.heap.size) (by omega)
      have T2 := tt.below (B1.out.trans (hh.out.below.mono B1.out.size)) (by omega)
      clear tt T0 z0 z1 x1 y0 y1 f0 f1 hh Q2
      generalize ((wr.setCell ⟨w.heap.size + 1, 0, none⟩ (.slice A3 n c3)).setCell ⟨w.heap.size + 1, 1, none⟩ (.slice A7 k c7)) = w6 at T1 T2 r0 r1 ⊢
      exact bodyPost_ret (v := .agg #[.slice A3 n c3, .slice A7 k c7]) (by simp [results, Tryd.results30, go_sem, r0, r1]) rfl ⟨_, _, _, _, c7l, rfl, T1, T2⟩
end Go.Proofs.YtbhklgiecfcfcaaDoor
