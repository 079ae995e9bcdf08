/- spec.l20Rows. -/
import Derived.Test.YtijpdekcdejfmaaDoorDrawNames
import Derived.Test.YtijpdekcdejfmaaDoorTableW
namespace Go.Proofs.YtijpdekcdejfmaaDoor
open Go Go.RowKit
set_option maxRecDepth 100000
theorem RowsV.made (w : World) (lo G : Nat) (h : w.ownsRow lo 40 1 (.slice (some ⟨G, 0, none⟩) 0 0) 0 []) : RowsV w lo w.heap.size (.slice (some ⟨G, 0, none⟩) 0 0) [] [] :=
  ⟨rfl, h, fun g e => (h.lt g e).2, fun k u r h => by simp at h, fun k u g h => by simp at h, fun k u h => by simp at h, fun i j u u' _ h => by simp at h⟩
set_option maxHeartbeats 1600000 in
theorem rows_c (R B wide many : Nat) (w : World) (h : Rc w R (B + 40 * many)) (hw : wide ≤ 8) (hm : many ≤ 1000) :
    Calls Tryd.prog 43 #[.pointer (some ⟨R, 0, none⟩), .int .i64 (wide : Int), .int .i64 (many : Int)] w fun e w' => ∃ (v : Value) (rows : List (List Int)), e = .returned v ∧ RowsO w' w.heap.size w'.heap.size v rows ∧ rows.length = many ∧ (∀ r ∈ rows, r.length = wide) ∧ Rc w' R B ∧ Touch R (R + 1) w w' := by
  obtain ⟨i0, hi0, hz0, hz1, hz2⟩ := info_parts infoInt
  obtain ⟨j0, hjI, hjz0, hjz1, hjz2⟩ := info_parts infoRow
  have hRw : R + 1 ≤ w.heap.size := h.lt
  go_enter Tryd.func43, Tryd.ntmps43
  have own0 : (w.alloc (.cells #[] 40)).ownsRow w.heap.size 40 1 (.slice (some ⟨w.heap.size, 0, none⟩) 0 0) 0 [] := World.ownsRow_made w #[] 0 (Nat.le_refl _) (by unfold maxLen; omega) rfl
  have OV := Lib.hid (RowsV.made _ _ _ own0)
  clear own0
  go_wp2_with fail
  go_loopw [7, 8, 9, 10] (fun ov kv _ _ wr => ∃ (k : Nat) (vs : List Value) (rows : List (List Int)), k ≤ many ∧ kv = .int .i64 k ∧ Hid (RowsV wr w.heap.size wr.heap.size ov vs rows) ∧ Hid (rows.length = k ∧ ∀ r ∈ rows, r.length = wide) ∧ Hid (Rc wr R (B + 40 * (many - k))) ∧ Touch R (R + 1) w wr) (fun _ kv _ _ _ => many - (intOf kv).toNat)
  case atStart => exact ⟨0, [], [], Nat.zero_le _, rfl, OV.out, ⟨rfl, by simp⟩, h.alloc _, (Touch.refl _ _ _).alloc _⟩
  case round =>
    clear h OV
    obtain ⟨k, vs, rows, hk, rfl, hv, hl, hc, ht⟩ := hrel
    have hk0 : (0 : Int) ≤ (k : Int) := Int.natCast_nonneg _
    by_cases hlt : k < many
    · have hk1 : (k : Int) < (many : Int) := by omega
      obtain ⟨wo, rfl⟩ : ∃ wo : World, wo = wr := ⟨_, rfl⟩
      have own1 : (wo.alloc (.cells #[] 3)).ownsRow wo.heap.size 3 1 (.slice (some ⟨wo.heap.size, 0, none⟩) 0 0) 0 [] := World.ownsRow_made wo #[] 0 (Nat.le_refl _) (by unfold maxLen; omega) rfl
      have OW := Lib.hid own1
      clear own1
      go_wp2_with fail
      go_loopw [9, 10] (fun rv jv wr => ∃ (j : Nat) (xs : List Int), j ≤ wide ∧ jv = .int .i64 j ∧ Hid (wr.ownsRow wo.heap.size 3 1 rv j (inCells xs)) ∧ Hid (xs.length = j) ∧ Hid (Rc wr R (B + 40 * (many - (k + 1)) + 5 * (8 - j))) ∧ Touch R (R + 1) wo wr ∧ wo.heap.size ≤ wr.heap.size) (fun _ jv _ => wide - (intOf jv).toNat)
      case atStart => exact ⟨0, [], Nat.zero_le _, rfl, OW.out, rfl, (hc.out.less (by omega)).alloc _, (Touch.refl _ _ _).alloc _, by simp⟩
      case round =>
        obtain ⟨j, xs, hj, rfl, hown, hxl, hcj, htj, hsj⟩ := hrel
        have hj0 : (0 : Int) ≤ (j : Int) := Int.natCast_nonneg _
        by_cases hjw : j < wide
        · have hj1 : (j : Int) < (wide : Int) := by omega
          go_wp2_with fail
          refine (pick_c R (B + 40 * (many - (k + 1)) + 5 * (8 - j) - 1) 4 _ (hcj.out.less (by omega)) (by decide)).mono ?_
          rintro e w1 ⟨x1, rfl, hx1, hc1, ht1, -⟩
          go_wp2_with fail
          refine (pick_c R (B + 40 * (many - (k + 1)) + 5 * (8 - j) - 2) 7 _ (hc1.less (by omega)) (by decide)).mono ?_
          rintro e w2 ⟨x2, rfl, hx2, hc2, ht2, -⟩
          have hx2' : (x2 : Int) < 7 := by omega
          go_wp2_with fail
          refine (pick_c R (B + 40 * (many - (k + 1)) + 5 * (8 - j) - 3) 256 _ (hc2.less (by omega)) (by decide)).mono ?_
          rintro e w3 ⟨x3, rfl, hx3, hc3, ht3, -⟩
          go_wp2_with fail
          have hR3 := hc3.lt
          have hRo : R + 1 ≤ wo.heap.size := hc.out.lt
          have kx := (Blk.new w3 3 #[.int .i64 (x1 : Int), .int .i64 ((x2 : Int) - 3), .int .i64 (x3 : Int)]).alloc (.cells #[.int .i64 0, .int .i64 0, .int .i64 0, .int .i64 1, .int .i64 2] 3)
          have ky := Blk.new (w3.alloc (.cells #[.int .i64 (x1 : Int), .int .i64 ((x2 : Int) - 3), .int .i64 (x3 : Int)] 3)) 3 #[.int .i64 0, .int .i64 0, .int .i64 0, .int .i64 1, .int .i64 2]
          rw [World.size_alloc] at ky
          have o3 := ((ht3.own_above (ht2.own_above (ht1.own_above hown.out hRo) hRo) hRo).alloc (.cells #[.int .i64 (x1 : Int), .int .i64 ((x2 : Int) - 3), .int .i64 (x3 : Int)] 3)).alloc (.cells #[.int .i64 0, .int .i64 0, .int .i64 0, .int .i64 1, .int .i64 2] 3)
          have t3 := ((htj.trans (ht1.trans (ht2.trans ht3))).alloc (.cells #[.int .i64 (x1 : Int), .int .i64 ((x2 : Int) - 3), .int .i64 (x3 : Int)] 3)).alloc (.cells #[.int .i64 0, .int .i64 0, .int .i64 0, .int .i64 1, .int .i64 2] 3)
          refine (pick_c R (B + 40 * (many - (k + 1)) + 5 * (8 - j) - 4) 5 _ (((hc3.alloc _).alloc _).less (by omega)) (by decide)).mono ?_
          rintro e w5 ⟨x4, rfl, hx4, hc5, ht5, -⟩
          have lx := ht5.blk kx (by omega)
          have ly := ht5.blk ky (by omega)
          have o5 := ht5.own_above o3 hRo
          have t5 := t3.trans ht5
          obtain ⟨z, hz, hz3⟩ : ∃ z : Nat, w5.cell? ⟨w3.heap.size + 1, x4, none⟩ = some (.int .i64 (z : Int)) ∧ z < 3 := by
            have hx5 : x4 < 5 := by omega
            have c := ly.cell x4
            match x4, hx5, c with
            | 0, _, c => exact ⟨0, by simpa using c, by decide⟩
            | 1, _, c => exact ⟨0, by simpa using c, by decide⟩
            | 2, _, c => exact ⟨0, by simpa using c, by decide⟩
            | 3, _, c => exact ⟨1, by simpa using c, by decide⟩
            | 4, _, c => exact ⟨2, by simpa using c, by decide⟩
          obtain ⟨y, hy⟩ : ∃ y : Int, w5.cell? ⟨w3.heap.size, z, none⟩ = some (.int .i64 y) := by
            have c := lx.cell z
            match z, hz3, c with
            | 0, _, c => exact ⟨_, by simpa using c⟩
            | 1, _, c => exact ⟨_, by simpa using c⟩
            | 2, _, c => exact ⟨_, by simpa using c⟩
          have hx40 : (x4 : Int) < 5 := by omega
          have hz30 : (z : Int) < 3 := by omega
          have hs6 : wo.heap.size ≤ w5.heap.size := t5.size
          clear kx ky lx ly o3 t3 ht1 ht2 ht3 ht5 hown htj
          go_wp2_with (first
            | (at_builtin; refine wpList_append_own _ rfl _ _ 40 rfl wo.heap.size 3 i0 _ 1 8 Tryd.underlying40 hi0 hz0 hz1 hz2 rfl (by decide) _ _ _ rfl (o5.alloc _) ⟨w5.heap.size, 0, none⟩ 1 1 [.int .i64 y] rfl rfl (cells_new _ _ _) (oneCells rfl) (by unfold maxLen; omega) (by omega) (by simp; omega) ?_; intro v' w6 hown' hgrow _))
          have oA := o5.alloc (.cells #[.int .i64 y] 3)
          have T6 := Lib.hid ((t5.alloc (.cells #[.int .i64 y] 3)).grown hgrow fun g e => Or.inr (o5.lt g e).1)
          have C6 := Lib.hid ((hc5.alloc (.cells #[.int .i64 y] 3)).touch (Touch.of_grown (lo := wo.heap.size) (hi := (w5.alloc (.cells #[.int .i64 y] 3)).heap.size) hgrow fun g e => oA.lt g e) hRo)
          have H6 := Lib.hid hown'
          clear oA hgrow hown' o5 t5 hz hy
          go_roundw
          case rel => exact ⟨j + 1, xs ++ [y], by omega, by go_num, by unfold Hid; rw [inCells_append]; exact H6.out, by unfold Hid; simp [hxl.out], C6.out.less (by omega), T6.out, T6.out.size⟩
          case measure => simp [intOf]; omega
        · obtain rfl : j = wide := by omega
          have hRo : R + 1 ≤ wo.heap.size := hc.out.lt
          have hlen := hl.out.1
          subst hlen
          obtain ⟨A7, c7, rfl, _, _⟩ := hv.out.form
          have rv0 := hv.out.touch htj (Or.inr hRw)
          have hrow := hown.out
          obtain ⟨A9, c9, rfl, _, _⟩ := own_form hrow
          have fr := Lib.hid (hv.out.fresh hrow)
          have HL := Lib.hid hl.out.2
          have ho0 := rv0.own
          have hsw := ht.size
          go_wp2_with (first
            | (at_builtin; (refine wpList_append_own_at _ rfl _ _ 24 rfl w.heap.size 40 j0 _ 1 24 Tryd.underlying24 hjI hjz0 hjz1 hjz2 rfl (by decide) _ _ _ rfl (ho0.alloc _) ⟨wr.heap.size, 0, none⟩ 1 1 [.slice A9 j c9] rfl rfl (cells_new _ _ _) (oneCells rfl) (by unfold maxLen; omega) (by omega) (by simp; omega) ?_; intro v' w6 hown' hgrow _ hat)))
          have oA := ho0.alloc (.cells #[.slice A9 j c9] 40)
          have T6 := Lib.hid ((((ht.trans htj).alloc (.cells #[.slice A9 j c9] 40))).grown hgrow fun g e => Or.inr (ho0.lt g e).1)
          have C6 := Lib.hid ((hcj.out.alloc (.cells #[.slice A9 j c9] 40)).touch (Touch.of_grown (lo := w.heap.size) (hi := (wr.alloc (.cells #[.slice A9 j c9] 40)).heap.size) hgrow fun g e => oA.lt g e) hRw)
          have V6 := Lib.hid ((rv0.alloc (.cells #[.slice A9 j c9] 40)).push (r := xs) (hi' := w6.heap.size) ((hrow.alloc (.cells #[.slice A9 j c9] 40)).base_le ht.size |> fun h => by rw [hxl.out]; exact h) hgrow hown' hat fr.out.1 fr.out.2 (Nat.le_trans (Nat.le_trans hsj (by simp)) hgrow.size) (fun g e => (hown'.lt g e).2) (fun g e => Nat.lt_of_lt_of_le (hrow.lt g e).2 (Nat.le_trans (by simp) hgrow.size)))
          clear oA hgrow hown' rv0 ho0 hrow fr ht htj
          go_roundw
          case rel => exact ⟨rows.length + 1, _, rows ++ [xs], by omega, by go_num, V6.out, ⟨by simp, fun r hr => by rcases List.mem_append.1 hr with h | h; exact HL.out r h; simp at h; subst h; exact hxl.out⟩, C6.out.less (by omega), T6.out⟩
          case measure => simp [intOf]; omega
    · obtain rfl : k = many := by omega
      go_wp2_with fail
      go_ret
      exact ⟨_, rows, rfl, ⟨vs, hv.out⟩, hl.out.1, hl.out.2, hc.out.less (by omega), ht⟩
end Go.Proofs.YtijpdekcdejfmaaDoor
