/- marks of padded tables: markBoolS, heldBoolS, markPadded, heldPadded. -/
import Derived.Test.YtaapopfmnlaedaaDoorMarkTab
import Derived.Test.YtaapopfmnlaedaaDoorPadY
namespace Go.Proofs.YtaapopfmnlaedaaDoor
open Go Go.RowKit
set_option maxRecDepth 100000
def bmark (k : Nat) : Bool := ((k : Int) % 3 == 0)
theorem bmark_add (k j : Nat) : bmark (k + j) = (((k : Int) + (j : Int)) % 3 == 0) := by unfold bmark; rw [Int.natCast_add]
def boMarks (k m : Nat) : List Bool := (List.range m).map fun (i : Nat) => bmark (k + i)
theorem boMarks_succ (k m : Nat) : boMarks k (m + 1) = boMarks k m ++ [bmark (k + m)] := by simp [boMarks, List.range_succ]
theorem boMarks_length (k m : Nat) : (boMarks k m).length = m := by simp [boMarks]
theorem boMarks_at (k m j : Nat) (h : j < m) : (boMarks k m)[j]? = some (bmark (k + j)) := by simp [boMarks, h]
set_option maxHeartbeats 400000 in
theorem markBoolS_own (g cap : Nat) (base : Nat) (n k : Nat) (xs : List Value) (w : World) (hown : w.ownsRow base 4 1 (.slice (some ⟨g, 0, none⟩) n cap) n xs)
    (hk1 : k ≤ 1000000000000000) (hn : n ≤ 1000000000) :
    Calls Tryd.prog 54 #[.slice (some ⟨g, 0, none⟩) n cap, .int .i64 k] w fun e w' => e = .returned (.int .i64 (k + n : Nat)) ∧ w'.ownsRow base 4 1 (.slice (some ⟨g, 0, none⟩) n cap) n (boCells (boMarks k n)) ∧ w.grownBy w' (some g) := by
  have HXN := Lib.hid (show xs.length = n by have := hown.1; omega)
  go_enter Tryd.func54, Tryd.ntmps54
  go_wp2
  go_loopw [1, 5] (fun q i wr => ∃ j : Nat, j ≤ n ∧ i = .int .i64 j ∧ q = .int .i64 (k + j : Nat) ∧ wr.ownsRow base 4 1 (.slice (some ⟨g, 0, none⟩) n cap) n (boCells (boMarks k j) ++ xs.drop j) ∧ w.grownBy wr (some g)) (fun _ i _ => n - (intOf i).toNat)
  case atStart => exact ⟨0, Nat.zero_le _, rfl, by simp, by simpa [boMarks, boCells] using hown, World.grownBy.refl _ _⟩
  case round =>
    obtain ⟨j, hj, rfl, rfl, ho, hg⟩ := hrel
    by_cases hlt : j < n
    · have hl := ho.1
      obtain ⟨u0, h0⟩ : ∃ u, wr.cell? ⟨g, j, none⟩ = some u := ⟨_, (ho.cellAt j (by omega)).trans (List.getElem?_eq_getElem (by omega))⟩
      have f0 := ho.frozenAt j
      have HO := Lib.hid ho
      have HG := Lib.hid hg
      clear ho hl hown hg
      go_wp2
      go_roundw
      case rel =>
        refine ⟨j + 1, by omega, by go_num, by go_num, ?_⟩
        have R := own_store1 (j := j) (ys := boCells (boMarks k j)) (xs := xs) HO.out HXN.out (by rw [boCells_length, boMarks_length]) hlt (.bool (((k : Int) + (j : Int)) % 3 == 0))
        rw [boMarks_succ, boCells_append, bmark_add]
        exact ⟨R.1, HG.out.trans R.2⟩
      case measure => simp [intOf]; omega
    · obtain rfl : j = n := by omega
      go_wp2
      go_ret
      refine ⟨rfl, ?_, hg⟩
      rw [List.drop_of_length_le (by have := HXN.out; omega), List.append_nil] at ho
      exact ho
theorem markBoolS_any (base : Nat) (n k : Nat) (v : Value) (xs : List Value) (w : World) (hown : w.ownsRow base 4 1 v n xs)
    (hk1 : k ≤ 1000000000000000) (hn : n ≤ 1000000000) :
    Calls Tryd.prog 54 #[v, .int .i64 k] w fun e w' => e = .returned (.int .i64 (k + n : Nat)) ∧ w'.ownsRow base 4 1 v n (boCells (boMarks k n)) ∧ w.grownBy w' v.ownBlock := by
  rcases own_cases hown with ⟨rfl, rfl, rfl⟩ | ⟨g, cap, rfl⟩
  · go_enter Tryd.func54, Tryd.ntmps54
    go_wp2
    refine wp_loop_rounds 1 ?_
    rw [rounds_succ]
    go_wp2
    go_ret
    exact ⟨ret_int (by simp), hown, World.grownBy.refl _ _⟩
  · refine (markBoolS_own g cap base n k xs w hown hk1 hn).mono ?_
    rintro e w' ⟨rfl, h1, h2⟩
    exact ⟨rfl, h1, h2⟩
set_option maxHeartbeats 400000 in
theorem heldBoolS_any (A : Option Addr) (n c k : Nat) (w : World) (hx : Reads w w.heap.size 1 A n (boCells (boMarks k n)))
    (hk1 : k ≤ 1000000000000000) (hn : n ≤ 1000000000) :
    Calls Tryd.prog 57 #[.slice A n c, .int .i64 k] w fun e w' => e = .returned (.int .i64 (k + n : Nat)) ∧ w = w' := by
  go_enter Tryd.func57, Tryd.ntmps57
  go_wp2
  go_loop [1, 5] (fun q i => ∃ j : Nat, j ≤ n ∧ i = .int .i64 j ∧ q = .int .i64 (k + j : Nat)) (fun _ i => n - (intOf i).toNat)
  case atStart => exact ⟨0, Nat.zero_le _, rfl, by simp⟩
  case round =>
    obtain ⟨j, hj, rfl, rfl⟩ := hrel
    by_cases hlt : j < n
    · obtain ⟨ad, x, rfl, _, hxk, e1⟩ := bo_at hx (boMarks_length k n) hlt
      obtain rfl : x = bmark (k + j) := Option.some.inj (hxk.symm.trans (boMarks_at k n j hlt))
      rw [bmark_add] at e1
      have hk0 : (0 : Int) ≤ (j : Int) := Int.natCast_nonneg _
      have hk1 : (j : Int) < (n : Int) := by omega
      clear hxk hx
      go_wp2_with fail
      go_round
      case rel => exact ⟨j + 1, by omega, by go_num, by go_num⟩
      case measure => simp [intOf]; omega
    · obtain rfl : j = n := by omega
      go_wp2
      go_ret
      exact ⟨rfl, rfl⟩
/-- A padded table of the call's own, between bounds. -/
def PadV (w : World) (lo hi : Nat) (v : Value) (names : List ByteArray) (rows : List (List Int)) (real : List Bool) : Prop :=
  ∃ v0 v1 v2 : Value, v = .agg #[v0, v1, v2] ∧ w.ownsRow lo 9 1 v0 names.length (stCells names) ∧ (∀ g, v0.ownBlock = some g → g < hi) ∧ RowsO w lo hi v1 rows ∧ w.ownsRow lo 4 1 v2 real.length (boCells real) ∧ (∀ g, v2.ownBlock = some g → g < hi)
section
variable {w w' : World} {lo hi : Nat} {v : Value} {names : List ByteArray} {rows : List (List Int)} {real : List Bool}
theorem PadO.padV (h : PadO w lo v names rows real) : PadV w lo w.heap.size v names rows real := by
  obtain ⟨v0, v1, v2, e, h0, h1, h2⟩ := h
  exact ⟨v0, v1, v2, e, h0, fun g hg => (h0.lt g hg).2, h1, h2, fun g hg => (h2.lt g hg).2⟩
theorem PadV.below (h : PadV w lo hi v names rows real) (hb : Below w.heap.size w w') : PadV w' lo hi v names rows real := by
  obtain ⟨v0, v1, v2, e, h0, h1, ⟨us, h2⟩, h3, h4⟩ := h
  exact ⟨v0, v1, v2, e, own_below h0 hb, h1, ⟨us, h2.below hb⟩, own_below h3 hb, h4⟩
theorem PadV.touch {lo' hi' : Nat} (h : PadV w lo hi v names rows real) (ht : Touch lo' hi' w w') (hd : hi ≤ lo' ∨ hi' ≤ lo) : PadV w' lo hi v names rows real := by
  obtain ⟨v0, v1, v2, e, h0, h1, ⟨us, h2⟩, h3, h4⟩ := h
  exact ⟨v0, v1, v2, e, ht.own h0 (fun g hg => by have := h1 g hg; have := (h0.lt g hg).1; omega), h1, ⟨us, h2.touch ht hd⟩, ht.own h3 (fun g hg => by have := h4 g hg; have := (h3.lt g hg).1; omega), h4⟩
theorem PadV.padR (h : PadV w lo hi v names rows real) : PadR w v names rows real := by
  obtain ⟨v0, v1, v2, rfl, h0, _, ⟨us, h1⟩, h2, _⟩ := h
  obtain ⟨A, c, rfl, ha, _⟩ := own_form h0
  obtain ⟨B, d, rfl, _⟩ := h1.form
  obtain ⟨C, f, rfl, _⟩ := own_form h2
  exact ⟨A, c, B, d, C, f, rfl, ha, Reads.of_own h0, h1.reads, Reads.of_own h2⟩
theorem PadV.form (h : PadV w lo hi v names rows real) : ∃ (A : Option Addr) (c : Nat) (B : Option Addr) (d : Nat) (C : Option Addr) (f : Nat), v = .agg #[.slice A names.length c, .slice B rows.length d, .slice C real.length f] := by
  obtain ⟨A, c, B, d, C, f, e, _⟩ := h.padR
  exact ⟨A, c, B, d, C, f, e⟩
theorem PadV.nil (w : World) (lo hi : Nat) : PadV w lo hi (.agg #[.slice none 0 0, .slice none 0 0, .slice none 0 0]) [] [] [] :=
  ⟨_, _, _, rfl, World.ownsRow_nil w _ _ _, fun g h => by simp [Value.ownBlock] at h, ⟨[], RowsV.nil w lo hi⟩, World.ownsRow_nil w _ _ _, fun g h => by simp [Value.ownBlock] at h⟩
end
set_option maxHeartbeats 800000 in
theorem markPadded_any (lo hi k : Nat) (v : Value) (names : List ByteArray) (rows : List (List Int)) (real : List Bool) (w : World) (hv : PadV w lo hi v names rows real) (hh : hi ≤ w.heap.size) (hs : SmallP names rows real) (hk : k ≤ 100000000) :
    Calls Tryd.prog 20 #[v, .int .i64 k] w fun e w' => e = .returned (.int .i64 (k + names.length + total rows + real.length : Nat)) ∧ PadV w' lo hi v (stMarks k names.length) (rowMarks (k + names.length) rows) (boMarks (k + names.length + total rows) real.length) ∧ Touch lo hi w w' := by
  obtain ⟨v0, v1, v2, rfl, h0, htop, ⟨vs, h1⟩, h2, htop2⟩ := hv
  have HT := hs.t.total
  have hn1 := hs.t.n1
  have hr1 := hs.t.r1
  have hb1 := hs.b
  have hr2 := fun r h => Nat.le_trans (hs.t.r2 r h) (show 1048576 ≤ 1000000000 by omega)
  obtain ⟨w1, hw1⟩ : ∃ w1, w1 = w.alloc (.cells #[v0, v1, v2] 39) := ⟨_, rfl⟩
  have b1 : Below w.heap.size w w1 := by rw [hw1]; exact (Below.refl _ _).alloc (Nat.le_refl _) _
  have kb : Blk w1 w.heap.size 39 #[v0, v1, v2] := by rw [hw1]; exact Blk.new _ _ _
  have h0' := own_below h0 b1
  have h1' := h1.below b1
  have h2' := own_below h2 b1
  have MS := Lib.hid (markStringS_any lo names.length k v0 _ w1 h0' (by omega) (by omega))
  have MI := Lib.hid (fun (wr : World) (hr : RowsV wr lo hi v1 vs rows) => markIntSS_any lo hi (k + names.length) v1 vs rows wr hr (by omega) (by omega) hr2)
  have MB := Lib.hid (fun (wr : World) (hr : wr.ownsRow lo 4 1 v2 real.length (boCells real)) => markBoolS_any lo real.length (k + names.length + total rows) v2 _ wr hr (by omega) (by omega))
  obtain ⟨A, c, rfl, _, _⟩ := own_form h0
  obtain ⟨B, d, rfl, _⟩ := h1.form
  obtain ⟨C, f, rfl, _⟩ := own_form h2
  have HTOP := Lib.hid htop
  have HTOP2 := Lib.hid htop2
  have c0 := kb.cell 0
  simp at c0
  have HW := Lib.hid hw1
  have KB := Lib.hid (And.intro kb (And.intro h0' (And.intro h1' h2')))
  have BB := Lib.hid (And.intro b1 hh)
  obtain ⟨q, hq⟩ : ∃ q : Nat, q = k + names.length := ⟨_, rfl⟩
  rw [← hq] at MS MI MB ⊢
  obtain ⟨q2, hq2⟩ : ∃ q2 : Nat, q2 = q + total rows := ⟨_, rfl⟩
  rw [← hq2] at MI MB ⊢
  clear h0 h1 h2 htop htop2 hw1 kb h0' h1' h2' hr2 hs b1 HT hn1 hr1 hb1 hk hh hq hq2
  go_enter Tryd.func20, Tryd.ntmps20
  go_wp2_with fail
  rw [← HW.out]
  refine MS.out.mono ?_
  rintro e w2 ⟨rfl, o2, g2⟩
  have R2 := Lib.hid (KB.out.2.2.1.off_own KB.out.2.1 (by decide) (by decide) g2)
  have Q2 := Lib.hid (own_block KB.out.2.2.2 (fun g e => g2.block g (KB.out.2.2.2.lt g e).2 (fun e' => own_types KB.out.2.2.2 KB.out.2.1 (by decide) g e e'.symm)))
  have P2 := Lib.hid (KB.out.1.grown g2 (fun e => by have := HTOP.out _ e.symm; have := BB.out.2; omega))
  have T2 := Lib.hid ((Touch.of_below (lo := lo) (hi := hi) BB.out.1).grown g2 (fun g e => Or.inl ⟨(KB.out.2.1.lt g e).1, HTOP.out g e⟩))
  have d1 := P2.out.cell 1
  simp at d1
  have MI2 := Lib.hid (MI.out _ R2.out)
  have O2 := Lib.hid o2
  clear c0 o2 g2 MI
  go_wp2_with fail
  refine MI2.out.mono ?_
  rintro e w3 ⟨rfl, r3, on3⟩
  have O3 := Lib.hid (on3.own O2.out (fun g e ⟨j, u, hu, hg⟩ => by
    obtain ⟨r, hr⟩ := R2.out.rowAt hu
    exact own_types O2.out (R2.out.row j u r hu hr) (by decide) g e hg))
  have Q3 := on3.own Q2.out (fun g e ⟨j, u, hu, hg⟩ => by
    obtain ⟨r, hr⟩ := R2.out.rowAt hu
    exact own_types Q2.out (R2.out.row j u r hu hr) (by decide) g e hg)
  have t3 := on3.touch (lo := lo) (hi := hi) (fun g ⟨j, u, hu, hg⟩ => by
    obtain ⟨r, hr⟩ := R2.out.rowAt hu
    exact ⟨((R2.out.row j u r hu hr).lt g hg).1, R2.out.under j u g hu hg⟩)
  have T3 := Lib.hid (T2.out.trans t3)
  have P3 := t3.blk P2.out (Or.inr BB.out.2)
  have d2 := P3.cell 2
  simp at d2
  have R3 := Lib.hid r3
  have MB3 := Lib.hid (MB.out _ Q3)
  have QQ3 := Lib.hid Q3
  clear on3 d1 t3 P3 MB MI2 r3 Q3
  go_wp2_with fail
  refine MB3.out.mono ?_
  rintro e w4 ⟨rfl, o4, g4⟩
  have R4 := R3.out.off_own QQ3.out (by decide) (by decide) g4
  have O4 := own_block O3.out (fun g e => g4.block g (O3.out.lt g e).2 (fun e' => own_types O3.out QQ3.out (by decide) g e e'.symm))
  have T4 := T3.out.grown g4 (fun g e => Or.inl ⟨(QQ3.out.lt g e).1, HTOP2.out g e⟩)
  clear d2 g4
  go_wp2_with fail
  go_ret
  exact ⟨rfl, ⟨_, _, _, rfl, by rw [stMarks_length]; exact O4, HTOP.out, ⟨vs, R4⟩, by rw [boMarks_length]; exact o4, HTOP2.out⟩, T4⟩
end Go.Proofs.YtaapopfmnlaedaaDoor
