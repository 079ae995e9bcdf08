/- laws.sameRows, laws.sameTable at equal contents. -/
import Derived.Test.YtijpdekcdejfmaaDoorSameL
import Derived.Test.YtijpdekcdejfmaaDoorTableW
namespace Go.Proofs.YtijpdekcdejfmaaDoor
open Go Go.RowKit
set_option maxRecDepth 100000
set_option maxHeartbeats 800000 in
theorem sameRows_yes (A B : Option Addr) (n c d : Nat) (rows : List (List Int)) (w : World) (hx : RowsR w w.heap.size A n rows) (hy : RowsR w w.heap.size B n rows) (hn : n ≤ 1000000000) (hl : ∀ r ∈ rows, r.length ≤ 1000000000) :
    Calls Tryd.prog 30 #[.slice A n c, .slice B n d] w fun e w' => e = .returned (.bool true) ∧ Below w.heap.size w w' := by
  have HL := Lib.hid hl
  clear hl
  go_enter Tryd.func30, Tryd.ntmps30
  go_wp2
  go_loopw [5] (fun i wr => ∃ k : Nat, k ≤ n ∧ i = .int .i64 k ∧ Below w.heap.size w wr) (fun i _ => n - (intOf i).toNat)
  case atStart => exact ⟨0, Nat.zero_le _, rfl, Below.refl _ _⟩
  case round =>
    obtain ⟨k, hk, rfl, hb⟩ := hrel
    by_cases hlt : k < n
    · obtain ⟨ad, row, Ak, ck, rfl, _, hxk, e1, g1, g2, g3, r1⟩ := (hx.below hb).at_ hlt
      obtain ⟨bd, row', Bk, dk, rfl, _, hyk, f1, g1', g2', g3', r2⟩ := (hy.below hb).at_ hlt
      obtain rfl : row = row' := Option.some.inj (hxk.symm.trans hyk)
      have EQ := Lib.hid (fun (w' : World) (hb' : Below wr.heap.size wr w') => sameInts_yes Ak Bk row.length ck dk row w' rfl ((r1.below hb').more hb'.size) ((r2.below hb').more hb'.size) (HL.out row (List.mem_of_getElem? hxk)))
      clear hxk hyk hx hy g3 g3' r1 r2
      have hk0 : (0 : Int) ≤ (k : Int) := Int.natCast_nonneg _
      have hk1 : (k : Int) < (n : Int) := by omega
      go_wp2_with fail
      go_region_held3 (fun w' => w'.cell? (ad.add k) = some (.slice Ak row.length ck) ∧ w'.cell? (bd.add k) = some (.slice Bk row.length dk)) (first | go_keep | (go_split_ands; refine ⟨?_, ?_⟩ <;> (refine below_keep hb' ?_; assumption)))
        (first | (go_at_call 51; refine (EQ.out _ ((Below.refl _ _).drew)).mono ?_; rintro e w' ⟨rfl, hb'⟩))
      have hbb := hb.drew.trans (hb'.mono hb.size)
      clear hb'
      go_wp2
      go_roundw
      case rel => exact ⟨k + 1, by omega, by go_num, hbb⟩
      case measure => simp [intOf]; omega
    · obtain rfl : k = n := by omega
      go_wp2
      go_ret
      exact ⟨rfl, hb⟩
set_option maxHeartbeats 800000 in
theorem sameTable_yes (v u : Value) (names : List ByteArray) (rows : List (List Int)) (w : World) (hv : TabR w v names rows) (hu : TabR w u names rows) (hok : TabOk names rows) :
    Calls Tryd.prog 9 #[v, u] w fun e w' => e = .returned (.bool true) ∧ Below w.heap.size w w' := by
  obtain ⟨A, c, B, d, rfl, _, hx, hy⟩ := hv
  obtain ⟨A', c', B', d', rfl, _, hx', hy'⟩ := hu
  obtain ⟨n, hn⟩ : ∃ n, names.length = n := ⟨_, rfl⟩
  obtain ⟨m, hm⟩ : ∃ m, rows.length = m := ⟨_, rfl⟩
  have hn1 := hok.n1
  have hr1 := hok.r1
  rw [hn] at hx hx' hn1 ⊢
  rw [hm] at hy hy' hr1 ⊢
  obtain ⟨w1, hw1⟩ : ∃ w1, w1 = (w.alloc (.cells #[.slice A n c, .slice B m d] 26)).alloc (.cells #[.slice A' n c', .slice B' m d'] 26) := ⟨_, rfl⟩
  have b1 : Below w.heap.size w w1 := by rw [hw1]; exact ((Below.refl _ _).alloc (Nat.le_refl _) _).alloc (by simp) _
  have k1 : Blk w1 w.heap.size 26 #[.slice A n c, .slice B m d] := by rw [hw1]; exact (Blk.new _ _ _).alloc _
  have k2 : Blk w1 (w.heap.size + 1) 26 #[.slice A' n c', .slice B' m d'] := by
    have := Blk.new (w.alloc (.cells #[.slice A n c, .slice B m d] 26)) 26 #[.slice A' n c', .slice B' m d']
    rw [World.size_alloc] at this
    rw [hw1]; exact this
  have KB := Lib.hid (fun (wr : World) (hb : Below w1.heap.size w1 wr) => And.intro (k1.below hb k1.lt) (k2.below hb k2.lt))
  have E1 := Lib.hid (sameTexts_yes A A' n c c' names w1 hn ((hx.below b1).more b1.size) ((hx'.below b1).more b1.size) hn1)
  have E2 := Lib.hid (fun (wr : World) (hb : Below w1.heap.size w1 wr) => sameRows_yes B B' m d d' rows wr ((hy.below b1).below hb) ((hy'.below b1).below hb) hr1 hok.r2)
  have c0 := k1.cell 0
  have c1 := k2.cell 0
  simp at c0 c1
  have HW := Lib.hid hw1
  clear hx hy hx' hy' hok hn hm k1 k2 hw1
  go_enter Tryd.func9, Tryd.ntmps9
  go_wp2_with fail
  rw [← HW.out]
  refine E1.out.mono ?_
  rintro e w2 ⟨rfl, b2⟩
  have d0 := (KB.out w2 b2).1.cell 1
  have d1 := (KB.out w2 b2).2.cell 1
  simp at d0 d1
  clear c0 c1
  have E2' := Lib.hid (E2.out w2 b2)
  have B2 := b1.trans (b2.mono b1.size)
  clear b2
  go_wp2_with fail
  refine E2'.out.mono ?_
  rintro e w3 ⟨rfl, b3⟩
  have B3 := B2.trans (b3.mono B2.size)
  go_wp2_with fail
  go_ret
  exact ⟨rfl, B3⟩
end Go.Proofs.YtijpdekcdejfmaaDoor
