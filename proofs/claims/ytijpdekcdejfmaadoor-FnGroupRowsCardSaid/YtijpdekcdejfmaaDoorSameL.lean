/- The laws' own comparisons at lists that are equal: laws.samePairs, laws.sameInts, laws.sameTexts; laws.alive; the code's bytes. -/
import Derived.Test.YtijpdekcdejfmaaDoorBase
import Derived.Test.YtijpdekcdejfmaaDoorDraw
import Derived.Test.YtijpdekcdejfmaaDoorLaid
import Derived.Test.YtijpdekcdejfmaaDoorInts
namespace Go.Proofs.YtijpdekcdejfmaaDoor
open Go Go.RowKit Go.WideShapes Go.ChangeShapes Go.WideElems Go.Deep
set_option maxRecDepth 100000

theorem own_more {w : World} {base n size : Nat} {e : TypeId} {v : Value} {xs : List Value} (h : w.ownsRow base e size v n xs) (k : Nat) : (w.drewN k).ownsRow base e size v n xs := h
theorem below_more {w w' : World} (hb : Below w.heap.size w w') (n : Nat) : Below w.heap.size w (w'.drewN n) := ⟨hb.os, hb.tape, hb.output, hb.size, hb.block⟩
set_option maxHeartbeats 400000 in
theorem sameInts_yes (A B : Option Addr) (n c d : Nat) (xs : List Int) (w : World) (hxn : xs.length = n) (hx : Reads w w.heap.size 1 A n (inCells xs)) (hy : Reads w w.heap.size 1 B n (inCells xs)) (hn : n ≤ 1000000000) :
    Calls Tryd.prog 51 #[.slice A n c, .slice B n d] w fun e w' => e = .returned (.bool true) ∧ Below w.heap.size w w' := by
  have HX := Lib.hid hxn
  clear hxn
  go_enter Tryd.func51, Tryd.ntmps51
  go_wp2
  go_loopw [5] (fun i wr => ∃ k : Nat, k ≤ n ∧ i = .int .i64 k ∧ Below w.heap.size w wr) (fun i _ => n - (intOf i).toNat)
  case atStart => exact ⟨0, Nat.zero_le _, rfl, Below.refl _ _⟩
  case round =>
    obtain ⟨k, hk, rfl, hb⟩ := hrel
    by_cases hlt : k < n
    · obtain ⟨ad, x, rfl, _, hxk, e1⟩ := in_at (hx.below hb) HX.out hlt
      obtain ⟨bd, y, rfl, _, hyk, f1⟩ := in_at (hy.below hb) HX.out hlt
      obtain rfl : x = y := Option.some.inj (hxk.symm.trans hyk)
      clear hxk hyk
      clear hx hy
      have hk0 : (0 : Int) ≤ (k : Int) := Int.natCast_nonneg _
      have hk1 : (k : Int) < (n : Int) := by omega
      go_wp2_with fail
      go_quiet (fail)
      go_wp2
      go_roundw
      case rel => exact ⟨k + 1, by omega, by go_num, below_drewN hb _⟩
      case measure => simp [intOf]; omega
    · obtain rfl : k = n := by omega
      go_wp2
      go_ret
      exact ⟨rfl, hb⟩

set_option maxHeartbeats 400000 in
theorem sameTexts_yes (A B : Option Addr) (n c d : Nat) (xs : List ByteArray) (w : World) (hxn : xs.length = n) (hx : Reads w w.heap.size 1 A n (stCells xs)) (hy : Reads w w.heap.size 1 B n (stCells xs)) (hn : n ≤ 1000000000) :
    Calls Tryd.prog 11 #[.slice A n c, .slice B n d] w fun e w' => e = .returned (.bool true) ∧ Below w.heap.size w w' := by
  have HX := Lib.hid hxn
  clear hxn
  go_enter Tryd.func11, Tryd.ntmps11
  go_wp2
  go_loopw [5] (fun i wr => ∃ k : Nat, k ≤ n ∧ i = .int .i64 k ∧ Below w.heap.size w wr) (fun i _ => n - (intOf i).toNat)
  case atStart => exact ⟨0, Nat.zero_le _, rfl, Below.refl _ _⟩
  case round =>
    obtain ⟨k, hk, rfl, hb⟩ := hrel
    by_cases hlt : k < n
    · obtain ⟨ad, x, rfl, _, hxk, e1⟩ := st_at (hx.below hb) HX.out hlt
      obtain ⟨bd, y, rfl, _, hyk, f1⟩ := st_at (hy.below hb) HX.out hlt
      obtain rfl : x = y := Option.some.inj (hxk.symm.trans hyk)
      clear hxk hyk
      clear hx hy
      have hk0 : (0 : Int) ≤ (k : Int) := Int.natCast_nonneg _
      have hk1 : (k : Int) < (n : Int) := by omega
      go_wp2_with fail
      go_quiet (fail)
      go_wp2
      go_roundw
      case rel => exact ⟨k + 1, by omega, by go_num, below_drewN hb _⟩
      case measure => simp [intOf]; omega
    · obtain rfl : k = n := by omega
      go_wp2
      go_ret
      exact ⟨rfl, hb⟩


def keyB : ByteArray := ⟨#[107, 101, 121]⟩
theorem key_name : nameB keyB = true := by decide +kernel
theorem alive_yes (A : Option Addr) (c : Nat) (w : World) (hv : w.cell? ⟨0, 0, none⟩ = some (.slice A 13 c)) (hx : Reads w w.heap.size 1 A 13 (stCells resW)) :
    Calls Tryd.prog 10 #[] w fun e w' => e = .returned (.bool true) ∧ w = w' := by
  have H := Lib.hid (implName_any true keyB A c w hv hx (by decide) key_name)
  clear hx
  go_enter Tryd.func10, Tryd.ntmps10
  go_wp2_with fail
  refine H.out.mono ?_
  rintro e w' ⟨rfl, rfl⟩
  go_wp2_with fail
  go_ret
  exact ⟨rfl, rfl⟩

section
variable {H : Type} {enc : TypeId × Value → H} {W : World} {sp : Nat → Bool} {base : Nat}
theorem open_bytes {v : Value} {d : DataW H} {p : List MemPlace} (hv : Value.okWide Tryd.prog W .any base 22 v) (h : DataW.Trod enc Tryd.prog W 0 sp true 22 v d p) :
    ∃ (A : Option Addr) (n c : Nat) (xs : List UInt8), v = .slice A n c ∧ xs.length = n ∧ n ≤ c ∧ c ≤ maxLen ∧ Reads W W.heap.size 1 A n (byCells xs) := by
  obtain ⟨a0, len, cap, rfl⟩ := okWide_slice Tryd.underlying22 hv
  obtain ⟨fuel, hf⟩ := h
  rcases open_slice1 Tryd.underlying22 (by kernel_rfl) hf with ⟨hcs, _⟩ | ⟨a, len', cap', m, n, V, D, Pl, hcs, _, hl, hm, hmm, hx, hi⟩
  · simp [Value.cells] at hcs
    obtain ⟨rfl, rfl, rfl⟩ := hcs
    exact ⟨none, 0, 0, [], rfl, rfl, Nat.le_refl _, by unfold maxLen; omega, Reads.none_⟩
  · simp [Value.cells] at hcs
    obtain ⟨rfl, rfl, rfl⟩ := hcs
    have each : ∀ i, i < len → ∃ x : UInt8, W.cell? (a.add i) = some (.int .u8 (x.toNat : Int)) := by
      intro i hil
      obtain ⟨c0, t0⟩ := hi i (by rw [hmm]; split <;> omega)
      obtain ⟨n0, e0, _, w0⟩ := DataW.trod_int Tryd.underlying5 t0
      simp at e0
      have h8 : 0 ≤ n0 ∧ n0 ≤ 255 := by simpa [Lit.wf, IntKind.min, IntKind.max, IntKind.signed, IntKind.bits] using w0
      obtain ⟨m0, rfl⟩ := Int.eq_ofNat_of_zero_le h8.1
      refine ⟨UInt8.ofNat m0, ?_⟩
      rw [c0, e0]
      have : (UInt8.ofNat m0).toNat = m0 := by rw [UInt8.toNat_ofNat']; exact Nat.mod_eq_of_lt (by omega)
      rw [this]
    obtain ⟨f, hf'⟩ := choose_lt each
    refine ⟨some a, len, cap, (List.range len).map f, rfl, by simp, hl, hm, by simp [byCells], fun hn => ?_⟩
    have key : ∀ j u, (byCells ((List.range len).map f))[j]? = some u → W.cell? (a.add j) = some u := by
      intro j u hj
      by_cases hjl : j < len
      · simp [byCells, hjl] at hj
        rw [← hj]
        exact hf' j hjl
      · simp [byCells, hjl] at hj
    refine ⟨a, rfl, ?_, key⟩
    have h1 := World.block_lt_of_cell? W _ (hf' 0 hn)
    rwa [block_of_add] at h1
end
end Go.Proofs.YtijpdekcdejfmaaDoor
