/- laws.markIntSS, heldIntSS, markTable, heldTable. -/
import Derived.Test.YtijpdekcdejfmaaDoorMarkP
namespace Go.Proofs.YtijpdekcdejfmaaDoor
open Go Go.RowKit
set_option maxRecDepth 100000

theorem RowsV.off_own {w w' : World} {lo hi b n z : Nat} {e0 : TypeId} {v v0 : Value} {vs xs : List Value} {rows : List (List Int)} (h : RowsV w lo hi v vs rows) (h0 : w.ownsRow b e0 z v0 n xs) (h1 : 40 ≠ e0) (h2 : 3 ≠ e0) (hg : w.grownBy w' v0.ownBlock) : RowsV w' lo hi v vs rows :=
  ⟨h.len, own_block h.own (fun g e => hg.block g (h.own.lt g e).2 (fun e' => own_types h.own h0 h1 g e e'.symm)), h.top, fun k u r hu hr => own_block (h.row k u r hu hr) (fun g e => hg.block g ((h.row k u r hu hr).lt g e).2 (fun e' => own_types (h.row k u r hu hr) h0 h2 g e e'.symm)), h.under, h.off, h.apart⟩
theorem RowsV.rowAt {w : World} {lo hi : Nat} {v : Value} {vs : List Value} {rows : List (List Int)} (h : RowsV w lo hi v vs rows) {k : Nat} {u : Value} (hu : vs[k]? = some u) : ∃ r, rows[k]? = some r := by
  have h1 := (List.getElem?_eq_some_iff.1 hu).1
  exact ⟨_, List.getElem?_eq_getElem (by have := h.len; omega)⟩
theorem Small.total {names : List ByteArray} {rows : List (List Int)} (h : Small names rows) : total rows ≤ 1100000000000 := by
  have h1 := total_le 1048576 rows h.r2
  have h2 := Nat.mul_le_mul_right 1048576 h.r1
  omega
end Go.Proofs.YtijpdekcdejfmaaDoor
