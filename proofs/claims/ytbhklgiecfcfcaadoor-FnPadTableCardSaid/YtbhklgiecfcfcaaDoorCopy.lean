/- copies: spec.l1Copy, impl.cloneNames, impl.cloneRows. -/
import Derived.Test.YtbhklgiecfcfcaaDoorMarkP
namespace Go.Proofs.YtbhklgiecfcfcaaDoor
open Go Go.RowKit
/-- A call of a Go function as one step of a region that draws. -/
theorem step_call {P : Program} {ops : Array Oper} {o : Oper} {a : Act} {w : World} {K : Act → World → Prop} {Q : Exit → Act → World → Prop} {E : Prop} (hgd : o.guard = none) {f : FuncId} {fn : Func} {args : Array Operand} {tys : Array TypeId} (hf : P.funcs[f]? = some fn) (hn : (fn.name == "runtime.NumGoroutine") = false) (hr : fn.body.isNone = false) (ho : o.op = .call { callee := .value (.func f), args := args, argTypes := tys })
    (vs : Array Value) (hvs : args.map a.eval = vs) (h : Calls P f vs w fun e w' => ∃ v, e = .returned v ∧ K (a.put o.dst v) w') :
    if Region.wanted o (yielded ops a.tmps) = true then Oper.wp P o a w K Q else E := by
  subst hvs
  have hw : Region.wanted o (yielded ops a.tmps) = true := by simp [Region.wanted, hgd]
  rw [if_pos hw]
  unfold Oper.wp execOp
  simp only [ho]
  simp only [resolve, Deferred.ofValue, invoke, Act.eval, Sem.run_bind]
  simp [callFunc, hf, hr, hn, -beq_iff_eq, -Option.isNone_iff_eq_none]
  rw [Oper.upon_enter]
  refine h.mono ?_
  rintro e w' ⟨v, rfl, hv⟩
  exact hv
set_option maxRecDepth 100000

theorem stOne (xs : List ByteArray) : ∀ u ∈ stCells xs, u.oneCell' = true := by
  intro u hu
  simp only [stCells, List.mem_map] at hu
  obtain ⟨z, _, rfl⟩ := hu
  rfl
set_option maxHeartbeats 400000 in
theorem l1Copy_any (A : Option Addr) (n c : Nat) (xs : List Int) (w : World) (hx : Reads w w.heap.size 1 A n (inCells xs)) (hn : n ≤ 1000000000) :
    Calls Tryd.prog 39 #[.slice A n c] w fun e w' => ∃ v, e = .returned v ∧ w'.ownsRow w.heap.size 3 1 v n (inCells xs) ∧ Below w.heap.size w w' := by
  obtain ⟨i0, hi0, hz0, hz1, hz2⟩ := info_parts infoInt
  go_enter Tryd.func39, Tryd.ntmps39
  go_wp2_with (first
    | (at_builtin; refine wpList_append_any _ rfl _ _ 49 rfl w.heap.size 3 i0 _ 1 8 Tryd.underlying49 hi0 hz0 hz1 hz2 rfl (by omega) _ 0 [] rfl (World.ownsRow_made w #[] 0 (Nat.le_refl _) (by unfold maxLen; omega) rfl) w.heap.size _ n c (inCells xs) rfl (hx.alloc (Nat.le_refl _) _) (inCells_one xs) (by unfold maxLen; omega) (by omega) (by simp) ?_; intro v1 w1 hown1 hg1 hat1))
  go_ret
  refine ⟨_, rfl, by simpa using hown1, ((Below.refl _ _).alloc (Nat.le_refl _) _).grown hg1 (by simp) (fun g hg => ((World.ownsRow_made (base := w.heap.size) (e := 3) (size := 1) w #[] 0 (Nat.le_refl _) (by unfold maxLen; omega) rfl).lt g hg).1)⟩
set_option maxHeartbeats 400000 in
theorem cloneNames_any (A : Option Addr) (n c : Nat) (xs : List ByteArray) (w : World) (hx : Reads w w.heap.size 1 A n (stCells xs)) (hn : n ≤ 1000000000) :
    Calls Tryd.prog 26 #[.slice A n c] w fun e w' => ∃ v, e = .returned v ∧ w'.ownsRow w.heap.size 9 1 v n (stCells xs) ∧ Below w.heap.size w w' := by
  obtain ⟨i0, hi0, hz0, hz1, hz2⟩ := info_parts infoStr
  go_enter Tryd.func26, Tryd.ntmps26
  go_wp2_with (first
    | (at_builtin; refine wpList_append_any _ rfl _ _ 23 rfl w.heap.size 9 i0 _ 1 16 Tryd.underlying23 hi0 hz0 hz1 hz2 rfl (by omega) _ 0 [] rfl (World.ownsRow_nil w _ _ _) w.heap.size _ n c (stCells xs) rfl hx (stOne xs) (by unfold maxLen; omega) (by omega) (by simp) ?_; intro v1 w1 hown1 hg1 hat1))
  go_ret
  refine ⟨_, rfl, by simpa using hown1, (Below.refl _ _).grown hg1 (by simp) (fun g hg => by simp [Act.eval, Value.ownBlock] at hg)⟩
theorem take_snoc {α : Type} (xs : List α) (k : Nat) (a : α) (h : xs[k]? = some a) : xs.take (k + 1) = xs.take k ++ [a] := by
  rw [List.take_add_one, h]; rfl
set_option maxHeartbeats 800000 in
theorem cloneRows_any (A : Option Addr) (n c : Nat) (rows : List (List Int)) (w : World) (hx : RowsR w w.heap.size A n rows) (hn : n ≤ 1048576) (hl : ∀ r ∈ rows, r.length ≤ 1000000000) :
    Calls Tryd.prog 27 #[.slice A n c] w fun e w' => ∃ v, e = .returned v ∧ RowsO w' w.heap.size w'.heap.size v rows ∧ Below w.heap.size w w' := by
  obtain ⟨j0, hjI, hjz0, hjz1, hjz2⟩ := info_parts infoRow
  have HN := Lib.hid hx.len
  have HL := Lib.hid hl
  clear hl
  go_enter Tryd.func27, Tryd.ntmps27
  go_wp2_with fail
  go_loopw [3, 8] (fun ov kv wr => ∃ (k : Nat) (vs : List Value), k ≤ n ∧ kv = .int .i64 k ∧ Hid (RowsV wr w.heap.size wr.heap.size ov vs (rows.take k)) ∧ Below w.heap.size w wr) (fun _ kv _ => n - (intOf kv).toNat)
  case atStart => exact ⟨0, [], Nat.zero_le _, rfl, by unfold Hid; simpa using RowsV.nil _ _ _, Below.refl _ _⟩
  case round =>
    obtain ⟨k, vs, hk, rfl, hv, hb⟩ := hrel
    have hk0 : (0 : Int) ≤ (k : Int) := Int.natCast_nonneg _
    by_cases hlt : k < n
    · have hk1 : (k : Int) < (n : Int) := by omega
      obtain ⟨ad, row, Ak, ck, rfl, _, hrow, e1, g1, g2, g3, rr⟩ := (hx.below hb).at_ hlt
      have CL := Lib.hid (cloneInt_any Ak row.length ck row wr rr (HL.out row (List.mem_of_getElem? hrow)) rfl (fun h => ⟨g3 h, by have := g3 h; omega⟩))
      have HROW := Lib.hid hrow
      have hbs := hb.size
      clear hrow g3 rr hx
      go_wp2_with fail
      refine CL.out.mono ?_
      rintro e w2 ⟨u, rfl, ou, b2⟩
      obtain ⟨Au, cu, rfl, _, _⟩ := own_form ou
      have hv2 := hv.out.below b2
      have fr := Lib.hid (hv.out.fresh ou)
      have hb2 := hb.trans (b2.mono hbs)
      have hlk : (rows.take k).length = k := by rw [List.length_take]; have := HN.out; omega
      have ho0 := hv2.own
      rw [hlk] at ho0
      have OU := Lib.hid ou
      have B2 := Lib.hid b2
      have HV2 := Lib.hid hv2
      have HLK := Lib.hid hlk
      clear ou b2 hv hv2 e1 hlk
      go_wp2_with (first
        | (at_builtin; (refine wpList_append_own_at _ rfl _ _ 24 rfl w.heap.size 49 j0 _ 1 24 Tryd.underlying24 hjI hjz0 hjz1 hjz2 rfl (by decide) _ _ _ rfl (ho0.alloc _) ⟨w2.heap.size, 0, none⟩ 1 1 [.slice Au row.length cu] rfl rfl (cells_new _ _ _) (oneCells rfl) (by unfold maxLen; omega) (by omega) (by simp; have := hb2.size; omega) ?_; intro v' w6 hown' hgrow _ hat)))
      have V6 := Lib.hid ((HV2.out.alloc (.cells #[.slice Au row.length cu] 49)).push (r := row) (hi' := w6.heap.size) ((OU.out.alloc _).base_le hbs) hgrow (by rw [HLK.out]; exact hown') hat fr.out.1 fr.out.2 (Nat.le_trans B2.out.size (Nat.le_trans (by simp) hgrow.size)) (fun g e => (hown'.lt g e).2) (fun g e => Nat.lt_of_lt_of_le (OU.out.lt g e).2 (Nat.le_trans (by simp) hgrow.size)))
      have B6 := Lib.hid ((hb2.alloc hb2.size (.cells #[.slice Au row.length cu] 49)).grown hgrow (by have := hb2.size; simp; omega) (fun g e => (ho0.lt g e).1))
      clear ho0 hgrow hown' hat hb2
      go_roundw
      case rel => exact ⟨k + 1, _, by omega, by go_num, by rw [take_snoc rows k row HROW.out]; exact V6.out, B6.out⟩
      case measure => simp [intOf]; omega
    · obtain rfl : k = n := by omega
      go_wp2_with fail
      go_ret
      refine ⟨_, rfl, ⟨vs, ?_⟩, hb⟩
      have := hv.out
      rwa [List.take_of_length_le (by have := HN.out; omega)] at this
end Go.Proofs.YtbhklgiecfcfcaaDoor
