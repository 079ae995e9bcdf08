/- copies: spec.l1Copy, impl.cloneNames, impl.cloneRows. -/
import Derived.Test.YtijpdekcdejfmaaDoorMarkP
namespace Go.Proofs.YtijpdekcdejfmaaDoor
open Go Go.RowKit
/-- A call of a Go function as one step of a region that draws. -/
theorem step_call {P : Program} {ops : Array Oper} {o : Oper} {a : Act} {w : World} {K : Act → World → Prop} {Q : Exit → Act → World → Prop} {E : Prop} (hgd : o.guard = none) {f : FuncId} {fn : Func} {args : Array Operand} {tys : Array TypeId} (hf : P.funcs[f]? = some fn) (hn : (fn.name == "runtime.NumGoroutine") = false) (hr : fn.body.isNone = false) (ho : o.op = .call { callee := .value (.func f), args := args, argTypes := tys })
    (vs : Array Value) (hvs : args.map a.eval = vs) (h : Calls P f vs w fun e w' => ∃ v, e = .returned v ∧ K (a.put o.dst v) w') :
    if Region.wanted o (yielded ops a.tmps) = true then Oper.wp P o a w K Q else E := by
  subst hvs
  have hw : Region.wanted o (yielded ops a.tmps) = true := by simp [Region.wanted, hgd]
  rw [if_pos hw]
  unfold Oper.wp execOp
  simp only [ho]
  simp only [resolve, Deferred.ofValue, invoke, Act.eval, Sem.run_bind]
  simp [callFunc, hf, hr, hn, -beq_iff_eq, -Option.isNone_iff_eq_none]
  rw [Oper.upon_enter]
  refine h.mono ?_
  rintro e w' ⟨v, rfl, hv⟩
  exact hv
set_option maxRecDepth 100000

theorem stOne (xs : List ByteArray) : ∀ u ∈ stCells xs, u.oneCell' = true := by
  intro u hu
  simp only [stCells, List.mem_map] at hu
  obtain ⟨z, _, rfl⟩ := hu
  rfl
set_option maxHeartbeats 400000 in
theorem l1Copy_any (A : Option Addr) (n c : Nat) (xs : List Int) (w : World) (hx : Reads w w.heap.size 1 A n (inCells xs)) (hn : n ≤ 1000000000) :
    Calls Tryd.prog 37 #[.slice A n c] w fun e w' => ∃ v, e = .returned v ∧ w'.ownsRow w.heap.size 3 1 v n (inCells xs) ∧ Below w.heap.size w w' := by
  obtain ⟨i0, hi0, hz0, hz1, hz2⟩ := info_parts infoInt
  go_enter Tryd.func37, Tryd.ntmps37
  go_wp2_with (first
    | (at_builtin; refine wpList_append_any _ rfl _ _ 40 rfl w.heap.size 3 i0 _ 1 8 Tryd.underlying40 hi0 hz0 hz1 hz2 rfl (by omega) _ 0 [] rfl (World.ownsRow_made w #[] 0 (Nat.le_refl _) (by unfold maxLen; omega) rfl) w.heap.size _ n c (inCells xs) rfl (hx.alloc (Nat.le_refl _) _) (inCells_one xs) (by unfold maxLen; omega) (by omega) (by simp) ?_; intro v1 w1 hown1 hg1 hat1))
  go_ret
  refine ⟨_, rfl, by simpa using hown1, ((Below.refl _ _).alloc (Nat.le_refl _) _).grown hg1 (by simp) (fun g hg => ((World.ownsRow_made (base := w.heap.size) (e := 3) (size := 1) w #[] 0 (Nat.le_refl _) (by unfold maxLen; omega) rfl).lt g hg).1)⟩
set_option maxHeartbeats 400000 in
theorem cloneNames_any (A : Option Addr) (n c : Nat) (xs : List ByteArray) (w : World) (hx : Reads w w.heap.size 1 A n (stCells xs)) (hn : n ≤ 1000000000) :
    Calls Tryd.prog 24 #[.slice A n c] w fun e w' => ∃ v, e = .returned v ∧ w'.ownsRow w.heap.size 9 1 v n (stCells xs) ∧ Below w.heap.size w w' := by
  obtain ⟨i0, hi0, hz0, hz1, hz2⟩ := info_parts infoStr
  go_enter Tryd.func24, Tryd.ntmps24
  go_wp2_with (first
    | (at_builtin; refine wpList_append_any _ rfl _ _ 23 rfl w.heap.size 9 i0 _ 1 16 Tryd.underlying23 hi0 hz0 hz1 hz2 rfl (by omega) _ 0 [] rfl (World.ownsRow_nil w _ _ _) w.heap.size _ n c (stCells xs) rfl hx (stOne xs) (by unfold maxLen; omega) (by omega) (by simp) ?_; intro v1 w1 hown1 hg1 hat1))
  go_ret
  refine ⟨_, rfl, by simpa using hown1, (Below.refl _ _).grown hg1 (by simp) (fun g hg => by simp [Act.eval, Value.ownBlock] at hg)⟩
theorem take_snoc {α : Type} (xs : List α) (k : Nat) (a : α) (h : xs[k]? = some a) : xs.take (k + 1) = xs.take k ++ [a] := by
  rw [List.take_add_one, h]; rfl
end Go.Proofs.YtijpdekcdejfmaaDoor
