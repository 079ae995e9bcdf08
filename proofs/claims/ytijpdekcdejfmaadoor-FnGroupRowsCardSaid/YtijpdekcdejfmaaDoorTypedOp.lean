/- Single operations of a typed region. -/
import Derived.Test.YtijpdekcdejfmaaDoorTyped
import Derived.Test.YtijpdekcdejfmaaDoorDraw
import Derived.Great.BuildSlice
namespace Go.Proofs.YtijpdekcdejfmaaDoor
open Go Go.RowKit
set_option maxRecDepth 100000
section
variable {P : Program} {o : Oper} {a : Act} {w : World} {K : Act → World → Prop} {Q : Exit → Act → World → Prop}
theorem op_move {x : Operand} (ho : o.op = .move x) (h : K (a.put o.dst (a.eval x)) w) : o.wp P a w K Q := by
  unfold Oper.wp execOp
  simp only [ho]
  exact h
theorem op_assign {x : Operand} (ho : o.op = .assign x) (h : K (a.put o.dst (a.eval x)) w) : o.wp P a w K Q := by
  unfold Oper.wp execOp
  simp only [ho]
  exact h
theorem op_index {t : TypeId} {x ix : Operand} (ho : o.op = .indexAddr t x ix) (ht : P.underlying t = some (.slice (P.elem t))) (hs : (P.info? (P.elem t)).map (·.size) = some 1) {g len cap i : Nat}
    (hx : a.eval x = .slice (some ⟨g, 0, none⟩) len cap) (hi : a.eval ix = .int .i64 (i : Int)) (hlt : i < len) (h : K (a.put o.dst (.pointer (some ⟨g, i, none⟩))) w) : o.wp P a w K Q := by
  have hadd : (⟨g, 0, none⟩ : Addr).add i = ⟨g, i, none⟩ := by
    unfold Addr.add
    by_cases h : i = 0 <;> simp [h]
  unfold Oper.wp execOp
  simp only [ho, hx, hi]
  obtain ⟨d, hd, he⟩ := Option.map_eq_some_iff.1 hs
  simp only [Sem.run_bind, run_indexAt_slice w t _ len cap .i64 (i : Int) ht, if_pos (show (0 : Int) ≤ (i : Int) ∧ (i : Int) < (len : Int) by omega)]
  simp [sizeOf, typeInfo, hd, he, hadd, Oper.upon]
  exact h
theorem op_call {f : FuncId} {fn : Func} {args : Array Operand} {tys : Array TypeId} (hf : P.funcs[f]? = some fn) (hn : (fn.name == "runtime.NumGoroutine") = false) (hr : fn.body.isNone = false) (ho : o.op = .call { callee := .value (.func f), args := args, argTypes := tys })
    (h : Calls P f (args.map a.eval) w fun e w' => ∃ v, e = .returned v ∧ K (a.put o.dst v) w') : o.wp P a w K Q := by
  unfold Oper.wp execOp
  simp only [ho]
  simp only [resolve, Deferred.ofValue, invoke, Act.eval, Sem.run_bind]
  simp [callFunc, hf, hr, hn, -beq_iff_eq, -Option.isNone_iff_eq_none]
  rw [Oper.upon_enter]
  refine h.mono ?_
  rintro e w' ⟨v, rfl, hv⟩
  exact hv
theorem op_load {t : TypeId} {x : Operand} {p : Addr} {u : Value} (ho : o.op = .load t x) (hx : a.eval x = .pointer (some p)) (hc : w.cell? p = some u) (hg : (isAgg t).run P w = .ok false w)
    (h : K (a.put o.dst u) w) : o.wp P a w K Q := by
  unfold Oper.wp execOp
  simp only [ho, hx]
  simp [go_sem, hc, hg]
  exact h
end
end Go.Proofs.YtijpdekcdejfmaaDoor
