/- what the row's list 'laid' gives: the reserved words in memory (door seats). -/
import Derived.Test.YtijpdekcdejfmaaDoorName
import Derived.SliceStrings
import Derived.Lib.LaidTab
namespace Go.Proofs.YtijpdekcdejfmaaDoor
open Go Go.RowKit Go.ChangeShapes

theorem gRes : Tryd.prog.globalNamed "loop.example/obliviousqueries/impl.reserved" = some 0 := by kernel_rfl
theorem gResType : (Tryd.prog.globals[0]?).map (·.type) = some 23 := by kernel_rfl
theorem strCells : Tryd.prog.cellsOf 9 = 1 := by kernel_rfl

theorem strs_inj {H : Type} : ∀ {xs ys : List ByteArray}, (strs xs : List (DataW H)) = strs ys → xs = ys := by
  intro xs
  induction xs with
  | nil =>
    intro ys h
    cases ys with
    | nil => rfl
    | cons y ys => simp [strs] at h
  | cons x xs ih =>
    intro ys h
    cases ys with
    | nil => simp [strs] at h
    | cons y ys =>
      simp only [strs, List.map_cons, List.cons.injEq] at h
      have h1 : x.data.toList = y.data.toList := by simpa using h.1
      rw [ih h.2, ByteArray.ext (Array.toList_inj.1 h1)]

theorem reserved_laid {W : World} {rest : List (String × DataW Unit)} (h : laidMet Tryd.prog (("loop.example/obliviousqueries/impl.reserved", Rows.laid_loop_example_obliviousqueries_impl_reserved) :: rest) W) :
    ∃ A c, W.cell? ⟨0, 0, none⟩ = some (.slice A 13 c) ∧ Reads W W.heap.size 1 A 13 (stCells resW) := by
  obtain ⟨ps, ⟨g', t', cs, fuel, p, q, hg', ht', hvar, hd, _, _⟩, _⟩ := h
  obtain rfl := Option.some.inj (gRes.symm.trans hg')
  obtain rfl := Option.some.inj (gResType.symm.trans ht')
  rcases open_strings Tryd.underlying23 Tryd.underlying9 strCells hd with ⟨hcs, hx⟩ | ⟨a, len, cap, ss, hcs, _, hl, hm, hz, hx, hcell, hws⟩
  · simp [Rows.laid_loop_example_obliviousqueries_impl_reserved] at hx
  · have hx1 : (Rows.laid_loop_example_obliviousqueries_impl_reserved : DataW Unit) = .slice (strs resW) [] := rfl
    rw [hx1] at hx
    simp only [Prod.mk.injEq, DataW.slice.injEq] at hx
    have e1 := strs_inj hx.1.1
    have e2 : ss.drop len = [] := strs_inj (hx.1.2.symm.trans rfl : (strs (ss.drop len) : List (DataW Unit)) = strs [])
    have hle : ss.length ≤ len := by simpa using e2
    have hlen : ss.length = len := by split at hz <;> omega
    have e3 : ss = resW := by rw [e1, List.take_of_length_le (by omega)]
    have e4 : len = 13 := by rw [← hlen, e3]; rfl
    subst e4
    refine ⟨some a, cap, ?_, ?_⟩
    · have := World.var?_cell gRes hvar 0
      rw [this, ← Array.getElem?_toList, hcs]
      rfl
    · refine ⟨rfl, fun _ => ⟨a, rfl, ?_, ?_⟩⟩
      · have h0 := hcell 0 (by omega)
        have hb0 : (a.add 0).block = a.block := block_of_add _ _
        rcases Nat.lt_or_ge a.block W.heap.size with h' | h'
        · exact h'
        · unfold World.cell? at h0
          rw [hb0, Array.getElem?_eq_none h'] at h0
          simp at h0
      · intro j u hu
        have hj : j < 13 := by
          have := (List.getElem?_eq_some_iff.1 hu).1
          rw [stCells_length] at this
          exact this
        rw [hcell j (by omega), e3]
        rw [← hu]
        simp only [stCells, List.getElem?_map]
        rw [List.getElem?_eq_getElem (show j < resW.length from hj), Option.map_some, List.getD_eq_getElem?_getD, List.getElem?_eq_getElem (show j < resW.length from hj)]
        rfl
end Go.Proofs.YtijpdekcdejfmaaDoor
