/- what the rows' lists 'laid' give over the library's variables of strconv, and a world that fits. -/
import Derived.Test.YtcfjgieiaioinaaDoorNum
import Derived.Test.YtcfjgieiaioinaaDoorLaid
import Derived.Stop.LaidErr
namespace Go.Proofs.YtcfjgieiaioinaaDoor
open Go Go.RowKit Go.ChangeShapes
theorem gTab : Tryd.prog.globalNamed "internal/strconv.uint64pow10" = some 3 := by kernel_rfl
theorem gTabType : (Tryd.prog.globals[3]?).map (·.type) = some 76 := by kernel_rfl
theorem tab_eq : (Rows.laid_internal_strconv_uint64pow10 : DataW Unit) = Lib.tabData .u64 Lib.pow10Tab := rfl
theorem cells_u64 : Tryd.prog.cellsOf 63 = 1 := by kernel_rfl
theorem cells_tab : Tryd.prog.cellsOf 76 = 20 := by kernel_rfl
theorem tab_laid {W : World} {rest : List (String × DataW Unit)} (h : laidMet Tryd.prog (("internal/strconv.uint64pow10", Rows.laid_internal_strconv_uint64pow10) :: rest) W) : NT W := by
  rw [tab_eq] at h
  exact Lib.tabIs_of_head gTab gTabType Tryd.underlying76 Tryd.underlying63 cells_u64 cells_tab h
theorem gSyn : Tryd.prog.globalNamed "strconv.ErrSyntax" = some 1 := by kernel_rfl
theorem gSynType : (Tryd.prog.globals[1]?).map (·.type) = some 38 := by kernel_rfl
theorem gRng : Tryd.prog.globalNamed "strconv.ErrRange" = some 2 := by kernel_rfl
theorem gRngType : (Tryd.prog.globals[2]?).map (·.type) = some 38 := by kernel_rfl
theorem cells_err : Tryd.prog.cellsOf 84 = 1 := by kernel_rfl
theorem star_err : "*" ++ "errors.errorString" = "*errors.errorString" := by decide
theorem row_err (u : TypeId) (h : Tryd.prog.typeName? 3 u = some "*errors.errorString") : u = 82 :=
  typeName_ptr_named (nm := "errors.errorString") (by rw [star_err]; kernel_rfl) (by kernel_rfl) (by decide) u (by rw [star_err]; exact h)
theorem syn_laid {W : World} {rest : List (String × DataW Unit)} (h : laidMet Tryd.prog (("strconv.ErrSyntax", Rows.laid_strconv_ErrSyntax) :: rest) W) : ∃ tp p, W.cell? ⟨1, 0, none⟩ = some (.iface tp p) := by
  obtain ⟨a0, s0, hv0, -, -, -⟩ := laid_sentinel h gSyn gSynType Tryd.underlying38 row_err Tryd.underlying82 Tryd.underlying84 rfl rfl Tryd.underlying9 cells_err strCells
  exact ⟨_, _, by have h0 := World.var?_cell gSyn hv0 0; simpa using h0⟩
theorem rng_laid {W : World} {rest : List (String × DataW Unit)} (h : laidMet Tryd.prog (("strconv.ErrRange", Rows.laid_strconv_ErrRange) :: rest) W) : ∃ tp p, W.cell? ⟨2, 0, none⟩ = some (.iface tp p) := by
  obtain ⟨a0, s0, hv0, -, -, -⟩ := laid_sentinel h gRng gRngType Tryd.underlying38 row_err Tryd.underlying82 Tryd.underlying84 rfl rfl Tryd.underlying9 cells_err strCells
  exact ⟨_, _, by have h0 := World.var?_cell gRng hv0 0; simpa using h0⟩
theorem LV.laid {W : World} {a b : DataW Unit} {rest : List (String × DataW Unit)} (h : laidMet Tryd.prog (("math/bits.deBruijn32tab", a) :: ("math/bits.deBruijn64tab", b) :: ("internal/strconv.uint64pow10", Rows.laid_internal_strconv_uint64pow10) :: ("strconv.ErrRange", Rows.laid_strconv_ErrRange) :: ("strconv.ErrSyntax", Rows.laid_strconv_ErrSyntax) :: rest) W) : LV W :=
  ⟨tab_laid h.tail.tail, syn_laid h.tail.tail.tail.tail, rng_laid h.tail.tail.tail⟩
noncomputable def worldN (os : Os) : World := World.holding Tryd.prog os ⟨#[], #[], []⟩
def setG (h : Array Obj) (g : Nat) (cs : Array Value) : Array Obj := h.modify g fun
  | .cells _ t frozen => .cells cs t frozen
  | o => o
def u8s (xs : List Int) : Array Value := (xs.map fun z => Value.int .u8 z).toArray
noncomputable def headN (os : Os) : Array Obj :=
  setG (setG (setG (setG (setG (setG (worldN os).heap 4 (u8s [0, 1, 28, 2, 29, 14, 24, 3, 30, 22, 20, 15, 25, 17, 4, 8, 31, 27, 13, 23, 21, 19, 16, 7, 26, 12, 18, 6, 11, 5, 10, 9]))
    5 (u8s [0, 1, 56, 2, 57, 49, 28, 3, 61, 58, 42, 50, 38, 29, 17, 4, 62, 47, 59, 36, 45, 43, 51, 22, 53, 39, 33, 30, 24, 18, 12, 5, 63, 55, 48, 27, 60, 41, 37, 16, 46, 35, 44, 21, 52, 32, 23, 11, 54, 26, 40, 15, 34, 20, 31, 10, 25, 14, 19, 9, 13, 8, 7, 6]))
    3 (Lib.pow10Tab.map fun z => Value.int .u64 z).toArray)
    2 #[.iface 82 (.pointer (some ⟨(worldN os).heap.size + 1, 0, none⟩))])
    1 #[.iface 82 (.pointer (some ⟨(worldN os).heap.size + 2, 0, none⟩))])
    0 #[.slice (some ⟨(worldN os).heap.size, 0, none⟩) 13 13]
noncomputable def laidWorldN (os : Os) : World := { worldN os with heap := ((Array.push (headN os) (Obj.cells (stCells resW).toArray 9)).push (Obj.cells #[.string ⟨#[118, 97, 108, 117, 101, 32, 111, 117, 116, 32, 111, 102, 32, 114, 97, 110, 103, 101]⟩] 84)).push (Obj.cells #[.string ⟨#[105, 110, 118, 97, 108, 105, 100, 32, 115, 121, 110, 116, 97, 120]⟩] 84) }
end Go.Proofs.YtcfjgieiaioinaaDoor
