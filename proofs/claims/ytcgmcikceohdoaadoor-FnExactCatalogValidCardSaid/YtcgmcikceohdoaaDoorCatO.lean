/- []laws.Named as an argument. -/
import Derived.Test.YtcgmcikceohdoaaDoorCatV
namespace Go.Proofs.YtcgmcikceohdoaaDoor
open Go Go.RowKit Go.WideShapes Go.ChangeShapes Go.WideElems Go.Deep
set_option maxRecDepth 100000

section
variable {H : Type} {enc : TypeId × Value → H} {W : World} {sp : Nat → Bool} {base : Nat}
theorem trod_named {n : Nat} {cs : List Value} {y : DataW H × List MemPlace} (h : DataW.trod enc Tryd.prog W 0 sp true n 91 cs = some y) :
    ∃ (c : CatE) (A : Option Addr) (ca : Nat) (B : Option Addr) (db : Nat), cs = [.string c.1, .slice A c.2.1.length ca, .slice B c.2.2.length db] ∧ TabR W (.agg #[.slice A c.2.1.length ca, .slice B c.2.2.length db]) c.2.1 c.2.2 ∧ Siz c := by
  obtain ⟨y0, y1, n1, _, hl, h0, h1⟩ := trod_struct2 Tryd.underlying91 h
  have hl3 : cs.length = 3 := hl.trans (by kernel_rfl)
  match cs, hl3 with
  | [x0, x1, x2], _ =>
    have h0' : DataW.trod enc Tryd.prog W 0 sp true n1 9 [x0] = some y0 := h0
    have h1' : DataW.trod enc Tryd.prog W 0 sp true n1 34 [x1, x2] = some y1 := h1
    obtain ⟨s, e, _, hs⟩ := DataW.trod_string Tryd.underlying9 h0'
    obtain ⟨z0, z1, n2, _, _, g0, g1⟩ := trod_struct2 Tryd.underlying34 h1'
    have g0' : DataW.trod enc Tryd.prog W 0 sp true n2 27 [x1] = some z0 := g0
    have g1' : DataW.trod enc Tryd.prog W 0 sp true n2 28 [x2] = some z1 := g1
    obtain ⟨A, c, xs, rfl, a1, a2, a3, a4⟩ := trod_names g0'
    obtain ⟨B, d, rows, rfl, b1, b2, b3, b4⟩ := trod_rows g1'
    simp at e
    subst e
    exact ⟨(s, xs, rows), A, c, B, d, rfl, ⟨A, c, B, d, rfl, a1, a4, b4⟩, ⟨hs, by show xs.length ≤ maxLen; omega, a3, by show rows.length ≤ maxLen; omega, b3⟩⟩
theorem open_named {v : Value} {d : DataW H} {p : List MemPlace} (hv : Value.okWide Tryd.prog W .any base 59 v) (h : DataW.Trod enc Tryd.prog W 0 sp true 59 v d p) :
    ∃ (A : Option Addr) (n c : Nat) (cs : List CatE), v = .slice A n c ∧ n ≤ maxLen ∧ CatR W A n cs ∧ ∀ c ∈ cs, Siz c := by
  obtain ⟨a0, len, cap, rfl⟩ := okWide_slice Tryd.underlying59 hv
  obtain ⟨fuel, hf⟩ := h
  rcases open_slice Tryd.underlying59 hf with ⟨hcs, _⟩ | ⟨a, len', cap', m, n, D, Pl, hcs, _, hl, hm, hmm, hx, hi⟩
  · simp [Value.cells] at hcs
    obtain ⟨rfl, rfl, rfl⟩ := hcs
    exact ⟨none, 0, 0, [], rfl, by unfold maxLen; omega, ⟨rfl, by simp⟩, by simp⟩
  · simp [Value.cells] at hcs
    obtain ⟨rfl, rfl, rfl⟩ := hcs
    rw [show Tryd.prog.cellsOf 91 = 3 by kernel_rfl] at hi
    have each : ∀ i, i < len → ∃ c : CatE, Siz c ∧ ∃ (Ak : Option Addr) (ck : Nat) (Bk : Option Addr) (dk : Nat), W.cell? (a.add (i * 3)) = some (.string c.1) ∧ W.cell? ⟨(a.add (i * 3)).block, (a.add (i * 3)).off + 1, none⟩ = some (.slice Ak c.2.1.length ck) ∧ W.cell? ⟨(a.add (i * 3)).block, (a.add (i * 3)).off + 2, none⟩ = some (.slice Bk c.2.2.length dk) ∧ TabR W (.agg #[.slice Ak c.2.1.length ck, .slice Bk c.2.2.length dk]) c.2.1 c.2.2 := by
      intro i hil
      obtain ⟨cs', h1, h2⟩ := hi i (by rw [hmm]; split <;> omega)
      obtain ⟨c, Ak, ck, Bk, dk, rfl, ht, hs⟩ := trod_named h2
      obtain ⟨_, _, hat⟩ := World.cells?_some h1
      have k0 := hat 0 (by omega)
      have k1 := hat 1 (by omega)
      have k2 := hat 2 (by omega)
      refine ⟨c, hs, Ak, ck, Bk, dk, ?_, ?_, ?_, ht⟩
      · simpa [Addr.add] using k0
      · rw [← addr_add_pos _ 1 (by decide)]; exact k1
      · rw [← addr_add_pos _ 2 (by decide)]; exact k2
    obtain ⟨f, hf'⟩ := choose_lt each
    refine ⟨some a, len, cap, (List.range len).map f, rfl, by omega, ⟨by simp, ?_⟩, ?_⟩
    · intro k c hc
      by_cases hkl : k < len
      · simp [hkl] at hc
        subst hc
        obtain ⟨_, Ak, ck, Bk, dk, h1, h2, h3, h4⟩ := hf' k hkl
        exact ⟨a, Ak, ck, Bk, dk, rfl, h1, h2, h3, h4⟩
      · simp [hkl] at hc
    · intro c hc
      simp only [List.mem_map, List.mem_range] at hc
      obtain ⟨i, hil, rfl⟩ := hc
      exact (hf' i hil).1
end
end Go.Proofs.YtcgmcikceohdoaaDoor
