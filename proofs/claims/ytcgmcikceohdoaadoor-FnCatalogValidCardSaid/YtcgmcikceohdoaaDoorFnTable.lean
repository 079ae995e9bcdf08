/- spec.DrawTableValid. -/
import Derived.Test.YtcgmcikceohdoaaDoorDrawTab
import Derived.Test.YtcgmcikceohdoaaDoorSameL
namespace Go.Proofs.YtcgmcikceohdoaaDoor
open Go Go.RowKit
set_option maxRecDepth 100000

/-- What a drawing of a table leaves. -/
def DrewTab (w : World) (e : Ending) (w' : World) : Prop := ∃ (nv rv : Value) (names : List ByteArray) (rows : List (List Int)), e = .returned (.agg #[nv, rv]) ∧ TabO w' w.heap.size (.agg #[nv, rv]) names rows ∧ DrawnT names rows ∧ Below w.heap.size w w'
theorem DrawnT.ok {names : List ByteArray} {rows : List (List Int)} (h : DrawnT names rows) : TabOk names rows :=
  ⟨by have := h.n1; omega, fun x hx => by have := h.n2 x hx; omega, by have := h.r1; omega, fun r hr => by have := h.r2 r hr; omega⟩
/-- A table pair stored into a fresh pair of cells. -/
theorem TabO.pair {w : World} {lo g : Nat} {nv rv : Value} {names : List ByteArray} {rows : List (List Int)} {cs : Array Value} (h : TabO w lo (.agg #[nv, rv]) names rows) (hb : Blk w g 30 cs) (hs : cs.size = 2) :
    TabO ((w.setCell ⟨g, 0, none⟩ nv).setCell ⟨g, 1, none⟩ rv) lo (.agg #[nv, rv]) names rows ∧ Blk ((w.setCell ⟨g, 0, none⟩ nv).setCell ⟨g, 1, none⟩ rv) g 30 #[nv, rv] ∧ Touch g (g + 1) w ((w.setCell ⟨g, 0, none⟩ nv).setCell ⟨g, 1, none⟩ rv) := by
  obtain ⟨v0, v1, e, h0, vs, h1⟩ := h
  simp only [Value.agg.injEq] at e
  have e0 : nv = v0 := by have := congrArg (fun a => a[0]?) e; simpa using this
  have e1 : rv = v1 := by have := congrArg (fun a => a[1]?) e; simpa using this
  subst e0 e1
  have hk : ∀ k, k < w.heap.size → k ≠ g → ((w.setCell ⟨g, 0, none⟩ nv).setCell ⟨g, 1, none⟩ rv).heap[k]? = w.heap[k]? := fun k _ hk => (Below.heap_setCell _ ⟨g, 1, none⟩ rv k hk).trans (Below.heap_setCell _ ⟨g, 0, none⟩ nv k hk)
  have hb' := (hb.set_ 0 nv).set_ 1 rv
  have hcs : (cs.setIfInBounds 0 nv).setIfInBounds 1 rv = #[nv, rv] := by
    apply Array.ext
    · simp [hs]
    · intro i h1 h2
      simp [hs] at h1
      match i, h1 with
      | 0, _ => simp [Array.getElem_setIfInBounds, hs]
      | 1, _ => simp [Array.getElem_setIfInBounds, hs]
  rw [hcs] at hb'
  refine ⟨⟨nv, rv, rfl, own_off_blk h0 hb (by decide) hk, vs, ?_⟩, hb', ((Touch.refl _ _ _).setCell (p := ⟨g, 0, none⟩) (Or.inl ⟨Nat.le_refl _, Nat.lt_succ_self _⟩) _).setCell (p := ⟨g, 1, none⟩) (Or.inl ⟨Nat.le_refl _, Nat.lt_succ_self _⟩) _⟩
  have := h1.off_blk hb (by decide) (by decide) hk
  simpa [World.setCell] using this
theorem TabO.form {w : World} {lo : Nat} {nv rv : Value} {names : List ByteArray} {rows : List (List Int)} (h : TabO w lo (.agg #[nv, rv]) names rows) : ∃ (A : Option Addr) (c : Nat) (B : Option Addr) (d : Nat), nv = .slice A names.length c ∧ rv = .slice B rows.length d := by
  obtain ⟨A, c, B, d, e, _⟩ := h.reads
  simp only [Value.agg.injEq] at e
  have e0 := congrArg (fun a => a[0]?) e
  have e1 := congrArg (fun a => a[1]?) e
  simp at e0 e1
  exact ⟨A, c, B, d, e0, e1⟩
set_option maxHeartbeats 800000 in
theorem drawTab_any (A : Option Addr) (n c : Nat) (xs : List UInt8) (w : World) (hx : Reads w w.heap.size 1 A n (byCells xs)) (hl : xs.length = n) (hn : n ≤ 1048576) (hc : n ≤ c) (hc2 : c ≤ maxLen) :
    Calls Tryd.prog 19 #[.slice A n c] w (DrewTab w) := by
  have HO := Lib.hid (fun (w' : World) (hb : Below w.heap.size w w') => open_c A n c xs w' ((hx.below hb).more hb.size) hl hn hc hc2)
  clear hx hl
  go_enter Tryd.func19, Tryd.ntmps19
  go_wp2_with fail
  obtain ⟨w0, hw0⟩ : ∃ w0, w0 = w.alloc (.cells #[.slice none 0 0, .slice none 0 0] 30) := ⟨_, rfl⟩
  have b0 : Below w.heap.size w w0 := by rw [hw0]; exact (Below.refl _ _).alloc (Nat.le_refl _) _
  have k0 : Blk w0 w.heap.size 30 #[.slice none 0 0, .slice none 0 0] := by rw [hw0]; exact Blk.new _ _ _
  rw [← hw0]
  clear hw0
  refine (HO.out w0 b0).mono ?_
  rintro e w1 ⟨rfl, r1, b1, -⟩
  have hk0 := k0.lt
  have k1 := k0.below b1 hk0
  have B1 := b0.trans (b1.mono b0.size)
  go_wp2_with fail
  refine (pick_c _ 50000 3 _ (r1.less (by omega)) (by omega)).mono ?_
  rintro e w2 ⟨x, rfl, hx, r2, t2, -⟩
  go_wp2_with fail
  refine (table_c _ 10 x 2 _ (r2.less (by omega)) (by omega) (by omega)).mono ?_
  rintro e w3 ⟨nv, rv, names, rows, rfl, ho, hd, r3, t3⟩
  have k3 := t3.blk (t2.blk k1 (by omega)) (by omega)
  have hsz : w.heap.size ≤ w2.heap.size := Nat.le_trans B1.size t2.size
  have B3 := (t2.trans t3).below B1 (by omega)
  obtain ⟨D1, D2, D3⟩ := ho.pair k3 rfl
  have B4 := D3.below B3 (Nat.le_refl _)
  obtain ⟨A4, c4, A5, c5, rfl, rfl⟩ := ho.form
  have P := Lib.hid (And.intro D1 B4)
  have y0 := k3.cell 0
  have y1 := k3.cell 1
  have f0 := k3.frozen 0
  have f1 := k3.frozen 1
  have z0 := D2.cell 0
  have z1 := D2.cell 1
  simp at y0 y1 z0 z1
  have Z := Lib.hid (And.intro z0 z1)
  clear k0 k1 k3 D1 D2 D3 B4 B3 t2 t3 r2 r3 ho b0 b1 B1 r1 HO z0 z1
  go_wp2_with fail
  have hz := Z.out
  have hp := P.out
  clear y0 y1 f0 f1 Z P
  generalize (World.setCell (World.setCell _ ⟨w.heap.size, 0, none⟩ _) ⟨w.heap.size, 1, none⟩ _) = wZ at hz hp ⊢
  exact bodyPost_ret (v := .agg #[_, _]) (by simp [results, Tryd.results19, go_sem, hz.1, hz.2]) rfl ⟨_, _, names, rows, rfl, hp.1.low hsz, hd, hp.2⟩
end Go.Proofs.YtcgmcikceohdoaaDoor
