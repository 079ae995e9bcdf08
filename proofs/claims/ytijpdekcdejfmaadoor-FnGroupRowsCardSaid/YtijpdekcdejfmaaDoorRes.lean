/- What the functions of tables give back: a table of the call's own, and a word. -/
import Derived.Test.YtijpdekcdejfmaaDoorMarkTab
import Derived.Test.YtijpdekcdejfmaaDoorCopyT
namespace Go.Proofs.YtijpdekcdejfmaaDoor
open Go Go.RowKit

def TabRes (w : World) (ok : Bool) (names : List ByteArray) (rows : List (List Int)) (e : Ending) (w' : World) : Prop := ∃ v0 v1 : Value, e = .returned (.tuple #[.agg #[v0, v1], .bool ok]) ∧ TabO w' w.heap.size (.agg #[v0, v1]) names rows ∧ Below w.heap.size w w'
abbrev nilV : Value := .slice none 0 0
/-- The result's block is written. -/
theorem res_store {w w2 : World} {g : Nat} {x y : Value} (hb : Below w.heap.size w w2) (hk : Blk w2 g 26 #[x, y]) (hg : w.heap.size ≤ g) (a b : Value) :
    ((w2.setCell ⟨g, 0, none⟩ a).setCell ⟨g, 1, none⟩ b).cell? ⟨g, 0, none⟩ = some a ∧ ((w2.setCell ⟨g, 0, none⟩ a).setCell ⟨g, 1, none⟩ b).cell? ⟨g, 1, none⟩ = some b ∧ Below w.heap.size w ((w2.setCell ⟨g, 0, none⟩ a).setCell ⟨g, 1, none⟩ b) ∧ Touch g (g + 1) w2 ((w2.setCell ⟨g, 0, none⟩ a).setCell ⟨g, 1, none⟩ b) := by
  have q := (hk.set_ 0 a).set_ 1 b
  have r0 := q.cell 0
  have r1 := q.cell 1
  simp at r0 r1
  exact ⟨r0, r1, (hb.setCell (p := ⟨g, 0, none⟩) hg a).setCell (p := ⟨g, 1, none⟩) hg b, ((Touch.refl _ _ _).setCell (p := ⟨g, 0, none⟩) (Or.inl ⟨Nat.le_refl _, Nat.lt_succ_self _⟩) _).setCell (p := ⟨g, 1, none⟩) (Or.inl ⟨Nat.le_refl _, Nat.lt_succ_self _⟩) _⟩
theorem TabO.nil (w : World) (lo : Nat) : TabO w lo (.agg #[nilV, nilV]) [] [] := ⟨_, _, rfl, World.ownsRow_nil w _ _ _, ⟨[], RowsV.nil w _ _⟩⟩
theorem TabO.nilRes {w w' : World} (hb : Below w.heap.size w w') : TabRes w false [] [] (.returned (.tuple #[.agg #[nilV, nilV], .bool false])) w' := ⟨_, _, rfl, TabO.nil w' _, hb⟩
/-- The result is stored. -/
theorem res_end {w w2 : World} {g lo : Nat} {x y a b : Value} {names : List ByteArray} {rows : List (List Int)} (hb : Below w.heap.size w w2) (hk : Blk w2 g 26 #[x, y]) (hg : w.heap.size ≤ g) (ht : TabO w2 lo (.agg #[a, b]) names rows) (hlo : g + 1 ≤ lo) :
    ((w2.setCell ⟨g, 0, none⟩ a).setCell ⟨g, 1, none⟩ b).cell? ⟨g, 0, none⟩ = some a ∧ ((w2.setCell ⟨g, 0, none⟩ a).setCell ⟨g, 1, none⟩ b).cell? ⟨g, 1, none⟩ = some b ∧ TabRes w true names rows (.returned (.tuple #[.agg #[a, b], .bool true])) ((w2.setCell ⟨g, 0, none⟩ a).setCell ⟨g, 1, none⟩ b) := by
  obtain ⟨r0, r1, rb, tt⟩ := res_store hb hk hg a b
  exact ⟨r0, r1, a, b, rfl, (ht.touch tt hlo (by simp [World.setCell])).low (by omega), rb⟩
theorem res_endA {w w2 : World} {g lo : Nat} {x y a b : Value} {names : List ByteArray} {rows : List (List Int)} (o : Obj) (hb : Below w.heap.size w w2) (hk : Blk w2 g 26 #[x, y]) (hg : w.heap.size ≤ g) (ht : TabO w2 lo (.agg #[a, b]) names rows) (hlo : g + 1 ≤ lo) :
    (((w2.setCell ⟨g, 0, none⟩ a).setCell ⟨g, 1, none⟩ b).alloc o).cell? ⟨g, 0, none⟩ = some a ∧ (((w2.setCell ⟨g, 0, none⟩ a).setCell ⟨g, 1, none⟩ b).alloc o).cell? ⟨g, 1, none⟩ = some b ∧ TabRes w true names rows (.returned (.tuple #[.agg #[a, b], .bool true])) (((w2.setCell ⟨g, 0, none⟩ a).setCell ⟨g, 1, none⟩ b).alloc o) := by
  have q := ((hk.set_ 0 a).set_ 1 b).alloc o
  have r0 := q.cell 0
  have r1 := q.cell 1
  simp at r0 r1
  obtain ⟨_, _, v0, v1, e, h1, h2⟩ := res_end hb hk hg ht hlo
  exact ⟨r0, r1, v0, v1, e, h1.below ((Below.refl _ _).alloc (Nat.le_refl _) _), h2.alloc h2.size _⟩
/-- The first values of a row of the call's own. -/
theorem own_take {w : World} {base n c k : Nat} {e : TypeId} {A : Option Addr} {xs : List Value} (h : w.ownsRow base e 1 (.slice A n c) n xs) (hk : k ≤ n) : w.ownsRow base e 1 (.slice A k c) k (xs.take k) := by
  obtain ⟨h1, h2⟩ := h
  refine ⟨by rw [List.length_take]; omega, ?_⟩
  rcases h2 with ⟨h, h0⟩ | ⟨g, cap, cur, h, hb, hh, hc, hm, hs, ht⟩
  · simp only [Value.slice.injEq] at h
    obtain ⟨rfl, _, rfl⟩ := h
    obtain rfl : k = 0 := by omega
    exact .inl ⟨rfl, rfl⟩
  · simp only [Value.slice.injEq] at h
    obtain ⟨rfl, _, rfl⟩ := h
    refine .inr ⟨g, c, cur, rfl, hb, hh, by omega, hm, hs, ?_⟩
    rw [← ht, List.take_take]
    congr 1; omega
theorem ob_len (A : Option Addr) (n k c : Nat) : (Value.slice A k c).ownBlock = (Value.slice A n c).ownBlock := by cases A <;> rfl
theorem RowsV.take {w : World} {lo hi n c k : Nat} {A : Option Addr} {vs : List Value} {rows : List (List Int)} (h : RowsV w lo hi (.slice A n c) vs rows) (hn : rows.length = n) (hk : k ≤ n) : RowsV w lo hi (.slice A k c) (vs.take k) (rows.take k) := by
  subst hn
  have hl : (rows.take k).length = k := by rw [List.length_take]; omega
  have at_ : ∀ {i : Nat} {u : Value}, (vs.take k)[i]? = some u → vs[i]? = some u := fun {i u} hu => by
    rw [List.getElem?_take] at hu
    split at hu
    · exact hu
    · cases hu
  have atr : ∀ {i : Nat} {u : List Int}, (rows.take k)[i]? = some u → rows[i]? = some u := fun {i u} hu => by
    rw [List.getElem?_take] at hu
    split at hu
    · exact hu
    · cases hu
  refine ⟨by rw [List.length_take, List.length_take, h.len], by rw [hl]; exact own_take h.own hk, fun g e => h.top g (by rw [ob_len A k]; exact e), fun i u r hu hr => h.row i u r (at_ hu) (atr hr), fun i u g hu e => h.under i u g (at_ hu) e, fun i u hu => ?_, fun i j u u' hij hu hu' => h.apart i j u u' hij (at_ hu) (at_ hu')⟩
  rw [ob_len A rows.length]; exact h.off i u (at_ hu)
theorem TabO.takeRows {w : World} {lo n c m d k : Nat} {A B : Option Addr} {names : List ByteArray} {rows : List (List Int)} (h : TabO w lo (.agg #[.slice A n c, .slice B m d]) names rows) (hm : rows.length = m) (hk : k ≤ m) : TabO w lo (.agg #[.slice A n c, .slice B k d]) names (rows.take k) := by
  obtain ⟨v0, v1, e, h0, ⟨us, h1⟩⟩ := h
  simp only [Value.agg.injEq, Array.mk.injEq, List.cons.injEq, and_true] at e
  obtain ⟨rfl, rfl⟩ := e
  exact ⟨_, _, rfl, h0, ⟨_, h1.take hm hk⟩⟩
/-- A table that is read, with what a slicing of its rows asks. -/
def TabC (w : World) (v : Value) (names : List ByteArray) (rows : List (List Int)) : Prop := ∃ (A : Option Addr) (c : Nat) (B : Option Addr) (d : Nat), v = .agg #[.slice A names.length c, .slice B rows.length d] ∧ rows.length ≤ d ∧ ((B = none ∧ d = 0 ∧ rows.length = 0) ∨ ∃ g, B = some ⟨g, 0, none⟩) ∧ TabR w v names rows
theorem TabC.tabR {w : World} {v : Value} {names : List ByteArray} {rows : List (List Int)} (h : TabC w v names rows) : TabR w v names rows := by
  obtain ⟨_, _, _, _, _, _, _, h⟩ := h
  exact h
theorem TabV.tabC {w : World} {lo hi : Nat} {v : Value} {names : List ByteArray} {rows : List (List Int)} (h : TabV w lo hi v names rows) : TabC w v names rows := by
  have hr := h.tabR
  obtain ⟨v0, v1, rfl, h0, _, ⟨us, h1⟩⟩ := h
  obtain ⟨A, c, rfl, ha, _⟩ := own_form h0
  obtain ⟨B, d, rfl, hd, _⟩ := h1.form
  refine ⟨A, c, B, d, rfl, hd, ?_, hr⟩
  rcases h1.own.2 with ⟨h, h0⟩ | ⟨g, _, _, h, _⟩
  · simp only [Value.slice.injEq] at h
    exact .inl ⟨h.1, h.2.2, h.2.1⟩
  · simp only [Value.slice.injEq] at h
    exact .inr ⟨g, h.1⟩
theorem TabO.tabC {w : World} {lo : Nat} {v : Value} {names : List ByteArray} {rows : List (List Int)} (h : TabO w lo v names rows) : TabC w v names rows := h.tabV.tabC
/-- Names and rows that two calls made. -/
theorem TabO.mk2 {w1 w2 : World} {lo : Nat} {v0 v1 : Value} {names : List ByteArray} {rows : List (List Int)} (h0 : w1.ownsRow lo 9 1 v0 names.length (stCells names)) (hb : Below w1.heap.size w1 w2) (h1 : RowsO w2 w1.heap.size w2.heap.size v1 rows) (hl : lo ≤ w1.heap.size) : TabO w2 lo (.agg #[v0, v1]) names rows := by
  obtain ⟨us, h1⟩ := h1
  exact ⟨v0, v1, rfl, own_below h0 hb, us, h1.low hl⟩
theorem TabRes.form {w w' : World} {ok : Bool} {names : List ByteArray} {rows : List (List Int)} {e : Ending} (h : TabRes w ok names rows e w') : ∃ (A : Option Addr) (c : Nat) (B : Option Addr) (d : Nat), e = .returned (.tuple #[.agg #[.slice A names.length c, .slice B rows.length d], .bool ok]) ∧ TabO w' w.heap.size (.agg #[.slice A names.length c, .slice B rows.length d]) names rows ∧ Below w.heap.size w w' := by
  obtain ⟨v0, v1, rfl, ht, hb⟩ := h
  obtain ⟨A, c, B, d, hv⟩ := ht.tabV.form
  rw [hv] at ht ⊢
  exact ⟨A, c, B, d, rfl, ht, hb⟩
/-- What the law's walk keeps of the result that the reference gave and of the block that holds it. -/
theorem Small.none_ : Small [] [] := ⟨by simp, by simp, by simp, by simp⟩
end Go.Proofs.YtijpdekcdejfmaaDoor