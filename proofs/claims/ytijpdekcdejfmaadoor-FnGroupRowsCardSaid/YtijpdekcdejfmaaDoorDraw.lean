/- The laws' drawing: spec.l20Open, pick, odd. -/
import Derived.Test.YtijpdekcdejfmaaDoorBase
import Derived.Test.YtijpdekcdejfmaaDoorTouch
import Derived.Laws.BitsAllLaws
import Derived.Laws.BitsLemmas
import Derived.IntWalk
import Derived.Deep.Light
import Derived.Outline
namespace Go.Proofs.YtijpdekcdejfmaaDoor
open Go Go.RowKit

/-! ### the reader of the code -/
def byCells (xs : List UInt8) : List Value := xs.map fun b => .int .u8 (b.toNat : Int)
theorem byCells_length (xs : List UInt8) : (byCells xs).length = xs.length := by simp [byCells]
theorem by_at {w : World} {B n : Nat} {A : Option Addr} {xs : List UInt8} {k : Nat} (h : Reads w B 1 A n (byCells xs)) (hxn : xs.length = n) (hk : k < n) :
    ∃ (ad : Addr) (b : Nat), A = some ad ∧ ad.block < B ∧ b < 256 ∧ w.cell? (ad.add k) = some (.int .u8 (b : Int)) := by
  obtain ⟨ad, u, rfl, hb, hu, hc⟩ := h.at_ hk
  obtain ⟨x, hx⟩ : ∃ x, xs[k]? = some x := ⟨_, List.getElem?_eq_getElem (by omega)⟩
  have : u = .int .u8 (x.toNat : Int) := by simpa [byCells, hx] using hu.symm
  subst this
  exact ⟨ad, x.toNat, rfl, hb, UInt8.toNat_lt x, hc⟩

def Rd (w : World) (R lim : Nat) : Prop := ∃ (A : Option Addr) (n c p : Nat) (xs : List UInt8), Blk w R 65 #[.slice A n c, .int .i64 (p : Int)] ∧ Reads w R 1 A n (byCells xs) ∧ xs.length = n ∧ p ≤ lim ∧ n ≤ 2000
section
variable {w w' : World} {R lim lim' : Nat}
theorem Rd.lt (h : Rd w R lim) : R < w.heap.size := by obtain ⟨_, _, _, _, _, h, _⟩ := h; exact h.lt
theorem Rd.up (h : Rd w R lim) (hl : lim ≤ lim') : Rd w R lim' := by
  obtain ⟨A, n, c, p, xs, h1, h2, h3, h4, h5⟩ := h
  exact ⟨A, n, c, p, xs, h1, h2, h3, by omega, h5⟩
theorem Rd.below (h : Rd w R lim) (hb : Below w.heap.size w w') : Rd w' R lim := by
  have hlt := h.lt
  obtain ⟨A, n, c, p, xs, h1, h2, h3, h4, h5⟩ := h
  exact ⟨A, n, c, p, xs, h1.below hb hlt, h2.belowW (by omega) hb, h3, h4, h5⟩
theorem Rd.alloc (h : Rd w R lim) (o : Obj) : Rd (w.alloc o) R lim := h.below ((Below.refl _ _).alloc (Nat.le_refl _) _)
theorem Rd.drew (h : Rd w R lim) : Rd w.drew R lim := h
theorem Rd.drewN (h : Rd w R lim) (n : Nat) : Rd (w.drewN n) R lim := h
theorem Rd.touch {lo hi : Nat} (h : Rd w R lim) (ht : Touch lo hi w w') (hR : R < lo) : Rd w' R lim := by
  have hlt := h.lt
  obtain ⟨A, n, c, p, xs, h1, h2, h3, h4, h5⟩ := h
  exact ⟨A, n, c, p, xs, ht.blk h1 (Or.inl hR), h2.touch ht (by omega) (by omega), h3, h4, h5⟩
end

/-- What a call of pick leaves. -/
def Picked (n : Int) (R lim : Nat) (w : World) (e : Ending) (w' : World) : Prop := ∃ x : Nat, e = .returned (.int .i64 (x : Int)) ∧ ((x : Int) < n ∨ x = 0) ∧ Rd w' R (lim + 1) ∧ Touch R (R + 1) w w' ∧ w'.heap.size = w.heap.size

theorem xorB {a b : Nat} (ha : a < 9223372036854775808) (hb : b < 9223372036854775808) : bits .xor .i64 (a : Int) (b : Int) = ((a ^^^ b : Nat) : Int) := by
  have bt : ∀ a : Nat, a < 9223372036854775808 → (BitVec.ofInt 64 (a : Int)).toNat = a := fun a ha => by
    rw [BitVec.ofInt_natCast, BitVec.toNat_ofNat]; exact Nat.mod_eq_of_lt (by omega)
  have hx : a ^^^ b < 2 ^ 63 := Nat.xor_lt_two_pow (by omega) (by omega)
  show IntKind.i64.wrap ((BitVec.ofInt 64 (a : Int) ^^^ BitVec.ofInt 64 (b : Int)).toNat : Int) = _
  rw [BitVec.toNat_xor, bt a ha, bt b hb, IntKind.wrap_i64]
  omega

theorem far_cell {w : World} {p q : Addr} {u v : Value} (h : w.cell? q = some v) (hne : q.block ≠ p.block) : (w.setCell p u).cell? q = some v :=
  (World.cell?_setCell_other w p q u (fun e => hne (by rw [e]))).trans h
theorem picked_mk {n : Int} {R lim : Nat} {w : World} {A : Option Addr} {m c p : Nat} {xs : List UInt8} (x : Nat) (hx : (x : Int) < n ∨ x = 0)
    (hb : Blk w R 65 #[.slice A m c, .int .i64 (p : Int)]) (hr : Reads w R 1 A m (byCells xs)) (hxn : xs.length = m) (hp : p ≤ lim) (hm : m ≤ 2000) (k : Nat) :
    Picked n R lim w (.returned (.int .i64 (x : Int))) ((w.setCell ⟨R, 1, none⟩ (.int .i64 ((p : Int) + 1))).drewN k) := by
  refine ⟨x, rfl, hx, ⟨A, m, c, p + 1, xs, ?_, ?_, hxn, by omega, hm⟩, ?_, by simp [World.setCell]⟩
  · have := hb.set_ 1 (.int .i64 ((p : Int) + 1))
    exact this.drewN k
  · exact (hr.setCell (p := ⟨R, 1, none⟩) (Nat.le_refl _) _).drewN k
  · exact ((Touch.refl R (R + 1) w).setCell (p := ⟨R, 1, none⟩) (Or.inl ⟨Nat.le_refl _, Nat.lt_succ_self _⟩) _).drewN k

set_option maxHeartbeats 400000 in
set_option maxRecDepth 100000 in
theorem pick_any (R lim : Nat) (n : Int) (w : World) (h : Rd w R lim) (hl : lim ≤ 100000) (hn : n ≤ 100000) :
    Calls Tryd.prog 22 #[.pointer (some ⟨R, 0, none⟩), .int .i64 n] w (Picked n R lim w) := by
  have hR := h.lt
  obtain ⟨A, m, c, p, xs, hb, hr, hx, hp, hm⟩ := h
  have c0 := hb.cell 0
  have c1 := hb.cell 1
  have f1 := hb.frozen 1
  simp at c0 c1
  have HX := Lib.hid hx
  have HP := Lib.hid (fun x hx => picked_mk (n := n) x hx hb hr HX.out hp hm)
  clear hx hb
  by_cases hn1 : n < 1
  · clear hr
    go_enter Tryd.func22, Tryd.ntmps22
    go_wp2_with fail
    go_ret
    exact HP.out 0 (Or.inr rfl) 0
  · by_cases hm0 : m = 0
    · subst hm0
      clear hr
      go_enter Tryd.func22, Tryd.ntmps22
      go_wp2_with fail
      go_ret
      exact HP.out 0 (Or.inr rfl) 0
    · have hm1 : ((m : Int) == 0) = false := by simp; omega
      by_cases hpm : p < m
      · obtain ⟨ad, b, rfl, hadb, hb256, e1⟩ := by_at hr HX.out hpm
        have e1' := far_cell (p := ⟨R, 1, none⟩) (u := .int .i64 ((p : Int) + 1)) e1 (by rw [block_of_add]; exact Nat.ne_of_lt hadb)
        have hp0 : (0 : Int) ≤ (p : Int) := by omega
        have hp1 : (p : Int) < (m : Int) := by omega
        clear hr
        go_enter Tryd.func22, Tryd.ntmps22
        go_wp2_with fail
        go_ret
        have h1 := Int.emod_nonneg (b : Int) (show n ≠ 0 by omega)
        have h2 := Int.emod_lt_of_pos (b : Int) (show 0 < n by omega)
        have h3 := HP.out ((b : Int) % n).toNat (Or.inl (by omega)) 0
        rw [Int.toNat_of_nonneg h1] at h3
        exact h3
      · obtain ⟨ad, b, rfl, hadb, hb256, e1⟩ := by_at hr HX.out (k := p % m) (Nat.mod_lt _ (by omega))
        obtain ⟨ad', b', hA, _, hb256', e2⟩ := by_at hr HX.out (k := (p * 7 + 3) % m) (Nat.mod_lt _ (by omega))
        obtain rfl := Option.some.inj hA
        obtain ⟨K1, hK1, t1⟩ : ∃ K : Nat, K = p % m ∧ ((p : Int).tmod (m : Int)) = (K : Int) := ⟨p % m, rfl, by rw [Int.tmod_eq_emod_of_nonneg (by omega)]; rfl⟩
        obtain ⟨Y1, hY1, t2⟩ : ∃ Y : Nat, Y = p * 7 ∧ IntKind.i64.wrap ((p : Int) * 7) = (Y : Int) := ⟨p * 7, rfl, by rw [IntWalk.i64_in _ (by omega)]; omega⟩
        obtain ⟨Y2, hY2, t3⟩ : ∃ Y : Nat, Y = p * 7 + 3 ∧ IntKind.i64.wrap ((Y1 : Int) + 3) = (Y : Int) := ⟨p * 7 + 3, rfl, by rw [IntWalk.i64_in _ (by omega)]; omega⟩
        obtain ⟨K2, hK2, t4⟩ : ∃ K : Nat, K = (p * 7 + 3) % m ∧ ((Y2 : Int).tmod (m : Int)) = (K : Int) := ⟨(p * 7 + 3) % m, rfl, by rw [Int.tmod_eq_emod_of_nonneg (by omega), hY2]; rfl⟩
        obtain ⟨Q, hQ, t5⟩ : ∃ K : Nat, K = p / m ∧ ((p : Int).tdiv (m : Int)) = (K : Int) := ⟨p / m, rfl, by rw [Int.tdiv_eq_ediv_of_nonneg (by omega)]; rfl⟩
        have hQp : Q ≤ p := by rw [hQ]; exact Nat.div_le_self _ _
        have t6 : IntKind.i64.wrap (Q : Int) = (Q : Int) := IntWalk.i64_in _ (by omega)
        obtain ⟨X1, hX1, s1⟩ : ∃ X : Nat, X ≤ 33536 ∧ IntKind.i64.wrap ((b : Int) * 131) = (X : Int) := ⟨b * 131, by omega, by rw [IntWalk.i64_in _ (by omega)]; omega⟩
        obtain ⟨X2, hX2, s2⟩ : ∃ X : Nat, X ≤ 285952 ∧ IntKind.i64.wrap ((b' : Int) * 1117) = (X : Int) := ⟨b' * 1117, by omega, by rw [IntWalk.i64_in _ (by omega)]; omega⟩
        obtain ⟨X3, hX3, s3⟩ : ∃ X : Nat, X ≤ 400000 ∧ IntKind.i64.wrap ((X1 : Int) + (X2 : Int)) = (X : Int) := ⟨X1 + X2, by omega, by rw [IntWalk.i64_in _ (by omega)]; omega⟩
        obtain ⟨X4, hX4, s4⟩ : ∃ X : Nat, X ≤ 2900000 ∧ IntKind.i64.wrap ((p : Int) * 29) = (X : Int) := ⟨p * 29, by omega, by rw [IntWalk.i64_in _ (by omega)]; omega⟩
        obtain ⟨X5, hX5, s5⟩ : ∃ X : Nat, X ≤ 3300000 ∧ IntKind.i64.wrap ((X3 : Int) + (X4 : Int)) = (X : Int) := ⟨X3 + X4, by omega, by rw [IntWalk.i64_in _ (by omega)]; omega⟩
        obtain ⟨X6, hX6, s6⟩ : ∃ X : Nat, X ≤ 5300000 ∧ IntKind.i64.wrap ((Q : Int) * 53) = (X : Int) := ⟨Q * 53, by omega, by rw [IntWalk.i64_in _ (by omega)]; omega⟩
        obtain ⟨X7, hX7, s7⟩ : ∃ X : Nat, X ≤ 8600000 ∧ IntKind.i64.wrap ((X5 : Int) + (X6 : Int)) = (X : Int) := ⟨X5 + X6, by omega, by rw [IntWalk.i64_in _ (by omega)]; omega⟩
        obtain ⟨X8, s8⟩ : ∃ X : Nat, bits .xor .i64 (X7 : Int) ((X7 : Int) / 64) = (X : Int) := ⟨X7 ^^^ (X7 / 64), by have h := xorB (a := X7) (b := X7 / 64) (by omega) (by omega); rw [Int.natCast_ediv] at h; exact h⟩
        have hk1 : K1 < m := by rw [hK1]; exact Nat.mod_lt _ (by omega)
        have hk2 : K2 < m := by rw [hK2]; exact Nat.mod_lt _ (by omega)
        rw [← hK1] at e1
        rw [← hK2] at e2
        have e1' := far_cell (p := ⟨R, 1, none⟩) (u := .int .i64 ((p : Int) + 1)) e1 (by rw [block_of_add]; exact Nat.ne_of_lt hadb)
        have e2' := far_cell (p := ⟨R, 1, none⟩) (u := .int .i64 ((p : Int) + 1)) e2 (by rw [block_of_add]; exact Nat.ne_of_lt hadb)
        have i1 : (0 : Int) ≤ (K1 : Int) := by omega
        have i2 : (K1 : Int) < (m : Int) := by omega
        have i3 : (0 : Int) ≤ (K2 : Int) := by omega
        have i4 : (K2 : Int) < (m : Int) := by omega
        clear hK1 hY1 hY2 hK2 hQ hX1 hX2 hX3 hX4 hX5 hX6 hk1 hk2 hQp hr
        go_enter Tryd.func22, Tryd.ntmps22
        go_wp2_with fail
        go_quiet (fail)
        clear t1 t2 t3 t4 t5 t6 s1 s2 s3 s4 s5 s6 s7
        go_wp2_with fail
        go_ret
        have h1 := Int.emod_nonneg (X8 : Int) (show n ≠ 0 by omega)
        have h2 := Int.emod_lt_of_pos (X8 : Int) (show 0 < n by omega)
        have h3 := HP.out ((X8 : Int) % n).toNat (Or.inl (by omega)) nq
        rw [Int.toNat_of_nonneg h1] at h3
        exact h3
/-- A reader with room for B calls more. -/
def Rc (w : World) (R B : Nat) : Prop := ∃ l, l + B ≤ 100000 ∧ Rd w R l
section
variable {w w' : World} {R B B' : Nat}
theorem Rc.lt (h : Rc w R B) : R < w.heap.size := by obtain ⟨_, _, h⟩ := h; exact h.lt
theorem Rc.less (h : Rc w R B) (hl : B' ≤ B) : Rc w R B' := by obtain ⟨l, h1, h2⟩ := h; exact ⟨l, by omega, h2⟩
theorem Rc.below (h : Rc w R B) (hb : Below w.heap.size w w') : Rc w' R B := by obtain ⟨l, h1, h2⟩ := h; exact ⟨l, h1, h2.below hb⟩
theorem Rc.alloc (h : Rc w R B) (o : Obj) : Rc (w.alloc o) R B := by obtain ⟨l, h1, h2⟩ := h; exact ⟨l, h1, h2.alloc o⟩
theorem Rc.drew (h : Rc w R B) : Rc w.drew R B := h
theorem Rc.drewN (h : Rc w R B) (n : Nat) : Rc (w.drewN n) R B := h
theorem Rc.touch {lo hi : Nat} (h : Rc w R B) (ht : Touch lo hi w w') (hR : R < lo) : Rc w' R B := by obtain ⟨l, h1, h2⟩ := h; exact ⟨l, h1, h2.touch ht hR⟩
end
def Pk (n : Int) (R B : Nat) (w : World) (e : Ending) (w' : World) : Prop := ∃ x : Nat, e = .returned (.int .i64 (x : Int)) ∧ ((x : Int) < n ∨ x = 0) ∧ Rc w' R B ∧ Touch R (R + 1) w w' ∧ w'.heap.size = w.heap.size
theorem pick_c (R B : Nat) (n : Int) (w : World) (h : Rc w R (B + 1)) (hn : n ≤ 100000) :
    Calls Tryd.prog 22 #[.pointer (some ⟨R, 0, none⟩), .int .i64 n] w (Pk n R B w) := by
  obtain ⟨l, h1, h2⟩ := h
  exact (pick_any R l n w h2 (by omega) hn).mono fun e w' ⟨x, a, b, c, d, s⟩ => ⟨x, a, b, ⟨l + 1, by omega, c⟩, d, s⟩

/-- What a call of odd leaves. -/
def Od (R B : Nat) (w : World) (e : Ending) (w' : World) : Prop := ∃ q : Bool, e = .returned (.bool q) ∧ Rc w' R B ∧ Touch R (R + 1) w w' ∧ w'.heap.size = w.heap.size
set_option maxHeartbeats 400000 in
theorem odd_c (R B : Nat) (n : Int) (w : World) (h : Rc w R (B + 1)) (hn : n ≤ 100000) :
    Calls Tryd.prog 38 #[.pointer (some ⟨R, 0, none⟩), .int .i64 n] w (Od R B w) := by
  by_cases h0 : 0 < n
  · go_enter Tryd.func38, Tryd.ntmps38
    go_wp2_with fail
    refine (pick_c R B n _ h hn).mono ?_
    rintro e w' ⟨x, rfl, hx, hc, ht, hs⟩
    go_wp2_with fail
    go_ret
    exact ⟨_, rfl, hc, ht, hs⟩
  · go_enter Tryd.func38, Tryd.ntmps38
    go_wp2_with fail
    go_ret
    exact ⟨_, rfl, h.less (by omega), Touch.refl _ _ _, rfl⟩

/-- What l20Open leaves: the reader in the first new block. -/
def Opened (w : World) (e : Ending) (w' : World) : Prop := e = .returned (.pointer (some ⟨w.heap.size, 0, none⟩)) ∧ Rc w' w.heap.size 100000 ∧ Below w.heap.size w w' ∧ w'.heap.size = w.heap.size + 1
set_option maxHeartbeats 400000 in
theorem open_c (A : Option Addr) (n c : Nat) (xs : List UInt8) (w : World) (hx : Reads w w.heap.size 1 A n (byCells xs)) (hl : xs.length = n) (hn : n ≤ 1048576) (hc : n ≤ c) (hc2 : c ≤ maxLen) :
    Calls Tryd.prog 20 #[.slice A n c] w (Opened w) := by
  unfold maxLen at hc2
  have HL := Lib.hid hl
  clear hl
  have fin : ∀ m, m ≤ n → m ≤ 2000 → Opened w (.returned (.pointer (some ⟨w.heap.size, 0, none⟩))) (w.alloc (.cells #[.slice A m c, .int .i64 0] 65)) := by
    intro m hm hm2
    refine ⟨rfl, ⟨0, by omega, A, m, c, 0, xs.take m, Blk.new _ _ _, ?_, by have := HL.out; rw [List.length_take]; omega, Nat.le_refl _, hm2⟩, (Below.refl _ _).alloc (Nat.le_refl _) _, by simp⟩
    refine Reads.alloc ⟨by rw [byCells_length, List.length_take]; have := HL.out; omega, fun h0 => ?_⟩ (Nat.le_refl _) _
    obtain ⟨ad, e, hb, hcell⟩ := hx.2 (by omega)
    refine ⟨ad, e, hb, fun j u hu => hcell j u ?_⟩
    unfold byCells at hu ⊢
    rw [List.getElem?_map, List.getElem?_take] at hu
    rw [List.getElem?_map]
    split at hu
    · exact hu
    · simp at hu
  have FIN := Lib.hid fin
  clear fin hx
  by_cases hbig : 2000 < n
  · have hb1 : (2000 : Int) ≤ (c : Int) := by omega
    go_enter Tryd.func20, Tryd.ntmps20
    go_wp2_with fail
    go_ret
    exact FIN.out 2000 (by omega) (by omega)
  · go_enter Tryd.func20, Tryd.ntmps20
    go_wp2_with fail
    go_ret
    exact FIN.out n (by omega) (by omega)
end Go.Proofs.YtijpdekcdejfmaaDoor
