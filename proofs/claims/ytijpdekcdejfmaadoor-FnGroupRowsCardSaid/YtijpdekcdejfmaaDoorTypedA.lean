/- Typed regions of the form 'x.f = append(x.f, ..)': the append (operation 7), the field's address (8), the store (9) come behind all others. -/
import Derived.Test.YtijpdekcdejfmaaDoorTypedV
namespace Go.Proofs.YtijpdekcdejfmaaDoor
open Go Go.RowKit
set_option maxRecDepth 100000

theorem openN_bound {listed : Array Bool} (p : Nat → Bool) : ∀ n, (∀ k, k < n → p k = true → listed.getD k true = true) → openN listed n ≤ ((List.range n).filter fun k => !p k).length := by
  intro n
  induction n with
  | zero => intro _; simp [openN]
  | succ n ih =>
    intro h
    have h1 := ih (fun k hk => h k (by omega))
    rw [List.range_succ, List.filter_append, List.length_append]
    unfold openN
    cases hp : p n with
    | true => rw [h n (by omega) hp]; simp [hp]; exact h1
    | false => simp [hp]; split <;> omega
theorem openN_lower {listed : Array Bool} (p : Nat → Bool) : ∀ n, (∀ k, k < n → p k = true → listed.getD k true = false) → ((List.range n).filter p).length ≤ openN listed n := by
  intro n
  induction n with
  | zero => intro _; simp
  | succ n ih =>
    intro h
    have h1 := ih (fun k hk => h k (by omega))
    rw [List.range_succ, List.filter_append, List.length_append]
    unfold openN
    cases hp : p n with
    | true => rw [h n (by omega) hp]; simp [hp]; exact h1
    | false => simp [hp]; omega
theorem getD_true {listed : Array Bool} {k : Nat} (h : listed.getD k false = true) : listed.getD k true = true := by
  by_cases hk : k < listed.size <;> simp [Array.getD, hk] at h ⊢
  exact h
theorem getD_open {listed : Array Bool} {k : Nat} (hk : k < listed.size) (h : ¬ listed.getD k false = true) : listed.getD k true = false := by
  simp [Array.getD, hk] at h ⊢
  exact h
section
variable {ops : Array Oper} {i f : Nat} {o o8 o9 : Oper} {listed : Array Bool}
theorem Lst.later (h : Lst ops i o f listed) {k : Nat} {ok : Oper} (hk : ops[k]? = some ok) (e : Edge) (he : e ∈ ok.after.toList) (hb : Region.binds .any e = true) (hi : e.on = i) : listed.getD k true = false := by
  have hlt := (Array.getElem?_eq_some_iff.1 hk).1
  refine getD_open (by rw [h.size]; exact hlt) (fun hl => ?_)
  have := getD_true (h.closed k ok hl hk e he hb)
  rw [hi, h.here] at this
  cases this
theorem Lst.yield (_ : Lst ops i o f listed) {a : Act} {j d : Nat} {b : Bool} (hd : dstOf ops j = some d) (h : a.tmps.getD d undef = .bool b) : yielded ops a.tmps j = some b := yield_of hd h
/-- Before the last three at least three are open. -/
theorem Lst.low3 (h : Lst ops i o f listed) (hi : i < 8) (hs : ops.size = 10) (h8 : listed.getD 8 true = false) (h9 : listed.getD 9 true = false) : 3 ≤ f + 1 := by
  have := openN_lower (listed := listed) (fun k => k == i || k == 8 || k == 9) 10 (fun k _ hp => by
    simp at hp
    rcases hp with (rfl | rfl) | rfl
    · exact h.here
    · exact h8
    · exact h9)
  have ho := h.opened
  rw [hs] at ho
  have hc : ((List.range 10).filter (fun k => k == i || k == 8 || k == 9)).length = 3 := by
    match i, hi with
    | 0, _ => decide
    | 1, _ => decide
    | 2, _ => decide
    | 3, _ => decide
    | 4, _ => decide
    | 5, _ => decide
    | 6, _ => decide
    | 7, _ => decide
  omega
/-- Where the first n are listed, at most the others are open. -/
theorem Lst.upto (h : Lst ops i o f listed) (n : Nat) (hs : ops.size = 10) (hn : n ≤ 10) (hl : ∀ k, k < n → listed.getD k false = true) : f + 1 ≤ 10 - n := by
  have := openN_bound (listed := listed) (fun k => decide (k < n)) 10 (fun k _ hp => getD_true (hl k (by simpa using hp)))
  have ho := h.opened
  rw [hs] at ho
  have hc : ((List.range 10).filter (fun k => !decide (k < n))).length = 10 - n := by
    match n, hn with
    | 0, _ => decide
    | 1, _ => decide
    | 2, _ => decide
    | 3, _ => decide
    | 4, _ => decide
    | 5, _ => decide
    | 6, _ => decide
    | 7, _ => decide
    | 8, _ => decide
    | 9, _ => decide
    | 10, _ => decide
  omega
theorem filter_ge (n : Nat) : ∀ d, ((List.range (n + d)).filter (fun k => !decide (k < n))).length = d := by
  intro d
  induction d with
  | zero => simp
  | succ d ih =>
    rw [show n + (d + 1) = (n + d) + 1 by omega, List.range_succ, List.filter_append, List.length_append, ih]
    simp
/-- Where the first n are listed, at most the others are open. -/
theorem Lst.most (h : Lst ops i o f listed) (n : Nat) (hn : n ≤ ops.size) (hl : ∀ k, k < n → listed.getD k false = true) : f + 1 ≤ ops.size - n := by
  have := openN_bound (listed := listed) (fun k => decide (k < n)) ops.size (fun k _ hp => getD_true (hl k (by simpa using hp)))
  have ho := h.opened
  have hc := filter_ge n (ops.size - n)
  rw [show n + (ops.size - n) = ops.size by omega] at hc
  omega
end

/-- The class of a region whose last operation stores into block gU; Pre holds before it, Pk behind it. -/
structure C16 (R B gU : Nat) (w0 : World) (Pre : World → Prop) (f : Nat) (w : World) : Prop where
  rc : Rc w R (B + 3 * f)
  fr : Touch R (R + 1) w0 w
  up : gU < w.heap.size
  pre : 0 < f → Pre w
theorem cls16 {R B gU : Nat} {w0 : World} {Pre Pk : World → Prop} (hA : ∀ w ob, Pre w → Pre (w.alloc ob)) (hK : ∀ w ob, Pk w → Pk (w.alloc ob)) : Cls (fun k => k = R ∨ k = gU) Pk (C16 R B gU w0 Pre) where
  less f w h := ⟨h.rc.less (by omega), h.fr, h.up, fun hf => h.pre (by omega)⟩
  alloc f w ob h := ⟨h.rc.alloc ob, h.fr.alloc ob, by have := h.up; simp; omega, fun hf => hA _ _ (h.pre hf)⟩
  lt f w h := by have := h.up; have := h.rc.lt; omega
  keep := hK
theorem own_cellk {w : World} {b e g n n' c k : Nat} {xs : List Value} {u : Value} (h : w.ownsRow b e 1 (.slice (some ⟨g, 0, none⟩) n' c) n xs) (hk : xs[k]? = some u) : w.cell? ⟨g, k, none⟩ = some u := by
  have hl := (List.getElem?_eq_some_iff.1 hk).1
  obtain ⟨A', c', e', _⟩ := own_form h
  simp only [Value.slice.injEq] at e'
  obtain ⟨_, rfl, _⟩ := e'
  obtain ⟨h1, h2⟩ := Reads.of_own h
  obtain ⟨ad, hA, _, hc⟩ := h2 (by rw [Nat.mul_one] at h1; omega)
  injection hA with hA
  subst hA
  have := hc k u hk
  rwa [addr_zero_add] at this
theorem own_frozen {w : World} {b e g n n' c : Nat} {xs : List Value} (h : w.ownsRow b e 1 (.slice (some ⟨g, 0, none⟩) n' c) n xs) (k : Nat) : w.frozen? ⟨g, k, none⟩ = false := by
  rcases h.2 with ⟨h', _⟩ | ⟨g', cap, cur, h', _, hh, _⟩
  · simp at h'
  · simp only [Value.slice.injEq, Option.some.injEq, Addr.mk.injEq, and_true, true_and] at h'
    obtain ⟨rfl, _⟩ := h'
    exact Blk.frozen (t := e) (cs := cur) hh k
/-- Before the last two and itself at least three are open. -/
theorem Lst.low3_9 {ops : Array Oper} {i f : Nat} {o : Oper} {listed : Array Bool} (h : Lst ops i o f listed) (hi : i < 7) (hs : ops.size = 9) (h8 : listed.getD 7 true = false) (h9 : listed.getD 8 true = false) : 3 ≤ f + 1 := by
  have := openN_lower (listed := listed) (fun k => k == i || k == 7 || k == 8) 9 (fun k _ hp => by
    simp at hp
    rcases hp with (rfl | rfl) | rfl
    · exact h.here
    · exact h8
    · exact h9)
  have ho := h.opened
  rw [hs] at ho
  have hc : ((List.range 9).filter (fun k => k == i || k == 7 || k == 8)).length = 3 := by
    match i, hi with
    | 0, _ => decide
    | 1, _ => decide
    | 2, _ => decide
    | 3, _ => decide
    | 4, _ => decide
    | 5, _ => decide
    | 6, _ => decide
  omega
/-- The like of S10 where the append is operation 6, the store operation 8. -/
def S9 (N : Nat → Prop) (G : World → Value → Value → Prop) (j : Nat) (w w' : World) : Prop := Chg N w w' ∧ (j ≠ 6 → j ≠ 8 → ∀ cn v, G w cn v → G w' cn v) ∧ (j = 8 → ∀ cn v, G w cn v → ∃ cn', G w' cn' v)
theorem S9.refl {N : Nat → Prop} {G : World → Value → Value → Prop} {j : Nat} (w : World) : S9 N G j w w := ⟨Chg.refl w, fun _ _ _ _ h => h, fun _ cn _ h => ⟨cn, h⟩⟩
structure C9 (R B : Nat) (w0 w5 : World) (Pre : World → Prop) (f : Nat) (w : World) : Prop where
  rc : Rc w R (B + f)
  fr : Touch R (R + 1) w0 w
  up : w5.heap.size ≤ w.heap.size
  pre : 3 ≤ f → Pre w
theorem C9.less {R B : Nat} {w0 w5 : World} {Pre : World → Prop} {f : Nat} {w : World} (h : C9 R B w0 w5 Pre (f + 1) w) : C9 R B w0 w5 Pre f w := ⟨h.rc.less (by omega), h.fr, h.up, fun h3 => h.pre (by omega)⟩
/-- What an operation may change: G is what the appended value is. -/
def S10 (N : Nat → Prop) (G : World → Value → Value → Prop) (j : Nat) (w w' : World) : Prop := Chg N w w' ∧ (j ≠ 7 → j ≠ 9 → ∀ cn v, G w cn v → G w' cn v) ∧ (j = 9 → ∀ cn v, G w cn v → ∃ cn', G w' cn' v)
theorem S10.refl {N : Nat → Prop} {G : World → Value → Value → Prop} {j : Nat} (w : World) : S10 N G j w w := ⟨Chg.refl w, fun _ _ _ _ h => h, fun _ cn _ h => ⟨cn, h⟩⟩
structure C10 (R B : Nat) (w0 w5 : World) (Pre : World → Prop) (f : Nat) (w : World) : Prop where
  rc : Rc w R B
  fr : Touch R (R + 1) w0 w
  up : w5.heap.size ≤ w.heap.size
  pre : 3 ≤ f → Pre w
theorem C10.less {R B : Nat} {w0 w5 : World} {Pre : World → Prop} {f : Nat} {w : World} (h : C10 R B w0 w5 Pre (f + 1) w) : C10 R B w0 w5 Pre f w := ⟨h.rc, h.fr, h.up, fun h3 => h.pre (by omega)⟩
section
variable {P : Program} {ops : Array Oper} {Q : Exit → Act → World → Prop} {a0 : Act} {V : Nat → Value → Act → World → Prop} {S : Nat → World → World → Prop} {C : Nat → World → Prop} {i : Nat} {o : Oper}
theorem ok_valueS (hS : ∀ w, S i w w) (hC : ∀ f w, C (f + 1) w → C f w) (hv : ∀ f listed a w, Lst ops i o f listed → C (f + 1) w → a.tmps.size = a0.tmps.size → (∀ t, (∀ j, j < ops.size → dstOf ops j ≠ some t) → a.tmps.getD t undef = a0.tmps.getD t undef) → (∀ e ∈ o.after.toList, isVal e.ground = true → Held ops V e.on a w) → ∃ v, (execOp a.eval o).run P w = .ok (.value v) w ∧ V i v (a.put o.dst v) w) :
    OpOk P ops Q a0 V S C i o := by
  intro f listed a w hl hc hs hr hh
  obtain ⟨v, h1, h2⟩ := hv f listed a w hl hc hs hr hh
  unfold Oper.wp
  rw [h1]
  exact ⟨v, rfl, h2, hS _, hC _ _ hc⟩
theorem ok_readS {t : TypeId} {x : Operand} (hS : ∀ w, S i w w) (hC : ∀ f w, C (f + 1) w → C f w) (ho : o.op = .load t x) (hg : ∀ w, (isAgg t).run P w = .ok false w)
    (hv : ∀ f listed a w, Lst ops i o f listed → C (f + 1) w → a.tmps.size = a0.tmps.size → (∀ t, (∀ j, j < ops.size → dstOf ops j ≠ some t) → a.tmps.getD t undef = a0.tmps.getD t undef) → (∀ e ∈ o.after.toList, isVal e.ground = true → Held ops V e.on a w) → ∃ ad u, a.eval x = .pointer (some ad) ∧ w.cell? ad = some u ∧ V i u (a.put o.dst u) w) :
    OpOk P ops Q a0 V S C i o := by
  intro f listed a w hl hc hs hr hh
  obtain ⟨ad, u, e1, hcell, hq⟩ := hv f listed a w hl hc hs hr hh
  exact op_load ho e1 hcell (hg w) ⟨_, rfl, hq, hS _, hC _ _ hc⟩
theorem ok_storeS {t : TypeId} {x y : Operand} (ho : o.op = .store t x y) (hi : (P.info? t).map (·.size) = some 1)
    (hv : ∀ f listed a w, Lst ops i o f listed → C (f + 1) w → a.tmps.size = a0.tmps.size → (∀ t, (∀ j, j < ops.size → dstOf ops j ≠ some t) → a.tmps.getD t undef = a0.tmps.getD t undef) → (∀ e ∈ o.after.toList, isVal e.ground = true → Held ops V e.on a w) →
      ∃ ad u v, a.eval x = .pointer (some ad) ∧ a.eval y = v ∧ w.cell? ad = some u ∧ w.frozen? ad = false ∧ v.oneCell' = true ∧ V i undef (a.put o.dst undef) (w.setCell ad v) ∧ S i w (w.setCell ad v) ∧ C f (w.setCell ad v)) :
    OpOk P ops Q a0 V S C i o := by
  intro f listed a w hl hc hs hr hh
  obtain ⟨ad, u, v, h1, hy, h2, h3, h4, h5, h6, h7⟩ := hv f listed a w hl hc hs hr hh
  unfold Oper.wp execOp
  simp only [ho, h1, hy, Sem.run_bind, run_store1 hi h2 h3 h4, Result.andThen_ok]
  exact ⟨undef, rfl, h5, h6, h7⟩
end
end Go.Proofs.YtijpdekcdejfmaaDoor
