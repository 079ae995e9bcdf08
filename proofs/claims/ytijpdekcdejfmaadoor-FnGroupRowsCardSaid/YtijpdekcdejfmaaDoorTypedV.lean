/- Types for slots beside a set N of blocks that may change, and a fact Pk that is kept. -/
import Derived.Test.YtijpdekcdejfmaaDoorTypedOp
import Derived.Test.YtijpdekcdejfmaaDoorName
namespace Go.Proofs.YtijpdekcdejfmaaDoor
open Go Go.RowKit
set_option maxRecDepth 100000

/-- Only blocks of N change. -/
structure Chg (N : Nat → Prop) (w w' : World) : Prop where
  size : w.heap.size ≤ w'.heap.size
  block : ∀ k, k < w.heap.size → ¬ N k → w'.heap[k]? = w.heap[k]?
section
variable {N : Nat → Prop} {w w1 w2 : World}
theorem Chg.refl (w : World) : Chg N w w := ⟨Nat.le_refl _, fun _ _ _ => rfl⟩
theorem Chg.trans (h : Chg N w w1) (h' : Chg N w1 w2) : Chg N w w2 := ⟨Nat.le_trans h.size h'.size, fun k hk hn => (h'.block k (Nat.lt_of_lt_of_le hk h.size) hn).trans (h.block k hk hn)⟩
theorem Chg.alloc (h : Chg N w w1) (o : Obj) : Chg N w (w1.alloc o) := h.trans ⟨by simp, fun k hk _ => Below.heap_alloc w1 o k hk⟩
theorem Chg.of_touch {lo hi : Nat} (h : Touch lo hi w w1) (hn : ∀ k, lo ≤ k → k < hi → N k) : Chg N w w1 := ⟨h.size, fun k hk hk' => h.block k hk (by
  rcases Nat.lt_or_ge k lo with h1 | h1
  · exact Or.inl h1
  · rcases Nat.lt_or_ge k hi with h2 | h2
    · exact absurd (hn k h1 h2) hk'
    · exact Or.inr h2)⟩
theorem Chg.of_pick {R : Nat} (h : Touch R (R + 1) w w1) (hn : N R) : Chg N w w1 := Chg.of_touch h fun k h1 h2 => (show k = R by omega) ▸ hn
theorem Chg.setCell (w : World) {p : Addr} (hp : N p.block) (u : Value) : Chg N w (w.setCell p u) := ⟨by simp [World.setCell], fun k hk hn => Below.heap_setCell _ _ _ _ (fun e => hn (e ▸ hp))⟩
theorem Chg.blk {g : Nat} {t : TypeId} {cs : Array Value} (h : Chg N w w1) (hb : Blk w g t cs) (hg : ¬ N g) : Blk w1 g t cs := (h.block g hb.lt hg).trans hb
theorem Chg.cell (h : Chg N w w1) {p : Addr} (hp : p.block < w.heap.size) (hg : ¬ N p.block) : w1.cell? p = w.cell? p := World.cell?_of_block (h.block _ hp hg)
theorem Chg.own {base n size : Nat} {e : TypeId} {v : Value} {xs : List Value} (h : Chg N w w1) (ho : w.ownsRow base e size v n xs) (hg : ∀ g, v.ownBlock = some g → ¬ N g) : w1.ownsRow base e size v n xs :=
  own_block ho fun g e => h.block g (ho.lt g e).2 (hg g e)
end
def Mv (N : Nat → Prop) (Pk : World → Prop) (w w' : World) : Prop := Chg N w w' ∧ (Pk w → Pk w')
theorem Mv.refl {N : Nat → Prop} {Pk : World → Prop} (w : World) : Mv N Pk w w := ⟨Chg.refl _, id⟩

/-- A slice literal's value: a block of its own, apart from N. -/
def RowB (N : Nat → Prop) (t : TypeId) (p : Value → World → Prop) (n : Nat) (v : Value) (w : World) : Prop := ∃ (g : Nat) (vs : List Value), v = .slice (some ⟨g, 0, none⟩) n n ∧ ¬ N g ∧ Blk w g t vs.toArray ∧ vs.length = n ∧ ∀ u ∈ vs, p u w
def AddB (N : Nat → Prop) (p : Value → World → Prop) (v : Value) (w : World) : Prop := ∃ (a : Addr) (u : Value), v = .pointer (some a) ∧ ¬ N a.block ∧ w.cell? a = some u ∧ p u w
def NatB (n : Nat) (v : Value) (_ : World) : Prop := ∃ x : Nat, v = .int .i64 (x : Int) ∧ x < n
def IntB (v : Value) (_ : World) : Prop := ∃ x : Int, v = .int .i64 x
def StrB (n : Nat) (v : Value) (_ : World) : Prop := ∃ s : ByteArray, v = .string s ∧ s.size ≤ n
def Stable (S : World → World → Prop) (p : Value → World → Prop) : Prop := ∀ v w w', p v w → S w w' → p v w'
theorem natB_stable {S : World → World → Prop} {n : Nat} : Stable S (NatB n) := fun _ _ _ h _ => h
theorem intB_stable {S : World → World → Prop} : Stable S IntB := fun _ _ _ h _ => h
theorem strB_stable {S : World → World → Prop} {n : Nat} : Stable S (StrB n) := fun _ _ _ h _ => h
theorem rowB_stable {N : Nat → Prop} {Pk : World → Prop} {n : Nat} {t : TypeId} {p : Value → World → Prop} (hp : Stable (Mv N Pk) p) : Stable (Mv N Pk) (RowB N t p n) := by
  rintro v w w' ⟨g, vs, e, hg, hb, hl, hq⟩ hs
  exact ⟨g, vs, e, hg, hs.1.blk hb hg, hl, fun u hu => hp u w w' (hq u hu) hs⟩
theorem addB_stable {N : Nat → Prop} {Pk : World → Prop} {p : Value → World → Prop} (hp : Stable (Mv N Pk) p) : Stable (Mv N Pk) (AddB N p) := by
  rintro v w w' ⟨a, u, e, hg, hc, hq⟩ hs
  exact ⟨a, u, e, hg, (hs.1.cell (World.block_lt_of_cell? w _ hc) hg).trans hc, hp u w w' hq hs⟩
theorem rowB_at {N : Nat → Prop} {n i : Nat} {t : TypeId} {p : Value → World → Prop} {g : Nat} {vs : List Value} {w : World} (hg : ¬ N g) (hb : Blk w g t vs.toArray) (hl : vs.length = n) (hq : ∀ u ∈ vs, p u w) (hi : i < n) : AddB N p (.pointer (some ⟨g, i, none⟩)) w := by
  have h := hb.cell i
  have hlt : i < vs.length := by omega
  refine ⟨⟨g, i, none⟩, vs[i], rfl, hg, ?_, hq _ (List.getElem_mem hlt)⟩
  simpa [hlt] using h
/-- Types that do not look at the frame. -/
abbrev lift (V : Nat → Value → World → Prop) : Nat → Value → Act → World → Prop := fun i v _ w => V i v w
/-- Stability that does not look at the operations. -/
theorem stab {ops : Array Oper} {fin : Nat → Bool} {V : Nat → Value → World → Prop} {S : World → World → Prop} (h : ∀ i v w w', V i v w → S w w' → V i v w') :
    ∀ i j v a u w w', i ≠ j → (∀ o, ops[i]? = some o → ∀ e ∈ o.after.toList, Region.binds .any e = true → e.on ≠ j) → (fin i || liveB ops j i) = true → lift V i v a w → (fun _ : Nat => S) j w w' → lift V i v (a.put (dstOf ops j) u) w' := fun i _ v _ _ w w' _ _ _ hv hs => h i v w w' hv hs
theorem stabS {ops : Array Oper} {fin : Nat → Bool} {V : Nat → Value → World → Prop} {S : Nat → World → World → Prop} (h : ∀ i j v w w', i ≠ j → (∀ o, ops[i]? = some o → ∀ e ∈ o.after.toList, Region.binds .any e = true → e.on ≠ j) → (fin i || liveB ops j i) = true → V i v w → S j w w' → V i v w') :
    ∀ i j v a u w w', i ≠ j → (∀ o, ops[i]? = some o → ∀ e ∈ o.after.toList, Region.binds .any e = true → e.on ≠ j) → (fin i || liveB ops j i) = true → lift V i v a w → S j w w' → lift V i v (a.put (dstOf ops j) u) w' := fun i j v _ _ w w' h1 h2 h3 hv hs => h i j v w w' h1 h2 h3 hv hs
section
variable {P : Program} {ops : Array Oper} {Q : Exit → Act → World → Prop} {a0 : Act} {V : Nat → Value → Act → World → Prop} {C : Nat → World → Prop} {i : Nat} {o : Oper} {N : Nat → Prop} {Pk : World → Prop}
/-- What C must bear. -/
structure Cls (N : Nat → Prop) (Pk : World → Prop) (C : Nat → World → Prop) : Prop where
  less : ∀ f w, C (f + 1) w → C f w
  alloc : ∀ f w ob, C f w → C f (w.alloc ob)
  lt : ∀ f w, C f w → ¬ N w.heap.size
  keep : ∀ w ob, Pk w → Pk (w.alloc ob)
/-- The premises of an operation's step. -/
def Pre (ops : Array Oper) (a0 : Act) (V : Nat → Value → Act → World → Prop) (o : Oper) (a : Act) (w : World) : Prop :=
  a.tmps.size = a0.tmps.size ∧ (∀ t, (∀ j, j < ops.size → dstOf ops j ≠ some t) → a.tmps.getD t undef = a0.tmps.getD t undef) ∧ (∀ e ∈ o.after.toList, isVal e.ground = true → Held ops V e.on a w)
theorem ok_put {x : Operand} (hC : Cls N Pk C) (ho : o.op = .move x ∨ o.op = .assign x) (hv : ∀ a w, a.tmps.size = a0.tmps.size → (∀ t, (∀ j, j < ops.size → dstOf ops j ≠ some t) → a.tmps.getD t undef = a0.tmps.getD t undef) → (∀ e ∈ o.after.toList, isVal e.ground = true → Held ops V e.on a w) → V i (a.eval x) (a.put o.dst (a.eval x)) w) :
    OpOk P ops Q a0 V (fun _ => Mv N Pk) C i o := by
  intro f listed a w hl0 hc hs hr hh
  rcases ho with ho | ho
  · exact op_move ho ⟨_, rfl, hv a w hs hr hh, Mv.refl _, hC.less _ _ hc⟩
  · exact op_assign ho ⟨_, rfl, hv a w hs hr hh, Mv.refl _, hC.less _ _ hc⟩
/-- An operation that only gives a value. -/
theorem ok_value (hC : Cls N Pk C) (hv : ∀ f a w, C (f + 1) w → a.tmps.size = a0.tmps.size → (∀ t, (∀ j, j < ops.size → dstOf ops j ≠ some t) → a.tmps.getD t undef = a0.tmps.getD t undef) → (∀ e ∈ o.after.toList, isVal e.ground = true → Held ops V e.on a w) → ∃ v, (execOp a.eval o).run P w = .ok (.value v) w ∧ V i v (a.put o.dst v) w) :
    OpOk P ops Q a0 V (fun _ => Mv N Pk) C i o := by
  intro f listed a w hl0 hc hs hr hh
  obtain ⟨v, h1, h2⟩ := hv f a w hc hs hr hh
  unfold Oper.wp
  rw [h1]
  exact ⟨v, rfl, h2, Mv.refl _, hC.less _ _ hc⟩
theorem run_store1 {P : Program} {w : World} {t : TypeId} {ad : Addr} {u v : Value} (hi : (P.info? t).map (·.size) = some 1) (hc : w.cell? ad = some u) (hz : w.frozen? ad = false) (hv : v.oneCell' = true) :
    (Instr.storeAt t (.pointer (some ad)) v).run P w = .ok () (w.setCell ad v) := by
  obtain ⟨d, hd, he⟩ := Option.map_eq_some_iff.1 hi
  have e : v.cells = #[v] := by cases v <;> first | rfl | simp [Value.oneCell'] at hv
  simp only [Instr.storeAt, Instr.sureAddr, Sem.run_bind, Sem.run_pure, Result.andThen_ok, storeVar]
  have e0 : ad.add 0 = ad := by unfold Addr.add; simp
  simp [sizeOf, typeInfo, hd, he, e, e0, storeCells, run_store, hc, hz, hv]
/-- A store. -/
theorem ok_store {t : TypeId} {x y : Operand} (ho : o.op = .store t x y) (hi : (P.info? t).map (·.size) = some 1)
    (hv : ∀ f a w, C (f + 1) w → a.tmps.size = a0.tmps.size → (∀ t, (∀ j, j < ops.size → dstOf ops j ≠ some t) → a.tmps.getD t undef = a0.tmps.getD t undef) → (∀ e ∈ o.after.toList, isVal e.ground = true → Held ops V e.on a w) →
      ∃ ad u, a.eval x = .pointer (some ad) ∧ w.cell? ad = some u ∧ w.frozen? ad = false ∧ (a.eval y).oneCell' = true ∧ V i undef (a.put o.dst undef) (w.setCell ad (a.eval y)) ∧ Mv N Pk w (w.setCell ad (a.eval y)) ∧ C f (w.setCell ad (a.eval y))) :
    OpOk P ops Q a0 V (fun _ => Mv N Pk) C i o := by
  intro f listed a w hl0 hc hs hr hh
  obtain ⟨ad, u, h1, h2, h3, h4, h5, h6, h7⟩ := hv f a w hc hs hr hh
  unfold Oper.wp execOp
  simp only [ho, h1, Sem.run_bind, run_store1 hi h2 h3 h4, Result.andThen_ok]
  exact ⟨undef, rfl, h5, h6, h7⟩
theorem ok_index {t : TypeId} {x ix : Operand} {n : Nat} {te : TypeId} {p : Value → World → Prop} (hC : Cls N Pk C) (ho : o.op = .indexAddr t x ix) (ht : P.underlying t = some (.slice (P.elem t))) (hs1 : (P.info? (P.elem t)).map (·.size) = some 1) (hVi : ∀ v a w, AddB N p v w → V i v a w)
    (hv : ∀ a w, a.tmps.size = a0.tmps.size → (∀ t, (∀ j, j < ops.size → dstOf ops j ≠ some t) → a.tmps.getD t undef = a0.tmps.getD t undef) → (∀ e ∈ o.after.toList, isVal e.ground = true → Held ops V e.on a w) → RowB N te p n (a.eval x) w ∧ NatB n (a.eval ix) w) :
    OpOk P ops Q a0 V (fun _ => Mv N Pk) C i o := by
  intro f listed a w hl0 hc hs hr hh
  obtain ⟨⟨g, vs, e1, hg, hb, hl, hq⟩, ⟨k, e2, hk⟩⟩ := hv a w hs hr hh
  exact op_index ho ht hs1 e1 e2 hk ⟨_, rfl, hVi _ _ _ (rowB_at hg hb hl hq hk), Mv.refl _, hC.less _ _ hc⟩
theorem ok_load {t : TypeId} {x : Operand} {p : Value → World → Prop} (hC : Cls N Pk C) (ho : o.op = .load t x) (hg : ∀ w, (isAgg t).run P w = .ok false w) (hVi : ∀ v a w, p v w → V i v a w)
    (hv : ∀ a w, a.tmps.size = a0.tmps.size → (∀ t, (∀ j, j < ops.size → dstOf ops j ≠ some t) → a.tmps.getD t undef = a0.tmps.getD t undef) → (∀ e ∈ o.after.toList, isVal e.ground = true → Held ops V e.on a w) → AddB N p (a.eval x) w) :
    OpOk P ops Q a0 V (fun _ => Mv N Pk) C i o := by
  intro f listed a w hl0 hc hs hr hh
  obtain ⟨ad, u, e1, _, hcell, hq⟩ := hv a w hs hr hh
  exact op_load ho e1 hcell (hg w) ⟨_, rfl, hVi _ _ _ hq, Mv.refl _, hC.less _ _ hc⟩
/-- A load of a cell that the class knows. -/
theorem ok_read {t : TypeId} {x : Operand} (hC : Cls N Pk C) (ho : o.op = .load t x) (hg : ∀ w, (isAgg t).run P w = .ok false w)
    (hv : ∀ f a w, C (f + 1) w → a.tmps.size = a0.tmps.size → (∀ t, (∀ j, j < ops.size → dstOf ops j ≠ some t) → a.tmps.getD t undef = a0.tmps.getD t undef) → (∀ e ∈ o.after.toList, isVal e.ground = true → Held ops V e.on a w) → ∃ ad u, a.eval x = .pointer (some ad) ∧ w.cell? ad = some u ∧ V i u (a.put o.dst u) w) :
    OpOk P ops Q a0 V (fun _ => Mv N Pk) C i o := by
  intro f listed a w hl0 hc hs hr hh
  obtain ⟨ad, u, e1, hcell, hq⟩ := hv f a w hc hs hr hh
  exact op_load ho e1 hcell (hg w) ⟨_, rfl, hq, Mv.refl _, hC.less _ _ hc⟩
theorem ok_build {t te : TypeId} {len : Nat} {parts : Array (Nat × Operand)} {p : Value → World → Prop} {ie : TypeInfo} {z : Value} (hC : Cls N Pk C) (hp : Stable (Mv N Pk) p) (ho : o.op = .buildSlice t len parts)
    (hu : P.underlying t = some (.slice te)) (hie : P.info? te = some ie) (hz : ie.zero = some z) (hsmall : ¬ len * ie.size > 2 ^ 24) (hpos : ¬ len * ie.size = 0) (hVi : ∀ v a w, RowB N te p len v w → V i v a w)
    (hv : ∀ a w, a.tmps.size = a0.tmps.size → (∀ t, (∀ j, j < ops.size → dstOf ops j ≠ some t) → a.tmps.getD t undef = a0.tmps.getD t undef) → (∀ e ∈ o.after.toList, isVal e.ground = true → Held ops V e.on a w) →
      ∃ cells : List Value, cells.length = len ∧ (∀ u ∈ cells, p u w) ∧ Instr.fill (fun i => some (i * ie.size, ie.size)) ((Array.range (len * ie.size)).map (z.cells[· % z.cells.size]!)) (parts.map fun (i, x) => (i, a.eval x)).toList = some cells.toArray) :
    OpOk P ops Q a0 V (fun _ => Mv N Pk) C i o := by
  intro f listed a w hl0 hc hs hr hh
  obtain ⟨cells, hl, hq, hf⟩ := hv a w hs hr hh
  have hlt := hC.lt _ _ hc
  have htc : Mv N Pk w (w.alloc (.cells cells.toArray te)) := ⟨(Chg.refl _).alloc _, hC.keep _ _⟩
  exact wp_buildSlice t te len parts ho cells.toArray ie z hu hie hz hsmall hpos hf ⟨_, rfl, hVi _ _ _ ⟨w.heap.size, cells, rfl, hlt, Blk.new _ _ _, hl, fun u hu => hp u _ _ (hq u hu) htc⟩, htc, hC.alloc _ _ _ (hC.less _ _ hc)⟩
theorem ok_call {f' : FuncId} {fn : Func} {args : Array Operand} {tys : Array TypeId} (hf : P.funcs[f']? = some fn) (hn : (fn.name == "runtime.NumGoroutine") = false) (hr' : fn.body.isNone = false) (ho : o.op = .call { callee := .value (.func f'), args := args, argTypes := tys })
    (hv : ∀ f a w, C (f + 1) w → a.tmps.size = a0.tmps.size → (∀ t, (∀ j, j < ops.size → dstOf ops j ≠ some t) → a.tmps.getD t undef = a0.tmps.getD t undef) → (∀ e ∈ o.after.toList, isVal e.ground = true → Held ops V e.on a w) →
      Calls P f' (args.map a.eval) w fun e w' => ∃ v, e = .returned v ∧ V i v (a.put o.dst v) w' ∧ Mv N Pk w w' ∧ C f w') :
    OpOk P ops Q a0 V (fun _ => Mv N Pk) C i o := by
  intro f listed a w hl0 hc hs hr hh
  exact op_call hf hn hr' ho ((hv f a w hc hs hr hh).mono fun e w' ⟨v, e1, h1, h2, h3⟩ => ⟨v, e1, v, rfl, h1, h2, h3⟩)
end
/-- The class: credits for calls of the reader, and the frame. -/
def ClsR (R B : Nat) (w0 : World) (f : Nat) (w : World) : Prop := Rc w R (B + f) ∧ Touch R (R + 1) w0 w
theorem clsR (R B : Nat) (w0 : World) : Cls (· = R) (fun _ => True) (ClsR R B w0) where
  less f w h := ⟨h.1.less (by omega), h.2⟩
  alloc f w ob h := ⟨h.1.alloc ob, h.2.alloc ob⟩
  lt f w h := by have := h.1.lt; omega
  keep _ _ _ := trivial
theorem Mv.pick {R : Nat} {w w' : World} (h : Touch R (R + 1) w w') : Mv (· = R) (fun _ => True) w w' := ⟨Chg.of_pick h rfl, fun _ => trivial⟩
def AllOk (F : Nat → Oper → Prop) : List Oper → Nat → Prop
  | [], _ => True
  | o :: l, k => F k o ∧ AllOk F l (k + 1)
theorem ok_list {F : Nat → Oper → Prop} : ∀ {l : List Oper} {k : Nat}, AllOk F l k → ∀ i o, l[i]? = some o → F (k + i) o := by
  intro l
  induction l with
  | nil => intro k _ i o h; simp at h
  | cons x l ih =>
    intro k h i o ho
    cases i with
    | zero => simp at ho; subst ho; exact h.1
    | succ i => have := ih h.2 i o (by simpa using ho); rwa [show k + 1 + i = k + (i + 1) by omega] at this
theorem ok_all {F : Nat → Oper → Prop} {ops : Array Oper} (h : AllOk F ops.toList 0) (i : Nat) (o : Oper) (ho : ops[i]? = some o) : F i o := by
  have := ok_list h i o (by simpa using ho)
  simpa using this
def dstB (ops : Array Oper) (n : Nat) : Bool := ops.toList.all fun o => match o.dst with | some d => decide (d < n) | none => true
theorem dst_lt {ops : Array Oper} {n : Nat} (h : dstB ops n = true) (i : Nat) (d : Tmp) (hd : dstOf ops i = some d) : d < n := by
  unfold dstOf at hd
  obtain ⟨o, ho, hod⟩ := Option.bind_eq_some_iff.1 hd
  unfold dstB at h
  have := List.all_eq_true.1 h o (by
    obtain ⟨hlt, rfl⟩ := Array.getElem?_eq_some_iff.1 ho
    exact Array.getElem_mem_toList hlt)
  rw [hod] at this
  simpa using this
end Go.Proofs.YtijpdekcdejfmaaDoor
