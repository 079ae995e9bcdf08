/- A drawn region by a type for each slot: what an operation's slot holds (V i), held whatever the order (plain metatheory over Derived/Orders). -/
import Derived.Orders
namespace Go.Proofs.YtijpdekcdejfmaaDoor
open Go

section
variable {P : Program} {md : Region.Mode} {ops : Array Oper} {Q : Exit → Act → World → Prop}

/-- An invariant that each operation that may come up keeps. -/
theorem wpAny_inv (I : Nat → Array Bool → Act → World → Prop)
    (step : ∀ f listed a w i, I (f + 1) listed a w → i ∈ Region.ready md ops listed → wpOp P ops Q i (I f (listed.setIfInBounds i true)) a w)
    (empty : ∀ listed a w, I 0 listed a w → Region.ready md ops listed = [])
    (fin : ∀ f listed a w, I f listed a w → Region.ready md ops listed = [] → Q .normal a w) :
    ∀ f listed a w, I f listed a w → wpAny P md ops Q f listed a w := by
  intro f
  induction f with
  | zero => intro listed a w h; exact ⟨empty listed a w h, fin _ listed a w h (empty listed a w h)⟩
  | succ f ih =>
    intro listed a w h
    exact ⟨fin _ listed a w h, fun i hi => wpOp_mono (fun a w => ih _ a w) (step f listed a w i h hi)⟩
end

/-- The number of false entries among the first n. -/
def openN (listed : Array Bool) : Nat → Nat
  | 0 => 0
  | n + 1 => openN listed n + if listed.getD n true then 0 else 1
theorem openN_set {listed : Array Bool} {i : Nat} (hi : listed.getD i true = false) : ∀ n, openN listed n = openN (listed.setIfInBounds i true) n + if i < n then 1 else 0 := by
  intro n
  induction n with
  | zero => simp [openN]
  | succ n ih =>
    have hsz : i < listed.size := by
      rcases Nat.lt_or_ge i listed.size with h | h
      · exact h
      · simp [Array.getD, Nat.not_lt.2 h] at hi
    unfold openN
    rw [ih]
    by_cases hin : i = n
    · subst hin
      have h1 : (listed.setIfInBounds i true).getD i true = true := by simp [Array.getD, hsz]
      rw [h1, hi]; simp
    · have h2 : (listed.setIfInBounds i true).getD n true = listed.getD n true := by
        simp [Array.getD_eq_getD_getElem?, Array.getElem?_setIfInBounds_ne hin]
      rw [h2]
      by_cases h : i < n
      · simp only [if_pos h, if_pos (show i < n + 1 by omega)]; omega
      · simp only [if_neg h, if_neg (show ¬ i < n + 1 by omega)]; omega
theorem openN_zero {listed : Array Bool} : ∀ {n}, openN listed n = 0 → ∀ i, i < n → listed.getD i true = true := by
  intro n
  induction n with
  | zero => intro _ i hi; omega
  | succ n ih =>
    intro h i hi
    unfold openN at h
    rcases Nat.lt_succ_iff_lt_or_eq.1 hi with h' | rfl
    · exact ih (by omega) i h'
    · cases hb : listed.getD i true
      · rw [hb] at h; simp at h
      · rfl
theorem openN_start (n : Nat) : ∀ k, k ≤ n → openN (Array.replicate n false) k = k := by
  intro k
  induction k with
  | zero => intro _; rfl
  | succ k ih =>
    intro h
    unfold openN
    rw [ih (by omega)]
    have : (Array.replicate n false).getD k true = false := by simp [Array.getD, show k < n by omega]
    rw [this]; simp

/-- What the kernel checks of the operations: no guards; slots differ; every look at a slot of the region's is at an operation that it waits for. -/
def typedB (ops : Array Oper) : Bool :=
  ops.toList.all (fun o => o.guard.isNone) &&
  (List.range ops.size).all fun i => (List.range ops.size).all fun j => i == j || ((ops[i]?).bind (·.dst)).isNone || (ops[i]?).bind (·.dst) != (ops[j]?).bind (·.dst)
/-- Edges go back in the text. -/
def backB (ops : Array Oper) : Bool := (List.range ops.size).all fun i => ((ops[i]?).map fun o => o.after.toList.all fun e => !Region.binds .any e || decide (e.on < i)).getD true

section
variable {P : Program} {ops : Array Oper} {Q : Exit → Act → World → Prop}
/-- Slot of operation i. -/
def dstOf (ops : Array Oper) (i : Nat) : Option Tmp := (ops[i]?).bind (·.dst)
/-- Operation i has run: its slot (if it has one) holds a value of its type. -/
def Held (ops : Array Oper) (V : Nat → Value → Act → World → Prop) (i : Nat) (a : Act) (w : World) : Prop := ∃ v, V i v a w ∧ ∀ d, dstOf ops i = some d → a.tmps.getD d undef = v
/-- Edges that look at a slot. -/
def isVal : Ground → Bool
  | .data => true
  | .guard => true
  | _ => false
/-- Is there a look (by data or guard) at operation i's slot? -/
def dataB (o : Oper) (i : Nat) : Bool := o.after.toList.any fun e => isVal e.ground && decide (e.on = i)
def aftB (o : Oper) (k : Nat) : Bool := o.after.toList.any fun e => Region.binds .any e && decide (e.on = k)
def liveB (ops : Array Oper) (j i : Nat) : Bool := (List.range ops.size).any fun k => decide (k ≠ j) && !((ops[j]?).map (aftB · k)).getD false && ((ops[k]?).map (dataB · i)).getD false
theorem dataB_of {o : Oper} {e : Edge} (he : e ∈ o.after.toList) (hd : isVal e.ground = true) : dataB o e.on = true := by
  unfold dataB
  rw [List.any_eq_true]
  exact ⟨e, he, by simp [hd]⟩
theorem binds_data {e : Edge} (hd : isVal e.ground = true) : Region.binds .any e = true := by
  unfold Region.binds
  cases h : e.ground <;> rw [h] at hd <;> first | rfl | cases hd
theorem liveB_of {ops : Array Oper} {k j i : Nat} {o oj : Oper} (hj : ops[j]? = some oj) (ha : aftB oj k = false) (hk : ops[k]? = some o) (hkj : k ≠ j) (hd : dataB o i = true) : liveB ops j i = true := by
  unfold liveB
  rw [List.any_eq_true]
  exact ⟨k, List.mem_range.2 (Array.getElem?_eq_some_iff.1 hk).1, by simp [hkj, hk, hd, hj, ha]⟩
structure TypedI (ops : Array Oper) (a0 : Act) (fin : Nat → Bool) (V : Nat → Value → Act → World → Prop) (C : Nat → World → Prop) (f : Nat) (listed : Array Bool) (a : Act) (w : World) : Prop where
  size : listed.size = ops.size
  opened : openN listed ops.size = f
  tmps : a.tmps.size = a0.tmps.size
  defers : a.defers = a0.defers
  rest : ∀ t, (∀ i, listed.getD i false = true → dstOf ops i ≠ some t) → a.tmps.getD t undef = a0.tmps.getD t undef
  held : ∀ i, listed.getD i false = true → (fin i = true ∨ ∃ k o, ops[k]? = some o ∧ listed.getD k true = false ∧ dataB o i = true) → Held ops V i a w
  cls : C f w
  closed : ∀ i o, listed.getD i false = true → ops[i]? = some o → ∀ e ∈ o.after.toList, Region.binds .any e = true → listed.getD e.on false = true
/-- Where operation i may come up. -/
structure Lst (ops : Array Oper) (i : Nat) (o : Oper) (f : Nat) (listed : Array Bool) : Prop where
  size : listed.size = ops.size
  opened : openN listed ops.size = f + 1
  closed : ∀ i o, listed.getD i false = true → ops[i]? = some o → ∀ e ∈ o.after.toList, Region.binds .any e = true → listed.getD e.on false = true
  here : listed.getD i true = false
  aft : ∀ e ∈ o.after.toList, Region.binds .any e = true → listed.getD e.on false = true
/-- What is to be shown of operation i, once: where the operations that it waits for have run. -/
def OpOk (P : Program) (ops : Array Oper) (Q : Exit → Act → World → Prop) (a0 : Act) (V : Nat → Value → Act → World → Prop) (S : Nat → World → World → Prop) (C : Nat → World → Prop) (i : Nat) (o : Oper) : Prop :=
  ∀ (f : Nat) (listed : Array Bool) (a : Act) (w : World), Lst ops i o f listed → C (f + 1) w → a.tmps.size = a0.tmps.size →
    (∀ t, (∀ j, j < ops.size → dstOf ops j ≠ some t) → a.tmps.getD t undef = a0.tmps.getD t undef) →
    (∀ e ∈ o.after.toList, isVal e.ground = true → Held ops V e.on a w) →
    o.wp P a w (fun a' w' => ∃ v, a' = a.put o.dst v ∧ V i v (a.put o.dst v) w' ∧ S i w w' ∧ C f w') Q
/-- The same of an operation that may be guarded. -/
def OpOkG (P : Program) (ops : Array Oper) (Q : Exit → Act → World → Prop) (a0 : Act) (V : Nat → Value → Act → World → Prop) (S : Nat → World → World → Prop) (C : Nat → World → Prop) (i : Nat) (o : Oper) : Prop :=
  ∀ (f : Nat) (listed : Array Bool) (a : Act) (w : World), Lst ops i o f listed → C (f + 1) w → a.tmps.size = a0.tmps.size →
    (∀ t, (∀ j, j < ops.size → dstOf ops j ≠ some t) → a.tmps.getD t undef = a0.tmps.getD t undef) →
    (∀ e ∈ o.after.toList, isVal e.ground = true → Held ops V e.on a w) →
    (Region.wanted o (yielded ops a.tmps) = true → o.wp P a w (fun a' w' => ∃ v, a' = a.put o.dst v ∧ V i v (a.put o.dst v) w' ∧ S i w w' ∧ C f w') Q) ∧
    (Region.wanted o (yielded ops a.tmps) = false → V i undef (a.put o.dst undef) w ∧ S i w w ∧ C f w)
theorem OpOk.toG {a0 : Act} {V : Nat → Value → Act → World → Prop} {S : Nat → World → World → Prop} {C : Nat → World → Prop} {i : Nat} {o : Oper} (hg : o.guard = none) (h : OpOk P ops Q a0 V S C i o) : OpOkG P ops Q a0 V S C i o :=
  fun f listed a w hl hc hs hr hh => ⟨fun _ => h f listed a w hl hc hs hr hh, fun hw => by unfold Region.wanted at hw; rw [hg] at hw; cases hw⟩
/-- What operation j's slot yields to a guard. -/
theorem yield_of {a : Act} {j d : Nat} {b : Bool} (hd : dstOf ops j = some d) (h : a.tmps.getD d undef = .bool b) : yielded ops a.tmps j = some b := by
  have hd : (ops[j]?).bind (·.dst) = some d := hd
  unfold yielded
  rw [hd]
  simp only [Option.bind_some]
  rw [Array.getD_eq_getD_getElem?] at h
  cases hx : a.tmps[d]? with
  | none => rw [hx] at h; simp [undef] at h
  | some x => rw [hx] at h; simp at h; subst h; rfl
def typedG (ops : Array Oper) : Bool := (List.range ops.size).all fun i => (List.range ops.size).all fun j => i == j || ((ops[i]?).bind (·.dst)).isNone || (ops[i]?).bind (·.dst) != (ops[j]?).bind (·.dst)
theorem typedB_G (h : typedB ops = true) : typedG ops = true := by unfold typedB at h; rw [Bool.and_eq_true] at h; exact h.2
theorem typedB_none (h : typedB ops = true) {i : Nat} {o : Oper} (ho : ops[i]? = some o) : o.guard = none := by
  unfold typedB at h
  rw [Bool.and_eq_true] at h
  have := List.all_eq_true.1 h.1 o (by
    have := Array.getElem?_eq_some_iff.1 ho
    obtain ⟨hlt, rfl⟩ := this
    exact Array.getElem_mem_toList hlt)
  simpa using this
theorem dst_apart (h : typedG ops = true) {i j : Nat} {t : Tmp} (hi : dstOf ops i = some t) (hj : dstOf ops j = some t) : i = j := by
  unfold typedG at h
  have h2 := List.all_eq_true.1 h
  have hil : i < ops.size := by
    unfold dstOf at hi
    cases h : ops[i]? with
    | none => rw [h] at hi; cases hi
    | some o => exact (Array.getElem?_eq_some_iff.1 h).1
  have hjl : j < ops.size := by
    unfold dstOf at hj
    cases h : ops[j]? with
    | none => rw [h] at hj; cases hj
    | some o => exact (Array.getElem?_eq_some_iff.1 h).1
  have h3 := List.all_eq_true.1 (h2 i (List.mem_range.2 hil)) j (List.mem_range.2 hjl)
  unfold dstOf at hi hj
  rw [hi, hj] at h3
  simpa using h3
theorem put_getD (a : Act) (dst : Option Tmp) (v : Value) (t : Tmp) (h : dst ≠ some t) : (a.put dst v).tmps.getD t undef = a.tmps.getD t undef := by
  cases dst with
  | none => rfl
  | some d =>
    have hd : d ≠ t := fun e => h (by rw [e])
    simp [Act.put, Array.getD_eq_getD_getElem?, Array.getElem?_setIfInBounds_ne hd]
theorem put_self (a : Act) (d : Tmp) (v : Value) (h : d < a.tmps.size) : (a.put (some d) v).tmps.getD d undef = v := by
  simp [Act.put, Array.getD, h]
theorem put_size (a : Act) (dst : Option Tmp) (v : Value) : (a.put dst v).tmps.size = a.tmps.size := by
  cases dst <;> simp [Act.put]
theorem put_def (a : Act) (dst : Option Tmp) (v : Value) : (a.put dst v).defers = a.defers := by cases dst <;> rfl

theorem typed_step {a0 : Act} {fin : Nat → Bool} {V : Nat → Value → Act → World → Prop} {S : Nat → World → World → Prop} {C : Nat → World → Prop} (hB : typedG ops = true) (hV : ∀ i j v a u w w', i ≠ j → (∀ o, ops[i]? = some o → ∀ e ∈ o.after.toList, Region.binds .any e = true → e.on ≠ j) → (fin i || liveB ops j i) = true → V i v a w → S j w w' → V i v (a.put (dstOf ops j) u) w')
    (hd : ∀ i d, dstOf ops i = some d → d < a0.tmps.size) (hok : ∀ i o, ops[i]? = some o → OpOkG P ops Q a0 V S C i o)
    (f : Nat) (listed : Array Bool) (a : Act) (w : World) (i : Nat) (h : TypedI ops a0 fin V C (f + 1) listed a w) (hi : i ∈ Region.ready .any ops listed) :
    wpOp P ops Q i (TypedI ops a0 fin V C f (listed.setIfInBounds i true)) a w := by
  unfold Region.ready at hi
  rw [List.mem_filter] at hi
  obtain ⟨hir, hi2⟩ := hi
  have hil := List.mem_range.1 hir
  rw [Bool.and_eq_true] at hi2
  obtain ⟨hnl, haft⟩ := hi2
  have hnl' : listed.getD i true = false := by simpa using hnl
  obtain ⟨o, ho⟩ : ∃ o, ops[i]? = some o := ⟨_, Array.getElem?_eq_getElem hil⟩
  rw [ho] at haft
  simp only [Option.map_some, Option.getD_some] at haft
  have hin : listed.getD i false = false := by
    have hsz : i < listed.size := by rw [h.size]; exact hil
    simp [Array.getD, hsz] at hnl' ⊢
    exact hnl'
  have haft' : ∀ e ∈ o.after.toList, Region.binds .any e = true → listed.getD e.on false = true := by
    intro e he hb
    have := Array.all_eq_true'.1 haft e (by simpa using he)
    rw [hb] at this
    simpa using this
  have key := hok i o ho f listed a w ⟨h.size, h.opened, h.closed, hnl', haft'⟩ h.cls h.tmps (fun t ht => h.rest t (fun j hj => ht j (by
    rcases Nat.lt_or_ge j ops.size with h' | h'
    · exact h'
    · rw [← h.size] at h'
      simp [Array.getD, Nat.not_lt.2 h'] at hj))) (fun e he hb => h.held e.on (haft' e he (binds_data hb)) (Or.inr ⟨i, o, ho, hnl', dataB_of he hb⟩))
  have fin : ∀ v w', V i v (a.put o.dst v) w' → S i w w' → C f w' → TypedI ops a0 fin V C f (listed.setIfInBounds i true) (a.put o.dst v) w' := by
    intro v w' hv hs hc
    have hdst : dstOf ops i = o.dst := by unfold dstOf; rw [ho]; rfl
    have hl2 : ∀ j, (listed.setIfInBounds i true).getD j false = true → j = i ∨ listed.getD j false = true := by
      intro j hj
      by_cases hji : j = i
      · exact .inl hji
      · right
        simpa [Array.getD_eq_getD_getElem?, Array.getElem?_setIfInBounds_ne (Ne.symm hji)] using hj
    refine ⟨by simp [h.size], ?_, by rw [put_size, h.tmps], by rw [put_def, h.defers], ?_, ?_, hc, ?_⟩
    · have := openN_set hnl' ops.size
      rw [h.opened, if_pos hil] at this
      omega
    · intro t ht
      have hti : dstOf ops i ≠ some t := ht i (by
        have hsz : i < listed.size := by rw [h.size]; exact hil
        simp [Array.getD, hsz])
      rw [put_getD _ _ _ _ (by rw [← hdst]; exact hti)]
      refine h.rest t (fun j hj => ?_)
      by_cases hji : j = i
      · rw [hji]; exact hti
      · exact ht j (by simpa [Array.getD_eq_getD_getElem?, Array.getElem?_setIfInBounds_ne (Ne.symm hji)] using hj)
    · intro j hj hlive
      rcases hl2 j hj with rfl | hj'
      · refine ⟨v, hv, fun d hd' => ?_⟩
        rw [← hdst, hd']
        exact put_self a d v (by rw [h.tmps]; exact hd _ _ hd')
      · have hlv : (fin j = true ∨ ∃ k o, ops[k]? = some o ∧ listed.getD k true = false ∧ dataB o j = true) ∧ (fin j || liveB ops i j) = true := by
          rcases hlive with hf | ⟨k, o', hk, hko, hd'⟩
          · exact ⟨Or.inl hf, by rw [hf]; rfl⟩
          · have hki : k ≠ i := by
              intro e
              have hsz : i < listed.size := by rw [h.size]; exact hil
              rw [e] at hko
              simp [Array.getD, hsz] at hko
            have hko' : listed.getD k true = false := by simpa [Array.getD_eq_getD_getElem?, Array.getElem?_setIfInBounds_ne (Ne.symm hki)] using hko
            have haf : aftB o k = false := by
              cases haf : aftB o k
              · rfl
              · unfold aftB at haf
                rw [List.any_eq_true] at haf
                obtain ⟨e, he, hek⟩ := haf
                rw [Bool.and_eq_true] at hek
                have h1 := haft' e he hek.1
                have h2 : e.on = k := by simpa using hek.2
                have hks : k < listed.size := by rw [h.size]; exact (Array.getElem?_eq_some_iff.1 hk).1
                rw [h2] at h1
                simp [Array.getD, hks] at h1 hko'
                rw [h1] at hko'
                cases hko'
            exact ⟨Or.inr ⟨k, o', hk, hko', hd'⟩, by rw [liveB_of ho haf hk hki hd']; simp⟩
        obtain ⟨u, hu, hud⟩ := h.held j hj' hlv.1
        refine ⟨u, by rw [← hdst]; exact hV j i u a v w w' (fun e => by rw [← e, hj'] at hin; cases hin) (fun o' ho' e he hb ee => by
            have := h.closed j o' hj' ho' e he hb
            rw [ee, hin] at this
            cases this) hlv.2 hu hs, fun d hd' => ?_⟩
        rw [put_getD _ _ _ _ (fun e => ?_)]
        · exact hud d hd'
        · have : i = j := dst_apart hB (by rw [hdst]; exact e) hd'
          rw [← this, hin] at hj'
          cases hj'
    · intro j o' hj ho' e he hb
      have up : ∀ k, listed.getD k false = true → (listed.setIfInBounds i true).getD k false = true := by
        intro k hk
        by_cases hki : k = i
        · rw [hki, hin] at hk; cases hk
        · simpa [Array.getD_eq_getD_getElem?, Array.getElem?_setIfInBounds_ne (Ne.symm hki)] using hk
      rcases hl2 j hj with rfl | hj'
      · obtain rfl := Option.some.inj (ho.symm.trans ho')
        exact up _ (haft' e he hb)
      · exact up _ (h.closed j o' hj' ho' e he hb)
  unfold wpOp
  simp only [ho]
  cases hw : Region.wanted o (yielded ops a.tmps) with
  | true =>
    rw [if_pos rfl]
    left
    refine Oper.wp_mono ?_ (key.1 hw)
    rintro a' w' ⟨v, rfl, hv, hs, hc⟩
    exact fin v w' hv hs hc
  | false =>
    rw [if_neg (by simp)]
    obtain ⟨hv, hs, hc⟩ := key.2 hw
    exact fin undef w hv hs hc
theorem openN_all {listed : Array Bool} : ∀ {n}, (∀ i, i < n → listed.getD i true = true) → openN listed n = 0 := by
  intro n
  induction n with
  | zero => intro _; rfl
  | succ n ih =>
    intro h
    unfold openN
    rw [ih (fun i hi => h i (by omega)), h n (by omega)]; rfl
theorem ready_all {listed : Array Bool} (h : ∀ i, i < ops.size → listed.getD i true = true) : Region.ready .any ops listed = [] := by
  unfold Region.ready
  rw [List.filter_eq_nil_iff]
  intro i hi
  rw [h i (List.mem_range.1 hi)]
  simp
theorem ready_nil {listed : Array Bool} (hE : backB ops = true) (hs : listed.size = ops.size) (hr : Region.ready .any ops listed = []) : ∀ i, i < ops.size → listed.getD i true = true := by
  intro i
  induction i using Nat.strongRecOn with
  | _ i ih =>
    intro hi
    cases hb : listed.getD i true with
    | true => rfl
    | false =>
      exfalso
      obtain ⟨o, ho⟩ : ∃ o, ops[i]? = some o := ⟨_, Array.getElem?_eq_getElem hi⟩
      unfold backB at hE
      have h1 := List.all_eq_true.1 hE i (List.mem_range.2 hi)
      rw [ho] at h1
      simp only [Option.map_some, Option.getD_some] at h1
      have : i ∈ Region.ready .any ops listed := by
        unfold Region.ready
        rw [List.mem_filter]
        refine ⟨List.mem_range.2 hi, ?_⟩
        rw [hb, ho]
        simp only [Option.map_some, Option.getD_some, Bool.not_false, Bool.true_and]
        rw [Array.all_eq_true']
        intro e he
        have h2 := List.all_eq_true.1 h1 e (by simpa using he)
        by_cases hbd : Region.binds .any e = true
        · have hlt : e.on < i := by rw [hbd] at h2; simpa using h2
          have h3 := ih e.on hlt (by omega)
          have hsz : e.on < listed.size := by omega
          have h4 : listed.getD e.on false = true := by
            simp [Array.getD, hsz] at h3 ⊢
            exact h3
          rw [h4]; simp
        · have hbf : Region.binds .any e = false := by simpa using hbd
          rw [hbf]; simp
      rw [hr] at this
      cases this
/-- The region: its end at any values of the slots' types. -/
theorem wp_region_typedG {id : Nat} {a0 : Act} {w0 : World} (hm : P.follows .mixedOrders = true) (fin : Nat → Bool) (V : Nat → Value → Act → World → Prop) (S : Nat → World → World → Prop) (C : Nat → World → Prop) (hB : typedG ops = true) (hV : ∀ i j v a u w w', i ≠ j → (∀ o, ops[i]? = some o → ∀ e ∈ o.after.toList, Region.binds .any e = true → e.on ≠ j) → (fin i || liveB ops j i) = true → V i v a w → S j w w' → V i v (a.put (dstOf ops j) u) w')
    (hd : ∀ i d, dstOf ops i = some d → d < a0.tmps.size) (hC : C ops.size { w0 with drawn := w0.drawn + 1 }) (hok : ∀ i o, ops[i]? = some o → OpOkG P ops Q a0 V S C i o)
    (hE : backB ops = true)
    (done : ∀ a w, a.tmps.size = a0.tmps.size → a.defers = a0.defers → (∀ t, (∀ i, i < ops.size → dstOf ops i ≠ some t) → a.tmps.getD t undef = a0.tmps.getD t undef) → (∀ i, i < ops.size → fin i = true → Held ops V i a w) → C 0 w → Q .normal a w) :
    (Code.region id ops true).wp P Q a0 w0 := by
  refine wp_region_any hm (wpAny_inv (TypedI ops a0 fin V C) (typed_step hB hV hd hok) (fun listed a w h => ready_all (openN_zero h.opened)) (fun f listed a w h hr => ?_) _ _ _ _ ?_)
  · obtain rfl : f = 0 := h.opened.symm.trans (openN_all (ready_nil hE h.size hr))
    have hall := openN_zero h.opened
    have hl : ∀ i, i < ops.size → listed.getD i false = true := by
      intro i hi
      have := hall i hi
      have hsz : i < listed.size := by rw [h.size]; exact hi
      simp [Array.getD, hsz] at this ⊢
      exact this
    exact done a w h.tmps h.defers (fun t ht => h.rest t (fun j hj => ht j (by
      rcases Nat.lt_or_ge j ops.size with h' | h'
      · exact h'
      · rw [← h.size] at h'
        simp [Array.getD, Nat.not_lt.2 h'] at hj))) (fun i hi hf => h.held i (hl i hi) (Or.inl hf)) h.cls
  · refine ⟨by simp, openN_start _ _ (Nat.le_refl _), rfl, rfl, fun t _ => rfl, fun i hi => ?_, hC, fun i o hi => ?_⟩
    · rcases Nat.lt_or_ge i ops.size with h' | h' <;> simp [Array.getD, h', Nat.not_lt.2] at hi
    · rcases Nat.lt_or_ge i ops.size with h' | h' <;> simp [Array.getD, h', Nat.not_lt.2] at hi
/-- The same where no operation is guarded. -/
theorem wp_region_typed {id : Nat} {a0 : Act} {w0 : World} (hm : P.follows .mixedOrders = true) (fin : Nat → Bool) (V : Nat → Value → Act → World → Prop) (S : Nat → World → World → Prop) (C : Nat → World → Prop) (hB : typedB ops = true) (hV : ∀ i j v a u w w', i ≠ j → (∀ o, ops[i]? = some o → ∀ e ∈ o.after.toList, Region.binds .any e = true → e.on ≠ j) → (fin i || liveB ops j i) = true → V i v a w → S j w w' → V i v (a.put (dstOf ops j) u) w')
    (hd : ∀ i d, dstOf ops i = some d → d < a0.tmps.size) (hC : C ops.size { w0 with drawn := w0.drawn + 1 }) (hok : ∀ i o, ops[i]? = some o → OpOk P ops Q a0 V S C i o)
    (hE : backB ops = true)
    (done : ∀ a w, a.tmps.size = a0.tmps.size → a.defers = a0.defers → (∀ t, (∀ i, i < ops.size → dstOf ops i ≠ some t) → a.tmps.getD t undef = a0.tmps.getD t undef) → (∀ i, i < ops.size → fin i = true → Held ops V i a w) → C 0 w → Q .normal a w) :
    (Code.region id ops true).wp P Q a0 w0 :=
  wp_region_typedG hm fin V S C (typedB_G hB) hV hd hC (fun i o ho => (hok i o ho).toG (typedB_none hB ho)) hE done
end
end Go.Proofs.YtijpdekcdejfmaaDoor
