/- A region that draws its order, of which the last operation K alone turns what its loads read: the loads are taken first (over Derived/OrdersHeld: S need not hold behind K). -/
import Derived.Test.YtijpdekcdejfmaaDoorMem
import Derived.Deep.RegionHeld3
namespace Go.Proofs.YtijpdekcdejfmaaDoor
open Go Go.RowKit

section
variable {P : Program} {ops : Array Oper} {Q : Exit → Act → World → Prop} {md : Region.Mode} {S : World → Prop} {K : Nat}
def waits (md : Region.Mode) (ops : Array Oper) (i : Nat) : List Nat := match ops[i]? with
  | none => []
  | some o => (o.after.toList.filter fun e => Region.binds md e).map (·.on)
/-- What must have come up ahead of K. -/
def ahead (md : Region.Mode) (ops : Array Oper) (K : Nat) : Nat → List Nat
  | 0 => waits md ops K
  | n + 1 => ahead md ops K n ++ (ahead md ops K n).flatMap (waits md ops)
def Closed (md : Region.Mode) (ops : Array Oper) (listed : Array Bool) : Prop := ∀ j, j < ops.size → listed.getD j true = true → ∀ i ∈ waits md ops j, listed.getD i false = true
theorem getD_ft {l : Array Bool} {i : Nat} (h : l.getD i false = true) : l.getD i true = true := by
  rcases Nat.lt_or_ge i l.size with h' | h'
  · simp [h'] at h ⊢; exact h
  · simp [Array.getElem?_eq_none h'] at h
theorem getD_ff {l : Array Bool} {i : Nat} (h : l.getD i true = false) : l.getD i false = false := by
  rcases Nat.lt_or_ge i l.size with h' | h'
  · simp [h'] at h ⊢; exact h
  · simp [Array.getElem?_eq_none h'] at h
theorem waits_ready {j : Nat} {listed : Array Bool} (h : j ∈ Region.ready md ops listed) : ∀ i ∈ waits md ops j, listed.getD i false = true := by
  obtain ⟨_, o, ho, hall⟩ := mem_ready.1 h
  intro i hi
  unfold waits at hi
  rw [ho] at hi
  simp only [List.mem_map, List.mem_filter] at hi
  obtain ⟨e, ⟨he, hb⟩, rfl⟩ := hi
  exact hall e (by simpa using he) hb
theorem Closed.start : Closed md ops (Array.replicate ops.size false) := fun j hj h => by simp [hj] at h
theorem Closed.step {j : Nat} {listed : Array Bool} (h : Closed md ops listed) (hj : j ∈ Region.ready md ops listed) : Closed md ops (listed.setIfInBounds j true) := by
  intro k hk hl i hi
  by_cases e : j = k
  · subst e
    exact getD_set_true (waits_ready hj i hi)
  · rw [getD_set_ne true e] at hl
    exact getD_set_true (h k hk hl i hi)
theorem lt_of_waits {j i : Nat} (h : i ∈ waits md ops j) : j < ops.size := by
  unfold waits at h
  cases ho : ops[j]? with
  | none => rw [ho] at h; cases h
  | some o => exact (Array.getElem?_eq_some_iff.1 ho).1
theorem ahead_listed {listed : Array Bool} (h : Closed md ops listed) (hK : K ∈ Region.ready md ops listed) : ∀ n, ∀ i ∈ ahead md ops K n, listed.getD i false = true := by
  intro n
  induction n with
  | zero => exact waits_ready hK
  | succ n ih =>
    intro i hi
    unfold ahead at hi
    rcases List.mem_append.1 hi with hi | hi
    · exact ih i hi
    · obtain ⟨j, hj, hi⟩ := List.mem_flatMap.1 hi
      exact h j (lt_of_waits hi) (getD_ft (ih j hj)) i hi
/-- Whatever order is picked, and S holds behind every operation but K. -/
def wpAnyK (P : Program) (md : Region.Mode) (ops : Array Oper) (Q : Exit → Act → World → Prop) (S : World → Prop) (K : Nat) : Nat → Array Bool → Act → World → Prop
  | 0, listed, a, w => Region.ready md ops listed = [] ∧ Q .normal a w
  | fuel + 1, listed, a, w =>
    (Region.ready md ops listed = [] → Q .normal a w) ∧
    ∀ i ∈ Region.ready md ops listed, wpOp P ops Q i (fun a' w' => (i ≠ K → S w') ∧ wpAnyK P md ops Q S K fuel (listed.setIfInBounds i true) a' w') a w
theorem wpAny_of_K : ∀ (fuel : Nat) (listed : Array Bool) (a : Act) (w : World), wpAnyK P md ops Q S K fuel listed a w → wpAny P md ops Q fuel listed a w
  | 0, _, _, _, h => h
  | fuel + 1, _, _, _, h => ⟨h.1, fun i hi => wpOp_mono (fun a' w' h' => wpAny_of_K fuel _ a' w' h'.2) (h.2 i hi)⟩
theorem wpAnyK_first {i N : Nat} {oi : Oper} {v : Value} (hi : ops[i]? = some oi) (hsel : ∀ (j : Nat) (o : Oper) cs b, ops[j]? = some o → o.op ≠ .select cs b)
    (hQ : ∀ c a w, Q (.panic c) (a.put oi.dst v) w → Q (.panic c) a w) (hiK : i ∈ ahead md ops K N) :
    ∀ (fuel : Nat) (listed : Array Bool) (a : Act) (w : World), Closed md ops listed →
      (∀ j oj, ops[j]? = some oj → j ≠ i → listed.getD j true = false → (∀ e ∈ oj.after, Region.binds md e = true → e.on ≠ i) → oi.apart ops oj = true) →
      i ∈ Region.ready md ops listed → YieldsIf P ops S oi v a → S w →
      wpAnyK P md ops Q S K fuel (listed.setIfInBounds i true) (a.put oi.dst v) w → wpAnyK P md ops Q S K (fuel + 1) listed a w := by
  intro fuel
  induction fuel with
  | zero =>
    intro listed a w _ _ hr hy hS H
    refine ⟨fun h => (by rw [h] at hr; cases hr), fun j hj => ?_⟩
    by_cases hji : j = i
    · subst hji; exact hy.wpOp hi hS ⟨fun _ => hS, H⟩
    · have := ready_mono hj hji
      rw [H.1] at this
      cases this
  | succ fuel ih =>
    intro listed a w hcl hfree hr hy hS H
    refine ⟨fun h => (by rw [h] at hr; cases hr), fun j hj => ?_⟩
    by_cases hji : j = i
    · subst hji; exact hy.wpOp hi hS ⟨fun _ => hS, H⟩
    · have h1 := H.2 j (ready_mono hj hji)
      obtain ⟨hjun, oj, hoj, hall⟩ := mem_ready.1 hj
      have hun := (mem_ready.1 hr).1
      have hjK : j ≠ K := fun e => by
        subst e
        have := ahead_listed hcl hj N i hiK
        rw [getD_ff hun] at this
        cases this
      have hnot : ∀ e ∈ oj.after, Region.binds md e = true → e.on ≠ i := fun e he hb heq => by
        have h1 := hall e he hb
        rw [heq, getD_ff hun] at h1
        cases h1
      have h2 := wpOp_putIf hoj (hfree j oj hoj hji hjun hnot) (fun cs b => hsel i oi cs b hi) (fun cs b => hsel j oj cs b hoj) hQ hy h1
      have hfree' : ∀ k ok, ops[k]? = some ok → k ≠ i → (listed.setIfInBounds j true).getD k true = false →
          (∀ e ∈ ok.after, Region.binds md e = true → e.on ≠ i) → oi.apart ops ok = true := fun k ok hk hki hun hno => by
        refine hfree k ok hk hki ?_ hno
        by_cases hjk : j = k
        · subst hjk; exact hjun
        · rw [getD_set_ne true hjk] at hun; exact hun
      refine wpOp_mono (fun a' w' h3 => ⟨fun _ => h3.2.1 hjK, ih (listed.setIfInBounds j true) a' w' (hcl.step hj) hfree' (ready_mono hr (Ne.symm hji)) h3.1 (h3.2.1 hjK) ?_⟩) h2
      rw [Array.setIfInBounds_comm _ _ hji]
      exact h3.2.2
/-- The state of the walk. -/
def AtK (P : Program) (md : Region.Mode) (ops : Array Oper) (Q : Exit → Act → World → Prop) (S : World → Prop) (K : Nat) (fuel : Nat) (listed : Array Bool) (a : Act) (w : World) : Prop := Closed md ops listed → wpAnyK P md ops Q S K fuel listed a w
/-- Number i is taken first. -/
theorem atK_take {i fuel : Nat} {oi : Oper} {v : Value} {listed : Array Bool} {a : Act} {w : World} (hi : ops[i]? = some oi)
    (hs : Region.noSelect ops = true) (hf : Region.free md ops listed i = true) (hr : (Region.ready md ops listed).contains i = true) (hK : (ahead md ops K 6).contains i = true)
    (hQ : ∀ c a w, Q (.panic c) (a.put oi.dst v) w → Q (.panic c) a w) (hw : Region.wanted oi (yielded ops a.tmps) = true) (hy : ∀ w, S w → (execOp a.eval oi).run P w = .ok (.value v) w) (hS : S w)
    (h : AtK P md ops Q S K fuel (listed.setIfInBounds i true) (a.put oi.dst v) w) : AtK P md ops Q S K (fuel + 1) listed a w := fun hcl => by
  have hr' : i ∈ Region.ready md ops listed := by simpa using hr
  exact wpAnyK_first hi (Region.noSelect_spec hs) hQ (by simpa using hK) fuel listed a w hcl (Region.free_spec hi hf) hr' (.inl ⟨hw, hy⟩) hS (h (hcl.step hr'))
/-- One operation alone may come up. -/
theorem atK_one {i fuel : Nat} {o : Oper} {listed : Array Bool} {a : Act} {w : World} (hr : Region.ready md ops listed = [i]) (ho : ops[i]? = some o)
    (h : ∀ K' : Act → World → Prop, Shut (∀ a w, (i ≠ K → S w) → AtK P md ops Q S K fuel (listed.setIfInBounds i true) a w → K' a w) → if Region.wanted o (yielded ops a.tmps) = true then Oper.wp P o a w K' Q else K' (a.put o.dst undef) w) :
    AtK P md ops Q S K (fuel + 1) listed a w := fun hcl => by
  refine ⟨fun h0 => (by rw [hr] at h0; cases h0), fun j hj => ?_⟩
  have hc := hcl.step hj
  rw [hr, List.mem_singleton] at hj
  subst hj
  exact wpOp_step ho fun K' hK => h K' fun a w hS hW => hK a w ⟨hS, hW hc⟩
theorem atK_done {listed : Array Bool} {a : Act} {w : World} (hr : Region.ready md ops listed = []) (h : Q .normal a w) : ∀ fuel, AtK P md ops Q S K fuel listed a w
  | 0 => fun _ => ⟨hr, h⟩
  | _ + 1 => fun _ => ⟨fun _ => h, by rw [hr]; simp⟩
theorem wp_region_K {id : Nat} {a : Act} {w : World} (hm : P.follows .mixedOrders = true) (S : World → Prop) (K : Nat) (h : AtK P .any ops Q S K ops.size (Array.replicate ops.size false) a w.drew) : (Code.region id ops true).wp P Q a w :=
  wp_region_any hm (wpAny_of_K _ _ _ _ (h Closed.start))
end
end Go.Proofs.YtijpdekcdejfmaaDoor
