/- Typed regions whose class may look at what is listed. -/
import Derived.Test.YtijpdekcdejfmaaDoorTypedA
namespace Go.Proofs.YtijpdekcdejfmaaDoor
open Go Go.RowKit
set_option maxRecDepth 100000
section
variable {P : Program} {ops : Array Oper} {Q : Exit → Act → World → Prop}
structure TypedIL (ops : Array Oper) (a0 : Act) (fin : Nat → Bool) (V : Nat → Value → Act → World → Prop) (C : Nat → Array Bool → World → Prop) (f : Nat) (listed : Array Bool) (a : Act) (w : World) : Prop where
  size : listed.size = ops.size
  opened : openN listed ops.size = f
  tmps : a.tmps.size = a0.tmps.size
  defers : a.defers = a0.defers
  rest : ∀ t, (∀ i, listed.getD i false = true → dstOf ops i ≠ some t) → a.tmps.getD t undef = a0.tmps.getD t undef
  held : ∀ i, listed.getD i false = true → (fin i = true ∨ ∃ k o, ops[k]? = some o ∧ listed.getD k true = false ∧ dataB o i = true) → Held ops V i a w
  cls : C f listed w
  closed : ∀ i o, listed.getD i false = true → ops[i]? = some o → ∀ e ∈ o.after.toList, Region.binds .any e = true → listed.getD e.on false = true
/-- The same of an operation that may be guarded. -/
def OpOkGL (P : Program) (ops : Array Oper) (Q : Exit → Act → World → Prop) (a0 : Act) (V : Nat → Value → Act → World → Prop) (S : Nat → World → World → Prop) (C : Nat → Array Bool → World → Prop) (i : Nat) (o : Oper) : Prop :=
  ∀ (f : Nat) (listed : Array Bool) (a : Act) (w : World), Lst ops i o f listed → C (f + 1) listed w → a.tmps.size = a0.tmps.size →
    (∀ t, (∀ j, j < ops.size → dstOf ops j ≠ some t) → a.tmps.getD t undef = a0.tmps.getD t undef) →
    (∀ e ∈ o.after.toList, isVal e.ground = true → Held ops V e.on a w) →
    (Region.wanted o (yielded ops a.tmps) = true → o.wp P a w (fun a' w' => ∃ v, a' = a.put o.dst v ∧ V i v (a.put o.dst v) w' ∧ S i w w' ∧ C f (listed.setIfInBounds i true) w') Q) ∧
    (Region.wanted o (yielded ops a.tmps) = false → V i undef (a.put o.dst undef) w ∧ S i w w ∧ C f (listed.setIfInBounds i true) w)
theorem typed_stepL {a0 : Act} {fin : Nat → Bool} {V : Nat → Value → Act → World → Prop} {S : Nat → World → World → Prop} {C : Nat → Array Bool → World → Prop} (hB : typedG ops = true) (hV : ∀ i j v a u w w', i ≠ j → (∀ o, ops[i]? = some o → ∀ e ∈ o.after.toList, Region.binds .any e = true → e.on ≠ j) → (fin i || liveB ops j i) = true → V i v a w → S j w w' → V i v (a.put (dstOf ops j) u) w')
    (hd : ∀ i d, dstOf ops i = some d → d < a0.tmps.size) (hok : ∀ i o, ops[i]? = some o → OpOkGL P ops Q a0 V S C i o)
    (f : Nat) (listed : Array Bool) (a : Act) (w : World) (i : Nat) (h : TypedIL ops a0 fin V C (f + 1) listed a w) (hi : i ∈ Region.ready .any ops listed) :
    wpOp P ops Q i (TypedIL ops a0 fin V C f (listed.setIfInBounds i true)) a w := by
  unfold Region.ready at hi
  rw [List.mem_filter] at hi
  obtain ⟨hir, hi2⟩ := hi
  have hil := List.mem_range.1 hir
  rw [Bool.and_eq_true] at hi2
  obtain ⟨hnl, haft⟩ := hi2
  have hnl' : listed.getD i true = false := by simpa using hnl
  obtain ⟨o, ho⟩ : ∃ o, ops[i]? = some o := ⟨_, Array.getElem?_eq_getElem hil⟩
  rw [ho] at haft
  simp only [Option.map_some, Option.getD_some] at haft
  have hin : listed.getD i false = false := by
    have hsz : i < listed.size := by rw [h.size]; exact hil
    simp [Array.getD, hsz] at hnl' ⊢
    exact hnl'
  have haft' : ∀ e ∈ o.after.toList, Region.binds .any e = true → listed.getD e.on false = true := by
    intro e he hb
    have := Array.all_eq_true'.1 haft e (by simpa using he)
    rw [hb] at this
    simpa using this
  have key := hok i o ho f listed a w ⟨h.size, h.opened, h.closed, hnl', haft'⟩ h.cls h.tmps (fun t ht => h.rest t (fun j hj => ht j (by
    rcases Nat.lt_or_ge j ops.size with h' | h'
    · exact h'
    · rw [← h.size] at h'
      simp [Array.getD, Nat.not_lt.2 h'] at hj))) (fun e he hb => h.held e.on (haft' e he (binds_data hb)) (Or.inr ⟨i, o, ho, hnl', dataB_of he hb⟩))
  have fin : ∀ v w', V i v (a.put o.dst v) w' → S i w w' → C f (listed.setIfInBounds i true) w' → TypedIL ops a0 fin V C f (listed.setIfInBounds i true) (a.put o.dst v) w' := by
    intro v w' hv hs hc
    have hdst : dstOf ops i = o.dst := by unfold dstOf; rw [ho]; rfl
    have hl2 : ∀ j, (listed.setIfInBounds i true).getD j false = true → j = i ∨ listed.getD j false = true := by
      intro j hj
      by_cases hji : j = i
      · exact .inl hji
      · right
        simpa [Array.getD_eq_getD_getElem?, Array.getElem?_setIfInBounds_ne (Ne.symm hji)] using hj
    refine ⟨by simp [h.size], ?_, by rw [put_size, h.tmps], by rw [put_def, h.defers], ?_, ?_, hc, ?_⟩
    · have := openN_set hnl' ops.size
      rw [h.opened, if_pos hil] at this
      omega
    · intro t ht
      have hti : dstOf ops i ≠ some t := ht i (by
        have hsz : i < listed.size := by rw [h.size]; exact hil
        simp [Array.getD, hsz])
      rw [put_getD _ _ _ _ (by rw [← hdst]; exact hti)]
      refine h.rest t (fun j hj => ?_)
      by_cases hji : j = i
      · rw [hji]; exact hti
      · exact ht j (by simpa [Array.getD_eq_getD_getElem?, Array.getElem?_setIfInBounds_ne (Ne.symm hji)] using hj)
    · intro j hj hlive
      rcases hl2 j hj with rfl | hj'
      · refine ⟨v, hv, fun d hd' => ?_⟩
        rw [← hdst, hd']
        exact put_self a d v (by rw [h.tmps]; exact hd _ _ hd')
      · have hlv : (fin j = true ∨ ∃ k o, ops[k]? = some o ∧ listed.getD k true = false ∧ dataB o j = true) ∧ (fin j || liveB ops i j) = true := by
          rcases hlive with hf | ⟨k, o', hk, hko, hd'⟩
          · exact ⟨Or.inl hf, by rw [hf]; rfl⟩
          · have hki : k ≠ i := by
              intro e
              have hsz : i < listed.size := by rw [h.size]; exact hil
              rw [e] at hko
              simp [Array.getD, hsz] at hko
            have hko' : listed.getD k true = false := by simpa [Array.getD_eq_getD_getElem?, Array.getElem?_setIfInBounds_ne (Ne.symm hki)] using hko
            have haf : aftB o k = false := by
              cases haf : aftB o k
              · rfl
              · unfold aftB at haf
                rw [List.any_eq_true] at haf
                obtain ⟨e, he, hek⟩ := haf
                rw [Bool.and_eq_true] at hek
                have h1 := haft' e he hek.1
                have h2 : e.on = k := by simpa using hek.2
                have hks : k < listed.size := by rw [h.size]; exact (Array.getElem?_eq_some_iff.1 hk).1
                rw [h2] at h1
                simp [Array.getD, hks] at h1 hko'
                rw [h1] at hko'
                cases hko'
            exact ⟨Or.inr ⟨k, o', hk, hko', hd'⟩, by rw [liveB_of ho haf hk hki hd']; simp⟩
        obtain ⟨u, hu, hud⟩ := h.held j hj' hlv.1
        refine ⟨u, by rw [← hdst]; exact hV j i u a v w w' (fun e => by rw [← e, hj'] at hin; cases hin) (fun o' ho' e he hb ee => by
            have := h.closed j o' hj' ho' e he hb
            rw [ee, hin] at this
            cases this) hlv.2 hu hs, fun d hd' => ?_⟩
        rw [put_getD _ _ _ _ (fun e => ?_)]
        · exact hud d hd'
        · have : i = j := dst_apart hB (by rw [hdst]; exact e) hd'
          rw [← this, hin] at hj'
          cases hj'
    · intro j o' hj ho' e he hb
      have up : ∀ k, listed.getD k false = true → (listed.setIfInBounds i true).getD k false = true := by
        intro k hk
        by_cases hki : k = i
        · rw [hki, hin] at hk; cases hk
        · simpa [Array.getD_eq_getD_getElem?, Array.getElem?_setIfInBounds_ne (Ne.symm hki)] using hk
      rcases hl2 j hj with rfl | hj'
      · obtain rfl := Option.some.inj (ho.symm.trans ho')
        exact up _ (haft' e he hb)
      · exact up _ (h.closed j o' hj' ho' e he hb)
  unfold wpOp
  simp only [ho]
  cases hw : Region.wanted o (yielded ops a.tmps) with
  | true =>
    rw [if_pos rfl]
    left
    refine Oper.wp_mono ?_ (key.1 hw)
    rintro a' w' ⟨v, rfl, hv, hs, hc⟩
    exact fin v w' hv hs hc
  | false =>
    rw [if_neg (by simp)]
    obtain ⟨hv, hs, hc⟩ := key.2 hw
    exact fin undef w hv hs hc
/-- The region: its end at any values of the slots' types. -/
theorem wp_region_typedGL {id : Nat} {a0 : Act} {w0 : World} (hm : P.follows .mixedOrders = true) (fin : Nat → Bool) (V : Nat → Value → Act → World → Prop) (S : Nat → World → World → Prop) (C : Nat → Array Bool → World → Prop) (hB : typedG ops = true) (hV : ∀ i j v a u w w', i ≠ j → (∀ o, ops[i]? = some o → ∀ e ∈ o.after.toList, Region.binds .any e = true → e.on ≠ j) → (fin i || liveB ops j i) = true → V i v a w → S j w w' → V i v (a.put (dstOf ops j) u) w')
    (hd : ∀ i d, dstOf ops i = some d → d < a0.tmps.size) (hC : C ops.size (Array.replicate ops.size false) { w0 with drawn := w0.drawn + 1 }) (hok : ∀ i o, ops[i]? = some o → OpOkGL P ops Q a0 V S C i o)
    (hE : backB ops = true)
    (done : ∀ a w, a.tmps.size = a0.tmps.size → a.defers = a0.defers → (∀ t, (∀ i, i < ops.size → dstOf ops i ≠ some t) → a.tmps.getD t undef = a0.tmps.getD t undef) → (∀ i, i < ops.size → fin i = true → Held ops V i a w) → (∃ listed : Array Bool, (∀ i, i < ops.size → listed.getD i false = true) ∧ C 0 listed w) → Q .normal a w) :
    (Code.region id ops true).wp P Q a0 w0 := by
  refine wp_region_any hm (wpAny_inv (TypedIL ops a0 fin V C) (typed_stepL hB hV hd hok) (fun listed a w h => ready_all (openN_zero h.opened)) (fun f listed a w h hr => ?_) _ _ _ _ ?_)
  · obtain rfl : f = 0 := h.opened.symm.trans (openN_all (ready_nil hE h.size hr))
    have hall := openN_zero h.opened
    have hl : ∀ i, i < ops.size → listed.getD i false = true := by
      intro i hi
      have := hall i hi
      have hsz : i < listed.size := by rw [h.size]; exact hi
      simp [Array.getD, hsz] at this ⊢
      exact this
    exact done a w h.tmps h.defers (fun t ht => h.rest t (fun j hj => ht j (by
      rcases Nat.lt_or_ge j ops.size with h' | h'
      · exact h'
      · rw [← h.size] at h'
        simp [Array.getD, Nat.not_lt.2 h'] at hj))) (fun i hi hf => h.held i (hl i hi) (Or.inl hf)) ⟨listed, hl, h.cls⟩
  · refine ⟨by simp, openN_start _ _ (Nat.le_refl _), rfl, rfl, fun t _ => rfl, fun i hi => ?_, hC, fun i o hi => ?_⟩
    · rcases Nat.lt_or_ge i ops.size with h' | h' <;> simp [Array.getD, h', Nat.not_lt.2] at hi
    · rcases Nat.lt_or_ge i ops.size with h' | h' <;> simp [Array.getD, h', Nat.not_lt.2] at hi
end
section
variable {ops : Array Oper} {i f k : Nat} {o : Oper} {listed : Array Bool}
/-- What waits for an open operation is open. -/
theorem Lst.up (h : Lst ops i o f listed) {ok : Oper} (hk : ops[k]? = some ok) (e : Edge) (he : e ∈ ok.after.toList) (hb : Region.binds .any e = true) (ho : listed.getD e.on true = false) : listed.getD k true = false := by
  have hlt := (Array.getElem?_eq_some_iff.1 hk).1
  refine getD_open (by rw [h.size]; exact hlt) (fun hl => ?_)
  have := getD_true (h.closed k ok hl hk e he hb)
  rw [ho] at this
  cases this
theorem set_ne {i k : Nat} {listed : Array Bool} (h : i ≠ k) (b : Bool) : (listed.setIfInBounds i true).getD k b = listed.getD k b := by
  simp [Array.getD_eq_getD_getElem?, Array.getElem?_setIfInBounds_ne h]
end
end Go.Proofs.YtijpdekcdejfmaaDoor
