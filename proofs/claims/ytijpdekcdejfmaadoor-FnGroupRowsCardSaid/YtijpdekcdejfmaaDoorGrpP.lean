/- Groups: what a table of groups is, and that there is one alone (plain Lean, no program). -/
import Derived.Test.YtijpdekcdejfmaaDoorMem
namespace Go.Proofs.YtijpdekcdejfmaaDoor
def keyOf (p : List Int) : Int := p.getD 0 0
def valOf (p : List Int) : Int := p.getD 1 0
def cnt (ps : List (List Int)) (k : Int) : Int := ((ps.filter fun p => decide (keyOf p = k)).length : Nat)
def tot (ps : List (List Int)) (k : Int) : Int := ((ps.filter fun p => decide (keyOf p = k)).map valOf).sum
def rowG (ps : List (List Int)) (k : Int) : List Int := [k, cnt ps k, tot ps k]
def GroupR (ps : List (List Int)) (out : List (List Int)) : Prop := ∃ keys : List Int, keys.Pairwise (· < ·) ∧ (∀ k, k ∈ keys ↔ ∃ p ∈ ps, keyOf p = k) ∧ out = keys.map (rowG ps)

theorem asc_uniq : ∀ {a b : List Int}, a.Pairwise (· < ·) → b.Pairwise (· < ·) → (∀ k, k ∈ a ↔ k ∈ b) → a = b := by
  intro a
  induction a with
  | nil =>
    intro b _ _ h
    cases b with
    | nil => rfl
    | cons y b => exact absurd ((h y).2 (by simp)) (by simp)
  | cons x a ih =>
    intro b ha hb h
    cases b with
    | nil => exact absurd ((h x).1 (by simp)) (by simp)
    | cons y b =>
      rw [List.pairwise_cons] at ha hb
      have hxy : x = y := by
        have h1 := (h x).1 (by simp)
        have h2 := (h y).2 (by simp)
        rw [List.mem_cons] at h1 h2
        rcases h1 with h1 | h1
        · exact h1
        · rcases h2 with h2 | h2
          · exact h2.symm
          · have := hb.1 x h1; have := ha.1 y h2; omega
      subst hxy
      congr 1
      refine ih ha.2 hb.2 fun k => ?_
      have h0 := h k
      rw [List.mem_cons, List.mem_cons] at h0
      constructor
      · intro hk
        rcases h0.1 (.inr hk) with e | e
        · have := ha.1 k hk; omega
        · exact e
      · intro hk
        rcases h0.2 (.inr hk) with e | e
        · have := hb.1 k hk; omega
        · exact e
theorem GroupR.uniq {ps a b : List (List Int)} (ha : GroupR ps a) (hb : GroupR ps b) : a = b := by
  obtain ⟨ka, h1, h2, rfl⟩ := ha
  obtain ⟨kb, g1, g2, rfl⟩ := hb
  rw [asc_uniq h1 g1 fun k => (h2 k).trans (g2 k).symm]
theorem cnt_perm {ps qs : List (List Int)} (h : ps.Perm qs) (k : Int) : cnt ps k = cnt qs k := by unfold cnt; rw [(h.filter _).length_eq]
theorem sum_perm {a b : List Int} (h : a.Perm b) : a.sum = b.sum := by
  induction h with
  | nil => rfl
  | cons x _ ih => simp [ih]
  | swap x y l => simp; omega
  | trans _ _ h1 h2 => exact h1.trans h2
theorem tot_perm {ps qs : List (List Int)} (h : ps.Perm qs) (k : Int) : tot ps k = tot qs k := by unfold tot; exact sum_perm ((h.filter _).map _)
theorem GroupR.perm {ps qs a : List (List Int)} (h : ps.Perm qs) (ha : GroupR ps a) : GroupR qs a := by
  obtain ⟨ka, h1, h2, rfl⟩ := ha
  refine ⟨ka, h1, fun k => (h2 k).trans ⟨fun ⟨p, hp, e⟩ => ⟨p, h.mem_iff.1 hp, e⟩, fun ⟨p, hp, e⟩ => ⟨p, h.mem_iff.2 hp, e⟩⟩, ?_⟩
  refine List.map_congr_left fun k _ => ?_
  unfold rowG; rw [cnt_perm h, tot_perm h]
theorem GroupR.nil : GroupR [] [] := ⟨[], List.Pairwise.nil, fun k => by simp, rfl⟩
theorem cnt_snoc (ps : List (List Int)) (p : List Int) (k : Int) : cnt (ps ++ [p]) k = cnt ps k + (if keyOf p = k then 1 else 0) := by
  unfold cnt
  rw [List.filter_append, List.length_append]
  by_cases h : keyOf p = k <;> simp [h]
theorem tot_snoc (ps : List (List Int)) (p : List Int) (k : Int) : tot (ps ++ [p]) k = tot ps k + (if keyOf p = k then valOf p else 0) := by
  unfold tot
  rw [List.filter_append, List.map_append, List.sum_append]
  by_cases h : keyOf p = k <;> simp [h]
theorem rowG_other {ps : List (List Int)} {p : List Int} {k : Int} (h : k ≠ keyOf p) : rowG (ps ++ [p]) k = rowG ps k := by
  unfold rowG; rw [cnt_snoc, tot_snoc, if_neg (Ne.symm h), if_neg (Ne.symm h), Int.add_zero, Int.add_zero]
theorem rowG_same (ps : List (List Int)) (p : List Int) : rowG (ps ++ [p]) (keyOf p) = [keyOf p, cnt ps (keyOf p) + 1, tot ps (keyOf p) + valOf p] := by
  unfold rowG; rw [cnt_snoc, tot_snoc, if_pos rfl, if_pos rfl]
theorem cnt_zero {ps : List (List Int)} {k : Int} (h : ¬ ∃ p ∈ ps, keyOf p = k) : cnt ps k = 0 := by
  unfold cnt
  rw [List.filter_eq_nil_iff.2 fun p hp => by simp; exact fun e => h ⟨p, hp, e⟩]; rfl
theorem tot_zero {ps : List (List Int)} {k : Int} (h : ¬ ∃ p ∈ ps, keyOf p = k) : tot ps k = 0 := by
  unfold tot
  rw [List.filter_eq_nil_iff.2 fun p hp => by simp; exact fun e => h ⟨p, hp, e⟩]; rfl
/-- The key is there: its row counts one more. -/
theorem GroupR.hit {ps out : List (List Int)} {p : List Int} {i : Nat} {k c s : Int} (h : GroupR ps out) (hi : out[i]? = some [k, c, s]) (hk : keyOf p = k) : GroupR (ps ++ [p]) (out.set i [k, c + 1, s + valOf p]) := by
  obtain ⟨ks, h1, h2, rfl⟩ := h
  subst hk
  rw [List.getElem?_map] at hi
  obtain ⟨k', hk', e⟩ := Option.map_eq_some_iff.1 hi
  unfold rowG at e
  simp only [List.cons.injEq, and_true] at e
  obtain ⟨rfl, rfl, rfl⟩ := e
  have hil := (List.getElem?_eq_some_iff.1 hk').1
  refine ⟨ks, h1, fun k => ?_, ?_⟩
  · rw [h2 k]
    constructor
    · rintro ⟨q, hq, e⟩; exact ⟨q, by simp [hq], e⟩
    · rintro ⟨q, hq, e⟩
      rw [List.mem_append, List.mem_singleton] at hq
      rcases hq with hq | rfl
      · exact ⟨q, hq, e⟩
      · subst e; exact (h2 _).1 (List.mem_of_getElem? hk')
  · apply List.ext_getElem?
    intro j
    rw [List.getElem?_set, List.getElem?_map, List.getElem?_map]
    by_cases hj : i = j
    · subst hj
      rw [if_pos rfl, if_pos (by rw [List.length_map]; exact hil), hk']
      simp only [Option.map_some, rowG_same]
    · rw [if_neg hj]
      cases hq : ks[j]? with
      | none => rfl
      | some q =>
        simp only [Option.map_some]
        rw [rowG_other]
        intro e
        subst e
        -- strictly ascending: one place
        have hjl := (List.getElem?_eq_some_iff.1 hq).1
        have e1 := (List.getElem?_eq_some_iff.1 hq).2
        have e2 := (List.getElem?_eq_some_iff.1 hk').2
        rcases Nat.lt_or_gt_of_ne hj with hlt | hlt
        · have := (List.pairwise_iff_getElem.1 h1) i j hil hjl hlt
          rw [e1, e2] at this; omega
        · have := (List.pairwise_iff_getElem.1 h1) j i hjl hil hlt
          rw [e1, e2] at this; omega
/-- The key is new: its row comes in behind the lesser ones. -/
theorem GroupR.miss {ps out : List (List Int)} {p : List Int} {i : Nat} (h : GroupR ps out) (hi : i ≤ out.length) (hlo : ∀ j r, j < i → out[j]? = some r → keyOf r < keyOf p) (hhi : ∀ r, out[i]? = some r → keyOf p < keyOf r) :
    GroupR (ps ++ [p]) (out.take i ++ [keyOf p, 1, valOf p] :: out.drop i) := by
  obtain ⟨ks, h1, h2, rfl⟩ := h
  rw [List.length_map] at hi
  have lo : ∀ k ∈ ks.take i, k < keyOf p := by
    intro k hk
    obtain ⟨j, hj, rfl⟩ := List.getElem_of_mem hk
    rw [List.length_take] at hj
    have := hlo j (rowG ps ks[j]) (by omega) (by rw [List.getElem?_map, List.getElem?_eq_getElem (by omega)]; rfl)
    rw [List.getElem_take]
    simpa [keyOf, rowG] using this
  have hi' : ∀ k ∈ ks.drop i, keyOf p < k := by
    intro k hk
    obtain ⟨j, hj, rfl⟩ := List.getElem_of_mem hk
    rw [List.length_drop] at hj
    rw [List.getElem_drop]
    have h0 := hhi (rowG ps ks[i]) (by rw [List.getElem?_map, List.getElem?_eq_getElem (by omega)]; rfl)
    have h0' : keyOf p < ks[i] := by simpa [keyOf, rowG] using h0
    rcases Nat.eq_zero_or_pos j with rfl | hj0
    · simpa using h0'
    · have := (List.pairwise_iff_getElem.1 h1) i (i + j) (by omega) (by omega) (by omega)
      omega
  have no : keyOf p ∉ ks := by
    intro hk
    rw [← List.take_append_drop i ks, List.mem_append] at hk
    rcases hk with hk | hk
    · have := lo _ hk; omega
    · have := hi' _ hk; omega
  have hno : ¬ ∃ q ∈ ps, keyOf q = keyOf p := fun h => no ((h2 _).2 h)
  refine ⟨ks.take i ++ keyOf p :: ks.drop i, ?_, fun k => ?_, ?_⟩
  · rw [List.pairwise_append]
    refine ⟨h1.take, ?_, ?_⟩
    · rw [List.pairwise_cons]
      exact ⟨hi', h1.drop⟩
    · intro a ha b hb
      rw [List.mem_cons] at hb
      have := lo a ha
      rcases hb with rfl | hb
      · exact this
      · have := hi' b hb; omega
  · rw [List.mem_append, List.mem_cons]
    constructor
    · rintro (hk | rfl | hk)
      · obtain ⟨q, hq, e⟩ := (h2 k).1 (List.mem_of_mem_take hk); exact ⟨q, by simp [hq], e⟩
      · exact ⟨p, by simp, rfl⟩
      · obtain ⟨q, hq, e⟩ := (h2 k).1 (List.mem_of_mem_drop hk); exact ⟨q, by simp [hq], e⟩
    · rintro ⟨q, hq, e⟩
      rw [List.mem_append, List.mem_singleton] at hq
      rcases hq with hq | rfl
      · have hk := (h2 k).2 ⟨q, hq, e⟩
        rw [← List.take_append_drop i ks, List.mem_append] at hk
        rcases hk with hk | hk
        · exact .inl hk
        · exact .inr (.inr hk)
      · exact .inr (.inl e.symm)
  · rw [List.map_append, List.map_cons, List.map_take, List.map_drop, rowG_same, cnt_zero hno, tot_zero hno, Int.zero_add, Int.zero_add]
    have e : ∀ l : List Int, (∀ k ∈ l, k ≠ keyOf p) → l.map (rowG (ps ++ [p])) = l.map (rowG ps) := fun l hl => List.map_congr_left fun k hk => rowG_other (hl k hk)
    rw [← List.map_take, ← List.map_drop, ← List.map_take, ← List.map_drop, e _ (fun k hk => by have := lo k hk; omega), e _ (fun k hk => by have := hi' k hk; omega)]
theorem GroupR.len {ps out : List (List Int)} (h : GroupR ps out) : out.length ≤ ps.length := by
  obtain ⟨ks, h1, h2, rfl⟩ := h
  rw [List.length_map]
  have : ks ⊆ ps.map keyOf := fun k hk => by obtain ⟨p, hp, e⟩ := (h2 k).1 hk; exact List.mem_map.2 ⟨p, hp, e⟩
  have hnd : ks.Nodup := h1.imp fun h e => by omega
  have := hnd.length_le_of_subset this
  rwa [List.length_map] at this
theorem cnt_bd (ps : List (List Int)) (k : Int) : 0 ≤ cnt ps k ∧ cnt ps k ≤ ps.length := by
  unfold cnt
  have := List.length_filter_le (fun p => decide (keyOf p = k)) ps
  omega
theorem tot_bd {ps : List (List Int)} {m : Int} (h : ∀ p ∈ ps, -m ≤ valOf p ∧ valOf p ≤ m) (hm : 0 ≤ m) (k : Int) : -(m * ps.length) ≤ tot ps k ∧ tot ps k ≤ m * ps.length := by
  unfold tot
  induction ps with
  | nil => simp
  | cons p ps ih =>
    have h0 := h p (by simp)
    have hi := ih fun q hq => h q (by simp [hq])
    rw [List.filter_cons, List.length_cons]
    have e : m * ((ps.length + 1 : Nat) : Int) = m * ps.length + m := by rw [Int.natCast_add, Int.mul_add]; simp
    rw [e]
    split
    · rw [List.map_cons, List.sum_cons]; omega
    · omega
/-- A row of the table. -/
theorem GroupR.row {ps out : List (List Int)} (h : GroupR ps out) {i : Nat} {r : List Int} (hr : out[i]? = some r) : ∃ k, r = [k, cnt ps k, tot ps k] ∧ ∃ p ∈ ps, keyOf p = k := by
  obtain ⟨ks, h1, h2, rfl⟩ := h
  rw [List.getElem?_map] at hr
  obtain ⟨k, hk, rfl⟩ := Option.map_eq_some_iff.1 hr
  exact ⟨k, rfl, (h2 k).1 (List.mem_of_getElem? hk)⟩
theorem sum_one {ks : List Int} {x : Int} (f : Int → Int) (hn : ks.Nodup) (hx : x ∈ ks) : (ks.map fun k => if x = k then f k else 0).sum = f x := by
  induction ks with
  | nil => simp at hx
  | cons y ks ih =>
    rw [List.nodup_cons] at hn
    rw [List.map_cons, List.sum_cons]
    by_cases h : x = y
    · subst h
      rw [if_pos rfl]
      have : (ks.map fun k => if x = k then f k else 0) = ks.map fun _ => 0 := List.map_congr_left fun k hk => by rw [if_neg]; intro e; subst e; exact hn.1 hk
      rw [this]
      have z : ∀ l : List Int, (l.map fun _ => (0 : Int)).sum = 0 := by intro l; induction l <;> simp_all
      rw [z]; omega
    · rw [if_neg h, ih hn.2 (by rw [List.mem_cons] at hx; rcases hx with e | e; exact absurd e h; exact e)]; omega
theorem sum_add (ks : List Int) (f g : Int → Int) : (ks.map fun k => f k + g k).sum = (ks.map f).sum + (ks.map g).sum := by
  induction ks with
  | nil => rfl
  | cons k ks ih => simp only [List.map_cons, List.sum_cons, ih]; omega
theorem sum_all (ps : List (List Int)) (ks : List Int) (hn : ks.Nodup) (h : ∀ p ∈ ps, keyOf p ∈ ks) : (ks.map (cnt ps)).sum = ps.length ∧ (ks.map (tot ps)).sum = (ps.map valOf).sum := by
  induction ps with
  | nil =>
    have z : ∀ l : List Int, (l.map fun _ => (0 : Int)).sum = 0 := by intro l; induction l <;> simp_all
    exact ⟨z ks, z ks⟩
  | cons p ps ih =>
    obtain ⟨i1, i2⟩ := ih fun q hq => h q (by simp [hq])
    have hp := h p (by simp)
    have e1 : ∀ k, cnt (p :: ps) k = cnt ps k + (if keyOf p = k then 1 else 0) := fun k => by
      rw [cnt_perm (List.perm_append_singleton p ps).symm k, cnt_snoc]
    have e2 : ∀ k, tot (p :: ps) k = tot ps k + (if keyOf p = k then valOf p else 0) := fun k => by
      rw [tot_perm (List.perm_append_singleton p ps).symm k, tot_snoc]
    constructor
    · rw [List.map_congr_left (fun k _ => e1 k), sum_add, i1, sum_one (fun _ => 1) hn hp, List.length_cons]; omega
    · rw [List.map_congr_left (fun k _ => e2 k), sum_add, i2, sum_one (fun _ => valOf p) hn hp, List.map_cons, List.sum_cons]; omega
theorem GroupR.sums {ps out : List (List Int)} (h : GroupR ps out) : (out.map fun r => r.getD 1 0).sum = ps.length ∧ (out.map fun r => r.getD 2 0).sum = (ps.map valOf).sum := by
  obtain ⟨ks, h1, h2, rfl⟩ := h
  have hnd : ks.Nodup := h1.imp fun h e => by omega
  have := sum_all ps ks hnd fun p hp => (h2 _).2 ⟨p, hp, rfl⟩
  rw [List.map_map, List.map_map]
  exact this
theorem cnt_pos {ps : List (List Int)} {k : Int} (h : ∃ p ∈ ps, keyOf p = k) : 1 ≤ cnt ps k := by
  obtain ⟨p, hp, e⟩ := h
  unfold cnt
  have : 0 < (ps.filter fun p => decide (keyOf p = k)).length := List.length_pos_of_mem (List.mem_filter.2 ⟨hp, by simp [e]⟩)
  omega
theorem GroupR.asc {ps out : List (List Int)} (h : GroupR ps out) {i : Nat} {r q : List Int} (hr : out[i]? = some r) (hq : out[i + 1]? = some q) : r.getD 0 0 < q.getD 0 0 := by
  obtain ⟨ks, h1, h2, rfl⟩ := h
  rw [List.getElem?_map] at hr hq
  obtain ⟨k, hk, rfl⟩ := Option.map_eq_some_iff.1 hr
  obtain ⟨l, hl, rfl⟩ := Option.map_eq_some_iff.1 hq
  have hil := (List.getElem?_eq_some_iff.1 hk).1
  have hjl := (List.getElem?_eq_some_iff.1 hl).1
  have e1 := (List.getElem?_eq_some_iff.1 hk).2
  have e2 := (List.getElem?_eq_some_iff.1 hl).2
  have := (List.pairwise_iff_getElem.1 h1) i (i + 1) hil hjl (by omega)
  rw [e1, e2] at this
  simpa [rowG] using this
theorem GroupR.total {ps : List (List Int)} : ∃ out, GroupR ps out := by
  have ex : ∀ n (ps : List (List Int)), ps.length = n → ∃ out, GroupR ps out := by
    intro n
    induction n with
    | zero => intro ps h; rw [List.eq_nil_of_length_eq_zero h]; exact ⟨[], GroupR.nil⟩
    | succ n ih =>
      intro ps h
      obtain ⟨qs, p, rfl⟩ : ∃ qs p, ps = qs ++ [p] := ⟨ps.dropLast, ps.getLast (by intro e; subst e; simp at h), (List.dropLast_concat_getLast _).symm⟩
      rw [List.length_append, List.length_singleton] at h
      obtain ⟨out, ho⟩ := ih qs (by omega)
      by_cases hk : ∃ q ∈ qs, keyOf q = keyOf p
      · have ho' := ho
        obtain ⟨ks, h1, h2, rfl⟩ := ho'
        have hm := (h2 _).2 hk
        obtain ⟨i, hi, e⟩ := List.getElem_of_mem hm
        exact ⟨_, ho.hit (i := i) (k := keyOf p) (by rw [List.getElem?_map, List.getElem?_eq_getElem hi, e]; rfl) rfl⟩
      · have ho' := ho
        obtain ⟨ks, h1, h2, rfl⟩ := ho'
        have hno : keyOf p ∉ ks := fun h => hk ((h2 _).1 h)
        obtain ⟨i, hi⟩ : ∃ i, ks.findIdx (fun k => decide (keyOf p ≤ k)) = i := ⟨_, rfl⟩
        have hil : i ≤ ks.length := by rw [← hi]; exact List.findIdx_le_length
        refine ⟨_, ho.miss (i := i) (by rw [List.length_map]; exact hil) ?_ ?_⟩
        · intro j r hj hr
          rw [List.getElem?_map] at hr
          obtain ⟨k, hk', rfl⟩ := Option.map_eq_some_iff.1 hr
          have := List.not_of_lt_findIdx (p := fun k => decide (keyOf p ≤ k)) (xs := ks) (i := j) (by omega)
          rw [(List.getElem?_eq_some_iff.1 hk').2] at this
          simp [keyOf, rowG] at this ⊢
          omega
        · intro r hr
          rw [List.getElem?_map] at hr
          obtain ⟨k, hk', rfl⟩ := Option.map_eq_some_iff.1 hr
          have hil' := (List.getElem?_eq_some_iff.1 hk').1
          have hg := List.findIdx_getElem (p := fun k => decide (keyOf p ≤ k)) (xs := ks) (w := by omega)
          simp only [hi, (List.getElem?_eq_some_iff.1 hk').2] at hg
          have hne : k ≠ keyOf p := fun e => hno (by rw [← e]; exact List.mem_of_getElem? hk')
          have hg' : keyOf p ≤ k := of_decide_eq_true hg
          show keyOf p < keyOf (rowG ps k)
          have : keyOf (rowG ps k) = k := rfl
          omega
  exact ex _ ps rfl
end Go.Proofs.YtijpdekcdejfmaaDoor
