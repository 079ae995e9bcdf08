/- tokens cover their text, and each is one token. Plain Lean. -/
import Derived.Test.YtnihhbmihbcgbaaDoorTokLaw
namespace Go.Proofs.YtnihhbmihbcgbaaDoor
open Go Go.RowKit
set_option maxRecDepth 100000

theorem take_tw {p : UInt8 → Bool} (L : List UInt8) : L.take (L.takeWhile p).length = L.takeWhile p := by
  induction L with
  | nil => rfl
  | cons a L ih =>
    by_cases h : p a = true
    · rw [List.takeWhile_cons_of_pos h, List.length_cons, List.take_succ_cons, ih]
    · rw [List.takeWhile_cons_of_neg h]; rfl
theorem tw_tw {p : UInt8 → Bool} (L : List UInt8) : (L.takeWhile p).takeWhile p = L.takeWhile p := by
  induction L with
  | nil => rfl
  | cons a L ih =>
    by_cases h : p a = true
    · rw [List.takeWhile_cons_of_pos h, List.takeWhile_cons_of_pos h, ih]
    · rw [List.takeWhile_cons_of_neg h]; rfl
theorem tw_all {p : UInt8 → Bool} (L : List UInt8) : ∀ x ∈ L.takeWhile p, p x = true := by
  induction L with
  | nil => intro x hx; simp at hx
  | cons a L ih =>
    intro x hx
    by_cases h : p a = true
    · rw [List.takeWhile_cons_of_pos h] at hx
      rcases List.mem_cons.1 hx with rfl | hx
      · exact h
      · exact ih x hx
    · rw [List.takeWhile_cons_of_neg h] at hx; simp at hx
theorem isL_not {x : UInt8} (h : isL x = true) : x ≠ 32 := by rintro rfl; revert h; decide
theorem isD_not {x : UInt8} (h : isD x = true) : x ≠ 32 := by rintro rfl; revert h; decide
theorem sign_one : ∀ g ∈ signs, tokSize g = g.length ∧ (∀ x ∈ g, x ≠ 32) := by decide
theorem signSize_some {L : List UInt8} {n : Nat} (h0 : 0 < n) : ∀ (S : List (List UInt8)), signSize L S = n → ∃ g ∈ S, L.take n = g ∧ n = g.length := by
  intro S
  induction S with
  | nil => intro h; simp [signSize] at h; omega
  | cons g r ih =>
    intro h
    unfold signSize at h
    split at h
    · rename_i hp
      have e : L.take g.length = g := by simpa [pfx] using hp
      exact ⟨g, List.mem_cons_self .., by rw [← h]; exact e, h.symm⟩
    · obtain ⟨g', h1, h2⟩ := ih h
      exact ⟨g', List.mem_cons_of_mem _ h1, h2⟩
theorem tok_self {c : UInt8} {r : List UInt8} {n : Nat} (h : tokSize (c :: r) = n) (h0 : 0 < n) : tokSize ((c :: r).take n) = n ∧ ∀ x ∈ (c :: r).take n, x ≠ 32 := by
  unfold tokSize at h
  split at h
  · rename_i hl
    rw [← h, take_tw]
    refine ⟨?_, fun x hx => isL_not (tw_all _ x hx)⟩
    unfold tokSize
    rw [tw_tw, if_pos hl]
  · rename_i hl
    have hc : isL c = false := by
      cases e : isL c
      · rfl
      · rw [List.takeWhile_cons_of_pos e] at hl; simp at hl
    split at h
    · rename_i hd
      by_cases hm : c = 45
      · subst hm
        have e : trimP (45 :: r) [45] = r := by unfold trimP; rw [if_pos (by simp [pfx])]; rfl
        rw [e] at h hd
        have hn : n = (r.takeWhile isD).length + 1 := by rw [← h, List.length_cons]; omega
        rw [hn, List.take_succ_cons, take_tw]
        refine ⟨?_, ?_⟩
        · unfold tokSize
          have e2 : trimP (45 :: r.takeWhile isD) [45] = r.takeWhile isD := by unfold trimP; rw [if_pos (by simp [pfx])]; rfl
          rw [List.takeWhile_cons_of_neg (by rw [hc]; decide), e2, tw_tw, if_neg (by simp), if_pos hd, List.length_cons]
          omega
        · intro x hx
          rcases List.mem_cons.1 hx with rfl | hx
          · decide
          · exact isD_not (tw_all _ x hx)
      · have hp : pfx (c :: r) [45] = false := by rw [pfx1]; exact decide_eq_false hm
        have e : trimP (c :: r) [45] = c :: r := by unfold trimP; rw [hp]; rfl
        rw [e] at h hd
        have hn : n = ((c :: r).takeWhile isD).length := by omega
        rw [hn, take_tw]
        have hcd : isD c = true := by
          cases e : isD c
          · rw [List.takeWhile_cons_of_neg (by rw [e]; decide)] at hd; simp at hd
          · rfl
        refine ⟨?_, fun x hx => isD_not (tw_all _ x hx)⟩
        have e3 : (c :: r).takeWhile isD = c :: r.takeWhile isD := List.takeWhile_cons_of_pos hcd
        unfold tokSize
        rw [e3]
        have hp2 : pfx (c :: r.takeWhile isD) [45] = false := by rw [pfx1]; exact decide_eq_false hm
        have e2 : trimP (c :: r.takeWhile isD) [45] = c :: r.takeWhile isD := by unfold trimP; rw [hp2]; rfl
        rw [List.takeWhile_cons_of_neg (by rw [hc]; decide), if_neg (by simp), e2, List.takeWhile_cons_of_pos hcd, tw_tw, if_pos (by simp)]
        omega
    · obtain ⟨g, hg, e1, e2⟩ := signSize_some h0 signs h
      rw [e1, e2]
      exact sign_one g hg
theorem toks_parts : ∀ (m : Nat) (L : List UInt8) (out r : List ByteArray), L.length ≤ m → toks L out = some r →
    ∃ T, r = out ++ T ∧ (T.map sb).flatten = L.filter (fun c => decide (c ≠ 32)) ∧ ∀ t ∈ T, toks (sb t) [] = some [t] ∧ t.size ≤ L.length := by
  intro m
  induction m with
  | zero =>
    intro L out r hL h
    obtain rfl : L = [] := List.eq_nil_of_length_eq_zero (by omega)
    rw [toks_nil] at h
    exact ⟨[], by simpa using h.symm, rfl, by simp⟩
  | succ m ih =>
    intro L out r hL h
    cases L with
    | nil =>
      rw [toks_nil] at h
      exact ⟨[], by simpa using h.symm, rfl, by simp⟩
    | cons c l =>
      by_cases hc : c = 32
      · subst hc
        rw [toks_space] at h
        obtain ⟨T, h1, h2, h3⟩ := ih l out r (by simpa using hL) h
        refine ⟨T, h1, ?_, fun t ht => ⟨(h3 t ht).1, by have := (h3 t ht).2; rw [List.length_cons]; omega⟩⟩
        rw [h2, List.filter_cons_of_neg (by decide)]
      · obtain ⟨n, hn⟩ : ∃ n, tokSize (c :: l) = n := ⟨_, rfl⟩
        by_cases h0 : n = 0
        · rw [toks_bad c l out hc (by rw [hn, h0])] at h
          cases h
        · have hpos : 0 < n := by omega
          have hle : n ≤ (c :: l).length := by rw [← hn]; exact tokSize_le _
          rw [toks_tok c l out hc n hn hpos] at h
          obtain ⟨T, h1, h2, h3⟩ := ih _ _ _ (by rw [List.length_drop]; simp at hL ⊢; omega) h
          obtain ⟨s1, s2⟩ := tok_self hn hpos
          obtain ⟨tl, htl⟩ : ∃ tl, (c :: l).take n = tl := ⟨_, rfl⟩
          have hsplit : c :: l = tl ++ (c :: l).drop n := by rw [← htl, List.take_append_drop]
          have hlen : tl.length = n := by rw [← htl, List.length_take]; omega
          rw [htl] at h1 s1 s2
          refine ⟨⟨tl.toArray⟩ :: T, by rw [h1]; simp, ?_, ?_⟩
          · have e : sb ⟨tl.toArray⟩ = tl := rfl
            rw [List.map_cons, List.flatten_cons, e, h2]
            rw [hsplit, List.filter_append]
            congr 1
            · symm
              rw [List.filter_eq_self]
              intro x hx
              simpa using s2 x hx
            · rw [← hsplit]
          · intro t ht
            rcases List.mem_cons.1 ht with rfl | ht
            · have e : sb ⟨tl.toArray⟩ = tl := rfl
              refine ⟨?_, ?_⟩
              · rw [e]
                cases htl2 : tl with
                | nil => rw [htl2] at hlen; simp at hlen; omega
                | cons c' l' =>
                  rw [htl2] at s1 s2 hlen
                  rw [toks_tok c' l' [] (s2 c' (List.mem_cons_self ..)) n s1 hpos, List.take_of_length_le (by omega), List.drop_of_length_le (by omega), toks_nil]
                  rfl
              · rw [← sb_len, e, hlen]; exact hle
            · have := h3 t ht
              refine ⟨this.1, ?_⟩
              have h4 := this.2
              rw [List.length_drop] at h4
              omega
theorem tokensOf_parts {s : ByteArray} {T : List ByteArray} (h : tokensOf s = some T) : s.size ≤ 1000 ∧ (T.map sb).flatten = (sb s).filter (fun c => decide (c ≠ 32)) ∧ ∀ t ∈ T, tokensOf t = some [t] ∧ t.size ≤ 1000 := by
  unfold tokensOf at h
  split at h
  · rename_i hs
    obtain ⟨T', h1, h2, h3⟩ := toks_parts _ (sb s) [] T (Nat.le_refl _) h
    simp at h1
    subst h1
    refine ⟨hs, h2, fun t ht => ?_⟩
    have := h3 t ht
    rw [sb_len] at this
    have hsz : t.size ≤ 1000 := by omega
    refine ⟨?_, hsz⟩
    unfold tokensOf
    rw [if_pos hsz]
    exact this.1
  · cases h
theorem flat_len (T : List ByteArray) (h : ∀ t ∈ T, 0 < t.size) : T.length ≤ ((T.map sb).flatten).length := by
  induction T with
  | nil => simp
  | cons t T ih =>
    have h1 := ih (fun t ht => h t (List.mem_cons_of_mem _ ht))
    have h2 := h t (List.mem_cons_self ..)
    rw [List.map_cons, List.flatten_cons, List.length_append, List.length_cons, sb_len]
    omega
theorem toks_count {s : ByteArray} {T : List ByteArray} (h : tokensOf s = some T) : T.length ≤ s.size := by
  obtain ⟨h1, h2, h3⟩ := tokensOf_parts h
  have h4 := flat_len T (fun t ht => by
    have h5 := (h3 t ht).1
    rcases Nat.eq_zero_or_pos t.size with h0 | h0
    · exfalso
      have e : sb t = [] := List.eq_nil_of_length_eq_zero (by rw [sb_len]; exact h0)
      unfold tokensOf at h5
      rw [if_pos (by omega), e, toks_nil] at h5
      simp at h5
    · exact h0)
  rw [h2] at h4
  have h6 := List.length_filter_le (fun c => decide (c ≠ 32)) (sb s)
  rw [sb_len] at h6
  omega
end Go.Proofs.YtnihhbmihbcgbaaDoor
