/- spec.DrawCatalogValid; laws.FnCatalogValid: the walk. -/
import Derived.Test.YtcgmcikceohdoaaDoorDrawCat
import Derived.Test.YtcgmcikceohdoaaDoorCatV
import Derived.Test.YtcgmcikceohdoaaDoorTypedA
import Derived.Test.YtcgmcikceohdoaaDoorSameL
namespace Go.Proofs.YtcgmcikceohdoaaDoor
open Go Go.RowKit
set_option maxRecDepth 100000

theorem drawCat_any (A : Option Addr) (n c : Nat) (xs : List UInt8) (w : World) (hx : Reads w w.heap.size 1 A n (byCells xs)) (hl : xs.length = n) (hn : n ≤ 1048576) (hc : n ≤ c) (hc2 : c ≤ maxLen) :
    Calls Tryd.prog 37 #[.slice A n c] w fun e w' => ∃ (v : Value) (es : List Ent), e = .returned v ∧ CatG w' w.heap.size v es ∧ es.length ≤ 5 ∧ Below w.heap.size w w' := by
  have HO := Lib.hid (open_c A n c xs w hx hl hn hc hc2)
  clear hx hl
  go_enter Tryd.func37, Tryd.ntmps37
  go_wp2_with fail
  refine HO.out.mono ?_
  rintro e w1 ⟨rfl, r1, b1, -⟩
  go_wp2_with fail
  refine (cat_c _ 10 2 _ (r1.less (by omega)) (by omega)).mono ?_
  rintro e w2 ⟨v, es, rfl, hC, hl, r2, t2⟩
  have B2 := t2.below b1 (Nat.le_refl _)
  have P := Lib.hid (And.intro (CatG.mk (hC.own.base_le b1.size) (fun e he => (hC.ent e he).low b1.size)) B2)
  clear hC t2 b1 r1 r2 B2 HO
  go_wp2_with fail
  go_ret
  exact ⟨_, es, rfl, P.out.1, hl, P.out.2⟩
/-- What operation j of the law's region may change. -/
def SC9 (j : Nat) (w w' : World) : Prop := w.heap.size ≤ w'.heap.size ∧ ∀ k, k < w.heap.size →
  (j = 6 → ¬ Blk w k 58 #[] → w'.heap[k]? = w.heap[k]?) ∧ (j = 11 → (∀ cs, ¬ Blk w k 58 cs) → w'.heap[k]? = w.heap[k]?) ∧ (j ≠ 6 ∧ j ≠ 11 → w'.heap[k]? = w.heap[k]?)
theorem SC9.same {j : Nat} {w w' : World} (hs : w.heap.size ≤ w'.heap.size) (h : ∀ k, k < w.heap.size → w'.heap[k]? = w.heap[k]?) : SC9 j w w' := ⟨hs, fun k hk => ⟨fun _ _ => h k hk, fun _ _ => h k hk, fun _ => h k hk⟩⟩
theorem SC9.six {w w' : World} (hs : w.heap.size ≤ w'.heap.size) (h : ∀ k, k < w.heap.size → ¬ Blk w k 58 #[] → w'.heap[k]? = w.heap[k]?) : SC9 6 w w' := ⟨hs, fun k hk => ⟨fun _ hb => h k hk hb, fun e => (by cases e), fun e => absurd rfl e.1⟩⟩
theorem SC9.eleven {w w' : World} (hs : w.heap.size ≤ w'.heap.size) (h : ∀ k, k < w.heap.size → (∀ cs, ¬ Blk w k 58 cs) → w'.heap[k]? = w.heap[k]?) : SC9 11 w w' := ⟨hs, fun k hk => ⟨fun e => (by cases e), fun _ hb => h k hk hb, fun e => absurd rfl e.2⟩⟩
def catV9 (z gL n4 c4 : Nat) (es : List Ent) (e0 : Ent) (A0 : Option Addr) (k0 : Nat) (B0 : Option Addr) (l0 : Nat) (i : Nat) (v : Value) (w : World) : Prop := match i with
  | 0 | 5 | 7 => v = .slice (some ⟨gL, 0, none⟩) n4 c4
  | 1 => v = .slice (if c4 = 1 then some ⟨gL, 0, none⟩ else some ⟨gL, 3, none⟩) (n4 - 1) (c4 - 1)
  | 2 | 3 => v = .bool true
  | 4 => ∃ g, v = .slice (some ⟨g, 0, none⟩) 0 0 ∧ Blk w g 58 #[] ∧ z ≤ g
  | 6 => (∃ A c, v = .slice A n4 c) ∧ w.ownsRow z 58 3 v n4 (catCells es)
  | 8 => v = .pointer (some ⟨gL, 0, none⟩)
  | 9 => v = .agg #[.string e0.s, .slice A0 e0.names.length k0, .slice B0 e0.rows.length l0]
  | 10 => ∃ g, v = .slice (some ⟨g, 0, none⟩) 1 1 ∧ z ≤ g ∧ Blk w g 58 #[.string e0.s, .slice A0 e0.names.length k0, .slice B0 e0.rows.length l0]
  | 11 => ∃ gA cA, v = .slice (some ⟨gA, 0, none⟩) (n4 + 1) cA ∧ w.ownsRow z 58 3 (.slice (some ⟨gA, 0, none⟩) (n4 + 1) cA) (n4 + 1) (catCells es ++ [.string e0.s, .slice A0 e0.names.length k0, .slice B0 e0.rows.length l0])
  | 12 => v = .bool false
  | 13 | 14 | 15 => v = .bool true
  | _ => True
theorem wp_value {P : Program} {o : Oper} {a : Act} {w : World} {K : Act → World → Prop} {Q : Exit → Act → World → Prop} {v : Value} (h : (execOp a.eval o).run P w = .ok (.value v) w) (hk : K (a.put o.dst v) w) : o.wp P a w K Q := by
  unfold Oper.wp
  rw [h]
  exact hk
theorem cat_drop {cs : List CatE} (h : catB cs = true) : catB (cs.drop 1) = true := by
  unfold catB at h ⊢
  rw [Bool.and_eq_true] at h ⊢
  refine ⟨?_, by have := h.2; simp at this ⊢; omega⟩
  rw [List.all_eq_true]
  intro k hk
  have hk := List.mem_range.1 hk
  rw [List.length_drop] at hk
  have h1 := List.all_eq_true.1 h.1 (k + 1) (List.mem_range.2 (by omega))
  obtain ⟨⟨s, names, rows⟩, hc⟩ : ∃ c, cs[k + 1]? = some c := ⟨_, List.getElem?_eq_getElem (by omega)⟩
  rw [catAt_some hc] at h1
  rw [catAt_some (s := s) (names := names) (rows := rows) (by rw [List.getElem?_drop, Nat.add_comm]; exact hc)]
  rw [Bool.and_eq_true, Bool.and_eq_true] at h1 ⊢
  refine ⟨h1.1, ?_, h1.2.2⟩
  have h2 := h1.2.1
  cases hw : hasW ((namesOf (cs.drop 1)).take k) s
  · rfl
  · exfalso
    obtain ⟨y, hy, e⟩ := List.any_eq_true.1 hw
    have hy' : y ∈ (namesOf cs).take (k + 1) := by
      unfold namesOf at hy ⊢
      rw [List.map_drop, List.take_drop] at hy
      rw [Nat.add_comm 1 k] at hy
      exact List.mem_of_mem_drop hy
    have : hasW ((namesOf cs).take (k + 1)) s = true := List.any_eq_true.2 ⟨y, hy', e⟩
    rw [this] at h2
    simp at h2
theorem cat_dup {cs : List CatE} {c0 : CatE} (h : cs[0]? = some c0) : catB (cs ++ [c0]) = false := by
  obtain ⟨s, names, rows⟩ := c0
  refine catB_bad (k := cs.length) (by simp) ?_
  rw [catAt_some (s := s) (names := names) (rows := rows) (by simp)]
  have hm : hasW ((namesOf (cs ++ [(s, names, rows)])).take cs.length) s = true := by
    refine List.any_eq_true.2 ⟨s, ?_, by simp⟩
    unfold namesOf
    rw [List.map_append, List.take_left' (by simp)]
    exact List.mem_map.2 ⟨_, List.mem_of_getElem? h, rfl⟩
  rw [hm]
  simp
theorem catR_drop {w : World} {gL n c : Nat} {cs : List CatE} (h : CatR w (some ⟨gL, 0, none⟩) n cs) (hc : n ≤ c) : CatR w (if c = 1 then some ⟨gL, 0, none⟩ else some ⟨gL, 3, none⟩) (n - 1) (cs.drop 1) := by
  refine ⟨by rw [List.length_drop, h.1], fun k cc hk => ?_⟩
  rw [List.getElem?_drop, Nat.add_comm] at hk
  have hl := (List.getElem?_eq_some_iff.1 hk).1
  have := h.1
  obtain ⟨ad, Ak, ck, Bk, dk, e, h1, h2, h3, h4⟩ := h.2 (k + 1) cc hk
  injection e with e
  subst e
  have hne : ¬ c = 1 := by omega
  rw [if_neg hne]
  have ea : (⟨gL, 0, none⟩ : Addr).add ((k + 1) * 3) = (⟨gL, 3, none⟩ : Addr).add (k * 3) := by
    have : (⟨gL, 3, none⟩ : Addr) = (⟨gL, 0, none⟩ : Addr).add 3 := (addr_zero_add gL 3).symm
    rw [this, add_of_add]
    congr 1
    omega
  rw [ea] at h1 h2 h3
  exact ⟨_, Ak, ck, Bk, dk, rfl, h1, h2, h3, h4⟩
theorem ent_small {w : World} {lo : Nat} {e : Ent} (h : EntG w lo e) : SmallE e.toE := ⟨by have := h.size; show e.s.size ≤ _; omega, ⟨by have := h.drawn.n1; show e.names.length ≤ _; omega, fun x hx => by have := h.drawn.n2 x hx; omega, by have := h.drawn.r1; show e.rows.length ≤ _; omega, fun r hr => by have := h.drawn.r2 r hr; omega⟩⟩
set_option maxHeartbeats 1600000 in
theorem fnCat_walk {w : World} (A : Option Addr) (n c : Nat) (xs : List UInt8) (hl : xs.length = n) (hc : n ≤ c) (hm : c ≤ maxLen) (hx : Reads w w.heap.size 1 A n (byCells xs))
    (RA : Option Addr) (RC : Nat) (hv : w.cell? ⟨0, 0, none⟩ = some (.slice RA 13 RC)) (hr : Reads w w.heap.size 1 RA 13 (stCells resW)) :
    Calls Tryd.prog 13 #[.slice A n c] w fun e w' => e = .returned (.bool true) ∧ Below w.heap.size w w' := by
  obtain ⟨i0, hi0, hz0, hz1, hz2'⟩ := info_parts infoNamed
  by_cases hbig : (1048576 : Int) < (n : Int)
  · clear hx hr
    go_enter Tryd.func13, Tryd.ntmps13
    go_wp2_with fail
    go_ret
    exact ⟨rfl, Below.refl _ _⟩
  · have HD := Lib.hid (drawCat_any A n c xs w hx hl (by omega) hc hm)
    have HV := Lib.hid (fun (w' : World) (hb : Below w.heap.size w w') => alive_yes RA RC w' (below_keep hb hv) ((hr.below hb).more hb.size))
    have HI := Lib.hid (fun (q : Bool) (A : Option Addr) (n c : Nat) (cs : List CatE) (w' : World) (hb : Below w.heap.size w w') => implCat_any q A n c cs RA RC w' (below_keep hb hv) ((hr.below hb).more hb.size))
    clear hx hr hl hv
    go_enter Tryd.func13, Tryd.ntmps13
    go_wp2_with fail
    refine HD.out.mono ?_
    rintro e w1 ⟨v, es, rfl, hC, hle, b1⟩
    obtain ⟨AL, c4, rfl, hc4, hc4', hA4⟩ := own_form' hC.own
    obtain ⟨n4, hn4⟩ : ∃ n4, es.length = n4 := ⟨_, rfl⟩
    rw [hn4] at hC hc4 hA4 ⊢
    obtain ⟨q, hq⟩ : ∃ q, catB (es.map Ent.toE) = q := ⟨_, rfl⟩
    have SM : ∀ cc ∈ es.map Ent.toE, SmallE cc := fun cc h => by
      obtain ⟨e, he, rfl⟩ := List.mem_map.1 h
      exact ent_small (hC.ent e he)
    have I1 := Lib.hid (HI.out q AL n4 c4 _ w1 b1 (hC.reads hn4) (by omega) SM hq)
    have S1 := Lib.hid (fun (w' : World) (hb : Below w1.heap.size w1 w') => specCat_any q AL n4 c4 _ w' ((hC.below hb).reads hn4) (by omega) SM hq)
    have HC := Lib.hid hC
    have HQ := Lib.hid hq
    have HN4 := Lib.hid hn4
    have HSM := Lib.hid SM
    clear hC hq hn4 SM
    go_wp2_with fail
    refine I1.out.mono ?_
    rintro e w5 ⟨rfl, b5⟩
    have S5 := Lib.hid (S1.out w5 b5)
    have B5 := b1.trans (b5.mono b1.size)
    go_wp2_with fail
    refine S5.out.mono ?_
    rintro e w6 ⟨rfl, b6⟩
    have b16 := b5.trans (b6.mono b5.size)
    have B6 := B5.trans (b6.mono B5.size)
    have hqq : (q != q) = false := by cases q <;> rfl
    have HC6 := Lib.hid (HC.out.below b16)
    have HB6 := Lib.hid B6
    have AL6 := Lib.hid (HV.out w6 B6)
    clear HC I1 S1 S5 b1 b5 b6 B5 b16 B6 HD
    by_cases hgo : q = true ∧ 0 < n4
    · obtain ⟨rfl, hn1⟩ := hgo
      have hn0 : (0 : Int) < (n4 : Int) := by omega
      have hne : ¬ n4 = 0 := by omega
      obtain ⟨gL, rfl⟩ : ∃ gL, AL = some ⟨gL, 0, none⟩ := by
        have ho := HC6.out.own
        rcases own_cases ho with ⟨_, h0, _⟩ | ⟨g, cap, e⟩
        · have := HN4.out; omega
        · simp at e; exact ⟨g, e.1⟩
      have hn5 : n4 ≤ 5 := by have := HN4.out; omega
      obtain ⟨e0, he0⟩ : ∃ e0, es[0]? = some e0 := ⟨_, List.getElem?_eq_getElem (by have := HN4.out; omega)⟩
      have hE0 := HC6.out.ent e0 (List.mem_of_getElem? he0)
      obtain ⟨A0, k0, B0, l0, f1, f2⟩ := hE0.tab.form
      have ho := HC6.out.own
      rw [HN4.out] at ho
      have RL := Reads.of_own ho
      obtain ⟨ad, hA, _, hcell⟩ := RL.2 (by omega)
      injection hA with hA
      subst hA
      have x0 := hcell 0 (.string e0.s) (by rw [show (0 : Nat) = 0 * 3 + 0 from rfl, catCells_at es 0 0 e0 he0 (by omega)]; rfl)
      have x1 := hcell 1 e0.nv (by rw [show (1 : Nat) = 0 * 3 + 1 from rfl, catCells_at es 0 1 e0 he0 (by omega)]; rfl)
      have x2 := hcell 2 e0.rv (by rw [show (2 : Nat) = 0 * 3 + 2 from rfl, catCells_at es 0 2 e0 he0 (by omega)]; rfl)
      rw [addr_zero_add] at x0 x1 x2
      rw [f1] at x1
      rw [f2] at x2
      have hvone : ∀ u ∈ catCells es, u.oneCell' = true := by
        intro u hu
        unfold catCells at hu
        obtain ⟨e, he, hu⟩ := List.mem_flatMap.1 hu
        obtain ⟨A', k', B', l', g1, g2⟩ := (HC6.out.ent e he).tab.form
        unfold entCells at hu
        rw [g1, g2] at hu
        simp at hu
        rcases hu with rfl | rfl | rfl <;> rfl
      have hcat0 : (es.map Ent.toE)[0]? = some e0.toE := by rw [List.getElem?_map, he0]; rfl
      have I1 := Lib.hid (fun (w' : World) (hb : Below w6.heap.size w6 w') => HI.out true (if c4 = 1 then some ⟨gL, 0, none⟩ else some ⟨gL, 3, none⟩) (n4 - 1) (c4 - 1) ((es.map Ent.toE).drop 1) w' (HB6.out.trans (hb.mono HB6.out.size)) (catR_drop ((HC6.out.below hb).reads HN4.out) hc4) (by omega) (fun cc h => HSM.out cc (List.mem_of_mem_drop h)) (cat_drop HQ.out))
      have I2 := Lib.hid (fun (w' : World) (hb : Below w6.heap.size w6 w') (gA cA : Nat) (hoA : w'.ownsRow w6.heap.size 58 3 (.slice (some ⟨gA, 0, none⟩) (n4 + 1) cA) (n4 + 1) (catCells es ++ [.string e0.s, .slice A0 e0.names.length k0, .slice B0 e0.rows.length l0])) =>
        HI.out false (some ⟨gA, 0, none⟩) (n4 + 1) cA ((es ++ [e0]).map Ent.toE) w' (HB6.out.trans (hb.mono HB6.out.size)) (CatG.reads (lo := w.heap.size) (es := es ++ [e0]) ⟨by rw [List.length_append, HN4.out, catCells_append]; rw [← f1, ← f2] at hoA; exact hoA.base_le HB6.out.size, fun e he => by
          rcases List.mem_append.1 he with h | h
          · exact (HC6.out.ent e h).below hb
          · simp at h; subst h; exact hE0.below hb⟩ (by rw [List.length_append, HN4.out]; rfl)) (by omega) (fun cc h => by
          rw [List.map_append] at h
          rcases List.mem_append.1 h with h | h
          · exact HSM.out cc h
          · simp at h; subst h; exact ent_small hE0) (by rw [List.map_append]; exact cat_dup hcat0))
      clear ho hcell f1 f2 hcat0
      go_wp2_with fail
      refine wp_region_typedG (by kernel_rfl) (fun i => decide (i = 15)) (lift <| catV9 w6.heap.size gL n4 c4 es e0 A0 k0 B0 l0) SC9 (fun _ w' => Below w6.heap.size w6 w') (by kernel_rfl) ?_ ?_ ?_ ?_ (by kernel_rfl) ?_
      · refine stabS ?_
        intro i j v wP wQ hij hna hlv hv hs
        have same : j ≠ 6 → j ≠ 11 → ∀ k, k < wP.heap.size → wQ.heap[k]? = wP.heap[k]? := fun h6 h11 k hk => (hs.2 k hk).2.2 ⟨h6, h11⟩
        unfold catV9 at hv ⊢
        split at hv <;> first | exact hv | skip
        · by_cases h6 : j = 6
          · subst h6
            exact absurd hlv (by rw [show (decide (4 = 15) || liveB _ 6 4) = false by kernel_rfl]; simp)
          by_cases h11 : j = 11
          · subst h11
            exact absurd hlv (by rw [show (decide (4 = 15) || liveB _ 11 4) = false by kernel_rfl]; simp)
          obtain ⟨g, e, hb, hz⟩ := hv
          exact ⟨g, e, (same h6 h11 g hb.lt).trans hb, hz⟩
        · by_cases h6 : j = 6
          · exact absurd h6.symm hij
          by_cases h11 : j = 11
          · subst h11
            exact absurd hlv (by rw [show (decide (6 = 15) || liveB _ 11 6) = false by kernel_rfl]; simp)
          obtain ⟨hsl, ho⟩ := hv
          exact ⟨hsl, own_block ho (fun g hg => same h6 h11 g (ho.lt g hg).2)⟩
        · by_cases h6 : j = 6
          · obtain ⟨g, e, hz, hb⟩ := hv
            subst h6
            refine ⟨g, e, hz, ((hs.2 g hb.lt).1 rfl (fun hb' => ?_)).trans hb⟩
            unfold Blk at hb hb'
            rw [hb] at hb'
            simp at hb'
          by_cases h11 : j = 11
          · subst h11
            exact absurd hlv (by rw [show (decide (10 = 15) || liveB _ 11 10) = false by kernel_rfl]; simp)
          obtain ⟨g, e, hz, hb⟩ := hv
          exact ⟨g, e, hz, (same h6 h11 g hb.lt).trans hb⟩
        · by_cases h6 : j = 6
          · subst h6
            exact absurd rfl (hna _ rfl ⟨6, .data⟩ (by simp) rfl)
          by_cases h11 : j = 11
          · exact absurd h11.symm hij
          obtain ⟨gA, cA, e, ho⟩ := hv
          exact ⟨gA, cA, e, own_block ho (fun g hg => same h6 h11 g (ho.lt g hg).2)⟩
      · exact dst_lt (n := 39) (by kernel_rfl)
      · exact (Below.refl _ _).drew
      · refine ok_all ⟨?_, ?_, ?_, ?_, ?_, ?_, ?_, ?_, ?_, ?_, ?_, ?_, ?_, ?_, ?_, ?_, trivial⟩
        · refine OpOk.toG rfl ?_
          intro f listed a w' hl hc hs hr hh
          have h3 : a.tmps.getD 3 undef = .slice (some ⟨gL, 0, none⟩) n4 c4 := hr 3 (not_dst (by kernel_rfl))
          exact op_move rfl ⟨_, rfl, h3, SC9.same (Nat.le_refl _) (fun _ _ => rfl), hc⟩
        · refine OpOk.toG rfl ?_
          intro f listed a w' hl hc hs hr hh
          obtain ⟨_, rfl, h1⟩ := hh ⟨0, .data⟩ (by simp) rfl
          have h1 := h1 24 rfl
          have h1' : a.tmps[24]?.getD undef = .slice (some ⟨gL, 0, none⟩) n4 c4 := by simpa using h1
          refine wp_value (v := (.slice (if c4 = 1 then some ⟨gL, 0, none⟩ else some ⟨gL, 3, none⟩) (n4 - 1) (c4 - 1))) ?_ ⟨_, rfl, rfl, SC9.same (Nat.le_refl _) (fun _ _ => rfl), hc⟩
          simp [execOp, go_sem, Act.eval, h1']
          intro h
          exact absurd h (by omega)
        · refine OpOk.toG rfl ?_
          intro f listed a w' hl hc hs hr hh
          obtain ⟨_, rfl, h1⟩ := hh ⟨1, .data⟩ (by simp) rfl
          have h1 := h1 25 rfl
          refine op_call Tryd.func38 (by kernel_rfl) rfl rfl ?_
          rw [show #[Operand.tmp 25].map a.eval = #[(.slice (if c4 = 1 then some ⟨gL, 0, none⟩ else some ⟨gL, 3, none⟩) (n4 - 1) (c4 - 1))] by simp [Act.eval]; simpa using h1]
          refine (I1.out w' hc).mono ?_
          rintro e w8 ⟨rfl, hb8⟩
          exact ⟨_, rfl, _, rfl, rfl, SC9.same hb8.size (fun k hk => hb8.block k hk), hc.trans (hb8.mono hc.size)⟩
        · refine OpOk.toG rfl ?_
          intro f listed a w' hl hc hs hr hh
          obtain ⟨_, rfl, h1⟩ := hh ⟨2, .data⟩ (by simp) rfl
          have h1 := h1 26 rfl
          exact op_move rfl ⟨_, rfl, h1, SC9.same (Nat.le_refl _) (fun _ _ => rfl), hc⟩
        · intro f listed a w' hl hc hs hr hh
          obtain ⟨_, rfl, hg0⟩ := hh ⟨3, .guard⟩ (by simp) rfl
          have hg0 := hg0 27 rfl
          have hy := hl.yield (j := 3) rfl hg0
          refine ⟨fun _ => ?_, fun hw => ?_⟩
          rotate_left
          · change (yielded _ _ _ == some _) = false at hw
            rw [hy] at hw
            cases hw
          have hz := hc.size
          unfold Oper.wp
          simp [execOp, go_sem, Oper.upon]
          refine ⟨_, rfl, ⟨w'.heap.size, rfl, Blk.new w' 58 #[], hz⟩, SC9.same (by simp) (fun k hk => Below.heap_alloc w' _ k hk), hc.alloc hz _⟩
        · intro f listed a w' hl hc hs hr hh
          obtain ⟨_, rfl, hg0⟩ := hh ⟨3, .guard⟩ (by simp) rfl
          have hg0 := hg0 27 rfl
          have hy := hl.yield (j := 3) rfl hg0
          refine ⟨fun _ => ?_, fun hw => ?_⟩
          rotate_left
          · change (yielded _ _ _ == some _) = false at hw
            rw [hy] at hw
            cases hw
          have h3 : a.tmps.getD 3 undef = .slice (some ⟨gL, 0, none⟩) n4 c4 := hr 3 (not_dst (by kernel_rfl))
          exact op_move rfl ⟨_, rfl, h3, SC9.same (Nat.le_refl _) (fun _ _ => rfl), hc⟩
        · intro f listed a w' hl hc hs hr hh
          obtain ⟨_, rfl, hg0⟩ := hh ⟨3, .guard⟩ (by simp) rfl
          have hg0 := hg0 27 rfl
          have hy := hl.yield (j := 3) rfl hg0
          refine ⟨fun _ => ?_, fun hw => ?_⟩
          rotate_left
          · change (yielded _ _ _ == some _) = false at hw
            rw [hy] at hw
            cases hw
          obtain ⟨_, ⟨g2, rfl, hb2, hz2⟩, h1⟩ := hh ⟨4, .data⟩ (by simp) rfl
          have h1 := h1 28 rfl
          obtain ⟨_, rfl, h2⟩ := hh ⟨5, .data⟩ (by simp) rfl
          have h2 := h2 29 rfl
          have hz := hc.size
          have own2 : w'.ownsRow w6.heap.size 58 3 (.slice (some ⟨g2, 0, none⟩) 0 0) 0 [] := ⟨rfl, .inr ⟨g2, 0, #[], rfl, hz2, hb2, Nat.le_refl _, by unfold maxLen; omega, rfl, rfl⟩⟩
          refine wp_append_any w' (.tmp 28) (.tmp 29) 54 rfl w6.heap.size 58 i0 _ 3 64 Tryd.underlying54 hi0 hz0 hz1 hz2' rfl (by decide) _ _ _ h1 own2 _ (some ⟨gL, 0, none⟩) n4 c4 (catCells es) h2 (RL.below hc) hvone (by unfold maxLen; omega) (by omega) hz (fun v' wA ho hg hat => ?_)
          obtain ⟨A', c', rfl, _, _⟩ := own_form ho
          refine ⟨_, rfl, ?_, SC9.six hg.size (fun k hk h => ?_), hc.grown hg hz (fun g e => (own2.lt g e).1)⟩
          · refine ⟨⟨A', c', by rw [Nat.zero_add]⟩, ?_⟩
            have := ho
            rw [Nat.zero_add, List.nil_append] at this
            rw [Nat.zero_add]
            exact this
          · refine hg.block k hk (fun e => h ?_)
            simp [Value.ownBlock] at e
            subst e
            exact hb2
        · intro f listed a w' hl hc hs hr hh
          obtain ⟨_, rfl, hg0⟩ := hh ⟨3, .guard⟩ (by simp) rfl
          have hg0 := hg0 27 rfl
          have hy := hl.yield (j := 3) rfl hg0
          refine ⟨fun _ => ?_, fun hw => ?_⟩
          rotate_left
          · change (yielded _ _ _ == some _) = false at hw
            rw [hy] at hw
            cases hw
          have h3 : a.tmps.getD 3 undef = .slice (some ⟨gL, 0, none⟩) n4 c4 := hr 3 (not_dst (by kernel_rfl))
          exact op_move rfl ⟨_, rfl, h3, SC9.same (Nat.le_refl _) (fun _ _ => rfl), hc⟩
        · intro f listed a w' hl hc hs hr hh
          obtain ⟨_, rfl, hg0⟩ := hh ⟨3, .guard⟩ (by simp) rfl
          have hg0 := hg0 27 rfl
          have hy := hl.yield (j := 3) rfl hg0
          refine ⟨fun _ => ?_, fun hw => ?_⟩
          rotate_left
          · change (yielded _ _ _ == some _) = false at hw
            rw [hy] at hw
            cases hw
          obtain ⟨_, rfl, h1⟩ := hh ⟨7, .data⟩ (by simp) rfl
          have h1 := h1 31 rfl
          have h1' : a.tmps[31]?.getD undef = .slice (some ⟨gL, 0, none⟩) n4 c4 := by simpa using h1
          refine wp_value (v := .pointer (some ⟨gL, 0, none⟩)) (by simp [execOp, go_sem, Act.eval, h1', hn0, hn1]) ⟨_, rfl, rfl, SC9.same (Nat.le_refl _) (fun _ _ => rfl), hc⟩
        · intro f listed a w' hl hc hs hr hh
          obtain ⟨_, rfl, hg0⟩ := hh ⟨3, .guard⟩ (by simp) rfl
          have hg0 := hg0 27 rfl
          have hy := hl.yield (j := 3) rfl hg0
          refine ⟨fun _ => ?_, fun hw => ?_⟩
          rotate_left
          · change (yielded _ _ _ == some _) = false at hw
            rw [hy] at hw
            cases hw
          obtain ⟨_, rfl, h1⟩ := hh ⟨8, .data⟩ (by simp) rfl
          have h1 := h1 32 rfl
          have x0' := below_keep hc x0
          have x1' := below_keep hc x1
          have x2' := below_keep hc x2
          have h1' : a.tmps[32]?.getD undef = .pointer (some ⟨gL, 0, none⟩) := by simpa using h1
          refine wp_value (v := .agg #[.string e0.s, .slice A0 e0.names.length k0, .slice B0 e0.rows.length l0]) (by simp [execOp, go_sem, Act.eval, h1', x0', x1', x2']) ⟨_, rfl, rfl, SC9.same (Nat.le_refl _) (fun _ _ => rfl), hc⟩
        · intro f listed a w' hl hc hs hr hh
          obtain ⟨_, rfl, hg0⟩ := hh ⟨3, .guard⟩ (by simp) rfl
          have hg0 := hg0 27 rfl
          have hy := hl.yield (j := 3) rfl hg0
          refine ⟨fun _ => ?_, fun hw => ?_⟩
          rotate_left
          · change (yielded _ _ _ == some _) = false at hw
            rw [hy] at hw
            cases hw
          obtain ⟨_, rfl, h1⟩ := hh ⟨9, .data⟩ (by simp) rfl
          have h1 := h1 33 rfl
          have hz := hc.size
          refine wp_buildSlice 54 58 1 _ rfl #[.string e0.s, .slice A0 e0.names.length k0, .slice B0 e0.rows.length l0] i0 _ Tryd.underlying54 hi0 hz0 (by rw [hz1]; decide) (by rw [hz1]; decide) ?_ ⟨_, rfl, ⟨w'.heap.size, rfl, by omega, Blk.new w' 58 #[.string e0.s, .slice A0 e0.names.length k0, .slice B0 e0.rows.length l0]⟩, SC9.same (by simp) (fun k hk => Below.heap_alloc w' _ k hk), hc.alloc hz _⟩
          rw [hz1]
          simp only [List.map_toArray, List.map_cons, List.map_nil, Act.eval, h1]
          kernel_rfl
        · intro f listed a w' hl hc hs hr hh
          obtain ⟨_, rfl, hg0⟩ := hh ⟨3, .guard⟩ (by simp) rfl
          have hg0 := hg0 27 rfl
          have hy := hl.yield (j := 3) rfl hg0
          refine ⟨fun _ => ?_, fun hw => ?_⟩
          rotate_left
          · change (yielded _ _ _ == some _) = false at hw
            rw [hy] at hw
            cases hw
          obtain ⟨_, ⟨⟨A5', c5', rfl⟩, ho⟩, h1⟩ := hh ⟨6, .data⟩ (by simp) rfl
          have h1 := h1 30 rfl
          obtain ⟨_, ⟨g6, rfl, hg6, hb6⟩, h2⟩ := hh ⟨10, .data⟩ (by simp) rfl
          have h2 := h2 34 rfl
          have hz := hc.size
          refine wp_append_lies _ (.tmp 30) (.tmp 34) 54 rfl w6.heap.size 58 i0 _ 3 64 Tryd.underlying54 hi0 hz0 hz1 hz2' rfl (by decide) _ _ _ h1 ho ⟨g6, 0, none⟩ 1 1 [.string e0.s, .slice A0 e0.names.length k0, .slice B0 e0.rows.length l0] h2 rfl (blk_cells hb6) (oneCells rfl) (by omega) (by unfold maxLen; omega) (by omega) (by omega) _ rfl (fun gA cA wA ho' hg hd hgl => ?_)
          refine ⟨_, rfl, ⟨gA, cA, rfl, ho'⟩, SC9.eleven hg.size (fun k hk h => ?_), hc.grown hg hz (fun g e => (ho.lt g e).1)⟩
          refine hg.block k hk (fun e => ?_)
          rcases ho.2 with ⟨e0', _⟩ | ⟨g', cap', cur', e0', _, hh', _⟩
          · rw [e0'] at e; simp [Value.ownBlock] at e
          · rw [e0'] at e
            simp [Value.ownBlock] at e
            subst e
            exact h cur' hh'
        · intro f listed a w' hl hc hs hr hh
          obtain ⟨_, rfl, hg0⟩ := hh ⟨3, .guard⟩ (by simp) rfl
          have hg0 := hg0 27 rfl
          have hy := hl.yield (j := 3) rfl hg0
          refine ⟨fun _ => ?_, fun hw => ?_⟩
          rotate_left
          · change (yielded _ _ _ == some _) = false at hw
            rw [hy] at hw
            cases hw
          obtain ⟨_, ⟨gA, cA, rfl, ho⟩, h1⟩ := hh ⟨11, .data⟩ (by simp) rfl
          have h1 := h1 35 rfl
          refine op_call Tryd.func38 (by kernel_rfl) rfl rfl ?_
          rw [show #[Operand.tmp 35].map a.eval = #[.slice (some ⟨gA, 0, none⟩) (n4 + 1) cA] by simp [Act.eval]; simpa using h1]
          refine (I2.out w' hc gA cA ho).mono ?_
          rintro e w8 ⟨rfl, hb8⟩
          exact ⟨_, rfl, _, rfl, rfl, SC9.same hb8.size (fun k hk => hb8.block k hk), hc.trans (hb8.mono hc.size)⟩
        · intro f listed a w' hl hc hs hr hh
          obtain ⟨_, rfl, hg0⟩ := hh ⟨3, .guard⟩ (by simp) rfl
          have hg0 := hg0 27 rfl
          have hy := hl.yield (j := 3) rfl hg0
          refine ⟨fun _ => ?_, fun hw => ?_⟩
          rotate_left
          · change (yielded _ _ _ == some _) = false at hw
            rw [hy] at hw
            cases hw
          obtain ⟨_, rfl, h1⟩ := hh ⟨12, .data⟩ (by simp) rfl
          have h1 := h1 36 rfl
          have h1' : a.tmps[36]?.getD undef = .bool false := by simpa using h1
          exact wp_value (v := .bool true) (by simp [execOp, go_sem, Act.eval, h1']) ⟨_, rfl, rfl, SC9.same (Nat.le_refl _) (fun _ _ => rfl), hc⟩
        · refine OpOk.toG rfl ?_
          intro f listed a w' hl hc hs hr hh
          obtain ⟨_, rfl, h1⟩ := hh ⟨3, .data⟩ (by simp) rfl
          have h1 := h1 27 rfl
          obtain ⟨_, rfl, h2⟩ := hh ⟨13, .data⟩ (by simp) rfl
          have h2 := h2 37 rfl
          have h1' : a.tmps[27]?.getD undef = .bool true := by simpa using h1
          have h2' : a.tmps[37]?.getD undef = .bool true := by simpa using h2
          exact wp_value (v := .bool true) (by simp [execOp, go_sem, Act.eval, h1', h2']) ⟨_, rfl, rfl, SC9.same (Nat.le_refl _) (fun _ _ => rfl), hc⟩
        · refine OpOk.toG rfl ?_
          intro f listed a w' hl hc hs hr hh
          obtain ⟨_, rfl, h1⟩ := hh ⟨14, .data⟩ (by simp) rfl
          have h1 := h1 38 rfl
          exact op_assign rfl ⟨_, rfl, h1, SC9.same (Nat.le_refl _) (fun _ _ => rfl), hc⟩
      · intro a w7 hs hd' hr' hh hc'
        obtain ⟨_, rfl, h4⟩ := hh 15 (by decide) rfl
        have h2 : a.tmps.getD 2 undef = .bool true := h4 2 rfl
        obtain ⟨tm, df⟩ := a
        obtain rfl : df = [] := hd'
        clear hr' hh hs
        go_wp2_with fail
        refine bodyPost_ret (results_tmp (by rfl) _ _ _) rfl ⟨?_, HB6.out.trans (hc'.mono HB6.out.size)⟩
        exact congrArg Ending.returned h2
    · have hgo' : q = false ∨ n4 = 0 := by
        cases q
        · exact .inl rfl
        · exact .inr (by
            rcases Nat.eq_zero_or_pos n4 with h | h
            · exact h
            · exact absurd ⟨rfl, h⟩ hgo)
      clear hgo
      rcases hgo' with rfl | rfl
      · go_wp2_with fail
        refine AL6.out.mono ?_
        rintro e w' ⟨rfl, rfl⟩
        go_wp2_with fail
        go_ret
        exact ⟨rfl, HB6.out⟩
      · cases q
        · go_wp2_with fail
          refine AL6.out.mono ?_
          rintro e w' ⟨rfl, rfl⟩
          go_wp2_with fail
          go_ret
          exact ⟨rfl, HB6.out⟩
        · go_wp2_with fail
          refine AL6.out.mono ?_
          rintro e w' ⟨rfl, rfl⟩
          go_wp2_with fail
          go_ret
          exact ⟨rfl, HB6.out⟩
end Go.Proofs.YtcgmcikceohdoaaDoor
