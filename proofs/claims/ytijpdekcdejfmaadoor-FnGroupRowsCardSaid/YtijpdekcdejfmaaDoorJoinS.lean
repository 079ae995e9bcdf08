/- spec.JoinRows. -/
import Derived.Test.YtijpdekcdejfmaaDoorJoin
import Derived.Test.YtijpdekcdejfmaaDoorLast
import Derived.Deep.DeepCutAuto
namespace Go.Proofs.YtijpdekcdejfmaaDoor
open Go Go.RowKit
set_option maxRecDepth 100000
/-- A table under construction whose names lie above its block: rows from Z on. -/
structure HalfZ (w1 w : World) (lo T Z : Nat) (t : TypeId) (cs : Array Value) (nv rv : Value) (names : List ByteArray) (vs : List Value) (rows : List (List Int)) : Prop where
  blk : Blk w T t cs
  own : w.ownsRow lo 9 1 nv names.length (stCells names)
  top : ∀ g, nv.ownBlock = some g → g < Z ∧ g ≠ T
  tz : T < Z
  zs : Z ≤ w.heap.size
  rows : RowsV w Z w.heap.size rv vs rows
  below : Below w1.heap.size w1 w
  base : w1.heap.size ≤ T
section
variable {w1 w w' w6 : World} {lo T Z : Nat} {t t' : TypeId} {cs : Array Value} {nv rv u v6 : Value} {names : List ByteArray} {vs : List Value} {rows : List (List Int)} {r : List Int}
theorem HalfZ.drew (h : HalfZ w1 w lo T Z t cs nv rv names vs rows) : HalfZ w1 w.drew lo T Z t cs nv rv names vs rows :=
  ⟨h.blk.drew, h.own.drew, h.top, h.tz, h.zs, h.rows.drew, h.below.drew, h.base⟩
theorem HalfZ.rvge (h : HalfZ w1 w lo T Z t cs nv rv names vs rows) : ∀ g, rv.ownBlock = some g → Z ≤ g := fun g e => (h.rows.own.lt g e).1
theorem HalfZ.go (h : HalfZ w1 w lo T Z t cs nv rv names vs rows) (hb : Below w.heap.size w w') : HalfZ w1 w' lo T Z t cs nv rv names vs rows :=
  ⟨h.blk.below hb h.blk.lt, own_below h.own hb, h.top, h.tz, Nat.le_trans h.zs hb.size, (h.rows.below hb).wide hb.size, h.below.trans (hb.mono h.below.size), h.base⟩
/-- A row of the call's own is appended, and the field stored. -/
theorem HalfZ.push (h : HalfZ w1 w lo T Z t cs nv rv names vs rows) (ou : w'.ownsRow w.heap.size 3 1 u r.length (inCells r)) (hb : Below w.heap.size w w')
    (ho6 : w6.ownsRow Z 40 1 v6 (rows.length + 1) (vs ++ [u])) (hg6 : (w'.alloc (.cells #[u] t')).grownBy w6 rv.ownBlock) (hd6 : v6.ownBlock = rv.ownBlock ∨ v6.ownBlock = some (w'.alloc (.cells #[u] t')).heap.size) :
    HalfZ w1 (w6.setCell ⟨T, 1, none⟩ v6) lo T Z t (cs.setIfInBounds 1 v6) nv v6 names (vs ++ [u]) (rows ++ [r]) := by
  have hT := h.blk.lt
  have hge := h.rvge
  have htz := h.tz
  have hzs := h.zs
  have fr := h.rows.fresh ou
  have hbs := hb.size
  have h6s := hg6.size
  have hsz : (w'.alloc (.cells #[u] t')).heap.size = w'.heap.size + 1 := by simp
  have H2 := h.go hb
  have V6 := ((h.rows.below hb).alloc (.cells #[u] t')).push (r := r) (hi' := w6.heap.size) ((ou.alloc _).base_le (by omega)) hg6 ho6 hd6 fr.1 fr.2 (by omega) (fun g e => (ho6.lt g e).2) (fun g e => by have := (ou.lt g e).2; omega)
  have tt : Touch T (T + 1) w6 (w6.setCell ⟨T, 1, none⟩ v6) := (Touch.refl _ _ _).setCell (p := ⟨T, 1, none⟩) (Or.inl ⟨Nat.le_refl _, Nat.lt_succ_self _⟩) _
  have hs6 : (w6.setCell ⟨T, 1, none⟩ v6).heap.size = w6.heap.size := by simp [World.setCell]
  refine ⟨((H2.blk.alloc _).grown hg6 (fun e => by have := hge _ e.symm; omega)).set_ 1 v6, ?_, h.top, htz, by rw [hs6]; omega, ?_, ?_, h.base⟩
  · refine own_block H2.own fun g e => ?_
    obtain ⟨h1, h1'⟩ := h.top g e
    have h2 := (H2.own.lt g e).2
    rw [tt.block g (by omega) (by omega), hg6.block g (by omega) (fun e' => by have := hge g e'.symm; omega), Below.heap_alloc _ _ _ h2]
  · have := V6.touch tt (Or.inr (by omega))
    rw [hs6]
    exact this
  · exact (((H2.below.alloc H2.below.size _).grown hg6 (by have := H2.below.size; omega) (fun g e => by have := hge g e; have := h.base; omega))).setCell (by show w1.heap.size ≤ T; exact h.base) _
end
theorem halfZ_new {w3 w6 : World} {nv : Value} {k : Nat} {xs : List ByteArray} (ho : w6.ownsRow w3.heap.size 9 1 nv k (stCells xs)) (hk : xs.length = k) (hb : Below w3.heap.size w3 w6) :
    HalfZ w3 (w6.alloc (.cells #[nv, .slice none 0 0] 26)) w3.heap.size w6.heap.size (w6.heap.size + 1) 26 #[nv, .slice none 0 0] nv (.slice none 0 0) xs [] [] := by
  subst hk
  exact ⟨Blk.new _ _ _, ho.alloc _, fun g e => by have := (ho.lt g e).2; omega, Nat.lt_succ_self _, by simp, RowsV.nil _ _ _, hb.alloc hb.size _, hb.size⟩
theorem halfZ_old {w3 w6 : World} {nv : Value} {k T : Nat} {xs : List ByteArray} (ho : w6.ownsRow w3.heap.size 9 1 nv k (stCells xs)) (hk : xs.length = k) (hb : Below w3.heap.size w3 w6)
    (kT : Blk w6 T 26 #[nilV, nilV]) (hTn : nv.ownBlock ≠ some T) (hTl : w3.heap.size ≤ T) :
    HalfZ w3 ((w6.setCell ⟨T, 0, none⟩ nv).setCell ⟨T, 1, none⟩ (.slice none 0 0)) w3.heap.size T w6.heap.size 26 #[nv, .slice none 0 0] nv (.slice none 0 0) xs [] [] := by
  subst hk
  have tt : Touch T (T + 1) w6 ((w6.setCell ⟨T, 0, none⟩ nv).setCell ⟨T, 1, none⟩ (.slice none 0 0)) := ((Touch.refl _ _ _).setCell (p := ⟨T, 0, none⟩) (Or.inl ⟨Nat.le_refl _, Nat.lt_succ_self _⟩) _).setCell (p := ⟨T, 1, none⟩) (Or.inl ⟨Nat.le_refl _, Nat.lt_succ_self _⟩) _
  have hs : ((w6.setCell ⟨T, 0, none⟩ nv).setCell ⟨T, 1, none⟩ (.slice none 0 0)).heap.size = w6.heap.size := by simp [World.setCell]
  have hne : ∀ g, nv.ownBlock = some g → g ≠ T := fun g e e' => hTn (by rw [e, e'])
  have kk := (kT.set_ 0 nv).set_ 1 (.slice none 0 0)
  simp at kk
  exact ⟨kk, tt.own ho (fun g e => by have := hne g e; omega), fun g e => ⟨(ho.lt g e).2, hne g e⟩, kT.lt, by rw [hs]; exact Nat.le_refl _, RowsV.nil _ _ _, tt.below hb hTl, hTl⟩
set_option maxHeartbeats 6400000 in
theorem specJoin_any (va vb : Value) (na : List ByteArray) (ra : List (List Int)) (nb : List ByteArray) (rb : List (List Int)) (l r : ByteArray) (ok : Bool) (N : List ByteArray) (R : List (List Int)) (hL : JoinIs na ra nb rb l r ok N R) (w : World)
    (hta : TabR w va na ra) (htb : TabR w vb nb rb) (hsa : Small na ra) (hsb : Small nb rb) :
    Calls Tryd.prog 15 #[va, vb, .string l, .string r] w fun e w' => TabRes w ok N R e w' := by
  have HTA := Lib.hid hta
  have HTB := Lib.hid htb
  obtain ⟨A, c, B, d, rfl, _, _, _⟩ := hta
  obtain ⟨A', c', B', d', rfl, _, _, _⟩ := htb
  obtain ⟨i0, hi0, hz0, hz1, hz2⟩ := info_parts infoStr
  obtain ⟨j0, hjI, hjz0, hjz1, hjz2⟩ := info_parts infoRow
  obtain ⟨z0, hzI, hzz0, hzz1, hzz2⟩ := info_parts infoInt
  obtain ⟨n, hnn⟩ : ∃ n, na.length = n := ⟨_, rfl⟩
  obtain ⟨m, hmm⟩ : ∃ m, ra.length = m := ⟨_, rfl⟩
  obtain ⟨n', hnn'⟩ : ∃ n, nb.length = n := ⟨_, rfl⟩
  obtain ⟨m', hmm'⟩ : ∃ m, rb.length = m := ⟨_, rfl⟩
  have hn1 := hsa.n1
  have hm1 := hsa.r1
  have hn1' := hsb.n1
  have hm1' := hsb.r1
  rw [hnn] at hn1
  rw [hmm] at hm1
  rw [hnn'] at hn1'
  rw [hmm'] at hm1'
  rw [hnn, hmm] at HTA ⊢
  rw [hnn', hmm'] at HTB ⊢
  obtain ⟨w1, hw1⟩ : ∃ w1, w1 = ((w.alloc (.cells #[.slice A n c, .slice B m d] 26)).alloc (.cells #[.slice A' n' c', .slice B' m' d'] 26)).alloc (.cells #[nilV, nilV] 26) := ⟨_, rfl⟩
  have b1 : Below w.heap.size w w1 := by rw [hw1]; exact (((Below.refl _ _).alloc (Nat.le_refl _) _).alloc (by simp) _).alloc (by simp; omega) _
  have hs1 : w1.heap.size = w.heap.size + 1 + 1 + 1 := by rw [hw1]; simp
  have k1 : Blk w1 w.heap.size 26 #[.slice A n c, .slice B m d] := by rw [hw1]; exact ((Blk.new _ _ _).alloc _).alloc _
  have k2 : Blk w1 (w.heap.size + 1) 26 #[.slice A' n' c', .slice B' m' d'] := by
    have := (Blk.new (w.alloc (.cells #[.slice A n c, .slice B m d] 26)) 26 #[.slice A' n' c', .slice B' m' d']).alloc (.cells #[nilV, nilV] 26)
    rw [World.size_alloc] at this
    rw [hw1]; exact this
  have k3 : Blk w1 (w.heap.size + 1 + 1) 26 #[.slice none 0 0, .slice none 0 0] := by
    have := Blk.new ((w.alloc (.cells #[.slice A n c, .slice B m d] 26)).alloc (.cells #[.slice A' n' c', .slice B' m' d'] 26)) 26 #[nilV, nilV]
    rw [World.size_alloc, World.size_alloc] at this
    rw [hw1]; exact this
  have c0 := k1.cell 0
  have c1 := k1.cell 1
  simp at c0 c1
  obtain ⟨q, hq⟩ : ∃ q, tableB na ra = q := ⟨_, rfl⟩
  obtain ⟨q', hq'⟩ : ∃ q, tableB nb rb = q := ⟨_, rfl⟩
  obtain ⟨p, hp⟩ : ∃ p, hasW na l = p := ⟨_, rfl⟩
  obtain ⟨p', hp'⟩ : ∃ p, hasW nb r = p := ⟨_, rfl⟩
  have ST := Lib.hid (fun (w' : World) (h : Below w.heap.size w w') => specTab_any q _ na ra w' (HTA.out.below h) hsa.ok hq)
  have ST' := Lib.hid (fun (w' : World) (h : Below w.heap.size w w') => specTab_any q' _ nb rb w' (HTB.out.below h) hsb.ok hq')
  have LA := Lib.hid (fun (z : Int) (hz : ColIs na l z) (w' : World) (h : Below w.heap.size w w') => l1Column_is z A n c na l w' w'.heap.size hnn (HTA.out.below h).namesR.1 (by omega) hz)
  have LB := Lib.hid (fun (z : Int) (hz : ColIs nb r z) (w' : World) (h : Below w.heap.size w w') => l1Column_is z A' n' c' nb r w' w'.heap.size hnn' (HTB.out.below h).namesR.1 (by omega) hz)
  have KK := Lib.hid (fun (w' : World) (h : Below w1.heap.size w1 w') => And.intro (k1.below h k1.lt) (And.intro (k2.below h k2.lt) (And.intro (k3.below h k3.lt) (b1.trans (h.mono b1.size)))))
  have HW := Lib.hid hw1
  have HNM := Lib.hid (And.intro hnn hmm)
  have HNM' := Lib.hid (And.intro hnn' hmm')
  have HQ := Lib.hid (And.intro hq hq')
  have HP := Lib.hid (And.intro hp hp')
  have B1 := Lib.hid b1
  have HL := Lib.hid hL
  have HNO := Lib.hid (fun (h : (q && (q' && (p && p'))) = false) => hL.no (by unfold joinB; rw [hq, hq', hp, hp']; revert h; cases q <;> cases q' <;> cases p <;> cases p' <;> simp))
  clear hsa hsb hnn hmm hnn' hmm' hq hq' hp hp' hw1 k1 k2 k3 b1 hL
  go_enter Tryd.func15, Tryd.ntmps15
  go_wp2_with fail
  rw [← HW.out]
  refine (ST.out w1 B1.out).mono ?_
  rintro e w2 ⟨rfl, b2⟩
  have B12 := Lib.hid b2
  obtain ⟨k1, k2, k3, B2⟩ := KK.out w2 b2
  clear c0 c1 b2
  have xa0 := k1.cell 0
  have xa1 := k1.cell 1
  simp at xa0 xa1
  have xb0 := k2.cell 0
  have xb1 := k2.cell 1
  simp at xb0 xb1
  have y0 := k3.cell 0
  have y1 := k3.cell 1
  have y0f := k3.frozen 0
  have y1f := k3.frozen 1
  simp at y0 y1
  have hsz2 := w2.heap.size
  have hw2n : w.heap.size + 1 + 1 + 1 ≤ w2.heap.size := by have := B12.out.size; omega
  cases q
  · have K3 := k3
    have BZ := B2
    clear k1 k2 k3 B2
    have RS := Lib.hid (res_store BZ K3 (by omega) (.slice none 0 0) (.slice none 0 0))
    go_wp2_with fail
    obtain ⟨r0, r1, rb, _⟩ := RS.out
    obtain ⟨rfl, rfl, rfl⟩ := HNO.out (by rfl)
    clear RS y0 y1 y0f y1f
    generalize ((w2.setCell ⟨w.heap.size + 1 + 1, 0, none⟩ (.slice none 0 0)).setCell ⟨w.heap.size + 1 + 1, 1, none⟩ (.slice none 0 0)) = w6 at r0 r1 rb ⊢
    exact bodyPost_ret (v := .tuple #[.agg #[.slice none 0 0, .slice none 0 0], .bool false]) (by simp [results, Tryd.results15, go_sem, r0, r1]) rfl (TabO.nilRes rb)
  · clear k1 k2 k3
    go_wp2_with fail
    refine (ST'.out w2 B2).mono ?_
    rintro e w3 ⟨rfl, b3⟩
    have B13 := Lib.hid (B12.out.trans (b3.mono B12.out.size))
    clear xa0 xa1 xb0 xb1 y0 y1 y0f y1f
    obtain ⟨k1, k2, k3, B3⟩ := KK.out w3 B13.out
    clear b3
    have xa0 := k1.cell 0
    have xa1 := k1.cell 1
    simp at xa0 xa1
    have xb0 := k2.cell 0
    have xb1 := k2.cell 1
    simp at xb0 xb1
    have y0 := k3.cell 0
    have y1 := k3.cell 1
    have y0f := k3.frozen 0
    have y1f := k3.frozen 1
    simp at y0 y1
    have hw3n : w.heap.size + 1 + 1 + 1 ≤ w3.heap.size := by have := B13.out.size; omega
    have K3 := Lib.hid k3
    have BZ := Lib.hid B3
    clear k1 k2 k3 B3
    cases q'
    · 
      have RS := Lib.hid (res_store BZ.out K3.out (by omega) (.slice none 0 0) (.slice none 0 0))
      go_wp2_with fail
      obtain ⟨r0, r1, rb, _⟩ := RS.out
      obtain ⟨rfl, rfl, rfl⟩ := HNO.out (by rfl)
      clear RS y0 y1 y0f y1f
      generalize ((w3.setCell ⟨w.heap.size + 1 + 1, 0, none⟩ (.slice none 0 0)).setCell ⟨w.heap.size + 1 + 1, 1, none⟩ (.slice none 0 0)) = w6 at r0 r1 rb ⊢
      exact bodyPost_ret (v := .tuple #[.agg #[.slice none 0 0, .slice none 0 0], .bool false]) (by simp [results, Tryd.results15, go_sem, r0, r1]) rfl (TabO.nilRes rb)
    · cases p
      · have LX := Lib.hid (LA.out (-1) (colN_no HP.out.1) w3 BZ.out)
        go_wp2_with fail
        refine LX.out.mono ?_
        rintro e w' ⟨rfl, rfl⟩
        have RS := Lib.hid (res_store BZ.out K3.out (by omega) (.slice none 0 0) (.slice none 0 0))
        go_wp2_with fail
        obtain ⟨r0, r1, rb, _⟩ := RS.out
        obtain ⟨rfl, rfl, rfl⟩ := HNO.out (by rfl)
        clear RS y0 y1 y0f y1f
        generalize ((w3.setCell ⟨w.heap.size + 1 + 1, 0, none⟩ (.slice none 0 0)).setCell ⟨w.heap.size + 1 + 1, 1, none⟩ (.slice none 0 0)) = w6 at r0 r1 rb ⊢
        exact bodyPost_ret (v := .tuple #[.agg #[.slice none 0 0, .slice none 0 0], .bool false]) (by simp [results, Tryd.results15, go_sem, r0, r1]) rfl (TabO.nilRes rb)
      · obtain ⟨ca, hca⟩ : ∃ ca, colN na l = ca := ⟨_, rfl⟩
        have hca0 : ¬ (ca : Int) < 0 := Int.not_lt.2 (Int.natCast_nonneg _)
        have LXA := Lib.hid (LA.out (ca : Int) (by rw [← hca]; exact colN_is HP.out.1))
        have HCA := Lib.hid hca
        clear hca
        cases p'
        · have LX := Lib.hid (LB.out (-1) (colN_no HP.out.2) w3 BZ.out)
          go_wp2_with fail
          refine (LXA.out w3 BZ.out).mono ?_
          rintro e w' ⟨rfl, rfl⟩
          go_wp2_with fail
          refine LX.out.mono ?_
          rintro e w' ⟨rfl, rfl⟩
          have RS := Lib.hid (res_store BZ.out K3.out (by omega) (.slice none 0 0) (.slice none 0 0))
          go_wp2_with fail
          obtain ⟨r0, r1, rb, _⟩ := RS.out
          obtain ⟨rfl, rfl, rfl⟩ := HNO.out (by rfl)
          clear RS y0 y1 y0f y1f
          generalize ((w3.setCell ⟨w.heap.size + 1 + 1, 0, none⟩ (.slice none 0 0)).setCell ⟨w.heap.size + 1 + 1, 1, none⟩ (.slice none 0 0)) = w6 at r0 r1 rb ⊢
          exact bodyPost_ret (v := .tuple #[.agg #[.slice none 0 0, .slice none 0 0], .bool false]) (by simp [results, Tryd.results15, go_sem, r0, r1]) rfl (TabO.nilRes rb)
        · obtain ⟨cb, hcb⟩ : ∃ cb, colN nb r = cb := ⟨_, rfl⟩
          have hcb0 : ¬ (cb : Int) < 0 := Int.not_lt.2 (Int.natCast_nonneg _)
          have LXB := Lib.hid (LB.out (cb : Int) (by rw [← hcb]; exact colN_is HP.out.2))
          have HCB := Lib.hid hcb
          clear hcb
          go_wp2_with fail
          refine (LXA.out w3 BZ.out).mono ?_
          rintro e w' ⟨rfl, rfl⟩
          go_wp2_with fail
          refine (LXB.out w3 BZ.out).mono ?_
          rintro e w' ⟨rfl, rfl⟩
          go_upto_region 3 with fail
          have b3d : Below w3.heap.size w3 w3.drew := (Below.refl _ _).drew
          have omN := Lib.hid (fun (wd : World) => World.ownsRow_made (base := wd.heap.size) (e := 9) (size := 1) wd #[] 0 (Nat.le_refl _) (by unfold maxLen; omega) rfl)
          have RA := Lib.hid (fun (w' : World) (h : Below w3.heap.size w3 w') => (HTA.out.below BZ.out).namesR.1.belowW (Nat.le_refl _) h)
          have RB := Lib.hid (fun (w' : World) (h : Below w3.heap.size w3 w') => (HTB.out.below BZ.out).namesR.1.belowW (Nat.le_refl _) h)
          have hsd : w3.drew.heap.size = w3.heap.size := rfl
          have hnl := HNM.out.1
          have hnl' := HNM'.out.1
          go_cut [10] (fun v10 w' => ∃ (T Z : Nat) (A6 : Option Addr) (c6 : Nat), v10 = .pointer (some ⟨T, 0, none⟩) ∧ Hid (HalfZ w3 w' w3.heap.size T Z 26 #[.slice A6 (n + n') c6, .slice none 0 0] (.slice A6 (n + n') c6) (.slice none 0 0) (na ++ nb) [] []))
          case first =>
            go_region_held3 (fun w' => w'.cell? ⟨w.heap.size, 0, none⟩ = some (.slice A n c) ∧ w'.cell? ⟨w.heap.size + 1, 0, none⟩ = some (.slice A' n' c'))
              (first | (exact ⟨below_keep (b6.alloc b6.size _) xa0, below_keep (b6.alloc b6.size _) xb0⟩) | (exact ⟨below_keep (b5.alloc b5.size _) xa0, below_keep (b5.alloc b5.size _) xb0⟩) | (exact ⟨below_keep (((b6.alloc b6.size _).setCell (p := ⟨w6.heap.size, 0, none⟩) b6.size _).setCell (p := ⟨w6.heap.size, 1, none⟩) b6.size _) xa0, below_keep (((b6.alloc b6.size _).setCell (p := ⟨w6.heap.size, 0, none⟩) b6.size _).setCell (p := ⟨w6.heap.size, 1, none⟩) b6.size _) xb0⟩) | (exact ⟨below_keep ((b6.setCell (p := ⟨_, 0, none⟩) hTl _).setCell (p := ⟨_, 1, none⟩) hTl _) xa0, below_keep ((b6.setCell (p := ⟨_, 0, none⟩) hTl _).setCell (p := ⟨_, 1, none⟩) hTl _) xb0⟩) | (exact ⟨below_keep (b6) xa0, below_keep (b6) xb0⟩) | (exact ⟨below_keep (b5) xa0, below_keep (b5) xb0⟩) | go_keep)
              (first
                | (refine step_append_any _ (by rfl) (.tmp 36) (.tmp 38) 23 (by rfl) w3.heap.size 9 i0 _ 1 16 Tryd.underlying23 hi0 hz0 hz1 hz2 (by rfl) (by decide) _ 0 [] (by rfl) (omN.out w3.drew) w3.heap.size A n c (stCells na) (by rfl) (RA.out _ (b3d.alloc (Nat.le_refl _) _)) (stOne _) (by unfold maxLen; omega) (by omega) (by first | omega | (simp; done) | (simp; omega)) ?_; intro v5 w5 ho5 hg5 hd5; rw [List.nil_append, Nat.zero_add] at ho5; obtain ⟨A5, c5, rfl, _, _⟩ := own_form ho5; have b5 : Below w3.heap.size w3 w5 := (b3d.alloc (Nat.le_refl _) _).grown hg5 (by first | omega | (simp; done) | (simp; omega)) (fun g e => by simp [Act.eval, Value.ownBlock] at e ⊢; omega))
                | (refine step_append_any _ (by rfl) (.tmp 36) (.tmp 38) 23 (by rfl) w3.heap.size 9 i0 _ 1 16 Tryd.underlying23 hi0 hz0 hz1 hz2 (by rfl) (by decide) _ 0 [] (by rfl) (show World.ownsRow _ w3.heap.size _ 1 (.slice (some ⟨w3.heap.size + 1, 0, none⟩) 0 0) 0 [] from by have h := omN.out (w3.alloc (.cells #[nilV, nilV] 26)); rw [World.size_alloc] at h; exact (h.base_le (Nat.le_succ _)).drew) w3.heap.size A n c (stCells na) (by rfl) (RA.out _ (((((Below.refl _ w3).alloc (Nat.le_refl _) _).alloc (by first | omega | (simp; done) | (simp; omega)) _).drew))) (stOne _) (by unfold maxLen; omega) (by omega) (by first | omega | (simp; done) | (simp; omega)) ?_; intro v5 w5 ho5 hg5 hd5; rw [List.nil_append, Nat.zero_add] at ho5; obtain ⟨A5, c5, rfl, _, _⟩ := own_form ho5; have b5 : Below w3.heap.size w3 w5 := (((((Below.refl _ w3).alloc (Nat.le_refl _) _).alloc (by first | omega | (simp; done) | (simp; omega)) _).drew)).grown hg5 (by first | omega | (simp; done) | (simp; omega)) (fun g e => by simp [Act.eval, Value.ownBlock] at e ⊢; omega); have kT : Blk w5 w3.heap.size 26 #[nilV, nilV] := (((Blk.new w3 _ _).alloc _).drew).grown hg5 (by simp [Act.eval, Value.ownBlock] <;> omega); have hTl : w3.heap.size ≤ w3.heap.size := (by first | omega | (simp; done) | (simp; omega)))
                | (refine step_append_any _ (by rfl) (.tmp 36) (.tmp 38) 23 (by rfl) w3.heap.size 9 i0 _ 1 16 Tryd.underlying23 hi0 hz0 hz1 hz2 (by rfl) (by decide) _ 0 [] (by rfl) ((omN.out w3.drew).alloc _) w3.heap.size A n c (stCells na) (by rfl) (RA.out _ ((b3d.alloc (Nat.le_refl _) _).alloc (by first | omega | (simp; done) | (simp; omega)) _)) (stOne _) (by unfold maxLen; omega) (by omega) (by first | omega | (simp; done) | (simp; omega)) ?_; intro v5 w5 ho5 hg5 hd5; rw [List.nil_append, Nat.zero_add] at ho5; obtain ⟨A5, c5, rfl, _, _⟩ := own_form ho5; have b5 : Below w3.heap.size w3 w5 := ((b3d.alloc (Nat.le_refl _) _).alloc (by first | omega | (simp; done) | (simp; omega)) _).grown hg5 (by first | omega | (simp; done) | (simp; omega)) (fun g e => by simp [Act.eval, Value.ownBlock] at e ⊢; omega); have kT : Blk w5 (w3.heap.size + 1) 26 #[nilV, nilV] := (show Blk _ (w3.heap.size + 1) _ _ from by have h := Blk.new (w3.drew.alloc (.cells #[] 9)) 26 #[nilV, nilV]; rw [World.size_alloc] at h; exact h).grown hg5 (by simp [Act.eval, Value.ownBlock] <;> omega); have hTl : w3.heap.size ≤ (w3.heap.size + 1) := (by first | omega | (simp; done) | (simp; omega)))
                | (refine step_append_any _ (by rfl) (.tmp 39) (.tmp 41) 23 (by rfl) w3.heap.size 9 i0 _ 1 16 Tryd.underlying23 hi0 hz0 hz1 hz2 (by rfl) (by decide) _ n (stCells na) (by rfl) (ho5) w3.heap.size A' n' c' (stCells nb) (by rfl) (RB.out _ (b5)) (stOne _) (by unfold maxLen; omega) (by omega) (by have := b5.size; first | omega | (simp; omega)) ?_; intro v6 w6 ho6 hg6 hd6; obtain ⟨A6, c6, rfl, _, _⟩ := own_form ho6; have b6 : Below w3.heap.size w3 w6 := (b5).grown hg6 (by have := b5.size; first | omega | (simp; omega)) (fun g e => (ho5.lt g e).1); have kT6 := kT.grown hg6 (fun e => own_blk_ne ho5 kT (by decide) e.symm); have hTn := own_blk_ne ho6 kT6 (by decide); have t0 := kT6.cell 0; have t1 := kT6.cell 1; have t0f := kT6.frozen 0; have t1f := kT6.frozen 1; simp at t0 t1 t0f t1f)
                | (refine step_append_any _ (by rfl) (.tmp 39) (.tmp 41) 23 (by rfl) w3.heap.size 9 i0 _ 1 16 Tryd.underlying23 hi0 hz0 hz1 hz2 (by rfl) (by decide) _ n (stCells na) (by rfl) (ho5.alloc _) w3.heap.size A' n' c' (stCells nb) (by rfl) (RB.out _ (b5.alloc b5.size _)) (stOne _) (by unfold maxLen; omega) (by omega) (by have := b5.size; first | omega | (simp; omega)) ?_; intro v6 w6 ho6 hg6 hd6; obtain ⟨A6, c6, rfl, _, _⟩ := own_form ho6; have b6 : Below w3.heap.size w3 w6 := (b5.alloc b5.size _).grown hg6 (by have := b5.size; first | omega | (simp; omega)) (fun g e => (ho5.lt g e).1); have kT6 : Blk w6 w5.heap.size 26 #[nilV, nilV] := (Blk.new w5 _ _).grown hg6 (fun e => by have := (ho5.lt _ e.symm).2; omega); have hTl : w3.heap.size ≤ w5.heap.size := b5.size; have hTn : (Value.slice A6 (n + n') c6).ownBlock ≠ some w5.heap.size := (by rcases hd6 with e | e <;> (rw [e]; intro e'; first | (have := (ho5.lt _ e').2; omega) | (simp at e'))); have t0 := kT6.cell 0; have t1 := kT6.cell 1; have t0f := kT6.frozen 0; have t1f := kT6.frozen 1; simp at t0 t1 t0f t1f)
                | (refine step_append_any _ (by rfl) (.tmp 39) (.tmp 41) 23 (by rfl) w3.heap.size 9 i0 _ 1 16 Tryd.underlying23 hi0 hz0 hz1 hz2 (by rfl) (by decide) _ n (stCells na) (by rfl) (ho5) w3.heap.size A' n' c' (stCells nb) (by rfl) (RB.out _ (b5)) (stOne _) (by unfold maxLen; omega) (by omega) (by have := b5.size; first | omega | (simp; omega)) ?_; intro v6 w6 ho6 hg6 hd6; obtain ⟨A6, c6, rfl, _, _⟩ := own_form ho6; have b6 : Below w3.heap.size w3 w6 := (b5).grown hg6 (by have := b5.size; first | omega | (simp; omega)) (fun g e => (ho5.lt g e).1)))
            all_goals (
              go_wp2_with fail
              go_meet
              case rel =>
                have hal : (na ++ nb).length = n + n' := by rw [List.length_append, hnl, hnl']
                rw [← stCells_append] at ho6
                first
                  | exact ⟨_, _, A6, c6, rfl, halfZ_old ho6 hal b6 kT6 hTn hTl⟩
                  | exact ⟨_, _, A6, c6, rfl, halfZ_new ho6 hal b6⟩)
          case rest =>
            obtain ⟨T, Z, A6, c6, rfl, START⟩ := hcut
            clear xa0 xa1 xb0 xb1 y0 y1 y0f y1f RA RB omN b3d hsd K3
            go_wp2_with fail
            go_loopw [11, 12] (fun kv _ wr => ∃ (k : Nat) (vs : List Value) (ov : Value), k ≤ m ∧ kv = .int .i64 k ∧ Hid (HalfZ w3 wr w3.heap.size T Z 26 #[.slice A6 (n + n') c6, ov] (.slice A6 (n + n') c6) ov (na ++ nb) vs (joinA ca cb (ra.take k) rb))) (fun kv _ _ => m - (intOf kv).toNat)
            case atStart => exact ⟨0, [], _, Nat.zero_le _, rfl, START⟩
            case round =>
              clear START
              obtain ⟨k, vs, ov, hk, rfl, hh⟩ := hrel
              obtain ⟨wo, rfl⟩ : ∃ x, x = wr := ⟨_, rfl⟩
              have hk0 : (0 : Int) ≤ (k : Int) := Int.natCast_nonneg _
              have KO := Lib.hid (KK.out wo (B13.out.trans (hh.out.below.mono B13.out.size)))
              have xa1 := KO.out.1.cell 1
              simp at xa1
              by_cases hlt : k < m
              · have hk1 : (k : Int) < (m : Int) := by omega
                obtain ⟨x, hxk⟩ : ∃ x, ra[k]? = some x := ⟨_, List.getElem?_eq_getElem (by have := HNM.out.2; omega)⟩
                have hxl : x.length = n := by rw [rows_len HQ.out.1 (List.mem_of_getElem? hxk), HNM.out.1]
                have hcl := colN_lt HP.out.1
                rw [HCA.out, HNM.out.1, ← hxl] at hcl
                obtain ⟨xv, hxv⟩ : ∃ v, x[ca]? = some v := ⟨_, List.getElem?_eq_getElem hcl⟩
                have HXK := Lib.hid (And.intro hxk hxv)
                have hca1 : (0 : Int) ≤ (ca : Int) := Int.natCast_nonneg _
                have hca2 : (ca : Int) < (n : Int) := by omega
                clear hxk hxv
                go_wp2_with fail
                clear xa1
                go_loopw [12] (fun jv wi => ∃ (j : Nat) (vs : List Value) (ov : Value), j ≤ m' ∧ jv = .int .i64 j ∧ Hid (HalfZ w3 wi w3.heap.size T Z 26 #[.slice A6 (n + n') c6, ov] (.slice A6 (n + n') c6) ov (na ++ nb) vs (joinA ca cb (ra.take k) rb ++ joinK ca cb x (rb.take j)))) (fun jv _ => m' - (intOf jv).toNat)
                case atStart => exact ⟨0, vs, ov, Nat.zero_le _, rfl, by
                  have e : joinA ca cb (ra.take k) rb ++ joinK ca cb x (rb.take 0) = joinA ca cb (ra.take k) rb := by simp [joinK]
                  rw [e]; exact hh⟩
                case round =>
                  clear hh KO
                  obtain ⟨j, vs, ov, hj, rfl, hh⟩ := hrel
                  obtain ⟨wi, rfl⟩ : ∃ x, x = wr := ⟨_, rfl⟩
                  have hj0 : (0 : Int) ≤ (j : Int) := Int.natCast_nonneg _
                  obtain ⟨k1, k2, k3, BI⟩ := KK.out wi (B13.out.trans (hh.out.below.mono B13.out.size))
                  have xa0 := k1.cell 0
                  have xa1 := k1.cell 1
                  simp at xa0 xa1
                  have xb0 := k2.cell 0
                  have xb1 := k2.cell 1
                  simp at xb0 xb1
                  have BWI := Lib.hid BI
                  clear k1 k2 k3 BI
                  by_cases hlt2 : j < m'
                  · have hj1 : (j : Int) < (m' : Int) := by omega
                    obtain ⟨ad, x', Ak, ck, rfl, hadb, hrow, e1, g1, g2, g3, rr⟩ := ((HTA.out.rowsR').belowW (Nat.le_refl _) BWI.out).at_ hlt
                    obtain rfl : x = x' := Option.some.inj (HXK.out.1.symm.trans hrow)
                    rw [hxl] at e1 g1
                    obtain ⟨rd, rfl, hrb, q1⟩ := in_cell (k := ca) (x := xv) rr HXK.out.2 rfl
                    obtain ⟨bd, y, Bk, dk, rfl, hbdb, hyow, e2, g1', g2', g3', rr'⟩ := ((HTB.out.rowsR').belowW (Nat.le_refl _) BWI.out).at_ hlt2
                    have hyl : y.length = n' := by rw [rows_len HQ.out.2 (List.mem_of_getElem? hyow), HNM'.out.1]
                    rw [hyl] at e2 g1'
                    have hcl' := colN_lt HP.out.2
                    rw [HCB.out, HNM'.out.1, ← hyl] at hcl'
                    obtain ⟨yv, hyv⟩ : ∃ v, y[cb]? = some v := ⟨_, List.getElem?_eq_getElem hcl'⟩
                    obtain ⟨sd, rfl, hsb, q2⟩ := in_cell (k := cb) (x := yv) rr' hyv rfl
                    have hcb1 : (0 : Int) ≤ (cb : Int) := Int.natCast_nonneg _
                    have hcb2 : (cb : Int) < (n' : Int) := by omega
                    have HYK := Lib.hid (And.intro hyow hyv)
                    have RX := Lib.hid rr
                    have RY := Lib.hid rr'
                    have hcl2 : ca < n := by omega
                    have hcl2' : cb < n' := by omega
                    clear hrow hyow hyv g3 g3' rr rr' hcl hcl'
                    by_cases he : xv = yv
                    · subst he
                      go_wp2_with fail
                      go_region_held3 (fun w' => w'.cell? ⟨w.heap.size, 0, none⟩ = some (.slice A n c) ∧ w'.cell? ⟨w.heap.size, 1, none⟩ = some (.slice (some ad) m d) ∧ w'.cell? ⟨w.heap.size + 1, 0, none⟩ = some (.slice A' n' c') ∧ w'.cell? ⟨w.heap.size + 1, 1, none⟩ = some (.slice (some bd) m' d') ∧ w'.cell? (ad.add k) = some (.slice (some rd) n ck) ∧ w'.cell? (bd.add j) = some (.slice (some sd) n' dk) ∧ w'.cell? (rd.add ca) = some (.int .i64 xv) ∧ w'.cell? (sd.add cb) = some (.int .i64 xv))
                        (first | assumption | go_keep)
                        (first | (go_at_call 29; with_reducible refine (LXA.out _ (BWI.out.drew)).mono ?_; rintro e w' ⟨rfl, rfl⟩) | (go_at_call 29; with_reducible refine (LXB.out _ (BWI.out.drew)).mono ?_; rintro e w' ⟨rfl, rfl⟩))
                      go_wp2_with fail
                      have x3 := hh.out.blk.cell 1
                      simp at x3
                      obtain ⟨A9, c9, e9, _, _, _⟩ := hh.out.rows.form
                      obtain ⟨q, hq⟩ : ∃ q, (joinA ca cb (ra.take k) rb ++ joinK ca cb x (rb.take j)).length = q := ⟨_, rfl⟩
                      have hqb : q ≤ 1048576 * 1048576 + 1048576 := by
                        rw [← hq, List.length_append]
                        have h1 := joinA_len ca cb (ra.take k) rb
                        have h2 := joinK_len ca cb x (rb.take j)
                        have h3 := Nat.mul_le_mul (show (ra.take k).length ≤ 1048576 by rw [List.length_take]; omega) (show rb.length ≤ 1048576 by have := HNM'.out.2; omega)
                        have h4 : (rb.take j).length ≤ 1048576 := by rw [List.length_take]; omega
                        omega
                      rw [hq] at e9
                      subst e9
                      have OW := Lib.hid (show wi.ownsRow Z 40 1 (.slice A9 q c9) q vs by have h := hh.out.rows.own; rw [hq] at h; exact h)
                      have CL := Lib.hid (fun (w' : World) (h' : Below wi.heap.size wi w') => l1Copy_any (some rd) n ck x w' (by have := ((RX.out.belowW BWI.out.size h').more (Nat.le_trans BWI.out.size h'.size)); rw [hxl] at this; exact this) (by omega))
                      have HS0 : wi.cell? ⟨T, 1, none⟩ = some (.slice A9 q c9) ∧ wi.cell? ⟨w.heap.size, 1, none⟩ = some (.slice (some ad) m d) ∧ wi.cell? ⟨w.heap.size + 1, 1, none⟩ = some (.slice (some bd) m' d') ∧ wi.cell? (ad.add k) = some (.slice (some rd) n ck) ∧ wi.cell? (bd.add j) = some (.slice (some sd) n' dk) := ⟨x3, xa1, xb1, e1, e2⟩
                      have KEEP := Lib.hid (fun (w' : World) (h : Below wi.heap.size wi w') => show w'.cell? ⟨T, 1, none⟩ = some (.slice A9 q c9) ∧ w'.cell? ⟨w.heap.size, 1, none⟩ = some (.slice (some ad) m d) ∧ w'.cell? ⟨w.heap.size + 1, 1, none⟩ = some (.slice (some bd) m' d') ∧ w'.cell? (ad.add k) = some (.slice (some rd) n ck) ∧ w'.cell? (bd.add j) = some (.slice (some sd) n' dk) from ⟨below_keep h HS0.1, below_keep h HS0.2.1, below_keep h HS0.2.2.1, below_keep h HS0.2.2.2.1, below_keep h HS0.2.2.2.2⟩)
                      have bdd : Below wi.heap.size wi wi.drew.drew := (Below.refl _ _).drew.drew
                      have HS := KEEP.out _ bdd
                      have hzz := hh.out.zs
                      have htz := hh.out.tz
                      refine wp_region_noPanic ?_
                      refine wp_region_K (by kernel_rfl) (fun w' => w'.cell? ⟨T, 1, none⟩ = some (.slice A9 q c9) ∧ w'.cell? ⟨w.heap.size, 1, none⟩ = some (.slice (some ad) m d) ∧ w'.cell? ⟨w.heap.size + 1, 1, none⟩ = some (.slice (some bd) m' d') ∧ w'.cell? (ad.add k) = some (.slice (some rd) n ck) ∧ w'.cell? (bd.add j) = some (.slice (some sd) n' dk)) 17 ?_
                      refine atK_take (i := 0) rfl (by kernel_rfl) (by kernel_rfl) (by kernel_rfl) (by kernel_rfl) (fun _ _ _ h => h) (by rfl) (by intro w hSw; (try dsimp only at hSw); go_split_ands; first | (go_simp; done) | (go_simp; with_reducible rfl)) HS ?_
                      simp only [List.getElem_toArray, List.getElem_cons_zero, List.getElem_cons_succ, Act.put, List.setIfInBounds_toArray, List.set_cons_zero, List.set_cons_succ]
                      refine atK_take (i := 1) rfl (by kernel_rfl) (by kernel_rfl) (by kernel_rfl) (by kernel_rfl) (fun _ _ _ h => h) (by rfl) (by intro w hSw; (try dsimp only at hSw); go_split_ands; first | (go_simp; done) | (go_simp; with_reducible rfl)) HS ?_
                      simp only [List.getElem_toArray, List.getElem_cons_zero, List.getElem_cons_succ, Act.put, List.setIfInBounds_toArray, List.set_cons_zero, List.set_cons_succ]
                      refine atK_take (i := 2) rfl (by kernel_rfl) (by kernel_rfl) (by kernel_rfl) (by kernel_rfl) (fun _ _ _ h => h) (by rfl) (by intro w hSw; (try dsimp only at hSw); go_split_ands; first | (go_simp; done) | (go_simp; with_reducible rfl)) HS ?_
                      simp only [List.getElem_toArray, List.getElem_cons_zero, List.getElem_cons_succ, Act.put, List.setIfInBounds_toArray, List.set_cons_zero, List.set_cons_succ]
                      refine atK_take (i := 3) rfl (by kernel_rfl) (by kernel_rfl) (by kernel_rfl) (by kernel_rfl) (fun _ _ _ h => h) (by rfl) (by intro w hSw; (try dsimp only at hSw); go_split_ands; first | (go_simp; done) | (go_simp; with_reducible rfl)) HS ?_
                      simp only [List.getElem_toArray, List.getElem_cons_zero, List.getElem_cons_succ, Act.put, List.setIfInBounds_toArray, List.set_cons_zero, List.set_cons_succ]
                      refine atK_take (i := 4) rfl (by kernel_rfl) (by kernel_rfl) (by kernel_rfl) (by kernel_rfl) (fun _ _ _ h => h) (by rfl) (by intro w hSw; (try dsimp only at hSw); go_split_ands; first | (go_simp; done) | (go_simp; with_reducible rfl)) HS ?_
                      simp only [List.getElem_toArray, List.getElem_cons_zero, List.getElem_cons_succ, Act.put, List.setIfInBounds_toArray, List.set_cons_zero, List.set_cons_succ]
                      refine atK_take (i := 5) rfl (by kernel_rfl) (by kernel_rfl) (by kernel_rfl) (by kernel_rfl) (fun _ _ _ h => h) (by rfl) (by intro w hSw; (try dsimp only at hSw); go_split_ands; first | (go_simp; done) | (go_simp; with_reducible rfl)) HS ?_
                      simp only [List.getElem_toArray, List.getElem_cons_zero, List.getElem_cons_succ, Act.put, List.setIfInBounds_toArray, List.set_cons_zero, List.set_cons_succ]
                      refine atK_take (i := 6) rfl (by kernel_rfl) (by kernel_rfl) (by kernel_rfl) (by kernel_rfl) (fun _ _ _ h => h) (by rfl) (by intro w hSw; (try dsimp only at hSw); go_split_ands; first | (go_simp; done) | (go_simp; with_reducible rfl)) HS ?_
                      simp only [List.getElem_toArray, List.getElem_cons_zero, List.getElem_cons_succ, Act.put, List.setIfInBounds_toArray, List.set_cons_zero, List.set_cons_succ]
                      refine atK_take (i := 8) rfl (by kernel_rfl) (by kernel_rfl) (by kernel_rfl) (by kernel_rfl) (fun _ _ _ h => h) (by rfl) (by intro w hSw; (try dsimp only at hSw); go_split_ands; first | (go_simp; done) | (go_simp; with_reducible rfl)) HS ?_
                      simp only [List.getElem_toArray, List.getElem_cons_zero, List.getElem_cons_succ, Act.put, List.setIfInBounds_toArray, List.set_cons_zero, List.set_cons_succ]
                      refine atK_take (i := 9) rfl (by kernel_rfl) (by kernel_rfl) (by kernel_rfl) (by kernel_rfl) (fun _ _ _ h => h) (by rfl) (by intro w hSw; (try dsimp only at hSw); go_split_ands; first | (go_simp; done) | (go_simp; with_reducible rfl)) HS ?_
                      simp only [List.getElem_toArray, List.getElem_cons_zero, List.getElem_cons_succ, Act.put, List.setIfInBounds_toArray, List.set_cons_zero, List.set_cons_succ]
                      refine atK_take (i := 10) rfl (by kernel_rfl) (by kernel_rfl) (by kernel_rfl) (by kernel_rfl) (fun _ _ _ h => h) (by rfl) (by intro w hSw; (try dsimp only at hSw); go_split_ands; first | (go_simp; done) | (go_simp; with_reducible rfl)) HS ?_
                      simp only [List.getElem_toArray, List.getElem_cons_zero, List.getElem_cons_succ, Act.put, List.setIfInBounds_toArray, List.set_cons_zero, List.set_cons_succ]
                      refine atK_take (i := 11) rfl (by kernel_rfl) (by kernel_rfl) (by kernel_rfl) (by kernel_rfl) (fun _ _ _ h => h) (by rfl) (by intro w hSw; (try dsimp only at hSw); go_split_ands; first | (go_simp; done) | (go_simp; with_reducible rfl)) HS ?_
                      simp only [List.getElem_toArray, List.getElem_cons_zero, List.getElem_cons_succ, Act.put, List.setIfInBounds_toArray, List.set_cons_zero, List.set_cons_succ]
                      refine atK_take (i := 12) rfl (by kernel_rfl) (by kernel_rfl) (by kernel_rfl) (by kernel_rfl) (fun _ _ _ h => h) (by rfl) (by intro w hSw; (try dsimp only at hSw); go_split_ands; first | (go_simp; done) | (go_simp; with_reducible rfl)) HS ?_
                      simp only [List.getElem_toArray, List.getElem_cons_zero, List.getElem_cons_succ, Act.put, List.setIfInBounds_toArray, List.set_cons_zero, List.set_cons_succ]
                      refine atK_one (i := 7) (by kernel_rfl) rfl (fun K' hK => ?_)
                      refine step_call (by rfl) (f := 37) Tryd.func37 (by kernel_rfl) (by kernel_rfl) (by rfl) #[.slice (some rd) n ck] (by kernel_rfl) ?_
                      refine (CL.out _ bdd).mono ?_
                      rintro e w5 ⟨u, rfl, ou, hb5⟩
                      obtain ⟨Au, cu, rfl, _, _⟩ := own_form ou
                      have b5 : Below wi.heap.size wi w5 := bdd.trans hb5
                      refine ⟨_, rfl, ?_⟩
                      refine hK.out _ _ (fun _ => KEEP.out _ b5) ?_
                      clear hK K'
                      try simp only [List.getElem_toArray, List.getElem_cons_zero, List.getElem_cons_succ, Act.put, List.setIfInBounds_toArray, List.set_cons_zero, List.set_cons_succ]
                      refine atK_one (i := 13) (by kernel_rfl) rfl (fun K' hK => ?_)
                      refine step_append_any _ (by rfl) (.tmp 88) (.tmp 93) 40 (by rfl) wi.heap.size 3 z0 _ 1 8 Tryd.underlying40 hzI hzz0 hzz1 hzz2 (by rfl) (by decide) _ n (inCells x) (by rfl) ou w.heap.size (some sd) n' dk (inCells y) (by rfl) (by have := RY.out.belowW BWI.out.size b5; rw [hyl] at this; exact this) (inCells_one y) (by unfold maxLen; omega) (by omega) b5.size ?_
                      intro v6 w6 ho6 hg6 hd6
                      obtain ⟨A6', c6', rfl, _, _⟩ := own_form ho6
                      have b6 : Below wi.heap.size wi w6 := b5.grown hg6 b5.size (fun g e => (ou.lt g e).1)
                      have OU := Lib.hid (show w6.ownsRow wi.heap.size 3 1 (.slice A6' (n + n') c6') (x ++ y).length (inCells (x ++ y)) by rw [inCells_append, List.length_append, hxl, hyl]; exact ho6)
                      refine hK.out _ _ (fun _ => KEEP.out _ b6) ?_
                      clear hK K' ou ho6 hg6 hd6 hb5
                      try simp only [List.getElem_toArray, List.getElem_cons_zero, List.getElem_cons_succ, Act.put, List.setIfInBounds_toArray, List.set_cons_zero, List.set_cons_succ]
                      refine atK_one (i := 14) (by kernel_rfl) rfl (fun K' hK => ?_)
                      rw [if_pos (by rfl)]
                      go_simp
                      refine hK.out _ _ (fun _ => KEEP.out _ (b6.alloc b6.size _)) ?_
                      clear hK K'
                      try simp only [List.getElem_toArray, List.getElem_cons_zero, List.getElem_cons_succ, Act.put, List.setIfInBounds_toArray, List.set_cons_zero, List.set_cons_succ]
                      refine atK_one (i := 15) (by kernel_rfl) rfl (fun K' hK => ?_)
                      refine step_append_any _ (by rfl) (.tmp 82) (.tmp 95) 24 (by rfl) Z 40 j0 _ 1 24 Tryd.underlying24 hjI hjz0 hjz1 hjz2 (by rfl) (by decide) _ q vs (by rfl) ((own_below OW.out b6).alloc _) (w6.heap.size + 1) (some ⟨w6.heap.size, 0, none⟩) 1 1 [.slice A6' (n + n') c6'] (by rfl) ⟨rfl, fun _ => ⟨_, rfl, by simp, cells_new _ _ _⟩⟩ (oneCells rfl) (by unfold maxLen; omega) (by omega) (by have := b6.size; simp; omega) ?_
                      intro v7 w7 ho7 hg7 hd7
                      obtain ⟨A7, c7, rfl, _, _⟩ := own_form ho7
                      have PU := Lib.hid (hh.out.push (r := x ++ y) OU.out b6 (by rw [hq]; exact ho7) hg7 hd7)
                      have F7 := ((hh.out.go b6).blk.alloc (.cells #[.slice A6' (n + n') c6'] 40)).grown hg7 (fun e => by have := hh.out.rvge _ e.symm; omega)
                      have F7c := F7.cell 1
                      have F7f := F7.frozen 1
                      simp at F7c
                      have hzd : ∀ g, (Value.slice A9 q c9).ownBlock = some g → Z ≤ g := hh.out.rvge
                      have hab : (ad.add k).block < w.heap.size := by rw [block_of_add]; exact hadb
                      have hbb : (bd.add j).block < w.heap.size := by rw [block_of_add]; exact hbdb
                      have hbase := hh.out.base
                      have hTw := hh.out.blk.lt
                      have hww := BWI.out.size
                      have KEEP7 := Lib.hid (fun (p : Addr) (hp : p.block < wi.heap.size) (hne : p.block < Z) (v : Value) (hc : wi.cell? p = some v) => show w7.cell? p = some v from (World.cell?_of_block ((hg7.block _ (by have := b6.size; simp; omega) (fun e => by have := hzd _ e.symm; omega)).trans ((Below.heap_alloc _ _ _ (by have := b6.size; omega)).trans (b6.block _ hp)))).trans hc)
                      have HS7 : w7.cell? ⟨T, 1, none⟩ = some (.slice A9 q c9) ∧ w7.cell? ⟨w.heap.size, 1, none⟩ = some (.slice (some ad) m d) ∧ w7.cell? ⟨w.heap.size + 1, 1, none⟩ = some (.slice (some bd) m' d') ∧ w7.cell? (ad.add k) = some (.slice (some rd) n ck) ∧ w7.cell? (bd.add j) = some (.slice (some sd) n' dk) := ⟨KEEP7.out ⟨T, 1, none⟩ hTw htz _ HS0.1, KEEP7.out ⟨w.heap.size, 1, none⟩ (show w.heap.size < _ by omega) (show w.heap.size < _ by omega) _ HS0.2.1, KEEP7.out ⟨w.heap.size + 1, 1, none⟩ (show w.heap.size + 1 < _ by omega) (show w.heap.size + 1 < _ by omega) _ HS0.2.2.1, KEEP7.out (ad.add k) (by omega) (by omega) _ HS0.2.2.2.1, KEEP7.out (bd.add j) (by omega) (by omega) _ HS0.2.2.2.2⟩
                      refine hK.out _ _ (fun _ => HS7) ?_
                      clear hK K' ho7 hg7 hd7 KEEP7
                      try simp only [List.getElem_toArray, List.getElem_cons_zero, List.getElem_cons_succ, Act.put, List.setIfInBounds_toArray, List.set_cons_zero, List.set_cons_succ]
                      refine atK_take (i := 16) rfl (by kernel_rfl) (by kernel_rfl) (by kernel_rfl) (by kernel_rfl) (fun _ _ _ h => h) (by rfl) (by intro w hSw; (try dsimp only at hSw); go_split_ands; first | (go_simp; done) | (go_simp; with_reducible rfl)) HS7 ?_
                      simp only [List.getElem_toArray, List.getElem_cons_zero, List.getElem_cons_succ, Act.put, List.setIfInBounds_toArray, List.set_cons_zero, List.set_cons_succ]
                      refine atK_one (i := 17) (by kernel_rfl) rfl (fun K' hK => ?_)
                      rw [if_pos (by rfl)]
                      go_simp
                      refine hK.out _ _ (fun h => absurd rfl h) ?_
                      clear hK K'
                      try simp only [List.getElem_toArray, List.getElem_cons_zero, List.getElem_cons_succ, Act.put, List.setIfInBounds_toArray, List.set_cons_zero, List.set_cons_succ]
                      refine atK_done (by kernel_rfl) ?_ _
                      refine NoPanic.normal ?_
                      have P7 := PU.out
                      rw [List.append_assoc, ← joinK_yes HYK.out.1 (show x.getD ca 0 = y.getD cb 0 by rw [List.getD_eq_getElem?_getD, List.getD_eq_getElem?_getD, HXK.out.2, HYK.out.2])] at P7
                      have PP := Lib.hid P7
                      clear P7 PU F7 F7c F7f
                      go_wp2_with fail
                      go_roundw
                      case rel => exact ⟨j + 1, _, _, by omega, by go_num, PP⟩
                      case measure => simp [intOf]; omega
                    · go_wp2_with fail
                      go_region_held3 (fun w' => w'.cell? ⟨w.heap.size, 0, none⟩ = some (.slice A n c) ∧ w'.cell? ⟨w.heap.size, 1, none⟩ = some (.slice (some ad) m d) ∧ w'.cell? ⟨w.heap.size + 1, 0, none⟩ = some (.slice A' n' c') ∧ w'.cell? ⟨w.heap.size + 1, 1, none⟩ = some (.slice (some bd) m' d') ∧ w'.cell? (ad.add k) = some (.slice (some rd) n ck) ∧ w'.cell? (bd.add j) = some (.slice (some sd) n' dk) ∧ w'.cell? (rd.add ca) = some (.int .i64 xv) ∧ w'.cell? (sd.add cb) = some (.int .i64 yv))
                        (first | assumption | go_keep)
                        (first | (go_at_call 29; with_reducible refine (LXA.out _ (BWI.out.drew)).mono ?_; rintro e w' ⟨rfl, rfl⟩) | (go_at_call 29; with_reducible refine (LXB.out _ (BWI.out.drew)).mono ?_; rintro e w' ⟨rfl, rfl⟩))
                      go_wp2_with fail
                      go_roundw
                      case rel => exact ⟨j + 1, vs, ov, by omega, by go_num, by rw [joinK_no HYK.out.1 (by
                        rw [List.getD_eq_getElem?_getD, List.getD_eq_getElem?_getD, HXK.out.2, HYK.out.2]; exact he)]; exact hh.out.drew⟩
                      case measure => simp [intOf]; omega
                  · obtain rfl : j = m' := by omega
                    go_wp2_with fail
                    have H2 := hh.out
                    rw [List.take_of_length_le (show rb.length ≤ j by have := HNM'.out.2; omega), ← joinA_next HXK.out.1] at H2
                    have HH2 := Lib.hid H2
                    clear H2
                    go_roundw
                    case rel => exact ⟨k + 1, vs, ov, by omega, by go_num, HH2⟩
                    case measure => simp [intOf]; omega
              · obtain rfl : k = m := by omega
                have H2 := hh.out
                rw [List.take_of_length_le (by have := HNM.out.2; omega)] at H2
                have HH2 := Lib.hid H2
                obtain ⟨A9, c9, e9, _, _, _⟩ := H2.rows.form
                obtain ⟨J, hJ⟩ : ∃ J, joinA ca cb ra rb = J := ⟨_, rfl⟩
                rw [hJ] at HH2 e9
                have HJ := Lib.hid hJ
                obtain ⟨q, hq⟩ : ∃ q, J.length = q := ⟨_, rfl⟩
                rw [hq] at e9
                subst e9
                have T0 : TabO wo w3.heap.size (.agg #[.slice A6 (n + n') c6, .slice A9 q c9]) (na ++ nb) J := ⟨_, _, rfl, HH2.out.own, vs, HH2.out.rows.low (by have := HH2.out.base; have := HH2.out.tz; omega)⟩
                obtain ⟨u, hu⟩ : ∃ u, tableB (na ++ nb) J = u := ⟨_, rfl⟩
                have SV := Lib.hid (specTab_any u _ _ _ wo T0.reads (by rw [← HJ.out, ← HCA.out, ← HCB.out]; exact join_ok HQ.out.2 HQ.out.1) hu)
                have HJB := Lib.hid (show joinB na ra nb rb l r = u by
                  unfold joinB
                  rw [HQ.out.1, HQ.out.2, HP.out.1, HP.out.2, HCA.out, HCB.out, HJ.out, hu]
                  rfl)
                have HT0 := Lib.hid T0
                have z0 := HH2.out.blk.cell 0
                have z1 := HH2.out.blk.cell 1
                simp at z0 z1
                have KB := Lib.hid HH2.out.blk
                have hTlt := HH2.out.blk.lt
                clear hh H2 HH2 T0 hJ hu hq
                go_wp2_with fail
                refine SV.out.mono ?_
                rintro e w5 ⟨rfl, b5⟩
                obtain ⟨_, _, k3, B5⟩ := KO.out
                have K35 := Lib.hid (k3.below b5 k3.lt)
                have B5' := Lib.hid (B5.trans (b5.mono B5.size))
                have T5 := HT0.out.below b5
                have KB5 := KB.out.below b5 hTlt
                clear z0 z1 k3 B5 b5 KO xa1
                have z0 := KB5.cell 0
                have z1 := KB5.cell 1
                simp at z0 z1
                have y0 := K35.out.cell 0
                have y1 := K35.out.cell 1
                have y0f := K35.out.frozen 0
                have y1f := K35.out.frozen 1
                simp at y0 y1
                cases u
                · 
                  have RS := Lib.hid (res_store B5'.out K35.out (by omega) (.slice none 0 0) (.slice none 0 0))
                  go_wp2_with fail
                  obtain ⟨r0, r1, rb, _⟩ := RS.out
                  obtain ⟨rfl, rfl, rfl⟩ := HL.out.no HJB.out
                  clear RS y0 y1 y0f y1f z0 z1
                  generalize ((w5.setCell ⟨w.heap.size + 1 + 1, 0, none⟩ (.slice none 0 0)).setCell ⟨w.heap.size + 1 + 1, 1, none⟩ (.slice none 0 0)) = w6 at r0 r1 rb ⊢
                  exact bodyPost_ret (v := .tuple #[.agg #[.slice none 0 0, .slice none 0 0], .bool false]) (by simp [results, Tryd.results15, go_sem, r0, r1]) rfl (TabO.nilRes rb)
                · obtain ⟨rfl, rfl, rfl⟩ := HL.out.yes HJB.out
                  have Q2 := Lib.hid (res_end (g := w.heap.size + 1 + 1) B5'.out K35.out (by omega) T5 (by omega))
                  clear T5 KB5
                  go_wp2_with fail
                  obtain ⟨r0, r1, RR⟩ := Q2.out
                  clear Q2 y0 y1 y0f y1f z0 z1
                  generalize ((w5.setCell ⟨w.heap.size + 1 + 1, 0, none⟩ (.slice A6 (n + n') c6)).setCell ⟨w.heap.size + 1 + 1, 1, none⟩ (.slice A9 q c9)) = w6 at r0 r1 RR ⊢
                  have hJe : joinA (colN na l) (colN nb r) ra rb = J := by rw [HCA.out, HCB.out]; exact HJ.out
                  rw [hJe]
                  exact bodyPost_ret (v := .tuple #[.agg #[.slice A6 (n + n') c6, .slice A9 q c9], .bool true]) (by simp [results, Tryd.results15, go_sem, r0, r1]) rfl RR
end Go.Proofs.YtijpdekcdejfmaaDoor
