/- TakeReal: the reference's and the program's. -/
import Derived.Test.YtbhklgiecfcfcaaDoorRes
import Derived.Test.YtbhklgiecfcfcaaDoorPadR
import Derived.Deep.RegionLaw
namespace Go.Proofs.YtbhklgiecfcfcaaDoor
open Go Go.RowKit
set_option maxRecDepth 100000
def realR : List (List Int) → List Bool → List (List Int)
  | r :: rs, b :: bs => if b then r :: realR rs bs else realR rs bs
  | _, _ => []
theorem realR_next : ∀ (rows : List (List Int)) (real : List Bool) (k : Nat) (r : List Int) (b : Bool), rows[k]? = some r → real[k]? = some b → realR (rows.take (k + 1)) (real.take (k + 1)) = realR (rows.take k) (real.take k) ++ (if b then [r] else [])
  | [], _, _, _, _, h, _ => by simp at h
  | _ :: _, [], _, _, _, _, h => by simp at h
  | r0 :: rs, b0 :: bs, 0, r, b, h, g => by
    simp at h g
    subst h g
    cases b0 <;> simp [realR]
  | r0 :: rs, b0 :: bs, k + 1, r, b, h, g => by
    simp only [List.take_succ_cons, realR]
    rw [realR_next rs bs k r b (by simpa using h) (by simpa using g)]
    cases b0 <;> simp
theorem realR_mem : ∀ (rows : List (List Int)) (real : List Bool), ∀ r ∈ realR rows real, r ∈ rows
  | [], _, _, h => by simp [realR] at h
  | _ :: _, [], _, h => by simp [realR] at h
  | r0 :: rs, b0 :: bs, r, h => by
    cases b0
    · simp [realR] at h
      exact List.mem_cons_of_mem _ (realR_mem rs bs r h)
    · simp [realR] at h
      rcases h with rfl | h
      · exact List.mem_cons_self ..
      · exact List.mem_cons_of_mem _ (realR_mem rs bs r h)
theorem realR_len : ∀ (rows : List (List Int)) (real : List Bool), (realR rows real).length ≤ rows.length
  | [], _ => by simp [realR]
  | _ :: _, [] => by simp [realR]
  | r0 :: rs, b0 :: bs => by
    have := realR_len rs bs
    cases b0 <;> simp [realR] <;> omega
theorem realR_count : ∀ (rows : List (List Int)) (real : List Bool), real.length = rows.length → (realR rows real).length = cntB real
  | [], [], _ => by simp [realR, cntB]
  | _ :: _, [], h => by simp at h
  | [], _ :: _, h => by simp at h
  | r0 :: rs, b0 :: bs, h => by
    have := realR_count rs bs (by simpa using h)
    unfold cntB at this ⊢
    cases b0 <;> simp [realR, this]
theorem padB_len {names : List ByteArray} {rows : List (List Int)} {real : List Bool} (h : padB names rows real = true) : real.length = rows.length := by
  simp only [padB, Bool.and_eq_true, decide_eq_true_eq] at h
  exact h.2.2.1
def takB (names : List ByteArray) (rows : List (List Int)) (real : List Bool) : Bool := padB names rows real && decide (cntB real ≤ 16)
def TakIs (names : List ByteArray) (rows : List (List Int)) (real : List Bool) (ok : Bool) (N : List ByteArray) (R : List (List Int)) : Prop := takB names rows real = ok ∧ N = (if takB names rows real then names else []) ∧ R = (if takB names rows real then realR rows real else [])
section
variable {names N : List ByteArray} {rows R : List (List Int)} {real : List Bool} {ok : Bool}
theorem TakIs.no (h : TakIs names rows real ok N R) (hb : takB names rows real = false) : ok = false ∧ N = [] ∧ R = [] := by
  obtain ⟨rfl, rfl, rfl⟩ := h
  simp [hb]
theorem TakIs.yes (h : TakIs names rows real ok N R) (hb : takB names rows real = true) : ok = true ∧ N = names ∧ R = realR rows real := by
  obtain ⟨rfl, rfl, rfl⟩ := h
  simp [hb]
theorem TakIs.ex (names : List ByteArray) (rows : List (List Int)) (real : List Bool) : ∃ ok N R, TakIs names rows real ok N R := ⟨_, _, _, rfl, rfl, rfl⟩
theorem TakIs.small (h : TakIs names rows real ok N R) (hsp : SmallP names rows real) : Small N R := by
  have hs := hsp.t
  cases hb : takB names rows real with
  | false => obtain ⟨_, rfl, rfl⟩ := h.no hb; exact Small.none_
  | true =>
    obtain ⟨_, rfl, rfl⟩ := h.yes hb
    exact ⟨hs.n1, hs.n2, Nat.le_trans (realR_len _ _) hs.r1, fun r hr => hs.r2 r (realR_mem _ _ r hr)⟩
end
set_option maxHeartbeats 3200000 in
theorem specTake_any (v : Value) (names : List ByteArray) (rows : List (List Int)) (real : List Bool) (ok : Bool) (N : List ByteArray) (R : List (List Int)) (hL : TakIs names rows real ok N R) (w : World) (ht : PadR w v names rows real) (hs : SmallP names rows real) :
    Calls Tryd.prog 14 #[v] w fun e w' => TabRes w ok N R e w' := by
  have HT := Lib.hid ht
  obtain ⟨A, c, B, d, C, f, rfl, _, hx, hy, hz⟩ := ht
  obtain ⟨i0, hi0, hz0, hz1, hz2⟩ := info_parts infoStr
  obtain ⟨j0, hjI, hjz0, hjz1, hjz2⟩ := info_parts infoRow
  obtain ⟨n, hnn⟩ : ∃ n, names.length = n := ⟨_, rfl⟩
  obtain ⟨m, hmm⟩ : ∃ m, rows.length = m := ⟨_, rfl⟩
  obtain ⟨l, hll⟩ : ∃ l, real.length = l := ⟨_, rfl⟩
  have hn1 := hs.t.n1
  have hm1 := hs.t.r1
  have HR2 := Lib.hid hs.t.r2
  rw [hnn] at hx hn1
  rw [hmm] at hy hm1
  rw [hll] at hz
  rw [hnn, hmm, hll] at HT ⊢
  obtain ⟨w1, hw1⟩ : ∃ w1, w1 = (w.alloc (.cells #[.slice A n c, .slice B m d, .slice C l f] 37)).alloc (.cells #[nilV, nilV] 26) := ⟨_, rfl⟩
  have b1 : Below w.heap.size w w1 := by rw [hw1]; exact ((Below.refl _ _).alloc (Nat.le_refl _) _).alloc (by simp) _
  have hs1 : w1.heap.size = w.heap.size + 1 + 1 := by rw [hw1]; simp
  have k1 : Blk w1 w.heap.size 37 #[.slice A n c, .slice B m d, .slice C l f] := by rw [hw1]; exact (Blk.new _ _ _).alloc _
  have k2 : Blk w1 (w.heap.size + 1) 26 #[.slice none 0 0, .slice none 0 0] := by
    have := Blk.new (w.alloc (.cells #[.slice A n c, .slice B m d, .slice C l f] 37)) 26 #[nilV, nilV]
    rw [World.size_alloc] at this
    rw [hw1]; exact this
  have c0 := k1.cell 0
  have c1 := k1.cell 1
  have c2 := k1.cell 2
  simp at c0 c1 c2
  obtain ⟨q, hq⟩ : ∃ q, padB names rows real = q := ⟨_, rfl⟩
  obtain ⟨p, hp⟩ : ∃ p, decide (cntB real ≤ 16) = p := ⟨_, rfl⟩
  have ST := Lib.hid (specPad_any q _ names rows real w1 (HT.out.below b1) hs hq)
  have RE := Lib.hid (fun (w' : World) (h : Below w.heap.size w w') => specReal_any q _ names rows real w' (HT.out.below h) hs hq)
  have hlim : takB names rows real = (q && p) := by simp [takB, hq, hp]
  have HW := Lib.hid hw1
  have HP := Lib.hid hp
  have HQ := Lib.hid hq
  have HX := Lib.hid hx
  have HY := Lib.hid hy
  have HZ := Lib.hid hz
  have HNM := Lib.hid (And.intro hnn (And.intro hmm hll))
  have K12 := Lib.hid (And.intro k1 k2)
  have B1 := Lib.hid b1
  have HLIM := Lib.hid hlim
  have HL := Lib.hid hL
  obtain ⟨cn, hcn⟩ : ∃ cn, cntB real = cn := ⟨_, rfl⟩
  rw [hcn] at RE
  have HC := Lib.hid hcn
  clear hs HT hnn hmm hll hq hp hw1 k1 k2 b1 hlim hL hx hy hz hcn
  go_enter Tryd.func14, Tryd.ntmps14
  go_wp2_with fail
  rw [← HW.out]
  refine ST.out.mono ?_
  rintro e w2 ⟨rfl, b2⟩
  have B2 := Lib.hid (B1.out.trans (b2.mono B1.out.size))
  have k1 := K12.out.1.below b2 K12.out.1.lt
  have K2 := K12.out.2.below b2 K12.out.2.lt
  have x0 := k1.cell 0
  have x1 := k1.cell 1
  have x2 := k1.cell 2
  have y0 := K2.cell 0
  have y1 := K2.cell 1
  have f0 := K2.frozen 0
  have f1 := K2.frozen 1
  simp at x0 x1 x2 y0 y1
  have KK1 := Lib.hid k1
  have KK2 := Lib.hid K2
  have hw2n : w.heap.size + 1 + 1 ≤ w2.heap.size := Nat.le_trans (Nat.le_of_eq hs1.symm) b2.size
  clear c0 c1 c2 k1 K2 b2 K12
  cases q
  · have RS := Lib.hid (res_store B2.out KK2.out (Nat.le_succ _) (.slice none 0 0) (.slice none 0 0))
    go_wp2_with fail
    obtain ⟨r0, r1, rb, _⟩ := RS.out
    obtain ⟨rfl, rfl, rfl⟩ := HL.out.no (HLIM.out.trans (by rfl))
    clear RS
    generalize ((w2.setCell ⟨w.heap.size + 1, 0, none⟩ (.slice none 0 0)).setCell ⟨w.heap.size + 1, 1, none⟩ (.slice none 0 0)) = w6 at r0 r1 rb ⊢
    exact bodyPost_ret (v := .tuple #[.agg #[.slice none 0 0, .slice none 0 0], .bool false]) (by simp [results, Tryd.results14, go_sem, r0, r1]) rfl (TabO.nilRes rb)
  · have RE2 := Lib.hid (RE.out w2 B2.out)
    simp only [if_true] at RE2
    clear RE ST
    go_wp2_with fail
    refine RE2.out.mono ?_
    rintro e w3 ⟨rfl, b3⟩
    have B3 := Lib.hid (B2.out.trans (b3.mono B2.out.size))
    have k1 := KK1.out.below b3 KK1.out.lt
    have K2 := KK2.out.below b3 KK2.out.lt
    have hw3n : w.heap.size + 1 + 1 ≤ w3.heap.size := Nat.le_trans hw2n b3.size
    clear x0 x1 x2 y0 y1 f0 f1
    have x0 := k1.cell 0
    have x1 := k1.cell 1
    have x2 := k1.cell 2
    have y0 := K2.cell 0
    have y1 := K2.cell 1
    have f0 := K2.frozen 0
    have f1 := K2.frozen 1
    simp at x0 x1 x2 y0 y1
    have JK1 := Lib.hid k1
    have JK2 := Lib.hid K2
    clear k1 K2 b3 KK1 KK2 RE2
    cases p
    · have RS := Lib.hid (res_store B3.out JK2.out (Nat.le_succ _) (.slice none 0 0) (.slice none 0 0))
      have h16 : (16 : Int) < (cn : Int) := by have := of_decide_eq_false HP.out; rw [HC.out] at this; omega
      go_wp2_with fail
      obtain ⟨r0, r1, rb, _⟩ := RS.out
      obtain ⟨rfl, rfl, rfl⟩ := HL.out.no (HLIM.out.trans (by rfl))
      clear RS
      generalize ((w3.setCell ⟨w.heap.size + 1, 0, none⟩ (.slice none 0 0)).setCell ⟨w.heap.size + 1, 1, none⟩ (.slice none 0 0)) = w6 at r0 r1 rb ⊢
      exact bodyPost_ret (v := .tuple #[.agg #[.slice none 0 0, .slice none 0 0], .bool false]) (by simp [results, Tryd.results14, go_sem, r0, r1]) rfl (TabO.nilRes rb)
    · have h16 : ¬ (16 : Int) < (cn : Int) := by have := of_decide_eq_true HP.out; rw [HC.out] at this; omega
      obtain ⟨rfl, rfl, rfl⟩ := HL.out.yes (HLIM.out.trans (by rfl))
      have hlm : l = m := by rw [← HNM.out.2.1, ← HNM.out.2.2]; exact padB_len HQ.out
      subst hlm
      have om := World.ownsRow_made (base := w3.heap.size) (e := 9) (size := 1) w3 #[] 0 (Nat.le_refl _) (by unfold maxLen; omega) rfl
      have c0 := (JK1.out.alloc (.cells #[] 9)).cell 0
      simp at c0
      have HX3 := Lib.hid (((HX.out.below B3.out).more B3.out.size).alloc (Nat.le_refl _) (.cells #[] 9))
      have HY3 := Lib.hid (HY.out.below B3.out)
      have HZ3 := Lib.hid ((HZ.out.below B3.out).more B3.out.size)
      have hNn := HNM.out.1
      have hmm := HNM.out.2.1
      have hll := HNM.out.2.2
      have HN' := Lib.hid hNn
      have HMM := Lib.hid hmm
      have HLL := Lib.hid hll
      clear hNn hmm hll HX HY HZ HW HQ HLIM HL HNM HP x0 x1 x2 y0 y1 f0 f1 hs1
      go_wp2_with (first
        | (at_builtin; refine wpList_append_any _ rfl _ _ 23 rfl w3.heap.size 9 i0 _ 1 16 Tryd.underlying23 hi0 hz0 hz1 hz2 rfl (by omega) _ 0 [] rfl om w3.heap.size _ n c (stCells N) rfl HX3.out (stOne _) (by unfold maxLen; omega) (by omega) (by simp) ?_; intro v5 w5 hown5 hg5 hat5; rw [List.nil_append, Nat.zero_add] at hown5; obtain ⟨A5, c5, rfl, _, _⟩ := own_form hown5))
      have hsz5 := hg5.size
      have hb5 : Below w3.heap.size w3 w5 := ((Below.refl _ _).alloc (Nat.le_refl _) _).grown hg5 (by simp) (fun g e => by simp [Act.eval, Value.ownBlock] at e ⊢; omega)
      have hb5s := hb5.size
      have START : Hid (Half w3 (w5.alloc (.cells #[.slice A5 n c5, .slice none 0 0] 26)) w3.heap.size w5.heap.size 26 #[.slice A5 n c5, .slice none 0 0] (.slice A5 n c5) (.slice none 0 0) N [] []) :=
        Lib.hid ⟨Blk.new _ _ _, by rw [HN'.out]; exact hown5.alloc _, fun g e => (hown5.lt g e).2, RowsV.nil _ _ _, hb5.alloc hb5s _, hb5s⟩
      clear om c0 hb5 hsz5 hg5 hat5 hown5 HX3
      go_loopw [5] (fun kv wr => ∃ (k : Nat) (vs : List Value) (ov : Value), k ≤ l ∧ kv = .int .i64 k ∧ Hid (Half w3 wr w3.heap.size w5.heap.size 26 #[.slice A5 n c5, ov] (.slice A5 n c5) ov N vs (realR (rows.take k) (real.take k)))) (fun kv _ => l - (intOf kv).toNat)
      case atStart => exact ⟨0, [], _, Nat.zero_le _, rfl, by rw [List.take_zero, List.take_zero]; exact START⟩
      case round =>
        clear START
        obtain ⟨k, vs, ov, hk, rfl, hh⟩ := hrel
        have hk0 : (0 : Int) ≤ (k : Int) := Int.natCast_nonneg _
        have kk := JK1.out.below hh.out.below JK1.out.lt
        have x1 := kk.cell 1
        have x2 := kk.cell 2
        simp at x1 x2
        clear kk
        by_cases hlt : k < l
        · have hk1 : (k : Int) < (l : Int) := by omega
          obtain ⟨ad, row, Ak, ck, rfl, hadb, hrow, e1, g1, g2, g3, rr⟩ := (HY3.out.belowW (Nat.le_refl _) hh.out.below).at_ hlt
          obtain ⟨bd, b, rfl, hbb, hbk, e2⟩ := bo_at (HZ3.out.belowW (Nat.le_refl _) hh.out.below) HLL.out hlt
          have NX := realR_next rows real k row b hrow hbk
          cases b
          · go_wp2_with fail
            go_roundw
            case rel => exact ⟨k + 1, vs, ov, by omega, by go_num, by rw [NX]; simpa using hh⟩
            case measure => simp [intOf]; omega
          · have CL := Lib.hid (fun (w' : World) (h' : Below wr.heap.size wr w') => l1Copy_any Ak row.length ck row w' ((rr.belowW hh.out.below.size h').more (Nat.le_trans hh.out.below.size h'.size)) (by have := HR2.out row (List.mem_of_getElem? hrow); omega))
            obtain ⟨t, hlk⟩ : ∃ t, (realR (rows.take k) (real.take k)).length = t := ⟨_, rfl⟩
            have htk : t ≤ k := by rw [← hlk]; exact Nat.le_trans (realR_len _ _) (by rw [List.length_take]; omega)
            have x3 := hh.out.blk.cell 1
            simp at x3
            obtain ⟨A7, c7, e7, _, _, _⟩ := hh.out.rows.form
            rw [hlk] at e7
            subst e7
            have hwT := hh.out.lt
            have HA7 := Lib.hid hh.out.rvge
            have FIN := Lib.hid (show ∀ (w' : World) (u : Value) (tt : TypeId), w'.ownsRow wr.drew.heap.size 3 1 u row.length (inCells row) → Below wr.drew.heap.size wr.drew w' → ∀ (v6 : Value) (w6 : World), w6.ownsRow (w5.heap.size + 1) 49 1 v6 (t + 1) (vs ++ [u]) → (w'.alloc (.cells #[u] tt)).grownBy w6 (Value.slice A7 t c7).ownBlock → (v6.ownBlock = (Value.slice A7 t c7).ownBlock ∨ v6.ownBlock = some (w'.alloc (.cells #[u] tt)).heap.size) →
                Hid (Half w3 (w6.setCell ⟨w5.heap.size, 1, none⟩ v6) w3.heap.size w5.heap.size 26 #[.slice A5 n c5, v6] (.slice A5 n c5) v6 N (vs ++ [u]) (realR (rows.take (k + 1)) (real.take (k + 1)))) from by
              intro w' u tt ou hb v6 w6 ho6 hg6 hd6
              rw [NX]
              exact Lib.hid (hh.out.drew.push ou hb (by rw [hlk]; exact ho6) hg6 hd6))
            clear hrow g3 rr hadb NX hbk hbb
            go_wp2_with fail
            go_region_law (first
                | (refine step_call (by rfl) (f := 39) Tryd.func39 (by kernel_rfl) (by kernel_rfl) (by rfl) #[.slice Ak row.length ck] (by kernel_rfl) ?_; refine (CL.out _ ((Below.refl _ _).drew)).mono ?_; rintro e w' ⟨u, rfl, ou, hb'⟩; obtain ⟨Au, cu, rfl, _, _⟩ := own_form ou; have x3' := below_keep hb' (show wr.drew.cell? ⟨w5.heap.size, 1, none⟩ = _ from x3); refine ⟨_, rfl, ?_⟩; have x3a := fun o => (World.cell?_alloc_some w' ⟨w5.heap.size, 1, none⟩ o (by rw [x3']; rfl)).trans x3')
                | ((refine step_append_any _ (by rfl) (.tmp 33) (.tmp 40) 24 (by rfl) (w5.heap.size + 1) 49 j0 _ 1 24 Tryd.underlying24 hjI hjz0 hjz1 hjz2 (by rfl) (by decide) _ t vs (by rfl) (by have h := (hh.out.drew.go hb').rows.own; rw [hlk] at h; exact h.alloc _) (w'.heap.size + 1) (some ⟨w'.heap.size, 0, none⟩) 1 1 [.slice Au row.length cu] (by rfl) ⟨rfl, fun _ => ⟨_, rfl, by simp, cells_new _ _ _⟩⟩ (oneCells rfl) (by unfold maxLen; omega) (by omega) (by have h := hb'.size; have h2 : wr.drew.heap.size = wr.heap.size := rfl; simp; omega) ?_; intro v6 w6 ho6 hg6 hd6; obtain ⟨A6, c6, rfl, _, _⟩ := own_form ho6; have F6 := (((hh.out.drew.go hb').blk.alloc _).grown hg6 (fun e => by have := HA7.out _ e.symm; omega)); have F6c := F6.cell 1; have F6f := F6.frozen 1; simp at F6c)))
            all_goals (
              have FF := FIN.out _ _ _ ou hb' _ _ ho6 hg6 hd6
              clear F6 F6c F6f ho6 hg6 hd6
              go_wp2_with fail
              go_roundw
              case rel => exact ⟨k + 1, _, _, by omega, by go_num, FF⟩
              case measure => simp [intOf]; omega)
        · obtain rfl : k = l := by omega
          have hh2 := hh.out
          rw [List.take_of_length_le (by rw [HMM.out]; omega), List.take_of_length_le (by rw [HLL.out]; omega)] at hh2
          obtain ⟨t, hlk⟩ : ∃ t, (realR rows real).length = t := ⟨_, rfl⟩
          obtain ⟨A7, c7, e7, c7l, _, _⟩ := hh2.rows.form
          rw [hlk] at e7
          subst e7
          have z0 := hh2.blk.cell 0
          have z1 := hh2.blk.cell 1
          have K2 := JK2.out.below hh2.below JK2.out.lt
          have y0 := K2.cell 0
          have y1 := K2.cell 1
          have f0 := K2.frozen 0
          have f1 := K2.frozen 1
          simp at y0 y1 z0 z1
          have T0 : TabO wr w3.heap.size (.agg #[.slice A5 n c5, .slice A7 t c7]) N (realR rows real) := ⟨_, _, rfl, hh2.own, vs, hh2.rows.low (Nat.le_trans hh2.base (Nat.le_succ _))⟩
          have Q2 := Lib.hid (res_end (B3.out.trans (hh2.below.mono B3.out.size)) K2 (Nat.le_succ _) T0 hw3n)
          clear K2 T0 hh2 hh
          go_wp2_with fail
          obtain ⟨r0, r1, RR⟩ := Q2.out
          clear Q2
          generalize ((wr.setCell ⟨w.heap.size + 1, 0, none⟩ (.slice A5 n c5)).setCell ⟨w.heap.size + 1, 1, none⟩ (.slice A7 t c7)) = w6 at r0 r1 RR ⊢
          exact bodyPost_ret (v := .tuple #[.agg #[.slice A5 n c5, .slice A7 t c7], .bool true]) (by simp [results, Tryd.results14, go_sem, r0, r1]) rfl RR
set_option maxHeartbeats 3200000 in
theorem implTake_any (v : Value) (names : List ByteArray) (rows : List (List Int)) (real : List Bool) (ok : Bool) (N : List ByteArray) (R : List (List Int)) (hL : TakIs names rows real ok N R) (RA : Option Addr) (RC : Nat) (w : World) (hv : w.cell? ⟨0, 0, none⟩ = some (.slice RA 13 RC)) (hr : Reads w w.heap.size 1 RA 13 (stCells resW)) (ht : PadR w v names rows real) (hs : SmallP names rows real) :
    Calls Tryd.prog 13 #[v] w fun e w' => TabRes w ok N R e w' := by
  have HT := Lib.hid ht
  obtain ⟨A, c, B, d, C, f, rfl, _, hx, hy, hz⟩ := ht
  obtain ⟨i0, hi0, hz0, hz1, hz2⟩ := info_parts infoStr
  obtain ⟨j0, hjI, hjz0, hjz1, hjz2⟩ := info_parts infoRow
  obtain ⟨n, hnn⟩ : ∃ n, names.length = n := ⟨_, rfl⟩
  obtain ⟨m, hmm⟩ : ∃ m, rows.length = m := ⟨_, rfl⟩
  obtain ⟨l, hll⟩ : ∃ l, real.length = l := ⟨_, rfl⟩
  have hn1 := hs.t.n1
  have hm1 := hs.t.r1
  have HR2 := Lib.hid hs.t.r2
  rw [hnn] at hx hn1
  rw [hmm] at hy hm1
  rw [hll] at hz
  rw [hnn, hmm, hll] at HT ⊢
  obtain ⟨w1, hw1⟩ : ∃ w1, w1 = (w.alloc (.cells #[.slice A n c, .slice B m d, .slice C l f] 37)).alloc (.cells #[nilV, nilV] 26) := ⟨_, rfl⟩
  have b1 : Below w.heap.size w w1 := by rw [hw1]; exact ((Below.refl _ _).alloc (Nat.le_refl _) _).alloc (by simp) _
  have hs1 : w1.heap.size = w.heap.size + 1 + 1 := by rw [hw1]; simp
  have k1 : Blk w1 w.heap.size 37 #[.slice A n c, .slice B m d, .slice C l f] := by rw [hw1]; exact (Blk.new _ _ _).alloc _
  have k2 : Blk w1 (w.heap.size + 1) 26 #[.slice none 0 0, .slice none 0 0] := by
    have := Blk.new (w.alloc (.cells #[.slice A n c, .slice B m d, .slice C l f] 37)) 26 #[nilV, nilV]
    rw [World.size_alloc] at this
    rw [hw1]; exact this
  have c0 := k1.cell 0
  have c1 := k1.cell 1
  have c2 := k1.cell 2
  simp at c0 c1 c2
  obtain ⟨q, hq⟩ : ∃ q, padB names rows real = q := ⟨_, rfl⟩
  obtain ⟨p, hp⟩ : ∃ p, decide (cntB real ≤ 16) = p := ⟨_, rfl⟩
  have ST := Lib.hid (implPad_any q _ names rows real RA RC w1 (below_keep b1 hv) ((hr.below b1).more b1.size) (HT.out.below b1) hs hq)
  have RE := Lib.hid (fun (w' : World) (h : Below w.heap.size w w') => reals_any _ names rows real w' (HT.out.below h) hs)
  have hlim : takB names rows real = (q && p) := by simp [takB, hq, hp]
  have HW := Lib.hid hw1
  have HP := Lib.hid hp
  have HQ := Lib.hid hq
  have HX := Lib.hid hx
  have HY := Lib.hid hy
  have HZ := Lib.hid hz
  have HNM := Lib.hid (And.intro hnn (And.intro hmm hll))
  have K12 := Lib.hid (And.intro k1 k2)
  have B1 := Lib.hid b1
  have HLIM := Lib.hid hlim
  have HL := Lib.hid hL
  obtain ⟨cn, hcn⟩ : ∃ cn, cntB real = cn := ⟨_, rfl⟩
  rw [hcn] at RE
  have HC := Lib.hid hcn
  clear hv hr hs HT hnn hmm hll hq hp hw1 k1 k2 b1 hlim hL hx hy hz hcn
  go_enter Tryd.func13, Tryd.ntmps13
  go_wp2_with fail
  rw [← HW.out]
  refine ST.out.mono ?_
  rintro e w2 ⟨rfl, b2⟩
  have B2 := Lib.hid (B1.out.trans (b2.mono B1.out.size))
  have k1 := K12.out.1.below b2 K12.out.1.lt
  have K2 := K12.out.2.below b2 K12.out.2.lt
  have x0 := k1.cell 0
  have x1 := k1.cell 1
  have x2 := k1.cell 2
  have y0 := K2.cell 0
  have y1 := K2.cell 1
  have f0 := K2.frozen 0
  have f1 := K2.frozen 1
  simp at x0 x1 x2 y0 y1
  have KK1 := Lib.hid k1
  have KK2 := Lib.hid K2
  have hw2n : w.heap.size + 1 + 1 ≤ w2.heap.size := Nat.le_trans (Nat.le_of_eq hs1.symm) b2.size
  clear c0 c1 c2 k1 K2 b2 K12
  cases q
  · have RS := Lib.hid (res_store B2.out KK2.out (Nat.le_succ _) (.slice none 0 0) (.slice none 0 0))
    go_wp2_with fail
    obtain ⟨r0, r1, rb, _⟩ := RS.out
    obtain ⟨rfl, rfl, rfl⟩ := HL.out.no (HLIM.out.trans (by rfl))
    clear RS
    generalize ((w2.setCell ⟨w.heap.size + 1, 0, none⟩ (.slice none 0 0)).setCell ⟨w.heap.size + 1, 1, none⟩ (.slice none 0 0)) = w6 at r0 r1 rb ⊢
    exact bodyPost_ret (v := .tuple #[.agg #[.slice none 0 0, .slice none 0 0], .bool false]) (by simp [results, Tryd.results13, go_sem, r0, r1]) rfl (TabO.nilRes rb)
  · have RE2 := Lib.hid (RE.out w2 B2.out)
    clear RE ST
    go_wp2_with fail
    refine RE2.out.mono ?_
    rintro e w3 ⟨rfl, b3⟩
    have B3 := Lib.hid (B2.out.trans (b3.mono B2.out.size))
    have k1 := KK1.out.below b3 KK1.out.lt
    have K2 := KK2.out.below b3 KK2.out.lt
    have hw3n : w.heap.size + 1 + 1 ≤ w3.heap.size := Nat.le_trans hw2n b3.size
    clear x0 x1 x2 y0 y1 f0 f1
    have x0 := k1.cell 0
    have x1 := k1.cell 1
    have x2 := k1.cell 2
    have y0 := K2.cell 0
    have y1 := K2.cell 1
    have f0 := K2.frozen 0
    have f1 := K2.frozen 1
    simp at x0 x1 x2 y0 y1
    have JK1 := Lib.hid k1
    have JK2 := Lib.hid K2
    clear k1 K2 b3 KK1 KK2 RE2
    cases p
    · have RS := Lib.hid (res_store B3.out JK2.out (Nat.le_succ _) (.slice none 0 0) (.slice none 0 0))
      have h16 : (16 : Int) < (cn : Int) := by have := of_decide_eq_false HP.out; rw [HC.out] at this; omega
      go_wp2_with fail
      obtain ⟨r0, r1, rb, _⟩ := RS.out
      obtain ⟨rfl, rfl, rfl⟩ := HL.out.no (HLIM.out.trans (by rfl))
      clear RS
      generalize ((w3.setCell ⟨w.heap.size + 1, 0, none⟩ (.slice none 0 0)).setCell ⟨w.heap.size + 1, 1, none⟩ (.slice none 0 0)) = w6 at r0 r1 rb ⊢
      exact bodyPost_ret (v := .tuple #[.agg #[.slice none 0 0, .slice none 0 0], .bool false]) (by simp [results, Tryd.results13, go_sem, r0, r1]) rfl (TabO.nilRes rb)
    · have h16 : ¬ (16 : Int) < (cn : Int) := by have := of_decide_eq_true HP.out; rw [HC.out] at this; omega
      obtain ⟨rfl, rfl, rfl⟩ := HL.out.yes (HLIM.out.trans (by rfl))
      have hlm : l = m := by rw [← HNM.out.2.1, ← HNM.out.2.2]; exact padB_len HQ.out
      subst hlm
      have c0 := JK1.out.cell 0
      have c1 := JK1.out.cell 1
      simp at c0 c1
      have CN := Lib.hid (cloneNames_any A n c N w3 ((HX.out.below B3.out).more B3.out.size) (by omega))
      have HY3 := Lib.hid (HY.out.below B3.out)
      have HZ3 := Lib.hid ((HZ.out.below B3.out).more B3.out.size)
      have hNn := HNM.out.1
      have hmm := HNM.out.2.1
      have hll := HNM.out.2.2
      have HN' := Lib.hid hNn
      have HMM := Lib.hid hmm
      have HLL := Lib.hid hll
      clear hNn hmm hll HX HY HZ HW HQ HLIM HL HNM HP x0 x1 x2 y0 y1 f0 f1 hs1
      go_wp2_with fail
      refine CN.out.mono ?_
      rintro e w5 ⟨v5, rfl, hown5, hb5⟩
      obtain ⟨A5, c5, rfl, _, _⟩ := own_form hown5
      have hb5s := hb5.size
      have c1 := fun o => ((JK1.out.below hb5 JK1.out.lt).alloc o).cell 1
      simp at c1
      clear c0
      have START : Hid (Half w3 (w5.alloc (.cells #[.slice A5 n c5, .slice none 0 0] 26)) w3.heap.size w5.heap.size 26 #[.slice A5 n c5, .slice none 0 0] (.slice A5 n c5) (.slice none 0 0) N [] []) :=
        Lib.hid ⟨Blk.new _ _ _, by rw [HN'.out]; exact hown5.alloc _, fun g e => (hown5.lt g e).2, RowsV.nil _ _ _, hb5.alloc hb5s _, hb5s⟩
      clear hb5 hown5 CN
      go_wp2_with fail
      go_loopw [23] (fun kv wr => ∃ (k : Nat) (vs : List Value) (ov : Value), k ≤ l ∧ kv = .int .i64 k ∧ Hid (Half w3 wr w3.heap.size w5.heap.size 26 #[.slice A5 n c5, ov] (.slice A5 n c5) ov N vs (realR (rows.take k) (real.take k)))) (fun kv _ => l - (intOf kv).toNat)
      case atStart => exact ⟨0, [], _, Nat.zero_le _, rfl, by rw [List.take_zero, List.take_zero]; exact START⟩
      case round =>
        clear START
        obtain ⟨k, vs, ov, hk, rfl, hh⟩ := hrel
        have hk0 : (0 : Int) ≤ (k : Int) := Int.natCast_nonneg _
        have kk := JK1.out.below hh.out.below JK1.out.lt
        have x2 := kk.cell 2
        simp at x2
        clear kk
        by_cases hlt : k < l
        · have hk1 : (k : Int) < (l : Int) := by omega
          obtain ⟨ad, row, Ak, ck, rfl, hadb, hrow, e1, g1, g2, g3, rr⟩ := (HY3.out.belowW (Nat.le_refl _) hh.out.below).at_ hlt
          obtain ⟨bd, b, rfl, hbb, hbk, e2⟩ := bo_at (HZ3.out.belowW (Nat.le_refl _) hh.out.below) HLL.out hlt
          have NX := realR_next rows real k row b hrow hbk
          cases b
          · go_wp2_with fail
            go_roundw
            case rel => exact ⟨k + 1, vs, ov, by omega, by go_num, by rw [NX]; simpa using hh⟩
            case measure => simp [intOf]; omega
          · have CL := Lib.hid (fun (w' : World) (h' : Below wr.heap.size wr w') => cloneInt_any Ak row.length ck row w' ((rr.belowW hh.out.below.size h').more (Nat.le_trans hh.out.below.size h'.size)) (by have := HR2.out row (List.mem_of_getElem? hrow); omega) rfl (fun h => ⟨g3 h, by have := g3 h; omega⟩))
            obtain ⟨t, hlk⟩ : ∃ t, (realR (rows.take k) (real.take k)).length = t := ⟨_, rfl⟩
            have htk : t ≤ k := by rw [← hlk]; exact Nat.le_trans (realR_len _ _) (by rw [List.length_take]; omega)
            have x3 := hh.out.blk.cell 1
            simp at x3
            obtain ⟨A7, c7, e7, _, _, _⟩ := hh.out.rows.form
            rw [hlk] at e7
            subst e7
            have hwT := hh.out.lt
            have HA7 := Lib.hid hh.out.rvge
            have FIN := Lib.hid (show ∀ (w' : World) (u : Value) (tt : TypeId), w'.ownsRow wr.drew.heap.size 3 1 u row.length (inCells row) → Below wr.drew.heap.size wr.drew w' → ∀ (v6 : Value) (w6 : World), w6.ownsRow (w5.heap.size + 1) 49 1 v6 (t + 1) (vs ++ [u]) → (w'.alloc (.cells #[u] tt)).grownBy w6 (Value.slice A7 t c7).ownBlock → (v6.ownBlock = (Value.slice A7 t c7).ownBlock ∨ v6.ownBlock = some (w'.alloc (.cells #[u] tt)).heap.size) →
                Hid (Half w3 (w6.setCell ⟨w5.heap.size, 1, none⟩ v6) w3.heap.size w5.heap.size 26 #[.slice A5 n c5, v6] (.slice A5 n c5) v6 N (vs ++ [u]) (realR (rows.take (k + 1)) (real.take (k + 1)))) from by
              intro w' u tt ou hb v6 w6 ho6 hg6 hd6
              rw [NX]
              exact Lib.hid (hh.out.drew.push ou hb (by rw [hlk]; exact ho6) hg6 hd6))
            clear hrow g3 rr hadb NX hbk hbb
            go_wp2_with fail
            go_region_law (first
                | (refine step_call (by rfl) (f := 36) Tryd.func36 (by kernel_rfl) (by kernel_rfl) (by rfl) #[.slice Ak row.length ck] (by kernel_rfl) ?_; refine (CL.out _ ((Below.refl _ _).drew)).mono ?_; rintro e w' ⟨u, rfl, ou, hb'⟩; obtain ⟨Au, cu, rfl, _, _⟩ := own_form ou; have x3' := below_keep hb' (show wr.drew.cell? ⟨w5.heap.size, 1, none⟩ = _ from x3); refine ⟨_, rfl, ?_⟩; have x3a := fun o => (World.cell?_alloc_some w' ⟨w5.heap.size, 1, none⟩ o (by rw [x3']; rfl)).trans x3')
                | ((refine step_append_any _ (by rfl) (.tmp 34) (.tmp 37) 24 (by rfl) (w5.heap.size + 1) 49 j0 _ 1 24 Tryd.underlying24 hjI hjz0 hjz1 hjz2 (by rfl) (by decide) _ t vs (by rfl) (by have h := (hh.out.drew.go hb').rows.own; rw [hlk] at h; exact h.alloc _) (w'.heap.size + 1) (some ⟨w'.heap.size, 0, none⟩) 1 1 [.slice Au row.length cu] (by rfl) ⟨rfl, fun _ => ⟨_, rfl, by simp, cells_new _ _ _⟩⟩ (oneCells rfl) (by unfold maxLen; omega) (by omega) (by have h := hb'.size; have h2 : wr.drew.heap.size = wr.heap.size := rfl; simp; omega) ?_; intro v6 w6 ho6 hg6 hd6; obtain ⟨A6, c6, rfl, _, _⟩ := own_form ho6; have F6 := (((hh.out.drew.go hb').blk.alloc _).grown hg6 (fun e => by have := HA7.out _ e.symm; omega)); have F6c := F6.cell 1; have F6f := F6.frozen 1; simp at F6c)))
            all_goals (
              have FF := FIN.out _ _ _ ou hb' _ _ ho6 hg6 hd6
              clear F6 F6c F6f ho6 hg6 hd6
              go_wp2_with fail
              go_roundw
              case rel => exact ⟨k + 1, _, _, by omega, by go_num, FF⟩
              case measure => simp [intOf]; omega)
        · obtain rfl : k = l := by omega
          have hh2 := hh.out
          rw [List.take_of_length_le (by rw [HMM.out]; omega), List.take_of_length_le (by rw [HLL.out]; omega)] at hh2
          obtain ⟨t, hlk⟩ : ∃ t, (realR rows real).length = t := ⟨_, rfl⟩
          obtain ⟨A7, c7, e7, c7l, _, _⟩ := hh2.rows.form
          rw [hlk] at e7
          subst e7
          have z0 := hh2.blk.cell 0
          have z1 := hh2.blk.cell 1
          have K2 := JK2.out.below hh2.below JK2.out.lt
          have y0 := K2.cell 0
          have y1 := K2.cell 1
          have f0 := K2.frozen 0
          have f1 := K2.frozen 1
          simp at y0 y1 z0 z1
          have T0 : TabO wr w3.heap.size (.agg #[.slice A5 n c5, .slice A7 t c7]) N (realR rows real) := ⟨_, _, rfl, hh2.own, vs, hh2.rows.low (Nat.le_trans hh2.base (Nat.le_succ _))⟩
          have Q2 := Lib.hid (res_end (B3.out.trans (hh2.below.mono B3.out.size)) K2 (Nat.le_succ _) T0 hw3n)
          clear K2 T0 hh2 hh
          go_wp2_with fail
          obtain ⟨r0, r1, RR⟩ := Q2.out
          clear Q2
          generalize ((wr.setCell ⟨w.heap.size + 1, 0, none⟩ (.slice A5 n c5)).setCell ⟨w.heap.size + 1, 1, none⟩ (.slice A7 t c7)) = w6 at r0 r1 RR ⊢
          exact bodyPost_ret (v := .tuple #[.agg #[.slice A5 n c5, .slice A7 t c7], .bool true]) (by simp [results, Tryd.results13, go_sem, r0, r1]) rfl RR
end Go.Proofs.YtbhklgiecfcfcaaDoor
