/- Catalogs in memory; laws.szNamed, szNamedS, eqNamed, eqNamedS. -/
import Derived.Test.YtcgmcikceohdoaaDoorColumn
namespace Go.Proofs.YtcgmcikceohdoaaDoor
open Go Go.RowKit Go.WideShapes Go.ChangeShapes Go.WideElems Go.Deep
set_option maxRecDepth 100000

/-- A named table: name, columns' names, rows. -/
abbrev CatE := ByteArray × List ByteArray × List (List Int)
def NamR (w : World) (v : Value) (c : CatE) : Prop := ∃ (A : Option Addr) (ca : Nat) (B : Option Addr) (db : Nat), v = .agg #[.string c.1, .slice A c.2.1.length ca, .slice B c.2.2.length db] ∧ TabR w (.agg #[.slice A c.2.1.length ca, .slice B c.2.2.length db]) c.2.1 c.2.2
theorem NamR.below {w w' : World} {v : Value} {c : CatE} (h : NamR w v c) (hb : Below w.heap.size w w') : NamR w' v c := by
  obtain ⟨A, ca, B, db, e, t⟩ := h
  exact ⟨A, ca, B, db, e, t.below hb⟩
def CatR (w : World) (A : Option Addr) (n : Nat) (cs : List CatE) : Prop := cs.length = n ∧ ∀ (k : Nat) (c : CatE), cs[k]? = some c → ∃ (ad : Addr) (Ak : Option Addr) (ck : Nat) (Bk : Option Addr) (dk : Nat), A = some ad ∧
  w.cell? (ad.add (k * 3)) = some (.string c.1) ∧ w.cell? ⟨(ad.add (k * 3)).block, (ad.add (k * 3)).off + 1, none⟩ = some (.slice Ak c.2.1.length ck) ∧ w.cell? ⟨(ad.add (k * 3)).block, (ad.add (k * 3)).off + 2, none⟩ = some (.slice Bk c.2.2.length dk) ∧
  TabR w (.agg #[.slice Ak c.2.1.length ck, .slice Bk c.2.2.length dk]) c.2.1 c.2.2
theorem CatR.below {w w' : World} {A : Option Addr} {n : Nat} {cs : List CatE} (h : CatR w A n cs) (hb : Below w.heap.size w w') : CatR w' A n cs := by
  refine ⟨h.1, fun k c hc => ?_⟩
  obtain ⟨ad, Ak, ck, Bk, dk, e, h1, h2, h3, h4⟩ := h.2 k c hc
  exact ⟨ad, Ak, ck, Bk, dk, e, below_keep hb h1, below_keep hb h2, below_keep hb h3, h4.below hb⟩
theorem CatR.at_ {w : World} {A : Option Addr} {n k : Nat} {cs : List CatE} (h : CatR w A n cs) (hk : k < n) : ∃ (ad : Addr) (s : ByteArray) (names : List ByteArray) (rows : List (List Int)) (Ak : Option Addr) (ck : Nat) (Bk : Option Addr) (dk : Nat), A = some ad ∧ cs[k]? = some (s, names, rows) ∧
    w.cell? (ad.add (k * 3)) = some (.string s) ∧ w.cell? ⟨(ad.add (k * 3)).block, (ad.add (k * 3)).off + 1, none⟩ = some (.slice Ak names.length ck) ∧ w.cell? ⟨(ad.add (k * 3)).block, (ad.add (k * 3)).off + 2, none⟩ = some (.slice Bk rows.length dk) ∧
    TabR w (.agg #[.slice Ak names.length ck, .slice Bk rows.length dk]) names rows := by
  obtain ⟨⟨s, names, rows⟩, hc⟩ : ∃ c, cs[k]? = some c := ⟨_, List.getElem?_eq_getElem (by have := h.1; omega)⟩
  obtain ⟨ad, Ak, ck, Bk, dk, e, h1, h2, h3, h4⟩ := h.2 k _ hc
  exact ⟨ad, s, names, rows, Ak, ck, Bk, dk, e, hc, h1, h2, h3, h4⟩
structure Siz (c : CatE) : Prop where
  s : c.1.size ≤ maxLen
  n1 : c.2.1.length ≤ maxLen
  n2 : ∀ x ∈ c.2.1, x.size ≤ maxLen
  r1 : c.2.2.length ≤ maxLen
  r2 : ∀ r ∈ c.2.2, ∀ x ∈ r, i64ok x
structure SmallE (c : CatE) : Prop where
  s : c.1.size ≤ 1048576
  t : Small c.2.1 c.2.2

set_option maxHeartbeats 800000 in
theorem szNamed_any (v : Value) (c : CatE) (l : Int) (w : World) (h0 : 0 ≤ l) (h1 : l ≤ 1048576) (ht : NamR w v c) (hs : Siz c) :
    Calls Tryd.prog 70 #[v, .int .i64 l] w fun e w' => ∃ r : Int, e = .returned (.int .i64 r) ∧ -1 ≤ r ∧ r ≤ l ∧ (0 ≤ r → SmallE c) ∧ Below w.heap.size w w' := by
  obtain ⟨A, ca, B, db, rfl, ht⟩ := ht
  obtain ⟨s, names, rows⟩ := c
  have hs1 := hs.s
  unfold maxLen at hs1
  simp only at ht hs1 ⊢
  have HTA := Lib.hid (show TabA w _ names rows from ⟨ht, hs.n1, hs.n2, hs.r1, hs.r2⟩)
  obtain ⟨n, hnn⟩ : ∃ n, names.length = n := ⟨_, rfl⟩
  obtain ⟨m, hmm⟩ : ∃ m, rows.length = m := ⟨_, rfl⟩
  rw [hnn, hmm] at HTA ⊢
  obtain ⟨w1, hw1⟩ : ∃ w1, w1 = w.alloc (.cells #[.string s, .slice A n ca, .slice B m db] 91) := ⟨_, rfl⟩
  have b1 : Below w.heap.size w w1 := by rw [hw1]; exact (Below.refl _ _).alloc (Nat.le_refl _) _
  have kb : Blk w1 w.heap.size 91 #[.string s, .slice A n ca, .slice B m db] := by rw [hw1]; exact Blk.new _ _ _
  have c0 := kb.cell 0
  have c1 := kb.cell 1
  have c2 := kb.cell 2
  simp at c0 c1 c2
  have ST := Lib.hid (fun (r : Int) (g0 : 0 ≤ r) (g1 : r ≤ 1048576) => szTable_any _ names rows r w1 g0 g1 (HTA.out.below b1))
  have HW := Lib.hid hw1
  clear ht hs kb hnn hmm
  go_enter Tryd.func70, Tryd.ntmps70
  by_cases hl : l < (s.size : Int)
  · have hneg : l - (s.size : Int) < 0 := by omega
    go_wp2_with fail
    go_ret
    exact ⟨-1, rfl, by omega, by omega, fun h => by omega, HW.out ▸ b1⟩
  · have hneg : ¬ l - (s.size : Int) < 0 := by omega
    have ST' := Lib.hid (ST.out (l - s.size) (by omega) (by omega))
    go_wp2_with fail
    rw [← HW.out]
    clear hw1
    refine ST'.out.mono ?_
    rintro e w2 ⟨r, rfl, g1, g2, g3, b2⟩
    have G3 := Lib.hid g3
    clear g3
    have B2 := b1.trans (b2.mono b1.size)
    by_cases hr : r < 0
    · go_wp2_with fail
      go_ret
      exact ⟨-1, rfl, by omega, by omega, fun h => by omega, B2⟩
    · go_wp2_with fail
      go_ret
      refine ⟨r, rfl, by omega, by omega, fun h => ?_, B2⟩
      obtain ⟨⟨a, b⟩, c, d⟩ := G3.out h
      exact ⟨by show s.size ≤ 1048576; omega, a, b, c, d⟩
set_option maxHeartbeats 800000 in
theorem szNamedS_any (A : Option Addr) (n c : Nat) (cs : List CatE) (l : Int) (w : World) (h0 : 0 ≤ l) (h1 : l ≤ 1048576) (hx : CatR w A n cs) (hn : n ≤ 9223372036854775807) (hs : ∀ c ∈ cs, Siz c) :
    Calls Tryd.prog 40 #[.slice A n c, .int .i64 l] w fun e w' => ∃ r : Int, e = .returned (.int .i64 r) ∧ -1 ≤ r ∧ r ≤ l ∧ (0 ≤ r → n ≤ 1048576 ∧ ∀ c ∈ cs, SmallE c) ∧ Below w.heap.size w w' := by
  have HX := Lib.hid (fun (wr : World) (hb : Below w.heap.size w wr) => hx.below hb)
  have HL := Lib.hid hx.1
  have HS := Lib.hid hs
  clear hx hs
  by_cases h : l < n
  · have hneg : l - (n : Int) < 0 := by omega
    go_enter Tryd.func40, Tryd.ntmps40
    go_wp2_with fail
    go_ret
    exact ⟨-1, rfl, by omega, by omega, fun h => by omega, Below.refl _ _⟩
  · have hneg : ¬ l - (n : Int) < 0 := by omega
    go_enter Tryd.func40, Tryd.ntmps40
    go_wp2_with fail
    go_loopw [1, 5] (fun lv kv wr => ∃ (k : Nat) (r : Int), k ≤ n ∧ kv = .int .i64 k ∧ lv = .int .i64 r ∧ 0 ≤ r ∧ r ≤ l ∧ Hid (∀ j c, j < k → cs[j]? = some c → SmallE c) ∧ Below w.heap.size w wr) (fun _ kv _ => n - (intOf kv).toNat)
    case atStart => exact ⟨0, l - n, Nat.zero_le _, rfl, rfl, by omega, by omega, fun j c hj => by omega, Below.refl _ _⟩
    case round =>
      obtain ⟨k, r, hk, rfl, rfl, hr0, hr1, hok, hb⟩ := hrel
      have hk0 : (0 : Int) ≤ (k : Int) := Int.natCast_nonneg _
      by_cases hlt : k < n
      · obtain ⟨ad, s, names, rows, Ak, ck, Bk, dk, rfl, hc, e1, e2, e3, tt⟩ := (HX.out wr hb).at_ hlt
        have hk1 : (k : Int) < (n : Int) := by omega
        have S := Lib.hid (szNamed_any _ (s, names, rows) r wr hr0 (by omega) ⟨Ak, ck, Bk, dk, rfl, tt⟩ (HS.out _ (List.mem_of_getElem? hc)))
        have HC := Lib.hid hc
        clear hc tt
        go_wp2_with fail
        refine S.out.mono ?_
        rintro e w2 ⟨r', rfl, g1, g2, g3, b2⟩
        have G3 := Lib.hid g3
        have hb2 := hb.trans (b2.mono hb.size)
        clear g3 b2 e1 e2 e3
        by_cases hq : r' < 0
        · go_wp2_with fail
          go_ret
          exact ⟨-1, rfl, by omega, by omega, fun h => by omega, hb2⟩
        · go_wp2_with fail
          go_roundw
          case rel =>
            refine ⟨k + 1, r', by omega, by go_num, rfl, by omega, by omega, fun j c hj hc => ?_, hb2⟩
            rcases Nat.lt_succ_iff_lt_or_eq.1 hj with h | rfl
            · exact hok.out j c h hc
            · obtain rfl := Option.some.inj (HC.out.symm.trans hc)
              exact G3.out (by omega)
          case measure => simp [intOf]; omega
      · obtain rfl : k = n := by omega
        go_wp2_with fail
        go_ret
        refine ⟨r, rfl, by omega, by omega, fun _ => ⟨by omega, fun c hc => ?_⟩, hb⟩
        obtain ⟨j, hj, hjc⟩ := List.mem_iff_getElem.1 hc
        exact hok.out j c (by have := HL.out; omega) (by rw [← hjc]; exact List.getElem?_eq_getElem hj)
set_option maxHeartbeats 800000 in
theorem eqNamed_yes (v u : Value) (c : CatE) (w : World) (hv : NamR w v c) (hu : NamR w u c) (hs : SmallE c) :
    Calls Tryd.prog 72 #[v, u] w fun e w' => e = .returned (.bool true) ∧ Below w.heap.size w w' := by
  obtain ⟨A, ca, B, db, rfl, hx⟩ := hv
  obtain ⟨A', ca', B', db', rfl, hx'⟩ := hu
  obtain ⟨s, names, rows⟩ := c
  simp only at hx hx' ⊢
  have hok : TabOk names rows := hs.t.ok
  have hsz : s.size ≤ 1048576 := hs.s
  obtain ⟨w1, hw1⟩ : ∃ w1, w1 = (w.alloc (.cells #[.string s, .slice A names.length ca, .slice B rows.length db] 58)).alloc (.cells #[.string s, .slice A' names.length ca', .slice B' rows.length db'] 58) := ⟨_, rfl⟩
  have b1 : Below w.heap.size w w1 := by rw [hw1]; exact ((Below.refl _ _).alloc (Nat.le_refl _) _).alloc (by simp) _
  have k1 : Blk w1 w.heap.size 58 #[.string s, .slice A names.length ca, .slice B rows.length db] := by rw [hw1]; exact (Blk.new _ _ _).alloc _
  have k2 : Blk w1 (w.heap.size + 1) 58 #[.string s, .slice A' names.length ca', .slice B' rows.length db'] := by
    have := Blk.new (w.alloc (.cells #[.string s, .slice A names.length ca, .slice B rows.length db] 58)) 58 #[.string s, .slice A' names.length ca', .slice B' rows.length db']
    rw [World.size_alloc] at this
    rw [hw1]; exact this
  have E1 := Lib.hid (eqTable_yes _ _ names rows w1 (hx.below b1) (hx'.below b1) hok)
  have c0 := k1.cell 0
  have c1 := k1.cell 1
  have c2 := k1.cell 2
  have d0 := k2.cell 0
  have d1 := k2.cell 1
  have d2 := k2.cell 2
  simp at c0 c1 c2 d0 d1 d2
  have HW := Lib.hid hw1
  clear hx hx' hok k1 k2 hs
  go_enter Tryd.func72, Tryd.ntmps72
  go_wp2_with fail
  rw [← HW.out]
  refine E1.out.mono ?_
  rintro e w2 ⟨rfl, b2⟩
  have B2 := b1.trans (b2.mono b1.size)
  go_wp2_with fail
  go_ret
  exact ⟨rfl, B2⟩
set_option maxHeartbeats 800000 in
theorem eqNamedS_yes (A B : Option Addr) (n c d : Nat) (cs : List CatE) (w : World) (hx : CatR w A n cs) (hy : CatR w B n cs) (hn : n ≤ 1048576) (hs : ∀ c ∈ cs, SmallE c) :
    Calls Tryd.prog 42 #[.slice A n c, .slice B n d] w fun e w' => e = .returned (.bool true) ∧ Below w.heap.size w w' := by
  have HS := Lib.hid hs
  have HX := Lib.hid (fun (wr : World) (hb : Below w.heap.size w wr) => hx.below hb)
  have HY := Lib.hid (fun (wr : World) (hb : Below w.heap.size w wr) => hy.below hb)
  clear hs hx hy
  go_enter Tryd.func42, Tryd.ntmps42
  go_wp2_with fail
  go_loopw [5] (fun i wr => ∃ k : Nat, k ≤ n ∧ i = .int .i64 k ∧ Below w.heap.size w wr) (fun i _ => n - (intOf i).toNat)
  case atStart => exact ⟨0, Nat.zero_le _, rfl, Below.refl _ _⟩
  case round =>
    obtain ⟨k, hk, rfl, hb⟩ := hrel
    have hk0 : (0 : Int) ≤ (k : Int) := Int.natCast_nonneg _
    by_cases hlt : k < n
    · obtain ⟨ad, s, names, rows, Ak, ck, Bk, dk, rfl, hc, e1, e2, e3, tt⟩ := (HX.out wr hb).at_ hlt
      obtain ⟨bd, s', names', rows', Ak', ck', Bk', dk', rfl, hc', f1, f2, f3, tt'⟩ := (HY.out wr hb).at_ hlt
      obtain ⟨rfl, rfl, rfl⟩ : s = s' ∧ names = names' ∧ rows = rows' := by
        have := Option.some.inj (hc.symm.trans hc')
        simp only [Prod.mk.injEq] at this
        exact this
      have hk1 : (k : Int) < (n : Int) := by omega
      have EQ := Lib.hid (fun (w' : World) (hb' : Below wr.heap.size wr w') => eqNamed_yes _ _ (s, names, rows) w' ⟨Ak, ck, Bk, dk, rfl, tt.below hb'⟩ ⟨Ak', ck', Bk', dk', rfl, tt'.below hb'⟩ (HS.out _ (List.mem_of_getElem? hc)))
      clear hc hc' tt tt'
      go_wp2_with fail
      go_region_held3 (fun w' => w'.cell? (ad.add (k * 3)) = some (.string s) ∧ w'.cell? ⟨(ad.add (k * 3)).block, (ad.add (k * 3)).off + 1, none⟩ = some (.slice Ak names.length ck) ∧ w'.cell? ⟨(ad.add (k * 3)).block, (ad.add (k * 3)).off + 2, none⟩ = some (.slice Bk rows.length dk) ∧ w'.cell? (bd.add (k * 3)) = some (.string s) ∧ w'.cell? ⟨(bd.add (k * 3)).block, (bd.add (k * 3)).off + 1, none⟩ = some (.slice Ak' names.length ck') ∧ w'.cell? ⟨(bd.add (k * 3)).block, (bd.add (k * 3)).off + 2, none⟩ = some (.slice Bk' rows.length dk'))
        (first | go_keep | (go_split_ands; refine ⟨?_, ?_, ?_, ?_, ?_, ?_⟩ <;> (refine below_keep hb' ?_; assumption)))
        (first | (go_at_call 72; refine (EQ.out _ ((Below.refl _ _).drew)).mono ?_; rintro e w' ⟨rfl, hb'⟩))
      have hbb := hb.drew.trans (hb'.mono hb.size)
      clear hb'
      go_wp2
      go_roundw
      case rel => exact ⟨k + 1, by omega, by go_num, hbb⟩
      case measure => simp [intOf]; omega
    · obtain rfl : k = n := by omega
      go_wp2
      go_ret
      exact ⟨rfl, hb⟩
end Go.Proofs.YtcgmcikceohdoaaDoor
