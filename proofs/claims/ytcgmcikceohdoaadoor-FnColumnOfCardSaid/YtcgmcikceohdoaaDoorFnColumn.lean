/- spec.DrawColumnOf; laws.FnColumnOf: the walk. -/
import Derived.Test.YtcgmcikceohdoaaDoorFnTable
import Derived.Test.YtcgmcikceohdoaaDoorColumn
namespace Go.Proofs.YtcgmcikceohdoaaDoor
open Go Go.RowKit
set_option maxRecDepth 100000

def DrewTabStr (w : World) (e : Ending) (w' : World) : Prop := ∃ (nv rv : Value) (s : ByteArray) (names : List ByteArray) (rows : List (List Int)), e = .returned (.tuple #[.agg #[nv, rv], .string s]) ∧ s.size ≤ 9 ∧ TabO w' w.heap.size (.agg #[nv, rv]) names rows ∧ DrawnT names rows ∧ Below w.heap.size w w'
set_option maxHeartbeats 1600000 in
theorem drawColumn_any (A : Option Addr) (n c : Nat) (xs : List UInt8) (w : World) (hx : Reads w w.heap.size 1 A n (byCells xs)) (hl : xs.length = n) (hn : n ≤ 1048576) (hc : n ≤ c) (hc2 : c ≤ maxLen) :
    Calls Tryd.prog 25 #[.slice A n c] w (DrewTabStr w) := by
  have HO := Lib.hid (fun (w' : World) (hb : Below w.heap.size w w') => open_c A n c xs w' ((hx.below hb).more hb.size) hl hn hc hc2)
  clear hx hl
  go_enter Tryd.func25, Tryd.ntmps25
  go_wp2_with fail
  obtain ⟨w0, hw0⟩ : ∃ w0, w0 = w.alloc (.cells #[.slice none 0 0, .slice none 0 0] 30) := ⟨_, rfl⟩
  have b0 : Below w.heap.size w w0 := by rw [hw0]; exact (Below.refl _ _).alloc (Nat.le_refl _) _
  have k0 : Blk w0 w.heap.size 30 #[.slice none 0 0, .slice none 0 0] := by rw [hw0]; exact Blk.new _ _ _
  rw [← hw0]
  clear hw0
  refine (HO.out w0 b0).mono ?_
  rintro e w1 ⟨rfl, r1, b1, -⟩
  have hk0 := k0.lt
  have k1 := k0.below b1 hk0
  have B1 := b0.trans (b1.mono b0.size)
  go_wp2_with fail
  refine (pick_c _ 50000 3 _ (r1.less (by omega)) (by omega)).mono ?_
  rintro e w2 ⟨x, rfl, hx, r2, t2, -⟩
  go_wp2_with fail
  refine (table_c _ 10 x 9 _ (r2.less (by omega)) (by omega) (by omega)).mono ?_
  rintro e w3 ⟨nv, rv, names, rows, rfl, ho, hd, r3, t3⟩
  have k3 := t3.blk (t2.blk k1 (by omega)) (by omega)
  have hsz : w0.heap.size + 1 ≤ w2.heap.size := Nat.le_trans r1.lt t2.size
  have hsz3 : w2.heap.size ≤ w3.heap.size := t3.size
  have B3 := (t2.trans t3).below B1 (by omega)
  obtain ⟨A4, c4, A5, c5, rfl, rfl⟩ := ho.form
  go_wp2_with fail
  obtain ⟨w4, hw4⟩ : ∃ w4, w4 = w3.alloc (.cells #[.slice A4 names.length c4, .slice A5 rows.length c5] 30) := ⟨_, rfl⟩
  have b4 : Below w3.heap.size w3 w4 := by rw [hw4]; exact (Below.refl _ _).alloc (Nat.le_refl _) _
  have k5 : Blk w4 w3.heap.size 30 #[.slice A4 names.length c4, .slice A5 rows.length c5] := by rw [hw4]; exact Blk.new _ _ _
  rw [← hw4]
  clear hw4
  have r4 := r3.below b4
  have o4 := ho.below b4
  have k4 := k3.below b4 k3.lt
  have B4 := B3.trans (b4.mono B3.size)
  have h5 := k5.lt
  have x0 := k5.cell 0
  have x1 := k5.cell 1
  have y0 := k4.cell 0
  have y1 := k4.cell 1
  have f0 := k4.frozen 0
  have f1 := k4.frozen 1
  simp at x0 x1 y0 y1
  have hne : w.heap.size ≠ w3.heap.size := by omega
  have hne' : w3.heap.size ≠ w.heap.size := by omega
  have NC := Lib.hid (name_c w0.heap.size 8 9 w4.drew r4.drew (by omega))
  have F := Lib.hid (fun (w' : World) (ht : Touch w0.heap.size (w0.heap.size + 1) w4.drew w') => And.intro (ht.blk (k4.drew) (by omega)) (And.intro (ht.blk k5.drew (by omega)) (And.intro (ht.below (a := w) (B4.drew) (by omega)) (show TabO w' w2.heap.size (.agg #[.slice A4 names.length c4, .slice A5 rows.length c5]) names rows from by
    obtain ⟨v0, v1, e, g0, vs, g1⟩ := o4
    exact ⟨v0, v1, e, ht.own_above g0.drew (by omega), vs, (g1.drew.touch ht (by omega)).wide ht.size⟩))))
  clear k0 k1 k3 k4 k5 t2 t3 r2 r3 r4 b0 b1 B1 r1 HO B3 B4 b4 ho o4 y0 y1 f0 f1
  go_region_held3 (fun w' => w'.cell? ⟨w3.heap.size, 0, none⟩ = some (.slice A4 names.length c4) ∧ w'.cell? ⟨w3.heap.size, 1, none⟩ = some (.slice A5 rows.length c5)) (first | go_keep | (go_split_ands; refine ⟨?_, ?_⟩ <;> assumption)) (first | (go_at_call 46; refine NC.out.mono ?_; rintro e w5 ⟨s, rfl, hs, hc5, ht5⟩; have G := F.out w5 ht5; have y0 := G.1.cell 0; have y1 := G.1.cell 1; have f0 := G.1.frozen 0; have f1 := G.1.frozen 1; have x5 := G.2.1.cell 0; have x6 := G.2.1.cell 1; simp at y0 y1 x5 x6; have GH := Lib.hid G; clear G))
  have D := GH.out.2.2.2.pair GH.out.1 rfl
  have B6 := D.2.2.below GH.out.2.2.1 (Nat.le_refl _)
  have hz0 := D.2.1.cell 0
  have hz1 := D.2.1.cell 1
  simp at hz0 hz1
  have Z := Lib.hid (And.intro (D.1.low (show w.heap.size ≤ w2.heap.size by omega)) (And.intro B6 (And.intro hz0 hz1)))
  clear D B6 hz0 hz1 y0 y1 f0 f1 x5 x6 x0 x1 GH F NC ht5 hc5
  generalize (World.setCell (World.setCell _ ⟨w.heap.size, 0, none⟩ _) ⟨w.heap.size, 1, none⟩ _) = wZ at Z ⊢
  go_wp2_with fail
  have hz := Z.out
  exact bodyPost_ret (v := .tuple #[.agg #[_, _], .string s]) (by simp [results, Tryd.results25, go_sem, hz.2.2.1, hz.2.2.2]) rfl ⟨_, _, s, names, rows, rfl, hs, hz.1, hd, hz.2.1⟩
set_option maxHeartbeats 1600000 in
theorem fnColumn_walk {w : World} (A : Option Addr) (n c : Nat) (xs : List UInt8) (hl : xs.length = n) (hc : n ≤ c) (hm : c ≤ maxLen) (hx : Reads w w.heap.size 1 A n (byCells xs))
    (RA : Option Addr) (RC : Nat) (hv : w.cell? ⟨0, 0, none⟩ = some (.slice RA 13 RC)) (hr : Reads w w.heap.size 1 RA 13 (stCells resW)) :
    Calls Tryd.prog 7 #[.slice A n c] w fun e w' => e = .returned (.bool true) ∧ Below w.heap.size w w' := by
  by_cases hbig : (1048576 : Int) < (n : Int)
  · clear hx hr
    go_enter Tryd.func7, Tryd.ntmps7
    go_wp2_with fail
    go_ret
    exact ⟨rfl, Below.refl _ _⟩
  · have HD := Lib.hid (drawColumn_any A n c xs w hx hl (by omega) hc hm)
    have HV := Lib.hid (fun (w' : World) (hb : Below w.heap.size w w') => alive_yes RA RC w' (below_keep hb hv) ((hr.below hb).more hb.size))
    have HI := Lib.hid (fun (q : Bool) (cc : Int) (v : Value) (names : List ByteArray) (rows : List (List Int)) (y : ByteArray) (w' : World) (hb : Below w.heap.size w w') => implCol_any q cc v names rows y RA RC w' (below_keep hb hv) ((hr.below hb).more hb.size))
    clear hx hr hl hv
    go_enter Tryd.func7, Tryd.ntmps7
    go_wp2_with fail
    refine HD.out.mono ?_
    rintro e w1 ⟨nv, rv, s, names, rows, rfl, hs, ho, hd, b1⟩
    obtain ⟨A4, c4, A5, c5, rfl, rfl⟩ := ho.form
    go_wp2_with fail
    obtain ⟨w4, hw4⟩ : ∃ w4, w4 = w1.alloc (.cells #[.slice A4 names.length c4, .slice A5 rows.length c5] 30) := ⟨_, rfl⟩
    have b4 : Below w1.heap.size w1 w4 := by rw [hw4]; exact (Below.refl _ _).alloc (Nat.le_refl _) _
    have k4 : Blk w4 w1.heap.size 30 #[.slice A4 names.length c4, .slice A5 rows.length c5] := by rw [hw4]; exact Blk.new _ _ _
    have O4 := Lib.hid (ho.below b4).reads
    have B4 := b1.trans (b4.mono b1.size)
    rw [← hw4]
    clear hw4 ho b4 b1 HD
    obtain ⟨q, hq⟩ : ∃ q, tableB names rows = q := ⟨_, rfl⟩
    obtain ⟨cc, hcc⟩ := ColIs.ex names s
    have I1 := Lib.hid (HI.out q cc _ names rows s w4 B4 O4.out hd.ok hq hcc)
    have S1 := Lib.hid (fun (w' : World) (hb : Below w4.heap.size w4 w') => specCol_any q cc _ names rows s w' (O4.out.below hb) hd.ok hq hcc)
    obtain ⟨r, hr⟩ : ∃ r : Int, r = (if q = true then cc else -1) := ⟨_, rfl⟩
    have hr' : r = -1 ∨ ∃ k : Nat, r = (k : Int) ∧ k < names.length ∧ names[k]? = some s := by
      rw [hr]
      by_cases hqt : q = true
      · rw [if_pos hqt]
        rcases hcc with ⟨h, _⟩ | ⟨k, h1, h2, h3, _⟩
        · exact .inl h
        · exact .inr ⟨k, h1, h2, h3⟩
      · rw [if_neg hqt]; exact .inl rfl
    rw [← hr] at I1 S1
    clear hr
    have HR' := Lib.hid hr'
    clear hr' hcc hq
    have K := Lib.hid (fun (w' : World) (hb : Below w4.heap.size w4 w') => And.intro (k4.below hb k4.lt) (O4.out.below hb))
    refine I1.out.mono ?_
    rintro e w5 ⟨rfl, b5⟩
    have d0 := (K.out w5 b5).1.cell 0
    have d1 := (K.out w5 b5).1.cell 1
    simp at d0 d1
    have S5 := Lib.hid (S1.out w5 b5)
    have B5 := B4.trans (b5.mono B4.size)
    go_wp2_with fail
    refine S5.out.mono ?_
    rintro e w6 ⟨rfl, b6⟩
    have b46 := b5.trans (b6.mono b5.size)
    have B6 := B5.trans (b6.mono B5.size)
    have e0 := (K.out w6 b46).1.cell 0
    have e1 := (K.out w6 b46).1.cell 1
    simp at e0 e1
    have AL := Lib.hid (HV.out w6 B6)
    have TR := Lib.hid (K.out w6 b46).2
    clear d0 d1 b5 b6 b46 S5 S1 I1 K B5 k4 B4
    rcases HR'.out with h | ⟨k, h1, h2, h3⟩
    · subst h
      go_wp2_with fail
      refine AL.out.mono ?_
      rintro e w' ⟨rfl, rfl⟩
      go_wp2_with fail
      go_ret
      exact ⟨rfl, B6⟩
    · subst h1
      obtain ⟨A', c', B', d', e, _, hx, _⟩ := TR.out
      simp only [Value.agg.injEq] at e
      have e2 := congrArg (fun a => a[0]?) e
      simp at e2
      obtain ⟨rfl, rfl⟩ := e2
      obtain ⟨ad, x, rfl, _, hxk, hc0⟩ := st_at hx rfl h2
      obtain rfl := Option.some.inj (hxk.symm.trans h3)
      have hk0 : (0 : Int) ≤ (k : Int) := Int.natCast_nonneg _
      have hk1 : (k : Int) < (names.length : Int) := by omega
      clear hx e hxk h3
      go_wp2_with fail
      go_ret
      exact ⟨rfl, B6⟩
end Go.Proofs.YtcgmcikceohdoaaDoor
