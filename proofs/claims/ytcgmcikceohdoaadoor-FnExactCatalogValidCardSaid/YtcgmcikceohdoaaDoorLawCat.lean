/- laws.FnExactCatalogValid: the walk. -/
import Derived.Test.YtcgmcikceohdoaaDoorCatO
namespace Go.Proofs.YtcgmcikceohdoaaDoor
open Go Go.RowKit
set_option maxRecDepth 100000
set_option maxHeartbeats 1600000 in
theorem lawExactCatalog_walk {w : World} (A : Option Addr) (n c : Nat) (cs : List CatE) (hm : n ≤ maxLen) (ht : CatR w A n cs) (hsz : ∀ c ∈ cs, Siz c) (RA : Option Addr) (RC : Nat) (hv : w.cell? ⟨0, 0, none⟩ = some (.slice RA 13 RC)) (hr : Reads w w.heap.size 1 RA 13 (stCells resW)) :
    Calls Tryd.prog 14 #[.slice A n c] w fun e w' => e = .returned (.bool true) ∧ Below w.heap.size w w' := by
  unfold maxLen at hm
  obtain ⟨q, hq⟩ : ∃ q, catB cs = q := ⟨_, rfl⟩
  have HT := Lib.hid (fun (wr : World) (hb : Below w.heap.size w wr) => ht.below hb)
  have SZ := Lib.hid (szNamedS_any A n c cs 1048576 w (by decide) (by decide) ht (by omega) hsz)
  have HV := Lib.hid hv
  have HR := Lib.hid hr
  have HQ := Lib.hid hq
  clear ht hsz hv hr hq
  go_enter Tryd.func14, Tryd.ntmps14
  go_wp2_with fail
  refine SZ.out.mono ?_
  rintro e w2 ⟨r, rfl, g1, g2, g3, b2⟩
  have G3 := Lib.hid g3
  clear g3
  by_cases hr : r < 0
  · go_wp2_with fail
    go_ret
    exact ⟨rfl, b2⟩
  have HN := Lib.hid (G3.out (by omega)).1
  have SM := Lib.hid (G3.out (by omega)).2
  have TO := Lib.hid (fun (wr : World) (hb : Below w.heap.size w wr) => toNamedS_any A n c cs wr (HT.out wr hb) HN.out SM.out)
  go_wp2_with fail
  refine (TO.out w2 b2).mono ?_
  rintro e w3 ⟨A3, c3, rfl, o3, b3⟩
  have B3 := b2.trans (b3.mono b2.size)
  have SP := Lib.hid (specCat_any q _ n c3 cs w3 o3 (by have := HN.out; omega) SM.out HQ.out)
  clear b2 b3 o3
  go_wp2_with fail
  refine SP.out.mono ?_
  rintro e w4 ⟨rfl, b4⟩
  have B4 := B3.trans (b4.mono B3.size)
  clear b4 B3 SP
  go_wp2_with fail
  refine (TO.out w4 B4).mono ?_
  rintro e w5 ⟨A5, c5, rfl, o5, b5⟩
  have B5 := B4.trans (b5.mono B4.size)
  have O5 := Lib.hid o5
  clear o5 b5 B4
  have IM := Lib.hid (implCat_any q _ n c5 cs RA RC w5 (below_keep B5 HV.out) ((HR.out.below B5).more B5.size) O5.out (by have := HN.out; omega) SM.out HQ.out)
  go_wp2_with fail
  refine IM.out.mono ?_
  rintro e w7 ⟨rfl, b7⟩
  have B7 := B5.trans (b7.mono B5.size)
  have O7 := Lib.hid (O5.out.below b7)
  clear b7 O5 IM B5
  have hqq : (q != q) = false := by cases q <;> rfl
  go_wp2_with fail
  refine (TO.out w7 B7).mono ?_
  rintro e w8 ⟨A8, c8, rfl, o8, b8⟩
  have B8 := B7.trans (b8.mono B7.size)
  have EQ := Lib.hid (eqNamedS_yes A5 A8 n c5 c8 cs w8 (O7.out.below b8) o8 HN.out SM.out)
  clear o8 b8 B7 O7 TO
  go_wp2_with fail
  refine EQ.out.mono ?_
  rintro e w9 ⟨rfl, b9⟩
  have B9 := B8.trans (b9.mono B8.size)
  go_wp2_with fail
  go_ret
  exact ⟨rfl, B9⟩
end Go.Proofs.YtcgmcikceohdoaaDoor
