/- laws.FnNameValid: the walk. -/
import Derived.Test.YtcgmcikceohdoaaDoorSameL
import Derived.Test.YtcgmcikceohdoaaDoorDrawName
namespace Go.Proofs.YtcgmcikceohdoaaDoor
open Go Go.RowKit
set_option maxRecDepth 100000

def selB : ByteArray := ⟨#[115, 101, 108, 101, 99, 116]⟩
theorem sel_name : nameB selB = false := by decide +kernel
theorem one_name (s : ByteArray) : nameB (s ++ ⟨#[49]⟩) = false := by
  have h : sb (s ++ ⟨#[49]⟩) = sb s ++ [49] := by simp [sb, ByteArray.data_append]
  unfold nameB
  rw [h, List.all_append]
  have : [(49 : UInt8)].all isL = false := by decide
  rw [this]
  simp
theorem size_one (s : ByteArray) : (s ++ ⟨#[49]⟩).size = s.size + 1 := by rw [ByteArray.size_append]; rfl
theorem resW_long : resW.all (fun x => decide (2 ≤ x.size)) = true := by decide +kernel
theorem part_name {s : ByteArray} (h : nameB s = true) : 1 ≤ s.size ∧ nameB (s.extract 0 1) = true := by
  unfold nameB at h ⊢
  rw [Bool.and_eq_true, Bool.and_eq_true] at h
  have h1 := inB_true h.2.1
  have hs : 1 ≤ s.size := by omega
  have hsz : (s.extract 0 1).size = 1 := by rw [ByteArray.size_extract]; omega
  refine ⟨hs, ?_⟩
  rw [Bool.and_eq_true, Bool.and_eq_true]
  refine ⟨?_, ?_, ?_⟩
  · rw [sb_extract, List.drop_zero]
    rw [List.all_eq_true]
    intro x hx
    exact List.all_eq_true.1 h.1 x (List.mem_of_mem_take hx)
  · rw [hsz]; decide
  · cases hw : hasW resW (s.extract 0 1)
    · rfl
    · exfalso
      obtain ⟨y, hy, e⟩ := List.any_eq_true.1 hw
      have h2 := List.all_eq_true.1 resW_long y hy
      have e' : s.extract 0 1 = y := by simpa using e
      rw [← e', hsz] at h2
      simp at h2

set_option maxHeartbeats 800000 in
theorem fnName_walk {w : World} (A : Option Addr) (n c : Nat) (xs : List UInt8) (hl : xs.length = n) (hc : n ≤ c) (hm : c ≤ maxLen) (hx : Reads w w.heap.size 1 A n (byCells xs))
    (RA : Option Addr) (RC : Nat) (hv : w.cell? ⟨0, 0, none⟩ = some (.slice RA 13 RC)) (hr : Reads w w.heap.size 1 RA 13 (stCells resW)) :
    Calls Tryd.prog 4 #[.slice A n c] w fun e w' => e = .returned (.bool true) ∧ Below w.heap.size w w' := by
  by_cases hbig : (1048576 : Int) < (n : Int)
  · clear hx hr
    go_enter Tryd.func4, Tryd.ntmps4
    go_wp2_with fail
    go_ret
    exact ⟨rfl, Below.refl _ _⟩
  · have HD := Lib.hid (drawName_any A n c xs w hx hl (by omega) hc hm)
    have HV := Lib.hid (fun (w' : World) (hb : Below w.heap.size w w') => alive_yes RA RC w' (below_keep hb hv) ((hr.below hb).more hb.size))
    have HI := Lib.hid (fun (q : Bool) (s : ByteArray) (w' : World) (hb : Below w.heap.size w w') (hs : s.size ≤ 100) (hq : nameB s = q) => implName_any q s RA RC w' (below_keep hb hv) ((hr.below hb).more hb.size) (by omega) hq)
    clear hx hr hl hv
    go_enter Tryd.func4, Tryd.ntmps4
    go_wp2_with fail
    refine HD.out.mono ?_
    rintro e w1 ⟨s, rfl, hs, b1⟩
    obtain ⟨q, hq⟩ : ∃ q, nameB s = q := ⟨_, rfl⟩
    have I1 := Lib.hid (HI.out q s w1 b1 (by omega) hq)
    have SP := Lib.hid (fun w' => specName_any q s w' (by omega) hq)
    have HP : q = true → 1 ≤ s.size ∧ nameB (s.extract 0 1) = true := fun e => part_name (by rw [hq, e])
    have HPH := Lib.hid HP
    clear HP hq
    go_wp2_with fail
    refine I1.out.mono ?_
    rintro e w' ⟨rfl, rfl⟩
    go_wp2_with fail
    refine (SP.out _).mono ?_
    rintro e w2 ⟨rfl, b2⟩
    have B2 := b1.trans (b2.mono b1.size)
    have I2 := Lib.hid (HI.out false (s ++ ⟨#[49]⟩) w2 B2 (by rw [size_one]; omega) (one_name s))
    have I3 := Lib.hid (HI.out false selB w2 B2 (by decide) sel_name)
    have AL := Lib.hid (HV.out w2 B2)
    go_wp2_with fail
    refine I2.out.mono ?_
    rintro e w' ⟨rfl, rfl⟩
    go_wp2_with fail
    refine I3.out.mono ?_
    rintro e w' ⟨rfl, rfl⟩
    cases q
    · go_wp2_with fail
      refine AL.out.mono ?_
      rintro e w' ⟨rfl, rfl⟩
      go_wp2_with fail
      go_ret
      exact ⟨rfl, B2⟩
    · obtain ⟨h1, h2⟩ := HPH.out rfl
      have I4 := Lib.hid (HI.out true (s.extract 0 1) w2 B2 (by rw [ByteArray.size_extract]; omega) h2)
      have h3 : (1 : Int) ≤ (s.size : Int) := by omega
      clear h2
      go_wp2_with fail
      refine I4.out.mono ?_
      rintro e w' ⟨rfl, rfl⟩
      go_wp2_with fail
      refine AL.out.mono ?_
      rintro e w' ⟨rfl, rfl⟩
      go_wp2_with fail
      go_ret
      exact ⟨rfl, B2⟩
end Go.Proofs.YtcgmcikceohdoaaDoor
