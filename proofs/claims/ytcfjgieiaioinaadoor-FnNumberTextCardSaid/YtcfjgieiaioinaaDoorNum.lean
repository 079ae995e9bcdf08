/- NumberText and ReadNumber: the reference's and the program's. -/
import Derived.Test.YtcfjgieiaioinaaDoorNumP
import Derived.Test.YtcfjgieiaioinaaDoorStr
import Derived.Test.YtcfjgieiaioinaaDoorShelf
import Derived.Laws.IdiomStrings
import Derived.Laws.Concat
namespace Go.Proofs.YtcfjgieiaioinaaDoor
open Go Go.RowKit
set_option maxRecDepth 100000
theorem inB_inV {n : Int} : inB n (-100000) 100000 = decide (inV n) := by
  unfold inB inV
  by_cases h1 : (-100000 : Int) ≤ n <;> by_cases h2 : n ≤ 100000 <;> simp [h1, h2]
/-- The library's table of powers is as its text lays it. -/
abbrev NT (w : World) : Prop := Lib.TabIs Tryd.prog w "internal/strconv.uint64pow10" .u64 Lib.pow10Tab
theorem NT.below {w w' : World} (h : NT w) (hb : Below w.heap.size w w') : NT w' := by
  unfold NT Lib.TabIs World.var? at *
  cases hg : Tryd.prog.globalNamed "internal/strconv.uint64pow10" with
  | none => simp [hg] at h
  | some g =>
    simp only [hg, Option.bind_some] at h ⊢
    have hlt : g < w.heap.size := by
      rcases Nat.lt_or_ge g w.heap.size with h' | h'
      · exact h'
      · rw [Array.getElem?_eq_none h'] at h; simp at h
    rw [hb.block g hlt]
    exact h
theorem below_grow (w : World) (k : Nat) (os : Array Obj) : Below w.heap.size w (Go.Sort.grow (w.drewN k) os) := by
  refine ⟨rfl, rfl, rfl, ?_, fun i hi => ?_⟩
  · show w.heap.size ≤ (w.heap ++ os).size
    rw [Array.size_append]; omega
  · show (w.heap ++ os)[i]? = w.heap[i]?
    rw [Array.getElem?_append_left hi]
theorem itoa_c (n : Int) (h : inV n) (w : World) (hN : NT w) : Calls Tryd.prog 17 #[.int .i64 n] w fun e w' => e = .returned (.string (numS n)) ∧ Below w.heap.size w w' := by
  refine (Tryd.strconv_Itoa n (by have := h.1; omega) (by have := h.2; omega) w hN).mono ?_
  rintro e w' ⟨rfl, k, os, rfl⟩
  exact ⟨by rw [numS_yes h], below_grow w k os⟩
theorem isV_is (q : Bool) (x : Int) (w : World) (hq : inB x (-100000) 100000 = q) : Calls Tryd.prog 16 #[.int .i64 x] w fun e w' => e = .returned (.bool q) ∧ w = w' := by
  have H := Lib.hid (in_is q x (-100000) 100000 w hq)
  clear hq
  go_enter Tryd.func16, Tryd.ntmps16
  go_wp2_with fail
  refine H.out.mono ?_
  rintro e w' ⟨rfl, rfl⟩
  go_wp2
  go_ret
  exact ⟨rfl, rfl⟩
theorem implNum_any (n : Int) (w : World) (hN : NT w) : Calls Tryd.prog 8 #[.int .i64 n] w fun e w' => e = .returned (.string (numS n)) ∧ Below w.heap.size w w' := by
  obtain ⟨q, hq⟩ : ∃ q, inB n (-100000) 100000 = q := ⟨_, rfl⟩
  have H := Lib.hid (isV_is q n w hq)
  rw [inB_inV] at hq
  cases q
  · have e := numS_no (of_decide_eq_false hq)
    have E := Lib.hid e
    clear hq hN e
    go_enter Tryd.func8, Tryd.ntmps8
    go_wp2_with fail
    refine H.out.mono ?_
    rintro e w' ⟨rfl, rfl⟩
    go_wp2
    go_ret
    exact ⟨by rw [E.out]; rfl, Below.refl _ _⟩
  · have C := Lib.hid (itoa_c n (of_decide_eq_true hq) w hN)
    clear hq hN
    go_enter Tryd.func8, Tryd.ntmps8
    go_wp2_with fail
    refine H.out.mono ?_
    rintro e w' ⟨rfl, rfl⟩
    go_wp2_with fail
    refine C.out.mono ?_
    rintro e w' ⟨rfl, hb⟩
    go_wp2
    go_ret
    exact ⟨rfl, hb⟩
theorem conv_dig (w : World) (d : Nat) (hd : d < 256) :
    (convert 27 9 (.slice (some ⟨w.heap.size, 0, none⟩) 1 1)).run Tryd.prog (w.alloc (.cells #[.int .u8 (d : Int)] 5)) = .ok (.string ⟨#[UInt8.ofNat d]⟩) (w.alloc (.cells #[.int .u8 (d : Int)] 5)) := by
  refine run_convert_bytes_back (P := Tryd.prog) _ _ _ 5 ⟨w.heap.size, 0, none⟩ 1 [UInt8.ofNat d] Tryd.underlying27 Tryd.underlying5 Tryd.underlying9 ?_
  intro j hj
  obtain rfl : j = 0 := by simp at hj; omega
  have : (w.alloc (.cells #[.int .u8 (d : Int)] 5)).cell? ⟨w.heap.size, 0, none⟩ = some (.int .u8 (d : Int)) := by rw [World.cell?_alloc_mark]; rfl
  have e : (([UInt8.ofNat d][0]).toNat : Int) = (d : Int) := by simp; omega
  rw [e]
  exact this
/-- What is still ahead of the digits that are written: the digits of n without the last one. -/
def headD (n : Nat) : List UInt8 := if n < 10 then [] else Lib.decDigits (n / 10)
theorem headD_dec (n : Nat) : Lib.decDigits n = headD n ++ [UInt8.ofNat (48 + n % 10)] := by
  unfold headD
  rw [Lib.decDigits]
  split
  · rw [Nat.mod_eq_of_lt (by assumption)]; rfl
  · rfl
def NumInv (u n : Nat) (out : ByteArray) : Prop := Lib.decDigits u = headD n ++ out.data.toList
theorem NumInv.start (u : Nat) : NumInv u u ⟨#[UInt8.ofNat (48 + u % 10)]⟩ := headD_dec u
theorem NumInv.step {u n : Nat} {out : ByteArray} (h : NumInv u n out) (hn : 9 < n) : NumInv u (n / 10) (⟨#[UInt8.ofNat (48 + n / 10 % 10)]⟩ ++ out) := by
  unfold NumInv at h ⊢
  rw [h]
  have e : headD n = Lib.decDigits (n / 10) := by unfold headD; rw [if_neg (by omega)]
  rw [e, headD_dec (n / 10), ByteArray.data_append]
  simp
theorem NumInv.end_ {u n : Nat} {out : ByteArray} (h : NumInv u n out) (hn : ¬ 9 < n) : out.data.toList = Lib.decDigits u := by
  unfold NumInv at h
  rw [h]
  unfold headD
  rw [if_pos (by omega)]
  rfl
theorem add_list (a b : ByteArray) : (a ++ b).data.toList = a.data.toList ++ b.data.toList := by simp [ByteArray.data_append]
theorem byte_ext {a b : ByteArray} (h : a.data.toList = b.data.toList) : a = b := ByteArray.ext (Array.toList_inj.1 h)
set_option maxHeartbeats 1600000 in
theorem specNum_any (n : Int) (w : World) : Calls Tryd.prog 7 #[.int .i64 n] w fun e w' => e = .returned (.string (numS n)) ∧ Below w.heap.size w w' := by
  obtain ⟨q, hq⟩ : ∃ q, inB n (-100000) 100000 = q := ⟨_, rfl⟩
  have H := Lib.hid (l1In_is q n (-100000) 100000 w hq)
  rw [inB_inV] at hq
  cases q
  · have E := Lib.hid (numS_no (of_decide_eq_false hq))
    clear hq
    go_enter Tryd.func7, Tryd.ntmps7
    go_wp2_with fail
    refine H.out.mono ?_
    rintro e w' ⟨rfl, rfl⟩
    go_wp2
    go_ret
    exact ⟨by rw [E.out]; rfl, Below.refl _ _⟩
  · have hv := of_decide_eq_true hq
    clear hq
    have HN := Lib.hid hv
    obtain ⟨hv0, hv1⟩ := hv
    by_cases hneg : n < 0
    · obtain ⟨u, rfl⟩ : ∃ u : Nat, n = -(u : Int) := ⟨n.natAbs, by omega⟩
      have hu0 : 0 < u := by omega
      have hu : u ≤ 100000 := by omega
      have HR := Lib.hid (show (numS (-(u : Int))).data.toList = 45 :: Lib.decDigits u by rw [numS_list HN.out, Lib.itoa_neg u hu0])
      clear hv0 hv1
      go_enter Tryd.func7, Tryd.ntmps7
      have hu1 : (u : Int) ≤ 100000 := by omega
      have hmod : (u : Int) % 10 = ((u % 10 : Nat) : Int) := by omega
      obtain ⟨d, hdd⟩ : ∃ d, u % 10 = d := ⟨_, rfl⟩
      have hd10 : d < 10 := by omega
      have hconv := conv_dig w (48 + d) (by omega)
      rw [show ((48 + d : Nat) : Int) = 48 + (d : Int) by omega] at hconv
      obtain ⟨ch, hch⟩ : ∃ ch : UInt8, UInt8.ofNat (48 + d) = ch := ⟨_, rfl⟩
      rw [hch] at hconv
      have START := Lib.hid (NumInv.start u)
      rw [hdd, hch] at START
      rw [hdd] at hmod
      clear hch
      go_wp2_with fail
      refine H.out.mono ?_
      rintro e w' ⟨rfl, rfl⟩
      go_wp2_with fail
      go_loopw [0, 4] (fun nv ov wr => ∃ (k : Nat) (out : ByteArray), nv = .int .i64 k ∧ ov = .string out ∧ Hid (NumInv u k out) ∧ out.size + k ≤ u + 1 ∧ Below w.heap.size w wr) (fun nv _ _ => (intOf nv).toNat)
      case atStart => exact ⟨u, _, rfl, rfl, START, by show 1 + u ≤ u + 1; omega, (Below.refl _ _).alloc (Nat.le_refl _) _⟩
      case round =>
        clear START hconv hmod hdd hd10
        obtain ⟨k, out, rfl, rfl, hI, hsz, hb⟩ := hrel
        by_cases hlt : 9 < k
        · have hlt1 : (9 : Int) < (k : Int) := by omega
          have hdiv : (k : Int) / 10 = ((k / 10 : Nat) : Int) := by omega
          obtain ⟨j, hj⟩ : ∃ j, k / 10 = j := ⟨_, rfl⟩
          have hjk : j + 1 ≤ k := by omega
          have hmod : (j : Int) % 10 = ((j % 10 : Nat) : Int) := by omega
          obtain ⟨d, hdd⟩ : ∃ d, j % 10 = d := ⟨_, rfl⟩
          have hd10 : d < 10 := by omega
          have hconv := conv_dig wr (48 + d) (by omega)
          rw [show ((48 + d : Nat) : Int) = 48 + (d : Int) by omega] at hconv
          obtain ⟨ch, hch⟩ : ∃ ch : UInt8, UInt8.ofNat (48 + d) = ch := ⟨_, rfl⟩
          rw [hch] at hconv
          have hsum := run_string_add_sum (P := Tryd.prog) (w := wr.alloc (.cells #[.int .u8 (48 + (d : Int))] 5)) ⟨#[ch]⟩ out (by show 1 + out.size ≤ _; omega)
          have hI2 := Lib.hid (hI.out.step hlt)
          rw [hj, hdd, hch] at hI2
          rw [hj] at hdiv
          rw [hdd] at hmod
          clear hch hI
          have hk1 : (k : Int) ≤ 200000 := by omega
          go_wp2_with fail
          refine ⟨⟨j, _, by go_num, rfl, hI2, ?_, hb.alloc hb.size _⟩, ?_⟩
          · show (⟨#[ch]⟩ ++ out : ByteArray).size + j ≤ u + 1
            rw [ByteArray.size_append]
            show 1 + out.size + j ≤ u + 1
            omega
          · simp [intOf]; omega
        · have hlt1 : ¬ (9 : Int) < (k : Int) := by omega
          have hE := Lib.hid (hI.out.end_ hlt)
          have hsum := run_string_add_sum (P := Tryd.prog) (w := wr) ⟨#[45]⟩ out (by show 1 + out.size ≤ _; omega)
          clear hI
          go_wp2_with fail
          go_ret
          exact ⟨by rw [show (⟨#[45]⟩ ++ out : ByteArray) = numS (-(u : Int)) from byte_ext (by rw [add_list, hE.out, HR.out]; rfl)]; rfl, hb⟩
    · obtain ⟨u, rfl⟩ : ∃ u : Nat, n = (u : Int) := ⟨n.toNat, by omega⟩
      have hu : u ≤ 100000 := by omega
      have HR := Lib.hid (show (numS (u : Int)).data.toList = Lib.decDigits u by rw [numS_list HN.out, Lib.itoa_nonneg])
      clear hv0 hv1
      go_enter Tryd.func7, Tryd.ntmps7
      have hu1 : (u : Int) ≤ 100000 := by omega
      have hmod : (u : Int) % 10 = ((u % 10 : Nat) : Int) := by omega
      obtain ⟨d, hdd⟩ : ∃ d, u % 10 = d := ⟨_, rfl⟩
      have hd10 : d < 10 := by omega
      have hconv := conv_dig w (48 + d) (by omega)
      rw [show ((48 + d : Nat) : Int) = 48 + (d : Int) by omega] at hconv
      obtain ⟨ch, hch⟩ : ∃ ch : UInt8, UInt8.ofNat (48 + d) = ch := ⟨_, rfl⟩
      rw [hch] at hconv
      have START := Lib.hid (NumInv.start u)
      rw [hdd, hch] at START
      rw [hdd] at hmod
      clear hch
      go_wp2_with fail
      refine H.out.mono ?_
      rintro e w' ⟨rfl, rfl⟩
      go_wp2_with fail
      go_loopw [0, 4] (fun nv ov wr => ∃ (k : Nat) (out : ByteArray), nv = .int .i64 k ∧ ov = .string out ∧ Hid (NumInv u k out) ∧ out.size + k ≤ u + 1 ∧ Below w.heap.size w wr) (fun nv _ _ => (intOf nv).toNat)
      case atStart => exact ⟨u, _, rfl, rfl, START, by show 1 + u ≤ u + 1; omega, (Below.refl _ _).alloc (Nat.le_refl _) _⟩
      case round =>
        clear START hconv hmod hdd hd10
        obtain ⟨k, out, rfl, rfl, hI, hsz, hb⟩ := hrel
        by_cases hlt : 9 < k
        · have hlt1 : (9 : Int) < (k : Int) := by omega
          have hdiv : (k : Int) / 10 = ((k / 10 : Nat) : Int) := by omega
          obtain ⟨j, hj⟩ : ∃ j, k / 10 = j := ⟨_, rfl⟩
          have hjk : j + 1 ≤ k := by omega
          have hmod : (j : Int) % 10 = ((j % 10 : Nat) : Int) := by omega
          obtain ⟨d, hdd⟩ : ∃ d, j % 10 = d := ⟨_, rfl⟩
          have hd10 : d < 10 := by omega
          have hconv := conv_dig wr (48 + d) (by omega)
          rw [show ((48 + d : Nat) : Int) = 48 + (d : Int) by omega] at hconv
          obtain ⟨ch, hch⟩ : ∃ ch : UInt8, UInt8.ofNat (48 + d) = ch := ⟨_, rfl⟩
          rw [hch] at hconv
          have hsum := run_string_add_sum (P := Tryd.prog) (w := wr.alloc (.cells #[.int .u8 (48 + (d : Int))] 5)) ⟨#[ch]⟩ out (by show 1 + out.size ≤ _; omega)
          have hI2 := Lib.hid (hI.out.step hlt)
          rw [hj, hdd, hch] at hI2
          rw [hj] at hdiv
          rw [hdd] at hmod
          clear hch hI
          have hk1 : (k : Int) ≤ 200000 := by omega
          go_wp2_with fail
          refine ⟨⟨j, _, by go_num, rfl, hI2, ?_, hb.alloc hb.size _⟩, ?_⟩
          · show (⟨#[ch]⟩ ++ out : ByteArray).size + j ≤ u + 1
            rw [ByteArray.size_append]
            show 1 + out.size + j ≤ u + 1
            omega
          · simp [intOf]; omega
        · have hlt1 : ¬ (9 : Int) < (k : Int) := by omega
          have hE := Lib.hid (hI.out.end_ hlt)
          have hsum := run_string_add_sum (P := Tryd.prog) (w := wr) ⟨#[]⟩ out (by show 0 + out.size ≤ _; omega)
          clear hI
          go_wp2_with fail
          go_ret
          exact ⟨by rw [show (⟨#[]⟩ ++ out : ByteArray) = numS (u : Int) from byte_ext (by rw [add_list, hE.out, HR.out]; rfl)]; rfl, hb⟩
/-- The library's variables that ReadNumber may look at. -/
structure LV (w : World) : Prop where
  tab : NT w
  syn : ∃ tp p, w.cell? ⟨1, 0, none⟩ = some (.iface tp p)
  rng : ∃ tp p, w.cell? ⟨2, 0, none⟩ = some (.iface tp p)
theorem LV.below {w w' : World} (h : LV w) (hb : Below w.heap.size w w') : LV w' := by
  obtain ⟨h1, ⟨a, b, h2⟩, ⟨c, d, h3⟩⟩ := h
  exact ⟨h1.below hb, ⟨a, b, below_keep hb h2⟩, ⟨c, d, below_keep hb h3⟩⟩
end Go.Proofs.YtcfjgieiaioinaaDoor
