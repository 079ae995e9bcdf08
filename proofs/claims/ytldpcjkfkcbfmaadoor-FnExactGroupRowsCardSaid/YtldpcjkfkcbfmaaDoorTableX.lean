/- laws.szTable, toTable, eqTable and what they call; a table as an argument. -/
import Derived.Test.YtldpcjkfkcbfmaaDoorTableV
import Derived.Test.YtldpcjkfkcbfmaaDoorOpen
import Derived.Lib.SmallJoins
import Derived.Deep.Matrix
import Derived.Outline
import Derived.Deep.RegionHeld3
namespace Go.Proofs.YtldpcjkfkcbfmaaDoor
open Go Go.RowKit Go.WideShapes Go.ChangeShapes Go.WideElems Go.Deep
set_option maxRecDepth 100000

theorem szIntS_any (A : Option Addr) (n c : Nat) (l : Int) (w : World) (h0 : 0 ≤ l) (h1 : l ≤ 1048576) (hn : n ≤ 9223372036854775807) :
    Calls Tryd.prog 43 #[.slice A n c, .int .i64 l] w fun e w' => e = .returned (.int .i64 (if l < n then -1 else l - n)) ∧ w = w' := by
  by_cases h : l < n
  · rw [if_pos h]
    go_enter Tryd.func43, Tryd.ntmps43
    go_wp2
    go_ret
    exact ⟨rfl, rfl⟩
  · rw [if_neg h]
    go_enter Tryd.func43, Tryd.ntmps43
    go_wp2
    go_ret
    exact ⟨rfl, rfl⟩
def SzR (l : Int) (P : Prop) (w : World) (e : Ending) (w' : World) : Prop := ∃ r : Int, e = .returned (.int .i64 r) ∧ -1 ≤ r ∧ r ≤ l ∧ (0 ≤ r → P) ∧ w = w'
set_option maxHeartbeats 800000 in
theorem szIntSS_any (A : Option Addr) (n c : Nat) (rows : List (List Int)) (l : Int) (w : World) (h0 : 0 ≤ l) (h1 : l ≤ 1048576) (hx : RowsR w w.heap.size A n rows) (hn : n ≤ 9223372036854775807) :
    Calls Tryd.prog 21 #[.slice A n c, .int .i64 l] w (SzR l (n ≤ 1048576 ∧ ∀ r ∈ rows, r.length ≤ 1048576) w) := by
  by_cases h : l < n
  · clear hx
    go_enter Tryd.func21, Tryd.ntmps21
    go_wp2_with fail
    go_ret
    exact ⟨-1, rfl, by omega, by omega, fun h => by omega, rfl⟩
  · go_enter Tryd.func21, Tryd.ntmps21
    go_wp2_with fail
    go_loop [1, 5] (fun lv kv => ∃ (k : Nat) (r : Int), k ≤ n ∧ kv = .int .i64 k ∧ lv = .int .i64 r ∧ 0 ≤ r ∧ r ≤ l ∧ Hid (∀ j row, j < k → rows[j]? = some row → row.length ≤ 1048576)) (fun _ kv => n - (intOf kv).toNat)
    case atStart => exact ⟨0, l - n, Nat.zero_le _, rfl, rfl, by omega, by omega, fun j row hj => by omega⟩
    case round =>
      obtain ⟨k, r, hk, rfl, rfl, hr0, hr1, hok⟩ := hrel
      have hk0 : (0 : Int) ≤ (k : Int) := Int.natCast_nonneg _
      by_cases hlt : k < n
      · obtain ⟨ad, row, Ak, ck, rfl, _, hrow, e1, g1, g2, g3, rr⟩ := hx.at_ hlt
        unfold maxLen at g2
        have hk1 : (k : Int) < (n : Int) := by omega
        have S := Lib.hid (szIntS_any Ak row.length ck r w hr0 (by omega) (by omega))
        have HR := Lib.hid hrow
        clear hrow g3 rr hx
        by_cases hq : r < (row.length : Int)
        · have e2 : (if r < (row.length : Int) then (-1 : Int) else r - row.length) = -1 := if_pos hq
          rw [e2] at S
          clear e2
          go_wp2_with fail
          refine S.out.mono ?_
          rintro e w' ⟨rfl, rfl⟩
          go_wp2_with fail
          go_ret
          exact ⟨-1, rfl, by omega, by omega, fun h => by omega, rfl⟩
        · have e2 : (if r < (row.length : Int) then (-1 : Int) else r - row.length) = r - row.length := if_neg hq
          rw [e2] at S
          clear e2
          go_wp2_with fail
          refine S.out.mono ?_
          rintro e w' ⟨rfl, rfl⟩
          go_wp2_with fail
          go_round
          case rel =>
            refine ⟨k + 1, r - row.length, by omega, by go_num, rfl, by omega, by omega, fun j row' hj hr => ?_⟩
            rcases Nat.lt_succ_iff_lt_or_eq.1 hj with h | rfl
            · exact hok.out j row' h hr
            · obtain rfl := Option.some.inj (HR.out.symm.trans hr)
              omega
          case measure => simp [intOf]; omega
      · obtain rfl : k = n := by omega
        have HLN := Lib.hid hx.len
        clear hx
        go_wp2_with fail
        go_ret
        refine ⟨r, rfl, by omega, hr1, fun _ => ⟨by omega, fun row hr => ?_⟩, rfl⟩
        obtain ⟨j, hj, e⟩ := List.getElem_of_mem hr
        exact hok.out j row (by have := HLN.out; omega) (by rw [List.getElem?_eq_getElem hj, e])
set_option maxHeartbeats 800000 in
theorem szStringS_any (A : Option Addr) (n c : Nat) (xs : List ByteArray) (l : Int) (w : World) (h0 : 0 ≤ l) (h1 : l ≤ 1048576) (hx : Reads w w.heap.size 1 A n (stCells xs)) (hxn : xs.length = n) (hn : n ≤ 9223372036854775807) (hs : ∀ x ∈ xs, x.size ≤ 9223372036854775807) :
    Calls Tryd.prog 13 #[.slice A n c, .int .i64 l] w (SzR l (n ≤ 1048576 ∧ ∀ x ∈ xs, x.size ≤ 1048576) w) := by
  have HX := Lib.hid hxn
  have HS := Lib.hid hs
  clear hxn hs
  by_cases h : l < n
  · clear hx
    go_enter Tryd.func13, Tryd.ntmps13
    go_wp2_with fail
    go_ret
    exact ⟨-1, rfl, by omega, by omega, fun h => by omega, rfl⟩
  · go_enter Tryd.func13, Tryd.ntmps13
    go_wp2_with fail
    go_loop [1, 5] (fun lv kv => ∃ (k : Nat) (r : Int), k ≤ n ∧ kv = .int .i64 k ∧ lv = .int .i64 r ∧ 0 ≤ r ∧ r ≤ l ∧ Hid (∀ j x, j < k → xs[j]? = some x → x.size ≤ 1048576)) (fun _ kv => n - (intOf kv).toNat)
    case atStart => exact ⟨0, l - n, Nat.zero_le _, rfl, rfl, by omega, by omega, fun j row hj => by omega⟩
    case round =>
      obtain ⟨k, r, hk, rfl, rfl, hr0, hr1, hok⟩ := hrel
      have hk0 : (0 : Int) ≤ (k : Int) := Int.natCast_nonneg _
      by_cases hlt : k < n
      · obtain ⟨ad, x, rfl, _, hxk, e1⟩ := st_at hx HX.out hlt
        have hk1 : (k : Int) < (n : Int) := by omega
        have hsz := HS.out x (List.mem_of_getElem? hxk)
        have HR := Lib.hid hxk
        clear hxk hx
        by_cases hq : r < (x.size : Int)
        · go_wp2_with fail
          go_ret
          exact ⟨-1, rfl, by omega, by omega, fun h => by omega, rfl⟩
        · go_wp2_with fail
          go_round
          case rel =>
            refine ⟨k + 1, r - x.size, by omega, by go_num, rfl, by omega, by omega, fun j x' hj hr => ?_⟩
            rcases Nat.lt_succ_iff_lt_or_eq.1 hj with h | rfl
            · exact hok.out j x' h hr
            · obtain rfl := Option.some.inj (HR.out.symm.trans hr)
              omega
          case measure => simp [intOf]; omega
      · obtain rfl : k = n := by omega
        clear hx
        go_wp2_with fail
        go_ret
        refine ⟨r, rfl, by omega, hr1, fun _ => ⟨by omega, fun x hr => ?_⟩, rfl⟩
        obtain ⟨j, hj, e⟩ := List.getElem_of_mem hr
        exact hok.out j x (by have := HX.out; omega) (by rw [List.getElem?_eq_getElem hj, e])
set_option maxHeartbeats 800000 in
theorem toStringS_any (A : Option Addr) (n c : Nat) (xs : List ByteArray) (w : World) (hx : Reads w w.heap.size 1 A n (stCells xs)) (hn : n ≤ 1048576) (hxn : xs.length = n) :
    Calls Tryd.prog 15 #[.slice A n c] w fun e w' => ∃ v, e = .returned v ∧ w'.ownsRow w.heap.size 9 1 v n (stCells xs) ∧ Below w.heap.size w w' := by
  obtain ⟨i0, hi0, hz0, hz1, hz2⟩ := info_parts infoStr
  have HX := Lib.hid hxn
  clear hxn
  go_enter Tryd.func15, Tryd.ntmps15
  go_wp2_with (at_make; refine wpList_make_full _ rfl _ _ 22 rfl w.heap.size 9 i0 _ 1 Tryd.underlying22 hi0 hz0 hz1 .i64 .i64 _ _ n rfl rfl rfl rfl (by rw [hz2]; omega) (by unfold maxLen; omega) (Nat.le_refl _) ?_; intro w1 hown1 hgrow1)
  have hb1 : Below w.heap.size w w1 := (Below.refl _ _).grown hgrow1 (Nat.le_refl _) (by simp)
  generalize hD : (madeCells (Value.string ⟨#[]⟩).cells (n * 1)).toList = D at hown1
  have HDL := Lib.hid (show D.length = n by have := hown1.1; omega)
  clear hD hgrow1
  go_loopw [4] (fun i wr => ∃ j : Nat, j ≤ n ∧ i = .int .i64 j ∧ wr.ownsRow w.heap.size 9 1 (.slice (some ⟨w.heap.size, 0, none⟩) n n) n (stCells (xs.take j) ++ D.drop j) ∧ Below w.heap.size w wr) (fun i _ => n - (intOf i).toNat)
  case atStart => exact ⟨0, Nat.zero_le _, rfl, by simpa [stCells] using hown1, hb1⟩
  case round =>
    clear hown1 hb1
    obtain ⟨j, hj, rfl, hown, hb⟩ := hrel
    by_cases hlt : j < n
    · obtain ⟨ad, x, rfl, _, hxk, e1⟩ := st_at (hx.below hb) HX.out hlt
      have HXK := Lib.hid hxk
      have hl := hown.1
      obtain ⟨y0, h0⟩ : ∃ u, wr.cell? ⟨w.heap.size, j, none⟩ = some u := ⟨_, (hown.cellAt j (by omega)).trans (List.getElem?_eq_getElem (by omega))⟩
      have f0 := hown.frozenAt j
      have HO := Lib.hid hown
      clear hxk hx hl hown
      go_wp2
      go_roundw
      case rel =>
        have e : stCells (xs.take (j + 1)) = stCells (xs.take j) ++ [.string x] := by
          rw [List.take_add_one, HXK.out, stCells_append]; rfl
        have R := own_store1 (j := j) (ys := stCells (xs.take j)) (xs := D) HO.out HDL.out (by rw [stCells_length, List.length_take]; have := HX.out; omega) hlt (.string x)
        refine ⟨j + 1, by omega, by go_num, by rw [e]; exact R.1, ?_⟩
        exact hb.grown R.2 hb.size (by simp)
      case measure => simp [intOf]; omega
    · obtain rfl : j = n := by omega
      go_wp2
      go_ret
      refine ⟨_, rfl, ?_, hb⟩
      rw [List.take_of_length_le (by have := HX.out; omega), List.drop_of_length_le (by have := HDL.out; omega), List.append_nil] at hown
      exact hown
theorem infoRow : (Tryd.prog.info? 44).map (fun i => (i.zero, i.size, i.bytes)) = some (some (.slice none 0 0), 1, 24) := by kernel_rfl
theorem made_one (z : Value) (hz : z.cells = #[z]) (n : Nat) : (madeCells z.cells (n * 1)).toList = List.replicate n z := by
  rw [hz]
  unfold madeCells
  refine List.ext_getElem (by simp) fun i h1 h2 => ?_
  simp [Nat.mod_one]
theorem rows_made {w : World} {lo : Nat} {v : Value} {n : Nat} (h : w.ownsRow lo 44 1 v n (List.replicate n (.slice none 0 0))) : RowsV w lo w.heap.size v (List.replicate n (.slice none 0 0)) (List.replicate n []) := by
  have key : ∀ (k : Nat) (u : Value), (List.replicate n (Value.slice none 0 0))[k]? = some u → u = .slice none 0 0 := by
    intro k u hu
    rw [List.getElem?_replicate] at hu
    split at hu
    · exact (Option.some.inj hu).symm
    · cases hu
  refine ⟨by simp, by rw [List.length_replicate]; exact h, fun g e => (h.lt g e).2, ?_, ?_, ?_, ?_⟩
  · intro k u r hu hr
    obtain rfl := key k u hu
    rw [List.getElem?_replicate] at hr
    split at hr
    · obtain rfl := Option.some.inj hr
      exact World.ownsRow_nil w lo _ _
    · cases hr
  · intro k u g hu e
    obtain rfl := key k u hu
    simp [Value.ownBlock] at e
  · intro k u hu
    obtain rfl := key k u hu
    left; rfl
  · intro i j u u' _ hu _
    obtain rfl := key i u hu
    left; rfl
set_option maxHeartbeats 800000 in
theorem toIntSS_any (A : Option Addr) (n c : Nat) (rows : List (List Int)) (w : World) (hx : RowsR w w.heap.size A n rows) (hn : n ≤ 1048576) (hl : ∀ r ∈ rows, r.length ≤ 1048576) :
    Calls Tryd.prog 25 #[.slice A n c] w fun e w' => ∃ v, e = .returned v ∧ RowsO w' w.heap.size w'.heap.size v rows ∧ Below w.heap.size w w' := by
  obtain ⟨i0, hi0, hz0, hz1, hz2⟩ := info_parts infoRow
  have HL := Lib.hid hl
  have HRN := Lib.hid hx.len
  clear hl
  go_enter Tryd.func25, Tryd.ntmps25
  go_wp2_with (at_make; refine wpList_make_full _ rfl _ _ 23 rfl w.heap.size 44 i0 _ 1 Tryd.underlying23 hi0 hz0 hz1 .i64 .i64 _ _ n rfl rfl rfl rfl (by rw [hz2]; omega) (by unfold maxLen; omega) (Nat.le_refl _) ?_; intro w1 hown1 hgrow1)
  have hb1 : Below w.heap.size w w1 := (Below.refl _ _).grown hgrow1 (Nat.le_refl _) (by simp)
  rw [made_one _ rfl] at hown1
  have hv1 := rows_made hown1
  clear hgrow1 hown1
  go_loopw [4] (fun i wr => ∃ (j : Nat) (vs : List Value), j ≤ n ∧ i = .int .i64 j ∧ RowsV wr w.heap.size wr.heap.size (.slice (some ⟨w.heap.size, 0, none⟩) n n) vs (rows.take j ++ List.replicate (n - j) []) ∧ Below w.heap.size w wr) (fun i _ => n - (intOf i).toNat)
  case atStart => exact ⟨0, _, Nat.zero_le _, rfl, by simpa using hv1, hb1⟩
  case round =>
    clear hv1 hb1
    obtain ⟨j, vs, hj, rfl, hown, hb⟩ := hrel
    have hlen : (rows.take j ++ List.replicate (n - j) ([] : List Int)).length = n := by rw [List.length_append, List.length_take, List.length_replicate]; have := HRN.out; omega
    by_cases hlt : j < n
    · obtain ⟨ad, row, Ak, ck, rfl, _, hrow, e1, g1, g2, g3, rr⟩ := (hx.belowW (Nat.le_refl _) hb).at_ hlt
      have hk0 : (0 : Int) ≤ (j : Int) := Int.natCast_nonneg _
      have hk1 : (j : Int) < (n : Int) := by omega
      have TI := Lib.hid (toIntS_any Ak row.length ck row wr (rr.more hb.size) (HL.out row (List.mem_of_getElem? hrow)) rfl)
      have HROW := Lib.hid hrow
      have HOWN := Lib.hid hown
      have HLEN := Lib.hid hlen
      clear hrow g3 rr hx hown hlen
      go_wp2_with fail
      refine TI.out.mono ?_
      rintro e w2 ⟨u, rfl, ou, b2⟩
      obtain ⟨Au, cu, rfl, _, _⟩ := own_form ou
      have ow := HOWN.out.below b2
      have hb2 := hb.trans (b2.mono hb.size)
      have hl0 := ow.own.1
      have hlen' := HLEN.out
      obtain ⟨y0, h0⟩ : ∃ y, w2.cell? ⟨w.heap.size, j, none⟩ = some y := by
        have h1 := ow.own
        rw [hlen'] at h1
        exact ⟨_, (h1.cellAt j (by omega)).trans (List.getElem?_eq_getElem (by have := h1.1; omega))⟩
      have f0 : w2.frozen? ⟨w.heap.size, j, none⟩ = false := by
        have h1 := ow.own
        rw [hlen'] at h1
        exact h1.frozenAt j
      have fr := HOWN.out.fresh ou
      have hbs := hb.size
      have HS := Lib.hid (ow.set_n (k := j) (hi' := w2.heap.size) (u := .slice Au row.length cu) (r := row) hlen' (ou.base_le hbs) hlt fr.1 fr.2 b2.size (fun g e => (ou.lt g e).2))
      have HB := Lib.hid (hb2.setCell (p := ⟨w.heap.size, j, none⟩) (Nat.le_refl _) (.slice Au row.length cu))
      have e1' := below_keep b2 e1
      clear ow fr hlen' hl0 ou hb2 b2 hbs e1
      go_wp2_with fail
      go_roundw
      case rel =>
        refine ⟨j + 1, vs.set j (.slice Au row.length cu), by omega, by go_num, ?_, HB.out⟩
        have := HS.out
        rw [set_take rows n j row HROW.out hlt] at this
        simpa [World.setCell] using this
      case measure => simp [intOf]; omega
    · obtain rfl : j = n := by omega
      clear hx
      go_wp2_with fail
      go_ret
      refine ⟨_, rfl, ⟨vs, ?_⟩, hb⟩
      rw [List.take_of_length_le (by have := HRN.out; omega), Nat.sub_self, List.replicate_zero, List.append_nil] at hown
      exact hown

/-! ### comparisons -/
set_option maxHeartbeats 400000 in
theorem eqStringS_yes (A B : Option Addr) (n c d : Nat) (xs : List ByteArray) (w : World) (hxn : xs.length = n) (hx : Reads w w.heap.size 1 A n (stCells xs)) (hy : Reads w w.heap.size 1 B n (stCells xs)) (hn : n ≤ 1000000000) :
    Calls Tryd.prog 17 #[.slice A n c, .slice B n d] w fun e w' => e = .returned (.bool true) ∧ Below w.heap.size w w' := by
  have HX := Lib.hid hxn
  clear hxn
  go_enter Tryd.func17, Tryd.ntmps17
  go_wp2
  go_loopw [5] (fun i wr => ∃ k : Nat, k ≤ n ∧ i = .int .i64 k ∧ Below w.heap.size w wr) (fun i _ => n - (intOf i).toNat)
  case atStart => exact ⟨0, Nat.zero_le _, rfl, Below.refl _ _⟩
  case round =>
    obtain ⟨k, hk, rfl, hb⟩ := hrel
    by_cases hlt : k < n
    · obtain ⟨ad, x, rfl, _, hxk, e1⟩ := st_at (hx.below hb) HX.out hlt
      obtain ⟨bd, y, rfl, _, hyk, f1⟩ := st_at (hy.below hb) HX.out hlt
      obtain rfl : x = y := Option.some.inj (hxk.symm.trans hyk)
      clear hxk hyk hx hy
      have hk0 : (0 : Int) ≤ (k : Int) := Int.natCast_nonneg _
      have hk1 : (k : Int) < (n : Int) := by omega
      go_wp2_with fail
      go_quiet (fail)
      go_wp2
      go_roundw
      case rel => exact ⟨k + 1, by omega, by go_num, below_drewN' hb _⟩
      case measure => simp [intOf]; omega
    · obtain rfl : k = n := by omega
      go_wp2
      go_ret
      exact ⟨rfl, hb⟩
set_option maxHeartbeats 800000 in
theorem eqIntSS_yes (A B : Option Addr) (n c d : Nat) (rows : List (List Int)) (w : World) (hx : RowsR w w.heap.size A n rows) (hy : RowsR w w.heap.size B n rows) (hn : n ≤ 1000000000) (hl : ∀ r ∈ rows, r.length ≤ 1000000000) :
    Calls Tryd.prog 30 #[.slice A n c, .slice B n d] w fun e w' => e = .returned (.bool true) ∧ Below w.heap.size w w' := by
  have HL := Lib.hid hl
  clear hl
  go_enter Tryd.func30, Tryd.ntmps30
  go_wp2
  go_loopw [5] (fun i wr => ∃ k : Nat, k ≤ n ∧ i = .int .i64 k ∧ Below w.heap.size w wr) (fun i _ => n - (intOf i).toNat)
  case atStart => exact ⟨0, Nat.zero_le _, rfl, Below.refl _ _⟩
  case round =>
    obtain ⟨k, hk, rfl, hb⟩ := hrel
    by_cases hlt : k < n
    · obtain ⟨ad, row, Ak, ck, rfl, _, hxk, e1, g1, g2, g3, r1⟩ := (hx.below hb).at_ hlt
      obtain ⟨bd, row', Bk, dk, rfl, _, hyk, f1, g1', g2', g3', r2⟩ := (hy.below hb).at_ hlt
      obtain rfl : row = row' := Option.some.inj (hxk.symm.trans hyk)
      have EQ := Lib.hid (fun (w' : World) (hb' : Below wr.heap.size wr w') => eqIntS_any true Ak Bk row.length row.length ck dk row row w' (by simp) rfl rfl ((r1.below hb').more hb'.size) ((r2.below hb').more hb'.size) (HL.out row (List.mem_of_getElem? hxk)) (HL.out row (List.mem_of_getElem? hxk)))
      clear hxk hyk hx hy g3 g3' r1 r2
      have hk0 : (0 : Int) ≤ (k : Int) := Int.natCast_nonneg _
      have hk1 : (k : Int) < (n : Int) := by omega
      go_wp2_with fail
      go_region_held3 (fun w' => w'.cell? (ad.add k) = some (.slice Ak row.length ck) ∧ w'.cell? (bd.add k) = some (.slice Bk row.length dk)) (first | go_keep | (go_split_ands; refine ⟨?_, ?_⟩ <;> (refine below_keep hb' ?_; assumption)))
        (first | (go_at_call 49; refine (EQ.out _ ((Below.refl _ _).drew)).mono ?_; rintro e w' ⟨rfl, hb'⟩))
      have hbb := hb.drew.trans (hb'.mono hb.size)
      clear hb'
      go_wp2
      go_roundw
      case rel => exact ⟨k + 1, by omega, by go_num, hbb⟩
      case measure => simp [intOf]; omega
    · obtain rfl : k = n := by omega
      go_wp2
      go_ret
      exact ⟨rfl, hb⟩
/-- A table's value in memory. -/
def TabR (w : World) (v : Value) (names : List ByteArray) (rows : List (List Int)) : Prop := ∃ (A : Option Addr) (c : Nat) (B : Option Addr) (d : Nat), v = .agg #[.slice A names.length c, .slice B rows.length d] ∧ names.length ≤ c ∧ Reads w w.heap.size 1 A names.length (stCells names) ∧ RowsR w w.heap.size B rows.length rows
theorem TabR.below {w w' : World} {v : Value} {names : List ByteArray} {rows : List (List Int)} (h : TabR w v names rows) (hb : Below w.heap.size w w') : TabR w' v names rows := by
  obtain ⟨A, c, B, d, h1, h2, h3, h4⟩ := h
  exact ⟨A, c, B, d, h1, h2, (h3.below hb).more hb.size, h4.below hb⟩
set_option maxHeartbeats 800000 in
theorem eqTable_yes (v u : Value) (names : List ByteArray) (rows : List (List Int)) (w : World) (hv : TabR w v names rows) (hu : TabR w u names rows) (hok : TabOk names rows) :
    Calls Tryd.prog 10 #[v, u] w fun e w' => e = .returned (.bool true) ∧ Below w.heap.size w w' := by
  obtain ⟨A, c, B, d, rfl, _, hx, hy⟩ := hv
  obtain ⟨A', c', B', d', rfl, _, hx', hy'⟩ := hu
  obtain ⟨n, hn⟩ : ∃ n, names.length = n := ⟨_, rfl⟩
  obtain ⟨m, hm⟩ : ∃ m, rows.length = m := ⟨_, rfl⟩
  have hn1 := hok.n1
  have hr1 := hok.r1
  rw [hn] at hx hx' hn1 ⊢
  rw [hm] at hy hy' hr1 ⊢
  obtain ⟨w1, hw1⟩ : ∃ w1, w1 = (w.alloc (.cells #[.slice A n c, .slice B m d] 27)).alloc (.cells #[.slice A' n c', .slice B' m d'] 27) := ⟨_, rfl⟩
  have b1 : Below w.heap.size w w1 := by rw [hw1]; exact ((Below.refl _ _).alloc (Nat.le_refl _) _).alloc (by simp) _
  have k1 : Blk w1 w.heap.size 27 #[.slice A n c, .slice B m d] := by rw [hw1]; exact (Blk.new _ _ _).alloc _
  have k2 : Blk w1 (w.heap.size + 1) 27 #[.slice A' n c', .slice B' m d'] := by
    have := Blk.new (w.alloc (.cells #[.slice A n c, .slice B m d] 27)) 27 #[.slice A' n c', .slice B' m d']
    rw [World.size_alloc] at this
    rw [hw1]; exact this
  have KB := Lib.hid (fun (wr : World) (hb : Below w1.heap.size w1 wr) => And.intro (k1.below hb k1.lt) (k2.below hb k2.lt))
  have E1 := Lib.hid (eqStringS_yes A A' n c c' names w1 hn ((hx.below b1).more b1.size) ((hx'.below b1).more b1.size) hn1)
  have E2 := Lib.hid (fun (wr : World) (hb : Below w1.heap.size w1 wr) => eqIntSS_yes B B' m d d' rows wr ((hy.below b1).below hb) ((hy'.below b1).below hb) hr1 hok.r2)
  have c0 := k1.cell 0
  have c1 := k2.cell 0
  simp at c0 c1
  have HW := Lib.hid hw1
  clear hx hy hx' hy' hok hn hm k1 k2 hw1
  go_enter Tryd.func10, Tryd.ntmps10
  go_wp2_with fail
  rw [← HW.out]
  refine E1.out.mono ?_
  rintro e w2 ⟨rfl, b2⟩
  have d0 := (KB.out w2 b2).1.cell 1
  have d1 := (KB.out w2 b2).2.cell 1
  simp at d0 d1
  clear c0 c1
  have E2' := Lib.hid (E2.out w2 b2)
  have B2 := b1.trans (b2.mono b1.size)
  clear b2
  go_wp2_with fail
  refine E2'.out.mono ?_
  rintro e w3 ⟨rfl, b3⟩
  have B3 := B2.trans (b3.mono B2.size)
  go_wp2_with fail
  go_ret
  exact ⟨rfl, B3⟩
set_option maxHeartbeats 800000 in
theorem toTable_any (A : Option Addr) (c : Nat) (B : Option Addr) (d : Nat) (names : List ByteArray) (rows : List (List Int)) (w : World) (hx : Reads w w.heap.size 1 A names.length (stCells names)) (hy : RowsR w w.heap.size B rows.length rows)
    (hn : names.length ≤ 1048576) (hm : rows.length ≤ 1048576) (hl : ∀ r ∈ rows, r.length ≤ 1048576) :
    Calls Tryd.prog 8 #[.agg #[.slice A names.length c, .slice B rows.length d]] w fun e w' => ∃ (v u : Value), e = .returned (.agg #[v, u]) ∧ w'.ownsRow w.heap.size 9 1 v names.length (stCells names) ∧ RowsO w' w.heap.size w'.heap.size u rows ∧ Below w.heap.size w w' := by
  obtain ⟨n, hnn⟩ : ∃ n, names.length = n := ⟨_, rfl⟩
  obtain ⟨m, hmm⟩ : ∃ m, rows.length = m := ⟨_, rfl⟩
  rw [hnn] at hx hn ⊢
  rw [hmm] at hy hm ⊢
  have TS := Lib.hid (fun (wr : World) (hb : Below w.heap.size w wr) => toStringS_any A n c names wr ((hx.below hb).more hb.size) hn hnn)
  have TI := Lib.hid (fun (wr : World) (hb : Below w.heap.size w wr) => toIntSS_any B m d rows wr ((hy.belowW (Nat.le_refl _) hb).more hb.size) hm hl)
  clear hx hy hnn hmm hl
  go_enter Tryd.func8, Tryd.ntmps8
  go_wp2_with fail
  obtain ⟨w1, hw1⟩ : ∃ w1, w1 = ((w.alloc (.cells #[.slice A n c, .slice B m d] 25)).alloc (.cells #[.slice none 0 0, .slice none 0 0] 27)).alloc (.cells #[.slice none 0 0, .slice none 0 0] 27) := ⟨_, rfl⟩
  have b1 : Below w.heap.size w w1 := by rw [hw1]; exact (((Below.refl _ _).alloc (Nat.le_refl _) _).alloc (by simp) _).alloc (by simp; omega) _
  have hs1 : w1.heap.size = w.heap.size + 1 + 1 + 1 := by rw [hw1]; simp
  have hs1l : w.heap.size + 1 + 1 + 1 ≤ w1.heap.size := by omega
  have k1 : Blk w1 w.heap.size 25 #[.slice A n c, .slice B m d] := by rw [hw1]; exact ((Blk.new _ _ _).alloc _).alloc _
  have k2 : Blk w1 (w.heap.size + 1) 27 #[.slice none 0 0, .slice none 0 0] := by
    have := (Blk.new (w.alloc (.cells #[.slice A n c, .slice B m d] 25)) 27 #[.slice none 0 0, .slice none 0 0]).alloc (.cells #[.slice none 0 0, .slice none 0 0] 27)
    rw [World.size_alloc] at this
    rw [hw1]; exact this
  have k3 : Blk w1 (w.heap.size + 1 + 1) 27 #[.slice none 0 0, .slice none 0 0] := by
    have := (Blk.new ((w.alloc (.cells #[.slice A n c, .slice B m d] 25)).alloc (.cells #[.slice none 0 0, .slice none 0 0] 27)) 27 #[.slice none 0 0, .slice none 0 0])
    rw [World.size_alloc, World.size_alloc] at this
    rw [hw1]; exact this
  rw [← hw1]
  clear hw1
  refine (TS.out w1 b1).mono ?_
  rintro e w2 ⟨v, rfl, o2, b2⟩
  obtain ⟨A2, c2, rfl, _, _⟩ := own_form o2
  have B2 := b1.trans (b2.mono b1.size)
  have m1 := k1.below b2 k1.lt
  have m2 := k2.below b2 k2.lt
  have m3 := k3.below b2 k3.lt
  have hs2 := b2.size
  have x30 := m3.cell 0
  have x31 := m3.cell 1
  have f30 := m3.frozen 0
  have x11 := m1.cell 1
  simp at x30 x31 x11
  obtain ⟨w3, hw3⟩ : ∃ w3, w3 = w2.setCell ⟨w.heap.size + 1 + 1, 0, none⟩ (.slice A2 n c2) := ⟨_, rfl⟩
  have B3 : Below w.heap.size w w3 := by rw [hw3]; exact B2.setCell (by show w.heap.size ≤ w.heap.size + 1 + 1; omega) _
  have o3 : w3.ownsRow w1.heap.size 9 1 (.slice A2 n c2) n (stCells names) := by rw [hw3]; exact ownsRow_setCell_below o2 (by show w.heap.size + 1 + 1 < w1.heap.size; omega) _
  have n1 : Blk w3 w.heap.size 25 #[.slice A n c, .slice B m d] := by rw [hw3]; exact m1.far (by show w.heap.size ≠ w.heap.size + 1 + 1; omega) _
  have n2 : Blk w3 (w.heap.size + 1) 27 #[.slice none 0 0, .slice none 0 0] := by rw [hw3]; exact m2.far (by show w.heap.size + 1 ≠ w.heap.size + 1 + 1; omega) _
  have n3 : Blk w3 (w.heap.size + 1 + 1) 27 #[.slice A2 n c2, .slice none 0 0] := by rw [hw3]; exact m3.set_ 0 (.slice A2 n c2)
  have hs3 : w3.heap.size = w2.heap.size := by rw [hw3]; simp [World.setCell]
  have HW3 := Lib.hid hw3
  have hs3l : w1.heap.size ≤ w3.heap.size := by omega
  have TI3 := Lib.hid (TI.out w3 B3)
  clear o2 b2 k1 k2 k3 m1 m2 m3 TS TI hs1 hw3 b1
  go_wp2_with fail
  rw [← HW3.out]
  refine TI3.out.mono ?_
  rintro e w4 ⟨u, rfl, ⟨us, ou⟩, b4⟩
  obtain ⟨A4, c4, rfl, _, _⟩ := ou.form
  have B4 := B3.trans (b4.mono B3.size)
  have o4 := own_below o3 b4
  have p2 := n2.below b4 n2.lt
  have p3 := n3.below b4 n3.lt
  have hs4 := b4.size
  have x40 := p3.cell 0
  have x41 := p3.cell 1
  have f41 := p3.frozen 1
  have x20 := p2.cell 0
  have x21 := p2.cell 1
  have f20 := p2.frozen 0
  have f21 := p2.frozen 1
  simp at x40 x41 x20 x21
  have t4 : Touch (w.heap.size + 1) (w.heap.size + 1 + 1 + 1) w4 w4 := Touch.refl _ _ _
  have F := Lib.hid (fun (w' : World) (ht : Touch (w.heap.size + 1) (w.heap.size + 1 + 1 + 1) w4 w') (hsz : w'.heap.size = w4.heap.size) => And.intro (ht.own_above o4 (by omega)) (And.intro (And.intro (ou.touch ht (Or.inr (by omega))) hsz) (ht.below B4 (by omega))))
  have P2 := Lib.hid p2
  clear n1 n2 n3 p2 p3 x30 x31 x11 f30 TI3 HW3 hs3 b4 B3 B2 t4 o4 o3 ou B4
  go_wp2_with fail
  have tt : Touch (w.heap.size + 1) (w.heap.size + 1 + 1 + 1) w4 (((w4.setCell ⟨w.heap.size + 1 + 1, 1, none⟩ (.slice A4 rows.length c4)).setCell ⟨w.heap.size + 1, 0, none⟩ (.slice A2 n c2)).setCell ⟨w.heap.size + 1, 1, none⟩ (.slice A4 rows.length c4)) :=
    (((Touch.refl _ _ _).setCell (p := ⟨w.heap.size + 1 + 1, 1, none⟩) (Or.inl (by simp)) _).setCell (p := ⟨w.heap.size + 1, 0, none⟩) (Or.inl (by simp)) _).setCell (p := ⟨w.heap.size + 1, 1, none⟩) (Or.inl (by simp)) _
  have G := F.out _ tt (by simp [World.setCell])
  have q1 := P2.out.far (p := ⟨w.heap.size + 1 + 1, 1, none⟩) (by show w.heap.size + 1 ≠ w.heap.size + 1 + 1; omega) (.slice A4 rows.length c4)
  have q2 := q1.set_ 0 (.slice A2 n c2)
  have q3 := q2.set_ 1 (.slice A4 rows.length c4)
  have r0 := q3.cell 0
  have r1 := q3.cell 1
  simp at r0 r1
  clear q1 q2 q3 tt x40 x41 x20 x21 f20 f21 f41 P2 F
  generalize (((w4.setCell ⟨w.heap.size + 1 + 1, 1, none⟩ (.slice A4 rows.length c4)).setCell ⟨w.heap.size + 1, 0, none⟩ (.slice A2 n c2)).setCell ⟨w.heap.size + 1, 1, none⟩ (.slice A4 rows.length c4)) = w6 at G r0 r1 ⊢
  exact bodyPost_ret (v := .agg #[.slice A2 n c2, .slice A4 rows.length c4]) (by simp [results, Tryd.results8, go_sem, r0, r1]) rfl ⟨_, _, rfl, G.1.base_le (by omega), ⟨us, (G.2.1.1.low (by omega)).wide (by omega)⟩, G.2.2⟩
end Go.Proofs.YtldpcjkfkcbfmaaDoor
