/- GroupRows: what it gives (plain), names. -/
import Derived.Test.YtijpdekcdejfmaaDoorJoinS
import Derived.Test.YtijpdekcdejfmaaDoorGrpP
namespace Go.Proofs.YtijpdekcdejfmaaDoor
open Go Go.RowKit
set_option maxRecDepth 100000
def countB : ByteArray := ⟨#[99, 111, 117, 110, 116]⟩
def totalB : ByteArray := ⟨#[116, 111, 116, 97, 108]⟩
def grpP (names : List ByteArray) (rows : List (List Int)) (g s : ByteArray) : List (List Int) := rows.map (projRow names [g, s])
def grpBase (names : List ByteArray) (rows : List (List Int)) (g s : ByteArray) : Bool := tableB names rows && (hasW names g && hasW names s)
def GrpIs (names : List ByteArray) (rows : List (List Int)) (g s : ByteArray) (ok : Bool) (N : List ByteArray) (R : List (List Int)) : Prop :=
  ∃ G, GroupR (grpP names rows g s) G ∧ (grpBase names rows g s && tableB [g, countB, totalB] G) = ok ∧ N = (if ok then [g, countB, totalB] else []) ∧ R = (if ok then G else [])
theorem GrpIs.ex (names : List ByteArray) (rows : List (List Int)) (g s : ByteArray) : ∃ ok N R, GrpIs names rows g s ok N R := by
  obtain ⟨G, hG⟩ := GroupR.total (ps := grpP names rows g s)
  exact ⟨_, _, _, G, hG, rfl, rfl, rfl⟩
section
variable {names N : List ByteArray} {rows R : List (List Int)} {g s : ByteArray} {ok : Bool}
theorem GrpIs.no (h : GrpIs names rows g s ok N R) (hb : grpBase names rows g s = false) : ok = false ∧ N = [] ∧ R = [] := by
  obtain ⟨G, _, h1, rfl, rfl⟩ := h
  rw [hb] at h1
  obtain rfl : ok = false := h1.symm
  exact ⟨rfl, rfl, rfl⟩
theorem GrpIs.end_ (h : GrpIs names rows g s ok N R) (hb : grpBase names rows g s = true) {G : List (List Int)} (hG : GroupR (grpP names rows g s) G) :
    tableB [g, countB, totalB] G = ok ∧ N = (if ok then [g, countB, totalB] else []) ∧ R = (if ok then G else []) := by
  obtain ⟨G', hG', h1, h2, h3⟩ := h
  obtain rfl := hG.uniq hG'
  rw [hb] at h1
  exact ⟨h1, h2, h3⟩
theorem names3_no (h : g = countB ∨ g = totalB) (G : List (List Int)) : tableB [g, countB, totalB] G = false := by
  have e : namesB [g, countB, totalB] = false := by
    rcases h with rfl | rfl <;> decide +kernel
  unfold tableB
  rw [e]
  rfl
/-- The program's own early test. -/
theorem GrpIs.no2 (h : GrpIs names rows g s ok N R) (hg : g = countB ∨ g = totalB) : ok = false ∧ N = [] ∧ R = [] := by
  obtain ⟨G, _, h1, rfl, rfl⟩ := h
  rw [names3_no hg G, Bool.and_false] at h1
  obtain rfl : ok = false := h1.symm
  exact ⟨rfl, rfl, rfl⟩
theorem GrpIs.small (h : GrpIs names rows g s ok N R) (_hs : Small names rows) : Small N R := by
  obtain ⟨G, _, h1, rfl, rfl⟩ := h
  cases ok with
  | false => exact Small.none_
  | true =>
    rw [Bool.and_eq_true] at h1
    exact table_small h1.2
theorem val_bd (ht : tableB names rows = true) {r : List Int} (hr : r ∈ rows) {x : Int} (hx : x ∈ r) : -100000 ≤ x ∧ x ≤ 100000 := by
  unfold tableB at ht
  simp only [Bool.and_eq_true] at ht
  have h2 := ht.2.2
  unfold rowsB at h2
  have h3 := List.all_eq_true.1 h2 r hr
  unfold rowB at h3
  rw [Bool.and_eq_true] at h3
  have h4 := List.all_eq_true.1 h3.2 x hx
  exact inB_true h4
theorem pair_is (names : List ByteArray) (g s : ByteArray) (row : List Int) : projRow names [g, s] row = [row.getD (colN names g) 0, row.getD (colN names s) 0] := rfl
theorem grp_pair (hb : grpBase names rows g s = true) {p : List Int} (hp : p ∈ grpP names rows g s) : ∃ a b : Int, p = [a, b] ∧ -100000 ≤ b ∧ b ≤ 100000 ∧ -100000 ≤ a ∧ a ≤ 100000 := by
  unfold grpBase at hb
  simp only [Bool.and_eq_true] at hb
  obtain ⟨row, hr, rfl⟩ := List.mem_map.1 hp
  have hl := rows_len hb.1 hr
  have get : ∀ y, hasW names y = true → ∃ x, row[colN names y]? = some x ∧ -100000 ≤ x ∧ x ≤ 100000 := fun y hy => by
    have h := colN_lt hy
    have hlt : colN names y < row.length := by omega
    exact ⟨row[colN names y], List.getElem?_eq_getElem hlt, val_bd hb.1 hr (List.getElem_mem hlt)⟩
  obtain ⟨x, hx, x1, x2⟩ := get g hb.2.1
  obtain ⟨y, hy, y1, y2⟩ := get s hb.2.2
  rw [pair_is]
  refine ⟨x, y, ?_, y1, y2, x1, x2⟩
  rw [List.getD_eq_getElem?_getD, List.getD_eq_getElem?_getD, hx, hy]
  rfl
/-- What TableValid asks of the table of groups. -/
theorem grp_ok (hb : grpBase names rows g s = true) {ps G : List (List Int)} (hp : ps.length ≤ rows.length) (hG : GroupR ps G) : TabOk [g, countB, totalB] G := by
  unfold grpBase at hb
  simp only [Bool.and_eq_true] at hb
  obtain ⟨h1, h2, h3, h4⟩ := table_bd hb.1
  have hgm : g ∈ names := by
    have := colN_lt hb.2.1
    have hi := colN_is hb.2.1
    rcases hi with ⟨h, _⟩ | ⟨k, _, hk, hk2, _⟩
    · omega
    · exact List.mem_of_getElem? hk2
  have hgs := h4 g hgm
  refine ⟨by simp, fun x hx => ?_, by have := hG.len; omega, fun r hr => ?_⟩
  · simp only [List.mem_cons, List.not_mem_nil, or_false] at hx
    rcases hx with rfl | rfl | rfl
    · omega
    · decide +kernel
    · decide +kernel
  · obtain ⟨i, hi, rfl⟩ := List.getElem_of_mem hr
    obtain ⟨k, e, _⟩ := hG.row (List.getElem?_eq_getElem hi)
    rw [e]
    simp
end
section
variable {S G : List (List Int)} {k : Nat} {a b : Int}
theorem GroupR.keys_le (hG : GroupR (S.take k) G) (hs : ∀ p ∈ S.take k, keyOf p ≤ a) {i : Nat} {r : List Int} (hr : G[i]? = some r) : keyOf r ≤ a := by
  obtain ⟨x, rfl, p, hp, rfl⟩ := hG.row hr
  exact hs p hp
theorem GroupR.asc_lt {ps : List (List Int)} (h : GroupR ps G) {i j : Nat} {r q : List Int} (hij : i < j) (hr : G[i]? = some r) (hq : G[j]? = some q) : keyOf r < keyOf q := by
  obtain ⟨ks, h1, h2, rfl⟩ := h
  rw [List.getElem?_map] at hr hq
  obtain ⟨x, hx, rfl⟩ := Option.map_eq_some_iff.1 hr
  obtain ⟨y, hy, rfl⟩ := Option.map_eq_some_iff.1 hq
  have := (List.pairwise_iff_getElem.1 h1) i j (List.getElem?_eq_some_iff.1 hx).1 (List.getElem?_eq_some_iff.1 hy).1 hij
  rw [(List.getElem?_eq_some_iff.1 hx).2, (List.getElem?_eq_some_iff.1 hy).2] at this
  exact this
/-- Behind the last row comes a new key. -/
theorem GroupR.last_miss (hG : GroupR (S.take k) G) (hk : S[k]? = some [a, b]) (hs : ∀ p ∈ S.take k, keyOf p ≤ a) (hl : ∀ r, G[G.length - 1]? = some r → keyOf r ≠ a) :
    GroupR (S.take (k + 1)) ((G ++ [[a, 0, 0]]).set G.length [a, 0 + 1, 0 + b]) := by
  have h := hG.miss (p := [a, b]) (i := G.length) (Nat.le_refl _) (fun j r hj hr => by
    show keyOf r < a
    have hle := hG.keys_le hs hr
    have hl1 := hl _ (List.getElem?_eq_getElem (show G.length - 1 < G.length by omega))
    rcases Nat.lt_or_eq_of_le (show j ≤ G.length - 1 by omega) with h | rfl
    · have h1 := hG.asc_lt h hr (List.getElem?_eq_getElem (show G.length - 1 < G.length by omega))
      have h2 := hG.keys_le hs (List.getElem?_eq_getElem (show G.length - 1 < G.length by omega))
      omega
    · have := hl r hr
      omega) (fun r hr => by rw [List.getElem?_eq_none (Nat.le_refl _)] at hr; cases hr)
  rw [take_snoc S k [a, b] hk]
  have e : (G ++ [[a, 0, 0]]).set G.length [a, 0 + 1, 0 + b] = G.take G.length ++ [keyOf [a, b], 1, valOf [a, b]] :: G.drop G.length := by
    rw [List.take_length, List.drop_length, List.set_append_right _ _ (Nat.le_refl _), Nat.sub_self, List.set_cons_zero]
    simp [keyOf, valOf]
  rw [e]
  exact h
theorem GroupR.at_hit (hG : GroupR (S.take k) G) (hk : S[k]? = some [a, b]) {i : Nat} {c t : Int} (hi : G[i]? = some [a, c, t]) : GroupR (S.take (k + 1)) (G.set i [a, c + 1, t + b]) := by
  rw [take_snoc S k [a, b] hk]
  exact hG.hit (p := [a, b]) hi rfl
/-- The row of a key, and its bounds. -/
theorem GroupR.row3 (hG : GroupR (S.take k) G) (hk : k ≤ 16) (hv : ∀ p ∈ S, -100000 ≤ valOf p ∧ valOf p ≤ 100000) {i : Nat} {r : List Int} (hr : G[i]? = some r) :
    ∃ x c t : Int, r = [x, c, t] ∧ 0 ≤ c ∧ c ≤ 16 ∧ -1600000 ≤ t ∧ t ≤ 1600000 := by
  obtain ⟨x, rfl, _⟩ := hG.row hr
  have h1 := cnt_bd (S.take k) x
  have h2 := tot_bd (ps := S.take k) (m := 100000) (fun p hp => hv p (List.mem_of_mem_take hp)) (by omega) x
  have h3 : (S.take k).length ≤ 16 := by rw [List.length_take]; omega
  exact ⟨x, _, _, rfl, h1.1, by omega, by omega, by omega⟩
end
theorem own_lit2 (w : World) (base : Nat) (e : TypeId) (l : List Value) (h : base ≤ w.heap.size) (hm : l.length ≤ maxLen) : (w.alloc (.cells l.toArray e)).ownsRow base e 1 (.slice (some ⟨w.heap.size, 0, none⟩) l.length l.length) l.length l :=
  ⟨by simp, .inr ⟨w.heap.size, l.length, l.toArray, rfl, h, heap_alloc_new w _, Nat.le_refl _, hm, by simp, by simp⟩⟩
set_option maxHeartbeats 1600000 in
theorem groupNames_any (A : Option Addr) (n c : Nat) (names : List ByteArray) (g s : ByteArray) (w : World) (hnn : names.length = n) (hx : Reads w w.heap.size 1 A n (stCells names)) (hn : n ≤ 1048576) :
    Calls Tryd.prog 39 #[.slice A n c, .string g, .string s] w fun e w' => ∃ (v : Value) (q : Bool), e = .returned (.tuple #[v, .bool q]) ∧ (q = true ↔ (hasW names g && hasW names s) = true ∧ ¬ (g = countB ∨ g = totalB)) ∧
      w'.ownsRow w.heap.size 9 1 v 3 (stCells [g, countB, totalB]) ∧ Below w.heap.size w w' := by
  obtain ⟨p1, hp1⟩ : ∃ p, hasW names g = p := ⟨_, rfl⟩
  obtain ⟨p2, hp2⟩ : ∃ p, hasW names s = p := ⟨_, rfl⟩
  have C1 := Lib.hid (containsStr_any p1 A n c names g w w.heap.size hnn hx (by omega) hp1)
  have C2 := Lib.hid (containsStr_any p2 A n c names s w w.heap.size hnn hx (by omega) hp2)
  have O := Lib.hid (own_lit2 w w.heap.size 9 (stCells [g, countB, totalB]) (Nat.le_refl _) (by unfold maxLen; simp [stCells]))
  have B := Lib.hid ((Below.refl _ w).alloc (Nat.le_refl _) (.cells (stCells [g, countB, totalB]).toArray 9))
  rw [hp1, hp2]
  clear hx hp1 hp2 hnn
  have ec : countB.toList = [99, 111, 117, 110, 116] := by decide +kernel
  have et : totalB.toList = [116, 111, 116, 97, 108] := by decide +kernel
  by_cases hg1 : g = countB
  · subst hg1
    have h1' : (countB.toList == [99, 111, 117, 110, 116]) = true := by decide +kernel
    have h2' : (countB.toList == [116, 111, 116, 97, 108]) = false := by decide +kernel
    clear ec et
    cases p1
    · go_enter Tryd.func39, Tryd.ntmps39
      go_wp2_with fail
      refine C1.out.mono ?_
      rintro e w' ⟨rfl, rfl⟩
      go_wp2_with fail
      go_ret2
      exact ⟨_, _, rfl, by simp, O.out, B.out⟩
    · cases p2
      all_goals (
        go_enter Tryd.func39, Tryd.ntmps39
        go_wp2_with fail
        refine C1.out.mono ?_
        rintro e w' ⟨rfl, rfl⟩
        go_wp2_with fail
        refine C2.out.mono ?_
        rintro e w' ⟨rfl, rfl⟩
        go_wp2_with fail
        go_ret2
        exact ⟨_, _, rfl, by simp [countB], O.out, B.out⟩)
  · have h1 := str_ne hg1
    by_cases hg2 : g = totalB
    · subst hg2
      have h1' : (totalB.toList == [99, 111, 117, 110, 116]) = false := by decide +kernel
      have h2' : (totalB.toList == [116, 111, 116, 97, 108]) = true := by decide +kernel
      clear ec et h1
      cases p1
      · go_enter Tryd.func39, Tryd.ntmps39
        go_wp2_with fail
        refine C1.out.mono ?_
        rintro e w' ⟨rfl, rfl⟩
        go_wp2_with fail
        go_ret2
        exact ⟨_, _, rfl, by simp, O.out, B.out⟩
      · cases p2
        all_goals (
          go_enter Tryd.func39, Tryd.ntmps39
          go_wp2_with fail
          refine C1.out.mono ?_
          rintro e w' ⟨rfl, rfl⟩
          go_wp2_with fail
          refine C2.out.mono ?_
          rintro e w' ⟨rfl, rfl⟩
          go_wp2_with fail
          go_ret2
          exact ⟨_, _, rfl, by simp [totalB], O.out, B.out⟩)
    · have h2 := str_ne hg2
      rw [ec] at h1
      rw [et] at h2
      have HG := Lib.hid (And.intro hg1 hg2)
      clear hg1 hg2 ec et
      cases p1
      · go_enter Tryd.func39, Tryd.ntmps39
        go_wp2_with fail
        refine C1.out.mono ?_
        rintro e w' ⟨rfl, rfl⟩
        go_wp2_with fail
        go_ret2
        exact ⟨_, _, rfl, by simp, O.out, B.out⟩
      · cases p2
        · go_enter Tryd.func39, Tryd.ntmps39
          go_wp2_with fail
          refine C1.out.mono ?_
          rintro e w' ⟨rfl, rfl⟩
          go_wp2_with fail
          refine C2.out.mono ?_
          rintro e w' ⟨rfl, rfl⟩
          go_wp2_with fail
          go_ret2
          exact ⟨_, _, rfl, by simp, O.out, B.out⟩
        · go_enter Tryd.func39, Tryd.ntmps39
          go_wp2_with fail
          refine C1.out.mono ?_
          rintro e w' ⟨rfl, rfl⟩
          go_wp2_with fail
          refine C2.out.mono ?_
          rintro e w' ⟨rfl, rfl⟩
          go_wp2_with fail
          go_ret2
          refine ⟨_, _, rfl, ?_, O.out, B.out⟩
          simp [HG.out.1, HG.out.2]
end Go.Proofs.YtijpdekcdejfmaaDoor
