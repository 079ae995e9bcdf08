/- spec.TokensOf. -/
import Derived.Test.YtnihhbmihbcgbaaDoorTokLaw
namespace Go.Proofs.YtnihhbmihbcgbaaDoor
open Go Go.RowKit
set_option maxRecDepth 100000

theorem beqF {m : Nat} {k : Int} (h : ¬ (m : Int) = k) : ((m : Int) == k) = false := by simpa using h
theorem tw_lt1 {c : UInt8} {r : List UInt8} {p : UInt8 → Bool} {k n : Nat} (hn : (r.takeWhile p).length + 1 = n) (h1 : 1 ≤ k) (h : k < n) : ∃ b, (c :: r)[k]? = some b ∧ p b = true := by
  obtain ⟨j, rfl⟩ : ∃ j, k = j + 1 := ⟨k - 1, by omega⟩
  exact tw_lt (k := j) rfl (by omega)
theorem tw_eq1 {c : UInt8} {r : List UInt8} {p : UInt8 → Bool} {n : Nat} (hn : (r.takeWhile p).length + 1 = n) (h : n < r.length + 1) : ∃ b, (c :: r)[n]? = some b ∧ p b = false := by
  subst hn
  have h2 := tw_eq (L := r) (p := p) rfl (by omega)
  simpa using h2

set_option maxRecDepth 100000 in
set_option maxHeartbeats 4000000 in
theorem specTokens_any (s : ByteArray) (O : Option (List ByteArray)) (w : World) (hO : tokensOf s = O) (hs : s.size ≤ 9223372036854775807) :
    Calls Tryd.prog 38 #[.string s] w fun e w' => ∃ v, e = .returned (.tuple #[v, .bool O.isSome]) ∧ w'.ownsRow w.heap.size 9 1 v (O.getD []).length (stCells (O.getD [])) ∧ Below w.heap.size w w' := by
  obtain ⟨i0, hi0, hz0, hz1, hz2⟩ := info_parts infoStr
  by_cases hsz : s.size ≤ 1000
  · rw [tokensOf, if_pos hsz] at hO
    have HO := Lib.hid hO
    clear hO
    have hsz' : ((1000 : Int) < (s.size : Int)) = False := by simp; omega
    go_enter Tryd.func38, Tryd.ntmps38
    go_wp2_with fail
    go_loopw [4, 5, 6] (fun ov av _ wr => ∃ (a : Nat) (out : List ByteArray), av = .int .i64 a ∧ a ≤ s.size ∧ toks ((sb s).drop a) out = O ∧ out.length ≤ a ∧ wr.ownsRow w.heap.size 9 1 ov out.length (stCells out) ∧ Below w.heap.size w wr) (fun _ av _ _ => s.size + 1 - (intOf av).toNat)
    case atStart => exact ⟨0, [], rfl, Nat.zero_le _, HO.out, Nat.le_refl _, World.ownsRow_made w #[] 0 (Nat.le_refl _) (by unfold maxLen; omega) rfl, (Below.refl _ _).alloc (Nat.le_refl _) _⟩
    case round =>
      clear HO
      obtain ⟨a, out, rfl, has, htk, hlen, hown, hb⟩ := hrel
      have hbs := hb.size
      obtain ⟨wo, rfl⟩ : ∃ wo : World, wo = wr := ⟨_, rfl⟩
      have HTK := Lib.hid htk
      clear htk
      obtain ⟨L, hL⟩ : ∃ L, (sb s).drop a = L := ⟨_, rfl⟩
      have hLl := congrArg List.length hL
      rw [List.length_drop, sb_len] at hLl
      have ha0 : (0 : Int) ≤ (a : Int) := Int.natCast_nonneg _
      cases L with
      | nil =>
        have hlt : ((a : Int) < (s.size : Int)) = False := by
          rw [List.length_nil] at hLl
          exact eq_false (by omega)
        have hO : O = some out := by rw [← HTK.out, hL, toks_nil]
        subst hO
        clear hL
        go_wp2_with fail
        go_ret2
        exact ⟨_, rfl, hown, hb⟩
      | cons c r =>
        rw [List.length_cons] at hLl
        have hlt : (a : Int) < (s.size : Int) := by omega
        obtain ⟨_, hc⟩ := sb_at (s := s) (k := a) (b := c) (by have := congrArg (fun l => l[0]?) hL; simpa using this)
        have HL := Lib.hid hL
        clear hL
        obtain ⟨m, hm⟩ : ∃ m, c.toNat = m := ⟨_, rfl⟩
        by_cases h32 : c = 32
        · have hm32 : m = 32 := by rw [← hm, h32]; rfl
          subst hm32
          have H32 := Lib.hid h32
          clear h32
          go_wp2_with fail
          go_roundw
          case rel =>
            refine ⟨a + 1, out, by go_num, by omega, ?_, by omega, hown, hb⟩
            rw [← HTK.out, ← List.drop_drop, HL.out, H32.out, toks_space]
            rfl
          case measure => simp [intOf]; omega
        · have hn32 := u8_ne (n := 32) (by omega) h32
          rw [hm] at hn32
          have hn32' : ((m : Int) == 32) = false := beqF (by omega)
          by_cases hl : isL c = true
          · have LC := Lib.hid (fun w => l2Letter_is true c w hl)
            rw [hm] at LC
            obtain ⟨n, hn⟩ : ∃ n, ((c :: r).takeWhile isL).length = n := ⟨_, rfl⟩
            have htl := tok_letters hl n hn
            have htl0 := htl.2
            have HTL := Lib.hid htl.1
            clear htl
            have hnle := tw_le hn
            rw [List.length_cons] at hnle
            have HN := Lib.hid hn
            clear hn
            go_wp2_with fail
            refine (LC.out _).mono ?_
            rintro e w' ⟨rfl, rfl⟩
            go_wp2_with fail
            go_loop [6] (fun ev => ∃ k : Nat, k ≤ n ∧ ev = .int .i64 (a + k)) (fun ev => s.size + 1 - (intOf ev).toNat)
            case atStart => exact ⟨0, Nat.zero_le _, by simp⟩
            case round =>
              obtain ⟨k, hk, rfl⟩ := hrel
              have hk0 : (0 : Int) ≤ (a : Int) + (k : Int) := by omega
              by_cases hlk : k < n
              · obtain ⟨b, hb', hp⟩ := tw_lt HN.out hlk
                obtain ⟨hks, hsb⟩ := sb_at (s := s) (k := a + k) (b := b) (by rw [← List.getElem?_drop, HL.out]; exact hb')
                have LB := Lib.hid (fun w => l2Letter_is true b w hp)
                clear hb' hp
                have hk1 : (a : Int) + (k : Int) < (s.size : Int) := by omega
                go_wp2_with fail
                refine (LB.out _).mono ?_
                rintro e w' ⟨rfl, rfl⟩
                go_wp2_with fail
                go_round
                case rel => exact ⟨k + 1, by omega, by go_num⟩
                case measure => simp [intOf]; omega
              · obtain rfl : k = n := by omega
                by_cases hke : a + k < s.size
                · obtain ⟨b, hb', hp⟩ := tw_eq HN.out (by rw [List.length_cons]; omega)
                  obtain ⟨hks, hsb⟩ := sb_at (s := s) (k := a + k) (b := b) (by rw [← List.getElem?_drop, HL.out]; exact hb')
                  have LB := Lib.hid (fun w => l2Letter_is false b w hp)
                  clear hb' hp
                  have hk1 : (a : Int) + (k : Int) < (s.size : Int) := by omega
                  go_wp2_with fail
                  refine (LB.out _).mono ?_
                  rintro e w' ⟨rfl, rfl⟩
                  clear hsb hk1
                  have hT : tokSize (c :: r) = k := HTL.out
                  have hn0 : 0 < k := by omega
                  have hsl1 : (a : Int) ≤ (s.size : Int) := by omega
                  have hsl2 : (a : Int) + (k : Nat) ≤ (s.size : Int) := by omega
                  have hsl3 : (0 : Int) ≤ (a : Int) := by omega
                  have hsl4 : (a : Int) ≤ (a : Int) + (k : Nat) := by omega
                  have hsl5 : (0 : Int) ≤ (a : Int) + (k : Nat) := by omega
                  have HTT := Lib.hid hT
                  clear hT
                  go_wp2_with (first
                    | (at_builtin; refine wpList_append_own _ rfl _ _ 48 rfl w.heap.size 9 i0 _ 1 16 Tryd.underlying48 hi0 hz0 hz1 hz2 rfl (by decide) _ _ _ rfl (hown.alloc _) ⟨wo.heap.size, 0, none⟩ 1 1 [.string (s.extract a (a + k))] rfl rfl (cells_new _ _ _) (oneCells rfl) (by unfold maxLen; omega) (by omega) (by simp; omega) ?_; intro v' w1 hown' hgrow _; have P := Lib.hid (And.intro hown' (below_append hb hown hgrow (Nat.le_refl _))); clear hown' hgrow))
                  have hy : s.extract a (a + k) = ⟨((c :: r).take (k)).toArray⟩ := by
                    refine sb_ext ?_
                    rw [sb_extract, ← HL.out, List.drop_take, show a + k - a = k by omega]
                  rw [hy] at P
                  go_roundw
                  case rel =>
                    refine ⟨a + k, out ++ [⟨((c :: r).take (k)).toArray⟩], by go_num, by omega, ?_, ?_, ?_, P.out.2⟩
                    · rw [← HTK.out, HL.out, toks_tok c r out h32 (k) HTT.out hn0, ← List.drop_drop, HL.out]
                    · rw [List.length_append]; simp; omega
                    · rw [List.length_append, stCells_append]; exact P.out.1
                  case measure => simp [intOf]; omega
                · have hk1 : ((a : Int) + (k : Int) < (s.size : Int)) = False := by simp; omega
                  have hT : tokSize (c :: r) = k := HTL.out
                  have hn0 : 0 < k := by omega
                  have hsl1 : (a : Int) ≤ (s.size : Int) := by omega
                  have hsl2 : (a : Int) + (k : Nat) ≤ (s.size : Int) := by omega
                  have hsl3 : (0 : Int) ≤ (a : Int) := by omega
                  have hsl4 : (a : Int) ≤ (a : Int) + (k : Nat) := by omega
                  have hsl5 : (0 : Int) ≤ (a : Int) + (k : Nat) := by omega
                  have HTT := Lib.hid hT
                  clear hT
                  go_wp2_with (first
                    | (at_builtin; refine wpList_append_own _ rfl _ _ 48 rfl w.heap.size 9 i0 _ 1 16 Tryd.underlying48 hi0 hz0 hz1 hz2 rfl (by decide) _ _ _ rfl (hown.alloc _) ⟨wo.heap.size, 0, none⟩ 1 1 [.string (s.extract a (a + k))] rfl rfl (cells_new _ _ _) (oneCells rfl) (by unfold maxLen; omega) (by omega) (by simp; omega) ?_; intro v' w1 hown' hgrow _; have P := Lib.hid (And.intro hown' (below_append hb hown hgrow (Nat.le_refl _))); clear hown' hgrow))
                  have hy : s.extract a (a + k) = ⟨((c :: r).take (k)).toArray⟩ := by
                    refine sb_ext ?_
                    rw [sb_extract, ← HL.out, List.drop_take, show a + k - a = k by omega]
                  rw [hy] at P
                  go_roundw
                  case rel =>
                    refine ⟨a + k, out ++ [⟨((c :: r).take (k)).toArray⟩], by go_num, by omega, ?_, ?_, ?_, P.out.2⟩
                    · rw [← HTK.out, HL.out, toks_tok c r out h32 (k) HTT.out hn0, ← List.drop_drop, HL.out]
                    · rw [List.length_append]; simp; omega
                    · rw [List.length_append, stCells_append]; exact P.out.1
                  case measure => simp [intOf]; omega
          · have hl' : isL c = false := by simpa using hl
            have LC := Lib.hid (fun w => l2Letter_is false c w hl')
            rw [hm] at LC
            clear hl
            by_cases hdd : isD c = true ∨ (c = 45 ∧ ∃ d r', r = d :: r' ∧ isD d = true)
            · obtain ⟨n, hn⟩ : ∃ n, (r.takeWhile isD).length + 1 = n := ⟨_, rfl⟩
              have HTL := Lib.hid (tok_digits hl' hdd n hn)
              have hnle := tw_le (L := r) (p := isD) rfl
              have hnle2 : n ≤ r.length + 1 := by omega
              have hn1 : 1 ≤ n := by omega
              have HN := Lib.hid hn
              clear hnle
              by_cases hd : isD c = true
              · have LD := Lib.hid (fun w => l2Digit_is true c w hd)
                rw [hm] at LD
                clear hd hdd hn
                go_wp2_with fail
                refine (LC.out _).mono ?_
                rintro e w' ⟨rfl, rfl⟩
                go_wp2_with fail
                refine (LD.out _).mono ?_
                rintro e w' ⟨rfl, rfl⟩
                go_wp2_with fail
                go_loop [6] (fun ev => ∃ k : Nat, 1 ≤ k ∧ k ≤ n ∧ ev = .int .i64 (a + k)) (fun ev => s.size + 1 - (intOf ev).toNat)
                case atStart => exact ⟨1, Nat.le_refl _, by have := HN.out; omega, by go_num⟩
                case round =>
                  obtain ⟨k, hk1, hk, rfl⟩ := hrel
                  have hk0 : (0 : Int) ≤ (a : Int) + (k : Int) := by omega
                  by_cases hlk : k < n
                  · obtain ⟨b, hb', hp⟩ := tw_lt1 (c := c) HN.out hk1 hlk
                    obtain ⟨hks, hsb⟩ := sb_at (s := s) (k := a + k) (b := b) (by rw [← List.getElem?_drop, HL.out]; exact hb')
                    have LB := Lib.hid (fun w => l2Digit_is true b w hp)
                    clear hb' hp
                    have hk1 : (a : Int) + (k : Int) < (s.size : Int) := by omega
                    go_wp2_with fail
                    refine (LB.out _).mono ?_
                    rintro e w' ⟨rfl, rfl⟩
                    go_wp2_with fail
                    go_round
                    case rel => exact ⟨k + 1, by omega, by omega, by go_num⟩
                    case measure => simp [intOf]; omega
                  · obtain rfl : k = n := by omega
                    by_cases hke : a + k < s.size
                    · obtain ⟨b, hb', hp⟩ := tw_eq1 (c := c) HN.out (show k < r.length + 1 by omega)
                      obtain ⟨hks, hsb⟩ := sb_at (s := s) (k := a + k) (b := b) (by rw [← List.getElem?_drop, HL.out]; exact hb')
                      have LB := Lib.hid (fun w => l2Digit_is false b w hp)
                      clear hb' hp
                      have hk1 : (a : Int) + (k : Int) < (s.size : Int) := by omega
                      go_wp2_with fail
                      refine (LB.out _).mono ?_
                      rintro e w' ⟨rfl, rfl⟩
                      clear hsb hk1
                      have hT : tokSize (c :: r) = k := HTL.out
                      have hn0 : 0 < k := by omega
                      have hsl1 : (a : Int) ≤ (s.size : Int) := by omega
                      have hsl2 : (a : Int) + (k : Nat) ≤ (s.size : Int) := by omega
                      have hsl3 : (0 : Int) ≤ (a : Int) := by omega
                      have hsl4 : (a : Int) ≤ (a : Int) + (k : Nat) := by omega
                      have hsl5 : (0 : Int) ≤ (a : Int) + (k : Nat) := by omega
                      have HTT := Lib.hid hT
                      clear hT
                      go_wp2_with (first
                        | (at_builtin; refine wpList_append_own _ rfl _ _ 48 rfl w.heap.size 9 i0 _ 1 16 Tryd.underlying48 hi0 hz0 hz1 hz2 rfl (by decide) _ _ _ rfl (hown.alloc _) ⟨wo.heap.size, 0, none⟩ 1 1 [.string (s.extract a (a + k))] rfl rfl (cells_new _ _ _) (oneCells rfl) (by unfold maxLen; omega) (by omega) (by simp; omega) ?_; intro v' w1 hown' hgrow _; have P := Lib.hid (And.intro hown' (below_append hb hown hgrow (Nat.le_refl _))); clear hown' hgrow))
                      have hy : s.extract a (a + k) = ⟨((c :: r).take (k)).toArray⟩ := by
                        refine sb_ext ?_
                        rw [sb_extract, ← HL.out, List.drop_take, show a + k - a = k by omega]
                      rw [hy] at P
                      go_roundw
                      case rel =>
                        refine ⟨a + k, out ++ [⟨((c :: r).take (k)).toArray⟩], by go_num, by omega, ?_, ?_, ?_, P.out.2⟩
                        · rw [← HTK.out, HL.out, toks_tok c r out h32 (k) HTT.out hn0, ← List.drop_drop, HL.out]
                        · rw [List.length_append]; simp; omega
                        · rw [List.length_append, stCells_append]; exact P.out.1
                      case measure => simp [intOf]; omega
                    · have hk1 : ((a : Int) + (k : Int) < (s.size : Int)) = False := by simp; omega
                      have hT : tokSize (c :: r) = k := HTL.out
                      have hn0 : 0 < k := by omega
                      have hsl1 : (a : Int) ≤ (s.size : Int) := by omega
                      have hsl2 : (a : Int) + (k : Nat) ≤ (s.size : Int) := by omega
                      have hsl3 : (0 : Int) ≤ (a : Int) := by omega
                      have hsl4 : (a : Int) ≤ (a : Int) + (k : Nat) := by omega
                      have hsl5 : (0 : Int) ≤ (a : Int) + (k : Nat) := by omega
                      have HTT := Lib.hid hT
                      clear hT
                      go_wp2_with (first
                        | (at_builtin; refine wpList_append_own _ rfl _ _ 48 rfl w.heap.size 9 i0 _ 1 16 Tryd.underlying48 hi0 hz0 hz1 hz2 rfl (by decide) _ _ _ rfl (hown.alloc _) ⟨wo.heap.size, 0, none⟩ 1 1 [.string (s.extract a (a + k))] rfl rfl (cells_new _ _ _) (oneCells rfl) (by unfold maxLen; omega) (by omega) (by simp; omega) ?_; intro v' w1 hown' hgrow _; have P := Lib.hid (And.intro hown' (below_append hb hown hgrow (Nat.le_refl _))); clear hown' hgrow))
                      have hy : s.extract a (a + k) = ⟨((c :: r).take (k)).toArray⟩ := by
                        refine sb_ext ?_
                        rw [sb_extract, ← HL.out, List.drop_take, show a + k - a = k by omega]
                      rw [hy] at P
                      go_roundw
                      case rel =>
                        refine ⟨a + k, out ++ [⟨((c :: r).take (k)).toArray⟩], by go_num, by omega, ?_, ?_, ?_, P.out.2⟩
                        · rw [← HTK.out, HL.out, toks_tok c r out h32 (k) HTT.out hn0, ← List.drop_drop, HL.out]
                        · rw [List.length_append]; simp; omega
                        · rw [List.length_append, stCells_append]; exact P.out.1
                      case measure => simp [intOf]; omega
              · have hd' : isD c = false := by simpa using hd
                obtain ⟨hc45, d, r', hr, hdd'⟩ := hdd.resolve_left hd
                have hm45 : m = 45 := by rw [← hm, hc45]; rfl
                subst hm45
                have LD := Lib.hid (fun w => l2Digit_is false c w hd')
                have LE := Lib.hid (fun w => l2Digit_is true d w hdd')
                rw [hm] at LD
                have hrl : 1 ≤ r.length := by rw [hr]; simp
                obtain ⟨hks2, hsb2⟩ := sb_at (s := s) (k := a + 1) (b := d) (by rw [← List.getElem?_drop, HL.out, hr]; rfl)
                have hk2 : (a : Int) + 1 < (s.size : Int) := by omega
                have hk3 : (0 : Int) ≤ (a : Int) + 1 := by omega
                clear hd hd' hdd hn hc45 hr hdd'
                go_wp2_with fail
                refine (LC.out _).mono ?_
                rintro e w' ⟨rfl, rfl⟩
                go_wp2_with fail
                refine (LD.out _).mono ?_
                rintro e w' ⟨rfl, rfl⟩
                go_wp2_with fail
                refine (LE.out _).mono ?_
                rintro e w' ⟨rfl, rfl⟩
                clear hsb2 hk2
                go_wp2_with fail
                go_loop [6] (fun ev => ∃ k : Nat, 1 ≤ k ∧ k ≤ n ∧ ev = .int .i64 (a + k)) (fun ev => s.size + 1 - (intOf ev).toNat)
                case atStart => exact ⟨1, Nat.le_refl _, by have := HN.out; omega, by go_num⟩
                case round =>
                  obtain ⟨k, hk1, hk, rfl⟩ := hrel
                  have hk0 : (0 : Int) ≤ (a : Int) + (k : Int) := by omega
                  by_cases hlk : k < n
                  · obtain ⟨b, hb', hp⟩ := tw_lt1 (c := c) HN.out hk1 hlk
                    obtain ⟨hks, hsb⟩ := sb_at (s := s) (k := a + k) (b := b) (by rw [← List.getElem?_drop, HL.out]; exact hb')
                    have LB := Lib.hid (fun w => l2Digit_is true b w hp)
                    clear hb' hp
                    have hk1 : (a : Int) + (k : Int) < (s.size : Int) := by omega
                    go_wp2_with fail
                    refine (LB.out _).mono ?_
                    rintro e w' ⟨rfl, rfl⟩
                    go_wp2_with fail
                    go_round
                    case rel => exact ⟨k + 1, by omega, by omega, by go_num⟩
                    case measure => simp [intOf]; omega
                  · obtain rfl : k = n := by omega
                    by_cases hke : a + k < s.size
                    · obtain ⟨b, hb', hp⟩ := tw_eq1 (c := c) HN.out (show k < r.length + 1 by omega)
                      obtain ⟨hks, hsb⟩ := sb_at (s := s) (k := a + k) (b := b) (by rw [← List.getElem?_drop, HL.out]; exact hb')
                      have LB := Lib.hid (fun w => l2Digit_is false b w hp)
                      clear hb' hp
                      have hk1 : (a : Int) + (k : Int) < (s.size : Int) := by omega
                      go_wp2_with fail
                      refine (LB.out _).mono ?_
                      rintro e w' ⟨rfl, rfl⟩
                      clear hsb hk1
                      have hT : tokSize (c :: r) = k := HTL.out
                      have hn0 : 0 < k := by omega
                      have hsl1 : (a : Int) ≤ (s.size : Int) := by omega
                      have hsl2 : (a : Int) + (k : Nat) ≤ (s.size : Int) := by omega
                      have hsl3 : (0 : Int) ≤ (a : Int) := by omega
                      have hsl4 : (a : Int) ≤ (a : Int) + (k : Nat) := by omega
                      have hsl5 : (0 : Int) ≤ (a : Int) + (k : Nat) := by omega
                      have HTT := Lib.hid hT
                      clear hT
                      go_wp2_with (first
                        | (at_builtin; refine wpList_append_own _ rfl _ _ 48 rfl w.heap.size 9 i0 _ 1 16 Tryd.underlying48 hi0 hz0 hz1 hz2 rfl (by decide) _ _ _ rfl (hown.alloc _) ⟨wo.heap.size, 0, none⟩ 1 1 [.string (s.extract a (a + k))] rfl rfl (cells_new _ _ _) (oneCells rfl) (by unfold maxLen; omega) (by omega) (by simp; omega) ?_; intro v' w1 hown' hgrow _; have P := Lib.hid (And.intro hown' (below_append hb hown hgrow (Nat.le_refl _))); clear hown' hgrow))
                      have hy : s.extract a (a + k) = ⟨((c :: r).take (k)).toArray⟩ := by
                        refine sb_ext ?_
                        rw [sb_extract, ← HL.out, List.drop_take, show a + k - a = k by omega]
                      rw [hy] at P
                      go_roundw
                      case rel =>
                        refine ⟨a + k, out ++ [⟨((c :: r).take (k)).toArray⟩], by go_num, by omega, ?_, ?_, ?_, P.out.2⟩
                        · rw [← HTK.out, HL.out, toks_tok c r out h32 (k) HTT.out hn0, ← List.drop_drop, HL.out]
                        · rw [List.length_append]; simp; omega
                        · rw [List.length_append, stCells_append]; exact P.out.1
                      case measure => simp [intOf]; omega
                    · have hk1 : ((a : Int) + (k : Int) < (s.size : Int)) = False := by simp; omega
                      have hT : tokSize (c :: r) = k := HTL.out
                      have hn0 : 0 < k := by omega
                      have hsl1 : (a : Int) ≤ (s.size : Int) := by omega
                      have hsl2 : (a : Int) + (k : Nat) ≤ (s.size : Int) := by omega
                      have hsl3 : (0 : Int) ≤ (a : Int) := by omega
                      have hsl4 : (a : Int) ≤ (a : Int) + (k : Nat) := by omega
                      have hsl5 : (0 : Int) ≤ (a : Int) + (k : Nat) := by omega
                      have HTT := Lib.hid hT
                      clear hT
                      go_wp2_with (first
                        | (at_builtin; refine wpList_append_own _ rfl _ _ 48 rfl w.heap.size 9 i0 _ 1 16 Tryd.underlying48 hi0 hz0 hz1 hz2 rfl (by decide) _ _ _ rfl (hown.alloc _) ⟨wo.heap.size, 0, none⟩ 1 1 [.string (s.extract a (a + k))] rfl rfl (cells_new _ _ _) (oneCells rfl) (by unfold maxLen; omega) (by omega) (by simp; omega) ?_; intro v' w1 hown' hgrow _; have P := Lib.hid (And.intro hown' (below_append hb hown hgrow (Nat.le_refl _))); clear hown' hgrow))
                      have hy : s.extract a (a + k) = ⟨((c :: r).take (k)).toArray⟩ := by
                        refine sb_ext ?_
                        rw [sb_extract, ← HL.out, List.drop_take, show a + k - a = k by omega]
                      rw [hy] at P
                      go_roundw
                      case rel =>
                        refine ⟨a + k, out ++ [⟨((c :: r).take (k)).toArray⟩], by go_num, by omega, ?_, ?_, ?_, P.out.2⟩
                        · rw [← HTK.out, HL.out, toks_tok c r out h32 (k) HTT.out hn0, ← List.drop_drop, HL.out]
                        · rw [List.length_append]; simp; omega
                        · rw [List.length_append, stCells_append]; exact P.out.1
                      case measure => simp [intOf]; omega
            · have hd' : isD c = false := by
                cases h : isD c
                · rfl
                · exact absurd (.inl h) hdd
              have hmn : ¬ (c = 45 ∧ ∃ d r', r = d :: r' ∧ isD d = true) := fun h => hdd (.inr h)
              have LD := Lib.hid (fun w => l2Digit_is false c w hd')
              rw [hm] at LD
              clear hdd
              have hrc : r = [] ∨ ∃ d r', r = d :: r' := by cases r <;> simp
              by_cases h2 : (c = 60 ∨ c = 62 ∨ c = 33) ∧ ∃ r', r = 61 :: r'
              · obtain ⟨hc2, r', hr⟩ := h2
                have HTL := Lib.hid (show tokSize (c :: r) = 2 by rw [hr]; exact tok_two hc2)
                have hrl : 1 ≤ r.length := by rw [hr]; simp
                obtain ⟨hks2, hsb2⟩ := sb_at (s := s) (k := a + 1) (b := 61) (by rw [← List.getElem?_drop, HL.out, hr]; rfl)
                have hk2 : (a : Int) + 1 < (s.size : Int) := by omega
                have hk3 : (0 : Int) ≤ (a : Int) + 1 := by omega
                have hmc : m = 60 ∨ m = 62 ∨ m = 33 := by
                  rw [← hm]
                  rcases hc2 with h | h | h <;> rw [h] <;> decide
                clear hc2 hr hd' hmn hrc hl'
                rcases hmc with rfl | rfl | rfl
                all_goals
                  go_wp2_with fail
                  refine (LC.out _).mono ?_
                  rintro e w' ⟨rfl, rfl⟩
                  go_wp2_with fail
                  refine (LD.out _).mono ?_
                  rintro e w' ⟨rfl, rfl⟩
                  have hT : tokSize (c :: r) = 2 := HTL.out
                  have hn0 : 0 < 2 := by omega
                  have hsl1 : (a : Int) ≤ (s.size : Int) := by omega
                  have hsl2 : (a : Int) + (2 : Nat) ≤ (s.size : Int) := by omega
                  have hsl3 : (0 : Int) ≤ (a : Int) := by omega
                  have hsl4 : (a : Int) ≤ (a : Int) + (2 : Nat) := by omega
                  have hsl5 : (0 : Int) ≤ (a : Int) + (2 : Nat) := by omega
                  have HTT := Lib.hid hT
                  clear hT
                  go_wp2_with (first
                    | (at_builtin; refine wpList_append_own _ rfl _ _ 48 rfl w.heap.size 9 i0 _ 1 16 Tryd.underlying48 hi0 hz0 hz1 hz2 rfl (by decide) _ _ _ rfl (hown.alloc _) ⟨wo.heap.size, 0, none⟩ 1 1 [.string (s.extract a (a + 2))] rfl rfl (cells_new _ _ _) (oneCells rfl) (by unfold maxLen; omega) (by omega) (by simp; omega) ?_; intro v' w1 hown' hgrow _; have P := Lib.hid (And.intro hown' (below_append hb hown hgrow (Nat.le_refl _))); clear hown' hgrow))
                  have hy : s.extract a (a + 2) = ⟨((c :: r).take (2)).toArray⟩ := by
                    refine sb_ext ?_
                    rw [sb_extract, ← HL.out, List.drop_take, show a + 2 - a = 2 by omega]
                  rw [hy] at P
                  go_roundw
                  case rel =>
                    refine ⟨a + 2, out ++ [⟨((c :: r).take (2)).toArray⟩], by go_num, by omega, ?_, ?_, ?_, P.out.2⟩
                    · rw [← HTK.out, HL.out, toks_tok c r out h32 (2) HTT.out hn0, ← List.drop_drop, HL.out]
                    · rw [List.length_append]; simp; omega
                    · rw [List.length_append, stCells_append]; exact P.out.1
                  case measure => simp [intOf]; omega
              · by_cases h1 : c = 61 ∨ c = 60 ∨ c = 62 ∨ c = 44
                · have HTL := Lib.hid (tok_one hl' hd' hmn h2 h1)
                  have hmc : m = 61 ∨ m = 60 ∨ m = 62 ∨ m = 44 := by
                    rw [← hm]
                    rcases h1 with h | h | h | h <;> rw [h] <;> decide
                  rcases hrc with hr | ⟨d, r', hr⟩
                  · have hrl : r.length = 0 := by rw [hr]; rfl
                    have hk2 : ((a : Int) + 1 < (s.size : Int)) = False := eq_false (by omega)
                    clear h1 hr hd' hmn hl' h2
                    rcases hmc with rfl | rfl | rfl | rfl
                    all_goals
                      go_wp2_with fail
                      refine (LC.out _).mono ?_
                      rintro e w' ⟨rfl, rfl⟩
                      go_wp2_with fail
                      refine (LD.out _).mono ?_
                      rintro e w' ⟨rfl, rfl⟩
                      have hT : tokSize (c :: r) = 1 := HTL.out
                      have hn0 : 0 < 1 := by omega
                      have hsl1 : (a : Int) ≤ (s.size : Int) := by omega
                      have hsl2 : (a : Int) + (1 : Nat) ≤ (s.size : Int) := by omega
                      have hsl3 : (0 : Int) ≤ (a : Int) := by omega
                      have hsl4 : (a : Int) ≤ (a : Int) + (1 : Nat) := by omega
                      have hsl5 : (0 : Int) ≤ (a : Int) + (1 : Nat) := by omega
                      have HTT := Lib.hid hT
                      clear hT
                      go_wp2_with (first
                        | (at_builtin; refine wpList_append_own _ rfl _ _ 48 rfl w.heap.size 9 i0 _ 1 16 Tryd.underlying48 hi0 hz0 hz1 hz2 rfl (by decide) _ _ _ rfl (hown.alloc _) ⟨wo.heap.size, 0, none⟩ 1 1 [.string (s.extract a (a + 1))] rfl rfl (cells_new _ _ _) (oneCells rfl) (by unfold maxLen; omega) (by omega) (by simp; omega) ?_; intro v' w1 hown' hgrow _; have P := Lib.hid (And.intro hown' (below_append hb hown hgrow (Nat.le_refl _))); clear hown' hgrow))
                      have hy : s.extract a (a + 1) = ⟨((c :: r).take (1)).toArray⟩ := by
                        refine sb_ext ?_
                        rw [sb_extract, ← HL.out, List.drop_take, show a + 1 - a = 1 by omega]
                      rw [hy] at P
                      go_roundw
                      case rel =>
                        refine ⟨a + 1, out ++ [⟨((c :: r).take (1)).toArray⟩], by go_num, by omega, ?_, ?_, ?_, P.out.2⟩
                        · rw [← HTK.out, HL.out, toks_tok c r out h32 (1) HTT.out hn0, ← List.drop_drop, HL.out]
                        · rw [List.length_append]; simp; omega
                        · rw [List.length_append, stCells_append]; exact P.out.1
                      case measure => simp [intOf]; omega
                  · have hrl : 1 ≤ r.length := by rw [hr]; simp
                    obtain ⟨hks2, hsb2⟩ := sb_at (s := s) (k := a + 1) (b := d) (by rw [← List.getElem?_drop, HL.out, hr]; rfl)
                    have hk2 : (a : Int) + 1 < (s.size : Int) := by omega
                    have hk3 : (0 : Int) ≤ (a : Int) + 1 := by omega
                    obtain ⟨md, hmd⟩ : ∃ md, d.toNat = md := ⟨_, rfl⟩
                    by_cases h61 : d = 61
                    · have hmc2 : m = 61 ∨ m = 44 := by
                        rw [← hm]
                        rcases h1 with h | h | h | h
                        · rw [h]; decide
                        · exact absurd ⟨.inl h, r', by rw [hr, h61]⟩ h2
                        · exact absurd ⟨.inr (.inl h), r', by rw [hr, h61]⟩ h2
                        · rw [h]; decide
                      have hmd2 : md = 61 := by rw [← hmd, h61]; rfl
                      subst hmd2
                      clear h1 hr hd' hmn hl' h2 hmc h61
                      rcases hmc2 with rfl | rfl
                      all_goals
                        go_wp2_with fail
                        refine (LC.out _).mono ?_
                        rintro e w' ⟨rfl, rfl⟩
                        go_wp2_with fail
                        refine (LD.out _).mono ?_
                        rintro e w' ⟨rfl, rfl⟩
                        have hT : tokSize (c :: r) = 1 := HTL.out
                        have hn0 : 0 < 1 := by omega
                        have hsl1 : (a : Int) ≤ (s.size : Int) := by omega
                        have hsl2 : (a : Int) + (1 : Nat) ≤ (s.size : Int) := by omega
                        have hsl3 : (0 : Int) ≤ (a : Int) := by omega
                        have hsl4 : (a : Int) ≤ (a : Int) + (1 : Nat) := by omega
                        have hsl5 : (0 : Int) ≤ (a : Int) + (1 : Nat) := by omega
                        have HTT := Lib.hid hT
                        clear hT
                        go_wp2_with (first
                          | (at_builtin; refine wpList_append_own _ rfl _ _ 48 rfl w.heap.size 9 i0 _ 1 16 Tryd.underlying48 hi0 hz0 hz1 hz2 rfl (by decide) _ _ _ rfl (hown.alloc _) ⟨wo.heap.size, 0, none⟩ 1 1 [.string (s.extract a (a + 1))] rfl rfl (cells_new _ _ _) (oneCells rfl) (by unfold maxLen; omega) (by omega) (by simp; omega) ?_; intro v' w1 hown' hgrow _; have P := Lib.hid (And.intro hown' (below_append hb hown hgrow (Nat.le_refl _))); clear hown' hgrow))
                        have hy : s.extract a (a + 1) = ⟨((c :: r).take (1)).toArray⟩ := by
                          refine sb_ext ?_
                          rw [sb_extract, ← HL.out, List.drop_take, show a + 1 - a = 1 by omega]
                        rw [hy] at P
                        go_roundw
                        case rel =>
                          refine ⟨a + 1, out ++ [⟨((c :: r).take (1)).toArray⟩], by go_num, by omega, ?_, ?_, ?_, P.out.2⟩
                          · rw [← HTK.out, HL.out, toks_tok c r out h32 (1) HTT.out hn0, ← List.drop_drop, HL.out]
                          · rw [List.length_append]; simp; omega
                          · rw [List.length_append, stCells_append]; exact P.out.1
                        case measure => simp [intOf]; omega
                    · have hmd2 := u8_ne (n := 61) (by omega) h61
                      rw [hmd] at hmd2
                      have hmd3 : ((md : Int) == 61) = false := beqF (by omega)
                      clear h1 hr hd' hmn hl' h2 h61
                      rcases hmc with rfl | rfl | rfl | rfl
                      all_goals
                        go_wp2_with fail
                        refine (LC.out _).mono ?_
                        rintro e w' ⟨rfl, rfl⟩
                        go_wp2_with fail
                        refine (LD.out _).mono ?_
                        rintro e w' ⟨rfl, rfl⟩
                        have hT : tokSize (c :: r) = 1 := HTL.out
                        have hn0 : 0 < 1 := by omega
                        have hsl1 : (a : Int) ≤ (s.size : Int) := by omega
                        have hsl2 : (a : Int) + (1 : Nat) ≤ (s.size : Int) := by omega
                        have hsl3 : (0 : Int) ≤ (a : Int) := by omega
                        have hsl4 : (a : Int) ≤ (a : Int) + (1 : Nat) := by omega
                        have hsl5 : (0 : Int) ≤ (a : Int) + (1 : Nat) := by omega
                        have HTT := Lib.hid hT
                        clear hT
                        go_wp2_with (first
                          | (at_builtin; refine wpList_append_own _ rfl _ _ 48 rfl w.heap.size 9 i0 _ 1 16 Tryd.underlying48 hi0 hz0 hz1 hz2 rfl (by decide) _ _ _ rfl (hown.alloc _) ⟨wo.heap.size, 0, none⟩ 1 1 [.string (s.extract a (a + 1))] rfl rfl (cells_new _ _ _) (oneCells rfl) (by unfold maxLen; omega) (by omega) (by simp; omega) ?_; intro v' w1 hown' hgrow _; have P := Lib.hid (And.intro hown' (below_append hb hown hgrow (Nat.le_refl _))); clear hown' hgrow))
                        have hy : s.extract a (a + 1) = ⟨((c :: r).take (1)).toArray⟩ := by
                          refine sb_ext ?_
                          rw [sb_extract, ← HL.out, List.drop_take, show a + 1 - a = 1 by omega]
                        rw [hy] at P
                        go_roundw
                        case rel =>
                          refine ⟨a + 1, out ++ [⟨((c :: r).take (1)).toArray⟩], by go_num, by omega, ?_, ?_, ?_, P.out.2⟩
                          · rw [← HTK.out, HL.out, toks_tok c r out h32 (1) HTT.out hn0, ← List.drop_drop, HL.out]
                          · rw [List.length_append]; simp; omega
                          · rw [List.length_append, stCells_append]; exact P.out.1
                        case measure => simp [intOf]; omega
                · have hT0 := tok_none hl' hd' hmn h2 h1
                  have hO : O = none := by rw [← HTK.out, HL.out]; exact toks_bad c r out h32 hT0
                  subst hO
                  have n1 := u8_ne (n := 61) (by omega) (fun h => h1 (.inl h))
                  have n2 := u8_ne (n := 60) (by omega) (fun h => h1 (.inr (.inl h)))
                  have n3 := u8_ne (n := 62) (by omega) (fun h => h1 (.inr (.inr (.inl h))))
                  have n4 := u8_ne (n := 44) (by omega) (fun h => h1 (.inr (.inr (.inr h))))
                  rw [hm] at n1 n2 n3 n4
                  have f1 : ((m : Int) == 61) = false := beqF (by omega)
                  have f2 : ((m : Int) == 60) = false := beqF (by omega)
                  have f3 : ((m : Int) == 62) = false := beqF (by omega)
                  have f4 : ((m : Int) == 44) = false := beqF (by omega)
                  rcases hrc with hr | ⟨d, r', hr⟩
                  · have hrl : r.length = 0 := by rw [hr]; rfl
                    have hk2 : ((a : Int) + 1 < (s.size : Int)) = False := eq_false (by omega)
                    clear h1 hr hd' hmn hl' h2 hT0
                    by_cases h45 : m = 45
                    · subst h45
                      go_wp2_with fail
                      refine (LC.out _).mono ?_
                      rintro e w' ⟨rfl, rfl⟩
                      go_wp2_with fail
                      refine (LD.out _).mono ?_
                      rintro e w' ⟨rfl, rfl⟩
                      go_wp2_with fail
                      go_ret2
                      exact ⟨_, rfl, World.ownsRow_made wo #[] 0 hbs (by unfold maxLen; omega) rfl, hb.alloc hbs _⟩
                    · have f5 : ((m : Int) == 45) = false := beqF (by omega)
                      go_wp2_with fail
                      refine (LC.out _).mono ?_
                      rintro e w' ⟨rfl, rfl⟩
                      go_wp2_with fail
                      refine (LD.out _).mono ?_
                      rintro e w' ⟨rfl, rfl⟩
                      go_wp2_with fail
                      go_ret2
                      exact ⟨_, rfl, World.ownsRow_made wo #[] 0 hbs (by unfold maxLen; omega) rfl, hb.alloc hbs _⟩
                  · have hrl : 1 ≤ r.length := by rw [hr]; simp
                    obtain ⟨hks2, hsb2⟩ := sb_at (s := s) (k := a + 1) (b := d) (by rw [← List.getElem?_drop, HL.out, hr]; rfl)
                    have hk2 : (a : Int) + 1 < (s.size : Int) := by omega
                    have hk3 : (0 : Int) ≤ (a : Int) + 1 := by omega
                    obtain ⟨md, hmd⟩ : ∃ md, d.toNat = md := ⟨_, rfl⟩
                    by_cases h45 : c = 45
                    · have hm45 : m = 45 := by rw [← hm, h45]; rfl
                      subst hm45
                      have hdf : isD d = false := by
                        cases h : isD d
                        · rfl
                        · exact absurd ⟨h45, d, r', hr, h⟩ hmn
                      have LE := Lib.hid (fun w => l2Digit_is false d w hdf)
                      rw [hmd] at LE
                      by_cases h61 : md = 61
                      · subst h61
                        clear h1 hr hd' hmn hl' h2 hT0 h45 hdf
                        go_wp2_with fail
                        refine (LC.out _).mono ?_
                        rintro e w' ⟨rfl, rfl⟩
                        go_wp2_with fail
                        refine (LD.out _).mono ?_
                        rintro e w' ⟨rfl, rfl⟩
                        go_wp2_with fail
                        refine (LE.out _).mono ?_
                        rintro e w' ⟨rfl, rfl⟩
                        go_wp2_with fail
                        go_ret2
                        exact ⟨_, rfl, World.ownsRow_made wo #[] 0 hbs (by unfold maxLen; omega) rfl, hb.alloc hbs _⟩
                      · have hmd3 : ((md : Int) == 61) = false := beqF (by omega)
                        clear h1 hr hd' hmn hl' h2 hT0 h45 hdf
                        go_wp2_with fail
                        refine (LC.out _).mono ?_
                        rintro e w' ⟨rfl, rfl⟩
                        go_wp2_with fail
                        refine (LD.out _).mono ?_
                        rintro e w' ⟨rfl, rfl⟩
                        go_wp2_with fail
                        refine (LE.out _).mono ?_
                        rintro e w' ⟨rfl, rfl⟩
                        go_wp2_with fail
                        go_ret2
                        exact ⟨_, rfl, World.ownsRow_made wo #[] 0 hbs (by unfold maxLen; omega) rfl, hb.alloc hbs _⟩
                    · have n5 := u8_ne (n := 45) (by omega) h45
                      rw [hm] at n5
                      have f5 : ((m : Int) == 45) = false := beqF (by omega)
                      by_cases h61 : d = 61
                      · have hmd2 : md = 61 := by rw [← hmd, h61]; rfl
                        subst hmd2
                        have n6 := u8_ne (n := 33) (by omega) (fun h => h2 ⟨.inr (.inr h), r', by rw [hr, h61]⟩)
                        rw [hm] at n6
                        have f6 : ((m : Int) == 33) = false := beqF (by omega)
                        clear h1 hr hd' hmn hl' h2 hT0 h45 h61
                        go_wp2_with fail
                        refine (LC.out _).mono ?_
                        rintro e w' ⟨rfl, rfl⟩
                        go_wp2_with fail
                        refine (LD.out _).mono ?_
                        rintro e w' ⟨rfl, rfl⟩
                        go_wp2_with fail
                        go_ret2
                        exact ⟨_, rfl, World.ownsRow_made wo #[] 0 hbs (by unfold maxLen; omega) rfl, hb.alloc hbs _⟩
                      · have n6 := u8_ne (n := 61) (by omega) h61
                        rw [hmd] at n6
                        have hmd3 : ((md : Int) == 61) = false := beqF (by omega)
                        clear h1 hr hd' hmn hl' h2 hT0 h45 h61
                        go_wp2_with fail
                        refine (LC.out _).mono ?_
                        rintro e w' ⟨rfl, rfl⟩
                        go_wp2_with fail
                        refine (LD.out _).mono ?_
                        rintro e w' ⟨rfl, rfl⟩
                        go_wp2_with fail
                        go_ret2
                        exact ⟨_, rfl, World.ownsRow_made wo #[] 0 hbs (by unfold maxLen; omega) rfl, hb.alloc hbs _⟩
  · have hsz' : (1000 : Int) < (s.size : Int) := by omega
    rw [tokensOf, if_neg hsz] at hO
    subst hO
    go_enter Tryd.func38, Tryd.ntmps38
    go_wp2_with fail
    go_ret2
    exact ⟨_, rfl, World.ownsRow_made w #[] 0 (Nat.le_refl _) (by unfold maxLen; omega) rfl, (Below.refl _ _).alloc (Nat.le_refl _) _⟩
end Go.Proofs.YtnihhbmihbcgbaaDoor
