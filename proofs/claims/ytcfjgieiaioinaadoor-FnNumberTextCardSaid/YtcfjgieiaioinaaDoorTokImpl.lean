/- impl.TokensOf. -/
import Derived.Test.YtcfjgieiaioinaaDoorTokSize
namespace Go.Proofs.YtcfjgieiaioinaaDoor
open Go Go.RowKit
set_option maxRecDepth 100000

def toks (L : List UInt8) (out : List ByteArray) : Option (List ByteArray) :=
  match L with
  | [] => some out
  | c :: r => if c = 32 then toks r out else if tokSize (c :: r) = 0 then none else toks ((c :: r).drop (tokSize (c :: r))) (out ++ [⟨((c :: r).take (tokSize (c :: r))).toArray⟩])
termination_by L.length
decreasing_by
  · simp
  · simp [List.length_drop]; omega
def tokensOf (s : ByteArray) : Option (List ByteArray) := if s.size ≤ 1000 then toks (sb s) [] else none
theorem toks_nil (out : List ByteArray) : toks [] out = some out := by rw [toks]
theorem toks_space (r : List UInt8) (out : List ByteArray) : toks (32 :: r) out = toks r out := by rw [toks]; simp
theorem toks_bad (c : UInt8) (r : List UInt8) (out : List ByteArray) (hc : ¬ c = 32) (h : tokSize (c :: r) = 0) : toks (c :: r) out = none := by rw [toks]; simp [hc, h]
theorem toks_tok (c : UInt8) (r : List UInt8) (out : List ByteArray) (hc : ¬ c = 32) (n : Nat) (hn : tokSize (c :: r) = n) (h : 0 < n) : toks (c :: r) out = toks ((c :: r).drop n) (out ++ [⟨((c :: r).take n).toArray⟩]) := by
  rw [toks]; simp [hc, hn, show ¬ n = 0 by omega]
theorem sb_ext {x : ByteArray} {L : List UInt8} (h : sb x = L) : x = ⟨L.toArray⟩ := by
  subst h
  rfl
theorem u8_ne {c : UInt8} {n : Nat} (hn : n < 256) (h : ¬ c = UInt8.ofNat n) : ¬ c.toNat = n := by
  intro e
  apply h
  rw [← e]
  simp

set_option maxHeartbeats 1000000 in
theorem implTokens_any (s : ByteArray) (O : Option (List ByteArray)) (w : World) (hO : tokensOf s = O) (hs : s.size ≤ 9223372036854775807) :
    Calls Tryd.prog 14 #[.string s] w fun e w' => ∃ v, e = .returned (.tuple #[v, .bool O.isSome]) ∧ w'.ownsRow w.heap.size 9 1 v (O.getD []).length (stCells (O.getD [])) ∧ Below w.heap.size w w' := by
  obtain ⟨i0, hi0, hz0, hz1, hz2⟩ := info_parts infoStr
  by_cases hsz : s.size ≤ 1000
  · rw [tokensOf, if_pos hsz] at hO
    have HO := Lib.hid hO
    clear hO
    have hsz' : ((1000 : Int) < (s.size : Int)) = False := by simp; omega
    go_enter Tryd.func14, Tryd.ntmps14
    go_wp2_with fail
    go_loopw [0, 4] (fun tv ov wr => ∃ (t : ByteArray) (out : List ByteArray), tv = .string t ∧ toks (sb t) out = O ∧ out.length + t.size ≤ 1000 ∧ wr.ownsRow w.heap.size 9 1 ov out.length (stCells out) ∧ Below w.heap.size w wr) (fun tv _ _ => (match tv with | .string t => t.size | _ => 0))
    case atStart => exact ⟨s, [], rfl, HO.out, by simpa using hsz, World.ownsRow_nil _ _ _ _, Below.refl _ _⟩
    case round =>
      clear HO
      obtain ⟨t, out, rfl, htk, hlen, hown, hb⟩ := hrel
      have hbs := hb.size
      obtain ⟨L, hL⟩ : ∃ L, sb t = L := ⟨_, rfl⟩
      cases L with
      | nil =>
        have ht0 : t.size = 0 := by rw [← sb_len, hL]; rfl
        have hte : (t.toList == ([] : List UInt8)) = true := by rw [ByteArray.toList_eq]; show (sb t == []) = true; rw [hL]; rfl
        rw [hL, toks_nil] at htk
        subst htk
        clear hL
        go_wp2_with fail
        go_ret2
        exact ⟨_, rfl, hown, hb⟩
      | cons c r =>
        have ht1 : t.size = r.length + 1 := by rw [← sb_len, hL]; rfl
        have hte : (t.toList == ([] : List UInt8)) = false := by rw [ByteArray.toList_eq]; show (sb t == []) = false; rw [hL]; rfl
        obtain ⟨ht0, hc⟩ := sb_at (s := t) (k := 0) (b := c) (by rw [hL]; rfl)
        by_cases h32 : c = 32
        · subst h32
          go_wp2_with fail
          go_roundw
          case rel =>
            have hx : sb (t.extract 1 (r.length + 1)) = r := by
              rw [sb_extract, hL, List.take_of_length_le (by simp)]; rfl
            refine ⟨_, out, rfl, ?_, ?_, hown, hb⟩
            · rw [hx, ← htk, hL, toks_space]
            · rw [← sb_len, hx]; omega
          case measure =>
            show (t.extract 1 (r.length + 1)).size < t.size
            rw [← sb_len, sb_extract, hL, List.take_of_length_le (by simp)]
            simp; omega
        · have hn32 := u8_ne (n := 32) (by omega) h32
          obtain ⟨n, hn⟩ : ∃ n, tokSize (sb t) = n := ⟨_, rfl⟩
          have hnle := tokSize_le (sb t)
          rw [hn, sb_len] at hnle
          have HN := Lib.hid hn
          have HL := Lib.hid hL
          have HTK := Lib.hid htk
          clear hn hL htk
          obtain ⟨m, hm⟩ : ∃ m, c.toNat = m := ⟨_, rfl⟩
          rw [hm] at hn32
          have hn32' : ((m : Int) = 32) = False := by simp; omega
          go_wp2_with fail
          refine (tokenSize_any t n _ HN.out (by omega)).mono ?_
          rintro e w2 ⟨rfl, b2⟩
          have hown2 := own_below hown b2
          have hb2 := hb.trans (b2.mono hbs)
          have hbs2 := hb2.size
          clear hown hb b2
          rcases Nat.eq_zero_or_pos n with hn0 | hn0
          · subst hn0
            have hO : O = none := by rw [← HTK.out, HL.out]; exact toks_bad c r out h32 (by rw [← HL.out]; exact HN.out)
            subst hO
            go_wp2_with fail
            go_ret2
            exact ⟨_, rfl, World.ownsRow_nil _ _ _ _, hb2⟩
          · have hn1 : ((n : Int) = 0) = False := by simp; omega
            have hn2 : (n : Int) ≤ (t.size : Int) := by omega
            have hn3 : (0 : Int) ≤ (n : Int) := by omega
            go_wp2_with (first
              | (at_builtin; refine wpList_append_own _ rfl _ _ 32 rfl w.heap.size 9 i0 _ 1 16 Tryd.underlying32 hi0 hz0 hz1 hz2 rfl (by decide) _ _ _ rfl (hown2.alloc _) ⟨w2.heap.size, 0, none⟩ 1 1 [.string (t.extract 0 n)] rfl rfl (cells_new _ _ _) (oneCells rfl) (by unfold maxLen; omega) (by omega) (by simp; omega) ?_; intro v' w1 hown' hgrow _; have P := Lib.hid (And.intro hown' (below_append hb2 hown2 hgrow (Nat.le_refl _))); clear hown' hgrow))
            have hx : sb (t.extract n t.size) = (sb t).drop n := by
              rw [sb_extract, List.take_of_length_le (by rw [sb_len]; omega)]
            have hy : t.extract 0 n = ⟨((sb t).take n).toArray⟩ := by
              refine sb_ext ?_
              rw [sb_extract, List.drop_zero]
            have hsz2 : (t.extract n t.size).size = t.size - n := by rw [← sb_len, hx, List.length_drop, sb_len]
            rw [ht1] at hx hsz2
            refine ⟨⟨_, out ++ [t.extract 0 n], rfl, ?_, ?_, ?_, P.out.2⟩, ?_⟩
            · rw [hx, hy, ← HTK.out, HL.out]
              rw [HL.out] at HN
              exact (toks_tok c r out h32 n HN.out hn0).symm
            · rw [hsz2, List.length_append]; simp; omega
            · rw [List.length_append, stCells_append]; exact P.out.1
            · show (t.extract n (r.length + 1)).size < t.size
              omega
  · have hsz' : (1000 : Int) < (s.size : Int) := by omega
    rw [tokensOf, if_neg hsz] at hO
    subst hO
    go_enter Tryd.func14, Tryd.ntmps14
    go_wp2_with fail
    go_ret2
    exact ⟨_, rfl, World.ownsRow_nil _ _ _ _, Below.refl _ _⟩
end Go.Proofs.YtcfjgieiaioinaaDoor
