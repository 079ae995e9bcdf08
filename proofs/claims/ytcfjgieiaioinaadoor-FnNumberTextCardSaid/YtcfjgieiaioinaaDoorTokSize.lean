/- impl.tokenSize. -/
import Derived.Test.YtcfjgieiaioinaaDoorTok
namespace Go.Proofs.YtcfjgieiaioinaaDoor
open Go Go.RowKit
set_option maxRecDepth 100000

def signs : List (List UInt8) := [[60, 61], [62, 61], [33, 61], [61], [60], [62], [44]]
def signSize (L : List UInt8) : List (List UInt8) → Nat
  | [] => 0
  | g :: r => if pfx L g then g.length else signSize L r
def tokSize (L : List UInt8) : Nat :=
  if 0 < (L.takeWhile isL).length then (L.takeWhile isL).length
  else if 0 < ((trimP L [45]).takeWhile isD).length then ((trimP L [45]).takeWhile isD).length + (L.length - (trimP L [45]).length)
  else signSize L signs
def signsB : List ByteArray := signs.map fun g => ⟨g.toArray⟩
theorem signsB_sb (k : Nat) (x : ByteArray) (h : signsB[k]? = some x) : signs[k]? = some (sb x) := by
  simp only [signsB, List.getElem?_map, Option.map_eq_some_iff] at h
  obtain ⟨g, hg, rfl⟩ := h
  rw [hg]
  rfl
theorem signSize_step {L : List UInt8} {k : Nat} {g : List UInt8} (h : signs[k]? = some g) : signSize L (signs.drop k) = if pfx L g then g.length else signSize L (signs.drop (k + 1)) := by
  obtain ⟨hk, e⟩ := List.getElem?_eq_some_iff.1 h
  rw [List.drop_eq_getElem_cons hk, e]
  rfl
theorem signSize_le (L : List UInt8) (S : List (List UInt8)) : signSize L S ≤ L.length := by
  induction S with
  | nil => simp [signSize]
  | cons g r ih =>
    unfold signSize
    split
    · rename_i h
      have e : L.take g.length = g := by simpa [pfx] using h
      have := congrArg List.length e
      rw [List.length_take] at this
      omega
    · exact ih
theorem trimP_le (L P : List UInt8) : (trimP L P).length ≤ L.length := by
  unfold trimP; split <;> simp
theorem tokSize_le (L : List UInt8) : tokSize L ≤ L.length := by
  unfold tokSize
  split
  · exact (List.takeWhile_prefix _).length_le
  · split
    · have h1 := (List.takeWhile_prefix (l := trimP L [45]) isD).length_le
      have h2 := trimP_le L [45]
      omega
    · exact signSize_le _ _

theorem add_at (b k : Nat) : (⟨b, 0, none⟩ : Addr).add k = ⟨b, k, none⟩ := by
  unfold Addr.add
  split
  · rename_i h; subst h; rfl
  · simp
set_option maxHeartbeats 1000000 in
theorem tokenSize_any (s : ByteArray) (T : Nat) (w : World) (hT : tokSize (sb s) = T) (hs : s.size ≤ 1000000) :
    Calls Tryd.prog 25 #[.string s] w fun e w' => e = .returned (.int .i64 T) ∧ Below w.heap.size w w' := by
  obtain ⟨n1, hn1⟩ : ∃ n, ((sb s).takeWhile isL).length = n := ⟨_, rfl⟩
  have l1 := tw_le hn1
  rw [sb_len] at l1
  obtain ⟨R, hR⟩ : ∃ R, trimP (sb s) [45] = R := ⟨_, rfl⟩
  have lR := trimP_le (sb s) [45]
  rw [hR, sb_len] at lR
  obtain ⟨n2, hn2⟩ : ∃ n, (R.takeWhile isD).length = n := ⟨_, rfl⟩
  have l2 := tw_le hn2
  unfold tokSize at hT
  rw [hn1, hR, hn2, sb_len] at hT
  have H1 := Lib.hid hn1
  have H2 := Lib.hid hn2
  have HR := Lib.hid (show trimP (sb s) (sb ⟨#[45]⟩) = R from hR)
  clear hn1 hn2 hR
  by_cases c1 : 0 < n1
  · rw [if_pos c1] at hT
    subst hT
    have c1' : (0 : Int) < (n1 : Int) := by omega
    go_enter Tryd.func25, Tryd.ntmps25
    go_wp2_with fail
    refine (runL_any _ _ _ H1.out (by omega)).mono ?_
    rintro e w' ⟨rfl, rfl⟩
    go_wp2_with fail
    go_ret
    exact ⟨rfl, Below.refl _ _⟩
  · rw [if_neg c1] at hT
    obtain rfl : n1 = 0 := by omega
    by_cases c2 : 0 < n2
    · rw [if_pos c2] at hT
      have HT := Lib.hid hT
      clear hT
      have c2' : (0 : Int) < (n2 : Int) := by omega
      go_enter Tryd.func25, Tryd.ntmps25
      go_wp2_with fail
      refine (runL_any _ _ _ H1.out (by omega)).mono ?_
      rintro e w' ⟨rfl, rfl⟩
      go_wp2_with fail
      refine (stringsTrimPrefix_any _ _ _ _ HR.out).mono ?_
      rintro e w' ⟨r, rfl, hr, rfl⟩
      have hrs : r.size = R.length := by rw [← hr, sb_len]
      have HR2 := Lib.hid hr
      clear hr
      go_wp2_with fail
      refine (runD_any r n2 _ (by rw [HR2.out]; exact H2.out) (by omega)).mono ?_
      rintro e w' ⟨rfl, rfl⟩
      go_wp2_with fail
      go_ret
      refine ⟨ret_int ?_, Below.refl _ _⟩
      rw [← HT.out]
      go_num
    · rw [if_neg c2] at hT
      obtain rfl : n2 = 0 := by omega
      have HT := Lib.hid hT
      clear hT
      go_enter Tryd.func25, Tryd.ntmps25
      go_wp2_with fail
      refine (runL_any _ _ _ H1.out (by omega)).mono ?_
      rintro e w' ⟨rfl, rfl⟩
      go_wp2_with fail
      refine (stringsTrimPrefix_any _ _ _ _ HR.out).mono ?_
      rintro e w' ⟨r, rfl, hr, rfl⟩
      have hrs : r.size = R.length := by rw [← hr, sb_len]
      have HR2 := Lib.hid hr
      clear hr
      go_wp2_with fail
      refine (runD_any r 0 _ (by rw [HR2.out]; exact H2.out) (by omega)).mono ?_
      rintro e w' ⟨rfl, rfl⟩
      go_wp2_with fail
      go_loopw [7, 28] (fun _ iv wr => ∃ k : Nat, k ≤ 7 ∧ iv = .int .i64 k ∧ signSize (sb s) (signs.drop k) = T ∧ Reads wr (w.heap.size + 1) 1 (some ⟨w.heap.size, 0, none⟩) 7 (stCells signsB) ∧ Below w.heap.size w wr) (fun _ iv _ => 7 - (intOf iv).toNat)
      case atStart => exact ⟨0, by omega, rfl, HT.out, ⟨rfl, fun _ => ⟨_, rfl, Nat.lt_succ_self _, cells_new _ _ _⟩⟩, (Below.refl _ _).alloc (Nat.le_refl _) _⟩
      case round =>
        obtain ⟨k, hk, rfl, hsg, hrd, hb⟩ := hrel
        have HS := Lib.hid hsg
        clear hsg
        by_cases hlt : k < 7
        · obtain ⟨ad, x, hA, _, hx, e1⟩ := st_at hrd (show signsB.length = 7 from rfl) hlt
          obtain rfl := Option.some.inj hA
          have e1' : wr.cell? ⟨w.heap.size, k, none⟩ = some (.string x) := by rw [add_at] at e1; exact e1
          have hst := signSize_step (L := sb s) (signsB_sb k x hx)
          rw [HS.out] at hst
          have HST := Lib.hid hst
          have hk0 : (0 : Int) ≤ (k : Int) := Int.natCast_nonneg _
          have hk1 : (k : Int) < 7 := by omega
          clear e1 hx hA hst
          cases hq : pfx (sb s) (sb x)
          · have HQ := Lib.hid hq
            clear hq
            go_wp2_with fail
            refine (stringsHasPrefix_any false _ _ _ HQ.out).mono ?_
            rintro e w' ⟨rfl, rfl⟩
            go_wp2_with fail
            go_roundw
            case rel => exact ⟨k + 1, by omega, by go_num, by rw [HST.out, HQ.out]; rfl, hrd, hb⟩
            case measure => simp [intOf]; omega
          · have HQ := Lib.hid hq
            clear hq
            go_wp2_with fail
            refine (stringsHasPrefix_any true _ _ _ HQ.out).mono ?_
            rintro e w' ⟨rfl, rfl⟩
            go_wp2_with fail
            go_ret
            refine ⟨ret_int ?_, hb⟩
            rw [HST.out, HQ.out, if_pos rfl, sb_len]
        · obtain rfl : k = 7 := by omega
          go_wp2_with fail
          go_ret
          refine ⟨ret_int ?_, hb⟩
          rw [← HS.out]
          rfl
end Go.Proofs.YtcfjgieiaioinaaDoor
