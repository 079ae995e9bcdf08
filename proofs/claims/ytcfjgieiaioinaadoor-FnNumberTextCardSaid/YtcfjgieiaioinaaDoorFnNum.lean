/- laws.FnNumberText, laws.FnReadNumber: the walks. -/
import Derived.Test.YtcfjgieiaioinaaDoorSameL
import Derived.Test.YtcfjgieiaioinaaDoorDrawNum
import Derived.Test.YtcfjgieiaioinaaDoorRead
import Derived.Test.YtcfjgieiaioinaaDoorTokImpl
namespace Go.Proofs.YtcfjgieiaioinaaDoor
open Go Go.RowKit
set_option maxRecDepth 100000
theorem dec_isD (u : Nat) : (Lib.decDigits u).takeWhile isD = Lib.decDigits u := by
  have h : ∀ l : List UInt8, (∀ c ∈ l, isD c = true) → l.takeWhile isD = l := by
    intro l
    induction l with
    | nil => intro _; rfl
    | cons a r ih =>
      intro h
      rw [List.takeWhile_cons_of_pos (h a List.mem_cons_self), ih (fun c hc => h c (List.mem_cons_of_mem _ hc))]
  refine h _ (fun c hc => ?_)
  have := dec_digit u c hc
  unfold isD
  simp [this.1, this.2]
theorem tok_num (n : Int) : tokSize (Lib.itoa n) = (Lib.itoa n).length := by
  have hd0 : 0 < (Lib.decDigits n.natAbs).length := List.length_pos_iff.2 (dec_ne _)
  have hl : (Lib.itoa n).takeWhile isL = [] := by
    cases hc : Lib.itoa n with
    | nil => rfl
    | cons c r =>
      refine List.takeWhile_cons_of_neg ?_
      have h := itoa_at (n := n) (k := 0) (c := c) (by rw [hc]; rfl)
      unfold isL
      simp only [Bool.and_eq_true, decide_eq_true_eq]
      rcases h with ⟨_, rfl⟩ | h
      · simp
      · omega
  have ht : trimP (Lib.itoa n) [45] = Lib.decDigits n.natAbs := by
    by_cases h : n < 0
    · rw [itoa_neg' h]
      simp [trimP, pfx]
    · rw [itoa_pos' h]
      unfold trimP pfx
      rw [if_neg]
      intro e
      have e : (Lib.decDigits n.natAbs).take 1 = [45] := by simpa using e
      have hm : (45 : UInt8) ∈ Lib.decDigits n.natAbs := List.mem_of_mem_take (i := 1) (by rw [e]; exact List.mem_singleton.2 rfl)
      have := dec_digit _ _ hm
      simp at this
  have hle : (Lib.decDigits n.natAbs).length ≤ (Lib.itoa n).length := by rw [← ht]; exact trimP_le _ _
  unfold tokSize
  rw [hl, ht, dec_isD, if_neg (by simp), if_pos hd0]
  omega
theorem toks_num {n : Int} (h : inV n) : tokensOf (numS n) = some [numS n] := by
  unfold tokensOf
  have hs := numS_size n
  rw [if_pos (by omega)]
  have e : sb (numS n) = Lib.itoa n := numS_list h
  rw [e]
  have ht := tok_num n
  cases hc : Lib.itoa n with
  | nil => exact absurd hc (itoa_ne n)
  | cons c r =>
    have h32 : ¬ c = 32 := by
      rintro rfl
      have h := itoa_at (n := n) (k := 0) (c := 32) (by rw [hc]; rfl)
      rcases h with ⟨_, h⟩ | h
      · exact absurd h (by decide)
      · simp at h
    rw [hc] at ht
    rw [toks_tok c r [] h32 _ ht (by simp), List.drop_length, List.take_length, toks_nil, List.nil_append, ← hc, ← numS_yes h]
theorem read_num {n : Int} (h : inV n) : ReadIs (numS n) n true := .inl ⟨rfl, h, numS_list h⟩
theorem read_space (s : ByteArray) : ReadIs (s ++ ⟨#[32]⟩) 0 false := by
  refine .inr ⟨rfl, rfl, fun v _ h => ?_⟩
  rw [add_list] at h
  have h1 : (Lib.itoa v)[s.data.toList.length]? = some 32 := by
    rw [← h]
    simp
  rcases itoa_at h1 with ⟨_, h2⟩ | h2
  · exact absurd h2 (by decide)
  · simp at h2
set_option maxHeartbeats 1600000 in
theorem fnNum_walk {w : World} (A : Option Addr) (n c : Nat) (xs : List UInt8) (hl : xs.length = n) (hc : n ≤ c) (hm : c ≤ maxLen) (hx : Reads w w.heap.size 1 A n (byCells xs))
    (hN : LV w) (RA : Option Addr) (RC : Nat) (hv : w.cell? ⟨0, 0, none⟩ = some (.slice RA 13 RC)) (hr : Reads w w.heap.size 1 RA 13 (stCells resW)) :
    Calls Tryd.prog 6 #[.slice A n c] w fun e w' => e = .returned (.bool true) ∧ Below w.heap.size w w' := by
  by_cases hbig : (1048576 : Int) < (n : Int)
  · clear hx hr
    go_enter Tryd.func6, Tryd.ntmps6
    go_wp2_with fail
    go_ret
    exact ⟨rfl, Below.refl _ _⟩
  · have HD := Lib.hid (drawNum_any A n c xs w hx hl (by omega) hc hm)
    have HV := Lib.hid (fun (w' : World) (hb : Below w.heap.size w w') => alive_yes RA RC w' (below_keep hb hv) ((hr.below hb).more hb.size))
    have HI := Lib.hid (fun (v : Int) (w' : World) (hb : Below w.heap.size w w') => implNum_any v w' (hN.below hb).tab)
    have HR := Lib.hid (fun (v : Int) (h : inV v) (w' : World) (hb : Below w.heap.size w w') => implRead_any (numS v) v true (read_num h) (by have := numS_size v; omega) w' (hN.below hb))
    clear hx hr hl hv hN
    go_enter Tryd.func6, Tryd.ntmps6
    go_wp2_with fail
    refine HD.out.mono ?_
    rintro e w1 ⟨v, rfl, hv0, hv1, b1⟩
    have I1 := Lib.hid (HI.out v w1 b1)
    by_cases hin : inV v
    · have TK := Lib.hid (fun w' => implTokens_any (numS v) _ w' (toks_num hin) (by have := numS_size v; omega))
      have SP := Lib.hid (fun w' => specNum_any v w')
      have R1 := Lib.hid (HR.out v hin)
      have hne0 : ¬ numS v = ⟨#[]⟩ := by
        intro h
        have h1 := numS_list hin
        rw [h] at h1
        exact itoa_ne v h1.symm
      obtain ⟨s, hs⟩ : ∃ s, numS v = s := ⟨_, rfl⟩
      rw [hs] at TK SP R1 I1 hne0
      have hnl : (s.toList = []) = False := by
        refine eq_false (fun h => hne0 ?_)
        rw [ByteArray.toList_eq] at h
        exact ByteArray.ext (Array.toList_inj.1 h)
      have hie : s.toList.isEmpty = false := by
        cases h : s.toList with
        | nil => exact absurd h (by rw [hnl]; exact id)
        | cons a r => rfl
      clear hs hin hne0 HR HI HV HD
      go_wp2_with fail
      refine I1.out.mono ?_
      rintro e w2 ⟨rfl, b2⟩
      have B2 := b1.trans (b2.mono b1.size)
      go_wp2_with fail
      refine (SP.out _).mono ?_
      rintro e w3 ⟨rfl, b3⟩
      have B3 := B2.trans (b3.mono B2.size)
      have R3 := Lib.hid (R1.out w3 B3)
      go_wp2_with fail
      refine R3.out.mono ?_
      rintro e w4 ⟨rfl, b4⟩
      have B4 := B3.trans (b4.mono B3.size)
      go_wp2_with fail
      refine (TK.out _).mono ?_
      rintro e w5 ⟨v5, rfl, o5, b5⟩
      obtain ⟨A5, c5, rfl, _, _⟩ := own_form o5
      have B5 := B4.trans (b5.mono B4.size)
      simp only [Option.getD_some, List.length_singleton, Option.isSome_some]
      clear o5
      go_wp2_with fail
      go_ret
      exact ⟨rfl, B5⟩
    · have SP := Lib.hid (fun w' => specNum_any v w')
      have hlt : v < -100000 ∨ 100000 < v := by unfold inV at hin; omega
      rw [numS_no hin] at SP I1
      clear hin HR HI HD
      go_wp2_with fail
      refine I1.out.mono ?_
      rintro e w2 ⟨rfl, b2⟩
      have B2 := b1.trans (b2.mono b1.size)
      go_wp2_with fail
      refine (SP.out _).mono ?_
      rintro e w3 ⟨rfl, b3⟩
      have B3 := B2.trans (b3.mono B2.size)
      have AL := Lib.hid (HV.out w3 B3)
      rcases hlt with hlt | hlt
      · go_wp2_with fail
        refine AL.out.mono ?_
        rintro e w' ⟨rfl, rfl⟩
        go_wp2_with fail
        go_ret
        exact ⟨rfl, B3⟩
      · have hlt2 : ¬ v < -100000 := by omega
        go_wp2_with fail
        refine AL.out.mono ?_
        rintro e w' ⟨rfl, rfl⟩
        go_wp2_with fail
        go_ret
        exact ⟨rfl, B3⟩
set_option maxHeartbeats 1600000 in
theorem fnRead_walk {w : World} (A : Option Addr) (n c : Nat) (xs : List UInt8) (hl : xs.length = n) (hc : n ≤ c) (hm : c ≤ maxLen) (hx : Reads w w.heap.size 1 A n (byCells xs))
    (hN : LV w) (RA : Option Addr) (RC : Nat) (hv : w.cell? ⟨0, 0, none⟩ = some (.slice RA 13 RC)) (hr : Reads w w.heap.size 1 RA 13 (stCells resW)) :
    Calls Tryd.prog 5 #[.slice A n c] w fun e w' => e = .returned (.bool true) ∧ Below w.heap.size w w' := by
  by_cases hbig : (1048576 : Int) < (n : Int)
  · clear hx hr
    go_enter Tryd.func5, Tryd.ntmps5
    go_wp2_with fail
    go_ret
    exact ⟨rfl, Below.refl _ _⟩
  · have HD := Lib.hid (drawRead_any A n c xs w hx hl (by omega) hc hm)
    have HV := Lib.hid (fun (w' : World) (hb : Below w.heap.size w w') => alive_yes RA RC w' (below_keep hb hv) ((hr.below hb).more hb.size))
    have HI := Lib.hid (fun (v : Int) (w' : World) (hb : Below w.heap.size w w') => implNum_any v w' (hN.below hb).tab)
    have HR := Lib.hid (fun (s : ByteArray) (hs : s.size ≤ 20) (v : Int) (ok : Bool) (h : ReadIs s v ok) (w' : World) (hb : Below w.heap.size w w') => implRead_any s v ok h (by omega) w' (hN.below hb))
    clear hx hr hl hv hN
    go_enter Tryd.func5, Tryd.ntmps5
    go_wp2_with fail
    refine HD.out.mono ?_
    rintro e w1 ⟨s, rfl, hs, b1⟩
    obtain ⟨v, ok, hR⟩ := ReadIs.ex s
    have I1 := Lib.hid (HR.out s (by omega) v ok hR w1 b1)
    have SP := Lib.hid (fun w' => specRead_any s v ok hR (by omega) w')
    have RS := Lib.hid (HR.out (s ++ ⟨#[32]⟩) (by rw [ByteArray.size_append]; show s.size + 1 ≤ 20; omega) 0 false (read_space s))
    have hsum := fun w' => run_string_add_sum (P := Tryd.prog) (w := w') s ⟨#[32]⟩ (by show s.size + 1 ≤ _; omega)
    go_wp2_with fail
    refine I1.out.mono ?_
    rintro e w2 ⟨rfl, b2⟩
    have B2 := b1.trans (b2.mono b1.size)
    go_wp2_with fail
    refine (SP.out _).mono ?_
    rintro e w3 ⟨rfl, b3⟩
    have B3 := B2.trans (b3.mono B2.size)
    cases ok
    · have hv0 : v = 0 := by
        rcases hR with ⟨h, _⟩ | ⟨_, h, _⟩
        · cases h
        · exact h
      subst hv0
      have AL := Lib.hid (HV.out w3 B3)
      clear hR
      go_wp2_with fail
      refine AL.out.mono ?_
      rintro e w' ⟨rfl, rfl⟩
      go_wp2_with fail
      go_ret
      exact ⟨rfl, B3⟩
    · have hsv : numS v = s := by
        rcases hR with ⟨_, h1, h2⟩ | ⟨h, _⟩
        · rw [numS_yes h1, ← h2]
        · cases h
      have R4 := Lib.hid (RS.out w3 B3)
      have I4 := Lib.hid (HI.out v)
      rw [hsv] at I4
      clear hR hsv
      go_wp2_with fail
      refine R4.out.mono ?_
      rintro e w4 ⟨rfl, b4⟩
      have B4 := B3.trans (b4.mono B3.size)
      have I5 := Lib.hid (I4.out w4 B4)
      go_wp2_with fail
      refine I5.out.mono ?_
      rintro e w5 ⟨rfl, b5⟩
      have B5 := B4.trans (b5.mono B4.size)
      go_wp2_with fail
      go_ret
      exact ⟨rfl, B5⟩
end Go.Proofs.YtcfjgieiaioinaaDoor
