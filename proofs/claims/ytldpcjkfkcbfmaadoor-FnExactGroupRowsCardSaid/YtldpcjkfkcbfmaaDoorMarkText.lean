/- laws.markText. -/
import Derived.Test.YtldpcjkfkcbfmaaDoorBase
import Derived.Laws.IdiomStrings
import Derived.Laws.Concat
namespace Go.Proofs.YtldpcjkfkcbfmaaDoor
open Go Go.RowKit

def digT (n : Nat) (acc : ByteArray) : ByteArray := if n = 0 then acc else digT (n / 10) (⟨#[UInt8.ofNat (48 + n % 10)]⟩ ++ acc)
termination_by n
decreasing_by omega
def markT (k : Nat) : ByteArray := if k = 0 then ⟨#[109, 48]⟩ else ⟨#[109]⟩ ++ digT k ⟨#[]⟩
theorem digT_zero (acc : ByteArray) : digT 0 acc = acc := by rw [digT]; simp
theorem digT_pos {n : Nat} (h : 0 < n) (acc : ByteArray) : digT (n / 10) (⟨#[UInt8.ofNat (48 + n % 10)]⟩ ++ acc) = digT n acc := by
  rw [digT.eq_1 n, if_neg (by omega)]

theorem conv_one (w : World) (d : Nat) (hd : d < 256) :
    (convert 64 9 (.slice (some ⟨w.heap.size, 0, none⟩) 1 1)).run Tryd.prog (w.alloc (.cells #[.int .u8 (d : Int)] 5)) = .ok (.string ⟨#[UInt8.ofNat d]⟩) (w.alloc (.cells #[.int .u8 (d : Int)] 5)) := by
  refine run_convert_bytes_back (P := Tryd.prog) _ _ _ 5 ⟨w.heap.size, 0, none⟩ 1 [UInt8.ofNat d] Tryd.underlying64 Tryd.underlying5 Tryd.underlying9 ?_
  intro j hj
  obtain rfl : j = 0 := by simp at hj; omega
  have : (w.alloc (.cells #[.int .u8 (d : Int)] 5)).cell? ⟨w.heap.size, 0, none⟩ = some (.int .u8 (d : Int)) := by rw [World.cell?_alloc_mark]; rfl
  have e : (([UInt8.ofNat d][0]).toNat : Int) = (d : Int) := by simp; omega
  rw [e]
  exact this

set_option maxHeartbeats 400000 in
theorem markText_any (k : Nat) (w : World) (hk : k ≤ 10000000000000) :
    Calls Tryd.prog 39 #[.int .i64 k] w fun e w' => e = .returned (.string (markT k)) ∧ Below w.heap.size w w' := by
  rcases Nat.eq_zero_or_pos k with h0 | h0
  · subst h0
    go_enter Tryd.func39, Tryd.ntmps39
    go_wp2_with fail
    go_ret
    exact ⟨rfl, Below.refl _ _⟩
  · obtain ⟨T, hT⟩ : ∃ T, digT k ⟨#[]⟩ = T := ⟨_, rfl⟩
    have HT := Lib.hid (show markT k = ⟨#[109]⟩ ++ T by rw [markT, if_neg (by omega), hT])
    have HD := Lib.hid hT
    have HK := Lib.hid hk
    clear hT
    have hk1 : (0 : Int) < (k : Int) := by omega
    go_enter Tryd.func39, Tryd.ntmps39
    go_wp2_with fail
    go_loopw [0, 3] (fun kv av wr => ∃ (n : Nat) (acc : ByteArray), kv = .int .i64 n ∧ av = .string acc ∧ Hid (digT n acc = T) ∧ acc.size + n ≤ k ∧ Below w.heap.size w wr) (fun kv _ _ => (intOf kv).toNat)
    case atStart => exact ⟨k, ⟨#[]⟩, rfl, rfl, HD, by simp [ByteArray.size], Below.refl _ _⟩
    case round =>
      obtain ⟨n, acc, rfl, rfl, hd, hsz, hb⟩ := hrel
      by_cases hlt : 0 < n
      · have hlt1 : (0 : Int) < (n : Int) := by omega
        have hmod : (n : Int) % 10 = ((n % 10 : Nat) : Int) := by omega
        obtain ⟨d, hdd⟩ : ∃ d, n % 10 = d := ⟨_, rfl⟩
        have hd10 : d < 10 := by omega
        have hconv := conv_one wr (48 + d) (by omega)
        rw [show ((48 + d : Nat) : Int) = 48 + (d : Int) by omega] at hconv
        obtain ⟨ch, hch⟩ : ∃ ch : UInt8, UInt8.ofNat (48 + d) = ch := ⟨_, rfl⟩
        rw [hch] at hconv
        have hsum := run_string_add_sum (P := Tryd.prog) (w := wr.alloc (.cells #[.int .u8 (48 + (d : Int))] 5)) ⟨#[ch]⟩ acc (by show 1 + acc.size ≤ _; omega)
        have hd2 := Lib.hid ((digT_pos hlt acc).trans hd.out)
        rw [hdd, hch] at hd2
        clear hch
        clear hd
        go_wp2_with fail
        refine ⟨⟨n / 10, _, by go_num, rfl, hd2, ?_, hb.alloc hb.size _⟩, ?_⟩
        · show (⟨#[ch]⟩ ++ acc : ByteArray).size + n / 10 ≤ k
          rw [ByteArray.size_append]
          show 1 + acc.size + n / 10 ≤ k
          omega
        · simp [intOf]; omega
      · obtain rfl : n = 0 := by omega
        have hacc : acc = T := by have := hd.out; rwa [digT_zero] at this
        subst hacc
        have hsum := run_string_add_sum (P := Tryd.prog) (w := wr) ⟨#[109]⟩ acc (by show 1 + acc.size ≤ _; have := HK.out; omega)
        go_wp2_with fail
        go_ret
        exact ⟨by rw [HT.out]; rfl, hb⟩
end Go.Proofs.YtldpcjkfkcbfmaaDoor
