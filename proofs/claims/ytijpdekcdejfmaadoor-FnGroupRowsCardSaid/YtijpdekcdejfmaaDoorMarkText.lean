/- laws.markText. -/
import Derived.Test.YtijpdekcdejfmaaDoorBase
import Derived.Laws.IdiomStrings
import Derived.Laws.Concat
namespace Go.Proofs.YtijpdekcdejfmaaDoor
open Go Go.RowKit

def digT (n : Nat) (acc : ByteArray) : ByteArray := if n = 0 then acc else digT (n / 10) (⟨#[UInt8.ofNat (48 + n % 10)]⟩ ++ acc)
termination_by n
decreasing_by omega
def markT (k : Nat) : ByteArray := if k = 0 then ⟨#[109, 48]⟩ else ⟨#[109]⟩ ++ digT k ⟨#[]⟩
theorem digT_zero (acc : ByteArray) : digT 0 acc = acc := by rw [digT]; simp
theorem digT_pos {n : Nat} (h : 0 < n) (acc : ByteArray) : digT (n / 10) (⟨#[UInt8.ofNat (48 + n % 10)]⟩ ++ acc) = digT n acc := by
  rw [digT.eq_1 n, if_neg (by omega)]

end Go.Proofs.YtijpdekcdejfmaaDoor
