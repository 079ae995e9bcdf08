/- laws.FnExactNumberText: the walk. -/
import Derived.Test.YtcfjgieiaioinaaDoorNum
namespace Go.Proofs.YtcfjgieiaioinaaDoor
open Go Go.RowKit
set_option maxRecDepth 100000
theorem fnExactNumberText_walk {w : World} (n : Int) (hN : NT w) :
    Calls Tryd.prog 3 #[.int .i64 n] w fun e w' => e = .returned (.bool true) ∧ Below w.heap.size w w' := by
  have SP := Lib.hid (specNum_any n w)
  have IM := Lib.hid (fun (w' : World) (hb : Below w.heap.size w w') => implNum_any n w' (hN.below hb))
  clear hN
  obtain ⟨s, hs⟩ : ∃ s, numS n = s := ⟨_, rfl⟩
  rw [hs] at SP IM
  clear hs
  go_enter Tryd.func3, Tryd.ntmps3
  go_wp2_with fail
  refine SP.out.mono ?_
  rintro e w1 ⟨rfl, b1⟩
  have I1 := Lib.hid (IM.out w1 b1)
  go_wp2_with fail
  refine I1.out.mono ?_
  rintro e w2 ⟨rfl, b2⟩
  have B2 := b1.trans (b2.mono b1.size)
  go_wp2_with fail
  go_ret
  exact ⟨rfl, B2⟩
end Go.Proofs.YtcfjgieiaioinaaDoor
