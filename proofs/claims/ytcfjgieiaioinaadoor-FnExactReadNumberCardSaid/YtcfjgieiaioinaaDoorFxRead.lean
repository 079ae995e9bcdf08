/- laws.FnExactReadNumber: the walk. -/
import Derived.Test.YtcfjgieiaioinaaDoorRead
namespace Go.Proofs.YtcfjgieiaioinaaDoor
open Go Go.RowKit
set_option maxRecDepth 100000
theorem fnExactReadNumber_walk {w : World} (s : ByteArray) (hs : s.size ≤ maxLen) (hN : LV w) :
    Calls Tryd.prog 4 #[.string s] w fun e w' => e = .returned (.bool true) ∧ Below w.heap.size w w' := by
  unfold maxLen at hs
  by_cases hbig : (1048576 : Int) < (s.size : Int)
  · clear hN
    go_enter Tryd.func4, Tryd.ntmps4
    go_wp2_with fail
    go_ret
    exact ⟨rfl, Below.refl _ _⟩
  · obtain ⟨n, ok, hR⟩ := ReadIs.ex s
    have SP := Lib.hid (specRead_any s n ok hR (by omega) w)
    have IM := Lib.hid (fun (w' : World) (hb : Below w.heap.size w w') => implRead_any s n ok hR (by omega) w' (hN.below hb))
    clear hN hR
    go_enter Tryd.func4, Tryd.ntmps4
    go_wp2_with fail
    refine SP.out.mono ?_
    rintro e w1 ⟨rfl, b1⟩
    have I1 := Lib.hid (IM.out w1 b1)
    go_wp2_with fail
    refine I1.out.mono ?_
    rintro e w2 ⟨rfl, b2⟩
    have B2 := b1.trans (b2.mono b1.size)
    go_wp2_with fail
    go_ret
    exact ⟨rfl, B2⟩
end Go.Proofs.YtcfjgieiaioinaaDoor
