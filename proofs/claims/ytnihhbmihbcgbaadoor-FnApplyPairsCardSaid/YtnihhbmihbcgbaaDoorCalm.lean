/- A region that draws its order and whose callees make memory, but write nothing that was there: one walk, in the order of the text. -/
import Derived.Test.YtnihhbmihbcgbaaDoorMem
import Derived.Deep.QuietTactic
import Derived.BigQuiet
namespace Go.Proofs.YtnihhbmihbcgbaaDoor
open Go Go.RowKit

/-- The worlds that part from w0 in new blocks alone. -/
structure Calm (w0 : World) where
  w : World
  h : Below w0.heap.size w0 w
instance calmOne (w0 : World) : Nonempty (Calm w0) := ⟨⟨w0, Below.refl _ _⟩⟩
theorem wp_region_calm {P : Program} {id : Nat} {Q : Exit → Act → World → Prop} {a : Act} {w : World} {l : List Oper} (hm : P.follows .mixedOrders = true) (hB : Region.lexB .any l.toArray = true)
    (h : wpQuiet P l.toArray (fun w' => ∃ u : Calm w, w' = u.w) (fun a' => ∀ w', (∃ u : Calm w, w' = u.w) → Q .normal a' w') l a) : (Code.region id l.toArray true).wp P Q a w :=
  wp_region_quiet (C := fun w' => ∃ u : Calm w, w' = u.w) hm hB ⟨⟨{ w with drawn := w.drawn + 1 }, ⟨rfl, rfl, rfl, Nat.le_refl _, fun _ _ => rfl⟩⟩, rfl⟩ (by simpa using h)
/-- A callee's contract at such a region. -/
theorem calm_call {P : Program} {f : FuncId} {args : Array Value} {w0 : World} {v : Value} {u : Calm w0} (h : ∀ w', Below w0.heap.size w0 w' → Calls P f args w' fun e w'' => e = .returned v ∧ Below w'.heap.size w' w'') :
    Calls P f args u.w fun e w'' => e = .returned v ∧ ∃ u' : Calm w0, w'' = u'.w :=
  (h u.w u.h).mono fun _ _ hh => ⟨hh.1, ⟨_, u.h.trans (hh.2.mono u.h.size)⟩, rfl⟩
theorem calm_same {P : Program} {f : FuncId} {args : Array Value} {w0 : World} {v : Value} {u : Calm w0} (h : ∀ w', Below w0.heap.size w0 w' → Calls P f args w' fun e w'' => e = .returned v ∧ w' = w'') :
    Calls P f args u.w fun e w'' => e = .returned v ∧ ∃ u' : Calm w0, w'' = u'.w :=
  (h u.w u.h).mono fun _ _ hh => ⟨hh.1, u, hh.2.symm⟩
end Go.Proofs.YtnihhbmihbcgbaaDoor
