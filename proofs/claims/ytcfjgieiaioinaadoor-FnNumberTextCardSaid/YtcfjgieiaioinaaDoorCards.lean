/-
  DERIVED. GIVEN WITH THE SEED: THE CARDS: each row of YtcfjgieiaioinaaDoorRows.lean that lists a variable, with what it lists TIED to the program's text (the seventh form; the later family's looks); each row that meets fmt, with fmt's text TOLD by the authors' own Lean function (tested against real Go, not proved from fmt's source: count such statements apart). THE CARD IS WHAT COUNTS. Prove the row's statement (the work); the ties are given (YtcfjgieiaioinaaDoorTie.lean); close each card by the builder's one call (the guide's Derived/Test/ToyasCard.lean, 'card_holds'). Laid BY PROGRAM, IN A SANDBOX (cutbox-door.mjs). By AI agents, Wed Nov 11 2026. No macro, syntax, notation, axiom, sorry.
-/
import Derived.Test.YtcfjgieiaioinaaDoorRows
import GoSem.ClaimSeven
namespace Go.Proofs.YtcfjgieiaioinaaDoor
namespace Rows

/-- THE TIED CARD OF 'laws.FnExactNumberText'. -/
def fnExactNumberTextCard : Claim7 := { stood := { row := fnExactNumberTextRow, standIns := [], harness := (true, "65d7f763cc463a95b4977c0624eab939cea48d07be8f095a7d11539dc7bfd25c"), looks := true }, kinds := [], alts := [], laidByText := true, laidKinds := [.data, .data, .data], laidTests := true, laidLooks := .later }
def FnExactNumberTextCardSaid : Prop := Claim7.holds Tryd.pinned (.plain (OpenSpec.ofChange fnExactNumberTextSpec)) fnExactNumberTextCard

/-- THE TIED CARD OF 'laws.FnExactReadNumber'. -/
def fnExactReadNumberCard : Claim7 := { stood := { row := fnExactReadNumberRow, standIns := [], harness := (true, "65d7f763cc463a95b4977c0624eab939cea48d07be8f095a7d11539dc7bfd25c"), looks := true }, kinds := [], alts := [], laidByText := true, laidKinds := [.data, .data, .data, .sentinel, .sentinel], laidTests := true, laidLooks := .later }
def FnExactReadNumberCardSaid : Prop := Claim7.holds Tryd.pinned (.plain (OpenSpec.ofChange fnExactReadNumberSpec)) fnExactReadNumberCard

/-- THE TIED CARD OF 'laws.FnReadNumber'. -/
def fnReadNumberCard : Claim7 := { stood := { row := fnReadNumberRow, standIns := [], harness := (true, "65d7f763cc463a95b4977c0624eab939cea48d07be8f095a7d11539dc7bfd25c"), looks := true }, kinds := [], alts := [], laidByText := true, laidKinds := [.data, .data, .data, .sentinel, .sentinel, .widerDeep], laidTests := true, laidLooks := .later }
def FnReadNumberCardSaid : Prop := Claim7.holds Tryd.pinned (.plain (OpenSpec.ofChange fnReadNumberSpec)) fnReadNumberCard

/-- THE TIED CARD OF 'laws.FnNumberText'. -/
def fnNumberTextCard : Claim7 := { stood := { row := fnNumberTextRow, standIns := [], harness := (true, "65d7f763cc463a95b4977c0624eab939cea48d07be8f095a7d11539dc7bfd25c"), looks := true }, kinds := [], alts := [], laidByText := true, laidKinds := [.data, .data, .data, .sentinel, .sentinel, .widerDeep], laidTests := true, laidLooks := .later }
def FnNumberTextCardSaid : Prop := Claim7.holds Tryd.pinned (.plain (OpenSpec.ofChange fnNumberTextSpec)) fnNumberTextCard

/-- THE SECOND FORM's CARD OF 'laws.FnExactNumberText'. -/
def fnExactNumberTextUptoCard : Claim7 := { stood := { row := fnExactNumberTextUptoRow, standIns := [], harness := (true, "65d7f763cc463a95b4977c0624eab939cea48d07be8f095a7d11539dc7bfd25c"), looks := true }, kinds := [], alts := [], laidByText := true, laidKinds := [.data, .data, .data], laidTests := true, laidLooks := .later }
def FnExactNumberTextUptoCardSaid : Prop := Claim7.holds Tryd.pinned (.plain (OpenSpec.upto fnExactNumberTextSpec)) fnExactNumberTextUptoCard

/-- THE SECOND FORM's CARD OF 'laws.FnExactReadNumber'. -/
def fnExactReadNumberUptoCard : Claim7 := { stood := { row := fnExactReadNumberUptoRow, standIns := [], harness := (true, "65d7f763cc463a95b4977c0624eab939cea48d07be8f095a7d11539dc7bfd25c"), looks := true }, kinds := [], alts := [], laidByText := true, laidKinds := [.data, .data, .data, .sentinel, .sentinel], laidTests := true, laidLooks := .later }
def FnExactReadNumberUptoCardSaid : Prop := Claim7.holds Tryd.pinned (.plain (OpenSpec.upto fnExactReadNumberSpec)) fnExactReadNumberUptoCard

/-- THE SECOND FORM's CARD OF 'laws.FnReadNumber'. -/
def fnReadNumberUptoCard : Claim7 := { stood := { row := fnReadNumberUptoRow, standIns := [], harness := (true, "65d7f763cc463a95b4977c0624eab939cea48d07be8f095a7d11539dc7bfd25c"), looks := true }, kinds := [], alts := [], laidByText := true, laidKinds := [.data, .data, .data, .sentinel, .sentinel, .widerDeep], laidTests := true, laidLooks := .later }
def FnReadNumberUptoCardSaid : Prop := Claim7.holds Tryd.pinned (.plain (OpenSpec.upto fnReadNumberSpec)) fnReadNumberUptoCard

/-- THE SECOND FORM's CARD OF 'laws.FnNumberText'. -/
def fnNumberTextUptoCard : Claim7 := { stood := { row := fnNumberTextUptoRow, standIns := [], harness := (true, "65d7f763cc463a95b4977c0624eab939cea48d07be8f095a7d11539dc7bfd25c"), looks := true }, kinds := [], alts := [], laidByText := true, laidKinds := [.data, .data, .data, .sentinel, .sentinel, .widerDeep], laidTests := true, laidLooks := .later }
def FnNumberTextUptoCardSaid : Prop := Claim7.holds Tryd.pinned (.plain (OpenSpec.upto fnNumberTextSpec)) fnNumberTextUptoCard
end Rows
end Go.Proofs.YtcfjgieiaioinaaDoor
