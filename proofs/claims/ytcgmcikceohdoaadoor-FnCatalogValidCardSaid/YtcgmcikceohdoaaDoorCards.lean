/-
  DERIVED. GIVEN WITH THE SEED: THE CARDS: each row of YtcgmcikceohdoaaDoorRows.lean that lists a variable, with what it lists TIED to the program's text (the seventh form; the later family's looks); each row that meets fmt, with fmt's text TOLD by the authors' own Lean function (tested against real Go, not proved from fmt's source: count such statements apart). THE CARD IS WHAT COUNTS. Prove the row's statement (the work); the ties are given (YtcgmcikceohdoaaDoorTie.lean); close each card by the builder's one call (the guide's Derived/Test/ToyasCard.lean, 'card_holds'). Laid BY PROGRAM, IN A SANDBOX (cutbox-door.mjs). By AI agents, Wed Nov 11 2026. No macro, syntax, notation, axiom, sorry.
-/
import Derived.Test.YtcgmcikceohdoaaDoorRows
import GoSem.ClaimSeven
namespace Go.Proofs.YtcgmcikceohdoaaDoor
namespace Rows

/-- THE TIED CARD OF 'laws.FnExactNameValid'. -/
def fnExactNameValidCard : Claim7 := { stood := { row := fnExactNameValidRow, standIns := [], harness := (true, "81842aac5909ffc86d8a24858afb790602e6875f89d384732c1bdef26601ae3b"), looks := false }, kinds := [], alts := [], laidByText := true, laidKinds := [.widerDeep], laidTests := true, laidLooks := .later }
def FnExactNameValidCardSaid : Prop := Claim7.holds Tryd.pinned (.plain (OpenSpec.ofChange fnExactNameValidSpec)) fnExactNameValidCard

/-- THE TIED CARD OF 'laws.FnNameValid'. -/
def fnNameValidCard : Claim7 := { stood := { row := fnNameValidRow, standIns := [], harness := (true, "81842aac5909ffc86d8a24858afb790602e6875f89d384732c1bdef26601ae3b"), looks := false }, kinds := [], alts := [], laidByText := true, laidKinds := [.widerDeep], laidTests := true, laidLooks := .later }
def FnNameValidCardSaid : Prop := Claim7.holds Tryd.pinned (.plain (OpenSpec.ofChange fnNameValidSpec)) fnNameValidCard

/-- THE TIED CARD OF 'laws.FnTableValid'. -/
def fnTableValidCard : Claim7 := { stood := { row := fnTableValidRow, standIns := [], harness := (true, "81842aac5909ffc86d8a24858afb790602e6875f89d384732c1bdef26601ae3b"), looks := false }, kinds := [], alts := [], laidByText := true, laidKinds := [.widerDeep], laidTests := true, laidLooks := .later }
def FnTableValidCardSaid : Prop := Claim7.holds Tryd.pinned (.plain (OpenSpec.ofChange fnTableValidSpec)) fnTableValidCard

/-- THE TIED CARD OF 'laws.FnExactTableValid'. -/
def fnExactTableValidCard : Claim7 := { stood := { row := fnExactTableValidRow, standIns := [], harness := (true, "81842aac5909ffc86d8a24858afb790602e6875f89d384732c1bdef26601ae3b"), looks := false }, kinds := [], alts := [], laidByText := true, laidKinds := [.widerDeep], laidTests := true, laidLooks := .later }
def FnExactTableValidCardSaid : Prop := Claim7.holds Tryd.pinned (.plain (OpenSpec.ofChange fnExactTableValidSpec)) fnExactTableValidCard

/-- THE TIED CARD OF 'laws.FnColumnOf'. -/
def fnColumnOfCard : Claim7 := { stood := { row := fnColumnOfRow, standIns := [], harness := (true, "81842aac5909ffc86d8a24858afb790602e6875f89d384732c1bdef26601ae3b"), looks := false }, kinds := [], alts := [], laidByText := true, laidKinds := [.widerDeep], laidTests := true, laidLooks := .later }
def FnColumnOfCardSaid : Prop := Claim7.holds Tryd.pinned (.plain (OpenSpec.ofChange fnColumnOfSpec)) fnColumnOfCard

/-- THE TIED CARD OF 'laws.FnExactColumnOf'. -/
def fnExactColumnOfCard : Claim7 := { stood := { row := fnExactColumnOfRow, standIns := [], harness := (true, "81842aac5909ffc86d8a24858afb790602e6875f89d384732c1bdef26601ae3b"), looks := false }, kinds := [], alts := [], laidByText := true, laidKinds := [.widerDeep], laidTests := true, laidLooks := .later }
def FnExactColumnOfCardSaid : Prop := Claim7.holds Tryd.pinned (.plain (OpenSpec.ofChange fnExactColumnOfSpec)) fnExactColumnOfCard

/-- THE TIED CARD OF 'laws.FnPaddedValid'. -/
def fnPaddedValidCard : Claim7 := { stood := { row := fnPaddedValidRow, standIns := [], harness := (true, "81842aac5909ffc86d8a24858afb790602e6875f89d384732c1bdef26601ae3b"), looks := false }, kinds := [], alts := [], laidByText := true, laidKinds := [.widerDeep], laidTests := true, laidLooks := .later }
def FnPaddedValidCardSaid : Prop := Claim7.holds Tryd.pinned (.plain (OpenSpec.ofChange fnPaddedValidSpec)) fnPaddedValidCard

/-- THE TIED CARD OF 'laws.FnExactPaddedValid'. -/
def fnExactPaddedValidCard : Claim7 := { stood := { row := fnExactPaddedValidRow, standIns := [], harness := (true, "81842aac5909ffc86d8a24858afb790602e6875f89d384732c1bdef26601ae3b"), looks := false }, kinds := [], alts := [], laidByText := true, laidKinds := [.widerDeep], laidTests := true, laidLooks := .later }
def FnExactPaddedValidCardSaid : Prop := Claim7.holds Tryd.pinned (.plain (OpenSpec.ofChange fnExactPaddedValidSpec)) fnExactPaddedValidCard

/-- THE TIED CARD OF 'laws.FnRealRows'. -/
def fnRealRowsCard : Claim7 := { stood := { row := fnRealRowsRow, standIns := [], harness := (true, "81842aac5909ffc86d8a24858afb790602e6875f89d384732c1bdef26601ae3b"), looks := false }, kinds := [], alts := [], laidByText := true, laidKinds := [.widerDeep], laidTests := true, laidLooks := .later }
def FnRealRowsCardSaid : Prop := Claim7.holds Tryd.pinned (.plain (OpenSpec.ofChange fnRealRowsSpec)) fnRealRowsCard

/-- THE TIED CARD OF 'laws.FnExactRealRows'. -/
def fnExactRealRowsCard : Claim7 := { stood := { row := fnExactRealRowsRow, standIns := [], harness := (true, "81842aac5909ffc86d8a24858afb790602e6875f89d384732c1bdef26601ae3b"), looks := false }, kinds := [], alts := [], laidByText := true, laidKinds := [.widerDeep], laidTests := true, laidLooks := .later }
def FnExactRealRowsCardSaid : Prop := Claim7.holds Tryd.pinned (.plain (OpenSpec.ofChange fnExactRealRowsSpec)) fnExactRealRowsCard

/-- THE TIED CARD OF 'laws.FnCatalogValid'. -/
def fnCatalogValidCard : Claim7 := { stood := { row := fnCatalogValidRow, standIns := [], harness := (true, "81842aac5909ffc86d8a24858afb790602e6875f89d384732c1bdef26601ae3b"), looks := false }, kinds := [], alts := [], laidByText := true, laidKinds := [.widerDeep], laidTests := true, laidLooks := .later }
def FnCatalogValidCardSaid : Prop := Claim7.holds Tryd.pinned (.plain (OpenSpec.ofChange fnCatalogValidSpec)) fnCatalogValidCard

/-- THE TIED CARD OF 'laws.FnExactCatalogValid'. -/
def fnExactCatalogValidCard : Claim7 := { stood := { row := fnExactCatalogValidRow, standIns := [], harness := (true, "81842aac5909ffc86d8a24858afb790602e6875f89d384732c1bdef26601ae3b"), looks := false }, kinds := [], alts := [], laidByText := true, laidKinds := [.widerDeep], laidTests := true, laidLooks := .later }
def FnExactCatalogValidCardSaid : Prop := Claim7.holds Tryd.pinned (.plain (OpenSpec.ofChange fnExactCatalogValidSpec)) fnExactCatalogValidCard

/-- THE SECOND FORM's CARD OF 'laws.FnExactNameValid'. -/
def fnExactNameValidUptoCard : Claim7 := { stood := { row := fnExactNameValidUptoRow, standIns := [], harness := (true, "81842aac5909ffc86d8a24858afb790602e6875f89d384732c1bdef26601ae3b"), looks := false }, kinds := [], alts := [], laidByText := true, laidKinds := [.widerDeep], laidTests := true, laidLooks := .later }
def FnExactNameValidUptoCardSaid : Prop := Claim7.holds Tryd.pinned (.plain (OpenSpec.upto fnExactNameValidSpec)) fnExactNameValidUptoCard

/-- THE SECOND FORM's CARD OF 'laws.FnNameValid'. -/
def fnNameValidUptoCard : Claim7 := { stood := { row := fnNameValidUptoRow, standIns := [], harness := (true, "81842aac5909ffc86d8a24858afb790602e6875f89d384732c1bdef26601ae3b"), looks := false }, kinds := [], alts := [], laidByText := true, laidKinds := [.widerDeep], laidTests := true, laidLooks := .later }
def FnNameValidUptoCardSaid : Prop := Claim7.holds Tryd.pinned (.plain (OpenSpec.upto fnNameValidSpec)) fnNameValidUptoCard

/-- THE SECOND FORM's CARD OF 'laws.FnTableValid'. -/
def fnTableValidUptoCard : Claim7 := { stood := { row := fnTableValidUptoRow, standIns := [], harness := (true, "81842aac5909ffc86d8a24858afb790602e6875f89d384732c1bdef26601ae3b"), looks := false }, kinds := [], alts := [], laidByText := true, laidKinds := [.widerDeep], laidTests := true, laidLooks := .later }
def FnTableValidUptoCardSaid : Prop := Claim7.holds Tryd.pinned (.plain (OpenSpec.upto fnTableValidSpec)) fnTableValidUptoCard

/-- THE SECOND FORM's CARD OF 'laws.FnExactTableValid'. -/
def fnExactTableValidUptoCard : Claim7 := { stood := { row := fnExactTableValidUptoRow, standIns := [], harness := (true, "81842aac5909ffc86d8a24858afb790602e6875f89d384732c1bdef26601ae3b"), looks := false }, kinds := [], alts := [], laidByText := true, laidKinds := [.widerDeep], laidTests := true, laidLooks := .later }
def FnExactTableValidUptoCardSaid : Prop := Claim7.holds Tryd.pinned (.plain (OpenSpec.upto fnExactTableValidSpec)) fnExactTableValidUptoCard

/-- THE SECOND FORM's CARD OF 'laws.FnColumnOf'. -/
def fnColumnOfUptoCard : Claim7 := { stood := { row := fnColumnOfUptoRow, standIns := [], harness := (true, "81842aac5909ffc86d8a24858afb790602e6875f89d384732c1bdef26601ae3b"), looks := false }, kinds := [], alts := [], laidByText := true, laidKinds := [.widerDeep], laidTests := true, laidLooks := .later }
def FnColumnOfUptoCardSaid : Prop := Claim7.holds Tryd.pinned (.plain (OpenSpec.upto fnColumnOfSpec)) fnColumnOfUptoCard

/-- THE SECOND FORM's CARD OF 'laws.FnExactColumnOf'. -/
def fnExactColumnOfUptoCard : Claim7 := { stood := { row := fnExactColumnOfUptoRow, standIns := [], harness := (true, "81842aac5909ffc86d8a24858afb790602e6875f89d384732c1bdef26601ae3b"), looks := false }, kinds := [], alts := [], laidByText := true, laidKinds := [.widerDeep], laidTests := true, laidLooks := .later }
def FnExactColumnOfUptoCardSaid : Prop := Claim7.holds Tryd.pinned (.plain (OpenSpec.upto fnExactColumnOfSpec)) fnExactColumnOfUptoCard

/-- THE SECOND FORM's CARD OF 'laws.FnPaddedValid'. -/
def fnPaddedValidUptoCard : Claim7 := { stood := { row := fnPaddedValidUptoRow, standIns := [], harness := (true, "81842aac5909ffc86d8a24858afb790602e6875f89d384732c1bdef26601ae3b"), looks := false }, kinds := [], alts := [], laidByText := true, laidKinds := [.widerDeep], laidTests := true, laidLooks := .later }
def FnPaddedValidUptoCardSaid : Prop := Claim7.holds Tryd.pinned (.plain (OpenSpec.upto fnPaddedValidSpec)) fnPaddedValidUptoCard

/-- THE SECOND FORM's CARD OF 'laws.FnExactPaddedValid'. -/
def fnExactPaddedValidUptoCard : Claim7 := { stood := { row := fnExactPaddedValidUptoRow, standIns := [], harness := (true, "81842aac5909ffc86d8a24858afb790602e6875f89d384732c1bdef26601ae3b"), looks := false }, kinds := [], alts := [], laidByText := true, laidKinds := [.widerDeep], laidTests := true, laidLooks := .later }
def FnExactPaddedValidUptoCardSaid : Prop := Claim7.holds Tryd.pinned (.plain (OpenSpec.upto fnExactPaddedValidSpec)) fnExactPaddedValidUptoCard

/-- THE SECOND FORM's CARD OF 'laws.FnRealRows'. -/
def fnRealRowsUptoCard : Claim7 := { stood := { row := fnRealRowsUptoRow, standIns := [], harness := (true, "81842aac5909ffc86d8a24858afb790602e6875f89d384732c1bdef26601ae3b"), looks := false }, kinds := [], alts := [], laidByText := true, laidKinds := [.widerDeep], laidTests := true, laidLooks := .later }
def FnRealRowsUptoCardSaid : Prop := Claim7.holds Tryd.pinned (.plain (OpenSpec.upto fnRealRowsSpec)) fnRealRowsUptoCard

/-- THE SECOND FORM's CARD OF 'laws.FnExactRealRows'. -/
def fnExactRealRowsUptoCard : Claim7 := { stood := { row := fnExactRealRowsUptoRow, standIns := [], harness := (true, "81842aac5909ffc86d8a24858afb790602e6875f89d384732c1bdef26601ae3b"), looks := false }, kinds := [], alts := [], laidByText := true, laidKinds := [.widerDeep], laidTests := true, laidLooks := .later }
def FnExactRealRowsUptoCardSaid : Prop := Claim7.holds Tryd.pinned (.plain (OpenSpec.upto fnExactRealRowsSpec)) fnExactRealRowsUptoCard

/-- THE SECOND FORM's CARD OF 'laws.FnCatalogValid'. -/
def fnCatalogValidUptoCard : Claim7 := { stood := { row := fnCatalogValidUptoRow, standIns := [], harness := (true, "81842aac5909ffc86d8a24858afb790602e6875f89d384732c1bdef26601ae3b"), looks := false }, kinds := [], alts := [], laidByText := true, laidKinds := [.widerDeep], laidTests := true, laidLooks := .later }
def FnCatalogValidUptoCardSaid : Prop := Claim7.holds Tryd.pinned (.plain (OpenSpec.upto fnCatalogValidSpec)) fnCatalogValidUptoCard

/-- THE SECOND FORM's CARD OF 'laws.FnExactCatalogValid'. -/
def fnExactCatalogValidUptoCard : Claim7 := { stood := { row := fnExactCatalogValidUptoRow, standIns := [], harness := (true, "81842aac5909ffc86d8a24858afb790602e6875f89d384732c1bdef26601ae3b"), looks := false }, kinds := [], alts := [], laidByText := true, laidKinds := [.widerDeep], laidTests := true, laidLooks := .later }
def FnExactCatalogValidUptoCardSaid : Prop := Claim7.holds Tryd.pinned (.plain (OpenSpec.upto fnExactCatalogValidSpec)) fnExactCatalogValidUptoCard
end Rows
end Go.Proofs.YtcgmcikceohdoaaDoor
