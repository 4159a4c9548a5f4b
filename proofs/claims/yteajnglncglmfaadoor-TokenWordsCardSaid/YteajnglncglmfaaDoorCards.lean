/-
  DERIVED. GIVEN WITH THE SEED: THE CARDS: each row of YteajnglncglmfaaDoorRows.lean that lists a variable, with what it lists TIED to the program's text (the seventh form; the later family's looks); each row that meets fmt, with fmt's text TOLD by the authors' own Lean function (tested against real Go, not proved from fmt's source: count such statements apart). THE CARD IS WHAT COUNTS. Prove the row's statement (the work); the ties are given (YteajnglncglmfaaDoorTie.lean); close each card by the builder's one call (the guide's Derived/Test/ToyasCard.lean, 'card_holds'). Laid BY PROGRAM, IN A SANDBOX (cutbox-door.mjs). By AI agents, Wed Nov 11 2026. No macro, syntax, notation, axiom, sorry.
-/
import Derived.Test.YteajnglncglmfaaDoorRows
import GoSem.ClaimSeven
namespace Go.Proofs.YteajnglncglmfaaDoor
namespace Rows

/-- THE TIED CARD OF 'tendrillaw22.TokenRuns'. -/
def tokenRunsCard : Claim7 := { stood := { row := tokenRunsRow, standIns := [], harness := (true, "95c80942f189c53f5217193449287b15071ab4f288d8d1b609b8095cc52395e4"), looks := false }, kinds := [], alts := [], laidByText := true, laidKinds := [.data, .pinned], laidTests := true, laidLooks := .later }
def TokenRunsCardSaid : Prop := Claim7.holds Tryd.pinned (.plain (OpenSpec.ofChange tokenRunsSpec)) tokenRunsCard

/-- THE TIED CARD OF 'tendrillaw22.TokenTells'. -/
def tokenTellsCard : Claim7 := { stood := { row := tokenTellsRow, standIns := [], harness := (true, "95c80942f189c53f5217193449287b15071ab4f288d8d1b609b8095cc52395e4"), looks := false }, kinds := [], alts := [], laidByText := true, laidKinds := [.data, .pinned], laidTests := true, laidLooks := .later }
def TokenTellsCardSaid : Prop := Claim7.holds Tryd.pinned (.plain (OpenSpec.ofChange tokenTellsSpec)) tokenTellsCard

/-- THE TIED CARD OF 'tendrillaw22.TokenWords'. -/
def tokenWordsCard : Claim7 := { stood := { row := tokenWordsRow, standIns := [], harness := (true, "95c80942f189c53f5217193449287b15071ab4f288d8d1b609b8095cc52395e4"), looks := false }, kinds := [], alts := [], laidByText := true, laidKinds := [.data, .pinned], laidTests := true, laidLooks := .later }
def TokenWordsCardSaid : Prop := Claim7.holds Tryd.pinned (.plain (OpenSpec.ofChange tokenWordsSpec)) tokenWordsCard

/-- THE TIED CARD OF 'tendrillaw22.TokenLong'. -/
def tokenLongCard : Claim7 := { stood := { row := tokenLongRow, standIns := [], harness := (true, "95c80942f189c53f5217193449287b15071ab4f288d8d1b609b8095cc52395e4"), looks := false }, kinds := [], alts := [], laidByText := true, laidKinds := [.data, .pinned], laidTests := true, laidLooks := .later }
def TokenLongCardSaid : Prop := Claim7.holds Tryd.pinned (.plain (OpenSpec.ofChange tokenLongSpec)) tokenLongCard

/-- THE TIED CARD OF 'tendrillaw22.TokenTerms'. -/
def tokenTermsCard : Claim7 := { stood := { row := tokenTermsRow, standIns := [], harness := (true, "95c80942f189c53f5217193449287b15071ab4f288d8d1b609b8095cc52395e4"), looks := false }, kinds := [], alts := [], laidByText := true, laidKinds := [.data, .pinned], laidTests := true, laidLooks := .later }
def TokenTermsCardSaid : Prop := Claim7.holds Tryd.pinned (.plain (OpenSpec.ofChange tokenTermsSpec)) tokenTermsCard

/-- THE TIED CARD OF 'tendrillaw22.TokenJoins'. -/
def tokenJoinsCard : Claim7 := { stood := { row := tokenJoinsRow, standIns := [], harness := (true, "95c80942f189c53f5217193449287b15071ab4f288d8d1b609b8095cc52395e4"), looks := false }, kinds := [], alts := [], laidByText := true, laidKinds := [.data, .pinned], laidTests := true, laidLooks := .later }
def TokenJoinsCardSaid : Prop := Claim7.holds Tryd.pinned (.plain (OpenSpec.ofChange tokenJoinsSpec)) tokenJoinsCard

/-- THE SECOND FORM's CARD OF 'tendrillaw22.TokenRuns'. -/
def tokenRunsUptoCard : Claim7 := { stood := { row := tokenRunsUptoRow, standIns := [], harness := (true, "95c80942f189c53f5217193449287b15071ab4f288d8d1b609b8095cc52395e4"), looks := false }, kinds := [], alts := [], laidByText := true, laidKinds := [.data, .pinned], laidTests := true, laidLooks := .later }
def TokenRunsUptoCardSaid : Prop := Claim7.holds Tryd.pinned (.plain (OpenSpec.upto tokenRunsSpec)) tokenRunsUptoCard

/-- THE SECOND FORM's CARD OF 'tendrillaw22.TokenTells'. -/
def tokenTellsUptoCard : Claim7 := { stood := { row := tokenTellsUptoRow, standIns := [], harness := (true, "95c80942f189c53f5217193449287b15071ab4f288d8d1b609b8095cc52395e4"), looks := false }, kinds := [], alts := [], laidByText := true, laidKinds := [.data, .pinned], laidTests := true, laidLooks := .later }
def TokenTellsUptoCardSaid : Prop := Claim7.holds Tryd.pinned (.plain (OpenSpec.upto tokenTellsSpec)) tokenTellsUptoCard

/-- THE SECOND FORM's CARD OF 'tendrillaw22.TokenWords'. -/
def tokenWordsUptoCard : Claim7 := { stood := { row := tokenWordsUptoRow, standIns := [], harness := (true, "95c80942f189c53f5217193449287b15071ab4f288d8d1b609b8095cc52395e4"), looks := false }, kinds := [], alts := [], laidByText := true, laidKinds := [.data, .pinned], laidTests := true, laidLooks := .later }
def TokenWordsUptoCardSaid : Prop := Claim7.holds Tryd.pinned (.plain (OpenSpec.upto tokenWordsSpec)) tokenWordsUptoCard

/-- THE SECOND FORM's CARD OF 'tendrillaw22.TokenLong'. -/
def tokenLongUptoCard : Claim7 := { stood := { row := tokenLongUptoRow, standIns := [], harness := (true, "95c80942f189c53f5217193449287b15071ab4f288d8d1b609b8095cc52395e4"), looks := false }, kinds := [], alts := [], laidByText := true, laidKinds := [.data, .pinned], laidTests := true, laidLooks := .later }
def TokenLongUptoCardSaid : Prop := Claim7.holds Tryd.pinned (.plain (OpenSpec.upto tokenLongSpec)) tokenLongUptoCard

/-- THE SECOND FORM's CARD OF 'tendrillaw22.TokenTerms'. -/
def tokenTermsUptoCard : Claim7 := { stood := { row := tokenTermsUptoRow, standIns := [], harness := (true, "95c80942f189c53f5217193449287b15071ab4f288d8d1b609b8095cc52395e4"), looks := false }, kinds := [], alts := [], laidByText := true, laidKinds := [.data, .pinned], laidTests := true, laidLooks := .later }
def TokenTermsUptoCardSaid : Prop := Claim7.holds Tryd.pinned (.plain (OpenSpec.upto tokenTermsSpec)) tokenTermsUptoCard

/-- THE SECOND FORM's CARD OF 'tendrillaw22.TokenJoins'. -/
def tokenJoinsUptoCard : Claim7 := { stood := { row := tokenJoinsUptoRow, standIns := [], harness := (true, "95c80942f189c53f5217193449287b15071ab4f288d8d1b609b8095cc52395e4"), looks := false }, kinds := [], alts := [], laidByText := true, laidKinds := [.data, .pinned], laidTests := true, laidLooks := .later }
def TokenJoinsUptoCardSaid : Prop := Claim7.holds Tryd.pinned (.plain (OpenSpec.upto tokenJoinsSpec)) tokenJoinsUptoCard
end Rows
end Go.Proofs.YteajnglncglmfaaDoor
