/-
  DERIVED. GIVEN WITH THE SEED: THE CARDS: each row of YthaoplcmkaaflaaDoorRows.lean that lists a variable, with what it lists TIED to the program's text (the seventh form; the later family's looks); each row that meets fmt, with fmt's text TOLD by the authors' own Lean function (tested against real Go, not proved from fmt's source: count such statements apart). THE CARD IS WHAT COUNTS. Prove the row's statement (the work); the ties are given (YthaoplcmkaaflaaDoorTie.lean); close each card by the builder's one call (the guide's Derived/Test/ToyasCard.lean, 'card_holds'). Laid BY PROGRAM, IN A SANDBOX (cutbox-door.mjs). By AI agents, Wed Nov 11 2026. No macro, syntax, notation, axiom, sorry.
-/
import Derived.Test.YthaoplcmkaaflaaDoorRows
import GoSem.ClaimSeven
namespace Go.Proofs.YthaoplcmkaaflaaDoor
namespace Rows

/-- THE TIED CARD OF 'mailcoachlaw10.PatternTells'. -/
def patternTellsCard : Claim7 := { stood := { row := patternTellsRow, standIns := [], harness := (true, "7bbce44df6b5d04ebd855a600eabe8f0ec9f31890fa96a6a6f12529e46566322"), looks := false }, kinds := [], alts := [], laidByText := true, laidKinds := [.data, .pinned], laidTests := true, laidLooks := .later }
def PatternTellsCardSaid : Prop := Claim7.holds Tryd.pinned (.plain (OpenSpec.ofChange patternTellsSpec)) patternTellsCard

/-- THE TIED CARD OF 'mailcoachlaw10.PatternWords'. -/
def patternWordsCard : Claim7 := { stood := { row := patternWordsRow, standIns := [], harness := (true, "7bbce44df6b5d04ebd855a600eabe8f0ec9f31890fa96a6a6f12529e46566322"), looks := false }, kinds := [], alts := [], laidByText := true, laidKinds := [.data, .pinned], laidTests := true, laidLooks := .later }
def PatternWordsCardSaid : Prop := Claim7.holds Tryd.pinned (.plain (OpenSpec.ofChange patternWordsSpec)) patternWordsCard

/-- THE TIED CARD OF 'mailcoachlaw10.PatternNames'. -/
def patternNamesCard : Claim7 := { stood := { row := patternNamesRow, standIns := [], harness := (true, "7bbce44df6b5d04ebd855a600eabe8f0ec9f31890fa96a6a6f12529e46566322"), looks := false }, kinds := [], alts := [], laidByText := true, laidKinds := [.data, .pinned], laidTests := true, laidLooks := .later }
def PatternNamesCardSaid : Prop := Claim7.holds Tryd.pinned (.plain (OpenSpec.ofChange patternNamesSpec)) patternNamesCard

/-- THE TIED CARD OF 'mailcoachlaw12.TrieTells'. -/
def trieTellsCard : Claim7 := { stood := { row := trieTellsRow, standIns := [], harness := (true, "7bbce44df6b5d04ebd855a600eabe8f0ec9f31890fa96a6a6f12529e46566322"), looks := false }, kinds := [], alts := [], laidByText := true, laidKinds := [.data, .pinned], laidTests := true, laidLooks := .later }
def TrieTellsCardSaid : Prop := Claim7.holds Tryd.pinned (.plain (OpenSpec.ofChange trieTellsSpec)) trieTellsCard

/-- THE TIED CARD OF 'mailcoachlaw12.TrieIDs'. -/
def trieIDsCard : Claim7 := { stood := { row := trieIDsRow, standIns := [], harness := (true, "7bbce44df6b5d04ebd855a600eabe8f0ec9f31890fa96a6a6f12529e46566322"), looks := false }, kinds := [], alts := [], laidByText := true, laidKinds := [.data, .pinned], laidTests := true, laidLooks := .later }
def TrieIDsCardSaid : Prop := Claim7.holds Tryd.pinned (.plain (OpenSpec.ofChange trieIDsSpec)) trieIDsCard

/-- THE TIED CARD OF 'mailcoachlaw13.ExchangeRoutes'. -/
def exchangeRoutesCard : Claim7 := { stood := { row := exchangeRoutesRow, standIns := [], harness := (true, "7bbce44df6b5d04ebd855a600eabe8f0ec9f31890fa96a6a6f12529e46566322"), looks := false }, kinds := [], alts := [], laidByText := true, laidKinds := [.data, .pinned], laidTests := true, laidLooks := .later }
def ExchangeRoutesCardSaid : Prop := Claim7.holds Tryd.pinned (.plain (OpenSpec.ofChange exchangeRoutesSpec)) exchangeRoutesCard

/-- THE SECOND FORM's CARD OF 'mailcoachlaw10.PatternTells'. -/
def patternTellsUptoCard : Claim7 := { stood := { row := patternTellsUptoRow, standIns := [], harness := (true, "7bbce44df6b5d04ebd855a600eabe8f0ec9f31890fa96a6a6f12529e46566322"), looks := false }, kinds := [], alts := [], laidByText := true, laidKinds := [.data, .pinned], laidTests := true, laidLooks := .later }
def PatternTellsUptoCardSaid : Prop := Claim7.holds Tryd.pinned (.plain (OpenSpec.upto patternTellsSpec)) patternTellsUptoCard

/-- THE SECOND FORM's CARD OF 'mailcoachlaw10.PatternWords'. -/
def patternWordsUptoCard : Claim7 := { stood := { row := patternWordsUptoRow, standIns := [], harness := (true, "7bbce44df6b5d04ebd855a600eabe8f0ec9f31890fa96a6a6f12529e46566322"), looks := false }, kinds := [], alts := [], laidByText := true, laidKinds := [.data, .pinned], laidTests := true, laidLooks := .later }
def PatternWordsUptoCardSaid : Prop := Claim7.holds Tryd.pinned (.plain (OpenSpec.upto patternWordsSpec)) patternWordsUptoCard

/-- THE SECOND FORM's CARD OF 'mailcoachlaw10.PatternNames'. -/
def patternNamesUptoCard : Claim7 := { stood := { row := patternNamesUptoRow, standIns := [], harness := (true, "7bbce44df6b5d04ebd855a600eabe8f0ec9f31890fa96a6a6f12529e46566322"), looks := false }, kinds := [], alts := [], laidByText := true, laidKinds := [.data, .pinned], laidTests := true, laidLooks := .later }
def PatternNamesUptoCardSaid : Prop := Claim7.holds Tryd.pinned (.plain (OpenSpec.upto patternNamesSpec)) patternNamesUptoCard

/-- THE SECOND FORM's CARD OF 'mailcoachlaw12.TrieTells'. -/
def trieTellsUptoCard : Claim7 := { stood := { row := trieTellsUptoRow, standIns := [], harness := (true, "7bbce44df6b5d04ebd855a600eabe8f0ec9f31890fa96a6a6f12529e46566322"), looks := false }, kinds := [], alts := [], laidByText := true, laidKinds := [.data, .pinned], laidTests := true, laidLooks := .later }
def TrieTellsUptoCardSaid : Prop := Claim7.holds Tryd.pinned (.plain (OpenSpec.upto trieTellsSpec)) trieTellsUptoCard

/-- THE SECOND FORM's CARD OF 'mailcoachlaw12.TrieIDs'. -/
def trieIDsUptoCard : Claim7 := { stood := { row := trieIDsUptoRow, standIns := [], harness := (true, "7bbce44df6b5d04ebd855a600eabe8f0ec9f31890fa96a6a6f12529e46566322"), looks := false }, kinds := [], alts := [], laidByText := true, laidKinds := [.data, .pinned], laidTests := true, laidLooks := .later }
def TrieIDsUptoCardSaid : Prop := Claim7.holds Tryd.pinned (.plain (OpenSpec.upto trieIDsSpec)) trieIDsUptoCard

/-- THE SECOND FORM's CARD OF 'mailcoachlaw13.ExchangeRoutes'. -/
def exchangeRoutesUptoCard : Claim7 := { stood := { row := exchangeRoutesUptoRow, standIns := [], harness := (true, "7bbce44df6b5d04ebd855a600eabe8f0ec9f31890fa96a6a6f12529e46566322"), looks := false }, kinds := [], alts := [], laidByText := true, laidKinds := [.data, .pinned], laidTests := true, laidLooks := .later }
def ExchangeRoutesUptoCardSaid : Prop := Claim7.holds Tryd.pinned (.plain (OpenSpec.upto exchangeRoutesSpec)) exchangeRoutesUptoCard
end Rows
end Go.Proofs.YthaoplcmkaaflaaDoor
