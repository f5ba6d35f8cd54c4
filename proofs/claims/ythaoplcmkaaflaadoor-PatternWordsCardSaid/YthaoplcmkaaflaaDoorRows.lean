/-
  NARROWER THAN 'FOR EVERY INPUT', by the rows' own cells (each row's printed sentence says how): PatternTells: laid · PatternWords: laid · PatternNames: laid · TrieTells: laid · TrieIDs: laid · ExchangeRoutes: laid.
  DERIVED. THE GIVEN ROWS OF THIS SEAT. 6 by the template 'for every input the law returns true; each argument reads behind the call as it read before'; 0 by the template 'total and deterministic' (their statements: YthaoplcmkaaflaaDoorTotals.lean).
  GIVEN WITH THE SEED: the statements are not yours to turn. If you find one false, say at which input.
  Laid BY PROGRAM, IN A SANDBOX (cutbox-rows.mjs): the forced cells as the released guide's own fill.sh prints them over the translation dbd32f894cff97fd… (all of the seat's roots in one cut). By AI agents, Wed Nov 11 2026. No macro, syntax, notation, axiom, sorry.
-/
import Derived.Test.YthaoplcmkaaflaaDoorChecked
import GoSem.PinnedTables
import GoSem.Claim
import GoSem.ClaimJoined
import GoSem.ClaimMapViews
import Derived.JoinedTies
import Derived.KernelRfl
namespace Go.Proofs.YthaoplcmkaaflaaDoor
/- THE CELL 'sum', in the pinned program and in every row, IS THE sha256 OF THE DUMP (.gsa) THAT YthaoplcmkaaflaaDoorProg.lean LOADS. Nothing in Lean hashes anything: it is a label: what it is worth is what the hold of that sum in a sandbox is worth. -/
noncomputable def Tryd.pinned : Pinned := { name := "ythaoplcmkaaflaadoor", sum := "dbd32f894cff97fd17c84601fdce75f7404ee3d67092315f5035bafb2d5bbf99", checked := Tryd.checked }
namespace Rows
def none {H : Type} : Left H := { results := [], args := [] }

/- WHAT THE LISTED PACKAGE-LEVEL VARIABLES READ AS WHEN THE CALL BEGINS. Each datum BY PROGRAM (the guide's laid-datum.mjs) off the statement by which the dump's own 'gosem.cut.vars' lays the variable. In a bare row this is a premise. The card (YthaoplcmkaaflaaDoorCards.lean) ties it to the program's text. -/
def laid_unicode_utf8_acceptRanges {H : Type} : DataW H := .agg [.agg [.lit (.int .u8 128), .lit (.int .u8 191)], .agg [.lit (.int .u8 160), .lit (.int .u8 191)], .agg [.lit (.int .u8 128), .lit (.int .u8 159)], .agg [.lit (.int .u8 144), .lit (.int .u8 191)], .agg [.lit (.int .u8 128), .lit (.int .u8 143)], .agg [.lit (.int .u8 0), .lit (.int .u8 0)], .agg [.lit (.int .u8 0), .lit (.int .u8 0)], .agg [.lit (.int .u8 0), .lit (.int .u8 0)], .agg [.lit (.int .u8 0), .lit (.int .u8 0)], .agg [.lit (.int .u8 0), .lit (.int .u8 0)], .agg [.lit (.int .u8 0), .lit (.int .u8 0)], .agg [.lit (.int .u8 0), .lit (.int .u8 0)], .agg [.lit (.int .u8 0), .lit (.int .u8 0)], .agg [.lit (.int .u8 0), .lit (.int .u8 0)], .agg [.lit (.int .u8 0), .lit (.int .u8 0)], .agg [.lit (.int .u8 0), .lit (.int .u8 0)]]
/-- One of Go's own tables, pinned by name: the form's constant. -/
def laid_unicode_utf8_first : DataW Unit := Go.Pinned.utf8First

/-- 'mailcoachlaw10.PatternTells': WHATEVER THE INPUT: true; the input reads as it did. -/
def patternTellsSpec : ChangeSpec := { name := "patternTells", fn := fun _ => fun
  | [d1, d2] => { results := [.lit (.bool true)], args := [d1, d2] }
  | _ => none }
def patternTellsRow : OpenClaim := { program := "ythaoplcmkaaflaadoor", sum := "dbd32f894cff97fd17c84601fdce75f7404ee3d67092315f5035bafb2d5bbf99", func := "mailcoach/mailcoachlaw10.PatternTells", spec := "patternTells", inPlace := ["internal/bytealg.CountString", "internal/bytealg.IndexByteString", "internal/bytealg.IndexString"], named := ["unicode/utf8.first", "unicode/utf8.acceptRanges", "internal/bytealg.MaxLen"], plainKeys := false, apart := false, laid := [("unicode/utf8.acceptRanges", laid_unicode_utf8_acceptRanges), ("unicode/utf8.first", laid_unicode_utf8_first)] }
def PatternTellsSaid : Prop := patternTellsRow.holds Tryd.pinned (OpenSpec.ofChange patternTellsSpec)

/-- ITS FALSE NEIGHBOUR: 'it returns false'. Refute it at one input. -/
def patternTellsWrong : ChangeSpec := { name := "patternTells", fn := fun _ => fun
  | [d1, d2] => { results := [.lit (.bool false)], args := [d1, d2] }
  | _ => none }
def PatternTellsWrongFalsely : Prop := patternTellsRow.holds Tryd.pinned (OpenSpec.ofChange patternTellsWrong)

/-- 'mailcoachlaw10.PatternWords': WHATEVER THE INPUT: true; the input reads as it did. -/
def patternWordsSpec : ChangeSpec := { name := "patternWords", fn := fun _ => fun
  | [d1, d2, d3, d4] => { results := [.lit (.bool true)], args := [d1, d2, d3, d4] }
  | _ => none }
def patternWordsRow : OpenClaim := { program := "ythaoplcmkaaflaadoor", sum := "dbd32f894cff97fd17c84601fdce75f7404ee3d67092315f5035bafb2d5bbf99", func := "mailcoach/mailcoachlaw10.PatternWords", spec := "patternWords", inPlace := ["internal/bytealg.CountString", "internal/bytealg.IndexByteString", "internal/bytealg.IndexString"], named := ["unicode/utf8.first", "unicode/utf8.acceptRanges", "internal/bytealg.MaxLen"], plainKeys := false, apart := false, laid := [("unicode/utf8.acceptRanges", laid_unicode_utf8_acceptRanges), ("unicode/utf8.first", laid_unicode_utf8_first)] }
def PatternWordsSaid : Prop := patternWordsRow.holds Tryd.pinned (OpenSpec.ofChange patternWordsSpec)

/-- ITS FALSE NEIGHBOUR: 'it returns false'. Refute it at one input. -/
def patternWordsWrong : ChangeSpec := { name := "patternWords", fn := fun _ => fun
  | [d1, d2, d3, d4] => { results := [.lit (.bool false)], args := [d1, d2, d3, d4] }
  | _ => none }
def PatternWordsWrongFalsely : Prop := patternWordsRow.holds Tryd.pinned (OpenSpec.ofChange patternWordsWrong)

/-- 'mailcoachlaw10.PatternNames': WHATEVER THE INPUT: true; the input reads as it did. -/
def patternNamesSpec : ChangeSpec := { name := "patternNames", fn := fun _ => fun
  | [d1, d2, d3] => { results := [.lit (.bool true)], args := [d1, d2, d3] }
  | _ => none }
def patternNamesRow : OpenClaim := { program := "ythaoplcmkaaflaadoor", sum := "dbd32f894cff97fd17c84601fdce75f7404ee3d67092315f5035bafb2d5bbf99", func := "mailcoach/mailcoachlaw10.PatternNames", spec := "patternNames", inPlace := ["internal/bytealg.CountString", "internal/bytealg.IndexByteString", "internal/bytealg.IndexString"], named := ["unicode/utf8.first", "unicode/utf8.acceptRanges", "internal/bytealg.MaxLen"], plainKeys := false, apart := false, laid := [("unicode/utf8.acceptRanges", laid_unicode_utf8_acceptRanges), ("unicode/utf8.first", laid_unicode_utf8_first)] }
def PatternNamesSaid : Prop := patternNamesRow.holds Tryd.pinned (OpenSpec.ofChange patternNamesSpec)

/-- ITS FALSE NEIGHBOUR: 'it returns false'. Refute it at one input. -/
def patternNamesWrong : ChangeSpec := { name := "patternNames", fn := fun _ => fun
  | [d1, d2, d3] => { results := [.lit (.bool false)], args := [d1, d2, d3] }
  | _ => none }
def PatternNamesWrongFalsely : Prop := patternNamesRow.holds Tryd.pinned (OpenSpec.ofChange patternNamesWrong)

/-- 'mailcoachlaw12.TrieTells': WHATEVER THE INPUT: true; the input reads as it did. -/
def trieTellsSpec : ChangeSpec := { name := "trieTells", fn := fun _ => fun
  | [d1, d2] => { results := [.lit (.bool true)], args := [d1, d2] }
  | _ => none }
def trieTellsRow : OpenClaim := { program := "ythaoplcmkaaflaadoor", sum := "dbd32f894cff97fd17c84601fdce75f7404ee3d67092315f5035bafb2d5bbf99", func := "mailcoach/mailcoachlaw12.TrieTells", spec := "trieTells", inPlace := ["internal/bytealg.CountString", "internal/bytealg.IndexByteString", "internal/bytealg.IndexString"], recurses := true, named := ["unicode/utf8.first", "unicode/utf8.acceptRanges", "internal/bytealg.MaxLen"], plainKeys := false, apart := false, laid := [("unicode/utf8.acceptRanges", laid_unicode_utf8_acceptRanges), ("unicode/utf8.first", laid_unicode_utf8_first)] }
def TrieTellsSaid : Prop := trieTellsRow.holds Tryd.pinned (OpenSpec.ofChange trieTellsSpec)

/-- ITS FALSE NEIGHBOUR: 'it returns false'. Refute it at one input. -/
def trieTellsWrong : ChangeSpec := { name := "trieTells", fn := fun _ => fun
  | [d1, d2] => { results := [.lit (.bool false)], args := [d1, d2] }
  | _ => none }
def TrieTellsWrongFalsely : Prop := trieTellsRow.holds Tryd.pinned (OpenSpec.ofChange trieTellsWrong)

/-- 'mailcoachlaw12.TrieIDs': WHATEVER THE INPUT: true; the input reads as it did. -/
def trieIDsSpec : ChangeSpec := { name := "trieIDs", fn := fun _ => fun
  | [d1, d2] => { results := [.lit (.bool true)], args := [d1, d2] }
  | _ => none }
def trieIDsRow : OpenClaim := { program := "ythaoplcmkaaflaadoor", sum := "dbd32f894cff97fd17c84601fdce75f7404ee3d67092315f5035bafb2d5bbf99", func := "mailcoach/mailcoachlaw12.TrieIDs", spec := "trieIDs", inPlace := ["internal/bytealg.CountString", "internal/bytealg.IndexByteString", "internal/bytealg.IndexString"], recurses := true, named := ["unicode/utf8.first", "unicode/utf8.acceptRanges", "internal/bytealg.MaxLen"], plainKeys := false, apart := false, laid := [("unicode/utf8.acceptRanges", laid_unicode_utf8_acceptRanges), ("unicode/utf8.first", laid_unicode_utf8_first)] }
def TrieIDsSaid : Prop := trieIDsRow.holds Tryd.pinned (OpenSpec.ofChange trieIDsSpec)

/-- ITS FALSE NEIGHBOUR: 'it returns false'. Refute it at one input. -/
def trieIDsWrong : ChangeSpec := { name := "trieIDs", fn := fun _ => fun
  | [d1, d2] => { results := [.lit (.bool false)], args := [d1, d2] }
  | _ => none }
def TrieIDsWrongFalsely : Prop := trieIDsRow.holds Tryd.pinned (OpenSpec.ofChange trieIDsWrong)

/-- 'mailcoachlaw13.ExchangeRoutes': WHATEVER THE INPUT: true; the input reads as it did. -/
def exchangeRoutesSpec : ChangeSpec := { name := "exchangeRoutes", fn := fun _ => fun
  | [d1, d2, d3, d4] => { results := [.lit (.bool true)], args := [d1, d2, d3, d4] }
  | _ => none }
def exchangeRoutesRow : OpenClaim := { program := "ythaoplcmkaaflaadoor", sum := "dbd32f894cff97fd17c84601fdce75f7404ee3d67092315f5035bafb2d5bbf99", func := "mailcoach/mailcoachlaw13.ExchangeRoutes", spec := "exchangeRoutes", inPlace := ["internal/bytealg.CountString", "internal/bytealg.IndexByteString", "internal/bytealg.IndexString"], unfollowed := true, recurses := true, named := ["unicode/utf8.first", "unicode/utf8.acceptRanges", "internal/bytealg.MaxLen"], plainKeys := false, apart := false, laid := [("unicode/utf8.acceptRanges", laid_unicode_utf8_acceptRanges), ("unicode/utf8.first", laid_unicode_utf8_first)] }
def ExchangeRoutesSaid : Prop := exchangeRoutesRow.holds Tryd.pinned (OpenSpec.ofChange exchangeRoutesSpec)

/-- ITS FALSE NEIGHBOUR: 'it returns false'. Refute it at one input. -/
def exchangeRoutesWrong : ChangeSpec := { name := "exchangeRoutes", fn := fun _ => fun
  | [d1, d2, d3, d4] => { results := [.lit (.bool false)], args := [d1, d2, d3, d4] }
  | _ => none }
def ExchangeRoutesWrongFalsely : Prop := exchangeRoutesRow.holds Tryd.pinned (OpenSpec.ofChange exchangeRoutesWrong)

/- THE SECOND FORM. 'bulk': how many values and letters a reading holds, each counted each time it is reached (what is shared counts as often as it is met; a slice's spare places count too). A statement '..UptoSaid' is the law's where the arguments, and the package variables that the reading takes, are together of bulk at most 1048576: NARROWER than '..Said'. Prove '..Said' where nothing that the law and all that it calls make is longer than what came in: it says more and counts as full. Else prove '..UptoSaid'. A law counts once. -/
mutual
def uptoBulk {H : Type} : DataW H → Nat
  | .lit (.string bytes) => bytes.length + 1
  | .lit _ => 1
  | .nil => 1
  | .ptr d => uptoBulk d + 1
  | .slice elems spare => uptoBulkAll elems + uptoBulkAll spare + 1
  | .agg parts => uptoBulkAll parts + 1
  | .iface _ d => uptoBulk d + 1
  | .map entries => uptoBulkEntries entries + 1
  | .held _ => 1
def uptoBulkAll {H : Type} : List (DataW H) → Nat
  | [] => 0
  | d :: r => uptoBulk d + uptoBulkAll r
def uptoBulkEntries {H : Type} : List (Lit × DataW H) → Nat
  | [] => 0
  | x :: r => uptoBulkEntry x + uptoBulkEntries r
def uptoBulkEntry {H : Type} : Lit × DataW H → Nat
  | (.string bytes, d) => bytes.length + uptoBulk d + 1
  | (_, d) => uptoBulk d + 1
 end
def uptoSmall : (H : Type) → List (DataW H) → Bool := fun _ ds => decide (uptoBulkAll ds ≤ 1048576)
def OpenSpec.upto (s : _root_.Go.ChangeSpec) : _root_.Go.OpenSpec := { _root_.Go.OpenSpec.ofChange s with cond := some uptoSmall }

/-- 'mailcoachlaw10.PatternTells', WHERE WHAT IT READS IS OF BULK AT MOST 1048576: true; the input reads as it did. -/
def patternTellsUptoRow : OpenClaim := { program := "ythaoplcmkaaflaadoor", sum := "dbd32f894cff97fd17c84601fdce75f7404ee3d67092315f5035bafb2d5bbf99", func := "mailcoach/mailcoachlaw10.PatternTells", spec := "patternTells", inPlace := ["internal/bytealg.CountString", "internal/bytealg.IndexByteString", "internal/bytealg.IndexString"], named := ["unicode/utf8.first", "unicode/utf8.acceptRanges", "internal/bytealg.MaxLen"], plainKeys := false, apart := false, laid := [("unicode/utf8.acceptRanges", laid_unicode_utf8_acceptRanges), ("unicode/utf8.first", laid_unicode_utf8_first)], narrowed := true }
def PatternTellsUptoSaid : Prop := patternTellsUptoRow.holds Tryd.pinned (OpenSpec.upto patternTellsSpec)

/-- 'mailcoachlaw10.PatternWords', WHERE WHAT IT READS IS OF BULK AT MOST 1048576: true; the input reads as it did. -/
def patternWordsUptoRow : OpenClaim := { program := "ythaoplcmkaaflaadoor", sum := "dbd32f894cff97fd17c84601fdce75f7404ee3d67092315f5035bafb2d5bbf99", func := "mailcoach/mailcoachlaw10.PatternWords", spec := "patternWords", inPlace := ["internal/bytealg.CountString", "internal/bytealg.IndexByteString", "internal/bytealg.IndexString"], named := ["unicode/utf8.first", "unicode/utf8.acceptRanges", "internal/bytealg.MaxLen"], plainKeys := false, apart := false, laid := [("unicode/utf8.acceptRanges", laid_unicode_utf8_acceptRanges), ("unicode/utf8.first", laid_unicode_utf8_first)], narrowed := true }
def PatternWordsUptoSaid : Prop := patternWordsUptoRow.holds Tryd.pinned (OpenSpec.upto patternWordsSpec)

/-- 'mailcoachlaw10.PatternNames', WHERE WHAT IT READS IS OF BULK AT MOST 1048576: true; the input reads as it did. -/
def patternNamesUptoRow : OpenClaim := { program := "ythaoplcmkaaflaadoor", sum := "dbd32f894cff97fd17c84601fdce75f7404ee3d67092315f5035bafb2d5bbf99", func := "mailcoach/mailcoachlaw10.PatternNames", spec := "patternNames", inPlace := ["internal/bytealg.CountString", "internal/bytealg.IndexByteString", "internal/bytealg.IndexString"], named := ["unicode/utf8.first", "unicode/utf8.acceptRanges", "internal/bytealg.MaxLen"], plainKeys := false, apart := false, laid := [("unicode/utf8.acceptRanges", laid_unicode_utf8_acceptRanges), ("unicode/utf8.first", laid_unicode_utf8_first)], narrowed := true }
def PatternNamesUptoSaid : Prop := patternNamesUptoRow.holds Tryd.pinned (OpenSpec.upto patternNamesSpec)

/-- 'mailcoachlaw12.TrieTells', WHERE WHAT IT READS IS OF BULK AT MOST 1048576: true; the input reads as it did. -/
def trieTellsUptoRow : OpenClaim := { program := "ythaoplcmkaaflaadoor", sum := "dbd32f894cff97fd17c84601fdce75f7404ee3d67092315f5035bafb2d5bbf99", func := "mailcoach/mailcoachlaw12.TrieTells", spec := "trieTells", inPlace := ["internal/bytealg.CountString", "internal/bytealg.IndexByteString", "internal/bytealg.IndexString"], recurses := true, named := ["unicode/utf8.first", "unicode/utf8.acceptRanges", "internal/bytealg.MaxLen"], plainKeys := false, apart := false, laid := [("unicode/utf8.acceptRanges", laid_unicode_utf8_acceptRanges), ("unicode/utf8.first", laid_unicode_utf8_first)], narrowed := true }
def TrieTellsUptoSaid : Prop := trieTellsUptoRow.holds Tryd.pinned (OpenSpec.upto trieTellsSpec)

/-- 'mailcoachlaw12.TrieIDs', WHERE WHAT IT READS IS OF BULK AT MOST 1048576: true; the input reads as it did. -/
def trieIDsUptoRow : OpenClaim := { program := "ythaoplcmkaaflaadoor", sum := "dbd32f894cff97fd17c84601fdce75f7404ee3d67092315f5035bafb2d5bbf99", func := "mailcoach/mailcoachlaw12.TrieIDs", spec := "trieIDs", inPlace := ["internal/bytealg.CountString", "internal/bytealg.IndexByteString", "internal/bytealg.IndexString"], recurses := true, named := ["unicode/utf8.first", "unicode/utf8.acceptRanges", "internal/bytealg.MaxLen"], plainKeys := false, apart := false, laid := [("unicode/utf8.acceptRanges", laid_unicode_utf8_acceptRanges), ("unicode/utf8.first", laid_unicode_utf8_first)], narrowed := true }
def TrieIDsUptoSaid : Prop := trieIDsUptoRow.holds Tryd.pinned (OpenSpec.upto trieIDsSpec)

/-- 'mailcoachlaw13.ExchangeRoutes', WHERE WHAT IT READS IS OF BULK AT MOST 1048576: true; the input reads as it did. -/
def exchangeRoutesUptoRow : OpenClaim := { program := "ythaoplcmkaaflaadoor", sum := "dbd32f894cff97fd17c84601fdce75f7404ee3d67092315f5035bafb2d5bbf99", func := "mailcoach/mailcoachlaw13.ExchangeRoutes", spec := "exchangeRoutes", inPlace := ["internal/bytealg.CountString", "internal/bytealg.IndexByteString", "internal/bytealg.IndexString"], unfollowed := true, recurses := true, named := ["unicode/utf8.first", "unicode/utf8.acceptRanges", "internal/bytealg.MaxLen"], plainKeys := false, apart := false, laid := [("unicode/utf8.acceptRanges", laid_unicode_utf8_acceptRanges), ("unicode/utf8.first", laid_unicode_utf8_first)], narrowed := true }
def ExchangeRoutesUptoSaid : Prop := exchangeRoutesUptoRow.holds Tryd.pinned (OpenSpec.upto exchangeRoutesSpec)

end Rows
end Go.Proofs.YthaoplcmkaaflaaDoor
