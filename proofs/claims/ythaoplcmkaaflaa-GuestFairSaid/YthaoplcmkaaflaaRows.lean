/-
  No cell of these rows narrows 'for every input' (looked for: loops, veiled, ifaces, maps, wideKeys, modest, calm, conditions, laid).
  DERIVED. THE GIVEN ROWS OF THIS SEAT. 5 by the template 'for every input the law returns true; each argument reads behind the call as it read before'; 0 by the template 'total and deterministic' (their statements: YthaoplcmkaaflaaTotals.lean).
  GIVEN WITH THE SEED: the statements are not yours to turn. If you find one false, say at which input.
  Laid BY PROGRAM, IN A SANDBOX (cutbox-rows.mjs): the forced cells as the released guide's own fill.sh prints them over the translation f2e1e78c561c26a6… (all of the seat's roots in one cut). By AI agents, Wed Nov 11 2026. No macro, syntax, notation, axiom, sorry.
-/
import Derived.Test.YthaoplcmkaaflaaChecked
import GoSem.Claim
import GoSem.ClaimJoined
import GoSem.ClaimMapViews
import Derived.JoinedTies
import Derived.KernelRfl
namespace Go.Proofs.Ythaoplcmkaaflaa
/- THE CELL 'sum', in the pinned program and in every row, IS THE sha256 OF THE DUMP (.gsa) THAT YthaoplcmkaaflaaProg.lean LOADS. Nothing in Lean hashes anything: it is a label: what it is worth is what the hold of that sum in a sandbox is worth. -/
noncomputable def Try.pinned : Pinned := { name := "ythaoplcmkaaflaa", sum := "f2e1e78c561c26a6b3aec7ddfb2b58e9fcb4d2ad091a5eba82e43ea1ddead4eb", checked := Try.checked }
namespace Rows
def none {H : Type} : Left H := { results := [], args := [] }

/-- 'mailcoachlaw11.BindingDrops': WHATEVER THE INPUT: true; the input reads as it did. -/
def bindingDropsSpec : ChangeSpec := { name := "bindingDrops", fn := fun _ => fun
  | [d1, d2] => { results := [.lit (.bool true)], args := [d1, d2] }
  | _ => none }
def bindingDropsRow : OpenClaim := { program := "ythaoplcmkaaflaa", sum := "f2e1e78c561c26a6b3aec7ddfb2b58e9fcb4d2ad091a5eba82e43ea1ddead4eb", func := "mailcoach/mailcoachlaw11.BindingDrops", spec := "bindingDrops", unfollowed := true, recurses := true, apart := false }
def BindingDropsSaid : Prop := bindingDropsRow.holds Try.pinned (OpenSpec.ofChange bindingDropsSpec)

/-- ITS FALSE NEIGHBOUR: 'it returns false'. Refute it at one input. -/
def bindingDropsWrong : ChangeSpec := { name := "bindingDrops", fn := fun _ => fun
  | [d1, d2] => { results := [.lit (.bool false)], args := [d1, d2] }
  | _ => none }
def BindingDropsWrongFalsely : Prop := bindingDropsRow.holds Try.pinned (OpenSpec.ofChange bindingDropsWrong)

/-- 'mailcoachlaw11.BindingPlays': WHATEVER THE INPUT: true; the input reads as it did. -/
def bindingPlaysSpec : ChangeSpec := { name := "bindingPlays", fn := fun _ => fun
  | [d1, d2, d3] => { results := [.lit (.bool true)], args := [d1, d2, d3] }
  | _ => none }
def bindingPlaysRow : OpenClaim := { program := "ythaoplcmkaaflaa", sum := "f2e1e78c561c26a6b3aec7ddfb2b58e9fcb4d2ad091a5eba82e43ea1ddead4eb", func := "mailcoach/mailcoachlaw11.BindingPlays", spec := "bindingPlays", unfollowed := true, recurses := true, apart := false }
def BindingPlaysSaid : Prop := bindingPlaysRow.holds Try.pinned (OpenSpec.ofChange bindingPlaysSpec)

/-- ITS FALSE NEIGHBOUR: 'it returns false'. Refute it at one input. -/
def bindingPlaysWrong : ChangeSpec := { name := "bindingPlays", fn := fun _ => fun
  | [d1, d2, d3] => { results := [.lit (.bool false)], args := [d1, d2, d3] }
  | _ => none }
def BindingPlaysWrongFalsely : Prop := bindingPlaysRow.holds Try.pinned (OpenSpec.ofChange bindingPlaysWrong)

/-- 'mailcoachlaw18.GuestPlays': WHATEVER THE INPUT: true; the input reads as it did. -/
def guestPlaysSpec : ChangeSpec := { name := "guestPlays", fn := fun _ => fun
  | [d] => { results := [.lit (.bool true)], args := [d] }
  | _ => none }
def guestPlaysRow : OpenClaim := { program := "ythaoplcmkaaflaa", sum := "f2e1e78c561c26a6b3aec7ddfb2b58e9fcb4d2ad091a5eba82e43ea1ddead4eb", func := "mailcoach/mailcoachlaw18.GuestPlays", spec := "guestPlays", unfollowed := true, recurses := true, apart := false }
def GuestPlaysSaid : Prop := guestPlaysRow.holds Try.pinned (OpenSpec.ofChange guestPlaysSpec)

/-- ITS FALSE NEIGHBOUR: 'it returns false'. Refute it at one input. -/
def guestPlaysWrong : ChangeSpec := { name := "guestPlays", fn := fun _ => fun
  | [d] => { results := [.lit (.bool false)], args := [d] }
  | _ => none }
def GuestPlaysWrongFalsely : Prop := guestPlaysRow.holds Try.pinned (OpenSpec.ofChange guestPlaysWrong)

/-- 'mailcoachlaw18.GuestFair': WHATEVER THE INPUT: true; the input reads as it did. -/
def guestFairSpec : ChangeSpec := { name := "guestFair", fn := fun _ => fun
  | [d1, d2] => { results := [.lit (.bool true)], args := [d1, d2] }
  | _ => none }
def guestFairRow : OpenClaim := { program := "ythaoplcmkaaflaa", sum := "f2e1e78c561c26a6b3aec7ddfb2b58e9fcb4d2ad091a5eba82e43ea1ddead4eb", func := "mailcoach/mailcoachlaw18.GuestFair", spec := "guestFair", unfollowed := true, recurses := true, apart := false }
def GuestFairSaid : Prop := guestFairRow.holds Try.pinned (OpenSpec.ofChange guestFairSpec)

/-- ITS FALSE NEIGHBOUR: 'it returns false'. Refute it at one input. -/
def guestFairWrong : ChangeSpec := { name := "guestFair", fn := fun _ => fun
  | [d1, d2] => { results := [.lit (.bool false)], args := [d1, d2] }
  | _ => none }
def GuestFairWrongFalsely : Prop := guestFairRow.holds Try.pinned (OpenSpec.ofChange guestFairWrong)

/-- 'mailcoachlaw18.GuestSpins': WHATEVER THE INPUT: true; the input reads as it did. -/
def guestSpinsSpec : ChangeSpec := { name := "guestSpins", fn := fun _ => fun
  | [d1, d2] => { results := [.lit (.bool true)], args := [d1, d2] }
  | _ => none }
def guestSpinsRow : OpenClaim := { program := "ythaoplcmkaaflaa", sum := "f2e1e78c561c26a6b3aec7ddfb2b58e9fcb4d2ad091a5eba82e43ea1ddead4eb", func := "mailcoach/mailcoachlaw18.GuestSpins", spec := "guestSpins", unfollowed := true, recurses := true, apart := false }
def GuestSpinsSaid : Prop := guestSpinsRow.holds Try.pinned (OpenSpec.ofChange guestSpinsSpec)

/-- ITS FALSE NEIGHBOUR: 'it returns false'. Refute it at one input. -/
def guestSpinsWrong : ChangeSpec := { name := "guestSpins", fn := fun _ => fun
  | [d1, d2] => { results := [.lit (.bool false)], args := [d1, d2] }
  | _ => none }
def GuestSpinsWrongFalsely : Prop := guestSpinsRow.holds Try.pinned (OpenSpec.ofChange guestSpinsWrong)

/- THE SECOND FORM. 'bulk': how many values and letters a reading holds, each counted each time it is reached (what is shared counts as often as it is met; a slice's spare places count too). A statement '..UptoSaid' is the law's where the arguments, and the package variables that the reading takes, are together of bulk at most 1048576: NARROWER than '..Said'. Prove '..Said' where nothing that the law and all that it calls make is longer than what came in: it says more and counts as full. Else prove '..UptoSaid'. A law counts once. -/
mutual
def uptoBulk {H : Type} : DataW H → Nat
  | .lit (.string bytes) => bytes.length + 1
  | .lit _ => 1
  | .nil => 1
  | .ptr d => uptoBulk d + 1
  | .slice elems spare => uptoBulkAll elems + uptoBulkAll spare + 1
  | .agg parts => uptoBulkAll parts + 1
  | .iface _ d => uptoBulk d + 1
  | .map entries => uptoBulkEntries entries + 1
  | .held _ => 1
def uptoBulkAll {H : Type} : List (DataW H) → Nat
  | [] => 0
  | d :: r => uptoBulk d + uptoBulkAll r
def uptoBulkEntries {H : Type} : List (Lit × DataW H) → Nat
  | [] => 0
  | x :: r => uptoBulkEntry x + uptoBulkEntries r
def uptoBulkEntry {H : Type} : Lit × DataW H → Nat
  | (.string bytes, d) => bytes.length + uptoBulk d + 1
  | (_, d) => uptoBulk d + 1
 end
def uptoSmall : (H : Type) → List (DataW H) → Bool := fun _ ds => decide (uptoBulkAll ds ≤ 1048576)
def OpenSpec.upto (s : _root_.Go.ChangeSpec) : _root_.Go.OpenSpec := { _root_.Go.OpenSpec.ofChange s with cond := some uptoSmall }

/-- 'mailcoachlaw11.BindingDrops', WHERE WHAT IT READS IS OF BULK AT MOST 1048576: true; the input reads as it did. -/
def bindingDropsUptoRow : OpenClaim := { program := "ythaoplcmkaaflaa", sum := "f2e1e78c561c26a6b3aec7ddfb2b58e9fcb4d2ad091a5eba82e43ea1ddead4eb", func := "mailcoach/mailcoachlaw11.BindingDrops", spec := "bindingDrops", unfollowed := true, recurses := true, apart := false, narrowed := true }
def BindingDropsUptoSaid : Prop := bindingDropsUptoRow.holds Try.pinned (OpenSpec.upto bindingDropsSpec)

/-- 'mailcoachlaw11.BindingPlays', WHERE WHAT IT READS IS OF BULK AT MOST 1048576: true; the input reads as it did. -/
def bindingPlaysUptoRow : OpenClaim := { program := "ythaoplcmkaaflaa", sum := "f2e1e78c561c26a6b3aec7ddfb2b58e9fcb4d2ad091a5eba82e43ea1ddead4eb", func := "mailcoach/mailcoachlaw11.BindingPlays", spec := "bindingPlays", unfollowed := true, recurses := true, apart := false, narrowed := true }
def BindingPlaysUptoSaid : Prop := bindingPlaysUptoRow.holds Try.pinned (OpenSpec.upto bindingPlaysSpec)

/-- 'mailcoachlaw18.GuestPlays', WHERE WHAT IT READS IS OF BULK AT MOST 1048576: true; the input reads as it did. -/
def guestPlaysUptoRow : OpenClaim := { program := "ythaoplcmkaaflaa", sum := "f2e1e78c561c26a6b3aec7ddfb2b58e9fcb4d2ad091a5eba82e43ea1ddead4eb", func := "mailcoach/mailcoachlaw18.GuestPlays", spec := "guestPlays", unfollowed := true, recurses := true, apart := false, narrowed := true }
def GuestPlaysUptoSaid : Prop := guestPlaysUptoRow.holds Try.pinned (OpenSpec.upto guestPlaysSpec)

/-- 'mailcoachlaw18.GuestFair', WHERE WHAT IT READS IS OF BULK AT MOST 1048576: true; the input reads as it did. -/
def guestFairUptoRow : OpenClaim := { program := "ythaoplcmkaaflaa", sum := "f2e1e78c561c26a6b3aec7ddfb2b58e9fcb4d2ad091a5eba82e43ea1ddead4eb", func := "mailcoach/mailcoachlaw18.GuestFair", spec := "guestFair", unfollowed := true, recurses := true, apart := false, narrowed := true }
def GuestFairUptoSaid : Prop := guestFairUptoRow.holds Try.pinned (OpenSpec.upto guestFairSpec)

/-- 'mailcoachlaw18.GuestSpins', WHERE WHAT IT READS IS OF BULK AT MOST 1048576: true; the input reads as it did. -/
def guestSpinsUptoRow : OpenClaim := { program := "ythaoplcmkaaflaa", sum := "f2e1e78c561c26a6b3aec7ddfb2b58e9fcb4d2ad091a5eba82e43ea1ddead4eb", func := "mailcoach/mailcoachlaw18.GuestSpins", spec := "guestSpins", unfollowed := true, recurses := true, apart := false, narrowed := true }
def GuestSpinsUptoSaid : Prop := guestSpinsUptoRow.holds Try.pinned (OpenSpec.upto guestSpinsSpec)

end Rows
end Go.Proofs.Ythaoplcmkaaflaa
