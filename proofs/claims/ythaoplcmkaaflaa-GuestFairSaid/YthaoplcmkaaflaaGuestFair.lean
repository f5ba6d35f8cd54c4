/- Proved: mailcoachlaw18.GuestFair returns true for every number and every slice of numbers, and leaves its arguments as they were. Conditions: none beyond the row's own.
   The frame is turned from the guide's shell (proof-skeleton); the walk is ours. -/
import Derived.Test.YthaoplcmkaaflaaRows
import Derived.WalkKit
import Derived.ProofKit
import Derived.OpenShut
import Derived.ShutString
import Derived.ChangeOld
import Derived.Below
import Derived.Test.YthaoplcmkaaflaaFair
import Derived.Test.YthaoplcmkaaflaaOpen
namespace Go.Proofs.Ythaoplcmkaaflaa.guestFair
open Go.ChangeShapes Go.WideShapes Go.ChangeAt Go.RowKit
open Go.ChangeMaps (open_string shut_string)
set_option linter.unusedVariables false

theorem own : ownKnob Try.prog.godebug = none := by kernel_rfl
theorem laidOut : laidOutB Try.prog = true := by kernel_rfl

set_option maxRecDepth 100000 in
theorem lifted (os : Os) (started : os.Started) (H : Type) (enc : TypeId × Value → H) :
    ReturnsInHanded {} Try.checked os 6 .any (Rows.guestFairSpec.pre6 enc Try.prog Try.f6 Rows.guestFairRow.domain false) (Rows.guestFairSpec.post enc Try.prog Try.f6 false true false false) := by
  refine returnsInHanded_of_change (C := Try.checked) own started (by kernel_rfl) Try.func6
    (ChangeSpec.witness6 (enc := enc) (C := Try.checked) false ⟨#[], #[.int .u8 0, .slice none 0 0], []⟩ 8 (by kernel_rfl) (by kernel_rfl) (by kernel_rfl) (by kernel_rfl)) ?_
  intro W base args ds gs before hval0 hW hcnd _
  have hval : ∀ (j : Nat) t v, Try.f6.params[j]? = some t → args[j]? = some v → Value.okWide Try.prog W .any base t v := hval0
  have hW' := hW
  obtain ⟨p, q, hA0, hV, rfl, hfz, hnd⟩ := hW
  have hA : DataW.TrodAll enc Try.prog W 0 (fun _ => true) true Try.f6.params.toList args.toList ds p := hA0
  rw [Try.params6] at hA hval
  obtain ⟨v0, vs0, d0, ds0, p0, q0, hargs, rfl, rfl, k0, r0⟩ := trodAll_cons hA
  obtain ⟨v1, vs1, d1, ds1, p1, q1, rfl, rfl, rfl, k1, r1⟩ := trodAll_cons r0
  obtain ⟨rfl, rfl, rfl⟩ := trodAll_nil r1
  obtain rfl : args = #[v0, v1] := by cases args; simp_all
  obtain ⟨rfl, rfl⟩ := trodVars_none hV
  obtain ⟨a0, rfl, rfl, rfl, w0⟩ := open_int Try.underlying5 (hval 0 5 v0 rfl rfl) k0
  obtain ⟨a1, n1, m1, rfl⟩ := okWide_slice Try.underlying72 (hval 1 72 v1 rfl rfl)
  have lt1 : ∀ x ∈ p1, x.block < W.heap.size := by obtain ⟨m, hm⟩ := k1; exact DataW.trod_lt m _ _ _ hm
  obtain ⟨l1, h1, ss, hss, hr, _⟩ : n1 ≤ m1 ∧ m1 ≤ maxLen ∧ ∃ xs : List Int, xs.length = n1 ∧ Rd W 1 a1 n1 (xs.map (.int .u16)) ∧ ∀ x ∈ xs, (Lit.int .u16 x).wf = true := by
    obtain ⟨fuel, hf⟩ := k1
    have e : (Value.slice a1 n1 m1).cells.toList = [.slice a1 n1 m1] := rfl
    rw [e] at hf
    exact open_ints_rd Try.underlying72 Try.underlying73 (by kernel_rfl) hf
  clear hA0 hval0
  refine (fair a0 a1 n1 m1 ss W (by have := bounds_u8 w0; omega) hss (by omega) hr).mono fun e W' ⟨he, bel⟩ => ?_
  subst he
  exact ⟨_, rfl, _, _, _, [], _, [], hW', trodAll_mk1 (shut_bool Try.underlying4 _), (trodAll_cons_mk (shut_int Try.underlying5 w0) (trodAll_cons_mk (Below.trod laidOut (by kernel_rfl) (of_decide_eq_true (by kernel_rfl)) k1 bel lt1) trodAll_mk0)), rfl, bel.frame _, fun h => by cases h⟩

theorem over : Rows.guestFairRow.holds Try.pinned (OpenSpec.ofChange Rows.guestFairSpec) :=
  OpenClaim.holds_of_wide 6 Try.f6 rfl rfl rfl rfl rfl rfl rfl ⟨rfl, rfl, rfl, rfl, rfl⟩ rfl rfl rfl rfl rfl (by kernel_rfl) Try.func6 (by kernel_rfl)
    (of_decide_eq_true (by kernel_rfl)) (by unfold Func.isWrapper; first | (rw [if_pos (by decide +kernel)]; kernel_rfl) | (rw [if_neg (by decide +kernel)]; exact ⟨rfl, rfl⟩))
    (fun os started H enc _ => lifted os started H enc)

/-- ████ THE STATEMENT ████ -/
theorem proved : Rows.GuestFairSaid := over
#print axioms proved
end Go.Proofs.Ythaoplcmkaaflaa.guestFair
