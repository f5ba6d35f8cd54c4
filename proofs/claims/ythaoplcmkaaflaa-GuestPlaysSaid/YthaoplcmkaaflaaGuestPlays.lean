/- Proved: mailcoachlaw18.GuestPlays returns true for every slice of steps, and leaves its argument as it was. Conditions: none beyond the row's own.
   The frame is turned from the guide's shell (proof-skeleton), the slice of structs opened by hand; the walk is ours. -/
import Derived.Test.YthaoplcmkaaflaaRows
import Derived.WalkKit
import Derived.ProofKit
import Derived.OpenShut
import Derived.ShutString
import Derived.ChangeOld
import Derived.Below
import Derived.Test.YthaoplcmkaaflaaGPlays
import Derived.Test.YthaoplcmkaaflaaOpen
namespace Go.Proofs.Ythaoplcmkaaflaa.guestPlays
open Go.ChangeShapes Go.WideShapes Go.ChangeAt Go.RowKit
open Go.ChangeMaps (open_string shut_string)
set_option linter.unusedVariables false

theorem own : ownKnob Try.prog.godebug = none := by kernel_rfl
theorem laidOut : laidOutB Try.prog = true := by kernel_rfl

instance : Inhabited St := ⟨⟨0, ⟨0, 0, ⟨#[]⟩, 0, false, false⟩, none, 0, 0⟩⟩
theorem len8 {α : Type} {l : List α} (h : l.length = 8) : ∃ a b c d e f g i, l = [a, b, c, d, e, f, g, i] := by
  match l, h with
  | [a, b, c, d, e, f, g, i], _ => exact ⟨a, b, c, d, e, f, g, i, rfl⟩
section
variable {H : Type} {enc : TypeId × Value → H} {w : World} {base : Nat} {spare : Nat → Bool} {held : Bool}
theorem trod_gu {fuel : Nat} {cs : List Value} {x : DataW H × List MemPlace} (h : DataW.trod enc Try.prog w base spare held fuel 61 cs = some x) : ∃ b : Gu, cs = b.cs := by
  obtain ⟨hl, n, hf⟩ := trod_fields Try.underlying61 h
  have c1 : Try.prog.cellsOf 9 = 1 := by kernel_rfl
  have c2 : Try.prog.cellsOf 3 = 1 := by kernel_rfl
  have c3 : Try.prog.cellsOf 4 = 1 := by kernel_rfl
  have c6 : Try.prog.cellsOf 61 = 6 := by kernel_rfl
  rw [c6] at hl
  obtain ⟨_, h0⟩ := hf 0 3 0 rfl
  obtain ⟨_, h1⟩ := hf 1 3 1 rfl
  obtain ⟨_, h2⟩ := hf 2 9 2 rfl
  obtain ⟨_, h3⟩ := hf 3 3 3 rfl
  obtain ⟨_, h4⟩ := hf 4 4 4 rfl
  obtain ⟨_, h5⟩ := hf 5 4 5 rfl
  obtain ⟨x0, e0, _⟩ := DataW.trod_int Try.underlying3 h0
  obtain ⟨x1, e1, _⟩ := DataW.trod_int Try.underlying3 h1
  obtain ⟨x2, e2, _⟩ := DataW.trod_string Try.underlying9 h2
  obtain ⟨x3, e3, _⟩ := DataW.trod_int Try.underlying3 h3
  obtain ⟨x4, e4, _⟩ := DataW.trod_bool Try.underlying4 h4
  obtain ⟨x5, e5, _⟩ := DataW.trod_bool Try.underlying4 h5
  clear h h0 h1 h2 h3 h4 h5 hf
  obtain ⟨v0, v1, v2, v3, v4, v5, rfl⟩ := len6 hl
  simp only [c1, c2, c3] at e0 e1 e2 e3 e4 e5
  refine ⟨⟨x0, x1, x2, x3, x4, x5⟩, ?_⟩
  simp at e0 e1 e2 e3 e4 e5
  subst e0 e1 e2 e3 e4 e5
  rfl
theorem open_steps {fuel len cap : Nat} {a : Option Addr} {x : DataW H × List MemPlace} (h : DataW.trod enc Try.prog w base spare held fuel 53 [.slice a len cap] = some x) :
    len ≤ cap ∧ cap ≤ maxLen ∧ ∃ ss : List St, ss.length = len ∧ Rd w 8 a len (St8 ss) ∧ ∀ s ∈ ss, ∃ sp : List Bool, sp.length = s.n ∧ s.n ≤ maxLen ∧ Rd w 1 s.S s.n (sp.map .bool) := by
  refine open_rows (α := St) (K := 8) St.cs St.cs_len (by decide) (fun s => ∃ sp : List Bool, sp.length = s.n ∧ s.n ≤ maxLen ∧ Rd w 1 s.S s.n (sp.map .bool)) Try.underlying53 (by kernel_rfl) (fun {n cs y} h => ?_) h
  obtain ⟨hl, n, hf⟩ := trod_fields Try.underlying64 h
  have c2 : Try.prog.cellsOf 3 = 1 := by kernel_rfl
  have c3 : Try.prog.cellsOf 62 = 1 := by kernel_rfl
  have c6 : Try.prog.cellsOf 61 = 6 := by kernel_rfl
  have c8 : Try.prog.cellsOf 64 = 8 := by kernel_rfl
  rw [c8] at hl
  obtain ⟨_, h0⟩ := hf 0 3 0 rfl
  obtain ⟨_, h1⟩ := hf 1 61 1 rfl
  obtain ⟨_, h2⟩ := hf 2 62 7 rfl
  obtain ⟨x0, e0, _⟩ := DataW.trod_int Try.underlying3 h0
  obtain ⟨g, e1⟩ := trod_gu h1
  clear h h0 h1 hf
  obtain ⟨v0, v1, v2, v3, v4, v5, v6, v7, rfl⟩ := len8 hl
  simp only [c2, c3, c6] at e0 e1 h2
  have e0' : v0 = .int .i64 x0 := by simpa using e0
  have e1' : [v1, v2, v3, v4, v5, v6] = g.cs := by simpa using e1
  have h2' : DataW.trod enc Try.prog w base spare held n 62 [v7] = some _ := h2
  obtain ⟨S, m, c, e7⟩ : ∃ S m c, v7 = .slice S m c := by
    rcases DataW.trod_slice Try.underlying62 h2' with ⟨h0, _⟩ | ⟨a, len, cap, _, _, _, _, h0, _⟩
    · exact ⟨none, 0, 0, by simpa using h0⟩
    · exact ⟨some a, len, cap, by simpa using h0⟩
  subst e7
  obtain ⟨q1, q2, sp, q3, q4⟩ := open_bools_rd Try.underlying62 Try.underlying4 (by kernel_rfl) h2'
  refine ⟨⟨x0, g, S, m, c⟩, ?_, sp, q3, Nat.le_trans q1 q2, q4⟩
  simp only [St.cs, ← e1', e0']
  rfl
end

theorem walk (A : Option Addr) (len cap : Nat) (ss : List St) (w : World) (hlen : ss.length = len) (hl : len ≤ cap) (hm : cap ≤ maxLen) (hr : Rd w 8 A len (St8 ss)) (hsp : ∀ s ∈ ss, ∃ sp : List Bool, sp.length = s.n ∧ s.n ≤ maxLen ∧ Rd w 1 s.S s.n (sp.map .bool)) :
    Calls Try.prog 5 #[.slice A len cap] w fun e w' => e = .returned (.bool true) ∧ Below w.heap.size w w' := by
  by_cases h : len ≤ 80
  · subst hlen
    exact gplays_walk A cap ss w h hr hsp
  · exact gplays_long A len cap w (by omega) (by omega)

set_option maxRecDepth 100000 in
theorem lifted (os : Os) (started : os.Started) (H : Type) (enc : TypeId × Value → H) :
    ReturnsInHanded {} Try.checked os 5 .any (Rows.guestPlaysSpec.pre6 enc Try.prog Try.f5 Rows.guestPlaysRow.domain false) (Rows.guestPlaysSpec.post enc Try.prog Try.f5 false true false false) := by
  refine returnsInHanded_of_change (C := Try.checked) own started (by kernel_rfl) Try.func5
    (ChangeSpec.witness6 (enc := enc) (C := Try.checked) false ⟨#[], #[.slice none 0 0], []⟩ 8 (by kernel_rfl) (by kernel_rfl) (by kernel_rfl) (by kernel_rfl)) ?_
  intro W base args ds gs before hval0 hW hcnd _
  have hval : ∀ (j : Nat) t v, Try.f5.params[j]? = some t → args[j]? = some v → Value.okWide Try.prog W .any base t v := hval0
  have hW' := hW
  obtain ⟨p, q, hA0, hV, rfl, hfz, hnd⟩ := hW
  have hA : DataW.TrodAll enc Try.prog W 0 (fun _ => true) true Try.f5.params.toList args.toList ds p := hA0
  rw [Try.params5] at hA hval
  obtain ⟨v0, vs0, d0, ds0, p0, q0, hargs, rfl, rfl, h0, r0⟩ := trodAll_cons hA
  obtain ⟨rfl, rfl, rfl⟩ := trodAll_nil r0
  obtain rfl : args = #[v0] := by cases args; simp_all
  obtain ⟨rfl, rfl⟩ := trodVars_none hV
  obtain ⟨a0, len0, cap0, rfl⟩ := okWide_slice Try.underlying53 (hval 0 53 v0 rfl rfl)
  have k0 := h0
  have lt0 : ∀ x ∈ p0, x.block < W.heap.size := by obtain ⟨m, hm⟩ := k0; exact DataW.trod_lt m _ _ _ hm
  obtain ⟨hl, hm, ss, hss, hr, hsp⟩ : len0 ≤ cap0 ∧ cap0 ≤ maxLen ∧ ∃ ss : List St, ss.length = len0 ∧ Rd W 8 a0 len0 (St8 ss) ∧ ∀ s ∈ ss, ∃ sp : List Bool, sp.length = s.n ∧ s.n ≤ maxLen ∧ Rd W 1 s.S s.n (sp.map .bool) := by
    obtain ⟨fuel, hf⟩ := h0
    have e : (Value.slice a0 len0 cap0).cells.toList = [.slice a0 len0 cap0] := rfl
    rw [e] at hf
    exact open_steps hf
  clear hA0 hval0
  refine (walk a0 len0 cap0 ss W hss hl hm hr hsp).mono fun e W' ⟨he, bel⟩ => ?_
  subst he
  exact ⟨_, rfl, _, _, _, [], _, [], hW', trodAll_mk1 (shut_bool Try.underlying4 _), (trodAll_cons_mk (Below.trod laidOut (by kernel_rfl) (of_decide_eq_true (by kernel_rfl)) k0 bel lt0) trodAll_mk0), rfl, bel.frame _, fun h => by cases h⟩

theorem over : Rows.guestPlaysRow.holds Try.pinned (OpenSpec.ofChange Rows.guestPlaysSpec) :=
  OpenClaim.holds_of_wide 5 Try.f5 rfl rfl rfl rfl rfl rfl rfl ⟨rfl, rfl, rfl, rfl, rfl⟩ rfl rfl rfl rfl rfl (by kernel_rfl) Try.func5 (by kernel_rfl)
    (of_decide_eq_true (by kernel_rfl)) (by unfold Func.isWrapper; first | (rw [if_pos (by decide +kernel)]; kernel_rfl) | (rw [if_neg (by decide +kernel)]; exact ⟨rfl, rfl⟩))
    (fun os started H enc _ => lifted os started H enc)

/-- ████ THE STATEMENT ████ -/
theorem proved : Rows.GuestPlaysSaid := over
#print axioms proved
end Go.Proofs.Ythaoplcmkaaflaa.guestPlays
