import Derived.ScopeJumps
import Derived.Deep.LoopGhost
import Derived.WalkMore
namespace Go.Proofs.YthaoplcmkaaflaaDoor

/-- a slot of a frame whose value nobody asks for -/
def sl (X : Array Value) (i : Nat) : Value := X.getD i undef

/-- A scope in which the run jumps back to one label: what holds there, with a number that each pass lowers; what stands behind the label is walked once. -/
theorem wp_scope_ghost {P : Program} {a : Act} {w : World} {Q : Exit → Act → World → Prop} {c B : Code} (l : Nat) (I : Nat → Act → World → Prop) (hf : findLabel c l = some (.seq .skip B))
    (round : ∀ n a w, I n a w → ∀ J : Nat → Act → World → Prop, (∀ k a' w', I k a' w' → J k a' w') → B.wp P (Exit.jump l (Handed J n) Q) a w)
    (first : ∀ J : Act → World → Prop, (∀ n a w, I n a w → B.wp P (Exit.jump l J Q) a w) → c.wp P (Exit.jump l J Q) a w) : (Code.scope c).wp P Q a w := by
  refine wp_scope_jumps l (fun a w => ∃ n, I n a w) (fun a w => leastOf (fun n => I n a w)) hf (first _ ?_) ?_
  · intro n a w hI
    refine Code.wp_mono ?_ (round n a w hI I (fun _ _ _ h => h))
    intro e a' w' hq
    cases e <;> first | exact hq | exact ⟨hq.1, hq.2.imp fun _ h => h.2⟩
  · intro a w hI
    refine wp_seq (wp_skip ?_)
    refine Code.wp_mono ?_ (round _ a w (leastOf_spec hI).1 I (fun _ _ _ h => h))
    intro e a' w' hq
    cases e <;> first | exact hq | exact ⟨hq.1, hq.2.imp fun _ h => h.2, by
      obtain ⟨_, n', hlt, hI'⟩ := hq
      exact Nat.lt_of_le_of_lt ((leastOf_spec ⟨n', hI'⟩).2 n' hI') hlt⟩

theorem wp_label_seq {P : Program} {a : Act} {w : World} {Q : Exit → Act → World → Prop} {l : Nat} {c : Code} (h : c.wp P Q a w) : ((Code.label l).seq c).wp P Q a w := wp_seq (wp_label h)
end Go.Proofs.YthaoplcmkaaflaaDoor
