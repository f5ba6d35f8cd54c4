import Derived.Test.YthaoplcmkaaflaaDoorBase
import Derived.Deep.QuietTactic
import Derived.BigQuiet
import Derived.Deep.LoopGhost
import Derived.Deep.RegionLaw
import Derived.Deep.DeepMust
namespace Go.Proofs.YthaoplcmkaaflaaDoor
open Go.RowKit

/-- the worlds that are as w is outside F -/
def Wd (F : Nat → Prop) (w : World) : Type := { z : World // Kp F w z }
instance Wd.nonempty (F : Nat → Prop) (w : World) : Nonempty (Wd F w) := ⟨⟨w, Kp.refl F w⟩⟩
def Wd.w {F : Nat → Prop} {w : World} (z : Wd F w) : World := z.1
theorem Wd.kp {F : Nat → Prop} {w : World} (z : Wd F w) : Kp F w z.w := z.2
theorem Wd.cell {F : Nat → Prop} {w : World} (z : Wd F w) {p : Addr} {v : Value} (h : w.cell? p = some v) (hf : ¬ F p.block) : z.w.cell? p = some v := z.kp.cell h hf

@[go_sem] theorem Wd.ex {F : Nat → Prop} {w : World} (z : Wd F w) : (∃ z' : Wd F w, z.w = z'.w) = True := eq_true ⟨z, rfl⟩

/-- A region that draws its order, whose operations leave the world as it is outside F and whose values do not hang on what lies in F. -/
theorem wp_region_kp {P : Program} {id : Nat} {Q : Exit → Act → World → Prop} {a : Act} {w : World} {l : List Oper} (F : Nat → Prop) (hm : P.follows .mixedOrders = true) (hB : Region.lexB .any l.toArray = true)
    (h : wpQuiet P l.toArray (fun w' => ∃ z : Wd F w, w' = z.w) (fun a' => ∀ z : Wd F w, Q .normal a' z.w) l a) : (Code.region id l.toArray true).wp P Q a w :=
  wp_region_quiet (C := fun w' => ∃ z : Wd F w, w' = z.w) hm hB ⟨⟨_, (Kp.refl F w).drew⟩, rfl⟩ (by
    have e : (fun a' => ∀ w', (∃ z : Wd F w, w' = z.w) → Q .normal a' w') = (fun a' => ∀ z : Wd F w, Q .normal a' z.w) := by
      funext a'
      exact propext ⟨fun h z => h _ ⟨z, rfl⟩, fun h w' ⟨z, hz⟩ => hz ▸ h z⟩
    rw [e]
    simpa using h)

/-- a callee met there -/
theorem calls_kp {P : Program} {f : FuncId} {args : Array Value} {F G : Nat → Prop} {w : World} {z : Wd F w} {v : Value} (h : Calls P f args z.w fun e w' => e = .returned v ∧ Kp G z.w w') (hs : ∀ i, i < w.heap.size → G i → F i) :
    Calls P f args z.w fun e w'' => e = .returned v ∧ ∃ z' : Wd F w, w'' = z'.w :=
  h.mono fun _ w'' ⟨he, hk⟩ => ⟨he, ⟨w'', z.kp.trans hk hs⟩, rfl⟩
theorem calls_blw {P : Program} {f : FuncId} {args : Array Value} {F : Nat → Prop} {w : World} {z : Wd F w} {v : Value} (h : Calls P f args z.w fun e w' => e = .returned v ∧ Below z.w.heap.size z.w w') :
    Calls P f args z.w fun e w'' => e = .returned v ∧ ∃ z' : Wd F w, w'' = z'.w :=
  h.mono fun _ w'' ⟨he, hk⟩ => ⟨he, ⟨w'', z.kp.trans (Kp.of_below (F := F) hk) (fun _ _ h => h)⟩, rfl⟩
end Go.Proofs.YthaoplcmkaaflaaDoor
