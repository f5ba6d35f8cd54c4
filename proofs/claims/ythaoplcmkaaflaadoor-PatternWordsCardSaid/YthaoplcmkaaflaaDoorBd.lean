import Derived.Test.YthaoplcmkaaflaaDoorProg
import Derived.Test.YthaoplcmkaaflaaDoorBase
import Derived.Deep.QuietTactic
import Derived.Deep.LoopGhost
import Derived.BigQuiet
import Derived.StillTailTactics
import Derived.Deep.RegionHeld3
namespace Go.Proofs.YthaoplcmkaaflaaDoor
open Go.RowKit

/-- a binding as data -/
structure Bd where
  x : ByteArray
  q : ByteArray
  k : ByteArray
  deriving DecidableEq
def Bd.v (b : Bd) : Value := .agg #[.string b.x, .string b.q, .string b.k]
def Bd.cs (b : Bd) : List Value := [.string b.x, .string b.q, .string b.k]
theorem Bd.cs_len (b : Bd) : b.cs.length = 3 := rfl
def Bds (l : List Bd) : List Value := l.flatMap Bd.cs
theorem Bds_get (l : List Bd) (i : Nat) (h : i < l.length) : (Bds l)[i * 3]? = some (.string l[i].x) ∧ (Bds l)[i * 3 + 1]? = some (.string l[i].q) ∧ (Bds l)[i * 3 + 2]? = some (.string l[i].k) :=
  ⟨flat_get 3 Bd.cs Bd.cs_len l i 0 h (by omega), flat_get 3 Bd.cs Bd.cs_len l i 1 h (by omega), flat_get 3 Bd.cs Bd.cs_len l i 2 h (by omega)⟩
theorem Bds_len (l : List Bd) : (Bds l).length = l.length * 3 := flat_len 3 Bd.cs Bd.cs_len l

theorem ba_eq (a b : ByteArray) : (a.toList == b.toList) = decide (a = b) := by
  rw [ByteArray.toList_eq, ByteArray.toList_eq]
  obtain ⟨⟨x⟩⟩ := a
  obtain ⟨⟨y⟩⟩ := b
  simp only [ByteArray.mk.injEq, Array.mk.injEq]
  by_cases h : x = y <;> simp [h]

theorem ba_t {a b : ByteArray} (h : (a.toList == b.toList) = true) : a = b := by rw [ba_eq] at h; exact of_decide_eq_true h
theorem ba_f {a b : ByteArray} (h : (a.toList == b.toList) = false) : a ≠ b := by rw [ba_eq] at h; exact of_decide_eq_false h

/-- '==' of bindings -/
def bdEq (a1 a2 a3 b1 b2 b3 : ByteArray) : Bool := decide (a1 = b1) && (decide (a2 = b2) && decide (a3 = b3))
theorem bd_hS : Tryd.prog.underlying 54 = some (.struct (Tryd.prog.fieldsOf 54)) := by kernel_rfl
theorem bd_hp : Tryd.prog.stoodInHeld 54 = false := by kernel_rfl
theorem bd_hg : Tryd.prog.eqGuardType Tryd.prog.depth 54 = false := by kernel_rfl
theorem bd_in (d : Nat) (w : World) (a1 a2 a3 b1 b2 b3 : ByteArray) :
    (Op.equalIn (d + 2) 54 (.agg #[.string a1, .string a2, .string a3]) (.agg #[.string b1, .string b2, .string b3])).run Tryd.prog w = .ok (bdEq a1 a2 a3 b1 b2 b3) w := by
  rw [run_equalIn_agg w (d + 1) 54 _ _ bd_hS bd_hp]
  simp only [Program.fieldsOf, Tryd.underlying54, bdEq, ← ba_eq]
  go_simp
  by_cases h1 : a1.toList = b1.toList <;> by_cases h2 : a2.toList = b2.toList <;> by_cases h3 : a3.toList = b3.toList <;> simp [h1, h2, h3]
@[go_sem high] theorem bd_eql (w : World) (a1 a2 a3 b1 b2 b3 : ByteArray) :
    (binOp .eql 54 (.agg #[.string a1, .string a2, .string a3]) (.agg #[.string b1, .string b2, .string b3])).run Tryd.prog w = .ok (.bool (bdEq a1 a2 a3 b1 b2 b3)) w := by
  rw [run_eql_struct, bd_in 9998]; rfl
@[go_sem high] theorem bd_neq (w : World) (a1 a2 a3 b1 b2 b3 : ByteArray) :
    (binOp .neq 54 (.agg #[.string a1, .string a2, .string a3]) (.agg #[.string b1, .string b2, .string b3])).run Tryd.prog w = .ok (.bool (!bdEq a1 a2 a3 b1 b2 b3)) w := by
  rw [run_neq_struct, bd_in 9998]; rfl
@[go_sem high] theorem bd_guard (op : BinOp) (x y : Operand) (xs ys : Array Value) (w : World) : (eqGuard op 54 x y (.agg xs) (.agg ys)).run Tryd.prog w = .ok () w :=
  run_eqGuard_agg w op _ x y xs ys bd_hg
theorem bdEq_iff (a b : Bd) : bdEq a.x a.q a.k b.x b.q b.k = decide (a = b) := by
  cases a; cases b; simp [bdEq, Bd.mk.injEq]
end Go.Proofs.YthaoplcmkaaflaaDoor
