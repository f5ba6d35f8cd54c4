import Derived.Test.YthaoplcmkaaflaaBdF
import Derived.Test.YthaoplcmkaaflaaGoto
namespace Go.Proofs.Ythaoplcmkaaflaa
open Go.RowKit

/-- a guest as data -/
structure Gu where
  conn : Int
  chan : Int
  tag : ByteArray
  most : Int
  noack : Bool
  sole : Bool
  deriving DecidableEq
def Gu.v (b : Gu) : Value := .agg #[.int .i64 b.conn, .int .i64 b.chan, .string b.tag, .int .i64 b.most, .bool b.noack, .bool b.sole]
def Gu.cs (b : Gu) : List Value := [.int .i64 b.conn, .int .i64 b.chan, .string b.tag, .int .i64 b.most, .bool b.noack, .bool b.sole]
theorem Gu.cs_len (b : Gu) : b.cs.length = 6 := rfl
def Gus (l : List Gu) : List Value := l.flatMap Gu.cs
theorem Gus_get (l : List Gu) (i : Nat) (h : i < l.length) : (Gus l)[i * 6]? = some (.int .i64 l[i].conn) ∧ (Gus l)[i * 6 + 1]? = some (.int .i64 l[i].chan) ∧ (Gus l)[i * 6 + 2]? = some (.string l[i].tag) ∧
    (Gus l)[i * 6 + 3]? = some (.int .i64 l[i].most) ∧ (Gus l)[i * 6 + 4]? = some (.bool l[i].noack) ∧ (Gus l)[i * 6 + 5]? = some (.bool l[i].sole) :=
  ⟨flat_get 6 Gu.cs Gu.cs_len l i 0 h (by omega), flat_get 6 Gu.cs Gu.cs_len l i 1 h (by omega), flat_get 6 Gu.cs Gu.cs_len l i 2 h (by omega), flat_get 6 Gu.cs Gu.cs_len l i 3 h (by omega), flat_get 6 Gu.cs Gu.cs_len l i 4 h (by omega), flat_get 6 Gu.cs Gu.cs_len l i 5 h (by omega)⟩
theorem Gus_len (l : List Gu) : (Gus l).length = l.length * 6 := flat_len 6 Gu.cs Gu.cs_len l
theorem Gus_one (l : List Gu) (x : Gu) : Gus l ++ x.cs = Gus (l ++ [x]) := by simp [Gus]
theorem one6 (x : Gu) : ∀ u ∈ x.cs, u.oneCell' = true := by
  intro u hu; simp [Gu.cs] at hu; rcases hu with rfl | rfl | rfl | rfl | rfl | rfl <;> rfl
theorem Gus_one_cell (l : List Gu) : ∀ u ∈ Gus l, u.oneCell' = true := by
  intro u hu
  obtain ⟨b, _, hb⟩ := List.mem_flatMap.1 hu
  exact one6 b u hb
theorem info_gu : (Try.prog.info? 61).map (fun i => (i.zero, i.size, i.bytes)) = some (some (.agg #[.int .i64 0, .int .i64 0, .string ⟨#[]⟩, .int .i64 0, .bool false, .bool false]), 6, 48) := by kernel_rfl

/-- '==' of guests -/
def guEq (a1 a2 : Int) (a3 : ByteArray) (a4 : Int) (a5 a6 : Bool) (b1 b2 : Int) (b3 : ByteArray) (b4 : Int) (b5 b6 : Bool) : Bool :=
  decide ((⟨a1, a2, a3, a4, a5, a6⟩ : Gu) = ⟨b1, b2, b3, b4, b5, b6⟩)
theorem gu_hS : Try.prog.underlying 61 = some (.struct (Try.prog.fieldsOf 61)) := by kernel_rfl
theorem gu_hp : Try.prog.stoodInHeld 61 = false := by kernel_rfl
theorem gu_hg : Try.prog.eqGuardType Try.prog.depth 61 = false := by kernel_rfl
theorem gu_in (d : Nat) (w : World) (a1 a2 : Int) (a3 : ByteArray) (a4 : Int) (a5 a6 : Bool) (b1 b2 : Int) (b3 : ByteArray) (b4 : Int) (b5 b6 : Bool) :
    (Op.equalIn (d + 2) 61 (.agg #[.int .i64 a1, .int .i64 a2, .string a3, .int .i64 a4, .bool a5, .bool a6]) (.agg #[.int .i64 b1, .int .i64 b2, .string b3, .int .i64 b4, .bool b5, .bool b6])).run Try.prog w = .ok (guEq a1 a2 a3 a4 a5 a6 b1 b2 b3 b4 b5 b6) w := by
  rw [run_equalIn_agg w (d + 1) 61 _ _ gu_hS gu_hp]
  simp only [Program.fieldsOf, Try.underlying61, guEq, Gu.mk.injEq]
  have h3 : (a3.toList == b3.toList) = decide (a3 = b3) := ba_eq a3 b3
  go_simp
  by_cases h1 : a1 = b1 <;> by_cases h2 : a2 = b2 <;> by_cases h3 : a3 = b3 <;> by_cases h4 : a4 = b4 <;> by_cases h5 : a5 = b5 <;> by_cases h6 : a6 = b6 <;> simp [h1, h2, h3, h4, h5, h6]
@[go_sem high] theorem gu_eql (w : World) (a1 a2 : Int) (a3 : ByteArray) (a4 : Int) (a5 a6 : Bool) (b1 b2 : Int) (b3 : ByteArray) (b4 : Int) (b5 b6 : Bool) :
    (binOp .eql 61 (.agg #[.int .i64 a1, .int .i64 a2, .string a3, .int .i64 a4, .bool a5, .bool a6]) (.agg #[.int .i64 b1, .int .i64 b2, .string b3, .int .i64 b4, .bool b5, .bool b6])).run Try.prog w = .ok (.bool (guEq a1 a2 a3 a4 a5 a6 b1 b2 b3 b4 b5 b6)) w := by
  rw [run_eql_struct, gu_in 9998]; rfl
@[go_sem high] theorem gu_neq (w : World) (a1 a2 : Int) (a3 : ByteArray) (a4 : Int) (a5 a6 : Bool) (b1 b2 : Int) (b3 : ByteArray) (b4 : Int) (b5 b6 : Bool) :
    (binOp .neq 61 (.agg #[.int .i64 a1, .int .i64 a2, .string a3, .int .i64 a4, .bool a5, .bool a6]) (.agg #[.int .i64 b1, .int .i64 b2, .string b3, .int .i64 b4, .bool b5, .bool b6])).run Try.prog w = .ok (.bool (!guEq a1 a2 a3 a4 a5 a6 b1 b2 b3 b4 b5 b6)) w := by
  rw [run_neq_struct, gu_in 9998]; rfl
@[go_sem high] theorem gu_guard (op : BinOp) (x y : Operand) (xs ys : Array Value) (w : World) : (eqGuard op 61 x y (.agg xs) (.agg ys)).run Try.prog w = .ok () w :=
  run_eqGuard_agg w op _ x y xs ys gu_hg

/-- the guests in memory: the program's, the reference's -/
structure GuA (w : World) (base p : Nat) (A : Option Addr) (c : Nat) (l : List Gu) (turn : Int) : Prop where
  blk : Blk w p 89 #[.slice A l.length c, .int .i64 turn]
  own : w.ownsRow base 61 6 (.slice A l.length c) l.length (Gus l)
  le : base ≤ p
theorem GuA.kp {w w' : World} {base p : Nat} {A : Option Addr} {c : Nat} {l : List Gu} {turn : Int} {G : Nat → Prop} (h : GuA w base p A c l turn) (hb : Kp G w w') (hp : ¬ G p) (hA : ∀ k, FA A k → ¬ G k) : GuA w' base p A c l turn :=
  ⟨h.blk.kp hb hp, own_kp h.own hb hA, h.le⟩
theorem GuA.kn {w w' : World} {base p : Nat} {A : Option Addr} {c : Nat} {l : List Gu} {turn : Int} (h : GuA w base p A c l turn) (hb : Kp None' w w') : GuA w' base p A c l turn := h.kp hb id (fun _ _ => id)
theorem GuA.row {w : World} {base p : Nat} {A : Option Addr} {c : Nat} {l : List Gu} {turn : Int} (h : GuA w base p A c l turn) : w.cell? ⟨p, 0, none⟩ = some (.slice A l.length c) := h.blk.cell 0
theorem GuA.at_ {w : World} {base p : Nat} {A : Option Addr} {c : Nat} {l : List Gu} {turn : Int} (h : GuA w base p A c l turn) : w.cell? ⟨p, 1, none⟩ = some (.int .i64 turn) := h.blk.cell 1
theorem GuA.ne {w : World} {base p : Nat} {A : Option Addr} {c : Nat} {l : List Gu} {turn : Int} (h : GuA w base p A c l turn) : ¬ FA A p := own_blk h.own h.blk (by decide)
structure RuA (w : World) (base p : Nat) (A : Option Addr) (c : Nat) (l : List Gu) (turn : Int) : Prop where
  blk : Blk w p 59 #[.slice A l.length c, .int .i64 turn]
  own : w.ownsRow base 61 6 (.slice A l.length c) l.length (Gus l)
  le : base ≤ p
theorem RuA.kp {w w' : World} {base p : Nat} {A : Option Addr} {c : Nat} {l : List Gu} {turn : Int} {G : Nat → Prop} (h : RuA w base p A c l turn) (hb : Kp G w w') (hp : ¬ G p) (hA : ∀ k, FA A k → ¬ G k) : RuA w' base p A c l turn :=
  ⟨h.blk.kp hb hp, own_kp h.own hb hA, h.le⟩
theorem RuA.kn {w w' : World} {base p : Nat} {A : Option Addr} {c : Nat} {l : List Gu} {turn : Int} (h : RuA w base p A c l turn) (hb : Kp None' w w') : RuA w' base p A c l turn := h.kp hb id (fun _ _ => id)
theorem RuA.row {w : World} {base p : Nat} {A : Option Addr} {c : Nat} {l : List Gu} {turn : Int} (h : RuA w base p A c l turn) : w.cell? ⟨p, 0, none⟩ = some (.slice A l.length c) := h.blk.cell 0
theorem RuA.at_ {w : World} {base p : Nat} {A : Option Addr} {c : Nat} {l : List Gu} {turn : Int} (h : RuA w base p A c l turn) : w.cell? ⟨p, 1, none⟩ = some (.int .i64 turn) := h.blk.cell 1
theorem RuA.ne {w : World} {base p : Nat} {A : Option Addr} {c : Nat} {l : List Gu} {turn : Int} (h : RuA w base p A c l turn) : ¬ FA A p := own_blk h.own h.blk (by decide)
end Go.Proofs.Ythaoplcmkaaflaa
