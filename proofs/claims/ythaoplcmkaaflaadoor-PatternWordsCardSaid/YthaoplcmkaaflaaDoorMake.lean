import Derived.Test.YthaoplcmkaaflaaDoorProg
import Derived.Test.YthaoplcmkaaflaaDoorReg
import Derived.Test.YthaoplcmkaaflaaDoorApp
import Derived.Test.YthaoplcmkaaflaaDoorArr
import Derived.OwnWalk
namespace Go.Proofs.YthaoplcmkaaflaaDoor
open Go.RowKit

/-- 'make([]T, n)': the world, told -/
theorem wpList_make1 {P : Program} (w : World) {ops : Array Oper} {rest : List Oper} {o : Oper} {a : Act} {Q : Exit → Act → World → Prop}
    (hg : o.guard = none) (l c : Operand) (t : TypeId) (hop : o.op = Op.makeSlice t l c)
    (e : TypeId) (z : Value) (bytes : Nat) (h1 : P.underlying t = some (.slice e)) (hI : (P.info? e).map (fun i => (i.zero, i.size, i.bytes)) = some (some z, 1, bytes))
    (kl kc : IntKind) (L C : Int) (n : Nat) (hl : a.eval l = .int kl L) (hc : a.eval c = .int kc C) (hL : L = (n : Int)) (hC : C = (n : Int)) (b2 : bytes * n ≤ 281474976710656) (b3 : n ≤ maxLen)
    (hK : wpList P ops Q rest (a.put o.dst (.slice (some ⟨w.heap.size, 0, none⟩) n n)) (w.alloc (.cells (madeCells z.cells n) e))) :
    wpList P ops Q (o :: rest) a w := by
  obtain ⟨i, hi, hz, hsize, hby⟩ := info_parts hI
  refine wpList_plain hg fun K hK' => ?_
  have h63' : (n : Int) ≤ 9223372036854775807 := by unfold maxLen at b3; omega
  have hb' : (i.bytes : Int) * (n : Int) ≤ 281474976710656 := by
    rw [hby]
    have h : ((bytes * n : Nat) : Int) ≤ 281474976710656 := by omega
    rwa [Int.natCast_mul] at h
  have hrun := run_make (P := P) w t e i z h1 hi hz kl kc n n (by omega) (Int.le_refl _) hb' h63'
  simp only [Int.toNat_natCast, hsize, Nat.mul_one] at hrun
  subst hL
  subst hC
  unfold Oper.wp
  simp [execOp, hop, hl, hc, hrun, Result.andThen]
  exact hK' _ _ hK
theorem bArr_upto (n z : Nat) (f : Nat → Bool) : bArr n (fun j => if j = z then f z else if j < z then f j else false) = bArr n (fun j => if j < z + 1 then f j else false) := by
  unfold bArr
  congr 1
  apply List.map_congr_left
  intro j _
  dsimp only
  by_cases h : j = z
  · subst h; simp
  · rw [if_neg h]
    by_cases h2 : j < z
    · rw [if_pos h2, if_pos (by omega)]
    · rw [if_neg h2, if_neg (by omega)]
theorem bArr_made (n : Nat) : madeCells #[Value.bool false] n = bArr n (fun _ => false) := by
  apply Array.ext'
  rw [toList_madeCells_one]
  simp only [bArr, List.toList_toArray]
  rw [List.eq_replicate_of_mem (a := Value.bool false) (l := (List.range n).map fun _ => Value.bool false) (by simp)]
  simp
theorem bArr_rd {w : World} {g n : Nat} {t : TypeId} {f : Nat → Bool} (h : Blk w g t (bArr n f)) : Rd w 1 (some ⟨g, 0, none⟩) n (((List.range n).map f).map .bool) :=
  ⟨by simp, fun _ => ⟨g, 0, rfl, fun j u hu => by
    rw [Nat.zero_add, h.cell]
    unfold bArr
    simpa using hu⟩⟩
/-- the run of a make, told: for a region whose operations are guarded -/
theorem run_make1 {P : Program} (t e : TypeId) (z : Value) (bytes : Nat) (h1 : P.underlying t = some (.slice e)) (hI : (P.info? e).map (fun i => (i.zero, i.size, i.bytes)) = some (some z, 1, bytes))
    (kl kc : IntKind) (n : Nat) (b2 : bytes * n ≤ 281474976710656) (b3 : n ≤ maxLen) (w : World) :
    (Instr.makeSlice t (.int kl (n : Int)) (.int kc (n : Int))).run P w = .ok (.slice (some ⟨w.heap.size, 0, none⟩) n n) (w.alloc (.cells (madeCells z.cells n) e)) := by
  obtain ⟨i, hi, hz, hsize, hby⟩ := info_parts hI
  have h63' : (n : Int) ≤ 9223372036854775807 := by unfold maxLen at b3; omega
  have hb' : (i.bytes : Int) * (n : Int) ≤ 281474976710656 := by
    rw [hby]
    have h : ((bytes * n : Nat) : Int) ≤ 281474976710656 := by omega
    rwa [Int.natCast_mul] at h
  have hrun := run_make (P := P) w t e i z h1 hi hz kl kc n n (by omega) (Int.le_refl _) hb' h63'
  simp only [Int.toNat_natCast, hsize, Nat.mul_one] at hrun
  exact hrun
end Go.Proofs.YthaoplcmkaaflaaDoor
