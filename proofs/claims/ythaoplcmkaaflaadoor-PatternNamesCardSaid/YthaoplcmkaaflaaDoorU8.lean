import Derived.Test.YthaoplcmkaaflaaDoorProg
import Derived.Test.YthaoplcmkaaflaaDoorReg
import Derived.Test.YthaoplcmkaaflaaDoorApp
import Derived.Test.YthaoplcmkaaflaaDoorMake
import Derived.Laws.BytesArg
namespace Go.Proofs.YthaoplcmkaaflaaDoor
open Go.RowKit

/-- a row of bytes -/
def uArr (n : Nat) (f : Nat → Int) : Array Value := ((List.range n).map fun i => Value.int .u8 (f i)).toArray
theorem uArr_get (n : Nat) (f : Nat → Int) (i : Nat) (h : i < n) : (uArr n f)[i]? = some (.int .u8 (f i)) := by simp [uArr, h]
theorem uArr_set (n : Nat) (f : Nat → Int) (i : Nat) (b : Int) : (uArr n f).setIfInBounds i (.int .u8 b) = uArr n (fun j => if j = i then b else f j) := by
  apply Array.ext_getElem?
  intro j
  by_cases hj : j < n
  · rw [uArr_get _ _ _ hj, Array.getElem?_setIfInBounds]
    by_cases hij : i = j
    · subst hij; simp [uArr, hj]
    · rw [if_neg hij, uArr_get _ _ _ hj, if_neg (Ne.symm hij)]
  · rw [Array.getElem?_eq_none (by simp [uArr]; omega), Array.getElem?_eq_none (by simp [uArr]; omega)]
theorem Blk.uget {w : World} {g n : Nat} {t : TypeId} {f : Nat → Int} (h : Blk w g t (uArr n f)) {i : Nat} (hi : i < n) : w.cell? ⟨g, i, none⟩ = some (.int .u8 (f i)) := by rw [h.cell, uArr_get _ _ _ hi]
theorem Blk.uset {w : World} {g n : Nat} {t : TypeId} {f : Nat → Int} (h : Blk w g t (uArr n f)) (i : Nat) (b : Int) : Blk (w.setCell ⟨g, i, none⟩ (.int .u8 b)) g t (uArr n (fun j => if j = i then b else f j)) := by
  have := h.set_ i (.int .u8 b)
  rwa [uArr_set] at this
theorem uArr_made (n : Nat) : madeCells #[Value.int .u8 0] n = uArr n (fun _ => 0) := by
  apply Array.ext'
  rw [toList_madeCells_one]
  simp only [uArr, List.toList_toArray]
  rw [List.eq_replicate_of_mem (a := Value.int .u8 0) (l := (List.range n).map fun _ => Value.int .u8 0) (by simp)]
  simp
theorem uArr_congr {n : Nat} {f h : Nat → Int} (e : ∀ i, i < n → f i = h i) : uArr n f = uArr n h := by
  unfold uArr
  congr 1
  apply List.map_congr_left
  intro i hi
  rw [e i (List.mem_range.1 hi)]
theorem info_u8' : (Tryd.prog.info? 5).map (fun i => (i.zero, i.size, i.bytes)) = some (some (.int .u8 0), 1, 1) := by kernel_rfl
/-- 'string(b)' of a row -/
def uStr (n : Nat) (f : Nat → Int) : ByteArray := strOfNums ((List.range n).map f)
theorem uStr_size (n : Nat) (f : Nat → Int) : (uStr n f).size = n := by simp [uStr, strOfNums_size]
theorem uStr_run {w : World} {g n : Nat} {f : Nat → Int} (c : Nat) (h : Blk w g 5 (uArr n f)) : (convert 31 9 (.slice (some ⟨g, 0, none⟩) n c)).run Tryd.prog w = .ok (.string (uStr n f)) w :=
  run_convert_bytes_arg w 31 5 Tryd.underlying31 Tryd.underlying5 g 0 n c ((List.range n).map f) (by simp) (fun i hi => by rw [Nat.zero_add, h.uget hi]; simp [List.getD, hi]) 9 Tryd.underlying9
end Go.Proofs.YthaoplcmkaaflaaDoor
