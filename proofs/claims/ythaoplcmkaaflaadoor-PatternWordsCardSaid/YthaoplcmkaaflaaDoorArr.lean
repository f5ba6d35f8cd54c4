import Derived.Test.YthaoplcmkaaflaaDoorReg
namespace Go.Proofs.YthaoplcmkaaflaaDoor
open Go.RowKit

/-- a row of bools -/
def bArr (n : Nat) (f : Nat → Bool) : Array Value := ((List.range n).map fun i => Value.bool (f i)).toArray
theorem bArr_get (n : Nat) (f : Nat → Bool) (i : Nat) (h : i < n) : (bArr n f)[i]? = some (.bool (f i)) := by simp [bArr, h]
theorem bArr_set (n : Nat) (f : Nat → Bool) (i : Nat) (b : Bool) : (bArr n f).setIfInBounds i (.bool b) = bArr n (fun j => if j = i then b else f j) := by
  apply Array.ext_getElem?
  intro j
  by_cases hj : j < n
  · rw [bArr_get _ _ _ hj, Array.getElem?_setIfInBounds]
    by_cases hij : i = j
    · subst hij; simp [bArr, hj]
    · rw [if_neg hij, bArr_get _ _ _ hj, if_neg (Ne.symm hij)]
  · rw [Array.getElem?_eq_none (by simp [bArr]; omega), Array.getElem?_eq_none (by simp [bArr]; omega)]
theorem Blk.bget {w : World} {g n : Nat} {t : TypeId} {f : Nat → Bool} (h : Blk w g t (bArr n f)) {i : Nat} (hi : i < n) : w.cell? ⟨g, i, none⟩ = some (.bool (f i)) := by rw [h.cell, bArr_get _ _ _ hi]
theorem Blk.bset {w : World} {g n : Nat} {t : TypeId} {f : Nat → Bool} (h : Blk w g t (bArr n f)) (i : Nat) (b : Bool) : Blk (w.setCell ⟨g, i, none⟩ (.bool b)) g t (bArr n (fun j => if j = i then b else f j)) := by
  have := h.set_ i (.bool b)
  rwa [bArr_set] at this
theorem bArr_lt {w : World} {g n : Nat} {t : TypeId} {f h : Nat → Bool} (hb : Blk w g t (bArr n fun j => if j < n then f j else h j)) : Blk w g t (bArr n f) := by
  have : bArr n (fun j => if j < n then f j else h j) = bArr n f := by
    unfold bArr
    congr 1
    apply List.map_congr_left
    intro j hj
    exact congrArg Value.bool (if_pos (List.mem_range.1 hj))
  rwa [this] at hb
end Go.Proofs.YthaoplcmkaaflaaDoor
