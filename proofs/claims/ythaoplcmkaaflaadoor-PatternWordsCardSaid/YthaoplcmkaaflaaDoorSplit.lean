import Derived.Test.YthaoplcmkaaflaaDoorReg
import Derived.Test.YthaoplcmkaaflaaDoorGoto
import Derived.Test.YthaoplcmkaaflaaDoorApp
import Derived.Test.YthaoplcmkaaflaaDoorPat
import Derived.Test.YthaoplcmkaaflaaDoorLays
namespace Go.Proofs.YthaoplcmkaaflaaDoor
open Go.RowKit

theorem ixByte_none (l : List UInt8) (c : UInt8) (h : c ∉ l) : Lib.indexByte l c = -1 := by
  induction l with
  | nil => rfl
  | cons b l ih =>
    simp at h
    unfold Lib.indexByte
    rw [if_neg (by simpa using fun e => h.1 e.symm), ih h.2]; rfl
theorem ixByte_hit (l r : List UInt8) (c : UInt8) (h : c ∉ l) : Lib.indexByte (l ++ c :: r) c = l.length := by
  induction l with
  | nil => simp [Lib.indexByte]
  | cons b l ih =>
    simp at h
    rw [List.cons_append]
    unfold Lib.indexByte
    rw [if_neg (by simpa using fun e => h.1 e.symm), ih h.2]
    have : ((l.length : Int) == -1) = false := by rw [beq_eq_false_iff_ne]; omega
    rw [this]
    simp
def dot : ByteArray := ⟨#[46]⟩
theorem ixB_one (s : ByteArray) : Lib.indexB s dot = Lib.indexByte s.data.toList 46 := by
  unfold Lib.indexB
  exact Lib.index_one _ 46
theorem cntB_one (s : ByteArray) : Lib.countB s dot = s.data.toList.count 46 := by
  unfold Lib.countB
  exact Lib.count_one 46 _
theorem bOfL_data (s : ByteArray) : bOfL s.data.toList = s := by cases s; rfl
theorem cut_dot (l : List UInt8) : (46 : UInt8) ∉ l ∨ ∃ a r, l = a ++ 46 :: r ∧ (46 : UInt8) ∉ a := by
  induction l with
  | nil => left; simp
  | cons b l ih =>
    by_cases hb : b = 46
    · right; exact ⟨[], l, by simp [hb], by simp⟩
    · rcases ih with h | ⟨a, r, h1, h2⟩
      · left; simp [h]; exact fun e => hb e.symm
      · right; exact ⟨b :: a, r, by simp [h1], by simp [h2]; exact fun e => hb e.symm⟩
theorem split_words : ∀ (k : Nat) (s : ByteArray), s.data.toList.count 46 ≤ k → Lib.splitB dot 0 (s.data.toList.count 46) s = words s := by
  intro k
  induction k with
  | zero =>
    intro s h
    have h0 : s.data.toList.count 46 = 0 := by omega
    rw [h0, Lib.splitB_zero]
    unfold words
    rw [spl_cat _ (by rwa [List.count_eq_zero] at h0)]
    simp [bOfL_data]
  | succ k ih =>
    intro s h
    rcases cut_dot s.data.toList with h0 | ⟨a, r, h1, h2⟩
    · have h0' : s.data.toList.count 46 = 0 := List.count_eq_zero.2 h0
      rw [h0', Lib.splitB_zero]
      unfold words
      rw [spl_cat _ h0]
      simp [bOfL_data]
    · have hc : s.data.toList.count 46 = r.count 46 + 1 := by
        rw [h1, List.count_append, List.count_eq_zero.2 h2]; simp
      have hs : s = ⟨(a ++ 46 :: r).toArray⟩ := by rw [← h1]
      have hi : Lib.indexB s dot = (a.length : Int) := by rw [ixB_one, h1, ixByte_hit _ _ _ h2]
      rw [hc, Lib.splitB_hit _ _ _ _ _ hi]
      have hx : (s.extract (a.length + dot.size) s.size) = bOfL r := by
        apply ByteArray.ext
        apply Array.ext'
        rw [hs]
        simp [bOfL, dot, ByteArray.size]
        exact List.take_of_length_le (by omega)
      have hy : s.extract 0 (a.length + 0) = bOfL a := by
        apply ByteArray.ext
        apply Array.ext'
        rw [hs]
        simp [bOfL]
      have hr : (bOfL r).data.toList = r := by simp [bOfL]
      have := ih (bOfL r) (by rw [hr]; omega)
      rw [hr] at this
      rw [hx, hy, this]
      unfold words
      rw [h1, spl_hit _ _ h2, hr]
      rfl
theorem words_len (s : ByteArray) : (words s).length = s.data.toList.count 46 + 1 := by
  rw [← split_words _ s (Nat.le_refl _)]
  have := Lib.splitB_all dot (by decide) 0 (Lib.countB s dot) s rfl
  rw [cntB_one] at this
  exact this

theorem split (s : ByteArray) (w : World) (hs : s.size < 4294967281) :
    Calls Tryd.prog 32 #[.string s, .string ⟨#[46]⟩] w fun e w' => e = .returned (.slice (some ⟨w.heap.size, 0, none⟩) (words s).length (words s).length) ∧ w' = w.alloc (.cells ((words s).map Value.string).toArray 9) := by
  have hle := Lib.countB_le dot (by decide) s.size s (Nat.le_refl _)
  have hlen := Lib.splitB_all dot (by decide) 0 _ s rfl
  have c := Any.strings_genSplit_core (P := Tryd.prog) { Tryd.lays146 with } (by kernel_rfl) s dot 0 (-1) (Lib.countB s dot + 1) w hs (by decide) (Nat.zero_le _) (fun x c _ => by
      have := Any.strings_Index_one (P := Tryd.prog) { Tryd.lays146 with } x 46 (w.alloc (.cells c 9))
      rw [← ixB_one] at this
      exact this) (by
      have := Any.strings_Count_one (P := Tryd.prog) { Tryd.lays146 with } s 46 w
      rw [cntB_one]
      exact this) (by decide) (by decide) (by rw [if_pos (by decide)]; omega)
  rw [Nat.add_sub_cancel, hlen] at c
  have e2 : Lib.cellsOf (Lib.splitB dot 0 (Lib.countB s dot) s) (Lib.countB s dot + 1) = ((Lib.splitB dot 0 (Lib.countB s dot) s).map Value.string).toArray := by rw [← hlen]; exact Lib.cellsOf_full _
  have e3 : Lib.splitB dot 0 (Lib.countB s dot) s = words s := by rw [cntB_one]; exact split_words _ s (Nat.le_refl _)
  have e4 : Lib.countB s dot + 1 = (words s).length := by rw [words_len, cntB_one]
  rw [e2, e3, e4] at c
  have C : Hid (Calls Tryd.prog 51 #[.string s, .string dot, .int .i64 (0 : Nat), .int .i64 (-1)] w fun e w' => e = .returned (.slice (some ⟨w.heap.size, 0, none⟩) (words s).length (words s).length) ∧ w' = w.alloc (.cells ((words s).map Value.string).toArray 9)) := c
  clear c e2 e3 e4 hle hlen
  go_enter Tryd.func32, Tryd.ntmps32
  go_wp2_with fail
  refine C.out.mono ?_
  rintro e w' ⟨rfl, rfl⟩
  go_wp2
  go_ret
  exact ⟨rfl, rfl⟩

theorem rd_words {w : World} {H : Nat} {t : TypeId} (l : List ByteArray) (h : w.heap.size = H) : Rd (w.alloc (.cells (l.map Value.string).toArray t)) 1 (some ⟨H, 0, none⟩) l.length (l.map Value.string) := rd_alloc h (by simp)

/-- pattern.Words -/
theorem patWords (s : ByteArray) (w : World) (hs : s.size < 4294967281) :
    Calls Tryd.prog 11 #[.string s] w fun e w' => e = .returned (.slice (some ⟨w.heap.size, 0, none⟩) (words s).length (words s).length) ∧ w' = w.alloc (.cells ((words s).map Value.string).toArray 9) := by
  go_enter Tryd.func11, Tryd.ntmps11
  go_wp2_with fail
  refine (split s w hs).mono ?_
  rintro e w' ⟨rfl, rfl⟩
  go_wp2
  go_ret
  exact ⟨rfl, rfl⟩
end Go.Proofs.YthaoplcmkaaflaaDoor
