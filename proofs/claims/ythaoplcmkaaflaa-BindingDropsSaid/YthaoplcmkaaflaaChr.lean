import Derived.Test.YthaoplcmkaaflaaProg
import Derived.Test.YthaoplcmkaaflaaBase
namespace Go.Proofs.Ythaoplcmkaaflaa
open Go.RowKit

/-- a text of one byte -/
def chr1 (v : Int) : ByteArray := ⟨#[UInt8.ofNat v.toNat]⟩
@[go_sem] theorem conv_new {w : World} {H : Nat} {v : Int} (h : w.heap.size = H) :
    (convert 22 9 (.slice (some ⟨H, 0, none⟩) 1 1)).run Try.prog (w.alloc (.cells #[.int .u8 v] 5)) = .ok (.string (chr1 v)) (w.alloc (.cells #[.int .u8 v] 5)) := by
  subst h
  have hc : (w.alloc (.cells #[.int .u8 v] 5)).cell? ⟨w.heap.size, 0, none⟩ = some (.int .u8 v) := (Blk.new w 5 #[.int .u8 v]).cell 0
  rw [run_convert_bytes_string _ 22 9 5 _ _ _ Try.underlying22 Try.underlying5 Try.underlying9, run_bytesToString _ _ _ _ [v] (by simp [loadCells, loadCellsFrom, Addr.add, hc])]
  rfl
theorem chr1_inj {a b : Int} (ha : 0 ≤ a ∧ a < 256) (hb : 0 ≤ b ∧ b < 256) (h : chr1 a = chr1 b) : a = b := by
  unfold chr1 at h
  injection h with h
  have h := congrArg (fun x : Array UInt8 => x.toList) h
  simp only [List.cons.injEq, and_true] at h
  have := congrArg UInt8.toNat h
  simp only [UInt8.toNat_ofNat'] at this
  omega
end Go.Proofs.Ythaoplcmkaaflaa
