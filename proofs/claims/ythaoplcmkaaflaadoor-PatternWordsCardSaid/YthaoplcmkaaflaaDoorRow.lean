import Derived.Test.YthaoplcmkaaflaaDoorBase
import Derived.DataElems
namespace Go.Proofs.YthaoplcmkaaflaaDoor
open Go.RowKit

theorem spot_none {w : World} {x : Addr} {v : Value} (h : w.cell? x = some v) : ∃ b o, x = ⟨b, o, none⟩ := by
  obtain ⟨b, o, s⟩ := x
  cases s with
  | none => exact ⟨b, o, rfl⟩
  | some s =>
    simp only [World.cell?] at h
    split at h <;> simp at h
/-- numbers that came in, read -/
theorem rd_ints {k : IntKind} {w : World} {x : Addr} {len cap : Nat} {zs : List Int} (hl : len ≤ cap) (hz : zs.length = cap) (hc : ∀ i, i < zs.length → w.cell? (x.add i) = some (.int k (zs.getD i 0))) :
    Rd w 1 (some x) len ((zs.take len).map (.int k)) := by
  refine ⟨by simp; omega, fun hn => ?_⟩
  have h0 := hc 0 (by omega)
  rw [show x.add 0 = x from rfl] at h0
  obtain ⟨b, o, rfl⟩ := spot_none h0
  refine ⟨b, o, rfl, fun j u hu => ?_⟩
  have hj : j < len := by
    have := (List.getElem?_eq_some_iff.1 hu).1
    simp at this; omega
  have := hc j (by omega)
  rw [Addr.add_lit] at this
  rw [this]
  rw [List.getElem?_map, List.getElem?_take, if_pos hj] at hu
  rw [List.getD_eq_getElem?_getD]
  cases hz : zs[j]? with
  | none => rw [hz] at hu; cases hu
  | some z => rw [hz] at hu; simpa using hu
end Go.Proofs.YthaoplcmkaaflaaDoor
