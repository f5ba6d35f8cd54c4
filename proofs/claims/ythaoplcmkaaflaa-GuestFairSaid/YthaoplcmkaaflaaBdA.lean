import Derived.Test.YthaoplcmkaaflaaBd
import Derived.Test.YthaoplcmkaaflaaPlain
namespace Go.Proofs.Ythaoplcmkaaflaa
open Go.RowKit

set_option maxHeartbeats 400000 in
theorem indexBd (A : Option Addr) (c : Nat) (l : List Bd) (x : Bd) (w : World) (hl : l.length ≤ 4611686018427387904) (hr : Rd w 3 A l.length (Bds l)) :
    Calls Try.prog 42 #[.slice A l.length c, x.v] w fun e w' => e = .returned (.int .i64 (idxP (fun y => decide (x = y)) l)) ∧ Below w.heap.size w w' := by
  obtain ⟨x1, x2, x3⟩ := x
  simp only [Bd.v]
  have HR := Lib.hid hr
  clear hr
  go_enter Try.func42, Try.ntmps42
  go_wp2
  have h0 : (w.alloc (Obj.cells #[Value.string x1, Value.string x2, Value.string x3] 28)).cell? ⟨w.heap.size, 0, none⟩ = some (.string x1) := by simp
  have h1 : (w.alloc (Obj.cells #[Value.string x1, Value.string x2, Value.string x3] 28)).cell? ⟨w.heap.size, 1, none⟩ = some (.string x2) := by simp
  have h2 : (w.alloc (Obj.cells #[Value.string x1, Value.string x2, Value.string x3] 28)).cell? ⟨w.heap.size, 2, none⟩ = some (.string x3) := by simp
  have hb : Below w.heap.size w (w.alloc (Obj.cells #[Value.string x1, Value.string x2, Value.string x3] 28)) := (Below.refl _ _).alloc (Nat.le_refl _) _
  generalize w.alloc (Obj.cells #[Value.string x1, Value.string x2, Value.string x3] 28) = w0 at *
  have HR0 := Lib.hid (HR.out.below hb)
  clear HR
  go_loopg [5, 8] (l.length) (fun g s i wr => ∃ k : Nat, k + g = l.length ∧ i = .int .i64 k ∧ (∀ j (hj : j < l.length), j < k → decide (⟨x1, x2, x3⟩ = l[j]) = false) ∧ ∃ q, wr = w0.drewN q)
  case atStart => exact ⟨0, by omega, rfl, fun j _ hj => absurd hj (by omega), 0, rfl⟩
  case round =>
    obtain ⟨k, hk, rfl, hno, q, rfl⟩ := hrel
    have Hk := Lib.hid hk
    have HN := Lib.hid hno
    clear hk hno
    by_cases hlt : k < l.length
    · obtain ⟨b, off, rfl, hc⟩ := HR0.out.2 (by omega)
      obtain ⟨e1, e2, e3⟩ := Bds_get l k hlt
      have g1 := hc _ _ e1
      have g2 := hc _ _ e2
      have g3 := hc _ _ e3
      rw [← Nat.add_assoc] at g2 g3
      clear hc e1 e2 e3
      have HE := Lib.hid (rfl : l[k] = l[k])
      generalize hy : l[k] = y at *
      have HY := Lib.hid hy
      clear hy
      obtain ⟨y1, y2, y3⟩ := y
      dsimp only at g1 g2 g3
      have hbe := bdEq_iff ⟨x1, x2, x3⟩ ⟨y1, y2, y3⟩
      dsimp only at hbe
      have HB := Lib.hid hbe
      clear hbe
      go_wp2
      go_quiet (fail)
      go_wp2
      · have hy : bdEq x1 x2 x3 y1 y2 y3 = true := by assumption
        go_ret
        exact ⟨ret_i64 (idxP_found _ l k hlt HN.out (by rw [HY.out, ← HB.out]; exact hy)).symm, blw_drewN (blw_drewN hb _) _⟩
      · have hy : bdEq x1 x2 x3 y1 y2 y3 = false := by assumption
        go_roundg (l.length - (k + 1))
        case measure => have := Hk.out; omega
        case rel =>
          refine ⟨k + 1, by omega, by go_num, ?_, _, rfl⟩
          intro j hj hjk
          rcases Nat.lt_or_ge j k with h | h
          · exact HN.out j hj h
          · obtain rfl : j = k := by omega
            rw [HY.out, ← HB.out]; exact hy
    · have HL := Lib.hid (idxP_none (fun y => decide (⟨x1, x2, x3⟩ = y)) l (fun j hj => HN.out j hj (by omega)))
      go_wp2
      go_ret
      exact ⟨ret_i64 HL.out.symm, blw_drewN hb _⟩

set_option maxHeartbeats 400000 in
theorem containsBd (A : Option Addr) (c : Nat) (l : List Bd) (x : Bd) (w : World) (hl : l.length ≤ 4611686018427387904) (hr : Rd w 3 A l.length (Bds l)) :
    Calls Try.prog 38 #[.slice A l.length c, x.v] w fun e w' => e = .returned (.bool (l.any fun y => decide (x = y))) ∧ Below w.heap.size w w' := by
  obtain ⟨x1, x2, x3⟩ := x
  simp only [Bd.v]
  have HR := Lib.hid hr
  clear hr
  go_enter Try.func38, Try.ntmps38
  go_wp2_with fail
  have hb : Below w.heap.size w (w.alloc (Obj.cells #[Value.string x1, Value.string x2, Value.string x3] 28)) := (Below.refl _ _).alloc (Nat.le_refl _) _
  generalize w.alloc (Obj.cells #[Value.string x1, Value.string x2, Value.string x3] 28) = w0 at *
  refine (indexBd A c l ⟨x1, x2, x3⟩ _ hl (HR.out.below hb)).mono ?_
  rintro e w1 ⟨rfl, hb1⟩
  go_wp2
  go_ret
  exact ⟨ret_bool (idxP_ge _ l), blw_trans hb hb1 hb.size⟩
theorem containsBd' (r : Bool) (A : Option Addr) (c : Nat) (l : List Bd) (x : Bd) (w : World) (hl : l.length ≤ 4611686018427387904) (hr : Rd w 3 A l.length (Bds l)) (h : (l.any fun y => decide (x = y)) = r) :
    Calls Try.prog 38 #[.slice A l.length c, x.v] w fun e w' => e = .returned (.bool r) ∧ Below w.heap.size w w' := h ▸ containsBd A c l x w hl hr
end Go.Proofs.Ythaoplcmkaaflaa
