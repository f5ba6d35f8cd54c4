import Derived.Test.YthaoplcmkaaflaaGu
namespace Go.Proofs.Ythaoplcmkaaflaa
open Go.RowKit

def keyEq (a b : Int) (t : ByteArray) (g : Gu) : Bool := decide (g.conn = a) && (decide (g.chan = b) && decide (g.tag = t))

set_option maxHeartbeats 400000 in
theorem placeC (g1 g2 g3 : Nat) (a b : Int) (t : ByteArray) (x : Gu) (w : World) (hc1 : w.cell? ⟨g1, 0, none⟩ = some (.int .i64 a)) (hc2 : w.cell? ⟨g2, 0, none⟩ = some (.int .i64 b)) (hc3 : w.cell? ⟨g3, 0, none⟩ = some (.string t)) :
    Calls Try.prog 57 #[x.v, .pointer (some ⟨g1, 0, none⟩), .pointer (some ⟨g2, 0, none⟩), .pointer (some ⟨g3, 0, none⟩)] w fun e w' => e = .returned (.bool (keyEq a b t x)) ∧ Below w.heap.size w w' := by
  obtain ⟨x1, x2, x3, x4, x5, x6⟩ := x
  simp only [Gu.v]
  have l1 := World.block_lt_of_cell? w _ hc1
  have l2 := World.block_lt_of_cell? w _ hc2
  have l3 := World.block_lt_of_cell? w _ hc3
  dsimp only at l1 l2 l3
  have hb : Below w.heap.size w (w.alloc (Obj.cells #[Value.int .i64 x1, Value.int .i64 x2, Value.string x3, Value.int .i64 x4, Value.bool x5, Value.bool x6] 61)) := (Below.refl _ _).alloc (Nat.le_refl _) _
  have Hb := Lib.hid hb
  clear hb
  go_enter Try.func57, Try.ntmps57
  go_wp2
  all_goals
    go_ret
    refine ⟨ret_bool ?_, (Below.refl _ _).alloc (Nat.le_refl _) _⟩
    simp [keyEq, ba_eq, *]

theorem soleC (x : Gu) (w : World) : Calls Try.prog 54 #[x.v] w fun e w' => e = .returned (.bool x.sole) ∧ Below w.heap.size w w' := by
  obtain ⟨x1, x2, x3, x4, x5, x6⟩ := x
  simp only [Gu.v]
  go_enter Try.func54, Try.ntmps54
  go_wp2
  go_ret
  exact ⟨rfl, (Below.refl _ _).alloc (Nat.le_refl _) _⟩

set_option maxHeartbeats 400000 in
theorem indexPlace (g1 g2 g3 : Nat) (a b : Int) (t : ByteArray) (A : Option Addr) (c : Nat) (l : List Gu) (w : World) (hl : l.length ≤ 1000000) (hr : Rd w 6 A l.length (Gus l)) (hc1 : w.cell? ⟨g1, 0, none⟩ = some (.int .i64 a)) (hc2 : w.cell? ⟨g2, 0, none⟩ = some (.int .i64 b)) (hc3 : w.cell? ⟨g3, 0, none⟩ = some (.string t)) :
    Calls Try.prog 56 #[.slice A l.length c, .func (.func 57) #[] #[.pointer (some ⟨g1, 0, none⟩), .pointer (some ⟨g2, 0, none⟩), .pointer (some ⟨g3, 0, none⟩)]] w fun e w' => e = .returned (.int .i64 (idxP (keyEq a b t) l)) ∧ Below w.heap.size w w' := by
  have HC : Hid (∀ (x : Gu) (w1 : World), Below w.heap.size w w1 → Calls Try.prog 57 #[x.v, .pointer (some ⟨g1, 0, none⟩), .pointer (some ⟨g2, 0, none⟩), .pointer (some ⟨g3, 0, none⟩)] w1 fun e w' => e = .returned (.bool (keyEq a b t x)) ∧ Below w1.heap.size w1 w') := fun x w1 h => placeC g1 g2 g3 a b t x w1 ((h.cell (p := ⟨g1, 0, none⟩) (World.block_lt_of_cell? w _ hc1)).trans hc1) ((h.cell (p := ⟨g2, 0, none⟩) (World.block_lt_of_cell? w _ hc2)).trans hc2) ((h.cell (p := ⟨g3, 0, none⟩) (World.block_lt_of_cell? w _ hc3)).trans hc3)
  have Hr := Lib.hid hr
  clear hr
  clear hc1 hc2 hc3
  go_enter Try.func56, Try.ntmps56
  go_wp2
  go_loopg [5, 8] (l.length) (fun g s i wr => ∃ k : Nat, k + g = l.length ∧ i = .int .i64 k ∧ (∀ j (hj : j < l.length), j < k → (keyEq a b t) l[j] = false) ∧ Below w.heap.size w wr)
  case atStart => exact ⟨0, by omega, rfl, fun j _ hj => absurd hj (by omega), Below.refl _ _⟩
  case round =>
    obtain ⟨k, hk, rfl, hno, hb⟩ := hrel
    by_cases hlt : k < l.length
    · have hr1 := Hr.out.below hb
      have Hk := Lib.hid hk
      have Hno := Lib.hid hno
      have Hb := Lib.hid hb
      clear hk hno hb
      obtain ⟨b0, off, rfl, hc⟩ := hr1.2 (by omega)
      obtain ⟨e1, e2, e3, e4, e5, e6⟩ := Gus_get l k hlt
      have q1 := hc _ _ e1
      have q2 := hc _ _ e2
      have q3 := hc _ _ e3
      have q4 := hc _ _ e4
      have q5 := hc _ _ e5
      have q6 := hc _ _ e6
      rw [← Nat.add_assoc] at q2 q3 q4 q5 q6
      clear hc e1 e2 e3 e4 e5 e6 hr1
      have HP := HC.out l[k] wr Hb.out
      obtain ⟨r, hrr⟩ : ∃ r, r = (keyEq a b t) l[k] := ⟨_, rfl⟩
      rw [← hrr] at HP
      generalize hy : l[k] = z at *
      have Hy := Lib.hid hy
      have Hrr := Lib.hid hrr
      have HP' := Lib.hid HP
      clear hy hrr HP
      obtain ⟨y1, y2, y3, y4, y5, y6⟩ := z
      dsimp only at q1 q2 q3 q4 q5 q6
      go_wp2_with fail
      refine HP'.out.mono ?_
      rintro e w2 ⟨rfl, hb2⟩
      have hb3 := Lib.hid (blw_trans Hb.out hb2 Hb.out.size)
      cases r with
      | true =>
        go_wp2
        go_ret
        exact ⟨ret_i64 (idxP_found (keyEq a b t) l k hlt Hno.out (by rw [Hy.out, ← Hrr.out])).symm, hb3.out⟩
      | false =>
        go_wp2
        go_roundg (l.length - (k + 1))
        case measure => have := Hk.out; omega
        case rel =>
          refine ⟨k + 1, by omega, by go_num, ?_, hb3.out⟩
          intro j hj hjk
          rcases Nat.lt_or_ge j k with h | h
          · exact Hno.out j hj h
          · obtain rfl : j = k := by omega
            rw [Hy.out, ← Hrr.out]
    · have HL := Lib.hid (idxP_none (keyEq a b t) l (fun j hj => hno j hj (by omega)))
      have Hb := Lib.hid hb
      clear hb
      go_wp2
      go_ret
      exact ⟨ret_i64 HL.out.symm, Hb.out⟩
set_option maxHeartbeats 400000 in
theorem indexSole  (A : Option Addr) (c : Nat) (l : List Gu) (w : World) (hl : l.length ≤ 1000000) (hr : Rd w 6 A l.length (Gus l))  :
    Calls Try.prog 56 #[.slice A l.length c, .func (.func 54) #[] #[]] w fun e w' => e = .returned (.int .i64 (idxP (Gu.sole) l)) ∧ Below w.heap.size w w' := by
  have HC : Hid (∀ (x : Gu) (w1 : World), Below w.heap.size w w1 → Calls Try.prog 54 #[x.v] w1 fun e w' => e = .returned (.bool x.sole) ∧ Below w1.heap.size w1 w') := fun x w1 _ => soleC x w1
  have Hr := Lib.hid hr
  clear hr
  skip
  go_enter Try.func56, Try.ntmps56
  go_wp2
  go_loopg [5, 8] (l.length) (fun g s i wr => ∃ k : Nat, k + g = l.length ∧ i = .int .i64 k ∧ (∀ j (hj : j < l.length), j < k → (Gu.sole) l[j] = false) ∧ Below w.heap.size w wr)
  case atStart => exact ⟨0, by omega, rfl, fun j _ hj => absurd hj (by omega), Below.refl _ _⟩
  case round =>
    obtain ⟨k, hk, rfl, hno, hb⟩ := hrel
    by_cases hlt : k < l.length
    · have hr1 := Hr.out.below hb
      have Hk := Lib.hid hk
      have Hno := Lib.hid hno
      have Hb := Lib.hid hb
      clear hk hno hb
      obtain ⟨b0, off, rfl, hc⟩ := hr1.2 (by omega)
      obtain ⟨e1, e2, e3, e4, e5, e6⟩ := Gus_get l k hlt
      have q1 := hc _ _ e1
      have q2 := hc _ _ e2
      have q3 := hc _ _ e3
      have q4 := hc _ _ e4
      have q5 := hc _ _ e5
      have q6 := hc _ _ e6
      rw [← Nat.add_assoc] at q2 q3 q4 q5 q6
      clear hc e1 e2 e3 e4 e5 e6 hr1
      have HP := HC.out l[k] wr Hb.out
      obtain ⟨r, hrr⟩ : ∃ r, r = (Gu.sole) l[k] := ⟨_, rfl⟩
      rw [← hrr] at HP
      generalize hy : l[k] = z at *
      have Hy := Lib.hid hy
      have Hrr := Lib.hid hrr
      have HP' := Lib.hid HP
      clear hy hrr HP
      obtain ⟨y1, y2, y3, y4, y5, y6⟩ := z
      dsimp only at q1 q2 q3 q4 q5 q6
      go_wp2_with fail
      refine HP'.out.mono ?_
      rintro e w2 ⟨rfl, hb2⟩
      have hb3 := Lib.hid (blw_trans Hb.out hb2 Hb.out.size)
      cases r with
      | true =>
        go_wp2
        go_ret
        exact ⟨ret_i64 (idxP_found (Gu.sole) l k hlt Hno.out (by rw [Hy.out, ← Hrr.out])).symm, hb3.out⟩
      | false =>
        go_wp2
        go_roundg (l.length - (k + 1))
        case measure => have := Hk.out; omega
        case rel =>
          refine ⟨k + 1, by omega, by go_num, ?_, hb3.out⟩
          intro j hj hjk
          rcases Nat.lt_or_ge j k with h | h
          · exact Hno.out j hj h
          · obtain rfl : j = k := by omega
            rw [Hy.out, ← Hrr.out]
    · have HL := Lib.hid (idxP_none (Gu.sole) l (fun j hj => hno j hj (by omega)))
      have Hb := Lib.hid hb
      clear hb
      go_wp2
      go_ret
      exact ⟨ret_i64 HL.out.symm, Hb.out⟩
end Go.Proofs.Ythaoplcmkaaflaa
