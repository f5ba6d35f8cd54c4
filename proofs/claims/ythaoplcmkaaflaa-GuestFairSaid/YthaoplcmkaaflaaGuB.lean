import Derived.Test.YthaoplcmkaaflaaGuA
namespace Go.Proofs.Ythaoplcmkaaflaa
open Go.RowKit

theorem guNew (w : World) : Calls Try.prog 25 #[] w fun e w' => e = .returned (.pointer (some ⟨w.heap.size, 0, none⟩)) ∧ GuA w' w.heap.size w.heap.size none 0 [] 0 ∧ Below w.heap.size w w' ∧ w'.heap.size = w.heap.size + 1 := by
  go_enter Try.func25, Try.ntmps25
  go_wp2
  go_ret
  exact ⟨rfl, ⟨Blk.new _ _ _, World.ownsRow_nil .., Nat.le_refl _⟩, (Below.refl _ _).alloc (Nat.le_refl _) _, by simp⟩

theorem guLen (base p : Nat) (A : Option Addr) (c : Nat) (l : List Gu) (turn : Int) (w : World) (hT : GuA w base p A c l turn) :
    Calls Try.prog 34 #[.pointer (some ⟨p, 0, none⟩)] w fun e w' => e = .returned (.int .i64 l.length) ∧ w' = w := by
  have c0 := hT.row
  clear hT
  go_enter Try.func34, Try.ntmps34
  go_wp2
  go_ret
  exact ⟨rfl, rfl⟩

set_option maxHeartbeats 400000 in
theorem guPlace (base p : Nat) (a b : Int) (t : ByteArray) (A : Option Addr) (c : Nat) (l : List Gu) (turn : Int) (w : World) (hl : l.length ≤ 1000000) (hT : GuA w base p A c l turn) :
    Calls Try.prog 46 #[.pointer (some ⟨p, 0, none⟩), .int .i64 a, .int .i64 b, .string t] w fun e w' => e = .returned (.int .i64 (idxP (keyEq a b t) l)) ∧ Below w.heap.size w w' := by
  have c0 := hT.row
  have hp := hT.blk.lt
  have HT := Lib.hid hT
  clear hT
  have b1 : Blk (((w.alloc (Obj.cells #[Value.int IntKind.i64 a] 3)).alloc (Obj.cells #[Value.int IntKind.i64 b] 3)).alloc (Obj.cells #[Value.string t] 9)) w.heap.size 3 #[Value.int IntKind.i64 a] := ((Blk.new w _ _).alloc _).alloc _
  have b2 : Blk (((w.alloc (Obj.cells #[Value.int IntKind.i64 a] 3)).alloc (Obj.cells #[Value.int IntKind.i64 b] 3)).alloc (Obj.cells #[Value.string t] 9)) (w.heap.size + 1) 3 #[Value.int IntKind.i64 b] := by
    have := (Blk.new (w.alloc (Obj.cells #[Value.int IntKind.i64 a] 3)) 3 #[Value.int IntKind.i64 b]).alloc (Obj.cells #[Value.string t] 9)
    simpa using this
  have b3 : Blk (((w.alloc (Obj.cells #[Value.int IntKind.i64 a] 3)).alloc (Obj.cells #[Value.int IntKind.i64 b] 3)).alloc (Obj.cells #[Value.string t] 9)) (w.heap.size + 1 + 1) 9 #[Value.string t] := by
    have := (Blk.new ((w.alloc (Obj.cells #[Value.int IntKind.i64 a] 3)).alloc (Obj.cells #[Value.int IntKind.i64 b] 3)) 9 #[Value.string t])
    simpa using this
  have hb : Below w.heap.size w (((w.alloc (Obj.cells #[Value.int IntKind.i64 a] 3)).alloc (Obj.cells #[Value.int IntKind.i64 b] 3)).alloc (Obj.cells #[Value.string t] 9)) := (((Below.refl _ _).alloc (Nat.le_refl _) _).alloc (by simp) _).alloc (by simp; omega) _
  have z : (((w.alloc (Obj.cells #[Value.int IntKind.i64 a] 3)).alloc (Obj.cells #[Value.int IntKind.i64 b] 3)).alloc (Obj.cells #[Value.string t] 9)).cell? ⟨p, 0, none⟩ = some (.slice A l.length c) := (hb.cell (p := ⟨p, 0, none⟩) hp).trans c0
  have B1 := Lib.hid b1
  have B2 := Lib.hid b2
  have B3 := Lib.hid b3
  have Hb := Lib.hid hb
  clear b1 b2 b3 hb
  clear c0
  go_enter Try.func46, Try.ntmps46
  go_wp2_with fail
  generalize ((w.alloc (Obj.cells #[Value.int IntKind.i64 a] 3)).alloc (Obj.cells #[Value.int IntKind.i64 b] 3)).alloc (Obj.cells #[Value.string t] 9) = w0 at *
  refine (indexPlace w.heap.size (w.heap.size + 1) (w.heap.size + 1 + 1) a b t A c l w0 hl ((own_rd HT.out.own).below Hb.out) (B1.out.cell 0) (B2.out.cell 0) (B3.out.cell 0)).mono ?_
  rintro e w1 ⟨rfl, hb1⟩
  have HB := Lib.hid (blw_trans Hb.out hb1 Hb.out.size)
  clear B1 B2 B3 Hb hb1
  go_wp2
  go_ret
  exact ⟨rfl, HB.out⟩

set_option maxHeartbeats 400000 in
theorem containsSole (A : Option Addr) (c : Nat) (l : List Gu) (w : World) (hl : l.length ≤ 1000000) (hr : Rd w 6 A l.length (Gus l)) :
    Calls Try.prog 53 #[.slice A l.length c, .func (.func 54) #[] #[]] w fun e w' => e = .returned (.bool (l.any Gu.sole)) ∧ Below w.heap.size w w' := by
  have Hr := Lib.hid hr
  clear hr
  go_enter Try.func53, Try.ntmps53
  go_wp2_with fail
  refine (indexSole A c l _ hl Hr.out).mono ?_
  rintro e w1 ⟨rfl, hb1⟩
  go_wp2
  go_ret
  exact ⟨ret_bool (idxP_ge _ l), hb1⟩

theorem guSole (base p : Nat) (A : Option Addr) (c : Nat) (l : List Gu) (turn : Int) (w : World) (hl : l.length ≤ 1000000) (hT : GuA w base p A c l turn) :
    Calls Try.prog 35 #[.pointer (some ⟨p, 0, none⟩)] w fun e w' => e = .returned (.bool (l.any Gu.sole)) ∧ Below w.heap.size w w' := by
  have c0 := hT.row
  have HT := Lib.hid hT
  clear hT
  go_enter Try.func35, Try.ntmps35
  go_wp2_with fail
  refine (containsSole A c l _ hl (own_rd HT.out.own)).mono ?_
  rintro e w1 ⟨rfl, hb1⟩
  go_wp2
  go_ret
  exact ⟨rfl, hb1⟩

set_option maxHeartbeats 400000 in
theorem rgSole (base p : Nat) (A : Option Addr) (c : Nat) (l : List Gu) (turn : Int) (w : World) (hl : l.length ≤ 1000000) (hT : RuA w base p A c l turn) :
    Calls Try.prog 36 #[.pointer (some ⟨p, 0, none⟩)] w fun e w' => e = .returned (.bool (l.any Gu.sole)) ∧ w' = w := by
  have c0 := hT.row
  have HT := Lib.hid hT
  clear hT
  go_enter Try.func36, Try.ntmps36
  go_wp2
  go_loopg [3] (l.length) (fun g i wr => ∃ k : Nat, k + g = l.length ∧ i = .int .i64 k ∧ (∀ j (hj : j < l.length), j < k → l[j].sole = false) ∧ wr = w)
  case atStart => exact ⟨0, by omega, rfl, fun j _ hj => absurd hj (by omega), rfl⟩
  case round =>
    obtain ⟨k, hk, rfl, hno, rfl⟩ := hrel
    have Hk := Lib.hid hk
    have Hno := Lib.hid hno
    clear hk hno
    by_cases hlt : k < l.length
    · obtain ⟨b0, off, rfl, hc⟩ := (own_rd HT.out.own).2 (by omega)
      have q6 := hc _ _ (Gus_get l k hlt).2.2.2.2.2
      rw [← Nat.add_assoc] at q6
      clear hc
      obtain ⟨r, hrr⟩ : ∃ r, r = l[k].sole := ⟨_, rfl⟩
      rw [← hrr] at q6
      have Hrr := Lib.hid hrr
      clear hrr
      cases r with
      | true =>
        have HA : Hid (l.any Gu.sole = true) := List.any_eq_true.2 ⟨l[k], List.getElem_mem hlt, Hrr.out.symm⟩
        go_wp2
        go_ret
        exact ⟨ret_bool HA.out.symm, rfl⟩
      | false =>
        go_wp2
        go_roundg (l.length - (k + 1))
        case measure => have := Hk.out; omega
        case rel =>
          refine ⟨k + 1, by omega, by go_num, ?_, rfl⟩
          intro j hj hjk
          rcases Nat.lt_or_ge j k with h | h
          · exact Hno.out j hj h
          · obtain rfl : j = k := by omega
            exact Hrr.out.symm
    · have HA : Hid (l.any Gu.sole = false) := List.any_eq_false.2 fun z hz => by
        obtain ⟨j, hj, rfl⟩ := List.getElem_of_mem hz
        have := Hno.out j hj (by omega)
        rw [this]; decide
      go_wp2
      go_ret
      exact ⟨ret_bool HA.out.symm, rfl⟩

set_option maxHeartbeats 400000 in
theorem rgAt (base p : Nat) (a b : Int) (t : ByteArray) (A : Option Addr) (c : Nat) (l : List Gu) (turn : Int) (w : World) (hl : l.length ≤ 1000000) (hT : RuA w base p A c l turn) :
    Calls Try.prog 47 #[.pointer (some ⟨p, 0, none⟩), .int .i64 a, .int .i64 b, .string t] w fun e w' => e = .returned (.int .i64 (idxP (keyEq a b t) l)) ∧ w' = w := by
  have c0 := hT.row
  have HT := Lib.hid hT
  clear hT
  go_enter Try.func47, Try.ntmps47
  go_wp2
  go_loopg [9] (l.length) (fun g i wr => ∃ k : Nat, k + g = l.length ∧ i = .int .i64 k ∧ (∀ j (hj : j < l.length), j < k → keyEq a b t l[j] = false) ∧ wr = w)
  case atStart => exact ⟨0, by omega, rfl, fun j _ hj => absurd hj (by omega), rfl⟩
  case round =>
    obtain ⟨k, hk, rfl, hno, rfl⟩ := hrel
    have Hk := Lib.hid hk
    have Hno := Lib.hid hno
    clear hk hno
    by_cases hlt : k < l.length
    · obtain ⟨b0, off, rfl, hc⟩ := (own_rd HT.out.own).2 (by omega)
      obtain ⟨e1, e2, e3, _, _, _⟩ := Gus_get l k hlt
      have q1 := hc _ _ e1
      have q2 := hc _ _ e2
      have q3 := hc _ _ e3
      rw [← Nat.add_assoc] at q2 q3
      clear hc e1 e2 e3
      have HKE : Hid (keyEq a b t l[k] = (decide (l[k].conn = a) && (decide (l[k].chan = b) && (l[k].tag.toList == t.toList)))) := by unfold Hid keyEq; rw [ba_eq]
      obtain ⟨y1, hy1⟩ : ∃ y, y = l[k].conn := ⟨_, rfl⟩
      obtain ⟨y2, hy2⟩ : ∃ y, y = l[k].chan := ⟨_, rfl⟩
      obtain ⟨y3, hy3⟩ : ∃ y, y = l[k].tag := ⟨_, rfl⟩
      rw [← hy1] at q1
      rw [← hy2] at q2
      rw [← hy3] at q3
      rw [← hy1, ← hy2, ← hy3] at HKE
      clear hy1 hy2 hy3
      go_wp2
      · have e : keyEq a b t l[k] = true := by rw [HKE.out]; simp [*]
        have E := Lib.hid e
        clear e
        go_ret
        exact ⟨ret_i64 (idxP_found (keyEq a b t) l k hlt Hno.out E.out).symm, rfl⟩
      all_goals
        have e : keyEq a b t l[k] = false := by rw [HKE.out]; simp [*]
        have E := Lib.hid e
        clear e
        go_roundg (l.length - (k + 1))
        case measure => have := Hk.out; omega
        case rel =>
          refine ⟨k + 1, by omega, by go_num, ?_, rfl⟩
          intro j hj hjk
          rcases Nat.lt_or_ge j k with h | h
          · exact Hno.out j hj h
          · obtain rfl : j = k := by omega
            exact E.out
    · have HL := Lib.hid (idxP_none (keyEq a b t) l (fun j hj => Hno.out j hj (by omega)))
      go_wp2
      go_ret
      exact ⟨ret_i64 HL.out.symm, rfl⟩
end Go.Proofs.Ythaoplcmkaaflaa
