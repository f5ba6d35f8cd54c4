import Derived.Test.YthaoplcmkaaflaaRefA
namespace Go.Proofs.Ythaoplcmkaaflaa
open Go.RowKit

theorem not_t {b : Bool} (h : (!b) = true) : b = false := by simpa using h
theorem not_f {b : Bool} (h : (!b) = false) : b = true := by simpa using h

set_option maxHeartbeats 400000 in
theorem refOf (base p : Nat) (x : ByteArray) (A : Option Addr) (c : Nat) (l : List Bd) (w : World) (hl : l.length ≤ 1000000) (hT : RefA w base p A c l) :
    Calls Try.prog 20 #[.pointer (some ⟨p, 0, none⟩), .string x] w fun e w' => ∃ A' c', e = .returned (.slice A' (l.filter fun b => decide (b.x = x)).length c') ∧ w'.ownsRow w.heap.size 28 3 (.slice A' (l.filter fun b => decide (b.x = x)).length c') (l.filter fun b => decide (b.x = x)).length (Bds (l.filter fun b => decide (b.x = x))) ∧ Below w.heap.size w w' := by
  have HT := Lib.hid hT
  clear hT
  go_enter Try.func20, Try.ntmps20
  go_wp2
  go_loopg [5, 6] (l.length) (fun g s i wr => ∃ (k : Nat) (m : List Bd) (A' : Option Addr) (c' : Nat), k + g = l.length ∧ i = .int .i64 k ∧ m = (l.take k).filter (fun b => decide (b.x = x)) ∧ s = .slice A' m.length c' ∧ wr.ownsRow w.heap.size 28 3 (.slice A' m.length c') m.length (Bds m) ∧ Below w.heap.size w wr)
  case atStart => exact ⟨0, [], none, 0, by omega, rfl, rfl, rfl, World.ownsRow_nil .., Below.refl _ _⟩
  case round =>
    obtain ⟨k, m, A', c', hk, rfl, hm, rfl, ho, hb⟩ := hrel
    have hml : m.length ≤ k := by rw [hm]; exact Nat.le_trans (List.length_filter_le ..) (by simp; omega)
    have hT1 : RefA wr base p A c l := HT.out.kp (G := None') (Kp.of_below hb) id (fun _ _ => id)
    have c0 := hT1.cell
    by_cases hlt : k < l.length
    · have hr1 := own_rd hT1.own
      have hsz := hb.size
      have Hk := Lib.hid hk
      have Hm := Lib.hid hm
      have Ho := Lib.hid ho
      have Hb := Lib.hid hb
      have HT1 := Lib.hid hT1
      clear hk hm ho hb hT1
      obtain ⟨b, off, rfl, hc⟩ := hr1.2 (by omega)
      obtain ⟨e1, e2, e3⟩ := Bds_get l k hlt
      have g1 := hc _ _ e1
      have g2 := hc _ _ e2
      have g3 := hc _ _ e3
      rw [← Nat.add_assoc] at g2 g3
      clear hc e1 e2 e3 hr1
      generalize hy : l[k] = y at *
      have Hy := Lib.hid hy
      clear hy
      obtain ⟨y1, y2, y3⟩ := y
      dsimp only at g1 g2 g3
      go_wp2_with (at_builtin; refine wpList_app _ rfl _ _ 39 rfl w.heap.size 28 _ 3 48 Try.underlying39 info_bd rfl (by decide) A' c' m.length (Bds m) rfl ?o1 _ 1 1 [.string y1, .string y2, .string y3] rfl ?o2 (one3 _ _ _) ?o4 ?o5 ?o6 ?o7)
      case o1 => exact Ho.out.alloc _
      case o2 => exact rd_alloc (by simp) rfl
      case o4 => unfold maxLen; omega
      case o5 => omega
      case o6 => simp; omega
      case o7 =>
        have hx : y1 = x := ba_t (by assumption)
        intro A1 c1 w1 ho1 hk1 hf1
        have hb1 : Below w.heap.size w w1 := Hb.out.trans (((Below.refl w.heap.size wr).alloc hsz _).trans (hk1.below (by simp; omega) (fun k hk h => by have := (own_fa Ho.out h).1; omega)))
        have Hx := Lib.hid hx
        have Ho1 := Lib.hid ho1
        have Hb1 := Lib.hid hb1
        clear hx ho1 hb1
        clear hk1 hf1
        go_wp2
        go_roundg (l.length - (k + 1))
        case measure => have := Hk.out; omega
        case rel =>
          have e : (l.take (k + 1)).filter (fun b => decide (b.x = x)) = m ++ [(⟨y1, y2, y3⟩ : Bd)] := by
            rw [take_filter_succ _ l k hlt, ← Hm.out, Hy.out, if_pos (by simp [Hx.out])]
          refine ⟨k + 1, m ++ [⟨y1, y2, y3⟩], A1, c1, by omega, by go_num, e.symm, by simp, ?_, Hb1.out⟩
          rw [← Bds_one, show (m ++ [(⟨y1, y2, y3⟩ : Bd)]).length = m.length + 1 by simp]
          exact Ho1.out
      all_goals
        have hx : y1 ≠ x := ba_f (by assumption)
        have Hx := Lib.hid hx
        clear hx
        go_roundg (l.length - (k + 1))
        case measure => have := Hk.out; omega
        case rel =>
          have e : (l.take (k + 1)).filter (fun b => decide (b.x = x)) = m := by
            rw [take_filter_succ _ l k hlt, ← Hm.out, Hy.out, if_neg (by simp [Hx.out]), List.append_nil]
          exact ⟨k + 1, m, A', c', by omega, by go_num, e.symm, rfl, Ho.out, Hb.out⟩
    · have e : m = l.filter (fun b => decide (b.x = x)) := by rw [hm, List.take_of_length_le (by omega)]
      subst e
      have Hk := Lib.hid hk
      have Hm := Lib.hid hm
      have Ho := Lib.hid ho
      have Hb := Lib.hid hb
      clear hk hm ho hb
      go_wp2
      go_ret
      exact ⟨A', c', rfl, Ho.out, Hb.out⟩
set_option maxHeartbeats 400000 in
theorem refDropExchange (x : ByteArray) (base p : Nat) (A : Option Addr) (c : Nat) (l : List Bd) (w : World) (hl : l.length ≤ 1000000) (hT : RefA w base p A c l) :
    Calls Try.prog 19 #[.pointer (some ⟨p, 0, none⟩), .string x] w fun e w' => ∃ A' c', e = .returned (.tuple #[]) ∧ RefA w' base p A' c' (l.filter fun b => !decide (b.x = x)) ∧ Kp (fun k => k = p) w w' ∧ ∀ k, FA A' k → w.heap.size ≤ k := by
  have hp := hT.blk.lt
  have HT := Lib.hid hT
  clear hT
  go_enter Try.func19, Try.ntmps19
  go_wp2
  go_loopg [4, 5] (l.length) (fun g s i wr => ∃ (k : Nat) (m : List Bd) (A' : Option Addr) (c' : Nat), k + g = l.length ∧ i = .int .i64 k ∧ m = (l.take k).filter (fun b => !decide (b.x = x)) ∧ s = .slice A' m.length c' ∧ wr.ownsRow w.heap.size 28 3 (.slice A' m.length c') m.length (Bds m) ∧ Below w.heap.size w wr)
  case atStart => exact ⟨0, [], none, 0, by omega, rfl, rfl, rfl, World.ownsRow_nil .., Below.refl _ _⟩
  case round =>
    obtain ⟨k, m, A', c', hk, rfl, hm, rfl, ho, hb⟩ := hrel
    have hml : m.length ≤ k := by rw [hm]; exact Nat.le_trans (List.length_filter_le ..) (by simp; omega)
    have hT1 : RefA wr base p A c l := HT.out.kp (G := None') (Kp.of_below hb) id (fun _ _ => id)
    have c0 := hT1.cell
    have f0 := hT1.blk.frozen 0
    by_cases hlt : k < l.length
    · have hr1 := own_rd hT1.own
      have hsz := hb.size
      have Hk := Lib.hid hk
      have Hm := Lib.hid hm
      have Ho := Lib.hid ho
      have Hb := Lib.hid hb
      have HT1 := Lib.hid hT1
      clear hk hm ho hb hT1
      obtain ⟨b, off, rfl, hc⟩ := hr1.2 (by omega)
      obtain ⟨e1, e2, e3⟩ := Bds_get l k hlt
      have g1 := hc _ _ e1
      have g2 := hc _ _ e2
      have g3 := hc _ _ e3
      rw [← Nat.add_assoc] at g2 g3
      clear hc e1 e2 e3 hr1
      generalize hy : l[k] = y at *
      have Hy := Lib.hid hy
      clear hy
      obtain ⟨y1, y2, y3⟩ := y
      dsimp only at g1 g2 g3
      go_wp2_with (at_builtin; refine wpList_app _ rfl _ _ 39 rfl w.heap.size 28 _ 3 48 Try.underlying39 info_bd rfl (by decide) A' c' m.length (Bds m) rfl ?o1 _ 1 1 [.string y1, .string y2, .string y3] rfl ?o2 (one3 _ _ _) ?o4 ?o5 ?o6 ?o7)
      case o1 => exact Ho.out.alloc _
      case o2 => exact rd_alloc (by simp) rfl
      case o4 => unfold maxLen; omega
      case o5 => omega
      case o6 => simp; omega
      case o7 =>
        have hx : y1 ≠ x := ba_f (not_t (by assumption))
        intro A1 c1 w1 ho1 hk1 hf1
        have hb1 : Below w.heap.size w w1 := Hb.out.trans (((Below.refl w.heap.size wr).alloc hsz _).trans (hk1.below (by simp; omega) (fun k hk h => by have := (own_fa Ho.out h).1; omega)))
        have Hx := Lib.hid hx
        have Ho1 := Lib.hid ho1
        have Hb1 := Lib.hid hb1
        clear hx ho1 hb1
        clear hk1 hf1
        go_wp2
        go_roundg (l.length - (k + 1))
        case measure => have := Hk.out; omega
        case rel =>
          have e : (l.take (k + 1)).filter (fun b => !decide (b.x = x)) = m ++ [(⟨y1, y2, y3⟩ : Bd)] := by
            rw [take_filter_succ _ l k hlt, ← Hm.out, Hy.out, if_pos (by simp [Hx.out])]
          refine ⟨k + 1, m ++ [⟨y1, y2, y3⟩], A1, c1, by omega, by go_num, e.symm, by simp, ?_, Hb1.out⟩
          rw [← Bds_one, show (m ++ [(⟨y1, y2, y3⟩ : Bd)]).length = m.length + 1 by simp]
          exact Ho1.out
      all_goals
        have hx : y1 = x := ba_t (not_f (by assumption))
        have Hx := Lib.hid hx
        clear hx
        go_roundg (l.length - (k + 1))
        case measure => have := Hk.out; omega
        case rel =>
          have e : (l.take (k + 1)).filter (fun b => !decide (b.x = x)) = m := by
            rw [take_filter_succ _ l k hlt, ← Hm.out, Hy.out, if_neg (by simp [Hx.out]), List.append_nil]
          exact ⟨k + 1, m, A', c', by omega, by go_num, e.symm, rfl, Ho.out, Hb.out⟩
    · have e : m = l.filter (fun b => !decide (b.x = x)) := by rw [hm, List.take_of_length_le (by omega)]
      subst e
      have Hk := Lib.hid hk
      have Hm := Lib.hid hm
      have Ho := Lib.hid ho
      have Hb := Lib.hid hb
      have HT1 := Lib.hid hT1
      clear hk hm ho hb hT1
      go_wp2
      go_end0
      refine ⟨A', c', rfl, ⟨HT1.out.blk.set_ 0 _, own_mono (own_kp Ho.out (Kp.set1 p 0 _) (fun j h e => ?_)) (by have := HT.out.le; omega), HT.out.le⟩, Kp.setCell (F := fun k => k = p) (p := ⟨p, 0, none⟩) (Kp.of_below Hb.out) (fun _ => rfl) _, fun j h => (own_fa Ho.out h).1⟩
      have := (own_fa Ho.out h).1; omega
set_option maxHeartbeats 400000 in
theorem refDrop (base p : Nat) (A : Option Addr) (c : Nat) (l : List Bd) (x : Bd) (w : World) (hl : l.length ≤ 1000000) (hT : RefA w base p A c l) :
    Calls Try.prog 15 #[.pointer (some ⟨p, 0, none⟩), x.v] w fun e w' => ∃ A' c', e = .returned (.bool (decide (x ∈ l))) ∧ RefA w' base p A' c' (l.filter fun b => !decide (b = x)) ∧ Kp (fun k => k = p) w w' ∧ ∀ k, FA A' k → w.heap.size ≤ k := by
  obtain ⟨x1, x2, x3⟩ := x
  simp only [Bd.v]
  have hp := hT.blk.lt
  have HT := Lib.hid hT
  clear hT
  go_enter Try.func15, Try.ntmps15
  go_wp2
  have hb0 : Below w.heap.size w (w.alloc (Obj.cells #[Value.string x1, Value.string x2, Value.string x3] 28)) := (Below.refl _ _).alloc (Nat.le_refl _) _
  have d0 : Blk (w.alloc (Obj.cells #[Value.string x1, Value.string x2, Value.string x3] 28)) w.heap.size 28 #[Value.string x1, Value.string x2, Value.string x3] := Blk.new _ _ _
  have hs0 : (w.alloc (Obj.cells #[Value.string x1, Value.string x2, Value.string x3] 28)).heap.size = w.heap.size + 1 := by simp
  generalize w.alloc (Obj.cells #[Value.string x1, Value.string x2, Value.string x3] 28) = w0 at *
  have Hb0 := Lib.hid hb0
  have D0 := Lib.hid d0
  clear hb0 d0
  go_loopg [5, 6] (l.length) (fun g s i wr => ∃ (k : Nat) (m : List Bd) (A' : Option Addr) (c' : Nat), k + g = l.length ∧ i = .int .i64 k ∧ m = (l.take k).filter (fun b => !decide (b = ⟨x1, x2, x3⟩)) ∧ s = .slice A' m.length c' ∧ wr.ownsRow w0.heap.size 28 3 (.slice A' m.length c') m.length (Bds m) ∧ Below w0.heap.size w0 wr)
  case atStart => exact ⟨0, [], none, 0, by omega, rfl, rfl, rfl, World.ownsRow_nil .., Below.refl _ _⟩
  case round =>
    obtain ⟨k, m, A', c', hk, rfl, hm, rfl, ho, hb⟩ := hrel
    have hml : m.length ≤ k := by rw [hm]; exact Nat.le_trans (List.length_filter_le ..) (by simp; omega)
    have hT1 : RefA wr base p A c l := (HT.out.kp (G := None') (Kp.of_below Hb0.out) id (fun _ _ => id)).kp (G := None') (Kp.of_below hb) id (fun _ _ => id)
    have c0 := hT1.cell
    have f0 := hT1.blk.frozen 0
    have d1 := D0.out.below hb
    have h0 : wr.cell? ⟨w.heap.size, 0, none⟩ = some (.string x1) := d1.cell 0
    have h1 : wr.cell? ⟨w.heap.size, 1, none⟩ = some (.string x2) := d1.cell 1
    have h2 : wr.cell? ⟨w.heap.size, 2, none⟩ = some (.string x3) := d1.cell 2
    clear d1
    by_cases hlt : k < l.length
    · have hr1 := own_rd hT1.own
      have hsz := hb.size
      have Hk := Lib.hid hk
      have Hm := Lib.hid hm
      have Ho := Lib.hid ho
      have Hb := Lib.hid hb
      have HT1 := Lib.hid hT1
      clear hk hm ho hb hT1
      obtain ⟨b, off, rfl, hc⟩ := hr1.2 (by omega)
      obtain ⟨e1, e2, e3⟩ := Bds_get l k hlt
      have g1 := hc _ _ e1
      have g2 := hc _ _ e2
      have g3 := hc _ _ e3
      rw [← Nat.add_assoc] at g2 g3
      clear hc e1 e2 e3 hr1
      generalize hy : l[k] = y at *
      have Hy := Lib.hid hy
      clear hy
      obtain ⟨y1, y2, y3⟩ := y
      dsimp only at g1 g2 g3
      have HB := Lib.hid (bdEq_iff ⟨y1, y2, y3⟩ ⟨x1, x2, x3⟩)
      dsimp only at HB
      go_wp2
      go_quiet (fail)
      go_wp2_with (at_builtin; refine wpList_app _ rfl _ _ 39 rfl w0.heap.size 28 _ 3 48 Try.underlying39 info_bd rfl (by decide) A' c' m.length (Bds m) rfl ?o1 _ 1 1 [.string y1, .string y2, .string y3] rfl ?o2 (one3 _ _ _) ?o4 ?o5 ?o6 ?o7)
      case o1 => exact Ho.out.alloc _
      case o2 => exact rd_alloc (by simp) rfl
      case o4 => unfold maxLen; omega
      case o5 => omega
      case o6 => simp; omega
      case o7 =>
        have hx : (⟨y1, y2, y3⟩ : Bd) ≠ ⟨x1, x2, x3⟩ := of_decide_eq_false (by rw [← HB.out]; exact not_t (by assumption))
        intro A1 c1 w1 ho1 hk1 hf1
        have hb1 : Below w0.heap.size w0 w1 := Hb.out.trans ((blw_drewN ((Below.refl w0.heap.size wr).alloc hsz _) _).trans (hk1.below (by simp; omega) (fun k hk h => by have := (own_fa Ho.out h).1; omega)))
        have Hx := Lib.hid hx
        have Ho1 := Lib.hid ho1
        have Hb1 := Lib.hid hb1
        clear hx ho1 hb1
        clear hk1 hf1
        go_wp2
        go_roundg (l.length - (k + 1))
        case measure => have := Hk.out; omega
        case rel =>
          have e : (l.take (k + 1)).filter (fun b => !decide (b = ⟨x1, x2, x3⟩)) = m ++ [(⟨y1, y2, y3⟩ : Bd)] := by
            rw [take_filter_succ _ l k hlt, ← Hm.out, Hy.out, if_pos (by rw [decide_eq_false Hx.out]; rfl)]
          refine ⟨k + 1, m ++ [⟨y1, y2, y3⟩], A1, c1, by omega, by go_num, e.symm, by simp, ?_, Hb1.out⟩
          rw [← Bds_one, show (m ++ [(⟨y1, y2, y3⟩ : Bd)]).length = m.length + 1 by simp]
          rw [hs0]
          exact Ho1.out
      all_goals
        have hx : (⟨y1, y2, y3⟩ : Bd) = ⟨x1, x2, x3⟩ := of_decide_eq_true (by rw [← HB.out]; exact not_f (by assumption))
        have Hx := Lib.hid hx
        clear hx
        go_roundg (l.length - (k + 1))
        case measure => have := Hk.out; omega
        case rel =>
          have e : (l.take (k + 1)).filter (fun b => !decide (b = ⟨x1, x2, x3⟩)) = m := by
            rw [take_filter_succ _ l k hlt, ← Hm.out, Hy.out, if_neg (by rw [decide_eq_true Hx.out]; decide), List.append_nil]
          exact ⟨k + 1, m, A', c', by omega, by go_num, e.symm, rfl, Ho.out, blw_drewN Hb.out _⟩
    · have e : m = l.filter (fun b => !decide (b = ⟨x1, x2, x3⟩)) := by rw [hm, List.take_of_length_le (by omega)]
      subst e
      have Hk := Lib.hid hk
      have Hm := Lib.hid hm
      have Ho := Lib.hid ho
      have Hb := Lib.hid hb
      have HT1 := Lib.hid hT1
      clear hk hm ho hb hT1
      go_wp2
      go_ret
      refine ⟨A', c', rfl, ⟨HT1.out.blk.set_ 0 _, own_mono (own_kp Ho.out (Kp.set1 p 0 _) (fun j h e => ?_)) (by have := HT.out.le; omega), HT.out.le⟩, Kp.setCell (F := fun k => k = p) (p := ⟨p, 0, none⟩) ((Kp.of_below Hb0.out).trans (Kp.of_below Hb.out) (fun _ _ h => h)) (fun _ => rfl) _, fun j h => by have := (own_fa Ho.out h).1; omega⟩
      have := (own_fa Ho.out h).1; omega
end Go.Proofs.Ythaoplcmkaaflaa
