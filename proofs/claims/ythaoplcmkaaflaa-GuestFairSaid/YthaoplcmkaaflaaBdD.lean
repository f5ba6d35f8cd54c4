import Derived.Test.YthaoplcmkaaflaaBdC
namespace Go.Proofs.Ythaoplcmkaaflaa
open Go.RowKit

theorem bdNew (w : World) : Calls Try.prog 9 #[] w fun e w' => e = .returned (.pointer (some ⟨w.heap.size, 0, none⟩)) ∧ TabA w' w.heap.size w.heap.size none 0 [] ∧ Below w.heap.size w w' ∧ w'.heap.size = w.heap.size + 1 := by
  go_enter Try.func9, Try.ntmps9
  go_wp2
  go_ret
  exact ⟨rfl, ⟨Blk.new _ _ _, World.ownsRow_nil .., Nat.le_refl _⟩, (Below.refl _ _).alloc (Nat.le_refl _) _, by simp⟩

theorem bdLen (base p : Nat) (A : Option Addr) (c : Nat) (l : List Bd) (w : World) (hT : TabA w base p A c l) :
    Calls Try.prog 12 #[.pointer (some ⟨p, 0, none⟩)] w fun e w' => e = .returned (.int .i64 l.length) ∧ w' = w := by
  have c0 := hT.cell
  clear hT
  go_enter Try.func12, Try.ntmps12
  go_wp2
  go_ret
  exact ⟨rfl, rfl⟩

/-- each once, in the order of their first coming -/
def uniq (l : List ByteArray) : List ByteArray := l.foldl (fun o x => if o.any (fun y => decide (x = y)) then o else o ++ [x]) []
theorem uniq_snoc (l : List ByteArray) (x : ByteArray) : uniq (l ++ [x]) = if (uniq l).any (fun y => decide (x = y)) then uniq l else uniq l ++ [x] := by unfold uniq; rw [List.foldl_append]; rfl
theorem uniq_len (l : List ByteArray) : (uniq l).length ≤ l.length := by
  have : ∀ (l o : List ByteArray), (l.foldl (fun o x => if o.any (fun y => decide (x = y)) then o else o ++ [x]) o).length ≤ o.length + l.length := by
    intro l
    induction l with
    | nil => intro o; simp
    | cons x l ih =>
      intro o
      simp only [List.foldl_cons, List.length_cons]
      split
      · have := ih o; omega
      · have := ih (o ++ [x]); simp at this; omega
  simpa [uniq] using this l []
theorem Strs_one (l : List ByteArray) (x : ByteArray) : Strs l ++ [.string x] = Strs (l ++ [x]) := by simp [Strs]
theorem info_str : (Try.prog.info? 9).map (fun i => (i.zero, i.size, i.bytes)) = some (some (.string ⟨#[]⟩), 1, 16) := by kernel_rfl

def keyed (l : List Bd) (x k : ByteArray) : List ByteArray := ((l.filter fun b => decide (b.x = x)).filter fun b => decide (b.k = k)).map Bd.q

set_option maxHeartbeats 400000 in
theorem bdKeyed (base p : Nat) (x y : ByteArray) (A : Option Addr) (c : Nat) (l : List Bd) (w : World) (hl : l.length ≤ 1000000) (hT : TabA w base p A c l) :
    Calls Try.prog 23 #[.pointer (some ⟨p, 0, none⟩), .string x, .string y] w fun e w' => ∃ A' c', e = .returned (.slice A' (keyed l x y).length c') ∧ w'.ownsRow w.heap.size 9 1 (.slice A' (keyed l x y).length c') (keyed l x y).length (Strs (keyed l x y)) ∧ Below w.heap.size w w' := by
  have HO := Lib.hid (bdOf p x A c l w hl hT.blk (own_rd hT.own))
  clear hT
  go_enter Try.func23, Try.ntmps23
  go_wp2_with fail
  refine HO.out.mono ?_
  rintro e w0 ⟨A', c', rfl, hof, hb0⟩
  clear HO
  have HE : Hid (keyed l x y = ((l.filter fun b => decide (b.x = x)).filter fun b => decide (b.k = y)).map Bd.q) := rfl
  have hll : (l.filter fun b => decide (b.x = x)).length ≤ 1000000 := Nat.le_trans (List.length_filter_le ..) hl
  generalize l.filter (fun b => decide (b.x = x)) = f at *
  have hsz0 := hb0.size
  have Hr := Lib.hid (own_rd hof)
  have Hb0 := Lib.hid hb0
  clear hof hb0
  go_wp2
  go_loopg [7, 14] (f.length) (fun g s i wr => ∃ (k : Nat) (m : List ByteArray) (A1 : Option Addr) (c1 : Nat), k + g = f.length ∧ i = .int .i64 k ∧ m = ((f.take k).filter (fun b => decide (b.k = y))).map Bd.q ∧ s = .slice A1 m.length c1 ∧ wr.ownsRow w.heap.size 9 1 (.slice A1 m.length c1) m.length (Strs m) ∧ (∀ j, FA A1 j → w0.heap.size ≤ j) ∧ Below w0.heap.size w0 wr)
  case atStart => exact ⟨0, [], none, 0, by omega, rfl, rfl, rfl, World.ownsRow_nil .., fun j h => absurd h (FA_none j), Below.refl _ _⟩
  case round =>
    obtain ⟨k, m, A1, c1, hk, rfl, hm, rfl, ho, hfr, hb⟩ := hrel
    have hml : m.length ≤ k := by rw [hm, List.length_map]; exact Nat.le_trans (List.length_filter_le ..) (by simp; omega)
    by_cases hlt : k < f.length
    · have hr1 := Hr.out.below hb
      have hsz := hb.size
      have Hk := Lib.hid hk
      have Hm := Lib.hid hm
      have Ho := Lib.hid ho
      have Hfr := Lib.hid hfr
      have Hb := Lib.hid hb
      clear hk hm ho hfr hb
      obtain ⟨b, off, rfl, hc⟩ := hr1.2 (by omega)
      obtain ⟨e1, e2, e3⟩ := Bds_get f k hlt
      have g1 := hc _ _ e1
      have g2 := hc _ _ e2
      have g3 := hc _ _ e3
      rw [← Nat.add_assoc] at g2 g3
      clear hc e1 e2 e3 hr1
      generalize hy : f[k] = z at *
      have Hy := Lib.hid hy
      clear hy
      obtain ⟨y1, y2, y3⟩ := z
      dsimp only at g1 g2 g3
      go_wp2_with (at_builtin; refine wpList_app _ rfl _ _ 32 rfl w.heap.size 9 _ 1 16 Try.underlying32 info_str rfl (by decide) A1 c1 m.length (Strs m) rfl ?o1 _ 1 1 [.string y2] rfl ?o2 (one1 _) ?o4 ?o5 ?o6 ?o7)
      case o1 => exact (Ho.out.alloc _).alloc _
      case o2 => exact rd_alloc (by simp) rfl
      case o4 => unfold maxLen; omega
      case o5 => omega
      case o6 => simp; omega
      case o7 =>
        have hx : y3 = y := ba_t (by assumption)
        intro A2 c2 w1 ho1 hk1 hf1
        have hb1 : Below w0.heap.size w0 w1 := Hb.out.trans ((((Below.refl w0.heap.size wr).alloc hsz _).alloc (by simp; omega) _).trans (hk1.below (by simp; omega) (fun k hk h => by have := Hfr.out _ h; omega)))
        have hfr1 : ∀ j, FA A2 j → w0.heap.size ≤ j := fun j h => by
          rcases hf1 j h with h | h
          · exact Hfr.out j h
          · omega
        have Hx := Lib.hid hx
        have Ho1 := Lib.hid ho1
        have Hb1 := Lib.hid hb1
        have Hfr1 := Lib.hid hfr1
        clear hx ho1 hb1 hfr1
        clear hk1 hf1
        go_wp2
        go_roundg (f.length - (k + 1))
        case measure => have := Hk.out; omega
        case rel =>
          have e : ((f.take (k + 1)).filter (fun b => decide (b.k = y))).map Bd.q = m ++ [y2] := by
            rw [take_filter_succ _ f k hlt, List.map_append, ← Hm.out, Hy.out, if_pos (by simp [Hx.out])]; rfl
          refine ⟨k + 1, m ++ [y2], A2, c2, by omega, by go_num, e.symm, by simp, ?_, Hfr1.out, Hb1.out⟩
          rw [← Strs_one, show (m ++ [y2]).length = m.length + 1 by simp]
          exact Ho1.out
      all_goals
        have hx : y3 ≠ y := ba_f (by assumption)
        have Hx := Lib.hid hx
        clear hx
        go_roundg (f.length - (k + 1))
        case measure => have := Hk.out; omega
        case rel =>
          have e : ((f.take (k + 1)).filter (fun b => decide (b.k = y))).map Bd.q = m := by
            rw [take_filter_succ _ f k hlt, List.map_append, ← Hm.out, Hy.out, if_neg (by simp [Hx.out]), List.map_nil, List.append_nil]
          exact ⟨k + 1, m, A1, c1, by omega, by go_num, e.symm, rfl, Ho.out.alloc _, Hfr.out, Hb.out.alloc hsz _⟩
    · have e : m = keyed l x y := by rw [HE.out, hm, List.take_of_length_le (by omega)]
      subst e
      have Hk := Lib.hid hk
      have Hm := Lib.hid hm
      have Ho := Lib.hid ho
      have Hb := Lib.hid hb
      clear hk hm ho hb
      go_wp2
      go_ret
      exact ⟨A1, c1, rfl, Ho.out, Hb0.out.trans (Hb.out.mono hsz0)⟩

def exsOf (l : List Bd) (s : ByteArray) : List ByteArray := uniq ((l.filter fun b => decide (b.q = s)).map Bd.x)

set_option maxHeartbeats 800000 in
theorem bdDropQueue (s : ByteArray) (base p : Nat) (A : Option Addr) (c : Nat) (l : List Bd) (w : World) (hl : l.length ≤ 1000000) (hT : TabA w base p A c l) :
    Calls Try.prog 11 #[.pointer (some ⟨p, 0, none⟩), .string s] w fun e w' => ∃ Ao co A' c', e = .returned (.slice Ao (exsOf l s).length co) ∧
      w'.ownsRow w.heap.size 9 1 (.slice Ao (exsOf l s).length co) (exsOf l s).length (Strs (exsOf l s)) ∧
      TabA w' base p A' c' (l.filter fun b => !decide (b.q = s)) ∧ Kp (fun k => k = p) w w' ∧ (∀ k, FA A' k → w.heap.size ≤ k) := by
  have hp := hT.blk.lt
  have HT := Lib.hid hT
  clear hT
  go_enter Try.func11, Try.ntmps11
  go_wp2_with fail
  have n0 : Blk (w.alloc (Obj.cells #[Value.string s] 9)) w.heap.size 9 #[Value.string s] := Blk.new _ _ _
  have k0 : Below w.heap.size w (w.alloc (Obj.cells #[Value.string s] 9)) := (Below.refl _ _).alloc (Nat.le_refl _) _
  generalize w.alloc (Obj.cells #[Value.string s] 9) = w0 at *
  refine (bddropQ w.heap.size s base p A c l w0 hl (HT.out.kp (G := None') (Kp.of_below k0) id (fun _ _ => id)) (n0.cell 0)).mono ?_
  rintro e w1 ⟨Ad, cd, A', c', rfl, hod, hT1, hk1, hf1⟩
  have HE : Hid (exsOf l s = uniq ((l.filter fun b => decide (b.q = s)).map Bd.x)) := rfl
  have hll : (l.filter fun b => decide (b.q = s)).length ≤ 1000000 := Nat.le_trans (List.length_filter_le ..) hl
  generalize l.filter (fun b => decide (b.q = s)) = f at *
  have hsz0 := k0.size
  have hsz1 := hk1.size
  have Hr := Lib.hid (own_rd hod)
  have HK := Lib.hid ((Kp.of_below (F := fun k => k = p) k0).trans hk1 (fun _ _ h => h))
  have HF1 := Lib.hid hf1
  have HT1 := Lib.hid hT1
  clear n0 k0 hod hk1 hf1 hT1
  go_wp2
  go_loopg [5, 12] (f.length) (fun g s i wr => ∃ (k : Nat) (m : List ByteArray) (A1 : Option Addr) (c1 : Nat), k + g = f.length ∧ i = .int .i64 k ∧ m = uniq ((f.take k).map Bd.x) ∧ s = .slice A1 m.length c1 ∧ wr.ownsRow w.heap.size 9 1 (.slice A1 m.length c1) m.length (Strs m) ∧ (∀ j, FA A1 j → w1.heap.size ≤ j) ∧ Below w1.heap.size w1 wr)
  case atStart => exact ⟨0, [], none, 0, by omega, rfl, rfl, rfl, World.ownsRow_nil .., fun j h => absurd h (FA_none j), Below.refl _ _⟩
  case round =>
    obtain ⟨k, m, A1, c1, hk, rfl, hm, rfl, ho, hfr, hb⟩ := hrel
    have hml : m.length ≤ k := by rw [hm]; exact Nat.le_trans (uniq_len _) (by simp; omega)
    by_cases hlt : k < f.length
    · have hr1 := Hr.out.below hb
      have hsz := hb.size
      have Hk := Lib.hid hk
      have Hm := Lib.hid hm
      have Ho := Lib.hid ho
      have Hfr := Lib.hid hfr
      have Hb := Lib.hid hb
      clear hk hm ho hfr hb
      obtain ⟨b, off, rfl, hc⟩ := hr1.2 (by omega)
      obtain ⟨e1, e2, e3⟩ := Bds_get f k hlt
      have g1 := hc _ _ e1
      have g2 := hc _ _ e2
      have g3 := hc _ _ e3
      rw [← Nat.add_assoc] at g2 g3
      clear hc e1 e2 e3 hr1
      have E0 : Hid (uniq ((f.take (k + 1)).map Bd.x) = if m.any (fun y => decide ((f[k]).x = y)) then m else m ++ [(f[k]).x]) := by
        unfold Hid; rw [List.take_succ_eq_append_getElem hlt, List.map_append, List.map_cons, List.map_nil, uniq_snoc, ← Hm.out]
      generalize hy : f[k] = z at *
      clear hy
      obtain ⟨y1, y2, y3⟩ := z
      dsimp only at g1 g2 g3
      by_cases hx : (m.any fun y => decide (y1 = y)) = true
      · have E1 : Hid (uniq ((f.take (k + 1)).map Bd.x) = m) := by unfold Hid; rw [E0.out, if_pos hx]
        have Hx := Lib.hid hx
        clear hx
        go_wp2_with (go_at_call 41; refine (containsStr true A1 c1 m y1 _ (by omega) (own_rd (Ho.out.alloc _)) Hx.out).mono ?_; rintro e w2 ⟨rfl, rfl⟩)
        go_roundg (f.length - (k + 1))
        case measure => have := Hk.out; omega
        case rel => exact ⟨k + 1, m, A1, c1, by omega, by go_num, E1.out.symm, rfl, Ho.out.alloc _, Hfr.out, Hb.out.alloc hsz _⟩
      · have E1 : Hid (uniq ((f.take (k + 1)).map Bd.x) = m ++ [y1]) := by unfold Hid; rw [E0.out, if_neg hx]
        have hx' : (m.any fun y => decide (y1 = y)) = false := eq_false_of_ne_true hx
        clear hx
        have HX := Lib.hid hx'
        clear hx'
        go_wp2_with (first | (go_at_call 41; refine (containsStr false A1 c1 m y1 _ (by omega) (own_rd (Ho.out.alloc _)) HX.out).mono ?_; rintro e w2 ⟨rfl, rfl⟩) | (at_builtin; refine wpList_app _ rfl _ _ 32 rfl w.heap.size 9 _ 1 16 Try.underlying32 info_str rfl (by decide) A1 c1 m.length (Strs m) rfl ?o1 _ 1 1 [.string y1] rfl ?o2 (one1 _) ?o4 ?o5 ?o6 ?o7))
        case o1 => exact (Ho.out.alloc _).alloc _
        case o2 => exact rd_alloc (by simp) rfl
        case o4 => unfold maxLen; omega
        case o5 => omega
        case o6 => simp; omega
        case o7 =>
          intro A2 c2 w2 ho1 hk1 hf1
          have hb1 : Below w1.heap.size w1 w2 := Hb.out.trans ((((Below.refl w1.heap.size wr).alloc hsz _).alloc (by simp; omega) _).trans (hk1.below (by simp; omega) (fun k hk h => by have := Hfr.out _ h; omega)))
          have hfr1 : ∀ j, FA A2 j → w1.heap.size ≤ j := fun j h => by
            rcases hf1 j h with h | h
            · exact Hfr.out j h
            · omega
          have Ho1 := Lib.hid ho1
          have Hb1 := Lib.hid hb1
          have Hfr1 := Lib.hid hfr1
          clear ho1 hb1 hfr1
          clear hk1 hf1
          go_wp2
          go_roundg (f.length - (k + 1))
          case measure => have := Hk.out; omega
          case rel =>
            refine ⟨k + 1, m ++ [y1], A2, c2, by omega, by go_num, E1.out.symm, by simp, ?_, Hfr1.out, Hb1.out⟩
            rw [← Strs_one, show (m ++ [y1]).length = m.length + 1 by simp]
            exact Ho1.out
    · have e : m = exsOf l s := by rw [HE.out, hm, List.take_of_length_le (by omega)]
      subst e
      have Hk := Lib.hid hk
      have Hm := Lib.hid hm
      have Ho := Lib.hid ho
      have Hb := Lib.hid hb
      clear hk hm ho hb
      go_wp2
      go_ret
      exact ⟨A1, c1, A', c', rfl, Ho.out, HT1.out.kp (G := None') (Kp.of_below Hb.out) id (fun _ _ => id), HK.out.trans (Kp.of_below (F := None') Hb.out) (fun _ _ h => h.elim), fun j h => Nat.le_trans hsz0 (HF1.out j h)⟩

set_option maxHeartbeats 400000 in
theorem bdDropExchange (s : ByteArray) (base p : Nat) (A : Option Addr) (c : Nat) (l : List Bd) (w : World) (hl : l.length ≤ 1000000) (hT : TabA w base p A c l) :
    Calls Try.prog 18 #[.pointer (some ⟨p, 0, none⟩), .string s] w fun e w' => ∃ A' c', e = .returned (.tuple #[]) ∧
      TabA w' base p A' c' (l.filter fun b => !decide (b.x = s)) ∧ Kp (fun k => k = p) w w' ∧ (∀ k, FA A' k → w.heap.size ≤ k) := by
  have HT := Lib.hid hT
  clear hT
  go_enter Try.func18, Try.ntmps18
  go_wp2_with fail
  have n0 : Blk (w.alloc (Obj.cells #[Value.string s] 9)) w.heap.size 9 #[Value.string s] := Blk.new _ _ _
  have k0 : Below w.heap.size w (w.alloc (Obj.cells #[Value.string s] 9)) := (Below.refl _ _).alloc (Nat.le_refl _) _
  generalize w.alloc (Obj.cells #[Value.string s] 9) = w0 at *
  refine (bddropX w.heap.size s base p A c l w0 hl (HT.out.kp (G := None') (Kp.of_below k0) id (fun _ _ => id)) (n0.cell 0)).mono ?_
  rintro e w1 ⟨Ad, cd, A', c', rfl, hod, hT1, hk1, hf1⟩
  have HK := Lib.hid ((Kp.of_below (F := fun k => k = p) k0).trans hk1 (fun _ _ h => h))
  have HF1 := Lib.hid hf1
  have HT1 := Lib.hid hT1
  have hsz0 := k0.size
  clear n0 k0 hod hk1 hf1 hT1
  go_wp2
  go_end0
  exact ⟨A', c', rfl, HT1.out, HK.out, fun j h => Nat.le_trans hsz0 (HF1.out j h)⟩
end Go.Proofs.Ythaoplcmkaaflaa
