import Derived.Test.YthaoplcmkaaflaaBdB
import Derived.Test.YthaoplcmkaaflaaStr
import Derived.Test.YthaoplcmkaaflaaGoto
namespace Go.Proofs.Ythaoplcmkaaflaa
open Go.RowKit

set_option maxHeartbeats 400000 in
theorem bdCloQ (g : Nat) (s : ByteArray) (b : Bd) (w : World) (hc : w.cell? ⟨g, 0, none⟩ = some (.string s)) :
    Calls Try.prog 40 #[b.v, .pointer (some ⟨g, 0, none⟩)] w fun e w' => e = .returned (.bool (decide (b.q = s))) ∧ Below w.heap.size w w' := by
  obtain ⟨x1, x2, x3⟩ := b
  simp only [Bd.v]
  have hg := World.block_lt_of_cell? w _ hc
  dsimp only at hg
  have hb : Below w.heap.size w (w.alloc (Obj.cells #[Value.string x1, Value.string x2, Value.string x3] 28)) := (Below.refl _ _).alloc (Nat.le_refl _) _
  have hc1 : (w.alloc (Obj.cells #[Value.string x1, Value.string x2, Value.string x3] 28)).cell? ⟨g, 0, none⟩ = some (.string s) := (hb.cell (p := ⟨g, 0, none⟩) hg).trans hc
  have Hb := Lib.hid hb
  have Hc := Lib.hid hc
  clear hb hc
  go_enter Try.func40, Try.ntmps40
  go_wp2
  go_ret
  exact ⟨ret_bool (ba_eq _ _), Hb.out⟩

set_option maxHeartbeats 800000 in
theorem bddropQ (g : Nat) (s : ByteArray) (base p : Nat) (A : Option Addr) (c : Nat) (l : List Bd) (w : World) (hl : l.length ≤ 1000000) (hT : TabA w base p A c l) (hc : w.cell? ⟨g, 0, none⟩ = some (.string s)) :
    Calls Try.prog 39 #[.pointer (some ⟨p, 0, none⟩), .func (.func 40) #[] #[.pointer (some ⟨g, 0, none⟩)]] w fun e w' => ∃ Ao co A' c', e = .returned (.slice Ao (l.filter fun b => decide (b.q = s)).length co) ∧
      w'.ownsRow w.heap.size 28 3 (.slice Ao (l.filter fun b => decide (b.q = s)).length co) (l.filter fun b => decide (b.q = s)).length (Bds (l.filter fun b => decide (b.q = s))) ∧
      TabA w' base p A' c' (l.filter fun b => !decide (b.q = s)) ∧ Kp (fun k => k = p) w w' ∧ (∀ k, FA A' k → w.heap.size ≤ k) := by
  have hg := World.block_lt_of_cell? w _ hc
  have hp := hT.blk.lt
  dsimp only at hg
  have HT := Lib.hid hT
  have HC := Lib.hid hc
  clear hT hc
  go_enter Try.func39, Try.ntmps39
  go_wp2
  refine wp_scope_ghost 0 (fun g' a wr => ∃ u2 u3 u5 u6 u7 u8 u9 u10 u11 u12 u13 u14 u15 u16 u17 u18 u19 u20 u21 u22 u23 u24 u25 u26 u27 u28 u29 u30 u31 u32 u33 u34 u35 u36 u37 u38 u39 u40, (∃ (k : Nat) (m1 m2 : List Bd) (A1 A2 : Option Addr) (c1 c2 : Nat), k + g' = l.length ∧ u7 = .int .i64 k ∧ m1 = (l.take k).filter (fun b => decide (b.q = s)) ∧ m2 = (l.take k).filter (fun b => !decide (b.q = s)) ∧ u5 = .slice A1 m1.length c1 ∧ u6 = .slice A2 m2.length c2 ∧
      wr.ownsRow w.heap.size 28 3 (.slice A1 m1.length c1) m1.length (Bds m1) ∧ wr.ownsRow w.heap.size 28 3 (.slice A2 m2.length c2) m2.length (Bds m2) ∧ (∀ j, FA A1 j → ¬ FA A2 j) ∧ Below w.heap.size w wr) ∧
      a = { tmps := #[.pointer (some ⟨p, 0, none⟩), .func (.func 40) #[] #[.pointer (some ⟨g, 0, none⟩)], u2, u3, .slice none 0 0, u5, u6, u7, u8, u9, u10, u11, u12, u13, u14, u15, u16, u17, u18, u19, u20, u21, u22, u23, u24, u25, u26, u27, u28, u29, u30, u31, u32, u33, u34, u35, u36, u37, u38, u39, u40], defers := [] }) rfl ?_ ?_
  · intro n a wr hI J hJ
    obtain ⟨u2, u3, u5, u6, u7, u8, u9, u10, u11, u12, u13, u14, u15, u16, u17, u18, u19, u20, u21, u22, u23, u24, u25, u26, u27, u28, u29, u30, u31, u32, u33, u34, u35, u36, u37, u38, u39, u40, hrel, rfl⟩ := hI
    obtain ⟨k, m1, m2, A1, A2, c1, c2, hk, rfl, hm1, hm2, rfl, rfl, ho1, ho2, hd, hb⟩ := hrel
    have hml1 : m1.length ≤ k := by rw [hm1]; exact Nat.le_trans (List.length_filter_le ..) (by simp; omega)
    have hml2 : m2.length ≤ k := by rw [hm2]; exact Nat.le_trans (List.length_filter_le ..) (by simp; omega)
    have hsz := hb.size
    have hT1 := HT.out.kp (G := None') (Kp.of_below hb) id (fun _ _ => id)
    have hc1 := (hb.cell (p := ⟨g, 0, none⟩) hg).trans HC.out
    have c0 := hT1.cell
    have f0 := hT1.blk.frozen 0
    have h1 := hT1.blk.lt
    by_cases hlt : k < l.length
    · have hne : ((k : Int) == (l.length : Int)) = false := by simp; omega
      obtain ⟨b, off, rfl, hr⟩ := (own_rd hT1.own).2 (by omega)
      obtain ⟨e1, e2, e3⟩ := Bds_get l k hlt
      have g1 := hr _ _ e1
      have g2 := hr _ _ e2
      have g3 := hr _ _ e3
      rw [← Nat.add_assoc] at g2 g3
      clear hr e1 e2 e3
      have HB1 := Lib.hid (bdCloQ g s l[k])
      generalize hy : l[k] = y at *
      have HCC := Lib.hid hc1
      have Hy := Lib.hid hy
      have Hk := Lib.hid hk
      have Hm1 := Lib.hid hm1
      have Hm2 := Lib.hid hm2
      have Ho1 := Lib.hid ho1
      have Ho2 := Lib.hid ho2
      have Hd := Lib.hid hd
      have Hb := Lib.hid hb
      have HT1 := Lib.hid hT1
      clear hy hk hm1 hm2 ho1 ho2 hd hb hT1
      clear hc1
      obtain ⟨y1, y2, y3⟩ := y
      dsimp only at g1 g2 g3
      go_wp2_with fail
      have n1 : Blk (wr.alloc (Obj.cells #[Value.string y1, Value.string y2, Value.string y3] 28)) wr.heap.size 28 #[Value.string y1, Value.string y2, Value.string y3] := Blk.new _ _ _
      have k1 : Below wr.heap.size wr (wr.alloc (Obj.cells #[Value.string y1, Value.string y2, Value.string y3] 28)) := (Below.refl _ _).alloc (Nat.le_refl _) _
      generalize wr.alloc (Obj.cells #[Value.string y1, Value.string y2, Value.string y3] 28) = w1 at *
      refine (HB1.out w1 ((k1.cell (p := ⟨g, 0, none⟩) (by dsimp only; omega)).trans HCC.out)).mono ?_
      rintro e w2 ⟨rfl, hb2⟩
      have n2 := n1.below hb2
      have k2 := Lib.hid (blw_trans k1 hb2 k1.size)
      have hsz2 := k2.out.size
      have hlt2 := n2.lt
      have c0 := (k2.out.cell (p := ⟨p, 0, none⟩) h1).trans c0
      have d0 := n2.cell 0
      have d1 := n2.cell 1
      have d2 := n2.cell 2
      have HO1 := Lib.hid (own_kp (F := None') Ho1.out (Kp.of_below k2.out) (fun _ _ => id))
      have HO2 := Lib.hid (own_kp (F := None') Ho2.out (Kp.of_below k2.out) (fun _ _ => id))
      have HB2 := Lib.hid (blw_trans Hb.out k2.out Hb.out.size)
      clear n1 n2 k1 hb2 HB1 Ho1 Ho2 g1 g2 g3 f0
      by_cases hx : (⟨y1, y2, y3⟩ : Bd).q = s
      · rw [decide_eq_true hx]
        have E1 : Hid ((l.take (k + 1)).filter (fun b => decide (b.q = s)) = m1 ++ [(⟨y1, y2, y3⟩ : Bd)]) := by
          unfold Hid; rw [take_filter_succ _ l k hlt, ← Hm1.out, Hy.out, if_pos (decide_eq_true hx)]
        have E2 : Hid ((l.take (k + 1)).filter (fun b => !decide (b.q = s)) = m2) := by
          unfold Hid; rw [take_filter_succ _ l k hlt, ← Hm2.out, Hy.out, if_neg (by simpa using hx), List.append_nil]
        clear hx
        go_wp2_with (at_builtin; refine wpList_app _ rfl _ _ 39 rfl w.heap.size 28 _ 3 48 Try.underlying39 info_bd rfl (by decide) A1 c1 m1.length (Bds m1) rfl ?o1 _ 1 1 [.string y1, .string y2, .string y3] rfl ?o2 (one3 _ _ _) ?o4 ?o5 ?o6 ?o7)
        case o1 => exact HO1.out.alloc _
        case o2 => exact rd_alloc (by simp) rfl
        case o4 => unfold maxLen; omega
        case o5 => omega
        case o6 => simp; omega
        case o7 =>
          intro A3 c3 w3 ho3 hk3 hf3
          have hb3 : Below w.heap.size w w3 := HB2.out.trans (((Below.refl w.heap.size w2).alloc (by omega) _).trans (hk3.below (by simp; omega) (fun k hk h => by have := (own_fa HO1.out h).1; omega)))
          have ho23 := own_kp (HO2.out.alloc _) hk3 (fun j h2 h1 => Hd.out j h1 h2)
          have hd3 : ∀ j, FA A3 j → ¬ FA A2 j := fun j h3 h2 => by
            rcases hf3 j h3 with h | h
            · exact Hd.out j h h2
            · have := (own_fa HO2.out h2).2; omega
          have Ho3 := Lib.hid ho3
          have Hb3 := Lib.hid hb3
          have Ho23 := Lib.hid ho23
          have Hd3 := Lib.hid hd3
          clear ho3 hb3 ho23 hd3
          clear hk3 hf3
          go_wp2
          go_step3
          refine ⟨rfl, ?_⟩
          go_roundg (l.length - (k + 1))
          case measure => have := Hk.out; omega
          case rel =>
            refine ⟨k + 1, m1 ++ [⟨y1, y2, y3⟩], m2, A3, A2, c3, c2, by omega, by go_num, E1.out.symm, E2.out.symm, by simp, rfl, ?_, Ho23.out, Hd3.out, Hb3.out⟩
            rw [← Bds_one, show (m1 ++ [(⟨y1, y2, y3⟩ : Bd)]).length = m1.length + 1 by simp]
            exact Ho3.out
      · rw [decide_eq_false hx]
        have E1 : Hid ((l.take (k + 1)).filter (fun b => decide (b.q = s)) = m1) := by
          unfold Hid; rw [take_filter_succ _ l k hlt, ← Hm1.out, Hy.out, if_neg (by simpa using hx), List.append_nil]
        have E2 : Hid ((l.take (k + 1)).filter (fun b => !decide (b.q = s)) = m2 ++ [(⟨y1, y2, y3⟩ : Bd)]) := by
          unfold Hid; rw [take_filter_succ _ l k hlt, ← Hm2.out, Hy.out, if_pos (by simpa using hx)]
        clear hx
        go_wp2_with (at_builtin; refine wpList_app _ rfl _ _ 39 rfl w.heap.size 28 _ 3 48 Try.underlying39 info_bd rfl (by decide) A2 c2 m2.length (Bds m2) rfl ?o1 _ 1 1 [.string y1, .string y2, .string y3] rfl ?o2 (one3 _ _ _) ?o4 ?o5 ?o6 ?o7)
        case o1 => exact HO2.out.alloc _
        case o2 => exact rd_alloc (by simp) rfl
        case o4 => unfold maxLen; omega
        case o5 => omega
        case o6 => simp; omega
        case o7 =>
          intro A3 c3 w3 ho3 hk3 hf3
          have hb3 : Below w.heap.size w w3 := HB2.out.trans (((Below.refl w.heap.size w2).alloc (by omega) _).trans (hk3.below (by simp; omega) (fun k hk h => by have := (own_fa HO2.out h).1; omega)))
          have ho13 := own_kp (HO1.out.alloc _) hk3 (fun j h1 h2 => Hd.out j h1 h2)
          have hd3 : ∀ j, FA A1 j → ¬ FA A3 j := fun j h1 h3 => by
            rcases hf3 j h3 with h | h
            · exact Hd.out j h1 h
            · have := (own_fa HO1.out h1).2; omega
          have Ho3 := Lib.hid ho3
          have Hb3 := Lib.hid hb3
          have Ho13 := Lib.hid ho13
          have Hd3 := Lib.hid hd3
          clear ho3 hb3 ho13 hd3
          clear hk3 hf3
          go_wp2
          go_step3
          refine ⟨rfl, ?_⟩
          go_roundg (l.length - (k + 1))
          case measure => have := Hk.out; omega
          case rel =>
            refine ⟨k + 1, m1, m2 ++ [⟨y1, y2, y3⟩], A1, A3, c1, c3, by omega, by go_num, E1.out.symm, E2.out.symm, rfl, by simp, Ho13.out, ?_, Hd3.out, Hb3.out⟩
            rw [← Bds_one, show (m2 ++ [(⟨y1, y2, y3⟩ : Bd)]).length = m2.length + 1 by simp]
            exact Ho3.out
    · have hkl : k = l.length := by omega
      have hne : ((k : Int) == (l.length : Int)) = true := by simp; omega
      rw [hkl, List.take_length] at hm1 hm2
      subst hm1 hm2
      have Hk := Lib.hid hk
      have Ho1 := Lib.hid ho1
      have Ho2 := Lib.hid ho2
      have Hd := Lib.hid hd
      have Hb := Lib.hid hb
      have HT1 := Lib.hid hT1
      have Hkl := Lib.hid hkl
      clear hk ho1 ho2 hd hb hT1 hkl
      go_wp2
      simp only [Exit.jump]
      go_ret
      refine ⟨A1, c1, A2, c2, rfl, own_kp Ho1.out (Kp.set1 p 0 _) (fun j h e => ?_), ⟨HT1.out.blk.set_ 0 _, own_kp (own_mono Ho2.out (by have := HT.out.le; omega)) (Kp.set1 p 0 _) (fun j h e => ?_), HT.out.le⟩, (Kp.of_below Hb.out).trans (Kp.set1 p 0 _) (fun _ _ h => h), fun j h => (own_fa Ho2.out h).1⟩
      · have := (own_fa Ho1.out h).1; omega
      · have := (own_fa Ho2.out h).1; omega
  · intro J hJ
    have HJ := Lib.hid hJ
    clear hJ
    go_wp2_with fail
    go_step3
    go_step
    go_step
    refine HJ.out l.length _ _ ?_
    (repeat apply Exists.intro)
    refine ⟨⟨0, [], [], none, none, 0, 0, by omega, rfl, rfl, rfl, rfl, rfl, World.ownsRow_nil .., World.ownsRow_nil .., fun j h => absurd h (FA_none j), Below.refl _ _⟩, rfl⟩
set_option maxHeartbeats 400000 in
theorem bdCloX (g : Nat) (s : ByteArray) (b : Bd) (w : World) (hc : w.cell? ⟨g, 0, none⟩ = some (.string s)) :
    Calls Try.prog 45 #[b.v, .pointer (some ⟨g, 0, none⟩)] w fun e w' => e = .returned (.bool (decide (b.x = s))) ∧ Below w.heap.size w w' := by
  obtain ⟨x1, x2, x3⟩ := b
  simp only [Bd.v]
  have hg := World.block_lt_of_cell? w _ hc
  dsimp only at hg
  have hb : Below w.heap.size w (w.alloc (Obj.cells #[Value.string x1, Value.string x2, Value.string x3] 28)) := (Below.refl _ _).alloc (Nat.le_refl _) _
  have hc1 : (w.alloc (Obj.cells #[Value.string x1, Value.string x2, Value.string x3] 28)).cell? ⟨g, 0, none⟩ = some (.string s) := (hb.cell (p := ⟨g, 0, none⟩) hg).trans hc
  have Hb := Lib.hid hb
  have Hc := Lib.hid hc
  clear hb hc
  go_enter Try.func45, Try.ntmps45
  go_wp2
  go_ret
  exact ⟨ret_bool (ba_eq _ _), Hb.out⟩

set_option maxHeartbeats 800000 in
theorem bddropX (g : Nat) (s : ByteArray) (base p : Nat) (A : Option Addr) (c : Nat) (l : List Bd) (w : World) (hl : l.length ≤ 1000000) (hT : TabA w base p A c l) (hc : w.cell? ⟨g, 0, none⟩ = some (.string s)) :
    Calls Try.prog 39 #[.pointer (some ⟨p, 0, none⟩), .func (.func 45) #[] #[.pointer (some ⟨g, 0, none⟩)]] w fun e w' => ∃ Ao co A' c', e = .returned (.slice Ao (l.filter fun b => decide (b.x = s)).length co) ∧
      w'.ownsRow w.heap.size 28 3 (.slice Ao (l.filter fun b => decide (b.x = s)).length co) (l.filter fun b => decide (b.x = s)).length (Bds (l.filter fun b => decide (b.x = s))) ∧
      TabA w' base p A' c' (l.filter fun b => !decide (b.x = s)) ∧ Kp (fun k => k = p) w w' ∧ (∀ k, FA A' k → w.heap.size ≤ k) := by
  have hg := World.block_lt_of_cell? w _ hc
  have hp := hT.blk.lt
  dsimp only at hg
  have HT := Lib.hid hT
  have HC := Lib.hid hc
  clear hT hc
  go_enter Try.func39, Try.ntmps39
  go_wp2
  refine wp_scope_ghost 0 (fun g' a wr => ∃ u2 u3 u5 u6 u7 u8 u9 u10 u11 u12 u13 u14 u15 u16 u17 u18 u19 u20 u21 u22 u23 u24 u25 u26 u27 u28 u29 u30 u31 u32 u33 u34 u35 u36 u37 u38 u39 u40, (∃ (k : Nat) (m1 m2 : List Bd) (A1 A2 : Option Addr) (c1 c2 : Nat), k + g' = l.length ∧ u7 = .int .i64 k ∧ m1 = (l.take k).filter (fun b => decide (b.x = s)) ∧ m2 = (l.take k).filter (fun b => !decide (b.x = s)) ∧ u5 = .slice A1 m1.length c1 ∧ u6 = .slice A2 m2.length c2 ∧
      wr.ownsRow w.heap.size 28 3 (.slice A1 m1.length c1) m1.length (Bds m1) ∧ wr.ownsRow w.heap.size 28 3 (.slice A2 m2.length c2) m2.length (Bds m2) ∧ (∀ j, FA A1 j → ¬ FA A2 j) ∧ Below w.heap.size w wr) ∧
      a = { tmps := #[.pointer (some ⟨p, 0, none⟩), .func (.func 45) #[] #[.pointer (some ⟨g, 0, none⟩)], u2, u3, .slice none 0 0, u5, u6, u7, u8, u9, u10, u11, u12, u13, u14, u15, u16, u17, u18, u19, u20, u21, u22, u23, u24, u25, u26, u27, u28, u29, u30, u31, u32, u33, u34, u35, u36, u37, u38, u39, u40], defers := [] }) rfl ?_ ?_
  · intro n a wr hI J hJ
    obtain ⟨u2, u3, u5, u6, u7, u8, u9, u10, u11, u12, u13, u14, u15, u16, u17, u18, u19, u20, u21, u22, u23, u24, u25, u26, u27, u28, u29, u30, u31, u32, u33, u34, u35, u36, u37, u38, u39, u40, hrel, rfl⟩ := hI
    obtain ⟨k, m1, m2, A1, A2, c1, c2, hk, rfl, hm1, hm2, rfl, rfl, ho1, ho2, hd, hb⟩ := hrel
    have hml1 : m1.length ≤ k := by rw [hm1]; exact Nat.le_trans (List.length_filter_le ..) (by simp; omega)
    have hml2 : m2.length ≤ k := by rw [hm2]; exact Nat.le_trans (List.length_filter_le ..) (by simp; omega)
    have hsz := hb.size
    have hT1 := HT.out.kp (G := None') (Kp.of_below hb) id (fun _ _ => id)
    have hc1 := (hb.cell (p := ⟨g, 0, none⟩) hg).trans HC.out
    have c0 := hT1.cell
    have f0 := hT1.blk.frozen 0
    have h1 := hT1.blk.lt
    by_cases hlt : k < l.length
    · have hne : ((k : Int) == (l.length : Int)) = false := by simp; omega
      obtain ⟨b, off, rfl, hr⟩ := (own_rd hT1.own).2 (by omega)
      obtain ⟨e1, e2, e3⟩ := Bds_get l k hlt
      have g1 := hr _ _ e1
      have g2 := hr _ _ e2
      have g3 := hr _ _ e3
      rw [← Nat.add_assoc] at g2 g3
      clear hr e1 e2 e3
      have HB1 := Lib.hid (bdCloX g s l[k])
      generalize hy : l[k] = y at *
      have HCC := Lib.hid hc1
      have Hy := Lib.hid hy
      have Hk := Lib.hid hk
      have Hm1 := Lib.hid hm1
      have Hm2 := Lib.hid hm2
      have Ho1 := Lib.hid ho1
      have Ho2 := Lib.hid ho2
      have Hd := Lib.hid hd
      have Hb := Lib.hid hb
      have HT1 := Lib.hid hT1
      clear hy hk hm1 hm2 ho1 ho2 hd hb hT1
      clear hc1
      obtain ⟨y1, y2, y3⟩ := y
      dsimp only at g1 g2 g3
      go_wp2_with fail
      have n1 : Blk (wr.alloc (Obj.cells #[Value.string y1, Value.string y2, Value.string y3] 28)) wr.heap.size 28 #[Value.string y1, Value.string y2, Value.string y3] := Blk.new _ _ _
      have k1 : Below wr.heap.size wr (wr.alloc (Obj.cells #[Value.string y1, Value.string y2, Value.string y3] 28)) := (Below.refl _ _).alloc (Nat.le_refl _) _
      generalize wr.alloc (Obj.cells #[Value.string y1, Value.string y2, Value.string y3] 28) = w1 at *
      refine (HB1.out w1 ((k1.cell (p := ⟨g, 0, none⟩) (by dsimp only; omega)).trans HCC.out)).mono ?_
      rintro e w2 ⟨rfl, hb2⟩
      have n2 := n1.below hb2
      have k2 := Lib.hid (blw_trans k1 hb2 k1.size)
      have hsz2 := k2.out.size
      have hlt2 := n2.lt
      have c0 := (k2.out.cell (p := ⟨p, 0, none⟩) h1).trans c0
      have d0 := n2.cell 0
      have d1 := n2.cell 1
      have d2 := n2.cell 2
      have HO1 := Lib.hid (own_kp (F := None') Ho1.out (Kp.of_below k2.out) (fun _ _ => id))
      have HO2 := Lib.hid (own_kp (F := None') Ho2.out (Kp.of_below k2.out) (fun _ _ => id))
      have HB2 := Lib.hid (blw_trans Hb.out k2.out Hb.out.size)
      clear n1 n2 k1 hb2 HB1 Ho1 Ho2 g1 g2 g3 f0
      by_cases hx : (⟨y1, y2, y3⟩ : Bd).x = s
      · rw [decide_eq_true hx]
        have E1 : Hid ((l.take (k + 1)).filter (fun b => decide (b.x = s)) = m1 ++ [(⟨y1, y2, y3⟩ : Bd)]) := by
          unfold Hid; rw [take_filter_succ _ l k hlt, ← Hm1.out, Hy.out, if_pos (decide_eq_true hx)]
        have E2 : Hid ((l.take (k + 1)).filter (fun b => !decide (b.x = s)) = m2) := by
          unfold Hid; rw [take_filter_succ _ l k hlt, ← Hm2.out, Hy.out, if_neg (by simpa using hx), List.append_nil]
        clear hx
        go_wp2_with (at_builtin; refine wpList_app _ rfl _ _ 39 rfl w.heap.size 28 _ 3 48 Try.underlying39 info_bd rfl (by decide) A1 c1 m1.length (Bds m1) rfl ?o1 _ 1 1 [.string y1, .string y2, .string y3] rfl ?o2 (one3 _ _ _) ?o4 ?o5 ?o6 ?o7)
        case o1 => exact HO1.out.alloc _
        case o2 => exact rd_alloc (by simp) rfl
        case o4 => unfold maxLen; omega
        case o5 => omega
        case o6 => simp; omega
        case o7 =>
          intro A3 c3 w3 ho3 hk3 hf3
          have hb3 : Below w.heap.size w w3 := HB2.out.trans (((Below.refl w.heap.size w2).alloc (by omega) _).trans (hk3.below (by simp; omega) (fun k hk h => by have := (own_fa HO1.out h).1; omega)))
          have ho23 := own_kp (HO2.out.alloc _) hk3 (fun j h2 h1 => Hd.out j h1 h2)
          have hd3 : ∀ j, FA A3 j → ¬ FA A2 j := fun j h3 h2 => by
            rcases hf3 j h3 with h | h
            · exact Hd.out j h h2
            · have := (own_fa HO2.out h2).2; omega
          have Ho3 := Lib.hid ho3
          have Hb3 := Lib.hid hb3
          have Ho23 := Lib.hid ho23
          have Hd3 := Lib.hid hd3
          clear ho3 hb3 ho23 hd3
          clear hk3 hf3
          go_wp2
          go_step3
          refine ⟨rfl, ?_⟩
          go_roundg (l.length - (k + 1))
          case measure => have := Hk.out; omega
          case rel =>
            refine ⟨k + 1, m1 ++ [⟨y1, y2, y3⟩], m2, A3, A2, c3, c2, by omega, by go_num, E1.out.symm, E2.out.symm, by simp, rfl, ?_, Ho23.out, Hd3.out, Hb3.out⟩
            rw [← Bds_one, show (m1 ++ [(⟨y1, y2, y3⟩ : Bd)]).length = m1.length + 1 by simp]
            exact Ho3.out
      · rw [decide_eq_false hx]
        have E1 : Hid ((l.take (k + 1)).filter (fun b => decide (b.x = s)) = m1) := by
          unfold Hid; rw [take_filter_succ _ l k hlt, ← Hm1.out, Hy.out, if_neg (by simpa using hx), List.append_nil]
        have E2 : Hid ((l.take (k + 1)).filter (fun b => !decide (b.x = s)) = m2 ++ [(⟨y1, y2, y3⟩ : Bd)]) := by
          unfold Hid; rw [take_filter_succ _ l k hlt, ← Hm2.out, Hy.out, if_pos (by simpa using hx)]
        clear hx
        go_wp2_with (at_builtin; refine wpList_app _ rfl _ _ 39 rfl w.heap.size 28 _ 3 48 Try.underlying39 info_bd rfl (by decide) A2 c2 m2.length (Bds m2) rfl ?o1 _ 1 1 [.string y1, .string y2, .string y3] rfl ?o2 (one3 _ _ _) ?o4 ?o5 ?o6 ?o7)
        case o1 => exact HO2.out.alloc _
        case o2 => exact rd_alloc (by simp) rfl
        case o4 => unfold maxLen; omega
        case o5 => omega
        case o6 => simp; omega
        case o7 =>
          intro A3 c3 w3 ho3 hk3 hf3
          have hb3 : Below w.heap.size w w3 := HB2.out.trans (((Below.refl w.heap.size w2).alloc (by omega) _).trans (hk3.below (by simp; omega) (fun k hk h => by have := (own_fa HO2.out h).1; omega)))
          have ho13 := own_kp (HO1.out.alloc _) hk3 (fun j h1 h2 => Hd.out j h1 h2)
          have hd3 : ∀ j, FA A1 j → ¬ FA A3 j := fun j h1 h3 => by
            rcases hf3 j h3 with h | h
            · exact Hd.out j h1 h
            · have := (own_fa HO1.out h1).2; omega
          have Ho3 := Lib.hid ho3
          have Hb3 := Lib.hid hb3
          have Ho13 := Lib.hid ho13
          have Hd3 := Lib.hid hd3
          clear ho3 hb3 ho13 hd3
          clear hk3 hf3
          go_wp2
          go_step3
          refine ⟨rfl, ?_⟩
          go_roundg (l.length - (k + 1))
          case measure => have := Hk.out; omega
          case rel =>
            refine ⟨k + 1, m1, m2 ++ [⟨y1, y2, y3⟩], A1, A3, c1, c3, by omega, by go_num, E1.out.symm, E2.out.symm, rfl, by simp, Ho13.out, ?_, Hd3.out, Hb3.out⟩
            rw [← Bds_one, show (m2 ++ [(⟨y1, y2, y3⟩ : Bd)]).length = m2.length + 1 by simp]
            exact Ho3.out
    · have hkl : k = l.length := by omega
      have hne : ((k : Int) == (l.length : Int)) = true := by simp; omega
      rw [hkl, List.take_length] at hm1 hm2
      subst hm1 hm2
      have Hk := Lib.hid hk
      have Ho1 := Lib.hid ho1
      have Ho2 := Lib.hid ho2
      have Hd := Lib.hid hd
      have Hb := Lib.hid hb
      have HT1 := Lib.hid hT1
      have Hkl := Lib.hid hkl
      clear hk ho1 ho2 hd hb hT1 hkl
      go_wp2
      simp only [Exit.jump]
      go_ret
      refine ⟨A1, c1, A2, c2, rfl, own_kp Ho1.out (Kp.set1 p 0 _) (fun j h e => ?_), ⟨HT1.out.blk.set_ 0 _, own_kp (own_mono Ho2.out (by have := HT.out.le; omega)) (Kp.set1 p 0 _) (fun j h e => ?_), HT.out.le⟩, (Kp.of_below Hb.out).trans (Kp.set1 p 0 _) (fun _ _ h => h), fun j h => (own_fa Ho2.out h).1⟩
      · have := (own_fa Ho1.out h).1; omega
      · have := (own_fa Ho2.out h).1; omega
  · intro J hJ
    have HJ := Lib.hid hJ
    clear hJ
    go_wp2_with fail
    go_step3
    go_step
    go_step
    refine HJ.out l.length _ _ ?_
    (repeat apply Exists.intro)
    refine ⟨⟨0, [], [], none, none, 0, 0, by omega, rfl, rfl, rfl, rfl, rfl, World.ownsRow_nil .., World.ownsRow_nil .., fun j h => absurd h (FA_none j), Below.refl _ _⟩, rfl⟩
end Go.Proofs.Ythaoplcmkaaflaa
