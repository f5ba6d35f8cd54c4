import Derived.Test.YthaoplcmkaaflaaPlaysP
import Derived.Test.YthaoplcmkaaflaaLaw11
namespace Go.Proofs.Ythaoplcmkaaflaa
open Go.RowKit

theorem plays_long (A : Option Addr) (n c : Nat) (x y : ByteArray) (w : World) (hn : 80 < n) (hm : n ≤ maxLen) :
    Calls Try.prog 4 #[.slice A n c, .string x, .string y] w fun e w' => e = .returned (.bool true) ∧ Below w.heap.size w w' := by
  unfold maxLen at hm
  go_enter Try.func4, Try.ntmps4
  go_wp2_with fail
  refine (known11 w).mono ?_
  rintro e w0 ⟨rfl, hb0⟩
  go_wp2
  go_ret
  exact ⟨rfl, hb0⟩

set_option maxRecDepth 100000 in
set_option maxHeartbeats 4000000 in
theorem plays_walk (A : Option Addr) (c : Nat) (ss : List (Int × Bd)) (x y : ByteArray) (w : World) (hl : ss.length ≤ 80) (hr : Rd w 4 A ss.length (Sts ss)) :
    Calls Try.prog 4 #[.slice A ss.length c, .string x, .string y] w fun e w' => e = .returned (.bool true) ∧ Below w.heap.size w w' := by
  have Hr := Lib.hid hr
  clear hr
  go_enter Try.func4, Try.ntmps4
  go_wp2_with fail
  refine (known11 w).mono ?_
  rintro e w0 ⟨rfl, hb0⟩
  have Hr0 := Lib.hid (Hr.out.below hb0)
  have HB0 := Lib.hid hb0
  clear hb0 Hr
  go_wp2_with fail
  refine (bdNew w0).mono ?_
  rintro e w1 ⟨rfl, hT1, hb1, hs1⟩
  have HT1 := Lib.hid hT1
  have HB1 := Lib.hid hb1
  have HS1 := Lib.hid hs1
  clear hT1 hb1 hs1
  go_wp2_with fail
  have n2 : Blk (w1.alloc (Obj.cells #[Value.slice none 0 0] 41)) w1.heap.size 41 #[.slice none 0 0] := Blk.new _ _ _
  have k2 : Below w1.heap.size w1 (w1.alloc (Obj.cells #[Value.slice none 0 0] 41)) := (Below.refl _ _).alloc (Nat.le_refl _) _
  have hs2 : (w1.alloc (Obj.cells #[Value.slice none 0 0] 41)).heap.size = w1.heap.size + 1 := by simp
  generalize w1.alloc (Obj.cells #[Value.slice none 0 0] 41) = w2 at *
  have HT2 := Lib.hid (HT1.out.kp (G := None') (Kp.of_below k2) id (fun _ _ => id))
  have HB02 := Lib.hid (blw_trans HB1.out k2 HB1.out.size)
  have s12 := k2.size
  have s01 := HB1.out.size
  have s00 := HB0.out.size
  have HR2 : Hid (RefA w2 w0.heap.size w1.heap.size none 0 []) := ⟨n2, World.ownsRow_nil .., by omega⟩
  clear k2 n2 HT1 HB1
  have hp1 : w0.heap.size < w1.heap.size := by have := HS1.out; omega
  have HBO : Hid (Both w0 w2 w0.heap.size w1.heap.size none 0 none 0 [] []) := ⟨HT2.out, HR2.out, fun j h => absurd h (FA_none j), fun j h => absurd h (FA_none j), fun j h => absurd h (FA_none j), HB02.out, hp1⟩
  clear HT2 HR2 HB02
  go_loopg [9] (ss.length) (fun g i wr => ∃ (k : Nat) (l : List Bd) (A1 : Option Addr) (c1 : Nat) (A2 : Option Addr) (c2 : Nat), k + g = ss.length ∧ i = .int .i64 k ∧ l.length ≤ 40 ∧ l.Nodup ∧ Both w0 wr w0.heap.size w1.heap.size A1 c1 A2 c2 l l)
  case atStart => exact ⟨0, [], none, 0, none, 0, by omega, rfl, by simp, List.nodup_nil, HBO.out⟩
  case round =>
    obtain ⟨k, l, A1, c1, A2, c2, hk, rfl, h40, hnd, hbo⟩ := hrel
    have hsz := hbo.blw.size
    have h2lt := hbo.ref.blk.lt
    have HR3 := Lib.hid (Hr0.out.below hbo.blw)
    have Hk := Lib.hid hk
    have Hnd := Lib.hid hnd
    have Hbo := Lib.hid hbo
    clear hk hnd hbo
    by_cases hlt : k < ss.length
    · obtain ⟨b, off, rfl, hc⟩ := HR3.out.2 (by omega)
      obtain ⟨e1, e2, e3, e4⟩ := Sts_get ss k hlt
      have g1 := hc _ _ e1
      have g2 := hc _ _ e2
      have g3 := hc _ _ e3
      have g4 := hc _ _ e4
      rw [← Nat.add_assoc] at g2 g3 g4
      clear hc e1 e2 e3 e4
      generalize ss[k] = st at *
      obtain ⟨op, y1, y2, y3⟩ := st
      dsimp only at g1 g2 g3 g4
      by_cases h5 : op ≤ 5
      · go_wp2_with fail
        have n3 : Blk (wr.alloc (Obj.cells #[Value.int IntKind.i64 op, Value.string y1, Value.string y2, Value.string y3] 43)) wr.heap.size 43 #[Value.int IntKind.i64 op, Value.string y1, Value.string y2, Value.string y3] := Blk.new _ _ _
        have k3 := (Kp.refl None' wr).alloc (Obj.cells #[Value.int IntKind.i64 op, Value.string y1, Value.string y2, Value.string y3] 43)
        generalize wr.alloc (Obj.cells #[Value.int IntKind.i64 op, Value.string y1, Value.string y2, Value.string y3] 43) = w3 at *
        have hne : ¬ FA A1 wr.heap.size := fun h => by have := (own_fa Hbo.out.tab.own h).2; omega
        have HB3 := Lib.hid (Hbo.out.kp k3)
        refine (bdAdd _ _ A1 c1 l ⟨y1, y2, y3⟩ w3 (by omega) HB3.out.tab).mono ?_
        rintro e w4 ⟨A3, c3, rfl, hT4, hk4, hf4⟩
        have hB4 := HB3.out.step1 hT4 hk4 hf4
        have n4 := n3.kp hk4 (fun h => h.elim (fun e => by omega) hne)
        have z1 : w4.cell? ⟨wr.heap.size, 1, none⟩ = some (.string y1) := n4.cell 1
        have z2 : w4.cell? ⟨wr.heap.size, 2, none⟩ = some (.string y2) := n4.cell 2
        have z3 : w4.cell? ⟨wr.heap.size, 3, none⟩ = some (.string y3) := n4.cell 3
        have HB4 := Lib.hid hB4
        clear n3 k3 HB3 hT4 hk4 hf4 hB4 n4 g1 g2 g3 g4
        go_wp2_with fail
        refine (refAdd _ _ A2 c2 l ⟨y1, y2, y3⟩ w4 (by omega) HB4.out.ref).mono ?_
        rintro e w5 ⟨A4, c4, rfl, hT5, hk5, hf5⟩
        have HB5 := Lib.hid (HB4.out.step2 hT5 hk5 hf5)
        have h40' := addL_le ⟨y1, y2, y3⟩ h40
        have HND := Lib.hid (addL_nodup ⟨y1, y2, y3⟩ Hnd.out)
        clear HB4 hT5 hk5 hf5 z1 z2 z3 h40 Hnd
        generalize addL l ⟨y1, y2, y3⟩ = l' at *
        go_wp2_with fail
        refine (refOf _ _ x _ _ l' w5 (by omega) HB5.out.ref).mono ?_
        rintro e w7 ⟨Af, cf, rfl, hof, hb7⟩
        have HB7 := Lib.hid (HB5.out.kp (Kp.of_below hb7))
        have hfl : (l'.filter fun b => decide (b.x = x)).length ≤ 40 := Nat.le_trans (List.length_filter_le ..) h40'
        obtain ⟨f, hf⟩ : ∃ f, f = l'.filter fun b => decide (b.x = x) := ⟨_, rfl⟩
        rw [← hf] at hof hfl ⊢
        have HRF := Lib.hid (own_rd hof)
        have Hf := Lib.hid hf
        clear hf
        clear hof hb7 HB5
        go_wp2
        go_loopg [17, 18] (f.length) (fun g s i wt => ∃ (k : Nat) (m : List ByteArray) (A5 : Option Addr) (c5 : Nat), k + g = f.length ∧ i = .int .i64 k ∧ m = ((f.take k).filter (fun b => decide (b.k = y))).map Bd.q ∧ s = .slice A5 m.length c5 ∧ wt.ownsRow w7.heap.size 9 1 (.slice A5 m.length c5) m.length (Strs m) ∧ Below w7.heap.size w7 wt)
        case atStart => exact ⟨0, [], none, 0, by omega, rfl, rfl, rfl, World.ownsRow_nil .., Below.refl _ _⟩
        case round =>
          obtain ⟨k5, m, A5, c5, hk5, rfl, hm, rfl, ho, hb⟩ := hrel
          have hml : m.length ≤ k5 := by rw [hm, List.length_map]; exact Nat.le_trans (List.length_filter_le ..) (by simp; omega)
          have hsz7 := hb.size
          by_cases hlt5 : k5 < f.length
          · have hr1 := HRF.out.below hb
            have Hk5 := Lib.hid hk5
            have Hm := Lib.hid hm
            have Ho := Lib.hid ho
            have Hb := Lib.hid hb
            clear hk5 hm ho hb
            obtain ⟨b', off', rfl, hc⟩ := hr1.2 (by omega)
            obtain ⟨e1, e2, e3⟩ := Bds_get f k5 hlt5
            have g2 := hc _ _ e2
            have g3 := hc _ _ e3
            rw [← Nat.add_assoc] at g2 g3
            clear hc e1 e2 e3 hr1
            generalize hy : f[k5] = v at *
            have Hy := Lib.hid hy
            clear hy
            obtain ⟨v1, v2, v3⟩ := v
            dsimp only at g2 g3
            go_wp2_with (at_builtin; refine wpList_app _ rfl _ _ 32 rfl w7.heap.size 9 _ 1 16 Try.underlying32 info_str rfl (by decide) A5 c5 m.length (Strs m) rfl ?o1 _ 1 1 [.string v2] rfl ?o2 (one1 _) ?o4 ?o5 ?o6 ?o7)
            case o1 => exact Ho.out.alloc _
            case o2 => exact rd_alloc (by simp) rfl
            case o4 => unfold maxLen; omega
            case o5 => omega
            case o6 => (try simp); omega
            case o7 =>
              have hx : v3 = y := ba_t (by assumption)
              intro A6 c6 w8 ho1 hk1 hf1
              have hb1 : Below w7.heap.size w7 w8 := Hb.out.trans (((Below.refl w7.heap.size _).alloc (by omega) _).trans (hk1.below (by simp; omega) (fun k hk h => by have := (own_fa Ho.out h).1; omega)))
              have Hx := Lib.hid hx
              have Ho1 := Lib.hid ho1
              have Hb1 := Lib.hid hb1
              clear hx ho1 hb1
              clear hk1 hf1
              go_wp2
              go_roundg (f.length - (k5 + 1))
              case measure => have := Hk5.out; omega
              case rel =>
                have e : ((f.take (k5 + 1)).filter (fun b => decide (b.k = y))).map Bd.q = m ++ [v2] := by
                  rw [take_filter_succ _ f k5 hlt5, List.map_append, ← Hm.out, Hy.out, if_pos (by simp [Hx.out])]; rfl
                refine ⟨k5 + 1, m ++ [v2], A6, c6, by omega, by go_num, e.symm, by simp, ?_, Hb1.out⟩
                rw [← Strs_one, show (m ++ [v2]).length = m.length + 1 by simp]
                exact Ho1.out
            all_goals
              have hx : v3 ≠ y := ba_f (by assumption)
              have Hx := Lib.hid hx
              clear hx
              go_roundg (f.length - (k5 + 1))
              case measure => have := Hk5.out; omega
              case rel =>
                have e : ((f.take (k5 + 1)).filter (fun b => decide (b.k = y))).map Bd.q = m := by
                  rw [take_filter_succ _ f k5 hlt5, List.map_append, ← Hm.out, Hy.out, if_neg (by simp [Hx.out]), List.map_nil, List.append_nil]
                exact ⟨k5 + 1, m, A5, c5, by omega, by go_num, e.symm, rfl, Ho.out, Hb.out⟩
          · have HKE : Hid (m = keyed l' x y) := by unfold Hid keyed; rw [hm, List.take_of_length_le (by omega), ← Hf.out]
            have HB8 := Lib.hid (HB7.out.kp (Kp.of_below hb))
            have HRF8 := Lib.hid (HRF.out.below hb)
            have HRM := Lib.hid (own_rd ho)
            clear hm ho hb HRF HB7 hsz7
            go_wp2_with fail
            generalize wr = w8 at *
            refine wp_region_ord (.mov 0 (.mov 1 (.mov 2 (.mov 3 (.mov 4 (.mov 6 (.eff 5 (.eff 7 (.mov 8 (.mov 9 (.mov 10 (.mov 11 (.mov 12 (.mov 13 (.mov 15 (.eff 14 (.eff 16 (.mov 17 (.mov 18 (.mov 19 (.mov 20 (.mov 22 (.mov 23 (.mov 24 (.mov 25 (.mov 26 (.eff 21 (.mov 27 (.mov 28 .fin))))))))))))))))))))))))))))) ?_ ?_ ?_ ?_
            · kernel_rfl
            · kernel_rfl
            · exact fun _ _ _ _ h => h
            iterate 6 (refine ord_pure rfl rfl ?_; go_big_quiet_step (fail); refine wpQuiet_nil ?_)
            refine ord_sync rfl (by kernel_rfl) (fun K hK => ?_)
            go_wp2_with fail
            refine (bdOf _ x _ _ l' w8.drew (by omega) (HB8.out.kp (Kp.refl None' w8).drew).tab.blk (own_rd (HB8.out.kp (Kp.refl None' w8).drew).tab.own)).mono ?_
            rintro e w9 ⟨Ag, cg, rfl, hog, hb9⟩
            rw [← Hf.out] at hog ⊢
            have k9 : Kp None' w8 w9 := (Kp.refl None' w8).drew.trans (Kp.of_below hb9) (fun _ _ h => h)
            have HB9 := Lib.hid (HB8.out.kp k9)
            have HRG := Lib.hid (own_rd hog)
            have HRF9 := Lib.hid (HRF8.out.kp k9 (fun _ _ h => h))
            have HRM9 := Lib.hid (HRM.out.kp k9 (fun _ _ h => h))
            clear hog hb9 k9 HB8 HRF8 HRM
            go_wp2_with fail
            refine ord_sync rfl (by kernel_rfl) (fun K hK => ?_)
            go_wp2_with fail
            refine (sameBindings true Ag Af cg cf f f w9 (by omega) (by omega) HRG.out HRF9.out (decide_eq_true rfl)).mono ?_
            rintro e w10 ⟨rfl, q10, rfl⟩
            have HB10 := Lib.hid (HB9.out.kp ((Kp.refl None' w9).drewN q10))
            have HRM10 := Lib.hid (HRM9.out.kp ((Kp.refl None' w9).drewN q10) (fun _ _ h => h))
            clear HRG HRF9 HRM9 HB9
            generalize w9.drewN q10 = w10 at *
            go_wp2_with fail
            iterate 7 (refine ord_pure rfl rfl ?_; go_big_quiet_step (fail); refine wpQuiet_nil ?_)
            refine ord_sync rfl (by kernel_rfl) (fun K hK => ?_)
            go_wp2_with fail
            refine (bdKeyed _ _ x y _ _ l' w10 (by omega) HB10.out.tab).mono ?_
            rintro e w11 ⟨Ak, ck, rfl, hok, hb11⟩
            rw [← HKE.out] at hok ⊢
            have HB11 := Lib.hid (HB10.out.kp (Kp.of_below hb11))
            have HRK := Lib.hid (own_rd hok)
            have HRM11 := Lib.hid (HRM10.out.below hb11)
            clear hok hb11 HB10 HRM10
            go_wp2_with fail
            refine ord_sync rfl (by kernel_rfl) (fun K hK => ?_)
            go_wp2_with fail
            refine (sameTexts true Ak A5 ck c5 m m w11 (by omega) (by omega) HRK.out HRM11.out (decide_eq_true rfl)).mono ?_
            rintro e w12 ⟨rfl, q12, rfl⟩
            have HB12 := Lib.hid (HB11.out.kp ((Kp.refl None' w11).drewN q12))
            clear HRK HRM11 HB11
            generalize w11.drewN q12 = w12 at *
            go_wp2_with fail
            iterate 4 (refine ord_pure rfl rfl ?_; go_big_quiet_step (fail); refine wpQuiet_nil ?_)
            have z0 : ∀ z : Wd None' w12, z.w.cell? ⟨w1.heap.size, 0, none⟩ = some (.slice _ l'.length _) := fun z => z.cell HB12.out.ref.cell id
            iterate 3 (refine ord_pure rfl rfl ?_; go_big_quiet_step (fail); refine wpQuiet_nil ?_)
            iterate 1 (refine ord_mov (fun w' => ∃ z : Wd None' w12, w' = z.w) (Wd.of (Kp.refl _ _)) rfl rfl ?_; go_big_quiet_step (fail); refine wpQuiet_nil ?_)
            iterate 1 (refine ord_pure rfl rfl ?_; go_big_quiet_step (fail); refine wpQuiet_nil ?_)
            refine ord_keep (fun w' => ∃ z : Wd None' w12, w' = z.w) rfl (by simp) (fun K hK => ?_)
            go_wp2_with fail
            refine (bdLen _ _ _ _ l' w12 HB12.out.tab).mono ?_
            rintro e w13 ⟨rfl, rfl⟩
            go_wp2_with fail
            refine ⟨Wd.of (Kp.refl _ _), ?_⟩
            clear z0
            iterate 2 (refine ord_pure rfl rfl ?_; go_big_quiet_step (fail); refine wpQuiet_nil ?_)
            refine ord_end ?_
            go_wp2
            go_roundg (ss.length - (k + 1))
            case measure => have := Hk.out; omega
            case rel => exact ⟨k + 1, l', _, _, _, _, by omega, by go_num, h40', HND.out, HB12.out⟩
      · by_cases h6 : op = 6
        · subst h6
          go_wp2_with fail
          have n3 : Blk (wr.alloc (Obj.cells #[Value.int IntKind.i64 6, Value.string y1, Value.string y2, Value.string y3] 43)) wr.heap.size 43 #[Value.int IntKind.i64 6, Value.string y1, Value.string y2, Value.string y3] := Blk.new _ _ _
          have k3 := (Kp.refl None' wr).alloc (Obj.cells #[Value.int IntKind.i64 6, Value.string y1, Value.string y2, Value.string y3] 43)
          generalize wr.alloc (Obj.cells #[Value.int IntKind.i64 6, Value.string y1, Value.string y2, Value.string y3] 43) = w3 at *
          have hne : ¬ FA A1 wr.heap.size := fun h => by have := (own_fa Hbo.out.tab.own h).2; omega
          have HB3 := Lib.hid (Hbo.out.kp k3)
          clear k3 g1 g2 g3 g4
          obtain ⟨F, hF⟩ : ∃ F : Nat → Prop, F = fun k => (k = w0.heap.size ∨ FA A1 k) ∨ k = w1.heap.size := ⟨_, rfl⟩
          have hnF : ¬ F wr.heap.size := by rw [hF]; exact fun h => h.elim (fun h => h.elim (fun e => by omega) hne) (fun e => by omega)
          have z1 : ∀ z : Wd F w3, z.w.cell? ⟨wr.heap.size, 1, none⟩ = some (.string y1) := fun z => z.cell (n3.cell 1) hnF
          have z2 : ∀ z : Wd F w3, z.w.cell? ⟨wr.heap.size, 2, none⟩ = some (.string y2) := fun z => z.cell (n3.cell 2) hnF
          have z3 : ∀ z : Wd F w3, z.w.cell? ⟨wr.heap.size, 3, none⟩ = some (.string y3) := fun z => z.cell (n3.cell 3) hnF
          have HFF := Lib.hid hF
          clear n3 hF hne
          refine wp_region_ord (.mov 0 (.mov 1 (.mov 2 (.mov 4 (.mov 5 (.mov 6 (.eff 3 (.eff 7 (.mov 8 (.mov 9 .fin)))))))))) ?_ ?_ ?_ ?_
          · kernel_rfl
          · kernel_rfl
          · exact fun _ _ _ _ h => h
          iterate 2 (refine ord_pure rfl rfl ?_; go_big_quiet_step (fail); refine wpQuiet_nil ?_)
          iterate 1 (refine ord_mov (fun w' => ∃ z : Wd F w3, w' = z.w) (Wd.of ((Kp.refl _ _).drew)) rfl rfl ?_; go_big_quiet_step (fail); refine wpQuiet_nil ?_)
          iterate 2 (refine ord_pure rfl rfl ?_; go_big_quiet_step (fail); refine wpQuiet_nil ?_)
          iterate 1 (refine ord_mov (fun w' => ∃ z : Wd F w3, w' = z.w) (Wd.of ((Kp.refl _ _).drew)) rfl rfl ?_; go_big_quiet_step (fail); refine wpQuiet_nil ?_)
          refine ord_keep (fun w' => ∃ z : Wd F w3, w' = z.w) rfl (by simp) (fun K hK => ?_)
          go_wp2_with fail
          refine (bdDrop _ _ A1 c1 l ⟨y1, y2, y3⟩ w3.drew (by omega) Hnd.out (HB3.out.kp (Kp.refl None' w3).drew).tab).mono ?_
          rintro e w4 ⟨rfl, hT4, hk4⟩
          have hk3 : Kp F w3 w4 := (Kp.refl F w3).drew.trans hk4 (fun i _ h => by rw [HFF.out]; exact .inl h)
          have HB4 := Lib.hid ((HB3.out.kp (Kp.refl None' w3).drew).step1 hT4 hk4 (fun j h => .inl h))
          have HK3 := Lib.hid hk3
          clear hk3 hT4 hk4 HB3
          go_wp2_with fail
          refine ⟨Wd.of HK3.out, ?_⟩
          refine ord_keep (fun w' => ∃ z : Wd F w3, w' = z.w) rfl (by simp) (fun K hK => ?_)
          go_wp2_with fail
          refine (refDrop _ _ A2 c2 l ⟨y1, y2, y3⟩ w4 (by omega) HB4.out.ref).mono ?_
          rintro e w5 ⟨A4, c4, rfl, hT5, hk5, hf5⟩
          have hk3 : Kp F w3 w5 := HK3.out.trans hk5 (fun i _ h => by rw [HFF.out]; exact .inr h)
          have HB5 := Lib.hid (HB4.out.step2 hT5 hk5 (fun j h => .inr (hf5 j h)))
          have HK5 := Lib.hid hk3
          have h40' : (l.filter fun b => !decide (b = (⟨y1, y2, y3⟩ : Bd))).length ≤ 40 := Nat.le_trans (List.length_filter_le ..) h40
          have HND := Lib.hid (Hnd.out.filter fun b => !decide (b = (⟨y1, y2, y3⟩ : Bd)))
          clear hk3 hT5 hk5 hf5 HB4 HK3 h40 Hnd
          generalize (l.filter fun b => !decide (b = (⟨y1, y2, y3⟩ : Bd))) = l' at *
          go_wp2_with fail
          refine ⟨Wd.of HK5.out, ?_⟩
          clear z1 z2 z3 HFF HK5
          iterate 2 (refine ord_pure rfl rfl ?_; go_big_quiet_step (fail); refine wpQuiet_nil ?_)
          refine ord_end ?_
          go_wp2_with fail
          refine (refOf _ _ x _ _ l' w5 (by omega) HB5.out.ref).mono ?_
          rintro e w7 ⟨Af, cf, rfl, hof, hb7⟩
          have HB7 := Lib.hid (HB5.out.kp (Kp.of_below hb7))
          have hfl : (l'.filter fun b => decide (b.x = x)).length ≤ 40 := Nat.le_trans (List.length_filter_le ..) h40'
          obtain ⟨f, hf⟩ : ∃ f, f = l'.filter fun b => decide (b.x = x) := ⟨_, rfl⟩
          rw [← hf] at hof hfl ⊢
          have HRF := Lib.hid (own_rd hof)
          have Hf := Lib.hid hf
          clear hf
          clear hof hb7 HB5
          go_wp2
          go_loopg [17, 18] (f.length) (fun g s i wt => ∃ (k : Nat) (m : List ByteArray) (A5 : Option Addr) (c5 : Nat), k + g = f.length ∧ i = .int .i64 k ∧ m = ((f.take k).filter (fun b => decide (b.k = y))).map Bd.q ∧ s = .slice A5 m.length c5 ∧ wt.ownsRow w7.heap.size 9 1 (.slice A5 m.length c5) m.length (Strs m) ∧ Below w7.heap.size w7 wt)
          case atStart => exact ⟨0, [], none, 0, by omega, rfl, rfl, rfl, World.ownsRow_nil .., Below.refl _ _⟩
          case round =>
            obtain ⟨k5, m, A5, c5, hk5, rfl, hm, rfl, ho, hb⟩ := hrel
            have hml : m.length ≤ k5 := by rw [hm, List.length_map]; exact Nat.le_trans (List.length_filter_le ..) (by simp; omega)
            have hsz7 := hb.size
            by_cases hlt5 : k5 < f.length
            · have hr1 := HRF.out.below hb
              have Hk5 := Lib.hid hk5
              have Hm := Lib.hid hm
              have Ho := Lib.hid ho
              have Hb := Lib.hid hb
              clear hk5 hm ho hb
              obtain ⟨b', off', rfl, hc⟩ := hr1.2 (by omega)
              obtain ⟨e1, e2, e3⟩ := Bds_get f k5 hlt5
              have g2 := hc _ _ e2
              have g3 := hc _ _ e3
              rw [← Nat.add_assoc] at g2 g3
              clear hc e1 e2 e3 hr1
              generalize hy : f[k5] = v at *
              have Hy := Lib.hid hy
              clear hy
              obtain ⟨v1, v2, v3⟩ := v
              dsimp only at g2 g3
              go_wp2_with (at_builtin; refine wpList_app _ rfl _ _ 32 rfl w7.heap.size 9 _ 1 16 Try.underlying32 info_str rfl (by decide) A5 c5 m.length (Strs m) rfl ?o1 _ 1 1 [.string v2] rfl ?o2 (one1 _) ?o4 ?o5 ?o6 ?o7)
              case o1 => exact Ho.out.alloc _
              case o2 => exact rd_alloc (by simp) rfl
              case o4 => unfold maxLen; omega
              case o5 => omega
              case o6 => (try simp); omega
              case o7 =>
                have hx : v3 = y := ba_t (by assumption)
                intro A6 c6 w8 ho1 hk1 hf1
                have hb1 : Below w7.heap.size w7 w8 := Hb.out.trans (((Below.refl w7.heap.size _).alloc (by omega) _).trans (hk1.below (by simp; omega) (fun k hk h => by have := (own_fa Ho.out h).1; omega)))
                have Hx := Lib.hid hx
                have Ho1 := Lib.hid ho1
                have Hb1 := Lib.hid hb1
                clear hx ho1 hb1
                clear hk1 hf1
                go_wp2
                go_roundg (f.length - (k5 + 1))
                case measure => have := Hk5.out; omega
                case rel =>
                  have e : ((f.take (k5 + 1)).filter (fun b => decide (b.k = y))).map Bd.q = m ++ [v2] := by
                    rw [take_filter_succ _ f k5 hlt5, List.map_append, ← Hm.out, Hy.out, if_pos (by simp [Hx.out])]; rfl
                  refine ⟨k5 + 1, m ++ [v2], A6, c6, by omega, by go_num, e.symm, by simp, ?_, Hb1.out⟩
                  rw [← Strs_one, show (m ++ [v2]).length = m.length + 1 by simp]
                  exact Ho1.out
              all_goals
                have hx : v3 ≠ y := ba_f (by assumption)
                have Hx := Lib.hid hx
                clear hx
                go_roundg (f.length - (k5 + 1))
                case measure => have := Hk5.out; omega
                case rel =>
                  have e : ((f.take (k5 + 1)).filter (fun b => decide (b.k = y))).map Bd.q = m := by
                    rw [take_filter_succ _ f k5 hlt5, List.map_append, ← Hm.out, Hy.out, if_neg (by simp [Hx.out]), List.map_nil, List.append_nil]
                  exact ⟨k5 + 1, m, A5, c5, by omega, by go_num, e.symm, rfl, Ho.out, Hb.out⟩
            · have HKE : Hid (m = keyed l' x y) := by unfold Hid keyed; rw [hm, List.take_of_length_le (by omega), ← Hf.out]
              have HB8 := Lib.hid (HB7.out.kp (Kp.of_below hb))
              have HRF8 := Lib.hid (HRF.out.below hb)
              have HRM := Lib.hid (own_rd ho)
              clear hm ho hb HRF HB7 hsz7
              go_wp2_with fail
              generalize wr = w8 at *
              refine wp_region_ord (.mov 0 (.mov 1 (.mov 2 (.mov 3 (.mov 4 (.mov 6 (.eff 5 (.eff 7 (.mov 8 (.mov 9 (.mov 10 (.mov 11 (.mov 12 (.mov 13 (.mov 15 (.eff 14 (.eff 16 (.mov 17 (.mov 18 (.mov 19 (.mov 20 (.mov 22 (.mov 23 (.mov 24 (.mov 25 (.mov 26 (.eff 21 (.mov 27 (.mov 28 .fin))))))))))))))))))))))))))))) ?_ ?_ ?_ ?_
              · kernel_rfl
              · kernel_rfl
              · exact fun _ _ _ _ h => h
              iterate 6 (refine ord_pure rfl rfl ?_; go_big_quiet_step (fail); refine wpQuiet_nil ?_)
              refine ord_sync rfl (by kernel_rfl) (fun K hK => ?_)
              go_wp2_with fail
              refine (bdOf _ x _ _ l' w8.drew (by omega) (HB8.out.kp (Kp.refl None' w8).drew).tab.blk (own_rd (HB8.out.kp (Kp.refl None' w8).drew).tab.own)).mono ?_
              rintro e w9 ⟨Ag, cg, rfl, hog, hb9⟩
              rw [← Hf.out] at hog ⊢
              have k9 : Kp None' w8 w9 := (Kp.refl None' w8).drew.trans (Kp.of_below hb9) (fun _ _ h => h)
              have HB9 := Lib.hid (HB8.out.kp k9)
              have HRG := Lib.hid (own_rd hog)
              have HRF9 := Lib.hid (HRF8.out.kp k9 (fun _ _ h => h))
              have HRM9 := Lib.hid (HRM.out.kp k9 (fun _ _ h => h))
              clear hog hb9 k9 HB8 HRF8 HRM
              go_wp2_with fail
              refine ord_sync rfl (by kernel_rfl) (fun K hK => ?_)
              go_wp2_with fail
              refine (sameBindings true Ag Af cg cf f f w9 (by omega) (by omega) HRG.out HRF9.out (decide_eq_true rfl)).mono ?_
              rintro e w10 ⟨rfl, q10, rfl⟩
              have HB10 := Lib.hid (HB9.out.kp ((Kp.refl None' w9).drewN q10))
              have HRM10 := Lib.hid (HRM9.out.kp ((Kp.refl None' w9).drewN q10) (fun _ _ h => h))
              clear HRG HRF9 HRM9 HB9
              generalize w9.drewN q10 = w10 at *
              go_wp2_with fail
              iterate 7 (refine ord_pure rfl rfl ?_; go_big_quiet_step (fail); refine wpQuiet_nil ?_)
              refine ord_sync rfl (by kernel_rfl) (fun K hK => ?_)
              go_wp2_with fail
              refine (bdKeyed _ _ x y _ _ l' w10 (by omega) HB10.out.tab).mono ?_
              rintro e w11 ⟨Ak, ck, rfl, hok, hb11⟩
              rw [← HKE.out] at hok ⊢
              have HB11 := Lib.hid (HB10.out.kp (Kp.of_below hb11))
              have HRK := Lib.hid (own_rd hok)
              have HRM11 := Lib.hid (HRM10.out.below hb11)
              clear hok hb11 HB10 HRM10
              go_wp2_with fail
              refine ord_sync rfl (by kernel_rfl) (fun K hK => ?_)
              go_wp2_with fail
              refine (sameTexts true Ak A5 ck c5 m m w11 (by omega) (by omega) HRK.out HRM11.out (decide_eq_true rfl)).mono ?_
              rintro e w12 ⟨rfl, q12, rfl⟩
              have HB12 := Lib.hid (HB11.out.kp ((Kp.refl None' w11).drewN q12))
              clear HRK HRM11 HB11
              generalize w11.drewN q12 = w12 at *
              go_wp2_with fail
              iterate 4 (refine ord_pure rfl rfl ?_; go_big_quiet_step (fail); refine wpQuiet_nil ?_)
              have z0 : ∀ z : Wd None' w12, z.w.cell? ⟨w1.heap.size, 0, none⟩ = some (.slice _ l'.length _) := fun z => z.cell HB12.out.ref.cell id
              iterate 3 (refine ord_pure rfl rfl ?_; go_big_quiet_step (fail); refine wpQuiet_nil ?_)
              iterate 1 (refine ord_mov (fun w' => ∃ z : Wd None' w12, w' = z.w) (Wd.of (Kp.refl _ _)) rfl rfl ?_; go_big_quiet_step (fail); refine wpQuiet_nil ?_)
              iterate 1 (refine ord_pure rfl rfl ?_; go_big_quiet_step (fail); refine wpQuiet_nil ?_)
              refine ord_keep (fun w' => ∃ z : Wd None' w12, w' = z.w) rfl (by simp) (fun K hK => ?_)
              go_wp2_with fail
              refine (bdLen _ _ _ _ l' w12 HB12.out.tab).mono ?_
              rintro e w13 ⟨rfl, rfl⟩
              go_wp2_with fail
              refine ⟨Wd.of (Kp.refl _ _), ?_⟩
              clear z0
              iterate 2 (refine ord_pure rfl rfl ?_; go_big_quiet_step (fail); refine wpQuiet_nil ?_)
              refine ord_end ?_
              go_wp2
              go_roundg (ss.length - (k + 1))
              case measure => have := Hk.out; omega
              case rel => exact ⟨k + 1, l', _, _, _, _, by omega, by go_num, h40', HND.out, HB12.out⟩
        · by_cases h7 : op = 7
          · subst h7
            go_wp2_with fail
            have n3 : Blk (wr.alloc (Obj.cells #[Value.int IntKind.i64 7, Value.string y1, Value.string y2, Value.string y3] 43)) wr.heap.size 43 #[Value.int IntKind.i64 7, Value.string y1, Value.string y2, Value.string y3] := Blk.new _ _ _
            have k3 := (Kp.refl None' wr).alloc (Obj.cells #[Value.int IntKind.i64 7, Value.string y1, Value.string y2, Value.string y3] 43)
            have hs3 := k3.size
            generalize wr.alloc (Obj.cells #[Value.int IntKind.i64 7, Value.string y1, Value.string y2, Value.string y3] 43) = w3 at *
            have HB3 := Lib.hid (Hbo.out.kp k3)
            clear k3 g1 g2 g3 g4
            obtain ⟨F, hF⟩ : ∃ F : Nat → Prop, F = fun k => k = w0.heap.size ∨ k = w1.heap.size := ⟨_, rfl⟩
            have hnF : ¬ F wr.heap.size := by rw [hF]; exact fun h => h.elim (fun e => by omega) (fun e => by omega)
            have z2 : ∀ z : Wd F w3, z.w.cell? ⟨wr.heap.size, 2, none⟩ = some (.string y2) := fun z => z.cell (n3.cell 2) hnF
            have HFF := Lib.hid hF
            clear n3 hF
            refine wp_region_ord (.mov 0 (.mov 1 (.mov 2 (.mov 3 (.mov 5 (.mov 6 (.mov 7 (.mov 8 (.eff 4 (.eff 9 (.eff 10 (.mov 11 .fin)))))))))))) ?_ ?_ ?_ ?_
            · kernel_rfl
            · kernel_rfl
            · exact fun _ _ _ _ h => h
            iterate 3 (refine ord_pure rfl rfl ?_; go_big_quiet_step (fail); refine wpQuiet_nil ?_)
            iterate 1 (refine ord_mov (fun w' => ∃ z : Wd F w3, w' = z.w) (Wd.of ((Kp.refl _ _).drew)) rfl rfl ?_; go_big_quiet_step (fail); refine wpQuiet_nil ?_)
            iterate 3 (refine ord_pure rfl rfl ?_; go_big_quiet_step (fail); refine wpQuiet_nil ?_)
            iterate 1 (refine ord_mov (fun w' => ∃ z : Wd F w3, w' = z.w) (Wd.of ((Kp.refl _ _).drew)) rfl rfl ?_; go_big_quiet_step (fail); refine wpQuiet_nil ?_)
            refine ord_keep (fun w' => ∃ z : Wd F w3, w' = z.w) rfl (by simp) (fun K hK => ?_)
            go_wp2_with fail
            refine (bdDropQueue y2 _ _ A1 c1 l w3.drew (by omega) (HB3.out.kp (Kp.refl None' w3).drew).tab).mono ?_
            rintro e w4 ⟨Ao, co, A3, c3, rfl, ho4, hT4, hk4, hf4⟩
            have hk3 : Kp F w3 w4 := (Kp.refl F w3).drew.trans hk4 (fun i _ h => by rw [HFF.out]; exact .inl h)
            have HB4 := Lib.hid ((HB3.out.kp (Kp.refl None' w3).drew).step1 hT4 (hk4.mono (fun _ _ h => .inl h)) (fun j h => .inr (hf4 j h)))
            have HK3 := Lib.hid hk3
            have Ho4 := Lib.hid ho4
            clear ho4
            clear hk3 hT4 hk4 hf4 HB3
            go_wp2_with fail
            refine ⟨Wd.of HK3.out, ?_⟩
            refine ord_keep (fun w' => ∃ z : Wd F w3, w' = z.w) rfl (by simp) (fun K hK => ?_)
            go_wp2_with fail
            refine (refDropQueue y2 _ _ A2 c2 l w4 (by omega) HB4.out.ref).mono ?_
            rintro e w5a ⟨Ap, cp, A4, c4, rfl, hp5, hT5, hk5, hf5⟩
            have hk3 : Kp F w3 w5a := HK3.out.trans hk5 (fun i _ h => by rw [HFF.out]; exact .inr h)
            have ho5 := own_kp Ho4.out hk5 (fun j hj e => by have := (own_fa Ho4.out hj).1; simp at this; omega)
            have HB5a := Lib.hid (HB4.out.step2 hT5 hk5 (fun j h => .inr (hf5 j h)))
            have HK5 := Lib.hid hk3
            have hel : (exsOf l y2).length ≤ 40 := by
              unfold exsOf
              refine Nat.le_trans (uniq_len _) ?_
              rw [List.length_map]
              exact Nat.le_trans (List.length_filter_le ..) h40
            have h40' : (l.filter fun b => !decide (b.q = y2)).length ≤ 40 := Nat.le_trans (List.length_filter_le ..) h40
            have HND := Lib.hid (Hnd.out.filter fun b => !decide (b.q = y2))
            have Ho5 := Lib.hid ho5
            have Hp5 := Lib.hid hp5
            clear ho5 hp5
            clear hk3 hT5 hk5 hf5 HB4 HK3 h40 Hnd Ho4
            generalize (l.filter fun b => !decide (b.q = y2)) = l' at *
            go_wp2_with fail
            refine ⟨Wd.of HK5.out, ?_⟩
            clear z2
            refine ord_sync rfl (by kernel_rfl) (fun K hK => ?_)
            go_wp2_with fail
            refine (sameTexts true Ao Ap co cp _ _ w5a (by omega) (by omega) (own_rd Ho5.out) (own_rd Hp5.out) (decide_eq_true rfl)).mono ?_
            rintro e w5 ⟨rfl, q5, rfl⟩
            have HB5 := Lib.hid (HB5a.out.kp ((Kp.refl None' w5a).drewN q5))
            clear HFF HK5 Ho5 Hp5 HB5a hel
            generalize w5a.drewN q5 = w5 at *
            go_wp2_with fail
            iterate 1 (refine ord_pure rfl rfl ?_; go_big_quiet_step (fail); refine wpQuiet_nil ?_)
            refine ord_end ?_
            go_wp2_with fail
            refine (refOf _ _ x _ _ l' w5 (by omega) HB5.out.ref).mono ?_
            rintro e w7 ⟨Af, cf, rfl, hof, hb7⟩
            have HB7 := Lib.hid (HB5.out.kp (Kp.of_below hb7))
            have hfl : (l'.filter fun b => decide (b.x = x)).length ≤ 40 := Nat.le_trans (List.length_filter_le ..) h40'
            obtain ⟨f, hf⟩ : ∃ f, f = l'.filter fun b => decide (b.x = x) := ⟨_, rfl⟩
            rw [← hf] at hof hfl ⊢
            have HRF := Lib.hid (own_rd hof)
            have Hf := Lib.hid hf
            clear hf
            clear hof hb7 HB5
            go_wp2
            go_loopg [17, 18] (f.length) (fun g s i wt => ∃ (k : Nat) (m : List ByteArray) (A5 : Option Addr) (c5 : Nat), k + g = f.length ∧ i = .int .i64 k ∧ m = ((f.take k).filter (fun b => decide (b.k = y))).map Bd.q ∧ s = .slice A5 m.length c5 ∧ wt.ownsRow w7.heap.size 9 1 (.slice A5 m.length c5) m.length (Strs m) ∧ Below w7.heap.size w7 wt)
            case atStart => exact ⟨0, [], none, 0, by omega, rfl, rfl, rfl, World.ownsRow_nil .., Below.refl _ _⟩
            case round =>
              obtain ⟨k5, m, A5, c5, hk5, rfl, hm, rfl, ho, hb⟩ := hrel
              have hml : m.length ≤ k5 := by rw [hm, List.length_map]; exact Nat.le_trans (List.length_filter_le ..) (by simp; omega)
              have hsz7 := hb.size
              by_cases hlt5 : k5 < f.length
              · have hr1 := HRF.out.below hb
                have Hk5 := Lib.hid hk5
                have Hm := Lib.hid hm
                have Ho := Lib.hid ho
                have Hb := Lib.hid hb
                clear hk5 hm ho hb
                obtain ⟨b', off', rfl, hc⟩ := hr1.2 (by omega)
                obtain ⟨e1, e2, e3⟩ := Bds_get f k5 hlt5
                have g2 := hc _ _ e2
                have g3 := hc _ _ e3
                rw [← Nat.add_assoc] at g2 g3
                clear hc e1 e2 e3 hr1
                generalize hy : f[k5] = v at *
                have Hy := Lib.hid hy
                clear hy
                obtain ⟨v1, v2, v3⟩ := v
                dsimp only at g2 g3
                go_wp2_with (at_builtin; refine wpList_app _ rfl _ _ 32 rfl w7.heap.size 9 _ 1 16 Try.underlying32 info_str rfl (by decide) A5 c5 m.length (Strs m) rfl ?o1 _ 1 1 [.string v2] rfl ?o2 (one1 _) ?o4 ?o5 ?o6 ?o7)
                case o1 => exact Ho.out.alloc _
                case o2 => exact rd_alloc (by simp) rfl
                case o4 => unfold maxLen; omega
                case o5 => omega
                case o6 => (try simp); omega
                case o7 =>
                  have hx : v3 = y := ba_t (by assumption)
                  intro A6 c6 w8 ho1 hk1 hf1
                  have hb1 : Below w7.heap.size w7 w8 := Hb.out.trans (((Below.refl w7.heap.size _).alloc (by omega) _).trans (hk1.below (by simp; omega) (fun k hk h => by have := (own_fa Ho.out h).1; omega)))
                  have Hx := Lib.hid hx
                  have Ho1 := Lib.hid ho1
                  have Hb1 := Lib.hid hb1
                  clear hx ho1 hb1
                  clear hk1 hf1
                  go_wp2
                  go_roundg (f.length - (k5 + 1))
                  case measure => have := Hk5.out; omega
                  case rel =>
                    have e : ((f.take (k5 + 1)).filter (fun b => decide (b.k = y))).map Bd.q = m ++ [v2] := by
                      rw [take_filter_succ _ f k5 hlt5, List.map_append, ← Hm.out, Hy.out, if_pos (by simp [Hx.out])]; rfl
                    refine ⟨k5 + 1, m ++ [v2], A6, c6, by omega, by go_num, e.symm, by simp, ?_, Hb1.out⟩
                    rw [← Strs_one, show (m ++ [v2]).length = m.length + 1 by simp]
                    exact Ho1.out
                all_goals
                  have hx : v3 ≠ y := ba_f (by assumption)
                  have Hx := Lib.hid hx
                  clear hx
                  go_roundg (f.length - (k5 + 1))
                  case measure => have := Hk5.out; omega
                  case rel =>
                    have e : ((f.take (k5 + 1)).filter (fun b => decide (b.k = y))).map Bd.q = m := by
                      rw [take_filter_succ _ f k5 hlt5, List.map_append, ← Hm.out, Hy.out, if_neg (by simp [Hx.out]), List.map_nil, List.append_nil]
                    exact ⟨k5 + 1, m, A5, c5, by omega, by go_num, e.symm, rfl, Ho.out, Hb.out⟩
              · have HKE : Hid (m = keyed l' x y) := by unfold Hid keyed; rw [hm, List.take_of_length_le (by omega), ← Hf.out]
                have HB8 := Lib.hid (HB7.out.kp (Kp.of_below hb))
                have HRF8 := Lib.hid (HRF.out.below hb)
                have HRM := Lib.hid (own_rd ho)
                clear hm ho hb HRF HB7 hsz7
                go_wp2_with fail
                generalize wr = w8 at *
                refine wp_region_ord (.mov 0 (.mov 1 (.mov 2 (.mov 3 (.mov 4 (.mov 6 (.eff 5 (.eff 7 (.mov 8 (.mov 9 (.mov 10 (.mov 11 (.mov 12 (.mov 13 (.mov 15 (.eff 14 (.eff 16 (.mov 17 (.mov 18 (.mov 19 (.mov 20 (.mov 22 (.mov 23 (.mov 24 (.mov 25 (.mov 26 (.eff 21 (.mov 27 (.mov 28 .fin))))))))))))))))))))))))))))) ?_ ?_ ?_ ?_
                · kernel_rfl
                · kernel_rfl
                · exact fun _ _ _ _ h => h
                iterate 6 (refine ord_pure rfl rfl ?_; go_big_quiet_step (fail); refine wpQuiet_nil ?_)
                refine ord_sync rfl (by kernel_rfl) (fun K hK => ?_)
                go_wp2_with fail
                refine (bdOf _ x _ _ l' w8.drew (by omega) (HB8.out.kp (Kp.refl None' w8).drew).tab.blk (own_rd (HB8.out.kp (Kp.refl None' w8).drew).tab.own)).mono ?_
                rintro e w9 ⟨Ag, cg, rfl, hog, hb9⟩
                rw [← Hf.out] at hog ⊢
                have k9 : Kp None' w8 w9 := (Kp.refl None' w8).drew.trans (Kp.of_below hb9) (fun _ _ h => h)
                have HB9 := Lib.hid (HB8.out.kp k9)
                have HRG := Lib.hid (own_rd hog)
                have HRF9 := Lib.hid (HRF8.out.kp k9 (fun _ _ h => h))
                have HRM9 := Lib.hid (HRM.out.kp k9 (fun _ _ h => h))
                clear hog hb9 k9 HB8 HRF8 HRM
                go_wp2_with fail
                refine ord_sync rfl (by kernel_rfl) (fun K hK => ?_)
                go_wp2_with fail
                refine (sameBindings true Ag Af cg cf f f w9 (by omega) (by omega) HRG.out HRF9.out (decide_eq_true rfl)).mono ?_
                rintro e w10 ⟨rfl, q10, rfl⟩
                have HB10 := Lib.hid (HB9.out.kp ((Kp.refl None' w9).drewN q10))
                have HRM10 := Lib.hid (HRM9.out.kp ((Kp.refl None' w9).drewN q10) (fun _ _ h => h))
                clear HRG HRF9 HRM9 HB9
                generalize w9.drewN q10 = w10 at *
                go_wp2_with fail
                iterate 7 (refine ord_pure rfl rfl ?_; go_big_quiet_step (fail); refine wpQuiet_nil ?_)
                refine ord_sync rfl (by kernel_rfl) (fun K hK => ?_)
                go_wp2_with fail
                refine (bdKeyed _ _ x y _ _ l' w10 (by omega) HB10.out.tab).mono ?_
                rintro e w11 ⟨Ak, ck, rfl, hok, hb11⟩
                rw [← HKE.out] at hok ⊢
                have HB11 := Lib.hid (HB10.out.kp (Kp.of_below hb11))
                have HRK := Lib.hid (own_rd hok)
                have HRM11 := Lib.hid (HRM10.out.below hb11)
                clear hok hb11 HB10 HRM10
                go_wp2_with fail
                refine ord_sync rfl (by kernel_rfl) (fun K hK => ?_)
                go_wp2_with fail
                refine (sameTexts true Ak A5 ck c5 m m w11 (by omega) (by omega) HRK.out HRM11.out (decide_eq_true rfl)).mono ?_
                rintro e w12 ⟨rfl, q12, rfl⟩
                have HB12 := Lib.hid (HB11.out.kp ((Kp.refl None' w11).drewN q12))
                clear HRK HRM11 HB11
                generalize w11.drewN q12 = w12 at *
                go_wp2_with fail
                iterate 4 (refine ord_pure rfl rfl ?_; go_big_quiet_step (fail); refine wpQuiet_nil ?_)
                have z0 : ∀ z : Wd None' w12, z.w.cell? ⟨w1.heap.size, 0, none⟩ = some (.slice _ l'.length _) := fun z => z.cell HB12.out.ref.cell id
                iterate 3 (refine ord_pure rfl rfl ?_; go_big_quiet_step (fail); refine wpQuiet_nil ?_)
                iterate 1 (refine ord_mov (fun w' => ∃ z : Wd None' w12, w' = z.w) (Wd.of (Kp.refl _ _)) rfl rfl ?_; go_big_quiet_step (fail); refine wpQuiet_nil ?_)
                iterate 1 (refine ord_pure rfl rfl ?_; go_big_quiet_step (fail); refine wpQuiet_nil ?_)
                refine ord_keep (fun w' => ∃ z : Wd None' w12, w' = z.w) rfl (by simp) (fun K hK => ?_)
                go_wp2_with fail
                refine (bdLen _ _ _ _ l' w12 HB12.out.tab).mono ?_
                rintro e w13 ⟨rfl, rfl⟩
                go_wp2_with fail
                refine ⟨Wd.of (Kp.refl _ _), ?_⟩
                clear z0
                iterate 2 (refine ord_pure rfl rfl ?_; go_big_quiet_step (fail); refine wpQuiet_nil ?_)
                refine ord_end ?_
                go_wp2
                go_roundg (ss.length - (k + 1))
                case measure => have := Hk.out; omega
                case rel => exact ⟨k + 1, l', _, _, _, _, by omega, by go_num, h40', HND.out, HB12.out⟩
          · go_wp2_with fail
            have n3 : Blk (wr.alloc (Obj.cells #[Value.int IntKind.i64 op, Value.string y1, Value.string y2, Value.string y3] 43)) wr.heap.size 43 #[Value.int IntKind.i64 op, Value.string y1, Value.string y2, Value.string y3] := Blk.new _ _ _
            have k3 := (Kp.refl None' wr).alloc (Obj.cells #[Value.int IntKind.i64 op, Value.string y1, Value.string y2, Value.string y3] 43)
            generalize wr.alloc (Obj.cells #[Value.int IntKind.i64 op, Value.string y1, Value.string y2, Value.string y3] 43) = w3 at *
            have HB3 := Lib.hid (Hbo.out.kp k3)
            refine (bdDropExchange y1 _ _ A1 c1 l w3 (by omega) HB3.out.tab).mono ?_
            rintro e w4 ⟨A3, c3, rfl, hT4, hk4, hf4⟩
            have hB4 := HB3.out.step1 hT4 (hk4.mono (fun _ _ h => .inl h)) (fun j h => .inr (hf4 j h))
            have n4 := n3.kp hk4 (fun e => by omega)
            have z1 : w4.cell? ⟨wr.heap.size, 1, none⟩ = some (.string y1) := n4.cell 1
            have HB4 := Lib.hid hB4
            clear n3 k3 HB3 hT4 hk4 hf4 hB4 n4 g1 g2 g3 g4
            go_wp2_with fail
            refine (refDropExchange y1 _ _ A2 c2 l w4 (by omega) HB4.out.ref).mono ?_
            rintro e w5 ⟨A4, c4, rfl, hT5, hk5, hf5⟩
            have HB5 := Lib.hid (HB4.out.step2 hT5 hk5 (fun j h => .inr (hf5 j h)))
            have h40' : (l.filter fun b => !decide (b.x = y1)).length ≤ 40 := Nat.le_trans (List.length_filter_le ..) h40
            have HND := Lib.hid (Hnd.out.filter fun b => !decide (b.x = y1))
            clear HB4 hT5 hk5 hf5 z1 h40 Hnd
            generalize (l.filter fun b => !decide (b.x = y1)) = l' at *
            go_wp2_with fail
            refine (refOf _ _ x _ _ l' w5 (by omega) HB5.out.ref).mono ?_
            rintro e w7 ⟨Af, cf, rfl, hof, hb7⟩
            have HB7 := Lib.hid (HB5.out.kp (Kp.of_below hb7))
            have hfl : (l'.filter fun b => decide (b.x = x)).length ≤ 40 := Nat.le_trans (List.length_filter_le ..) h40'
            obtain ⟨f, hf⟩ : ∃ f, f = l'.filter fun b => decide (b.x = x) := ⟨_, rfl⟩
            rw [← hf] at hof hfl ⊢
            have HRF := Lib.hid (own_rd hof)
            have Hf := Lib.hid hf
            clear hf
            clear hof hb7 HB5
            go_wp2
            go_loopg [17, 18] (f.length) (fun g s i wt => ∃ (k : Nat) (m : List ByteArray) (A5 : Option Addr) (c5 : Nat), k + g = f.length ∧ i = .int .i64 k ∧ m = ((f.take k).filter (fun b => decide (b.k = y))).map Bd.q ∧ s = .slice A5 m.length c5 ∧ wt.ownsRow w7.heap.size 9 1 (.slice A5 m.length c5) m.length (Strs m) ∧ Below w7.heap.size w7 wt)
            case atStart => exact ⟨0, [], none, 0, by omega, rfl, rfl, rfl, World.ownsRow_nil .., Below.refl _ _⟩
            case round =>
              obtain ⟨k5, m, A5, c5, hk5, rfl, hm, rfl, ho, hb⟩ := hrel
              have hml : m.length ≤ k5 := by rw [hm, List.length_map]; exact Nat.le_trans (List.length_filter_le ..) (by simp; omega)
              have hsz7 := hb.size
              by_cases hlt5 : k5 < f.length
              · have hr1 := HRF.out.below hb
                have Hk5 := Lib.hid hk5
                have Hm := Lib.hid hm
                have Ho := Lib.hid ho
                have Hb := Lib.hid hb
                clear hk5 hm ho hb
                obtain ⟨b', off', rfl, hc⟩ := hr1.2 (by omega)
                obtain ⟨e1, e2, e3⟩ := Bds_get f k5 hlt5
                have g2 := hc _ _ e2
                have g3 := hc _ _ e3
                rw [← Nat.add_assoc] at g2 g3
                clear hc e1 e2 e3 hr1
                generalize hy : f[k5] = v at *
                have Hy := Lib.hid hy
                clear hy
                obtain ⟨v1, v2, v3⟩ := v
                dsimp only at g2 g3
                go_wp2_with (at_builtin; refine wpList_app _ rfl _ _ 32 rfl w7.heap.size 9 _ 1 16 Try.underlying32 info_str rfl (by decide) A5 c5 m.length (Strs m) rfl ?o1 _ 1 1 [.string v2] rfl ?o2 (one1 _) ?o4 ?o5 ?o6 ?o7)
                case o1 => exact Ho.out.alloc _
                case o2 => exact rd_alloc (by simp) rfl
                case o4 => unfold maxLen; omega
                case o5 => omega
                case o6 => (try simp); omega
                case o7 =>
                  have hx : v3 = y := ba_t (by assumption)
                  intro A6 c6 w8 ho1 hk1 hf1
                  have hb1 : Below w7.heap.size w7 w8 := Hb.out.trans (((Below.refl w7.heap.size _).alloc (by omega) _).trans (hk1.below (by simp; omega) (fun k hk h => by have := (own_fa Ho.out h).1; omega)))
                  have Hx := Lib.hid hx
                  have Ho1 := Lib.hid ho1
                  have Hb1 := Lib.hid hb1
                  clear hx ho1 hb1
                  clear hk1 hf1
                  go_wp2
                  go_roundg (f.length - (k5 + 1))
                  case measure => have := Hk5.out; omega
                  case rel =>
                    have e : ((f.take (k5 + 1)).filter (fun b => decide (b.k = y))).map Bd.q = m ++ [v2] := by
                      rw [take_filter_succ _ f k5 hlt5, List.map_append, ← Hm.out, Hy.out, if_pos (by simp [Hx.out])]; rfl
                    refine ⟨k5 + 1, m ++ [v2], A6, c6, by omega, by go_num, e.symm, by simp, ?_, Hb1.out⟩
                    rw [← Strs_one, show (m ++ [v2]).length = m.length + 1 by simp]
                    exact Ho1.out
                all_goals
                  have hx : v3 ≠ y := ba_f (by assumption)
                  have Hx := Lib.hid hx
                  clear hx
                  go_roundg (f.length - (k5 + 1))
                  case measure => have := Hk5.out; omega
                  case rel =>
                    have e : ((f.take (k5 + 1)).filter (fun b => decide (b.k = y))).map Bd.q = m := by
                      rw [take_filter_succ _ f k5 hlt5, List.map_append, ← Hm.out, Hy.out, if_neg (by simp [Hx.out]), List.map_nil, List.append_nil]
                    exact ⟨k5 + 1, m, A5, c5, by omega, by go_num, e.symm, rfl, Ho.out, Hb.out⟩
              · have HKE : Hid (m = keyed l' x y) := by unfold Hid keyed; rw [hm, List.take_of_length_le (by omega), ← Hf.out]
                have HB8 := Lib.hid (HB7.out.kp (Kp.of_below hb))
                have HRF8 := Lib.hid (HRF.out.below hb)
                have HRM := Lib.hid (own_rd ho)
                clear hm ho hb HRF HB7 hsz7
                go_wp2_with fail
                generalize wr = w8 at *
                refine wp_region_ord (.mov 0 (.mov 1 (.mov 2 (.mov 3 (.mov 4 (.mov 6 (.eff 5 (.eff 7 (.mov 8 (.mov 9 (.mov 10 (.mov 11 (.mov 12 (.mov 13 (.mov 15 (.eff 14 (.eff 16 (.mov 17 (.mov 18 (.mov 19 (.mov 20 (.mov 22 (.mov 23 (.mov 24 (.mov 25 (.mov 26 (.eff 21 (.mov 27 (.mov 28 .fin))))))))))))))))))))))))))))) ?_ ?_ ?_ ?_
                · kernel_rfl
                · kernel_rfl
                · exact fun _ _ _ _ h => h
                iterate 6 (refine ord_pure rfl rfl ?_; go_big_quiet_step (fail); refine wpQuiet_nil ?_)
                refine ord_sync rfl (by kernel_rfl) (fun K hK => ?_)
                go_wp2_with fail
                refine (bdOf _ x _ _ l' w8.drew (by omega) (HB8.out.kp (Kp.refl None' w8).drew).tab.blk (own_rd (HB8.out.kp (Kp.refl None' w8).drew).tab.own)).mono ?_
                rintro e w9 ⟨Ag, cg, rfl, hog, hb9⟩
                rw [← Hf.out] at hog ⊢
                have k9 : Kp None' w8 w9 := (Kp.refl None' w8).drew.trans (Kp.of_below hb9) (fun _ _ h => h)
                have HB9 := Lib.hid (HB8.out.kp k9)
                have HRG := Lib.hid (own_rd hog)
                have HRF9 := Lib.hid (HRF8.out.kp k9 (fun _ _ h => h))
                have HRM9 := Lib.hid (HRM.out.kp k9 (fun _ _ h => h))
                clear hog hb9 k9 HB8 HRF8 HRM
                go_wp2_with fail
                refine ord_sync rfl (by kernel_rfl) (fun K hK => ?_)
                go_wp2_with fail
                refine (sameBindings true Ag Af cg cf f f w9 (by omega) (by omega) HRG.out HRF9.out (decide_eq_true rfl)).mono ?_
                rintro e w10 ⟨rfl, q10, rfl⟩
                have HB10 := Lib.hid (HB9.out.kp ((Kp.refl None' w9).drewN q10))
                have HRM10 := Lib.hid (HRM9.out.kp ((Kp.refl None' w9).drewN q10) (fun _ _ h => h))
                clear HRG HRF9 HRM9 HB9
                generalize w9.drewN q10 = w10 at *
                go_wp2_with fail
                iterate 7 (refine ord_pure rfl rfl ?_; go_big_quiet_step (fail); refine wpQuiet_nil ?_)
                refine ord_sync rfl (by kernel_rfl) (fun K hK => ?_)
                go_wp2_with fail
                refine (bdKeyed _ _ x y _ _ l' w10 (by omega) HB10.out.tab).mono ?_
                rintro e w11 ⟨Ak, ck, rfl, hok, hb11⟩
                rw [← HKE.out] at hok ⊢
                have HB11 := Lib.hid (HB10.out.kp (Kp.of_below hb11))
                have HRK := Lib.hid (own_rd hok)
                have HRM11 := Lib.hid (HRM10.out.below hb11)
                clear hok hb11 HB10 HRM10
                go_wp2_with fail
                refine ord_sync rfl (by kernel_rfl) (fun K hK => ?_)
                go_wp2_with fail
                refine (sameTexts true Ak A5 ck c5 m m w11 (by omega) (by omega) HRK.out HRM11.out (decide_eq_true rfl)).mono ?_
                rintro e w12 ⟨rfl, q12, rfl⟩
                have HB12 := Lib.hid (HB11.out.kp ((Kp.refl None' w11).drewN q12))
                clear HRK HRM11 HB11
                generalize w11.drewN q12 = w12 at *
                go_wp2_with fail
                iterate 4 (refine ord_pure rfl rfl ?_; go_big_quiet_step (fail); refine wpQuiet_nil ?_)
                have z0 : ∀ z : Wd None' w12, z.w.cell? ⟨w1.heap.size, 0, none⟩ = some (.slice _ l'.length _) := fun z => z.cell HB12.out.ref.cell id
                iterate 3 (refine ord_pure rfl rfl ?_; go_big_quiet_step (fail); refine wpQuiet_nil ?_)
                iterate 1 (refine ord_mov (fun w' => ∃ z : Wd None' w12, w' = z.w) (Wd.of (Kp.refl _ _)) rfl rfl ?_; go_big_quiet_step (fail); refine wpQuiet_nil ?_)
                iterate 1 (refine ord_pure rfl rfl ?_; go_big_quiet_step (fail); refine wpQuiet_nil ?_)
                refine ord_keep (fun w' => ∃ z : Wd None' w12, w' = z.w) rfl (by simp) (fun K hK => ?_)
                go_wp2_with fail
                refine (bdLen _ _ _ _ l' w12 HB12.out.tab).mono ?_
                rintro e w13 ⟨rfl, rfl⟩
                go_wp2_with fail
                refine ⟨Wd.of (Kp.refl _ _), ?_⟩
                clear z0
                iterate 2 (refine ord_pure rfl rfl ?_; go_big_quiet_step (fail); refine wpQuiet_nil ?_)
                refine ord_end ?_
                go_wp2
                go_roundg (ss.length - (k + 1))
                case measure => have := Hk.out; omega
                case rel => exact ⟨k + 1, l', _, _, _, _, by omega, by go_num, h40', HND.out, HB12.out⟩
    · go_wp2
      go_ret
      exact ⟨rfl, HB0.out.trans (Hbo.out.blw.mono s00)⟩
end Go.Proofs.Ythaoplcmkaaflaa
