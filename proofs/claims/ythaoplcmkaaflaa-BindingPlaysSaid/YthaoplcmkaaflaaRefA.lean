import Derived.Test.YthaoplcmkaaflaaBdF
namespace Go.Proofs.Ythaoplcmkaaflaa
open Go.RowKit

/-- the reference's table in memory -/
structure RefA (w : World) (base p : Nat) (A : Option Addr) (c : Nat) (l : List Bd) : Prop where
  blk : Blk w p 41 #[.slice A l.length c]
  own : w.ownsRow base 28 3 (.slice A l.length c) l.length (Bds l)
  le : base ≤ p
theorem RefA.kp {w w' : World} {base p : Nat} {A : Option Addr} {c : Nat} {l : List Bd} {G : Nat → Prop} (h : RefA w base p A c l) (hb : Kp G w w') (hp : ¬ G p) (hA : ∀ k, FA A k → ¬ G k) : RefA w' base p A c l :=
  ⟨h.blk.kp hb hp, own_kp h.own hb hA, h.le⟩
theorem RefA.cell {w : World} {base p : Nat} {A : Option Addr} {c : Nat} {l : List Bd} (h : RefA w base p A c l) : w.cell? ⟨p, 0, none⟩ = some (.slice A l.length c) := h.blk.cell 0
theorem RefA.ne {w : World} {base p : Nat} {A : Option Addr} {c : Nat} {l : List Bd} (h : RefA w base p A c l) : ¬ FA A p := own_blk h.own h.blk (by decide)

set_option maxHeartbeats 1000000 in
theorem refAdd (base p : Nat) (A : Option Addr) (c : Nat) (l : List Bd) (x : Bd) (w : World) (hl : l.length ≤ 1000000) (hT : RefA w base p A c l) :
    Calls Try.prog 13 #[.pointer (some ⟨p, 0, none⟩), x.v] w fun e w' => ∃ A' c', e = .returned (.tuple #[.bool (addOk l x), .int .i64 (addErr l x)]) ∧ RefA w' base p A' c' (addL l x) ∧ Kp (fun k => k = p) w w' ∧ ∀ k, FA A' k → FA A k ∨ w.heap.size ≤ k := by
  obtain ⟨x1, x2, x3⟩ := x
  simp only [Bd.v]
  have hlt0 := hT.blk.lt
  have hp : p ≠ w.heap.size := Nat.ne_of_lt hlt0
  have HT := Lib.hid hT
  clear hT
  go_enter Try.func13, Try.ntmps13
  go_wp2
  have hb0 : Below w.heap.size w (w.alloc (Obj.cells #[Value.string x1, Value.string x2, Value.string x3] 28)) := (Below.refl _ _).alloc (Nat.le_refl _) _
  have d0 : Blk (w.alloc (Obj.cells #[Value.string x1, Value.string x2, Value.string x3] 28)) w.heap.size 28 #[Value.string x1, Value.string x2, Value.string x3] := Blk.new _ _ _
  have hs0 : (w.alloc (Obj.cells #[Value.string x1, Value.string x2, Value.string x3] 28)).heap.size = w.heap.size + 1 := by simp
  generalize w.alloc (Obj.cells #[Value.string x1, Value.string x2, Value.string x3] 28) = w0 at *
  have h0 : w0.cell? ⟨w.heap.size, 0, none⟩ = some (.string x1) := d0.cell 0
  have h1 : w0.cell? ⟨w.heap.size, 1, none⟩ = some (.string x2) := d0.cell 1
  have h2 : w0.cell? ⟨w.heap.size, 2, none⟩ = some (.string x3) := d0.cell 2
  have hT0 : RefA w0 base p A c l := HT.out.kp (G := None') (Kp.of_below hb0) id (fun _ _ => id)
  have c0 := hT0.cell
  have HR0 := Lib.hid (own_rd hT0.own)
  have HT0 := Lib.hid hT0
  have Hb0 := Lib.hid hb0
  have D0 := Lib.hid d0
  clear hb0 d0
  clear hT0 HT
  go_loopg [6] (l.length) (fun g i wr => ∃ k : Nat, k + g = l.length ∧ i = .int .i64 k ∧ (∀ j (hj : j < l.length), j < k → decide (l[j] = ⟨x1, x2, x3⟩) = false) ∧ ∃ q, wr = w0.drewN q)
  case atStart => exact ⟨0, by omega, rfl, fun j _ hj => absurd hj (by omega), 0, rfl⟩
  case round =>
    obtain ⟨k, hk, rfl, hno, q, rfl⟩ := hrel
    have Hk := Lib.hid hk
    have Hno := Lib.hid hno
    clear hk hno
    by_cases hlt : k < l.length
    · obtain ⟨b, off, rfl, hc⟩ := HR0.out.2 (by omega)
      obtain ⟨e1, e2, e3⟩ := Bds_get l k hlt
      have g1 := hc _ _ e1
      have g2 := hc _ _ e2
      have g3 := hc _ _ e3
      rw [← Nat.add_assoc] at g2 g3
      clear hc e1 e2 e3
      generalize hy : l[k] = y at *
      have Hy := Lib.hid hy
      clear hy
      obtain ⟨y1, y2, y3⟩ := y
      dsimp only at g1 g2 g3
      have HB := Lib.hid (bdEq_iff ⟨y1, y2, y3⟩ ⟨x1, x2, x3⟩)
      dsimp only at HB
      go_wp2
      go_quiet (fail)
      go_wp2
      · have hy : bdEq y1 y2 y3 x1 x2 x3 = true := by assumption
        have hyx : (⟨y1, y2, y3⟩ : Bd) = ⟨x1, x2, x3⟩ := of_decide_eq_true (by rw [← HB.out]; exact hy)
        have hin : (l.any fun z => decide ((⟨x1, x2, x3⟩ : Bd) = z)) = true := List.any_eq_true.2 ⟨l[k], List.getElem_mem hlt, decide_eq_true (by rw [Hy.out, hyx])⟩
        have e1 : addOk l ⟨x1, x2, x3⟩ = false := by unfold addOk; rw [hin]; rfl
        have e2 : addErr l ⟨x1, x2, x3⟩ = 0 := by unfold addErr; rw [hin]; rfl
        have e3 : addL l ⟨x1, x2, x3⟩ = l := by unfold addL; rw [e1]; rfl
        have E1 := Lib.hid e1
        have E2 := Lib.hid e2
        have E3 := Lib.hid e3
        clear e1 e2 e3
        go_ret2
        refine ⟨_, c, by rw [E1.out, E2.out]; rfl, ?_, ((Kp.of_below Hb0.out).drewN _).drewN _, fun k h => .inl h⟩
        rw [E3.out]
        exact HT0.out.kp (((Kp.refl None' _).drewN _).drewN _) id (fun _ _ => id)
      · have hy : bdEq y1 y2 y3 x1 x2 x3 = false := by assumption
        go_roundg (l.length - (k + 1))
        case measure => have := Hk.out; omega
        case rel =>
          refine ⟨k + 1, by omega, by go_num, ?_, _, rfl⟩
          intro j hj hjk
          rcases Nat.lt_or_ge j k with h | h
          · exact Hno.out j hj h
          · obtain rfl : j = k := by omega
            rw [Hy.out, ← HB.out]; exact hy
    · have hout : (l.any fun z => decide ((⟨x1, x2, x3⟩ : Bd) = z)) = false := by
        refine List.any_eq_false.2 fun z hz => ?_
        obtain ⟨j, hj, rfl⟩ := List.getElem_of_mem hz
        have := Hno.out j hj (by omega)
        simpa [eq_comm] using this
      by_cases hf : l.length < 40
      · have e1 : addOk l ⟨x1, x2, x3⟩ = true := by unfold addOk; rw [hout, decide_eq_true hf]; rfl
        have e2 : addErr l ⟨x1, x2, x3⟩ = 0 := by unfold addErr; rw [decide_eq_true hf, Bool.or_true]; rfl
        have e3 : addL l ⟨x1, x2, x3⟩ = l ++ [⟨x1, x2, x3⟩] := by unfold addL; rw [e1]; rfl
        have E1 := Lib.hid e1
        have E2 := Lib.hid e2
        have E3 := Lib.hid e3
        clear e1 e2 e3
        clear hout
        go_wp2_with fail
        have hb1 := (Kp.of_below (F := fun k => k = p) Hb0.out).drewN q
        have hT1 := HT0.out.kp ((Kp.refl None' _).drewN q) id (fun _ _ => id)
        have d1 := D0.out.drewN q
        have hs1 : (w0.drewN q).heap.size = w.heap.size + 1 := hs0
        generalize w0.drewN q = w1 at *
        have z0 : ∀ z : Wd None' w1, z.w.cell? ⟨p, 0, none⟩ = some (.slice A l.length c) := fun z => z.cell hT1.cell id
        have z1 : ∀ z : Wd None' w1, z.w.cell? ⟨w.heap.size, 0, none⟩ = some (.string x1) := fun z => z.cell (d1.cell 0) id
        have z2 : ∀ z : Wd None' w1, z.w.cell? ⟨w.heap.size, 1, none⟩ = some (.string x2) := fun z => z.cell (d1.cell 1) id
        have z3 : ∀ z : Wd None' w1, z.w.cell? ⟨w.heap.size, 2, none⟩ = some (.string x3) := fun z => z.cell (d1.cell 2) id
        have Hb1 := Lib.hid hb1
        have HT1 := Lib.hid hT1
        have D1 := Lib.hid d1
        have Hs1 := Lib.hid hs1
        clear hb1 hT1 d1 hs1
        clear h0 h1 h2 c0 HR0 HT0 D0 Hb0
        refine wp_region_ord (.mov 0 (.mov 1 (.mov 2 (.mov 3 (.mov 4 (.mov 6 (.two 5 (.eff 7 (.eff 8 (.mov 9 (.mov 10 (.eff 11 .fin))))) 7 (.eff 5 (.eff 8 (.mov 9 (.mov 10 (.eff 11 .fin)))))))))))) ?_ ?_ ?_ ?_
        · kernel_rfl
        · kernel_rfl
        · exact fun _ _ _ _ h => h
        iterate 4 (refine ord_pure rfl rfl ?_; go_big_quiet_step (fail); refine wpQuiet_nil ?_)
        iterate 2 (refine ord_mov (fun w' => ∃ z : Wd None' w1, w' = z.w) (Wd.of ((Kp.refl _ _).drew)) rfl rfl ?_; go_big_quiet_step (fail); refine wpQuiet_nil ?_)
        refine ord_two ?_ ?_
        refine ord_keep (fun w' => ∃ z : Wd None' w1, w' = z.w) rfl (by simp) (fun K hK => ?_)
        refine wpList_app _ rfl _ _ 39 rfl w.heap.size 28 _ 3 48 Try.underlying39 info_bd rfl (by decide) none 0 0 [] rfl (World.ownsRow_nil ..) A l.length c (Bds l) rfl (own_rd HT1.out.own : Rd w1.drew _ _ _ _) (Bds_one_cell l) ?_ ?_ ?_ ?_
        · unfold maxLen; omega
        · omega
        · have := Hs1.out; simp; omega
        intro A2 c2 w2 ho2 hk2 hf2
        have k2 : Kp None' w1 w2 := (Kp.refl None' w1).drew.trans hk2 (fun k _ h => FA_none k h)
        have HF2 : Hid (∀ k, FA A2 k → w1.heap.size ≤ k) := fun k h => Nat.le_of_eq ((hf2 k h).resolve_left (FA_none k)).symm
        rw [List.nil_append, Nat.zero_add] at ho2
        rw [Nat.zero_add]
        refine hK _ _ ⟨Wd.of k2, ?_⟩
        have K2 := Lib.hid k2
        have Ho2 := Lib.hid ho2
        clear ho2
        clear hk2 hf2 k2 hK z0 z1 z2 z3
        simp only [Act.put, List.setIfInBounds_toArray, List.set_cons_zero, List.set_cons_succ]
        refine ord_keep (fun w' => ∃ z : Wd None' w1, w' = z.w) rfl (by simp) (fun K hK => ?_)
        go_wp2_with fail
        have k3 := K2.out.trans ((Kp.refl None' w2).alloc (Obj.cells #[Value.string x1, Value.string x2, Value.string x3] 28)) (fun _ _ h => h)
        have hrd : Rd (w2.alloc (Obj.cells #[Value.string x1, Value.string x2, Value.string x3] 28)) 3 (some ⟨w2.heap.size, 0, none⟩) 1 [.string x1, .string x2, .string x3] := rd_alloc rfl rfl
        have ho3 := own_kp Ho2.out ((Kp.refl None' w2).alloc (Obj.cells #[Value.string x1, Value.string x2, Value.string x3] 28)) (fun _ _ => id)
        refine ⟨Wd.of k3, ?_⟩
        generalize w2.alloc (Obj.cells #[Value.string x1, Value.string x2, Value.string x3] 28) = w3 at *
        have K3 := Lib.hid k3
        have Hrd := Lib.hid hrd
        have Ho3 := Lib.hid ho3
        clear hrd ho3
        clear k3 K2 Ho2
        rotate_left
        refine ord_keep (fun w' => ∃ z : Wd None' w1, w' = z.w) rfl (by simp) (fun K hK => ?_)
        go_wp2_with fail
        have k2 := ((Kp.refl None' w1).alloc (Obj.cells #[Value.string x1, Value.string x2, Value.string x3] 28)).drew
        have hrd : Rd (w1.alloc (Obj.cells #[Value.string x1, Value.string x2, Value.string x3] 28)).drew 3 (some ⟨w1.heap.size, 0, none⟩) 1 [.string x1, .string x2, .string x3] := (rd_alloc rfl rfl).drew
        have hsz2 : (w1.alloc (Obj.cells #[Value.string x1, Value.string x2, Value.string x3] 28)).drew.heap.size = w1.heap.size + 1 := by simp
        refine ⟨Wd.of k2, ?_⟩
        generalize (w1.alloc (Obj.cells #[Value.string x1, Value.string x2, Value.string x3] 28)).drew = w2 at *
        have K2 := Lib.hid k2
        have Hrd := Lib.hid hrd
        have Hsz2 := Lib.hid hsz2
        clear hrd hsz2
        clear k2 z0 z1 z2 z3
        refine ord_keep (fun w' => ∃ z : Wd None' w1, w' = z.w) rfl (by simp) (fun K hK => ?_)
        refine wpList_app _ rfl _ _ 39 rfl w.heap.size 28 _ 3 48 Try.underlying39 info_bd rfl (by decide) none 0 0 [] rfl (World.ownsRow_nil ..) A l.length c (Bds l) rfl ((own_rd HT1.out.own).kp (F := None') K2.out (fun _ _ h => h)) (Bds_one_cell l) ?_ ?_ ?_ ?_
        · unfold maxLen; omega
        · omega
        · have := Hs1.out; have := Hsz2.out; omega
        intro A2 c2 w3 ho3 hk3 hf2
        have k3 : Kp None' w1 w3 := K2.out.trans hk3 (fun k _ h => FA_none k h)
        have HF2 : Hid (∀ k, FA A2 k → w1.heap.size ≤ k) := fun k h => by have := (hf2 k h).resolve_left (FA_none k); have := Hsz2.out; omega
        have hrd' := Hrd.out.below (hk3.below (Nat.le_refl _) (fun k _ h => FA_none k h))
        clear Hrd
        rw [List.nil_append, Nat.zero_add] at ho3
        rw [Nat.zero_add]
        refine hK _ _ ⟨Wd.of k3, ?_⟩
        have K3 := Lib.hid k3
        have Hrd := Lib.hid hrd'
        have Ho3 := Lib.hid ho3
        clear ho3
        clear hk3 hf2 k3 K2 hK hrd'
        simp only [Act.put, List.setIfInBounds_toArray, List.set_cons_zero, List.set_cons_succ]
        all_goals
          refine ord_sync rfl (by kernel_rfl) (fun K hK => ?_)
          refine wpList_app _ rfl _ _ 39 rfl w.heap.size 28 _ 3 48 Try.underlying39 info_bd rfl (by decide) A2 c2 l.length (Bds l) rfl Ho3.out _ 1 1 [.string x1, .string x2, .string x3] rfl Hrd.out ?_ ?_ ?_ ?_ ?_
          · intro u hu; simp at hu; rcases hu with rfl | rfl | rfl <;> rfl
          · unfold maxLen; omega
          · omega
          · have := Hs1.out; have := K3.out.size; omega
          intro A4 c4 w4 ho4 hk4 hf4
          have hb4 : Kp (fun k => k = p) w w4 := (Hb1.out.trans (K3.out.to (F := None')) (fun _ _ h => h.elim)).trans hk4 (fun k hk h => by have := HF2.out k h; have := Hs1.out; omega)
          have hB4 : Blk w4 p 41 #[.slice A l.length c] := (HT1.out.blk.kp K3.out id).kp hk4 (fun h => by have := HF2.out p h; have := Hs1.out; omega)
          have HF4 : Hid (∀ k, FA A4 k → w.heap.size ≤ k) := fun k h => by
            rcases hf4 k h with h | h
            · have := HF2.out k h; have := Hs1.out; omega
            · have := K3.out.size; have := Hs1.out; omega
          have f4 := hB4.frozen 0
          have c4' := hB4.cell 0
          have Ho4 := Lib.hid ho4
          have Hb4 := Lib.hid hb4
          have HB4 := Lib.hid hB4
          clear ho4 hb4 hB4
          clear hk4 hf4
          go_wp2_with fail
          simp only [Act.put, List.setIfInBounds_toArray, List.set_cons_zero, List.set_cons_succ]
          iterate 2 (refine ord_pure rfl rfl ?_; go_big_quiet_step (fail); refine wpQuiet_nil ?_)
          refine ord_sync rfl (by kernel_rfl) (fun K hK => ?_)
          go_wp2_with fail
          refine ord_end ?_
          go_wp2
          go_ret2
          have hpA : ¬ FA A4 p := fun h => by have := HF4.out p h; omega
          refine ⟨A4, c4, by rw [E1.out, E2.out]; rfl, ?_, Hb4.out.setCell (fun _ => rfl) _, fun k h => .inr (HF4.out k h)⟩
          rw [E3.out]
          refine ⟨?_, ?_, HT1.out.le⟩
          · rw [show (l ++ [(⟨x1, x2, x3⟩ : Bd)]).length = l.length + 1 by simp]
            exact HB4.out.set_ 0 _
          · rw [show (l ++ [(⟨x1, x2, x3⟩ : Bd)]).length = l.length + 1 by simp, ← Bds_one]
            exact own_mono (own_kp Ho4.out (Kp.set1 p 0 _) (fun k hk e => hpA (e ▸ hk))) (by have := HT1.out.le; omega)
      · have e1 : addOk l ⟨x1, x2, x3⟩ = false := by unfold addOk; rw [decide_eq_false hf, Bool.and_false]
        have e2 : addErr l ⟨x1, x2, x3⟩ = 12 := by unfold addErr; rw [hout, decide_eq_false hf]; rfl
        have e3 : addL l ⟨x1, x2, x3⟩ = l := by unfold addL; rw [e1]; rfl
        have E1 := Lib.hid e1
        have E2 := Lib.hid e2
        have E3 := Lib.hid e3
        clear e1 e2 e3
        clear hout
        go_wp2
        go_ret2
        refine ⟨_, c, by rw [E1.out, E2.out]; rfl, ?_, (Kp.of_below Hb0.out).drewN _, fun k h => .inl h⟩
        rw [E3.out]
        exact HT0.out.kp ((Kp.refl None' _).drewN _) id (fun _ _ => id)
end Go.Proofs.Ythaoplcmkaaflaa
