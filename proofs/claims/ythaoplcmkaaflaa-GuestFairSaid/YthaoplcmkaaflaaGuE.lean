import Derived.Test.YthaoplcmkaaflaaGuD
namespace Go.Proofs.Ythaoplcmkaaflaa
open Go.RowKit

set_option maxHeartbeats 1000000 in
theorem rgAdd (base p : Nat) (A : Option Addr) (c : Nat) (l : List Gu) (turn : Int) (x : Gu) (w : World) (hl : l.length ≤ 1000) (hT : RuA w base p A c l turn) :
    Calls Try.prog 27 #[.pointer (some ⟨p, 0, none⟩), x.v] w fun e w' => ∃ A' c', e = .returned (.bool (guAddOk l x)) ∧ RuA w' base p A' c' (guAddL l x) turn ∧ Kp (fun k => k = p) w w' ∧ ∀ k, FA A' k → FA A k ∨ w.heap.size ≤ k := by
  obtain ⟨x1, x2, x3, x4, x5, x6⟩ := x
  have HL : Hid (guAddL l ⟨x1, x2, x3, x4, x5, x6⟩ = if guAddOk l ⟨x1, x2, x3, x4, x5, x6⟩ then l ++ [⟨x1, x2, x3, x4, x5, x6⟩] else l) := rfl
  have HO : Hid (guAddOk l ⟨x1, x2, x3, x4, x5, x6⟩ = !(l.any (keyEq x1 x2 x3))) := rfl
  simp only [Gu.v]
  have hlt0 := hT.blk.lt
  have hp : p ≠ w.heap.size := Nat.ne_of_lt hT.blk.lt
  have HT := Lib.hid hT
  clear hT
  go_enter Try.func27, Try.ntmps27
  go_wp2_with fail
  have d0 : Blk (w.alloc (Obj.cells #[Value.int .i64 x1, Value.int .i64 x2, Value.string x3, Value.int .i64 x4, Value.bool x5, Value.bool x6] 61)) w.heap.size 61 #[Value.int .i64 x1, Value.int .i64 x2, Value.string x3, Value.int .i64 x4, Value.bool x5, Value.bool x6] := Blk.new _ _ _
  have k0 : Kp None' w (w.alloc (Obj.cells #[Value.int .i64 x1, Value.int .i64 x2, Value.string x3, Value.int .i64 x4, Value.bool x5, Value.bool x6] 61)) := (Kp.refl _ _).alloc _
  have hs0 : (w.alloc (Obj.cells #[Value.int .i64 x1, Value.int .i64 x2, Value.string x3, Value.int .i64 x4, Value.bool x5, Value.bool x6] 61)).heap.size = w.heap.size + 1 := by simp
  generalize w.alloc (Obj.cells #[Value.int .i64 x1, Value.int .i64 x2, Value.string x3, Value.int .i64 x4, Value.bool x5, Value.bool x6] 61) = w0 at *
  refine (rgAt base p x1 x2 x3 A c l turn w0 (by omega) (HT.out.kn k0)).mono ?_
  rintro e w1 ⟨rfl, rfl⟩
  have HT1 := Lib.hid (HT.out.kn k0)
  have HD1 := Lib.hid d0
  have K1 := Lib.hid k0
  have Hs1 := Lib.hid hs0
  clear d0 k0 HT hs0
  cases hany : l.any (keyEq x1 x2 x3) with
  | true =>
    have hge : 0 ≤ idxP (keyEq x1 x2 x3) l := by
      have := idxP_ge (keyEq x1 x2 x3) l
      rw [hany] at this; exact of_decide_eq_true this
    have E1 : Hid (guAddOk l ⟨x1, x2, x3, x4, x5, x6⟩ = false) := by unfold Hid; rw [HO.out, hany]; rfl
    have E2 : Hid (guAddL l ⟨x1, x2, x3, x4, x5, x6⟩ = l) := by unfold Hid; rw [HL.out, E1.out]; rfl
    clear HL HO hany
    generalize idxP (keyEq x1 x2 x3) l = i at *
    go_wp2
    go_ret
    refine ⟨A, c, by rw [E1.out]; rfl, ?_, K1.out.to, fun k h => .inl h⟩
    rw [E2.out]; exact HT1.out
  | false =>
    have hlt : idxP (keyEq x1 x2 x3) l < 0 := by
      have := idxP_ge (keyEq x1 x2 x3) l
      rw [hany] at this; have := of_decide_eq_false this; omega
    have E1 : Hid (guAddOk l ⟨x1, x2, x3, x4, x5, x6⟩ = true) := by unfold Hid; rw [HO.out, hany]; rfl
    have E2 : Hid (guAddL l ⟨x1, x2, x3, x4, x5, x6⟩ = l ++ [⟨x1, x2, x3, x4, x5, x6⟩]) := by unfold Hid; rw [HL.out, E1.out]; rfl
    clear HL HO hany
    generalize idxP (keyEq x1 x2 x3) l = i at *
    go_wp2_with fail
    have z0 : ∀ z : Wd None' w1, z.w.cell? ⟨p, 0, none⟩ = some (.slice A l.length c) := fun z => z.cell HT1.out.row id
    have z1 : ∀ z : Wd None' w1, z.w.cell? ⟨w.heap.size, 0, none⟩ = some (.int .i64 x1) := fun z => z.cell (HD1.out.cell 0) id
    have z2 : ∀ z : Wd None' w1, z.w.cell? ⟨w.heap.size, 1, none⟩ = some (.int .i64 x2) := fun z => z.cell (HD1.out.cell 1) id
    have z3 : ∀ z : Wd None' w1, z.w.cell? ⟨w.heap.size, 2, none⟩ = some (.string x3) := fun z => z.cell (HD1.out.cell 2) id
    have z4 : ∀ z : Wd None' w1, z.w.cell? ⟨w.heap.size, 3, none⟩ = some (.int .i64 x4) := fun z => z.cell (HD1.out.cell 3) id
    have z5 : ∀ z : Wd None' w1, z.w.cell? ⟨w.heap.size, 4, none⟩ = some (.bool x5) := fun z => z.cell (HD1.out.cell 4) id
    have z6 : ∀ z : Wd None' w1, z.w.cell? ⟨w.heap.size, 5, none⟩ = some (.bool x6) := fun z => z.cell (HD1.out.cell 5) id
    refine wp_region_ord (.mov 0 (.mov 1 (.mov 2 (.mov 3 (.mov 4 (.mov 6 (.two 5 (.eff 7 (.eff 8 (.mov 9 (.mov 10 (.eff 11 .fin))))) 7 (.eff 5 (.eff 8 (.mov 9 (.mov 10 (.eff 11 .fin)))))))))))) ?_ ?_ ?_ ?_
    · kernel_rfl
    · kernel_rfl
    · exact fun _ _ _ _ h => h
    iterate 4 (refine ord_pure rfl rfl ?_; go_big_quiet_step (fail); refine wpQuiet_nil ?_)
    iterate 2 (refine ord_mov (fun w' => ∃ z : Wd None' w1, w' = z.w) (Wd.of ((Kp.refl _ _).drew)) rfl rfl ?_; go_big_quiet_step (fail); refine wpQuiet_nil ?_)
    refine ord_two ?_ ?_
    refine ord_keep (fun w' => ∃ z : Wd None' w1, w' = z.w) rfl (by simp) (fun K hK => ?_)
    refine wpList_app _ rfl _ _ 57 rfl w.heap.size 61 _ 6 48 Try.underlying57 info_gu rfl (by decide) none 0 0 [] rfl (World.ownsRow_nil ..) A l.length c (Gus l) rfl (own_rd HT1.out.own : Rd w1.drew _ _ _ _) (Gus_one_cell l) ?_ ?_ ?_ ?_
    · unfold maxLen; omega
    · omega
    · have := Hs1.out; simp; omega
    intro A2 c2 w2 ho2 hk2 hf2
    have k2 : Kp None' w1 w2 := (Kp.refl None' w1).drew.trans hk2 (fun k _ h => FA_none k h)
    have HF2 : Hid (∀ k, FA A2 k → w1.heap.size ≤ k) := fun k h => Nat.le_of_eq ((hf2 k h).resolve_left (FA_none k)).symm
    rw [List.nil_append, Nat.zero_add] at ho2
    rw [Nat.zero_add]
    refine hK _ _ ⟨Wd.of k2, ?_⟩
    have K2 := Lib.hid k2
    have Ho2 := Lib.hid ho2
    clear ho2
    clear hk2 hf2 k2 hK z0 z1 z2 z3 z4 z5 z6
    simp only [Act.put, List.setIfInBounds_toArray, List.set_cons_zero, List.set_cons_succ]
    refine ord_keep (fun w' => ∃ z : Wd None' w1, w' = z.w) rfl (by simp) (fun K hK => ?_)
    go_wp2_with fail
    have k3 := K2.out.trans ((Kp.refl None' w2).alloc (Obj.cells #[Value.int .i64 x1, Value.int .i64 x2, Value.string x3, Value.int .i64 x4, Value.bool x5, Value.bool x6] 61)) (fun _ _ h => h)
    have hrd : Rd (w2.alloc (Obj.cells #[Value.int .i64 x1, Value.int .i64 x2, Value.string x3, Value.int .i64 x4, Value.bool x5, Value.bool x6] 61)) 6 (some ⟨w2.heap.size, 0, none⟩) 1 (⟨x1, x2, x3, x4, x5, x6⟩ : Gu).cs := rd_alloc rfl rfl
    have ho3 := own_kp Ho2.out ((Kp.refl None' w2).alloc (Obj.cells #[Value.int .i64 x1, Value.int .i64 x2, Value.string x3, Value.int .i64 x4, Value.bool x5, Value.bool x6] 61)) (fun _ _ => id)
    refine ⟨Wd.of k3, ?_⟩
    generalize w2.alloc (Obj.cells #[Value.int .i64 x1, Value.int .i64 x2, Value.string x3, Value.int .i64 x4, Value.bool x5, Value.bool x6] 61) = w3 at *
    have K3 := Lib.hid k3
    have Hrd := Lib.hid hrd
    have Ho3 := Lib.hid ho3
    clear hrd ho3
    clear k3 K2 Ho2
    rotate_left
    refine ord_keep (fun w' => ∃ z : Wd None' w1, w' = z.w) rfl (by simp) (fun K hK => ?_)
    go_wp2_with fail
    have k2 := ((Kp.refl None' w1).alloc (Obj.cells #[Value.int .i64 x1, Value.int .i64 x2, Value.string x3, Value.int .i64 x4, Value.bool x5, Value.bool x6] 61)).drew
    have hrd : Rd (w1.alloc (Obj.cells #[Value.int .i64 x1, Value.int .i64 x2, Value.string x3, Value.int .i64 x4, Value.bool x5, Value.bool x6] 61)).drew 6 (some ⟨w1.heap.size, 0, none⟩) 1 (⟨x1, x2, x3, x4, x5, x6⟩ : Gu).cs := (rd_alloc rfl rfl).drew
    have hsz2 : (w1.alloc (Obj.cells #[Value.int .i64 x1, Value.int .i64 x2, Value.string x3, Value.int .i64 x4, Value.bool x5, Value.bool x6] 61)).drew.heap.size = w1.heap.size + 1 := by simp
    refine ⟨Wd.of k2, ?_⟩
    generalize (w1.alloc (Obj.cells #[Value.int .i64 x1, Value.int .i64 x2, Value.string x3, Value.int .i64 x4, Value.bool x5, Value.bool x6] 61)).drew = w2 at *
    have K2 := Lib.hid k2
    have Hrd := Lib.hid hrd
    have Hsz2 := Lib.hid hsz2
    clear hrd hsz2
    clear k2 z0 z1 z2 z3 z4 z5 z6
    refine ord_keep (fun w' => ∃ z : Wd None' w1, w' = z.w) rfl (by simp) (fun K hK => ?_)
    refine wpList_app _ rfl _ _ 57 rfl w.heap.size 61 _ 6 48 Try.underlying57 info_gu rfl (by decide) none 0 0 [] rfl (World.ownsRow_nil ..) A l.length c (Gus l) rfl ((own_rd HT1.out.own).kp (F := None') K2.out (fun _ _ h => h)) (Gus_one_cell l) ?_ ?_ ?_ ?_
    · unfold maxLen; omega
    · omega
    · have := Hs1.out; have := Hsz2.out; omega
    intro A2 c2 w3 ho3 hk3 hf2
    have k3 : Kp None' w1 w3 := K2.out.trans hk3 (fun k _ h => FA_none k h)
    have HF2 : Hid (∀ k, FA A2 k → w1.heap.size ≤ k) := fun k h => by have := (hf2 k h).resolve_left (FA_none k); have := Hsz2.out; omega
    have hrd' := Hrd.out.below (hk3.below (Nat.le_refl _) (fun k _ h => FA_none k h))
    clear Hrd
    rw [List.nil_append, Nat.zero_add] at ho3
    rw [Nat.zero_add]
    refine hK _ _ ⟨Wd.of k3, ?_⟩
    have K3 := Lib.hid k3
    have Hrd := Lib.hid hrd'
    have Ho3 := Lib.hid ho3
    clear ho3
    clear hk3 hf2 k3 K2 hK hrd'
    simp only [Act.put, List.setIfInBounds_toArray, List.set_cons_zero, List.set_cons_succ]
    all_goals
      refine ord_sync rfl (by kernel_rfl) (fun K hK => ?_)
      refine wpList_app _ rfl _ _ 57 rfl w.heap.size 61 _ 6 48 Try.underlying57 info_gu rfl (by decide) A2 c2 l.length (Gus l) rfl Ho3.out _ 1 1 (⟨x1, x2, x3, x4, x5, x6⟩ : Gu).cs rfl Hrd.out ?_ ?_ ?_ ?_ ?_
      · exact one6 _
      · unfold maxLen; omega
      · omega
      · have := Hs1.out; have := K3.out.size; omega
      intro A4 c4 w4 ho4 hk4 hf4
      have hb4 : Kp (fun k => k = p) w w4 := ((K1.out.trans K3.out (fun _ _ h => h)).to (F := fun k => k = p)).trans hk4 (fun k hk h => by have := HF2.out k h; have := Hs1.out; omega)
      have hB4 : Blk w4 p 59 #[.slice A l.length c, .int .i64 turn] := (HT1.out.blk.kp K3.out id).kp hk4 (fun h => by have := HF2.out p h; have := Hs1.out; omega)
      have HF4 : Hid (∀ k, FA A4 k → w.heap.size ≤ k) := fun k h => by
        rcases hf4 k h with h | h
        · have := HF2.out k h; have := Hs1.out; omega
        · have := K3.out.size; have := Hs1.out; omega
      have f4 := hB4.frozen 0
      have c4' := hB4.cell 0
      have Ho4 := Lib.hid ho4
      have Hb4 := Lib.hid hb4
      have HB4 := Lib.hid hB4
      clear ho4 hb4 hB4
      clear hk4 hf4
      go_wp2_with fail
      simp only [Act.put, List.setIfInBounds_toArray, List.set_cons_zero, List.set_cons_succ]
      iterate 2 (refine ord_pure rfl rfl ?_; go_big_quiet_step (fail); refine wpQuiet_nil ?_)
      refine ord_sync rfl (by kernel_rfl) (fun K hK => ?_)
      go_wp2_with fail
      refine ord_end ?_
      go_wp2
      go_ret
      have hpA : ¬ FA A4 p := fun h => by have := HF4.out p h; omega
      refine ⟨A4, c4, by rw [E1.out]; rfl, ?_, Hb4.out.setCell (fun _ => rfl) _, fun k h => .inr (HF4.out k h)⟩
      rw [E2.out]
      refine ⟨?_, ?_, HT1.out.le⟩
      · rw [show (l ++ [(⟨x1, x2, x3, x4, x5, x6⟩ : Gu)]).length = l.length + 1 by simp]
        exact HB4.out.set_ 0 _
      · rw [show (l ++ [(⟨x1, x2, x3, x4, x5, x6⟩ : Gu)]).length = l.length + 1 by simp, ← Gus_one]
        exact own_mono (own_kp Ho4.out (Kp.set1 p 0 _) (fun k hk e => hpA (e ▸ hk))) (by have := HT1.out.le; omega)

set_option maxHeartbeats 1000000 in
theorem rgDrop (base p : Nat) (a b : Int) (t : ByteArray) (A : Option Addr) (c : Nat) (l : List Gu) (turn : Nat) (w : World) (hl : l.length ≤ 1000) (ht : turn < l.length ∨ turn = 0) (hT : RuA w base p A c l turn) :
    Calls Try.prog 29 #[.pointer (some ⟨p, 0, none⟩), .int .i64 a, .int .i64 b, .string t] w fun e w' => ∃ A' c', e = .returned (.bool (l.any (keyEq a b t))) ∧ RuA w' base p A' c' (dropG l turn (keyEq a b t)).1 (dropG l turn (keyEq a b t)).2 ∧ Kp (fun k => k = p) w w' ∧ ∀ k, FA A' k → FA A k ∨ w.heap.size ≤ k := by
  cases hany : l.any (keyEq a b t) with
  | false =>
    have HI := Lib.hid (idxP_no hany)
    have HD : Hid (dropG l turn (keyEq a b t) = (l, turn)) := by unfold Hid dropG; rw [if_neg (by rw [hany]; decide)]
    clear hany
    have HT := Lib.hid hT
    clear hT
    go_enter Try.func29, Try.ntmps29
    go_wp2_with fail
    refine (rgAt base p a b t A c l turn w (by omega) HT.out).mono ?_
    rintro e w1 ⟨rfl, rfl⟩
    rw [HI.out]
    go_wp2
    go_ret
    rw [HD.out]
    exact ⟨A, c, rfl, HT.out, Kp.refl _ _, fun k h => .inl h⟩
  | true =>
    obtain ⟨h1, h2⟩ := idxP_yes hany
    have HD : Hid (dropG l turn (keyEq a b t) = (l.eraseIdx (l.findIdx (keyEq a b t)), if l.findIdx (keyEq a b t) < turn then turn - 1 else if turn = l.length - 1 then 0 else turn)) := by unfold Hid dropG; rw [if_pos hany]
    clear hany
    generalize l.findIdx (keyEq a b t) = i at *
    obtain ⟨k, hk⟩ : ∃ k, l.length = k + 1 := ⟨l.length - 1, by omega⟩
    have htk : turn ≤ k := by omega
    have hik : i ≤ k := by omega
    have hk0 : k < 1000 := by omega
    have HI := Lib.hid h1
    have HT := Lib.hid hT
    have HK := Lib.hid hk
    have hown := hT.own
    have hblk := hT.blk
    have hlt0 := hT.blk.lt
    rw [hk] at hown hblk
    have HBL := Lib.hid hblk
    obtain ⟨hcl, ⟨_, h0⟩ | ⟨g, c', cur, hv, hb, hh, hnc, hcm, hcs, htk'⟩⟩ := hown
    · omega
    injection hv with hA _ hc
    subst hA hc
    have hB : Blk w g 61 cur := hh
    have hm := hcm
    unfold maxLen at hm
    have HB := Lib.hid hB
    have HM := Lib.hid hcm
    have HNE := Lib.hid hT.ne
    have HLE := Lib.hid hT.le
    have HBG := Lib.hid hb
    clear hT h1 hk hl ht h2 hb hblk
    have Hcl := Lib.hid hcl
    have Hcs := Lib.hid hcs
    have Htk' := Lib.hid htk'
    clear hcl hcs htk'
    clear hB hh hcm
    have HR1 : Hid (∀ w', Kp None' w w' → Rd w' 6 (some ⟨g, 0, none⟩) i ((Gus l).take (i * 6))) := fun w' hk => ⟨by rw [List.length_take, Hcl.out, Nat.min_eq_left (Nat.mul_le_mul_right 6 (by omega))], fun _ => ⟨g, 0, rfl, fun j u hu => by
      rw [← Htk'.out, List.getElem?_take] at hu
      split at hu
      · rw [List.getElem?_take] at hu
        split at hu
        · rw [(HB.out.kp hk id).cell]; simpa using hu
        · cases hu
      · cases hu⟩⟩
    have HRD : Hid (∀ w', Kp None' w w' → Rd w' 6 (some ⟨g, (i + 1) * 6, none⟩) (k - i) ((Gus l).drop ((i + 1) * 6))) := fun w' hk => ⟨by rw [List.length_drop, Hcl.out, ← Nat.sub_mul]; congr 1; omega, fun _ => ⟨g, (i + 1) * 6, rfl, fun j u hu => by
      rw [List.getElem?_drop, ← Htk'.out, List.getElem?_take] at hu
      split at hu
      · rw [(HB.out.kp hk id).cell]; simpa using hu
      · cases hu⟩⟩
    have HRN : Hid (k ≤ i → ∀ w' X, Rd w' 6 X 0 ((Gus l).drop ((i + 1) * 6))) := fun e w' X => ⟨by rw [List.length_drop, Hcl.out, ← Nat.sub_mul]; congr 1; omega, fun h => by omega⟩
    have hcap0 : ¬ c = 0 := by omega
    rcases Decidable.em (c = i + 1) with rfl | hcap
    all_goals
      go_enter Try.func29, Try.ntmps29
      go_wp2_with fail
      refine (rgAt base p a b t _ _ l turn w (by have := HK.out; omega) HT.out).mono ?_
      rintro e w1 ⟨rfl, rfl⟩
      rw [HI.out]
      go_wp2_with fail
      have z0 : ∀ z : Wd None' w1, z.w.cell? ⟨p, 0, none⟩ = some (.slice (some ⟨g, 0, none⟩) (k + 1) _) := fun z => z.cell (HBL.out.cell 0) id
      refine wp_region_ord (.mov 0 (.mov 1 (.mov 2 (.mov 3 (.mov 4 (.mov 5 (.mov 6 (.mov 8 (.mov 9 (.mov 10 (.mov 11 (.mov 12 (.mov 13 (.mov 14 (.eff 7 (.eff 15 (.mov 16 (.mov 17 (.eff 18 .fin))))))))))))))))))) ?_ ?_ ?_ ?_
      · kernel_rfl
      · kernel_rfl
      · exact fun _ _ _ _ h => h
      iterate 4 (refine ord_pure rfl rfl ?_; go_big_quiet_step (fail); refine wpQuiet_nil ?_)
      iterate 1 (refine ord_mov (fun w' => ∃ z : Wd None' w1, w' = z.w) (Wd.of ((Kp.refl _ _).drew)) rfl rfl ?_; go_big_quiet_step (fail); refine wpQuiet_nil ?_)
      iterate 5 (refine ord_pure rfl rfl ?_; go_big_quiet_step (fail); refine wpQuiet_nil ?_)
      iterate 1 (refine ord_mov (fun w' => ∃ z : Wd None' w1, w' = z.w) (Wd.of ((Kp.refl _ _).drew)) rfl rfl ?_; go_big_quiet_step (fail); refine wpQuiet_nil ?_)
      iterate 3 (refine ord_pure rfl rfl ?_; go_big_quiet_step (fail); refine wpQuiet_nil ?_)
      clear z0
      refine ord_keep (fun w' => ∃ z : Wd None' w1, w' = z.w) rfl (by simp) (fun K hK => ?_)
      refine wpList_app _ rfl _ _ 57 rfl w1.heap.size 61 _ 6 48 Try.underlying57 info_gu rfl (by decide) none 0 0 [] rfl (World.ownsRow_nil ..) _ i _ ((Gus l).take (i * 6)) rfl (HR1.out w1.drew (Kp.refl _ _).drew) (fun u hu => Gus_one_cell l u (List.mem_of_mem_take hu)) ?_ ?_ ?_ ?_
      · unfold maxLen; omega
      · omega
      · exact Nat.le_refl _
      intro A2 c2 w2 ho2 hk2 hf2
      have k2 : Kp None' w1 w2 := (Kp.refl None' w1).drew.trans hk2 (fun k _ h => FA_none k h)
      have HF2 : Hid (∀ k, FA A2 k → w1.heap.size ≤ k) := fun k h => Nat.le_of_eq ((hf2 k h).resolve_left (FA_none k)).symm
      rw [List.nil_append, Nat.zero_add] at ho2
      rw [Nat.zero_add]
      refine hK _ _ ⟨Wd.of k2, ?_⟩
      have K2 := Lib.hid k2
      have Ho2 := Lib.hid ho2
      clear ho2
      clear hk2 hf2 k2 hK
      simp only [Act.put, List.setIfInBounds_toArray, List.set_cons_zero, List.set_cons_succ]
      refine ord_sync rfl (by kernel_rfl) (fun K hK => ?_)
      first
        | refine wpList_app _ rfl _ _ 57 rfl w1.heap.size 61 _ 6 48 Try.underlying57 info_gu rfl (by decide) A2 c2 i ((Gus l).take (i * 6)) rfl Ho2.out _ (k - i) _ ((Gus l).drop ((i + 1) * 6)) rfl (HRD.out w2 K2.out) (fun u hu => Gus_one_cell l u (List.mem_of_mem_drop hu)) ?_ ?_ ?_ ?_
        | refine wpList_app _ rfl _ _ 57 rfl w1.heap.size 61 _ 6 48 Try.underlying57 info_gu rfl (by decide) A2 c2 i ((Gus l).take (i * 6)) rfl Ho2.out _ 0 _ ((Gus l).drop ((i + 1) * 6)) rfl (HRN.out (by omega) w2 _) (fun u hu => Gus_one_cell l u (List.mem_of_mem_drop hu)) ?_ ?_ ?_ ?_
      · unfold maxLen; omega
      · omega
      · exact K2.out.size
      intro A4 c4 w4 ho4 hk4 hf4
      first
        | rw [show i + (k - i) = k by omega] at ho4 ⊢
        | rw [show i + 0 = k by omega] at ho4 ⊢
      have h2 : i < l.length := by have := HK.out; omega
      have hle : k = (l.eraseIdx i).length := by rw [List.length_eraseIdx_of_lt h2, HK.out]; rfl
      rw [Gus, flat_erase 6 Gu.cs Gu.cs_len l i h2] at ho4
      have hfl : w4.ownsRow w1.heap.size 61 6 (.slice A4 (l.eraseIdx i).length c4) (l.eraseIdx i).length (Gus (l.eraseIdx i)) := by rw [← hle]; exact ho4
      have hB4 : Blk w4 p 59 #[.slice (some ⟨g, 0, none⟩) (k + 1) _, .int .i64 turn] := (HBL.out.kp K2.out id).kp hk4 (fun h => by have := HF2.out p h; omega)
      have HF4 : Hid (∀ k, FA A4 k → w1.heap.size ≤ k) := fun k h => by
        rcases hf4 k h with h | h
        · exact HF2.out k h
        · have := K2.out.size; omega
      have hk5 : Kp (fun k => k = p) w1 w4 := (K2.out.to (F := fun k => k = p)).trans hk4 (fun k hk h => by have := HF2.out k h; omega)
      have f4 := hB4.frozen 0
      have c4' := hB4.cell 0
      have HLEN := Lib.hid hle
      have hpA : Hid (¬ FA A4 p) := fun h => by have := HF4.out p h; omega
      have Hfl := Lib.hid hfl
      have HB4 := Lib.hid hB4
      have Hk5 := Lib.hid hk5
      clear hfl hB4 hk5
      clear ho4 hk4 hf4 h2 hle
      go_wp2_with fail
      simp only [Act.put, List.setIfInBounds_toArray, List.set_cons_zero, List.set_cons_succ]
      iterate 2 (refine ord_pure rfl rfl ?_; go_big_quiet_step (fail); refine wpQuiet_nil ?_)
      refine ord_sync rfl (by kernel_rfl) (fun K hK => ?_)
      go_wp2_with fail
      refine ord_end ?_
      have S1 : Hid (Blk (w4.setCell ⟨p, 0, none⟩ (.slice A4 k c4)) p 59 #[.slice A4 k c4, .int .i64 turn]) := HB4.out.set_ 0 _
      have S2 : Hid (Kp (fun k => k = p) w1 (w4.setCell ⟨p, 0, none⟩ (.slice A4 k c4))) := Hk5.out.setCell (fun _ => rfl) _
      have S3 := Lib.hid (own_kp Hfl.out (Kp.set1 p 0 (.slice A4 k c4)) (fun j h e => hpA.out (e ▸ h)))
      clear f4 c4'
      generalize w4.setCell ⟨p, 0, none⟩ (.slice A4 k c4) = w5 at *
      have FIN : Hid (∀ (w3 : World) (T : Nat), Blk w3 p 59 #[.slice A4 k c4, .int .i64 T] → Kp (fun k => k = p) w5 w3 → dropG l turn (keyEq a b t) = (l.eraseIdx i, T) →
          RuA w3 base p A4 c4 (dropG l turn (keyEq a b t)).1 (dropG l turn (keyEq a b t)).2 ∧ Kp (fun k => k = p) w1 w3) := fun w3 T e1 e2 e4 => by
        rw [e4]
        exact ⟨⟨by rw [← HLEN.out]; exact e1, own_mono (own_kp S3.out e2 (fun j h e => hpA.out (e ▸ h))) (by have := HLE.out; omega), HLE.out⟩, S2.out.trans e2 (fun _ _ h => h)⟩
      have c2' : w5.cell? ⟨p, 0, none⟩ = some (.slice A4 k c4) := S1.out.cell 0
      have f2 := S1.out.frozen 0
      have c3 : w5.cell? ⟨p, 1, none⟩ = some (.int .i64 turn) := S1.out.cell 1
      have f3 := S1.out.frozen 1
      by_cases hit : i < turn
      · first
        | (exfalso; omega)
        | (
            have hc : (turn : Int) - 1 = ((turn - 1 : Nat) : Int) := by omega
            have E0 : Hid (dropG l turn (keyEq a b t) = (l.eraseIdx i, turn - 1)) := by unfold Hid; rw [HD.out, if_pos hit]
            have E1 : Hid (Blk (w5.setCell ⟨p, 1, none⟩ (.int .i64 ((turn : Int) - 1))) p 59 #[.slice A4 k c4, .int .i64 ((turn - 1 : Nat) : Int)]) := by rw [← hc]; exact S1.out.set_ 1 _
            clear hc
            go_wp2_with fail
            have E2 : Hid (Kp (fun k => k = p) w5 (w5.setCell ⟨p, 1, none⟩ (.int .i64 ((turn : Int) - 1)))) := Kp.set1 p 1 _
            clear c2' f2 c3 f3
            generalize w5.setCell ⟨p, 1, none⟩ (.int .i64 ((turn : Int) - 1)) = w6 at *
            have c2' : w6.cell? ⟨p, 0, none⟩ = some (.slice A4 k c4) := E1.out.cell 0
            have c3 : w6.cell? ⟨p, 1, none⟩ = some (.int .i64 ((turn - 1 : Nat) : Int)) := E1.out.cell 1
            have hlt : turn - 1 < k := by omega
            go_quiet (fail)
            go_wp2_with fail
            go_ret
            obtain ⟨F1, F2⟩ := FIN.out (w6.drewN nq) (turn - 1) (E1.out.drewN nq) (E2.out.drewN nq) E0.out
            exact ⟨A4, c4, rfl, F1, F2, fun k h => .inr (HF4.out k h)⟩)
      · go_wp2_with fail
        by_cases hk2 : turn = k
        · subst hk2
          have E0 : Hid (dropG l turn (keyEq a b t) = (l.eraseIdx i, 0)) := by unfold Hid; rw [HD.out, if_neg hit, if_pos (by have := HK.out; omega)]
          go_quiet (fail)
          go_wp2_with fail
          go_ret
          obtain ⟨F1, F2⟩ := FIN.out ((w5.drewN nq).setCell ⟨p, 1, none⟩ (.int .i64 0)) 0 ((S1.out.drewN nq).set_ 1 _) (Kp.setCell (F := fun k => k = p) (p := ⟨p, 1, none⟩) ((Kp.refl _ _).drewN nq) (fun _ => rfl) _) E0.out
          exact ⟨A4, c4, rfl, F1, F2, fun k h => .inr (HF4.out k h)⟩
        · have E0 : Hid (dropG l turn (keyEq a b t) = (l.eraseIdx i, turn)) := by unfold Hid; rw [HD.out, if_neg hit, if_neg (by have := HK.out; omega)]
          have hlt : turn < k := by omega
          go_quiet (fail)
          go_wp2_with fail
          go_ret
          obtain ⟨F1, F2⟩ := FIN.out (w5.drewN nq) turn (S1.out.drewN nq) ((Kp.refl _ _).drewN nq) E0.out
          exact ⟨A4, c4, rfl, F1, F2, fun k h => .inr (HF4.out k h)⟩
end Go.Proofs.Ythaoplcmkaaflaa
