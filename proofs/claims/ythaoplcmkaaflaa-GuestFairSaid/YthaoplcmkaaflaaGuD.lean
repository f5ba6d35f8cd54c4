import Derived.Test.YthaoplcmkaaflaaGuC
namespace Go.Proofs.Ythaoplcmkaaflaa
open Go.RowKit

set_option maxHeartbeats 1000000 in
theorem deleteGu (base : Nat) (A : Option Addr) (k c i : Nat) (cs : List Value) (w : World) (hi : i ≤ k) (hn : k ≤ 1000000) (ho : w.ownsRow base 61 6 (.slice A (k + 1) c) (k + 1) cs) (h1 : ∀ u ∈ cs, u.oneCell' = true) :
    Calls Try.prog 48 #[.slice A (k + 1) c, .int .i64 i, .int .i64 ((i : Int) + 1)] w fun e w' => e = .returned (.slice A k c) ∧
      w'.ownsRow base 61 6 (.slice A k c) k (cs.take (i * 6) ++ cs.drop ((i + 1) * 6)) ∧ Kp (FA A) w w' := by
  obtain ⟨hcl, ⟨_, h0⟩ | ⟨g, c', cur, hv, hb, hh, hnc, hcm, hcs, htk⟩⟩ := ho
  · omega
  injection hv with hA _ hc
  subst hA hc
  have hB : Blk w g 61 cur := hh
  have hm := hcm
  unfold maxLen at hm
  have hne : ((i : Int) == (i : Int) + 1) = false := by simp; omega
  have HB := Lib.hid hB
  have HM := Lib.hid hcm
  have Hcl := Lib.hid hcl
  have Hcs := Lib.hid hcs
  have Htk := Lib.hid htk
  have H1 := Lib.hid h1
  clear hcl hcs htk h1
  clear hB hh hcm
  have HRD : Hid (Rd w 6 (some ⟨g, (i + 1) * 6, none⟩) (k - i) (cs.drop ((i + 1) * 6))) := ⟨by rw [List.length_drop, Hcl.out, ← Nat.sub_mul]; congr 1; omega, fun _ => ⟨g, (i + 1) * 6, rfl, fun j u hu => by
    rw [List.getElem?_drop, ← Htk.out, List.getElem?_take] at hu
    split at hu
    · rw [HB.out.cell]; simpa using hu
    · cases hu⟩⟩
  have HRN : Hid (k ≤ i → ∀ X, Rd w 6 X 0 (cs.drop ((i + 1) * 6))) := fun e X => ⟨by rw [List.length_drop, Hcl.out, ← Nat.sub_mul]; congr 1; omega, fun h => by omega⟩
  have hcap0 : ¬ c = 0 := by omega
  rcases Decidable.em (c = i + 1) with rfl | hcap
  all_goals
    go_enter Try.func48, Try.ntmps48
    go_wp2_with fail
    refine wp_region_ord (.mov 0 (.mov 1 (.mov 2 (.mov 3 (.mov 4 (.mov 5 (.eff 6 (.mov 7 .fin)))))))) ?_ ?_ ?_ ?_
    · kernel_rfl
    · kernel_rfl
    · exact fun _ _ _ _ h => h
    iterate 6 (refine ord_pure rfl rfl ?_; go_big_quiet_step (fail); refine wpQuiet_nil ?_)
    refine ord_sync rfl (by kernel_rfl) (fun K hK => ?_)
    first
      | refine wpList_app_in _ rfl _ _ 57 rfl 61 _ 6 48 Try.underlying57 info_gu g i _ cur rfl HB.out.drew Hcs.out _ (k - i) _ (cs.drop ((i + 1) * 6)) rfl (HRD.out : Rd w.drew _ _ _ _) (fun u hu => H1.out u (List.mem_of_mem_drop hu)) (by omega) k (by omega) ?_
      | refine wpList_app_in _ rfl _ _ 57 rfl 61 _ 6 48 Try.underlying57 info_gu g i _ cur rfl HB.out.drew Hcs.out _ 0 _ (cs.drop ((i + 1) * 6)) rfl (HRN.out (by omega) _ : Rd w.drew _ _ _ _) (fun u hu => H1.out u (List.mem_of_mem_drop hu)) (by omega) k (by omega) ?_
    have hB1 := setCells_blk (cs.drop ((i + 1) * 6)) cur (i * 6) _ HB.out.drew
    have k1 := (Kp.refl (fun k => k = g) w).drew.trans (kp_setCells g (cs.drop ((i + 1) * 6)) (i * 6) w.drew) (fun _ _ h => h)
    generalize w.drew.setCells g (i * 6) (cs.drop ((i + 1) * 6)) = w1 at *
    have HB1 := Lib.hid hB1
    have K1 := Lib.hid k1
    clear hB1 k1
    go_wp2_with fail
    simp only [Act.put, List.setIfInBounds_toArray, List.set_cons_zero, List.set_cons_succ]
    iterate 1 (refine ord_pure rfl rfl ?_; go_big_quiet_step (fail); refine wpQuiet_nil ?_)
    refine ord_end ?_
    iterate 19 (first | go_values | go_skip | go_guarded | go_step | go_upon)
    refine wpList_clear1 _ rfl _ 57 rfl 61 _ 6 48 Try.underlying57 info_gu rfl (one6 ⟨0, 0, ⟨#[]⟩, 0, false, false⟩) g (k * 6) _ (spl cur (i * 6) (cs.drop ((i + 1) * 6))) rfl HB1.out ?_ ?_
    · rw [spl_size, Hcs.out]; omega
    have hB2 := setCells_blk [Value.int .i64 0, Value.int .i64 0, Value.string ⟨#[]⟩, Value.int .i64 0, Value.bool false, Value.bool false] _ (k * 6) _ HB1.out
    have k2 := K1.out.trans (kp_setCells g [Value.int .i64 0, Value.int .i64 0, Value.string ⟨#[]⟩, Value.int .i64 0, Value.bool false, Value.bool false] (k * 6) w1) (fun _ _ h => h)
    obtain ⟨d1, d2, d3⟩ := del_row (zs := [Value.int .i64 0, Value.int .i64 0, Value.string ⟨#[]⟩, Value.int .i64 0, Value.bool false, Value.bool false]) Hcs.out hnc hi Htk.out Hcl.out rfl
    have HF := Lib.hid (And.intro (⟨d3, .inr ⟨g, _, _, rfl, hb, hB2, by omega, HM.out, d1, d2⟩⟩ : (w1.setCells g (k * 6) [Value.int .i64 0, Value.int .i64 0, Value.string ⟨#[]⟩, Value.int .i64 0, Value.bool false, Value.bool false]).ownsRow base 61 6 (.slice (some ⟨g, 0, none⟩) k _) k (cs.take (i * 6) ++ cs.drop ((i + 1) * 6))) k2)
    clear hB2 k2 d1 d2 d3
    change wpList _ _ _ _ _ (w1.setCells g (k * 6) [Value.int .i64 0, Value.int .i64 0, Value.string ⟨#[]⟩, Value.int .i64 0, Value.bool false, Value.bool false])
    generalize w1.setCells g (k * 6) [Value.int .i64 0, Value.int .i64 0, Value.string ⟨#[]⟩, Value.int .i64 0, Value.bool false, Value.bool false] = w2 at *
    go_wp2
    go_ret
    exact ⟨rfl, HF.out.1, HF.out.2.mono (fun j _ h => (FA_some _ _).2 h)⟩


/-- A scope with a label that the run jumps ahead to: what holds there; what stands behind it is walked once. -/
theorem wp_scope_ahead {P : Program} {a : Act} {w : World} {Q : Exit → Act → World → Prop} {c B : Code} (l : Nat) (I : Act → World → Prop) (hf : findLabel c l = some (.seq .skip B))
    (tail : ∀ a w, I a w → B.wp P (Exit.jump l (fun _ _ => False) Q) a w)
    (first : ∀ J : Act → World → Prop, (∀ a w, I a w → J a w) → (∀ a w, I a w → B.wp P (Exit.jump l J Q) a w) → c.wp P (Exit.jump l J Q) a w) : (Code.scope c).wp P Q a w := by
  refine wp_scope_jumps l I (fun _ _ => 0) hf (first _ ?_ ?_) ?_
  · intro a w hI
    exact hI
  · intro a w hI
    refine Code.wp_mono ?_ (tail a w hI)
    intro e a' w' hq
    cases e <;> first | exact hq | exact hq.2.elim
  · intro a w hI
    refine wp_seq (wp_skip ?_)
    refine Code.wp_mono ?_ (tail a w hI)
    intro e a' w' hq
    cases e <;> first | exact hq | exact hq.2.elim

/-- who goes, and whose turn it is then -/
def dropG (l : List Gu) (turn : Nat) (f : Gu → Bool) : List Gu × Nat :=
  if l.any f then (l.eraseIdx (l.findIdx f), if l.findIdx f < turn then turn - 1 else if turn = l.length - 1 then 0 else turn) else (l, turn)

theorem idxP_yes {α : Type} {f : α → Bool} {l : List α} (h : l.any f = true) : idxP f l = (l.findIdx f : Nat) ∧ l.findIdx f < l.length := by
  refine ⟨by unfold idxP; rw [if_pos h], ?_⟩
  obtain ⟨y, hy, hd⟩ := List.any_eq_true.1 h
  exact List.findIdx_lt_length_of_exists ⟨y, hy, hd⟩
theorem idxP_no {α : Type} {f : α → Bool} {l : List α} (h : l.any f = false) : idxP f l = -1 := by unfold idxP; rw [if_neg (by rw [h]; decide)]

set_option maxHeartbeats 1000000 in
theorem guDrop (base p : Nat) (a b : Int) (t : ByteArray) (A : Option Addr) (c : Nat) (l : List Gu) (turn : Nat) (w : World) (hl : l.length ≤ 1000) (ht : turn ≤ 1000) (hT : GuA w base p A c l turn) :
    Calls Try.prog 28 #[.pointer (some ⟨p, 0, none⟩), .int .i64 a, .int .i64 b, .string t] w fun e w' => e = .returned (.bool (l.any (keyEq a b t))) ∧ GuA w' base p A c (dropG l turn (keyEq a b t)).1 (dropG l turn (keyEq a b t)).2 ∧ Kp (fun k => k = p ∨ FA A k) w w' := by
  cases hany : l.any (keyEq a b t) with
  | false =>
    have HI := Lib.hid (idxP_no hany)
    have HD : Hid (dropG l turn (keyEq a b t) = (l, turn)) := by unfold Hid dropG; rw [if_neg (by rw [hany]; decide)]
    clear hany
    have HT := Lib.hid hT
    clear hT
    go_enter Try.func28, Try.ntmps28
    go_wp2
    refine wp_scope_ahead 0 (fun _ _ => False) rfl (fun _ _ h => h.elim) ?_
    intro J _ hJ
    clear hJ
    go_wp2_with fail
    refine (guPlace base p a b t A c l turn w (by omega) HT.out).mono ?_
    rintro e w1 ⟨rfl, hb1⟩
    rw [HI.out]
    have Hb1 := Lib.hid hb1
    clear hb1
    go_wp2
    simp only [Exit.jump]
    go_ret
    rw [HD.out]
    exact ⟨rfl, HT.out.kn (Kp.of_below Hb1.out), Kp.of_below Hb1.out⟩
  | true =>
    obtain ⟨h1, h2⟩ := idxP_yes hany
    have HD : Hid (dropG l turn (keyEq a b t) = (l.eraseIdx (l.findIdx (keyEq a b t)), if l.findIdx (keyEq a b t) < turn then turn - 1 else if turn = l.length - 1 then 0 else turn)) := by unfold Hid dropG; rw [if_pos hany]
    clear hany
    generalize l.findIdx (keyEq a b t) = i at *
    have H1 := Lib.hid h1
    have HT := Lib.hid hT
    clear h1 hT
    obtain ⟨k, hk⟩ : ∃ k, l.length = k + 1 := ⟨l.length - 1, by omega⟩
    have HK := Lib.hid hk
    clear hk
    go_enter Try.func28, Try.ntmps28
    go_wp2
    refine wp_scope_ahead 0 (fun aa wr => ∃ u0 u1 u2 u3 u4 u5 u6 u7 u8 u9 u10 u11 u12 u13 u14 u15 u16 u17 u18 u19 u20 u21 u22 u23 u24 u25 u26 u27 u28 u29 u30 u31 u32 u33 u34 u35 u36 u37 u38 u39 u40 u41 u42 u43 u44 u45 u46 u47 u48 u49 u50 u51 u52 u53, (GuA wr base p A c (dropG l turn (keyEq a b t)).1 (dropG l turn (keyEq a b t)).2 ∧ Kp (fun k => k = p ∨ FA A k) w wr) ∧
      aa = { tmps := #[u0, u1, u2, u3, u4, u5, u6, u7, u8, u9, u10, u11, u12, u13, u14, u15, u16, u17, u18, u19, u20, u21, u22, u23, u24, u25, u26, u27, u28, u29, u30, u31, u32, u33, u34, u35, u36, u37, u38, u39, u40, u41, u42, u43, u44, u45, u46, u47, u48, u49, u50, u51, u52, u53], defers := [] }) rfl ?_ ?_
    · intro aa wr hI
      obtain ⟨u0, u1, u2, u3, u4, u5, u6, u7, u8, u9, u10, u11, u12, u13, u14, u15, u16, u17, u18, u19, u20, u21, u22, u23, u24, u25, u26, u27, u28, u29, u30, u31, u32, u33, u34, u35, u36, u37, u38, u39, u40, u41, u42, u43, u44, u45, u46, u47, u48, u49, u50, u51, u52, u53, ⟨hf1, hf2⟩, rfl⟩ := hI
      have Hf1 := Lib.hid hf1
      have Hf2 := Lib.hid hf2
      clear hf1 hf2
      go_wp2
      simp only [Exit.jump]
      go_ret
      exact ⟨rfl, Hf1.out, Hf2.out⟩
    · intro J hI hJ
      have HI := Lib.hid hI
      have HJ := Lib.hid hJ
      clear hI hJ
      go_wp2_with fail
      refine (guPlace base p a b t A c l turn w (by omega) HT.out).mono ?_
      rintro e w1 ⟨rfl, hb1⟩
      rw [H1.out]
      have hT1 := HT.out.kn (Kp.of_below hb1)
      have c1 := hT1.row
      have HT1 := Lib.hid hT1
      have Hb1 := Lib.hid hb1
      clear hb1
      clear hT1
      go_wp2_with fail
      have hD := deleteGu base A k c i (Gus l) w1 (by have := HK.out; omega) (by have := HK.out; omega) (by rw [← HK.out]; exact HT1.out.own) (Gus_one_cell l)
      rw [← HK.out] at hD
      refine hD.mono ?_
      clear hD c1
      rintro e w2 ⟨rfl, ho2, hk2⟩
      have hB2 := HT1.out.blk.kp hk2 HT1.out.ne
      have c2 := hB2.cell 0
      have f2 := hB2.frozen 0
      have c3 := hB2.cell 1
      have f3 := hB2.frozen 1
      have hle : k = (l.eraseIdx i).length := by rw [List.length_eraseIdx_of_lt h2, HK.out]; rfl
      rw [Gus, flat_erase 6 Gu.cs Gu.cs_len l i h2, hle] at ho2
      have HO2 := Lib.hid ho2
      have K2 := Lib.hid ((Kp.of_below (F := fun k => k = p ∨ FA A k) Hb1.out).trans hk2 (fun _ _ h => .inr h))
      have HB2 := Lib.hid hB2
      have HNE := Lib.hid HT1.out.ne
      have HLE := Lib.hid hle
      clear ho2 hk2 hB2 hle Hb1
      have S1 : Hid (Blk (w2.setCell ⟨p, 0, none⟩ (.slice A k c)) p 89 #[.slice A k c, .int .i64 turn]) := HB2.out.set_ 0 _
      have S2 : Hid (Kp (fun k => k = p ∨ FA A k) w (w2.setCell ⟨p, 0, none⟩ (.slice A k c))) := K2.out.setCell (fun _ => .inl rfl) _
      have S3 := Lib.hid (own_kp HO2.out (Kp.set1 p 0 (.slice A k c)) (fun j h e => HNE.out (e ▸ h)))
      have FIN : Hid (∀ (w3 : World) (T : Nat), Blk w3 p 89 #[.slice A k c, .int .i64 T] → Kp (fun k => k = p ∨ FA A k) w w3 → w3.ownsRow base 61 6 (.slice A (l.eraseIdx i).length c) (l.eraseIdx i).length (Gus (l.eraseIdx i)) → dropG l turn (keyEq a b t) = (l.eraseIdx i, T) →
          GuA w3 base p A c (dropG l turn (keyEq a b t)).1 (dropG l turn (keyEq a b t)).2 ∧ Kp (fun k => k = p ∨ FA A k) w w3) := fun w3 T e1 e2 e3 e4 => by
        rw [e4]
        exact ⟨⟨by rw [← HLE.out]; exact e1, e3, HT.out.le⟩, e2⟩
      have HK5 : Hid (k = l.length - 1) := by unfold Hid; have := HK.out; omega
      clear HO2 K2 HB2 HT1
      by_cases hit : i < turn
      · have hc : (turn : Int) - 1 = ((turn - 1 : Nat) : Int) := by omega
        have E := Lib.hid (FIN.out ((w2.setCell ⟨p, 0, none⟩ (.slice A k c)).setCell ⟨p, 1, none⟩ (.int .i64 ((turn : Int) - 1))) (turn - 1) (by rw [← hc]; exact S1.out.set_ 1 _) (S2.out.setCell (fun _ => .inl rfl) _) (own_kp S3.out (Kp.set1 p 1 _) (fun j h e => HNE.out (e ▸ h))) (by rw [HD.out, if_pos hit]))
        clear hc
        go_wp2_with fail
        go_step3
        refine ⟨rfl, HI.out _ _ ?_⟩
        (repeat apply Exists.intro)
        exact ⟨E.out, rfl⟩
      · go_wp2_with fail
        clear c2 c3 f2 f3
        generalize w2.setCell ⟨p, 0, none⟩ (.slice A k c) = w3 at *
        have c2 : w3.cell? ⟨p, 0, none⟩ = some (.slice A k c) := S1.out.cell 0
        have f2 := S1.out.frozen 0
        have c3 : w3.cell? ⟨p, 1, none⟩ = some (.int .i64 turn) := S1.out.cell 1
        have f3 := S1.out.frozen 1
        by_cases hk2 : turn = k
        · subst hk2
          have E := Lib.hid (fun nq => FIN.out ((w3.drewN nq).setCell ⟨p, 1, none⟩ (.int .i64 0)) 0 ((S1.out.drewN nq).set_ 1 _) ((S2.out.drewN nq).setCell (fun _ => .inl rfl) _) (own_kp S3.out (((Kp.refl _ _).drewN nq).trans (Kp.set1 p 1 _) (fun _ _ h => h)) (fun j h e => HNE.out (e ▸ h))) (by rw [HD.out, if_neg hit, if_pos HK5.out]))
          go_quiet (fail)
          go_wp2_with fail
          go_step3
          go_step
          go_step
          refine HJ.out _ _ ?_
          (repeat apply Exists.intro)
          exact ⟨E.out nq, rfl⟩
        · have E := Lib.hid (fun nq => FIN.out (w3.drewN nq) turn (S1.out.drewN nq) (S2.out.drewN nq) (own_kp S3.out ((Kp.refl None' _).drewN nq) (fun j _ => id)) (by rw [HD.out, if_neg hit, if_neg (by rw [← HK5.out]; exact hk2)]))
          go_quiet (fail)
          go_wp2_with fail
          go_step3
          go_step
          go_step
          refine HJ.out _ _ ?_
          (repeat apply Exists.intro)
          exact ⟨E.out nq, rfl⟩
end Go.Proofs.Ythaoplcmkaaflaa
