import Derived.Test.YthaoplcmkaaflaaBdE
import Derived.Test.YthaoplcmkaaflaaDel
namespace Go.Proofs.Ythaoplcmkaaflaa
open Go.RowKit

set_option maxHeartbeats 1000000 in
theorem deleteBd (base : Nat) (A : Option Addr) (k c i : Nat) (cs : List Value) (w : World) (hi : i ≤ k) (hn : k ≤ 1000000) (ho : w.ownsRow base 28 3 (.slice A (k + 1) c) (k + 1) cs) (h1 : ∀ u ∈ cs, u.oneCell' = true) :
    Calls Try.prog 43 #[.slice A (k + 1) c, .int .i64 i, .int .i64 ((i : Int) + 1)] w fun e w' => e = .returned (.slice A k c) ∧
      w'.ownsRow base 28 3 (.slice A k c) k (cs.take (i * 3) ++ cs.drop ((i + 1) * 3)) ∧ Kp (FA A) w w' := by
  obtain ⟨hcl, ⟨_, h0⟩ | ⟨g, c', cur, hv, hb, hh, hnc, hcm, hcs, htk⟩⟩ := ho
  · omega
  injection hv with hA _ hc
  subst hA hc
  have hB : Blk w g 28 cur := hh
  have hm := hcm
  unfold maxLen at hm
  have hne : ((i : Int) == (i : Int) + 1) = false := by simp; omega
  have HB := Lib.hid hB
  have HM := Lib.hid hcm
  have Hcl := Lib.hid hcl
  have Hcs := Lib.hid hcs
  have Htk := Lib.hid htk
  have H1 := Lib.hid h1
  clear hcl hcs htk h1
  clear hB hh hcm
  have HRD : Hid (Rd w 3 (some ⟨g, (i + 1) * 3, none⟩) (k - i) (cs.drop ((i + 1) * 3))) := ⟨by rw [List.length_drop, Hcl.out, ← Nat.sub_mul]; congr 1; omega, fun _ => ⟨g, (i + 1) * 3, rfl, fun j u hu => by
    rw [List.getElem?_drop, ← Htk.out, List.getElem?_take] at hu
    split at hu
    · rw [HB.out.cell]; simpa using hu
    · cases hu⟩⟩
  have HRN : Hid (k ≤ i → ∀ X, Rd w 3 X 0 (cs.drop ((i + 1) * 3))) := fun e X => ⟨by rw [List.length_drop, Hcl.out, ← Nat.sub_mul]; congr 1; omega, fun h => by omega⟩
  have hcap0 : ¬ c = 0 := by omega
  rcases Decidable.em (c = i + 1) with rfl | hcap
  all_goals
    go_enter Try.func43, Try.ntmps43
    go_wp2_with fail
    refine wp_region_ord (.mov 0 (.mov 1 (.mov 2 (.mov 3 (.mov 4 (.mov 5 (.eff 6 (.mov 7 .fin)))))))) ?_ ?_ ?_ ?_
    · kernel_rfl
    · kernel_rfl
    · exact fun _ _ _ _ h => h
    iterate 6 (refine ord_pure rfl rfl ?_; go_big_quiet_step (fail); refine wpQuiet_nil ?_)
    refine ord_sync rfl (by kernel_rfl) (fun K hK => ?_)
    first
      | refine wpList_app_in _ rfl _ _ 39 rfl 28 _ 3 48 Try.underlying39 info_bd g i _ cur rfl HB.out.drew Hcs.out _ (k - i) _ (cs.drop ((i + 1) * 3)) rfl (HRD.out : Rd w.drew _ _ _ _) (fun u hu => H1.out u (List.mem_of_mem_drop hu)) (by omega) k (by omega) ?_
      | refine wpList_app_in _ rfl _ _ 39 rfl 28 _ 3 48 Try.underlying39 info_bd g i _ cur rfl HB.out.drew Hcs.out _ 0 _ (cs.drop ((i + 1) * 3)) rfl (HRN.out (by omega) _ : Rd w.drew _ _ _ _) (fun u hu => H1.out u (List.mem_of_mem_drop hu)) (by omega) k (by omega) ?_
    have hB1 := setCells_blk (cs.drop ((i + 1) * 3)) cur (i * 3) _ HB.out.drew
    have k1 := (Kp.refl (fun k => k = g) w).drew.trans (kp_setCells g (cs.drop ((i + 1) * 3)) (i * 3) w.drew) (fun _ _ h => h)
    generalize w.drew.setCells g (i * 3) (cs.drop ((i + 1) * 3)) = w1 at *
    have HB1 := Lib.hid hB1
    have K1 := Lib.hid k1
    clear hB1 k1
    go_wp2_with fail
    simp only [Act.put, List.setIfInBounds_toArray, List.set_cons_zero, List.set_cons_succ]
    iterate 1 (refine ord_pure rfl rfl ?_; go_big_quiet_step (fail); refine wpQuiet_nil ?_)
    refine ord_end ?_
    iterate 19 (first | go_values | go_skip | go_guarded | go_step | go_upon)
    refine wpList_clear1 _ rfl _ 39 rfl 28 _ 3 48 Try.underlying39 info_bd rfl (one3 _ _ _) g (k * 3) _ (spl cur (i * 3) (cs.drop ((i + 1) * 3))) rfl HB1.out ?_ ?_
    · rw [spl_size, Hcs.out]; omega
    have hB2 := setCells_blk [Value.string ⟨#[]⟩, Value.string ⟨#[]⟩, Value.string ⟨#[]⟩] _ (k * 3) _ HB1.out
    have k2 := K1.out.trans (kp_setCells g [Value.string ⟨#[]⟩, Value.string ⟨#[]⟩, Value.string ⟨#[]⟩] (k * 3) w1) (fun _ _ h => h)
    obtain ⟨d1, d2, d3⟩ := del_row (zs := [Value.string ⟨#[]⟩, Value.string ⟨#[]⟩, Value.string ⟨#[]⟩]) Hcs.out hnc hi Htk.out Hcl.out rfl
    have HF := Lib.hid (And.intro (⟨d3, .inr ⟨g, _, _, rfl, hb, hB2, by omega, HM.out, d1, d2⟩⟩ : (w1.setCells g (k * 3) [Value.string ⟨#[]⟩, Value.string ⟨#[]⟩, Value.string ⟨#[]⟩]).ownsRow base 28 3 (.slice (some ⟨g, 0, none⟩) k _) k (cs.take (i * 3) ++ cs.drop ((i + 1) * 3))) k2)
    clear hB2 k2 d1 d2 d3
    change wpList _ _ _ _ _ (w1.setCells g (k * 3) [Value.string ⟨#[]⟩, Value.string ⟨#[]⟩, Value.string ⟨#[]⟩])
    generalize w1.setCells g (k * 3) [Value.string ⟨#[]⟩, Value.string ⟨#[]⟩, Value.string ⟨#[]⟩] = w2 at *
    go_wp2
    go_ret
    exact ⟨rfl, HF.out.1, HF.out.2.mono (fun j _ h => (FA_some _ _).2 h)⟩

theorem Bds_one_cell (l : List Bd) : ∀ u ∈ Bds l, u.oneCell' = true := by
  intro u hu
  obtain ⟨b, _, hb⟩ := List.mem_flatMap.1 hu
  simp [Bd.cs] at hb
  rcases hb with rfl | rfl | rfl <;> rfl
theorem flat_erase {α : Type} (K : Nat) (enc : α → List Value) (hk : ∀ x, (enc x).length = K) : ∀ (l : List α) (i : Nat), i < l.length → (l.flatMap enc).take (i * K) ++ (l.flatMap enc).drop ((i + 1) * K) = (l.eraseIdx i).flatMap enc := by
  intro l
  induction l with
  | nil => intro i h; simp at h
  | cons x l ih =>
    intro i h
    cases i with
    | zero => simp [hk]
    | succ i =>
      have := ih i (by simpa using h)
      simp only [List.flatMap_cons, List.eraseIdx_cons_succ]
      rw [← this, ← List.append_assoc]
      congr 1
      · rw [List.take_append, hk, show (i + 1) * K - K = i * K by rw [Nat.succ_mul]; omega, List.take_of_length_le (by rw [hk, Nat.succ_mul]; omega)]
      · rw [List.drop_append, hk, show (i + 1 + 1) * K - K = (i + 1) * K by rw [Nat.succ_mul (i + 1)]; omega, List.drop_of_length_le (by rw [hk, Nat.succ_mul]; omega), List.nil_append]

def dropL (l : List Bd) (x : Bd) : List Bd := l.eraseIdx (l.findIdx fun y => decide (x = y))

set_option maxHeartbeats 400000 in
theorem drop_yes (base p : Nat) (A : Option Addr) (c : Nat) (l : List Bd) (x : Bd) (w : World) (hl : l.length ≤ 1000000) (hT : TabA w base p A c l) (h : (l.any fun y => decide (x = y)) = true) :
    Calls Try.prog 14 #[.pointer (some ⟨p, 0, none⟩), x.v] w fun e w' => e = .returned (.bool true) ∧ TabA w' base p A c (dropL l x) ∧ Kp (fun k => k = p ∨ FA A k) w w' := by
  obtain ⟨x1, x2, x3⟩ := x
  simp only [Bd.v]
  have hp : p ≠ w.heap.size := Nat.ne_of_lt hT.blk.lt
  have HT := Lib.hid hT
  clear hT
  have hi : idxP (fun y => decide ((⟨x1, x2, x3⟩ : Bd) = y)) l = ((l.findIdx fun y => decide ((⟨x1, x2, x3⟩ : Bd) = y) : Nat) : Int) := by unfold idxP; rw [if_pos h]
  have hlt : (l.findIdx fun y => decide ((⟨x1, x2, x3⟩ : Bd) = y)) < l.length := by
    obtain ⟨y, hy, hd⟩ := List.any_eq_true.1 h
    exact List.findIdx_lt_length_of_exists ⟨y, hy, hd⟩
  unfold dropL
  generalize (l.findIdx fun y => decide ((⟨x1, x2, x3⟩ : Bd) = y)) = i at *
  have Hi := Lib.hid hi
  clear hi
  clear h
  obtain ⟨k, hk⟩ : ∃ k, l.length = k + 1 := ⟨l.length - 1, by omega⟩
  have HK := Lib.hid hk
  go_enter Try.func14, Try.ntmps14
  clear hk
  go_wp2_with fail
  have d0 : Blk (w.alloc (Obj.cells #[Value.string x1, Value.string x2, Value.string x3] 28)) w.heap.size 28 #[Value.string x1, Value.string x2, Value.string x3] := Blk.new _ _ _
  have k0 : Kp None' w (w.alloc (Obj.cells #[Value.string x1, Value.string x2, Value.string x3] 28)) := (Kp.refl _ _).alloc _
  generalize w.alloc (Obj.cells #[Value.string x1, Value.string x2, Value.string x3] 28) = w0 at *
  have HD0 := Lib.hid d0
  have HT0 := Lib.hid (HT.out.kp k0 id (fun _ _ => id))
  clear d0
  have z0 : ∀ z : Wd None' w0, z.w.cell? ⟨p, 0, none⟩ = some (.slice A l.length c) := fun z => z.cell HT0.out.cell id
  have z1 : ∀ z : Wd None' w0, z.w.cell? ⟨w.heap.size, 0, none⟩ = some (.string x1) := fun z => z.cell (HD0.out.cell 0) id
  have z2 : ∀ z : Wd None' w0, z.w.cell? ⟨w.heap.size, 1, none⟩ = some (.string x2) := fun z => z.cell (HD0.out.cell 1) id
  have z3 : ∀ z : Wd None' w0, z.w.cell? ⟨w.heap.size, 2, none⟩ = some (.string x3) := fun z => z.cell (HD0.out.cell 2) id
  have HI : Hid (∀ z : Wd None' w0, Calls Try.prog 42 #[.slice A l.length c, (⟨x1, x2, x3⟩ : Bd).v] z.w fun e w' => e = .returned (.int .i64 (i : Int)) ∧ Below z.w.heap.size z.w w') := fun z => by
    rw [← Hi.out]
    exact indexBd A c l ⟨x1, x2, x3⟩ z.w (by omega) ((own_rd HT0.out.own).kp z.kp (fun _ _ h => h))
  refine wp_region_kp None' (by kernel_rfl) (by kernel_rfl) ?_
  repeat (go_big_quiet_step ((go_at_call 42; exact calls_blw (HI.out _))))
  refine wpQuiet_nil ?_
  intro z
  have k1 := k0.trans z.kp (fun _ _ h => h)
  have HT1 := Lib.hid (HT0.out.kp z.kp id (fun _ _ => id))
  clear z0 z1 z2 z3 HI HT0 HD0 k0 HT
  generalize z.w = w1 at *
  have K1 := Lib.hid k1
  clear k1 z
  have c0 := HT1.out.cell
  go_wp2_with fail
  have hD := deleteBd base A k c i (Bds l) w1 (by have := HK.out; omega) (by have := HK.out; omega) (by rw [← HK.out]; exact HT1.out.own) (Bds_one_cell l)
  rw [← HK.out] at hD
  refine hD.mono ?_
  clear hD
  rintro e w2 ⟨rfl, ho2, hk2⟩
  have hB2 := HT1.out.blk.kp hk2 HT1.out.ne
  have c2 := hB2.cell 0
  have f2 := hB2.frozen 0
  have hle : k = (l.eraseIdx i).length := by rw [List.length_eraseIdx_of_lt hlt, HK.out]; rfl
  rw [Bds, flat_erase 3 Bd.cs Bd.cs_len l i hlt, hle] at ho2
  rw [hle]
  have HO2 := Lib.hid ho2
  have K2 := Lib.hid (K1.out.to.trans (F := fun k => k = p ∨ FA A k) hk2 (fun _ _ h => .inr h))
  have HB2 := Lib.hid hB2
  clear ho2 hk2 hB2 hle
  go_wp2
  go_ret
  exact ⟨rfl, ⟨HB2.out.set_ 0 _, own_kp HO2.out (Kp.set1 p 0 _) (fun j h e => HT1.out.ne (e ▸ h)), HT1.out.le⟩, K2.out.setCell (fun _ => .inl rfl) _⟩
end Go.Proofs.Ythaoplcmkaaflaa
