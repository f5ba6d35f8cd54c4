import Derived.Test.YthaoplcmkaaflaaDoorSplit
import Derived.Deep.QuietTactic
import Derived.BigQuiet
import Derived.StillTailTactics
namespace Go.Proofs.YthaoplcmkaaflaaDoor
open Go.RowKit

theorem words_le (s : ByteArray) : (words s).length ≤ s.size + 1 := by
  unfold words
  rw [List.length_map]
  have := spl_len s.data.toList
  exact this
theorem bat {a b : ByteArray} (h : a = b) : (a.toList == b.toList) = true := by rw [h]; simp
theorem baf {a b : ByteArray} (h : a ≠ b) : (a.toList == b.toList) = false := by
  rw [beq_eq_false_iff_ne]
  intro e
  apply h
  rw [ByteArray.toList_eq, ByteArray.toList_eq] at e
  exact ByteArray.ext (Array.ext' e)
theorem strs_at {w : World} {A : Option Addr} {l : List ByteArray} (h : Rd w 1 A l.length (l.map Value.string)) {i : Nat} (hi : i < l.length) : ∃ b off, A = some ⟨b, off, none⟩ ∧ w.cell? ⟨b, off + i, none⟩ = some (.string l[i]) := by
  obtain ⟨b, off, rfl, hc⟩ := h.2 (by omega)
  exact ⟨b, off, rfl, hc i _ (by simp [hi])⟩

theorem strs_cell {w : World} {b : Nat} {l : List ByteArray} (h : Rd w 1 (some ⟨b, 0, none⟩) l.length (l.map Value.string)) {i : Nat} (hi : i < l.length) : w.cell? ⟨b, i, none⟩ = some (.string l[i]) := by
  obtain ⟨b', off, e, hc⟩ := strs_at h hi
  injection e with e
  injection e with e1 e2
  subst e1 e2
  rwa [Nat.zero_add] at hc
theorem t35 {x : ByteArray} (h : x = hash) : (x.toList == [35]) = true := by rw [h, ByteArray.toList_eq]; rfl
theorem f35 {x : ByteArray} (h : x ≠ hash) : (x.toList == [35]) = false := by
  have := baf h
  rwa [show hash.toList = [35] by rw [ByteArray.toList_eq]; rfl] at this
theorem t42 {x : ByteArray} (h : x = star) : (x.toList == [42]) = true := by rw [h, ByteArray.toList_eq]; rfl
theorem f42 {x : ByteArray} (h : x ≠ star) : (x.toList == [42]) = false := by
  have := baf h
  rwa [show star.toList = [42] by rw [ByteArray.toList_eq]; rfl] at this
theorem rd_drewN {w : World} {K n : Nat} {A : Option Addr} {cs : List Value} (h : Rd w K A n cs) (q : Nat) : Rd (w.drewN q) K A n cs := h

set_option maxRecDepth 100000 in
set_option maxHeartbeats 8000000 in
theorem patMatch (p k : ByteArray) (w : World) (hp : p.size ≤ 100000) (hk : k.size ≤ 100000) :
    Calls Tryd.prog 13 #[.string p, .string k] w fun e w' => e = .returned (.bool (matches_ p k)) ∧ Below w.heap.size w w' := by
  have HM : Hid (matches_ p k = mt (words p) (words k)) := rfl
  have hPl := words_le p
  have hKl := words_le k
  have hKp := words_pos k
  go_enter Tryd.func13, Tryd.ntmps13
  go_wp2_with fail
  refine wp_scope_ghost 0 (fun m aa wr => ∃ (P K : List ByteArray) (b1 b2 i j s fr : Nat) (a7 a8 a9 a10 : Int), a7 = (i : Int) ∧ a8 = (j : Int) ∧ a9 = (s : Int) - 1 ∧ a10 = (fr : Int) ∧ fr ≤ j ∧ P.length ≤ 100001 ∧ K.length ≤ 100001 ∧ mt P K = matches_ p k ∧ Bt P K i j s fr ∧ m = (K.length - fr) * (P.length + 1) + (P.length - i) ∧
      Rd wr 1 (some ⟨b1, 0, none⟩) P.length (P.map .string) ∧ Rd wr 1 (some ⟨b2, 0, none⟩) K.length (K.map .string) ∧ Below w.heap.size w wr ∧
    aa = { tmps := #[.string p, .string k, sl aa.tmps 2, sl aa.tmps 3, .bool false, .slice (some ⟨b1, 0, none⟩) P.length P.length, .slice (some ⟨b2, 0, none⟩) K.length K.length, .int .i64 a7, .int .i64 a8, .int .i64 a9, .int .i64 a10, sl aa.tmps 11, sl aa.tmps 12, sl aa.tmps 13, sl aa.tmps 14, sl aa.tmps 15, sl aa.tmps 16, sl aa.tmps 17, sl aa.tmps 18, sl aa.tmps 19, sl aa.tmps 20, sl aa.tmps 21, sl aa.tmps 22, sl aa.tmps 23, sl aa.tmps 24, sl aa.tmps 25, sl aa.tmps 26, sl aa.tmps 27, sl aa.tmps 28, sl aa.tmps 29, sl aa.tmps 30, sl aa.tmps 31, sl aa.tmps 32, sl aa.tmps 33, sl aa.tmps 34, sl aa.tmps 35, sl aa.tmps 36, sl aa.tmps 37, sl aa.tmps 38, sl aa.tmps 39, sl aa.tmps 40, sl aa.tmps 41, sl aa.tmps 42, sl aa.tmps 43, sl aa.tmps 44, sl aa.tmps 45, sl aa.tmps 46, sl aa.tmps 47, sl aa.tmps 48, sl aa.tmps 49, sl aa.tmps 50, sl aa.tmps 51, sl aa.tmps 52, sl aa.tmps 53, sl aa.tmps 54, sl aa.tmps 55, sl aa.tmps 56, sl aa.tmps 57, sl aa.tmps 58, sl aa.tmps 59, sl aa.tmps 60, sl aa.tmps 61, sl aa.tmps 62, sl aa.tmps 63, sl aa.tmps 64, sl aa.tmps 65, sl aa.tmps 66, sl aa.tmps 67, sl aa.tmps 68, sl aa.tmps 69, sl aa.tmps 70, sl aa.tmps 71, sl aa.tmps 72, sl aa.tmps 73, sl aa.tmps 74, sl aa.tmps 75, sl aa.tmps 76, sl aa.tmps 77, sl aa.tmps 78, sl aa.tmps 79, sl aa.tmps 80, sl aa.tmps 81, sl aa.tmps 82, sl aa.tmps 83, sl aa.tmps 84, sl aa.tmps 85, sl aa.tmps 86, sl aa.tmps 87, sl aa.tmps 88], defers := [] }) rfl ?_ ?_
  · intro m aa wr hI J hJ
    obtain ⟨P, K, b1, b2, i, j, s, fr, a7, a8, a9, a10, rfl, rfl, h9, rfl, hfj, hP, hK, hmt, hB, hm, hr1, hr2, hb, hfr⟩ := hI
    generalize aa.tmps = X at hfr
    subst hfr
    have hiP := hB.hi
    have hjK := hB.hj
    have hfK := hB.hf
    have hsi : s ≤ i := by
      rcases Nat.eq_zero_or_pos s with h | h
      · omega
      · exact (hB.hs h).1
    have HB := Lib.hid hB
    have Hm := Lib.hid hm
    have Hr1 := Lib.hid hr1
    have Hr2 := Lib.hid hr2
    have Hb := Lib.hid hb
    have Hmt := Lib.hid hmt
    have HJ := Lib.hid hJ
    clear hB hm hr1 hr2 hb hmt hJ
    have hs9 : -1 ≤ a9 ∧ a9 ≤ 100001 := by omega
    have HS := Lib.hid h9
    clear h9
    by_cases hi : i < P.length
    · have c1 := strs_cell Hr1.out hi
      by_cases hh : P[i] = hash
      · have HN := Lib.hid (HB.out.hash_ hi hh)
        have e1 := t35 hh
        generalize P[i] = x at *
        clear hh
        go_wp2_with fail
        have hJ := HJ.out
        go_step3
        refine ⟨rfl, ?_⟩
        refine Handed.intro ((K.length - j) * (P.length + 1) + (P.length - (i + 1))) ?_ (hJ _ _ _ ⟨P, K, b1, b2, i + 1, j, i + 1, j, _, _, _, _, by omega, rfl, by omega, rfl, Nat.le_refl _, hP, hK, Hmt.out, HN.out, rfl, Hr1.out, Hr2.out, Hb.out, rfl⟩)
        have := Nat.mul_le_mul_right (P.length + 1) (show K.length - j ≤ K.length - fr by omega)
        have := Hm.out
        omega
      · have e1 := f35 hh
        by_cases hj : j < K.length
        · have c2 := strs_cell Hr2.out hj
          by_cases he : P[i] = star ∨ P[i] = K[j]
          · have HN := Lib.hid (HB.out.word hi hj hh he)
            clear hh
            have key : (P[i].toList == [42]) = true ∨ ((P[i].toList == [42]) = false ∧ (P[i].toList == K[j].toList) = true) := by
              by_cases h1 : P[i] = star
              · exact .inl (t42 h1)
              · exact .inr ⟨f42 h1, bat (he.resolve_left h1)⟩
            clear he
            generalize P[i] = x at *
            generalize K[j] = y at *
            rcases key with e2 | ⟨e2, e3⟩
            all_goals
              go_wp2_with fail
              go_quiet (fail)
              go_wp2_with fail
              have hJ := HJ.out
              go_step3
              refine ⟨rfl, ?_⟩
              refine Handed.intro ((K.length - fr) * (P.length + 1) + (P.length - (i + 1))) ?_ (hJ _ _ _ ⟨P, K, b1, b2, i + 1, j + 1, s, fr, _, _, _, _, by omega, by omega, HS.out, rfl, by omega, hP, hK, Hmt.out, HN.out, rfl, rd_drewN Hr1.out _, rd_drewN Hr2.out _, blw_drewN Hb.out _, rfl⟩)
              have := Hm.out
              omega
          · have HST : Hid (Stuck P K i j) := ⟨fun _ => hh, fun _ _ => he, fun h => by omega⟩
            have e2 := f42 (fun h => he (.inl h))
            have e3 := baf (fun h => he (.inr h))
            have e4 : ((i : Int) == (P.length : Int)) = false := by rw [beq_eq_false_iff_ne]; omega
            clear he hh
            generalize P[i] = x at *
            generalize K[j] = y at *
            by_cases hs0 : s = 0
            · have HF : Hid (mt P K = false) := HB.out.fail HST.out (.inl hs0)
              have hs9' : a9 < 0 := by have := HS.out; omega
              go_wp2_with fail
              go_quiet (fail)
              go_wp2_with fail
              simp only [Exit.jump]
              go_ret
              exact ⟨by rw [← Hmt.out, HF.out]; rfl, blw_drewN Hb.out _⟩
            · have hs9' : 0 ≤ a9 := by have := HS.out; omega
              by_cases hf : fr = K.length
              · have HF : Hid (mt P K = false) := HB.out.fail HST.out (.inr hf)
                have hf' : K.length ≤ fr := by omega
                clear hf
                go_wp2_with fail
                go_quiet (fail)
                go_wp2_with fail
                simp only [Exit.jump]
                go_ret
                exact ⟨by rw [← Hmt.out, HF.out]; rfl, blw_drewN Hb.out _⟩
              · have hf' : fr < K.length := by omega
                have HN := Lib.hid (HB.out.back HST.out (by omega) hf')
                clear hf
                go_wp2_with fail
                go_quiet (fail)
                go_wp2_with fail
                have hJ := HJ.out
                go_step3
                refine ⟨rfl, ?_⟩
                refine Handed.intro ((K.length - (fr + 1)) * (P.length + 1) + (P.length - s)) ?_ (hJ _ _ _ ⟨P, K, b1, b2, s, fr + 1, s, fr + 1, _, _, _, _, by have := HS.out; omega, by omega, HS.out, by omega, Nat.le_refl _, hP, hK, Hmt.out, HN.out, rfl, rd_drewN Hr1.out _, rd_drewN Hr2.out _, blw_drewN Hb.out _, rfl⟩)
                have e := Nat.add_mul (K.length - (fr + 1)) 1 (P.length + 1)
                rw [show K.length - (fr + 1) + 1 = K.length - fr by omega] at e
                have := Hm.out
                omega
        · have HST : Hid (Stuck P K i j) := ⟨fun _ => hh, fun _ h => by omega, fun h => by omega⟩
          have e4 : ((i : Int) == (P.length : Int)) = false := by rw [beq_eq_false_iff_ne]; omega
          clear hh
          generalize P[i] = x at *
          by_cases hs0 : s = 0
          · have HF : Hid (mt P K = false) := HB.out.fail HST.out (.inl hs0)
            have hs9' : a9 < 0 := by have := HS.out; omega
            go_wp2_with fail
            go_quiet (fail)
            go_wp2_with fail
            simp only [Exit.jump]
            go_ret
            exact ⟨by rw [← Hmt.out, HF.out]; rfl, blw_drewN Hb.out _⟩
          · have hs9' : 0 ≤ a9 := by have := HS.out; omega
            by_cases hf : fr = K.length
            · have HF : Hid (mt P K = false) := HB.out.fail HST.out (.inr hf)
              have hf' : K.length ≤ fr := by omega
              clear hf
              go_wp2_with fail
              go_quiet (fail)
              go_wp2_with fail
              simp only [Exit.jump]
              go_ret
              exact ⟨by rw [← Hmt.out, HF.out]; rfl, blw_drewN Hb.out _⟩
            · have hf' : fr < K.length := by omega
              have HN := Lib.hid (HB.out.back HST.out (by omega) hf')
              clear hf
              go_wp2_with fail
              go_quiet (fail)
              go_wp2_with fail
              have hJ := HJ.out
              go_step3
              refine ⟨rfl, ?_⟩
              refine Handed.intro ((K.length - (fr + 1)) * (P.length + 1) + (P.length - s)) ?_ (hJ _ _ _ ⟨P, K, b1, b2, s, fr + 1, s, fr + 1, _, _, _, _, by have := HS.out; omega, by omega, HS.out, by omega, Nat.le_refl _, hP, hK, Hmt.out, HN.out, rfl, rd_drewN Hr1.out _, rd_drewN Hr2.out _, blw_drewN Hb.out _, rfl⟩)
              have e := Nat.add_mul (K.length - (fr + 1)) 1 (P.length + 1)
              rw [show K.length - (fr + 1) + 1 = K.length - fr by omega] at e
              have := Hm.out
              omega
    · by_cases hj : j < K.length
      · have HST : Hid (Stuck P K i j) := ⟨fun h => by omega, fun h => by omega, fun h => by omega⟩
        have e4 : ((j : Int) == (K.length : Int)) = false := by rw [beq_eq_false_iff_ne]; omega
        have e5 : ((i : Int) == (P.length : Int)) = true := by rw [beq_iff_eq]; omega
        by_cases hs0 : s = 0
        · have HF : Hid (mt P K = false) := HB.out.fail HST.out (.inl hs0)
          have hs9' : a9 < 0 := by have := HS.out; omega
          go_wp2_with fail
          go_quiet (fail)
          go_wp2_with fail
          simp only [Exit.jump]
          go_ret
          exact ⟨by rw [← Hmt.out, HF.out]; rfl, blw_drewN Hb.out _⟩
        · have hs9' : 0 ≤ a9 := by have := HS.out; omega
          by_cases hf : fr = K.length
          · have HF : Hid (mt P K = false) := HB.out.fail HST.out (.inr hf)
            have hf' : K.length ≤ fr := by omega
            clear hf
            go_wp2_with fail
            go_quiet (fail)
            go_wp2_with fail
            simp only [Exit.jump]
            go_ret
            exact ⟨by rw [← Hmt.out, HF.out]; rfl, blw_drewN Hb.out _⟩
          · have hf' : fr < K.length := by omega
            have HN := Lib.hid (HB.out.back HST.out (by omega) hf')
            clear hf
            go_wp2_with fail
            go_quiet (fail)
            go_wp2_with fail
            have hJ := HJ.out
            go_step3
            refine ⟨rfl, ?_⟩
            refine Handed.intro ((K.length - (fr + 1)) * (P.length + 1) + (P.length - s)) ?_ (hJ _ _ _ ⟨P, K, b1, b2, s, fr + 1, s, fr + 1, _, _, _, _, by have := HS.out; omega, by omega, HS.out, by omega, Nat.le_refl _, hP, hK, Hmt.out, HN.out, rfl, rd_drewN Hr1.out _, rd_drewN Hr2.out _, blw_drewN Hb.out _, rfl⟩)
            have e := Nat.add_mul (K.length - (fr + 1)) 1 (P.length + 1)
            rw [show K.length - (fr + 1) + 1 = K.length - fr by omega] at e
            have := Hm.out
            omega
      · have HF : Hid (mt P K = true) := HB.out.done (by omega) (by omega)
        have e4 : ((j : Int) == (K.length : Int)) = true := by rw [beq_iff_eq]; omega
        have e5 : ((i : Int) == (P.length : Int)) = true := by rw [beq_iff_eq]; omega
        go_wp2_with fail
        go_quiet (fail)
        go_wp2_with fail
        simp only [Exit.jump]
        go_ret
        exact ⟨by rw [← Hmt.out, HF.out]; rfl, blw_drewN Hb.out _⟩
  · intro J hJ
    have HJ := Lib.hid hJ
    clear hJ
    go_wp2_with fail
    refine (patWords p w (by omega)).mono ?_
    rintro e w1 ⟨rfl, rfl⟩
    have k1 : Below w.heap.size w (w.alloc (.cells ((words p).map Value.string).toArray 9)) := (Below.refl _ _).alloc (Nat.le_refl _) _
    have r1 : Rd (w.alloc (.cells ((words p).map Value.string).toArray 9)) 1 (some ⟨w.heap.size, 0, none⟩) (words p).length ((words p).map .string) := rd_words _ rfl
    generalize w.alloc (.cells ((words p).map Value.string).toArray 9) = w1 at *
    have K1 := Lib.hid k1
    have R1 := Lib.hid r1
    clear k1 r1
    go_wp2_with fail
    refine (patWords k w1 (by omega)).mono ?_
    rintro e w2 ⟨rfl, rfl⟩
    have k2 : Below w1.heap.size w1 (w1.alloc (.cells ((words k).map Value.string).toArray 9)) := (Below.refl _ _).alloc (Nat.le_refl _) _
    have r2 : Rd (w1.alloc (.cells ((words k).map Value.string).toArray 9)) 1 (some ⟨w1.heap.size, 0, none⟩) (words k).length ((words k).map .string) := rd_words _ rfl
    generalize w1.alloc (.cells ((words k).map Value.string).toArray 9) = w2 at *
    have hr1 := R1.out.below k2
    have hb := blw_trans K1.out k2 K1.out.size
    have K2 := Lib.hid k2
    have R2 := Lib.hid r2
    have Hr1 := Lib.hid hr1
    have Hb := Lib.hid hb
    clear k2 r2 hr1 hb
    go_wp2_with fail
    go_step3
    go_step
    go_step
    refine HJ.out (((words k).length - 0) * ((words p).length + 1) + ((words p).length - 0)) _ _ ?_
    exact ⟨words p, words k, w.heap.size, w1.heap.size, 0, 0, 0, 0, _, _, _, _, rfl, rfl, rfl, rfl, Nat.le_refl _, by omega, by omega, HM.out.symm, Bt.start, rfl, Hr1.out, R2.out, Hb.out, rfl⟩
end Go.Proofs.YthaoplcmkaaflaaDoor
