import Derived.Test.YthaoplcmkaaflaaDoorMatch
import Derived.Test.YthaoplcmkaaflaaDoorStr
import Derived.Test.YthaoplcmkaaflaaDoorArr
import Derived.Test.YthaoplcmkaaflaaDoorMake
import Derived.Test.YthaoplcmkaaflaaDoorOrdB
namespace Go.Proofs.YthaoplcmkaaflaaDoor
open Go.RowKit

theorem info_str1 : (Tryd.prog.info? 9).map (fun i => (i.zero, i.size, i.bytes)) = some (some (.string ⟨#[]⟩), 1, 16) := by kernel_rfl
theorem info_bool1 : (Tryd.prog.info? 4).map (fun i => (i.zero, i.size, i.bytes)) = some (some (.bool false), 1, 1) := by kernel_rfl
theorem Strs_one1 (l : List ByteArray) (x : ByteArray) : Strs l ++ [.string x] = Strs (l ++ [x]) := by simp [Strs]
theorem ext_ofL (s : ByteArray) (a b : Nat) : s.extract a b = bOfL ((s.data.toList.drop a).take (b - a)) := by
  apply ByteArray.ext
  apply Array.ext'
  simp [bOfL]
/-- what is cut off already, where the rest begins -/
def Cut (s : ByteArray) (m : List ByteArray) (fr k : Nat) : Prop := fr ≤ k ∧ words s = m ++ (spl (s.data.toList.drop fr)).map bOfL ∧ (46 : UInt8) ∉ (s.data.toList.drop fr).take (k - fr)
theorem Cut.start (s : ByteArray) : Cut s [] 0 0 := ⟨Nat.le_refl _, by simp [words], by simp⟩
theorem take_snoc1 (l : List UInt8) (n : Nat) (h : n < l.length) : l.take (n + 1) = l.take n ++ [l[n]] := by rw [List.take_succ_eq_append_getElem h]
theorem Cut.skip {s : ByteArray} {m : List ByteArray} {fr k : Nat} (h : Cut s m fr k) (hk : k < s.data.toList.length) (hne : s.data.toList[k] ≠ 46) : Cut s m fr (k + 1) := by
  refine ⟨by have := h.1; omega, h.2.1, ?_⟩
  have h1 := h.1
  rw [show k + 1 - fr = (k - fr) + 1 by omega, take_snoc1 _ _ (by rw [List.length_drop]; omega)]
  simp only [List.mem_append, List.mem_singleton, not_or]
  refine ⟨h.2.2, fun e => hne ?_⟩
  rw [e, List.getElem_drop]
  congr 1; omega
theorem Cut.dot {s : ByteArray} {m : List ByteArray} {fr k : Nat} (h : Cut s m fr k) (hk : k < s.data.toList.length) (he : s.data.toList[k] = 46) : Cut s (m ++ [s.extract fr k]) (k + 1) (k + 1) := by
  have h1 := h.1
  refine ⟨Nat.le_refl _, ?_, by simp⟩
  have e : s.data.toList.drop fr = (s.data.toList.drop fr).take (k - fr) ++ 46 :: s.data.toList.drop (k + 1) := by
    conv => lhs; rw [← List.take_append_drop (k - fr) (s.data.toList.drop fr)]
    rw [List.drop_drop, show fr + (k - fr) = k by omega, List.drop_eq_getElem_cons hk, he]
  rw [h.2.1, e, spl_hit _ _ h.2.2, ext_ofL]
  simp
theorem Cut.fin {s : ByteArray} {m : List ByteArray} {fr : Nat} (h : Cut s m fr s.size) : words s = m ++ [s.extract fr s.size] := by
  have hn := h.2.2
  have e : (s.data.toList.drop fr).take (s.size - fr) = s.data.toList.drop fr := List.take_of_length_le (by rw [List.length_drop]; exact Nat.le_refl _)
  rw [e] at hn
  rw [h.2.1, spl_cat _ hn, ext_ofL, e]
  rfl
theorem Cut.len {s : ByteArray} {m : List ByteArray} {fr k : Nat} (h : Cut s m fr k) : m.length ≤ s.size := by
  have := words_le s
  rw [h.2.1, List.length_append, List.length_map] at this
  have := List.length_pos_iff.2 (spl_ne (s.data.toList.drop fr))
  omega

set_option maxHeartbeats 1000000 in
theorem refWords (s : ByteArray) (w : World) (hs : s.size ≤ 100000) :
    Calls Tryd.prog 12 #[.string s] w fun e w' => ∃ A c, e = .returned (.slice A (words s).length c) ∧ Rd w' 1 A (words s).length ((words s).map .string) ∧ Below w.heap.size w w' := by
  go_enter Tryd.func12, Tryd.ntmps12
  go_wp2
  go_loopg [3, 4, 5] (s.size) (fun g o f i wr => ∃ (k fr : Nat) (m : List ByteArray) (A : Option Addr) (c : Nat), k + g = s.size ∧ i = .int .i64 k ∧ f = .int .i64 fr ∧ o = .slice A m.length c ∧ fr ≤ k ∧ Cut s m fr k ∧ wr.ownsRow w.heap.size 9 1 (.slice A m.length c) m.length (Strs m) ∧ Below w.heap.size w wr)
  case atStart => exact ⟨0, 0, [], none, 0, by omega, rfl, rfl, rfl, Nat.le_refl _, Cut.start s, World.ownsRow_nil .., Below.refl _ _⟩
  case round =>
    obtain ⟨k, fr, m, A, c, hk, rfl, rfl, rfl, hfk, hC, ho, hb⟩ := hrel
    have hml := hC.len
    have hsz := hb.size
    have Hk := Lib.hid hk
    have HC := Lib.hid hC
    have Ho := Lib.hid ho
    have Hb := Lib.hid hb
    clear hk hC ho hb
    by_cases hlt : k < s.size
    · have hl : k < s.data.toList.length := hlt
      by_cases h46 : s.data.toList[k] = 46
      · have hx : (s[k].toNat : Int) == 46 := by
          have : s[k] = 46 := h46
          rw [this]; rfl
        have HN := Lib.hid (HC.out.dot hl h46)
        clear h46
        go_wp2_with (at_builtin; refine wpList_app _ rfl _ _ 24 rfl w.heap.size 9 _ 1 16 Tryd.underlying24 info_str1 rfl (by decide) A c m.length (Strs m) rfl ?o1 _ 1 1 [.string (s.extract fr k)] rfl ?o2 (one1 _) ?o4 ?o5 ?o6 ?o7)
        case o1 => exact Ho.out.alloc _
        case o2 => exact rd_alloc rfl rfl
        case o4 => unfold maxLen; omega
        case o5 => omega
        case o6 => (try simp); omega
        case o7 =>
          intro A6 c6 w8 ho1 hk1 hf1
          have hb1 : Below w.heap.size w w8 := Hb.out.trans (((Below.refl w.heap.size _).alloc (by omega) _).trans (hk1.below (by simp; omega) (fun k hk h => by have := (own_fa Ho.out h).1; omega)))
          have Ho1 := Lib.hid ho1
          have Hb1 := Lib.hid hb1
          clear ho1 hb1
          clear hk1 hf1 hx
          go_wp2
          go_roundg (s.size - (k + 1))
          case measure => have := Hk.out; omega
          case rel =>
            refine ⟨k + 1, k + 1, m ++ [s.extract fr k], A6, c6, by omega, by go_num, by go_num, by simp, Nat.le_refl _, HN.out, ?_, Hb1.out⟩
            rw [← Strs_one1, show (m ++ [s.extract fr k]).length = m.length + 1 by simp]
            exact Ho1.out
      · have hx : ((s[k].toNat : Int) == 46) = false := by
          rw [beq_eq_false_iff_ne]
          intro e
          apply h46
          apply UInt8.toNat_inj.1
          have : s[k].toNat = 46 := by omega
          exact this
        have HN := Lib.hid (HC.out.skip hl h46)
        clear h46
        go_wp2_with fail
        go_roundg (s.size - (k + 1))
        case measure => have := Hk.out; omega
        case rel => exact ⟨k + 1, fr, m, A, c, by omega, by go_num, rfl, rfl, by omega, HN.out, Ho.out, Hb.out⟩
    · obtain rfl : k = s.size := by have := Hk.out; omega
      have HF := Lib.hid HC.out.fin
      go_wp2_with (at_builtin; refine wpList_app _ rfl _ _ 24 rfl w.heap.size 9 _ 1 16 Tryd.underlying24 info_str1 rfl (by decide) A c m.length (Strs m) rfl ?p1 _ 1 1 [.string (s.extract fr s.size)] rfl ?p2 (one1 _) ?p4 ?p5 ?p6 ?p7)
      case p1 => exact Ho.out.alloc _
      case p2 => exact rd_alloc rfl rfl
      case p4 => unfold maxLen; omega
      case p5 => omega
      case p6 => (try simp); omega
      case p7 =>
        intro A6 c6 w8 ho1 hk1 hf1
        have hb1 : Below w.heap.size w w8 := Hb.out.trans (((Below.refl w.heap.size _).alloc (by omega) _).trans (hk1.below (by simp; omega) (fun k hk h => by have := (own_fa Ho.out h).1; omega)))
        rw [Strs_one1, ← HF.out, show m.length + 1 = (words s).length by rw [HF.out]; simp] at ho1
        rw [show m.length + 1 = (words s).length by rw [HF.out]; simp]
        have Ho1 := Lib.hid ho1
        have Hb1 := Lib.hid hb1
        clear ho1 hb1
        clear hk1 hf1
        go_wp2
        go_ret
        exact ⟨A6, c6, rfl, own_rd Ho1.out, Hb1.out⟩

set_option maxRecDepth 100000 in
set_option maxHeartbeats 8000000 in
theorem refMatch (p k : ByteArray) (w : World) (hp : p.size ≤ 100000) (hk : k.size ≤ 100000) :
    Calls Tryd.prog 14 #[.string p, .string k] w fun e w' => e = .returned (.bool (matches_ p k)) ∧ Below w.heap.size w w' := by
  have HM : Hid (matches_ p k = mt (words p) (words k)) := rfl
  have hPl := words_le p
  have hKl := words_le k
  have hKp := words_pos k
  go_enter Tryd.func14, Tryd.ntmps14
  go_wp2_with fail
  refine (refWords p w hp).mono ?_
  rintro e w1 ⟨A1, c1, rfl, r1, k1⟩
  have K1 := Lib.hid k1
  have R1 := Lib.hid r1
  clear k1 r1
  go_wp2_with fail
  refine (refWords k w1 hk).mono ?_
  rintro e w2 ⟨A2, c2, rfl, r2, k2⟩
  have hr1 := R1.out.below k2
  have hb := blw_trans K1.out k2 K1.out.size
  generalize words p = P at *
  generalize words k = K at *
  have K2 := Lib.hid k2
  have Hr1 := Lib.hid hr1
  have R2 := Lib.hid r2
  have Hb := Lib.hid hb
  clear k2 hr1 r2 hb
  clear K1 R1 K2
  have hmk : (madeCells #[Value.bool false] (K.length + 1))[0]? = some (.bool false) := by rw [bArr_made, bArr_get _ _ _ (by omega)]
  go_wp2_with (at_make; refine wpList_make1 _ rfl _ _ 59 rfl 4 (.bool false) 1 Tryd.underlying59 info_bool1 .i64 .i64 _ _ (K.length + 1) rfl rfl ?l1 ?l2 ?l3 ?l4 ?kk1)
  case l1 => rfl
  case l2 => rfl
  case l3 => omega
  case l4 => unfold maxLen; omega
  have e0 : (madeCells #[Value.bool false] (K.length + 1)).setIfInBounds 0 (.bool true) = bArr (K.length + 1) (row P K 0) := by
    rw [bArr_made, bArr_set]
    congr 1
    funext j
    rw [row_zero P K j hKp]
    by_cases h : j = 0 <;> simp [h]
  rw [e0]
  clear e0 hmk
  have n3 : Blk (w2.alloc (Obj.cells (bArr (K.length + 1) (row P K 0)) 4)) w2.heap.size 4 (bArr (K.length + 1) (row P K 0)) := Blk.new _ _ _
  have k3 : Below w2.heap.size w2 (w2.alloc (Obj.cells (bArr (K.length + 1) (row P K 0)) 4)) := (Below.refl _ _).alloc (Nat.le_refl _) _
  generalize w2.alloc (Obj.cells (bArr (K.length + 1) (row P K 0)) 4) = w3 at *
  have N3 := Lib.hid n3
  have K3 := Lib.hid k3
  clear n3 k3
  go_loopg [7, 8] (P.length) (fun g r i wr => ∃ (k gb : Nat), k + g = P.length ∧ i = .int .i64 k ∧ r = .slice (some ⟨gb, 0, none⟩) (K.length + 1) (K.length + 1) ∧ Blk wr gb 4 (bArr (K.length + 1) (row P K k)) ∧ Below w2.heap.size w2 wr)
  case atStart => exact ⟨0, w2.heap.size, by omega, rfl, rfl, N3.out, K3.out⟩
  case round =>
    obtain ⟨i, gb, hi, rfl, rfl, hB, hb2⟩ := hrel
    obtain ⟨wo, hwo⟩ : ∃ wo : World, wo = wr := ⟨_, rfl⟩
    subst hwo
    have hgb := hB.lt
    have Hi := Lib.hid hi
    have HB := Lib.hid hB
    have Hb2 := Lib.hid hb2
    clear hi hB hb2
    by_cases hlt : i < P.length
    · go_wp2_with (at_make; refine wpList_make1 _ rfl _ _ 59 rfl 4 (.bool false) 1 Tryd.underlying59 info_bool1 .i64 .i64 _ _ (K.length + 1) rfl rfl ?m1 ?m2 ?m3 ?m4 ?kk2)
      case m1 => rfl
      case m2 => rfl
      case m3 => omega
      case m4 => unfold maxLen; omega
      have e0 : madeCells #[Value.bool false] (K.length + 1) = bArr (K.length + 1) (fun j => if j < 0 then row P K (i + 1) j else false) := bArr_made _
      rw [e0]
      clear e0
      have n4 : Blk (wo.alloc (Obj.cells (bArr (K.length + 1) (fun j => if j < 0 then row P K (i + 1) j else false)) 4)) wo.heap.size 4 (bArr (K.length + 1) (fun j => if j < 0 then row P K (i + 1) j else false)) := Blk.new _ _ _
      have k4 : Below wo.heap.size wo (wo.alloc (Obj.cells (bArr (K.length + 1) (fun j => if j < 0 then row P K (i + 1) j else false)) 4)) := (Below.refl _ _).alloc (Nat.le_refl _) _
      generalize wo.alloc (Obj.cells (bArr (K.length + 1) (fun j => if j < 0 then row P K (i + 1) j else false)) 4) = w4 at *
      have hb4 := blw_trans Hb2.out k4 Hb2.out.size
      have hB4 := HB.out.below k4
      have N4 := Lib.hid n4
      have K4 := Lib.hid k4
      have Hb4 := Lib.hid hb4
      have HB4 := Lib.hid hB4
      clear n4 k4 hb4 hB4
      go_loopg [10] (K.length + 1) (fun g i' wt => ∃ (c : Nat), c + g = K.length + 1 ∧ i' = .int .i64 c ∧ Blk wt wo.heap.size 4 (bArr (K.length + 1) (fun j => if j < c then row P K (i + 1) j else false)) ∧ Kp (fun x => x = wo.heap.size) w4 wt)
      case atStart => exact ⟨0, by omega, rfl, N4.out, Kp.refl _ _⟩
      case round =>
        obtain ⟨c, hc, rfl, hN, hk5⟩ := hrel
        have hR := HB4.out.kp hk5 (by omega)
        have hsz2 := Hb2.out.size
        have hb5 := blw_kp Hb4.out hk5 (by have := Hb4.out.size; exact this) (fun x e => by omega)
        have hr5 := Hr1.out.below hb5
        have hw5 := R2.out.below hb5
        by_cases hcl : c < K.length + 1
        · obtain ⟨pb, po, hpe, p0⟩ := strs_at hr5 hlt
          subst hpe
          have f0 := hN.frozen c
          have g0 := hN.bget hcl
          have r0 := hR.bget hcl
          have fin : ∀ (wz : World) (v : Bool), Blk wz wo.heap.size 4 (bArr (K.length + 1) (fun j => if j < c then row P K (i + 1) j else false)) → Kp (fun x => x = wo.heap.size) w4 wz → v = row P K (i + 1) c →
              Blk (wz.setCell ⟨wo.heap.size, c, none⟩ (.bool v)) wo.heap.size 4 (bArr (K.length + 1) (fun j => if j < c + 1 then row P K (i + 1) j else false)) ∧ Kp (fun x => x = wo.heap.size) w4 (wz.setCell ⟨wo.heap.size, c, none⟩ (.bool v)) := fun wz v h1 h2 h3 => by
            subst h3
            refine ⟨?_, h2.setCell (fun _ => rfl) _⟩
            rw [← bArr_upto]
            exact h1.bset c _
          have HFIN := Lib.hid fin
          have HN5 := Lib.hid hN
          have HK5 := Lib.hid hk5
          have HR5 := Lib.hid hR
          have Hc := Lib.hid hc
          have Hr5 := Lib.hid hr5
          have Hw5 := Lib.hid hw5
          have Hb5 := Lib.hid hb5
          clear hc hr5 hw5 hb5
          by_cases hh : P[i] = hash
          · have e1 := t35 hh
            have HRW : Hid (row P K (i + 1) c = (row P K i c || (decide (0 < c) && row P K (i + 1) (c - 1)))) := row_hash P K i c hlt (by omega) hh
            clear hh
            generalize P[i] = x at *
            cases hrv : row P K i c with
            | true =>
              rw [hrv] at r0
              have HV : Hid (true = row P K (i + 1) c) := by unfold Hid; rw [HRW.out, hrv]; rfl
              clear hrv fin hN hk5 hR
              go_wp2_with fail
              obtain ⟨h1, h2⟩ := HFIN.out _ true HN5.out HK5.out HV.out
              have H1 := Lib.hid h1
              have H2 := Lib.hid h2
              clear h1 h2
              go_roundg (K.length + 1 - (c + 1))
              case measure => have := Hc.out; omega
              case rel => exact ⟨c + 1, by omega, by go_num, H1.out, H2.out⟩
            | false =>
              rw [hrv] at r0
              by_cases hc0 : 0 < c
              · obtain ⟨d, rfl⟩ : ∃ d, c = d + 1 := ⟨c - 1, by omega⟩
                have g1 := hN.bget (i := d) (by omega)
                rw [if_pos (by omega)] at g1
                have HV : Hid (row P K (i + 1) d = row P K (i + 1) (d + 1)) := by unfold Hid; rw [HRW.out, hrv]; simp
                clear hrv fin hN hk5 hR
                go_wp2_with fail
                obtain ⟨h1, h2⟩ := HFIN.out _ _ HN5.out HK5.out HV.out
                have H1 := Lib.hid h1
                have H2 := Lib.hid h2
                clear h1 h2
                go_roundg (K.length + 1 - (d + 1 + 1))
                case measure => have := Hc.out; omega
                case rel => exact ⟨d + 1 + 1, by omega, by go_num, H1.out, H2.out⟩
              · have HV : Hid (false = row P K (i + 1) c) := by unfold Hid; rw [HRW.out, hrv]; simp [hc0]
                have hc0' : c ≤ 0 := by omega
                clear hrv fin hN hk5 hR hc0
                go_wp2_with fail
                obtain ⟨h1, h2⟩ := HFIN.out _ false HN5.out HK5.out HV.out
                have H1 := Lib.hid h1
                have H2 := Lib.hid h2
                clear h1 h2
                go_roundg (K.length + 1 - (c + 1))
                case measure => have := Hc.out; omega
                case rel => exact ⟨c + 1, by omega, by go_num, H1.out, H2.out⟩
          · have e1 := f35 hh
            by_cases hc0 : 0 < c
            · obtain ⟨d, rfl⟩ : ∃ d, c = d + 1 := ⟨c - 1, by omega⟩
              have hdk : d < K.length := by omega
              obtain ⟨kb, ko, hke, q0⟩ := strs_at Hw5.out hdk
              subst hke
              have r1 := hR.bget (i := d) (by omega)
              have HRW : Hid (row P K (i + 1) (d + 1) = (row P K i d && (decide (P[i] = star) || decide (P[i] = K[d])))) := row_word P K i d hlt hdk hh
              have key : ((P[i].toList == [42]) = true ∧ (decide (P[i] = star) || decide (P[i] = K[d])) = true) ∨ ((P[i].toList == [42]) = false ∧ (P[i].toList == K[d].toList) = true ∧ (decide (P[i] = star) || decide (P[i] = K[d])) = true) ∨
                  ((P[i].toList == [42]) = false ∧ (P[i].toList == K[d].toList) = false ∧ (decide (P[i] = star) || decide (P[i] = K[d])) = false) := by
                by_cases h1 : P[i] = star
                · exact .inl ⟨t42 h1, by simp [h1]⟩
                · by_cases h2 : P[i] = K[d]
                  · exact .inr (.inl ⟨f42 h1, bat h2, by simp [h2]⟩)
                  · exact .inr (.inr ⟨f42 h1, baf h2, by simp [h1, h2]⟩)
              have KEY := Lib.hid key
              clear hh key
              generalize (decide (P[i] = star) || decide (P[i] = K[d])) = ok at *
              generalize P[i] = x at *
              generalize K[d] = y at *
              generalize row P K i d = rv at *
              have z1 : ∀ z : Wd None' wr, z.w.cell? ⟨gb, d, none⟩ = some (.bool rv) := fun z => z.cell r1 id
              have z2 : ∀ z : Wd None' wr, z.w.cell? ⟨pb, po + i, none⟩ = some (.string x) := fun z => z.cell p0 id
              have z3 : ∀ z : Wd None' wr, z.w.cell? ⟨kb, ko + d, none⟩ = some (.string y) := fun z => z.cell q0 id
              clear fin hN hk5 hR r1 q0 r0
              cases rv with
              | false =>
                have HV : Hid (false = row P K (i + 1) (d + 1)) := by unfold Hid; rw [HRW.out]; rfl
                go_wp2_with fail
                refine wp_region_ord (.mov 0 (.mov 1 (.mov 2 (.mov 3 (.mov 4 (.mov 5 (.mov 6 (.mov 7 (.mov 8 (.mov 9 (.mov 10 (.mov 11 (.mov 12 (.mov 13 (.mov 14 (.mov 15 (.mov 16 (.mov 17 (.mov 18 (.mov 19 (.mov 20 (.mov 21 (.mov 22 (.mov 23 (.mov 24 (.mov 25 (.mov 26 (.mov 27 (.mov 28 (.mov 29 (.mov 30 (.eff 31 .fin)))))))))))))))))))))))))))))))) ?_ ?_ ?_ ?_
                · kernel_rfl
                · kernel_rfl
                · exact fun _ _ _ _ h => h
                iterate 9 (refine ord_pure rfl rfl ?_; go_big_quiet_step (fail); refine wpQuiet_nil ?_)
                iterate 1 (refine ord_mov (fun w' => ∃ z : Wd None' wr, w' = z.w) (Wd.of ((Kp.refl _ _).drew)) rfl rfl ?_; go_big_quiet_step (fail); refine wpQuiet_nil ?_)
                iterate 5 (refine ord_pure rfl rfl ?_; go_big_quiet_step (fail); refine wpQuiet_nil ?_)
                iterate 1 (refine ord_mov (fun w' => ∃ z : Wd None' wr, w' = z.w) (Wd.of ((Kp.refl _ _).drew)) rfl rfl ?_; go_big_quiet_step (fail); refine wpQuiet_nil ?_)
                iterate 5 (refine ord_pure rfl rfl ?_; go_big_quiet_step (fail); refine wpQuiet_nil ?_)
                iterate 1 (refine ord_mov (fun w' => ∃ z : Wd None' wr, w' = z.w) (Wd.of ((Kp.refl _ _).drew)) rfl rfl ?_; go_big_quiet_step (fail); refine wpQuiet_nil ?_)
                iterate 4 (refine ord_pure rfl rfl ?_; go_big_quiet_step (fail); refine wpQuiet_nil ?_)
                iterate 1 (refine ord_mov (fun w' => ∃ z : Wd None' wr, w' = z.w) (Wd.of ((Kp.refl _ _).drew)) rfl rfl ?_; go_big_quiet_step (fail); refine wpQuiet_nil ?_)
                iterate 4 (refine ord_pure rfl rfl ?_; go_big_quiet_step (fail); refine wpQuiet_nil ?_)
                refine ord_sync rfl (by kernel_rfl) (fun K hK => ?_)
                go_wp2_with fail
                refine ord_end ?_
                go_wp2_with fail
                obtain ⟨h1, h2⟩ := HFIN.out wr.drew _ HN5.out.drew HK5.out.drew HV.out
                have H1 := Lib.hid h1
                have H2 := Lib.hid h2
                clear h1 h2
                go_roundg (K.length + 1 - (d + 1 + 1))
                case measure => have := Hc.out; omega
                case rel => exact ⟨d + 1 + 1, by omega, by go_num, H1.out, H2.out⟩
              | true =>
                rcases KEY.out with ⟨e2, h⟩ | ⟨e2, e3, h⟩ | ⟨e2, e3, h⟩
                case inl =>
                  have HV : Hid (true = row P K (i + 1) (d + 1)) := by unfold Hid; rw [HRW.out, h]; rfl
                  clear h
                  go_wp2_with fail
                  refine wp_region_ord (.mov 0 (.mov 1 (.mov 2 (.mov 3 (.mov 4 (.mov 5 (.mov 6 (.mov 7 (.mov 8 (.mov 9 (.mov 10 (.mov 11 (.mov 12 (.mov 13 (.mov 14 (.mov 15 (.mov 16 (.mov 17 (.mov 18 (.mov 19 (.mov 20 (.mov 21 (.mov 22 (.mov 23 (.mov 24 (.mov 25 (.mov 26 (.mov 27 (.mov 28 (.mov 29 (.mov 30 (.eff 31 .fin)))))))))))))))))))))))))))))))) ?_ ?_ ?_ ?_
                  · kernel_rfl
                  · kernel_rfl
                  · exact fun _ _ _ _ h => h
                  iterate 9 (refine ord_pure rfl rfl ?_; go_big_quiet_step (fail); refine wpQuiet_nil ?_)
                  iterate 1 (refine ord_mov (fun w' => ∃ z : Wd None' wr, w' = z.w) (Wd.of ((Kp.refl _ _).drew)) rfl rfl ?_; go_big_quiet_step (fail); refine wpQuiet_nil ?_)
                  iterate 5 (refine ord_pure rfl rfl ?_; go_big_quiet_step (fail); refine wpQuiet_nil ?_)
                  iterate 1 (refine ord_mov (fun w' => ∃ z : Wd None' wr, w' = z.w) (Wd.of ((Kp.refl _ _).drew)) rfl rfl ?_; go_big_quiet_step (fail); refine wpQuiet_nil ?_)
                  iterate 5 (refine ord_pure rfl rfl ?_; go_big_quiet_step (fail); refine wpQuiet_nil ?_)
                  iterate 1 (refine ord_mov (fun w' => ∃ z : Wd None' wr, w' = z.w) (Wd.of ((Kp.refl _ _).drew)) rfl rfl ?_; go_big_quiet_step (fail); refine wpQuiet_nil ?_)
                  iterate 4 (refine ord_pure rfl rfl ?_; go_big_quiet_step (fail); refine wpQuiet_nil ?_)
                  iterate 1 (refine ord_mov (fun w' => ∃ z : Wd None' wr, w' = z.w) (Wd.of ((Kp.refl _ _).drew)) rfl rfl ?_; go_big_quiet_step (fail); refine wpQuiet_nil ?_)
                  iterate 4 (refine ord_pure rfl rfl ?_; go_big_quiet_step (fail); refine wpQuiet_nil ?_)
                  refine ord_sync rfl (by kernel_rfl) (fun K hK => ?_)
                  go_wp2_with fail
                  refine ord_end ?_
                  go_wp2_with fail
                  obtain ⟨h1, h2⟩ := HFIN.out wr.drew _ HN5.out.drew HK5.out.drew HV.out
                  have H1 := Lib.hid h1
                  have H2 := Lib.hid h2
                  clear h1 h2
                  go_roundg (K.length + 1 - (d + 1 + 1))
                  case measure => have := Hc.out; omega
                  case rel => exact ⟨d + 1 + 1, by omega, by go_num, H1.out, H2.out⟩
                case inr.inl =>
                  have HV : Hid (true = row P K (i + 1) (d + 1)) := by unfold Hid; rw [HRW.out, h]; rfl
                  clear h
                  go_wp2_with fail
                  refine wp_region_ord (.mov 0 (.mov 1 (.mov 2 (.mov 3 (.mov 4 (.mov 5 (.mov 6 (.mov 7 (.mov 8 (.mov 9 (.mov 10 (.mov 11 (.mov 12 (.mov 13 (.mov 14 (.mov 15 (.mov 16 (.mov 17 (.mov 18 (.mov 19 (.mov 20 (.mov 21 (.mov 22 (.mov 23 (.mov 24 (.mov 25 (.mov 26 (.mov 27 (.mov 28 (.mov 29 (.mov 30 (.eff 31 .fin)))))))))))))))))))))))))))))))) ?_ ?_ ?_ ?_
                  · kernel_rfl
                  · kernel_rfl
                  · exact fun _ _ _ _ h => h
                  iterate 9 (refine ord_pure rfl rfl ?_; go_big_quiet_step (fail); refine wpQuiet_nil ?_)
                  iterate 1 (refine ord_mov (fun w' => ∃ z : Wd None' wr, w' = z.w) (Wd.of ((Kp.refl _ _).drew)) rfl rfl ?_; go_big_quiet_step (fail); refine wpQuiet_nil ?_)
                  iterate 5 (refine ord_pure rfl rfl ?_; go_big_quiet_step (fail); refine wpQuiet_nil ?_)
                  iterate 1 (refine ord_mov (fun w' => ∃ z : Wd None' wr, w' = z.w) (Wd.of ((Kp.refl _ _).drew)) rfl rfl ?_; go_big_quiet_step (fail); refine wpQuiet_nil ?_)
                  iterate 5 (refine ord_pure rfl rfl ?_; go_big_quiet_step (fail); refine wpQuiet_nil ?_)
                  iterate 1 (refine ord_mov (fun w' => ∃ z : Wd None' wr, w' = z.w) (Wd.of ((Kp.refl _ _).drew)) rfl rfl ?_; go_big_quiet_step (fail); refine wpQuiet_nil ?_)
                  iterate 4 (refine ord_pure rfl rfl ?_; go_big_quiet_step (fail); refine wpQuiet_nil ?_)
                  iterate 1 (refine ord_mov (fun w' => ∃ z : Wd None' wr, w' = z.w) (Wd.of ((Kp.refl _ _).drew)) rfl rfl ?_; go_big_quiet_step (fail); refine wpQuiet_nil ?_)
                  iterate 4 (refine ord_pure rfl rfl ?_; go_big_quiet_step (fail); refine wpQuiet_nil ?_)
                  refine ord_sync rfl (by kernel_rfl) (fun K hK => ?_)
                  go_wp2_with fail
                  refine ord_end ?_
                  go_wp2_with fail
                  obtain ⟨h1, h2⟩ := HFIN.out wr.drew _ HN5.out.drew HK5.out.drew HV.out
                  have H1 := Lib.hid h1
                  have H2 := Lib.hid h2
                  clear h1 h2
                  go_roundg (K.length + 1 - (d + 1 + 1))
                  case measure => have := Hc.out; omega
                  case rel => exact ⟨d + 1 + 1, by omega, by go_num, H1.out, H2.out⟩
                case inr.inr =>
                  have HV : Hid (false = row P K (i + 1) (d + 1)) := by unfold Hid; rw [HRW.out, h]; rfl
                  clear h
                  go_wp2_with fail
                  refine wp_region_ord (.mov 0 (.mov 1 (.mov 2 (.mov 3 (.mov 4 (.mov 5 (.mov 6 (.mov 7 (.mov 8 (.mov 9 (.mov 10 (.mov 11 (.mov 12 (.mov 13 (.mov 14 (.mov 15 (.mov 16 (.mov 17 (.mov 18 (.mov 19 (.mov 20 (.mov 21 (.mov 22 (.mov 23 (.mov 24 (.mov 25 (.mov 26 (.mov 27 (.mov 28 (.mov 29 (.mov 30 (.eff 31 .fin)))))))))))))))))))))))))))))))) ?_ ?_ ?_ ?_
                  · kernel_rfl
                  · kernel_rfl
                  · exact fun _ _ _ _ h => h
                  iterate 9 (refine ord_pure rfl rfl ?_; go_big_quiet_step (fail); refine wpQuiet_nil ?_)
                  iterate 1 (refine ord_mov (fun w' => ∃ z : Wd None' wr, w' = z.w) (Wd.of ((Kp.refl _ _).drew)) rfl rfl ?_; go_big_quiet_step (fail); refine wpQuiet_nil ?_)
                  iterate 5 (refine ord_pure rfl rfl ?_; go_big_quiet_step (fail); refine wpQuiet_nil ?_)
                  iterate 1 (refine ord_mov (fun w' => ∃ z : Wd None' wr, w' = z.w) (Wd.of ((Kp.refl _ _).drew)) rfl rfl ?_; go_big_quiet_step (fail); refine wpQuiet_nil ?_)
                  iterate 5 (refine ord_pure rfl rfl ?_; go_big_quiet_step (fail); refine wpQuiet_nil ?_)
                  iterate 1 (refine ord_mov (fun w' => ∃ z : Wd None' wr, w' = z.w) (Wd.of ((Kp.refl _ _).drew)) rfl rfl ?_; go_big_quiet_step (fail); refine wpQuiet_nil ?_)
                  iterate 4 (refine ord_pure rfl rfl ?_; go_big_quiet_step (fail); refine wpQuiet_nil ?_)
                  iterate 1 (refine ord_mov (fun w' => ∃ z : Wd None' wr, w' = z.w) (Wd.of ((Kp.refl _ _).drew)) rfl rfl ?_; go_big_quiet_step (fail); refine wpQuiet_nil ?_)
                  iterate 4 (refine ord_pure rfl rfl ?_; go_big_quiet_step (fail); refine wpQuiet_nil ?_)
                  refine ord_sync rfl (by kernel_rfl) (fun K hK => ?_)
                  go_wp2_with fail
                  refine ord_end ?_
                  go_wp2_with fail
                  obtain ⟨h1, h2⟩ := HFIN.out wr.drew _ HN5.out.drew HK5.out.drew HV.out
                  have H1 := Lib.hid h1
                  have H2 := Lib.hid h2
                  clear h1 h2
                  go_roundg (K.length + 1 - (d + 1 + 1))
                  case measure => have := Hc.out; omega
                  case rel => exact ⟨d + 1 + 1, by omega, by go_num, H1.out, H2.out⟩
            · obtain rfl : c = 0 := by omega
              have HV : Hid (false = row P K (i + 1) 0) := (row_word0 P K i hlt hh).symm
              clear hh hc0 fin hN hk5 hR
              generalize P[i] = x at *
              go_wp2_with fail
              refine wp_region_ord (.mov 0 (.mov 1 (.mov 2 (.mov 3 (.mov 4 (.mov 5 (.mov 6 (.mov 7 (.mov 8 (.mov 9 (.mov 10 (.mov 11 (.mov 12 (.mov 13 (.mov 14 (.mov 15 (.mov 16 (.mov 17 (.mov 18 (.mov 19 (.mov 20 (.mov 21 (.mov 22 (.mov 23 (.mov 24 (.mov 25 (.mov 26 (.mov 27 (.mov 28 (.mov 29 (.mov 30 (.eff 31 .fin)))))))))))))))))))))))))))))))) ?_ ?_ ?_ ?_
              · kernel_rfl
              · kernel_rfl
              · exact fun _ _ _ _ h => h
              iterate 9 (refine ord_pure rfl rfl ?_; go_big_quiet_step (fail); refine wpQuiet_nil ?_)
              iterate 1 (refine ord_mov (fun w' => ∃ z : Wd None' wr, w' = z.w) (Wd.of ((Kp.refl _ _).drew)) rfl rfl ?_; go_big_quiet_step (fail); refine wpQuiet_nil ?_)
              iterate 5 (refine ord_pure rfl rfl ?_; go_big_quiet_step (fail); refine wpQuiet_nil ?_)
              iterate 1 (refine ord_mov (fun w' => ∃ z : Wd None' wr, w' = z.w) (Wd.of ((Kp.refl _ _).drew)) rfl rfl ?_; go_big_quiet_step (fail); refine wpQuiet_nil ?_)
              iterate 5 (refine ord_pure rfl rfl ?_; go_big_quiet_step (fail); refine wpQuiet_nil ?_)
              iterate 1 (refine ord_mov (fun w' => ∃ z : Wd None' wr, w' = z.w) (Wd.of ((Kp.refl _ _).drew)) rfl rfl ?_; go_big_quiet_step (fail); refine wpQuiet_nil ?_)
              iterate 4 (refine ord_pure rfl rfl ?_; go_big_quiet_step (fail); refine wpQuiet_nil ?_)
              iterate 1 (refine ord_mov (fun w' => ∃ z : Wd None' wr, w' = z.w) (Wd.of ((Kp.refl _ _).drew)) rfl rfl ?_; go_big_quiet_step (fail); refine wpQuiet_nil ?_)
              iterate 4 (refine ord_pure rfl rfl ?_; go_big_quiet_step (fail); refine wpQuiet_nil ?_)
              refine ord_sync rfl (by kernel_rfl) (fun K hK => ?_)
              go_wp2_with fail
              refine ord_end ?_
              go_wp2_with fail
              obtain ⟨h1, h2⟩ := HFIN.out wr.drew _ HN5.out.drew HK5.out.drew HV.out
              have H1 := Lib.hid h1
              have H2 := Lib.hid h2
              clear h1 h2
              go_roundg (K.length + 1 - (0 + 1))
              case measure => have := Hc.out; omega
              case rel => exact ⟨0 + 1, by omega, by go_num, H1.out, H2.out⟩
        · obtain rfl : c = K.length + 1 := by omega
          have HN5 := Lib.hid (bArr_lt hN)
          have Hb5 := Lib.hid hb5
          have HN := Lib.hid hN
          have Hk5 := Lib.hid hk5
          clear hb5 hN hk5
          go_wp2_with fail
          go_roundg (P.length - (i + 1))
          case measure => have := Hi.out; omega
          case rel => exact ⟨i + 1, wo.heap.size, by omega, by go_num, rfl, HN5.out, Hb5.out⟩
    · obtain rfl : i = P.length := by have := Hi.out; omega
      have q0 := HB.out.bget (i := K.length) (by omega)
      rw [row_end] at q0
      go_wp2_with fail
      go_ret
      exact ⟨by rw [HM.out]; rfl, Hb.out.trans (Hb2.out.mono Hb.out.size)⟩
end Go.Proofs.YthaoplcmkaaflaaDoor
