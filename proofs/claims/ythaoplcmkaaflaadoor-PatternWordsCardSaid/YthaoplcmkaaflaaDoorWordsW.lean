import Derived.Test.YthaoplcmkaaflaaDoorLaw10
import Derived.Test.YthaoplcmkaaflaaDoorWordsP
namespace Go.Proofs.YthaoplcmkaaflaaDoor
open Go.RowKit

/-- is a bit set? (as the walk spells it) -/
def bt16 (x : Int) (j : Nat) : Bool := bits .and .u16 (x / 2 ^ j) 1 == 1

theorem pw_out (A : Option Addr) (n c : Nat) (x y z : Int) (w : World) (hn : n = 0 ∨ 8 < n) (hm : n ≤ maxLen) :
    Calls Tryd.prog 4 #[.slice A n c, .int .u16 x, .int .u8 y, .int .u8 z] w fun e w' => e = .returned (.bool true) ∧ Below w.heap.size w w' := by
  unfold maxLen at hm
  rcases hn with rfl | hn
  · go_enter Tryd.func4, Tryd.ntmps4
    go_wp2_with fail
    refine (known10 w).mono ?_
    rintro e w0 ⟨rfl, hb0⟩
    go_wp2
    go_ret
    exact ⟨rfl, hb0⟩
  · have h0 : ((n : Int) == 0) = false := by rw [beq_eq_false_iff_ne]; omega
    go_enter Tryd.func4, Tryd.ntmps4
    go_wp2_with fail
    refine (known10 w).mono ?_
    rintro e w0 ⟨rfl, hb0⟩
    go_wp2
    go_ret
    exact ⟨rfl, hb0⟩

set_option linter.unusedSimpArgs false
set_option maxRecDepth 100000 in
set_option maxHeartbeats 16000000 in
theorem pw_walk (A : Option Addr) (c : Nat) (l : List ByteArray) (x y z : Int) (w : World) (_ : 0 ≤ x ∧ x < 65536) (hy : 0 ≤ y ∧ y < 256) (hz : 0 ≤ z ∧ z < 256) (hl : 1 ≤ l.length ∧ l.length ≤ 8) (hr : Rd w 1 A l.length (Strs l))
    (hs : ∀ s ∈ l, s.size ≤ maxLen) :
    Calls Tryd.prog 4 #[.slice A l.length c, .int .u16 x, .int .u8 y, .int .u8 z] w fun e w' => e = .returned (.bool true) ∧ Below w.heap.size w w' := by
  obtain ⟨a, ha⟩ : ∃ J : Nat, y % (l.length : Int) = (J : Int) := ⟨(y % (l.length : Int)).toNat, by rw [Int.toNat_of_nonneg]; exact Int.emod_nonneg _ (by omega)⟩
  obtain ⟨b, hb⟩ : ∃ J : Nat, z % ((l.length : Int) + 1) = (J : Int) := ⟨(z % ((l.length : Int) + 1)).toNat, by rw [Int.toNat_of_nonneg]; exact Int.emod_nonneg _ (by omega)⟩
  have hal : a < l.length := by have := Int.emod_lt_of_pos y (show 0 < (l.length : Int) by omega); omega
  have hbl : b ≤ l.length := by have := Int.emod_lt_of_pos z (show 0 < (l.length : Int) + 1 by omega); omega
  have HA := Lib.hid ha
  have HB := Lib.hid hb
  have h0 : ((l.length : Int) == 0) = false := by rw [beq_eq_false_iff_ne]; omega
  have Hr := Lib.hid hr
  have Hs := Lib.hid hs
  clear hr hs
  clear ha hb
  go_enter Tryd.func4, Tryd.ntmps4
  go_wp2_with fail
  refine (known10 w).mono ?_
  rintro e w0 ⟨rfl, hb0⟩
  have HR := Lib.hid (Hr.out.below hb0)
  have Hb0 := Lib.hid hb0
  clear hb0
  have ha := HA.out
  have hb := HB.out
  go_wp2_with fail
  go_quiet (fail)
  go_wp2_with fail
  clear ha hb h0
  rw [HA.out, HB.out]
  have HR1 := Lib.hid (rd_drewN HR.out nq)
  have HB1 := Lib.hid (blw_drewN Hb0.out nq)
  clear HR Hr Hb0
  generalize w0.drewN nq = w1 at *
  obtain ⟨c2, hc2⟩ : ∃ c2, c2 = max (a + 1) b := ⟨_, rfl⟩
  have hc21 : a < c2 ∧ b ≤ c2 ∧ c2 ≤ l.length ∧ (c2 = a + 1 ∨ c2 = b) := by omega
  clear hc2
  obtain ⟨SP, hSP⟩ : ∃ SP, SP = l.zipIdx.map fun q => if bt16 x q.2 then star else q.1 := ⟨_, rfl⟩
  obtain ⟨OL, hOL⟩ : ∃ OL, OL = l.set a (l[a] ++ ⟨#[120]⟩) := ⟨_, rfl⟩
  have hSl : SP.length = l.length := by rw [hSP]; simp
  have hOl : OL.length = l.length := by rw [hOL]; simp
  have HSP := Lib.hid hSP
  have HOL := Lib.hid hOL
  have HSl := Lib.hid hSl
  have HOl := Lib.hid hOl
  clear hSP hOL hSl hOl
  go_loopg [9, 10, 11, 14, 15] (l.length) (fun g sk sp so sh si wr => ∃ (i : Nat) (k p o h : ByteArray), i + g = l.length ∧ si = .int .i64 i ∧ sk = .string k ∧ sp = .string p ∧ so = .string o ∧ sh = .string h ∧
    k.size ≤ 8 * i ∧ p.size ≤ 8 * i ∧ o.size ≤ 8 * i ∧ h.size ≤ 8 * i ∧ (∀ j (hj : j < l.length), j < i → noDot l[j] ∧ l[j] ≠ star ∧ l[j] ≠ hash) ∧ Tog k (l.take i) ∧ Tog p (SP.take i) ∧ Tog o (OL.take i) ∧ Dots h (pcs l a c2 i) ∧ wr = w1)
  case atStart => exact ⟨0, ⟨#[]⟩, ⟨#[]⟩, ⟨#[]⟩, ⟨#[]⟩, by omega, rfl, rfl, rfl, rfl, rfl, by decide, by decide, by decide, by decide, fun j _ h => absurd h (by omega), .inl ⟨by simp, rfl⟩, .inl ⟨by simp, rfl⟩, .inl ⟨by simp, rfl⟩, .inl ⟨pcs_zero _ _ _, rfl⟩, rfl⟩
  case round =>
    obtain ⟨i, k, p, o, h, hi, rfl, rfl, rfl, rfl, rfl, hk8, hp8, ho8, hh8, hno, hk, hp, ho, hh, rfl⟩ := hrel
    have Hi := Lib.hid hi
    have Hno := Lib.hid hno
    have Hk := Lib.hid hk
    have Hp := Lib.hid hp
    have Ho := Lib.hid ho
    have Hh := Lib.hid hh
    clear hi hno hk hp ho hh
    by_cases hlt : i < l.length
    · obtain ⟨rb, ro, rfl, hrc⟩ := strs_at HR1.out hlt
      obtain ⟨s, hs⟩ : ∃ s, s = l[i] := ⟨_, rfl⟩
      have hsz : s.size ≤ maxLen := by rw [hs]; exact Hs.out _ (List.getElem_mem hlt)
      unfold maxLen at hsz
      rw [← hs] at hrc
      have HS := Lib.hid hs
      clear hs
      go_wp2_with fail
      go_loopg [17] (s.size) (fun g sj wq => ∃ j : Nat, j + g = s.size ∧ sj = .int .i64 j ∧ (∀ q (hq : q < s.data.toList.length), q < j → s.data.toList[q] ≠ 46) ∧ wq = wr)
      case atStart => exact ⟨0, by omega, rfl, fun q _ h => absurd h (by omega), rfl⟩
      case round =>
        obtain ⟨j, hj, rfl, hnd, rfl⟩ := hrel
        have Hj := Lib.hid hj
        have Hnd := Lib.hid hnd
        clear hj hnd
        by_cases hjs : j < s.size
        · have hl' : j < s.data.toList.length := hjs
          by_cases h46 : s.data.toList[j] = 46
          · have hx : ((s[j].toNat : Int) == 46) = true := by
              have : s[j] = 46 := h46
              rw [this]; rfl
            clear h46
            go_wp2_with fail
            go_ret
            exact ⟨rfl, HB1.out⟩
          · have hx : ((s[j].toNat : Int) == 46) = false := by
              rw [beq_eq_false_iff_ne]
              intro e
              apply h46
              apply UInt8.toNat_inj.1
              have : s[j].toNat = 46 := by omega
              exact this
            have HN : Hid (∀ q (hq : q < s.data.toList.length), q < j + 1 → s.data.toList[q] ≠ 46) := fun q hq hqj => by
              rcases Nat.lt_or_ge q j with h | h
              · exact Hnd.out q hq h
              · obtain rfl : q = j := by omega
                exact h46
            clear h46
            go_wp2_with fail
            go_roundg (s.size - (j + 1))
            case measure => have := Hj.out; omega
            case rel => exact ⟨j + 1, by omega, by go_num, HN.out, rfl⟩
        · have HD : Hid (noDot s) := fun hm => by
            obtain ⟨q, hq, e⟩ := List.getElem_of_mem hm
            exact Hnd.out q hq (by have : q < s.size := hq; omega) e
          clear Hnd Hj
          by_cases h6 : s.size ≤ 6
          · by_cases hst : s = star
            · have e1 := t42 hst
              clear hst
              go_wp2_with fail
              go_ret
              exact ⟨rfl, HB1.out⟩
            · by_cases hha : s = hash
              · have e1 := f42 hst
                have e2 := t35 hha
                clear hst hha
                go_wp2_with fail
                go_ret
                exact ⟨rfl, HB1.out⟩
              · have e1 := f42 hst
                have e2 := f35 hha
                have HPL : Hid (s ≠ star ∧ s ≠ hash) := ⟨hst, hha⟩
                clear hst hha
                have HT1 : Hid (l.take (i + 1) = l.take i ++ [s]) := by unfold Hid; rw [List.take_succ_eq_append_getElem hlt, HS.out]
                have HT2 : Hid (SP.take (i + 1) = SP.take i ++ [if bt16 x i then star else s]) := by
                  unfold Hid
                  rw [List.take_succ_eq_append_getElem (by rw [HSl.out]; exact hlt), HS.out]
                  congr 2
                  simp [HSP.out]
                have HT3 : Hid (OL.take (i + 1) = OL.take i ++ [if i = a then s ++ ⟨#[120]⟩ else s]) := by
                  unfold Hid
                  rw [List.take_succ_eq_append_getElem (by rw [HOl.out]; exact hlt), HS.out]
                  congr 2
                  simp only [HOL.out]
                  rw [List.getElem_set]
                  by_cases h : a = i
                  · subst h; simp
                  · rw [if_neg h, if_neg (fun e => h e.symm)]
                have HNX : Hid (∀ j (hj : j < l.length), j < i + 1 → noDot l[j] ∧ l[j] ≠ star ∧ l[j] ≠ hash) := fun j hj hji => by
                  rcases Nat.lt_or_ge j i with h | h
                  · exact Hno.out j hj h
                  · obtain rfl : j = i := by omega
                    rw [← HS.out]; exact ⟨HD.out, HPL.out⟩
                have hx1 : (s ++ (⟨#[120]⟩ : ByteArray)).size = s.size + 1 := by rw [ByteArray.size_append]; rfl
                have HX1 := Lib.hid hx1
                clear hx1
                by_cases h0 : 0 < i
                · have E1 : Hid (l.take i ≠ []) := fun e => by have := congrArg List.length e; rw [List.length_take, List.length_nil] at this; omega
                  have E2 : Hid (SP.take i ≠ []) := fun e => by have := congrArg List.length e; rw [List.length_take, HSl.out, List.length_nil] at this; omega
                  have E3 : Hid (OL.take i ≠ []) := fun e => by have := congrArg List.length e; rw [List.length_take, HOl.out, List.length_nil] at this; omega
                  cases hb : bt16 x i with
                  | true =>
                    have hb' : (bits BinOp.and IntKind.u16 (x / 2 ^ i) 1 == 1) = true := hb
                    have HBT : Hid ((if bt16 x i = true then star else s) = star) := by unfold Hid; rw [hb]; rfl
                    clear hb
                    by_cases hia : i < a
                    · have hia2 : ((i : Int) == (a : Int)) = false := by rw [beq_eq_false_iff_ne]; omega
                      have N1 : Hid (Tog ((k ++ ⟨#[46]⟩) ++ s) (l.take (i + 1))) := by
                        unfold Hid
                        rw [HT1.out]
                        exact (Tog.step Hk.out HD.out).1 E1.out
                      have N2 : Hid (Tog ((p ++ ⟨#[46]⟩) ++ ⟨#[42]⟩) (SP.take (i + 1))) := by
                        unfold Hid
                        rw [HT2.out, HBT.out]
                        exact (Tog.step Hp.out noDot_star).1 E2.out
                      have N3 : Hid (Tog ((o ++ ⟨#[46]⟩) ++ s) (OL.take (i + 1))) := by
                        unfold Hid
                        rw [HT3.out, if_neg (by omega)]
                        exact (Tog.step Ho.out HD.out).1 E3.out
                      have N4 : Hid (Dots ((h ++ s) ++ ⟨#[46]⟩) (pcs l a c2 (i + 1))) := by
                        unfold Hid
                        rw [pcs_low (by omega) hlt, ← HS.out]
                        exact Hh.out.add HD.out
                      have Zk : Hid (((k ++ ⟨#[46]⟩) ++ s).size ≤ 8 * (i + 1)) := by unfold Hid; (try simp only [ByteArray.size_append, sz1, sz2, sz35]); omega
                      have Zp : Hid (((p ++ ⟨#[46]⟩) ++ ⟨#[42]⟩).size ≤ 8 * (i + 1)) := by unfold Hid; (try simp only [ByteArray.size_append, sz1, sz2, sz35]); omega
                      have Zo : Hid (((o ++ ⟨#[46]⟩) ++ s).size ≤ 8 * (i + 1)) := by unfold Hid; (try simp only [ByteArray.size_append, sz1, sz2, sz35]); omega
                      have Zh : Hid (((h ++ s) ++ ⟨#[46]⟩).size ≤ 8 * (i + 1)) := by unfold Hid; (try simp only [ByteArray.size_append, sz1, sz2, sz35]); omega
                      go_wp2_with fail
                      all_goals
                        go_roundg (l.length - (i + 1))
                        case measure => have := Hi.out; omega
                        case rel => exact ⟨i + 1, _, _, _, _, by omega, by go_num, rfl, rfl, rfl, rfl, Zk.out, Zp.out, Zo.out, Zh.out, HNX.out, N1.out, N2.out, N3.out, N4.out, rfl⟩
                    · by_cases hie : i = a
                      · have hia2 : ((i : Int) == (a : Int)) = true := by rw [beq_iff_eq]; omega
                        have hil : i ≤ a ∧ a ≤ i := by omega
                        clear hie
                        have N1 : Hid (Tog ((k ++ ⟨#[46]⟩) ++ s) (l.take (i + 1))) := by
                          unfold Hid
                          rw [HT1.out]
                          exact (Tog.step Hk.out HD.out).1 E1.out
                        have N2 : Hid (Tog ((p ++ ⟨#[46]⟩) ++ ⟨#[42]⟩) (SP.take (i + 1))) := by
                          unfold Hid
                          rw [HT2.out, HBT.out]
                          exact (Tog.step Hp.out noDot_star).1 E2.out
                        have N3 : Hid (Tog ((o ++ ⟨#[46]⟩) ++ (s ++ ⟨#[120]⟩)) (OL.take (i + 1))) := by
                          unfold Hid
                          rw [HT3.out, if_pos (by omega)]
                          exact (Tog.step Ho.out (noDot_app HD.out noDot_x)).1 E3.out
                        have N4 : Hid (Dots (h ++ ⟨#[35, 46]⟩) (pcs l a c2 (i + 1))) := by
                          unfold Hid
                          obtain rfl : i = a := by omega
                          rw [pcs_at (by omega) hlt]
                          have := Hh.out.add noDot_hash
                          rw [ByteArray.append_assoc] at this
                          exact this
                        have Zk : Hid (((k ++ ⟨#[46]⟩) ++ s).size ≤ 8 * (i + 1)) := by unfold Hid; (try simp only [ByteArray.size_append, sz1, sz2, sz35]); omega
                        have Zp : Hid (((p ++ ⟨#[46]⟩) ++ ⟨#[42]⟩).size ≤ 8 * (i + 1)) := by unfold Hid; (try simp only [ByteArray.size_append, sz1, sz2, sz35]); omega
                        have Zo : Hid (((o ++ ⟨#[46]⟩) ++ (s ++ ⟨#[120]⟩)).size ≤ 8 * (i + 1)) := by unfold Hid; (try simp only [ByteArray.size_append, sz1, sz2, sz35]); omega
                        have Zh : Hid ((h ++ ⟨#[35, 46]⟩).size ≤ 8 * (i + 1)) := by unfold Hid; (try simp only [ByteArray.size_append, sz1, sz2, sz35]); omega
                        go_wp2_with fail
                        all_goals
                          go_roundg (l.length - (i + 1))
                          case measure => have := Hi.out; omega
                          case rel => exact ⟨i + 1, _, _, _, _, by omega, by go_num, rfl, rfl, rfl, rfl, Zk.out, Zp.out, Zo.out, Zh.out, HNX.out, N1.out, N2.out, N3.out, N4.out, rfl⟩
                      · have hia2 : ((i : Int) == (a : Int)) = false := by rw [beq_eq_false_iff_ne]; omega
                        have hil : a < i := by omega
                        clear hie
                        by_cases hib : i < b
                        · have hic : i < c2 := by omega
                          have N1 : Hid (Tog ((k ++ ⟨#[46]⟩) ++ s) (l.take (i + 1))) := by
                            unfold Hid
                            rw [HT1.out]
                            exact (Tog.step Hk.out HD.out).1 E1.out
                          have N2 : Hid (Tog ((p ++ ⟨#[46]⟩) ++ ⟨#[42]⟩) (SP.take (i + 1))) := by
                            unfold Hid
                            rw [HT2.out, HBT.out]
                            exact (Tog.step Hp.out noDot_star).1 E2.out
                          have N3 : Hid (Tog ((o ++ ⟨#[46]⟩) ++ s) (OL.take (i + 1))) := by
                            unfold Hid
                            rw [HT3.out, if_neg (by omega)]
                            exact (Tog.step Ho.out HD.out).1 E3.out
                          have N4 : Hid (Dots h (pcs l a c2 (i + 1))) := by
                            unfold Hid
                            rw [pcs_none (by omega) (by omega) hlt]
                            exact Hh.out
                          have Zk : Hid (((k ++ ⟨#[46]⟩) ++ s).size ≤ 8 * (i + 1)) := by unfold Hid; (try simp only [ByteArray.size_append, sz1, sz2, sz35]); omega
                          have Zp : Hid (((p ++ ⟨#[46]⟩) ++ ⟨#[42]⟩).size ≤ 8 * (i + 1)) := by unfold Hid; (try simp only [ByteArray.size_append, sz1, sz2, sz35]); omega
                          have Zo : Hid (((o ++ ⟨#[46]⟩) ++ s).size ≤ 8 * (i + 1)) := by unfold Hid; (try simp only [ByteArray.size_append, sz1, sz2, sz35]); omega
                          have Zh : Hid (h.size ≤ 8 * (i + 1)) := by unfold Hid; (try simp only [ByteArray.size_append, sz1, sz2, sz35]); omega
                          go_wp2_with fail
                          all_goals
                            go_roundg (l.length - (i + 1))
                            case measure => have := Hi.out; omega
                            case rel => exact ⟨i + 1, _, _, _, _, by omega, by go_num, rfl, rfl, rfl, rfl, Zk.out, Zp.out, Zo.out, Zh.out, HNX.out, N1.out, N2.out, N3.out, N4.out, rfl⟩
                        · have hic : c2 ≤ i := by omega
                          have N1 : Hid (Tog ((k ++ ⟨#[46]⟩) ++ s) (l.take (i + 1))) := by
                            unfold Hid
                            rw [HT1.out]
                            exact (Tog.step Hk.out HD.out).1 E1.out
                          have N2 : Hid (Tog ((p ++ ⟨#[46]⟩) ++ ⟨#[42]⟩) (SP.take (i + 1))) := by
                            unfold Hid
                            rw [HT2.out, HBT.out]
                            exact (Tog.step Hp.out noDot_star).1 E2.out
                          have N3 : Hid (Tog ((o ++ ⟨#[46]⟩) ++ s) (OL.take (i + 1))) := by
                            unfold Hid
                            rw [HT3.out, if_neg (by omega)]
                            exact (Tog.step Ho.out HD.out).1 E3.out
                          have N4 : Hid (Dots ((h ++ s) ++ ⟨#[46]⟩) (pcs l a c2 (i + 1))) := by
                            unfold Hid
                            rw [pcs_high (by omega) (by omega) hlt, ← HS.out]
                            exact Hh.out.add HD.out
                          have Zk : Hid (((k ++ ⟨#[46]⟩) ++ s).size ≤ 8 * (i + 1)) := by unfold Hid; (try simp only [ByteArray.size_append, sz1, sz2, sz35]); omega
                          have Zp : Hid (((p ++ ⟨#[46]⟩) ++ ⟨#[42]⟩).size ≤ 8 * (i + 1)) := by unfold Hid; (try simp only [ByteArray.size_append, sz1, sz2, sz35]); omega
                          have Zo : Hid (((o ++ ⟨#[46]⟩) ++ s).size ≤ 8 * (i + 1)) := by unfold Hid; (try simp only [ByteArray.size_append, sz1, sz2, sz35]); omega
                          have Zh : Hid (((h ++ s) ++ ⟨#[46]⟩).size ≤ 8 * (i + 1)) := by unfold Hid; (try simp only [ByteArray.size_append, sz1, sz2, sz35]); omega
                          go_wp2_with fail
                          all_goals
                            go_roundg (l.length - (i + 1))
                            case measure => have := Hi.out; omega
                            case rel => exact ⟨i + 1, _, _, _, _, by omega, by go_num, rfl, rfl, rfl, rfl, Zk.out, Zp.out, Zo.out, Zh.out, HNX.out, N1.out, N2.out, N3.out, N4.out, rfl⟩
                  | false =>
                    have hb' : (bits BinOp.and IntKind.u16 (x / 2 ^ i) 1 == 1) = false := hb
                    have HBT : Hid ((if bt16 x i = true then star else s) = s) := by unfold Hid; rw [hb]; rfl
                    clear hb
                    by_cases hia : i < a
                    · have hia2 : ((i : Int) == (a : Int)) = false := by rw [beq_eq_false_iff_ne]; omega
                      have N1 : Hid (Tog ((k ++ ⟨#[46]⟩) ++ s) (l.take (i + 1))) := by
                        unfold Hid
                        rw [HT1.out]
                        exact (Tog.step Hk.out HD.out).1 E1.out
                      have N2 : Hid (Tog ((p ++ ⟨#[46]⟩) ++ s) (SP.take (i + 1))) := by
                        unfold Hid
                        rw [HT2.out, HBT.out]
                        exact (Tog.step Hp.out HD.out).1 E2.out
                      have N3 : Hid (Tog ((o ++ ⟨#[46]⟩) ++ s) (OL.take (i + 1))) := by
                        unfold Hid
                        rw [HT3.out, if_neg (by omega)]
                        exact (Tog.step Ho.out HD.out).1 E3.out
                      have N4 : Hid (Dots ((h ++ s) ++ ⟨#[46]⟩) (pcs l a c2 (i + 1))) := by
                        unfold Hid
                        rw [pcs_low (by omega) hlt, ← HS.out]
                        exact Hh.out.add HD.out
                      have Zk : Hid (((k ++ ⟨#[46]⟩) ++ s).size ≤ 8 * (i + 1)) := by unfold Hid; (try simp only [ByteArray.size_append, sz1, sz2, sz35]); omega
                      have Zp : Hid (((p ++ ⟨#[46]⟩) ++ s).size ≤ 8 * (i + 1)) := by unfold Hid; (try simp only [ByteArray.size_append, sz1, sz2, sz35]); omega
                      have Zo : Hid (((o ++ ⟨#[46]⟩) ++ s).size ≤ 8 * (i + 1)) := by unfold Hid; (try simp only [ByteArray.size_append, sz1, sz2, sz35]); omega
                      have Zh : Hid (((h ++ s) ++ ⟨#[46]⟩).size ≤ 8 * (i + 1)) := by unfold Hid; (try simp only [ByteArray.size_append, sz1, sz2, sz35]); omega
                      go_wp2_with fail
                      all_goals
                        go_roundg (l.length - (i + 1))
                        case measure => have := Hi.out; omega
                        case rel => exact ⟨i + 1, _, _, _, _, by omega, by go_num, rfl, rfl, rfl, rfl, Zk.out, Zp.out, Zo.out, Zh.out, HNX.out, N1.out, N2.out, N3.out, N4.out, rfl⟩
                    · by_cases hie : i = a
                      · have hia2 : ((i : Int) == (a : Int)) = true := by rw [beq_iff_eq]; omega
                        have hil : i ≤ a ∧ a ≤ i := by omega
                        clear hie
                        have N1 : Hid (Tog ((k ++ ⟨#[46]⟩) ++ s) (l.take (i + 1))) := by
                          unfold Hid
                          rw [HT1.out]
                          exact (Tog.step Hk.out HD.out).1 E1.out
                        have N2 : Hid (Tog ((p ++ ⟨#[46]⟩) ++ s) (SP.take (i + 1))) := by
                          unfold Hid
                          rw [HT2.out, HBT.out]
                          exact (Tog.step Hp.out HD.out).1 E2.out
                        have N3 : Hid (Tog ((o ++ ⟨#[46]⟩) ++ (s ++ ⟨#[120]⟩)) (OL.take (i + 1))) := by
                          unfold Hid
                          rw [HT3.out, if_pos (by omega)]
                          exact (Tog.step Ho.out (noDot_app HD.out noDot_x)).1 E3.out
                        have N4 : Hid (Dots (h ++ ⟨#[35, 46]⟩) (pcs l a c2 (i + 1))) := by
                          unfold Hid
                          obtain rfl : i = a := by omega
                          rw [pcs_at (by omega) hlt]
                          have := Hh.out.add noDot_hash
                          rw [ByteArray.append_assoc] at this
                          exact this
                        have Zk : Hid (((k ++ ⟨#[46]⟩) ++ s).size ≤ 8 * (i + 1)) := by unfold Hid; (try simp only [ByteArray.size_append, sz1, sz2, sz35]); omega
                        have Zp : Hid (((p ++ ⟨#[46]⟩) ++ s).size ≤ 8 * (i + 1)) := by unfold Hid; (try simp only [ByteArray.size_append, sz1, sz2, sz35]); omega
                        have Zo : Hid (((o ++ ⟨#[46]⟩) ++ (s ++ ⟨#[120]⟩)).size ≤ 8 * (i + 1)) := by unfold Hid; (try simp only [ByteArray.size_append, sz1, sz2, sz35]); omega
                        have Zh : Hid ((h ++ ⟨#[35, 46]⟩).size ≤ 8 * (i + 1)) := by unfold Hid; (try simp only [ByteArray.size_append, sz1, sz2, sz35]); omega
                        go_wp2_with fail
                        all_goals
                          go_roundg (l.length - (i + 1))
                          case measure => have := Hi.out; omega
                          case rel => exact ⟨i + 1, _, _, _, _, by omega, by go_num, rfl, rfl, rfl, rfl, Zk.out, Zp.out, Zo.out, Zh.out, HNX.out, N1.out, N2.out, N3.out, N4.out, rfl⟩
                      · have hia2 : ((i : Int) == (a : Int)) = false := by rw [beq_eq_false_iff_ne]; omega
                        have hil : a < i := by omega
                        clear hie
                        by_cases hib : i < b
                        · have hic : i < c2 := by omega
                          have N1 : Hid (Tog ((k ++ ⟨#[46]⟩) ++ s) (l.take (i + 1))) := by
                            unfold Hid
                            rw [HT1.out]
                            exact (Tog.step Hk.out HD.out).1 E1.out
                          have N2 : Hid (Tog ((p ++ ⟨#[46]⟩) ++ s) (SP.take (i + 1))) := by
                            unfold Hid
                            rw [HT2.out, HBT.out]
                            exact (Tog.step Hp.out HD.out).1 E2.out
                          have N3 : Hid (Tog ((o ++ ⟨#[46]⟩) ++ s) (OL.take (i + 1))) := by
                            unfold Hid
                            rw [HT3.out, if_neg (by omega)]
                            exact (Tog.step Ho.out HD.out).1 E3.out
                          have N4 : Hid (Dots h (pcs l a c2 (i + 1))) := by
                            unfold Hid
                            rw [pcs_none (by omega) (by omega) hlt]
                            exact Hh.out
                          have Zk : Hid (((k ++ ⟨#[46]⟩) ++ s).size ≤ 8 * (i + 1)) := by unfold Hid; (try simp only [ByteArray.size_append, sz1, sz2, sz35]); omega
                          have Zp : Hid (((p ++ ⟨#[46]⟩) ++ s).size ≤ 8 * (i + 1)) := by unfold Hid; (try simp only [ByteArray.size_append, sz1, sz2, sz35]); omega
                          have Zo : Hid (((o ++ ⟨#[46]⟩) ++ s).size ≤ 8 * (i + 1)) := by unfold Hid; (try simp only [ByteArray.size_append, sz1, sz2, sz35]); omega
                          have Zh : Hid (h.size ≤ 8 * (i + 1)) := by unfold Hid; (try simp only [ByteArray.size_append, sz1, sz2, sz35]); omega
                          go_wp2_with fail
                          all_goals
                            go_roundg (l.length - (i + 1))
                            case measure => have := Hi.out; omega
                            case rel => exact ⟨i + 1, _, _, _, _, by omega, by go_num, rfl, rfl, rfl, rfl, Zk.out, Zp.out, Zo.out, Zh.out, HNX.out, N1.out, N2.out, N3.out, N4.out, rfl⟩
                        · have hic : c2 ≤ i := by omega
                          have N1 : Hid (Tog ((k ++ ⟨#[46]⟩) ++ s) (l.take (i + 1))) := by
                            unfold Hid
                            rw [HT1.out]
                            exact (Tog.step Hk.out HD.out).1 E1.out
                          have N2 : Hid (Tog ((p ++ ⟨#[46]⟩) ++ s) (SP.take (i + 1))) := by
                            unfold Hid
                            rw [HT2.out, HBT.out]
                            exact (Tog.step Hp.out HD.out).1 E2.out
                          have N3 : Hid (Tog ((o ++ ⟨#[46]⟩) ++ s) (OL.take (i + 1))) := by
                            unfold Hid
                            rw [HT3.out, if_neg (by omega)]
                            exact (Tog.step Ho.out HD.out).1 E3.out
                          have N4 : Hid (Dots ((h ++ s) ++ ⟨#[46]⟩) (pcs l a c2 (i + 1))) := by
                            unfold Hid
                            rw [pcs_high (by omega) (by omega) hlt, ← HS.out]
                            exact Hh.out.add HD.out
                          have Zk : Hid (((k ++ ⟨#[46]⟩) ++ s).size ≤ 8 * (i + 1)) := by unfold Hid; (try simp only [ByteArray.size_append, sz1, sz2, sz35]); omega
                          have Zp : Hid (((p ++ ⟨#[46]⟩) ++ s).size ≤ 8 * (i + 1)) := by unfold Hid; (try simp only [ByteArray.size_append, sz1, sz2, sz35]); omega
                          have Zo : Hid (((o ++ ⟨#[46]⟩) ++ s).size ≤ 8 * (i + 1)) := by unfold Hid; (try simp only [ByteArray.size_append, sz1, sz2, sz35]); omega
                          have Zh : Hid (((h ++ s) ++ ⟨#[46]⟩).size ≤ 8 * (i + 1)) := by unfold Hid; (try simp only [ByteArray.size_append, sz1, sz2, sz35]); omega
                          go_wp2_with fail
                          all_goals
                            go_roundg (l.length - (i + 1))
                            case measure => have := Hi.out; omega
                            case rel => exact ⟨i + 1, _, _, _, _, by omega, by go_num, rfl, rfl, rfl, rfl, Zk.out, Zp.out, Zo.out, Zh.out, HNX.out, N1.out, N2.out, N3.out, N4.out, rfl⟩
                · have hi0 : i ≤ 0 := by omega
                  have E1 : Hid (l.take i = []) := by unfold Hid; rw [show i = 0 by omega]; rfl
                  have E2 : Hid (SP.take i = []) := by unfold Hid; rw [show i = 0 by omega]; rfl
                  have E3 : Hid (OL.take i = []) := by unfold Hid; rw [show i = 0 by omega]; rfl
                  clear h0
                  cases hb : bt16 x i with
                  | true =>
                    have hb' : (bits BinOp.and IntKind.u16 (x / 2 ^ i) 1 == 1) = true := hb
                    have HBT : Hid ((if bt16 x i = true then star else s) = star) := by unfold Hid; rw [hb]; rfl
                    clear hb
                    by_cases hia : i < a
                    · have hia2 : ((i : Int) == (a : Int)) = false := by rw [beq_eq_false_iff_ne]; omega
                      have N1 : Hid (Tog (k ++ s) (l.take (i + 1))) := by
                        unfold Hid
                        rw [HT1.out]
                        exact (Tog.step Hk.out HD.out).2 E1.out
                      have N2 : Hid (Tog (p ++ ⟨#[42]⟩) (SP.take (i + 1))) := by
                        unfold Hid
                        rw [HT2.out, HBT.out]
                        exact (Tog.step Hp.out noDot_star).2 E2.out
                      have N3 : Hid (Tog (o ++ s) (OL.take (i + 1))) := by
                        unfold Hid
                        rw [HT3.out, if_neg (by omega)]
                        exact (Tog.step Ho.out HD.out).2 E3.out
                      have N4 : Hid (Dots ((h ++ s) ++ ⟨#[46]⟩) (pcs l a c2 (i + 1))) := by
                        unfold Hid
                        rw [pcs_low (by omega) hlt, ← HS.out]
                        exact Hh.out.add HD.out
                      have Zk : Hid ((k ++ s).size ≤ 8 * (i + 1)) := by unfold Hid; (try simp only [ByteArray.size_append, sz1, sz2, sz35]); omega
                      have Zp : Hid ((p ++ ⟨#[42]⟩).size ≤ 8 * (i + 1)) := by unfold Hid; (try simp only [ByteArray.size_append, sz1, sz2, sz35]); omega
                      have Zo : Hid ((o ++ s).size ≤ 8 * (i + 1)) := by unfold Hid; (try simp only [ByteArray.size_append, sz1, sz2, sz35]); omega
                      have Zh : Hid (((h ++ s) ++ ⟨#[46]⟩).size ≤ 8 * (i + 1)) := by unfold Hid; (try simp only [ByteArray.size_append, sz1, sz2, sz35]); omega
                      go_wp2_with fail
                      all_goals
                        go_roundg (l.length - (i + 1))
                        case measure => have := Hi.out; omega
                        case rel => exact ⟨i + 1, _, _, _, _, by omega, by go_num, rfl, rfl, rfl, rfl, Zk.out, Zp.out, Zo.out, Zh.out, HNX.out, N1.out, N2.out, N3.out, N4.out, rfl⟩
                    · by_cases hie : i = a
                      · have hia2 : ((i : Int) == (a : Int)) = true := by rw [beq_iff_eq]; omega
                        have hil : i ≤ a ∧ a ≤ i := by omega
                        clear hie
                        have N1 : Hid (Tog (k ++ s) (l.take (i + 1))) := by
                          unfold Hid
                          rw [HT1.out]
                          exact (Tog.step Hk.out HD.out).2 E1.out
                        have N2 : Hid (Tog (p ++ ⟨#[42]⟩) (SP.take (i + 1))) := by
                          unfold Hid
                          rw [HT2.out, HBT.out]
                          exact (Tog.step Hp.out noDot_star).2 E2.out
                        have N3 : Hid (Tog (o ++ (s ++ ⟨#[120]⟩)) (OL.take (i + 1))) := by
                          unfold Hid
                          rw [HT3.out, if_pos (by omega)]
                          exact (Tog.step Ho.out (noDot_app HD.out noDot_x)).2 E3.out
                        have N4 : Hid (Dots (h ++ ⟨#[35, 46]⟩) (pcs l a c2 (i + 1))) := by
                          unfold Hid
                          obtain rfl : i = a := by omega
                          rw [pcs_at (by omega) hlt]
                          have := Hh.out.add noDot_hash
                          rw [ByteArray.append_assoc] at this
                          exact this
                        have Zk : Hid ((k ++ s).size ≤ 8 * (i + 1)) := by unfold Hid; (try simp only [ByteArray.size_append, sz1, sz2, sz35]); omega
                        have Zp : Hid ((p ++ ⟨#[42]⟩).size ≤ 8 * (i + 1)) := by unfold Hid; (try simp only [ByteArray.size_append, sz1, sz2, sz35]); omega
                        have Zo : Hid ((o ++ (s ++ ⟨#[120]⟩)).size ≤ 8 * (i + 1)) := by unfold Hid; (try simp only [ByteArray.size_append, sz1, sz2, sz35]); omega
                        have Zh : Hid ((h ++ ⟨#[35, 46]⟩).size ≤ 8 * (i + 1)) := by unfold Hid; (try simp only [ByteArray.size_append, sz1, sz2, sz35]); omega
                        go_wp2_with fail
                        all_goals
                          go_roundg (l.length - (i + 1))
                          case measure => have := Hi.out; omega
                          case rel => exact ⟨i + 1, _, _, _, _, by omega, by go_num, rfl, rfl, rfl, rfl, Zk.out, Zp.out, Zo.out, Zh.out, HNX.out, N1.out, N2.out, N3.out, N4.out, rfl⟩
                      · exfalso; omega
                  | false =>
                    have hb' : (bits BinOp.and IntKind.u16 (x / 2 ^ i) 1 == 1) = false := hb
                    have HBT : Hid ((if bt16 x i = true then star else s) = s) := by unfold Hid; rw [hb]; rfl
                    clear hb
                    by_cases hia : i < a
                    · have hia2 : ((i : Int) == (a : Int)) = false := by rw [beq_eq_false_iff_ne]; omega
                      have N1 : Hid (Tog (k ++ s) (l.take (i + 1))) := by
                        unfold Hid
                        rw [HT1.out]
                        exact (Tog.step Hk.out HD.out).2 E1.out
                      have N2 : Hid (Tog (p ++ s) (SP.take (i + 1))) := by
                        unfold Hid
                        rw [HT2.out, HBT.out]
                        exact (Tog.step Hp.out HD.out).2 E2.out
                      have N3 : Hid (Tog (o ++ s) (OL.take (i + 1))) := by
                        unfold Hid
                        rw [HT3.out, if_neg (by omega)]
                        exact (Tog.step Ho.out HD.out).2 E3.out
                      have N4 : Hid (Dots ((h ++ s) ++ ⟨#[46]⟩) (pcs l a c2 (i + 1))) := by
                        unfold Hid
                        rw [pcs_low (by omega) hlt, ← HS.out]
                        exact Hh.out.add HD.out
                      have Zk : Hid ((k ++ s).size ≤ 8 * (i + 1)) := by unfold Hid; (try simp only [ByteArray.size_append, sz1, sz2, sz35]); omega
                      have Zp : Hid ((p ++ s).size ≤ 8 * (i + 1)) := by unfold Hid; (try simp only [ByteArray.size_append, sz1, sz2, sz35]); omega
                      have Zo : Hid ((o ++ s).size ≤ 8 * (i + 1)) := by unfold Hid; (try simp only [ByteArray.size_append, sz1, sz2, sz35]); omega
                      have Zh : Hid (((h ++ s) ++ ⟨#[46]⟩).size ≤ 8 * (i + 1)) := by unfold Hid; (try simp only [ByteArray.size_append, sz1, sz2, sz35]); omega
                      go_wp2_with fail
                      all_goals
                        go_roundg (l.length - (i + 1))
                        case measure => have := Hi.out; omega
                        case rel => exact ⟨i + 1, _, _, _, _, by omega, by go_num, rfl, rfl, rfl, rfl, Zk.out, Zp.out, Zo.out, Zh.out, HNX.out, N1.out, N2.out, N3.out, N4.out, rfl⟩
                    · by_cases hie : i = a
                      · have hia2 : ((i : Int) == (a : Int)) = true := by rw [beq_iff_eq]; omega
                        have hil : i ≤ a ∧ a ≤ i := by omega
                        clear hie
                        have N1 : Hid (Tog (k ++ s) (l.take (i + 1))) := by
                          unfold Hid
                          rw [HT1.out]
                          exact (Tog.step Hk.out HD.out).2 E1.out
                        have N2 : Hid (Tog (p ++ s) (SP.take (i + 1))) := by
                          unfold Hid
                          rw [HT2.out, HBT.out]
                          exact (Tog.step Hp.out HD.out).2 E2.out
                        have N3 : Hid (Tog (o ++ (s ++ ⟨#[120]⟩)) (OL.take (i + 1))) := by
                          unfold Hid
                          rw [HT3.out, if_pos (by omega)]
                          exact (Tog.step Ho.out (noDot_app HD.out noDot_x)).2 E3.out
                        have N4 : Hid (Dots (h ++ ⟨#[35, 46]⟩) (pcs l a c2 (i + 1))) := by
                          unfold Hid
                          obtain rfl : i = a := by omega
                          rw [pcs_at (by omega) hlt]
                          have := Hh.out.add noDot_hash
                          rw [ByteArray.append_assoc] at this
                          exact this
                        have Zk : Hid ((k ++ s).size ≤ 8 * (i + 1)) := by unfold Hid; (try simp only [ByteArray.size_append, sz1, sz2, sz35]); omega
                        have Zp : Hid ((p ++ s).size ≤ 8 * (i + 1)) := by unfold Hid; (try simp only [ByteArray.size_append, sz1, sz2, sz35]); omega
                        have Zo : Hid ((o ++ (s ++ ⟨#[120]⟩)).size ≤ 8 * (i + 1)) := by unfold Hid; (try simp only [ByteArray.size_append, sz1, sz2, sz35]); omega
                        have Zh : Hid ((h ++ ⟨#[35, 46]⟩).size ≤ 8 * (i + 1)) := by unfold Hid; (try simp only [ByteArray.size_append, sz1, sz2, sz35]); omega
                        go_wp2_with fail
                        all_goals
                          go_roundg (l.length - (i + 1))
                          case measure => have := Hi.out; omega
                          case rel => exact ⟨i + 1, _, _, _, _, by omega, by go_num, rfl, rfl, rfl, rfl, Zk.out, Zp.out, Zo.out, Zh.out, HNX.out, N1.out, N2.out, N3.out, N4.out, rfl⟩
                      · exfalso; omega
          · go_wp2_with fail
            go_ret
            exact ⟨rfl, HB1.out⟩
    · obtain rfl : i = l.length := by have := Hi.out; omega
      have hne : l ≠ [] := fun e => by rw [e] at hl; simp at hl
      have PL : Hid (Plain l) := fun v hv => by
        obtain ⟨q, hq, rfl⟩ := List.getElem_of_mem hv
        exact (Hno.out q hq hq).2
      have Ek : Hid (words k = l) := by
        have := Hk.out
        rw [List.take_of_length_le (Nat.le_refl _)] at this
        exact this.words hne
      have Ep : Hid (words p = SP) := by
        have := Hp.out
        rw [List.take_of_length_le (by rw [HSl.out]; exact Nat.le_refl _)] at this
        exact this.words (fun e => hne (by have h1 := HSl.out; rw [e] at h1; exact List.eq_nil_of_length_eq_zero h1.symm))
      have Eo : Hid (words o = OL) := by
        have := Ho.out
        rw [List.take_of_length_le (by rw [HOl.out]; exact Nat.le_refl _)] at this
        exact this.words (fun e => hne (by have h1 := HOl.out; rw [e] at h1; exact List.eq_nil_of_length_eq_zero h1.symm))
      obtain ⟨hh1, hh2⟩ := Hh.out.cut (pcs_ne hal)
      have Eh := Lib.hid hh2
      clear hh2
      have M1 : Hid (matches_ k k = true) := by unfold Hid matches_; rw [Ek.out]; exact mt_self PL.out
      have M2 : Hid (matches_ p k = true) := by unfold Hid matches_; rw [Ek.out, Ep.out, HSP.out]; exact mt_starred l (bt16 x) 0 PL.out
      have M3 : Hid (matches_ o k = false) := by
        unfold Hid matches_
        rw [Ek.out, Eo.out, HOL.out]
        have hz : ∀ s : ByteArray, (s ++ (⟨#[120]⟩ : ByteArray)).data.toList = s.data.toList ++ [120] := fun s => by simp [ByteArray.data_append]
        refine mt_other PL.out hal _ ⟨fun e => ?_, fun e => ?_⟩ (fun e => ?_)
        · have := congrArg (fun s : ByteArray => s.data.toList.getLast?) e
          simp [hz, star] at this
        · have := congrArg (fun s : ByteArray => s.data.toList.getLast?) e
          simp [hz, hash] at this
        · have := congrArg (fun s : ByteArray => s.data.toList.length) e
          simp [hz] at this
      have M4 : Hid (matches_ ⟨#[35]⟩ k = true) := by unfold Hid matches_; rw [show words ⟨#[35]⟩ = [hash] from by kernel_rfl]; exact mt_all _
      have M5 : Hid (matches_ (h.extract 0 (h.size - 1)) k = true) := by unfold Hid matches_; rw [Ek.out, Eh.out]; exact pcs_all PL.out hal (by omega) hc21.2.2.1
      have M6 : Hid (matches_ ⟨#[35, 46, 35]⟩ k = true) := by unfold Hid matches_; rw [show words ⟨#[35, 46, 35]⟩ = [hash, hash] from by kernel_rfl]; exact mt_all2 _
      clear Hi Hno Hk Hp Ho Hh HSP HOL HSl HOl PL Ep Eo Eh HA HB Hs
      have hes : (h.extract 0 (h.size - 1)).size ≤ 100000 := by rw [ByteArray.size_extract]; omega
      go_wp2_with fail
      refine (patWords k wr (by omega)).mono ?_
      rw [Ek.out]
      rintro e w2 ⟨rfl, hw2⟩
      have hb2 : Below wr.heap.size wr w2 := by rw [hw2]; exact (Below.refl _ _).alloc (Nat.le_refl _) _
      have hr2 : Rd w2 1 (some ⟨wr.heap.size, 0, none⟩) l.length (l.map Value.string) := by rw [hw2]; exact rd_words _ rfl
      have HR2 := Lib.hid (HR1.out.below hb2)
      have HB2 := Lib.hid (blw_trans HB1.out hb2 HB1.out.size)
      have Hr2 := Lib.hid hr2
      clear hr2
      clear hw2 hb2 HR1 HB1
      go_wp2_with fail
      refine (sameTexts true _ A _ c l l w2 (by omega) (by omega) Hr2.out HR2.out (decide_eq_true rfl)).mono ?_
      rintro e w3 ⟨rfl, q, rfl⟩
      have HB3 := Lib.hid (blw_drewN HB2.out q)
      generalize w2.drewN q = w3 at *
      clear Hr2 HR2 HB2
      go_wp2_with fail
      refine (patMatch k k w3 (by omega) (by omega)).mono ?_
      rintro e w4 ⟨rfl, hb4⟩
      have HB4 := Lib.hid (blw_trans HB3.out hb4 HB3.out.size)
      rw [M1.out]
      clear hb4 HB3
      go_wp2_with fail
      refine (patMatch p k w4 (by omega) (by omega)).mono ?_
      rintro e w5 ⟨rfl, hb5⟩
      have HB5 := Lib.hid (blw_trans HB4.out hb5 HB4.out.size)
      rw [M2.out]
      clear hb5 HB4
      go_wp2_with fail
      refine (patMatch o k w5 (by omega) (by omega)).mono ?_
      rintro e w6 ⟨rfl, hb6⟩
      have HB6 := Lib.hid (blw_trans HB5.out hb6 HB5.out.size)
      rw [M3.out]
      clear hb6 HB5
      go_wp2_with fail
      refine (patMatch ⟨#[35]⟩ k w6 (by decide) (by omega)).mono ?_
      rintro e w7 ⟨rfl, hb7⟩
      have HB7 := Lib.hid (blw_trans HB6.out hb7 HB6.out.size)
      rw [M4.out]
      clear hb7 HB6
      go_wp2_with fail
      refine (patMatch (h.extract 0 (h.size - 1)) k w7 hes (by omega)).mono ?_
      rintro e w8 ⟨rfl, hb8⟩
      have HB8 := Lib.hid (blw_trans HB7.out hb8 HB7.out.size)
      rw [M5.out]
      clear hb8 HB7
      go_wp2_with fail
      refine (patMatch ⟨#[35, 46, 35]⟩ k w8 (by decide) (by omega)).mono ?_
      rintro e w9 ⟨rfl, hb9⟩
      have HB9 := Lib.hid (blw_trans HB8.out hb9 HB8.out.size)
      rw [M6.out]
      clear hb9 HB8
      go_wp2_with fail
      go_ret
      exact ⟨rfl, HB9.out⟩
theorem pwords (A : Option Addr) (n c : Nat) (l : List ByteArray) (x y z : Int) (w : World) (hx : 0 ≤ x ∧ x < 65536) (hy : 0 ≤ y ∧ y < 256) (hz : 0 ≤ z ∧ z < 256) (hl : l.length = n) (hm : n ≤ maxLen) (hr : Rd w 1 A n (l.map .string))
    (hs : ∀ s ∈ l, s.size ≤ maxLen) :
    Calls Tryd.prog 4 #[.slice A n c, .int .u16 x, .int .u8 y, .int .u8 z] w fun e w' => e = .returned (.bool true) ∧ Below w.heap.size w w' := by
  by_cases h : 1 ≤ n ∧ n ≤ 8
  · subst hl
    exact pw_walk A c l x y z w hx hy hz h hr hs
  · exact pw_out A n c x y z w (by omega) hm
end Go.Proofs.YthaoplcmkaaflaaDoor
