import Derived.Test.YthaoplcmkaaflaaDoorProg
import Derived.Test.YthaoplcmkaaflaaDoorReg
import Derived.Test.YthaoplcmkaaflaaDoorApp
import Derived.Test.YthaoplcmkaaflaaDoorBd
import Derived.Test.YthaoplcmkaaflaaDoorPlain
namespace Go.Proofs.YthaoplcmkaaflaaDoor
open Go.RowKit

def Strs (l : List ByteArray) : List Value := l.map .string
theorem Strs_len (l : List ByteArray) : (Strs l).length = l.length := by simp [Strs]
theorem Strs_get (l : List ByteArray) (i : Nat) (h : i < l.length) : (Strs l)[i]? = some (.string l[i]) := by simp [Strs, h]

set_option maxHeartbeats 400000 in
theorem indexStr (A : Option Addr) (c : Nat) (l : List ByteArray) (x : ByteArray) (w : World) (hl : l.length ≤ 4611686018427387904) (hr : Rd w 1 A l.length (Strs l)) :
    Calls Tryd.prog 56 #[.slice A l.length c, .string x] w fun e w' => e = .returned (.int .i64 (idxP (fun y => decide (x = y)) l)) ∧ w' = w := by
  have Hr := Lib.hid hr
  clear hr
  go_enter Tryd.func56, Tryd.ntmps56
  go_wp2
  go_loopg [5, 8] (l.length) (fun g s i wr => ∃ k : Nat, k + g = l.length ∧ i = .int .i64 k ∧ (∀ j (hj : j < l.length), j < k → decide (x = l[j]) = false) ∧ wr = w)
  case atStart => exact ⟨0, by omega, rfl, fun j _ hj => absurd hj (by omega), rfl⟩
  case round =>
    obtain ⟨k, hk, rfl, hno, rfl⟩ := hrel
    have Hk := Lib.hid hk
    have Hno := Lib.hid hno
    clear hk hno
    by_cases hlt : k < l.length
    · obtain ⟨b, off, rfl, hc⟩ := Hr.out.2 (by omega)
      have g1 := hc _ _ (Strs_get l k hlt)
      clear hc
      generalize hy : l[k] = y at *
      have Hy := Lib.hid hy
      clear hy
      go_wp2
      · have hh : decide (x = y) = true := decide_eq_true (ba_t (by assumption : (x.toList == y.toList) = true))
        go_ret
        exact ⟨ret_i64 (idxP_found (fun y => decide (x = y)) l k hlt Hno.out (by rw [Hy.out]; exact hh)).symm, rfl⟩
      · have hh : decide (x = y) = false := decide_eq_false (ba_f (by assumption : (x.toList == y.toList) = false))
        go_roundg (l.length - (k + 1))
        case measure => have := Hk.out; omega
        case rel =>
          refine ⟨k + 1, by omega, by go_num, ?_, rfl⟩
          intro j hj hjk
          rcases Nat.lt_or_ge j k with h | h
          · exact Hno.out j hj h
          · obtain rfl : j = k := by omega
            rw [Hy.out]; exact hh
    · have HL := Lib.hid (idxP_none (fun y => decide (x = y)) l (fun j hj => Hno.out j hj (by omega)))
      go_wp2
      go_ret
      exact ⟨ret_i64 HL.out.symm, rfl⟩

theorem containsStr (r : Bool) (A : Option Addr) (c : Nat) (l : List ByteArray) (x : ByteArray) (w : World) (hl : l.length ≤ 4611686018427387904) (hr : Rd w 1 A l.length (Strs l)) (h : (l.any fun y => decide (x = y)) = r) :
    Calls Tryd.prog 50 #[.slice A l.length c, .string x] w fun e w' => e = .returned (.bool r) ∧ w' = w := by
  subst h
  go_enter Tryd.func50, Tryd.ntmps50
  go_wp2_with fail
  refine (indexStr A c l x _ hl hr).mono ?_
  rintro e w1 ⟨rfl, rfl⟩
  go_wp2
  go_ret
  exact ⟨ret_bool (idxP_ge _ l), rfl⟩
set_option maxHeartbeats 400000 in
theorem sameTexts (r : Bool) (A B : Option Addr) (c d : Nat) (l m : List ByteArray) (w : World) (hl : l.length ≤ 4611686018427387904) (hm : m.length ≤ 4611686018427387904) (hr : Rd w 1 A l.length (Strs l)) (hs : Rd w 1 B m.length (Strs m)) (h : decide (l = m) = r) :
    Calls Tryd.prog 10 #[.slice A l.length c, .slice B m.length d] w fun e w' => e = .returned (.bool r) ∧ ∃ q, w' = w.drewN q := by
  subst h
  by_cases hlm : l.length = m.length
  case neg =>
    have HN : Hid (decide (l = m) = false) := decide_eq_false fun e => hlm (by rw [e])
    have h1 : ((l.length : Int) != (m.length : Int)) = true := by rw [bne_iff_ne]; omega
    clear hr hs
    go_enter Tryd.func10, Tryd.ntmps10
    go_wp2
    go_ret
    exact ⟨ret_bool HN.out.symm, 0, rfl⟩
  case pos =>
  have h1 : ((l.length : Int) != (m.length : Int)) = false := by rw [bne_eq_false_iff_eq]; omega
  have Hr := Lib.hid hr
  have Hs := Lib.hid hs
  have Hlm := Lib.hid hlm
  clear hr hs hlm
  go_enter Tryd.func10, Tryd.ntmps10
  go_wp2
  clear h1
  go_loopg [5] (l.length) (fun g i wr => ∃ k : Nat, k + g = l.length ∧ i = .int .i64 k ∧ (∀ j (hj : j < l.length) (hj' : j < m.length), j < k → l[j] = m[j]) ∧ ∃ q, wr = w.drewN q)
  case atStart => exact ⟨0, by omega, rfl, fun j _ _ hj => absurd hj (by omega), 0, rfl⟩
  case round =>
    obtain ⟨k, hk, rfl, hno, q, rfl⟩ := hrel
    have Hk := Lib.hid hk
    have Hno := Lib.hid hno
    clear hk hno
    by_cases hlt : k < l.length
    · have hltm : k < m.length := by have := Hlm.out; omega
      obtain ⟨b, off, rfl, hc⟩ := Hr.out.2 (by omega)
      obtain ⟨b', off', rfl, hc'⟩ := Hs.out.2 (by omega)
      have g1 := hc _ _ (Strs_get l k hlt)
      have g2 := hc' _ _ (Strs_get m k hltm)
      clear hc hc'
      generalize hy : l[k] = y at *
      generalize hz : m[k] = z at *
      have Hy := Lib.hid hy
      have Hz := Lib.hid hz
      clear hy hz
      go_wp2
      go_quiet (fail)
      go_wp2
      · have hh : y ≠ z := ba_f (by simpa using (by assumption : (!y.toList == z.toList) = true))
        have HN : Hid (decide (l = m) = false) := decide_eq_false fun e => by
          subst e
          exact hh (Hy.out.symm.trans Hz.out)
        go_ret
        exact ⟨ret_bool HN.out.symm, q + nq, World.drewN_drewN ..⟩
      · have hh : y = z := ba_t (by simpa using (by assumption : (!y.toList == z.toList) = false))
        go_roundg (l.length - (k + 1))
        case measure => have := Hk.out; omega
        case rel =>
          refine ⟨k + 1, by omega, by go_num, ?_, q + nq, rfl⟩
          intro j hj hj' hjk
          rcases Nat.lt_or_ge j k with h | h
          · exact Hno.out j hj hj' h
          · obtain rfl : j = k := by omega
            rw [Hy.out, Hz.out]
            exact hh
    · have HL : Hid (decide (l = m) = true) := decide_eq_true (List.ext_getElem Hlm.out fun j hj hj' => Hno.out j hj hj' (by omega))
      go_wp2
      go_ret
      exact ⟨ret_bool HL.out.symm, q, rfl⟩
end Go.Proofs.YthaoplcmkaaflaaDoor
