import Derived.Test.YthaoplcmkaaflaaDoorProg
import Derived.Test.YthaoplcmkaaflaaDoorBase
import Derived.Test.YthaoplcmkaaflaaDoorGoto
namespace Go.Proofs.YthaoplcmkaaflaaDoor
open Go.RowKit

/-- a byte that a name may have -/
def nmB (c : Int) : Bool := (decide (97 ≤ c) && decide (c ≤ 122)) || ((decide (65 ≤ c) && decide (c ≤ 90)) || ((decide (48 ≤ c) && decide (c ≤ 57)) || decide (c = 45)))
def isNm (s : ByteArray) : Bool := (s.data.toList.all fun c => nmB (c.toNat : Int)) && (decide (0 < s.size) && decide (s.size ≤ 12))
theorem nmB_t {c : Int} (h : (97 ≤ c ∧ c ≤ 122) ∨ (65 ≤ c ∧ c ≤ 90) ∨ (48 ≤ c ∧ c ≤ 57) ∨ c = 45) : nmB c = true := by
  unfold nmB
  simp only [Bool.or_eq_true, Bool.and_eq_true, decide_eq_true_eq]
  exact h
theorem nmB_cases (c : Int) : ((97 ≤ c ∧ c ≤ 122) ∧ nmB c = true) ∨ ((65 ≤ c ∧ c ≤ 90) ∧ nmB c = true) ∨ ((48 ≤ c ∧ c ≤ 57) ∧ nmB c = true) ∨ ((45 ≤ c ∧ c ≤ 45) ∧ nmB c = true) ∨
    (nmB c = false ∧ c ≠ 45 ∧ (c < 45 ∨ (45 < c ∧ c < 48) ∨ (57 < c ∧ c < 65) ∨ (90 < c ∧ c < 97) ∨ 122 < c)) := by
  by_cases h1 : 97 ≤ c ∧ c ≤ 122
  · exact .inl ⟨h1, nmB_t (.inl h1)⟩
  · by_cases h2 : 65 ≤ c ∧ c ≤ 90
    · exact .inr (.inl ⟨h2, nmB_t (.inr (.inl h2))⟩)
    · by_cases h3 : 48 ≤ c ∧ c ≤ 57
      · exact .inr (.inr (.inl ⟨h3, nmB_t (.inr (.inr (.inl h3)))⟩))
      · by_cases h4 : c = 45
        · exact .inr (.inr (.inr (.inl ⟨by omega, nmB_t (.inr (.inr (.inr h4)))⟩)))
        · refine .inr (.inr (.inr (.inr ⟨?_, h4, by omega⟩)))
          unfold nmB
          simp only [Bool.or_eq_false_iff, Bool.and_eq_false_iff, decide_eq_false_iff_not]
          omega
theorem all_take_false {l : List UInt8} {f : UInt8 → Bool} {k : Nat} (hk : k < l.length) (h : f l[k] = false) : l.all f = false := by
  rw [List.all_eq_false]
  exact ⟨l[k], List.getElem_mem hk, by rw [h]; decide⟩
theorem all_of {l : List UInt8} {f : UInt8 → Bool} (h : ∀ j (hj : j < l.length), f l[j] = true) : l.all f = true := by
  rw [List.all_eq_true]
  intro x hx
  obtain ⟨j, hj, rfl⟩ := List.getElem_of_mem hx
  exact h j hj

set_option linter.unusedSimpArgs false
set_option maxHeartbeats 1000000 in
theorem isName (s : ByteArray) (w : World) (hs : s.size ≤ 100000) :
    Calls Tryd.prog 15 #[.string s] w fun e w' => e = .returned (.bool (isNm s)) ∧ w' = w := by
  go_enter Tryd.func15, Tryd.ntmps15
  go_wp2
  go_loopg [8] (s.size) (fun g i wr => ∃ k : Nat, k + g = s.size ∧ i = .int .i64 k ∧ (∀ j (hj : j < s.data.toList.length), j < k → nmB ((s.data.toList[j]).toNat : Int) = true) ∧ wr = w)
  case atStart => exact ⟨0, by omega, rfl, fun j _ h => absurd h (by omega), rfl⟩
  case round =>
    obtain ⟨k, hk, rfl, hno, rfl⟩ := hrel
    have Hk := Lib.hid hk
    have Hno := Lib.hid hno
    clear hk hno
    by_cases hlt : k < s.size
    · have hl : k < s.data.toList.length := hlt
      have he : s[k] = s.data.toList[k] := rfl
      have fin : Hid (nmB (s[k].toNat : Int) = true → ∀ j (hj : j < s.data.toList.length), j < k + 1 → nmB ((s.data.toList[j]).toNat : Int) = true) := fun hb j hj hjk => by
        rcases Nat.lt_or_ge j k with h | h
        · exact Hno.out j hj h
        · obtain rfl : j = k := by omega
          exact hb
      have HF : Hid (nmB (s[k].toNat : Int) = false → isNm s = false) := fun hn => by
        unfold isNm
        rw [all_take_false hl (f := fun c => nmB (c.toNat : Int)) hn]; rfl
      clear he
      have HC := Lib.hid (nmB_cases (s[k].toNat : Int))
      go_wp2_with fail
      all_goals
        first
          | (have hn : nmB (s[k].toNat : Int) = true := by
               clear HF fin Hno
               try simp only [Bool.not_eq_true', decide_eq_false_iff_not, decide_eq_true_eq, bne_iff_ne, ne_eq, Bool.and_eq_true, Bool.or_eq_true, bne_eq_false_iff_eq, Bool.and_eq_false_iff, Bool.or_eq_false_iff, Bool.not_eq_false', Decidable.not_not] at *
               rcases HC.out with ⟨_, h⟩ | ⟨_, h⟩ | ⟨_, h⟩ | ⟨_, h⟩ | ⟨h, h1, h2⟩
               all_goals first | exact h | (exfalso; omega)
             have HN := Lib.hid (fin.out hn)
             clear hn
             go_roundg (s.size - (k + 1))
             case measure => have := Hk.out; omega
             case rel => exact ⟨k + 1, by omega, by go_num, HN.out, rfl⟩)
          | (have hn : nmB (s[k].toNat : Int) = false := by
               clear HF fin Hno
               try simp only [Bool.not_eq_true', decide_eq_false_iff_not, decide_eq_true_eq, bne_iff_ne, ne_eq, Bool.and_eq_true, Bool.or_eq_true, bne_eq_false_iff_eq, Bool.and_eq_false_iff, Bool.or_eq_false_iff, Bool.not_eq_false', Decidable.not_not] at *
               rcases HC.out with ⟨_, h⟩ | ⟨_, h⟩ | ⟨_, h⟩ | ⟨_, h⟩ | ⟨h, h1, h2⟩
               all_goals first | exact h | (exfalso; omega)
             have HN := Lib.hid (HF.out hn)
             clear hn
             go_ret
             exact ⟨by rw [HN.out]; rfl, rfl⟩)
    · have HA : Hid (isNm s = (decide (0 < s.size) && decide (s.size ≤ 12))) := by
        unfold Hid isNm
        rw [all_of (f := fun c => nmB (c.toNat : Int)) (fun j hj => Hno.out j hj (by have : j < s.size := hj; omega))]
        rfl
      have he : s.toList.isEmpty = decide (s.size = 0) := by
        rw [ByteArray.toList_eq]
        by_cases h : s.size = 0
        · have : s.data.toList = [] := List.eq_nil_of_length_eq_zero h
          rw [this]; simp [h]
        · rw [decide_eq_false h]
          cases hd : s.data.toList with
          | nil => exact absurd (by show s.data.toList.length = 0; rw [hd]; rfl) h
          | cons _ _ => rfl
      by_cases h0 : s.size = 0
      · have HV : Hid (isNm s = false) := by unfold Hid; rw [HA.out, h0]; rfl
        have he' : s.toList.isEmpty = true := by rw [he]; simpa using h0
        have h0' : s.size ≤ 0 := by omega
        clear he h0
        go_wp2_with fail
        go_ret
        exact ⟨by rw [HV.out]; rfl, rfl⟩
      · have he' : s.toList.isEmpty = false := by rw [he]; simpa using h0
        have h0' : 1 ≤ s.size := by omega
        clear he h0
        by_cases h12 : s.size ≤ 12
        · have HV : Hid (isNm s = true) := by unfold Hid; rw [HA.out]; simp; omega
          go_wp2_with fail
          go_ret
          exact ⟨by rw [HV.out]; simp; omega, rfl⟩
        · have HV : Hid (isNm s = false) := by unfold Hid; rw [HA.out]; simp; omega
          go_wp2_with fail
          go_ret
          exact ⟨by rw [HV.out]; simp; omega, rfl⟩
set_option maxHeartbeats 1000000 in
theorem refIsName (s : ByteArray) (w : World) (hs : s.size ≤ 100000) :
    Calls Tryd.prog 16 #[.string s] w fun e w' => e = .returned (.bool (isNm s)) ∧ w' = w := by
  go_enter Tryd.func16, Tryd.ntmps16
  go_wp2
  go_loopg [3] (s.size) (fun g i wr => ∃ k : Nat, k + g = s.size ∧ i = .int .i64 k ∧ (∀ j (hj : j < s.data.toList.length), j < k → nmB ((s.data.toList[j]).toNat : Int) = true) ∧ wr = w)
  case atStart => exact ⟨0, by omega, rfl, fun j _ h => absurd h (by omega), rfl⟩
  case round =>
    obtain ⟨k, hk, rfl, hno, rfl⟩ := hrel
    have Hk := Lib.hid hk
    have Hno := Lib.hid hno
    clear hk hno
    by_cases hlt : k < s.size
    · have hl : k < s.data.toList.length := hlt
      have he : s[k] = s.data.toList[k] := rfl
      have fin : Hid (nmB (s[k].toNat : Int) = true → ∀ j (hj : j < s.data.toList.length), j < k + 1 → nmB ((s.data.toList[j]).toNat : Int) = true) := fun hb j hj hjk => by
        rcases Nat.lt_or_ge j k with h | h
        · exact Hno.out j hj h
        · obtain rfl : j = k := by omega
          exact hb
      have HF : Hid (nmB (s[k].toNat : Int) = false → isNm s = false) := fun hn => by
        unfold isNm
        rw [all_take_false hl (f := fun c => nmB (c.toNat : Int)) hn]; rfl
      clear he
      have HC := Lib.hid (nmB_cases (s[k].toNat : Int))
      go_wp2_with fail
      all_goals
        first
          | (have hn : nmB (s[k].toNat : Int) = true := by
               clear HF fin Hno
               try simp only [Bool.not_eq_true', decide_eq_false_iff_not, decide_eq_true_eq, bne_iff_ne, ne_eq, Bool.and_eq_true, Bool.or_eq_true, bne_eq_false_iff_eq, Bool.and_eq_false_iff, Bool.or_eq_false_iff, Bool.not_eq_false', Decidable.not_not] at *
               rcases HC.out with ⟨_, h⟩ | ⟨_, h⟩ | ⟨_, h⟩ | ⟨_, h⟩ | ⟨h, h1, h2⟩
               all_goals first | exact h | (exfalso; omega)
             have HN := Lib.hid (fin.out hn)
             clear hn
             go_roundg (s.size - (k + 1))
             case measure => have := Hk.out; omega
             case rel => exact ⟨k + 1, by omega, by go_num, HN.out, rfl⟩)
          | (have hn : nmB (s[k].toNat : Int) = false := by
               clear HF fin Hno
               try simp only [Bool.not_eq_true', decide_eq_false_iff_not, decide_eq_true_eq, bne_iff_ne, ne_eq, Bool.and_eq_true, Bool.or_eq_true, bne_eq_false_iff_eq, Bool.and_eq_false_iff, Bool.or_eq_false_iff, Bool.not_eq_false', Decidable.not_not] at *
               rcases HC.out with ⟨_, h⟩ | ⟨_, h⟩ | ⟨_, h⟩ | ⟨_, h⟩ | ⟨h, h1, h2⟩
               all_goals first | exact h | (exfalso; omega)
             have HN := Lib.hid (HF.out hn)
             clear hn
             go_ret
             exact ⟨by rw [HN.out]; rfl, rfl⟩)
    · have HA : Hid (isNm s = (decide (0 < s.size) && decide (s.size ≤ 12))) := by
        unfold Hid isNm
        rw [all_of (f := fun c => nmB (c.toNat : Int)) (fun j hj => Hno.out j hj (by have : j < s.size := hj; omega))]
        rfl
      have he : s.toList.isEmpty = decide (s.size = 0) := by
        rw [ByteArray.toList_eq]
        by_cases h : s.size = 0
        · have : s.data.toList = [] := List.eq_nil_of_length_eq_zero h
          rw [this]; simp [h]
        · rw [decide_eq_false h]
          cases hd : s.data.toList with
          | nil => exact absurd (by show s.data.toList.length = 0; rw [hd]; rfl) h
          | cons _ _ => rfl
      by_cases h0 : s.size = 0
      · have HV : Hid (isNm s = false) := by unfold Hid; rw [HA.out, h0]; rfl
        have he' : s.toList.isEmpty = true := by rw [he]; simpa using h0
        have h0' : s.size ≤ 0 := by omega
        clear he h0
        go_wp2_with fail
        go_ret
        exact ⟨by rw [HV.out]; rfl, rfl⟩
      · have he' : s.toList.isEmpty = false := by rw [he]; simpa using h0
        have h0' : 1 ≤ s.size := by omega
        clear he h0
        by_cases h12 : s.size ≤ 12
        · have HV : Hid (isNm s = true) := by unfold Hid; rw [HA.out]; simp; omega
          go_wp2_with fail
          go_ret
          exact ⟨by rw [HV.out]; simp; omega, rfl⟩
        · have HV : Hid (isNm s = false) := by unfold Hid; rw [HA.out]; simp; omega
          go_wp2_with fail
          go_ret
          exact ⟨by rw [HV.out]; simp; omega, rfl⟩
def isKy (s : ByteArray) : Bool := decide ((s.size : Int) ≤ 40)
theorem isKey (s : ByteArray) (w : World) : Calls Tryd.prog 17 #[.string s] w fun e w' => e = .returned (.bool (isKy s)) ∧ w' = w := by
  go_enter Tryd.func17, Tryd.ntmps17
  go_wp2
  go_ret
  exact ⟨rfl, rfl⟩
theorem refIsKey (s : ByteArray) (w : World) : Calls Tryd.prog 18 #[.string s] w fun e w' => e = .returned (.bool (isKy s)) ∧ w' = w := by
  go_enter Tryd.func18, Tryd.ntmps18
  go_wp2
  go_ret
  exact ⟨rfl, rfl⟩
end Go.Proofs.YthaoplcmkaaflaaDoor
