import Derived.Test.YthaoplcmkaaflaaSpinF
namespace Go.Proofs.Ythaoplcmkaaflaa
open Go.RowKit

set_option maxHeartbeats 1000000 in
theorem spins_no (at_ n : Int) (w : World) (ha : -32768 ≤ at_ ∧ at_ ≤ 32767) (hn : 0 ≤ n ∧ n < 256) (h1 : n % 6 ≠ 1) (h2 : n % 6 ≠ 2) (h4 : n % 6 ≠ 4) :
    Calls Try.prog 7 #[.int .i16 at_, .int .u8 n] w fun e w' => e = .returned (.bool true) ∧ Below w.heap.size w w' := by
  obtain ⟨k, hk⟩ : ∃ k, n % 6 = k := ⟨_, rfl⟩
  rw [hk] at h1 h2 h4
  have b1 : (k != 1) = true := by simpa using h1
  have b2 : (k != 2) = true := by simpa using h2
  have b4 : (k != 4) = true := by simpa using h4
  have hk0 : 0 ≤ k ∧ k < 6 := by omega
  go_enter Try.func7, Try.ntmps7
  go_wp2_with fail
  refine (known18 w).mono ?_
  rintro e w0 ⟨rfl, hb0⟩
  have HB0 := Lib.hid hb0
  clear hb0
  go_wp2_with (go_at_call 37; refine (spinNo _ _ _ h1 h2 h4).mono ?_; rintro e w1 ⟨rfl, rfl⟩)
  go_ret
  exact ⟨rfl, HB0.out⟩

set_option maxHeartbeats 4000000 in
theorem spins_1_0 (at_ n : Int) (w : World) (ha : -32768 ≤ at_ ∧ at_ ≤ 32767) (hn : 0 ≤ n ∧ n < 256) (hk : n % 6 = 1) (hr : at_ % 1 = 0) :
    Calls Try.prog 7 #[.int .i16 at_, .int .u8 n] w fun e w' => e = .returned (.bool true) ∧ Below w.heap.size w w' := by
  go_enter Try.func7, Try.ntmps7
  go_wp2_with fail
  refine (known18 w).mono ?_
  rintro e w0 ⟨rfl, hb0⟩
  have HB0 := Lib.hid hb0
  clear hb0
  have M0 : Hid ((at_ % 1) * (4 / 1) = ((0 : Nat) : Int)) := by unfold Hid; omega
  have M1 : Hid (((at_ + 1) % 1) * (4 / 1) = ((0 : Nat) : Int)) := by unfold Hid; omega
  have M2 : Hid (((at_ + 1) % 1) * (4 / 1) = ((0 : Nat) : Int)) := by unfold Hid; omega
  go_wp2_with fail
  refine (spinYes at_ 1 0 w0 (by decide) (by omega) M0.out).mono ?_
  rintro e w1 ⟨rfl, q1, rfl⟩
  simp only [spinV]
  go_wp2_with fail
  refine (spinYes (at_ + 1) 1 0 _ (by decide) (by omega) M1.out).mono ?_
  rintro e w2 ⟨rfl, q2, rfl⟩
  simp only [spinV]
  go_wp2_with fail
  refine (spinYes (at_ + 1) 1 0 _ (by decide) (by omega) M2.out).mono ?_
  rintro e w3 ⟨rfl, q3, rfl⟩
  simp only [spinV]
  go_wp2_with fail
  refine (spinYes 0 1 0 _ (by decide) (by omega) (by decide)).mono ?_
  rintro e w4 ⟨rfl, q4, rfl⟩
  simp only [spinV]
  go_wp2
  go_ret
  exact ⟨rfl, blw_drewN HB0.out _⟩
set_option maxHeartbeats 4000000 in
theorem spins_2_0 (at_ n : Int) (w : World) (ha : -32768 ≤ at_ ∧ at_ ≤ 32767) (hn : 0 ≤ n ∧ n < 256) (hk : n % 6 = 2) (hr : at_ % 2 = 0) :
    Calls Try.prog 7 #[.int .i16 at_, .int .u8 n] w fun e w' => e = .returned (.bool true) ∧ Below w.heap.size w w' := by
  go_enter Try.func7, Try.ntmps7
  go_wp2_with fail
  refine (known18 w).mono ?_
  rintro e w0 ⟨rfl, hb0⟩
  have HB0 := Lib.hid hb0
  clear hb0
  have M0 : Hid ((at_ % 2) * (4 / 2) = ((0 : Nat) : Int)) := by unfold Hid; omega
  have M1 : Hid (((at_ + 1) % 2) * (4 / 2) = ((2 : Nat) : Int)) := by unfold Hid; omega
  have M2 : Hid (((at_ + 2) % 2) * (4 / 2) = ((0 : Nat) : Int)) := by unfold Hid; omega
  go_wp2_with fail
  refine (spinYes at_ 2 0 w0 (by decide) (by omega) M0.out).mono ?_
  rintro e w1 ⟨rfl, q1, rfl⟩
  simp only [spinV]
  go_wp2_with fail
  refine (spinYes (at_ + 1) 2 2 _ (by decide) (by omega) M1.out).mono ?_
  rintro e w2 ⟨rfl, q2, rfl⟩
  simp only [spinV]
  go_wp2_with fail
  refine (spinYes (at_ + 2) 2 0 _ (by decide) (by omega) M2.out).mono ?_
  rintro e w3 ⟨rfl, q3, rfl⟩
  simp only [spinV]
  go_wp2_with fail
  refine (spinYes 0 2 0 _ (by decide) (by omega) (by decide)).mono ?_
  rintro e w4 ⟨rfl, q4, rfl⟩
  simp only [spinV]
  go_wp2
  go_ret
  exact ⟨rfl, blw_drewN HB0.out _⟩
set_option maxHeartbeats 4000000 in
theorem spins_2_1 (at_ n : Int) (w : World) (ha : -32768 ≤ at_ ∧ at_ ≤ 32767) (hn : 0 ≤ n ∧ n < 256) (hk : n % 6 = 2) (hr : at_ % 2 = 1) :
    Calls Try.prog 7 #[.int .i16 at_, .int .u8 n] w fun e w' => e = .returned (.bool true) ∧ Below w.heap.size w w' := by
  go_enter Try.func7, Try.ntmps7
  go_wp2_with fail
  refine (known18 w).mono ?_
  rintro e w0 ⟨rfl, hb0⟩
  have HB0 := Lib.hid hb0
  clear hb0
  have M0 : Hid ((at_ % 2) * (4 / 2) = ((2 : Nat) : Int)) := by unfold Hid; omega
  have M1 : Hid (((at_ + 1) % 2) * (4 / 2) = ((0 : Nat) : Int)) := by unfold Hid; omega
  have M2 : Hid (((at_ + 2) % 2) * (4 / 2) = ((2 : Nat) : Int)) := by unfold Hid; omega
  go_wp2_with fail
  refine (spinYes at_ 2 2 w0 (by decide) (by omega) M0.out).mono ?_
  rintro e w1 ⟨rfl, q1, rfl⟩
  simp only [spinV]
  go_wp2_with fail
  refine (spinYes (at_ + 1) 2 0 _ (by decide) (by omega) M1.out).mono ?_
  rintro e w2 ⟨rfl, q2, rfl⟩
  simp only [spinV]
  go_wp2_with fail
  refine (spinYes (at_ + 2) 2 2 _ (by decide) (by omega) M2.out).mono ?_
  rintro e w3 ⟨rfl, q3, rfl⟩
  simp only [spinV]
  go_wp2_with fail
  refine (spinYes 0 2 0 _ (by decide) (by omega) (by decide)).mono ?_
  rintro e w4 ⟨rfl, q4, rfl⟩
  simp only [spinV]
  go_wp2
  go_ret
  exact ⟨rfl, blw_drewN HB0.out _⟩
set_option maxHeartbeats 4000000 in
theorem spins_4_0 (at_ n : Int) (w : World) (ha : -32768 ≤ at_ ∧ at_ ≤ 32767) (hn : 0 ≤ n ∧ n < 256) (hk : n % 6 = 4) (hr : at_ % 4 = 0) :
    Calls Try.prog 7 #[.int .i16 at_, .int .u8 n] w fun e w' => e = .returned (.bool true) ∧ Below w.heap.size w w' := by
  go_enter Try.func7, Try.ntmps7
  go_wp2_with fail
  refine (known18 w).mono ?_
  rintro e w0 ⟨rfl, hb0⟩
  have HB0 := Lib.hid hb0
  clear hb0
  have M0 : Hid ((at_ % 4) * (4 / 4) = ((0 : Nat) : Int)) := by unfold Hid; omega
  have M1 : Hid (((at_ + 1) % 4) * (4 / 4) = ((1 : Nat) : Int)) := by unfold Hid; omega
  have M2 : Hid (((at_ + 4) % 4) * (4 / 4) = ((0 : Nat) : Int)) := by unfold Hid; omega
  go_wp2_with fail
  refine (spinYes at_ 4 0 w0 (by decide) (by omega) M0.out).mono ?_
  rintro e w1 ⟨rfl, q1, rfl⟩
  simp only [spinV]
  go_wp2_with fail
  refine (spinYes (at_ + 1) 4 1 _ (by decide) (by omega) M1.out).mono ?_
  rintro e w2 ⟨rfl, q2, rfl⟩
  simp only [spinV]
  go_wp2_with fail
  refine (spinYes (at_ + 4) 4 0 _ (by decide) (by omega) M2.out).mono ?_
  rintro e w3 ⟨rfl, q3, rfl⟩
  simp only [spinV]
  go_wp2_with fail
  refine (spinYes 0 4 0 _ (by decide) (by omega) (by decide)).mono ?_
  rintro e w4 ⟨rfl, q4, rfl⟩
  simp only [spinV]
  go_wp2
  go_ret
  exact ⟨rfl, blw_drewN HB0.out _⟩
set_option maxHeartbeats 4000000 in
theorem spins_4_1 (at_ n : Int) (w : World) (ha : -32768 ≤ at_ ∧ at_ ≤ 32767) (hn : 0 ≤ n ∧ n < 256) (hk : n % 6 = 4) (hr : at_ % 4 = 1) :
    Calls Try.prog 7 #[.int .i16 at_, .int .u8 n] w fun e w' => e = .returned (.bool true) ∧ Below w.heap.size w w' := by
  go_enter Try.func7, Try.ntmps7
  go_wp2_with fail
  refine (known18 w).mono ?_
  rintro e w0 ⟨rfl, hb0⟩
  have HB0 := Lib.hid hb0
  clear hb0
  have M0 : Hid ((at_ % 4) * (4 / 4) = ((1 : Nat) : Int)) := by unfold Hid; omega
  have M1 : Hid (((at_ + 1) % 4) * (4 / 4) = ((2 : Nat) : Int)) := by unfold Hid; omega
  have M2 : Hid (((at_ + 4) % 4) * (4 / 4) = ((1 : Nat) : Int)) := by unfold Hid; omega
  go_wp2_with fail
  refine (spinYes at_ 4 1 w0 (by decide) (by omega) M0.out).mono ?_
  rintro e w1 ⟨rfl, q1, rfl⟩
  simp only [spinV]
  go_wp2_with fail
  refine (spinYes (at_ + 1) 4 2 _ (by decide) (by omega) M1.out).mono ?_
  rintro e w2 ⟨rfl, q2, rfl⟩
  simp only [spinV]
  go_wp2_with fail
  refine (spinYes (at_ + 4) 4 1 _ (by decide) (by omega) M2.out).mono ?_
  rintro e w3 ⟨rfl, q3, rfl⟩
  simp only [spinV]
  go_wp2_with fail
  refine (spinYes 0 4 0 _ (by decide) (by omega) (by decide)).mono ?_
  rintro e w4 ⟨rfl, q4, rfl⟩
  simp only [spinV]
  go_wp2
  go_ret
  exact ⟨rfl, blw_drewN HB0.out _⟩
set_option maxHeartbeats 4000000 in
theorem spins_4_2 (at_ n : Int) (w : World) (ha : -32768 ≤ at_ ∧ at_ ≤ 32767) (hn : 0 ≤ n ∧ n < 256) (hk : n % 6 = 4) (hr : at_ % 4 = 2) :
    Calls Try.prog 7 #[.int .i16 at_, .int .u8 n] w fun e w' => e = .returned (.bool true) ∧ Below w.heap.size w w' := by
  go_enter Try.func7, Try.ntmps7
  go_wp2_with fail
  refine (known18 w).mono ?_
  rintro e w0 ⟨rfl, hb0⟩
  have HB0 := Lib.hid hb0
  clear hb0
  have M0 : Hid ((at_ % 4) * (4 / 4) = ((2 : Nat) : Int)) := by unfold Hid; omega
  have M1 : Hid (((at_ + 1) % 4) * (4 / 4) = ((3 : Nat) : Int)) := by unfold Hid; omega
  have M2 : Hid (((at_ + 4) % 4) * (4 / 4) = ((2 : Nat) : Int)) := by unfold Hid; omega
  go_wp2_with fail
  refine (spinYes at_ 4 2 w0 (by decide) (by omega) M0.out).mono ?_
  rintro e w1 ⟨rfl, q1, rfl⟩
  simp only [spinV]
  go_wp2_with fail
  refine (spinYes (at_ + 1) 4 3 _ (by decide) (by omega) M1.out).mono ?_
  rintro e w2 ⟨rfl, q2, rfl⟩
  simp only [spinV]
  go_wp2_with fail
  refine (spinYes (at_ + 4) 4 2 _ (by decide) (by omega) M2.out).mono ?_
  rintro e w3 ⟨rfl, q3, rfl⟩
  simp only [spinV]
  go_wp2_with fail
  refine (spinYes 0 4 0 _ (by decide) (by omega) (by decide)).mono ?_
  rintro e w4 ⟨rfl, q4, rfl⟩
  simp only [spinV]
  go_wp2
  go_ret
  exact ⟨rfl, blw_drewN HB0.out _⟩
set_option maxHeartbeats 4000000 in
theorem spins_4_3 (at_ n : Int) (w : World) (ha : -32768 ≤ at_ ∧ at_ ≤ 32767) (hn : 0 ≤ n ∧ n < 256) (hk : n % 6 = 4) (hr : at_ % 4 = 3) :
    Calls Try.prog 7 #[.int .i16 at_, .int .u8 n] w fun e w' => e = .returned (.bool true) ∧ Below w.heap.size w w' := by
  go_enter Try.func7, Try.ntmps7
  go_wp2_with fail
  refine (known18 w).mono ?_
  rintro e w0 ⟨rfl, hb0⟩
  have HB0 := Lib.hid hb0
  clear hb0
  have M0 : Hid ((at_ % 4) * (4 / 4) = ((3 : Nat) : Int)) := by unfold Hid; omega
  have M1 : Hid (((at_ + 1) % 4) * (4 / 4) = ((0 : Nat) : Int)) := by unfold Hid; omega
  have M2 : Hid (((at_ + 4) % 4) * (4 / 4) = ((3 : Nat) : Int)) := by unfold Hid; omega
  go_wp2_with fail
  refine (spinYes at_ 4 3 w0 (by decide) (by omega) M0.out).mono ?_
  rintro e w1 ⟨rfl, q1, rfl⟩
  simp only [spinV]
  go_wp2_with fail
  refine (spinYes (at_ + 1) 4 0 _ (by decide) (by omega) M1.out).mono ?_
  rintro e w2 ⟨rfl, q2, rfl⟩
  simp only [spinV]
  go_wp2_with fail
  refine (spinYes (at_ + 4) 4 3 _ (by decide) (by omega) M2.out).mono ?_
  rintro e w3 ⟨rfl, q3, rfl⟩
  simp only [spinV]
  go_wp2_with fail
  refine (spinYes 0 4 0 _ (by decide) (by omega) (by decide)).mono ?_
  rintro e w4 ⟨rfl, q4, rfl⟩
  simp only [spinV]
  go_wp2
  go_ret
  exact ⟨rfl, blw_drewN HB0.out _⟩

theorem spins (at_ n : Int) (w : World) (ha : -32768 ≤ at_ ∧ at_ ≤ 32767) (hn : 0 ≤ n ∧ n < 256) :
    Calls Try.prog 7 #[.int .i16 at_, .int .u8 n] w fun e w' => e = .returned (.bool true) ∧ Below w.heap.size w w' := by
  by_cases h1 : n % 6 = 1
  · exact spins_1_0 at_ n w ha hn h1 (by omega)
  by_cases h2 : n % 6 = 2
  · rcases (by omega : at_ % 2 = 0 ∨ at_ % 2 = 1) with h | h
    · exact spins_2_0 at_ n w ha hn h2 h
    · exact spins_2_1 at_ n w ha hn h2 h
  by_cases h4 : n % 6 = 4
  · rcases (by omega : at_ % 4 = 0 ∨ at_ % 4 = 1 ∨ at_ % 4 = 2 ∨ at_ % 4 = 3) with h | h | h | h
    · exact spins_4_0 at_ n w ha hn h4 h
    · exact spins_4_1 at_ n w ha hn h4 h
    · exact spins_4_2 at_ n w ha hn h4 h
    · exact spins_4_3 at_ n w ha hn h4 h
  exact spins_no at_ n w ha hn h1 h2 h4
end Go.Proofs.Ythaoplcmkaaflaa
