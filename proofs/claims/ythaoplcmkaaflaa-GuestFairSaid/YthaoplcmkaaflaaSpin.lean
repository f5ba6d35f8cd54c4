import Derived.Test.YthaoplcmkaaflaaProg
import Derived.Test.YthaoplcmkaaflaaReg
import Derived.Test.YthaoplcmkaaflaaGoto
import Derived.Test.YthaoplcmkaaflaaBd
import Derived.WalkLawsBesides
namespace Go.Proofs.Ythaoplcmkaaflaa
open Go.RowKit

/-- the turned one, as it stands in the loop -/
def spinS : Nat → Value
  | 0 => .complex .f64 4607182418800017408 0
  | 1 => .complex .f64 9223372036854775808 4607182418800017408
  | 2 => .complex .f64 13830554455654793216 9223372036854775808
  | _ => .complex .f64 0 13830554455654793216
/-- and in the end -/
def spinV : Nat → Value
  | 0 => .complex .f64 4607182418800017408 0
  | 1 => .complex .f64 0 4607182418800017408
  | 2 => .complex .f64 13830554455654793216 0
  | _ => .complex .f64 0 13830554455654793216

@[go_sem high] theorem fadd0 (w : World) : (binOp .add 79 (.float .f64 4607182418800017408) (.float .f64 0)).run Try.prog w = .ok (.float .f64 4607182418800017408) w := by kernel_rfl
@[go_sem high] theorem fadd1 (w : World) : (binOp .add 79 (.float .f64 0) (.float .f64 0)).run Try.prog w = .ok (.float .f64 0) w := by kernel_rfl
@[go_sem high] theorem fadd2 (w : World) : (binOp .add 79 (.float .f64 9223372036854775808) (.float .f64 0)).run Try.prog w = .ok (.float .f64 0) w := by kernel_rfl
@[go_sem high] theorem fadd3 (w : World) : (binOp .add 79 (.float .f64 13830554455654793216) (.float .f64 0)).run Try.prog w = .ok (.float .f64 13830554455654793216) w := by kernel_rfl
@[go_sem high] theorem fneg0 (w : World) : (Op.unary .neg (.float .f64 0)).run Try.prog w = .ok (.float .f64 9223372036854775808) w := by kernel_rfl
@[go_sem high] theorem fneg1 (w : World) : (Op.unary .neg (.float .f64 4607182418800017408)).run Try.prog w = .ok (.float .f64 13830554455654793216) w := by kernel_rfl
@[go_sem high] theorem fneg2 (w : World) : (Op.unary .neg (.float .f64 9223372036854775808)).run Try.prog w = .ok (.float .f64 0) w := by kernel_rfl
@[go_sem high] theorem fneg3 (w : World) : (Op.unary .neg (.float .f64 13830554455654793216)).run Try.prog w = .ok (.float .f64 4607182418800017408) w := by kernel_rfl

set_option maxHeartbeats 1000000 in
theorem spinNo (a n : Int) (w : World) (h1 : n ≠ 1) (h2 : n ≠ 2) (h4 : n ≠ 4) :
    Calls Try.prog 37 #[.int .i64 a, .int .i64 n] w fun e w' => e = .returned (.complex .f64 0 0) ∧ w' = w := by
  have b1 : (n != 1) = true := by simpa using h1
  have b2 : (n != 2) = true := by simpa using h2
  have b4 : (n != 4) = true := by simpa using h4
  go_enter Try.func37, Try.ntmps37
  go_wp2
  go_ret
  exact ⟨rfl, rfl⟩

set_option maxHeartbeats 2000000 in
theorem spinYes (a n : Int) (m : Nat) (w : World) (hn : n = 1 ∨ n = 2 ∨ n = 4) (_ : -1000000 ≤ a ∧ a ≤ 1000000) (hm : ((a % n)) * (4 / n) = (m : Int)) :
    Calls Try.prog 37 #[.int .i64 a, .int .i64 n] w fun e w' => e = .returned (spinV m) ∧ ∃ q, w' = w.drewN q := by
  have hm3 : m ≤ 3 := by rcases hn with rfl | rfl | rfl <;> omega
  rcases hn with rfl | rfl | rfl
  · have hm0 : m = 0 := by omega
    subst hm0
    clear hm hm3
    go_enter Try.func37, Try.ntmps37
    go_wp2
    go_quiet (fail)
    go_wp2_with fail
    go_loopg [5, 26] (0) (fun g s i wr => ∃ k : Nat, k + g = 0 ∧ i = .int .i64 k ∧ s = spinS k ∧ ∃ q, wr = w.drewN q)
    case atStart => exact ⟨0, by omega, rfl, rfl, _, rfl⟩
    case round =>
      obtain ⟨k, hk, rfl, rfl, q, rfl⟩ := hrel
      obtain rfl : k = 0 := by omega
      simp only [spinS]
      go_wp2
      go_ret
      exact ⟨rfl, q, rfl⟩
  · have hr := Int.tmod_def a 2
    have hr1 := Int.tmod_lt_of_pos a (b := 2) (by omega)
    have hr2 := Int.lt_tmod_of_pos a (b := 2) (by omega)
    obtain ⟨r, hre⟩ : ∃ r, a.tmod 2 = r := ⟨_, rfl⟩
    rw [hre] at hr hr1 hr2
    have hm' : (r % 2 * 2) = (m : Int) := by omega
    clear hr hm
    go_enter Try.func37, Try.ntmps37
    go_wp2
    go_quiet (fail)
    go_wp2_with fail
    clear hm' hre
    go_loopg [5, 26] (m) (fun g s i wr => ∃ k : Nat, k + g = m ∧ i = .int .i64 k ∧ s = spinS k ∧ ∃ q, wr = w.drewN q)
    case atStart => exact ⟨0, by omega, rfl, rfl, _, rfl⟩
    case round =>
      obtain ⟨k, hk, rfl, rfl, q, rfl⟩ := hrel
      by_cases hlt : k < m
      · have HK := Lib.hid hk
        clear hk
        obtain ⟨k', hk'⟩ : ∃ k', k' = k + 1 := ⟨_, rfl⟩
        have HK' := Lib.hid hk'
        clear hk'
        obtain rfl | rfl | rfl : k = 0 ∨ k = 1 ∨ k = 2 := by omega
        all_goals
          simp only [spinS]
          go_wp2
          go_roundg (m - k')
          case measure => have := HK.out; have := HK'.out; omega
          case rel =>
            have h1 := HK'.out
            have h2 := HK.out
            first
              | exact ⟨1, by omega, by go_num, rfl, q, rfl⟩
              | exact ⟨2, by omega, by go_num, rfl, q, rfl⟩
              | exact ⟨3, by omega, by go_num, rfl, q, rfl⟩
      · obtain rfl : k = m := by omega
        clear hk hlt
        obtain rfl | rfl | rfl | rfl : k = 0 ∨ k = 1 ∨ k = 2 ∨ k = 3 := by omega
        all_goals
          simp only [spinS]
          go_wp2
          go_ret
          exact ⟨rfl, q, rfl⟩
  · have hr := Int.tmod_def a 4
    have hr1 := Int.tmod_lt_of_pos a (b := 4) (by omega)
    have hr2 := Int.lt_tmod_of_pos a (b := 4) (by omega)
    obtain ⟨r, hre⟩ : ∃ r, a.tmod 4 = r := ⟨_, rfl⟩
    rw [hre] at hr hr1 hr2
    have hm' : (r % 4) = (m : Int) := by omega
    clear hr hm
    go_enter Try.func37, Try.ntmps37
    go_wp2
    go_quiet (fail)
    go_wp2_with fail
    clear hm' hre
    go_loopg [5, 26] (m) (fun g s i wr => ∃ k : Nat, k + g = m ∧ i = .int .i64 k ∧ s = spinS k ∧ ∃ q, wr = w.drewN q)
    case atStart => exact ⟨0, by omega, rfl, rfl, _, rfl⟩
    case round =>
      obtain ⟨k, hk, rfl, rfl, q, rfl⟩ := hrel
      by_cases hlt : k < m
      · have HK := Lib.hid hk
        clear hk
        obtain ⟨k', hk'⟩ : ∃ k', k' = k + 1 := ⟨_, rfl⟩
        have HK' := Lib.hid hk'
        clear hk'
        obtain rfl | rfl | rfl : k = 0 ∨ k = 1 ∨ k = 2 := by omega
        all_goals
          simp only [spinS]
          go_wp2
          go_roundg (m - k')
          case measure => have := HK.out; have := HK'.out; omega
          case rel =>
            have h1 := HK'.out
            have h2 := HK.out
            first
              | exact ⟨1, by omega, by go_num, rfl, q, rfl⟩
              | exact ⟨2, by omega, by go_num, rfl, q, rfl⟩
              | exact ⟨3, by omega, by go_num, rfl, q, rfl⟩
      · obtain rfl : k = m := by omega
        clear hk hlt
        obtain rfl | rfl | rfl | rfl : k = 0 ∨ k = 1 ∨ k = 2 ∨ k = 3 := by omega
        all_goals
          simp only [spinS]
          go_wp2
          go_ret
          exact ⟨rfl, q, rfl⟩
end Go.Proofs.Ythaoplcmkaaflaa
