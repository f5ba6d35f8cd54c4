import Derived.Test.YthaoplcmkaaflaaLaw18
import Derived.Test.YthaoplcmkaaflaaArr
namespace Go.Proofs.Ythaoplcmkaaflaa
open Go.RowKit

/-- is a bit set? (as the walk spells it) -/
def bt (x : Int) (j : Nat) : Bool := bits .and .u16 (x / 2 ^ j) 1 == 1
/-- guests of so many connections -/
def gOf (i : Nat) : Gu := ⟨(i : Int), 0, ⟨#[]⟩, 0, false, false⟩
def Lk (k : Nat) : List Gu := (List.range k).map gOf
theorem Lk_len (k : Nat) : (Lk k).length = k := by simp [Lk]
theorem Lk_get {k j : Nat} (h : j < k) (d : Gu) : (Lk k).getD j d = gOf j := by simp [Lk, List.getD, h]
theorem Lk_add (k : Nat) : guAddL (Lk k) (gOf k) = Lk (k + 1) := by
  have h : (Lk k).any (gkey (gOf k)) = false := by
    rw [List.any_eq_false]
    intro x hx
    obtain ⟨j, hj, rfl⟩ := List.mem_map.1 hx
    have := List.mem_range.1 hj
    have hne : ¬ (j : Int) = (k : Int) := by omega
    simp [gkey, keyEq, gOf, hne]
  unfold guAddL guAddOk
  rw [h]
  simp [Lk, List.range_succ]

/-- one is picked who has spare, or nobody has -/
theorem fair_pick {k t : Nat} (hk : 0 < k) (f : Nat → Bool) :
    (∃ j, j < k ∧ f j = true ∧ pickG (Lk k) t ((List.range k).map f) = (gOf j, true, (j + 1) % k) ∧ (List.range k).any f = true) ∨
    (pickG (Lk k) t ((List.range k).map f) = (gu0, false, t) ∧ (List.range k).any f = false) := by
  have hE : ∀ j, j < k → ((List.range k).map f).getD j false = f j := fun j hj => by simp [List.getD, hj]
  cases hp : pickAt (Lk k).length t (fun j => ((List.range k).map f).getD j false) with
  | some j =>
    left
    obtain ⟨h1, h2⟩ := pickAt_lt hp
    rw [Lk_len] at h1
    rw [hE j h1] at h2
    refine ⟨j, h1, h2, ?_, List.any_eq_true.2 ⟨j, List.mem_range.2 h1, h2⟩⟩
    unfold pickG
    rw [hp]
    simp only [Lk_get h1, Lk_len]
  | none =>
    right
    refine ⟨?_, ?_⟩
    · unfold pickG
      rw [hp]
    · rw [Lk_len] at hp
      unfold pickAt at hp
      rw [List.find?_eq_none] at hp
      rw [List.any_eq_false]
      intro j hj
      have hj := List.mem_range.1 hj
      have hm : ((t + (j + k - t % k) % k) % k) = j := by
        have h1 : t % k < k := Nat.mod_lt _ hk
        rw [Nat.add_mod, Nat.mod_mod]
        have : (t % k + (j + k - t % k) % k) % k = (t % k + (j + k - t % k)) % k := by
          conv => rhs; rw [Nat.add_mod]
          rw [Nat.mod_mod]
        rw [this, show t % k + (j + k - t % k) = j + k by omega, Nat.add_mod_right]
        exact Nat.mod_eq_of_lt hj
      have := hp j (List.mem_map.2 ⟨(j + k - t % k) % k, List.mem_range.2 (Nat.mod_lt _ hk), hm⟩)
      rw [hE j hj] at this
      exact this
/-- with all spare it is the one whose turn it is -/
theorem fair_all {k t : Nat} (ht : t < k) : pickG (Lk k) t ((List.range k).map fun _ => true) = (gOf t, true, (t + 1) % k) := by
  have hp : pickAt (Lk k).length t (fun j => ((List.range k).map fun _ => true).getD j false) = some t := by
    rw [Lk_len]
    exact pickAt_up (Nat.le_refl _) ht (by simp [List.getD, ht]) (fun j h1 h2 => by omega)
  unfold pickG
  rw [hp]
  simp only [Lk_get ht, Lk_len]

/-- who was met in z rounds, from t on -/
def metF (k t z j : Nat) : Bool := (List.range z).any fun i => decide ((t + i) % k = j)
theorem metF_zero (k t : Nat) : metF k t 0 = fun _ => false := rfl
theorem metF_succ (k t z : Nat) : (fun j => if j = (t + z) % k then true else metF k t z j) = metF k t (z + 1) := by
  funext j
  unfold metF
  rw [List.range_succ, List.any_append]
  by_cases h : j = (t + z) % k
  · rw [if_pos h]; simp [h]
  · rw [if_neg h]
    have : ¬ (t + z) % k = j := fun e => h e.symm
    simp [this]
theorem mod_inj {k t a b : Nat} (hb : b < k) (hab : a < b) : (t + a) % k ≠ (t + b) % k := by
  intro h
  have h1 := Nat.div_add_mod (t + a) k
  have h2 := Nat.div_add_mod (t + b) k
  rw [h] at h1
  have h3 : k * ((t + b) / k) - k * ((t + a) / k) = b - a := by omega
  rw [← Nat.mul_sub] at h3
  rcases Nat.eq_zero_or_pos ((t + b) / k - (t + a) / k) with h0 | h0
  · rw [h0] at h3; omega
  · have : k * 1 ≤ k * ((t + b) / k - (t + a) / k) := Nat.mul_le_mul_left k h0
    omega
theorem metF_new {k t z : Nat} (hz : z < k) : metF k t z ((t + z) % k) = false := by
  unfold metF
  rw [List.any_eq_false]
  intro i hi
  have hi := List.mem_range.1 hi
  simp [mod_inj hz hi]
theorem any_succ (f : Nat → Bool) (z : Nat) : (List.range (z + 1)).any f = ((List.range z).any f || f z) := by
  rw [List.range_succ, List.any_append]; simp
theorem bArr_upto (n z : Nat) (f : Nat → Bool) : bArr n (fun j => if j = z then f z else if j < z then f j else false) = bArr n (fun j => if j < z + 1 then f j else false) := by
  unfold bArr
  congr 1
  apply List.map_congr_left
  intro j _
  dsimp only
  by_cases h : j = z
  · subst h; simp
  · rw [if_neg h]
    by_cases h2 : j < z
    · rw [if_pos h2, if_pos (by omega)]
    · rw [if_neg h2, if_neg (by omega)]
theorem bArr_made (n : Nat) : madeCells #[Value.bool false] n = bArr n (fun _ => false) := by
  apply Array.ext'
  rw [toList_madeCells_one]
  simp only [bArr, List.toList_toArray]
  rw [List.eq_replicate_of_mem (a := Value.bool false) (l := (List.range n).map fun _ => Value.bool false) (by simp)]
  simp
theorem bArr_rd {w : World} {g n : Nat} {t : TypeId} {f : Nat → Bool} (h : Blk w g t (bArr n f)) : Rd w 1 (some ⟨g, 0, none⟩) n (((List.range n).map f).map .bool) :=
  ⟨by simp, fun _ => ⟨g, 0, rfl, fun j u hu => by
    rw [Nat.zero_add, h.cell]
    unfold bArr
    simpa using hu⟩⟩
theorem info_bool : (Try.prog.info? 4).map (fun i => (i.zero, i.size, i.bytes)) = some (some (.bool false), 1, 1) := by kernel_rfl
end Go.Proofs.Ythaoplcmkaaflaa
