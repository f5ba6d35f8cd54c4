namespace Go.Proofs.YthaoplcmkaaflaaDoor

/-- the first place of what p holds of; -1: there is none -/
def idxP {α : Type} (p : α → Bool) (l : List α) : Int := if l.any p then (l.findIdx p : Int) else -1
theorem idxP_found {α : Type} (p : α → Bool) (l : List α) (k : Nat) (hk : k < l.length) (h : ∀ j (hj : j < l.length), j < k → p l[j] = false) (hp : p l[k] = true) : idxP p l = k := by
  unfold idxP
  rw [if_pos (List.any_eq_true.2 ⟨l[k], List.getElem_mem hk, hp⟩)]
  have : l.findIdx p = k := by
    rw [List.findIdx_eq hk]
    exact ⟨hp, fun j hj => h j (by omega) hj⟩
  rw [this]
theorem idxP_none {α : Type} (p : α → Bool) (l : List α) (h : ∀ j (hj : j < l.length), p l[j] = false) : idxP p l = -1 := by
  unfold idxP
  rw [if_neg]
  intro hh
  obtain ⟨x, hx, hp⟩ := List.any_eq_true.1 hh
  obtain ⟨j, hj, rfl⟩ := List.getElem_of_mem hx
  rw [h j hj] at hp; cases hp
theorem idxP_ge {α : Type} (p : α → Bool) (l : List α) : decide (idxP p l ≥ 0) = l.any p := by
  unfold idxP
  by_cases h : l.any p = true
  · simp [h]
  · have h' : l.any p = false := by simpa using h
    rw [h']; simp
theorem idxP_lt {α : Type} (p : α → Bool) (l : List α) : idxP p l < l.length ∨ l = [] := by
  unfold idxP
  by_cases h : l.any p = true
  · rw [if_pos h]
    left
    obtain ⟨x, hx, hp⟩ := List.any_eq_true.1 h
    have := List.findIdx_lt_length_of_exists ⟨x, hx, hp⟩
    omega
  · rw [if_neg h]
    cases l with
    | nil => right; rfl
    | cons a l => left; simp; omega
end Go.Proofs.YthaoplcmkaaflaaDoor
