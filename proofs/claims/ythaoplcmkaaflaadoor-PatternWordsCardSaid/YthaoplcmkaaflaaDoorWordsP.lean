import Derived.Test.YthaoplcmkaaflaaDoorMatch
namespace Go.Proofs.YthaoplcmkaaflaaDoor

theorem spl_snoc (w : List UInt8) (hw : (46 : UInt8) ∉ w) : ∀ k : List UInt8, spl (k ++ 46 :: w) = spl k ++ [w] := by
  intro k
  induction k with
  | nil => simp [spl, spl_cat _ hw]
  | cons b k ih =>
    rw [List.cons_append]
    conv => lhs; unfold spl
    conv => rhs; unfold spl
    by_cases h : b = 46
    · rw [if_pos h, if_pos h, ih]; rfl
    · rw [if_neg h, if_neg h, ih]
      cases hs : spl k with
      | nil => exact absurd hs (spl_ne _)
      | cons x xs => rfl
def noDot (s : ByteArray) : Prop := (46 : UInt8) ∉ s.data.toList
theorem words_one {w : ByteArray} (h : noDot w) : words w = [w] := by
  unfold words
  rw [spl_cat _ h]
  simp [bOfL_data]
theorem words_snoc {k w : ByteArray} (h : noDot w) : words ((k ++ ⟨#[46]⟩) ++ w) = words k ++ [w] := by
  have e : ((k ++ ⟨#[46]⟩) ++ w).data.toList = k.data.toList ++ 46 :: w.data.toList := by simp [ByteArray.data_append]
  unfold words
  rw [e, spl_snoc _ h]
  simp [bOfL_data]
theorem empty_app (w : ByteArray) : (⟨#[]⟩ : ByteArray) ++ w = w := by
  apply ByteArray.ext; simp [ByteArray.data_append]
theorem noDot_app {a b : ByteArray} (ha : noDot a) (hb : noDot b) : noDot (a ++ b) := by
  unfold noDot at *
  rw [ByteArray.data_append, Array.toList_append]
  simp [ha, hb]

/-- what has been put together, word by word -/
def Tog (s : ByteArray) (l : List ByteArray) : Prop := (l = [] ∧ s = ⟨#[]⟩) ∨ (l ≠ [] ∧ words s = l)
theorem Tog.first {w : ByteArray} {s : ByteArray} (h : Tog s []) (hw : noDot w) : Tog (s ++ w) [w] := by
  rcases h with ⟨_, rfl⟩ | ⟨h, _⟩
  · exact .inr ⟨by simp, by rw [empty_app, words_one hw]⟩
  · exact absurd rfl h
theorem Tog.next {w : ByteArray} {s : ByteArray} {l : List ByteArray} (h : Tog s l) (hl : l ≠ []) (hw : noDot w) : Tog ((s ++ ⟨#[46]⟩) ++ w) (l ++ [w]) := by
  rcases h with ⟨h, _⟩ | ⟨_, h⟩
  · exact absurd h hl
  · exact .inr ⟨by simp, by rw [words_snoc hw, h]⟩
theorem Tog.step {w : ByteArray} {s : ByteArray} {l : List ByteArray} (h : Tog s l) (hw : noDot w) : (l ≠ [] → Tog ((s ++ ⟨#[46]⟩) ++ w) (l ++ [w])) ∧ (l = [] → Tog (s ++ w) (l ++ [w])) :=
  ⟨fun hl => h.next hl hw, fun hl => by subst hl; exact h.first hw⟩
theorem noDot_star : noDot ⟨#[42]⟩ := by unfold noDot; decide
theorem noDot_hash : noDot ⟨#[35]⟩ := by unfold noDot; decide
theorem noDot_x : noDot ⟨#[120]⟩ := by unfold noDot; decide
theorem sz1 (b : UInt8) : (⟨#[b]⟩ : ByteArray).size = 1 := rfl
theorem sz2 (b c : UInt8) : (⟨#[b, c]⟩ : ByteArray).size = 2 := rfl
theorem sz35 : (⟨#[35, 46]⟩ : ByteArray).size = 2 := rfl
theorem Tog.words {s : ByteArray} {l : List ByteArray} (h : Tog s l) (hl : l ≠ []) : words s = l := by
  rcases h with ⟨h, _⟩ | ⟨_, h⟩
  · exact absurd h hl
  · exact h
/-- .. with a point behind each word -/
def Dots (s : ByteArray) (l : List ByteArray) : Prop := (l = [] ∧ s = ⟨#[]⟩) ∨ ∃ t, s = t ++ ⟨#[46]⟩ ∧ words t = l
theorem Dots.add {w : ByteArray} {s : ByteArray} {l : List ByteArray} (h : Dots s l) (hw : noDot w) : Dots ((s ++ w) ++ ⟨#[46]⟩) (l ++ [w]) := by
  rcases h with ⟨rfl, rfl⟩ | ⟨t, rfl, h⟩
  · exact .inr ⟨w, by rw [empty_app], by rw [words_one hw]; rfl⟩
  · exact .inr ⟨(t ++ ⟨#[46]⟩) ++ w, rfl, by rw [words_snoc hw, h]⟩
theorem Dots.cut {s : ByteArray} {l : List ByteArray} (h : Dots s l) (hl : l ≠ []) : 1 ≤ s.size ∧ words (s.extract 0 (s.size - 1)) = l := by
  rcases h with ⟨h, _⟩ | ⟨t, rfl, h⟩
  · exact absurd h hl
  · have hz : (t ++ (⟨#[46]⟩ : ByteArray)).size = t.size + 1 := by rw [ByteArray.size_append]; rfl
    refine ⟨by omega, ?_⟩
    rw [hz, Nat.add_sub_cancel]
    have : (t ++ (⟨#[46]⟩ : ByteArray)).extract 0 t.size = t := by
      apply ByteArray.ext
      rw [ByteArray.data_extract, ByteArray.data_append]
      show (t.data ++ _).extract 0 t.data.size = t.data
      simp
    rw [this, h]

/-- words that are no star, no hash -/
def Plain (l : List ByteArray) : Prop := ∀ x ∈ l, x ≠ star ∧ x ≠ hash
theorem mt_plain : ∀ (p k : List ByteArray), Plain p → mt p k = decide (p = k) := by
  intro p
  induction p with
  | nil => intro k _; cases k <;> simp [mt]
  | cons x p ih =>
    intro k h
    have hx := h x (by simp)
    cases k with
    | nil => rw [mt_word_nil hx.2]; simp
    | cons y k =>
      rw [mt_word hx.2, ih k (fun z hz => h z (by simp [hz]))]
      simp [hx.1, Bool.decide_and]
theorem mt_self {l : List ByteArray} (h : Plain l) : mt l l = true := by rw [mt_plain l l h]; simp
theorem Plain.sub {l m : List ByteArray} (h : Plain l) (hs : ∀ x ∈ m, x ∈ l) : Plain m := fun x hx => h x (hs x hx)
theorem mt_starred : ∀ (l : List ByteArray) (f : Nat → Bool) (s : Nat), Plain l → mt (l.zipIdx s |>.map fun x => if f x.2 then star else x.1) l = true := by
  intro l
  induction l with
  | nil => intro f s _; rfl
  | cons x l ih =>
    intro f s h
    have hx := h x (by simp)
    rw [List.zipIdx_cons, List.map_cons]
    dsimp only
    have hh : (if f s = true then star else x) ≠ hash := by
      split
      · decide
      · exact hx.2
    rw [mt_word hh, ih f (s + 1) (fun z hz => h z (by simp [hz]))]
    split <;> simp
theorem mt_all (l : List ByteArray) : mt [hash] l = true := by rw [mt_hash]; exact ⟨l.length, Nat.le_refl _, by simp [mt_nil_nil]⟩
theorem mt_all2 (l : List ByteArray) : mt [hash, hash] l = true := by rw [mt_hash]; exact ⟨0, by omega, mt_all _⟩
/-- with a hash for some of them -/
theorem mt_hashed {l : List ByteArray} (h : Plain l) {a c : Nat} (hac : a ≤ c) (hc : c ≤ l.length) : mt (l.take a ++ hash :: l.drop c) l = true := by
  rw [mt_append]
  refine ⟨a, by omega, mt_self (h.sub fun x hx => List.mem_of_mem_take hx), ?_⟩
  rw [mt_hash]
  refine ⟨c - a, by rw [List.length_drop]; omega, ?_⟩
  rw [List.drop_drop, show a + (c - a) = c by omega]
  exact mt_self (h.sub fun x hx => List.mem_of_mem_drop hx)
/-- with one word else -/
theorem mt_other {l : List ByteArray} (h : Plain l) {a : Nat} (ha : a < l.length) (y : ByteArray) (hy : y ≠ star ∧ y ≠ hash) (hne : y ≠ l[a]) : mt (l.set a y) l = false := by
  have hp : Plain (l.set a y) := fun x hx => by
    rcases List.mem_or_eq_of_mem_set hx with hx | rfl
    · exact h x hx
    · exact hy
  rw [mt_plain _ _ hp]
  rw [decide_eq_false_iff_not]
  intro e
  have e2 : (l.set a y)[a]'(by rw [List.length_set]; exact ha) = l[a] := by simp only [e]
  rw [List.getElem_set_self] at e2
  exact hne e2
/-- the pieces of the pattern with a hash, after i words -/
def pcs (l : List ByteArray) (a c i : Nat) : List ByteArray := if i ≤ a then l.take i else l.take a ++ hash :: (l.take i).drop c
theorem pcs_zero (l : List ByteArray) (a c : Nat) : pcs l a c 0 = [] := by simp [pcs]
theorem pcs_low {l : List ByteArray} {a c i : Nat} (hi : i < a) (hl : i < l.length) : pcs l a c (i + 1) = pcs l a c i ++ [l[i]] := by
  unfold pcs
  rw [if_pos (by omega), if_pos (by omega), List.take_succ_eq_append_getElem hl]
theorem pcs_at {l : List ByteArray} {a c : Nat} (hc : a < c) (hl : a < l.length) : pcs l a c (a + 1) = pcs l a c a ++ [hash] := by
  unfold pcs
  rw [if_neg (by omega), if_pos (Nat.le_refl _), List.drop_eq_nil_of_le (by rw [List.length_take]; omega)]
theorem pcs_none {l : List ByteArray} {a c i : Nat} (hi : a < i) (hic : i < c) (hl : i < l.length) : pcs l a c (i + 1) = pcs l a c i := by
  unfold pcs
  rw [if_neg (by omega), if_neg (by omega), List.drop_eq_nil_of_le (by rw [List.length_take]; omega), List.drop_eq_nil_of_le (by rw [List.length_take]; omega)]
theorem pcs_high {l : List ByteArray} {a c i : Nat} (hi : a < i) (hic : c ≤ i) (hl : i < l.length) : pcs l a c (i + 1) = pcs l a c i ++ [l[i]] := by
  unfold pcs
  rw [if_neg (by omega), if_neg (by omega), List.take_succ_eq_append_getElem hl, List.drop_append_of_le_length (by rw [List.length_take]; omega)]
  simp
theorem pcs_ne {l : List ByteArray} {a c i : Nat} (hi : a < i) : pcs l a c i ≠ [] := by
  unfold pcs
  rw [if_neg (by omega)]
  simp
theorem pcs_all {l : List ByteArray} {a c : Nat} (h : Plain l) (ha : a < l.length) (hac : a ≤ c) (hc : c ≤ l.length) : mt (pcs l a c l.length) l = true := by
  unfold pcs
  rw [if_neg (by omega), List.take_of_length_le (Nat.le_refl l.length)]
  exact mt_hashed h hac hc
end Go.Proofs.YthaoplcmkaaflaaDoor
