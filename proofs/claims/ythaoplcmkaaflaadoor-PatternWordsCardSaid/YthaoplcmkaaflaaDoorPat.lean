namespace Go.Proofs.YthaoplcmkaaflaaDoor

/-! ### Keys, words, patterns -/
def star : ByteArray := ⟨#[42]⟩
def hash : ByteArray := ⟨#[35]⟩
def spl : List UInt8 → List (List UInt8)
  | [] => [[]]
  | b :: l => if b = 46 then [] :: spl l else match spl l with
    | [] => [[b]]
    | x :: xs => (b :: x) :: xs
def bOfL (l : List UInt8) : ByteArray := ⟨l.toArray⟩
def words (s : ByteArray) : List ByteArray := (spl s.data.toList).map bOfL
theorem spl_ne (l : List UInt8) : spl l ≠ [] := by
  cases l with
  | nil => simp [spl]
  | cons b l =>
    unfold spl
    split
    · simp
    · split <;> simp
theorem words_pos (s : ByteArray) : 0 < (words s).length := by
  unfold words
  rw [List.length_map]
  exact List.length_pos_iff.2 (spl_ne _)
theorem spl_len (l : List UInt8) : (spl l).length ≤ l.length + 1 := by
  induction l with
  | nil => simp [spl]
  | cons b l ih =>
    unfold spl
    split
    · simp; omega
    · split
      · simp
      · rename_i h; rw [h] at ih; simp at ih ⊢; omega
theorem spl_cat (l : List UInt8) (h : (46 : UInt8) ∉ l) : spl l = [l] := by
  induction l with
  | nil => rfl
  | cons b l ih =>
    simp at h
    unfold spl
    rw [if_neg (fun e => h.1 e.symm), ih h.2]
theorem spl_hit (l r : List UInt8) (h : (46 : UInt8) ∉ l) : spl (l ++ 46 :: r) = l :: spl r := by
  induction l with
  | nil => simp [spl]
  | cons b l ih =>
    simp at h
    rw [List.cons_append]
    conv => lhs; unfold spl
    rw [if_neg (fun e => h.1 e.symm), ih h.2]
theorem spl_mem (l : List UInt8) : ∀ x ∈ spl l, (46 : UInt8) ∉ x ∧ x.length ≤ l.length := by
  induction l with
  | nil => simp [spl]
  | cons b l ih =>
    unfold spl
    split
    · intro x hx
      rcases List.mem_cons.1 hx with rfl | hx
      · simp
      · exact ⟨(ih x hx).1, by have := (ih x hx).2; simp; omega⟩
    · rename_i hb
      split
      · intro x hx
        obtain rfl : x = [b] := by simpa using hx
        simp; exact fun e => hb e.symm
      · rename_i x xs he
        rw [he] at ih
        intro y hy
        rcases List.mem_cons.1 hy with rfl | hy
        · have := ih x (by simp)
          refine ⟨?_, by simp; exact this.2⟩
          simp
          exact ⟨fun e => hb e.symm, this.1⟩
        · exact ⟨(ih y (by simp [hy])).1, by have := (ih y (by simp [hy])).2; simp; omega⟩

def mt : List ByteArray → List ByteArray → Bool
  | [], k => k.isEmpty
  | x :: p, k => if x = hash then (List.range (k.length + 1)).any (fun f => mt p (k.drop f)) else match k with
    | [] => false
    | y :: k' => (decide (x = star) || decide (x = y)) && mt p k'
def matches_ (p k : ByteArray) : Bool := mt (words p) (words k)

theorem mt_hash (p k : List ByteArray) : mt (hash :: p) k = true ↔ ∃ f, f ≤ k.length ∧ mt p (k.drop f) = true := by
  rw [mt.eq_def]
  dsimp only
  rw [if_pos rfl, List.any_eq_true]
  constructor
  · rintro ⟨f, hf, h⟩; exact ⟨f, by have := List.mem_range.1 hf; omega, h⟩
  · rintro ⟨f, hf, h⟩; exact ⟨f, List.mem_range.2 (by omega), h⟩
theorem mt_nil_nil : mt [] [] = true := rfl
theorem mt_nil (k : List ByteArray) : mt [] k = true ↔ k = [] := by cases k <;> simp [mt]
theorem mt_word_nil {x : ByteArray} (hx : x ≠ hash) (p : List ByteArray) : mt (x :: p) [] = false := by unfold mt; rw [if_neg hx]
theorem mt_word {x : ByteArray} (hx : x ≠ hash) (p : List ByteArray) (y : ByteArray) (k : List ByteArray) : mt (x :: p) (y :: k) = ((decide (x = star) || decide (x = y)) && mt p k) := by
  conv => lhs; unfold mt
  rw [if_neg hx]

/-- what comes ahead of a hash -/
theorem mt_seg (p k : List ByteArray) : ∀ (d a i f : Nat), i = a + d → (hi : i < p.length) → p[i] = hash → (∀ q (hq : q < p.length), a ≤ q → q < i → p[q] ≠ hash) → mt (p.drop a) (k.drop f) = true → f ≤ k.length →
    ∃ f', f + d ≤ f' ∧ f' ≤ k.length ∧ mt (p.drop (i + 1)) (k.drop f') = true := by
  intro d
  induction d with
  | zero =>
    intro a i f hd hi hh _ h hf
    obtain rfl : i = a := by omega
    rw [List.drop_eq_getElem_cons hi, hh, mt_hash] at h
    obtain ⟨g, hg, h⟩ := h
    rw [List.length_drop] at hg
    exact ⟨f + g, by omega, by omega, by rw [List.drop_drop] at h; exact h⟩
  | succ d ih =>
    intro a i f hd hi hh hno h hf
    have ha : a < p.length := by omega
    have hx := hno a ha (Nat.le_refl _) (by omega)
    rw [List.drop_eq_getElem_cons ha] at h
    by_cases hfk : f < k.length
    · rw [List.drop_eq_getElem_cons hfk, mt_word hx] at h
      simp only [Bool.and_eq_true] at h
      obtain ⟨f', h1, h2, h3⟩ := ih (a + 1) i (f + 1) (by omega) hi hh (fun q hq h1 h2 => hno q hq (by omega) h2) h.2 (by omega)
      exact ⟨f', by omega, h2, h3⟩
    · rw [show k.drop f = [] from List.drop_eq_nil_of_le (by omega), mt_word_nil hx] at h
      cases h

/-- where the search stands: at i, j; the last hash is at s - 1 (0: none yet), tried from 'fr' on -/
structure Bt (p k : List ByteArray) (i j s fr : Nat) : Prop where
  iff : mt p k = true ↔ (mt (p.drop i) (k.drop j) = true ∨ (0 < s ∧ ∃ f, fr < f ∧ f ≤ k.length ∧ mt (p.drop s) (k.drop f) = true))
  hi : i ≤ p.length
  hj : j ≤ k.length
  hf : fr ≤ k.length
  hs : 0 < s → s ≤ i ∧ j = fr + (i - s) ∧ ∀ q (hq : q < p.length), s ≤ q → q < i → p[q] ≠ hash
section
variable {p k : List ByteArray} {i j s fr : Nat}
theorem Bt.start : Bt p k 0 0 0 0 := ⟨by simp, Nat.zero_le _, Nat.zero_le _, Nat.zero_le _, fun h => absurd h (by omega)⟩
theorem Bt.hash_ (h : Bt p k i j s fr) (hi : i < p.length) (hh : p[i] = hash) : Bt p k (i + 1) j (i + 1) j := by
  refine ⟨?_, hi, h.hj, h.hj, fun _ => ⟨Nat.le_refl _, by omega, fun q _ h1 h2 => by omega⟩⟩
  rw [h.iff, List.drop_eq_getElem_cons hi, hh, mt_hash]
  constructor
  · rintro (⟨f, hf, hm⟩ | ⟨hs, f, h1, h2, h3⟩)
    · rw [List.length_drop] at hf
      rw [List.drop_drop] at hm
      rcases Nat.eq_zero_or_pos f with rfl | h0
      · exact .inl hm
      · exact .inr ⟨by omega, j + f, by omega, by have := h.hj; omega, hm⟩
    · obtain ⟨hsi, hj, hno⟩ := h.hs hs
      obtain ⟨f', g1, g2, g3⟩ := mt_seg p k (i - s) s i f (by omega) hi hh hno h3 h2
      exact .inr ⟨by omega, f', by omega, g2, g3⟩
  · rintro (hm | ⟨_, f, h1, h2, h3⟩)
    · exact .inl ⟨0, by omega, hm⟩
    · refine .inl ⟨f - j, by rw [List.length_drop]; omega, ?_⟩
      rw [List.drop_drop, show j + (f - j) = f by omega]
      exact h3
theorem Bt.word (h : Bt p k i j s fr) (hi : i < p.length) (hj : j < k.length) (hh : p[i] ≠ hash) (he : p[i] = star ∨ p[i] = k[j]) : Bt p k (i + 1) (j + 1) s fr := by
  refine ⟨?_, hi, hj, h.hf, fun hs => ?_⟩
  · rw [h.iff, List.drop_eq_getElem_cons hi, List.drop_eq_getElem_cons hj, mt_word hh]
    have : (decide (p[i] = star) || decide (p[i] = k[j])) = true := by simpa using he
    rw [this, Bool.true_and]
  · obtain ⟨h1, h2, h3⟩ := h.hs hs
    refine ⟨by omega, by omega, fun q hq h4 h5 => ?_⟩
    by_cases hqi : q = i
    · subst hqi; exact hh
    · exact h3 q hq h4 (by omega)
theorem Bt.done (h : Bt p k i j s fr) (hi : i = p.length) (hj : j = k.length) : mt p k = true := by
  rw [h.iff, hi, hj]; simp [mt_nil_nil]
/-- nothing fits here -/
def Stuck (p k : List ByteArray) (i j : Nat) : Prop := (∀ (hi : i < p.length), p[i] ≠ hash) ∧ (∀ (hi : i < p.length) (hj : j < k.length), ¬ (p[i] = star ∨ p[i] = k[j])) ∧ ¬ (i = p.length ∧ j = k.length)
theorem Bt.stuck (h : Bt p k i j s fr) (hs : Stuck p k i j) : mt (p.drop i) (k.drop j) = false := by
  obtain ⟨h1, h2, h3⟩ := hs
  by_cases hi : i < p.length
  · rw [List.drop_eq_getElem_cons hi]
    by_cases hj : j < k.length
    · rw [List.drop_eq_getElem_cons hj, mt_word (h1 hi)]
      have : (decide (p[i] = star) || decide (p[i] = k[j])) = false := by simpa using h2 hi hj
      rw [this]; rfl
    · rw [show k.drop j = [] from List.drop_eq_nil_of_le (by omega), mt_word_nil (h1 hi)]
  · rw [show p.drop i = [] from List.drop_eq_nil_of_le (by omega)]
    have hj : j < k.length := by have := h.hi; have := h.hj; omega
    cases hm : mt [] (k.drop j) with
    | false => rfl
    | true =>
      rw [mt_nil] at hm
      have := List.drop_eq_nil_iff.1 hm
      omega
theorem Bt.fail (h : Bt p k i j s fr) (hs : Stuck p k i j) (he : s = 0 ∨ fr = k.length) : mt p k = false := by
  cases hm : mt p k with
  | false => rfl
  | true =>
    rw [h.iff, h.stuck hs] at hm
    rcases hm with hm | ⟨h0, f, h1, h2, _⟩
    · cases hm
    · omega
theorem Bt.back (h : Bt p k i j s fr) (hs : Stuck p k i j) (h0 : 0 < s) (hf : fr < k.length) : Bt p k s (fr + 1) s (fr + 1) := by
  obtain ⟨h1, h2, h3⟩ := h.hs h0
  refine ⟨?_, by have := h.hi; omega, hf, hf, fun _ => ⟨Nat.le_refl _, by omega, fun q _ h4 h5 => by omega⟩⟩
  rw [h.iff, h.stuck hs]
  constructor
  · rintro (hm | ⟨_, f, g1, g2, g3⟩)
    · cases hm
    · by_cases hff : f = fr + 1
      · subst hff; exact .inl g3
      · exact .inr ⟨h0, f, by omega, g2, g3⟩
  · rintro (hm | ⟨_, f, g1, g2, g3⟩)
    · exact .inr ⟨h0, fr + 1, by omega, hf, hm⟩
    · exact .inr ⟨h0, f, by omega, g2, g3⟩
end

theorem mt_append (q : List ByteArray) : ∀ (p k : List ByteArray), mt (p ++ q) k = true ↔ ∃ c, c ≤ k.length ∧ mt p (k.take c) = true ∧ mt q (k.drop c) = true := by
  intro p
  induction p with
  | nil =>
    intro k
    constructor
    · intro h; exact ⟨0, by omega, by simp [mt_nil_nil], h⟩
    · rintro ⟨c, hc, h1, h2⟩
      rw [mt_nil] at h1
      have h0 : (k.take c).length = 0 := by rw [h1]; rfl
      rw [List.length_take] at h0
      obtain rfl : c = 0 := by omega
      exact h2
  | cons x p ih =>
    intro k
    by_cases hx : x = hash
    · subst hx
      rw [List.cons_append, mt_hash]
      constructor
      · rintro ⟨f, hf, h⟩
        obtain ⟨c, hc, h1, h2⟩ := (ih _).1 h
        rw [List.length_drop] at hc
        rw [List.drop_drop] at h2
        refine ⟨f + c, by omega, ?_, h2⟩
        rw [mt_hash]
        refine ⟨f, by rw [List.length_take]; omega, ?_⟩
        rw [List.drop_take, show f + c - f = c by omega]
        exact h1
      · rintro ⟨c, hc, h1, h2⟩
        rw [mt_hash] at h1
        obtain ⟨f, hf, h1⟩ := h1
        rw [List.length_take] at hf
        refine ⟨f, by omega, (ih _).2 ⟨c - f, by rw [List.length_drop]; omega, ?_, ?_⟩⟩
        · rw [List.drop_take] at h1; exact h1
        · rw [List.drop_drop, show f + (c - f) = c by omega]; exact h2
    · rw [List.cons_append]
      cases k with
      | nil =>
        rw [mt_word_nil hx]
        constructor
        · intro h; cases h
        · rintro ⟨c, hc, h1, h2⟩
          rw [List.take_nil, mt_word_nil hx] at h1; cases h1
      | cons y k =>
        rw [mt_word hx]
        simp only [Bool.and_eq_true]
        constructor
        · rintro ⟨h0, h⟩
          obtain ⟨c, hc, h1, h2⟩ := (ih _).1 h
          refine ⟨c + 1, by simp; omega, ?_, by rw [List.drop_succ_cons]; exact h2⟩
          rw [List.take_succ_cons, mt_word hx]
          simp only [Bool.and_eq_true]
          exact ⟨h0, h1⟩
        · rintro ⟨c, hc, h1, h2⟩
          cases c with
          | zero => rw [List.take_zero, mt_word_nil hx] at h1; cases h1
          | succ c =>
            rw [List.take_succ_cons, mt_word hx] at h1
            simp only [Bool.and_eq_true] at h1
            rw [List.drop_succ_cons] at h2
            exact ⟨h1.1, (ih _).2 ⟨c, by simpa using hc, h1.2, h2⟩⟩

/-- the table: after i words of the pattern, at c words of the key -/
def row (p k : List ByteArray) (i c : Nat) : Bool := mt (p.take i) (k.take c)
theorem row_zero (p k : List ByteArray) (c : Nat) (hk : 0 < k.length) : row p k 0 c = decide (c = 0) := by
  unfold row
  rw [List.take_zero]
  cases c with
  | zero => simp [mt_nil_nil]
  | succ c =>
    cases h : mt [] (k.take (c + 1)) with
    | false => simp
    | true =>
      rw [mt_nil] at h
      have h0 : (k.take (c + 1)).length = 0 := by rw [h]; rfl
      rw [List.length_take] at h0
      omega
theorem row_hash (p k : List ByteArray) (i c : Nat) (hi : i < p.length) (hc : c ≤ k.length) (hh : p[i] = hash) : row p k (i + 1) c = (row p k i c || (decide (0 < c) && row p k (i + 1) (c - 1))) := by
  unfold row
  rw [List.take_succ_eq_append_getElem hi, hh, Bool.eq_iff_iff]
  simp only [Bool.or_eq_true, Bool.and_eq_true, decide_eq_true_eq]
  rw [mt_append, mt_append]
  have hl : ∀ d, d ≤ k.length → (k.take d).length = d := fun d hd => by rw [List.length_take]; omega
  have ht : ∀ (l : List ByteArray), mt [hash] l = true := fun l => by rw [mt_hash]; exact ⟨l.length, Nat.le_refl _, by simp [mt_nil_nil]⟩
  simp only [ht, and_true]
  constructor
  · rintro ⟨d, hd, h⟩
    rw [hl c hc] at hd
    by_cases hdc : d = c
    · subst hdc; left; rw [List.take_take, Nat.min_self] at h; exact h
    · right
      refine ⟨by omega, d, by rw [hl _ (by omega)]; omega, ?_⟩
      rw [List.take_take, Nat.min_eq_left (by omega)] at h ⊢
      exact h
  · rintro (h | ⟨h0, d, hd, h⟩)
    · exact ⟨c, by rw [hl c hc]; exact Nat.le_refl _, by rw [List.take_take, Nat.min_self]; exact h⟩
    · rw [hl _ (by omega)] at hd
      refine ⟨d, by rw [hl c hc]; omega, ?_⟩
      rw [List.take_take, Nat.min_eq_left (by omega)] at h ⊢
      exact h
theorem row_word (p k : List ByteArray) (i c : Nat) (hi : i < p.length) (hc : c < k.length) (hh : p[i] ≠ hash) : row p k (i + 1) (c + 1) = (row p k i c && (decide (p[i] = star) || decide (p[i] = k[c]))) := by
  unfold row
  rw [List.take_succ_eq_append_getElem hi, List.take_succ_eq_append_getElem hc, Bool.eq_iff_iff, mt_append]
  have hl : (k.take c ++ [k[c]]).length = c + 1 := by simp; omega
  have hl2 : (k.take c).length = c := by rw [List.length_take]; omega
  constructor
  · rintro ⟨d, hd, h1, h2⟩
    rw [hl] at hd
    rcases Nat.lt_or_ge d (c + 1) with h3 | h3
    · rcases Nat.lt_or_ge d c with h4 | h4
      · rw [List.drop_append_of_le_length (by omega)] at h2
        have h5 : k.take c = (k.take c).take d ++ (k.take c).drop d := (List.take_append_drop d _).symm
        cases h6 : (k.take c).drop d with
        | nil => have := List.drop_eq_nil_iff.1 h6; omega
        | cons y ys =>
          rw [h6, List.cons_append, mt_word hh] at h2
          simp only [Bool.and_eq_true] at h2
          have := (mt_nil _).1 h2.2
          simp at this
      · obtain rfl : d = c := by omega
        rw [List.take_append_of_le_length (by omega), show (k.take d).take d = k.take d from List.take_of_length_le (by omega)] at h1
        rw [List.drop_append_of_le_length (by omega), show (k.take d).drop d = [] from List.drop_eq_nil_of_le (by omega), List.nil_append, mt_word hh] at h2
        simp only [Bool.and_eq_true] at h2 ⊢
        exact ⟨h1, h2.1⟩
    · rw [List.drop_eq_nil_of_le (by omega), mt_word_nil hh] at h2
      cases h2
  · intro h
    simp only [Bool.and_eq_true] at h
    refine ⟨c, by omega, ?_, ?_⟩
    · rw [List.take_append_of_le_length (by omega), show (k.take c).take c = k.take c from List.take_of_length_le (by omega)]; exact h.1
    · rw [List.drop_append_of_le_length (by omega), show (k.take c).drop c = [] from List.drop_eq_nil_of_le (by omega), List.nil_append, mt_word hh, h.2]; rfl
theorem row_word0 (p k : List ByteArray) (i : Nat) (hi : i < p.length) (hh : p[i] ≠ hash) : row p k (i + 1) 0 = false := by
  unfold row
  rw [List.take_succ_eq_append_getElem hi, List.take_zero]
  cases h : mt (p.take i ++ [p[i]]) [] with
  | false => rfl
  | true =>
    obtain ⟨c, _, _, h2⟩ := (mt_append _ _ _).1 h
    rw [List.drop_nil, mt_word_nil hh] at h2
    cases h2
theorem row_end (p k : List ByteArray) : row p k p.length k.length = mt p k := by unfold row; simp
end Go.Proofs.YthaoplcmkaaflaaDoor
