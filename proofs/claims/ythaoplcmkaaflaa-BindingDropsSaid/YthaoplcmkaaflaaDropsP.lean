import Derived.Test.YthaoplcmkaaflaaBdE
import Derived.Test.YthaoplcmkaaflaaChr
namespace Go.Proofs.Ythaoplcmkaaflaa

theorem length_le_of_sub {α : Type} [DecidableEq α] : ∀ (l m : List α), l.Nodup → (∀ x ∈ l, x ∈ m) → l.length ≤ m.length := by
  intro l
  induction l with
  | nil => intro m _ _; simp
  | cons x l ih =>
    intro m hn hs
    have hx := hs x (by simp)
    have := ih (m.erase x) (List.nodup_cons.1 hn).2 (fun y hy => (List.mem_erase_of_ne (fun e => (List.nodup_cons.1 hn).1 (by rw [← e]; exact hy))).2 (hs y (by simp [hy])))
    rw [List.length_erase_of_mem hx] at this
    have := List.length_pos_of_mem hx
    simp only [List.length_cons]
    omega

def uq (o : List ByteArray) (x : ByteArray) : List ByteArray := if o.any (fun y => decide (x = y)) then o else o ++ [x]
theorem uniq_eq (l : List ByteArray) : uniq l = l.foldl uq [] := rfl
theorem uq_any (o : List ByteArray) (x : ByteArray) : (o.any fun y => decide (x = y)) = true ↔ x ∈ o := by
  rw [List.any_eq_true]
  exact ⟨fun ⟨y, hy, he⟩ => of_decide_eq_true he ▸ hy, fun h => ⟨x, h, decide_eq_true rfl⟩⟩
theorem uq_in {o : List ByteArray} {x : ByteArray} (h : x ∈ o) : uq o x = o := if_pos ((uq_any o x).2 h)
theorem uq_out {o : List ByteArray} {x : ByteArray} (h : ¬ x ∈ o) : uq o x = o ++ [x] := if_neg (fun e => h ((uq_any o x).1 e))
theorem mem_uq (l o : List ByteArray) (x : ByteArray) : x ∈ l.foldl uq o ↔ x ∈ o ∨ x ∈ l := by
  induction l generalizing o with
  | nil => simp
  | cons y l ih =>
    rw [List.foldl_cons, ih]
    by_cases h : y ∈ o
    · rw [uq_in h, List.mem_cons]
      exact ⟨fun h => h.imp id .inr, fun h' => h'.elim .inl (fun h' => h'.elim (fun e => .inl (e ▸ h)) .inr)⟩
    · rw [uq_out h, List.mem_append, List.mem_singleton, List.mem_cons, or_assoc]
theorem mem_uniq (l : List ByteArray) (x : ByteArray) : x ∈ uniq l ↔ x ∈ l := by rw [uniq_eq, mem_uq]; simp
theorem nodup_uq (l o : List ByteArray) (h : o.Nodup) : (l.foldl uq o).Nodup := by
  induction l generalizing o with
  | nil => exact h
  | cons y l ih =>
    rw [List.foldl_cons]
    apply ih
    by_cases hy : y ∈ o
    · rw [uq_in hy]; exact h
    · rw [uq_out hy]
      exact List.nodup_append.2 ⟨h, by simp, fun a ha b hb e => by simp at hb; subst hb; subst e; exact hy ha⟩
theorem nodup_uniq (l : List ByteArray) : (uniq l).Nodup := nodup_uq l [] List.nodup_nil

def bOf (k : Nat) : Bd := ⟨chr1 (120 + (k : Int) % 3), chr1 (97 + (k : Int) / 3 % 4), chr1 (48 + (k : Int) / 12)⟩
theorem bOf_inj {i j : Nat} (hi : i < 64) (hj : j < 64) (h : bOf i = bOf j) : i = j := by
  injection h with h1 h2 h3
  have := chr1_inj (by omega) (by omega) h1
  have := chr1_inj (by omega) (by omega) h2
  have := chr1_inj (by omega) (by omega) h3
  omega
theorem any_bOf {ks : List Nat} (hk : ∀ k ∈ ks, k < 64) {k : Nat} (h : k < 64) : ((ks.map bOf).any fun y => decide (bOf k = y)) = decide (k ∈ ks) := by
  rw [Bool.eq_iff_iff, List.any_eq_true, decide_eq_true_iff]
  constructor
  · rintro ⟨y, hy, he⟩
    obtain ⟨j, hj, rfl⟩ := List.mem_map.1 hy
    rw [bOf_inj h (hk j hj) (of_decide_eq_true he)]
    exact hj
  · exact fun hm => ⟨bOf k, List.mem_map_of_mem hm, decide_eq_true rfl⟩
def addK (ks : List Nat) (k : Nat) : List Nat := if k ∈ ks then ks else ks ++ [k]
theorem add_bOf {ks : List Nat} (hk : ∀ k ∈ ks, k < 64) {k : Nat} (h : k < 64) (hl : ks.length < 40) : addOk (ks.map bOf) (bOf k) = !decide (k ∈ ks) ∧ addErr (ks.map bOf) (bOf k) = 0 ∧ addL (ks.map bOf) (bOf k) = (addK ks k).map bOf := by
  have hL : decide ((ks.map bOf).length < 40) = true := decide_eq_true (by rw [List.length_map]; exact hl)
  have h1 : addOk (ks.map bOf) (bOf k) = !decide (k ∈ ks) := by unfold addOk; rw [any_bOf hk h, hL, Bool.and_true]
  refine ⟨h1, ?_, ?_⟩
  · unfold addErr; rw [hL, Bool.or_true]; rfl
  · unfold addL addK
    rw [h1]
    by_cases hm : k ∈ ks <;> simp [hm]
theorem addK_nodup {ks : List Nat} (hn : ks.Nodup) (k : Nat) : (addK ks k).Nodup := by
  unfold addK
  split
  · exact hn
  · rename_i h
    exact List.nodup_append.2 ⟨hn, by simp, fun a ha b hb e => by simp at hb; subst hb; subst e; exact h ha⟩
theorem addK_lt {ks : List Nat} (hk : ∀ k ∈ ks, k < 64) {k : Nat} (h : k < 64) : ∀ j ∈ addK ks k, j < 64 := by
  unfold addK
  split
  · exact hk
  · intro j hj
    rcases List.mem_append.1 hj with hj | hj
    · exact hk j hj
    · simp at hj; omega
theorem addK_len (ks : List Nat) (k : Nat) : (addK ks k).length ≤ ks.length + 1 := by unfold addK; split <;> simp
theorem addK_mem (ks : List Nat) (k : Nat) : (fun j => if j = k then true else decide (j ∈ ks)) = fun j => decide (j ∈ addK ks k) := by
  funext j
  unfold addK
  by_cases hm : k ∈ ks
  · rw [if_pos hm]
    by_cases hj : j = k
    · subst hj; simp [hm]
    · simp [hj]
  · rw [if_neg hm]
    by_cases hj : j = k
    · subst hj; simp
    · simp [hj]
def onQ (q k : Nat) : Bool := decide (k / 3 % 4 = q)
theorem bOf_q {k q : Nat} (hq : q < 4) : decide ((bOf k).q = chr1 (97 + (q : Int))) = onQ q k := by
  unfold onQ
  rw [Bool.eq_iff_iff, decide_eq_true_iff, decide_eq_true_iff]
  constructor
  · intro h
    have := chr1_inj (a := 97 + (k : Int) / 3 % 4) (by omega) (by omega) h
    omega
  · intro h
    show chr1 (97 + (k : Int) / 3 % 4) = _
    rw [show (97 + (k : Int) / 3 % 4) = 97 + (q : Int) by omega]
theorem filter_left (ks : List Nat) {q : Nat} (hq : q < 4) : ((ks.map bOf).filter fun b => !decide (b.q = chr1 (97 + (q : Int)))) = (ks.filter fun k => !onQ q k).map bOf := by
  rw [List.filter_map]
  congr 1
  apply List.filter_congr
  intro k _
  show (!decide ((bOf k).q = _)) = _
  rw [bOf_q hq]
theorem exsOf_bOf (ks : List Nat) {q : Nat} (hq : q < 4) : exsOf (ks.map bOf) (chr1 (97 + (q : Int))) = uniq ((ks.filter (onQ q)).map fun k : Nat => chr1 (120 + (k : Int) % 3)) := by
  unfold exsOf
  rw [List.filter_map, List.map_map]
  congr 2
  apply List.filter_congr
  intro k _
  exact bOf_q hq
theorem exsOf_none (l : List Bd) (s : ByteArray) : exsOf (l.filter fun b => !decide (b.q = s)) s = [] := by
  unfold exsOf
  rw [List.filter_filter]
  have : (l.filter fun b => decide (b.q = s) && !decide (b.q = s)) = [] := List.filter_eq_nil_iff.2 (fun b _ => by simp)
  rw [this]; rfl
theorem count_all {ks : List Nat} (hn : ks.Nodup) (hk : ∀ k ∈ ks, k < 64) (p : Nat → Bool) : (ks.filter p).length = ((List.range 64).filter fun k => decide (k ∈ ks) && p k).length := by
  have h1 : ∀ x, x ∈ ks.filter p ↔ x ∈ (List.range 64).filter fun k => decide (k ∈ ks) && p k := by
    intro x
    simp only [List.mem_filter, List.mem_range, Bool.and_eq_true, decide_eq_true_iff]
    exact ⟨fun ⟨a, b⟩ => ⟨hk x a, a, b⟩, fun ⟨_, a, b⟩ => ⟨a, b⟩⟩
  exact Nat.le_antisymm (length_le_of_sub _ _ (hn.filter p) (fun x hx => (h1 x).1 hx)) (length_le_of_sub _ _ (List.nodup_range.filter _) (fun x hx => (h1 x).2 hx))

/-- what lies behind the first loop -/
def wasAt (ks : List Nat) (q k j : Nat) : Bool := ((List.range k).filter fun i => decide (i ∈ ks) && onQ q i).any fun i => decide (i % 3 = j)
theorem wasAt_succ (ks : List Nat) (q k j : Nat) : wasAt ks q (k + 1) j = (wasAt ks q k j || ((decide (k ∈ ks) && onQ q k) && decide (k % 3 = j))) := by
  unfold wasAt
  rw [List.range_succ, List.filter_append, List.any_append]
  congr 1
  cases h : (decide (k ∈ ks) && onQ q k) <;> simp [h]
def leftAt (ks : List Nat) (q k : Nat) : Nat := ((List.range k).filter fun i => decide (i ∈ ks) && !onQ q i).length
theorem leftAt_succ (ks : List Nat) (q k : Nat) : leftAt ks q (k + 1) = leftAt ks q k + if (decide (k ∈ ks) && !onQ q k) = true then 1 else 0 := by
  unfold leftAt
  rw [List.range_succ, List.filter_append, List.length_append]
  congr 1
  cases h : (decide (k ∈ ks) && !onQ q k) <;> simp [h]
theorem wasAt_t {ks : List Nat} {q k : Nat} (hm : decide (k ∈ ks) = true) (ho : onQ q k = true) : (fun j => if j = k % 3 then true else wasAt ks q k j) = fun j => wasAt ks q (k + 1) j := by
  funext j
  rw [wasAt_succ, hm, ho]
  by_cases h : j = k % 3
  · rw [if_pos h, h]; simp
  · rw [if_neg h, decide_eq_false (fun e => h e.symm)]; simp
theorem wasAt_f {ks : List Nat} {q k : Nat} (h : (decide (k ∈ ks) && onQ q k) = false) : (fun j => wasAt ks q k j) = fun j => wasAt ks q (k + 1) j := by
  funext j
  rw [wasAt_succ, h]; simp
theorem leftAt_le (ks : List Nat) (q k : Nat) : leftAt ks q k ≤ k := by
  unfold leftAt
  exact Nat.le_trans (List.length_filter_le ..) (by simp)
/-- the exchanges that are told -/
def told (ks : List Nat) (q : Nat) : List ByteArray := uniq ((ks.filter (onQ q)).map fun k : Nat => chr1 (120 + (k : Int) % 3))
theorem mem_told {ks : List Nat} (hk : ∀ k ∈ ks, k < 64) (q j : Nat) (hj : j < 3) : chr1 (120 + (j : Int)) ∈ told ks q ↔ wasAt ks q 64 j = true := by
  unfold told wasAt
  rw [mem_uniq, List.mem_map, List.any_eq_true]
  constructor
  · rintro ⟨k, hm, he⟩
    obtain ⟨h1, h2⟩ := List.mem_filter.1 hm
    have := chr1_inj (by omega) (by omega) he
    exact ⟨k, List.mem_filter.2 ⟨List.mem_range.2 (hk k h1), by rw [decide_eq_true h1, h2]; rfl⟩, decide_eq_true (by omega)⟩
  · rintro ⟨k, hm, he⟩
    obtain ⟨_, h2⟩ := List.mem_filter.1 hm
    rw [Bool.and_eq_true, decide_eq_true_iff] at h2
    have := of_decide_eq_true he
    exact ⟨k, List.mem_filter.2 h2, by rw [show (120 + (k : Int) % 3) = 120 + (j : Int) by omega]⟩
theorem told_form {ks : List Nat} {q : Nat} {x : ByteArray} (h : x ∈ told ks q) : ∃ j : Nat, j < 3 ∧ x = chr1 (120 + (j : Int)) := by
  unfold told at h
  rw [mem_uniq, List.mem_map] at h
  obtain ⟨k, _, rfl⟩ := h
  exact ⟨k % 3, Nat.mod_lt _ (by omega), congrArg chr1 (by omega)⟩
theorem told_len (ks : List Nat) (q : Nat) : (told ks q).length ≤ 3 := by
  refine length_le_of_sub (told ks q) [chr1 120, chr1 121, chr1 122] (nodup_uniq _) (fun x hx => ?_)
  obtain ⟨j, hj, rfl⟩ := told_form hx
  have : j = 0 ∨ j = 1 ∨ j = 2 := by omega
  rcases this with rfl | rfl | rfl <;> simp
/-- what is left to be told -/
def leftTold (ks : List Nat) (q i j : Nat) : Bool := wasAt ks q 64 j && !((told ks q).take i).any fun y => decide (chr1 (120 + (j : Int)) = y)
theorem leftTold_succ (ks : List Nat) (q i j m : Nat) (hj : j < 3) (hm : m < 3) (h : i < (told ks q).length) (he : (told ks q)[i] = chr1 (120 + (m : Int))) : leftTold ks q (i + 1) j = if j = m then false else leftTold ks q i j := by
  unfold leftTold
  rw [List.take_succ_eq_append_getElem h, List.any_append, he]
  by_cases hjm : j = m
  · subst hjm; simp
  · have : ¬ chr1 (120 + (j : Int)) = chr1 (120 + (m : Int)) := fun e => hjm (by have := chr1_inj (by omega) (by omega) e; omega)
    rw [if_neg hjm]; simp [this]
theorem leftTold_at {ks : List Nat} (hk : ∀ k ∈ ks, k < 64) {q i m : Nat} (hm : m < 3) (h : i < (told ks q).length) (he : (told ks q)[i] = chr1 (120 + (m : Int))) : leftTold ks q i m = true := by
  unfold leftTold
  rw [(mem_told hk q m hm).1 (he ▸ List.getElem_mem h), Bool.true_and, Bool.not_eq_true', List.any_eq_false]
  intro y hy hd
  have e := of_decide_eq_true hd
  obtain ⟨n, hn, hny⟩ := List.getElem_of_mem hy
  rw [List.getElem_take] at hny
  have hni : n < i := by simp at hn; omega
  have hnd : (told ks q).Nodup := nodup_uniq _
  exact (List.pairwise_iff_getElem.1 hnd) n i (by omega) h hni (by rw [hny, he, e])
theorem leftTold_end {ks : List Nat} (hk : ∀ k ∈ ks, k < 64) (q j : Nat) (hj : j < 3) : leftTold ks q (told ks q).length j = false := by
  unfold leftTold
  cases h : wasAt ks q 64 j with
  | false => rfl
  | true =>
    rw [List.take_length, List.any_eq_true.2 ⟨_, (mem_told hk q j hj).2 h, decide_eq_true rfl⟩]; rfl
end Go.Proofs.Ythaoplcmkaaflaa
