import Derived.Test.YthaoplcmkaaflaaRefC
namespace Go.Proofs.Ythaoplcmkaaflaa
open Go.RowKit

theorem dropL_filter {l : List Bd} (h : l.Nodup) (x : Bd) : dropL l x = l.filter fun b => !decide (b = x) := by
  unfold dropL
  induction l with
  | nil => rfl
  | cons y l ih =>
    obtain ⟨hy, hn⟩ := List.nodup_cons.1 h
    rw [List.findIdx_cons]
    by_cases hx : x = y
    · subst hx
      simp only [decide_true, cond_true, List.eraseIdx_cons_zero, List.filter_cons, Bool.not_true, Bool.false_eq_true, if_false]
      rw [List.filter_eq_self.2 (fun b hb => by simp; rintro rfl; exact hy hb)]
    · rw [decide_eq_false hx, cond_false, List.eraseIdx_cons_succ, ih hn, List.filter_cons, if_pos (by simp; exact fun e => hx e.symm)]

theorem any_mem (l : List Bd) (x : Bd) : (l.any fun y => decide (x = y)) = decide (x ∈ l) := by
  rw [Bool.eq_iff_iff, List.any_eq_true, decide_eq_true_iff]
  exact ⟨fun ⟨y, hy, he⟩ => of_decide_eq_true he ▸ hy, fun h => ⟨x, h, decide_eq_true rfl⟩⟩

theorem bdDrop (base p : Nat) (A : Option Addr) (c : Nat) (l : List Bd) (x : Bd) (w : World) (hl : l.length ≤ 1000000) (hn : l.Nodup) (hT : TabA w base p A c l) :
    Calls Try.prog 14 #[.pointer (some ⟨p, 0, none⟩), x.v] w fun e w' => e = .returned (.bool (decide (x ∈ l))) ∧ TabA w' base p A c (l.filter fun b => !decide (b = x)) ∧ Kp (fun k => k = p ∨ FA A k) w w' := by
  cases hr : (l.any fun y => decide (x = y)) with
  | true =>
    refine (drop_yes base p A c l x w hl hT hr).mono ?_
    rintro e w' ⟨rfl, h1, h2⟩
    rw [any_mem] at hr
    rw [dropL_filter hn] at h1
    exact ⟨by rw [hr], h1, h2⟩
  | false =>
    refine (drop_no base p A c l x w hl hT hr).mono ?_
    rintro e w' ⟨rfl, h1, h2⟩
    rw [any_mem] at hr
    have e : (l.filter fun b => !decide (b = x)) = l := List.filter_eq_self.2 (fun b hb => by
      have := of_decide_eq_false hr
      simp; rintro rfl; exact this hb)
    rw [e]
    exact ⟨by rw [hr], h1, Kp.of_below h2⟩

theorem addL_le {l : List Bd} (x : Bd) (h : l.length ≤ 40) : (addL l x).length ≤ 40 := by
  unfold addL
  split
  · rename_i h'
    unfold addOk at h'
    have := (Bool.and_eq_true _ _).mp h'
    have := of_decide_eq_true this.2
    simp; omega
  · exact h
theorem addL_nodup {l : List Bd} (x : Bd) (h : l.Nodup) : (addL l x).Nodup := by
  unfold addL
  split
  · rename_i h'
    unfold addOk at h'
    have := ((Bool.and_eq_true _ _).mp h').1
    rw [any_mem] at this
    have : ¬ x ∈ l := by simpa using this
    exact List.nodup_append.2 ⟨h, by simp, fun a ha b hb e => by simp at hb; subst hb; subst e; exact this ha⟩
  · exact h
/-- a step as data -/
def stCs (s : Int × Bd) : List Value := .int .i64 s.1 :: s.2.cs
theorem stCs_len (s : Int × Bd) : (stCs s).length = 4 := rfl
def Sts (l : List (Int × Bd)) : List Value := l.flatMap stCs
theorem Sts_get (l : List (Int × Bd)) (i : Nat) (h : i < l.length) : (Sts l)[i * 4]? = some (.int .i64 l[i].1) ∧ (Sts l)[i * 4 + 1]? = some (.string l[i].2.x) ∧ (Sts l)[i * 4 + 2]? = some (.string l[i].2.q) ∧ (Sts l)[i * 4 + 3]? = some (.string l[i].2.k) :=
  ⟨flat_get 4 stCs stCs_len l i 0 h (by omega), flat_get 4 stCs stCs_len l i 1 h (by omega), flat_get 4 stCs stCs_len l i 2 h (by omega), flat_get 4 stCs stCs_len l i 3 h (by omega)⟩
/-- the table and the reference's, side by side -/
structure Both (w0 w : World) (p1 p2 : Nat) (A1 : Option Addr) (c1 : Nat) (A2 : Option Addr) (c2 : Nat) (l1 l2 : List Bd) : Prop where
  tab : TabA w w0.heap.size p1 A1 c1 l1
  ref : RefA w w0.heap.size p2 A2 c2 l2
  apart : ∀ j, FA A1 j → ¬ FA A2 j
  f1 : ∀ j, FA A1 j → p2 < j
  f2 : ∀ j, FA A2 j → p2 < j
  blw : Below w0.heap.size w0 w
  pp : p1 < p2
section
variable {w0 w w' : World} {p1 p2 : Nat} {A1 : Option Addr} {c1 : Nat} {A2 : Option Addr} {c2 : Nat} {l1 l2 : List Bd}
theorem Both.kp (h : Both w0 w p1 p2 A1 c1 A2 c2 l1 l2) (hk : Kp None' w w') : Both w0 w' p1 p2 A1 c1 A2 c2 l1 l2 :=
  ⟨h.tab.kp hk id (fun _ _ => id), h.ref.kp hk id (fun _ _ => id), h.apart, h.f1, h.f2, blw_kp h.blw hk h.blw.size (fun _ h => h.elim), h.pp⟩
theorem Both.step1 (h : Both w0 w p1 p2 A1 c1 A2 c2 l1 l2) {A' : Option Addr} {c' : Nat} {l' : List Bd} (hT : TabA w' w0.heap.size p1 A' c' l') (hk : Kp (fun k => k = p1 ∨ FA A1 k) w w') (hf : ∀ k, FA A' k → FA A1 k ∨ w.heap.size ≤ k) : Both w0 w' p1 p2 A' c' A2 c2 l' l2 := by
  have hp := h.pp
  have h1 := h.tab.le
  have h2 := h.ref.blk.lt
  have ha : ∀ j, FA A' j → ¬ FA A2 j := fun j hj h2 => by
    rcases hf j hj with h3 | h3
    · exact h.apart j h3 h2
    · have := (own_fa h.ref.own h2).2; omega
  refine ⟨hT, h.ref.kp hk ?_ ?_, ha, ?_, h.f2, ?_, hp⟩
  · rintro (e | h3)
    · omega
    · have := h.f1 _ h3; omega
  · rintro j hj (e | h3)
    · have := h.f2 j hj; omega
    · exact h.apart j h3 hj
  · intro j hj
    rcases hf j hj with h3 | h3
    · exact h.f1 j h3
    · omega
  · exact blw_kp h.blw hk h.blw.size (fun k hk => by
      rcases hk with e | h3
      · omega
      · exact (own_fa h.tab.own h3).1)
theorem Both.step2 (h : Both w0 w p1 p2 A1 c1 A2 c2 l1 l2) {A' : Option Addr} {c' : Nat} {l' : List Bd} (hT : RefA w' w0.heap.size p2 A' c' l') (hk : Kp (fun k => k = p2) w w') (hf : ∀ k, FA A' k → FA A2 k ∨ w.heap.size ≤ k) : Both w0 w' p1 p2 A1 c1 A' c' l1 l' := by
  have hp := h.pp
  have h1 := h.ref.le
  have h2 := h.ref.blk.lt
  refine ⟨h.tab.kp hk (fun e => by omega) (fun j hj e => by have := h.f1 j hj; omega), hT, fun j hj h3 => ?_, h.f1, ?_, ?_, hp⟩
  · rcases hf j h3 with h3 | h3
    · exact h.apart j hj h3
    · have := (own_fa h.tab.own hj).2; omega
  · intro j hj
    rcases hf j hj with h3 | h3
    · exact h.f2 j h3
    · omega
  · exact blw_kp h.blw hk h.blw.size (fun k hk => by omega)
end
end Go.Proofs.Ythaoplcmkaaflaa
