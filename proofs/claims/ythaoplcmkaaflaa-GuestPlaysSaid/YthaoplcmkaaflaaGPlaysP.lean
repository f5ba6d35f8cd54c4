import Derived.Test.YthaoplcmkaaflaaLaw18
import Derived.Test.YthaoplcmkaaflaaOrdB
import Derived.Test.YthaoplcmkaaflaaRow
import Derived.Deep.Slices
import Derived.Deep.Strs
import Derived.ChangeSame
namespace Go.Proofs.Ythaoplcmkaaflaa
open Go.RowKit

/-- the table and the reference's, side by side -/
structure BothG (w0 w : World) (p1 p2 : Nat) (A1 : Option Addr) (c1 : Nat) (A2 : Option Addr) (c2 : Nat) (l1 l2 : List Gu) (t1 t2 : Int) : Prop where
  tab : GuA w w0.heap.size p1 A1 c1 l1 t1
  ref : RuA w w0.heap.size p2 A2 c2 l2 t2
  apart : ∀ j, FA A1 j → ¬ FA A2 j
  f1 : ∀ j, FA A1 j → p2 < j
  f2 : ∀ j, FA A2 j → p2 < j
  blw : Below w0.heap.size w0 w
  pp : p1 < p2
section
variable {w0 w w' : World} {p1 p2 : Nat} {A1 : Option Addr} {c1 : Nat} {A2 : Option Addr} {c2 : Nat} {l1 l2 : List Gu} {t1 t2 : Int}
theorem BothG.kp (h : BothG w0 w p1 p2 A1 c1 A2 c2 l1 l2 t1 t2) (hk : Kp None' w w') : BothG w0 w' p1 p2 A1 c1 A2 c2 l1 l2 t1 t2 :=
  ⟨h.tab.kp hk id (fun _ _ => id), h.ref.kp hk id (fun _ _ => id), h.apart, h.f1, h.f2, blw_kp h.blw hk h.blw.size (fun _ h => h.elim), h.pp⟩
theorem BothG.step1 (h : BothG w0 w p1 p2 A1 c1 A2 c2 l1 l2 t1 t2) {A' : Option Addr} {c' : Nat} {l' : List Gu} {t' : Int} (hT : GuA w' w0.heap.size p1 A' c' l' t') (hk : Kp (fun k => k = p1 ∨ FA A1 k) w w') (hf : ∀ k, FA A' k → FA A1 k ∨ w.heap.size ≤ k) : BothG w0 w' p1 p2 A' c' A2 c2 l' l2 t' t2 := by
  have hp := h.pp
  have h1 := h.tab.le
  have h2 := h.ref.blk.lt
  have ha : ∀ j, FA A' j → ¬ FA A2 j := fun j hj h2 => by
    rcases hf j hj with h3 | h3
    · exact h.apart j h3 h2
    · have := (own_fa h.ref.own h2).2; omega
  refine ⟨hT, h.ref.kp hk ?_ ?_, ha, ?_, h.f2, ?_, hp⟩
  · rintro (e | h3)
    · omega
    · have := h.f1 _ h3; omega
  · rintro j hj (e | h3)
    · have := h.f2 j hj; omega
    · exact h.apart j h3 hj
  · intro j hj
    rcases hf j hj with h3 | h3
    · exact h.f1 j h3
    · omega
  · exact blw_kp h.blw hk h.blw.size (fun k hk => by
      rcases hk with e | h3
      · omega
      · exact (own_fa h.tab.own h3).1)
theorem BothG.step2 (h : BothG w0 w p1 p2 A1 c1 A2 c2 l1 l2 t1 t2) {A' : Option Addr} {c' : Nat} {l' : List Gu} {t' : Int} (hT : RuA w' w0.heap.size p2 A' c' l' t') (hk : Kp (fun k => k = p2) w w') (hf : ∀ k, FA A' k → FA A2 k ∨ w.heap.size ≤ k) : BothG w0 w' p1 p2 A1 c1 A' c' l1 l' t1 t' := by
  have hp := h.pp
  have h1 := h.ref.le
  have h2 := h.ref.blk.lt
  refine ⟨h.tab.kp hk (fun e => by omega) (fun j hj e => by have := h.f1 j hj; omega), hT, fun j hj h3 => ?_, h.f1, ?_, ?_, hp⟩
  · rcases hf j h3 with h3 | h3
    · exact h.apart j hj h3
    · have := (own_fa h.tab.own hj).2; omega
  · intro j hj
    rcases hf j hj with h3 | h3
    · exact h.f2 j h3
    · omega
  · exact blw_kp h.blw hk h.blw.size (fun k hk => by omega)
end

theorem guEq_self (a1 a2 : Int) (a3 : ByteArray) (a4 : Int) (a5 a6 : Bool) : guEq a1 a2 a3 a4 a5 a6 a1 a2 a3 a4 a5 a6 = true := decide_eq_true rfl
def Turn (l : List Gu) (t : Nat) : Prop := t < l.length ∨ t = 0
theorem turn_add {l : List Gu} {t : Nat} (h : Turn l t) (x : Gu) : Turn (guAddL l x) t := by
  unfold guAddL Turn at *
  split
  · rcases h with h | h
    · left; simp; omega
    · exact .inr h
  · exact h
theorem len_add (l : List Gu) (x : Gu) : (guAddL l x).length ≤ l.length + 1 := by
  unfold guAddL; split <;> simp
theorem turn_drop {l : List Gu} {t : Nat} (h : Turn l t) (f : Gu → Bool) : Turn (dropG l t f).1 (dropG l t f).2 := by
  unfold dropG
  split
  · rename_i ha
    have hi := (idxP_yes ha).2
    unfold Turn at *
    dsimp only
    rw [List.length_eraseIdx_of_lt hi]
    split
    · omega
    · split <;> omega
  · exact h
theorem len_drop (l : List Gu) (t : Nat) (f : Gu → Bool) : (dropG l t f).1.length ≤ l.length := by
  unfold dropG
  split
  · exact List.length_eraseIdx_le ..
  · exact Nat.le_refl _
theorem turn_pick {l : List Gu} {t : Nat} (h : Turn l t) (sp : List Bool) : Turn l (pickG l t sp).2.2 := by
  unfold pickG
  split
  · rename_i k hk
    left
    exact Nat.mod_lt _ (by have := (pickAt_lt hk).1; omega)
  · exact h
end Go.Proofs.Ythaoplcmkaaflaa
