import Derived.Below
import Derived.Laws.OwnMore
import Derived.Laws.StructEq
import Derived.Laws.Rows
import Derived.Deep.Draws
import Derived.Deep.AppendLies
import Derived.WalkKit
import Derived.WalkLawsBesides
import Derived.WalkSpells
import Derived.Lib.Hide
namespace Go.Proofs.YthaoplcmkaaflaaDoor
open Go.RowKit

/-! ### The frame: outside F the world is as it was -/
structure Kp (F : Nat → Prop) (w w' : World) : Prop where
  os : w'.os = w.os
  tape : w'.tape = w.tape
  output : w'.output = w.output
  size : w.heap.size ≤ w'.heap.size
  block : ∀ k, k < w.heap.size → ¬ F k → w'.heap[k]? = w.heap[k]?

def None' : Nat → Prop := fun _ => False

theorem Kp.refl (F : Nat → Prop) (w : World) : Kp F w w := ⟨rfl, rfl, rfl, Nat.le_refl _, fun _ _ _ => rfl⟩
theorem Kp.trans {F G : Nat → Prop} {a b c : World} (h : Kp F a b) (k : Kp G b c) (hs : ∀ i, i < a.heap.size → G i → F i) : Kp F a c :=
  ⟨k.os.trans h.os, k.tape.trans h.tape, k.output.trans h.output, Nat.le_trans h.size k.size, fun i hi hf =>
    (k.block i (Nat.lt_of_lt_of_le hi h.size) (fun g => hf (hs i hi g))).trans (h.block i hi hf)⟩
theorem Kp.mono {F G : Nat → Prop} {w w' : World} (h : Kp F w w') (hs : ∀ i, i < w.heap.size → F i → G i) : Kp G w w' :=
  ⟨h.os, h.tape, h.output, h.size, fun i hi hg => h.block i hi (fun f => hg (hs i hi f))⟩
theorem Kp.to {F : Nat → Prop} {w w' : World} (h : Kp None' w w') : Kp F w w' := h.mono fun _ _ h => h.elim
theorem Kp.of_below {F : Nat → Prop} {w w' : World} (h : Below w.heap.size w w') : Kp F w w' := ⟨h.os, h.tape, h.output, h.size, fun k hk _ => h.block k hk⟩
theorem Kp.below {w w' : World} {B : Nat} {F : Nat → Prop} (h : Kp F w w') (hB : B ≤ w.heap.size) (hF : ∀ k, k < B → ¬ F k) : Below B w w' :=
  ⟨h.os, h.tape, h.output, h.size, fun k hk => h.block k (by omega) (hF k hk)⟩
theorem Kp.drew {F : Nat → Prop} {a w : World} (h : Kp F a w) : Kp F a w.drew := ⟨h.os, h.tape, h.output, h.size, h.block⟩
theorem Kp.drewN {F : Nat → Prop} {a w : World} (h : Kp F a w) (n : Nat) : Kp F a (w.drewN n) := ⟨h.os, h.tape, h.output, h.size, h.block⟩
theorem Kp.alloc {F : Nat → Prop} {a w : World} (h : Kp F a w) (o : Obj) : Kp F a (w.alloc o) :=
  ⟨h.os, h.tape, h.output, Nat.le_trans h.size (by simp), fun k hk hf => (Below.heap_alloc _ _ _ (Nat.lt_of_lt_of_le hk h.size)).trans (h.block k hk hf)⟩
theorem Kp.setCell {F : Nat → Prop} {a w : World} (h : Kp F a w) {p : Addr} (hp : p.block < a.heap.size → F p.block) (u : Value) : Kp F a (w.setCell p u) :=
  ⟨h.os, h.tape, h.output, Nat.le_trans h.size (by simp [World.setCell]), fun k hk hf => (Below.heap_setCell _ _ _ _ (fun e => hf (by subst e; exact hp hk))).trans (h.block k hk hf)⟩
theorem Kp.set1 {w : World} (p i : Nat) (u : Value) : Kp (fun k => k = p) w (w.setCell ⟨p, i, none⟩ u) := Kp.setCell (F := fun k => k = p) (p := ⟨p, i, none⟩) (Kp.refl _ w) (fun _ => rfl) u
theorem Kp.grown {F : Nat → Prop} {a w w' : World} {row : Option Nat} (h : Kp F a w) (hg : w.grownBy w' row) (hr : ∀ k, row = some k → k < a.heap.size → F k) : Kp F a w' :=
  ⟨hg.os.trans h.os, hg.tape.trans h.tape, hg.output.trans h.output, Nat.le_trans h.size hg.size, fun k hk hf =>
    (hg.block k (Nat.lt_of_lt_of_le hk h.size) (fun e => hf (hr k e.symm hk))).trans (h.block k hk hf)⟩
theorem Kp.cell {F : Nat → Prop} {w w' : World} (h : Kp F w w') {p : Addr} {v : Value} (hc : w.cell? p = some v) (hf : ¬ F p.block) : w'.cell? p = some v :=
  (World.cell?_of_block (w := w) (h.block p.block (World.block_lt_of_cell? w p hc) hf)).trans hc

theorem blw_drewN {B : Nat} {a w : World} (h : Below B a w) (n : Nat) : Below B a (w.drewN n) := ⟨h.os, h.tape, h.output, h.size, h.block⟩
theorem blw_trans {B : Nat} {a w w' : World} (h : Below B a w) (k : Below w.heap.size w w') (hB : B ≤ w.heap.size) : Below B a w' := h.trans (k.mono hB)
theorem blw_kp {B : Nat} {F : Nat → Prop} {a w w' : World} (h : Below B a w) (k : Kp F w w') (hB : B ≤ w.heap.size) (hF : ∀ k, F k → B ≤ k) : Below B a w' := h.trans (k.below hB (fun i hi hf => by have := hF i hf; omega))
theorem ret_i64 {a b : Int} (h : a = b) : Ending.returned (.int .i64 a) = .returned (.int .i64 b) := by rw [h]
theorem ret_bool {a b : Bool} (h : a = b) : Ending.returned (.bool a) = .returned (.bool b) := by rw [h]

/-! ### A block known whole -/
def Blk (w : World) (g : Nat) (t : TypeId) (cs : Array Value) : Prop := w.heap[g]? = some (.cells cs t (0, 0))
section
variable {w w' : World} {g : Nat} {t : TypeId} {cs : Array Value}
theorem Blk.lt (h : Blk w g t cs) : g < w.heap.size := by
  rcases Nat.lt_or_ge g w.heap.size with hlt | hge
  · exact hlt
  · unfold Blk at h; rw [Array.getElem?_eq_none hge] at h; cases h
theorem Blk.cell (h : Blk w g t cs) (i : Nat) : w.cell? ⟨g, i, none⟩ = cs[i]? := cell_of_row w g i cs t (0, 0) h
theorem Blk.frozen (h : Blk w g t cs) (i : Nat) : w.frozen? ⟨g, i, none⟩ = false := by
  unfold Blk at h
  simp [World.frozen?, h]
theorem Blk.new (w : World) (t : TypeId) (cs : Array Value) : Blk (w.alloc (.cells cs t)) w.heap.size t cs := heap_alloc_new w _
theorem Blk.drew (h : Blk w g t cs) : Blk w.drew g t cs := h
theorem Blk.drewN (h : Blk w g t cs) (n : Nat) : Blk (w.drewN n) g t cs := h
theorem Blk.alloc (h : Blk w g t cs) (o : Obj) : Blk (w.alloc o) g t cs := (Below.heap_alloc w o g h.lt).trans h
theorem Blk.set_ (h : Blk w g t cs) (i : Nat) (u : Value) : Blk (w.setCell ⟨g, i, none⟩ u) g t (cs.setIfInBounds i u) := by
  unfold Blk at h ⊢
  simp [World.setCell, Array.getElem?_modify, h]
theorem Blk.far (h : Blk w g t cs) {p : Addr} (hp : g ≠ p.block) (u : Value) : Blk (w.setCell p u) g t cs := (Below.heap_setCell w p u g hp).trans h
theorem Blk.kp {F : Nat → Prop} (h : Blk w g t cs) (hb : Kp F w w') (hf : ¬ F g) : Blk w' g t cs := (hb.block g h.lt hf).trans h
theorem Blk.below (h : Blk w g t cs) (hb : Below w.heap.size w w') : Blk w' g t cs := (hb.block g h.lt).trans h
theorem Blk.grown {row : Option Nat} (h : Blk w g t cs) (hb : w.grownBy w' row) (hg : some g ≠ row) : Blk w' g t cs := (hb.block g h.lt hg).trans h
theorem Blk.ne_ {g' : Nat} {t' : TypeId} {cs' : Array Value} (h : Blk w g t cs) (h' : Blk w g' t' cs') (hne : t ≠ t') : g ≠ g' := by
  rintro rfl
  unfold Blk at h h'
  rw [h] at h'
  injection h' with h'
  injection h' with _ ht
  exact hne ht
end

/-! ### A slice that is read: K cells an element -/
def Rd (w : World) (K : Nat) (A : Option Addr) (n : Nat) (cs : List Value) : Prop :=
  cs.length = n * K ∧ (0 < n → ∃ b off, A = some ⟨b, off, none⟩ ∧ ∀ j u, cs[j]? = some u → w.cell? ⟨b, off + j, none⟩ = some u)
section
variable {w w' : World} {K n : Nat} {A : Option Addr} {cs : List Value}
theorem Rd.below (h : Rd w K A n cs) (hb : Below w.heap.size w w') : Rd w' K A n cs :=
  ⟨h.1, fun hn => by
    obtain ⟨b, off, e, hc⟩ := h.2 hn
    exact ⟨b, off, e, fun j u hu => (World.cell?_of_block (w := w) (hb.block b (World.block_lt_of_cell? w _ (hc j u hu)))).trans (hc j u hu)⟩⟩
theorem Rd.nil_ : Rd w K A 0 [] := ⟨by simp, fun h => absurd h (by omega)⟩
/-- in which block it lies -/
def In (A : Option Addr) (F : Nat → Prop) : Prop := ∀ a, A = some a → F a.block
theorem Rd.kp {F : Nat → Prop} (h : Rd w K A n cs) (hb : Kp F w w') (hf : In A (fun b => ¬ F b)) : Rd w' K A n cs :=
  ⟨h.1, fun hn => by
    obtain ⟨b, off, e, hc⟩ := h.2 hn
    exact ⟨b, off, e, fun j u hu => hb.cell (hc j u hu) (show ¬ F b from hf ⟨b, off, none⟩ e)⟩⟩
end

theorem flat_get {α : Type} (K : Nat) (enc : α → List Value) (hk : ∀ x, (enc x).length = K) : ∀ (xs : List α) (i j : Nat) (h : i < xs.length), j < K → (xs.flatMap enc)[i * K + j]? = (enc xs[i])[j]? := by
  intro xs
  induction xs with
  | nil => intro i j h; simp at h
  | cons x xs ih =>
    intro i j h hj
    cases i with
    | zero =>
      simp only [List.flatMap_cons, Nat.zero_mul, Nat.zero_add, List.getElem_cons_zero]
      rw [List.getElem?_append_left (by rw [hk]; exact hj)]
    | succ i =>
      simp only [List.flatMap_cons, List.getElem_cons_succ]
      rw [List.getElem?_append_right (by rw [hk, Nat.succ_mul]; omega), hk, ← ih i j (by simpa using h) hj]
      congr 1
      rw [Nat.succ_mul]
      omega
theorem flat_len {α : Type} (K : Nat) (enc : α → List Value) (hk : ∀ x, (enc x).length = K) (xs : List α) : (xs.flatMap enc).length = xs.length * K := by
  induction xs with
  | nil => simp
  | cons x xs ih => rw [List.flatMap_cons, List.length_append, ih, hk, List.length_cons, Nat.succ_mul]; omega

/-- what a row of the call's own reads as -/
theorem own_rd {w : World} {base : Nat} {e : TypeId} {K n c : Nat} {A : Option Addr} {cs : List Value} (h : w.ownsRow base e K (.slice A n c) n cs) : Rd w K A n cs := by
  refine ⟨h.1, fun hn => ?_⟩
  obtain ⟨g, cap, hv, _⟩ := h.form hn
  have hA : A = some ⟨g, 0, none⟩ := by injection hv
  subst hA
  refine ⟨g, 0, rfl, fun j u hu => ?_⟩
  have := h.cells (g := g) rfl j u hu
  rw [Addr.add_lit] at this
  exact this
end Go.Proofs.YthaoplcmkaaflaaDoor
