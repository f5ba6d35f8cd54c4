import Derived.Test.YthaoplcmkaaflaaDoorBase
import Derived.Maps.AppendAt
import Derived.OwnWalk
namespace Go.Proofs.YthaoplcmkaaflaaDoor
open Go.RowKit

/-- the row of a slice -/
def FA (A : Option Addr) (k : Nat) : Prop := ∃ a, A = some a ∧ a.block = k
theorem FA_none (k : Nat) : ¬ FA none k := fun ⟨_, h, _⟩ => by cases h
theorem FA_some (a : Addr) (k : Nat) : FA (some a) k ↔ k = a.block := ⟨fun ⟨_, h, e⟩ => by cases h; exact e.symm, fun h => ⟨a, rfl, h.symm⟩⟩
theorem FA_row {A : Option Addr} {n c k : Nat} : (Value.slice A n c).ownBlock = some k ↔ FA A k := by
  cases A with
  | none => simp [Value.ownBlock, FA]
  | some a => simp [Value.ownBlock, FA]

theorem own_kp {w w' : World} {F : Nat → Prop} {base : Nat} {e : TypeId} {size n c : Nat} {A : Option Addr} {xs : List Value} (h : w.ownsRow base e size (.slice A n c) n xs) (hb : Kp F w w') (hf : ∀ k, FA A k → ¬ F k) : w'.ownsRow base e size (.slice A n c) n xs := by
  obtain ⟨h1, h2⟩ := h
  refine ⟨h1, h2.imp id ?_⟩
  rintro ⟨g, cap, cur, hv, hg, hh, r⟩
  have hA : A = some ⟨g, 0, none⟩ := by injection hv
  exact ⟨g, cap, cur, hv, hg, (hb.block g (Array.getElem?_eq_some_iff.1 hh).1 (hf g ⟨_, hA, rfl⟩)).trans hh, r⟩
theorem own_fa {w : World} {base : Nat} {e : TypeId} {size n c : Nat} {A : Option Addr} {xs : List Value} (h : w.ownsRow base e size (.slice A n c) n xs) {k : Nat} (hk : FA A k) : base ≤ k ∧ k < w.heap.size :=
  h.lt k (FA_row.2 hk)
theorem own_mono {w : World} {base base' : Nat} {e : TypeId} {size n : Nat} {v : Value} {xs : List Value} (h : w.ownsRow base e size v n xs) (hb : base' ≤ base) : w.ownsRow base' e size v n xs :=
  ⟨h.1, h.2.imp id fun ⟨g, cap, cur, hv, hg, r⟩ => ⟨g, cap, cur, hv, Nat.le_trans hb hg, r⟩⟩
/-- two rows of other element types lie apart -/
theorem own_blk {w : World} {base : Nat} {e t : TypeId} {size n c g : Nat} {A : Option Addr} {xs : List Value} {cs : Array Value} (h : w.ownsRow base e size (.slice A n c) n xs) (hg : Blk w g t cs) (hne : e ≠ t) : ¬ FA A g := by
  intro hk
  rcases h.2 with ⟨hv, _⟩ | ⟨g', cap, cur, hv, _, hh, _⟩
  · obtain ⟨a, ha, _⟩ := hk; rw [ha] at hv; cases hv
  · obtain ⟨a, ha, rfl⟩ := hk
    rw [ha] at hv
    have : a = ⟨g', 0, none⟩ := by injection hv with h1; exact Option.some.inj h1
    subst this
    exact Blk.ne_ (t := e) hh hg hne rfl

theorem rd_alloc {w : World} {H K n : Nat} {t : TypeId} {cs : List Value} (h : w.heap.size = H) (hl : cs.length = n * K) : Rd (w.alloc (.cells cs.toArray t)) K (some ⟨H, 0, none⟩) n cs :=
  ⟨hl, fun _ => ⟨H, 0, rfl, fun j u hu => by
    rw [Nat.zero_add, ← h, (Blk.new w t cs.toArray).cell]
    simpa using hu⟩⟩
theorem Rd.drew {w : World} {K n : Nat} {A : Option Addr} {cs : List Value} (h : Rd w K A n cs) : Rd w.drew K A n cs := h
theorem Rd.alloc {w : World} {K n : Nat} {A : Option Addr} {cs : List Value} (h : Rd w K A n cs) (o : Obj) : Rd (w.alloc o) K A n cs := h.below ((Below.refl _ _).alloc (Nat.le_refl _) _)
theorem one3 (a b c : ByteArray) : ∀ u ∈ [Value.string a, Value.string b, Value.string c], u.oneCell' = true := by
  intro u hu; simp at hu; rcases hu with rfl | rfl | rfl <;> rfl
theorem one1 (a : ByteArray) : ∀ u ∈ [Value.string a], u.oneCell' = true := by
  intro u hu; simp at hu; rw [hu]; rfl

section
variable {P : Program} (w : World)
theorem run_app (base : Nat) (t ty e : TypeId) (i : TypeInfo) (z : Value) (size bytes : Nat) (ht : P.underlying t = some (.slice e)) (hi : P.info? e = some i) (hz : i.zero = some z)
    (hsize : i.size = size) (hby : i.bytes = bytes) (hzs : z.cells.size = size) (hsz : 0 < size)
    (A0 : Option Addr) (c0 n : Nat) (xs : List Value) (hown : w.ownsRow base e size (.slice A0 n c0) n xs)
    (A : Option Addr) (m c : Nat) (news : List Value) (hr : Rd w size A m news) (h1 : ∀ u ∈ news, u.oneCell' = true)
    (h63 : n + m ≤ maxLen) (hbytes : (n + m) * bytes ≤ 140737488355328) (hbase : base ≤ w.heap.size) :
    ∃ A' c' w', (Builtin.append_ #[t, t] ty #[.slice A0 n c0, .slice A m c]).run P w = .ok (.slice A' (n + m) c') w' ∧ w'.ownsRow base e size (.slice A' (n + m) c') (n + m) (xs ++ news) ∧
      w.grownBy w' (Value.slice A0 n c0).ownBlock ∧ (∀ k, FA A' k → FA A0 k ∨ k = w.heap.size) := by
  have fin : ∀ {v' : Value} {w' : World}, w'.ownsRow base e size v' (n + m) (xs ++ news) → (v'.ownBlock = (Value.slice A0 n c0).ownBlock ∨ v'.ownBlock = some w.heap.size) →
      ∃ A' c', v' = .slice A' (n + m) c' ∧ (∀ k, FA A' k → FA A0 k ∨ k = w.heap.size) := by
    intro v' w' ho hb
    have key : ∀ A' c', v' = .slice A' (n + m) c' → (∀ k, FA A' k → FA A0 k ∨ k = w.heap.size) := by
      rintro A' c' rfl k hk
      have hk' := (FA_row (n := n + m) (c := c')).2 hk
      rcases hb with hb | hb
      · left; exact (FA_row (n := n) (c := c0)).1 (hb ▸ hk')
      · right; rw [hb] at hk'; exact (Option.some.inj hk').symm
    rcases ho.2 with ⟨rfl, h0⟩ | ⟨g, cap, cur, rfl, _⟩
    · rw [h0] at key ⊢; exact ⟨none, 0, rfl, key _ _ rfl⟩
    · exact ⟨_, _, rfl, key _ _ rfl⟩
  rcases Nat.eq_zero_or_pos m with h0 | h0
  · subst h0
    have hn : news = [] := List.eq_nil_of_length_eq_zero (by simpa using hr.1)
    subst hn
    cases A with
    | none =>
      refine ⟨A0, c0, w, ?_, by simpa using hown, World.grownBy.refl w _, fun k hk => .inl hk⟩
      rcases hown.2 with ⟨h, _⟩ | ⟨g, cap, cur, h, hbg, hh, hnc, _⟩
      · cases h
        simp [Builtin.append_, run_underlying ht, sizeOf, typeInfo, hi, Builtin.lenOf, Builtin.firstCells]
      · cases h
        simp [Builtin.append_, run_underlying ht, sizeOf, typeInfo, hi, Builtin.lenOf, Builtin.firstCells, hnc, storeCells]
    | some a =>
      obtain ⟨v', w', hr', h2, h3, _, h5⟩ := run_append_own_at (P := P) w base t ty e i z size bytes ht hi hz hsize hby hzs hsz _ n xs hown a 0 c [] (by simp) (fun j u hu => by simp at hu) (by simp) h63 hbytes hbase
      obtain ⟨A', c', rfl, hk⟩ := fin h2 h5
      exact ⟨A', c', w', hr', h2, h3, hk⟩
  · obtain ⟨b, off, rfl, hc⟩ := hr.2 h0
    obtain ⟨v', w', hr', h2, h3, _, h5⟩ := run_append_own_at (P := P) w base t ty e i z size bytes ht hi hz hsize hby hzs hsz _ n xs hown ⟨b, off, none⟩ m c news hr.1 (fun j u hu => by rw [Addr.add_lit]; exact hc j u hu) h1 h63 hbytes hbase
    obtain ⟨A', c', rfl, hk⟩ := fin h2 h5
    exact ⟨A', c', w', hr', h2, h3, hk⟩

/-- append, onto a row of the call's own, of whatever is read: at the walk's list -/
theorem wpList_app {ops : Array Oper} {rest : List Oper} {o : Oper} {a : Act} {Q : Exit → Act → World → Prop} (hgd : o.guard = none) (s x : Operand) (t : TypeId)
    (ho : o.op = .call { callee := .builtin .append, args := #[s, x], argTypes := #[t, t] })
    (base : Nat) (e : TypeId) (z : Value) (size bytes : Nat) (ht : P.underlying t = some (.slice e)) (hI : (P.info? e).map (fun i => (i.zero, i.size, i.bytes)) = some (some z, size, bytes)) (hzs : z.cells.size = size) (hsz : 0 < size)
    (A0 : Option Addr) (c0 n : Nat) (xs : List Value) (hs : a.eval s = .slice A0 n c0) (hown : w.ownsRow base e size (.slice A0 n c0) n xs)
    (A : Option Addr) (m c : Nat) (news : List Value) (hx : a.eval x = .slice A m c) (hr : Rd w size A m news) (h1 : ∀ u ∈ news, u.oneCell' = true)
    (h63 : n + m ≤ maxLen) (hbytes : (n + m) * bytes ≤ 140737488355328) (hbase : base ≤ w.heap.size)
    (h : ∀ A' c' w', w'.ownsRow base e size (.slice A' (n + m) c') (n + m) (xs ++ news) → Kp (FA A0) w w' → (∀ k, FA A' k → FA A0 k ∨ k = w.heap.size) → wpList P ops Q rest (a.put o.dst (.slice A' (n + m) c')) w') : wpList P ops Q (o :: rest) a w := by
  obtain ⟨i, hi, hz, hsize, hby⟩ := info_parts hI
  refine wpList_plain hgd fun K hK => ?_
  obtain ⟨A', c', w', hrun, h2, h3, h4⟩ := run_app (P := P) w base t o.type e i z size bytes ht hi hz hsize hby hzs hsz A0 c0 n xs hown A m c news hr h1 h63 hbytes hbase
  unfold Oper.wp execOp
  simp only [ho, resolve, invoke, builtin, Sem.run_bind, Sem.run_pure, Result.andThen_ok, List.map_toArray, List.map_cons, List.map_nil, hs, hx, hrun]
  exact hK _ _ (h A' c' w' h2 ((Kp.refl _ w).grown h3 (fun k hk _ => FA_row.1 hk)) h4)
end
end Go.Proofs.YthaoplcmkaaflaaDoor
