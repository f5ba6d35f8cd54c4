import Derived.Test.YthaoplcmkaaflaaDoorReg
import Derived.OrdersHeld
namespace Go.Proofs.YthaoplcmkaaflaaDoor
open Go.RowKit

/-! ### A region that draws its order, walked along one order: what only reads is told once; what writes comes when nothing else may come up -/
section
variable {P : Program} {ops : Array Oper} {Q : Exit → Act → World → Prop} {md : Region.Mode}

inductive Waits (md : Region.Mode) (ops : Array Oper) : Nat → Nat → Prop
  | one {j : Nat} {o : Oper} {e : Edge} (h : ops[j]? = some o) (he : e ∈ o.after) (hb : Region.binds md e = true) : Waits md ops j e.on
  | more {j m : Nat} {o : Oper} {e : Edge} (h : ops[j]? = some o) (he : e ∈ o.after) (hb : Region.binds md e = true) (hw : Waits md ops e.on m) : Waits md ops j m

def waitsB (md : Region.Mode) (ops : Array Oper) : Nat → Nat → Nat → Bool
  | 0, _, _ => false
  | n + 1, j, m => match ops[j]? with
    | none => false
    | some o => o.after.toList.any fun e => Region.binds md e && (e.on == m || waitsB md ops n e.on m)

theorem waitsB_sound : ∀ (n j m : Nat), waitsB md ops n j m = true → Waits md ops j m
  | 0, _, _, h => by simp [waitsB] at h
  | n + 1, j, m, h => by
    unfold waitsB at h
    split at h
    · cases h
    · rename_i o ho
      obtain ⟨e, he, hh⟩ := List.any_eq_true.1 h
      simp only [Bool.and_eq_true, Bool.or_eq_true, beq_iff_eq] at hh
      obtain ⟨hb, h1 | h1⟩ := hh
      · subst h1; exact .one ho (by simpa using he) hb
      · exact .more ho (by simpa using he) hb (waitsB_sound n _ _ h1)

def Shut (md : Region.Mode) (ops : Array Oper) (listed : Array Bool) : Prop :=
  ∀ j o, listed.getD j false = true → ops[j]? = some o → ∀ e ∈ o.after, Region.binds md e = true → listed.getD e.on false = true

theorem Shut.waits {listed : Array Bool} (hs : Shut md ops listed) {j m : Nat} (hw : Waits md ops j m) : listed.getD j false = true → listed.getD m false = true := by
  induction hw with
  | one h he hb => exact fun hj => hs _ _ hj h _ he hb
  | more h he hb _ ih => exact fun hj => ih (hs _ _ hj h _ he hb)

theorem ready_waits {listed : Array Bool} (hs : Shut md ops listed) {j m : Nat} (hj : j ∈ Region.ready md ops listed) (hw : Waits md ops j m) : listed.getD m false = true := by
  obtain ⟨_, o, ho, hall⟩ := mem_ready.1 hj
  have hd : ∀ e ∈ o.after, Region.binds md e = true → listed.getD e.on false = true := fun e he hb => hall e he hb
  cases hw with
  | one h he hb =>
    rw [ho] at h; obtain rfl := Option.some.inj h
    exact hd _ he hb
  | more h he hb hw' =>
    rw [ho] at h; obtain rfl := Option.some.inj h
    exact hs.waits hw' (hd _ he hb)

theorem Shut.add {listed : Array Bool} (hs : Shut md ops listed) {i : Nat} (hi : i ∈ Region.ready md ops listed) : Shut md ops (listed.setIfInBounds i true) := by
  intro j o hj ho e he hb
  obtain ⟨_, oi, hoi, hall⟩ := mem_ready.1 hi
  by_cases hij : i = j
  · subst hij
    rw [ho] at hoi; obtain rfl := Option.some.inj hoi
    exact getD_set_true (hall e he hb)
  · rw [getD_set_ne false hij] at hj
    exact getD_set_true (hs j o hj ho e he hb)

theorem Shut.start (n : Nat) : Shut md ops (Array.replicate n false) := by
  intro j o hj
  have : (Array.replicate n false).getD j false = false := by
    rw [Array.getD_eq_getD_getElem?]
    by_cases h : j < n <;> simp [h]
  rw [this] at hj; cases hj

abbrev Helds := List (Nat × (World → Prop))
/-- what number i owes behind it: nothing has turned, or all that may still be read reads as it did -/
def Owed (md : Region.Mode) (ops : Array Oper) (T : Helds) (i : Nat) (w w' : World) : Prop := w' = w ∨ ∀ x ∈ T, ¬ Waits md ops i x.1 → x.2 w'

def wpAnyT (P : Program) (md : Region.Mode) (ops : Array Oper) (Q : Exit → Act → World → Prop) (T : Helds) : Nat → Array Bool → Act → World → Prop
  | 0, listed, a, w => Region.ready md ops listed = [] ∧ Q .normal a w
  | fuel + 1, listed, a, w =>
    (Region.ready md ops listed = [] → Q .normal a w) ∧
    ∀ i ∈ Region.ready md ops listed, wpOp P ops Q i (fun a' w' => Owed md ops T i w w' ∧ wpAnyT P md ops Q T fuel (listed.setIfInBounds i true) a' w') a w

theorem wpAny_of_T (T : Helds) : ∀ (fuel : Nat) (listed : Array Bool) (a : Act) (w : World), wpAnyT P md ops Q T fuel listed a w → wpAny P md ops Q fuel listed a w
  | 0, _, _, _, h => h
  | fuel + 1, _, _, _, h => ⟨h.1, fun i hi => wpOp_mono (fun a' w' h' => wpAny_of_T T fuel _ a' w' h'.2) (h.2 i hi)⟩

theorem Owed.less {x : Nat × (World → Prop)} {T : Helds} {i : Nat} {w w' : World} (h : Owed md ops (x :: T) i w w') : Owed md ops T i w w' :=
  h.imp id fun h y hy => h y (List.mem_cons_of_mem _ hy)

theorem wpAnyT_less (x : Nat × (World → Prop)) (T : Helds) : ∀ (fuel : Nat) (listed : Array Bool) (a : Act) (w : World), wpAnyT P md ops Q (x :: T) fuel listed a w → wpAnyT P md ops Q T fuel listed a w
  | 0, _, _, _, h => h
  | fuel + 1, _, _, _, h => ⟨h.1, fun i hi => wpOp_mono (fun a' w' h' => ⟨h'.1.less, wpAnyT_less x T fuel _ a' w' h'.2⟩) (h.2 i hi)⟩

theorem wpAnyT_more (x : Nat × (World → Prop)) (hx : ∀ w, x.2 w) (T : Helds) : ∀ (fuel : Nat) (listed : Array Bool) (a : Act) (w : World), wpAnyT P md ops Q T fuel listed a w → wpAnyT P md ops Q (x :: T) fuel listed a w
  | 0, _, _, _, h => h
  | fuel + 1, _, _, _, h => ⟨h.1, fun i hi => wpOp_mono (fun a' w' h' => ⟨h'.1.imp id fun h y hy hn => by
      rcases List.mem_cons.1 hy with rfl | hy
      · exact hx w'
      · exact h y hy hn, wpAnyT_more x hx T fuel _ a' w' h'.2⟩) (h.2 i hi)⟩

theorem wpAnyT_first {S : World → Prop} {T : Helds} {i : Nat} {oi : Oper} {v : Value} (hi : ops[i]? = some oi) (hsel : ∀ (j : Nat) (o : Oper) cs b, ops[j]? = some o → o.op ≠ .select cs b)
    (hQ : ∀ c a w, Q (.panic c) (a.put oi.dst v) w → Q (.panic c) a w) :
    ∀ (fuel : Nat) (listed : Array Bool) (a : Act) (w : World), Shut md ops listed →
      (∀ j oj, ops[j]? = some oj → j ≠ i → listed.getD j true = false → (∀ e ∈ oj.after, Region.binds md e = true → e.on ≠ i) → oi.apart ops oj = true) →
      i ∈ Region.ready md ops listed → YieldsIf P ops S oi v a → S w →
      wpAnyT P md ops Q ((i, S) :: T) fuel (listed.setIfInBounds i true) (a.put oi.dst v) w → wpAnyT P md ops Q T (fuel + 1) listed a w := by
  intro fuel
  induction fuel with
  | zero =>
    intro listed a w _ _ hr hy hS H
    refine ⟨fun h => (by rw [h] at hr; cases hr), fun j hj => ?_⟩
    by_cases hji : j = i
    · subst hji; exact hy.wpOp hi hS ⟨.inl rfl, H⟩
    · have := ready_mono hj hji
      rw [H.1] at this
      cases this
  | succ fuel ih =>
    intro listed a w hsh hfree hr hy hS H
    refine ⟨fun h => (by rw [h] at hr; cases hr), fun j hj => ?_⟩
    by_cases hji : j = i
    · subst hji; exact hy.wpOp hi hS ⟨.inl rfl, wpAnyT_less _ _ _ _ _ _ H⟩
    · have h1 := H.2 j (ready_mono hj hji)
      obtain ⟨hjun, oj, hoj, hall⟩ := mem_ready.1 hj
      have hiun : listed.getD i false = false := by
        have h0 := (mem_ready.1 hr).1
        rcases Nat.lt_or_ge i listed.size with h' | h'
        · simp [h'] at h0 ⊢; exact h0
        · simp [Array.getElem?_eq_none h'] at h0
      have hnw : ¬ Waits md ops j i := fun hw => by
        have := ready_waits hsh hj hw
        rw [hiun] at this; cases this
      have hnot : ∀ e ∈ oj.after, Region.binds md e = true → e.on ≠ i := fun e he hb heq => hnw (heq ▸ .one hoj he hb)
      have h2 := wpOp_putIf hoj (hfree j oj hoj hji hjun hnot) (fun cs b => hsel i oi cs b hi) (fun cs b => hsel j oj cs b hoj) hQ hy h1
      have hfree' : ∀ k ok, ops[k]? = some ok → k ≠ i → (listed.setIfInBounds j true).getD k true = false →
          (∀ e ∈ ok.after, Region.binds md e = true → e.on ≠ i) → oi.apart ops ok = true := fun k ok hk hki hun hno => by
        refine hfree k ok hk hki ?_ hno
        by_cases hjk : j = k
        · subst hjk; exact hjun
        · rw [getD_set_ne true hjk] at hun; exact hun
      refine wpOp_mono (fun a' w' h3 => ⟨h3.2.1.less, ih (listed.setIfInBounds j true) a' w' (hsh.add hj) hfree' (ready_mono hr (Ne.symm hji)) h3.1 ?_ ?_⟩) h2
      · rcases h3.2.1 with h | h
        · rw [h]; exact hS
        · exact h (i, S) (List.mem_cons_self ..) hnw
      · rw [Array.setIfInBounds_comm _ _ hji]
        exact h3.2.2

/-- an order: what only reads; what writes, nothing else being ready; two that write, in either order -/
inductive Plan where
  | fin
  | mov (i : Nat) (r : Plan)
  | eff (i : Nat) (r : Plan)
  | two (i : Nat) (r : Plan) (j : Nat) (s : Plan)
def Plan.len : Plan → Nat
  | .fin => 0
  | .mov _ r | .eff _ r | .two _ r _ _ => r.len + 1
/-- the walk along an order: (number, it only reads) -/
def wpOrd (P : Program) (md : Region.Mode) (ops : Array Oper) (Q : Exit → Act → World → Prop) : Helds → Plan → Act → World → Prop
  | _, .fin, a, w => Q .normal a w
  | T, .mov i r, a, w => ∃ (o : Oper) (S : World → Prop) (v : Value), ops[i]? = some o ∧ S w ∧ YieldsIf P ops S o v a ∧ (wpOrd P md ops Q ((i, S) :: T) r (a.put o.dst v) w ∨ ((∀ w, S w) ∧ wpOrd P md ops Q T r (a.put o.dst v) w))
  | T, .eff i r, a, w => wpOp P ops Q i (fun a' w' => Owed md ops T i w w' ∧ wpOrd P md ops Q T r a' w') a w
  | T, .two i r j s, a, w => wpOp P ops Q i (fun a' w' => Owed md ops T i w w' ∧ wpOrd P md ops Q T r a' w') a w ∧ wpOp P ops Q j (fun a' w' => Owed md ops T j w w' ∧ wpOrd P md ops Q T s a' w') a w

def ordB (md : Region.Mode) (ops : Array Oper) : Array Bool → Plan → Bool
  | listed, .fin => (Region.ready md ops listed).isEmpty
  | listed, .mov i r => (Region.ready md ops listed).contains i && Region.free md ops listed i && ordB md ops (listed.setIfInBounds i true) r
  | listed, .eff i r => (Region.ready md ops listed == [i]) && ordB md ops (listed.setIfInBounds i true) r
  | listed, .two i r j s => (Region.ready md ops listed == [i, j]) && (r.len == s.len) && ordB md ops (listed.setIfInBounds i true) r && ordB md ops (listed.setIfInBounds j true) s

theorem put_panic (hQ : ∀ c (a : Act) ts w, Q (.panic c) { a with tmps := ts } w → Q (.panic c) a w) (c : List PanicEntry) (a : Act) (d : Option Tmp) (v : Value) (w : World) (h : Q (.panic c) (a.put d v) w) : Q (.panic c) a w := by
  cases d with
  | none => exact h
  | some d => exact hQ c a _ w h

theorem wpAnyT_of_ord (hs : Region.noSelect ops = true) (hQ : ∀ c (a : Act) ts w, Q (.panic c) { a with tmps := ts } w → Q (.panic c) a w) : ∀ (r : Plan) (T : Helds) (listed : Array Bool) (a : Act) (w : World),
    Shut md ops listed → ordB md ops listed r = true → wpOrd P md ops Q T r a w → wpAnyT P md ops Q T r.len listed a w
  | .fin, _, _, _, _, _, hB, h => ⟨by simpa [ordB] using hB, h⟩
  | .mov i r, T, listed, a, w, hsh, hB, h => by
    simp only [ordB, Bool.and_eq_true] at hB
    obtain ⟨⟨hr, hf⟩, hB'⟩ := hB
    obtain ⟨o, S, v, ho, hS, hy, h'⟩ := h
    have hr' : i ∈ Region.ready md ops listed := by simpa using hr
    refine wpAnyT_first ho (Region.noSelect_spec hs) (fun c a w => put_panic hQ c a _ _ w) r.len listed a w hsh (Region.free_spec ho hf) hr' hy hS ?_
    rcases h' with h' | ⟨hS', h'⟩
    · exact wpAnyT_of_ord hs hQ r _ _ _ _ (hsh.add hr') hB' h'
    · exact wpAnyT_more _ hS' T _ _ _ _ (wpAnyT_of_ord hs hQ r _ _ _ _ (hsh.add hr') hB' h')
  | .eff i r, T, listed, a, w, hsh, hB, h => by
    simp only [ordB, Bool.and_eq_true, beq_iff_eq] at hB
    obtain ⟨hr, hB'⟩ := hB
    have hri : i ∈ Region.ready md ops listed := by rw [hr]; simp
    refine ⟨fun h0 => (by rw [h0] at hr; cases hr), fun j hj => ?_⟩
    rw [hr] at hj
    obtain rfl : j = i := by simpa using hj
    exact wpOp_mono (fun a' w' h' => ⟨h'.1, wpAnyT_of_ord hs hQ r T _ a' w' (hsh.add hri) hB' h'.2⟩) h
  | .two i r k s, T, listed, a, w, hsh, hB, h => by
    simp only [ordB, Bool.and_eq_true, beq_iff_eq] at hB
    obtain ⟨⟨⟨hr, hl⟩, hB1⟩, hB2⟩ := hB
    refine ⟨fun h0 => (by rw [h0] at hr; cases hr), fun j hj => ?_⟩
    have hjr := hj
    rw [hr] at hj
    have : j = i ∨ j = k := by simpa using hj
    rcases this with rfl | rfl
    · exact wpOp_mono (fun a' w' h' => ⟨h'.1, wpAnyT_of_ord hs hQ r T _ a' w' (hsh.add hjr) hB1 h'.2⟩) h.1
    · exact wpOp_mono (fun a' w' h' => ⟨h'.1, by have := wpAnyT_of_ord hs hQ s T _ a' w' (hsh.add hjr) hB2 h'.2; rw [← hl] at this; exact this⟩) h.2

theorem wp_region_ord {id : Nat} {a : Act} {w : World} {l : List Oper} (r : Plan) (hm : P.follows .mixedOrders = true)
    (hB : (Region.noSelect l.toArray && (r.len == l.length && ordB .any l.toArray (Array.replicate l.length false) r)) = true)
    (hQ : ∀ c (a : Act) ts w, Q (.panic c) { a with tmps := ts } w → Q (.panic c) a w)
    (h : wpOrd P .any l.toArray Q [] r a w.drew) : (Code.region id l.toArray true).wp P Q a w := by
  simp only [Bool.and_eq_true, beq_iff_eq] at hB
  obtain ⟨hs, hl, hB'⟩ := hB
  have := wpAnyT_of_ord (md := .any) hs hQ r [] _ a w.drew (Shut.start _) hB' h
  rw [hl] at this
  exact wp_region_any hm (wpAny_of_T [] _ _ _ _ (by simpa using this))

/-! ### The moves -/
/-- operations that leave a value, if they end at all -/
def plainOp : Op → Bool
  | .move _ | .assign _ | .pick .. | .load .. | .nilCheck _ | .binOp .. | .unOp .. | .slice .. | .fieldAddr .. | .field .. | .indexAddr .. | .index .. | .extract .. | .makeInterface .. | .makeFunc .. | .lookup .. | .convert .. => true
  | .call c => match c.callee, c.argTypes.size with
    | .builtin .len, 1 => true
    | _, _ => false
  | _ => false

theorem run_value {s : Sem Value} {w w' : World} {n : Next} (h : (do pure (Next.value (← s)) : Sem Next).run P w = .ok n w') : ∃ v, n = .value v := by
  rw [Sem.run_bind] at h
  cases hs : s.run P w with
  | ok x w1 =>
    rw [hs] at h
    simp only [Result.andThen_ok, Sem.run_pure] at h
    injection h with h1 _
    exact ⟨x, h1.symm⟩
  | halt x w1 =>
    rw [hs] at h
    simp [Result.andThen] at h

theorem plain_value {o : Oper} (hp : plainOp o.op = true) {ρ : Operand → Value} {w w' : World} {n : Next} (h : (execOp ρ o).run P w = .ok n w') : ∃ v, n = .value v := by
  unfold execOp at h
  cases hop : o.op <;> rw [hop] at hp h <;> first
    | (simp [plainOp] at hp; done)
    | exact run_value h
    | skip
  case move x => simp only [Sem.run_pure] at h; injection h with h1 _; exact ⟨_, h1.symm⟩
  case assign x => simp only [Sem.run_pure] at h; injection h with h1 _; exact ⟨_, h1.symm⟩
  case pick c x y =>
    dsimp only at h
    rw [Sem.run_bind] at h
    cases hs : (asBool (ρ c)).run P w with
    | ok b w1 =>
      rw [hs] at h
      simp only [Result.andThen_ok] at h
      injection h with h1 _
      exact ⟨_, h1.symm⟩
    | halt y w1 => rw [hs] at h; simp [Result.andThen] at h
  case nilCheck x =>
    dsimp only at h
    have hn : ∀ {m : Next} {u u' : World}, (runtimePanic (α := Next) .nilDeref).run P u ≠ .ok m u' := by
      intro m u u' hh
      simp [runtimePanic, goPanic, go_sem] at hh
    split at h
    · exact absurd h hn
    · exact absurd h hn
    · exact absurd h hn
    · split at h
      · exact absurd h hn
      · rw [Sem.run_bind, run_program] at h
        simp only [Result.andThen_ok] at h
        rw [Sem.run_bind] at h
        generalize Sem.run P (nilAhead _ _ _ _) w = r at h
        cases r with
        | ok b w1 =>
          simp only [Result.andThen_ok] at h
          split at h
          · simp [unsupported, go_sem] at h
          · simp only [Sem.run_pure] at h; injection h with h1 _; exact ⟨_, h1.symm⟩
        | halt y w1 => simp [Result.andThen] at h
      · simp only [Sem.run_pure] at h; injection h with h1 _; exact ⟨_, h1.symm⟩
    · simp only [Sem.run_pure] at h; injection h with h1 _; exact ⟨_, h1.symm⟩
  case call c =>
    dsimp only at h
    have hc : ∃ t, c.callee = .builtin .len ∧ c.argTypes = t := by
      simp only [plainOp] at hp
      split at hp
      · rename_i h1 h2; exact ⟨_, h1, rfl⟩
      · cases hp
    obtain ⟨t, h1, h2⟩ := hc
    unfold resolve at h
    simp only [h1, Sem.run_bind, Sem.run_pure, Result.andThen_ok, invoke, builtin] at h
    generalize Sem.run P (Builtin.len_ _ _ _) w = r at h
    cases r with
    | ok x w1 => simp only [Result.andThen_ok] at h; injection h with h3 _; exact ⟨_, h3.symm⟩
    | halt y w1 => simp [Result.andThen] at h

theorem Wd.of {F : Nat → Prop} {w w' : World} (h : Kp F w w') : ∃ z : Wd F w, w' = z.w := ⟨⟨w', h⟩, rfl⟩

theorem ord_yields {l : List Oper} {o : Oper} {a : Act} {K : Act → Prop} (C : World → Prop) (hp : plainOp o.op = true) (h : wpQuiet P l.toArray C K [o] a) : ∃ v, YieldsIf P l.toArray C o v a ∧ K (a.put o.dst v) := by
  unfold wpQuiet at h
  by_cases hw : Region.wanted o (yielded l.toArray a.tmps) = true
  · rw [if_pos hw] at h
    obtain ⟨v, hv, hk⟩ := h
    refine ⟨v, .inl ⟨hw, fun w' hw' => ?_⟩, hk⟩
    have := hv w' hw'
    unfold Oper.quietAt at this
    cases hr : (execOp a.eval o).run P w' with
    | ok n w'' =>
      rw [hr] at this
      obtain ⟨u, rfl⟩ := plain_value hp hr
      simp only [Oper.quietUpon] at this
      obtain ⟨e1, e2⟩ := this
      rw [e1, e2]
    | halt x w'' => rw [hr] at this; exact this.elim
  · rw [if_neg hw] at h
    exact ⟨undef, .inr ⟨by simpa using hw, rfl⟩, h⟩

theorem ord_mov {l : List Oper} {T : Helds} {i : Nat} {o : Oper} {r : Plan} {a : Act} {w : World} (C : World → Prop) (hC : C w) (ho : l[i]? = some o) (hp : plainOp o.op = true)
    (h : wpQuiet P l.toArray C (fun a' => wpOrd P md l.toArray Q ((i, C) :: T) r a' w) [o] a) : wpOrd P md l.toArray Q T (.mov i r) a w := by
  obtain ⟨v, hy, hk⟩ := ord_yields C hp h
  exact ⟨o, C, v, by rw [List.getElem?_toArray]; exact ho, hC, hy, .inl hk⟩

/-- one that hangs on no memory -/
theorem ord_pure {l : List Oper} {T : Helds} {i : Nat} {o : Oper} {r : Plan} {a : Act} {w : World} (ho : l[i]? = some o) (hp : plainOp o.op = true)
    (h : wpQuiet P l.toArray (fun _ => True) (fun a' => wpOrd P md l.toArray Q T r a' w) [o] a) : wpOrd P md l.toArray Q T (.mov i r) a w := by
  obtain ⟨v, hy, hk⟩ := ord_yields _ hp h
  exact ⟨o, _, v, by rw [List.getElem?_toArray]; exact ho, trivial, hy, .inr ⟨fun _ => trivial, hk⟩⟩

theorem wpOp_of_list {i : Nat} {o : Oper} {K : Act → World → Prop} {a : Act} {w : World} (ho : ops[i]? = some o) (h : wpList P ops (Exit.then K Q) [o] a w) (hl : LetsOut (Exit.then K Q) → LetsOut Q) : wpOp P ops Q i K a w := by
  unfold wpList at h
  unfold wpOp
  simp only [ho]
  split
  · rename_i hw
    rw [if_pos hw] at h
    rcases h with h | ⟨h, h'⟩
    · left
      unfold Oper.wp at *
      generalize (execOp a.eval o).run P w = n at *
      cases n with
      | ok n w' =>
        cases n <;> simp only [Oper.upon] at h ⊢
        case enter f args => exact Calls.mono h (fun e w'' he => by cases e <;> first | exact he | exact hl he)
        all_goals exact h
      | halt x w' => cases x <;> simp only [Oper.upon] at h ⊢ <;> first | exact h
    · exact .inr ⟨h, hl h'⟩
  · rename_i hw
    rw [if_neg hw] at h
    exact h

theorem ord_sync {l : List Oper} {T : Helds} {i : Nat} {o : Oper} {r : Plan} {a : Act} {w : World} (ho : l[i]? = some o) (hs : (T.map (·.1)).all (waitsB md l.toArray l.length i) = true)
    (h : ∀ K : Act → World → Prop, (∀ a w, wpOrd P md l.toArray Q T r a w → K a w) → wpList P l.toArray (Exit.then K Q) [o] a w) : wpOrd P md l.toArray Q T (.eff i r) a w := by
  have hT : ∀ x ∈ T, Waits md l.toArray i x.1 := fun x hx => waitsB_sound _ _ _ (by
    have := List.all_eq_true.1 hs x.1 (List.mem_map_of_mem hx)
    exact this)
  refine wpOp_of_list (by rw [List.getElem?_toArray]; exact ho) (h _ fun a' w' h' => ⟨.inr fun x hx hn => absurd (hT x hx) hn, h'⟩) (fun h => h)

theorem ord_keep {l : List Oper} {T : Helds} {i : Nat} {o : Oper} {r : Plan} {a : Act} {w : World} (C : World → Prop) (ho : l[i]? = some o) (hs : ∀ x ∈ T, x.2 = C)
    (h : ∀ K : Act → World → Prop, (∀ a w, C w ∧ wpOrd P md l.toArray Q T r a w → K a w) → wpList P l.toArray (Exit.then K Q) [o] a w) : wpOrd P md l.toArray Q T (.eff i r) a w :=
  wpOp_of_list (by rw [List.getElem?_toArray]; exact ho) (h _ fun a' w' h' => ⟨.inr fun x hx _ => by rw [hs x hx]; exact h'.1, h'.2⟩) (fun h => h)

/-- two that may come in either order: loads that float must read the same behind either -/
theorem ord_two {l : List Oper} {T : Helds} {i j : Nat} {r s : Plan} {a : Act} {w : World} (h1 : wpOrd P md l.toArray Q T (.eff i r) a w) (h2 : wpOrd P md l.toArray Q T (.eff j s) a w) : wpOrd P md l.toArray Q T (.two i r j s) a w := ⟨h1, h2⟩

theorem ord_end {l : List Oper} {T : Helds} {a : Act} {w : World} (h : Q .normal a w) : wpOrd P md l.toArray Q T .fin a w := h
end
end Go.Proofs.YthaoplcmkaaflaaDoor
