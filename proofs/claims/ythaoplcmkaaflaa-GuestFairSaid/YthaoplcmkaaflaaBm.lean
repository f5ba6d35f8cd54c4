import Derived.Test.YthaoplcmkaaflaaProg
import Derived.Test.YthaoplcmkaaflaaReg
import Derived.Test.YthaoplcmkaaflaaApp
import Derived.Test.YthaoplcmkaaflaaGoto
import Derived.OwnWalk
namespace Go.Proofs.Ythaoplcmkaaflaa
open Go.RowKit

/-! ### Words of 64 bits -/
def bT (v : BitVec 64) : Int := (v.toNat : Int)
def bit1 (r : Int) : BitVec 64 := 1#64 <<< r.toNat
def clrV (a b : BitVec 64) : BitVec 64 := a &&& ~~~b
def setV (a b : BitVec 64) : BitVec 64 := a ||| b

theorem bT_lt (v : BitVec 64) : 0 ≤ bT v ∧ bT v < 18446744073709551616 := by
  have := v.isLt
  unfold bT; omega
theorem wrap_bT (v : BitVec 64) : IntKind.u64.wrap (v.toNat : Int) = bT v := by
  rw [IntKind.wrap_u64]
  have := bT_lt v
  unfold bT at *; omega
theorem w_has (v : BitVec 64) (r : Nat) : (bits .and .u64 (bT v / 2 ^ r) 1 == 1) = v.getLsbD r := by
  have h : bT v / 2 ^ r = bT (v >>> r) := by
    unfold bT
    rw [BitVec.toNat_ushiftRight, Nat.shiftRight_eq_div_pow]
    simp
  rw [h]
  show (IntKind.u64.wrap ((BitVec.ofInt 64 (bT (v >>> r)) &&& (BitVec.ofInt 64 1)).toNat : Int) == 1) = _
  have ha : BitVec.ofInt 64 (bT (v >>> r)) = v >>> r := by unfold bT; rw [BitVec.ofInt_natCast, BitVec.ofNat_toNat]; simp
  have h1 : BitVec.ofInt 64 1 = 1#64 := rfl
  rw [ha, h1]
  have hl : ((v >>> r) &&& 1#64).toNat = if v.getLsbD r then 1 else 0 := by
    rw [BitVec.toNat_and, BitVec.getLsbD, BitVec.toNat_ushiftRight]
    show (v.toNat >>> r) &&& 1 = _
    rw [Nat.and_one_is_mod, Nat.testBit, Nat.and_comm, Nat.and_one_is_mod]
    have := Nat.mod_two_eq_zero_or_one (v.toNat >>> r)
    rcases this with h | h <;> simp [h]
  rw [hl, IntKind.wrap_u64]
  cases v.getLsbD r <;> rfl

/-- a row of words -/
def wArr (n : Nat) (f : Nat → BitVec 64) : Array Value := ((List.range n).map fun i => Value.int .u64 (bT (f i))).toArray
theorem wArr_get (n : Nat) (f : Nat → BitVec 64) (i : Nat) (h : i < n) : (wArr n f)[i]? = some (.int .u64 (bT (f i))) := by simp [wArr, h]
theorem wArr_set (n : Nat) (f : Nat → BitVec 64) (i : Nat) (b : BitVec 64) : (wArr n f).setIfInBounds i (.int .u64 (bT b)) = wArr n (fun j => if j = i then b else f j) := by
  apply Array.ext_getElem?
  intro j
  by_cases hj : j < n
  · rw [wArr_get _ _ _ hj, Array.getElem?_setIfInBounds]
    by_cases hij : i = j
    · subst hij; simp [wArr, hj]
    · rw [if_neg hij, wArr_get _ _ _ hj, if_neg (Ne.symm hij)]
  · rw [Array.getElem?_eq_none (by simp [wArr]; omega), Array.getElem?_eq_none (by simp [wArr]; omega)]
theorem wArr_made (n : Nat) : madeCells #[Value.int .u64 0] n = wArr n (fun _ => 0#64) := by
  apply Array.ext'
  rw [toList_madeCells_one]
  simp only [wArr, List.toList_toArray]
  rw [List.eq_replicate_of_mem (a := Value.int .u64 0) (l := (List.range n).map fun _ => Value.int .u64 (bT 0#64)) (by simp [bT])]
  simp

/-- 'make([]T, n)': the world, told -/
theorem wpList_make1 {P : Program} (w : World) {ops : Array Oper} {rest : List Oper} {o : Oper} {a : Act} {Q : Exit → Act → World → Prop}
    (hg : o.guard = none) (l c : Operand) (t : TypeId) (hop : o.op = Op.makeSlice t l c)
    (e : TypeId) (z : Value) (bytes : Nat) (h1 : P.underlying t = some (.slice e)) (hI : (P.info? e).map (fun i => (i.zero, i.size, i.bytes)) = some (some z, 1, bytes))
    (kl kc : IntKind) (L C : Int) (n : Nat) (hl : a.eval l = .int kl L) (hc : a.eval c = .int kc C) (hL : L = (n : Int)) (hC : C = (n : Int)) (b2 : bytes * n ≤ 281474976710656) (b3 : n ≤ maxLen)
    (hK : wpList P ops Q rest (a.put o.dst (.slice (some ⟨w.heap.size, 0, none⟩) n n)) (w.alloc (.cells (madeCells z.cells n) e))) :
    wpList P ops Q (o :: rest) a w := by
  obtain ⟨i, hi, hz, hsize, hby⟩ := info_parts hI
  refine wpList_plain hg fun K hK' => ?_
  have h63' : (n : Int) ≤ 9223372036854775807 := by unfold maxLen at b3; omega
  have hb' : (i.bytes : Int) * (n : Int) ≤ 281474976710656 := by
    rw [hby]
    have h : ((bytes * n : Nat) : Int) ≤ 281474976710656 := by omega
    rwa [Int.natCast_mul] at h
  have hrun := run_make (P := P) w t e i z h1 hi hz kl kc n n (by omega) (Int.le_refl _) hb' h63'
  simp only [Int.toNat_natCast, hsize, Nat.mul_one] at hrun
  subst hL
  subst hC
  unfold Oper.wp
  simp [execOp, hop, hl, hc, hrun, Result.andThen]
  exact hK' _ _ hK
theorem bit1_get (r k : Nat) (hr : r < 64) (hk : k < 64) : (bit1 (r : Int)).getLsbD k = decide (k = r) := by
  unfold bit1
  rw [Int.toNat_natCast, BitVec.getLsbD_shiftLeft]
  by_cases h : k = r
  · subst h; simp [hk]
  · by_cases h' : k < r
    · simp [h, h']
    · have : k - r ≠ 0 := by omega
      simp [h, this]
def bAt (f : Nat → BitVec 64) (k : Nat) : Bool := (f (k / 64)).getLsbD (k % 64)
theorem split64 {i k : Nat} (h1 : i / 64 = k / 64) (h2 : i % 64 = k % 64) : i = k := by omega
theorem bAt_clr (f : Nat → BitVec 64) (k i : Nat) : bAt (fun j => if j = k / 64 then clrV (f (k / 64)) (bit1 ((k % 64 : Nat) : Int)) else f j) i = if i = k then false else bAt f i := by
  unfold bAt
  by_cases h : i / 64 = k / 64
  · simp only [h, if_true, clrV, BitVec.getLsbD_and, BitVec.getLsbD_not]
    rw [bit1_get _ _ (by omega) (by omega)]
    by_cases h2 : i % 64 = k % 64
    · rw [if_pos (split64 h h2)]; simp [h2]
    · rw [if_neg (fun e => h2 (by rw [e]))]; simp [h2]; omega
  · simp only [h, if_false]
    rw [if_neg (fun e => h (by rw [e]))]
theorem bAt_set (f : Nat → BitVec 64) (k i : Nat) : bAt (fun j => if j = k / 64 then setV (clrV (f (k / 64)) (bit1 ((k % 64 : Nat) : Int))) (bit1 ((k % 64 : Nat) : Int)) else if j = k / 64 then clrV (f (k / 64)) (bit1 ((k % 64 : Nat) : Int)) else f j) i = if i = k then true else bAt f i := by
  unfold bAt
  by_cases h : i / 64 = k / 64
  · simp only [h, if_true, setV, clrV, BitVec.getLsbD_or, BitVec.getLsbD_and, BitVec.getLsbD_not]
    rw [bit1_get _ _ (by omega) (by omega)]
    by_cases h2 : i % 64 = k % 64
    · rw [if_pos (split64 h h2)]; simp [h2]
    · rw [if_neg (fun e => h2 (by rw [e]))]; simp [h2]; omega
  · simp only [h, if_false]
    rw [if_neg (fun e => h (by rw [e]))]
theorem w_bit (k : Nat) : IntKind.u64.wrap (2 ^ (k % 64)) = bT (bit1 ((k % 64 : Nat) : Int)) := by
  rw [IntKind.wrap_u64]
  unfold bT bit1
  rw [Int.toNat_natCast, BitVec.toNat_shiftLeft, Nat.shiftLeft_eq]
  simp
theorem w_clr (a b : BitVec 64) : bits .andNot .u64 (bT a) (bT b) = bT (clrV a b) := by
  show IntKind.u64.wrap ((BitVec.ofInt 64 (bT a) &&& ~~~(BitVec.ofInt 64 (bT b))).toNat : Int) = _
  have ha : BitVec.ofInt 64 (bT a) = a := by unfold bT; rw [BitVec.ofInt_natCast, BitVec.ofNat_toNat]; simp
  have hb : BitVec.ofInt 64 (bT b) = b := by unfold bT; rw [BitVec.ofInt_natCast, BitVec.ofNat_toNat]; simp
  rw [ha, hb, wrap_bT]; rfl
theorem w_set (a b : BitVec 64) : bits .or .u64 (bT a) (bT b) = bT (setV a b) := by
  show IntKind.u64.wrap ((BitVec.ofInt 64 (bT a) ||| (BitVec.ofInt 64 (bT b))).toNat : Int) = _
  have ha : BitVec.ofInt 64 (bT a) = a := by unfold bT; rw [BitVec.ofInt_natCast, BitVec.ofNat_toNat]; simp
  have hb : BitVec.ofInt 64 (bT b) = b := by unfold bT; rw [BitVec.ofInt_natCast, BitVec.ofNat_toNat]; simp
  rw [ha, hb, wrap_bT]; rfl
theorem Blk.wset {w : World} {g n : Nat} {t : TypeId} {f : Nat → BitVec 64} (h : Blk w g t (wArr n f)) (i : Nat) (b : BitVec 64) : Blk (w.setCell ⟨g, i, none⟩ (.int .u64 (bT b))) g t (wArr n (fun j => if j = i then b else f j)) := by
  have := h.set_ i (.int .u64 (bT b))
  rwa [wArr_set] at this

/-- a bitmap in memory -/
structure BmA (w : World) (p g n : Nat) (f : Nat → BitVec 64) : Prop where
  blk : Blk w p 103 #[.int .i64 n, .slice (some ⟨g, 0, none⟩) ((n + 63) / 64) ((n + 63) / 64)]
  row : Blk w g 105 (wArr ((n + 63) / 64) f)
theorem BmA.ne {w : World} {p g n : Nat} {f : Nat → BitVec 64} (h : BmA w p g n f) : p ≠ g := h.blk.ne_ h.row (by decide)
theorem BmA.kp {w w' : World} {p g n : Nat} {f : Nat → BitVec 64} {F : Nat → Prop} (h : BmA w p g n f) (hk : Kp F w w') (hp : ¬ F p) (hg : ¬ F g) : BmA w' p g n f := ⟨h.blk.kp hk hp, h.row.kp hk hg⟩
theorem info_u64 : (Try.prog.info? 105).map (fun i => (i.zero, i.size, i.bytes)) = some (some (.int .u64 0), 1, 8) := by kernel_rfl

theorem bmThere (p n k : Nat) (c : Value) (w : World) (h : Blk w p 103 #[.int .i64 n, c]) :
    Calls Try.prog 58 #[.pointer (some ⟨p, 0, none⟩), .int .i64 k] w fun e w' => e = .returned (.bool (decide (k < n))) ∧ w' = w := by
  have c0 : w.cell? ⟨p, 0, none⟩ = some (.int .i64 n) := h.cell 0
  go_enter Try.func58, Try.ntmps58
  go_wp2
  go_ret
  exact ⟨ret_bool (by simp), rfl⟩

set_option maxHeartbeats 400000 in
theorem bmNew (n : Nat) (w : World) (hn : n ≤ 1000) :
    Calls Try.prog 49 #[.int .i64 n] w fun e w' => e = .returned (.pointer (some ⟨w.heap.size + 1, 0, none⟩)) ∧ BmA w' (w.heap.size + 1) w.heap.size n (fun _ => 0#64) ∧ Below w.heap.size w w' := by
  have hq : ((n : Int) + 64 - 1) / 64 = (((n + 63) / 64 : Nat) : Int) := by omega
  go_enter Try.func49, Try.ntmps49
  go_wp2_with (at_make; refine wpList_make1 _ rfl _ _ 101 rfl 105 (.int .u64 0) 8 Try.underlying101 info_u64 .i64 .i64 _ _ ((n + 63) / 64) rfl rfl ?l1 ?l2 ?l3 ?l4 ?k)
  case l1 => exact hq
  case l2 => exact hq
  case l3 => omega
  case l4 => unfold maxLen; omega
  go_ret
  have e := wArr_made ((n + 63) / 64)
  rw [e]
  have h0 := Blk.new w 105 (wArr ((n + 63) / 64) (fun _ => 0#64))
  refine ⟨rfl, ⟨?_, h0.alloc _⟩, ((Below.refl _ _).alloc (Nat.le_refl _) _).alloc (by simp) _⟩
  have := Blk.new (w.alloc (Obj.cells (wArr ((n + 63) / 64) (fun _ => 0#64)) 105)) 103 #[Value.int IntKind.i64 ↑n, Value.slice (some { block := w.heap.size, off := 0 }) ((n + 63) / 64) ((n + 63) / 64)]
  simpa using this

set_option maxHeartbeats 400000 in
theorem bmSet (p g n k : Nat) (b : Bool) (f : Nat → BitVec 64) (w : World) (hn : n ≤ 1000) (hk : k < n) (h : BmA w p g n f) :
    Calls Try.prog 50 #[.pointer (some ⟨p, 0, none⟩), .int .i64 k, .bool b] w fun e w' => e = .returned (.tuple #[]) ∧ ∃ f', BmA w' p g n f' ∧ (∀ i, bAt f' i = if i = k then b else bAt f i) ∧ Kp (fun j => j = g) w w' := by
  have c0 : w.cell? ⟨p, 0, none⟩ = some (.int .i64 n) := h.blk.cell 0
  have c1 : w.cell? ⟨p, 1, none⟩ = some (.slice (some ⟨g, 0, none⟩) ((n + 63) / 64) ((n + 63) / 64)) := h.blk.cell 1
  have hm : k / 64 < (n + 63) / 64 := by omega
  have g0 : w.cell? ⟨g, k / 64, none⟩ = some (.int .u64 (bT (f (k / 64)))) := by rw [h.row.cell, wArr_get _ _ _ hm]
  have g1 := h.row.frozen (k / 64)
  have hne := h.ne
  have H := Lib.hid h
  clear h
  go_enter Try.func50, Try.ntmps50
  go_wp2_with (go_at_call 58; refine (bmThere p n k _ _ H.out.blk).mono ?_; rintro e w1 ⟨rfl, rfl⟩)
  · go_end0
    simp only [w_bit, w_clr, w_set]
    have hb : b = true := by assumption
    subst hb
    refine ⟨trivial, _, ⟨(H.out.blk.far hne _).far hne _, (H.out.row.wset (k / 64) _).wset (k / 64) _⟩, bAt_set f k, ?_⟩
    exact Kp.setCell (F := fun j => j = g) (p := ⟨g, k / 64, none⟩) (Kp.set1 g (k / 64) _) (fun _ => rfl) _
  · go_end0
    simp only [w_bit, w_clr]
    have hb : b = false := by assumption
    subst hb
    exact ⟨trivial, _, ⟨H.out.blk.far hne _, H.out.row.wset (k / 64) _⟩, bAt_clr f k, Kp.set1 g (k / 64) _⟩

theorem bmSetNo (p g n k : Nat) (b : Bool) (f : Nat → BitVec 64) (w : World) (hk : ¬ k < n) (h : BmA w p g n f) :
    Calls Try.prog 50 #[.pointer (some ⟨p, 0, none⟩), .int .i64 k, .bool b] w fun e w' => e = .returned (.tuple #[]) ∧ w' = w := by
  have H := Lib.hid h
  clear h
  go_enter Try.func50, Try.ntmps50
  go_wp2_with (go_at_call 58; refine (bmThere p n k _ _ H.out.blk).mono ?_; rintro e w1 ⟨rfl, rfl⟩)
  refine bodyPost_ret (results_none rfl _ _ _) rfl ?_
  exact ⟨rfl, rfl⟩

set_option maxHeartbeats 400000 in
theorem bmHas (p g n k : Nat) (f : Nat → BitVec 64) (w : World) (hn : n ≤ 1000) (hk : k < n) (h : BmA w p g n f) :
    Calls Try.prog 59 #[.pointer (some ⟨p, 0, none⟩), .int .i64 k] w fun e w' => e = .returned (.bool (bAt f k)) ∧ w' = w := by
  have c0 : w.cell? ⟨p, 0, none⟩ = some (.int .i64 n) := h.blk.cell 0
  have c1 : w.cell? ⟨p, 1, none⟩ = some (.slice (some ⟨g, 0, none⟩) ((n + 63) / 64) ((n + 63) / 64)) := h.blk.cell 1
  have hm : k / 64 < (n + 63) / 64 := by omega
  have g0 : w.cell? ⟨g, k / 64, none⟩ = some (.int .u64 (bT (f (k / 64)))) := by rw [h.row.cell, wArr_get _ _ _ hm]
  have H := Lib.hid h
  clear h
  go_enter Try.func59, Try.ntmps59
  go_wp2_with (go_at_call 58; refine (bmThere p n k _ _ H.out.blk).mono ?_; rintro e w1 ⟨rfl, rfl⟩)
  go_ret
  exact ⟨ret_bool (w_has _ _), rfl⟩

/-- the first of whom E holds, from t on, round and round -/
def pickAt (n t : Nat) (E : Nat → Bool) : Option Nat := ((List.range n).map fun i => (t + i) % n).find? E
theorem find_get {α : Type} {E : α → Bool} {l : List α} {i : Nat} (hi : i < l.length) (he : E l[i] = true) (hno : ∀ j (hj : j < l.length), j < i → E l[j] = false) : l.find? E = some l[i] := by
  rw [List.find?_eq_some_iff_getElem]
  exact ⟨he, i, hi, rfl, fun j hj => by rw [hno j (by omega) hj]; rfl⟩
theorem pickAt_some {n t i : Nat} {E : Nat → Bool} (hi : i < n) (he : E ((t + i) % n) = true) (hno : ∀ j, j < i → E ((t + j) % n) = false) : pickAt n t E = some ((t + i) % n) := by
  unfold pickAt
  have hl : ((List.range n).map fun i => (t + i) % n).length = n := by simp
  have := find_get (E := E) (l := (List.range n).map fun i => (t + i) % n) (i := i) (by rw [hl]; exact hi) (by simpa using he) (fun j hj hji => by simpa using hno j hji)
  simpa using this
theorem pickAt_none {n t : Nat} {E : Nat → Bool} (hno : ∀ j, j < n → E ((t + j) % n) = false) : pickAt n t E = none := by
  unfold pickAt
  rw [List.find?_eq_none]
  intro x hx
  obtain ⟨j, hj, rfl⟩ := List.mem_map.1 hx
  rw [hno j (by simpa using hj)]; decide
theorem find_congr {α : Type} {p q : α → Bool} : ∀ {l : List α}, (∀ x ∈ l, p x = q x) → l.find? p = l.find? q
  | [], _ => rfl
  | x :: l, h => by rw [List.find?_cons, List.find?_cons, h x (by simp), find_congr (fun y hy => h y (by simp [hy]))]
theorem pickAt_congr {n t : Nat} {E E' : Nat → Bool} (h : ∀ k, k < n → E k = E' k) : pickAt n t E = pickAt n t E' := by
  unfold pickAt
  rcases Nat.eq_zero_or_pos n with rfl | hn
  · rfl
  · apply find_congr
    intro x hx
    obtain ⟨j, _, rfl⟩ := List.mem_map.1 hx
    exact h _ (Nat.mod_lt _ hn)
/-- from t up -/
theorem pickAt_up {n t k : Nat} {E : Nat → Bool} (ht : t ≤ k) (hk : k < n) (he : E k = true) (hno : ∀ j, t ≤ j → j < k → E j = false) : pickAt n t E = some k := by
  have e : ∀ j, j ≤ k - t → (t + j) % n = t + j := fun j hj => Nat.mod_eq_of_lt (by omega)
  have hkt : t + (k - t) = k := by omega
  have := pickAt_some (n := n) (t := t) (i := k - t) (E := E) (by omega) (by rw [e _ (Nat.le_refl _), hkt]; exact he) (fun j hj => by rw [e j (by omega)]; exact hno _ (by omega) (by omega))
  rw [this, e _ (Nat.le_refl _), hkt]
/-- and from the first on -/
theorem pickAt_low {n t k : Nat} {E : Nat → Bool} (htn : t ≤ n) (hk : k < t) (he : E k = true) (h1 : ∀ j, t ≤ j → j < n → E j = false) (h2 : ∀ j, j < k → E j = false) : pickAt n t E = some k := by
  have hi : n - t + k < n := by omega
  have e : (t + (n - t + k)) % n = k := by
    rw [show t + (n - t + k) = n + k by omega, Nat.add_mod_left]
    exact Nat.mod_eq_of_lt (by omega)
  have := pickAt_some (n := n) (t := t) (i := n - t + k) (E := E) hi (by rw [e]; exact he) (fun j hj => by
    by_cases hjn : t + j < n
    · rw [Nat.mod_eq_of_lt hjn]; exact h1 _ (by omega) hjn
    · rw [show t + j = n + (t + j - n) by omega, Nat.add_mod_left, Nat.mod_eq_of_lt (by omega)]
      exact h2 _ (by omega))
  rw [this, e]
theorem pickAt_no {n t : Nat} {E : Nat → Bool} (h : ∀ j, j < n → E j = false) : pickAt n t E = none :=
  pickAt_none fun j hj => h _ (Nat.mod_lt _ (by omega))

def nextV : Option Nat → Value
  | some k => .tuple #[.int .i64 k, .bool true]
  | none => .tuple #[.int .i64 0, .bool false]

set_option maxHeartbeats 1000000 in
theorem bmNext (p g n t : Nat) (f : Nat → BitVec 64) (w : World) (hn : n ≤ 1000) (ht : t ≤ n) (h : BmA w p g n f) :
    Calls Try.prog 51 #[.pointer (some ⟨p, 0, none⟩), .int .i64 t] w fun e w' => e = .returned (nextV (pickAt n t (bAt f))) ∧ ∃ q, w' = w.drewN q := by
  have c0 : w.cell? ⟨p, 0, none⟩ = some (.int .i64 n) := h.blk.cell 0
  have H := Lib.hid h
  clear h
  go_enter Try.func51, Try.ntmps51
  go_wp2_with fail
  refine wp_scope_ghost 0 (fun m aa wr => ∃ u1 u2 u3 u4 u5 u6 u7 u8 u9 u10 u11 u12 u13 u14 u15 u16 u17 u18 u19 u20 u21 u22 u23 u24 u25 u26 u27 u28 u29 u30 u31, ((∃ q, wr = w.drewN q) ∧ ((m = 1 ∧ u1 = .int .i64 t ∧ u6 = .int .i64 t ∧ u7 = .int .i64 n) ∨ (m = 0 ∧ u1 = .int .i64 0 ∧ u6 = .int .i64 0 ∧ u7 = .int .i64 t ∧ ∀ j, t ≤ j → j < n → bAt f j = false))) ∧
    aa = { tmps := #[.pointer (some ⟨p, 0, none⟩), u1, u2, u3, u4, u5, u6, u7, u8, u9, u10, u11, u12, u13, u14, u15, u16, u17, u18, u19, u20, u21, u22, u23, u24, u25, u26, u27, u28, u29, u30, u31], defers := [] }) rfl ?_ ?_
  · intro m aa wr hI J hJ
    obtain ⟨u1, u2, u3, u4, u5, u6, u7, u8, u9, u10, u11, u12, u13, u14, u15, u16, u17, u18, u19, u20, u21, u22, u23, u24, u25, u26, u27, u28, u29, u30, u31, ⟨⟨q, rfl⟩, hst⟩, rfl⟩ := hI
    rcases hst with ⟨rfl, rfl, rfl, rfl⟩ | ⟨rfl, rfl, rfl, rfl, hfar⟩
    · have HJ := Lib.hid hJ
      clear hJ
      go_wp2_with fail
      go_loopg [6] (n - t) (fun g i wr => ∃ (k : Nat), k + g = n ∧ t ≤ k ∧ i = .int .i64 k ∧ (∀ j, t ≤ j → j < k → bAt f j = false) ∧ ∃ q, wr = w.drewN q)
      case atStart => exact ⟨t, by omega, Nat.le_refl _, rfl, fun j h1 h2 => absurd h2 (by omega), q, rfl⟩
      case round =>
        obtain ⟨k, hk, hlo, rfl, hno, q2, rfl⟩ := hrel
        have hb2 := H.out.kp (F := None') ((Kp.refl _ _).drewN q2) id id
        have HB2 := Lib.hid hb2
        have Hk := Lib.hid hk
        have Hno := Lib.hid hno
        clear hk hno
        clear hb2
        by_cases hlt : k < n
        · cases hbk : bAt f k with
          | true =>
            have HN : Hid (pickAt n t (bAt f) = some k) := pickAt_up hlo hlt hbk Hno.out
            go_wp2_with (go_at_call 59; refine (bmHas p g n k f _ hn (by omega) HB2.out).mono ?_; rintro e w1 ⟨rfl, rfl⟩; rw [hbk])
            simp only [Exit.jump]
            go_ret2
            exact ⟨by rw [HN.out]; rfl, q2, rfl⟩
          | false =>
            go_wp2_with (go_at_call 59; refine (bmHas p g n k f _ hn (by omega) HB2.out).mono ?_; rintro e w1 ⟨rfl, rfl⟩; rw [hbk])
            go_roundg (n - (k + 1))
            case measure => have := Hk.out; omega
            case rel =>
              refine ⟨k + 1, by omega, by omega, by go_num, ?_, q2, rfl⟩
              intro j hj hjk
              rcases Nat.lt_or_ge j k with h | h
              · exact Hno.out j hj h
              · obtain rfl : j = k := by omega
                exact hbk
        · have hke : k = n := by have := Hk.out; omega
          subst hke
          by_cases ht0 : 0 < t
          · go_wp2_with fail
            have hJ := HJ.out
            go_step3
            refine ⟨rfl, ?_⟩
            go_roundg 0
            case measure => omega
            case rel => exact ⟨⟨q2, rfl⟩, .inr ⟨rfl, rfl, rfl, rfl, Hno.out⟩⟩
          · have HN : Hid (pickAt k t (bAt f) = none) := pickAt_no fun j hj => Hno.out j (by omega) hj
            go_wp2_with fail
            simp only [Exit.jump]
            go_ret2
            exact ⟨by rw [HN.out]; rfl, q2, rfl⟩
    · have Hfar := Lib.hid hfar
      clear hJ hfar
      go_wp2_with fail
      go_loopg [6] (t - 0) (fun g i wr => ∃ (k : Nat), k + g = t ∧ 0 ≤ k ∧ i = .int .i64 k ∧ (∀ j, 0 ≤ j → j < k → bAt f j = false) ∧ ∃ q, wr = w.drewN q)
      case atStart => exact ⟨0, by omega, Nat.le_refl _, rfl, fun j h1 h2 => absurd h2 (by omega), q, rfl⟩
      case round =>
        obtain ⟨k, hk, hlo, rfl, hno, q2, rfl⟩ := hrel
        have hb2 := H.out.kp (F := None') ((Kp.refl _ _).drewN q2) id id
        have HB2 := Lib.hid hb2
        have Hk := Lib.hid hk
        have Hno := Lib.hid hno
        clear hk hno
        clear hb2
        by_cases hlt : k < t
        · cases hbk : bAt f k with
          | true =>
            have HN : Hid (pickAt n t (bAt f) = some k) := pickAt_low ht hlt hbk Hfar.out (fun j hj => Hno.out j (Nat.zero_le _) hj)
            go_wp2_with (go_at_call 59; refine (bmHas p g n k f _ hn (by omega) HB2.out).mono ?_; rintro e w1 ⟨rfl, rfl⟩; rw [hbk])
            simp only [Exit.jump]
            go_ret2
            exact ⟨by rw [HN.out]; rfl, q2, rfl⟩
          | false =>
            go_wp2_with (go_at_call 59; refine (bmHas p g n k f _ hn (by omega) HB2.out).mono ?_; rintro e w1 ⟨rfl, rfl⟩; rw [hbk])
            go_roundg (t - (k + 1))
            case measure => have := Hk.out; omega
            case rel =>
              refine ⟨k + 1, by omega, by omega, by go_num, ?_, q2, rfl⟩
              intro j hj hjk
              rcases Nat.lt_or_ge j k with h | h
              · exact Hno.out j hj h
              · obtain rfl : j = k := by omega
                exact hbk
        · have hke : k = t := by have := Hk.out; omega
          subst hke
          have HN : Hid (pickAt n k (bAt f) = none) := pickAt_no fun j hj => by
            by_cases hjk : j < k
            · exact Hno.out j (Nat.zero_le _) hjk
            · exact Hfar.out j (by omega) hj
          go_wp2_with fail
          simp only [Exit.jump]
          go_ret2
          exact ⟨by rw [HN.out]; rfl, q2, rfl⟩
  · intro J hJ
    have HJ := Lib.hid hJ
    clear hJ
    go_wp2_with fail
    go_quiet (fail)
    go_wp2_with fail
    go_step3
    go_step
    go_step
    refine HJ.out 1 _ _ ?_
    (repeat apply Exists.intro)
    exact ⟨⟨⟨_, rfl⟩, .inl ⟨rfl, rfl, rfl, rfl⟩⟩, rfl⟩
end Go.Proofs.Ythaoplcmkaaflaa
