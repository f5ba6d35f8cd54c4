import Derived.Test.YthaoplcmkaaflaaDoorBase
import Derived.Test.YthaoplcmkaaflaaDoorRow
import Derived.Deep.Slices
import Derived.Deep.Strs
import Derived.ChangeSame
namespace Go.Proofs.YthaoplcmkaaflaaDoor
open Go.RowKit Go.ChangeShapes Go.WideShapes Go.Deep

/-- cells that came in, read: K an element -/
theorem rd_cells' {w : World} {a : Addr} {n K : Nat} {cs : List Value} (hK : 0 < K) (hl : cs.length = n * K) (hc : ∀ i, i < n → ∀ j, j < K → ∃ u, cs[i * K + j]? = some u ∧ w.cell? ((a.add (i * K)).add j) = some u) : Rd w K (some a) n cs := by
  refine ⟨hl, fun hn => ?_⟩
  obtain ⟨u, _, h0⟩ := hc 0 hn 0 hK
  rw [Nat.zero_mul] at h0
  obtain ⟨b, o, e⟩ := spot_none h0
  have ha : a = ⟨b, o, none⟩ := e
  subst ha
  refine ⟨b, o, rfl, fun j v hv => ?_⟩
  have hj : j < n * K := by rw [← hl]; exact (List.getElem?_eq_some_iff.1 hv).1
  have hdm := Nat.div_add_mod j K
  rw [Nat.mul_comm] at hdm
  obtain ⟨u, h1, h2⟩ := hc (j / K) ((Nat.div_lt_iff_lt_mul hK).2 hj) (j % K) (Nat.mod_lt _ hK)
  rw [hdm] at h1
  rw [hv] at h1
  obtain rfl := Option.some.inj h1
  rw [Addr.add_lit, Addr.add_lit, Nat.add_assoc, hdm] at h2
  exact h2

section
variable {H : Type} {enc : TypeId × Value → H} {P : Program} {w : World} {base : Nat} {spare : Nat → Bool} {held : Bool}
theorem trod_fields {t : TypeId} {fs : Array Field} {fuel : Nat} {cs : List Value} {x : DataW H × List MemPlace} (ht : P.underlying t = some (.struct fs)) (h : DataW.trod enc P w base spare held fuel t cs = some x) :
    cs.length = P.cellsOf t ∧ ∃ n, ∀ (i : Nat) (ty : TypeId) (off : Nat), fs[i]?.map (fun f => (f.type, f.offset)) = some (ty, off) → ∃ y, DataW.trod enc P w base spare held n ty ((cs.drop off).take (P.cellsOf ty)) = some y := by
  obtain ⟨xs, n, _, _, hl, hlen, hf⟩ := DataW.trod_struct ht h
  refine ⟨hl, n, fun i ty off hi0 => ?_⟩
  obtain ⟨f, hi, he⟩ := Option.map_eq_some_iff.1 hi0
  obtain ⟨rfl, rfl⟩ := Prod.mk.inj he
  have hlt : i < xs.length := by rw [hlen]; exact (Array.getElem?_eq_some_iff.1 hi).1
  exact ⟨xs[i], (hf i f hi).trans (List.getElem?_eq_getElem hlt)⟩

/-- a slice that came in, each element read by 'dec' -/
theorem open_rows {α : Type} [Inhabited α] {K : Nat} (ea : α → List Value) (hk : ∀ x, (ea x).length = K) (hK : 0 < K) (R : α → Prop) {t e : TypeId} (ht : P.underlying t = some (.slice e)) (cK : P.cellsOf e = K)
    (dec : ∀ {n : Nat} {cs : List Value} {y : DataW H × List MemPlace}, DataW.trod enc P w base spare held n e cs = some y → ∃ x, cs = ea x ∧ R x)
    {fuel len cap : Nat} {a : Option Addr} {x : DataW H × List MemPlace} (h : DataW.trod enc P w base spare held fuel t [.slice a len cap] = some x) :
    len ≤ cap ∧ cap ≤ maxLen ∧ ∃ xs : List α, xs.length = len ∧ Rd w K a len (xs.flatMap ea) ∧ ∀ x ∈ xs, R x := by
  rcases open_slice ht h with ⟨h0, _⟩ | ⟨b, l, c, m, n, D, Pl, h0, hb, hl, hm, hmm, _, hx⟩
  · simp at h0
    obtain ⟨rfl, rfl, rfl⟩ := h0
    exact ⟨Nat.le_refl _, Nat.zero_le _, [], rfl, Rd.nil_, fun x hx => by cases hx⟩
  · simp at h0
    obtain ⟨rfl, rfl, rfl⟩ := h0
    refine ⟨hl, hm, ?_⟩
    have hle : len ≤ m := by rw [hmm]; split <;> omega
    obtain ⟨S, hS⟩ := choose_lt (α := α) (n := len) (p := fun i s => (∀ j, j < K → ∃ u, (ea s)[j]? = some u ∧ w.cell? ((b.add (i * K)).add j) = some u) ∧ R s) (fun i hi => by
      obtain ⟨cs', hc, ht'⟩ := hx i (by omega)
      rw [cK] at hc
      obtain ⟨_, hcl, hcell⟩ := World.cells?_some hc
      obtain ⟨s, rfl, hR⟩ := dec ht'
      refine ⟨s, fun j hj => ?_, hR⟩
      have hj' : j < (ea s).length := by rw [hk]; exact hj
      exact ⟨_, List.getElem?_eq_getElem hj', (hcell j hj).trans (List.getElem?_eq_getElem hj')⟩)
    refine ⟨(List.range len).map S, by simp, rd_cells' hK (by rw [flat_len K ea hk]; simp) (fun i hi j hj => ?_), ?_⟩
    · obtain ⟨u, h1, h2⟩ := (hS i hi).1 j hj
      refine ⟨u, ?_, h2⟩
      rw [flat_get K ea hk _ i j (by simpa using hi) hj]
      simpa using h1
    · intro x hx
      obtain ⟨i, hi, rfl⟩ := List.mem_map.1 hx
      exact (hS i (by simpa using hi)).2

theorem flat_one {α : Type} (f : α → Value) (l : List α) : l.flatMap (fun x => [f x]) = l.map f := by induction l <;> simp_all
theorem open_bools_rd {t e : TypeId} (ht : P.underlying t = some (.slice e)) (he : P.underlying e = some .bool) (cK : P.cellsOf e = 1)
    {fuel len cap : Nat} {a : Option Addr} {x : DataW H × List MemPlace} (h : DataW.trod enc P w base spare held fuel t [.slice a len cap] = some x) :
    len ≤ cap ∧ cap ≤ maxLen ∧ ∃ xs : List Bool, xs.length = len ∧ Rd w 1 a len (xs.map .bool) := by
  obtain ⟨h1, h2, xs, h3, h4, _⟩ := open_rows (α := Bool) (K := 1) (fun b => [.bool b]) (fun _ => rfl) (by decide) (fun _ => True) ht cK (fun h => by
    obtain ⟨b, rfl, _⟩ := DataW.trod_bool he h
    exact ⟨b, rfl, trivial⟩) h
  exact ⟨h1, h2, xs, h3, by rw [← flat_one]; exact h4⟩
theorem open_strings_rd {t e : TypeId} (ht : P.underlying t = some (.slice e)) (he : P.underlying e = some .string) (cK : P.cellsOf e = 1)
    {fuel len cap : Nat} {a : Option Addr} {x : DataW H × List MemPlace} (h : DataW.trod enc P w base spare held fuel t [.slice a len cap] = some x) :
    len ≤ cap ∧ cap ≤ maxLen ∧ ∃ xs : List ByteArray, xs.length = len ∧ Rd w 1 a len (xs.map .string) ∧ ∀ s ∈ xs, s.size ≤ maxLen := by
  obtain ⟨h1, h2, xs, h3, h4, h5⟩ := open_rows (α := ByteArray) (K := 1) (fun b => [.string b]) (fun _ => rfl) (by decide) (fun s => s.size ≤ maxLen) ht cK (fun h => by
    obtain ⟨b, rfl, _, hb⟩ := DataW.trod_string he h
    exact ⟨b, rfl, hb⟩) h
  exact ⟨h1, h2, xs, h3, by rw [← flat_one]; exact h4, h5⟩
theorem open_ints_rd {k : IntKind} {t e : TypeId} (ht : P.underlying t = some (.slice e)) (he : P.underlying e = some (.int k)) (cK : P.cellsOf e = 1)
    {fuel len cap : Nat} {a : Option Addr} {x : DataW H × List MemPlace} (h : DataW.trod enc P w base spare held fuel t [.slice a len cap] = some x) :
    len ≤ cap ∧ cap ≤ maxLen ∧ ∃ xs : List Int, xs.length = len ∧ Rd w 1 a len (xs.map (.int k)) ∧ ∀ x ∈ xs, (Lit.int k x).wf = true := by
  obtain ⟨h1, h2, xs, h3, h4, h5⟩ := open_rows (α := Int) (K := 1) (fun b => [.int k b]) (fun _ => rfl) (by decide) (fun b => (Lit.int k b).wf = true) ht cK (fun h => by
    obtain ⟨b, rfl, _, hw⟩ := DataW.trod_int he h
    exact ⟨b, rfl, hw⟩) h
  exact ⟨h1, h2, xs, h3, by rw [← flat_one]; exact h4, h5⟩
end
end Go.Proofs.YthaoplcmkaaflaaDoor
