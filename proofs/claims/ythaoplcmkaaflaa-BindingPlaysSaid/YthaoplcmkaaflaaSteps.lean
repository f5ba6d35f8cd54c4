import Derived.Test.YthaoplcmkaaflaaPlaysP
import Derived.Test.YthaoplcmkaaflaaRow
import Derived.Deep.Slices
import Derived.Deep.Strs
import Derived.ChangeSame
namespace Go.Proofs.Ythaoplcmkaaflaa
open Go.RowKit Go.ChangeShapes Go.WideShapes Go.Deep

/-- cells that came in, read: K an element -/
theorem rd_cells {w : World} {a : Addr} {n K : Nat} {cs : List Value} (hK : 0 < K) (hl : cs.length = n * K) (hc : ∀ i, i < n → ∀ j, j < K → ∃ u, cs[i * K + j]? = some u ∧ w.cell? ((a.add (i * K)).add j) = some u) : Rd w K (some a) n cs := by
  refine ⟨hl, fun hn => ?_⟩
  obtain ⟨u, _, h0⟩ := hc 0 hn 0 hK
  rw [Nat.zero_mul] at h0
  obtain ⟨b, o, e⟩ := spot_none h0
  have ha : a = ⟨b, o, none⟩ := e
  subst ha
  refine ⟨b, o, rfl, fun j v hv => ?_⟩
  have hj : j < n * K := by rw [← hl]; exact (List.getElem?_eq_some_iff.1 hv).1
  have hdm := Nat.div_add_mod j K
  rw [Nat.mul_comm] at hdm
  obtain ⟨u, h1, h2⟩ := hc (j / K) ((Nat.div_lt_iff_lt_mul hK).2 hj) (j % K) (Nat.mod_lt _ hK)
  rw [hdm] at h1
  rw [hv] at h1
  obtain rfl := Option.some.inj h1
  rw [Addr.add_lit, Addr.add_lit, Nat.add_assoc, hdm] at h2
  exact h2

theorem len3 {α : Type} {l : List α} (h : l.length = 3) : ∃ a b c, l = [a, b, c] := by
  match l, h with
  | [a, b, c], _ => exact ⟨a, b, c, rfl⟩
theorem len4 {α : Type} {l : List α} (h : l.length = 4) : ∃ a b c d, l = [a, b, c, d] := by
  match l, h with
  | [a, b, c, d], _ => exact ⟨a, b, c, d, rfl⟩
instance : Inhabited (Int × Bd) := ⟨(0, ⟨⟨#[]⟩, ⟨#[]⟩, ⟨#[]⟩⟩)⟩
section
variable {H : Type} {enc : TypeId × Value → H} {w : World} {base : Nat} {spare : Nat → Bool} {held : Bool}
theorem trod_bd {fuel : Nat} {cs : List Value} {x : DataW H × List MemPlace} (h : DataW.trod enc Try.prog w base spare held fuel 28 cs = some x) : ∃ b : Bd, cs = b.cs := by
  obtain ⟨y0, y1, y2, n, _, hl, h0, h1, h2⟩ := trod_struct3 Try.underlying28 h
  obtain ⟨s0, e0, _⟩ := DataW.trod_string Try.underlying9 h0
  obtain ⟨s1, e1, _⟩ := DataW.trod_string Try.underlying9 h1
  obtain ⟨s2, e2, _⟩ := DataW.trod_string Try.underlying9 h2
  have c1 : Try.prog.cellsOf 9 = 1 := by kernel_rfl
  have c3 : Try.prog.cellsOf 28 = 3 := by kernel_rfl
  rw [c3] at hl
  simp only [c1] at e0 e1 e2
  clear h h0 h1 h2
  obtain ⟨v0, v1, v2, rfl⟩ := len3 hl
  have e0' : v0 = .string s0 := by simpa using e0
  have e1' : v1 = .string s1 := by simpa using e1
  have e2' : v2 = .string s2 := by simpa using e2
  exact ⟨⟨s0, s1, s2⟩, by rw [e0', e1', e2']; rfl⟩

theorem open_steps {fuel len cap : Nat} {a : Option Addr} {x : DataW H × List MemPlace} (h : DataW.trod enc Try.prog w base spare held fuel 37 [.slice a len cap] = some x) :
    len ≤ cap ∧ cap ≤ maxLen ∧ ∃ ss : List (Int × Bd), ss.length = len ∧ Rd w 4 a len (Sts ss) := by
  have cK : Try.prog.cellsOf 43 = 4 := by kernel_rfl
  have cI : Try.prog.cellsOf 3 = 1 := by kernel_rfl
  have c3 : Try.prog.cellsOf 28 = 3 := by kernel_rfl
  rcases open_slice Try.underlying37 h with ⟨h0, _⟩ | ⟨b, l, c, m, n, D, Pl, h0, hb, hl, hm, hmm, _, hx⟩
  · simp at h0
    obtain ⟨rfl, rfl, rfl⟩ := h0
    exact ⟨Nat.le_refl _, Nat.zero_le _, [], rfl, Rd.nil_⟩
  · simp at h0
    obtain ⟨rfl, rfl, rfl⟩ := h0
    refine ⟨hl, hm, ?_⟩
    have hle : len ≤ m := by rw [hmm]; split <;> omega
    obtain ⟨S, hS⟩ := choose_lt (α := Int × Bd) (n := len) (p := fun i s => ∀ j, j < 4 → ∃ u, (stCs s)[j]? = some u ∧ w.cell? ((b.add (i * 4)).add j) = some u) (fun i hi => by
      obtain ⟨cs', hc, ht⟩ := hx i (by omega)
      rw [cK] at hc
      obtain ⟨_, hcl, hcell⟩ := World.cells?_some hc
      obtain ⟨y0, y1, n', _, hlen, h0, h1⟩ := trod_struct2 Try.underlying43 ht
      obtain ⟨o, e0, _⟩ := DataW.trod_int Try.underlying3 h0
      obtain ⟨bd, e1⟩ := trod_bd h1
      simp only [cI, c3] at e0 e1
      clear h0 h1 ht hc hx hlen
      obtain ⟨v0, v1, v2, v3, rfl⟩ := len4 hcl
      have e0' : v0 = .int .i64 o := by simpa using e0
      have e1' : [v1, v2, v3] = bd.cs := by simpa using e1
      have e : [v0, v1, v2, v3] = stCs (o, bd) := by rw [stCs, ← e1', e0']
      rw [e] at hcell
      refine ⟨(o, bd), fun j hj => ?_⟩
      have hj' : j < (stCs (o, bd)).length := hj
      exact ⟨_, List.getElem?_eq_getElem hj', (hcell j hj).trans (List.getElem?_eq_getElem hj')⟩)
    refine ⟨(List.range len).map S, by simp, rd_cells (by decide) (by rw [Sts, flat_len 4 stCs stCs_len]; simp) (fun i hi j hj => ?_)⟩
    obtain ⟨u, h1, h2⟩ := hS i hi j hj
    refine ⟨u, ?_, h2⟩
    rw [Sts, flat_get 4 stCs stCs_len _ i j (by simpa using hi) hj]
    simpa using h1
end
end Go.Proofs.Ythaoplcmkaaflaa
