import Derived.Test.YthaoplcmkaaflaaApp
import Derived.ArgAppend
namespace Go.Proofs.Ythaoplcmkaaflaa
open Go.RowKit

def spl : Array Value → Nat → List Value → Array Value
  | cs, _, [] => cs
  | cs, o, v :: vs => spl (cs.setIfInBounds o v) (o + 1) vs
theorem spl_size : ∀ (vs : List Value) (cs : Array Value) (o : Nat), (spl cs o vs).size = cs.size
  | [], _, _ => rfl
  | v :: vs, cs, o => by rw [spl, spl_size vs]; simp
theorem spl_list : ∀ (vs : List Value) (cs : Array Value) (o : Nat), o + vs.length ≤ cs.size → (spl cs o vs).toList = cs.toList.take o ++ vs ++ cs.toList.drop (o + vs.length)
  | [], cs, o, _ => by simp [spl]
  | v :: vs, cs, o, h => by
    have ho : o < cs.size := by simp at h; omega
    rw [spl, spl_list vs _ _ (by simp at h ⊢; omega)]
    simp only [Array.toList_setIfInBounds, List.length_cons]
    rw [List.take_succ_eq_append_getElem (by simpa using ho), List.getElem_set_self, List.take_set_of_le (Nat.le_refl _), List.drop_set_of_lt (by omega)]
    simp [Nat.add_assoc, Nat.add_comm 1]
theorem setCells_blk {g : Nat} {t : TypeId} : ∀ (vs : List Value) (cs : Array Value) (o : Nat) (w : World), Blk w g t cs → Blk (w.setCells g o vs) g t (spl cs o vs)
  | [], _, _, _, h => h
  | v :: vs, cs, o, w, h => by
    rw [World.setCells, spl]
    exact setCells_blk vs _ _ _ (h.set_ o v)
theorem kp_setCells (g : Nat) : ∀ (vs : List Value) (o : Nat) (w : World), Kp (fun k => k = g) w (w.setCells g o vs)
  | [], _, w => Kp.refl _ w
  | v :: vs, o, w => by
    rw [World.setCells]
    exact (Kp.set1 g o v).trans (kp_setCells g vs (o + 1) _) (fun _ _ h => h)

theorem del_row {cur : Array Value} {cs zs : List Value} {c k i K : Nat} (hcur : cur.size = c * K) (hk : k + 1 ≤ c) (hi : i ≤ k) (htk : cur.toList.take ((k + 1) * K) = cs) (hcl : cs.length = (k + 1) * K) (hz : zs.length = K) :
    (spl (spl cur (i * K) (cs.drop ((i + 1) * K))) (k * K) zs).size = c * K ∧ (spl (spl cur (i * K) (cs.drop ((i + 1) * K))) (k * K) zs).toList.take (k * K) = cs.take (i * K) ++ cs.drop ((i + 1) * K) ∧ (cs.take (i * K) ++ cs.drop ((i + 1) * K)).length = k * K := by
  have e1 : (k + 1) * K = k * K + K := Nat.succ_mul k K
  have e2 : (i + 1) * K = i * K + K := Nat.succ_mul i K
  have e3 : (k + 1) * K ≤ c * K := Nat.mul_le_mul_right K hk
  have e4 : i * K ≤ k * K := Nat.mul_le_mul_right K hi
  have hdl : (cs.drop ((i + 1) * K)).length = k * K - i * K := by rw [List.length_drop, hcl]; omega
  have hs1 : (spl cur (i * K) (cs.drop ((i + 1) * K))).size = c * K := by rw [spl_size, hcur]
  have hlen : (cs.take (i * K) ++ cs.drop ((i + 1) * K)).length = k * K := by rw [List.length_append, List.length_take, hdl, hcl]; omega
  refine ⟨by rw [spl_size, hs1], ?_, hlen⟩
  have ht : cur.toList.take (i * K) = cs.take (i * K) := by rw [← htk, List.take_take]; congr 1; omega
  rw [spl_list _ _ _ (by rw [hs1, hz]; omega), List.append_assoc, List.take_append_of_le_length (by rw [List.length_take, Array.length_toList, hs1]; omega), List.take_take, Nat.min_self]
  rw [spl_list _ _ _ (by rw [hcur, hdl]; omega), ht]
  exact List.take_left' hlen

section
variable {P : Program} (w : World)
/-- append within the room of one's own block, of cells that may lie there too -/
theorem wpList_app_in {ops : Array Oper} {rest : List Oper} {o : Oper} {a : Act} {Q : Exit → Act → World → Prop} (hgd : o.guard = none) (s x : Operand) (t : TypeId)
    (ho : o.op = .call { callee := .builtin .append, args := #[s, x], argTypes := #[t, t] })
    (e : TypeId) (z : Value) (size bytes : Nat) (ht : P.underlying t = some (.slice e)) (hI : (P.info? e).map (fun i => (i.zero, i.size, i.bytes)) = some (some z, size, bytes))
    (g n c : Nat) (cur : Array Value) (hs : a.eval s = .slice (some ⟨g, 0, none⟩) n c) (hb : Blk w g e cur) (hcur : cur.size = c * size)
    (X : Option Addr) (m cx : Nat) (news : List Value) (hx : a.eval x = .slice X m cx) (hr : Rd w size X m news) (h1 : ∀ u ∈ news, u.oneCell' = true) (hroom : n + m ≤ c) (r : Nat) (hnm : n + m = r)
    (h : wpList P ops Q rest (a.put o.dst (.slice (some ⟨g, 0, none⟩) r c)) (w.setCells g (n * size) news)) : wpList P ops Q (o :: rest) a w := by
  subst hnm
  obtain ⟨i, hi, hz, hsize, hby⟩ := info_parts hI
  refine wpList_plain hgd fun K hK => ?_
  have hrun : (Builtin.append_ #[t, t] o.type #[.slice (some ⟨g, 0, none⟩) n c, .slice X m cx]).run P w = .ok (.slice (some ⟨g, 0, none⟩) (n + m) c) (w.setCells g (n * size) news) := by
    subst hsize
    have hbd : n * i.size + news.length ≤ cur.size := by
      rw [hr.1, hcur, ← Nat.add_mul]; exact Nat.mul_le_mul_right _ hroom
    have hcell : ∀ j, j < news.length → (w.cell? ⟨g, 0 + n * i.size + j, none⟩).isSome = true := fun j hj => by
      rw [hb.cell, Array.getElem?_eq_getElem (by omega)]; rfl
    have hfr : ∀ j, j < news.length → w.frozen? ⟨g, 0 + n * i.size + j, none⟩ = false := fun j _ => hb.frozen _
    have go : ∀ ad : Addr, X = some ad → (∀ j u, news[j]? = some u → w.cell? (ad.add j) = some u) → (Builtin.append_ #[t, t] o.type #[.slice (some ⟨g, 0, none⟩) n c, .slice X m cx]).run P w = .ok (.slice (some ⟨g, 0, none⟩) (n + m) c) (w.setCells g (n * i.size) news) := by
      rintro ad rfl hc
      have := run_append_room_cells (P := P) w t o.type e i ht hi g 0 n c ad m cx news hr.1 hc h1 hroom hcell hfr
      simpa using this
    rcases Nat.eq_zero_or_pos m with h0 | h0
    · subst h0
      have hn : news = [] := List.eq_nil_of_length_eq_zero (by simpa using hr.1)
      subst hn
      cases X with
      | some ad => exact go ad rfl (fun j u hu => by simp at hu)
      | none => simp [Builtin.append_, run_underlying ht, sizeOf, typeInfo, hi, Builtin.lenOf, Builtin.firstCells, show n ≤ c from by omega, storeCells, World.setCells]
    · obtain ⟨b, off, rfl, hc⟩ := hr.2 h0
      exact go _ rfl (fun j u hu => by rw [Addr.add_lit]; exact hc j u hu)
  unfold Oper.wp execOp
  simp only [ho, resolve, invoke, builtin, Sem.run_bind, Sem.run_pure, Result.andThen_ok, List.map_toArray, List.map_cons, List.map_nil, hs, hx, hrun]
  exact hK _ _ h

/-- clear of one element -/
theorem wpList_clear1 {ops : Array Oper} {rest : List Oper} {o : Oper} {a : Act} {Q : Exit → Act → World → Prop} (hgd : o.guard = none) (s : Operand) (t : TypeId)
    (ho : o.op = .call { callee := .builtin .clear, args := #[s], argTypes := #[t] })
    (e : TypeId) (z : Value) (size bytes : Nat) (ht : P.underlying t = some (.slice e)) (hI : (P.info? e).map (fun i => (i.zero, i.size, i.bytes)) = some (some z, size, bytes)) (hzs : z.cells.size = size) (h1 : ∀ u ∈ z.cells.toList, u.oneCell' = true)
    (g off c : Nat) (cur : Array Value) (hs : a.eval s = .slice (some ⟨g, off, none⟩) 1 c) (hb : Blk w g e cur) (hcur : off + size ≤ cur.size)
    (h : wpList P ops Q rest (a.put o.dst (.tuple #[])) (w.setCells g off z.cells.toList)) : wpList P ops Q (o :: rest) a w := by
  obtain ⟨i, hi, hz, hsize, hby⟩ := info_parts hI
  refine wpList_plain hgd fun K hK => ?_
  have hzc : (Builtin.zeroCells z.cells 1).toList = z.cells.toList := by
    simp only [Builtin.zeroCells, Nat.one_mul, Array.toList_map, Array.toList_range]
    apply List.ext_getElem
    · simp
    · intro j h1 h2
      have hj : j < z.cells.size := by simpa using h2
      simp [Nat.mod_eq_of_lt hj, hj]
  have hrun : (Builtin.clear_ #[t] o.type #[.slice (some ⟨g, off, none⟩) 1 c]).run P w = .ok (.tuple #[]) (w.setCells g off z.cells.toList) := by
    have hst := run_storeCells_cells (P := P) g off z.cells.toList 0 w (fun j hj => by rw [hb.cell, Array.getElem?_eq_getElem (by simp at hj; omega)]; rfl) (fun j _ => hb.frozen _) h1
    simp only [Nat.add_zero] at hst
    simp [Builtin.clear_, run_underlying ht, zeroValue, typeInfo, hi, hz, hzc, hst]
  unfold Oper.wp execOp
  simp only [ho, resolve, invoke, builtin, Sem.run_bind, Sem.run_pure, Result.andThen_ok, List.map_toArray, List.map_cons, List.map_nil, hs, hrun]
  exact hK _ _ h
end
end Go.Proofs.Ythaoplcmkaaflaa
