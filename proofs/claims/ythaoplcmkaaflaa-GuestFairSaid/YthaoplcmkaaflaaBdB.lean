import Derived.Test.YthaoplcmkaaflaaBdA
import Derived.Test.YthaoplcmkaaflaaOrd
import Derived.Test.YthaoplcmkaaflaaApp
namespace Go.Proofs.Ythaoplcmkaaflaa
open Go.RowKit

/-- a table of bindings in memory -/
structure TabA (w : World) (base p : Nat) (A : Option Addr) (c : Nat) (l : List Bd) : Prop where
  blk : Blk w p 82 #[.slice A l.length c]
  own : w.ownsRow base 28 3 (.slice A l.length c) l.length (Bds l)
  le : base ≤ p
def Tab (w : World) (base p : Nat) (F : Nat → Prop) (l : List Bd) : Prop := ∃ A c, TabA w base p A c l ∧ F = fun k => k = p ∨ FA A k
theorem TabA.kp {w w' : World} {base p : Nat} {A : Option Addr} {c : Nat} {l : List Bd} {G : Nat → Prop} (h : TabA w base p A c l) (hb : Kp G w w') (hp : ¬ G p) (hA : ∀ k, FA A k → ¬ G k) : TabA w' base p A c l :=
  ⟨h.blk.kp hb hp, own_kp h.own hb hA, h.le⟩
theorem TabA.cell {w : World} {base p : Nat} {A : Option Addr} {c : Nat} {l : List Bd} (h : TabA w base p A c l) : w.cell? ⟨p, 0, none⟩ = some (.slice A l.length c) := h.blk.cell 0
theorem TabA.ne {w : World} {base p : Nat} {A : Option Addr} {c : Nat} {l : List Bd} (h : TabA w base p A c l) : ¬ FA A p := own_blk h.own h.blk (by decide)
theorem Tab.kp {w w' : World} {base p : Nat} {F G : Nat → Prop} {l : List Bd} (h : Tab w base p F l) (hb : Kp G w w') (hd : ∀ k, F k → ¬ G k) : Tab w' base p F l := by
  obtain ⟨A, c, hT, rfl⟩ := h
  exact ⟨A, c, hT.kp hb (hd p (.inl rfl)) (fun k hk => hd k (.inr hk)), rfl⟩
theorem Tab.lt {w : World} {base p : Nat} {F : Nat → Prop} {l : List Bd} (h : Tab w base p F l) {k : Nat} (hk : F k) : base ≤ k ∧ k < w.heap.size := by
  obtain ⟨A, c, hT, rfl⟩ := h
  rcases hk with rfl | hk
  · exact ⟨hT.le, hT.blk.lt⟩
  · exact own_fa hT.own hk

theorem info_bd : (Try.prog.info? 28).map (fun i => (i.zero, i.size, i.bytes)) = some (some (.agg #[.string ⟨#[]⟩, .string ⟨#[]⟩, .string ⟨#[]⟩]), 3, 48) := by kernel_rfl

theorem Bds_one (l : List Bd) (x : Bd) : Bds l ++ x.cs = Bds (l ++ [x]) := by simp [Bds]

set_option maxHeartbeats 400000 in
theorem add_new (base p : Nat) (A : Option Addr) (c : Nat) (l : List Bd) (x : Bd) (w : World) (hT : TabA w base p A c l) (h1 : (l.any fun y => decide (x = y)) = false) (h2 : l.length < 40) :
    Calls Try.prog 10 #[.pointer (some ⟨p, 0, none⟩), x.v] w fun e w' => e = .returned (.tuple #[.bool true, .int .i64 0]) ∧ ∃ A' c', TabA w' base p A' c' (l ++ [x]) ∧ Kp (fun k => k = p ∨ FA A k) w w' ∧ ∀ k, FA A' k → FA A k ∨ w.heap.size ≤ k := by
  obtain ⟨x1, x2, x3⟩ := x
  simp only [Bd.v]
  have hp : p ≠ w.heap.size := Nat.ne_of_lt hT.blk.lt
  have HT := Lib.hid hT
  have H1 := Lib.hid h1
  clear hT h1
  go_enter Try.func10, Try.ntmps10
  go_wp2_with fail
  have d0 : Blk (w.alloc (Obj.cells #[Value.string x1, Value.string x2, Value.string x3] 28)) w.heap.size 28 #[Value.string x1, Value.string x2, Value.string x3] := Blk.new _ _ _
  have k0 : Kp None' w (w.alloc (Obj.cells #[Value.string x1, Value.string x2, Value.string x3] 28)) := (Kp.refl _ _).alloc _
  generalize w.alloc (Obj.cells #[Value.string x1, Value.string x2, Value.string x3] 28) = w0 at *
  have HD0 := Lib.hid d0
  have HT0 := Lib.hid (HT.out.kp k0 id (fun _ _ => id))
  clear d0
  have z0 : ∀ z : Wd None' w0, z.w.cell? ⟨p, 0, none⟩ = some (.slice A l.length c) := fun z => z.cell HT0.out.cell id
  have z1 : ∀ z : Wd None' w0, z.w.cell? ⟨w.heap.size, 0, none⟩ = some (.string x1) := fun z => z.cell (HD0.out.cell 0) id
  have z2 : ∀ z : Wd None' w0, z.w.cell? ⟨w.heap.size, 1, none⟩ = some (.string x2) := fun z => z.cell (HD0.out.cell 1) id
  have z3 : ∀ z : Wd None' w0, z.w.cell? ⟨w.heap.size, 2, none⟩ = some (.string x3) := fun z => z.cell (HD0.out.cell 2) id
  have HR := Lib.hid (fun z : Wd None' w0 => (own_rd HT0.out.own).kp z.kp (fun _ _ h => h))
  refine wp_region_kp None' (by kernel_rfl) (by kernel_rfl) ?_
  repeat (go_big_quiet_step ((go_at_call 38; exact calls_blw (containsBd' false A c l ⟨x1, x2, x3⟩ _ (by omega) (HR.out _) H1.out))))
  refine wpQuiet_nil ?_
  intro z
  have k1 := k0.trans z.kp (fun _ _ h => h)
  have HT1 := Lib.hid (HT0.out.kp z.kp id (fun _ _ => id))
  have HD1 := Lib.hid (HD0.out.kp z.kp id)
  clear z0 z1 z2 z3 HR HT0 HD0 k0 HT
  generalize z.w = w1 at *
  have K1 := Lib.hid k1
  clear k1 z
  have c0 := HT1.out.cell
  go_wp2
  clear c0
  have z0 : ∀ z : Wd None' w1, z.w.cell? ⟨p, 0, none⟩ = some (.slice A l.length c) := fun z => z.cell HT1.out.cell id
  have z1 : ∀ z : Wd None' w1, z.w.cell? ⟨w.heap.size, 0, none⟩ = some (.string x1) := fun z => z.cell (HD1.out.cell 0) id
  have z2 : ∀ z : Wd None' w1, z.w.cell? ⟨w.heap.size, 1, none⟩ = some (.string x2) := fun z => z.cell (HD1.out.cell 1) id
  have z3 : ∀ z : Wd None' w1, z.w.cell? ⟨w.heap.size, 2, none⟩ = some (.string x3) := fun z => z.cell (HD1.out.cell 2) id
  refine wp_region_ord (.mov 0 (.mov 1 (.mov 2 (.mov 3 (.mov 4 (.mov 5 (.eff 6 (.eff 7 (.mov 8 (.mov 9 (.eff 10 .fin))))))))))) ?_ ?_ ?_ ?_
  · kernel_rfl
  · kernel_rfl
  · exact fun _ _ _ _ h => h
  iterate 4 (refine ord_pure rfl rfl ?_; go_big_quiet_step (fail); refine wpQuiet_nil ?_)
  iterate 2 (refine ord_mov (fun w' => ∃ z : Wd None' w1, w' = z.w) (Wd.of ((Kp.refl _ _).drew)) rfl rfl ?_; go_big_quiet_step (fail); refine wpQuiet_nil ?_)
  refine ord_keep (fun w' => ∃ z : Wd None' w1, w' = z.w) rfl (by simp) (fun K hK => ?_)
  go_wp2_with fail
  have k2 := ((Kp.refl None' w1).alloc (Obj.cells #[Value.string x1, Value.string x2, Value.string x3] 28)).drew
  have n2 : Blk (w1.alloc (Obj.cells #[Value.string x1, Value.string x2, Value.string x3] 28)).drew w1.heap.size 28 #[Value.string x1, Value.string x2, Value.string x3] := (Blk.new _ _ _).drew
  have hs2 : (w1.alloc (Obj.cells #[Value.string x1, Value.string x2, Value.string x3] 28)).drew.heap.size = w1.heap.size + 1 := by simp
  refine ⟨Wd.of k2, ?_⟩
  clear z0 z1 z2 z3
  generalize (w1.alloc (Obj.cells #[Value.string x1, Value.string x2, Value.string x3] 28)).drew = w2 at *
  have HT2 := Lib.hid (HT1.out.kp k2 id (fun _ _ => id))
  have hrd : Rd w2 3 (some ⟨w1.heap.size, 0, none⟩) 1 [.string x1, .string x2, .string x3] := ⟨rfl, fun _ => ⟨_, 0, rfl, fun j u hu => by rw [Nat.zero_add, n2.cell]; simpa using hu⟩⟩
  have K2 := Lib.hid (K1.out.trans k2 (fun _ _ h => h))
  have HRD := Lib.hid hrd
  have HS2 := Lib.hid hs2
  clear k2 n2 hrd hs2 HT1 HD1 K1
  refine ord_sync rfl (by kernel_rfl) (fun K hK => ?_)
  refine wpList_app w2 rfl _ _ 39 rfl base 28 _ 3 48 Try.underlying39 info_bd rfl (by decide) A c l.length (Bds l) rfl HT2.out.own _ 1 1 [.string x1, .string x2, .string x3] rfl HRD.out ?_ ?_ ?_ ?_ ?_
  · intro u hu; simp at hu; rcases hu with rfl | rfl | rfl <;> rfl
  · unfold maxLen; omega
  · omega
  · have := HT2.out.le; have := HT2.out.blk.lt; omega
  intro A' c' w3 ho3 hk3 hf3
  have hb3 := HT2.out.blk.kp hk3 HT2.out.ne
  have c3 := hb3.cell 0
  have f3 := hb3.frozen 0
  have K3 := Lib.hid (K2.out.to.trans (F := fun k => k = p ∨ FA A k) hk3 (fun _ _ h => .inr h))
  have HO3 := Lib.hid ho3
  have HF3 := Lib.hid hf3
  have HB3 := Lib.hid hb3
  clear ho3 hf3 hb3 hk3
  go_wp2_with fail
  simp only [Act.put, List.setIfInBounds_toArray, List.set_cons_zero, List.set_cons_succ]
  iterate 2 (refine ord_pure rfl rfl ?_; go_big_quiet_step (fail); refine wpQuiet_nil ?_)
  refine ord_sync rfl (by kernel_rfl) (fun K hK => ?_)
  go_wp2_with fail
  refine ord_end ?_
  go_wp2
  go_ret2
  refine ⟨rfl, A', c', ⟨?_, ?_, HT2.out.le⟩, ?_, ?_⟩
  · rw [show (l ++ [(⟨x1, x2, x3⟩ : Bd)]).length = l.length + 1 by simp]
    exact HB3.out.set_ 0 _
  · have hpA : ¬ FA A' p := fun h => by
      rcases HF3.out p h with h | h
      · exact HT2.out.ne h
      · have := HT2.out.blk.lt; omega
    rw [show (l ++ [(⟨x1, x2, x3⟩ : Bd)]).length = l.length + 1 by simp, ← Bds_one]
    exact own_kp HO3.out (Kp.set1 p 0 _) (fun k hk e => hpA (e ▸ hk))
  · exact K3.out.setCell (fun _ => .inl rfl) _
  · intro k hk
    rcases HF3.out k hk with h | h
    · exact .inl h
    · right; have := K2.out.size; omega

theorem take_filter_succ {α : Type} (p : α → Bool) (l : List α) (k : Nat) (h : k < l.length) : (l.take (k + 1)).filter p = (l.take k).filter p ++ (if p l[k] then [l[k]] else []) := by
  rw [List.take_succ_eq_append_getElem h, List.filter_append]
  congr 1
  by_cases hp : p l[k] = true <;> simp [hp]

set_option maxHeartbeats 400000 in
theorem bdOf (p : Nat) (x : ByteArray) (A : Option Addr) (c : Nat) (l : List Bd) (w : World) (hl : l.length ≤ 1000000) (hT : Blk w p 82 #[.slice A l.length c]) (hr : Rd w 3 A l.length (Bds l)) :
    Calls Try.prog 22 #[.pointer (some ⟨p, 0, none⟩), .string x] w fun e w' => ∃ A' c', e = .returned (.slice A' (l.filter fun b => decide (b.x = x)).length c') ∧ w'.ownsRow w.heap.size 28 3 (.slice A' (l.filter fun b => decide (b.x = x)).length c') (l.filter fun b => decide (b.x = x)).length (Bds (l.filter fun b => decide (b.x = x))) ∧ Below w.heap.size w w' := by
  have c0 := hT.cell 0
  have Hr := Lib.hid hr
  clear hr
  clear hT
  go_enter Try.func22, Try.ntmps22
  go_wp2
  clear c0
  go_loopg [5, 13] (l.length) (fun g s i wr => ∃ (k : Nat) (m : List Bd) (A' : Option Addr) (c' : Nat), k + g = l.length ∧ i = .int .i64 k ∧ m = (l.take k).filter (fun b => decide (b.x = x)) ∧ s = .slice A' m.length c' ∧ wr.ownsRow w.heap.size 28 3 (.slice A' m.length c') m.length (Bds m) ∧ Below w.heap.size w wr)
  case atStart => exact ⟨0, [], none, 0, by omega, rfl, rfl, rfl, World.ownsRow_nil .., Below.refl _ _⟩
  case round =>
    obtain ⟨k, m, A', c', hk, rfl, hm, rfl, ho, hb⟩ := hrel
    have hml : m.length ≤ k := by rw [hm]; exact Nat.le_trans (List.length_filter_le ..) (by simp; omega)
    by_cases hlt : k < l.length
    · have hr1 := Hr.out.below hb
      have hsz := hb.size
      have Hk := Lib.hid hk
      have Hm := Lib.hid hm
      have Ho := Lib.hid ho
      have Hb := Lib.hid hb
      clear hk hm ho hb
      obtain ⟨b, off, rfl, hc⟩ := hr1.2 (by omega)
      obtain ⟨e1, e2, e3⟩ := Bds_get l k hlt
      have g1 := hc _ _ e1
      have g2 := hc _ _ e2
      have g3 := hc _ _ e3
      rw [← Nat.add_assoc] at g2 g3
      clear hc e1 e2 e3 hr1
      generalize hy : l[k] = y at *
      have Hy := Lib.hid hy
      clear hy
      obtain ⟨y1, y2, y3⟩ := y
      dsimp only at g1 g2 g3
      go_wp2_with (at_builtin; refine wpList_app _ rfl _ _ 39 rfl w.heap.size 28 _ 3 48 Try.underlying39 info_bd rfl (by decide) A' c' m.length (Bds m) rfl ?o1 _ 1 1 [.string y1, .string y2, .string y3] rfl ?o2 (one3 _ _ _) ?o4 ?o5 ?o6 ?o7)
      case o1 => exact (Ho.out.alloc _).alloc _
      case o2 => exact rd_alloc (by simp) rfl
      case o4 => unfold maxLen; omega
      case o5 => omega
      case o6 => simp; omega
      case o7 =>
        have hx : y1 = x := ba_t (by assumption)
        intro A1 c1 w1 ho1 hk1 hf1
        have hb1 : Below w.heap.size w w1 := Hb.out.trans ((((Below.refl w.heap.size wr).alloc hsz _).alloc (by simp; omega) _).trans (hk1.below (by simp; omega) (fun k hk h => by have := (own_fa Ho.out h).1; omega)))
        have Hx := Lib.hid hx
        have Ho1 := Lib.hid ho1
        have Hb1 := Lib.hid hb1
        clear hx ho1 hb1
        clear hk1 hf1
        go_wp2
        go_roundg (l.length - (k + 1))
        case measure => have := Hk.out; omega
        case rel =>
          have e : (l.take (k + 1)).filter (fun b => decide (b.x = x)) = m ++ [(⟨y1, y2, y3⟩ : Bd)] := by
            rw [take_filter_succ _ l k hlt, ← Hm.out, Hy.out, if_pos (by simp [Hx.out])]
          refine ⟨k + 1, m ++ [⟨y1, y2, y3⟩], A1, c1, by omega, by go_num, e.symm, by simp, ?_, Hb1.out⟩
          rw [← Bds_one, show (m ++ [(⟨y1, y2, y3⟩ : Bd)]).length = m.length + 1 by simp]
          exact Ho1.out
      all_goals
        have hx : y1 ≠ x := ba_f (by assumption)
        have Hx := Lib.hid hx
        clear hx
        go_roundg (l.length - (k + 1))
        case measure => have := Hk.out; omega
        case rel =>
          have e : (l.take (k + 1)).filter (fun b => decide (b.x = x)) = m := by
            rw [take_filter_succ _ l k hlt, ← Hm.out, Hy.out, if_neg (by simp [Hx.out]), List.append_nil]
          exact ⟨k + 1, m, A', c', by omega, by go_num, e.symm, rfl, Ho.out.alloc _, Hb.out.alloc hsz _⟩
    · have e : m = l.filter (fun b => decide (b.x = x)) := by rw [hm, List.take_of_length_le (by omega)]
      subst e
      have Hk := Lib.hid hk
      have Hm := Lib.hid hm
      have Ho := Lib.hid ho
      have Hb := Lib.hid hb
      clear hk hm ho hb
      go_wp2
      go_ret
      exact ⟨A', c', rfl, Ho.out, Hb.out⟩
end Go.Proofs.Ythaoplcmkaaflaa
