import Derived.Test.YthaoplcmkaaflaaGuB
namespace Go.Proofs.Ythaoplcmkaaflaa
open Go.RowKit

theorem bnot_t {b : Bool} (h : (!b) = true) : b = false := by simpa using h
theorem bnot_f {b : Bool} (h : (!b) = false) : b = true := by simpa using h

set_option maxRecDepth 100000 in
set_option maxHeartbeats 400000 in
theorem cloneGu (A : Option Addr) (c : Nat) (l : List Gu) (w : World) (hl : l.length ≤ 1000000) (hA : A = none → l = [] ∧ c = 0) (hr : Rd w 6 A l.length (Gus l)) :
    Calls Try.prog 52 #[.slice A l.length c] w fun e w' => ∃ A' c', e = .returned (.slice A' l.length c') ∧ Rd w' 6 A' l.length (Gus l) ∧ Below w.heap.size w w' := by
  cases A with
  | none =>
    obtain ⟨rfl, rfl⟩ := hA rfl
    clear hA hr
    have he : ∀ w : World, (binOp .eql 57 (.slice none 0 0) (.slice none 0 0)).run Try.prog w = .ok (.bool true) w := fun _ => rfl
    simp only [List.length_nil]
    go_enter Try.func52, Try.ntmps52
    go_wp2
    go_ret
    exact ⟨none, 0, rfl, Rd.nil_, Below.refl _ _⟩
  | some a =>
    clear hA
    have Hr := Lib.hid hr
    clear hr
    have he : ∀ (n c : Nat) (w : World), (binOp .eql 57 (.slice (some a) n c) (.slice none 0 0)).run Try.prog w = .ok (.bool false) w := fun _ _ _ => rfl
    go_enter Try.func52, Try.ntmps52
    have ho : (w.alloc (Obj.cells #[] 61)).ownsRow w.heap.size 61 6 (.slice (some ⟨w.heap.size, 0, none⟩) 0 0) 0 [] :=
      ⟨rfl, .inr ⟨w.heap.size, 0, #[], rfl, Nat.le_refl _, Blk.new w 61 #[], Nat.le_refl _, Nat.zero_le _, rfl, rfl⟩⟩
    have hb0 : Below w.heap.size w (w.alloc (Obj.cells #[] 61)) := (Below.refl _ _).alloc (Nat.le_refl _) _
    have Ho := Lib.hid ho
    have Hb0 := Lib.hid hb0
    clear ho hb0
    go_wp2_with (at_builtin; refine wpList_app _ rfl _ _ 57 rfl w.heap.size 61 _ 6 48 Try.underlying57 info_gu rfl (by decide) (some ⟨w.heap.size, 0, none⟩) 0 0 [] rfl Ho.out (some a) l.length c (Gus l) rfl (Hr.out.below Hb0.out) (Gus_one_cell l) ?o4 ?o5 ?o6 ?o7)
    case o4 => unfold maxLen; omega
    case o5 => omega
    case o6 => simp
    case o7 =>
      intro A' c' w1 ho1 hk1 hf1
      have hb1 : Below w.heap.size w w1 := Hb0.out.trans (hk1.below (by simp) (fun k hk h => by rw [FA_some] at h; dsimp only at h; omega))
      have Ho1 := Lib.hid ho1
      have Hb1 := Lib.hid hb1
      clear ho1 hb1
      clear hk1 hf1
      go_wp2
      go_ret
      exact ⟨A', c', rfl, own_rd Ho1.out, Hb1.out⟩

theorem guAll (base p : Nat) (A : Option Addr) (c : Nat) (l : List Gu) (turn : Int) (w : World) (hl : l.length ≤ 1000000) (hT : GuA w base p A c l turn) :
    Calls Try.prog 33 #[.pointer (some ⟨p, 0, none⟩)] w fun e w' => ∃ A' c', e = .returned (.slice A' l.length c') ∧ Rd w' 6 A' l.length (Gus l) ∧ Below w.heap.size w w' := by
  have c0 := hT.row
  have hA : A = none → l = [] ∧ c = 0 := fun h => by
    subst h
    rcases hT.own.2 with ⟨h, _⟩ | ⟨g, cap, cur, h, _⟩
    · injection h with _ h1 h2; exact ⟨List.eq_nil_of_length_eq_zero h1, h2⟩
    · cases h
  have HA := Lib.hid hA
  have HT := Lib.hid hT
  clear hT
  clear hA
  go_enter Try.func33, Try.ntmps33
  go_wp2_with fail
  refine (cloneGu A c l _ hl HA.out (own_rd HT.out.own)).mono ?_
  rintro e w1 ⟨A', c', rfl, h1, h2⟩
  have H1 := Lib.hid h1
  have H2 := Lib.hid h2
  clear h1 h2
  go_wp2
  go_ret
  exact ⟨A', c', rfl, H1.out, H2.out⟩

set_option maxHeartbeats 400000 in
theorem sameGuests (r : Bool) (A B : Option Addr) (c d : Nat) (l m : List Gu) (w : World) (hl : l.length ≤ 1000000) (hm : m.length ≤ 1000000) (hr : Rd w 6 A l.length (Gus l)) (hs : Rd w 6 B m.length (Gus m)) (h : decide (l = m) = r) :
    Calls Try.prog 32 #[.slice A l.length c, .slice B m.length d] w fun e w' => e = .returned (.bool r) ∧ ∃ q, w' = w.drewN q := by
  subst h
  by_cases hlm : l.length = m.length
  case neg =>
    have HN : Hid (decide (l = m) = false) := decide_eq_false fun e => hlm (by rw [e])
    have h1 : ((l.length : Int) != (m.length : Int)) = true := by rw [bne_iff_ne]; omega
    clear hr hs
    go_enter Try.func32, Try.ntmps32
    go_wp2
    go_ret
    exact ⟨ret_bool HN.out.symm, 0, rfl⟩
  case pos =>
  have h1 : ((l.length : Int) != (m.length : Int)) = false := by rw [bne_eq_false_iff_eq]; omega
  have Hr := Lib.hid hr
  have Hs := Lib.hid hs
  have Hlm := Lib.hid hlm
  clear hr hs hlm
  go_enter Try.func32, Try.ntmps32
  go_wp2
  clear h1
  go_loopg [5] (l.length) (fun g i wr => ∃ k : Nat, k + g = l.length ∧ i = .int .i64 k ∧ (∀ j (hj : j < l.length) (hj' : j < m.length), j < k → l[j] = m[j]) ∧ ∃ q, wr = w.drewN q)
  case atStart => exact ⟨0, by omega, rfl, fun j _ _ hj => absurd hj (by omega), 0, rfl⟩
  case round =>
    obtain ⟨k, hk, rfl, hno, q, rfl⟩ := hrel
    have Hk := Lib.hid hk
    have Hno := Lib.hid hno
    clear hk hno
    by_cases hlt : k < l.length
    · have hltm : k < m.length := by have := Hlm.out; omega
      obtain ⟨b, off, rfl, hc⟩ := Hr.out.2 (by omega)
      obtain ⟨b', off', rfl, hc'⟩ := Hs.out.2 (by omega)
      obtain ⟨e1, e2, e3, e4, e5, e6⟩ := Gus_get l k hlt
      obtain ⟨e1', e2', e3', e4', e5', e6'⟩ := Gus_get m k hltm
      have g1 := hc _ _ e1
      have g2 := hc _ _ e2
      have g3 := hc _ _ e3
      have g4 := hc _ _ e4
      have g5 := hc _ _ e5
      have g6 := hc _ _ e6
      have f1 := hc' _ _ e1'
      have f2 := hc' _ _ e2'
      have f3 := hc' _ _ e3'
      have f4 := hc' _ _ e4'
      have f5 := hc' _ _ e5'
      have f6 := hc' _ _ e6'
      rw [← Nat.add_assoc] at g2 g3 g4 g5 g6 f2 f3 f4 f5 f6
      clear hc hc' e1 e2 e3 e4 e5 e6 e1' e2' e3' e4' e5' e6'
      generalize hy : l[k] = y at *
      generalize hz : m[k] = z at *
      have Hy := Lib.hid hy
      have Hz := Lib.hid hz
      clear hy hz
      obtain ⟨y1, y2, y3, y4, y5, y6⟩ := y
      obtain ⟨z1, z2, z3, z4, z5, z6⟩ := z
      dsimp only at g1 g2 g3 g4 g5 g6 f1 f2 f3 f4 f5 f6
      go_wp2
      go_quiet (fail)
      go_wp2
      · have hh : (⟨y1, y2, y3, y4, y5, y6⟩ : Gu) ≠ ⟨z1, z2, z3, z4, z5, z6⟩ := of_decide_eq_false (bnot_t (by assumption : (!guEq y1 y2 y3 y4 y5 y6 z1 z2 z3 z4 z5 z6) = true))
        have HN : Hid (decide (l = m) = false) := decide_eq_false fun e => by
          subst e
          exact hh (Hy.out.symm.trans Hz.out)
        go_ret
        exact ⟨ret_bool HN.out.symm, _, World.drewN_drewN ..⟩
      · have hh : (⟨y1, y2, y3, y4, y5, y6⟩ : Gu) = ⟨z1, z2, z3, z4, z5, z6⟩ := of_decide_eq_true (bnot_f (by assumption : (!guEq y1 y2 y3 y4 y5 y6 z1 z2 z3 z4 z5 z6) = false))
        go_roundg (l.length - (k + 1))
        case measure => have := Hk.out; omega
        case rel =>
          refine ⟨k + 1, by omega, by go_num, ?_, _, rfl⟩
          intro j hj hj' hjk
          rcases Nat.lt_or_ge j k with h | h
          · exact Hno.out j hj hj' h
          · obtain rfl : j = k := by omega
            rw [Hy.out, Hz.out]
            exact hh
    · have HL : Hid (decide (l = m) = true) := decide_eq_true (List.ext_getElem Hlm.out fun j hj hj' => Hno.out j hj hj' (by omega))
      go_wp2
      go_ret
      exact ⟨ret_bool HL.out.symm, q, rfl⟩

def gkey (x g : Gu) : Bool := keyEq x.conn x.chan x.tag g
def guAddOk (l : List Gu) (x : Gu) : Bool := !(l.any (gkey x))
def guAddL (l : List Gu) (x : Gu) : List Gu := if guAddOk l x then l ++ [x] else l

set_option maxHeartbeats 1000000 in
theorem guAdd (base p : Nat) (A : Option Addr) (c : Nat) (l : List Gu) (turn : Int) (x : Gu) (w : World) (hl : l.length ≤ 1000) (hT : GuA w base p A c l turn) :
    Calls Try.prog 26 #[.pointer (some ⟨p, 0, none⟩), x.v] w fun e w' => ∃ A' c', e = .returned (.bool (guAddOk l x)) ∧ GuA w' base p A' c' (guAddL l x) turn ∧ Kp (fun k => k = p ∨ FA A k) w w' ∧ ∀ k, FA A' k → FA A k ∨ w.heap.size ≤ k := by
  obtain ⟨x1, x2, x3, x4, x5, x6⟩ := x
  have HL : Hid (guAddL l ⟨x1, x2, x3, x4, x5, x6⟩ = if guAddOk l ⟨x1, x2, x3, x4, x5, x6⟩ then l ++ [⟨x1, x2, x3, x4, x5, x6⟩] else l) := rfl
  have HO : Hid (guAddOk l ⟨x1, x2, x3, x4, x5, x6⟩ = !(l.any (keyEq x1 x2 x3))) := rfl
  simp only [Gu.v]
  have hp : p ≠ w.heap.size := Nat.ne_of_lt hT.blk.lt
  have HT := Lib.hid hT
  clear hT
  go_enter Try.func26, Try.ntmps26
  go_wp2_with fail
  have d0 : Blk (w.alloc (Obj.cells #[Value.int .i64 x1, Value.int .i64 x2, Value.string x3, Value.int .i64 x4, Value.bool x5, Value.bool x6] 61)) w.heap.size 61 #[Value.int .i64 x1, Value.int .i64 x2, Value.string x3, Value.int .i64 x4, Value.bool x5, Value.bool x6] := Blk.new _ _ _
  have k0 : Kp None' w (w.alloc (Obj.cells #[Value.int .i64 x1, Value.int .i64 x2, Value.string x3, Value.int .i64 x4, Value.bool x5, Value.bool x6] 61)) := (Kp.refl _ _).alloc _
  generalize w.alloc (Obj.cells #[Value.int .i64 x1, Value.int .i64 x2, Value.string x3, Value.int .i64 x4, Value.bool x5, Value.bool x6] 61) = w0 at *
  refine (guPlace base p x1 x2 x3 A c l turn w0 (by omega) (HT.out.kn k0)).mono ?_
  rintro e w1 ⟨rfl, hb1⟩
  have k1 := k0.trans (Kp.of_below (F := None') hb1) (fun _ _ h => h)
  have HT1 := Lib.hid (HT.out.kn k1)
  have HD1 := Lib.hid (d0.below hb1)
  have K1 := Lib.hid k1
  clear d0 k0 hb1 k1 HT
  cases hany : l.any (keyEq x1 x2 x3) with
  | true =>
    have hge : 0 ≤ idxP (keyEq x1 x2 x3) l := by
      have := idxP_ge (keyEq x1 x2 x3) l
      rw [hany] at this; exact of_decide_eq_true this
    have E1 : Hid (guAddOk l ⟨x1, x2, x3, x4, x5, x6⟩ = false) := by unfold Hid; rw [HO.out, hany]; rfl
    have E2 : Hid (guAddL l ⟨x1, x2, x3, x4, x5, x6⟩ = l) := by unfold Hid; rw [HL.out, E1.out]; rfl
    clear HL HO hany
    generalize idxP (keyEq x1 x2 x3) l = i at *
    go_wp2
    go_ret
    refine ⟨A, c, by rw [E1.out]; rfl, ?_, K1.out.to, fun k h => .inl h⟩
    rw [E2.out]; exact HT1.out
  | false =>
    have hlt : idxP (keyEq x1 x2 x3) l < 0 := by
      have := idxP_ge (keyEq x1 x2 x3) l
      rw [hany] at this; have := of_decide_eq_false this; omega
    have E1 : Hid (guAddOk l ⟨x1, x2, x3, x4, x5, x6⟩ = true) := by unfold Hid; rw [HO.out, hany]; rfl
    have E2 : Hid (guAddL l ⟨x1, x2, x3, x4, x5, x6⟩ = l ++ [⟨x1, x2, x3, x4, x5, x6⟩]) := by unfold Hid; rw [HL.out, E1.out]; rfl
    clear HL HO hany
    generalize idxP (keyEq x1 x2 x3) l = i at *
    go_wp2_with fail
    have z0 : ∀ z : Wd None' w1, z.w.cell? ⟨p, 0, none⟩ = some (.slice A l.length c) := fun z => z.cell HT1.out.row id
    have z1 : ∀ z : Wd None' w1, z.w.cell? ⟨w.heap.size, 0, none⟩ = some (.int .i64 x1) := fun z => z.cell (HD1.out.cell 0) id
    have z2 : ∀ z : Wd None' w1, z.w.cell? ⟨w.heap.size, 1, none⟩ = some (.int .i64 x2) := fun z => z.cell (HD1.out.cell 1) id
    have z3 : ∀ z : Wd None' w1, z.w.cell? ⟨w.heap.size, 2, none⟩ = some (.string x3) := fun z => z.cell (HD1.out.cell 2) id
    have z4 : ∀ z : Wd None' w1, z.w.cell? ⟨w.heap.size, 3, none⟩ = some (.int .i64 x4) := fun z => z.cell (HD1.out.cell 3) id
    have z5 : ∀ z : Wd None' w1, z.w.cell? ⟨w.heap.size, 4, none⟩ = some (.bool x5) := fun z => z.cell (HD1.out.cell 4) id
    have z6 : ∀ z : Wd None' w1, z.w.cell? ⟨w.heap.size, 5, none⟩ = some (.bool x6) := fun z => z.cell (HD1.out.cell 5) id
    refine wp_region_ord (.mov 0 (.mov 1 (.mov 2 (.mov 3 (.mov 4 (.mov 5 (.eff 6 (.eff 7 (.mov 8 (.mov 9 (.eff 10 .fin))))))))))) ?_ ?_ ?_ ?_
    · kernel_rfl
    · kernel_rfl
    · exact fun _ _ _ _ h => h
    iterate 4 (refine ord_pure rfl rfl ?_; go_big_quiet_step (fail); refine wpQuiet_nil ?_)
    iterate 2 (refine ord_mov (fun w' => ∃ z : Wd None' w1, w' = z.w) (Wd.of ((Kp.refl _ _).drew)) rfl rfl ?_; go_big_quiet_step (fail); refine wpQuiet_nil ?_)
    refine ord_keep (fun w' => ∃ z : Wd None' w1, w' = z.w) rfl (by simp) (fun K hK => ?_)
    go_wp2_with fail
    have k2 := ((Kp.refl None' w1).alloc (Obj.cells #[Value.int .i64 x1, Value.int .i64 x2, Value.string x3, Value.int .i64 x4, Value.bool x5, Value.bool x6] 61)).drew
    have n2 : Rd (w1.alloc (Obj.cells #[Value.int .i64 x1, Value.int .i64 x2, Value.string x3, Value.int .i64 x4, Value.bool x5, Value.bool x6] 61)).drew 6 (some ⟨w1.heap.size, 0, none⟩) 1 (⟨x1, x2, x3, x4, x5, x6⟩ : Gu).cs := (rd_alloc rfl rfl).drew
    have hs2 : (w1.alloc (Obj.cells #[Value.int .i64 x1, Value.int .i64 x2, Value.string x3, Value.int .i64 x4, Value.bool x5, Value.bool x6] 61)).drew.heap.size = w1.heap.size + 1 := by simp
    refine ⟨Wd.of k2, ?_⟩
    clear z0 z1 z2 z3 z4 z5 z6
    generalize (w1.alloc (Obj.cells #[Value.int .i64 x1, Value.int .i64 x2, Value.string x3, Value.int .i64 x4, Value.bool x5, Value.bool x6] 61)).drew = w2 at *
    have HT2 := Lib.hid (HT1.out.kn k2)
    have K2 := Lib.hid (K1.out.trans k2 (fun _ _ h => h))
    have HRD := Lib.hid n2
    have HS2 := Lib.hid hs2
    clear k2 n2 hs2 HT1 HD1 K1
    refine ord_sync rfl (by kernel_rfl) (fun K hK => ?_)
    refine wpList_app w2 rfl _ _ 57 rfl base 61 _ 6 48 Try.underlying57 info_gu rfl (by decide) A c l.length (Gus l) rfl HT2.out.own _ 1 1 _ rfl HRD.out (one6 _) ?_ ?_ ?_ ?_
    · unfold maxLen; omega
    · omega
    · have := HT2.out.le; have := HT2.out.blk.lt; omega
    intro A' c' w3 ho3 hk3 hf3
    have hb3 := HT2.out.blk.kp hk3 HT2.out.ne
    have c3 := hb3.cell 0
    have f3 := hb3.frozen 0
    have K3 := Lib.hid (K2.out.to.trans (F := fun k => k = p ∨ FA A k) hk3 (fun _ _ h => .inr h))
    have HO3 := Lib.hid ho3
    have HF3 := Lib.hid hf3
    have HB3 := Lib.hid hb3
    clear ho3 hf3 hb3 hk3
    go_wp2_with fail
    simp only [Act.put, List.setIfInBounds_toArray, List.set_cons_zero, List.set_cons_succ]
    iterate 2 (refine ord_pure rfl rfl ?_; go_big_quiet_step (fail); refine wpQuiet_nil ?_)
    refine ord_sync rfl (by kernel_rfl) (fun K hK => ?_)
    go_wp2_with fail
    refine ord_end ?_
    go_wp2
    go_ret
    refine ⟨A', c', by rw [E1.out]; rfl, ?_, K3.out.setCell (fun _ => .inl rfl) _, ?_⟩
    · rw [E2.out]
      refine ⟨?_, ?_, HT2.out.le⟩
      · rw [show (l ++ [(⟨x1, x2, x3, x4, x5, x6⟩ : Gu)]).length = l.length + 1 by simp]
        exact HB3.out.set_ 0 _
      · have hpA : ¬ FA A' p := fun h => by
          rcases HF3.out p h with h | h
          · exact HT2.out.ne h
          · have := HT2.out.blk.lt; omega
        rw [show (l ++ [(⟨x1, x2, x3, x4, x5, x6⟩ : Gu)]).length = l.length + 1 by simp, ← Gus_one]
        exact own_kp HO3.out (Kp.set1 p 0 _) (fun k hk e => hpA (e ▸ hk))
    · intro k hk
      rcases HF3.out k hk with h | h
      · exact .inl h
      · right; have := K2.out.size; omega
end Go.Proofs.Ythaoplcmkaaflaa
