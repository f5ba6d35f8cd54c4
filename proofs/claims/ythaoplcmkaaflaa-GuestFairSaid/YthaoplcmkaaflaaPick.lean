import Derived.Test.YthaoplcmkaaflaaGuE
import Derived.Test.YthaoplcmkaaflaaBm
import Derived.Laws.ResultCell
namespace Go.Proofs.Ythaoplcmkaaflaa
open Go.RowKit

def gu0 : Gu := ⟨0, 0, ⟨#[]⟩, 0, false, false⟩
/-- who is picked, whether anybody is, whose turn it is then -/
def pickG (l : List Gu) (turn : Nat) (sp : List Bool) : Gu × Bool × Nat :=
  match pickAt l.length turn (fun k => sp.getD k false) with
  | some k => (l.getD k gu0, true, (k + 1) % l.length)
  | none => (gu0, false, turn)
theorem pickAt_lt {n t k : Nat} {E : Nat → Bool} (h : pickAt n t E = some k) : k < n ∧ E k = true := by
  unfold pickAt at h
  have h1 := List.mem_of_find?_eq_some h
  have h2 := List.find?_some h
  obtain ⟨j, hj, rfl⟩ := List.mem_map.1 h1
  exact ⟨Nat.mod_lt _ (by have := List.mem_range.1 hj; omega), h2⟩

theorem res_gu {fn : Func} (hf : fn.results = #[.cell 4 61, .tmp 5]) (tmps : Array Value) (q : Nat) (x : Gu) (w : World) (h4 : tmps.getD 4 undef = .pointer (some ⟨q, 0, none⟩)) (h : Blk w q 61 x.cs.toArray) :
    (results fn tmps).run Try.prog w = .ok (.tuple #[x.v, tmps.getD 5 undef]) w := by
  obtain ⟨x1, x2, x3, x4, x5, x6⟩ := x
  have c0 : w.cell? ⟨q, 0, none⟩ = some (.int .i64 x1) := h.cell 0
  have c1 : w.cell? ⟨q, 1, none⟩ = some (.int .i64 x2) := h.cell 1
  have c2 : w.cell? ⟨q, 2, none⟩ = some (.string x3) := h.cell 2
  have c3 : w.cell? ⟨q, 3, none⟩ = some (.int .i64 x4) := h.cell 3
  have c4 : w.cell? ⟨q, 4, none⟩ = some (.bool x5) := h.cell 4
  have c5 : w.cell? ⟨q, 5, none⟩ = some (.bool x6) := h.cell 5
  rw [results_cell_tmp hf, h4]
  simp only [Gu.v]
  go_simp
theorem len6 {α : Type} {l : List α} (h : l.length = 6) : ∃ a b c d e f, l = [a, b, c, d, e, f] := by
  match l, h with
  | [a, b, c, d, e, f], _ => exact ⟨a, b, c, d, e, f, rfl⟩
theorem six_sets {w : World} {q : Nat} {cs : Array Value} (h : Blk w q 61 cs) (hc : cs.size = 6) (u0 u1 u2 u3 u4 u5 : Value) :
    Blk ((((((w.setCell ⟨q, 0, none⟩ u0).setCell ⟨q, 1, none⟩ u1).setCell ⟨q, 2, none⟩ u2).setCell ⟨q, 3, none⟩ u3).setCell ⟨q, 4, none⟩ u4).setCell ⟨q, 5, none⟩ u5) q 61 #[u0, u1, u2, u3, u4, u5] := by
  have := (((((h.set_ 0 u0).set_ 1 u1).set_ 2 u2).set_ 3 u3).set_ 4 u4).set_ 5 u5
  obtain ⟨l⟩ := cs
  obtain ⟨a, b, c, d, e, f, rfl⟩ := len6 hc
  exact this
theorem six_kp {F : Nat → Prop} {a w : World} (h : Kp F a w) {q : Nat} (hq : a.heap.size ≤ q) (u0 u1 u2 u3 u4 u5 : Value) :
    Kp F a ((((((w.setCell ⟨q, 0, none⟩ u0).setCell ⟨q, 1, none⟩ u1).setCell ⟨q, 2, none⟩ u2).setCell ⟨q, 3, none⟩ u3).setCell ⟨q, 4, none⟩ u4).setCell ⟨q, 5, none⟩ u5) := by
  have hn : ∀ i, (⟨q, i, none⟩ : Addr).block < a.heap.size → F (⟨q, i, none⟩ : Addr).block := fun i hi => by dsimp only at hi; omega
  exact (((((h.setCell (hn 0) u0).setCell (hn 1) u1).setCell (hn 2) u2).setCell (hn 3) u3).setCell (hn 4) u4).setCell (hn 5) u5
theorem six_kq (w : World) (q : Nat) (u0 u1 u2 u3 u4 u5 : Value) :
    Kp (fun k => k = q) w ((((((w.setCell ⟨q, 0, none⟩ u0).setCell ⟨q, 1, none⟩ u1).setCell ⟨q, 2, none⟩ u2).setCell ⟨q, 3, none⟩ u3).setCell ⟨q, 4, none⟩ u4).setCell ⟨q, 5, none⟩ u5) :=
  (((((Kp.set1 q 0 u0).trans (Kp.set1 q 1 u1) (fun _ _ h => h)).trans (Kp.set1 q 2 u2) (fun _ _ h => h)).trans (Kp.set1 q 3 u3) (fun _ _ h => h)).trans (Kp.set1 q 4 u4) (fun _ _ h => h)).trans (Kp.set1 q 5 u5) (fun _ _ h => h)

set_option maxHeartbeats 2000000 in
theorem guPick (base p : Nat) (S : Option Addr) (cs : Nat) (sp : List Bool) (A : Option Addr) (c : Nat) (l : List Gu) (turn : Nat) (w : World) (hl : l.length ≤ 1000) (ht : turn < l.length ∨ turn = 0) (hs : sp.length ≤ maxLen)
    (hr : Rd w 1 S sp.length (sp.map .bool)) (hT : GuA w base p A c l turn) :
    Calls Try.prog 30 #[.pointer (some ⟨p, 0, none⟩), .slice S sp.length cs] w fun e w' => e = .returned (.tuple #[(pickG l turn sp).1.v, .bool (pickG l turn sp).2.1]) ∧ GuA w' base p A c l (pickG l turn sp).2.2 ∧ Kp (fun k => k = p) w w' := by
  unfold maxLen at hs
  have hp := hT.blk.lt
  have hne : p ≠ w.heap.size := Nat.ne_of_lt hp
  have c0 := hT.row
  have hfa : ∀ k, FA A k → k < w.heap.size := fun k h => (own_fa hT.own h).2
  have Hr := Lib.hid hr
  have HT := Lib.hid hT
  have Hfa := Lib.hid hfa
  clear hr hT hfa
  go_enter Try.func30, Try.ntmps30
  go_wp2_with fail
  have d0 : Blk (w.alloc (Obj.cells #[Value.int .i64 0, Value.int .i64 0, Value.string ⟨#[]⟩, Value.int .i64 0, Value.bool false, Value.bool false] 61)) w.heap.size 61 #[Value.int .i64 0, Value.int .i64 0, Value.string ⟨#[]⟩, Value.int .i64 0, Value.bool false, Value.bool false] := Blk.new _ _ _
  have k0 : Kp None' w (w.alloc (Obj.cells #[Value.int .i64 0, Value.int .i64 0, Value.string ⟨#[]⟩, Value.int .i64 0, Value.bool false, Value.bool false] 61)) := (Kp.refl _ _).alloc _
  have hs0 : (w.alloc (Obj.cells #[Value.int .i64 0, Value.int .i64 0, Value.string ⟨#[]⟩, Value.int .i64 0, Value.bool false, Value.bool false] 61)).heap.size = w.heap.size + 1 := by simp
  generalize w.alloc (Obj.cells #[Value.int .i64 0, Value.int .i64 0, Value.string ⟨#[]⟩, Value.int .i64 0, Value.bool false, Value.bool false] 61) = w0 at *
  refine (bmNew l.length w0 hl).mono ?_
  rintro e w1 ⟨rfl, hB1, hb1⟩
  have k1 := k0.trans (Kp.of_below (F := None') hb1) (fun _ _ h => h)
  have d1 := d0.below hb1
  have hb01 := k1.below (B := w.heap.size) (Nat.le_refl _) (fun _ _ => id)
  clear c0 d0 k0 hb1 k1
  generalize hg : w0.heap.size = g at *
  have D1 := Lib.hid d1
  have HB1 := Lib.hid hB1
  have Hb01 := Lib.hid hb01
  have Hs0 := Lib.hid hs0
  clear d1 hB1 hb01 hs0
  go_wp2_with fail
  have hgw : w.heap.size < g := by have := Hs0.out; omega
  have HG := Lib.hid hg
  go_loopg [7, 8, 19] (sp.length) (fun m u v i wr => ∃ (k : Nat) (f : Nat → BitVec 64), k + m = sp.length ∧ i = .int .i64 k ∧ BmA wr (g + 1) g l.length f ∧ (∀ j, j < l.length → bAt f j = (decide (j < k) && sp.getD j false)) ∧ Kp (fun j => j = g) w1 wr)
  case atStart => exact ⟨0, fun _ => 0#64, by omega, rfl, HB1.out, fun j _ => by simp [bAt], Kp.refl _ _⟩
  case round =>
    obtain ⟨k, f, hk, rfl, hB, hbits, hkp⟩ := hrel
    have hbl := blw_kp Hb01.out hkp Hb01.out.size (fun k h => by omega)
    by_cases hlt : k < sp.length
    · have hr1 := Hr.out.below hbl
      obtain ⟨b0, off, rfl, hc⟩ := hr1.2 (by omega)
      have e1 := hc k (.bool (sp.getD k false)) (by rw [List.getElem?_map, List.getElem?_eq_getElem hlt, List.getD_eq_getElem?_getD, List.getElem?_eq_getElem hlt]; rfl)
      clear hc hr1
      generalize hon : sp.getD k false = on at *
      have Hon := Lib.hid hon
      have Hk := Lib.hid hk
      have HB := Lib.hid hB
      have Hbits := Lib.hid hbits
      have Hkp := Lib.hid hkp
      have Hbl := Lib.hid hbl
      clear hon hk hB hbits hkp hbl
      by_cases hkn : k < l.length
      · go_wp2_with (go_at_call 50; refine (bmSet (g + 1) g l.length k on f _ hl hkn HB.out).mono ?_; rintro e w2 ⟨rfl, f2, hB2, hbit2, hk2⟩)
        have HB2 := Lib.hid hB2
        have Hbit2 := Lib.hid hbit2
        have Hk2 := Lib.hid hk2
        clear hbit2 hk2
        clear hB2
        go_roundg (sp.length - (k + 1))
        case measure => have := Hk.out; omega
        case rel =>
          refine ⟨k + 1, f2, by omega, by go_num, HB2.out, ?_, Hkp.out.trans Hk2.out (fun _ _ h => h)⟩
          intro j hj
          rw [Hbit2.out]
          by_cases hjk : j = k
          · subst hjk; rw [if_pos rfl, Hon.out]; simp
          · rw [if_neg hjk, Hbits.out j hj]
            congr 1
            rw [decide_eq_decide]
            omega
      · go_wp2_with (go_at_call 50; refine (bmSetNo (g + 1) g l.length k on f _ hkn HB.out).mono ?_; rintro e w2 ⟨rfl, rfl⟩)
        go_roundg (sp.length - (k + 1))
        case measure => have := Hk.out; omega
        case rel =>
          refine ⟨k + 1, f, by omega, by go_num, HB.out, ?_, Hkp.out⟩
          intro j hj
          rw [Hbits.out j hj]
          congr 1
          rw [decide_eq_decide]
          omega
    · have hE : pickAt l.length turn (bAt f) = pickAt l.length turn (fun k => sp.getD k false) := pickAt_congr fun j hj => by
        rw [hbits j hj]
        by_cases hjs : j < sp.length
        · rw [decide_eq_true (by omega)]; rfl
        · rw [List.getD_eq_getElem?_getD, List.getElem?_eq_none (by omega)]; simp
      have hT1 := HT.out.kn (Kp.of_below hbl)
      have hd1 : Blk wr w.heap.size 61 #[Value.int .i64 0, Value.int .i64 0, Value.string ⟨#[]⟩, Value.int .i64 0, Value.bool false, Value.bool false] := D1.out.kp hkp (fun e => by omega)
      have htl : turn ≤ l.length := by omega
      have HTL := Lib.hid htl
      have HE := Lib.hid hE
      have HB := Lib.hid hB
      have Hbl := Lib.hid hbl
      have HT1 := Lib.hid hT1
      have Hd1 := Lib.hid hd1
      clear hB hbl hT1 hd1
      clear hbits hkp htl hE Hr HT HB1 Hb01 D1
      have c3 : wr.cell? ⟨p, 1, none⟩ = some (.int .i64 turn) := HT1.out.at_
      cases hP : pickAt l.length turn (fun k => sp.getD k false) with
      | none =>
        have HPK : Hid (pickG l turn sp = (gu0, false, turn)) := by unfold Hid pickG; rw [hP]
        rw [hP] at HE
        clear hP
        go_wp2_with fail
        refine (bmNext (g + 1) g l.length turn f _ hl HTL.out HB.out).mono ?_
        rintro e w2 ⟨rfl, q, rfl⟩
        rw [HE.out]
        have hT2 := HT1.out.kn ((Kp.refl _ _).drewN q)
        have hd2 := Hd1.out.drewN q
        have hb2 := blw_drewN Hbl.out q
        generalize wr.drewN q = w2 at *
        have f0 := hd2.frozen
        have e0 := hd2.cell
        have HT2 := Lib.hid hT2
        have Hd2 := Lib.hid hd2
        have Hb2 := Lib.hid hb2
        clear hT2 hd2 hb2
        clear HE HT1 Hd1 Hbl c3
        simp only [nextV]
        go_wp2
        refine bodyPost_ret (res_gu rfl _ w.heap.size gu0 _ rfl (six_sets Hd2.out rfl _ _ _ _ _ _)) rfl ?_
        rw [HPK.out]
        exact ⟨rfl, HT2.out.kp (six_kq w2 w.heap.size _ _ _ _ _ _) hne (fun k h e => by have := Hfa.out k h; omega), six_kp (Kp.of_below Hb2.out) (Nat.le_refl _) _ _ _ _ _ _⟩
      | some kk =>
        obtain ⟨hk1, hk2⟩ := pickAt_lt hP
        have HPK : Hid (pickG l turn sp = (l.getD kk gu0, true, (kk + 1) % l.length)) := by unfold Hid pickG; rw [hP]
        rw [hP] at HE
        clear hP hk2
        go_wp2_with fail
        refine (bmNext (g + 1) g l.length turn f _ hl HTL.out HB.out).mono ?_
        rintro e w2 ⟨rfl, q, rfl⟩
        rw [HE.out]
        have hT2 := HT1.out.kn ((Kp.refl _ _).drewN q)
        have hd2 := Hd1.out.drewN q
        have hb2 := blw_drewN Hbl.out q
        generalize wr.drewN q = w2 at *
        obtain ⟨ba, off, rfl, hc⟩ := (own_rd hT2.own).2 (by omega)
        obtain ⟨e1, e2, e3, e4, e5, e6⟩ := Gus_get l kk hk1
        have q1 := hc _ _ e1
        have q2 := hc _ _ e2
        have q3 := hc _ _ e3
        have q4 := hc _ _ e4
        have q5 := hc _ _ e5
        have q6 := hc _ _ e6
        rw [← Nat.add_assoc] at q2 q3 q4 q5 q6
        clear hc e1 e2 e3 e4 e5 e6
        have hgd : l.getD kk gu0 = l[kk] := by rw [List.getD_eq_getElem?_getD, List.getElem?_eq_getElem hk1]; rfl
        rw [hgd] at HPK
        generalize l[kk] = y at *
        obtain ⟨y1, y2, y3, y4, y5, y6⟩ := y
        dsimp only at q1 q2 q3 q4 q5 q6
        have hap : ba ≠ p := fun e => hT2.ne ⟨_, rfl, e⟩
        have haq : ba ≠ w.heap.size := fun e => by have := Hfa.out ba ⟨_, rfl, rfl⟩; omega
        have c1 := hT2.row
        have c1' := hT2.at_
        have e0 := hd2.cell
        have fp := hT2.blk.frozen
        have f0 := hd2.frozen
        have hmod : (((kk + 1 : Nat) : Int) % (l.length : Int)) = (((kk + 1) % l.length : Nat) : Int) := by omega
        have HT2 := Lib.hid hT2
        have Hd2 := Lib.hid hd2
        have Hb2 := Lib.hid hb2
        have Hmod := Lib.hid hmod
        clear hT2 hd2 hb2 hmod
        clear HE HT1 Hd1 Hbl c3 hgd
        simp only [nextV]
        go_wp2
        refine bodyPost_ret (res_gu rfl _ w.heap.size ⟨y1, y2, y3, y4, y5, y6⟩ _ rfl (six_sets (Hd2.out.far (Ne.symm hne) _) rfl _ _ _ _ _ _)) rfl ?_
        rw [HPK.out]
        have hm2 : ((kk : Int) + 1) % (l.length : Int) = (((kk + 1) % l.length : Nat) : Int) := by rw [← Hmod.out]; congr 1
        have hG3 : GuA (w2.setCell ⟨p, 1, none⟩ (.int .i64 (((kk : Int) + 1) % (l.length : Int)))) base p (some ⟨ba, off, none⟩) c l (((kk + 1) % l.length : Nat) : Int) :=
          ⟨by rw [← hm2]; exact HT2.out.blk.set_ 1 _, own_kp HT2.out.own (Kp.set1 p 1 _) (fun k h e => HT2.out.ne (e ▸ h)), HT2.out.le⟩
        refine ⟨rfl, hG3.kp (six_kq _ w.heap.size _ _ _ _ _ _) hne (fun k h e => by have := Hfa.out k h; omega), six_kp ((Kp.of_below Hb2.out).trans (Kp.set1 p 1 _) (fun _ _ h => h)) (Nat.le_refl _) _ _ _ _ _ _⟩
end Go.Proofs.Ythaoplcmkaaflaa
