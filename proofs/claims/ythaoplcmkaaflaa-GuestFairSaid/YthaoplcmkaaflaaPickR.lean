import Derived.Test.YthaoplcmkaaflaaPick
namespace Go.Proofs.Ythaoplcmkaaflaa
open Go.RowKit

set_option maxHeartbeats 2000000 in
theorem rgPick (base p : Nat) (S : Option Addr) (cs : Nat) (sp : List Bool) (A : Option Addr) (c : Nat) (l : List Gu) (turn : Nat) (w : World) (hl : l.length ≤ 1000) (ht : turn < l.length ∨ turn = 0) (hs : sp.length ≤ maxLen)
    (hr : Rd w 1 S sp.length (sp.map .bool)) (hT : RuA w base p A c l turn) :
    Calls Try.prog 31 #[.pointer (some ⟨p, 0, none⟩), .slice S sp.length cs] w fun e w' => e = .returned (.tuple #[(pickG l turn sp).1.v, .bool (pickG l turn sp).2.1]) ∧ RuA w' base p A c l (pickG l turn sp).2.2 ∧ Kp (fun k => k = p) w w' := by
  unfold maxLen at hs
  have hp := hT.blk.lt
  have hne : p ≠ w.heap.size := Nat.ne_of_lt hp
  have hfa : ∀ k, FA A k → k < w.heap.size := fun k h => (own_fa hT.own h).2
  have Hr := Lib.hid hr
  have HT := Lib.hid hT
  have Hfa := Lib.hid hfa
  clear hr hT hfa
  go_enter Try.func31, Try.ntmps31
  go_wp2_with fail
  have d0 : Blk (w.alloc (Obj.cells #[Value.int .i64 0, Value.int .i64 0, Value.string ⟨#[]⟩, Value.int .i64 0, Value.bool false, Value.bool false] 61)) w.heap.size 61 #[Value.int .i64 0, Value.int .i64 0, Value.string ⟨#[]⟩, Value.int .i64 0, Value.bool false, Value.bool false] := Blk.new _ _ _
  have hb0 : Below w.heap.size w (w.alloc (Obj.cells #[Value.int .i64 0, Value.int .i64 0, Value.string ⟨#[]⟩, Value.int .i64 0, Value.bool false, Value.bool false] 61)) := (Below.refl _ _).alloc (Nat.le_refl _) _
  generalize w.alloc (Obj.cells #[Value.int .i64 0, Value.int .i64 0, Value.string ⟨#[]⟩, Value.int .i64 0, Value.bool false, Value.bool false] 61) = w0 at *
  have HT0 := Lib.hid (HT.out.kn (Kp.of_below hb0))
  have HR0 := Lib.hid (Hr.out.below hb0)
  have D0 := Lib.hid d0
  have Hb0 := Lib.hid hb0
  clear d0 hb0
  clear HT Hr
  have c0 := HT0.out.row
  have c1 := HT0.out.at_
  go_loopg [6] (l.length) (fun m i wr => ∃ (k : Nat), k + m = l.length ∧ i = .int .i64 k ∧ (∀ j, j < k → sp.getD ((turn + j) % l.length) false = false) ∧ ∃ q, wr = w0.drewN q)
  case atStart => exact ⟨0, by omega, rfl, fun j h => absurd h (by omega), 0, rfl⟩
  case round =>
    obtain ⟨k, hk, rfl, hno, q, rfl⟩ := hrel
    have Hk := Lib.hid hk
    have Hno := Lib.hid hno
    clear hk hno
    by_cases hlt : k < l.length
    · have hkk : (turn + k) % l.length < l.length := Nat.mod_lt _ (by omega)
      obtain ⟨kk, hkd⟩ : ∃ kk, (turn + k) % l.length = kk := ⟨_, rfl⟩
      rw [hkd] at hkk
      have HKD := Lib.hid hkd
      have hmod : (((turn : Int) + (k : Int)) % (l.length : Int)) = (kk : Int) := by rw [← hkd]; simp
      clear hkd
      by_cases hks : kk < sp.length
      · obtain ⟨b0, off, rfl, hc⟩ := HR0.out.2 (by omega)
        have e1 := hc kk (.bool (sp.getD kk false)) (by rw [List.getElem?_map, List.getElem?_eq_getElem hks, List.getD_eq_getElem?_getD, List.getElem?_eq_getElem hks]; rfl)
        clear hc
        cases hon : sp.getD kk false with
        | true =>
          rw [hon] at e1
          have HPK : Hid (pickG l turn sp = (l.getD kk gu0, true, (kk + 1) % l.length)) := by
            unfold Hid pickG
            rw [pickAt_some (n := l.length) (t := turn) (i := k) hlt (by rw [HKD.out]; exact hon) Hno.out, HKD.out]
          clear hon
          obtain ⟨ba, off', rfl, hc⟩ := (own_rd HT0.out.own).2 (by omega)
          obtain ⟨e1', e2, e3, e4, e5, e6⟩ := Gus_get l kk hkk
          have q1 := hc _ _ e1'
          have q2 := hc _ _ e2
          have q3 := hc _ _ e3
          have q4 := hc _ _ e4
          have q5 := hc _ _ e5
          have q6 := hc _ _ e6
          rw [← Nat.add_assoc] at q2 q3 q4 q5 q6
          clear hc e1' e2 e3 e4 e5 e6
          have hgd : l.getD kk gu0 = l[kk] := by rw [List.getD_eq_getElem?_getD, List.getElem?_eq_getElem hkk]; rfl
          rw [hgd] at HPK
          generalize l[kk] = y at *
          obtain ⟨y1, y2, y3, y4, y5, y6⟩ := y
          dsimp only at q1 q2 q3 q4 q5 q6
          have hap : ba ≠ p := fun e => HT0.out.ne ⟨_, rfl, e⟩
          have haq : ba ≠ w.heap.size := fun e => by have := Hfa.out ba ⟨_, rfl, rfl⟩; omega
          have e0 := D0.out.cell
          have f0 := D0.out.frozen
          have fp := HT0.out.blk.frozen
          clear hgd
          go_wp2
          go_quiet (fail)
          go_wp2
          have hT2 := HT0.out.kn ((Kp.refl None' w0).drewN (q + nq))
          have hD2 := D0.out.drewN (q + nq)
          have hB2 := blw_drewN Hb0.out (q + nq)
          have hm2 : ((kk : Int) + 1) % (l.length : Int) = (((kk + 1) % l.length : Nat) : Int) := by simp
          refine bodyPost_ret (res_gu rfl _ w.heap.size ⟨y1, y2, y3, y4, y5, y6⟩ _ rfl (six_sets (hD2.far (Ne.symm hne) _) rfl _ _ _ _ _ _)) rfl ?_
          rw [HPK.out]
          have hG3 : RuA ((w0.drewN (q + nq)).setCell ⟨p, 1, none⟩ (.int .i64 (((kk : Int) + 1) % (l.length : Int)))) base p (some ⟨ba, off', none⟩) c l (((kk + 1) % l.length : Nat) : Int) :=
            ⟨by rw [← hm2]; exact hT2.blk.set_ 1 _, own_kp hT2.own (Kp.set1 p 1 _) (fun k h e => hT2.ne (e ▸ h)), hT2.le⟩
          exact ⟨rfl, hG3.kp (six_kq _ w.heap.size _ _ _ _ _ _) hne (fun k h e => by have := Hfa.out k h; omega), six_kp ((Kp.of_below hB2).trans (Kp.set1 p 1 _) (fun _ _ h => h)) (Nat.le_refl _) _ _ _ _ _ _⟩
        | false =>
          rw [hon] at e1
          have HON := Lib.hid hon
          clear hon
          go_wp2
          go_quiet (fail)
          go_wp2
          go_roundg (l.length - (k + 1))
          case measure => have := Hk.out; omega
          case rel =>
            refine ⟨k + 1, by omega, by go_num, ?_, _, rfl⟩
            intro j hj
            by_cases hjk : j = k
            · subst hjk; rw [HKD.out]; exact HON.out
            · exact Hno.out j (by omega)
      · have HON : Hid (sp.getD kk false = false) := by unfold Hid; rw [List.getD_eq_getElem?_getD, List.getElem?_eq_none (by omega)]; rfl
        go_wp2
        go_quiet (fail)
        go_wp2
        go_roundg (l.length - (k + 1))
        case measure => have := Hk.out; omega
        case rel =>
          refine ⟨k + 1, by omega, by go_num, ?_, _, rfl⟩
          intro j hj
          by_cases hjk : j = k
          · subst hjk; rw [HKD.out]; exact HON.out
          · exact Hno.out j (by omega)
    · have HPK : Hid (pickG l turn sp = (gu0, false, turn)) := by
        unfold Hid pickG
        rw [pickAt_none (n := l.length) (t := turn) (fun j hj => Hno.out j (by omega))]
      have e0 := D0.out.cell
      have f0 := D0.out.frozen
      go_wp2
      have hT2 := HT0.out.kn ((Kp.refl None' w0).drewN q)
      have hD2 := (D0.out.drewN q)
      have hB2 := (blw_drewN Hb0.out q)
      refine bodyPost_ret (res_gu rfl _ w.heap.size gu0 _ rfl (six_sets hD2 rfl _ _ _ _ _ _)) rfl ?_
      rw [HPK.out]
      exact ⟨rfl, hT2.kp (six_kq _ w.heap.size _ _ _ _ _ _) hne (fun k h e => by have := Hfa.out k h; omega), six_kp (Kp.of_below hB2) (Nat.le_refl _) _ _ _ _ _ _⟩
end Go.Proofs.Ythaoplcmkaaflaa
