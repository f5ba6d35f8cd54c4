import Derived.Test.YthaoplcmkaaflaaRefB
namespace Go.Proofs.Ythaoplcmkaaflaa
open Go.RowKit

set_option maxHeartbeats 400000 in
theorem sameBindings (r : Bool) (A B : Option Addr) (c d : Nat) (l m : List Bd) (w : World) (hl : l.length ≤ 1000000) (hm : m.length ≤ 1000000) (hr : Rd w 3 A l.length (Bds l)) (hs : Rd w 3 B m.length (Bds m)) (h : decide (l = m) = r) :
    Calls Try.prog 21 #[.slice A l.length c, .slice B m.length d] w fun e w' => e = .returned (.bool r) ∧ ∃ q, w' = w.drewN q := by
  subst h
  by_cases hlm : l.length = m.length
  case neg =>
    have HN : Hid (decide (l = m) = false) := decide_eq_false fun e => hlm (by rw [e])
    have h1 : ((l.length : Int) != (m.length : Int)) = true := by rw [bne_iff_ne]; omega
    clear hr hs
    go_enter Try.func21, Try.ntmps21
    go_wp2
    go_ret
    exact ⟨ret_bool HN.out.symm, 0, rfl⟩
  case pos =>
  have h1 : ((l.length : Int) != (m.length : Int)) = false := by rw [bne_eq_false_iff_eq]; omega
  have Hr := Lib.hid hr
  have Hs := Lib.hid hs
  have Hlm := Lib.hid hlm
  clear hr hs hlm
  go_enter Try.func21, Try.ntmps21
  go_wp2
  clear h1
  go_loopg [5] (l.length) (fun g i wr => ∃ k : Nat, k + g = l.length ∧ i = .int .i64 k ∧ (∀ j (hj : j < l.length) (hj' : j < m.length), j < k → l[j] = m[j]) ∧ ∃ q, wr = w.drewN q)
  case atStart => exact ⟨0, by omega, rfl, fun j _ _ hj => absurd hj (by omega), 0, rfl⟩
  case round =>
    obtain ⟨k, hk, rfl, hno, q, rfl⟩ := hrel
    have Hk := Lib.hid hk
    have Hno := Lib.hid hno
    clear hk hno
    by_cases hlt : k < l.length
    · have hltm : k < m.length := by have := Hlm.out; omega
      obtain ⟨b, off, rfl, hc⟩ := Hr.out.2 (by omega)
      obtain ⟨b', off', rfl, hc'⟩ := Hs.out.2 (by omega)
      obtain ⟨e1, e2, e3⟩ := Bds_get l k hlt
      obtain ⟨e1', e2', e3'⟩ := Bds_get m k hltm
      have g1 := hc _ _ e1
      have g2 := hc _ _ e2
      have g3 := hc _ _ e3
      have f1 := hc' _ _ e1'
      have f2 := hc' _ _ e2'
      have f3 := hc' _ _ e3'
      rw [← Nat.add_assoc] at g2 g3 f2 f3
      clear hc hc' e1 e2 e3 e1' e2' e3'
      generalize hy : l[k] = y at *
      generalize hz : m[k] = z at *
      have Hy := Lib.hid hy
      have Hz := Lib.hid hz
      clear hy hz
      obtain ⟨y1, y2, y3⟩ := y
      obtain ⟨z1, z2, z3⟩ := z
      dsimp only at g1 g2 g3 f1 f2 f3
      have HB := Lib.hid (bdEq_iff ⟨y1, y2, y3⟩ ⟨z1, z2, z3⟩)
      dsimp only at HB
      go_wp2
      go_quiet (fail)
      go_wp2
      · have hh : (⟨y1, y2, y3⟩ : Bd) ≠ ⟨z1, z2, z3⟩ := of_decide_eq_false (by rw [← HB.out]; exact not_t (by assumption))
        have HN : Hid (decide (l = m) = false) := decide_eq_false fun e => by
          subst e
          exact hh (Hy.out.symm.trans Hz.out)
        go_ret
        exact ⟨ret_bool HN.out.symm, _, World.drewN_drewN ..⟩
      · have hh : (⟨y1, y2, y3⟩ : Bd) = ⟨z1, z2, z3⟩ := of_decide_eq_true (by rw [← HB.out]; exact not_f (by assumption))
        go_roundg (l.length - (k + 1))
        case measure => have := Hk.out; omega
        case rel =>
          refine ⟨k + 1, by omega, by go_num, ?_, _, rfl⟩
          intro j hj hj' hjk
          rcases Nat.lt_or_ge j k with h | h
          · exact Hno.out j hj hj' h
          · obtain rfl : j = k := by omega
            rw [Hy.out, Hz.out]
            exact hh
    · have HL : Hid (decide (l = m) = true) := decide_eq_true (List.ext_getElem Hlm.out fun j hj hj' => Hno.out j hj hj' (by omega))
      go_wp2
      go_ret
      exact ⟨ret_bool HL.out.symm, q, rfl⟩
set_option maxHeartbeats 1000000 in
theorem refDropQueue (s : ByteArray) (base p : Nat) (A : Option Addr) (c : Nat) (l : List Bd) (w : World) (hl : l.length ≤ 1000000) (hT : RefA w base p A c l) :
    Calls Try.prog 17 #[.pointer (some ⟨p, 0, none⟩), .string s] w fun e w' => ∃ Ao co A' c', e = .returned (.slice Ao (exsOf l s).length co) ∧
      w'.ownsRow w.heap.size 9 1 (.slice Ao (exsOf l s).length co) (exsOf l s).length (Strs (exsOf l s)) ∧
      RefA w' base p A' c' (l.filter fun b => !decide (b.q = s)) ∧ Kp (fun k => k = p) w w' ∧ (∀ k, FA A' k → w.heap.size ≤ k) := by
  have hp := hT.blk.lt
  have HT := Lib.hid hT
  clear hT
  have HE : Hid (exsOf l s = uniq ((l.filter fun b => decide (b.q = s)).map Bd.x)) := rfl
  go_enter Try.func17, Try.ntmps17
  go_wp2
  go_loopg [5, 6, 7] (l.length) (fun g s1 s2 i wr => ∃ (k : Nat) (m : List Bd) (n : List ByteArray) (A1 : Option Addr) (c1 : Nat) (A2 : Option Addr) (c2 : Nat), k + g = l.length ∧ i = .int .i64 k ∧ m = (l.take k).filter (fun b => !decide (b.q = s)) ∧ n = uniq (((l.take k).filter (fun b => decide (b.q = s))).map Bd.x) ∧ s1 = .slice A1 m.length c1 ∧ s2 = .slice A2 n.length c2 ∧
    wr.ownsRow w.heap.size 28 3 (.slice A1 m.length c1) m.length (Bds m) ∧ wr.ownsRow w.heap.size 9 1 (.slice A2 n.length c2) n.length (Strs n) ∧ (∀ j, FA A1 j → ¬ FA A2 j) ∧ Below w.heap.size w wr)
  case atStart => exact ⟨0, [], [], none, 0, none, 0, by omega, rfl, rfl, rfl, rfl, rfl, World.ownsRow_nil .., World.ownsRow_nil .., fun j h => absurd h (FA_none j), Below.refl _ _⟩
  case round =>
    obtain ⟨k, m, n, A1, c1, A2, c2, hk, rfl, hm, hn, rfl, rfl, ho1, ho2, hd, hb⟩ := hrel
    have hml : m.length ≤ k := by rw [hm]; exact Nat.le_trans (List.length_filter_le ..) (by simp; omega)
    have hnl : n.length ≤ k := by rw [hn]; exact Nat.le_trans (uniq_len _) (by rw [List.length_map]; exact Nat.le_trans (List.length_filter_le ..) (by simp; omega))
    have hT1 : RefA wr base p A c l := HT.out.kp (G := None') (Kp.of_below hb) id (fun _ _ => id)
    have c0 := hT1.cell
    have f0 := hT1.blk.frozen 0
    by_cases hlt : k < l.length
    · have hr1 := own_rd hT1.own
      have hsz := hb.size
      have Hk := Lib.hid hk
      have Hm := Lib.hid hm
      have Hn := Lib.hid hn
      have Ho1 := Lib.hid ho1
      have Ho2 := Lib.hid ho2
      have Hd := Lib.hid hd
      have Hb := Lib.hid hb
      have HT1 := Lib.hid hT1
      clear hk hm hn ho1 ho2 hd hb hT1
      obtain ⟨b, off, rfl, hc⟩ := hr1.2 (by omega)
      obtain ⟨e1, e2, e3⟩ := Bds_get l k hlt
      have g1 := hc _ _ e1
      have g2 := hc _ _ e2
      have g3 := hc _ _ e3
      rw [← Nat.add_assoc] at g2 g3
      clear hc e1 e2 e3 hr1
      have E0 : Hid ((l.take (k + 1)).filter (fun b => decide (b.q = s)) = (l.take k).filter (fun b => decide (b.q = s)) ++ (if decide (l[k].q = s) then [l[k]] else [])) := take_filter_succ _ l k hlt
      have E1 : Hid ((l.take (k + 1)).filter (fun b => !decide (b.q = s)) = (l.take k).filter (fun b => !decide (b.q = s)) ++ (if !decide (l[k].q = s) then [l[k]] else [])) := take_filter_succ _ l k hlt
      generalize hy : l[k] = y at *
      clear hy
      obtain ⟨y1, y2, y3⟩ := y
      dsimp only at g1 g2 g3
      by_cases hx : y2 = s
      · have F0 : Hid (uniq (((l.take (k + 1)).filter (fun b => decide (b.q = s))).map Bd.x) = if n.any (fun y => decide (y1 = y)) then n else n ++ [y1]) := by
          unfold Hid; rw [E0.out, if_pos (decide_eq_true hx), List.map_append, List.map_cons, List.map_nil, uniq_snoc, ← Hn.out]
        have F1 : Hid ((l.take (k + 1)).filter (fun b => !decide (b.q = s)) = m) := by
          unfold Hid; rw [E1.out, if_neg (by simpa using hx), List.append_nil, ← Hm.out]
        have hx' : (y2.toList == s.toList) = true := by rw [ba_eq]; exact decide_eq_true hx
        clear hx
        by_cases hz : (n.any fun y => decide (y1 = y)) = true
        · have F2 : Hid (uniq (((l.take (k + 1)).filter (fun b => decide (b.q = s))).map Bd.x) = n) := by unfold Hid; rw [F0.out, if_pos hz]
          have Hz := Lib.hid hz
          clear hz
          go_wp2_with (go_at_call 44; refine (refHas true A2 c2 n y1 _ (by omega) (own_rd Ho2.out) Hz.out).mono ?_; rintro e w2 ⟨rfl, rfl⟩)
          go_roundg (l.length - (k + 1))
          case measure => have := Hk.out; omega
          case rel => exact ⟨k + 1, m, n, A1, c1, A2, c2, by omega, by go_num, F1.out.symm, F2.out.symm, rfl, rfl, Ho1.out, Ho2.out, Hd.out, Hb.out⟩
        · have F2 : Hid (uniq (((l.take (k + 1)).filter (fun b => decide (b.q = s))).map Bd.x) = n ++ [y1]) := by unfold Hid; rw [F0.out, if_neg hz]
          have hz' : (n.any fun y => decide (y1 = y)) = false := eq_false_of_ne_true hz
          clear hz
          have Hz' := Lib.hid hz'
          clear hz'
          go_wp2_with (first | (go_at_call 44; refine (refHas false A2 c2 n y1 _ (by omega) (own_rd Ho2.out) Hz'.out).mono ?_; rintro e w2 ⟨rfl, rfl⟩) | (at_builtin; refine wpList_app _ rfl _ _ 32 rfl w.heap.size 9 _ 1 16 Try.underlying32 info_str rfl (by decide) A2 c2 n.length (Strs n) rfl ?o1 _ 1 1 [.string y1] rfl ?o2 (one1 _) ?o4 ?o5 ?o6 ?o7))
          case o1 => exact Ho2.out.alloc _
          case o2 => exact rd_alloc (by simp) rfl
          case o4 => unfold maxLen; omega
          case o5 => omega
          case o6 => (try simp); omega
          case o7 =>
            intro A3 c3 w3 ho3 hk3 hf3
            have hb3 : Below w.heap.size w w3 := Hb.out.trans (((Below.refl w.heap.size _).alloc (by omega) _).trans (hk3.below (by simp; omega) (fun k hk h => by have := (own_fa Ho2.out h).1; omega)))
            have ho13 := own_kp (Ho1.out.alloc _) hk3 (fun j h1 h2 => Hd.out j h1 h2)
            have hd3 : ∀ j, FA A1 j → ¬ FA A3 j := fun j h1 h3 => by
              rcases hf3 j h3 with h | h
              · exact Hd.out j h1 h
              · have := (own_fa Ho1.out h1).2; (try simp at h); omega
            have Ho3 := Lib.hid ho3
            have Hb3 := Lib.hid hb3
            have Ho13 := Lib.hid ho13
            have Hd3 := Lib.hid hd3
            clear ho3 hb3 ho13 hd3
            clear hk3 hf3
            go_wp2
            go_roundg (l.length - (k + 1))
            case measure => have := Hk.out; omega
            case rel =>
              refine ⟨k + 1, m, n ++ [y1], A1, c1, A3, c3, by omega, by go_num, F1.out.symm, F2.out.symm, rfl, by simp, Ho13.out, ?_, Hd3.out, Hb3.out⟩
              rw [← Strs_one, show (n ++ [y1]).length = n.length + 1 by simp]
              exact Ho3.out
      · have F2 : Hid (uniq (((l.take (k + 1)).filter (fun b => decide (b.q = s))).map Bd.x) = n) := by
          unfold Hid; rw [E0.out, if_neg (by simpa using hx), List.append_nil, ← Hn.out]
        have F1 : Hid ((l.take (k + 1)).filter (fun b => !decide (b.q = s)) = m ++ [(⟨y1, y2, y3⟩ : Bd)]) := by
          unfold Hid; rw [E1.out, if_pos (by simpa using hx), ← Hm.out]
        have hx' : (y2.toList == s.toList) = false := by rw [ba_eq]; exact decide_eq_false hx
        clear hx
        go_wp2_with (at_builtin; refine wpList_app _ rfl _ _ 39 rfl w.heap.size 28 _ 3 48 Try.underlying39 info_bd rfl (by decide) A1 c1 m.length (Bds m) rfl ?o1 _ 1 1 [.string y1, .string y2, .string y3] rfl ?o2 (one3 _ _ _) ?o4 ?o5 ?o6 ?o7)
        case o1 => exact Ho1.out.alloc _
        case o2 => exact rd_alloc (by simp) rfl
        case o4 => unfold maxLen; omega
        case o5 => omega
        case o6 => (try simp); omega
        case o7 =>
          intro A3 c3 w3 ho3 hk3 hf3
          have hb3 : Below w.heap.size w w3 := Hb.out.trans (((Below.refl w.heap.size _).alloc (by omega) _).trans (hk3.below (by simp; omega) (fun k hk h => by have := (own_fa Ho1.out h).1; omega)))
          have ho23 := own_kp (Ho2.out.alloc _) hk3 (fun j h2 h1 => Hd.out j h1 h2)
          have hd3 : ∀ j, FA A3 j → ¬ FA A2 j := fun j h3 h2 => by
            rcases hf3 j h3 with h | h
            · exact Hd.out j h h2
            · have := (own_fa Ho2.out h2).2; (try simp at h); omega
          have Ho3 := Lib.hid ho3
          have Hb3 := Lib.hid hb3
          have Ho23 := Lib.hid ho23
          have Hd3 := Lib.hid hd3
          clear ho3 hb3 ho23 hd3
          clear hk3 hf3
          go_wp2
          go_roundg (l.length - (k + 1))
          case measure => have := Hk.out; omega
          case rel =>
            refine ⟨k + 1, m ++ [⟨y1, y2, y3⟩], n, A3, c3, A2, c2, by omega, by go_num, F1.out.symm, F2.out.symm, by simp, rfl, ?_, Ho23.out, Hd3.out, Hb3.out⟩
            rw [← Bds_one, show (m ++ [(⟨y1, y2, y3⟩ : Bd)]).length = m.length + 1 by simp]
            exact Ho3.out
    · have e : m = l.filter (fun b => !decide (b.q = s)) := by rw [hm, List.take_of_length_le (by omega)]
      have e' : n = exsOf l s := by rw [HE.out, hn, List.take_of_length_le (by omega)]
      subst e e'
      have Hk := Lib.hid hk
      have Hm := Lib.hid hm
      have Hn := Lib.hid hn
      have Ho1 := Lib.hid ho1
      have Ho2 := Lib.hid ho2
      have Hb := Lib.hid hb
      have HT1 := Lib.hid hT1
      clear hk hm hn ho1 ho2 hb hT1
      go_wp2
      go_ret
      refine ⟨A2, c2, A1, c1, rfl, own_kp Ho2.out (Kp.set1 p 0 _) (fun j h e => ?_), ⟨HT1.out.blk.set_ 0 _, own_mono (own_kp Ho1.out (Kp.set1 p 0 _) (fun j h e => ?_)) (by have := HT.out.le; omega), HT.out.le⟩, Kp.setCell (F := fun k => k = p) (p := ⟨p, 0, none⟩) (Kp.of_below Hb.out) (fun _ => rfl) _, fun j h => (own_fa Ho1.out h).1⟩
      · have := (own_fa Ho2.out h).1; omega
      · have := (own_fa Ho1.out h).1; omega
end Go.Proofs.Ythaoplcmkaaflaa
