import Derived.Test.YthaoplcmkaaflaaDoorLaw10
namespace Go.Proofs.YthaoplcmkaaflaaDoor
open Go.RowKit

theorem tells_long (p k : ByteArray) (w : World) (hp : p.size ≤ maxLen) (hk : k.size ≤ maxLen) (h : 60 < p.size ∨ 60 < k.size) :
    Calls Tryd.prog 3 #[.string p, .string k] w fun e w' => e = .returned (.bool true) ∧ Below w.heap.size w w' := by
  unfold maxLen at hp hk
  by_cases h1 : 60 < p.size
  · clear h
    go_enter Tryd.func3, Tryd.ntmps3
    go_wp2_with fail
    refine (known10 w).mono ?_
    rintro e w0 ⟨rfl, hb0⟩
    go_wp2
    go_ret
    exact ⟨rfl, hb0⟩
  · have h2 : 60 < k.size := h.resolve_left h1
    have h3 : p.size ≤ 60 := by omega
    clear h h1
    go_enter Tryd.func3, Tryd.ntmps3
    go_wp2_with fail
    refine (known10 w).mono ?_
    rintro e w0 ⟨rfl, hb0⟩
    go_wp2
    go_ret
    exact ⟨rfl, hb0⟩

set_option maxRecDepth 100000 in
set_option maxHeartbeats 4000000 in
theorem tells_walk (p k : ByteArray) (w : World) (hp : p.size ≤ 60) (hk : k.size ≤ 60) :
    Calls Tryd.prog 3 #[.string p, .string k] w fun e w' => e = .returned (.bool true) ∧ Below w.heap.size w w' := by
  go_enter Tryd.func3, Tryd.ntmps3
  go_wp2_with fail
  refine (known10 w).mono ?_
  rintro e w0 ⟨rfl, hb0⟩
  have Hb0 := Lib.hid hb0
  clear hb0
  go_wp2_with fail
  refine (patWords k w0 (by omega)).mono ?_
  rintro e w1 ⟨rfl, hw1⟩
  have hb1 : Below w0.heap.size w0 w1 := by rw [hw1]; exact (Below.refl _ _).alloc (Nat.le_refl _) _
  have hr1 : Rd w1 1 (some ⟨w0.heap.size, 0, none⟩) (words k).length ((words k).map Value.string) := by rw [hw1]; exact rd_words _ rfl
  have hl := words_le k
  clear hw1
  have HB1 := Lib.hid (blw_trans Hb0.out hb1 Hb0.out.size)
  have Hr1 := Lib.hid hr1
  clear hr1
  clear hb1 Hb0
  go_wp2_with fail
  refine (refWords k w1 (by omega)).mono ?_
  rintro e w2 ⟨A2, c2, rfl, hr2, hb2⟩
  have hr1 := Hr1.out.below hb2
  have HB2 := Lib.hid (blw_trans HB1.out hb2 HB1.out.size)
  have Hr1 := Lib.hid hr1
  have Hr2 := Lib.hid hr2
  clear hr1 hr2
  clear hb2 HB1
  go_wp2_with fail
  refine (sameTexts true _ A2 _ c2 (words k) (words k) w2 (by omega) (by omega) Hr1.out Hr2.out (decide_eq_true rfl)).mono ?_
  rintro e w3 ⟨rfl, q, rfl⟩
  have HB3 := Lib.hid (blw_drewN HB2.out q)
  generalize w2.drewN q = w3 at *
  clear Hr1 Hr2 HB2
  go_wp2_with fail
  refine (patMatch p k w3 (by omega) (by omega)).mono ?_
  rintro e w4 ⟨rfl, hb4⟩
  have HB4 := Lib.hid (blw_trans HB3.out hb4 HB3.out.size)
  clear hb4 HB3
  go_wp2_with fail
  refine (refMatch p k w4 (by omega) (by omega)).mono ?_
  rintro e w5 ⟨rfl, hb5⟩
  have HB5 := Lib.hid (blw_trans HB4.out hb5 HB4.out.size)
  clear hb5 HB4
  generalize matches_ p k = mv at *
  go_wp2_with fail
  refine (isName p w5 (by omega)).mono ?_
  rintro e w6 ⟨rfl, hw6⟩
  subst hw6
  go_wp2_with fail
  refine (refIsName p w6 (by omega)).mono ?_
  rintro e w7 ⟨rfl, hw7⟩
  subst hw7
  generalize isNm p = nv at *
  go_wp2_with fail
  refine (isKey p w7).mono ?_
  rintro e w8 ⟨rfl, hw8⟩
  subst hw8
  go_wp2_with fail
  refine (refIsKey p w8).mono ?_
  rintro e w9 ⟨rfl, hw9⟩
  subst hw9
  generalize isKy p = kv at *
  go_wp2_with fail
  go_ret
  exact ⟨rfl, HB5.out⟩

theorem tells (p k : ByteArray) (w : World) (hp : p.size ≤ maxLen) (hk : k.size ≤ maxLen) :
    Calls Tryd.prog 3 #[.string p, .string k] w fun e w' => e = .returned (.bool true) ∧ Below w.heap.size w w' := by
  by_cases h : p.size ≤ 60 ∧ k.size ≤ 60
  · exact tells_walk p k w h.1 h.2
  · exact tells_long p k w hp hk (by omega)
end Go.Proofs.YthaoplcmkaaflaaDoor
