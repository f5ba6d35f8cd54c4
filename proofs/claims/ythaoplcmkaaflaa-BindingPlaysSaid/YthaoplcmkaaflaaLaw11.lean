import Derived.Test.YthaoplcmkaaflaaBdE
namespace Go.Proofs.Ythaoplcmkaaflaa
open Go.RowKit

def bK : Bd := ⟨⟨#[120]⟩, ⟨#[113]⟩, ⟨#[107]⟩⟩
theorem bK_ok : addOk [] bK = true ∧ addErr [] bK = 0 ∧ addL [] bK = [bK] := by decide
theorem bK_ok2 : addOk [bK] bK = false ∧ addErr [bK] bK = 0 ∧ addL [bK] bK = [bK] := by decide
theorem bK_keyed : keyed [bK] ⟨#[120]⟩ ⟨#[107]⟩ = [⟨#[113]⟩] := by decide
theorem bK_exs : exsOf [bK] ⟨#[113]⟩ = [⟨#[120]⟩] := by decide
theorem bK_left : ([bK].filter fun b => !decide (b.q = ⟨#[113]⟩)) = [] := by decide

set_option maxHeartbeats 1000000 in
theorem known11 (w : World) : Calls Try.prog 8 #[] w fun e w' => e = .returned (.bool true) ∧ Below w.heap.size w w' := by
  go_enter Try.func8, Try.ntmps8
  go_wp2_with fail
  refine (bdNew w).mono ?_
  rintro e w1 ⟨rfl, hT1, hb1, hs1⟩
  have HT1 := Lib.hid hT1
  have HB1 := Lib.hid hb1
  have HS1 := Lib.hid hs1
  clear hT1 hb1 hs1
  go_wp2_with fail
  have n2 : Blk (w1.alloc (Obj.cells #[Value.string ⟨#[120]⟩, Value.string ⟨#[113]⟩, Value.string ⟨#[107]⟩] 28)) w1.heap.size 28 #[Value.string ⟨#[120]⟩, Value.string ⟨#[113]⟩, Value.string ⟨#[107]⟩] := Blk.new _ _ _
  have k2 : Below w1.heap.size w1 (w1.alloc (Obj.cells #[Value.string ⟨#[120]⟩, Value.string ⟨#[113]⟩, Value.string ⟨#[107]⟩] 28)) := (Below.refl _ _).alloc (Nat.le_refl _) _
  generalize w1.alloc (Obj.cells #[Value.string ⟨#[120]⟩, Value.string ⟨#[113]⟩, Value.string ⟨#[107]⟩] 28) = w2 at *
  have HT2 := Lib.hid (HT1.out.kp (G := None') (Kp.of_below k2) id (fun _ _ => id))
  have HB2 := Lib.hid (blw_trans HB1.out k2 HB1.out.size)
  have s12 := k2.size
  clear k2 HT1 HB1
  obtain ⟨o1, o2, o3⟩ := bK_ok
  have hA := bdAdd w.heap.size w.heap.size none 0 [] bK w2 (by decide) HT2.out
  rw [o1, o2, o3] at hA
  refine hA.mono ?_
  clear hA o1 o2 o3
  rintro e w3 ⟨A3, c3, rfl, hT3, hk3, hf3⟩
  have n3 := n2.kp hk3 (fun h => by rcases h with h | h; · have := HS1.out; have := HB2.out.size; omega
                                    · exact FA_none _ h)
  have HB3 := Lib.hid (blw_kp HB2.out hk3 HB2.out.size (fun k h => by rcases h with h | h; · omega
                                                                      · exact absurd h (FA_none _)))
  have HT3 := Lib.hid hT3
  have s23 := hk3.size
  have HF3 : Hid (∀ k, FA A3 k → w2.heap.size ≤ k) := fun k h => (hf3 k h).elim (fun h => absurd h (FA_none _)) id
  have b2 := n2.lt
  have d0 := n3.cell 0
  have d1 := n3.cell 1
  have d2 := n3.cell 2
  clear n2 HT2 HB2 hk3 hf3 hT3
  go_wp2_with fail
  clear d0 d1 d2
  obtain ⟨o1, o2, o3⟩ := bK_ok2
  have hA := bdAdd w.heap.size w.heap.size A3 c3 [bK] bK w3 (by decide) HT3.out
  rw [o1, o2, o3] at hA
  refine hA.mono ?_
  clear hA o1 o2 o3
  rintro e w4 ⟨A4, c4, rfl, hT4, hk4, hf4⟩
  have n4 := n3.kp hk4 (fun h => by rcases h with h | h
                                    · have := HS1.out; have := HB3.out.size; omega
                                    · have := HF3.out _ h; omega)
  have HB4 := Lib.hid (blw_kp HB3.out hk4 HB3.out.size (fun k h => by rcases h with h | h; · omega
                                                                      · exact (own_fa HT3.out.own h).1))
  have HT4 := Lib.hid hT4
  have s34 := hk4.size
  clear n3 HT3 HB3 hk4 hf4 hT4
  go_wp2_with fail
  refine (bdKeyed _ _ ⟨#[120]⟩ ⟨#[107]⟩ _ _ _ _ (by decide) HT4.out).mono ?_
  rintro e w5 ⟨A5, c5, rfl, ho5, hb5⟩
  rw [bK_keyed] at ho5
  rw [bK_keyed]
  have n5 := n4.below hb5
  have HT5 := Lib.hid (HT4.out.kp (G := None') (Kp.of_below hb5) id (fun _ _ => id))
  have HB5 := Lib.hid (blw_trans HB4.out hb5 HB4.out.size)
  have Hr5 := Lib.hid (own_rd ho5)
  have HG5 : Hid (∀ k, FA A5 k → w4.heap.size ≤ k) := fun k h => (own_fa ho5 h).1
  have s45 := hb5.size
  clear n4 HT4 HB4 ho5 hb5
  go_wp2_with fail
  refine (bdDropQueue ⟨#[113]⟩ _ _ _ _ _ _ (by decide) HT5.out).mono ?_
  rintro e w6 ⟨Ad, cd, A6, c6, rfl, ho6, hT6, hk6, hf6⟩
  rw [bK_exs] at ho6
  rw [bK_exs]
  rw [bK_left] at hT6
  have n6 := n5.kp hk6 (fun h => by have := HS1.out; have := HB5.out.size; omega)
  have HT6 := Lib.hid hT6
  have HB6 := Lib.hid (blw_kp HB5.out hk6 HB5.out.size (fun k h => by omega))
  obtain ⟨g6, o6, rfl, hc6⟩ := (own_rd ho6).2 (by decide)
  obtain ⟨g5, o5, rfl, hc5⟩ := Hr5.out.2 (by decide)
  have e5 := hc5 0 _ rfl
  have e6 := hc6 0 _ rfl
  have e5' : w6.cell? ⟨g5, o5 + 0, none⟩ = some (.string ⟨#[113]⟩) := hk6.cell e5 (fun h => by have h : g5 = w.heap.size := h; have := HG5.out g5 ⟨_, rfl, rfl⟩; have := HS1.out; omega)
  simp only [Nat.add_zero] at e5' e6
  have d0 := n6.cell 0
  have d1 := n6.cell 1
  have d2 := n6.cell 2
  have s56 := hk6.size
  clear n5 HT5 HB5 ho6 hT6 hk6 hf6 hc6 hc5 e5
  go_wp2_with fail
  refine (bdLen _ _ _ _ _ _ HT6.out).mono ?_
  rintro e w7 ⟨rfl, rfl⟩
  go_wp2_with fail
  refine (drop_no _ _ _ _ _ bK _ (by decide) HT6.out (by decide)).mono ?_
  rintro e w8 ⟨rfl, hT8, hb8⟩
  have HT8 := Lib.hid hT8
  have HB8 := Lib.hid (blw_trans HB6.out hb8 HB6.out.size)
  clear hT8 hb8 HT6 HB6
  go_wp2_with fail
  refine (bdOf _ ⟨#[120]⟩ _ _ _ _ (by decide) HT8.out.blk (own_rd HT8.out.own)).mono ?_
  rintro e w9 ⟨A9, c9, rfl, ho9, hb9⟩
  have HB9 := Lib.hid (blw_trans HB8.out hb9 HB8.out.size)
  clear ho9 hb9
  go_wp2
  go_ret
  exact ⟨rfl, HB9.out⟩
end Go.Proofs.Ythaoplcmkaaflaa
