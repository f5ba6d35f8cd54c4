import Derived.Test.YthaoplcmkaaflaaDoorPatR
import Derived.Test.YthaoplcmkaaflaaDoorName
namespace Go.Proofs.YthaoplcmkaaflaaDoor
open Go.RowKit

set_option maxRecDepth 100000 in
set_option maxHeartbeats 4000000 in
theorem known10 (w : World) : Calls Tryd.prog 9 #[] w fun e w' => e = .returned (.bool true) ∧ Below w.heap.size w w' := by
  have B0 : Hid (Below w.heap.size w w) := Below.refl _ _
  obtain ⟨w0, hw0⟩ : ∃ v : World, v = w := ⟨w, rfl⟩
  rw [← hw0] at B0 ⊢
  clear hw0
  go_enter Tryd.func9, Tryd.ntmps9
  go_wp2_with fail
  refine (patMatch ⟨#[97, 46, 35]⟩ ⟨#[97]⟩ w0 (by decide) (by decide)).mono ?_
  rintro e w1 ⟨rfl, hb⟩
  have B1 := Lib.hid (blw_trans B0.out hb B0.out.size)
  clear hb B0
  rw [show matches_ ⟨#[97, 46, 35]⟩ ⟨#[97]⟩ = true from by kernel_rfl]
  go_wp2_with fail
  refine (patMatch ⟨#[97, 46, 35]⟩ ⟨#[97, 46, 98, 46, 99]⟩ w1 (by decide) (by decide)).mono ?_
  rintro e w2 ⟨rfl, hb⟩
  have B2 := Lib.hid (blw_trans B1.out hb B1.out.size)
  clear hb B1
  rw [show matches_ ⟨#[97, 46, 35]⟩ ⟨#[97, 46, 98, 46, 99]⟩ = true from by kernel_rfl]
  go_wp2_with fail
  refine (patMatch ⟨#[97, 46, 42]⟩ ⟨#[97]⟩ w2 (by decide) (by decide)).mono ?_
  rintro e w3 ⟨rfl, hb⟩
  have B3 := Lib.hid (blw_trans B2.out hb B2.out.size)
  clear hb B2
  rw [show matches_ ⟨#[97, 46, 42]⟩ ⟨#[97]⟩ = false from by kernel_rfl]
  go_wp2_with fail
  refine (patMatch ⟨#[42, 46, 98]⟩ ⟨#[97, 46, 98]⟩ w3 (by decide) (by decide)).mono ?_
  rintro e w4 ⟨rfl, hb⟩
  have B4 := Lib.hid (blw_trans B3.out hb B3.out.size)
  clear hb B3
  rw [show matches_ ⟨#[42, 46, 98]⟩ ⟨#[97, 46, 98]⟩ = true from by kernel_rfl]
  go_wp2_with fail
  refine (patMatch ⟨#[35]⟩ ⟨#[]⟩ w4 (by decide) (by decide)).mono ?_
  rintro e w5 ⟨rfl, hb⟩
  have B5 := Lib.hid (blw_trans B4.out hb B4.out.size)
  clear hb B4
  rw [show matches_ ⟨#[35]⟩ ⟨#[]⟩ = true from by kernel_rfl]
  go_wp2_with fail
  refine (patMatch ⟨#[97]⟩ ⟨#[98]⟩ w5 (by decide) (by decide)).mono ?_
  rintro e w6 ⟨rfl, hb⟩
  have B6 := Lib.hid (blw_trans B5.out hb B5.out.size)
  clear hb B5
  rw [show matches_ ⟨#[97]⟩ ⟨#[98]⟩ = false from by kernel_rfl]
  go_wp2_with fail
  refine (patWords ⟨#[]⟩ w6 (by decide)).mono ?_
  rintro e w7 ⟨rfl, hw⟩
  have hb : Below w6.heap.size w6 w7 := by rw [hw]; exact (Below.refl _ _).alloc (Nat.le_refl _) _
  have B7 := Lib.hid (blw_trans B6.out hb B6.out.size)
  clear hb hw B6
  rw [show (words ⟨#[]⟩).length = 1 from by kernel_rfl]
  go_wp2_with fail
  refine (patWords ⟨#[97, 46, 46, 98]⟩ w7 (by decide)).mono ?_
  rintro e w8 ⟨rfl, hw⟩
  have hb : Below w7.heap.size w7 w8 := by rw [hw]; exact (Below.refl _ _).alloc (Nat.le_refl _) _
  have B8 := Lib.hid (blw_trans B7.out hb B7.out.size)
  clear hb hw B7
  rw [show (words ⟨#[97, 46, 46, 98]⟩).length = 3 from by kernel_rfl]
  go_wp2_with fail
  refine (isName ⟨#[113, 45, 49]⟩ w8 (by decide)).mono ?_
  rintro e w9 ⟨rfl, hw⟩
  subst hw
  have B9 := B8
  clear B8
  rw [show isNm ⟨#[113, 45, 49]⟩ = true from by kernel_rfl]
  go_wp2_with fail
  refine (isName ⟨#[]⟩ w9 (by decide)).mono ?_
  rintro e w10 ⟨rfl, hw⟩
  subst hw
  have B10 := B9
  clear B9
  rw [show isNm ⟨#[]⟩ = false from by kernel_rfl]
  go_wp2_with fail
  refine (isKey ⟨#[97, 46, 98]⟩ w10).mono ?_
  rintro e w11 ⟨rfl, hw⟩
  subst hw
  have B11 := B10
  clear B10
  rw [show isKy ⟨#[97, 46, 98]⟩ = true from by kernel_rfl]
  go_wp2_with fail
  go_ret
  exact ⟨rfl, B11.out⟩
end Go.Proofs.YthaoplcmkaaflaaDoor
