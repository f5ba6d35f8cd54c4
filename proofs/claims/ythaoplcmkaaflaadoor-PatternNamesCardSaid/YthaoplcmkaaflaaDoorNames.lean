import Derived.Test.YthaoplcmkaaflaaDoorLaw10
import Derived.Test.YthaoplcmkaaflaaDoorU8
namespace Go.Proofs.YthaoplcmkaaflaaDoor
open Go.RowKit

theorem isNm_uStr (n : Nat) (f : Nat → Int) (hf : ∀ i, i < n → 0 ≤ f i ∧ f i < 256) : isNm (uStr n f) = ((List.range n).all (fun i => nmB (f i)) && (decide (0 < n) && decide (n ≤ 12))) := by
  unfold isNm
  rw [uStr_size]
  congr 1
  unfold uStr
  rw [strOfNums_data, List.map_map, List.all_map, Bool.eq_iff_iff, List.all_eq_true, List.all_eq_true]
  have key : ∀ x, x ∈ List.range n → (((UInt8.ofNat (f x).toNat).toNat : Nat) : Int) = f x := fun x hx => by
    have := hf x (List.mem_range.1 hx)
    rw [UInt8.toNat_ofNat']
    omega
  constructor
  · intro h x hx
    have := h x hx
    simp only [Function.comp_apply] at this
    rw [key x hx] at this
    exact this
  · intro h x hx
    simp only [Function.comp_apply]
    rw [key x hx]
    exact h x hx

set_option maxRecDepth 100000 in
set_option maxHeartbeats 8000000 in
theorem names (a b c : Int) (w : World) (ha : 0 ≤ a ∧ a < 256) (hb : 0 ≤ b ∧ b < 256) (hc : 0 ≤ c ∧ c < 256) :
    Calls Tryd.prog 5 #[.int .u8 a, .int .u8 b, .int .u8 c] w fun e w' => e = .returned (.bool true) ∧ Below w.heap.size w w' := by
  obtain ⟨k, hk⟩ : ∃ K : Nat, a % 16 + 1 = (K : Int) := ⟨(a % 16 + 1).toNat, by omega⟩
  obtain ⟨j, hj⟩ : ∃ J : Nat, b % (k : Int) = (J : Int) := ⟨(b % (k : Int)).toNat, by rw [Int.toNat_of_nonneg]; exact Int.emod_nonneg _ (by omega)⟩
  obtain ⟨m, hm⟩ : ∃ J : Nat, a % 50 = (J : Int) := ⟨(a % 50).toNat, by omega⟩
  have hk1 : 1 ≤ k ∧ k ≤ 16 := by omega
  have hjk : j < k := by have := Int.emod_lt_of_pos b (show 0 < (k : Int) by omega); omega
  have hm1 : m < 50 := by omega
  have HK := Lib.hid hk
  have HJ := Lib.hid hj
  have HM := Lib.hid hm
  have HZ : Hid (∀ w : World, (convert 31 9 (.slice (some ⟨w.heap.size, 0, none⟩) m m)).run Tryd.prog (w.alloc (.cells (madeCells #[Value.int .u8 0] m) 5)) = .ok (.string (uStr m fun _ => 0)) (w.alloc (.cells (madeCells #[Value.int .u8 0] m) 5))) := fun w => by
    rw [uArr_made]; exact uStr_run m (Blk.new w 5 (uArr m fun _ => 0))
  clear hk hj hm
  go_enter Tryd.func5, Tryd.ntmps5
  go_wp2_with fail
  refine (known10 w).mono ?_
  rintro e w0 ⟨rfl, hb0⟩
  have Hb0 := Lib.hid hb0
  clear hb0
  have hk' := HK.out
  go_wp2_with (at_make; refine wpList_make1 _ rfl _ _ 31 rfl 5 (.int .u8 0) 1 Tryd.underlying31 info_u8' .i64 .i64 _ _ k rfl rfl ?l1 ?l2 ?l3 ?l4 ?kk1)
  case l1 => rfl
  case l2 => rfl
  case l3 => omega
  case l4 => unfold maxLen; omega
  clear hk'
  have e : madeCells #[Value.int .u8 0] k = uArr k (fun i => if i < 0 then 110 else 0) := uArr_made k
  rw [e]
  clear e
  have n1 : Blk (w0.alloc (Obj.cells (uArr k (fun i => if i < 0 then 110 else 0)) 5)) w0.heap.size 5 (uArr k (fun i => if i < 0 then 110 else 0)) := Blk.new _ _ _
  have k1 : Below w0.heap.size w0 (w0.alloc (Obj.cells (uArr k (fun i => if i < 0 then 110 else 0)) 5)) := (Below.refl _ _).alloc (Nat.le_refl _) _
  generalize w0.alloc (Obj.cells (uArr k (fun i => if i < 0 then 110 else 0)) 5) = w1 at *
  have N1 := Lib.hid n1
  have K1 := Lib.hid k1
  clear n1 k1
  go_loopg [9] (k) (fun g i wr => ∃ z : Nat, z + g = k ∧ i = .int .i64 z ∧ Blk wr w0.heap.size 5 (uArr k (fun i => if i < z then 110 else 0)) ∧ Below w0.heap.size w0 wr)
  case atStart => exact ⟨0, by omega, rfl, N1.out, K1.out⟩
  case round =>
    obtain ⟨z, hz, rfl, hB, hbw⟩ := hrel
    by_cases hzk : z < k
    · have c1 := hB.uget hzk
      have f1 := hB.frozen z
      have HN : Hid (Blk (wr.setCell ⟨w0.heap.size, z, none⟩ (.int .u8 110)) w0.heap.size 5 (uArr k (fun i => if i < z + 1 then 110 else 0))) := by
        have := hB.uset z 110
        have e : (fun i => if i = z then (110 : Int) else if i < z then 110 else 0) = fun i => if i < z + 1 then 110 else 0 := by
          funext i
          by_cases h : i = z
          · subst h; simp
          · rw [if_neg h]; by_cases h2 : i < z
            · rw [if_pos h2, if_pos (by omega)]
            · rw [if_neg h2, if_neg (by omega)]
        unfold Hid
        rw [← e]; exact this
      have HBW : Hid (Below w0.heap.size w0 (wr.setCell ⟨w0.heap.size, z, none⟩ (.int .u8 110))) := hbw.setCell (Nat.le_refl _) _
      have Hz := Lib.hid hz
      clear hz
      clear hB hbw
      go_wp2_with fail
      go_roundg (k - (z + 1))
      case measure => have := Hz.out; omega
      case rel => exact ⟨z + 1, by omega, by go_num, HN.out, HBW.out⟩
    · obtain rfl : z = k := by omega
      have hB2 : Blk wr w0.heap.size 5 (uArr z (fun _ => 110)) := by
        rw [← uArr_congr (f := fun i => if i < z then 110 else 0) (fun i hi => if_pos hi)]; exact hB
      have q1 := uStr_run z hB2
      have HP : Hid (isNm (uStr z fun _ => 110) = decide ((z : Int) ≤ 12)) := by
        unfold Hid
        rw [isNm_uStr z _ (fun i _ => by omega)]
        have : (List.range z).all (fun _ => nmB 110) = true := by rw [List.all_eq_true]; intro _ _; rfl
        rw [this, Bool.eq_iff_iff]; simp; omega
      have HB2 := Lib.hid hB2
      have HBW := Lib.hid hbw
      clear hB hB2 hbw hz
      go_wp2_with fail
      refine (isName _ wr (by rw [uStr_size]; omega)).mono ?_
      rw [HP.out]
      rintro e w2 ⟨rfl, hw2⟩
      subst hw2
      clear q1
      have c1 := HB2.out.uget hjk
      have f1 := HB2.out.frozen j
      have hj' := HJ.out
      have hB3 := HB2.out.uset j c
      have q1 := uStr_run z hB3
      have HBW3 : Hid (Below w0.heap.size w0 (w2.setCell ⟨w0.heap.size, j, none⟩ (.int .u8 c))) := HBW.out.setCell (Nat.le_refl _) _
      have HP2 : Hid (isNm (uStr z fun i => if i = j then c else 110) = (nmB c && decide ((z : Int) ≤ 12))) := by
        unfold Hid
        rw [isNm_uStr z _ (fun i _ => by split <;> omega)]
        have : (List.range z).all (fun i => nmB (if i = j then c else 110)) = nmB c := by
          cases hcb : nmB c with
          | true =>
            rw [List.all_eq_true]
            intro i _
            by_cases h : i = j
            · rw [if_pos h]; exact hcb
            · rw [if_neg h]; rfl
          | false =>
            rw [List.all_eq_false]
            exact ⟨j, List.mem_range.2 hjk, by rw [if_pos rfl, hcb]; decide⟩
        rw [this]
        congr 1
        rw [Bool.eq_iff_iff]; simp; omega
      have Q1 := Lib.hid q1
      clear q1
      clear hB3
      have key : ∃ (nv : Bool), Hid (nmB c = nv) ∧ (nv = true ∧ ((97 ≤ c ∧ c ≤ 122) ∨ (65 ≤ c ∧ c ≤ 90) ∨ (48 ≤ c ∧ c ≤ 57) ∨ (45 ≤ c ∧ c ≤ 45)) ∨ nv = false ∧ ((c == 45) = false) ∧ (c < 45 ∨ (45 < c ∧ c < 48) ∨ (57 < c ∧ c < 65) ∨ (90 < c ∧ c < 97) ∨ 122 < c)) := by
        rcases nmB_cases c with ⟨h, e⟩ | ⟨h, e⟩ | ⟨h, e⟩ | ⟨h, e⟩ | ⟨e, h1, h⟩
        · exact ⟨true, e, .inl ⟨rfl, .inl h⟩⟩
        · exact ⟨true, e, .inl ⟨rfl, .inr (.inl h)⟩⟩
        · exact ⟨true, e, .inl ⟨rfl, .inr (.inr (.inl h))⟩⟩
        · exact ⟨true, e, .inl ⟨rfl, .inr (.inr (.inr h))⟩⟩
        · exact ⟨false, e, .inr ⟨rfl, by rw [beq_eq_false_iff_ne]; exact h1, h⟩⟩
      obtain ⟨nv, HNV, key⟩ := key
      have K12 : ∃ kv : Bool, Hid (decide ((z : Int) ≤ 12) = kv) ∧ (kv = true ∧ z ≤ 12 ∨ kv = false ∧ 12 < z) := by
        by_cases h : z ≤ 12
        · exact ⟨true, decide_eq_true (by omega), .inl ⟨rfl, h⟩⟩
        · exact ⟨false, decide_eq_false (by omega), .inr ⟨rfl, by omega⟩⟩
      obtain ⟨kv, HKV, key2⟩ := K12
      have HP3 : Hid (isNm (uStr z fun i => if i = j then c else 110) = (nv && kv)) := by unfold Hid; rw [HP2.out, HNV.out, HKV.out]
      rw [HKV.out]
      clear HP HP2 HNV HKV HK
      have HKY : Hid (isKy (uStr m fun _ => 0) = decide ((m : Int) ≤ 40)) := by unfold Hid isKy; rw [uStr_size]
      rcases key2 with ⟨rfl, h12⟩ | ⟨rfl, h12⟩
      all_goals
        rcases key with ⟨rfl, ⟨h1, h2⟩ | ⟨h1, h2⟩ | ⟨h1, h2⟩ | ⟨h1, h2⟩⟩ | ⟨rfl, h45, h | ⟨h1, h2⟩ | ⟨h1, h2⟩ | ⟨h1, h2⟩ | h⟩
      all_goals
        have q1 := Q1.out
        go_wp2_with fail
        refine (isName _ _ (by rw [uStr_size]; omega)).mono ?_
        rw [HP3.out]
        rintro e w4 ⟨rfl, hw4⟩
        rw [hw4]
        clear q1 hw4 Q1
        generalize w2.setCell ⟨w0.heap.size, j, none⟩ (.int .u8 c) = w3 at *
        have hz := HZ.out
        have hm' := HM.out
        have hmk := run_make1 31 5 (.int .u8 0) 1 Tryd.underlying31 info_u8' .i64 .i64 m (by omega) (by unfold maxLen; omega)
        have e0 : (Value.int .u8 0).cells = #[.int .u8 0] := rfl
        rw [e0] at hmk
        clear e0
        go_wp2_with fail
        clear hz hmk
        refine (isKey _ _).mono ?_
        rw [HKY.out]
        rintro e w5 ⟨rfl, hw5⟩
        rw [hw5]
        clear hw5
        go_wp2_with fail
        go_ret
        exact ⟨by first | (simp; done) | (simp; omega), Hb0.out.trans ((HBW3.out.alloc (HBW3.out.size) _).mono Hb0.out.size)⟩
end Go.Proofs.YthaoplcmkaaflaaDoor
