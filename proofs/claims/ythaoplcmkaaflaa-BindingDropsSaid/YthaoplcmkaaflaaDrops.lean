import Derived.Test.YthaoplcmkaaflaaLaw11
import Derived.Test.YthaoplcmkaaflaaArr
import Derived.Test.YthaoplcmkaaflaaDropsP
namespace Go.Proofs.Ythaoplcmkaaflaa
open Go.RowKit

set_option maxRecDepth 100000 in
set_option maxHeartbeats 2000000 in
theorem drops_walk (A : Option Addr) (c : Nat) (bs : List Int) (q : Int) (w : World) (hl : bs.length ≤ 30) (hq : 0 ≤ q ∧ q < 256) (hbs : ∀ x ∈ bs, 0 ≤ x ∧ x < 256) (hr : Rd w 1 A bs.length (bs.map (.int .u8))) :
    Calls Try.prog 3 #[.slice A bs.length c, .int .u8 q] w fun e w' => e = .returned (.bool true) ∧ Below w.heap.size w w' := by
  obtain ⟨hq0, hq1⟩ := hq
  have Hr := Lib.hid hr
  have Hbs := Lib.hid hbs
  clear hr hbs
  go_enter Try.func3, Try.ntmps3
  go_wp2_with fail
  refine (known11 w).mono ?_
  rintro e w0 ⟨rfl, hb0⟩
  have Hr0 := Lib.hid (Hr.out.below hb0)
  have HB0 := Lib.hid hb0
  clear hb0 Hr
  go_wp2_with fail
  refine (bdNew w0).mono ?_
  rintro e w1 ⟨rfl, hT1, hb1, hs1⟩
  have HT1 := Lib.hid hT1
  have HB1 := Lib.hid hb1
  have HS1 := Lib.hid hs1
  have Hr1 := Lib.hid (Hr0.out.below hb1)
  clear hT1 hb1 hs1
  go_wp2_with fail
  have n2 : Blk (w1.alloc (Obj.cells (bArr 64 fun _ => false) 26)) w1.heap.size 26 (bArr 64 fun _ => false) := Blk.new _ _ _
  have k2 : Below w1.heap.size w1 (w1.alloc (Obj.cells (bArr 64 fun _ => false) 26)) := (Below.refl _ _).alloc (Nat.le_refl _) _
  change Code.wp _ _ _ _ (w1.alloc (Obj.cells (bArr 64 fun _ => false) 26))
  generalize w1.alloc (Obj.cells (bArr 64 fun _ => false) 26) = w2 at *
  have HT2 := Lib.hid (HT1.out.kp (G := None') (Kp.of_below k2) id (fun _ _ => id))
  have HB02 := Lib.hid (blw_trans HB1.out k2 HB1.out.size)
  have Hr2 := Lib.hid (Hr1.out.below k2)
  have HN2 := Lib.hid n2
  have s12 := k2.size
  have s01 := HB1.out.size
  have s00 := HB0.out.size
  clear k2 n2 HT1 HB1 Hr1 Hr2
  have hp1 : w0.heap.size < w1.heap.size := by have := HS1.out; omega
  go_loopg [7] (bs.length) (fun g i wr => ∃ (k : Nat) (ks : List Nat) (A1 : Option Addr) (c1 : Nat), k + g = bs.length ∧ i = .int .i64 k ∧ ks.length ≤ k ∧ ks.Nodup ∧ (∀ j ∈ ks, j < 64) ∧ TabA wr w0.heap.size w0.heap.size A1 c1 (ks.map bOf) ∧ Blk wr w1.heap.size 26 (bArr 64 fun j => decide (j ∈ ks)) ∧ (∀ j, FA A1 j → w1.heap.size < j) ∧ Below w0.heap.size w0 wr)
  case atStart =>
    refine ⟨0, [], none, 0, by omega, rfl, Nat.le_refl _, List.nodup_nil, fun j h => absurd h (by simp), HT2.out, ?_, fun j h => absurd h (FA_none j), ?_⟩
    · exact HN2.out
    · exact HB02.out
  case round =>
    obtain ⟨k, ks, A1, c1, hk, rfl, hkk, hnd, h64, hT, hN, hfr, hb⟩ := hrel
    have hsz := hb.size
    have HR3 := Lib.hid (Hr0.out.below hb)
    have Hk := Lib.hid hk
    have Hnd := Lib.hid hnd
    have H64 := Lib.hid h64
    have HT := Lib.hid hT
    have HN := Lib.hid hN
    have Hfr := Lib.hid hfr
    have Hb := Lib.hid hb
    clear hk hnd h64 hT hN hfr hb
    by_cases hlt : k < bs.length
    · obtain ⟨g1, gn⟩ := Hbs.out bs[k] (List.getElem_mem hlt)
      obtain ⟨b, off, rfl, hc⟩ := HR3.out.2 (by omega)
      have e1 := hc k (.int .u8 bs[k]) (by simp [hlt])
      generalize bs[k] = v at *
      clear hc
      obtain ⟨κ, hκ⟩ : ∃ κ : Nat, v % 64 = (κ : Int) := ⟨(v % 64).toNat, by omega⟩
      have hκ64 : κ < 64 := by omega
      go_wp2_with fail
      have k3 := (((((Kp.refl None' wr).alloc (Obj.cells #[Value.int IntKind.u8 (120 + (κ : Int) % 3)] 5)).alloc (Obj.cells #[Value.int IntKind.u8 (97 + (κ : Int) / 3 % 4)] 5)).alloc (Obj.cells #[Value.int IntKind.u8 (48 + (κ : Int) / 12)] 5)).alloc (Obj.cells #[Value.string (chr1 (120 + (κ : Int) % 3)), Value.string (chr1 (97 + (κ : Int) / 3 % 4)), Value.string (chr1 (48 + (κ : Int) / 12))] 28))
      generalize ((((wr.alloc (Obj.cells #[Value.int IntKind.u8 (120 + (κ : Int) % 3)] 5)).alloc (Obj.cells #[Value.int IntKind.u8 (97 + (κ : Int) / 3 % 4)] 5)).alloc (Obj.cells #[Value.int IntKind.u8 (48 + (κ : Int) / 12)] 5)).alloc (Obj.cells #[Value.string (chr1 (120 + (κ : Int) % 3)), Value.string (chr1 (97 + (κ : Int) / 3 % 4)), Value.string (chr1 (48 + (κ : Int) / 12))] 28)) = w3 at *
      obtain ⟨o1, o2, o3⟩ := add_bOf H64.out hκ64 (by omega)
      have hA := bdAdd _ _ A1 c1 (ks.map bOf) (bOf κ) w3 (by rw [List.length_map]; omega) (HT.out.kp k3 id (fun _ _ => id))
      rw [o1, o2, o3] at hA
      refine hA.mono ?_
      clear hA o1 o2 o3
      rintro e w4 ⟨A4, c4, rfl, hT4, hk4, hf4⟩
      have hN4 := (HN.out.kp k3 id).kp hk4 (fun h => by
        rcases h with h | h
        · omega
        · have := Hfr.out _ h; omega)
      have hsz3 := k3.size
      have hsz4 := hk4.size
      have hb4 : Below w0.heap.size w0 w4 := blw_kp (blw_kp Hb.out k3 hsz (fun k h => h.elim)) hk4 (by omega) (fun k h => by
        rcases h with h | h
        · omega
        · have := Hfr.out _ h; omega)
      have hf4' : ∀ j, FA A4 j → w1.heap.size < j := fun j h => by
        rcases hf4 j h with h | h
        · exact Hfr.out j h
        · have := HN.out.lt; omega
      have c4a := hN4.bget hκ64
      have f4a := hN4.frozen κ
      have HN4 := Lib.hid hN4
      have HT4 := Lib.hid hT4
      have HB4 := Lib.hid hb4
      have HF4 := Lib.hid hf4'
      have HKK := Lib.hid hκ
      clear hN4 hT4 hb4 hf4 hf4' hk4 k3 hκ
      generalize hm : decide (κ ∈ ks) = m at *
      have HM := Lib.hid hm
      clear hm
      cases m
      all_goals
        go_wp2
        go_roundg (bs.length - (k + 1))
        case measure => have := Hk.out; omega
        case rel =>
          have hset : ∀ j, FA A4 j → ¬ (j = w1.heap.size) := fun j h => by have := HF4.out j h; omega
          refine ⟨k + 1, addK ks κ, A4, c4, by omega, by go_num, ?_, addK_nodup Hnd.out κ, addK_lt H64.out hκ64, HT4.out.kp (Kp.set1 w1.heap.size κ _) (by omega) hset, ?_, HF4.out, blw_kp HB4.out (Kp.set1 w1.heap.size κ _) (by omega) (fun j h => by omega)⟩
          · have := addK_len ks κ; omega
          · have := HN4.out.bset κ true
            rwa [addK_mem] at this
    · clear HR3
      have hkn : ks.length ≤ 30 := by have := Hk.out; omega
      obtain ⟨qn, hqn⟩ : ∃ qn : Nat, q % 4 = (qn : Int) := ⟨(q % 4).toNat, by omega⟩
      have hq4 : qn < 4 := by omega
      go_wp2_with fail
      have k3 := (Kp.refl None' wr).alloc (Obj.cells #[Value.int IntKind.u8 (97 + (qn : Int))] 5)
      generalize wr.alloc (Obj.cells #[Value.int IntKind.u8 (97 + (qn : Int))] 5) = w3 at *
      have hD := bdDropQueue (chr1 (97 + (qn : Int))) _ _ A1 c1 (ks.map bOf) w3 (by rw [List.length_map]; omega) (HT.out.kp k3 id (fun _ _ => id))
      rw [exsOf_bOf ks hq4, filter_left ks hq4] at hD
      refine hD.mono ?_
      clear hD
      rintro e w4 ⟨Ao, co, A4, c4, rfl, ho4, hT4, hk4, hf4⟩
      have hsz3 := k3.size
      have hsz4 := hk4.size
      have hN4 := (HN.out.kp k3 id).kp hk4 (fun h => by omega)
      have HB4 : Hid (Below w0.heap.size w0 w4) := blw_kp (blw_kp Hb.out k3 hsz (fun k h => h.elim)) hk4 (by omega) (fun k h => by omega)
      have HF4 : Hid (∀ j, FA A4 j → w1.heap.size < j) := fun j h => by have := hf4 j h; have := HN.out.lt; omega
      have HT4 := Lib.hid hT4
      have HN4 := Lib.hid hN4
      have HO4 := Lib.hid (own_rd ho4)
      have HG4 : Hid (∀ j, FA Ao j → w3.heap.size ≤ j) := fun j h => (own_fa ho4 h).1
      have htl := told_len ks qn
      change (told ks qn).length ≤ 3 at htl
      have HTF : Hid (∀ x ∈ told ks qn, ∃ j : Nat, j < 3 ∧ x = chr1 (120 + (j : Int))) := fun x hx => told_form hx
      have HTA : Hid (∀ (i m : Nat), m < 3 → ∀ (h : i < (told ks qn).length), (told ks qn)[i] = chr1 (120 + (m : Int)) → leftTold ks qn i m = true) := fun i m hm h he => leftTold_at H64.out hm h he
      have HTS : Hid (∀ (i j m : Nat), j < 3 → m < 3 → ∀ (h : i < (told ks qn).length), (told ks qn)[i] = chr1 (120 + (m : Int)) → leftTold ks qn (i + 1) j = if j = m then false else leftTold ks qn i j) := fun i j m hj hm h he => leftTold_succ ks qn i j m hj hm h he
      have HTE : Hid (∀ j, j < 3 → leftTold ks qn (told ks qn).length j = false) := fun j hj => leftTold_end H64.out qn j hj
      have HT0 : Hid (∀ j, leftTold ks qn 0 j = wasAt ks qn 64 j) := fun j => by unfold leftTold; simp
      have hTold : uniq ((ks.filter (onQ qn)).map fun k : Nat => chr1 (120 + (k : Int) % 3)) = told ks qn := rfl
      rw [hTold] at HO4 ⊢
      clear hTold
      generalize hte : told ks qn = tl at *
      clear hte hT4 hN4 ho4 hk4 hf4 k3
      have HL : Hid ((ks.filter fun k => !onQ qn k).length = leftAt ks qn 64) := count_all Hnd.out H64.out _
      have hkl : (ks.filter fun k => !onQ qn k).length ≤ 30 := Nat.le_trans (List.length_filter_le ..) hkn
      clear HT HN Hfr Hb Hk
      go_wp2_with fail
      have n5 : Blk (w4.alloc (Obj.cells (bArr 3 fun _ => false) 34)) w4.heap.size 34 (bArr 3 fun _ => false) := Blk.new _ _ _
      have k5 : Below w4.heap.size w4 (w4.alloc (Obj.cells (bArr 3 fun _ => false) 34)) := (Below.refl _ _).alloc (Nat.le_refl _) _
      change Code.wp _ _ _ _ (w4.alloc (Obj.cells (bArr 3 fun _ => false) 34))
      generalize w4.alloc (Obj.cells (bArr 3 fun _ => false) 34) = w5 at *
      have N5 := Lib.hid n5
      have K5 := Lib.hid k5
      clear n5 k5
      have c4 := HN4.out.lt
      have HQ : Hid (∀ z : Nat, z < 64 → ((z : Int) / 3 % 4 == (qn : Int)) = onQ qn z) := fun z hz => by unfold onQ; rw [Bool.eq_iff_iff, beq_iff_eq, decide_eq_true_iff]; omega
      go_loopg [15, 17] (64) (fun g lf i wr => ∃ (z : Nat), z + g = 64 ∧ i = .int .i64 z ∧ lf = .int .i64 (leftAt ks qn z) ∧ Blk wr w4.heap.size 34 (bArr 3 fun j => wasAt ks qn z j) ∧ Below w4.heap.size w4 wr)
      case atStart => exact ⟨0, by omega, rfl, rfl, N5.out, K5.out⟩
      case round =>
        obtain ⟨z, hz, rfl, rfl, hNz, hbz⟩ := hrel
        have hll := leftAt_le ks qn z
        have hsz5 := hbz.size
        have hlz := hNz.lt
        by_cases hz64 : z < 64
        · have hN6 := HN4.out.below hbz
          have c6 := hN6.bget hz64
          have f0 := hNz.frozen (z % 3)
          have c7 := hNz.bget (i := z % 3) (Nat.mod_lt _ (by omega))
          have hq := HQ.out z hz64
          have e3 : ((z : Int) % 3).toNat = z % 3 := by omega
          have HN6 := Lib.hid hN6
          have HNz := Lib.hid hNz
          have Hbz := Lib.hid hbz
          have Hz := Lib.hid hz
          clear hN6 hNz hbz hz
          generalize hm : decide (z ∈ ks) = m at *
          generalize ho : onQ qn z = o at *
          have Hm := Lib.hid hm
          have Ho := Lib.hid ho
          clear hm ho
          cases m
          · go_wp2
            go_roundg (64 - (z + 1))
            case measure => have := Hz.out; omega
            case rel =>
              refine ⟨z + 1, by omega, by go_num, ?_, ?_, Hbz.out⟩
              · rw [leftAt_succ, Hm.out]; rfl
              · rw [← wasAt_f (by rw [Hm.out]; rfl)]; exact HNz.out
          · cases o
            · go_wp2
              go_roundg (64 - (z + 1))
              case measure => have := Hz.out; omega
              case rel =>
                refine ⟨z + 1, by omega, by go_num, ?_, ?_, Hbz.out⟩
                · rw [leftAt_succ, Hm.out, Ho.out]; go_num
                · rw [← wasAt_f (by rw [Hm.out, Ho.out]; rfl)]; exact HNz.out
            · go_wp2
              go_roundg (64 - (z + 1))
              case measure => have := Hz.out; omega
              case rel =>
                refine ⟨z + 1, by omega, by go_num, ?_, ?_, blw_kp Hbz.out (Kp.set1 w4.heap.size (z % 3) _) (by omega) (fun j h => by omega)⟩
                · rw [leftAt_succ, Hm.out, Ho.out]; rfl
                · rw [← wasAt_t Hm.out Ho.out]; exact HNz.out.bset (z % 3) true
        · have hz' : z = 64 := by omega
          subst hz'
          have HNz := Lib.hid hNz
          have Hbz := Lib.hid hbz
          have Hz := Lib.hid hz
          clear hNz hbz hz
          clear HN4 N5 K5
          go_wp2_with fail
          go_loopg [16, 18] (tl.length) (fun g ct i wr => ∃ (z : Nat), z + g = tl.length ∧ i = .int .i64 z ∧ ct = .int .i64 z ∧ Blk wr w4.heap.size 34 (bArr 3 (leftTold ks qn z)) ∧ Below w4.heap.size w4 wr)
          case atStart =>
            refine ⟨0, by omega, rfl, rfl, ?_, Hbz.out⟩
            rw [show leftTold ks qn 0 = fun j => wasAt ks qn 64 j from funext HT0.out]
            exact HNz.out
          case round =>
            obtain ⟨z, hz, rfl, rfl, hN, hb⟩ := hrel
            have hlz := hN.lt
            have hsz9 := hb.size
            by_cases hzl : z < tl.length
            · obtain ⟨b, off, rfl, hc⟩ := (HO4.out.below hb).2 (by omega)
              have c1 := hc _ _ (Strs_get tl z hzl)
              obtain ⟨m, hm3, hme⟩ := HTF.out tl[z] (List.getElem_mem hzl)
              have c2 := hN.bget hm3
              rw [HTA.out z m hm3 hzl hme] at c2
              have f2 := hN.frozen m
              have HS : Hid ((fun j => if j = m then false else leftTold ks qn z j) = fun j => if j < 3 then leftTold ks qn (z + 1) j else (if j = m then false else leftTold ks qn z j)) := by
                funext j
                by_cases hj : j < 3
                · rw [if_pos hj, HTS.out z j m hj hm3 hzl hme]
                · rw [if_neg hj]
              have HN' := Lib.hid (hN.bset m false)
              rw [hme] at c1
              have Hme := Lib.hid hme
              have HN := Lib.hid hN
              have Hb := Lib.hid hb
              have Hz := Lib.hid hz
              clear hme hN hb hz
              clear hc
              have hm : m = 0 ∨ m = 1 ∨ m = 2 := by omega
              rcases hm with rfl | rfl | rfl
              · change World.cell? _ _ = some (.string ⟨#[120]⟩) at c1
                have hby : ∀ h, ((⟨#[120]⟩ : ByteArray)[0]'h).toNat = 120 := fun _ => rfl
                go_wp2
                go_roundg (tl.length - (z + 1))
                case measure => have := Hz.out; omega
                case rel =>
                  refine ⟨z + 1, by omega, by go_num, by go_num, ?_, blw_kp Hb.out (Kp.set1 w4.heap.size 0 _) (by omega) (fun j h => by omega)⟩
                  have := HN'.out
                  rw [HS.out] at this
                  exact bArr_lt this
              · change World.cell? _ _ = some (.string ⟨#[121]⟩) at c1
                have hby : ∀ h, ((⟨#[121]⟩ : ByteArray)[0]'h).toNat = 121 := fun _ => rfl
                go_wp2
                go_roundg (tl.length - (z + 1))
                case measure => have := Hz.out; omega
                case rel =>
                  refine ⟨z + 1, by omega, by go_num, by go_num, ?_, blw_kp Hb.out (Kp.set1 w4.heap.size 1 _) (by omega) (fun j h => by omega)⟩
                  have := HN'.out
                  rw [HS.out] at this
                  exact bArr_lt this
              · change World.cell? _ _ = some (.string ⟨#[122]⟩) at c1
                have hby : ∀ h, ((⟨#[122]⟩ : ByteArray)[0]'h).toNat = 122 := fun _ => rfl
                go_wp2
                go_roundg (tl.length - (z + 1))
                case measure => have := Hz.out; omega
                case rel =>
                  refine ⟨z + 1, by omega, by go_num, by go_num, ?_, blw_kp Hb.out (Kp.set1 w4.heap.size 2 _) (by omega) (fun j h => by omega)⟩
                  have := HN'.out
                  rw [HS.out] at this
                  exact bArr_lt this
            · have hz' : z = tl.length := by omega
              subst hz'
              have d0 := hN.bget (i := 0) (by omega)
              have d1 := hN.bget (i := 1) (by omega)
              have d2 := hN.bget (i := 2) (by omega)
              rw [HTE.out 0 (by omega)] at d0
              rw [HTE.out 1 (by omega)] at d1
              rw [HTE.out 2 (by omega)] at d2
              have HN := Lib.hid hN
              have Hb := Lib.hid hb
              have Hz := Lib.hid hz
              clear hN hb hz
              go_wp2_with fail
              have hsz9 := Hb.out.size
              have HT9 := Lib.hid (HT4.out.kp (G := None') (Kp.of_below Hb.out) id (fun _ _ => id))
              have hLen := bdLen _ _ _ _ _ _ HT9.out
              rw [List.length_map, HL.out] at hLen
              refine hLen.mono ?_
              clear hLen
              rintro e wx ⟨rfl, rfl⟩
              go_wp2_with fail
              have k10 := (Kp.refl None' wx).alloc (Obj.cells #[Value.int IntKind.u8 (97 + (qn : Int))] 5)
              generalize wx.alloc (Obj.cells #[Value.int IntKind.u8 (97 + (qn : Int))] 5) = wy at *
              have hD := bdDropQueue (chr1 (97 + (qn : Int))) _ _ _ _ _ wy (by rw [List.length_map]; omega) (HT9.out.kp k10 id (fun _ _ => id))
              have e0 : exsOf ((ks.filter fun k => !onQ qn k).map bOf) (chr1 (97 + (qn : Int))) = [] := by rw [← filter_left ks hq4]; exact exsOf_none _ _
              rw [e0] at hD
              clear e0
              refine hD.mono ?_
              clear hD
              rintro e wz ⟨A9, c9, A10, c10, rfl, ho9, hT10, hk9, hf9⟩
              have hbz := Lib.hid (blw_kp (HB0.out.trans ((HB4.out.mono s00).trans (Hb.out.mono (by omega)))) (k10.to.trans (F := fun k => k = w0.heap.size) hk9 (fun _ _ h => h)) (by omega) (fun k h => by omega))
              clear ho9 hT10 hk9 hf9 k10 d0 d1 d2
              go_wp2
              go_ret
              exact ⟨ret_bool (decide_eq_true (by omega)), hbz.out⟩

set_option maxRecDepth 100000 in
set_option maxHeartbeats 1000000 in
theorem drops_long (A : Option Addr) (n c : Nat) (q : Int) (w : World) (hn : n ≤ maxLen) (hl : 30 < n) :
    Calls Try.prog 3 #[.slice A n c, .int .u8 q] w fun e w' => e = .returned (.bool true) ∧ Below w.heap.size w w' := by
  unfold maxLen at hn
  go_enter Try.func3, Try.ntmps3
  go_wp2_with fail
  refine (known11 w).mono ?_
  rintro e w0 ⟨rfl, hb0⟩
  have HB0 := Lib.hid hb0
  clear hb0
  go_wp2_with fail
  go_ret
  exact ⟨rfl, HB0.out⟩
end Go.Proofs.Ythaoplcmkaaflaa
