import Derived.Test.YthaoplcmkaaflaaFairP
namespace Go.Proofs.Ythaoplcmkaaflaa
open Go.RowKit

theorem fair_long (a : Int) (A : Option Addr) (n c : Nat) (w : World) (_ : 0 ≤ a ∧ a < 256) (hn : 40 < n) (hm : n ≤ maxLen) :
    Calls Try.prog 6 #[.int .u8 a, .slice A n c] w fun e w' => e = .returned (.bool true) ∧ Below w.heap.size w w' := by
  unfold maxLen at hm
  go_enter Try.func6, Try.ntmps6
  go_wp2_with fail
  refine (known18 w).mono ?_
  rintro e w0 ⟨rfl, hb0⟩
  go_wp2
  go_ret
  exact ⟨rfl, hb0⟩

set_option maxRecDepth 100000 in
set_option maxHeartbeats 8000000 in
theorem fair_walk (a : Int) (A : Option Addr) (c : Nat) (ss : List Int) (K : Nat) (w : World) (ha : 0 ≤ a ∧ a < 256) (hK : a % 10 + 1 = (K : Int)) (hl : ss.length ≤ 40) (hr : Rd w 1 A ss.length (ss.map (.int .u16))) :
    Calls Try.prog 6 #[.int .u8 a, .slice A ss.length c] w fun e w' => e = .returned (.bool true) ∧ Below w.heap.size w w' := by
  have hK1 : 1 ≤ K ∧ K ≤ 10 := by omega
  have Hr := Lib.hid hr
  have HK := Lib.hid hK
  clear hr hK
  go_enter Try.func6, Try.ntmps6
  go_wp2_with fail
  refine (known18 w).mono ?_
  rintro e w0 ⟨rfl, hb0⟩
  have Hr0 := Lib.hid (Hr.out.below hb0)
  have HB0 := Lib.hid hb0
  have s00 := hb0.size
  clear hb0 Hr
  go_wp2_with fail
  refine (guNew w0).mono ?_
  rintro e w1 ⟨rfl, hT1, hb1, hs1⟩
  have G1 : Hid (GuW w0 w1 none 0 (Lk 0) 0) := ⟨hT1, hb1⟩
  clear hT1 hb1 hs1
  go_wp2_with fail
  rw [HK.out]
  go_loopg [7] (K) (fun g i wr => ∃ (k : Nat) (A1 : Option Addr) (c1 : Nat), k + g = K ∧ i = .int .i64 k ∧ GuW w0 wr A1 c1 (Lk k) 0)
  case atStart => exact ⟨0, none, 0, by omega, rfl, G1.out⟩
  case round =>
    obtain ⟨k, A1, c1, hk, rfl, hG⟩ := hrel
    have Hk := Lib.hid hk
    have HG := Lib.hid hG
    clear hk hG
    by_cases hlt : k < K
    · go_wp2_with fail
      refine (guAdd _ _ A1 c1 (Lk k) 0 (gOf k) wr (by rw [Lk_len]; omega) HG.out.g).mono ?_
      rw [Lk_add]
      rintro e w2 ⟨A2, c2, rfl, hT2, hk2, hf2⟩
      have G2 := Lib.hid (HG.out.step hT2 hk2)
      clear hT2 hk2 hf2 HG
      go_wp2_with fail
      go_roundg (K - (k + 1))
      case measure => have := Hk.out; omega
      case rel => exact ⟨k + 1, A2, c2, by omega, by go_num, G2.out⟩
    · obtain rfl : k = K := by have := Hk.out; omega
      clear G1 Hk
      go_wp2_with fail
      have ht0 : 0 < k := by omega
      go_loopg [8] (ss.length) (fun g i wr => ∃ (z t : Nat), z + g = ss.length ∧ i = .int .i64 z ∧ t < k ∧ GuW w0 wr A1 c1 (Lk k) t)
      case atStart => exact ⟨0, 0, by omega, rfl, ht0, HG.out⟩
      case round =>
        obtain ⟨z, t, hz, rfl, htk, hG1⟩ := hrel
        have Hz := Lib.hid hz
        have HG1 := Lib.hid hG1
        clear hz hG1
        by_cases hlz : z < ss.length
        · have hrz := Hr0.out.below HG1.out.b
          obtain ⟨b, off, rfl, hc⟩ := hrz.2 (by omega)
          have g0 : wr.cell? ⟨b, off + z, none⟩ = some (.int .u16 ss[z]) := hc z _ (by simp [hlz])
          have hbw := World.block_lt_of_cell? wr _ g0
          generalize ss[z] = x at *
          clear hc hrz
          obtain ⟨wo, hwo⟩ : ∃ wo : World, wo = wr := ⟨_, rfl⟩
          subst hwo
          go_wp2_with (at_make; refine wpList_make1 _ rfl _ _ 62 rfl 4 (.bool false) 1 Try.underlying62 info_bool .i64 .i64 _ _ k rfl rfl ?l1 ?l2 ?l3 ?l4 ?kk1)
          case l1 => rfl
          case l2 => rfl
          case l3 => omega
          case l4 => unfold maxLen; omega
          have e : madeCells #[Value.bool false] k = bArr k (fun j => if j < 0 then bt x j else false) := bArr_made k
          rw [e]
          clear e
          have n2 : Blk (wo.alloc (Obj.cells (bArr k (fun j => if j < 0 then bt x j else false)) 4)) wo.heap.size 4 (bArr k (fun j => if j < 0 then bt x j else false)) := Blk.new _ _ _
          have G2 := Lib.hid (HG1.out.kn ((Kp.refl None' wo).alloc (Obj.cells (bArr k (fun j => if j < 0 then bt x j else false)) 4)))
          have c2 : (wo.alloc (Obj.cells (bArr k (fun j => if j < 0 then bt x j else false)) 4)).cell? ⟨b, off + z, none⟩ = some (.int .u16 x) := ((Kp.refl None' wo).alloc _).cell g0 id
          generalize wo.alloc (Obj.cells (bArr k (fun j => if j < 0 then bt x j else false)) 4) = w2 at *
          have N2 := Lib.hid n2
          have hw0 : w0.heap.size < wo.heap.size := HG1.out.g.blk.lt
          have hA1 := Lib.hid (fun j (h : FA A1 j) => (own_fa HG1.out.g.own h).2)
          clear g0 n2
          have HC2 := Lib.hid c2
          clear c2 HG1
          go_loopg [10, 11] (k) (fun g an i wt => ∃ (j : Nat), j + g = k ∧ i = .int .i64 j ∧ an = .bool ((List.range j).any (bt x)) ∧ Blk wt wo.heap.size 4 (bArr k (fun i => if i < j then bt x i else false)) ∧ Kp (fun i => i = wo.heap.size) w2 wt)
          case atStart => exact ⟨0, by omega, rfl, rfl, N2.out, Kp.refl _ _⟩
          case round =>
            obtain ⟨j, hj, rfl, rfl, hB, hk3⟩ := hrel
            have Hj := Lib.hid hj
            clear hj
            by_cases hjk : j < k
            · have c3 := hB.bget hjk
              have f3 := hB.frozen j
              have HB3 := Lib.hid hB
              have HK3 := Lib.hid hk3
              have c4 : wr.cell? ⟨b, off + z, none⟩ = some (.int .u16 x) := hk3.cell HC2.out (fun e => by dsimp only at e; omega)
              clear hB hk3
              have HAN : Hid ((List.range (j + 1)).any (bt x) = ((List.range j).any (bt x) || bt x j)) := any_succ (bt x) j
              generalize (List.range j).any (bt x) = an at *
              have HB4 : Hid (Blk (wr.setCell ⟨wo.heap.size, j, none⟩ (.bool (bits .and .u16 (x / 2 ^ j) 1 == 1))) wo.heap.size 4 (bArr k (fun i => if i < j + 1 then bt x i else false))) := by
                have := HB3.out.bset j (bits .and .u16 (x / 2 ^ j) 1 == 1)
                unfold Hid
                rw [← bArr_upto]
                exact this
              have HK4 : Hid (Kp (fun i => i = wo.heap.size) w2 (wr.setCell ⟨wo.heap.size, j, none⟩ (.bool (bits .and .u16 (x / 2 ^ j) 1 == 1)))) := HK3.out.setCell (fun _ => rfl) _
              clear HB3 HK3
              cases an
              all_goals
                go_wp2_with fail
                go_roundg (k - (j + 1))
                case measure => have := Hj.out; omega
                case rel => exact ⟨j + 1, by omega, by go_num, by rw [HAN.out]; simp [bt], HB4.out, HK4.out⟩
            · obtain rfl : j = k := by have := Hj.out; omega
              have hB2 : Blk wr wo.heap.size 4 (bArr j (bt x)) := bArr_lt hB
              have G3 := Lib.hid ((G2.out.g.kp hk3 (by omega) (fun i h e => by have := hA1.out i h; omega)))
              have GB3 := Lib.hid (blw_kp G2.out.b hk3 G2.out.b.size (fun i e => by omega))
              have G4 : Hid (GuW w0 wr A1 c1 (Lk j) t) := ⟨G3.out, GB3.out⟩
              have HB2 := Lib.hid hB2
              clear hB hk3 hB2 G3 GB3 G2 N2 HC2 hA1 Hj
              go_wp2_with fail
              have hgp := guPick w0.heap.size w0.heap.size (some ⟨wo.heap.size, 0, none⟩) j ((List.range j).map (bt x)) A1 c1 (Lk j) t wr (by rw [Lk_len]; omega) (.inl (by rw [Lk_len]; exact htk)) (by simp; unfold maxLen; omega) (by rw [List.length_map, List.length_range]; exact bArr_rd HB2.out) G4.out.g
              rw [List.length_map, List.length_range] at hgp
              refine hgp.mono ?_
              clear hgp
              have HANY : Hid ((List.range j).any (bt x) = (List.range j).any (bt x)) := rfl
              rcases fair_pick (t := t) ht0 (bt x) with ⟨i, hi, hbi, hpk, hany⟩ | ⟨hpk, hany⟩
              · rw [hpk, hany]
                rintro e w3 ⟨rfl, hT3, hk3⟩
                have G5 := Lib.hid (G4.out.step hT3 (hk3.mono (fun _ _ h => .inl h)))
                have hB3 := HB2.out.kp hk3 (fun e => by omega)
                have n3 : Blk (w3.alloc (Obj.cells #[Value.int .i64 (i : Int), Value.int .i64 0, Value.string ⟨#[]⟩, Value.int .i64 0, Value.bool false, Value.bool false] 61)) w3.heap.size 61 #[Value.int .i64 (i : Int), Value.int .i64 0, Value.string ⟨#[]⟩, Value.int .i64 0, Value.bool false, Value.bool false] := Blk.new _ _ _
                have k4 := (Kp.refl None' w3).alloc (Obj.cells #[Value.int .i64 (i : Int), Value.int .i64 0, Value.string ⟨#[]⟩, Value.int .i64 0, Value.bool false, Value.bool false] 61)
                have G6 := Lib.hid (G5.out.kn k4)
                have hB4 := hB3.kp k4 id
                have q0 := hB4.bget hi
                rw [hbi] at q0
                clear hT3 hk3 hB3 hB4 G5 G4 HB2 hpk hany HANY k4 n3 hbi
                dsimp only [gOf, Gu.v]
                have htk' : (i + 1) % j < j := Nat.mod_lt _ ht0
                go_wp2_with fail
                go_roundg (ss.length - (z + 1))
                case measure => have := Hz.out; omega
                case rel => exact ⟨z + 1, (i + 1) % j, by omega, by go_num, htk', G6.out⟩
              · rw [hpk, hany]
                rintro e w3 ⟨rfl, hT3, hk3⟩
                have G5 := Lib.hid (G4.out.step hT3 (hk3.mono (fun _ _ h => .inl h)))
                have k4 := (Kp.refl None' w3).alloc (Obj.cells #[Value.int .i64 0, Value.int .i64 0, Value.string ⟨#[]⟩, Value.int .i64 0, Value.bool false, Value.bool false] 61)
                have G6 := Lib.hid (G5.out.kn k4)
                clear hT3 hk3 G5 G4 HB2 hpk hany HANY k4
                dsimp only [gu0, Gu.v]
                go_wp2_with fail
                go_roundg (ss.length - (z + 1))
                case measure => have := Hz.out; omega
                case rel => exact ⟨z + 1, t, by omega, by go_num, htk, G6.out⟩
        · clear Hz Hr0 HK
          have HG2 := HG1
          clear HG1
          go_wp2_with (at_make; refine wpList_make1 _ rfl _ _ 62 rfl 4 (.bool false) 1 Try.underlying62 info_bool .i64 .i64 _ _ k rfl rfl ?l5 ?l6 ?l7 ?l8 ?kk2)
          case l5 => rfl
          case l6 => rfl
          case l7 => omega
          case l8 => unfold maxLen; omega
          have e : madeCells #[Value.bool false] k = bArr k (fun j => decide (j < 0)) := by rw [bArr_made]; simp
          rw [e]
          clear e
          have n2 : Blk (wr.alloc (Obj.cells (bArr k (fun j => decide (j < 0))) 4)) wr.heap.size 4 (bArr k (fun j => decide (j < 0))) := Blk.new _ _ _
          have G2 := Lib.hid (HG2.out.kn ((Kp.refl None' wr).alloc (Obj.cells (bArr k (fun j => decide (j < 0))) 4)))
          have hs2 : (wr.alloc (Obj.cells (bArr k (fun j => decide (j < 0))) 4)).heap.size = wr.heap.size + 1 := by simp
          have hw0 : w0.heap.size < wr.heap.size := HG2.out.g.blk.lt
          have hA1 := Lib.hid (fun j (h : FA A1 j) => (own_fa HG2.out.g.own h).2)
          generalize wr.alloc (Obj.cells (bArr k (fun j => decide (j < 0))) 4) = w2 at *
          obtain ⟨wo, hwo⟩ : ∃ wo : World, wo = wr := ⟨_, rfl⟩
          subst hwo
          have N2 := Lib.hid n2
          have Hs2 := Lib.hid hs2
          clear hs2
          clear n2 HG2
          go_loopg [15] (k) (fun g i wt => ∃ (j : Nat), j + g = k ∧ i = .int .i64 j ∧ Blk wt wo.heap.size 4 (bArr k (fun i => decide (i < j))) ∧ Kp (fun i => i = wo.heap.size) w2 wt)
          case atStart => exact ⟨0, by omega, rfl, N2.out, Kp.refl _ _⟩
          case round =>
            obtain ⟨j, hj, rfl, hB, hk3⟩ := hrel
            have Hj := Lib.hid hj
            clear hj
            by_cases hjk : j < k
            · have c3 := hB.bget hjk
              have f3 := hB.frozen j
              have HB4 : Hid (Blk (wr.setCell ⟨wo.heap.size, j, none⟩ (.bool true)) wo.heap.size 4 (bArr k (fun i => decide (i < j + 1)))) := by
                have := hB.bset j true
                unfold Hid
                have e : (fun i => if i = j then true else decide (i < j)) = fun i => decide (i < j + 1) := by
                  funext i
                  by_cases h : i = j
                  · subst h; simp
                  · rw [if_neg h]; congr 1; apply propext; omega
                rw [← e]
                exact this
              have HK4 : Hid (Kp (fun i => i = wo.heap.size) w2 (wr.setCell ⟨wo.heap.size, j, none⟩ (.bool true))) := hk3.setCell (fun _ => rfl) _
              clear hB hk3
              go_wp2_with fail
              go_roundg (k - (j + 1))
              case measure => have := Hj.out; omega
              case rel => exact ⟨j + 1, by omega, by go_num, HB4.out, HK4.out⟩
            · obtain rfl : j = k := by have := Hj.out; omega
              have hB2 : Blk wr wo.heap.size 4 (bArr j (fun _ => true)) := by
                refine bArr_lt (f := fun _ => true) (h := fun _ => false) ?_
                have e : (fun i => if i < j then true else false) = fun i => decide (i < j) := by funext i; by_cases h : i < j <;> simp [h]
                rw [e]
                exact hB
              have G3 := Lib.hid ((G2.out.g.kp hk3 (by omega) (fun i h e => by have := hA1.out i h; omega)))
              have GB3 := Lib.hid (blw_kp G2.out.b hk3 G2.out.b.size (fun i e => by omega))
              have G4 : Hid (GuW w0 wr A1 c1 (Lk j) t) := ⟨G3.out, GB3.out⟩
              have HB2 := Lib.hid hB2
              have hsz := Lib.hid hk3.size
              clear hB hk3 hB2 G3 GB3 G2 N2 hA1 Hj
              go_wp2_with (at_make; refine wpList_make1 _ rfl _ _ 62 rfl 4 (.bool false) 1 Try.underlying62 info_bool .i64 .i64 _ _ j rfl rfl ?m5 ?m6 ?m7 ?m8 ?kk3)
              case m5 => rfl
              case m6 => rfl
              case m7 => omega
              case m8 => unfold maxLen; omega
              have e : madeCells #[Value.bool false] j = bArr j (metF j t 0) := bArr_made j
              rw [e]
              clear e
              have n2 : Blk (wr.alloc (Obj.cells (bArr j (metF j t 0)) 4)) wr.heap.size 4 (bArr j (metF j t 0)) := Blk.new _ _ _
              have ka := (Kp.refl None' wr).alloc (Obj.cells (bArr j (metF j t 0)) 4)
              have G5 := Lib.hid (G4.out.kn ka)
              have HB5 := Lib.hid (HB2.out.kp ka id)
              have hso : wo.heap.size < wr.heap.size := HB2.out.lt
              have hA1 := Lib.hid (fun j (h : FA A1 j) => (own_fa G4.out.g.own h).2)
              generalize wr.alloc (Obj.cells (bArr j (metF j t 0)) 4) = w3 at *
              obtain ⟨wp, hwp⟩ : ∃ wo : World, wo = wr := ⟨_, rfl⟩
              subst hwp
              have N2 := Lib.hid n2
              clear n2 G4 HB2 hsz ka
              go_loopg [17] (j) (fun g i wt => ∃ (z : Nat), z + g = j ∧ i = .int .i64 z ∧ Blk wt wp.heap.size 4 (bArr j (metF j t z)) ∧ Blk wt wo.heap.size 4 (bArr j (fun _ => true)) ∧ GuW w0 wt A1 c1 (Lk j) ((t + z) % j))
              case atStart => exact ⟨0, by omega, rfl, N2.out, HB5.out, by rw [Nat.add_zero, Nat.mod_eq_of_lt htk]; exact G5.out⟩
              case round =>
                obtain ⟨y, hy, rfl, hB, hBa, hG6⟩ := hrel
                have Hy := Lib.hid hy
                have HB := Lib.hid hB
                have HBa := Lib.hid hBa
                have HG6 := Lib.hid hG6
                clear hy hB hBa hG6
                by_cases hyj : y < j
                · have htj : (t + y) % j < j := Nat.mod_lt _ ht0
                  have HNEW := Lib.hid (metF_new (t := t) hyj)
                  have HSUC := Lib.hid (metF_succ j t y)
                  have HMOD : Hid (((t + y) % j + 1) % j = (t + (y + 1)) % j) := by unfold Hid; rw [Nat.add_mod, Nat.mod_mod, ← Nat.add_mod]; rfl
                  have HP := Lib.hid (fair_all htj)
                  go_wp2_with fail
                  have hgp := guPick w0.heap.size w0.heap.size (some ⟨wo.heap.size, 0, none⟩) j ((List.range j).map (fun _ => true)) A1 c1 (Lk j) ((t + y) % j) wr (by rw [Lk_len]; omega) (.inl (by rw [Lk_len]; exact htj)) (by simp; unfold maxLen; omega) (by rw [List.length_map, List.length_range]; exact bArr_rd HBa.out) HG6.out.g
                  rw [List.length_map, List.length_range, HP.out] at hgp
                  dsimp only at hgp
                  rw [HMOD.out] at hgp
                  refine hgp.mono ?_
                  clear hgp
                  generalize (t + y) % j = v at *
                  rintro e w4 ⟨rfl, hT4, hk4⟩
                  have hwt : w0.heap.size < wp.heap.size := by omega
                  have G7 := Lib.hid (HG6.out.step hT4 (hk4.mono (fun _ _ h => .inl h)))
                  have k5 := (Kp.refl None' w4).alloc (Obj.cells #[Value.int .i64 (v : Int), Value.int .i64 0, Value.string ⟨#[]⟩, Value.int .i64 0, Value.bool false, Value.bool false] 61)
                  have hB4 := (HB.out.kp hk4 (by omega)).kp k5 id
                  have hBa4 := (HBa.out.kp hk4 (by omega)).kp k5 id
                  have G8 := Lib.hid (G7.out.kn k5)
                  have q0 := hB4.bget htj
                  rw [HNEW.out] at q0
                  have f0 := hB4.frozen v
                  have N4 : Hid (Blk ((w4.alloc (Obj.cells #[Value.int .i64 (v : Int), Value.int .i64 0, Value.string ⟨#[]⟩, Value.int .i64 0, Value.bool false, Value.bool false] 61)).setCell ⟨wp.heap.size, v, none⟩ (.bool true)) wp.heap.size 4 (bArr j (metF j t (y + 1)))) := by
                    have := hB4.bset v true
                    unfold Hid
                    rw [← HSUC.out]
                    exact this
                  have hk6 := Kp.set1 (w := w4.alloc (Obj.cells #[Value.int .i64 (v : Int), Value.int .i64 0, Value.string ⟨#[]⟩, Value.int .i64 0, Value.bool false, Value.bool false] 61)) wp.heap.size v (.bool true)
                  have N5 := Lib.hid (hBa4.kp hk6 (by omega))
                  have N6 : Hid (GuW w0 ((w4.alloc (Obj.cells #[Value.int .i64 (v : Int), Value.int .i64 0, Value.string ⟨#[]⟩, Value.int .i64 0, Value.bool false, Value.bool false] 61)).setCell ⟨wp.heap.size, v, none⟩ (.bool true)) A1 c1 (Lk j) ((t + (y + 1)) % j)) :=
                    ⟨G8.out.g.kp hk6 (by omega) (fun i h e => by have := hA1.out i h; omega), blw_kp G8.out.b hk6 G8.out.b.size (fun i e => by omega)⟩
                  clear hk4 hT4 hB4 hBa4 hk6 k5 G7 G8 HB HBa HG6
                  dsimp only [gOf, Gu.v]
                  go_wp2_with fail
                  go_roundg (j - (y + 1))
                  case measure => have := Hy.out; omega
                  case rel => exact ⟨y + 1, by omega, by go_num, N4.out, N5.out, N6.out⟩
                · go_wp2_with fail
                  go_ret
                  exact ⟨rfl, HB0.out.trans (HG6.out.b.mono s00)⟩
theorem fair (a : Int) (A : Option Addr) (n c : Nat) (ss : List Int) (w : World) (ha : 0 ≤ a ∧ a < 256) (hn : ss.length = n) (hm : n ≤ maxLen) (hr : Rd w 1 A n (ss.map (.int .u16))) :
    Calls Try.prog 6 #[.int .u8 a, .slice A n c] w fun e w' => e = .returned (.bool true) ∧ Below w.heap.size w w' := by
  by_cases h : n ≤ 40
  · subst hn
    obtain ⟨K, hK⟩ : ∃ K : Nat, a % 10 + 1 = (K : Int) := ⟨(a % 10 + 1).toNat, by omega⟩
    exact fair_walk a A c ss K w ha hK h hr
  · exact fair_long a A n c w ha (by omega) hm
end Go.Proofs.Ythaoplcmkaaflaa
