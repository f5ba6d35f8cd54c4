import Derived.Test.YthaoplcmkaaflaaGPlaysP
namespace Go.Proofs.Ythaoplcmkaaflaa
open Go.RowKit

/-- a step as data: what, whom, and the slice of who has spare -/
structure St where
  op : Int
  x : Gu
  S : Option Addr
  n : Nat
  c : Nat
def St.cs (s : St) : List Value := .int .i64 s.op :: (s.x.cs ++ [.slice s.S s.n s.c])
theorem St.cs_len (s : St) : s.cs.length = 8 := rfl
def St8 (l : List St) : List Value := l.flatMap St.cs
theorem St8_get (l : List St) (i j : Nat) (h : i < l.length) (hj : j < 8) : (St8 l)[i * 8 + j]? = l[i].cs[j]? := flat_get 8 St.cs St.cs_len l i j h hj

theorem gplays_long (A : Option Addr) (n c : Nat) (w : World) (hn : 80 < n) (hm : n ≤ maxLen) :
    Calls Try.prog 5 #[.slice A n c] w fun e w' => e = .returned (.bool true) ∧ Below w.heap.size w w' := by
  unfold maxLen at hm
  go_enter Try.func5, Try.ntmps5
  go_wp2_with fail
  refine (known18 w).mono ?_
  rintro e w0 ⟨rfl, hb0⟩
  go_wp2
  go_ret
  exact ⟨rfl, hb0⟩

set_option maxRecDepth 100000 in
set_option maxHeartbeats 8000000 in
theorem gplays_walk (A : Option Addr) (c : Nat) (ss : List St) (w : World) (hl : ss.length ≤ 80) (hr : Rd w 8 A ss.length (St8 ss)) (hsp : ∀ s ∈ ss, ∃ sp : List Bool, sp.length = s.n ∧ s.n ≤ maxLen ∧ Rd w 1 s.S s.n (sp.map .bool)) :
    Calls Try.prog 5 #[.slice A ss.length c] w fun e w' => e = .returned (.bool true) ∧ Below w.heap.size w w' := by
  have Hr := Lib.hid hr
  have Hsp := Lib.hid hsp
  clear hr hsp
  go_enter Try.func5, Try.ntmps5
  go_wp2_with fail
  refine (known18 w).mono ?_
  rintro e w0 ⟨rfl, hb0⟩
  have Hr0 := Lib.hid (Hr.out.below hb0)
  have HSP0 := Lib.hid (fun s hs => (let ⟨sp, h1, h2, h3⟩ := Hsp.out s hs; ⟨sp, h1, h2, h3.below hb0⟩ : ∃ sp : List Bool, sp.length = s.n ∧ s.n ≤ maxLen ∧ Rd w0 1 s.S s.n (sp.map .bool)))
  have HB0 := Lib.hid hb0
  clear hb0 Hr Hsp
  go_wp2_with fail
  refine (guNew w0).mono ?_
  rintro e w1 ⟨rfl, hT1, hb1, hs1⟩
  have HT1 := Lib.hid hT1
  have HB1 := Lib.hid hb1
  have HS1 := Lib.hid hs1
  clear hT1 hb1 hs1
  go_wp2_with fail
  have n2 : Blk (w1.alloc (Obj.cells #[Value.slice none 0 0, Value.int .i64 0] 59)) w1.heap.size 59 #[.slice none 0 0, .int .i64 0] := Blk.new _ _ _
  have k2 : Below w1.heap.size w1 (w1.alloc (Obj.cells #[Value.slice none 0 0, Value.int .i64 0] 59)) := (Below.refl _ _).alloc (Nat.le_refl _) _
  have hs2 : (w1.alloc (Obj.cells #[Value.slice none 0 0, Value.int .i64 0] 59)).heap.size = w1.heap.size + 1 := by simp
  generalize w1.alloc (Obj.cells #[Value.slice none 0 0, Value.int .i64 0] 59) = w2 at *
  have s01 := HB1.out.size
  have s00 := HB0.out.size
  have hp1 : w0.heap.size < w1.heap.size := by have := HS1.out; omega
  have HBO : Hid (BothG w0 w2 w0.heap.size w1.heap.size none 0 none 0 [] [] ((0 : Nat) : Int) ((0 : Nat) : Int)) := ⟨HT1.out.kn (Kp.of_below k2), ⟨n2, World.ownsRow_nil .., by omega⟩, fun j h => absurd h (FA_none j), fun j h => absurd h (FA_none j), fun j h => absurd h (FA_none j), blw_trans HB1.out k2 HB1.out.size, hp1⟩
  clear k2 n2 HT1 HB1
  go_loopg [5] (ss.length) (fun g i wr => ∃ (k : Nat) (l : List Gu) (t : Nat) (A1 : Option Addr) (c1 : Nat) (A2 : Option Addr) (c2 : Nat), k + g = ss.length ∧ i = .int .i64 k ∧ l.length ≤ k ∧ Turn l t ∧ BothG w0 wr w0.heap.size w1.heap.size A1 c1 A2 c2 l l t t)
  case atStart => exact ⟨0, [], 0, none, 0, none, 0, by omega, rfl, by simp, .inr rfl, HBO.out⟩
  case round =>
    obtain ⟨k, l, t, A1, c1, A2, c2, hk, rfl, hlk, htn, hbo⟩ := hrel
    have hsz := hbo.blw.size
    have h2lt := hbo.ref.blk.lt
    have HR3 := Lib.hid (Hr0.out.below hbo.blw)
    have HBL := Lib.hid hbo.blw
    have Hk := Lib.hid hk
    have Hbo := Lib.hid hbo
    have Htn := Lib.hid htn
    clear hk hbo htn
    by_cases hlt : k < ss.length
    · obtain ⟨b, off, rfl, hc⟩ := HR3.out.2 (by omega)
      obtain ⟨sp, HSP⟩ : ∃ sp : List Bool, Hid (sp.length = ss[k].n ∧ ss[k].n ≤ maxLen ∧ Rd w0 1 ss[k].S ss[k].n (sp.map .bool)) := HSP0.out ss[k] (List.getElem_mem hlt)
      have e := fun j (hj : j < 8) => St8_get ss k j hlt hj
      generalize ss[k] = st at *
      obtain ⟨op, ⟨y1, y2, y3, y4, y5, y6⟩, S, n, cs⟩ := st
      dsimp only at HSP
      have g0 : wr.cell? ⟨b, off + k * 8, none⟩ = some (.int .i64 op) := hc (k * 8 + 0) _ (e 0 (by decide))
      have g1 : wr.cell? ⟨b, off + k * 8 + 1, none⟩ = some (.int .i64 y1) := hc (k * 8 + 1) _ (e 1 (by decide))
      have g2 : wr.cell? ⟨b, off + k * 8 + 2, none⟩ = some (.int .i64 y2) := hc (k * 8 + 2) _ (e 2 (by decide))
      have g3 : wr.cell? ⟨b, off + k * 8 + 3, none⟩ = some (.string y3) := hc (k * 8 + 3) _ (e 3 (by decide))
      have g4 : wr.cell? ⟨b, off + k * 8 + 4, none⟩ = some (.int .i64 y4) := hc (k * 8 + 4) _ (e 4 (by decide))
      have g5 : wr.cell? ⟨b, off + k * 8 + 5, none⟩ = some (.bool y5) := hc (k * 8 + 5) _ (e 5 (by decide))
      have g6 : wr.cell? ⟨b, off + k * 8 + 6, none⟩ = some (.bool y6) := hc (k * 8 + 6) _ (e 6 (by decide))
      have g7 : wr.cell? ⟨b, off + k * 8 + 7, none⟩ = some (.slice S n cs) := hc (k * 8 + 7) _ (e 7 (by decide))
      clear hc e
      by_cases h3 : op ≤ 3
      · have h3' := h3
        go_wp2_with fail
        have n3 : Blk (wr.alloc (Obj.cells #[Value.int .i64 op, Value.int .i64 y1, Value.int .i64 y2, Value.string y3, Value.int .i64 y4, Value.bool y5, Value.bool y6, Value.slice S n cs] 64)) wr.heap.size 64 #[Value.int .i64 op, Value.int .i64 y1, Value.int .i64 y2, Value.string y3, Value.int .i64 y4, Value.bool y5, Value.bool y6, Value.slice S n cs] := Blk.new _ _ _
        have k3 := (Kp.refl None' wr).alloc (Obj.cells #[Value.int .i64 op, Value.int .i64 y1, Value.int .i64 y2, Value.string y3, Value.int .i64 y4, Value.bool y5, Value.bool y6, Value.slice S n cs] 64)
        generalize wr.alloc (Obj.cells #[Value.int .i64 op, Value.int .i64 y1, Value.int .i64 y2, Value.string y3, Value.int .i64 y4, Value.bool y5, Value.bool y6, Value.slice S n cs] 64) = w3 at *
        have hne : ¬ FA A1 wr.heap.size := fun h => by have := (own_fa Hbo.out.tab.own h).2; omega
        have HB3 := Lib.hid (Hbo.out.kp k3)
        clear g0 g1 g2 g3 g4 g5 g6 g7 k3 HSP
        obtain ⟨F, hF⟩ : ∃ F : Nat → Prop, F = fun k => (k = w0.heap.size ∨ FA A1 k) ∨ k = w1.heap.size := ⟨_, rfl⟩
        have hnF : ¬ F wr.heap.size := by rw [hF]; exact fun h => h.elim (fun h => h.elim (fun e => by omega) hne) (fun e => by omega)
        have z1 : ∀ z : Wd F w3, z.w.cell? ⟨wr.heap.size, 1, none⟩ = some (.int .i64 y1) := fun z => z.cell (n3.cell 1) hnF
        have z2 : ∀ z : Wd F w3, z.w.cell? ⟨wr.heap.size, 2, none⟩ = some (.int .i64 y2) := fun z => z.cell (n3.cell 2) hnF
        have z3 : ∀ z : Wd F w3, z.w.cell? ⟨wr.heap.size, 3, none⟩ = some (.string y3) := fun z => z.cell (n3.cell 3) hnF
        have z4 : ∀ z : Wd F w3, z.w.cell? ⟨wr.heap.size, 4, none⟩ = some (.int .i64 y4) := fun z => z.cell (n3.cell 4) hnF
        have z5 : ∀ z : Wd F w3, z.w.cell? ⟨wr.heap.size, 5, none⟩ = some (.bool y5) := fun z => z.cell (n3.cell 5) hnF
        have z6 : ∀ z : Wd F w3, z.w.cell? ⟨wr.heap.size, 6, none⟩ = some (.bool y6) := fun z => z.cell (n3.cell 6) hnF
        have HFF := Lib.hid hF
        clear n3 hF hne
        refine wp_region_ord (.mov 0 (.mov 1 (.mov 2 (.mov 4 (.mov 5 (.mov 6 (.eff 3 (.eff 7 (.mov 8 (.mov 9 .fin)))))))))) ?_ ?_ ?_ ?_
        · kernel_rfl
        · kernel_rfl
        · exact fun _ _ _ _ h => h
        iterate 2 (refine ord_pure rfl rfl ?_; go_big_quiet_step (fail); refine wpQuiet_nil ?_)
        iterate 1 (refine ord_mov (fun w' => ∃ z : Wd F w3, w' = z.w) (Wd.of ((Kp.refl _ _).drew)) rfl rfl ?_; go_big_quiet_step (fail); refine wpQuiet_nil ?_)
        iterate 2 (refine ord_pure rfl rfl ?_; go_big_quiet_step (fail); refine wpQuiet_nil ?_)
        iterate 1 (refine ord_mov (fun w' => ∃ z : Wd F w3, w' = z.w) (Wd.of ((Kp.refl _ _).drew)) rfl rfl ?_; go_big_quiet_step (fail); refine wpQuiet_nil ?_)
        refine ord_keep (fun w' => ∃ z : Wd F w3, w' = z.w) rfl (by simp) (fun K hK => ?_)
        go_wp2_with fail
        refine (guAdd _ _ A1 c1 l t ⟨y1, y2, y3, y4, y5, y6⟩ w3.drew (by omega) (HB3.out.kp (Kp.refl None' w3).drew).tab).mono ?_
        rintro e w4 ⟨A3, c3, rfl, hT4, hk4, hf4⟩
        have hk3 : Kp F w3 w4 := (Kp.refl F w3).drew.trans hk4 (fun i _ h => by rw [HFF.out]; exact .inl h)
        have HB4 := Lib.hid ((HB3.out.kp (Kp.refl None' w3).drew).step1 hT4 hk4 hf4)
        have HK3 := Lib.hid hk3
        clear hk3 hT4 hk4 hf4 HB3
        go_wp2_with fail
        refine ⟨Wd.of HK3.out, ?_⟩
        refine ord_keep (fun w' => ∃ z : Wd F w3, w' = z.w) rfl (by simp) (fun K hK => ?_)
        go_wp2_with fail
        refine (rgAdd _ _ A2 c2 l t ⟨y1, y2, y3, y4, y5, y6⟩ w4 (by omega) HB4.out.ref).mono ?_
        rintro e w5 ⟨A4, c4, rfl, hT5, hk5, hf5⟩
        have hk3 : Kp F w3 w5 := HK3.out.trans hk5 (fun i _ h => by rw [HFF.out]; exact .inr h)
        have HB5 := Lib.hid (HB4.out.step2 hT5 hk5 hf5)
        have HK5 := Lib.hid hk3
        have hlk' : (guAddL l ⟨y1, y2, y3, y4, y5, y6⟩).length ≤ k + 1 := Nat.le_trans (len_add _ _) (by omega)
        have HTN := Lib.hid (turn_add Htn.out ⟨y1, y2, y3, y4, y5, y6⟩)
        clear hk3 hT5 hk5 hf5 HB4 HK3 hlk Htn
        generalize guAddL l ⟨y1, y2, y3, y4, y5, y6⟩ = l' at *
        go_wp2_with fail
        refine ⟨Wd.of HK5.out, ?_⟩
        clear z1 z2 z3 z4 z5 z6 HFF HK5
        iterate 2 (refine ord_pure rfl rfl ?_; go_big_quiet_step (fail); refine wpQuiet_nil ?_)
        refine ord_end ?_
        obtain ⟨t', ht'⟩ : ∃ t' : Nat, t' = t := ⟨t, rfl⟩
        subst ht'
        go_wp2_with fail
        have z0 : ∀ z : Wd None' w5, z.w.cell? ⟨w1.heap.size, 0, none⟩ = some (.slice A4 l'.length c4) := fun z => z.cell HB5.out.ref.row id
        refine wp_region_ord (.mov 0 (.mov 1 (.mov 2 (.mov 3 (.mov 5 (.mov 6 (.mov 7 (.mov 8 (.eff 4 (.eff 9 (.mov 10 (.mov 11 (.mov 12 (.mov 13 (.mov 15 (.mov 16 (.mov 17 (.mov 18 (.mov 19 (.eff 14 (.mov 20 (.mov 21 (.mov 22 (.mov 23 (.mov 25 (.eff 24 (.eff 26 (.mov 27 (.mov 28 .fin))))))))))))))))))))))))))))) ?_ ?_ ?_ ?_
        · kernel_rfl
        · kernel_rfl
        · exact fun _ _ _ _ h => h
        iterate 7 (refine ord_pure rfl rfl ?_; go_big_quiet_step (fail); refine wpQuiet_nil ?_)
        iterate 1 (refine ord_mov (fun w' => ∃ z : Wd None' w5, w' = z.w) (Wd.of ((Kp.refl _ _).drew)) rfl rfl ?_; go_big_quiet_step (fail); refine wpQuiet_nil ?_)
        refine ord_keep (fun w' => ∃ z : Wd None' w5, w' = z.w) rfl (by simp) (fun K hK => ?_)
        go_wp2_with fail
        refine (guAll _ _ A3 c3 l' t' w5.drew (by omega) (HB5.out.kp (Kp.refl None' w5).drew).tab).mono ?_
        rintro e w6 ⟨Aa, ca, rfl, hr6, hb6⟩
        have k6 : Kp None' w5 w6 := (Kp.refl None' w5).drew.trans (Kp.of_below (F := None') hb6) (fun _ _ h => h)
        have HB6 := Lib.hid (HB5.out.kp k6)
        have Hr6 := Lib.hid hr6
        have K6 := Lib.hid k6
        clear hr6 k6
        clear hb6 HB5
        go_wp2_with fail
        refine ⟨Wd.of K6.out, ?_⟩
        refine ord_sync rfl (by kernel_rfl) (fun K hK => ?_)
        go_wp2_with fail
        refine (sameGuests true Aa A4 ca c4 l' l' w6 (by omega) (by omega) Hr6.out (own_rd HB6.out.ref.own) (decide_eq_true rfl)).mono ?_
        rintro e w7 ⟨rfl, q, rfl⟩
        have HB7 := Lib.hid (HB6.out.kp ((Kp.refl None' w6).drewN q))
        clear z0 K6 Hr6 HB6
        generalize w6.drewN q = w7 at *
        go_wp2_with fail
        have z0 : ∀ z : Wd None' w7, z.w.cell? ⟨w1.heap.size, 0, none⟩ = some (.slice A4 l'.length c4) := fun z => z.cell HB7.out.ref.row id
        iterate 7 (refine ord_pure rfl rfl ?_; go_big_quiet_step (fail); refine wpQuiet_nil ?_)
        iterate 1 (refine ord_mov (fun w' => ∃ z : Wd None' w7, w' = z.w) (Wd.of (Kp.refl _ _)) rfl rfl ?_; go_big_quiet_step (fail); refine wpQuiet_nil ?_)
        iterate 1 (refine ord_pure rfl rfl ?_; go_big_quiet_step (fail); refine wpQuiet_nil ?_)
        refine ord_keep2 1 (fun w' => ∃ z : Wd None' w7, w' = z.w) rfl (by simp) (by kernel_rfl) (fun K hK => ?_)
        go_wp2_with fail
        refine (guLen _ _ A3 c3 l' t' w7 HB7.out.tab).mono ?_
        rintro e w8 ⟨rfl, rfl⟩
        go_wp2_with fail
        refine ⟨Wd.of (Kp.refl _ _), ?_⟩
        iterate 5 (refine ord_pure rfl rfl ?_; go_big_quiet_step (fail); refine wpQuiet_nil ?_)
        refine ord_sync rfl (by kernel_rfl) (fun K hK => ?_)
        go_wp2_with fail
        refine (guSole _ _ A3 c3 l' t' w8 (by omega) HB7.out.tab).mono ?_
        rintro e w9 ⟨rfl, hb8⟩
        have HB8 := Lib.hid (HB7.out.kp (Kp.of_below hb8))
        clear z0 hb8 HB7
        go_wp2_with fail
        refine ord_sync rfl (by kernel_rfl) (fun K hK => ?_)
        go_wp2_with fail
        refine (rgSole _ _ A4 c4 l' t' w9 (by omega) HB8.out.ref).mono ?_
        rintro e w10 ⟨rfl, rfl⟩
        generalize l'.any Gu.sole = so at *
        go_wp2_with fail
        iterate 2 (refine ord_pure rfl rfl ?_; go_big_quiet_step (fail); refine wpQuiet_nil ?_)
        refine ord_end ?_
        go_wp2_with fail
        go_roundg (ss.length - (k + 1))
        case measure => have := Hk.out; omega
        case rel => exact ⟨k + 1, l', t', A3, c3, A4, c4, by have := Hk.out; omega, by go_num, hlk', HTN.out, HB8.out⟩
      · by_cases h4 : op = 4
        · subst h4
          go_wp2_with fail
          have n3 : Blk (wr.alloc (Obj.cells #[Value.int .i64 4, Value.int .i64 y1, Value.int .i64 y2, Value.string y3, Value.int .i64 y4, Value.bool y5, Value.bool y6, Value.slice S n cs] 64)) wr.heap.size 64 #[Value.int .i64 4, Value.int .i64 y1, Value.int .i64 y2, Value.string y3, Value.int .i64 y4, Value.bool y5, Value.bool y6, Value.slice S n cs] := Blk.new _ _ _
          have k3 := (Kp.refl None' wr).alloc (Obj.cells #[Value.int .i64 4, Value.int .i64 y1, Value.int .i64 y2, Value.string y3, Value.int .i64 y4, Value.bool y5, Value.bool y6, Value.slice S n cs] 64)
          have hs3 : (wr.alloc (Obj.cells #[Value.int .i64 4, Value.int .i64 y1, Value.int .i64 y2, Value.string y3, Value.int .i64 y4, Value.bool y5, Value.bool y6, Value.slice S n cs] 64)).heap.size = wr.heap.size + 1 := by simp
          generalize wr.alloc (Obj.cells #[Value.int .i64 4, Value.int .i64 y1, Value.int .i64 y2, Value.string y3, Value.int .i64 y4, Value.bool y5, Value.bool y6, Value.slice S n cs] 64) = w3 at *
          have hne : ¬ FA A1 wr.heap.size := fun h => by have := (own_fa Hbo.out.tab.own h).2; omega
          have HB3 := Lib.hid (Hbo.out.kp k3)
          have Hs3 := Lib.hid hs3
          clear hs3
          clear g0 g1 g2 g3 g4 g5 g6 g7 k3 HSP
          obtain ⟨F, hF⟩ : ∃ F : Nat → Prop, F = fun k => (k = w0.heap.size ∨ FA A1 k) ∨ k = w1.heap.size := ⟨_, rfl⟩
          have hnF : ¬ F wr.heap.size := by rw [hF]; exact fun h => h.elim (fun h => h.elim (fun e => by omega) hne) (fun e => by omega)
          have z1 : ∀ z : Wd F w3, z.w.cell? ⟨wr.heap.size, 1, none⟩ = some (.int .i64 y1) := fun z => z.cell (n3.cell 1) hnF
          have z2 : ∀ z : Wd F w3, z.w.cell? ⟨wr.heap.size, 2, none⟩ = some (.int .i64 y2) := fun z => z.cell (n3.cell 2) hnF
          have z3 : ∀ z : Wd F w3, z.w.cell? ⟨wr.heap.size, 3, none⟩ = some (.string y3) := fun z => z.cell (n3.cell 3) hnF
          have HFF := Lib.hid hF
          clear n3 hF hne
          refine wp_region_ord (.mov 0 (.mov 1 (.mov 2 (.mov 3 (.mov 4 (.mov 5 (.mov 6 (.mov 7 (.mov 8 (.mov 9 (.mov 11 (.mov 12 (.mov 13 (.mov 14 (.mov 15 (.mov 16 (.mov 17 (.mov 18 (.mov 19 (.mov 20 (.eff 10 (.eff 21 (.mov 22 (.mov 23 .fin)))))))))))))))))))))))) ?_ ?_ ?_ ?_
          · kernel_rfl
          · kernel_rfl
          · exact fun _ _ _ _ h => h
          iterate 3 (refine ord_pure rfl rfl ?_; go_big_quiet_step (fail); refine wpQuiet_nil ?_)
          iterate 1 (refine ord_mov (fun w' => ∃ z : Wd F w3, w' = z.w) (Wd.of ((Kp.refl _ _).drew)) rfl rfl ?_; go_big_quiet_step (fail); refine wpQuiet_nil ?_)
          iterate 2 (refine ord_pure rfl rfl ?_; go_big_quiet_step (fail); refine wpQuiet_nil ?_)
          iterate 1 (refine ord_mov (fun w' => ∃ z : Wd F w3, w' = z.w) (Wd.of ((Kp.refl _ _).drew)) rfl rfl ?_; go_big_quiet_step (fail); refine wpQuiet_nil ?_)
          iterate 2 (refine ord_pure rfl rfl ?_; go_big_quiet_step (fail); refine wpQuiet_nil ?_)
          iterate 1 (refine ord_mov (fun w' => ∃ z : Wd F w3, w' = z.w) (Wd.of ((Kp.refl _ _).drew)) rfl rfl ?_; go_big_quiet_step (fail); refine wpQuiet_nil ?_)
          iterate 3 (refine ord_pure rfl rfl ?_; go_big_quiet_step (fail); refine wpQuiet_nil ?_)
          iterate 1 (refine ord_mov (fun w' => ∃ z : Wd F w3, w' = z.w) (Wd.of ((Kp.refl _ _).drew)) rfl rfl ?_; go_big_quiet_step (fail); refine wpQuiet_nil ?_)
          iterate 2 (refine ord_pure rfl rfl ?_; go_big_quiet_step (fail); refine wpQuiet_nil ?_)
          iterate 1 (refine ord_mov (fun w' => ∃ z : Wd F w3, w' = z.w) (Wd.of ((Kp.refl _ _).drew)) rfl rfl ?_; go_big_quiet_step (fail); refine wpQuiet_nil ?_)
          iterate 2 (refine ord_pure rfl rfl ?_; go_big_quiet_step (fail); refine wpQuiet_nil ?_)
          iterate 1 (refine ord_mov (fun w' => ∃ z : Wd F w3, w' = z.w) (Wd.of ((Kp.refl _ _).drew)) rfl rfl ?_; go_big_quiet_step (fail); refine wpQuiet_nil ?_)
          refine ord_keep (fun w' => ∃ z : Wd F w3, w' = z.w) rfl (by simp) (fun K hK => ?_)
          go_wp2_with fail
          have htl : t ≤ 1000 := by rcases Htn.out with h | h <;> omega
          refine (guDrop _ _ y1 y2 y3 A1 c1 l t w3.drew (by omega) htl (HB3.out.kp (Kp.refl None' w3).drew).tab).mono ?_
          rintro e w4 ⟨rfl, hT4, hk4⟩
          have hk3 : Kp F w3 w4 := (Kp.refl F w3).drew.trans hk4 (fun i _ h => by rw [HFF.out]; exact .inl h)
          have HB4 := Lib.hid ((HB3.out.kp (Kp.refl None' w3).drew).step1 hT4 hk4 (fun _ h => .inl h))
          have HK3 := Lib.hid hk3
          clear hk3 hT4 hk4 HB3
          go_wp2_with fail
          refine ⟨Wd.of HK3.out, ?_⟩
          refine ord_keep (fun w' => ∃ z : Wd F w3, w' = z.w) rfl (by simp) (fun K hK => ?_)
          go_wp2_with fail
          refine (rgDrop _ _ y1 y2 y3 A2 c2 l t w4 (by omega) Htn.out HB4.out.ref).mono ?_
          rintro e w5 ⟨A4, c4, rfl, hT5, hk5, hf5⟩
          have hk3 : Kp F w3 w5 := HK3.out.trans hk5 (fun i _ h => by rw [HFF.out]; exact .inr h)
          have HB5 := Lib.hid (HB4.out.step2 hT5 hk5 hf5)
          have HK5 := Lib.hid hk3
          have hlk' : (dropG l t (keyEq y1 y2 y3)).1.length ≤ k + 1 := Nat.le_trans (len_drop _ _ _) (by omega)
          have HTN := Lib.hid (turn_drop Htn.out (keyEq y1 y2 y3))
          clear hk3 hT5 hk5 hf5 HB4 HK3 hlk Htn
          obtain ⟨A3, hA3⟩ : ∃ A, A = A1 := ⟨_, rfl⟩
          subst hA3
          obtain ⟨c3, hc3⟩ : ∃ A, A = c1 := ⟨_, rfl⟩
          subst hc3
          generalize dropG l t (keyEq y1 y2 y3) = lt' at *
          obtain ⟨l', t'⟩ := lt'
          dsimp only at HB5 HTN hlk'
          go_wp2_with fail
          refine ⟨Wd.of HK5.out, ?_⟩
          clear z1 z2 z3 HFF HK5
          iterate 2 (refine ord_pure rfl rfl ?_; go_big_quiet_step (fail); refine wpQuiet_nil ?_)
          refine ord_end ?_
          go_wp2_with fail
          have z0 : ∀ z : Wd None' w5, z.w.cell? ⟨w1.heap.size, 0, none⟩ = some (.slice A4 l'.length c4) := fun z => z.cell HB5.out.ref.row id
          refine wp_region_ord (.mov 0 (.mov 1 (.mov 2 (.mov 3 (.mov 5 (.mov 6 (.mov 7 (.mov 8 (.eff 4 (.eff 9 (.mov 10 (.mov 11 (.mov 12 (.mov 13 (.mov 15 (.mov 16 (.mov 17 (.mov 18 (.mov 19 (.eff 14 (.mov 20 (.mov 21 (.mov 22 (.mov 23 (.mov 25 (.eff 24 (.eff 26 (.mov 27 (.mov 28 .fin))))))))))))))))))))))))))))) ?_ ?_ ?_ ?_
          · kernel_rfl
          · kernel_rfl
          · exact fun _ _ _ _ h => h
          iterate 7 (refine ord_pure rfl rfl ?_; go_big_quiet_step (fail); refine wpQuiet_nil ?_)
          iterate 1 (refine ord_mov (fun w' => ∃ z : Wd None' w5, w' = z.w) (Wd.of ((Kp.refl _ _).drew)) rfl rfl ?_; go_big_quiet_step (fail); refine wpQuiet_nil ?_)
          refine ord_keep (fun w' => ∃ z : Wd None' w5, w' = z.w) rfl (by simp) (fun K hK => ?_)
          go_wp2_with fail
          refine (guAll _ _ A3 c3 l' t' w5.drew (by omega) (HB5.out.kp (Kp.refl None' w5).drew).tab).mono ?_
          rintro e w6 ⟨Aa, ca, rfl, hr6, hb6⟩
          have k6 : Kp None' w5 w6 := (Kp.refl None' w5).drew.trans (Kp.of_below (F := None') hb6) (fun _ _ h => h)
          have HB6 := Lib.hid (HB5.out.kp k6)
          have Hr6 := Lib.hid hr6
          have K6 := Lib.hid k6
          clear hr6 k6
          clear hb6 HB5
          go_wp2_with fail
          refine ⟨Wd.of K6.out, ?_⟩
          refine ord_sync rfl (by kernel_rfl) (fun K hK => ?_)
          go_wp2_with fail
          refine (sameGuests true Aa A4 ca c4 l' l' w6 (by omega) (by omega) Hr6.out (own_rd HB6.out.ref.own) (decide_eq_true rfl)).mono ?_
          rintro e w7 ⟨rfl, q, rfl⟩
          have HB7 := Lib.hid (HB6.out.kp ((Kp.refl None' w6).drewN q))
          clear z0 K6 Hr6 HB6
          generalize w6.drewN q = w7 at *
          go_wp2_with fail
          have z0 : ∀ z : Wd None' w7, z.w.cell? ⟨w1.heap.size, 0, none⟩ = some (.slice A4 l'.length c4) := fun z => z.cell HB7.out.ref.row id
          iterate 7 (refine ord_pure rfl rfl ?_; go_big_quiet_step (fail); refine wpQuiet_nil ?_)
          iterate 1 (refine ord_mov (fun w' => ∃ z : Wd None' w7, w' = z.w) (Wd.of (Kp.refl _ _)) rfl rfl ?_; go_big_quiet_step (fail); refine wpQuiet_nil ?_)
          iterate 1 (refine ord_pure rfl rfl ?_; go_big_quiet_step (fail); refine wpQuiet_nil ?_)
          refine ord_keep2 1 (fun w' => ∃ z : Wd None' w7, w' = z.w) rfl (by simp) (by kernel_rfl) (fun K hK => ?_)
          go_wp2_with fail
          refine (guLen _ _ A3 c3 l' t' w7 HB7.out.tab).mono ?_
          rintro e w8 ⟨rfl, rfl⟩
          go_wp2_with fail
          refine ⟨Wd.of (Kp.refl _ _), ?_⟩
          iterate 5 (refine ord_pure rfl rfl ?_; go_big_quiet_step (fail); refine wpQuiet_nil ?_)
          refine ord_sync rfl (by kernel_rfl) (fun K hK => ?_)
          go_wp2_with fail
          refine (guSole _ _ A3 c3 l' t' w8 (by omega) HB7.out.tab).mono ?_
          rintro e w9 ⟨rfl, hb8⟩
          have HB8 := Lib.hid (HB7.out.kp (Kp.of_below hb8))
          clear z0 hb8 HB7
          go_wp2_with fail
          refine ord_sync rfl (by kernel_rfl) (fun K hK => ?_)
          go_wp2_with fail
          refine (rgSole _ _ A4 c4 l' t' w9 (by omega) HB8.out.ref).mono ?_
          rintro e w10 ⟨rfl, rfl⟩
          generalize l'.any Gu.sole = so at *
          go_wp2_with fail
          iterate 2 (refine ord_pure rfl rfl ?_; go_big_quiet_step (fail); refine wpQuiet_nil ?_)
          refine ord_end ?_
          go_wp2_with fail
          go_roundg (ss.length - (k + 1))
          case measure => have := Hk.out; omega
          case rel => exact ⟨k + 1, l', t', A3, c3, A4, c4, by have := Hk.out; omega, by go_num, hlk', HTN.out, HB8.out⟩
        · go_wp2_with fail
          have n3 : Blk (wr.alloc (Obj.cells #[Value.int .i64 op, Value.int .i64 y1, Value.int .i64 y2, Value.string y3, Value.int .i64 y4, Value.bool y5, Value.bool y6, Value.slice S n cs] 64)) wr.heap.size 64 #[Value.int .i64 op, Value.int .i64 y1, Value.int .i64 y2, Value.string y3, Value.int .i64 y4, Value.bool y5, Value.bool y6, Value.slice S n cs] := Blk.new _ _ _
          have k3 := (Kp.refl None' wr).alloc (Obj.cells #[Value.int .i64 op, Value.int .i64 y1, Value.int .i64 y2, Value.string y3, Value.int .i64 y4, Value.bool y5, Value.bool y6, Value.slice S n cs] 64)
          have hs3 : (wr.alloc (Obj.cells #[Value.int .i64 op, Value.int .i64 y1, Value.int .i64 y2, Value.string y3, Value.int .i64 y4, Value.bool y5, Value.bool y6, Value.slice S n cs] 64)).heap.size = wr.heap.size + 1 := by simp
          generalize wr.alloc (Obj.cells #[Value.int .i64 op, Value.int .i64 y1, Value.int .i64 y2, Value.string y3, Value.int .i64 y4, Value.bool y5, Value.bool y6, Value.slice S n cs] 64) = w3 at *
          have hne : ¬ FA A1 wr.heap.size := fun h => by have := (own_fa Hbo.out.tab.own h).2; omega
          have HB3 := Lib.hid (Hbo.out.kp k3)
          have Hs3 := Lib.hid hs3
          clear hs3
          clear g0 g1 g2 g3 g4 g5 g6 g7 k3
          have p7 : w3.cell? ⟨wr.heap.size, 7, none⟩ = some (.slice S n cs) := n3.cell 7
          obtain ⟨hsl, hsn, hS0⟩ := HSP.out
          subst hsl
          have HS := Lib.hid hS0
          clear hS0 HSP
          refine (guPick _ _ S cs sp A1 c1 l t w3 (by omega) Htn.out hsn (HS.out.below HB3.out.blw) HB3.out.tab).mono ?_
          have HTN := Lib.hid (turn_pick Htn.out sp)
          have HPK : Hid (∃ x b t', pickG l t sp = (x, b, t')) := ⟨_, _, _, rfl⟩
          obtain ⟨⟨x1, x2, x3, x4, x5, x6⟩, b', t', hpk⟩ := HPK.out
          rw [hpk] at HTN ⊢
          have Hpk := Lib.hid hpk
          clear hpk
          rintro e w4 ⟨rfl, hT4, hk4⟩
          have hk4' := hk4.mono (G := fun k => k = w0.heap.size ∨ FA A1 k) (fun _ _ h => .inl h)
          have HB4 := Lib.hid (HB3.out.step1 hT4 hk4' (fun _ h => .inl h))
          have n4 := n3.kp hk4 (fun e => by omega)
          clear n3 hk4 hk4' hT4 HB3 p7 hne
          have p7 : w4.cell? ⟨wr.heap.size, 7, none⟩ = some (.slice S sp.length cs) := n4.cell 7
          dsimp only [Gu.v]
          have k5 := (Kp.refl None' w4).alloc (Obj.cells #[Value.int .i64 x1, Value.int .i64 x2, Value.string x3, Value.int .i64 x4, Value.bool x5, Value.bool x6] 61)
          have n5 : Blk (w4.alloc (Obj.cells #[Value.int .i64 x1, Value.int .i64 x2, Value.string x3, Value.int .i64 x4, Value.bool x5, Value.bool x6] 61)) w4.heap.size 61 #[Value.int .i64 x1, Value.int .i64 x2, Value.string x3, Value.int .i64 x4, Value.bool x5, Value.bool x6] := Blk.new _ _ _
          have hs5 : (w4.alloc (Obj.cells #[Value.int .i64 x1, Value.int .i64 x2, Value.string x3, Value.int .i64 x4, Value.bool x5, Value.bool x6] 61)).heap.size = w4.heap.size + 1 := by simp
          have p5 : (w4.alloc (Obj.cells #[Value.int .i64 x1, Value.int .i64 x2, Value.string x3, Value.int .i64 x4, Value.bool x5, Value.bool x6] 61)).cell? ⟨wr.heap.size, 7, none⟩ = some (.slice S sp.length cs) := (n4.kp k5 id).cell 7
          have HB5 := Lib.hid (HB4.out.kp k5)
          have hq5 := HB4.out.ref.blk.lt
          have N5 := Lib.hid n5
          have K5 := Lib.hid k5
          have Hs5 := Lib.hid hs5
          have N4 := Lib.hid n4
          clear k5 hs5 n4
          clear n5 HB4
          go_wp2_with fail
          generalize w4.alloc (Obj.cells #[Value.int .i64 x1, Value.int .i64 x2, Value.string x3, Value.int .i64 x4, Value.bool x5, Value.bool x6] 61) = w5 at *
          clear p7
          refine (rgPick _ _ S cs sp A2 c2 l t w5 (by omega) Htn.out hsn (HS.out.below HB5.out.blw) HB5.out.ref).mono ?_
          rw [Hpk.out]
          rintro e w6 ⟨rfl, hT6, hk6⟩
          have HB6 := Lib.hid (HB5.out.step2 hT6 hk6 (fun _ h => .inl h))
          have n6 := N5.out.kp hk6 (fun e => by have := Hs5.out; omega)
          clear hT6 hk6 HB5 N5 p5
          dsimp only [Gu.v]
          have q0 : w6.cell? ⟨w4.heap.size, 0, none⟩ = some (.int .i64 x1) := n6.cell 0
          have q1 : w6.cell? ⟨w4.heap.size, 1, none⟩ = some (.int .i64 x2) := n6.cell 1
          have q2 : w6.cell? ⟨w4.heap.size, 2, none⟩ = some (.string x3) := n6.cell 2
          have q3 : w6.cell? ⟨w4.heap.size, 3, none⟩ = some (.int .i64 x4) := n6.cell 3
          have q4 : w6.cell? ⟨w4.heap.size, 4, none⟩ = some (.bool x5) := n6.cell 4
          have q5 : w6.cell? ⟨w4.heap.size, 5, none⟩ = some (.bool x6) := n6.cell 5
          have hz6 := n6.lt
          have hge := guEq_self x1 x2 x3 x4 x5 x6
          clear n6
          have HB7 := Lib.hid (HB6.out.kp ((Kp.refl None' w6).alloc (Obj.cells #[Value.int .i64 x1, Value.int .i64 x2, Value.string x3, Value.int .i64 x4, Value.bool x5, Value.bool x6] 61)))
          obtain ⟨A3, hA3⟩ : ∃ A, A = A1 := ⟨_, rfl⟩
          subst hA3
          obtain ⟨c3, hc3⟩ : ∃ A, A = c1 := ⟨_, rfl⟩
          subst hc3
          obtain ⟨A4, hA4⟩ : ∃ A, A = A2 := ⟨_, rfl⟩
          subst hA4
          obtain ⟨c4, hc4⟩ : ∃ A, A = c2 := ⟨_, rfl⟩
          subst hc4
          obtain ⟨l', hl'⟩ : ∃ A, A = l := ⟨_, rfl⟩
          subst hl'
          have hlk' : l'.length ≤ k + 1 := by omega
          clear HB6
          go_wp2_with fail
          clear q0 q1 q2 q3 q4 q5 hge
          generalize w6.alloc (Obj.cells #[Value.int .i64 x1, Value.int .i64 x2, Value.string x3, Value.int .i64 x4, Value.bool x5, Value.bool x6] 61) = w5' at *
          obtain ⟨w5, hw5⟩ : ∃ w, w = w5' := ⟨_, rfl⟩
          subst hw5
          have HB5 := HB7
          clear HB7
          have z0 : ∀ z : Wd None' w5, z.w.cell? ⟨w1.heap.size, 0, none⟩ = some (.slice A4 l'.length c4) := fun z => z.cell HB5.out.ref.row id
          refine wp_region_ord (.mov 0 (.mov 1 (.mov 2 (.mov 3 (.mov 5 (.mov 6 (.mov 7 (.mov 8 (.eff 4 (.eff 9 (.mov 10 (.mov 11 (.mov 12 (.mov 13 (.mov 15 (.mov 16 (.mov 17 (.mov 18 (.mov 19 (.eff 14 (.mov 20 (.mov 21 (.mov 22 (.mov 23 (.mov 25 (.eff 24 (.eff 26 (.mov 27 (.mov 28 .fin))))))))))))))))))))))))))))) ?_ ?_ ?_ ?_
          · kernel_rfl
          · kernel_rfl
          · exact fun _ _ _ _ h => h
          iterate 7 (refine ord_pure rfl rfl ?_; go_big_quiet_step (fail); refine wpQuiet_nil ?_)
          iterate 1 (refine ord_mov (fun w' => ∃ z : Wd None' w5, w' = z.w) (Wd.of ((Kp.refl _ _).drew)) rfl rfl ?_; go_big_quiet_step (fail); refine wpQuiet_nil ?_)
          refine ord_keep (fun w' => ∃ z : Wd None' w5, w' = z.w) rfl (by simp) (fun K hK => ?_)
          go_wp2_with fail
          refine (guAll _ _ A3 c3 l' t' w5.drew (by omega) (HB5.out.kp (Kp.refl None' w5).drew).tab).mono ?_
          rintro e w6 ⟨Aa, ca, rfl, hr6, hb6⟩
          have k6 : Kp None' w5 w6 := (Kp.refl None' w5).drew.trans (Kp.of_below (F := None') hb6) (fun _ _ h => h)
          have HB6 := Lib.hid (HB5.out.kp k6)
          have Hr6 := Lib.hid hr6
          have K6 := Lib.hid k6
          clear hr6 k6
          clear hb6 HB5
          go_wp2_with fail
          refine ⟨Wd.of K6.out, ?_⟩
          refine ord_sync rfl (by kernel_rfl) (fun K hK => ?_)
          go_wp2_with fail
          refine (sameGuests true Aa A4 ca c4 l' l' w6 (by omega) (by omega) Hr6.out (own_rd HB6.out.ref.own) (decide_eq_true rfl)).mono ?_
          rintro e w7 ⟨rfl, q, rfl⟩
          have HB7 := Lib.hid (HB6.out.kp ((Kp.refl None' w6).drewN q))
          clear z0 K6 Hr6 HB6
          generalize w6.drewN q = w7 at *
          go_wp2_with fail
          have z0 : ∀ z : Wd None' w7, z.w.cell? ⟨w1.heap.size, 0, none⟩ = some (.slice A4 l'.length c4) := fun z => z.cell HB7.out.ref.row id
          iterate 7 (refine ord_pure rfl rfl ?_; go_big_quiet_step (fail); refine wpQuiet_nil ?_)
          iterate 1 (refine ord_mov (fun w' => ∃ z : Wd None' w7, w' = z.w) (Wd.of (Kp.refl _ _)) rfl rfl ?_; go_big_quiet_step (fail); refine wpQuiet_nil ?_)
          iterate 1 (refine ord_pure rfl rfl ?_; go_big_quiet_step (fail); refine wpQuiet_nil ?_)
          refine ord_keep2 1 (fun w' => ∃ z : Wd None' w7, w' = z.w) rfl (by simp) (by kernel_rfl) (fun K hK => ?_)
          go_wp2_with fail
          refine (guLen _ _ A3 c3 l' t' w7 HB7.out.tab).mono ?_
          rintro e w8 ⟨rfl, rfl⟩
          go_wp2_with fail
          refine ⟨Wd.of (Kp.refl _ _), ?_⟩
          iterate 5 (refine ord_pure rfl rfl ?_; go_big_quiet_step (fail); refine wpQuiet_nil ?_)
          refine ord_sync rfl (by kernel_rfl) (fun K hK => ?_)
          go_wp2_with fail
          refine (guSole _ _ A3 c3 l' t' w8 (by omega) HB7.out.tab).mono ?_
          rintro e w9 ⟨rfl, hb8⟩
          have HB8 := Lib.hid (HB7.out.kp (Kp.of_below hb8))
          clear z0 hb8 HB7
          go_wp2_with fail
          refine ord_sync rfl (by kernel_rfl) (fun K hK => ?_)
          go_wp2_with fail
          refine (rgSole _ _ A4 c4 l' t' w9 (by omega) HB8.out.ref).mono ?_
          rintro e w10 ⟨rfl, rfl⟩
          generalize l'.any Gu.sole = so at *
          go_wp2_with fail
          iterate 2 (refine ord_pure rfl rfl ?_; go_big_quiet_step (fail); refine wpQuiet_nil ?_)
          refine ord_end ?_
          go_wp2_with fail
          go_roundg (ss.length - (k + 1))
          case measure => have := Hk.out; omega
          case rel => exact ⟨k + 1, l', t', A3, c3, A4, c4, by have := Hk.out; omega, by go_num, hlk', HTN.out, HB8.out⟩
    · go_wp2
      go_ret
      exact ⟨rfl, HB0.out.trans (Hbo.out.blw.mono s00)⟩
end Go.Proofs.Ythaoplcmkaaflaa
