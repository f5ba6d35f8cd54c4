import Derived.Test.YthaoplcmkaaflaaPickR
import Derived.Test.YthaoplcmkaaflaaSpin
namespace Go.Proofs.Ythaoplcmkaaflaa
open Go.RowKit

/-- a guest put into a new variable -/
def putGu (w : World) (x : Gu) : World := w.alloc (Obj.cells #[Value.int .i64 x.conn, Value.int .i64 x.chan, Value.string x.tag, Value.int .i64 x.most, Value.bool x.noack, Value.bool x.sole] 61)
theorem putGu_kp {F : Nat → Prop} {a w : World} (h : Kp F a w) (x : Gu) : Kp F a (putGu w x) := h.alloc _
theorem putGu_blk (w : World) (x : Gu) : Blk (putGu w x) w.heap.size 61 x.cs.toArray := Blk.new w _ _

/-- the guests of a call that began at w0 -/
structure GuW (w0 w : World) (A : Option Addr) (c : Nat) (l : List Gu) (turn : Nat) : Prop where
  g : GuA w w0.heap.size w0.heap.size A c l turn
  b : Below w0.heap.size w0 w
section
variable {w0 w w' : World} {A : Option Addr} {c : Nat} {l : List Gu} {turn : Nat}
theorem GuW.kn (h : GuW w0 w A c l turn) (hk : Kp None' w w') : GuW w0 w' A c l turn := ⟨h.g.kn hk, blw_kp h.b hk h.b.size (fun _ h => h.elim)⟩
theorem GuW.step (h : GuW w0 w A c l turn) {A' : Option Addr} {c' : Nat} {l' : List Gu} {turn' : Nat} (hT : GuA w' w0.heap.size w0.heap.size A' c' l' turn') (hk : Kp (fun k => k = w0.heap.size ∨ FA A k) w w') : GuW w0 w' A' c' l' turn' :=
  ⟨hT, blw_kp h.b hk h.b.size (fun k hk => by
    rcases hk with e | h3
    · omega
    · exact (own_fa h.g.own h3).1)⟩
end

def gA : Gu := ⟨0, 0, ⟨#[97]⟩, 0, false, false⟩
def gB : Gu := ⟨0, 0, ⟨#[98]⟩, 0, false, false⟩
def gC : Gu := ⟨0, 0, ⟨#[97]⟩, 3, false, false⟩

theorem ceq1 (w : World) : (binOp .eql 77 (.complex .f64 0 4607182418800017408) (.complex .f64 0 4607182418800017408)).run Try.prog w = .ok (.bool true) w := by kernel_rfl
theorem ceq0 (w : World) : (binOp .eql 77 (.complex .f64 0 0) (.complex .f64 0 0)).run Try.prog w = .ok (.bool true) w := by kernel_rfl

set_option maxRecDepth 100000 in
set_option maxHeartbeats 4000000 in
theorem known18 (w : World) : Calls Try.prog 24 #[] w fun e w' => e = .returned (.bool true) ∧ Below w.heap.size w w' := by
  have p0 : Hid (pickG [] 0 [true] = (gu0, false, 0)) := by unfold Hid; kernel_rfl
  have a1 : Hid (guAddOk [] gA = true) := by unfold Hid; kernel_rfl
  have a2 : Hid (guAddL [] gA = [gA]) := by unfold Hid; kernel_rfl
  have a3 : Hid (guAddOk [gA] gB = true) := by unfold Hid; kernel_rfl
  have a4 : Hid (guAddL [gA] gB = [gA, gB]) := by unfold Hid; kernel_rfl
  have a5 : Hid (guAddOk [gA, gB] gC = false) := by unfold Hid; kernel_rfl
  have a6 : Hid (guAddL [gA, gB] gC = [gA, gB]) := by unfold Hid; kernel_rfl
  have p1 : Hid (pickG [gA, gB] 0 [true, true] = (gA, true, 1)) := by unfold Hid; kernel_rfl
  have p2 : Hid (pickG [gA, gB] 1 [true, true] = (gB, true, 0)) := by unfold Hid; kernel_rfl
  have p3 : Hid (pickG [gA, gB] 0 [false, true] = (gB, true, 0)) := by unfold Hid; kernel_rfl
  have d1 : Hid (dropG [gA, gB] 0 (keyEq 0 0 ⟨#[97]⟩) = ([gB], 0)) := by unfold Hid; kernel_rfl
  have d2 : Hid ([gA, gB].any (keyEq 0 0 ⟨#[97]⟩) = true) := by unfold Hid; kernel_rfl
  go_enter Try.func24, Try.ntmps24
  go_wp2_with fail
  refine (guNew w).mono ?_
  rintro e w1 ⟨rfl, hT1, hb1, hs1⟩
  have G1 : Hid (GuW w w1 none 0 [] 0) := ⟨hT1, hb1⟩
  clear hT1 hb1 hs1
  go_wp2_with fail
  have r1 : Rd (w1.alloc (Obj.cells #[Value.bool true] 4)) 1 (some ⟨w1.heap.size, 0, none⟩) 1 ([true].map .bool) := rd_alloc rfl rfl
  have G2 := Lib.hid (G1.out.kn ((Kp.refl None' w1).alloc (Obj.cells #[Value.bool true] 4)))
  generalize w1.alloc (Obj.cells #[Value.bool true] 4) = w2 at *
  refine (guPick _ _ _ 1 [true] none 0 [] 0 w2 (by decide) (.inr rfl) (by decide) r1 G2.out.g).mono ?_
  rw [p0.out]
  rintro e w3 ⟨rfl, hT3, hk3⟩
  have G3 := Lib.hid (G2.out.step hT3 (hk3.mono (fun _ _ h => .inl h)))
  clear r1 hT3 hk3 G1 G2
  dsimp only [Gu.v, gu0]
  go_wp2_with fail
  have G4 := Lib.hid (G3.out.kn (putGu_kp (Kp.refl None' w3) gu0))
  refine (guAdd _ _ none 0 [] 0 gA (putGu w3 gu0) (by decide) G4.out.g).mono ?_
  rw [a1.out, a2.out]
  rintro e w4 ⟨A4, c4, rfl, hT4, hk4, hf4⟩
  have G5 := Lib.hid (G4.out.step hT4 hk4)
  clear hT4 hk4 hf4 G3 G4
  go_wp2_with fail
  refine (guAdd _ _ A4 c4 [gA] 0 gB w4 (by decide) G5.out.g).mono ?_
  rw [a3.out, a4.out]
  rintro e w5 ⟨A5, c5, rfl, hT5, hk5, hf5⟩
  have G6 := Lib.hid (G5.out.step hT5 hk5)
  clear hT5 hk5 hf5 G5
  go_wp2_with fail
  refine (guAdd _ _ A5 c5 [gA, gB] 0 gC w5 (by decide) G6.out.g).mono ?_
  rw [a5.out, a6.out]
  rintro e w6 ⟨A6, c6, rfl, hT6, hk6, hf6⟩
  have G7 := Lib.hid (G6.out.step hT6 hk6)
  clear hT6 hk6 hf6 G6
  go_wp2_with fail
  have Gw6 := G7
  clear G7
  have r1 : Rd (w6.alloc (Obj.cells #[Value.bool true, Value.bool true] 4)) 1 (some ⟨w6.heap.size, 0, none⟩) 2 ([true, true].map .bool) := rd_alloc rfl rfl
  have ka1 := (Kp.refl None' w6).alloc (Obj.cells #[Value.bool true, Value.bool true] 4)
  have GA1 := Lib.hid (Gw6.out.kn ka1)
  generalize w6.alloc (Obj.cells #[Value.bool true, Value.bool true] 4) = wa1 at *
  refine (guPick _ _ _ 2 [true, true] A6 c6 [gA, gB] 0 wa1 (by decide) (.inl (by decide)) (by decide) r1 GA1.out.g).mono ?_
  rw [p1.out]
  rintro e wb1 ⟨rfl, hT1, hk1⟩
  have GB1 := Lib.hid (GA1.out.step hT1 (hk1.mono (fun _ _ h => .inl h)))
  have s1 := GB1.out.b.size
  dsimp only [Gu.v, gA]
  have kb1 := (Kp.refl None' wb1).alloc (Obj.cells #[Value.int .i64 0, Value.int .i64 0, Value.string ⟨#[97]⟩, Value.int .i64 0, Value.bool false, Value.bool false] 61)
  have n1 : Blk (wb1.alloc (Obj.cells #[Value.int .i64 0, Value.int .i64 0, Value.string ⟨#[97]⟩, Value.int .i64 0, Value.bool false, Value.bool false] 61)) wb1.heap.size 61 #[Value.int .i64 0, Value.int .i64 0, Value.string ⟨#[97]⟩, Value.int .i64 0, Value.bool false, Value.bool false] := Blk.new _ _ _
  have Z1 : Hid ((wb1.alloc (Obj.cells #[Value.int .i64 0, Value.int .i64 0, Value.string ⟨#[97]⟩, Value.int .i64 0, Value.bool false, Value.bool false] 61)).heap.size = wb1.heap.size + 1) := by unfold Hid; simp
  have F1 : Hid (∀ k, FA A6 k → k < wb1.heap.size) := fun k h => (own_fa GB1.out.g.own h).2
  have Gwc1 := Lib.hid (GB1.out.kn kb1)
  have q1 : w.heap.size < wb1.heap.size := GB1.out.g.blk.lt
  clear r1 ka1 GA1 hT1 hk1 GB1 kb1
  have N1 := Lib.hid n1
  clear n1
  go_wp2_with fail
  generalize wb1.alloc (Obj.cells #[Value.int .i64 0, Value.int .i64 0, Value.string ⟨#[97]⟩, Value.int .i64 0, Value.bool false, Value.bool false] 61) = wc1 at *
  have n1 := N1.out
  clear N1
  have r2 : Rd (wc1.alloc (Obj.cells #[Value.bool true, Value.bool true] 4)) 1 (some ⟨wb1.heap.size + 1, 0, none⟩) 2 ([true, true].map .bool) := rd_alloc Z1.out rfl
  have ka2 := (Kp.refl None' wc1).alloc (Obj.cells #[Value.bool true, Value.bool true] 4)
  have n1 := n1.kp ka2 id
  have GA2 := Lib.hid (Gwc1.out.kn ka2)
  generalize wc1.alloc (Obj.cells #[Value.bool true, Value.bool true] 4) = wa2 at *
  refine (guPick _ _ _ 2 [true, true] A6 c6 [gA, gB] 1 wa2 (by decide) (.inl (by decide)) (by decide) r2 GA2.out.g).mono ?_
  rw [p2.out]
  rintro e wb2 ⟨rfl, hT2, hk2⟩
  have n1 := n1.kp hk2 (by omega)
  have GB2 := Lib.hid (GA2.out.step hT2 (hk2.mono (fun _ _ h => .inl h)))
  have s2 := GB2.out.b.size
  dsimp only [Gu.v, gB]
  have kb2 := (Kp.refl None' wb2).alloc (Obj.cells #[Value.int .i64 0, Value.int .i64 0, Value.string ⟨#[98]⟩, Value.int .i64 0, Value.bool false, Value.bool false] 61)
  have n2 : Blk (wb2.alloc (Obj.cells #[Value.int .i64 0, Value.int .i64 0, Value.string ⟨#[98]⟩, Value.int .i64 0, Value.bool false, Value.bool false] 61)) wb2.heap.size 61 #[Value.int .i64 0, Value.int .i64 0, Value.string ⟨#[98]⟩, Value.int .i64 0, Value.bool false, Value.bool false] := Blk.new _ _ _
  have n1 := n1.kp kb2 id
  have Z2 : Hid ((wb2.alloc (Obj.cells #[Value.int .i64 0, Value.int .i64 0, Value.string ⟨#[98]⟩, Value.int .i64 0, Value.bool false, Value.bool false] 61)).heap.size = wb2.heap.size + 1) := by unfold Hid; simp
  have F2 : Hid (∀ k, FA A6 k → k < wb2.heap.size) := fun k h => (own_fa GB2.out.g.own h).2
  have Gwc2 := Lib.hid (GB2.out.kn kb2)
  have q2 : w.heap.size < wb2.heap.size := GB2.out.g.blk.lt
  clear r2 ka2 GA2 hT2 hk2 GB2 kb2
  have N1 := Lib.hid n1
  have N2 := Lib.hid n2
  clear n1 n2
  go_wp2_with fail
  generalize wb2.alloc (Obj.cells #[Value.int .i64 0, Value.int .i64 0, Value.string ⟨#[98]⟩, Value.int .i64 0, Value.bool false, Value.bool false] 61) = wc2 at *
  have n1 := N1.out
  have n2 := N2.out
  clear N1 N2
  have r3 : Rd (wc2.alloc (Obj.cells #[Value.bool false, Value.bool true] 4)) 1 (some ⟨wb2.heap.size + 1, 0, none⟩) 2 ([false, true].map .bool) := rd_alloc Z2.out rfl
  have ka3 := (Kp.refl None' wc2).alloc (Obj.cells #[Value.bool false, Value.bool true] 4)
  have n1 := n1.kp ka3 id
  have n2 := n2.kp ka3 id
  have GA3 := Lib.hid (Gwc2.out.kn ka3)
  generalize wc2.alloc (Obj.cells #[Value.bool false, Value.bool true] 4) = wa3 at *
  refine (guPick _ _ _ 2 [false, true] A6 c6 [gA, gB] 0 wa3 (by decide) (.inl (by decide)) (by decide) r3 GA3.out.g).mono ?_
  rw [p3.out]
  rintro e wb3 ⟨rfl, hT3, hk3⟩
  have n1 := n1.kp hk3 (by omega)
  have n2 := n2.kp hk3 (by omega)
  have GB3 := Lib.hid (GA3.out.step hT3 (hk3.mono (fun _ _ h => .inl h)))
  have s3 := GB3.out.b.size
  dsimp only [Gu.v, gB]
  have kb3 := (Kp.refl None' wb3).alloc (Obj.cells #[Value.int .i64 0, Value.int .i64 0, Value.string ⟨#[98]⟩, Value.int .i64 0, Value.bool false, Value.bool false] 61)
  have n3 : Blk (wb3.alloc (Obj.cells #[Value.int .i64 0, Value.int .i64 0, Value.string ⟨#[98]⟩, Value.int .i64 0, Value.bool false, Value.bool false] 61)) wb3.heap.size 61 #[Value.int .i64 0, Value.int .i64 0, Value.string ⟨#[98]⟩, Value.int .i64 0, Value.bool false, Value.bool false] := Blk.new _ _ _
  have n1 := n1.kp kb3 id
  have n2 := n2.kp kb3 id
  have Z3 : Hid ((wb3.alloc (Obj.cells #[Value.int .i64 0, Value.int .i64 0, Value.string ⟨#[98]⟩, Value.int .i64 0, Value.bool false, Value.bool false] 61)).heap.size = wb3.heap.size + 1) := by unfold Hid; simp
  have F3 : Hid (∀ k, FA A6 k → k < wb3.heap.size) := fun k h => (own_fa GB3.out.g.own h).2
  have Gwc3 := Lib.hid (GB3.out.kn kb3)
  have q3 : w.heap.size < wb3.heap.size := GB3.out.g.blk.lt
  clear r3 ka3 GA3 hT3 hk3 GB3 kb3
  have N1 := Lib.hid n1
  have N2 := Lib.hid n2
  have N3 := Lib.hid n3
  clear n1 n2 n3
  go_wp2_with fail
  generalize wb3.alloc (Obj.cells #[Value.int .i64 0, Value.int .i64 0, Value.string ⟨#[98]⟩, Value.int .i64 0, Value.bool false, Value.bool false] 61) = wc3 at *
  have n1 := N1.out
  have n2 := N2.out
  have n3 := N3.out
  clear N1 N2 N3
  refine (guDrop _ _ 0 0 ⟨#[97]⟩ A6 c6 [gA, gB] 0 wc3 (by decide) (by decide) Gwc3.out.g).mono ?_
  rw [d1.out, d2.out]
  rintro e w9 ⟨rfl, hT9, hk9⟩
  have n1 := n1.kp hk9 (fun h => h.elim (fun e => by omega) (fun e => by have := F1.out _ e; omega))
  have n2 := n2.kp hk9 (fun h => h.elim (fun e => by omega) (fun e => by have := F2.out _ e; omega))
  have n3 := n3.kp hk9 (fun h => h.elim (fun e => by omega) (fun e => by have := F3.out _ e; omega))
  have G9 := Lib.hid (Gwc3.out.step hT9 hk9)
  have N1 := Lib.hid n1
  have N2 := Lib.hid n2
  have N3 := Lib.hid n3
  clear n1 n2 n3 hT9 hk9
  have e1 : w9.cell? ⟨wb1.heap.size, 2, none⟩ = some (.string ⟨#[97]⟩) := N1.out.cell 2
  have e2 : w9.cell? ⟨wb2.heap.size, 2, none⟩ = some (.string ⟨#[98]⟩) := N2.out.cell 2
  have e3 : w9.cell? ⟨wb3.heap.size, 2, none⟩ = some (.string ⟨#[98]⟩) := N3.out.cell 2
  go_wp2_with fail
  refine (guLen _ _ _ _ [gB] 0 w9 G9.out.g).mono ?_
  rintro e w10 ⟨rfl, rfl⟩
  clear e1 e2 e3 N1 N2 N3
  dsimp only [List.length_cons, List.length_nil]
  go_wp2_with fail
  refine (guAll _ _ _ _ [gB] 0 w10 (by decide) G9.out.g).mono ?_
  rintro e w11 ⟨A11, c11, rfl, hr11, hb11⟩
  have G11 := Lib.hid (G9.out.kn (Kp.of_below hb11))
  clear hr11 hb11 G9
  dsimp only [List.length_cons, List.length_nil]
  go_wp2_with fail
  refine (guSole _ _ _ _ [gB] 0 w11 (by decide) G11.out.g).mono ?_
  rintro e w12 ⟨rfl, hb12⟩
  have G12 := Lib.hid (G11.out.kn (Kp.of_below hb12))
  have hs : [gB].any Gu.sole = false := by kernel_rfl
  rw [hs]
  clear hb12 G11 hs
  go_wp2_with fail
  refine (spinYes 1 4 1 w12 (.inr (.inr rfl)) (by omega) (by decide)).mono ?_
  rintro e w13 ⟨rfl, q13, rfl⟩
  have G13 := Lib.hid (G12.out.kn ((Kp.refl _ _).drewN q13))
  generalize w12.drewN q13 = w13 at *
  have c1 := ceq1
  have c0 := ceq0
  simp only [spinV]
  go_wp2_with fail
  refine (spinNo 1 3 w13 (by decide) (by decide) (by decide)).mono ?_
  rintro e w14 ⟨rfl, rfl⟩
  go_wp2
  go_ret
  exact ⟨rfl, G13.out.b⟩
end Go.Proofs.Ythaoplcmkaaflaa
