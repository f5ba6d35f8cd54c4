import Derived.Test.YthaoplcmkaaflaaBdD
namespace Go.Proofs.Ythaoplcmkaaflaa
open Go.RowKit

set_option maxHeartbeats 400000 in
theorem add_old (er : Int) (base p : Nat) (A : Option Addr) (c : Nat) (l : List Bd) (x : Bd) (w : World) (hl : l.length ≤ 1000000) (hT : TabA w base p A c l)
    (h : ((l.any fun y => decide (x = y)) = true ∧ er = 0) ∨ ((l.any fun y => decide (x = y)) = false ∧ 40 ≤ l.length ∧ er = 12)) :
    Calls Try.prog 10 #[.pointer (some ⟨p, 0, none⟩), x.v] w fun e w' => e = .returned (.tuple #[.bool false, .int .i64 er]) ∧ TabA w' base p A c l ∧ Below w.heap.size w w' := by
  obtain ⟨x1, x2, x3⟩ := x
  simp only [Bd.v]
  have hp : p ≠ w.heap.size := Nat.ne_of_lt hT.blk.lt
  have HT := Lib.hid hT
  clear hT
  generalize hr : (l.any fun y => decide (⟨x1, x2, x3⟩ = y)) = r at h
  have HH := Lib.hid h
  have Hr := Lib.hid hr
  clear hr
  clear h
  go_enter Try.func10, Try.ntmps10
  go_wp2_with fail
  have d0 : Blk (w.alloc (Obj.cells #[Value.string x1, Value.string x2, Value.string x3] 28)) w.heap.size 28 #[Value.string x1, Value.string x2, Value.string x3] := Blk.new _ _ _
  have k0 : Kp None' w (w.alloc (Obj.cells #[Value.string x1, Value.string x2, Value.string x3] 28)) := (Kp.refl _ _).alloc _
  generalize w.alloc (Obj.cells #[Value.string x1, Value.string x2, Value.string x3] 28) = w0 at *
  have HD0 := Lib.hid d0
  have HT0 := Lib.hid (HT.out.kp k0 id (fun _ _ => id))
  clear d0
  have z0 : ∀ z : Wd None' w0, z.w.cell? ⟨p, 0, none⟩ = some (.slice A l.length c) := fun z => z.cell HT0.out.cell id
  have z1 : ∀ z : Wd None' w0, z.w.cell? ⟨w.heap.size, 0, none⟩ = some (.string x1) := fun z => z.cell (HD0.out.cell 0) id
  have z2 : ∀ z : Wd None' w0, z.w.cell? ⟨w.heap.size, 1, none⟩ = some (.string x2) := fun z => z.cell (HD0.out.cell 1) id
  have z3 : ∀ z : Wd None' w0, z.w.cell? ⟨w.heap.size, 2, none⟩ = some (.string x3) := fun z => z.cell (HD0.out.cell 2) id
  have HR := Lib.hid (fun z : Wd None' w0 => (own_rd HT0.out.own).kp z.kp (fun _ _ h => h))
  refine wp_region_kp None' (by kernel_rfl) (by kernel_rfl) ?_
  repeat (go_big_quiet_step ((go_at_call 38; exact calls_blw (containsBd' r A c l ⟨x1, x2, x3⟩ _ (by omega) (HR.out _) Hr.out))))
  refine wpQuiet_nil ?_
  intro z
  have k1 := k0.trans z.kp (fun _ _ h => h)
  have HT1 := Lib.hid (HT0.out.kp z.kp id (fun _ _ => id))
  clear z0 z1 z2 z3 HR HT0 HD0 k0 HT
  generalize z.w = w1 at *
  have K1 := Lib.hid (k1.below (Nat.le_refl _) (fun _ _ => id))
  clear k1 z
  have c0 := HT1.out.cell
  rcases HH.out with ⟨rfl, rfl⟩ | ⟨rfl, hge, rfl⟩
  · clear HH
    go_wp2
    go_ret2
    exact ⟨rfl, HT1.out, K1.out⟩
  · clear HH
    go_wp2
    go_ret2
    exact ⟨rfl, HT1.out, K1.out⟩

def addOk (l : List Bd) (x : Bd) : Bool := !(l.any fun y => decide (x = y)) && decide (l.length < 40)
def addErr (l : List Bd) (x : Bd) : Int := if (l.any fun y => decide (x = y)) || decide (l.length < 40) then 0 else 12
def addL (l : List Bd) (x : Bd) : List Bd := if addOk l x then l ++ [x] else l

theorem bdAdd (base p : Nat) (A : Option Addr) (c : Nat) (l : List Bd) (x : Bd) (w : World) (hl : l.length ≤ 1000000) (hT : TabA w base p A c l) :
    Calls Try.prog 10 #[.pointer (some ⟨p, 0, none⟩), x.v] w fun e w' => ∃ A' c', e = .returned (.tuple #[.bool (addOk l x), .int .i64 (addErr l x)]) ∧ TabA w' base p A' c' (addL l x) ∧ Kp (fun k => k = p ∨ FA A k) w w' ∧ ∀ k, FA A' k → FA A k ∨ w.heap.size ≤ k := by
  unfold addL addOk addErr
  cases hr : (l.any fun y => decide (x = y)) with
  | true =>
    refine (add_old 0 base p A c l x w hl hT (.inl ⟨hr, rfl⟩)).mono ?_
    rintro e w' ⟨rfl, hT', hb⟩
    exact ⟨A, c, rfl, hT', Kp.of_below hb, fun k h => .inl h⟩
  | false =>
    by_cases h : l.length < 40
    · refine (add_new base p A c l x w hT hr h).mono ?_
      rintro e w' ⟨rfl, A', c', hT', hk, hf⟩
      rw [decide_eq_true h]
      exact ⟨A', c', rfl, hT', hk, hf⟩
    · refine (add_old 12 base p A c l x w hl hT (.inr ⟨hr, by omega, rfl⟩)).mono ?_
      rintro e w' ⟨rfl, hT', hb⟩
      rw [decide_eq_false h]
      exact ⟨A, c, rfl, hT', Kp.of_below hb, fun k h => .inl h⟩

set_option maxHeartbeats 400000 in
theorem drop_no (base p : Nat) (A : Option Addr) (c : Nat) (l : List Bd) (x : Bd) (w : World) (hl : l.length ≤ 1000000) (hT : TabA w base p A c l) (h : (l.any fun y => decide (x = y)) = false) :
    Calls Try.prog 14 #[.pointer (some ⟨p, 0, none⟩), x.v] w fun e w' => e = .returned (.bool false) ∧ TabA w' base p A c l ∧ Below w.heap.size w w' := by
  obtain ⟨x1, x2, x3⟩ := x
  simp only [Bd.v]
  have hp : p ≠ w.heap.size := Nat.ne_of_lt hT.blk.lt
  have HT := Lib.hid hT
  clear hT
  have hi : idxP (fun y => decide ((⟨x1, x2, x3⟩ : Bd) = y)) l = -1 := idxP_none _ l (fun j hj => by simpa using List.any_eq_false.1 h l[j] (List.getElem_mem hj))
  have Hi := Lib.hid hi
  clear hi
  clear h
  go_enter Try.func14, Try.ntmps14
  go_wp2_with fail
  have d0 : Blk (w.alloc (Obj.cells #[Value.string x1, Value.string x2, Value.string x3] 28)) w.heap.size 28 #[Value.string x1, Value.string x2, Value.string x3] := Blk.new _ _ _
  have k0 : Kp None' w (w.alloc (Obj.cells #[Value.string x1, Value.string x2, Value.string x3] 28)) := (Kp.refl _ _).alloc _
  generalize w.alloc (Obj.cells #[Value.string x1, Value.string x2, Value.string x3] 28) = w0 at *
  have HD0 := Lib.hid d0
  have HT0 := Lib.hid (HT.out.kp k0 id (fun _ _ => id))
  clear d0
  have z0 : ∀ z : Wd None' w0, z.w.cell? ⟨p, 0, none⟩ = some (.slice A l.length c) := fun z => z.cell HT0.out.cell id
  have z1 : ∀ z : Wd None' w0, z.w.cell? ⟨w.heap.size, 0, none⟩ = some (.string x1) := fun z => z.cell (HD0.out.cell 0) id
  have z2 : ∀ z : Wd None' w0, z.w.cell? ⟨w.heap.size, 1, none⟩ = some (.string x2) := fun z => z.cell (HD0.out.cell 1) id
  have z3 : ∀ z : Wd None' w0, z.w.cell? ⟨w.heap.size, 2, none⟩ = some (.string x3) := fun z => z.cell (HD0.out.cell 2) id
  have HI : Hid (∀ z : Wd None' w0, Calls Try.prog 42 #[.slice A l.length c, (⟨x1, x2, x3⟩ : Bd).v] z.w fun e w' => e = .returned (.int .i64 (-1)) ∧ Below z.w.heap.size z.w w') := fun z => by
    rw [← Hi.out]
    exact indexBd A c l ⟨x1, x2, x3⟩ z.w (by omega) ((own_rd HT0.out.own).kp z.kp (fun _ _ h => h))
  refine wp_region_kp None' (by kernel_rfl) (by kernel_rfl) ?_
  repeat (go_big_quiet_step ((go_at_call 42; exact calls_blw (HI.out _))))
  refine wpQuiet_nil ?_
  intro z
  have k1 := k0.trans z.kp (fun _ _ h => h)
  have HT1 := Lib.hid (HT0.out.kp z.kp id (fun _ _ => id))
  clear z0 z1 z2 z3 HI HT0 HD0 k0 HT
  generalize z.w = w1 at *
  have K1 := Lib.hid (k1.below (Nat.le_refl _) (fun _ _ => id))
  clear k1 z
  go_wp2
  go_ret
  exact ⟨rfl, HT1.out, K1.out⟩
end Go.Proofs.Ythaoplcmkaaflaa
