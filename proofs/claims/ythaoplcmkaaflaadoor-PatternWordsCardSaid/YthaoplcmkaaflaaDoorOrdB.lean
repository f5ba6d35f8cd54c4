import Derived.Test.YthaoplcmkaaflaaDoorOrd
namespace Go.Proofs.YthaoplcmkaaflaaDoor
open Go.RowKit
section
variable {P : Program} {Q : Exit → Act → World → Prop} {md : Region.Mode}
/-- as ord_keep: of the loads that are held the newest n may float, read in C; the elder ones stand ahead of this effect -/
theorem ord_keep2 {l : List Oper} {T : Helds} {i : Nat} {o : Oper} {r : Plan} {a : Act} {w : World} (n : Nat) (C : World → Prop) (ho : l[i]? = some o) (hs : ∀ x ∈ T.take n, x.2 = C)
    (hw : ((T.drop n).map (·.1)).all (waitsB md l.toArray l.length i) = true)
    (h : ∀ K : Act → World → Prop, (∀ a w, C w ∧ wpOrd P md l.toArray Q T r a w → K a w) → wpList P l.toArray (Exit.then K Q) [o] a w) : wpOrd P md l.toArray Q T (.eff i r) a w :=
  wpOp_of_list (by rw [List.getElem?_toArray]; exact ho) (h _ fun a' w' h' => ⟨.inr fun x hx hn => by
    rw [← List.take_append_drop n T] at hx
    rcases List.mem_append.1 hx with hx | hx
    · rw [hs x hx]; exact h'.1
    · exact absurd (waitsB_sound _ _ _ (List.all_eq_true.1 hw x.1 (List.mem_map_of_mem hx))) hn, h'.2⟩) (fun h => h)
end
end Go.Proofs.YthaoplcmkaaflaaDoor
