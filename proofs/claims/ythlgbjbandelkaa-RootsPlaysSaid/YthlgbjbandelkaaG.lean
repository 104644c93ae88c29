/- A region that draws its order, taken by hand: one operation at a time, what is guarded away too (beside the kit's Derived/OrdersHeld, Derived/Deep/RegionHeld). -/
import Derived.Test.YthlgbjbandelkaaK
import Derived.Deep.RegionHeld3
namespace Go.Proofs.Ythlgbjbandelkaa
open Go.ChangeShapes Go.WideShapes Go.ChangeAt Go.RowKit

section
variable {P : Program} {md : Region.Mode} {Q : Exit → Act → World → Prop} {S : World → Prop} {l : List Oper} {o : Oper} {fuel : Nat} {listed : Array Bool} {a : Act} {w : World}

/-- Number i may come up, is wanted, and yields one value in every world that meets S. -/
theorem held_yes (i : Nat) (hi : l[i]? = some o) (hs : Region.noSelect l.toArray = true) (hf : Region.free md l.toArray listed i = true) (hr : (Region.ready md l.toArray listed).contains i = true)
    (hQ : ∀ v c a w, Q (.panic c) (a.put o.dst v) w → Q (.panic c) a w) (hw : Region.wanted o (yielded l.toArray a.tmps) = true) (hS : S w)
    (h : ∃ v, (∀ w', S w' → (execOp a.eval o).run P w' = .ok (.value v) w') ∧ wpAnyH P md l.toArray Q S fuel (listed.setIfInBounds i true) (a.put o.dst v) w) : wpAnyH P md l.toArray Q S (fuel + 1) listed a w := by
  obtain ⟨v, hv, h⟩ := h
  exact wpAnyH_take (i := i) (oi := o) (v := v) (by simpa using hi) hs hf hr (hQ v) (.inl ⟨hw, hv⟩) hS h

/-- Number i may come up, and its guard says no. -/
theorem held_no (i : Nat) (hi : l[i]? = some o) (hs : Region.noSelect l.toArray = true) (hf : Region.free md l.toArray listed i = true) (hr : (Region.ready md l.toArray listed).contains i = true)
    (hQ : ∀ v c a w, Q (.panic c) (a.put o.dst v) w → Q (.panic c) a w) (hw : Region.wanted o (yielded l.toArray a.tmps) = false) (hS : S w)
    (h : wpAnyH P md l.toArray Q S fuel (listed.setIfInBounds i true) (a.put o.dst undef) w) : wpAnyH P md l.toArray Q S (fuel + 1) listed a w :=
  wpAnyH_take (i := i) (oi := o) (v := undef) (by simpa using hi) hs hf hr (hQ undef) (.inr ⟨hw, rfl⟩) hS h

/-- Number i alone may come up. -/
theorem held_one (i : Nat) (hi : l[i]? = some o) (hr : Region.ready md l.toArray listed = [i])
    (h : ∀ K : Act → World → Prop, Shut (∀ a w, S w → (S w → wpAnyH P md l.toArray Q S fuel (listed.setIfInBounds i true) a w) → K a w) → if Region.wanted o (yielded l.toArray a.tmps) = true then Oper.wp P o a w K Q else K (a.put o.dst undef) w) :
    wpAnyH P md l.toArray Q S (fuel + 1) listed a w :=
  wpAnyH_ready hr (by simp) (AllReadyH.cons (by simpa using hi) h AllReadyH.nil)
end
end Go.Proofs.Ythlgbjbandelkaa
