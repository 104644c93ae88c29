/- The walk of MailKnown. -/
import Derived.Test.YtilmdimffgohjaaF
import Derived.Test.YtilmdimffgohjaaG
namespace Go.Proofs.Ytilmdimffgohjaa
open Go.ChangeShapes Go.WideShapes Go.ChangeAt Go.RowKit
set_option linter.unusedVariables false

set_option maxRecDepth 100000 in
theorem walkKnown (w : World) : Calls Try.prog 5 #[] w fun e w' => e = .returned (.bool true) ∧ Below w.heap.size w w' := by
  go_enter Try.func5, Try.ntmps5
  go_wp2_with fail
  refine (new_not 0 _ (by omega)).mono ?_
  rintro e w1 ⟨rfl, rfl⟩
  go_wp2_with fail
  refine (new_notS 17 _ (by omega)).mono ?_
  rintro e w1 ⟨rfl, rfl⟩
  go_wp2_with fail
  refine (new_boxS 2 _ (by omega) (by omega)).mono ?_
  rintro e w1 ⟨p, c, rfl, hbox, hb1, hc, hp⟩
  have HX : Hid (Own w w1 p c 2 []) := Lib.hid ⟨hbox, hb1, hc⟩
  clear hbox hb1
  go_wp2_with fail
  refine (known_true _).mono ?_
  rintro e w2 ⟨rfl, hb2⟩
  have HX2 : Hid (Own w w2 p c 2 []) := Lib.hid ⟨HX.out.box.below hb2 (Nat.le_refl _), HX.out.below.trans (hb2.mono HX.out.below.size), HX.out.lo⟩
  clear hb2 HX
  go_wp2_with fail
  refine (put_roomS (.string { data := #[97] }) _ p c 2 [] HX2.out.box (by simp)).mono ?_
  rintro e w3 ⟨rfl, hbox, hg⟩
  have HX3 : Hid (Own w w3 p c 2 [.string { data := #[97] }]) := Lib.hid (HX2.out.step hbox hg)
  clear hbox hg HX2
  go_wp2_with fail
  refine (put_roomS (.string { data := #[98] }) _ p c 2 _ HX3.out.box (by simp)).mono ?_
  rintro e w4 ⟨rfl, hbox, hg⟩
  have HX4 : Hid (Own w w4 p c 2 [.string { data := #[97] }, .string { data := #[98] }]) := Lib.hid (HX3.out.step hbox hg)
  clear hbox hg HX3
  go_wp2_with fail
  refine (all_boxS _ (by intro x hx; simp at hx; rcases hx with rfl | rfl <;> exact ⟨_, rfl⟩) _ p c 2 HX4.out.box (by simp) (by omega)).mono ?_
  rintro e w5 ⟨v5, rfl, hown, hbox, hg⟩
  have HX5 := Lib.hid (HX4.out.step hbox hg)
  have hlt := HX4.out.box.lt
  have hown2 : w5.ownsRow w4.heap.size 9 1 v5 2 [.string { data := #[97] }, .string { data := #[98] }] := hown
  obtain ⟨g, cap, rfl, hg1, _⟩ := owned_head hown2 (by omega)
  have HO5 := Lib.hid hown2
  have hgc : g ≠ c := by omega
  clear hbox hg hown hown2
  go_wp2_with fail
  refine (take_someS _ _ _ p c 2 HX5.out.box).mono ?_
  rintro e w6 ⟨rfl, hbox, hg⟩
  have HX6 := Lib.hid (HX5.out.step hbox hg)
  have HO6 := Lib.hid (HO5.out.kept hg (.inr (by simpa [Value.ownBlock] using hgc)))
  clear hbox hg HX5 HO5
  go_wp2_with fail
  refine (take_someS _ _ _ p c 2 HX6.out.box).mono ?_
  rintro e w7 ⟨rfl, hbox, hg⟩
  have HX7 := Lib.hid (HX6.out.step hbox hg)
  have HO7 := Lib.hid (HO6.out.kept hg (.inr (by simpa [Value.ownBlock] using hgc)))
  clear hbox hg HX6 HO6
  go_wp2_with fail
  refine (take_noneS _ p c 2 HX7.out.box).mono ?_
  rintro e w8 ⟨rfl, rfl⟩
  have c0 := HO7.out.cellAt 0 (by omega)
  have c1 := HO7.out.cellAt 1 (by omega)
  simp only [List.getElem?_cons_zero, List.getElem?_cons_succ] at c0 c1
  go_wp2_with fail
  refine (room_boxS _ p c 2 [] HX7.out.box (by simp) (by omega)).mono ?_
  rintro e w8 ⟨rfl, q, rfl⟩
  go_wp2_with fail
  go_ret
  exact ⟨rfl, below_drewN HX7.out.below q⟩
end Go.Proofs.Ytilmdimffgohjaa
