/- The walk of 'known' and of RootsKnown. -/
import Derived.Test.YthlgbjbandelkaaI
namespace Go.Proofs.Ythlgbjbandelkaa
open Go.ChangeShapes Go.WideShapes Go.ChangeAt Go.RowKit
set_option linter.unusedVariables false

/-- Set of a slot that is there, to an ID or none. -/
theorem set_step {w : World} {p M S : Nat} {V : Nat → Nat → Int × Int} {lo hi rb cap : Nat} {bs : Nat → Nat} (n r : Int) (h : Lay w p M S V lo hi rb cap bs) (hM : M ≤ 4) (hS : S ≤ 8) (m s : Nat) (hm : m < M) (hs : s < S) (hid : idOk n r = true) :
    Calls Try.prog 13 #[.pointer (some ⟨p, 0, none⟩), .int .i64 m, .int .i64 s, .agg #[.int .i64 n, .int .u64 r]] w fun e w' => e = .returned (.bool true) ∧ Lay w' p M S (upd V m s (n, r)) lo hi rb cap bs ∧ Keep lo hi w w' :=
  (set_good _ _ _ _ _ _ _ _ _ _ n r h hM hS m s hm hs hid).mono fun e w' ⟨he, hw⟩ => ⟨he, by rw [← hw]; exact (set_lay h m s hm hs n r _).1, by rw [← hw]; exact (set_lay h m s hm hs n r _).2⟩

theorem known_true (w : World) : Calls Try.prog 8 #[] w fun e w' => e = .returned (.bool true) ∧ Below w.heap.size w w' := by
  have hid : idOk 3 4 = true := by decide
  go_enter Try.func8, Try.ntmps8
  go_wp2_with fail
  refine (new_ok 2 2 _ (by omega) (by omega) (by omega) (by omega)).mono ?_
  rintro e w1 ⟨p, rb, bs, rfl, hlay, hb1⟩
  have HL1 := Lib.hid hlay
  have HB1 := Lib.hid hb1
  clear hlay hb1
  go_wp2_with fail
  refine (set_step 3 4 HL1.out (by omega) (by omega) 1 1 (by omega) (by omega) hid).mono ?_
  rintro e w2 ⟨rfl, hl2, hk2⟩
  have hb2 := hk2.below HB1.out (Nat.le_refl _) HB1.out.size
  have HL2 := Lib.hid hl2
  have HB2 := Lib.hid hb2
  clear hl2 hk2 hb2
  go_wp2_with fail
  refine (set_out _ _ _ _ _ _ _ _ _ _ 3 4 HL2.out (by omega) (by omega) 2 0 (by omega)).mono ?_
  rintro e w3 ⟨rfl, rfl⟩
  go_wp2_with fail
  refine (get_yes _ _ _ _ _ _ _ _ _ _ (HL2.out.alloc _) (by omega) (by omega) 1 1 (by omega) (by omega)).mono ?_
  rintro e w4 ⟨rfl, rfl⟩
  have e1 : (upd (fun _ _ => (0, 0)) 1 1 (3, 4) 1 1) = (3, 4) := by simp [upd]
  rw [e1]
  go_wp2_with fail
  have hz := HB2.out.size
  go_ret
  exact ⟨rfl, ((HB2.out.alloc hz _).alloc (by simp; omega) _).alloc (by simp; omega) _⟩

theorem walkKnown (w : World) : Calls Try.prog 6 #[] w fun e w' => e = .returned (.bool true) ∧ Below w.heap.size w w' := by
  have hid : idOk 3 4 = true := by decide
  go_enter Try.func6, Try.ntmps6
  go_wp2_with fail
  refine (new_bad 1 9 _ (by omega)).mono ?_
  rintro e w1 ⟨rfl, rfl⟩
  go_wp2_with fail
  refine (new_bad 0 1 _ (by omega)).mono ?_
  rintro e w1 ⟨rfl, rfl⟩
  go_wp2_with fail
  refine (new_bad 5 1 _ (by omega)).mono ?_
  rintro e w1 ⟨rfl, rfl⟩
  go_wp2_with fail
  refine (new_ok 2 2 _ (by omega) (by omega) (by omega) (by omega)).mono ?_
  rintro e w1 ⟨p, rb, bs, rfl, hlay, hb1⟩
  have HL1 := Lib.hid hlay
  have HB1 := Lib.hid hb1
  clear hlay hb1
  go_wp2_with fail
  refine (known_true _).mono ?_
  rintro e w2 ⟨rfl, hb2⟩
  have hl2 := HL1.out.below hb2 (Nat.le_refl _)
  have hz1 := HB1.out.size
  have hb2' := HB1.out.trans (hb2.mono hz1)
  have hz2 := hb2'.size
  have HL2 := Lib.hid hl2
  have HB2 := Lib.hid hb2'
  clear hl2 hb2 hb2'
  go_wp2_with fail
  refine (set_step 3 4 HL2.out (by omega) (by omega) 1 1 (by omega) (by omega) hid).mono ?_
  rintro e w3 ⟨rfl, hl3, hk3⟩
  have hb3 := hk3.below HB2.out (Nat.le_refl _) hz2
  have hz3 := hb3.size
  have HL3 := Lib.hid hl3
  have HB3 := Lib.hid hb3
  clear hl3 hk3 hb3
  have e1 : heldL (upd (fun _ _ => (0, 0)) 1 1 (3, 4) 1) 2 = [(3, 4)] := by simp [heldL, upd]
  have e2 : allL (upd (fun _ _ => (0, 0)) 1 1 (3, 4)) 2 2 = [(3, 4)] := by simp [allL, heldL, upd]
  have e3 : cnt2 (upd (fun _ _ => (0, 0)) 1 1 (3, 4)) 2 (3, 4) 2 = 1 := by simp [cnt2, cnt1, upd]
  have e4 : cnt2 (upd (fun _ _ => (0, 0)) 1 1 (3, 4)) 2 (0, 0) 2 = 3 := by simp [cnt2, cnt1, upd]
  generalize upd (fun _ _ => (0, 0)) 1 1 (3, 4) = V at *
  have E1 := Lib.hid e1
  have E2 := Lib.hid e2
  have E3 := Lib.hid e3
  have E4 := Lib.hid e4
  clear e1 e2 e3 e4
  go_wp2_with fail
  refine (of_yes _ _ _ _ _ _ _ _ _ _ HL3.out (by omega) (by omega) 1 (by omega)).mono ?_
  rw [E1.out]
  rintro e w4 ⟨v, rfl, hown4, hb4⟩
  obtain ⟨g, cap, hv, hg1, hg2, _, _⟩ := owned_head hown4 (by simp)
  subst hv
  have c1 : w4.cell? ⟨g, 0, none⟩ = some (.int .i64 3) := hown4.cellAt 0 (by simp)
  have c2 : w4.cell? ⟨g, 1, none⟩ = some (.int .u64 4) := hown4.cellAt 1 (by simp)
  have hb4' := HB3.out.trans (hb4.mono hz3)
  have hz4 := hb4'.size
  have hl4 := HL3.out.below hb4 HL3.out.size
  have HL4 := Lib.hid hl4
  have HB4 := Lib.hid hb4'
  clear hown4 hb4 hb4' hl4
  simp only [List.length_cons, List.length_nil, Nat.zero_add]
  go_wp2_with fail
  refine (all_any _ _ _ _ _ _ _ _ _ _ HL4.out (by omega) (by omega)).mono ?_
  rw [E2.out]
  rintro e w5 ⟨v, rfl, hown5, hb5⟩
  obtain ⟨g5, cap5, hv, _, _, _, _⟩ := owned_head hown5 (by simp)
  subst hv
  have hb5' := HB4.out.trans (hb5.mono hz4)
  have hz5 := hb5'.size
  have hl5 := HL4.out.below hb5 HL4.out.size
  have HL5 := Lib.hid hl5
  have HB5 := Lib.hid hb5'
  clear hown5 hb5 hb5' hl5
  simp only [List.length_cons, List.length_nil, Nat.zero_add]
  go_wp2_with fail
  refine (count_any _ _ _ _ _ _ _ _ _ _ 3 4 HL5.out (by omega) (by omega)).mono ?_
  rw [E3.out]
  rintro e w6 ⟨rfl, hb6⟩
  have hb6' := HB5.out.trans (hb6.mono hz5)
  have hz6 := hb6'.size
  have hl6 := HL5.out.below hb6 HL5.out.size
  have HL6 := Lib.hid hl6
  have HB6 := Lib.hid hb6'
  clear hb6 hb6' hl6
  go_wp2_with fail
  refine (count_any _ _ _ _ _ _ _ _ _ _ 0 0 HL6.out (by omega) (by omega)).mono ?_
  rw [E4.out]
  rintro e w7 ⟨rfl, hb7⟩
  have hb7' := HB6.out.trans (hb7.mono hz6)
  have hz7 := hb7'.size
  have hl7 := HL6.out.below hb7 HL6.out.size
  have HL7 := Lib.hid hl7
  have HB7 := Lib.hid hb7'
  clear hb7 hb7' hl7
  go_wp2_with fail
  refine (set_bad _ _ _ _ _ _ _ _ _ _ 65 1 HL7.out (by omega) (by omega) 0 0 (by omega) (by omega) (by decide)).mono ?_
  rintro e w8 ⟨rfl, rfl⟩
  go_wp2_with fail
  refine (set_bad _ _ _ _ _ _ _ _ _ _ 1 0 (HL7.out.alloc _) (by omega) (by omega) 0 0 (by omega) (by omega) (by decide)).mono ?_
  rintro e w9 ⟨rfl, rfl⟩
  go_wp2_with fail
  go_ret
  exact ⟨rfl, (HB7.out.alloc hz7 _).alloc (by simp; omega) _⟩
end Go.Proofs.Ythlgbjbandelkaa
