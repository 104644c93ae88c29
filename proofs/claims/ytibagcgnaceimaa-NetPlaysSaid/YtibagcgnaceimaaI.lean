/- Double of the program's net. -/
import Derived.Test.YtibagcgnaceimaaH
namespace Go.Proofs.Ytibagcgnaceimaa
open Go.ChangeShapes Go.WideShapes Go.ChangeAt Go.RowKit
set_option linter.unusedVariables false

section
variable (w : World) (F : Nat → Prop) (n : Nat) (most lost : Int) (v : Value) (H : List (Dg × Value))

set_option maxRecDepth 100000 in
theorem double_out (h : NetAt w F n (netP most lost) v H) (k : Int) (hno : ¬ (0 ≤ k ∧ k < H.length)) :
    Calls Try.prog 18 #[.pointer (some ⟨n, 0, none⟩), .int .i64 k] w fun e w' => e = .returned (.bool false) ∧ Below w.heap.size w w' := by
  have HN := Lib.hid h
  clear h
  go_enter Try.func18, Try.ntmps18
  go_wp2_with fail
  refine (peek_out _ F n most lost v H HN.out k hno).mono ?_
  rintro e w1 ⟨rfl, hb⟩
  have hz := hb.size
  have HB := Lib.hid hb
  clear hb
  go_wp2_with fail
  go_quiet (fail)
  go_wp2_with fail
  go_ret
  exact ⟨rfl, below_drewN (HB.out.alloc hz _) _⟩

set_option maxRecDepth 100000 in
theorem double_full (h : NetAt w F n (netP most lost) v H) (k : Nat) (hk : k < H.length) (hfull : most ≤ H.length) :
    Calls Try.prog 18 #[.pointer (some ⟨n, 0, none⟩), .int .i64 k] w fun e w' => e = .returned (.bool false) ∧ Below w.heap.size w w' := by
  obtain ⟨p, hp⟩ : ∃ p, H[k]? = some p := ⟨_, List.getElem?_eq_getElem hk⟩
  obtain ⟨d, sv⟩ := p
  have HN := Lib.hid h
  obtain ⟨ao, c, rfl, _⟩ := owns_slice h.row
  clear h
  go_enter Try.func18, Try.ntmps18
  go_wp2_with fail
  refine (peek_in _ F n most lost _ H HN.out k d sv hp).mono ?_
  rintro e w1 ⟨v1, rfl, hown, hb⟩
  obtain ⟨ao1, cc1, rfl, _⟩ := owns_slice hown
  have hz := hb.size
  obtain ⟨c0, c1, c2, f0, f2⟩ := (HN.out.below hb (Nat.le_refl _)).cellsP
  have hn := (HN.out.below hb (Nat.le_refl _)).lt n HN.out.foot
  have HB := Lib.hid hb
  clear hb hown hp
  go_wp2_with fail
  go_quiet (fail)
  go_wp2_with fail
  go_ret
  exact ⟨rfl, below_drewN (HB.out.alloc hz _) _⟩

set_option maxHeartbeats 2000000 in
set_option maxRecDepth 100000 in
theorem double_yes (h : NetAt w F n (netP most lost) v H) (k : Nat) (d : Dg) (sv : Value) (hk : H[k]? = some (d, sv)) (hroom : (H.length : Int) < most) (hmost : most ≤ 256) :
    Calls Try.prog 18 #[.pointer (some ⟨n, 0, none⟩), .int .i64 k] w fun e w' => e = .returned (.bool true) ∧ ∃ F' v' sv', NetAt w' F' n (netP most lost) v' (H ++ [(d, sv')]) ∧ Chg F F' w w' := by
  obtain ⟨j0, hj, hy0, hy1, hy2⟩ := info_parts Try.info31
  have HN := Lib.hid h
  have hsm := h.small _ (List.mem_of_getElem? hk)
  simp only at hsm
  have HO1 := Lib.hid (owns_typeP (b := 0) (n := H.length) h.row h.blk (by decide))
  obtain ⟨ao, c, rfl, _⟩ := owns_slice h.row
  clear h
  go_enter Try.func18, Try.ntmps18
  go_wp2_with fail
  refine (peek_in _ F n most lost _ H HN.out k d sv hk).mono ?_
  rintro e w1 ⟨v1, rfl, hown, hb⟩
  obtain ⟨ao1, cc1, rfl, _⟩ := owns_slice hown
  have hz := hb.size
  have HN1 := Lib.hid (HN.out.below hb (Nat.le_refl _))
  obtain ⟨c0, c1, c2, f0, f2⟩ := HN1.out.cellsP
  have hn := HN1.out.lt n HN.out.foot
  have HB := Lib.hid hb
  have HOW := Lib.hid hown
  clear hb hown hk
  go_wp2_with fail
  go_quiet (fail)
  go_wp2_with fail
  have HNW := Lib.hid (((HN1.out.alloc (.cells #[.int .i64 d.fr, .int .i64 d.to, .slice ao1 d.bs.length cc1] 31)).drewN nq).drew)
  have HZ : Hid (∀ b, F b → b < w.heap.size) := Lib.hid (HN.out.lt)
  have hn1 : n < w1.heap.size + 1 := by omega
  have hz2 : w.heap.size ≤ (((w1.alloc (.cells #[.int .i64 d.fr, .int .i64 d.to, .slice ao1 d.bs.length cc1] 31)).drewN nq).drew).heap.size := by simp; omega
  have HOWW : Hid ((((w1.alloc (.cells #[.int .i64 d.fr, .int .i64 d.to, .slice ao1 d.bs.length cc1] 31)).drewN nq).drew).ownsRow w.heap.size 5 1 (.slice ao1 d.bs.length cc1) d.bs.length (u8s d.bs)) := Lib.hid (owns_below HOW.out (below_drewN ((Below.refl _ _).alloc (Nat.le_refl _) (.cells #[.int .i64 d.fr, .int .i64 d.to, .slice ao1 d.bs.length cc1] 31)) nq).drew (Nat.le_refl _))
  go_region_law (refine step_append_lies _ (by rfl) (.tmp 31) (.tmp 33) 22 (by rfl) 0 31 j0 (.agg #[.int .i64 0, .int .i64 0, .slice none 0 0]) 3 40 Try.underlying22 hj hy0 hy1 hy2 rfl (by decide) (.slice ao H.length c) H.length (dcells H) (by rfl) (HNW.out.alloc (.cells #[.int .i64 d.fr, .int .i64 d.to, .slice ao1 d.bs.length cc1] 31)).row ⟨w1.heap.size + 1, 0, none⟩ 1 1 [.int .i64 d.fr, .int .i64 d.to, .slice ao1 d.bs.length cc1] (by rfl) (by rfl) (World.news_of_block (by first | exact heap_alloc_new _ _ | (simpa using heap_alloc_new (((w1.alloc (.cells #[.int .i64 d.fr, .int .i64 d.to, .slice ao1 d.bs.length cc1] 31)).drewN nq).drew) (.cells #[.int .i64 d.fr, .int .i64 d.to, .slice ao1 d.bs.length cc1] 31)))) (by intro u hu; simp at hu; rcases hu with rfl | rfl | rfl <;> rfl) (by omega) (by unfold maxLen; omega) (by omega) (Nat.zero_le _) (w1.heap.size + 2) (by simp) ?_; intro g3 cc3 w3 hown3 hg3 hat hlt3; obtain ⟨hM, y0, yf⟩ := send_more (W := w) HNW.out HOWW.out hown3 hg3 (hat.imp_right (fun e => by simp; omega)) hlt3 hsm HZ.out HO1.out hz2)
  all_goals
    have hn3 := owns_typeP hM.out.row hM.out.blk (by decide)
    have hn4 := fun p hp => owns_typeP (hM.out.dg p hp).1 hM.out.blk (by decide)
    have HE := Lib.hid (hM.out.stored (B' := netP most lost) 0 (.slice (some ⟨g3, 0, none⟩) (H.length + 1) cc3) (setP0 hM.out.blk _) hn3 hn4)
    have hW : Below w.heap.size w (((w1.alloc (.cells #[.int .i64 d.fr, .int .i64 d.to, .slice ao1 d.bs.length cc1] 31)).drewN nq).drew) := (below_drewN (HB.out.alloc hz _) nq).drew
    have HCH := Lib.hid (((((Chg.of_below (F := F) hW (Nat.le_refl _)).trans (Chg.of_below ((Below.refl _ _).alloc (Nat.le_refl _) (.cells #[.int .i64 d.fr, .int .i64 d.to, .slice ao1 d.bs.length cc1] 31)) (Nat.le_refl _))).trans (Chg.grown hg3 (fun k hk => .inl (HN.out.rowF k hk)))).trans (Chg.grown (grown_set w3 n 0 (.slice (some ⟨g3, 0, none⟩) (H.length + 1) cc3)) (fun k hk => by cases hk; exact .inl HN.out.foot))).widen (F' := fun b => F b ∨ (w.heap.size ≤ b ∧ b < w3.heap.size)) (fun b hb => hb.imp_right (fun h => h.1)))
    clear hM hn3 hn4 hW hown3 hg3 hat
    go_wp2_with fail
    go_ret
    exact ⟨rfl, _, _, _, HE.out, HCH.out⟩
end
end Go.Proofs.Ytibagcgnaceimaa
