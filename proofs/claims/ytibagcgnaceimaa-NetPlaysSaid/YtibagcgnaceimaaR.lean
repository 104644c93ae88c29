/- The reference's Peek and Double. -/
import Derived.Test.YtibagcgnaceimaaU
namespace Go.Proofs.Ytibagcgnaceimaa
open Go.ChangeShapes Go.WideShapes Go.ChangeAt Go.RowKit
set_option linter.unusedVariables false

section
variable (w : World) (F : Nat → Prop) (n : Nat) (most lost : Int) (v : Value) (H : List (Dg × Value))

theorem peekR_out (h : NetAt w F n (netR most lost) v H) (k : Int) (hno : ¬ (0 ≤ k ∧ k < H.length)) :
    Calls Try.prog 21 #[.pointer (some ⟨n, 0, none⟩), .int .i64 k] w fun e w' => e = .returned (.tuple #[.agg #[.int .i64 0, .int .i64 0, .slice none 0 0], .bool false]) ∧ Below w.heap.size w w' := by
  obtain ⟨c0, c1, c2, f0, f2⟩ := h.cellsR
  have hn := h.lt n h.foot
  obtain ⟨ao, c, rfl, _⟩ := owns_slice h.row
  clear h
  by_cases g1 : 0 ≤ k
  · have g2 : (H.length : Int) ≤ k := by omega
    clear hno
    go_enter Try.func21, Try.ntmps21
    go_wp2_with fail
    exact bodyPost_ret (v := .tuple #[.agg #[.int .i64 0, .int .i64 0, .slice none 0 0], .bool false]) (by simp [results, Try.results21, go_sem]) rfl ⟨rfl, (Below.refl _ _).alloc (Nat.le_refl _) _⟩
  · clear hno
    go_enter Try.func21, Try.ntmps21
    go_wp2_with fail
    exact bodyPost_ret (v := .tuple #[.agg #[.int .i64 0, .int .i64 0, .slice none 0 0], .bool false]) (by simp [results, Try.results21, go_sem]) rfl ⟨rfl, (Below.refl _ _).alloc (Nat.le_refl _) _⟩

theorem peekR_in (h : NetAt w F n (netR most lost) v H) (k : Nat) (d : Dg) (sv : Value) (hk : H[k]? = some (d, sv)) :
    Calls Try.prog 21 #[.pointer (some ⟨n, 0, none⟩), .int .i64 k] w fun e w' => e = .returned (.tuple #[.agg #[.int .i64 d.fr, .int .i64 d.to, sv], .bool true]) ∧ Below w.heap.size w w' := by
  obtain ⟨c0, c1, c2, f0, f2⟩ := h.cellsR
  have hn := h.lt n h.foot
  obtain ⟨hkl, hke⟩ := List.getElem?_eq_some_iff.1 hk
  have hmem : (d, sv) ∈ H := hke ▸ List.getElem_mem hkl
  obtain ⟨hd, _⟩ := h.dg _ hmem
  obtain ⟨g, cap, rfl, _, hg, hlc, _⟩ := owned_head h.row (by omega)
  obtain ⟨x0, x1, x2⟩ := dcells_at H k _ hk
  simp only at x0 x1 x2 hd
  have y0 := (h.row.cellAt (k * 3) (by omega)).trans x0
  have y1 := (h.row.cellAt (k * 3 + 1) (by omega)).trans x1
  have y2 := (h.row.cellAt (k * 3 + 2) (by omega)).trans x2
  obtain ⟨ao, c, rfl, hsrc⟩ := owns_src hd
  clear h hk hke hmem hd x0 x1 x2 hsrc
  go_enter Try.func21, Try.ntmps21
  go_wp2_with fail
  exact bodyPost_ret (v := .tuple #[.agg #[.int .i64 d.fr, .int .i64 d.to, .slice ao d.bs.length c], .bool true]) (by simp [results, Try.results21, go_sem]) rfl ⟨rfl, (Below.refl _ _).alloc (Nat.le_refl _) _⟩

set_option maxRecDepth 100000 in
theorem doubleR_out (h : NetAt w F n (netR most lost) v H) (k : Int) (hno : ¬ (0 ≤ k ∧ k < H.length)) :
    Calls Try.prog 20 #[.pointer (some ⟨n, 0, none⟩), .int .i64 k] w fun e w' => e = .returned (.bool false) ∧ Below w.heap.size w w' := by
  have HN := Lib.hid h
  clear h
  go_enter Try.func20, Try.ntmps20
  go_wp2_with fail
  refine (peekR_out _ F n most lost v H HN.out k hno).mono ?_
  rintro e w1 ⟨rfl, hb⟩
  have hz := hb.size
  have HB := Lib.hid hb
  clear hb
  go_wp2_with fail
  go_quiet (fail)
  go_wp2_with fail
  go_ret
  exact ⟨rfl, below_drewN (HB.out.alloc hz _) _⟩

set_option maxRecDepth 100000 in
theorem doubleR_full (h : NetAt w F n (netR most lost) v H) (k : Nat) (hk : k < H.length) (hfull : most ≤ H.length) :
    Calls Try.prog 20 #[.pointer (some ⟨n, 0, none⟩), .int .i64 k] w fun e w' => e = .returned (.bool false) ∧ Below w.heap.size w w' := by
  obtain ⟨p, hp⟩ : ∃ p, H[k]? = some p := ⟨_, List.getElem?_eq_getElem hk⟩
  obtain ⟨d, sv⟩ := p
  have HN := Lib.hid h
  obtain ⟨bo, bc, hbs, _⟩ := owns_src (h.dg _ (List.mem_of_getElem? hp)).1
  simp only at hbs
  subst hbs
  obtain ⟨ao, c, rfl, _⟩ := owns_slice h.row
  clear h
  go_enter Try.func20, Try.ntmps20
  go_wp2_with fail
  refine (peekR_in _ F n most lost _ H HN.out k d _ hp).mono ?_
  rintro e w1 ⟨rfl, hb⟩
  have hz := hb.size
  obtain ⟨c0, c1, c2, f0, f2⟩ := (HN.out.below hb (Nat.le_refl _)).cellsR
  have hn := (HN.out.below hb (Nat.le_refl _)).lt n HN.out.foot
  have HB := Lib.hid hb
  clear hb hp
  go_wp2_with fail
  go_quiet (fail)
  go_wp2_with fail
  go_ret
  exact ⟨rfl, below_drewN (HB.out.alloc hz _) _⟩

set_option maxHeartbeats 2000000 in
set_option maxRecDepth 100000 in
theorem doubleR_yes (h : NetAt w F n (netR most lost) v H) (k : Nat) (d : Dg) (sv : Value) (hk : H[k]? = some (d, sv)) (hroom : (H.length : Int) < most) (hmost : most ≤ 256) :
    Calls Try.prog 20 #[.pointer (some ⟨n, 0, none⟩), .int .i64 k] w fun e w' => e = .returned (.bool true) ∧ ∃ F' v' sv', NetAt w' F' n (netR most lost) v' (H ++ [(d, sv')]) ∧ Chg F F' w w' := by
  obtain ⟨j0, hj, hy0, hy1, hy2⟩ := info_parts Try.info31
  have HN := Lib.hid h
  have hmem := List.mem_of_getElem? hk
  have hsm := h.small _ hmem
  obtain ⟨bo, bc, hbs, hsrc⟩ := owns_src (h.dg _ hmem).1
  simp only at hsm hbs hsrc
  subst hbs
  have HS := Lib.hid hsrc
  have HO1 := Lib.hid (owns_typeR (b := 0) (n := H.length) h.row h.blk (by decide))
  obtain ⟨ao, c, rfl, _⟩ := owns_slice h.row
  clear h hmem hsrc
  go_enter Try.func20, Try.ntmps20
  go_wp2_with fail
  refine (peekR_in _ F n most lost _ H HN.out k d _ hk).mono ?_
  rintro e w1 ⟨rfl, hb⟩
  have hz := hb.size
  have HN1 := Lib.hid (HN.out.below hb (Nat.le_refl _))
  obtain ⟨c0, c1, c2, f0, f2⟩ := HN1.out.cellsR
  have hn := HN1.out.lt n HN.out.foot
  have HB := Lib.hid hb
  have HS1 := Lib.hid (HS.out.below hb)
  clear hb hk
  go_wp2_with fail
  go_quiet (fail)
  go_wp2_with fail
  have HNW := Lib.hid (((HN1.out.alloc (.cells #[.int .i64 d.fr, .int .i64 d.to, .slice bo d.bs.length bc] 31)).drewN nq).drew)
  have HSW : Hid (SrcAt (((w1.alloc (.cells #[.int .i64 d.fr, .int .i64 d.to, .slice bo d.bs.length bc] 31)).drewN nq).drew) bo d.bs.length bc (u8s d.bs)) := Lib.hid (HS1.out.alloc _)
  have HC0 : Hid ((((w1.alloc (.cells #[.int .i64 d.fr, .int .i64 d.to, .slice bo d.bs.length bc] 31)).drewN nq).drew).cell? ⟨n, 2, none⟩ = some (.slice ao H.length c)) := Lib.hid (by go_simp)
  have HC1 : Hid ((((w1.alloc (.cells #[.int .i64 d.fr, .int .i64 d.to, .slice bo d.bs.length bc] 31)).drewN nq).drew).cell? ⟨w1.heap.size, 0, none⟩ = some (.int .i64 d.fr)) := Lib.hid (by go_simp)
  have HC2 : Hid ((((w1.alloc (.cells #[.int .i64 d.fr, .int .i64 d.to, .slice bo d.bs.length bc] 31)).drewN nq).drew).cell? ⟨w1.heap.size, 1, none⟩ = some (.int .i64 d.to)) := Lib.hid (by go_simp)
  have HC3 : Hid ((((w1.alloc (.cells #[.int .i64 d.fr, .int .i64 d.to, .slice bo d.bs.length bc] 31)).drewN nq).drew).cell? ⟨w1.heap.size, 2, none⟩ = some (.slice bo d.bs.length bc)) := Lib.hid (by go_simp)
  have HZ : Hid (∀ b, F b → b < (((w1.alloc (.cells #[.int .i64 d.fr, .int .i64 d.to, .slice bo d.bs.length bc] 31)).drewN nq).drew).heap.size) := Lib.hid (HNW.out.lt)
  have HZ2 : Hid ((Value.slice ao H.length c).ownBlock ≠ some n) := HO1
  go_region_law (first
    | (refine step_append_lies _ (by rfl) (.tmp 31) (.tmp 34) 22 (by rfl) 0 31 j0 (.agg #[.int .i64 0, .int .i64 0, .slice none 0 0]) 3 40 Try.underlying22 hj hy0 hy1 hy2 rfl (by decide) (.slice ao H.length c) H.length (dcells H) (by rfl) ((HNW.out.below hb2 (Nat.le_refl _)).alloc (.cells #[.int .i64 d.fr, .int .i64 d.to, .slice ao2 d.bs.length c2] 31)).row ⟨w2.heap.size, 0, none⟩ 1 1 [.int .i64 d.fr, .int .i64 d.to, .slice ao2 d.bs.length c2] (by rfl) (by rfl) (World.news_of_block (heap_alloc_new _ _)) (by intro u hu; simp at hu; rcases hu with rfl | rfl | rfl <;> rfl) (by omega) (by unfold maxLen; omega) (by omega) (Nat.zero_le _) (w2.heap.size + 1) (by simp) ?_; intro g3 cc3 w3 hown3 hg3 hat hlt3; obtain ⟨hM, y0, yf⟩ := send_moreR (HNW.out.below hb2 (Nat.le_refl _)) hown2 hown3 hg3 hat hlt3 hsm HZ.out HZ2.out hz2)
    | (go_simp; refine (copy_any d.fr d.to bo bc d.bs _ HSW.out (by omega)).mono ?_; rintro e w2 ⟨v2, rfl, hown2, hb2⟩; obtain ⟨ao2, c2, rfl, _⟩ := owns_slice hown2; have hz2 := hb2.size; have x0 := below_cell hb2 HC0.out; have x1 := below_cell hb2 HC1.out; have x2 := below_cell hb2 HC2.out; have x3 := below_cell hb2 HC3.out; have xn : n < w2.heap.size := World.block_lt_of_cell? _ _ x0; have xw : w1.heap.size < w2.heap.size := World.block_lt_of_cell? _ _ x1))
  all_goals
    have hn3 := owns_typeR hM.out.row hM.out.blk (by decide)
    have hn4 := fun p hp => owns_typeR (hM.out.dg p hp).1 hM.out.blk (by decide)
    have HE := Lib.hid (hM.out.stored (B' := netR most lost) 2 (.slice (some ⟨g3, 0, none⟩) (H.length + 1) cc3) (setR2 hM.out.blk _) hn3 hn4)
    have hW : Below w.heap.size w w2 := ((below_drewN (HB.out.alloc hz (.cells #[.int .i64 d.fr, .int .i64 d.to, .slice bo d.bs.length bc] 31)) nq).drew).trans (hb2.mono (by simp; omega))
    have HCH := Lib.hid (((((Chg.of_below (F := F) hW (Nat.le_refl _)).trans (Chg.of_below ((Below.refl _ _).alloc (Nat.le_refl _) _) (Nat.le_refl _))).trans (Chg.grown hg3 (fun k hk => .inl (HN.out.rowF k hk)))).trans (Chg.grown (grown_set w3 n 2 (.slice (some ⟨g3, 0, none⟩) (H.length + 1) cc3)) (fun k hk => by cases hk; exact .inl HN.out.foot))).widen (F' := fun b => F b ∨ ((((w1.alloc (.cells #[.int .i64 d.fr, .int .i64 d.to, .slice bo d.bs.length bc] 31)).drewN nq).drew).heap.size ≤ b ∧ b < w3.heap.size)) (fun b hb => hb.imp_right (fun h => by have := h.1; simp at this; omega)))
    clear hM hn3 hn4 hW hown2 hown3 hb2 hg3 hat
    go_wp2_with fail
    go_ret
    exact ⟨rfl, _, _, _, HE.out, HCH.out⟩
end
end Go.Proofs.Ytibagcgnaceimaa
