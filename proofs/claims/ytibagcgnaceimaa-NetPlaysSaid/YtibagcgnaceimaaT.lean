/- The contract of Take of the program's net. -/
import Derived.Test.YtibagcgnaceimaaL
namespace Go.Proofs.Ytibagcgnaceimaa
open Go.ChangeShapes Go.WideShapes Go.ChangeAt Go.RowKit
set_option linter.unusedVariables false

/-- The net behind the row's shift. -/
theorem NetAt.shifted {W : World} {F : Nat → Prop} {n g cap : Nat} {most lost : Int} {H : List (Dg × Value)} (h : NetAt W F n (netP most lost) (.slice (some ⟨g, 0, none⟩) H.length cap) H) (k : Nat) (hk : k < H.length) (L : Nat) (hL : L = H.length - 1) :
    NetAt ((W.setCells g (k * 3) (dcells (H.drop (k + 1)))).setCell ⟨n, 0, none⟩ (.slice (some ⟨g, 0, none⟩) L cap)) F n (netP most lost) (.slice (some ⟨g, 0, none⟩) L cap) (H.eraseIdx k) ∧
      Chg F F W ((W.setCells g (k * 3) (dcells (H.drop (k + 1)))).setCell ⟨n, 0, none⟩ (.slice (some ⟨g, 0, none⟩) L cap)) := by
  have hel : (H.eraseIdx k).length = H.length - 1 := by rw [List.length_eraseIdx, if_pos hk]
  obtain ⟨rs1, rs2, _⟩ := row_shift h.row k hk
  have hgn : (Value.slice (some ⟨g, 0, none⟩) H.length cap).ownBlock ≠ some n := owns_typeP h.row h.blk (by decide)
  have hne : g ≠ n := fun e => hgn (by rw [e]; rfl)
  have hblk : (W.setCells g (k * 3) (dcells (H.drop (k + 1)))).heap[n]? = some (netP most lost (.slice (some ⟨g, 0, none⟩) H.length cap)) := (rs2.block n (h.lt n h.foot) (by intro e; cases e; exact hne rfl)).trans h.blk
  have hM : NetAt (W.setCells g (k * 3) (dcells (H.drop (k + 1)))) F n (fun _ => netP most lost (.slice (some ⟨g, 0, none⟩) H.length cap)) (.slice (some ⟨g, 0, none⟩) L cap) (H.eraseIdx k) :=
    ⟨hblk, by rw [hel, hL]; exact rs1, h.foot, fun b hb => h.rowF b hb, fun p hp => by
      have hp' := List.mem_of_mem_eraseIdx hp
      exact ⟨owns_grown (h.dg p hp').1 rs2 (fun b hb => by cases hb; exact owns_type h.row (h.dg p hp').1 (by decide) g rfl), (h.dg p hp').2⟩,
      fun b hb => Nat.lt_of_lt_of_le (h.lt b hb) rs2.size, fun p hp => h.small p (List.mem_of_mem_eraseIdx hp)⟩
  refine ⟨hM.stored 0 _ (setP0 hblk _) (by intro e; exact hgn e) (fun p hp => owns_typeP (hM.dg p hp).1 hblk (by decide)), ?_⟩
  exact (Chg.grown rs2 (fun b hb => by cases hb; exact .inl (h.rowF g rfl))).trans (Chg.grown (grown_set _ _ _ _) (fun b hb => by cases hb; exact .inl h.foot))

theorem set3_block (w : World) (b : Nat) (x y z : Value) (c : Nat) (h : c ≠ b) : (set3 w b x y z).heap[c]? = w.heap[c]? :=
  (Below.heap_setCell _ _ _ _ (fun e => h e)).trans ((Below.heap_setCell _ _ _ _ (fun e => h e)).trans (Below.heap_setCell _ _ _ _ (fun e => h e)))
theorem NetAt.set3 {w : World} {F : Nat → Prop} {n : Nat} {B : Value → Obj} {v : Value} {H : List (Dg × Value)} (h : NetAt w F n B v H) (b : Nat) (hb : ¬ F b) (x y z : Value) : NetAt (set3 w b x y z) F n B v H :=
  h.keep (by simp) fun c hc => set3_block _ _ _ _ _ _ (fun e => hb (e ▸ hc))
theorem Chg.set3 {w w' : World} {F G : Nat → Prop} (h : Chg F G w w') (b : Nat) (hb : w.heap.size ≤ b) (x y z : Value) : Chg F G w (set3 w' b x y z) :=
  ⟨h.os, h.tape, h.output, by simpa using h.size, fun c hc hn => (set3_block _ _ _ _ _ _ (by omega)).trans (h.block c hc hn), h.foot⟩

section
variable (w : World) (F : Nat → Prop) (n : Nat) (most lost : Int) (v : Value) (H : List (Dg × Value))

set_option maxRecDepth 100000 in
theorem take_out (h : NetAt w F n (netP most lost) v H) (k : Int) (hno : ¬ (0 ≤ k ∧ k < H.length)) :
    Calls Try.prog 15 #[.pointer (some ⟨n, 0, none⟩), .int .i64 k] w fun e w' => e = .returned (.tuple #[.agg #[.int .i64 0, .int .i64 0, .slice none 0 0], .bool false]) ∧ Below w.heap.size w w' := by
  have HN := Lib.hid h
  clear h
  go_enter Try.func15, Try.ntmps15
  go_wp2_with fail
  refine (peek_out _ F n most lost v H (HN.out.alloc _) k hno).mono ?_
  rintro e w1 ⟨rfl, hb⟩
  have hz := hb.size
  simp only [World.size_alloc] at hz
  have k0 : w1.cell? ⟨w.heap.size, 0, none⟩ = some (.int .i64 0) := (hb.cell (by simp)).trans (by go_simp)
  have k1 : w1.cell? ⟨w.heap.size, 1, none⟩ = some (.int .i64 0) := (hb.cell (by simp)).trans (by go_simp)
  have k2 : w1.cell? ⟨w.heap.size, 2, none⟩ = some (.slice none 0 0) := (hb.cell (by simp)).trans (by go_simp)
  have q0 : w1.frozen? ⟨w.heap.size, 0, none⟩ = false := (hb.frozen (by simp)).trans (by go_simp)
  have q1 : w1.frozen? ⟨w.heap.size, 1, none⟩ = false := (hb.frozen (by simp)).trans (by go_simp)
  have q2 : w1.frozen? ⟨w.heap.size, 2, none⟩ = false := (hb.frozen (by simp)).trans (by go_simp)
  have HB : Hid (Below w.heap.size w w1) := Lib.hid (((Below.refl _ _).alloc (Nat.le_refl _) _).trans (hb.mono (by simp)))
  have hlt : w.heap.size < w1.heap.size := by omega
  clear hb
  go_wp2_with fail
  obtain ⟨r0, r1, r2⟩ := set3_cells k0 k1 k2 (.int .i64 0) (.int .i64 0) (.slice none 0 0)
  have hs0 := alloc_cell r0 (.cells #[.int .i64 0, .int .i64 0, .slice none 0 0] 31)
  have hs1 := alloc_cell r1 (.cells #[.int .i64 0, .int .i64 0, .slice none 0 0] 31)
  have hs2 := alloc_cell r2 (.cells #[.int .i64 0, .int .i64 0, .slice none 0 0] 31)
  exact bodyPost_ret (v := .tuple #[.agg #[.int .i64 0, .int .i64 0, .slice none 0 0], .bool false]) (by simp [results, Try.results15, go_sem, hs0, hs1, hs2]) rfl ⟨rfl, (set3_below HB.out _ (Nat.le_refl _) _ _ _).alloc (by simp; omega) _⟩

set_option maxHeartbeats 2000000 in
set_option maxRecDepth 100000 in
theorem take_in (h : NetAt w F n (netP most lost) v H) (k : Nat) (d : Dg) (sv : Value) (hk : H[k]? = some (d, sv)) :
    Calls Try.prog 15 #[.pointer (some ⟨n, 0, none⟩), .int .i64 k] w fun e w' => ∃ sv' v', e = .returned (.tuple #[.agg #[.int .i64 d.fr, .int .i64 d.to, sv'], .bool true]) ∧ w'.ownsRow w.heap.size 5 1 sv' d.bs.length (u8s d.bs) ∧ NetAt w' F n (netP most lost) v' (H.eraseIdx k) ∧ Chg F F w w' := by
  obtain ⟨j0, hj, hy0, hy1, hy2⟩ := info_parts Try.info31
  obtain ⟨hkl, _⟩ := List.getElem?_eq_some_iff.1 hk
  have HN := Lib.hid h
  have HO1 := Lib.hid (owns_typeP (b := 0) (n := H.length) h.row h.blk (by decide))
  obtain ⟨g, cap, rfl, _, hg, hlc, hcm⟩ := owned_head h.row (by omega)
  clear h
  go_enter Try.func15, Try.ntmps15
  go_wp2_with fail
  refine (peek_in _ F n most lost _ H (HN.out.alloc _) k d sv hk).mono ?_
  rintro e w1 ⟨v1, rfl, hown, hb⟩
  obtain ⟨ao1, cc1, rfl, _⟩ := owns_slice hown
  have hz := hb.size
  simp only [World.size_alloc] at hz
  have k0 : w1.cell? ⟨w.heap.size, 0, none⟩ = some (.int .i64 0) := (hb.cell (by simp)).trans (by go_simp)
  have k1 : w1.cell? ⟨w.heap.size, 1, none⟩ = some (.int .i64 0) := (hb.cell (by simp)).trans (by go_simp)
  have k2 : w1.cell? ⟨w.heap.size, 2, none⟩ = some (.slice none 0 0) := (hb.cell (by simp)).trans (by go_simp)
  have q0 : w1.frozen? ⟨w.heap.size, 0, none⟩ = false := (hb.frozen (by simp)).trans (by go_simp)
  have q1 : w1.frozen? ⟨w.heap.size, 1, none⟩ = false := (hb.frozen (by simp)).trans (by go_simp)
  have q2 : w1.frozen? ⟨w.heap.size, 2, none⟩ = false := (hb.frozen (by simp)).trans (by go_simp)
  have HN1 := Lib.hid ((HN.out.alloc (.cells #[.int .i64 0, .int .i64 0, .slice none 0 0] 31)).below hb (Nat.le_refl _))
  obtain ⟨c0, c1, c2, f0, f2⟩ := HN1.out.cellsP
  have hn := HN1.out.lt n HN.out.foot
  have HB : Hid (Below w.heap.size w w1) := Lib.hid (((Below.refl _ _).alloc (Nat.le_refl _) _).trans (hb.mono (by simp)))
  have HOW := Lib.hid hown
  have hlt : w.heap.size < w1.heap.size := by omega
  have hgn : g ≠ n := by intro e; exact HO1.out (by rw [e]; rfl)
  have hkc : (k : Int) ≤ cap := by omega
  have hk1 : IntKind.i64.wrap ((k : Int) + 1) = (k : Int) + 1 := IntWalk.i64_in _ (by unfold maxLen at hcm; omega)
  have hk2 : (k : Int) + 1 ≤ H.length := by omega
  have hk3 : (0 : Int) ≤ (k : Int) + 1 := by omega
  clear hb hown hk
  have HNW := Lib.hid ((HN1.out.alloc (.cells #[.int .i64 d.fr, .int .i64 d.to, .slice ao1 d.bs.length cc1] 31)).drew)
  obtain ⟨rs1, rs2, rs3⟩ := row_shift HNW.out.row k hkl
  have y0 := (rs2.cell_far ⟨n, 0, none⟩ (HNW.out.lt n HNW.out.foot) (by intro e; cases e; exact hgn rfl)).trans HNW.out.cellsP.1
  have yf := (rs2.frozen_far ⟨n, 0, none⟩ (HNW.out.lt n HNW.out.foot) (by intro e; cases e; exact hgn rfl)).trans HNW.out.cellsP.2.2.2.1
  have HR1 := Lib.hid rs1
  have HR2 := Lib.hid rs2
  have HR3 := Lib.hid rs3
  have hdl : (dcells (H.drop (k + 1))).length = (H.length - (k + 1)) * 3 := by rw [dcells_length, List.length_drop]
  have hone : ∀ u ∈ dcells (H.drop (k + 1)), u.oneCell' = true := by
    intro u hu
    obtain ⟨p, hp, hu⟩ := List.mem_flatMap.1 hu
    simp only [List.mem_cons, List.not_mem_nil, or_false] at hu
    rcases hu with rfl | rfl | hu
    · rfl
    · rfl
    · obtain ⟨a', c', he, _⟩ := owns_slice (HN.out.dg p (List.mem_of_mem_drop hp)).1
      rw [hu, he]; rfl
  have hsrc : ∀ j u, (dcells (H.drop (k + 1)))[j]? = some u → ((w1.alloc (.cells #[.int .i64 d.fr, .int .i64 d.to, .slice ao1 d.bs.length cc1] 31)).drew).cell? ⟨g, (k + 1) * 3 + j, none⟩ = some u := by
    intro j u hu
    have hj := (List.getElem?_eq_some_iff.1 hu).1
    rw [HNW.out.row.cellAt _ (by omega), ← hu, ← dcells_drop, List.getElem?_drop]
  have HD := Lib.hid hdl
  have HONE := Lib.hid hone
  have HSRC := Lib.hid hsrc
  clear rs1 rs2 rs3 hdl hone hsrc
  have hk5 : (k : Int) ≤ (k : Int) + 1 := by omega
  by_cases hce : cap = k + 1
  · subst hce
    go_wp2_with fail
    go_region_law (refine step_append_room (by rfl) (.tmp 21) (.tmp 28) 22 (by rfl) 31 j0 3 Try.underlying22 hj hy1 g 0 k (k + 1) (by first | rfl | (simp [Act.eval]; done)) ⟨g, 0, none⟩ 0 0 (dcells (H.drop (k + 1))) (by first | rfl | (simp [Act.eval]; done)) (by have := HD.out; omega) (fun j u hu => by have := (List.getElem?_eq_some_iff.1 hu).1; have := HD.out; omega) HONE.out (by omega) HR3.out ?_)
    all_goals
      obtain ⟨hM, hCH⟩ := HNW.out.shifted k hkl k (by omega)
      have HM := Lib.hid hM
      have HCH := Lib.hid ((Chg.of_below (F := F) (HB.out.alloc (Nat.le_of_lt hlt) (.cells #[.int .i64 d.fr, .int .i64 d.to, .slice ao1 d.bs.length cc1] 31)).drew (Nat.le_refl _)).trans hCH)
      have hnF : ∀ b, w.heap.size ≤ b → ¬ F b := fun b hb hF => by have := HN.out.lt b hF; omega
      have hc : ∀ a : Addr, a.block < ((w1.alloc (.cells #[.int .i64 d.fr, .int .i64 d.to, .slice ao1 d.bs.length cc1] 31)).drew).heap.size → w.heap.size ≤ a.block → ((((w1.alloc (.cells #[.int .i64 d.fr, .int .i64 d.to, .slice ao1 d.bs.length cc1] 31)).drew).setCells g (k * 3) (dcells (H.drop (k + 1)))).setCell ⟨n, 0, none⟩ (.slice (some ⟨g, 0, none⟩) k (k + 1))).cell? a = ((w1.alloc (.cells #[.int .i64 d.fr, .int .i64 d.to, .slice ao1 d.bs.length cc1] 31)).drew).cell? a := fun a h1 h2 => World.cell?_of_block (hCH.block a.block h1 (hnF _ h2))
      have hf : ∀ a : Addr, a.block < ((w1.alloc (.cells #[.int .i64 d.fr, .int .i64 d.to, .slice ao1 d.bs.length cc1] 31)).drew).heap.size → w.heap.size ≤ a.block → ((((w1.alloc (.cells #[.int .i64 d.fr, .int .i64 d.to, .slice ao1 d.bs.length cc1] 31)).drew).setCells g (k * 3) (dcells (H.drop (k + 1)))).setCell ⟨n, 0, none⟩ (.slice (some ⟨g, 0, none⟩) k (k + 1))).frozen? a = ((w1.alloc (.cells #[.int .i64 d.fr, .int .i64 d.to, .slice ao1 d.bs.length cc1] 31)).drew).frozen? a := fun a h1 h2 => World.frozen?_of_block (hCH.block a.block h1 (hnF _ h2))
      have z0 := (hc ⟨w1.heap.size, 0, none⟩ (by simp) (by simp; omega)).trans (show _ = some (.int .i64 d.fr) by go_simp)
      have z1 := (hc ⟨w1.heap.size, 1, none⟩ (by simp) (by simp; omega)).trans (show _ = some (.int .i64 d.to) by go_simp)
      have z2 := (hc ⟨w1.heap.size, 2, none⟩ (by simp) (by simp; omega)).trans (show _ = some (.slice ao1 d.bs.length cc1) by go_simp)
      have p0 := (hc ⟨w.heap.size, 0, none⟩ (by simp; omega) (by simp)).trans (show _ = some (.int .i64 0) by go_simp)
      have p1 := (hc ⟨w.heap.size, 1, none⟩ (by simp; omega) (by simp)).trans (show _ = some (.int .i64 0) by go_simp)
      have p2 := (hc ⟨w.heap.size, 2, none⟩ (by simp; omega) (by simp)).trans (show _ = some (.slice none 0 0) by go_simp)
      have t0 := (hf ⟨w.heap.size, 0, none⟩ (by simp; omega) (by simp)).trans (show _ = false by go_simp)
      have t1 := (hf ⟨w.heap.size, 1, none⟩ (by simp; omega) (by simp)).trans (show _ = false by go_simp)
      have t2 := (hf ⟨w.heap.size, 2, none⟩ (by simp; omega) (by simp)).trans (show _ = false by go_simp)
      have HOWW := Lib.hid (owns_keep HOW.out (fun b hb => (hCH.block b (by have := (HOW.out.lt b hb).2; simp; omega) (hnF b (by have := (HOW.out.lt b hb).1; simp at this; omega))).trans (Below.heap_alloc _ _ _ (HOW.out.lt b hb).2)))
      clear hM hCH hc hf
      generalize ((((w1.alloc (.cells #[.int .i64 d.fr, .int .i64 d.to, .slice ao1 d.bs.length cc1] 31)).drew).setCells g (k * 3) (dcells (H.drop (k + 1)))).setCell ⟨n, 0, none⟩ (.slice (some ⟨g, 0, none⟩) k (k + 1))) = WW at HM HCH HOWW z0 z1 z2 p0 p1 p2 t0 t1 t2 ⊢
      go_wp2_with fail
      obtain ⟨r0, r1, r2⟩ := set3_cells p0 p1 p2 (.int .i64 d.fr) (.int .i64 d.to) (.slice ao1 d.bs.length cc1)
      have hne : (Value.slice ao1 d.bs.length cc1).ownBlock ≠ some w.heap.size := fun e => by have := (HOWW.out.lt _ e).1; simp at this; omega
      refine bodyPost_ret (v := .tuple #[.agg #[.int .i64 d.fr, .int .i64 d.to, .slice ao1 d.bs.length cc1], .bool true]) (by simp [results, Try.results15, go_sem, r0, r1, r2]) rfl ⟨_, _, rfl, ?_, HM.out.set3 _ (hnF _ (Nat.le_refl _)) _ _ _, HCH.out.set3 _ (Nat.le_refl _) _ _ _⟩
      exact owns_weaken (set3_owns HOWW.out _ hne _ _ _) (by simp)
  · go_wp2_with fail
    go_region_law (refine step_append_room (by rfl) (.tmp 21) (.tmp 28) 22 (by rfl) 31 j0 3 Try.underlying22 hj hy1 g 0 k cap (by first | rfl | (simp [Act.eval]; done)) ⟨g, (k + 1) * 3, none⟩ (H.length - (k + 1)) (cap - (k + 1)) (dcells (H.drop (k + 1))) (by first | rfl | (simp [Act.eval]; done)) HD.out (fun j u hu => by rw [show (⟨g, (k + 1) * 3, none⟩ : Addr).add j = ⟨g, (k + 1) * 3 + j, none⟩ by unfold Addr.add; split <;> simp_all]; exact HSRC.out j u hu) HONE.out (by omega) HR3.out ?_)
    all_goals
      obtain ⟨hM, hCH⟩ := HNW.out.shifted k hkl (k + (H.length - (k + 1))) (by omega)
      have HM := Lib.hid hM
      have HCH := Lib.hid ((Chg.of_below (F := F) (HB.out.alloc (Nat.le_of_lt hlt) (.cells #[.int .i64 d.fr, .int .i64 d.to, .slice ao1 d.bs.length cc1] 31)).drew (Nat.le_refl _)).trans hCH)
      have hnF : ∀ b, w.heap.size ≤ b → ¬ F b := fun b hb hF => by have := HN.out.lt b hF; omega
      have hc : ∀ a : Addr, a.block < ((w1.alloc (.cells #[.int .i64 d.fr, .int .i64 d.to, .slice ao1 d.bs.length cc1] 31)).drew).heap.size → w.heap.size ≤ a.block → ((((w1.alloc (.cells #[.int .i64 d.fr, .int .i64 d.to, .slice ao1 d.bs.length cc1] 31)).drew).setCells g (k * 3) (dcells (H.drop (k + 1)))).setCell ⟨n, 0, none⟩ (.slice (some ⟨g, 0, none⟩) (k + (H.length - (k + 1))) cap)).cell? a = ((w1.alloc (.cells #[.int .i64 d.fr, .int .i64 d.to, .slice ao1 d.bs.length cc1] 31)).drew).cell? a := fun a h1 h2 => World.cell?_of_block (hCH.block a.block h1 (hnF _ h2))
      have hf : ∀ a : Addr, a.block < ((w1.alloc (.cells #[.int .i64 d.fr, .int .i64 d.to, .slice ao1 d.bs.length cc1] 31)).drew).heap.size → w.heap.size ≤ a.block → ((((w1.alloc (.cells #[.int .i64 d.fr, .int .i64 d.to, .slice ao1 d.bs.length cc1] 31)).drew).setCells g (k * 3) (dcells (H.drop (k + 1)))).setCell ⟨n, 0, none⟩ (.slice (some ⟨g, 0, none⟩) (k + (H.length - (k + 1))) cap)).frozen? a = ((w1.alloc (.cells #[.int .i64 d.fr, .int .i64 d.to, .slice ao1 d.bs.length cc1] 31)).drew).frozen? a := fun a h1 h2 => World.frozen?_of_block (hCH.block a.block h1 (hnF _ h2))
      have z0 := (hc ⟨w1.heap.size, 0, none⟩ (by simp) (by simp; omega)).trans (show _ = some (.int .i64 d.fr) by go_simp)
      have z1 := (hc ⟨w1.heap.size, 1, none⟩ (by simp) (by simp; omega)).trans (show _ = some (.int .i64 d.to) by go_simp)
      have z2 := (hc ⟨w1.heap.size, 2, none⟩ (by simp) (by simp; omega)).trans (show _ = some (.slice ao1 d.bs.length cc1) by go_simp)
      have p0 := (hc ⟨w.heap.size, 0, none⟩ (by simp; omega) (by simp)).trans (show _ = some (.int .i64 0) by go_simp)
      have p1 := (hc ⟨w.heap.size, 1, none⟩ (by simp; omega) (by simp)).trans (show _ = some (.int .i64 0) by go_simp)
      have p2 := (hc ⟨w.heap.size, 2, none⟩ (by simp; omega) (by simp)).trans (show _ = some (.slice none 0 0) by go_simp)
      have t0 := (hf ⟨w.heap.size, 0, none⟩ (by simp; omega) (by simp)).trans (show _ = false by go_simp)
      have t1 := (hf ⟨w.heap.size, 1, none⟩ (by simp; omega) (by simp)).trans (show _ = false by go_simp)
      have t2 := (hf ⟨w.heap.size, 2, none⟩ (by simp; omega) (by simp)).trans (show _ = false by go_simp)
      have HOWW := Lib.hid (owns_keep HOW.out (fun b hb => (hCH.block b (by have := (HOW.out.lt b hb).2; simp; omega) (hnF b (by have := (HOW.out.lt b hb).1; simp at this; omega))).trans (Below.heap_alloc _ _ _ (HOW.out.lt b hb).2)))
      clear hM hCH hc hf
      generalize ((((w1.alloc (.cells #[.int .i64 d.fr, .int .i64 d.to, .slice ao1 d.bs.length cc1] 31)).drew).setCells g (k * 3) (dcells (H.drop (k + 1)))).setCell ⟨n, 0, none⟩ (.slice (some ⟨g, 0, none⟩) (k + (H.length - (k + 1))) cap)) = WW at HM HCH HOWW z0 z1 z2 p0 p1 p2 t0 t1 t2 ⊢
      go_wp2_with fail
      obtain ⟨r0, r1, r2⟩ := set3_cells p0 p1 p2 (.int .i64 d.fr) (.int .i64 d.to) (.slice ao1 d.bs.length cc1)
      have hne : (Value.slice ao1 d.bs.length cc1).ownBlock ≠ some w.heap.size := fun e => by have := (HOWW.out.lt _ e).1; simp at this; omega
      refine bodyPost_ret (v := .tuple #[.agg #[.int .i64 d.fr, .int .i64 d.to, .slice ao1 d.bs.length cc1], .bool true]) (by simp [results, Try.results15, go_sem, r0, r1, r2]) rfl ⟨_, _, rfl, ?_, HM.out.set3 _ (hnF _ (Nat.le_refl _)) _ _ _, HCH.out.set3 _ (Nat.le_refl _) _ _ _⟩
      exact owns_weaken (set3_owns HOWW.out _ hne _ _ _) (by simp)
end
end Go.Proofs.Ytibagcgnaceimaa
