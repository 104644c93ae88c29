/- The reference's Take: a new row without the k-th. -/
import Derived.Test.YtibagcgnaceimaaR
import Derived.Test.YtibagcgnaceimaaJ
namespace Go.Proofs.Ytibagcgnaceimaa
open Go.ChangeShapes Go.WideShapes Go.ChangeAt Go.RowKit
set_option linter.unusedVariables false

/-- The net over a new row of some of its datagrams. -/
theorem NetAt.relaid {w wB : World} {F : Nat → Prop} {n b2 : Nat} {most lost : Int} {v vB : Value} {H K : List (Dg × Value)} (h : NetAt w F n (netR most lost) v H) (hb : Below w.heap.size w wB)
    (hB : wB.ownsRow b2 31 3 vB K.length (dcells K)) (h2 : w.heap.size ≤ b2) (hK : ∀ p ∈ K, p ∈ H) :
    NetAt (wB.setCell ⟨n, 2, none⟩ vB) (fun b => F b ∨ (b2 ≤ b ∧ b < wB.heap.size)) n (netR most lost) vB K ∧ Chg F (fun b => F b ∨ (b2 ≤ b ∧ b < wB.heap.size)) w (wB.setCell ⟨n, 2, none⟩ vB) := by
  have hN := h.below hb (Nat.le_refl _)
  have hn := h.lt n h.foot
  have hvn : vB.ownBlock ≠ some n := fun e => by have := (hB.lt n e).1; omega
  refine ⟨⟨setR2 hN.blk vB, owns_weaken (hB.kept (grown_set _ _ _ _) (.inr hvn)) (Nat.zero_le _), .inl h.foot, fun g hg => .inr (hB.lt g hg), fun p hp => ⟨?_, fun g hg => .inl ((h.dg p (hK p hp)).2 g hg)⟩, fun b hb' => ?_, fun p hp => h.small p (hK p hp)⟩, ?_⟩
  · exact (hN.dg p (hK p hp)).1.kept (grown_set _ _ _ _) (.inr (owns_typeR (hN.dg p (hK p hp)).1 hN.blk (by decide)))
  · rcases hb' with hb' | hb'
    · simpa using hN.lt b hb'
    · simpa using hb'.2
  · exact ((Chg.of_below (F := F) hb (Nat.le_refl _)).trans (Chg.grown (grown_set wB n 2 vB) (fun k hk => by cases hk; exact .inl h.foot))).widen (fun b hb => hb.imp_right (fun hh => by omega))

section
variable (w : World) (F : Nat → Prop) (n : Nat) (most lost : Int) (v : Value) (H : List (Dg × Value))

set_option maxRecDepth 100000 in
theorem takeR_out (h : NetAt w F n (netR most lost) v H) (k : Int) (hno : ¬ (0 ≤ k ∧ k < H.length)) :
    Calls Try.prog 19 #[.pointer (some ⟨n, 0, none⟩), .int .i64 k] w fun e w' => e = .returned (.tuple #[.agg #[.int .i64 0, .int .i64 0, .slice none 0 0], .bool false]) ∧ Below w.heap.size w w' := by
  have HN := Lib.hid h
  clear h
  go_enter Try.func19, Try.ntmps19
  go_wp2_with fail
  refine (peekR_out _ F n most lost v H (HN.out.alloc _) k hno).mono ?_
  rintro e w1 ⟨rfl, hb⟩
  have hz := hb.size
  simp only [World.size_alloc] at hz
  have k0 : w1.cell? ⟨w.heap.size, 0, none⟩ = some (.int .i64 0) := (hb.cell (by simp)).trans (by go_simp)
  have k1 : w1.cell? ⟨w.heap.size, 1, none⟩ = some (.int .i64 0) := (hb.cell (by simp)).trans (by go_simp)
  have k2 : w1.cell? ⟨w.heap.size, 2, none⟩ = some (.slice none 0 0) := (hb.cell (by simp)).trans (by go_simp)
  have q0 : w1.frozen? ⟨w.heap.size, 0, none⟩ = false := (hb.frozen (by simp)).trans (by go_simp)
  have q1 : w1.frozen? ⟨w.heap.size, 1, none⟩ = false := (hb.frozen (by simp)).trans (by go_simp)
  have q2 : w1.frozen? ⟨w.heap.size, 2, none⟩ = false := (hb.frozen (by simp)).trans (by go_simp)
  have HB : Hid (Below w.heap.size w w1) := Lib.hid (((Below.refl _ _).alloc (Nat.le_refl _) _).trans (hb.mono (by simp)))
  have hlt : w.heap.size < w1.heap.size := by omega
  clear hb
  go_wp2_with fail
  obtain ⟨r0, r1, r2⟩ := set3_cells k0 k1 k2 (.int .i64 0) (.int .i64 0) (.slice none 0 0)
  have hs0 := alloc_cell r0 (.cells #[.int .i64 0, .int .i64 0, .slice none 0 0] 31)
  have hs1 := alloc_cell r1 (.cells #[.int .i64 0, .int .i64 0, .slice none 0 0] 31)
  have hs2 := alloc_cell r2 (.cells #[.int .i64 0, .int .i64 0, .slice none 0 0] 31)
  exact bodyPost_ret (v := .tuple #[.agg #[.int .i64 0, .int .i64 0, .slice none 0 0], .bool false]) (by simp [results, Try.results19, go_sem, hs0, hs1, hs2]) rfl ⟨rfl, (set3_below HB.out _ (Nat.le_refl _) _ _ _).alloc (by simp; omega) _⟩

set_option maxHeartbeats 4000000 in
set_option maxRecDepth 100000 in
theorem takeR_in (h : NetAt w F n (netR most lost) v H) (k : Nat) (d : Dg) (sv : Value) (hk : H[k]? = some (d, sv)) (hlen : H.length ≤ 256) :
    Calls Try.prog 19 #[.pointer (some ⟨n, 0, none⟩), .int .i64 k] w fun e w' => e = .returned (.tuple #[.agg #[.int .i64 d.fr, .int .i64 d.to, sv], .bool true]) ∧ w'.ownsRow 0 5 1 sv d.bs.length (u8s d.bs) ∧ ∃ F' v', NetAt w' F' n (netR most lost) v' (H.eraseIdx k) ∧ Chg F F' w w' := by
  obtain ⟨j0, hj, hy0, hy1, hy2⟩ := info_parts Try.info31
  obtain ⟨hkl, _⟩ := List.getElem?_eq_some_iff.1 hk
  have hmem := List.mem_of_getElem? hk
  have HN := Lib.hid h
  have hdg := h.dg _ hmem
  obtain ⟨bo, bc, hbs, _⟩ := owns_slice hdg.1
  simp only at hbs hdg
  subst hbs
  have HS := Lib.hid hdg.1
  have HSN : Hid ((Value.slice bo d.bs.length bc).ownBlock ≠ some n) := Lib.hid (owns_typeR hdg.1 h.blk (by decide))
  have HSW : Hid ((Value.slice bo d.bs.length bc).ownBlock ≠ some w.heap.size) := Lib.hid (fun e => by have := (hdg.1.lt _ e).2; omega)
  obtain ⟨g, cap, rfl, _, hg, hlc, hcm⟩ := owned_head h.row (by omega)
  clear h hdg hmem
  go_enter Try.func19, Try.ntmps19
  go_wp2_with fail
  refine (peekR_in _ F n most lost _ H (HN.out.alloc _) k d _ hk).mono ?_
  rintro e w1 ⟨rfl, hb⟩
  have hz := hb.size
  simp only [World.size_alloc] at hz
  have k0 : w1.cell? ⟨w.heap.size, 0, none⟩ = some (.int .i64 0) := (hb.cell (by simp)).trans (by go_simp)
  have k1 : w1.cell? ⟨w.heap.size, 1, none⟩ = some (.int .i64 0) := (hb.cell (by simp)).trans (by go_simp)
  have k2 : w1.cell? ⟨w.heap.size, 2, none⟩ = some (.slice none 0 0) := (hb.cell (by simp)).trans (by go_simp)
  have q0 : w1.frozen? ⟨w.heap.size, 0, none⟩ = false := (hb.frozen (by simp)).trans (by go_simp)
  have q1 : w1.frozen? ⟨w.heap.size, 1, none⟩ = false := (hb.frozen (by simp)).trans (by go_simp)
  have q2 : w1.frozen? ⟨w.heap.size, 2, none⟩ = false := (hb.frozen (by simp)).trans (by go_simp)
  have HN1 := Lib.hid ((HN.out.alloc (.cells #[.int .i64 0, .int .i64 0, .slice none 0 0] 31)).below hb (Nat.le_refl _))
  have HB : Hid (Below w.heap.size w w1) := Lib.hid (((Below.refl _ _).alloc (Nat.le_refl _) _).trans (hb.mono (by simp)))
  have HS1 := Lib.hid (owns_below HS.out HB.out (Nat.le_refl _))
  obtain ⟨c0, c1, c2, f0, f2⟩ := HN1.out.cellsR
  have hn := HN.out.lt n HN.out.foot
  have hlt : w.heap.size < w1.heap.size := by omega
  have hn1 : n < w1.heap.size := by omega
  have hn2 : n < w1.heap.size + 1 := by omega
  have hkc : (k : Int) ≤ cap := by omega
  have hk1 : IntKind.i64.wrap ((k : Int) + 1) = (k : Int) + 1 := IntWalk.i64_in _ (by omega)
  have hk2 : (k : Int) + 1 ≤ H.length := by omega
  have hk3 : (0 : Int) ≤ (k : Int) + 1 := by omega
  have hk5 : (k : Int) ≤ (k : Int) + 1 := by omega
  have HNF : Hid (∀ z b, w.heap.size ≤ b → b ≤ w1.heap.size → ¬ (F b ∨ (w1.heap.size + 1 ≤ b ∧ b < z))) := by
    refine Lib.hid fun z b h1 h2 h3 => ?_
    rcases h3 with h3 | h3
    · have := HN.out.lt b h3; omega
    · omega
  clear hb hk
  have HY : Hid ((w1.alloc (.cells #[.int .i64 d.fr, .int .i64 d.to, .slice bo d.bs.length bc] 31)).cell? ⟨n, 2, none⟩ = some (.slice (some ⟨g, 0, none⟩) H.length cap)) := Lib.hid (alloc_cell c0 _)
  have HYF : Hid ((w1.alloc (.cells #[.int .i64 d.fr, .int .i64 d.to, .slice bo d.bs.length bc] 31)).frozen? ⟨n, 2, none⟩ = false) := Lib.hid (by go_simp)
  have HB1 : Hid (Below w1.heap.size w1 (w1.alloc (.cells #[.int .i64 d.fr, .int .i64 d.to, .slice bo d.bs.length bc] 31))) := Lib.hid ((Below.refl _ _).alloc (Nat.le_refl _) _)
  obtain ⟨W1, hW1⟩ : ∃ W1, W1 = ((w1.alloc (.cells #[.int .i64 d.fr, .int .i64 d.to, .slice bo d.bs.length bc] 31)).alloc (.cells #[] 31)).drew := ⟨_, rfl⟩
  have hlit : W1.ownsRow (w1.heap.size + 1) 31 3 (.slice (some ⟨w1.heap.size + 1, 0, none⟩) 0 0) 0 [] := by
    have := (World.ownsRow_lit (base := w1.heap.size + 1) (e := 31) (size := 3) (w1.alloc (.cells #[.int .i64 d.fr, .int .i64 d.to, .slice bo d.bs.length bc] 31)) #[] 0 (by simp) (by decide) rfl).drew
    simp only [World.size_alloc] at this
    rw [hW1]; exact this
  have hbW : Below (w1.heap.size + 1) (w1.alloc (.cells #[.int .i64 d.fr, .int .i64 d.to, .slice bo d.bs.length bc] 31)) W1 := by rw [hW1]; exact ((Below.refl _ _).alloc (by simp) _).drew
  have hzW : W1.heap.size = w1.heap.size + 2 := by rw [hW1]; simp
  have HRT := Lib.hid (owns_below (owns_below HN1.out.row HB1.out (Nat.le_refl _)) hbW (by simp))
  have HLIT := Lib.hid hlit
  have HBW := Lib.hid hbW
  have HONE := Lib.hid (dcells_oneCell (H := H) (fun p hp => by obtain ⟨a, c, he, _⟩ := owns_slice (HN.out.dg p hp).1; exact ⟨a, _, c, he⟩))
  have HA0 : Hid ((dcells (H.take k)).length = k * 3) := Lib.hid (by rw [dcells_length, List.length_take]; omega)
  have HA1 : Hid ((dcells (H.drop (k + 1))).length = (H.length - (k + 1)) * 3) := Lib.hid (by rw [dcells_length, List.length_drop])
  clear hlit hbW
  by_cases hce : cap = k + 1
  · subst hce
    have HNIL : Hid (H.drop (k + 1) = []) := Lib.hid (List.drop_eq_nil_of_le (by omega))
    have HLE : Hid (H.length - (k + 1) = 0) := Lib.hid (by omega)
    go_wp2_with fail
    go_region_law (first
      | (refine step_append_any (by rfl) (.tmp 16) (.tmp 22) 22 (by rfl) (w1.heap.size + 1) 31 j0 (.agg #[.int .i64 0, .int .i64 0, .slice none 0 0]) 3 40 Try.underlying22 hj hy0 hy1 hy2 rfl (by decide) (.slice (some ⟨w1.heap.size + 1, 0, none⟩) 0 0) 0 [] (by rfl) (hW1 ▸ HLIT.out) (some ⟨g, 0, none⟩) k (k + 1) (dcells (H.take k)) (by rfl) HA0.out (hW1 ▸ src_take HRT.out rfl k (by omega)) (fun u hu => HONE.out u (by rw [← dcells_take] at hu; exact List.mem_of_mem_take hu)) (by unfold maxLen; omega) (by omega) (by simp) ?_; rw [← hW1]; intro vA wA hA gA _; rw [Nat.zero_add, List.nil_append] at hA; obtain ⟨aoA, cA, rfl, _⟩ := owns_slice hA; have hzA := gA.size; have HA := Lib.hid hA; have HbA := Lib.hid (HBW.out.grown gA (by omega) (by intro q hq; cases hq; exact Nat.le_refl _)); have yA := (HbA.out.cell (p := ⟨n, 2, none⟩) (by simp; omega)).trans HY.out; clear hA gA)
      | (refine step_append_any (by rfl) (.tmp 23) (.tmp 30) 22 (by rfl) (w1.heap.size + 1) 31 j0 (.agg #[.int .i64 0, .int .i64 0, .slice none 0 0]) 3 40 Try.underlying22 hj hy0 hy1 hy2 rfl (by decide) (.slice aoA k cA) k (dcells (H.take k)) (by rfl) HA.out (some ⟨g, 0, none⟩) 0 0 ([]) (by rfl) rfl src_none (by simp) (by unfold maxLen; omega) (by omega) (by omega) ?_; intro vB wB hB gB _; simp only [Nat.add_zero, List.append_nil] at hB; obtain ⟨aoB, cB, rfl, _⟩ := owns_slice hB; have HBr := Lib.hid hB; have HbB := Lib.hid (HbA.out.grown gB (by omega) (fun q hq => (HA.out.lt q hq).1)); have yB := (HbB.out.cell (p := ⟨n, 2, none⟩) (by simp; omega)).trans HY.out; have fB := (HbB.out.frozen (p := ⟨n, 2, none⟩) (by simp; omega)).trans HYF.out; clear hB gB))
    all_goals
      have hkH : k < H.length := hkl
      have hhB : wB.ownsRow (w1.heap.size + 1) 31 3 (.slice aoB k cB) (H.eraseIdx k).length (dcells (H.eraseIdx k)) := by
        rw [← erase_length hkH, ← erase_parts hkH, Nat.zero_add, List.nil_append]
        rw [HNIL.out, HLE.out, Nat.add_zero, show dcells ([] : List (Dg × Value)) = [] from rfl, List.append_nil]
        exact HBr.out
      obtain ⟨hN2, hC2⟩ := HN1.out.relaid ((HB1.out).trans (HbB.out.mono (by simp))) hhB (Nat.le_succ _) (fun p hp => List.mem_of_mem_eraseIdx hp)
      have hS2 : (wB.setCell ⟨n, 2, none⟩ (.slice aoB k cB)).ownsRow 0 5 1 (.slice bo d.bs.length bc) d.bs.length (u8s d.bs) := (owns_below HS1.out (HB1.out.trans (HbB.out.mono (by simp))) (Nat.le_refl _)).kept (grown_set _ _ _ _) (.inr HSN.out)
      have HN3 := Lib.hid hN2
      have HC3 := Lib.hid hC2
      have HS3 := Lib.hid hS2
      have hoth : ∀ a : Addr, a.block ≤ w1.heap.size → a.block ≠ n → (wB.setCell ⟨n, 2, none⟩ (.slice aoB k cB)).cell? a = (w1.alloc (.cells #[.int .i64 d.fr, .int .i64 d.to, .slice bo d.bs.length bc] 31)).cell? a ∧ (wB.setCell ⟨n, 2, none⟩ (.slice aoB k cB)).frozen? a = (w1.alloc (.cells #[.int .i64 d.fr, .int .i64 d.to, .slice bo d.bs.length bc] 31)).frozen? a := fun a h1 h2 =>
        have he : (wB.setCell ⟨n, 2, none⟩ (.slice aoB k cB)).heap[a.block]? = (w1.alloc (.cells #[.int .i64 d.fr, .int .i64 d.to, .slice bo d.bs.length bc] 31)).heap[a.block]? := (Below.heap_setCell _ _ _ _ h2).trans (HbB.out.block _ (by omega))
        ⟨World.cell?_of_block he, World.frozen?_of_block he⟩
      have z0 := (hoth ⟨w1.heap.size, 0, none⟩ (Nat.le_refl _) (by simp; omega)).1.trans (show _ = some (.int .i64 d.fr) by go_simp)
      have z1 := (hoth ⟨w1.heap.size, 1, none⟩ (Nat.le_refl _) (by simp; omega)).1.trans (show _ = some (.int .i64 d.to) by go_simp)
      have z2 := (hoth ⟨w1.heap.size, 2, none⟩ (Nat.le_refl _) (by simp; omega)).1.trans (show _ = some (.slice bo d.bs.length bc) by go_simp)
      have p0 := (hoth ⟨w.heap.size, 0, none⟩ (by simp; omega) (by simp; omega)).1.trans (show _ = some (.int .i64 0) by go_simp)
      have p1 := (hoth ⟨w.heap.size, 1, none⟩ (by simp; omega) (by simp; omega)).1.trans (show _ = some (.int .i64 0) by go_simp)
      have p2 := (hoth ⟨w.heap.size, 2, none⟩ (by simp; omega) (by simp; omega)).1.trans (show _ = some (.slice none 0 0) by go_simp)
      have t0 := (hoth ⟨w.heap.size, 0, none⟩ (by simp; omega) (by simp; omega)).2.trans (show _ = false by go_simp)
      have t1 := (hoth ⟨w.heap.size, 1, none⟩ (by simp; omega) (by simp; omega)).2.trans (show _ = false by go_simp)
      have t2 := (hoth ⟨w.heap.size, 2, none⟩ (by simp; omega) (by simp; omega)).2.trans (show _ = false by go_simp)
      have hzB : w1.heap.size < (wB.setCell ⟨n, 2, none⟩ (.slice aoB k cB)).heap.size := World.block_lt_of_cell? _ _ z0
      clear hN2 hC2 hS2 hhB hoth yA yB fB
      generalize wB.setCell ⟨n, 2, none⟩ (.slice aoB k cB) = WW at *
      go_wp2_with fail
      obtain ⟨r0, r1, r2⟩ := set3_cells p0 p1 p2 (.int .i64 d.fr) (.int .i64 d.to) (.slice bo d.bs.length bc)
      refine bodyPost_ret (v := .tuple #[.agg #[.int .i64 d.fr, .int .i64 d.to, .slice bo d.bs.length bc], .bool true]) (by simp [results, Try.results19, go_sem, r0, r1, r2]) rfl ⟨rfl, set3_owns HS3.out _ HSW.out _ _ _, ?_⟩
      have hA := HN3.out.set3 w.heap.size (HNF.out _ w.heap.size (Nat.le_refl _) (by omega)) (.int .i64 d.fr) (.int .i64 d.to) (.slice bo d.bs.length bc)
      have hC := ((Chg.of_below (F := F) HB.out (Nat.le_refl _)).trans HC3.out).set3 w.heap.size (Nat.le_refl _) (.int .i64 d.fr) (.int .i64 d.to) (.slice bo d.bs.length bc)
      first
        | exact ⟨_, _, hA, hC⟩
        | exact ⟨_, ⟨_, hA⟩, hC⟩
  · go_wp2_with fail
    go_region_law (first
      | (refine step_append_any (by rfl) (.tmp 16) (.tmp 22) 22 (by rfl) (w1.heap.size + 1) 31 j0 (.agg #[.int .i64 0, .int .i64 0, .slice none 0 0]) 3 40 Try.underlying22 hj hy0 hy1 hy2 rfl (by decide) (.slice (some ⟨w1.heap.size + 1, 0, none⟩) 0 0) 0 [] (by rfl) (hW1 ▸ HLIT.out) (some ⟨g, 0, none⟩) k cap (dcells (H.take k)) (by rfl) HA0.out (hW1 ▸ src_take HRT.out rfl k (by omega)) (fun u hu => HONE.out u (by rw [← dcells_take] at hu; exact List.mem_of_mem_take hu)) (by unfold maxLen; omega) (by omega) (by simp) ?_; rw [← hW1]; intro vA wA hA gA _; rw [Nat.zero_add, List.nil_append] at hA; obtain ⟨aoA, cA, rfl, _⟩ := owns_slice hA; have hzA := gA.size; have HA := Lib.hid hA; have HbA := Lib.hid (HBW.out.grown gA (by omega) (by intro q hq; cases hq; exact Nat.le_refl _)); have yA := (HbA.out.cell (p := ⟨n, 2, none⟩) (by simp; omega)).trans HY.out; clear hA gA)
      | (refine step_append_any (by rfl) (.tmp 23) (.tmp 30) 22 (by rfl) (w1.heap.size + 1) 31 j0 (.agg #[.int .i64 0, .int .i64 0, .slice none 0 0]) 3 40 Try.underlying22 hj hy0 hy1 hy2 rfl (by decide) (.slice aoA k cA) k (dcells (H.take k)) (by rfl) HA.out (some ⟨g, (k + 1) * 3, none⟩) (H.length - (k + 1)) (cap - (k + 1)) (dcells (H.drop (k + 1))) (by rfl) HA1.out (src_drop (owns_below (owns_below HN1.out.row HB1.out (Nat.le_refl _)) HbA.out (by simp)) rfl (k + 1) (by omega)) (fun u hu => HONE.out u (by rw [← dcells_drop] at hu; exact List.mem_of_mem_drop hu)) (by unfold maxLen; omega) (by omega) (by omega) ?_; intro vB wB hB gB _; obtain ⟨aoB, cB, rfl, _⟩ := owns_slice hB; have HBr := Lib.hid hB; have HbB := Lib.hid (HbA.out.grown gB (by omega) (fun q hq => (HA.out.lt q hq).1)); have yB := (HbB.out.cell (p := ⟨n, 2, none⟩) (by simp; omega)).trans HY.out; have fB := (HbB.out.frozen (p := ⟨n, 2, none⟩) (by simp; omega)).trans HYF.out; clear hB gB))
    all_goals
      have hkH : k < H.length := hkl
      have hhB : wB.ownsRow (w1.heap.size + 1) 31 3 (.slice aoB (k + (H.length - (k + 1))) cB) (H.eraseIdx k).length (dcells (H.eraseIdx k)) := by
        rw [← erase_length hkH, ← erase_parts hkH, Nat.zero_add, List.nil_append]
        exact HBr.out
      obtain ⟨hN2, hC2⟩ := HN1.out.relaid ((HB1.out).trans (HbB.out.mono (by simp))) hhB (Nat.le_succ _) (fun p hp => List.mem_of_mem_eraseIdx hp)
      have hS2 : (wB.setCell ⟨n, 2, none⟩ (.slice aoB (k + (H.length - (k + 1))) cB)).ownsRow 0 5 1 (.slice bo d.bs.length bc) d.bs.length (u8s d.bs) := (owns_below HS1.out (HB1.out.trans (HbB.out.mono (by simp))) (Nat.le_refl _)).kept (grown_set _ _ _ _) (.inr HSN.out)
      have HN3 := Lib.hid hN2
      have HC3 := Lib.hid hC2
      have HS3 := Lib.hid hS2
      have hoth : ∀ a : Addr, a.block ≤ w1.heap.size → a.block ≠ n → (wB.setCell ⟨n, 2, none⟩ (.slice aoB (k + (H.length - (k + 1))) cB)).cell? a = (w1.alloc (.cells #[.int .i64 d.fr, .int .i64 d.to, .slice bo d.bs.length bc] 31)).cell? a ∧ (wB.setCell ⟨n, 2, none⟩ (.slice aoB (k + (H.length - (k + 1))) cB)).frozen? a = (w1.alloc (.cells #[.int .i64 d.fr, .int .i64 d.to, .slice bo d.bs.length bc] 31)).frozen? a := fun a h1 h2 =>
        have he : (wB.setCell ⟨n, 2, none⟩ (.slice aoB (k + (H.length - (k + 1))) cB)).heap[a.block]? = (w1.alloc (.cells #[.int .i64 d.fr, .int .i64 d.to, .slice bo d.bs.length bc] 31)).heap[a.block]? := (Below.heap_setCell _ _ _ _ h2).trans (HbB.out.block _ (by omega))
        ⟨World.cell?_of_block he, World.frozen?_of_block he⟩
      have z0 := (hoth ⟨w1.heap.size, 0, none⟩ (Nat.le_refl _) (by simp; omega)).1.trans (show _ = some (.int .i64 d.fr) by go_simp)
      have z1 := (hoth ⟨w1.heap.size, 1, none⟩ (Nat.le_refl _) (by simp; omega)).1.trans (show _ = some (.int .i64 d.to) by go_simp)
      have z2 := (hoth ⟨w1.heap.size, 2, none⟩ (Nat.le_refl _) (by simp; omega)).1.trans (show _ = some (.slice bo d.bs.length bc) by go_simp)
      have p0 := (hoth ⟨w.heap.size, 0, none⟩ (by simp; omega) (by simp; omega)).1.trans (show _ = some (.int .i64 0) by go_simp)
      have p1 := (hoth ⟨w.heap.size, 1, none⟩ (by simp; omega) (by simp; omega)).1.trans (show _ = some (.int .i64 0) by go_simp)
      have p2 := (hoth ⟨w.heap.size, 2, none⟩ (by simp; omega) (by simp; omega)).1.trans (show _ = some (.slice none 0 0) by go_simp)
      have t0 := (hoth ⟨w.heap.size, 0, none⟩ (by simp; omega) (by simp; omega)).2.trans (show _ = false by go_simp)
      have t1 := (hoth ⟨w.heap.size, 1, none⟩ (by simp; omega) (by simp; omega)).2.trans (show _ = false by go_simp)
      have t2 := (hoth ⟨w.heap.size, 2, none⟩ (by simp; omega) (by simp; omega)).2.trans (show _ = false by go_simp)
      have hzB : w1.heap.size < (wB.setCell ⟨n, 2, none⟩ (.slice aoB (k + (H.length - (k + 1))) cB)).heap.size := World.block_lt_of_cell? _ _ z0
      clear hN2 hC2 hS2 hhB hoth yA yB fB
      generalize wB.setCell ⟨n, 2, none⟩ (.slice aoB (k + (H.length - (k + 1))) cB) = WW at *
      go_wp2_with fail
      obtain ⟨r0, r1, r2⟩ := set3_cells p0 p1 p2 (.int .i64 d.fr) (.int .i64 d.to) (.slice bo d.bs.length bc)
      refine bodyPost_ret (v := .tuple #[.agg #[.int .i64 d.fr, .int .i64 d.to, .slice bo d.bs.length bc], .bool true]) (by simp [results, Try.results19, go_sem, r0, r1, r2]) rfl ⟨rfl, set3_owns HS3.out _ HSW.out _ _ _, ?_⟩
      have hA := HN3.out.set3 w.heap.size (HNF.out _ w.heap.size (Nat.le_refl _) (by omega)) (.int .i64 d.fr) (.int .i64 d.to) (.slice bo d.bs.length bc)
      have hC := ((Chg.of_below (F := F) HB.out (Nat.le_refl _)).trans HC3.out).set3 w.heap.size (Nat.le_refl _) (.int .i64 d.fr) (.int .i64 d.to) (.slice bo d.bs.length bc)
      first
        | exact ⟨_, _, hA, hC⟩
        | exact ⟨_, ⟨_, hA⟩, hC⟩
end
end Go.Proofs.Ytibagcgnaceimaa
