/- Send, the program's and the reference's (written by netsend.py). -/
import Derived.Test.YtibagcgnaceimaaD
import Derived.Deep.RegionLaw
namespace Go.Proofs.Ytibagcgnaceimaa
open Go.ChangeShapes Go.WideShapes Go.ChangeAt Go.RowKit
set_option linter.unusedVariables false

theorem owns_type {w : World} {b b' : Nat} {e e' : TypeId} {s s' : Nat} {v v' : Value} {n n' : Nat} {xs xs' : List Value} (h : w.ownsRow b e s v n xs) (h' : w.ownsRow b' e' s' v' n' xs') (he : e ≠ e') (g : Nat) (hg : v.ownBlock = some g) : v'.ownBlock ≠ some g := by
  intro hg'
  obtain ⟨c, hc⟩ := owns_at h g hg
  obtain ⟨c', hc'⟩ := owns_at h' g hg'
  rw [hc] at hc'
  simp only [Option.some.injEq, Obj.cells.injEq] at hc'
  exact he hc'.2.1
theorem owns_typeP {w : World} {b : Nat} {e : TypeId} {s : Nat} {v u : Value} {n k : Nat} {most lost : Int} {xs : List Value} (h : w.ownsRow b e s v n xs) (hk : w.heap[k]? = some (netP most lost u)) (he : e ≠ 51) : v.ownBlock ≠ some k := by
  intro hg
  obtain ⟨c, hc⟩ := owns_at h k hg
  rw [hk] at hc
  simp only [netP, Option.some.injEq, Obj.cells.injEq] at hc
  exact he hc.2.1.symm
theorem owns_typeR {w : World} {b : Nat} {e : TypeId} {s : Nat} {v u : Value} {n k : Nat} {most lost : Int} {xs : List Value} (h : w.ownsRow b e s v n xs) (hk : w.heap[k]? = some (netR most lost u)) (he : e ≠ 45) : v.ownBlock ≠ some k := by
  intro hg
  obtain ⟨c, hc⟩ := owns_at h k hg
  rw [hk] at hc
  simp only [netR, Option.some.injEq, Obj.cells.injEq] at hc
  exact he hc.2.1.symm
theorem setP0 {w : World} {n : Nat} {most lost : Int} {v : Value} (h : w.heap[n]? = some (netP most lost v)) (u : Value) : (w.setCell ⟨n, 0, none⟩ u).heap[n]? = some (netP most lost u) := (heap_setCell_same _ _ _ _ _ _ h).trans (by simp [netP])
theorem setP2 {w : World} {n : Nat} {most lost : Int} {v : Value} (h : w.heap[n]? = some (netP most lost v)) (x : Int) : (w.setCell ⟨n, 2, none⟩ (.int .i64 x)).heap[n]? = some (netP most x v) := (heap_setCell_same _ _ _ _ _ _ h).trans (by simp [netP])
theorem setR2 {w : World} {n : Nat} {most lost : Int} {v : Value} (h : w.heap[n]? = some (netR most lost v)) (u : Value) : (w.setCell ⟨n, 2, none⟩ u).heap[n]? = some (netR most lost u) := (heap_setCell_same _ _ _ _ _ _ h).trans (by simp [netR])
theorem setR1 {w : World} {n : Nat} {most lost : Int} {v : Value} (h : w.heap[n]? = some (netR most lost v)) (x : Int) : (w.setCell ⟨n, 1, none⟩ (.int .i64 x)).heap[n]? = some (netR most x v) := (heap_setCell_same _ _ _ _ _ _ h).trans (by simp [netR])

theorem Chg.widen {F G F' : Nat → Prop} {w w' : World} (h : Chg F G w w') (hf : ∀ b, F' b → F b ∨ w.heap.size ≤ b) : Chg F F' w w' := ⟨h.os, h.tape, h.output, h.size, h.block, hf⟩

theorem NetAt.drewN {w : World} {F : Nat → Prop} {n : Nat} {B : Value → Obj} {v : Value} {H : List (Dg × Value)} (h : NetAt w F n B v H) (q : Nat) : NetAt (w.drewN q) F n B v H := ⟨h.blk, h.row, h.foot, h.rowF, h.dg, h.lt, h.small⟩
theorem NetAt.drew {w : World} {F : Nat → Prop} {n : Nat} {B : Value → Obj} {v : Value} {H : List (Dg × Value)} (h : NetAt w F n B v H) : NetAt w.drew F n B v H := ⟨h.blk, h.row, h.foot, h.rowF, h.dg, h.lt, h.small⟩
theorem NetAt.alloc {w : World} {F : Nat → Prop} {n : Nat} {B : Value → Obj} {v : Value} {H : List (Dg × Value)} (h : NetAt w F n B v H) (o : Obj) : NetAt (w.alloc o) F n B v H := h.below ((Below.refl _ _).alloc (Nat.le_refl _) o) (Nat.le_refl _)
theorem below_drewN {B : Nat} {a w : World} (h : Below B a w) (n : Nat) : Below B a (w.drewN n) := h.trans ⟨rfl, rfl, rfl, Nat.le_refl _, fun _ _ => rfl⟩

/-- A cell of the net's own block is written. -/
theorem NetAt.stored {w : World} {F : Nat → Prop} {n : Nat} {B B' : Value → Obj} {v : Value} {H : List (Dg × Value)} (h : NetAt w F n B v H) (j : Nat) (u : Value) (hb : (w.setCell ⟨n, j, none⟩ u).heap[n]? = some (B' v)) (hn1 : v.ownBlock ≠ some n) (hn2 : ∀ p ∈ H, p.2.ownBlock ≠ some n) :
    NetAt (w.setCell ⟨n, j, none⟩ u) F n B' v H :=
  ⟨hb, h.row.kept (grown_set _ _ _ _) (.inr hn1), h.foot, h.rowF, fun p hp => ⟨(h.dg p hp).1.kept (grown_set _ _ _ _) (.inr (hn2 p hp)), (h.dg p hp).2⟩, by simpa using h.lt, h.small⟩

/-- One more datagram: the row anew or longer, its bytes in new memory. -/
theorem NetAt.more {w w3 : World} {F : Nat → Prop} {n z : Nat} {B : Value → Obj} {v v2 v3 : Value} {H : List (Dg × Value)} {d : Dg} (h : NetAt w F n B v H) (hd : w.ownsRow z 5 1 v2 d.bs.length (u8s d.bs)) (hz : ∀ b, F b → b < z)
    (hown : w3.ownsRow 0 31 3 v3 (H.length + 1) (dcells H ++ [.int .i64 d.fr, .int .i64 d.to, v2])) (hg : w.grownBy w3 v.ownBlock) (g : Nat) (hv3 : v3.ownBlock = some g) (hat : v.ownBlock = some g ∨ z ≤ g) (hlt : g < w3.heap.size)
    (hn : v.ownBlock ≠ some n) (hsm : d.bs.length ≤ 1024) :
    NetAt w3 (fun b => F b ∨ (z ≤ b ∧ b < w3.heap.size)) n (fun _ => B v) v3 (H ++ [(d, v2)]) := by
  have hrow : ∀ k, v.ownBlock = some k → k < z := fun k hk => hz k (h.rowF k hk)
  refine ⟨(hg.block n (h.lt n h.foot) (fun e => hn e.symm)).trans h.blk, ?_, .inl h.foot, fun k hk => ?_, fun p hp => ?_, fun b hb => ?_, fun p hp => ?_⟩
  · rw [dcells_append, dcells_one, List.length_append]; exact hown
  · rw [hv3] at hk; cases hk
    rcases hat with e | e
    · exact .inl (h.rowF _ e)
    · exact .inr ⟨e, hlt⟩
  · rcases List.mem_append.1 hp with hp | hp
    · have hdp := h.dg p hp
      exact ⟨hdp.1.kept hg (by
        cases he : p.2.ownBlock with
        | none => exact .inl rfl
        | some k => exact .inr (fun e => owns_type hdp.1 h.row (by decide) k he e.symm)), fun k hk => .inl (hdp.2 k hk)⟩
    · rw [List.mem_singleton] at hp
      subst hp
      have hk1 := hd.kept hg (by
        cases he : v2.ownBlock with
        | none => exact .inl rfl
        | some k => exact .inr (fun e => by have := (hd.lt k he).1; have := hrow k e.symm; omega))
      exact ⟨owns_weaken hk1 (Nat.zero_le _), fun k hk => .inr ⟨(hk1.lt k hk).1, (hk1.lt k hk).2⟩⟩
  · rcases hb with hb | hb
    · exact Nat.lt_of_lt_of_le (h.lt b hb) hg.size
    · exact hb.2
  · rcases List.mem_append.1 hp with hp | hp
    · exact h.small p hp
    · rw [List.mem_singleton] at hp; subst hp; exact hsm

theorem below_cell {w w' : World} {k : Nat} (h : Below k w w') {a : Addr} {v : Value} (hc : w.cell? a = some v) (hk : w.heap.size ≤ k := by exact Nat.le_refl _) : w'.cell? a = some v :=
  (h.cell (p := a) (Nat.lt_of_lt_of_le (World.block_lt_of_cell? _ _ hc) hk)).trans hc
theorem alloc_cell {w : World} {a : Addr} {v : Value} (hc : w.cell? a = some v) (o : Obj) : (w.alloc o).cell? a = some v :=
  (World.cell?_alloc_lt _ _ _ (World.block_lt_of_cell? _ _ hc)).trans hc

section
variable (w : World) (F : Nat → Prop) (n : Nat) (most lost : Int) (v : Value) (H : List (Dg × Value))

theorem send_more {W w2 w3 : World} {F : Nat → Prop} {n g cc : Nat} {most lost : Int} {v : Value} {H : List (Dg × Value)} {fr to : Int} {bs : List Int} {v2 : Value} (h : NetAt w2 F n (netP most lost) v H) (h2 : w2.ownsRow W.heap.size 5 1 v2 bs.length (u8s bs))
    (hown : w3.ownsRow 0 31 3 (.slice (some ⟨g, 0, none⟩) (H.length + 1) cc) (H.length + 1) (dcells H ++ [.int .i64 fr, .int .i64 to, v2])) (hg : (w2.alloc (.cells #[.int .i64 fr, .int .i64 to, v2] 31)).grownBy w3 v.ownBlock) (hat : v.ownBlock = some g ∨ g = w2.heap.size + 1) (hlt : g < w3.heap.size)
    (hb : bs.length ≤ 1024) (hz : ∀ b, F b → b < W.heap.size) (hn : v.ownBlock ≠ some n) (hz2 : W.heap.size ≤ w2.heap.size) :
    Hid (NetAt w3 (fun b => F b ∨ (W.heap.size ≤ b ∧ b < w3.heap.size)) n (fun _ => netP most lost v) (.slice (some ⟨g, 0, none⟩) (H.length + 1) cc) (H ++ [(⟨fr, to, bs⟩, v2)])) ∧ w3.cell? ⟨n, 0, none⟩ = some v ∧ w3.frozen? ⟨n, 0, none⟩ = false := by
  have hM := (h.alloc (.cells #[.int .i64 fr, .int .i64 to, v2] 31)).more (d := ⟨fr, to, bs⟩) (owns_keep h2 (fun k hk => Below.heap_alloc _ _ _ (h2.lt k hk).2)) hz hown hg g rfl (hat.imp_right (fun e => by omega)) hlt hn hb
  refine ⟨Lib.hid hM, ?_, ?_⟩
  · have := hM.blk; simp [World.cell?, this, netP]
  · have := hM.blk; simp [World.frozen?, this, netP]

set_option maxRecDepth 100000 in
theorem send_no (h : NetAt w F n (netP most lost) v H) (fr to : Int) (bo : Option Addr) (bc : Nat) (bl : Nat) (hno : most ≤ H.length ∨ 1024 < bl) (hb : (bl : Int) ≤ 140737488355328) (hlost : 0 ≤ lost ∧ lost ≤ 1000000) :
    Calls Try.prog 10 #[.pointer (some ⟨n, 0, none⟩), .agg #[.int .i64 fr, .int .i64 to, .slice bo bl bc]] w fun e w' => e = .returned (.bool false) ∧ NetAt w' F n (netP most (lost + 1)) v H ∧ Chg F F w w' := by
  obtain ⟨c0, c1, c2, f0, f2⟩ := h.cellsP
  have hn := h.lt n h.foot
  have HN := Lib.hid h
  have HO1 := Lib.hid (owns_typeP (b := 0) (n := H.length) h.row h.blk (by decide))
  have HO2 := Lib.hid fun p hp => owns_typeP (b := 0) (n := (p : Dg × Value).1.bs.length) (h.dg p hp).1 h.blk (by decide)
  obtain ⟨ao, c, rfl, _⟩ := owns_slice h.row
  have q1 : IntKind.i64.wrap (lost + 1) = lost + 1 := IntWalk.i64_in _ (by omega)
  have hways : most ≤ H.length ∨ ((H.length : Int) < most ∧ (1024 : Int) < bl) := by omega
  clear h hno
  rcases hways with g1 | ⟨g1, g2⟩
  all_goals
    go_enter Try.func10, Try.ntmps10
    go_wp2_with fail
    go_quiet (fail)
    go_wp2_with fail
    go_ret
    refine ⟨rfl, (((HN.out.alloc _).drewN _).stored 2 (.int .i64 (lost + 1)) (setP2 ((HN.out.alloc _).drewN _).blk _) HO1.out HO2.out), ?_⟩
    exact (Chg.of_below (below_drewN ((Below.refl _ _).alloc (Nat.le_refl _) _) _) (Nat.le_refl _)).trans (Chg.grown (grown_set _ _ _ _) (fun k hk => by cases hk; exact .inl HN.out.foot))

set_option maxHeartbeats 2000000 in
set_option maxRecDepth 100000 in
theorem send_yes (h : NetAt w F n (netP most lost) v H) (fr to : Int) (bo : Option Addr) (bc : Nat) (bs : List Int) (hs : SrcAt w bo bs.length bc (u8s bs)) (hroom : (H.length : Int) < most) (hmost : most ≤ 256) (hb : bs.length ≤ 1024) :
    Calls Try.prog 10 #[.pointer (some ⟨n, 0, none⟩), .agg #[.int .i64 fr, .int .i64 to, .slice bo bs.length bc]] w fun e w' => e = .returned (.bool true) ∧ ∃ F' v' sv, NetAt w' F' n (netP most lost) v' (H ++ [(⟨fr, to, bs⟩, sv)]) ∧ Chg F F' w w' := by
  obtain ⟨j0, hj, hy0, hy1, hy2⟩ := info_parts Try.info31
  obtain ⟨c0, c1, c2, f0, f2⟩ := h.cellsP
  have hn := h.lt n h.foot
  have HN := Lib.hid h
  have HO1 := Lib.hid (owns_typeP (b := 0) (n := H.length) h.row h.blk (by decide))
  obtain ⟨ao, c, rfl, _⟩ := owns_slice h.row
  have HS := Lib.hid hs
  have hbi : (bs.length : Int) ≤ 1024 := by omega
  clear h hs
  go_enter Try.func10, Try.ntmps10
  go_wp2_with fail
  go_quiet (fail)
  go_wp2_with fail
  have HNW := Lib.hid (((HN.out.alloc (.cells #[.int .i64 fr, .int .i64 to, .slice bo bs.length bc] 31)).drewN nq).drew)
  have HSW : Hid (SrcAt (((w.alloc (.cells #[.int .i64 fr, .int .i64 to, .slice bo bs.length bc] 31)).drewN nq).drew) bo bs.length bc (u8s bs)) := Lib.hid (HS.out.alloc _)
  have HC0 : Hid ((((w.alloc (.cells #[.int .i64 fr, .int .i64 to, .slice bo bs.length bc] 31)).drewN nq).drew).cell? ⟨n, 0, none⟩ = some (.slice ao H.length c)) := Lib.hid (by go_simp)
  have HC1 : Hid ((((w.alloc (.cells #[.int .i64 fr, .int .i64 to, .slice bo bs.length bc] 31)).drewN nq).drew).cell? ⟨w.heap.size, 0, none⟩ = some (.int .i64 fr)) := Lib.hid (by go_simp)
  have HC2 : Hid ((((w.alloc (.cells #[.int .i64 fr, .int .i64 to, .slice bo bs.length bc] 31)).drewN nq).drew).cell? ⟨w.heap.size, 1, none⟩ = some (.int .i64 to)) := Lib.hid (by go_simp)
  have HC3 : Hid ((((w.alloc (.cells #[.int .i64 fr, .int .i64 to, .slice bo bs.length bc] 31)).drewN nq).drew).cell? ⟨w.heap.size, 2, none⟩ = some (.slice bo bs.length bc)) := Lib.hid (by go_simp)
  have HZ : Hid (∀ b, F b → b < (((w.alloc (.cells #[.int .i64 fr, .int .i64 to, .slice bo bs.length bc] 31)).drewN nq).drew).heap.size) := Lib.hid (HNW.out.lt)
  have HZ2 : Hid ((Value.slice ao H.length c).ownBlock ≠ some n) := HO1
  go_region_law (first
    | (refine step_append_lies _ (by rfl) (.tmp 32) (.tmp 35) 22 (by rfl) 0 31 j0 (.agg #[.int .i64 0, .int .i64 0, .slice none 0 0]) 3 40 Try.underlying22 hj hy0 hy1 hy2 rfl (by decide) (.slice ao H.length c) H.length (dcells H) (by rfl) ((HNW.out.below hb2 (Nat.le_refl _)).alloc (.cells #[.int .i64 fr, .int .i64 to, .slice ao2 bs.length c2] 31)).row ⟨w2.heap.size, 0, none⟩ 1 1 [.int .i64 fr, .int .i64 to, .slice ao2 bs.length c2] (by rfl) (by rfl) (World.news_of_block (heap_alloc_new _ _)) (by intro u hu; simp at hu; rcases hu with rfl | rfl | rfl <;> rfl) (by omega) (by unfold maxLen; omega) (by omega) (Nat.zero_le _) (w2.heap.size + 1) (by simp) ?_; intro g3 cc3 w3 hown3 hg3 hat hlt3; obtain ⟨hM, y0, yf⟩ := send_more (HNW.out.below hb2 (Nat.le_refl _)) hown2 hown3 hg3 hat hlt3 hb HZ.out HZ2.out hz2)
    | (go_simp; refine (twin_any fr to bo bc bs _ HSW.out (by omega)).mono ?_; rintro e w2 ⟨v2, rfl, hown2, hb2⟩; obtain ⟨ao2, c2, rfl, _⟩ := owns_slice hown2; have hz2 := hb2.size; have x0 := below_cell hb2 HC0.out; have x1 := below_cell hb2 HC1.out; have x2 := below_cell hb2 HC2.out; have x3 := below_cell hb2 HC3.out; have xn : n < w2.heap.size := World.block_lt_of_cell? _ _ x0; have xw : w.heap.size < w2.heap.size := World.block_lt_of_cell? _ _ x1))
  all_goals
    have hn3 := owns_typeP hM.out.row hM.out.blk (by decide)
    have hn4 := fun p hp => owns_typeP (hM.out.dg p hp).1 hM.out.blk (by decide)
    have HE := Lib.hid (hM.out.stored (B' := netP most lost) 0 (.slice (some ⟨g3, 0, none⟩) (H.length + 1) cc3) (setP0 hM.out.blk _) hn3 hn4)
    have hW : Below w.heap.size w w2 := ((below_drewN ((Below.refl _ _).alloc (Nat.le_refl _) (.cells #[.int .i64 fr, .int .i64 to, .slice bo bs.length bc] 31)) nq).drew).trans (hb2.mono (by simp))
    have HCH := Lib.hid (((((Chg.of_below (F := F) hW (Nat.le_refl _)).trans (Chg.of_below ((Below.refl _ _).alloc (Nat.le_refl _) _) (Nat.le_refl _))).trans (Chg.grown hg3 (fun k hk => .inl (HN.out.rowF k hk)))).trans (Chg.grown (grown_set w3 n 0 (.slice (some ⟨g3, 0, none⟩) (H.length + 1) cc3)) (fun k hk => by cases hk; exact .inl HN.out.foot))).widen (F' := fun b => F b ∨ ((((w.alloc (.cells #[.int .i64 fr, .int .i64 to, .slice bo bs.length bc] 31)).drewN nq).drew).heap.size ≤ b ∧ b < w3.heap.size)) (fun b hb => hb.imp_right (fun h => by have := h.1; simp at this; omega)))
    clear hM hn3 hn4 hW hown2 hown3 hb2 hg3 hat
    go_wp2_with fail
    go_ret
    exact ⟨rfl, _, _, _, HE.out, HCH.out⟩
end

section
variable (w : World) (F : Nat → Prop) (n : Nat) (most lost : Int) (v : Value) (H : List (Dg × Value))

theorem send_moreR {W w2 w3 : World} {F : Nat → Prop} {n g cc : Nat} {most lost : Int} {v : Value} {H : List (Dg × Value)} {fr to : Int} {bs : List Int} {v2 : Value} (h : NetAt w2 F n (netR most lost) v H) (h2 : w2.ownsRow W.heap.size 5 1 v2 bs.length (u8s bs))
    (hown : w3.ownsRow 0 31 3 (.slice (some ⟨g, 0, none⟩) (H.length + 1) cc) (H.length + 1) (dcells H ++ [.int .i64 fr, .int .i64 to, v2])) (hg : (w2.alloc (.cells #[.int .i64 fr, .int .i64 to, v2] 31)).grownBy w3 v.ownBlock) (hat : v.ownBlock = some g ∨ g = w2.heap.size + 1) (hlt : g < w3.heap.size)
    (hb : bs.length ≤ 1024) (hz : ∀ b, F b → b < W.heap.size) (hn : v.ownBlock ≠ some n) (hz2 : W.heap.size ≤ w2.heap.size) :
    Hid (NetAt w3 (fun b => F b ∨ (W.heap.size ≤ b ∧ b < w3.heap.size)) n (fun _ => netR most lost v) (.slice (some ⟨g, 0, none⟩) (H.length + 1) cc) (H ++ [(⟨fr, to, bs⟩, v2)])) ∧ w3.cell? ⟨n, 2, none⟩ = some v ∧ w3.frozen? ⟨n, 2, none⟩ = false := by
  have hM := (h.alloc (.cells #[.int .i64 fr, .int .i64 to, v2] 31)).more (d := ⟨fr, to, bs⟩) (owns_keep h2 (fun k hk => Below.heap_alloc _ _ _ (h2.lt k hk).2)) hz hown hg g rfl (hat.imp_right (fun e => by omega)) hlt hn hb
  refine ⟨Lib.hid hM, ?_, ?_⟩
  · have := hM.blk; simp [World.cell?, this, netR]
  · have := hM.blk; simp [World.frozen?, this, netR]

set_option maxRecDepth 100000 in
theorem send_noR (h : NetAt w F n (netR most lost) v H) (fr to : Int) (bo : Option Addr) (bc : Nat) (bl : Nat) (hno : most ≤ H.length ∨ 1024 < bl) (hb : (bl : Int) ≤ 140737488355328) (hlost : 0 ≤ lost ∧ lost ≤ 1000000) :
    Calls Try.prog 22 #[.pointer (some ⟨n, 0, none⟩), .agg #[.int .i64 fr, .int .i64 to, .slice bo bl bc]] w fun e w' => e = .returned (.bool false) ∧ NetAt w' F n (netR most (lost + 1)) v H ∧ Chg F F w w' := by
  obtain ⟨c0, c1, c2, f0, f2⟩ := h.cellsR
  have hn := h.lt n h.foot
  have HN := Lib.hid h
  have HO1 := Lib.hid (owns_typeR (b := 0) (n := H.length) h.row h.blk (by decide))
  have HO2 := Lib.hid fun p hp => owns_typeR (b := 0) (n := (p : Dg × Value).1.bs.length) (h.dg p hp).1 h.blk (by decide)
  obtain ⟨ao, c, rfl, _⟩ := owns_slice h.row
  have q1 : IntKind.i64.wrap (lost + 1) = lost + 1 := IntWalk.i64_in _ (by omega)
  have hways : most ≤ H.length ∨ ((H.length : Int) < most ∧ (1024 : Int) < bl) := by omega
  clear h hno
  rcases hways with g1 | ⟨g1, g2⟩
  all_goals
    go_enter Try.func22, Try.ntmps22
    go_wp2_with fail
    go_quiet (fail)
    go_wp2_with fail
    go_ret
    refine ⟨rfl, (((HN.out.alloc _).drewN _).stored 1 (.int .i64 (lost + 1)) (setR1 ((HN.out.alloc _).drewN _).blk _) HO1.out HO2.out), ?_⟩
    exact (Chg.of_below (below_drewN ((Below.refl _ _).alloc (Nat.le_refl _) _) _) (Nat.le_refl _)).trans (Chg.grown (grown_set _ _ _ _) (fun k hk => by cases hk; exact .inl HN.out.foot))

set_option maxHeartbeats 2000000 in
set_option maxRecDepth 100000 in
theorem send_yesR (h : NetAt w F n (netR most lost) v H) (fr to : Int) (bo : Option Addr) (bc : Nat) (bs : List Int) (hs : SrcAt w bo bs.length bc (u8s bs)) (hroom : (H.length : Int) < most) (hmost : most ≤ 256) (hb : bs.length ≤ 1024) :
    Calls Try.prog 22 #[.pointer (some ⟨n, 0, none⟩), .agg #[.int .i64 fr, .int .i64 to, .slice bo bs.length bc]] w fun e w' => e = .returned (.bool true) ∧ ∃ F' v' sv, NetAt w' F' n (netR most lost) v' (H ++ [(⟨fr, to, bs⟩, sv)]) ∧ Chg F F' w w' := by
  obtain ⟨j0, hj, hy0, hy1, hy2⟩ := info_parts Try.info31
  obtain ⟨c0, c1, c2, f0, f2⟩ := h.cellsR
  have hn := h.lt n h.foot
  have HN := Lib.hid h
  have HO1 := Lib.hid (owns_typeR (b := 0) (n := H.length) h.row h.blk (by decide))
  obtain ⟨ao, c, rfl, _⟩ := owns_slice h.row
  have HS := Lib.hid hs
  have hbi : (bs.length : Int) ≤ 1024 := by omega
  clear h hs
  go_enter Try.func22, Try.ntmps22
  go_wp2_with fail
  go_quiet (fail)
  go_wp2_with fail
  have HNW := Lib.hid (((HN.out.alloc (.cells #[.int .i64 fr, .int .i64 to, .slice bo bs.length bc] 31)).drewN nq).drew)
  have HSW : Hid (SrcAt (((w.alloc (.cells #[.int .i64 fr, .int .i64 to, .slice bo bs.length bc] 31)).drewN nq).drew) bo bs.length bc (u8s bs)) := Lib.hid (HS.out.alloc _)
  have HC0 : Hid ((((w.alloc (.cells #[.int .i64 fr, .int .i64 to, .slice bo bs.length bc] 31)).drewN nq).drew).cell? ⟨n, 2, none⟩ = some (.slice ao H.length c)) := Lib.hid (by go_simp)
  have HC1 : Hid ((((w.alloc (.cells #[.int .i64 fr, .int .i64 to, .slice bo bs.length bc] 31)).drewN nq).drew).cell? ⟨w.heap.size, 0, none⟩ = some (.int .i64 fr)) := Lib.hid (by go_simp)
  have HC2 : Hid ((((w.alloc (.cells #[.int .i64 fr, .int .i64 to, .slice bo bs.length bc] 31)).drewN nq).drew).cell? ⟨w.heap.size, 1, none⟩ = some (.int .i64 to)) := Lib.hid (by go_simp)
  have HC3 : Hid ((((w.alloc (.cells #[.int .i64 fr, .int .i64 to, .slice bo bs.length bc] 31)).drewN nq).drew).cell? ⟨w.heap.size, 2, none⟩ = some (.slice bo bs.length bc)) := Lib.hid (by go_simp)
  have HZ : Hid (∀ b, F b → b < (((w.alloc (.cells #[.int .i64 fr, .int .i64 to, .slice bo bs.length bc] 31)).drewN nq).drew).heap.size) := Lib.hid (HNW.out.lt)
  have HZ2 : Hid ((Value.slice ao H.length c).ownBlock ≠ some n) := HO1
  go_region_law (first
    | (refine step_append_lies _ (by rfl) (.tmp 32) (.tmp 35) 22 (by rfl) 0 31 j0 (.agg #[.int .i64 0, .int .i64 0, .slice none 0 0]) 3 40 Try.underlying22 hj hy0 hy1 hy2 rfl (by decide) (.slice ao H.length c) H.length (dcells H) (by rfl) ((HNW.out.below hb2 (Nat.le_refl _)).alloc (.cells #[.int .i64 fr, .int .i64 to, .slice ao2 bs.length c2] 31)).row ⟨w2.heap.size, 0, none⟩ 1 1 [.int .i64 fr, .int .i64 to, .slice ao2 bs.length c2] (by rfl) (by rfl) (World.news_of_block (heap_alloc_new _ _)) (by intro u hu; simp at hu; rcases hu with rfl | rfl | rfl <;> rfl) (by omega) (by unfold maxLen; omega) (by omega) (Nat.zero_le _) (w2.heap.size + 1) (by simp) ?_; intro g3 cc3 w3 hown3 hg3 hat hlt3; obtain ⟨hM, y0, yf⟩ := send_moreR (HNW.out.below hb2 (Nat.le_refl _)) hown2 hown3 hg3 hat hlt3 hb HZ.out HZ2.out hz2)
    | (go_simp; refine (copy_any fr to bo bc bs _ HSW.out (by omega)).mono ?_; rintro e w2 ⟨v2, rfl, hown2, hb2⟩; obtain ⟨ao2, c2, rfl, _⟩ := owns_slice hown2; have hz2 := hb2.size; have x0 := below_cell hb2 HC0.out; have x1 := below_cell hb2 HC1.out; have x2 := below_cell hb2 HC2.out; have x3 := below_cell hb2 HC3.out; have xn : n < w2.heap.size := World.block_lt_of_cell? _ _ x0; have xw : w.heap.size < w2.heap.size := World.block_lt_of_cell? _ _ x1))
  all_goals
    have hn3 := owns_typeR hM.out.row hM.out.blk (by decide)
    have hn4 := fun p hp => owns_typeR (hM.out.dg p hp).1 hM.out.blk (by decide)
    have HE := Lib.hid (hM.out.stored (B' := netR most lost) 2 (.slice (some ⟨g3, 0, none⟩) (H.length + 1) cc3) (setR2 hM.out.blk _) hn3 hn4)
    have hW : Below w.heap.size w w2 := ((below_drewN ((Below.refl _ _).alloc (Nat.le_refl _) (.cells #[.int .i64 fr, .int .i64 to, .slice bo bs.length bc] 31)) nq).drew).trans (hb2.mono (by simp))
    have HCH := Lib.hid (((((Chg.of_below (F := F) hW (Nat.le_refl _)).trans (Chg.of_below ((Below.refl _ _).alloc (Nat.le_refl _) _) (Nat.le_refl _))).trans (Chg.grown hg3 (fun k hk => .inl (HN.out.rowF k hk)))).trans (Chg.grown (grown_set w3 n 2 (.slice (some ⟨g3, 0, none⟩) (H.length + 1) cc3)) (fun k hk => by cases hk; exact .inl HN.out.foot))).widen (F' := fun b => F b ∨ ((((w.alloc (.cells #[.int .i64 fr, .int .i64 to, .slice bo bs.length bc] 31)).drewN nq).drew).heap.size ≤ b ∧ b < w3.heap.size)) (fun b hb => hb.imp_right (fun h => by have := h.1; simp at this; omega)))
    clear hM hn3 hn4 hW hown2 hown3 hb2 hg3 hat
    go_wp2_with fail
    go_ret
    exact ⟨rfl, _, _, _, HE.out, HCH.out⟩
end
end Go.Proofs.Ytibagcgnaceimaa
