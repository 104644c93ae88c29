/- The reference's NewRoots. -/
import Derived.Test.YthlgbjbandelkaaN
import Derived.Deep.RegionLaw
import Derived.Deep.AppendLies
namespace Go.Proofs.Ythlgbjbandelkaa
open Go.ChangeShapes Go.WideShapes Go.ChangeAt Go.RowKit Go.Deep
set_option linter.unusedVariables false

def rowVals (bs : Nat → Nat) (S k : Nat) : List Value := (List.range k).map fun j => Value.slice (some ⟨bs j, 0, none⟩) S S

/-- The loop of NewRoots: the first k rows are made and hang at the pointer. -/
structure MadeR (w0 w : World) (p S k : Nat) (v : Value) (bs : Nat → Nat) : Prop where
  head : w.cell? ⟨p, 0, none⟩ = some v
  free : w.frozen? ⟨p, 0, none⟩ = false
  own : w.ownsRow (p + 1) 39 1 v k (rowVals bs S k)
  each : ∀ j, j < k → p < bs j ∧ v.ownBlock ≠ some (bs j) ∧ w.rowIs (bs j) 32 (S * 2) zeroAt
  mono : ∀ j j', j < j' → j' < k → bs j < bs j'
  below : Below w0.heap.size w0 w
  hp : w0.heap.size ≤ p
  lt : p < w.heap.size

theorem MadeR.step {w0 w W w1 : World} {p S k g cap : Nat} {v : Value} {bs : Nat → Nat} (h : MadeR w0 w p S k v bs) (hW : Below w.heap.size w W) (hWs : W.heap.size = w.heap.size + 2) (hrow : W.rowIs w.heap.size 32 (S * 2) zeroAt)
    (hown : w1.ownsRow (p + 1) 39 1 (.slice (some ⟨g, 0, none⟩) (k + 1) cap) (k + 1) (rowVals bs S k ++ [.slice (some ⟨w.heap.size, 0, none⟩) S S])) (hgrow : W.grownBy w1 v.ownBlock) (hat : v.ownBlock = some g ∨ g = w.heap.size + 2) :
    MadeR w0 (w1.setCell ⟨p, 0, none⟩ (.slice (some ⟨g, 0, none⟩) (k + 1) cap)) p S (k + 1) (.slice (some ⟨g, 0, none⟩) (k + 1) cap) (fun j => if j < k then bs j else w.heap.size) := by
  have hlt := h.lt
  have hps : W.heap[p]? = w.heap[p]? := hW.block p hlt
  have hpo : some p ≠ v.ownBlock := by
    intro e
    have := (h.own.lt p e.symm).1
    omega
  have hp1 : w1.heap[p]? = w.heap[p]? := (hgrow.block p (by omega) hpo).trans hps
  have hsz1 := hgrow.size
  have each1 : ∀ j, j < k → w1.rowIs (bs j) 32 (S * 2) zeroAt := by
    intro j hj
    obtain ⟨_, h2, h3⟩ := h.each j hj
    exact (h3.of_block (hW.block _ h3.lt)).of_block (hgrow.block _ (by have := h3.lt; omega) (Ne.symm h2))
  have hnew : w1.rowIs w.heap.size 32 (S * 2) zeroAt := by
    refine hrow.of_block (hgrow.block _ (by omega) ?_)
    intro e
    have := (h.own.lt _ e.symm).2
    omega
  refine ⟨?_, ?_, ?_, ?_, ?_, ?_, h.hp, by simp; omega⟩
  · exact World.cell?_setCell_same (u := v) _ _ _ ((World.cell?_of_block (w := w) hp1).trans h.head)
  · rw [World.frozen?_setCell]
    exact (World.frozen?_of_block (w := w) hp1).trans h.free
  · have e : rowVals (fun j => if j < k then bs j else w.heap.size) S (k + 1) = rowVals bs S k ++ [.slice (some ⟨w.heap.size, 0, none⟩) S S] := by
      simp only [rowVals, List.range_succ, List.map_append, List.map_cons, List.map_nil, Nat.lt_irrefl, if_false]
      congr 1
      refine List.map_congr_left fun j hj => ?_
      rw [if_pos (List.mem_range.1 hj)]
    rw [e]
    exact ownsRow_setCell_below hown (by simp) _
  · intro j hj
    by_cases e : j < k
    · obtain ⟨h1, h2, h3⟩ := h.each j e
      have h3l := h3.lt
      simp only [if_pos e, Value.ownBlock]
      refine ⟨h1, ?_, (each1 j e).setOther (by simp; omega) _⟩
      intro he
      rcases hat with h4 | h4
      · exact h2 (h4.trans he)
      · have := Option.some.inj he; omega
    · simp only [if_neg e, Value.ownBlock]
      refine ⟨hlt, ?_, hnew.setOther (by simp; omega) _⟩
      intro he
      have he := Option.some.inj he
      rcases hat with h4 | h4
      · have := (h.own.lt _ h4).2; omega
      · omega
  · intro j j' h1 h2
    by_cases e : j' < k
    · simp only [if_pos e, if_pos (Nat.lt_trans h1 e)]; exact h.mono j j' h1 e
    · have hj : j < k := by omega
      simp only [if_neg e, if_pos hj]; exact (h.each j hj).2.2.lt
  · have hwz := h.below.size
    have hp := h.hp
    refine ((h.below.trans (hW.mono hwz)).grown hgrow (by omega) ?_).setCell (by simpa using hp) _
    intro b hb
    have := (h.own.lt b hb).1
    omega

/-- What NewRoots leaves: a pointer, slots that hold none. -/
def NewRPost (M S : Nat) (w : World) (e : Ending) (w' : World) : Prop :=
  ∃ p rb cap bs, e = .returned (.pointer (some ⟨p, 0, none⟩)) ∧ Lay w' p M S (fun _ _ => (0, 0)) w.heap.size w'.heap.size rb cap bs ∧ Below w.heap.size w w'

theorem MadeR.lay {w0 w : World} {p M S : Nat} {v : Value} {bs : Nat → Nat} (h : MadeR w0 w p S M v bs) (hM : 0 < M) : NewRPost M S w0 (.returned (.pointer (some ⟨p, 0, none⟩))) w := by
  obtain ⟨g, cap, hv, hg1, hg2, _, _⟩ := owned_head h.own hM
  have hlt := h.lt
  have hp := h.hp
  have own := h.own
  rw [hv] at own
  refine ⟨p, g, cap, bs, rfl, ⟨Nat.le_refl _, ⟨hp, hlt⟩, ⟨by omega, hg2⟩, by omega, ?_, ?_, ?_, ?_, ?_, ?_, ?_⟩, h.below⟩
  · intro m hm
    obtain ⟨h1, h2, h3⟩ := h.each m hm
    have := h3.lt
    refine ⟨by omega, this, by omega, ?_⟩
    intro e
    rw [hv, e] at h2
    exact h2 rfl
  · intro m m' hm hm' e
    rcases Nat.lt_trichotomy m m' with g | g | g
    · have := h.mono m m' g hm'; omega
    · exact g
    · have := h.mono m' m g hm; omega
  · rw [← hv]; exact h.head
  · intro m hm
    rw [own.cellAt m (by omega)]
    simp [rowVals, List.getElem?_range hm]
  · intro m s hm hs
    rw [(h.each m hm).2.2.cell (by omega), zero_even]
  · intro m s hm hs
    rw [(h.each m hm).2.2.cell (by omega), zero_odd]
  · intro m j hm
    exact (h.each m hm).2.2.frozen j

theorem madeIds_row (w : World) (S : Nat) : (w.alloc (.cells (madeCells #[.int .i64 0, .int .u64 0] (S * 2)) 32)).rowIs w.heap.size 32 (S * 2) zeroAt :=
  ⟨_, blk_alloc_new _ _, size_madeCells _ _, fun i hi => Array.getElem?_toList.symm.trans (made_ids S i hi)⟩

theorem one_new {w : World} {n t : Nat} {v : Value} (hn : n = w.heap.size) : ∀ j u, [v][j]? = some u → ((w.alloc (.cells #[v] t)).drew).cell? ((⟨n, 0, none⟩ : Addr).add j) = some u := by
  subst hn; exact cell_one_new _ _ _

theorem held_alloc {w : World} {a : Addr} {v : Value} (h : w.cell? a = some v) (f : w.frozen? a = false) (o : Obj) : (w.alloc o).cell? a = some v ∧ (w.alloc o).frozen? a = false :=
  have hl := World.block_lt_of_cell? _ _ h
  ⟨(World.cell?_alloc_lt _ _ _ hl).trans h, (frozen_alloc_lt _ _ _ hl).trans f⟩

theorem held_grown {w w' : World} {a : Addr} {v : Value} {row : Option Nat} (h : w.cell? a = some v) (f : w.frozen? a = false) (hg : w.grownBy w' row) (hne : row ≠ some a.block) : w'.cell? a = some v ∧ w'.frozen? a = false :=
  have hl := World.block_lt_of_cell? _ _ h
  ⟨(World.cell?_of_block (w := w) (hg.block _ hl (Ne.symm hne))).trans h, (World.frozen?_of_block (w := w) (hg.block _ hl (Ne.symm hne))).trans f⟩

set_option maxRecDepth 100000 in
theorem newR_ok (M S : Nat) (w : World) (h1 : (1 : Int) ≤ M) (h2 : (M : Int) ≤ 4) (h3 : (1 : Int) ≤ S) (h4 : (S : Int) ≤ 8) :
    Calls Try.prog 9 #[.int .i64 M, .int .i64 S] w (NewRPost M S w) := by
  obtain ⟨i0, hi, hz0, hz1, hz2⟩ := info_parts Try.info39
  obtain ⟨j0, hj, hy0, hy1, hy2⟩ := info_parts Try.info32
  have hmk : ∀ wx, (Instr.makeSlice 39 (.int .i64 S) (.int .i64 S)).run Try.prog wx = .ok (.slice (some ⟨wx.heap.size, 0, none⟩) S S) (wx.alloc (.cells (madeCells #[.int .i64 0, .int .u64 0] (S * 2)) 32)) := by
    intro wx
    have := run_make (P := Try.prog) wx 39 32 j0 (.agg #[.int .i64 0, .int .u64 0]) Try.underlying39 hj hy0 .i64 .i64 S S (by omega) (by omega) (by rw [hy2]; omega) (by omega)
    rw [hy1] at this
    simp only [Int.toNat_natCast] at this
    exact this
  go_enter Try.func9, Try.ntmps9
  go_wp2_with fail
  go_loopw [6] (fun i wr => ∃ (k : Nat) (v : Value) (bs : Nat → Nat), k ≤ M ∧ i = .int .i64 k ∧ MadeR w wr w.heap.size S k v bs) (fun i _ => M - (intOf i).toNat)
  case atStart =>
    refine ⟨0, .slice none 0 0, fun _ => 0, Nat.zero_le _, rfl, ⟨by go_simp, by go_simp, World.ownsRow_nil _ _ _ _, fun j hj => by omega, fun j j' _ h => by omega, (Below.refl _ _).alloc (Nat.le_refl _) _, Nat.le_refl _, by simp⟩⟩
  case round =>
    obtain ⟨k, v, bs, hk, rfl, hmade⟩ := hrel
    have HW := Lib.hid hmade
    have c1 := hmade.head
    have f1 := hmade.free
    have l1 := hmade.lt
    have hsz := hmade.below.size
    have hne : v.ownBlock ≠ some w.heap.size := by
      intro e
      have := (hmade.own.lt _ e).1
      omega
    clear hmade
    by_cases hlt : k < M
    · go_wp2_with fail
      have l2 : w.heap.size < wr.heap.size + 1 := by omega
      go_region_law ((refine step_append_lies _ (by rfl) _ _ _ (by rfl) (w.heap.size + 1) 39 i0 _ 1 24 Try.underlying40 hi hz0 hz1 hz2 rfl (by omega) v k (rowVals bs S k) (by rfl) (((HW.out.own.alloc _).alloc _).drew) _ 1 1 [.slice (some ⟨wr.heap.size, 0, none⟩) S S] (by rfl) (by rfl) (one_new (by simp)) (by simp [Value.oneCell']) (by omega) (by unfold maxLen; omega) (by omega) (by simp; omega) (wr.heap.size + 2) (by simp) ?_; intro g cap w1 hown1 hgrow hat hlt; obtain ⟨c2, f2⟩ := held_grown (a := ⟨w.heap.size, 0, none⟩) (v := v) (by go_simp) (by go_simp) hgrow hne))
      all_goals
        have HS := Lib.hid (HW.out.step ((((Below.refl _ _).alloc (Nat.le_refl _) _).alloc (by simp) _).drew) (by simp) ((madeIds_row wr S).alloc _) hown1 hgrow hat)
        clear hown1 hgrow hat c2 f2
        go_wp2_with fail
        go_roundw
        case rel => exact ⟨k + 1, _, _, by omega, by go_num, HS.out⟩
        case measure => simp [intOf]; omega
    · obtain rfl : k = M := by omega
      go_wp2_with fail
      go_ret
      exact HW.out.lay (by omega)
end Go.Proofs.Ythlgbjbandelkaa
