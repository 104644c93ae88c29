/- Take out of the program's net: those behind it move up. -/
import Derived.Test.YtibagcgnaceimaaI
namespace Go.Proofs.Ytibagcgnaceimaa
open Go.ChangeShapes Go.WideShapes Go.ChangeAt Go.RowKit
set_option linter.unusedVariables false

theorem block_setCells (g : Nat) (e : TypeId) : ∀ (vs : List Value) (o : Nat) (w : World) (cur : Array Value), w.heap[g]? = some (.cells cur e) → o + vs.length ≤ cur.size →
    w.grownBy (w.setCells g o vs) (some g) ∧ (w.setCells g o vs).heap.size = w.heap.size ∧
      ∃ cur', (w.setCells g o vs).heap[g]? = some (.cells cur' e) ∧ cur'.size = cur.size ∧ ∀ j, cur'[j]? = if o ≤ j ∧ j < o + vs.length then vs[j - o]? else cur[j]?
  | [], o, w, cur, h, hb => ⟨World.grownBy.refl _ _, rfl, cur, h, rfl, fun j => by rw [if_neg (by simp)]⟩
  | x :: r, o, w, cur, h, hb => by
    simp only [List.length_cons] at hb
    have h1 : (w.setCell ⟨g, o, none⟩ x).heap[g]? = some (.cells (cur.setIfInBounds o x) e) := heap_setCell_same _ _ _ _ _ _ h
    obtain ⟨k1, k2, cur', k3, k4, k5⟩ := block_setCells g e r (o + 1) (w.setCell ⟨g, o, none⟩ x) _ h1 (by simp; omega)
    have hs := grown_set w g o x
    refine ⟨⟨k1.os.trans hs.os, k1.tape.trans hs.tape, k1.output.trans hs.output, Nat.le_trans hs.size k1.size, fun i hi hn => (k1.block i (Nat.lt_of_lt_of_le hi hs.size) hn).trans (hs.block i hi hn)⟩, k2.trans (by simp), cur', k3, by simpa using k4, fun j => ?_⟩
    rw [k5 j, Array.getElem?_setIfInBounds]
    simp only [List.length_cons]
    by_cases h0 : j = o
    · subst h0
      rw [if_neg (by omega), if_pos rfl, if_pos (by omega), if_pos (by omega)]
      simp
    · rw [if_neg (Ne.symm h0)]
      by_cases h2 : o + 1 ≤ j ∧ j < o + 1 + r.length
      · rw [if_pos h2, if_pos (by omega)]
        have : j - o = (j - (o + 1)) + 1 := by omega
        rw [this, List.getElem?_cons_succ]
      · rw [if_neg h2, if_neg (by omega)]

theorem dcells_take (H : List (Dg × Value)) (k : Nat) : (dcells H).take (k * 3) = dcells (H.take k) := by
  induction H generalizing k with
  | nil => simp [dcells]
  | cons x r ih =>
    cases k with
    | zero => simp [dcells]
    | succ k =>
      have e : (k + 1) * 3 = 3 + k * 3 := by omega
      have ih := ih k
      simp only [dcells, List.flatMap_cons, List.take_succ_cons] at ih ⊢
      rw [e, show 3 + k * 3 = [Value.int .i64 x.1.fr, .int .i64 x.1.to, x.2].length + k * 3 from rfl, List.take_length_add_append, ih]

theorem dcells_drop (H : List (Dg × Value)) (k : Nat) : (dcells H).drop (k * 3) = dcells (H.drop k) := by
  have h := List.take_append_drop (k * 3) (dcells H)
  rw [dcells_take] at h
  have h2 : dcells (H.take k) ++ dcells (H.drop k) = dcells H := by rw [← dcells_append, List.take_append_drop]
  exact List.append_cancel_left (h.trans h2.symm)

/-- The row's cells from k + 1 on, moved to k: the row without its k-th. -/
theorem row_shift {w : World} {g cap : Nat} {H : List (Dg × Value)} (h : w.ownsRow 0 31 3 (.slice (some ⟨g, 0, none⟩) H.length cap) H.length (dcells H)) (k : Nat) (hk : k < H.length) :
    (w.setCells g (k * 3) (dcells (H.drop (k + 1)))).ownsRow 0 31 3 (.slice (some ⟨g, 0, none⟩) (H.length - 1) cap) (H.length - 1) (dcells (H.eraseIdx k)) ∧ w.grownBy (w.setCells g (k * 3) (dcells (H.drop (k + 1)))) (some g) ∧
      (∀ j, j < (dcells (H.drop (k + 1))).length → (w.cell? ⟨g, 0 + k * 3 + j, none⟩).isSome = true ∧ w.frozen? ⟨g, 0 + k * 3 + j, none⟩ = false) := by
  have hl := h.1
  rcases h.2 with ⟨h', _⟩ | ⟨g', cap', cur, h', _, hg, hn, hm, hs, ht⟩
  · simp at h'
  · simp only [Value.slice.injEq, Option.some.injEq, Addr.mk.injEq, and_true, true_and] at h'
    obtain ⟨rfl, rfl⟩ := h'
    have hdl : (dcells (H.drop (k + 1))).length = (H.length - (k + 1)) * 3 := by rw [dcells_length, List.length_drop]
    obtain ⟨k1, _, cur', k3, k4, k5⟩ := block_setCells g 31 (dcells (H.drop (k + 1))) (k * 3) w cur hg (by rw [hdl, hs]; omega)
    have he : H.eraseIdx k = H.take k ++ H.drop (k + 1) := List.eraseIdx_eq_take_drop_succ _ _
    have hel : (H.eraseIdx k).length = H.length - 1 := by rw [List.length_eraseIdx, if_pos hk]
    refine ⟨⟨by rw [dcells_length, hel], .inr ⟨g, cap, cur', rfl, Nat.zero_le _, k3, by omega, hm, k4.trans hs, ?_⟩⟩, k1, fun j hj => ?_⟩
    · apply List.ext_getElem?
      intro j
      rw [List.getElem?_take, he, dcells_append, Array.getElem?_toList, k5 j, hdl]
      by_cases hj : j < (H.length - 1) * 3
      · rw [if_pos hj]
        by_cases hjk : j < k * 3
        · rw [if_neg (by omega), List.getElem?_append_left (by rw [dcells_length, List.length_take]; omega), ← dcells_take, List.getElem?_take, if_pos hjk, ← ht, List.getElem?_take, if_pos (by omega), Array.getElem?_toList]
        · rw [if_pos (by omega), List.getElem?_append_right (by rw [dcells_length, List.length_take]; omega), dcells_length, List.length_take, Nat.min_eq_left (by omega)]
      · rw [if_neg hj, List.getElem?_eq_none (by rw [List.length_append, dcells_length, dcells_length, List.length_take, List.length_drop]; omega)]
    · refine ⟨?_, World.ownsRow.frozenAt h _⟩
      rw [h.cellAt _ (by omega), List.getElem?_eq_getElem (by omega)]
      rfl
end Go.Proofs.Ytibagcgnaceimaa
