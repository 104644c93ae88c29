/- IDs of two lists that are the same; Pick. -/
import Derived.Test.YthlgbjbandelkaaU
namespace Go.Proofs.Ythlgbjbandelkaa
open Go.ChangeShapes Go.WideShapes Go.ChangeAt Go.RowKit
set_option linter.unusedVariables false

theorem pick_neg (n m : Int) (hn : n < 0) (hm : 0 < m) : n.tmod m = 0 ∧ n % m = 0 ∨ n.tmod m < 0 ∧ n % m = n.tmod m + m := by
  obtain ⟨k, rfl⟩ : ∃ k, n = -k := ⟨-n, by omega⟩
  rw [Int.neg_tmod, Int.tmod_eq_emod_of_nonneg (by omega)]
  have h1 := Int.emod_nonneg k (show m ≠ 0 by omega)
  have h2 := Int.emod_lt_of_pos k hm
  have e : k = m * (k / m) + k % m := (Int.mul_ediv_add_emod k m).symm
  generalize k % m = r at *
  generalize k / m = q at *
  by_cases h0 : r = 0
  · refine .inl ⟨by omega, ?_⟩
    rw [e, h0, Int.add_zero, show -(m * q) = m * (-q) by rw [Int.mul_neg]]
    exact Int.mul_emod_right _ _
  · refine .inr ⟨by omega, ?_⟩
    rw [e, show -(m * q + r) = (m - r) + m * (-(q + 1)) by rw [Int.mul_neg, Int.mul_add]; omega, Int.add_mul_emod_self_left, Int.emod_eq_of_lt (by omega) (by omega)]
    omega

theorem ret_int {k : IntKind} {a b : Int} (h : a = b) : Ending.returned (.int k a) = .returned (.int k b) := by rw [h]

theorem pick_any (n m : Int) (w : World) (h0 : -9223372036854775808 ≤ n) (h1 : n ≤ 9223372036854775807) (hm : 0 < m) (hm1 : m ≤ 1000000) :
    Calls Try.prog 10 #[.int .i64 n, .int .i64 m] w fun e w' => e = .returned (.int .i64 (n % m)) ∧ w = w' := by
  by_cases hn : 0 ≤ n
  · have g1 := Int.emod_nonneg n (show m ≠ 0 by omega)
    have hz : (m == 0) = false := beq_eq_false_iff_ne.2 (by omega)
    go_enter Try.func10, Try.ntmps10
    go_wp2
    go_ret
    exact ⟨rfl, rfl⟩
  · have hz : (m == 0) = false := beq_eq_false_iff_ne.2 (by omega)
    have key := pick_neg n m (by omega) hm
    generalize hr : n % m = r at key ⊢
    have ht : -m ≤ n.tmod m ∧ n.tmod m < m := by
      have h3 := Int.emod_lt_of_pos n hm
      have h4 := Int.emod_nonneg n (show m ≠ 0 by omega)
      omega
    clear hr
    rcases key with ⟨k1, k2⟩ | ⟨k1, k2⟩
    · have K := Lib.hid k2
      clear k2
      go_enter Try.func10, Try.ntmps10
      go_wp2
      go_ret
      exact ⟨ret_int K.out.symm, rfl⟩
    · have K := Lib.hid k2
      clear k2
      go_enter Try.func10, Try.ntmps10
      go_wp2
      go_ret
      exact ⟨ret_int K.out.symm, rfl⟩

/-- A slice of IDs that can be read. -/
def IdsAt (w : World) (ao : Option Addr) (l : List (Int × Int)) : Prop :=
  0 < l.length → ∃ b, ao = some ⟨b, 0, none⟩ ∧ RowAt w b l.length (fun i => l.getD i (0, 0))

theorem idCells_at (l : List (Int × Int)) (i : Nat) (h : i < l.length) : (idCells l)[i * 2]? = some (.int .i64 (l.getD i (0, 0)).1) ∧ (idCells l)[i * 2 + 1]? = some (.int .u64 (l.getD i (0, 0)).2) := by
  induction l generalizing i with
  | nil => simp at h
  | cons x r ih =>
    cases i with
    | zero => simp [idCells]
    | succ i =>
      have h' : i < r.length := by simpa using h
      have e1 : (i + 1) * 2 = i * 2 + 1 + 1 := by omega
      have e2 : (i + 1) * 2 + 1 = i * 2 + 1 + 1 + 1 := by omega
      rw [e1]
      simp only [idCells, List.getElem?_cons_succ, List.getD_cons_succ]
      exact ih i h'

theorem owns_ids {w : World} {base : Nat} {v : Value} {l : List (Int × Int)} (h : w.ownsRow base 32 2 v l.length (idCells l)) : ∃ ao c, v = .slice ao l.length c ∧ IdsAt w ao l := by
  rcases h.2 with ⟨rfl, h0⟩ | ⟨g, cap, cur, rfl, _⟩
  · exact ⟨none, 0, by rw [h0], fun h1 => by omega⟩
  · refine ⟨_, cap, rfl, fun _ => ⟨g, rfl, fun i hi => ?_⟩⟩
    obtain ⟨h1, h2⟩ := idCells_at l i hi
    exact ⟨(h.cellAt _ (by omega)).trans h1, (h.cellAt _ (by omega)).trans h2⟩

theorem IdsAt.below {w w' : World} {ao : Option Addr} {l : List (Int × Int)} (h : IdsAt w ao l) (hb : Below w.heap.size w w') : IdsAt w' ao l := by
  intro h0
  obtain ⟨b, h1, h2⟩ := h h0
  exact ⟨b, h1, h2.below hb⟩

theorem ids_same (ao bo : Option Addr) (c d : Nat) (l : List (Int × Int)) (w : World) (hl : (l.length : Int) ≤ 1000000) (ha : IdsAt w ao l) (hb : IdsAt w bo l) :
    Calls Try.prog 17 #[.slice ao l.length c, .slice bo l.length d] w fun e w' => e = .returned (.bool true) ∧ ∃ q, w.drewN q = w' := by
  have HA := Lib.hid ha
  have HB := Lib.hid hb
  clear ha hb
  generalize hn : l.length = n at *
  have HN := Lib.hid hn
  clear hn
  go_enter Try.func17, Try.ntmps17
  go_wp2_with fail
  go_loopw [5] (fun i wr => ∃ k q : Nat, k ≤ n ∧ i = .int .i64 k ∧ wr = w.drewN q) (fun i _ => n - (intOf i).toNat)
  case atStart => exact ⟨0, 0, Nat.zero_le _, rfl, rfl⟩
  case round =>
    obtain ⟨k, q, hk, rfl, rfl⟩ := hrel
    by_cases hlt : k < n
    · obtain ⟨b1, rfl, r1⟩ := HA.out (by rw [HN.out]; omega)
      obtain ⟨b2, rfl, r2⟩ := HB.out (by rw [HN.out]; omega)
      obtain ⟨c1, c2⟩ := r1 k (by rw [HN.out]; exact hlt)
      obtain ⟨c3, c4⟩ := r2 k (by rw [HN.out]; exact hlt)
      clear r1 r2
      simp only at c1 c2 c3 c4
      generalize l.getD k (0, 0) = x at c1 c2 c3 c4
      obtain ⟨a, r⟩ := x
      simp only at c1 c2 c3 c4
      go_wp2_with fail
      go_quiet (fail)
      go_wp2_with fail
      go_roundw
      case rel => exact ⟨k + 1, q + nq, by omega, by go_num, by simp⟩
      case measure => simp [intOf]; omega
    · go_wp2_with fail
      go_ret
      exact ⟨rfl, q, rfl⟩
end Go.Proofs.Ythlgbjbandelkaa
