/- Pick: any number as one of 0 to m - 1. -/
import Derived.Test.YtibagcgnaceimaaV
namespace Go.Proofs.Ytibagcgnaceimaa
open Go.ChangeShapes Go.WideShapes Go.ChangeAt Go.RowKit
set_option linter.unusedVariables false

theorem pick_neg (n m : Int) (hn : n < 0) (hm : 0 < m) : n.tmod m = 0 ∧ n % m = 0 ∨ n.tmod m < 0 ∧ n % m = n.tmod m + m := by
  obtain ⟨k, rfl⟩ : ∃ k, n = -k := ⟨-n, by omega⟩
  rw [Int.neg_tmod, Int.tmod_eq_emod_of_nonneg (by omega)]
  have h1 := Int.emod_nonneg k (show m ≠ 0 by omega)
  have h2 := Int.emod_lt_of_pos k hm
  have e : k = m * (k / m) + k % m := (Int.mul_ediv_add_emod k m).symm
  generalize k % m = r at *
  generalize k / m = q at *
  by_cases h0 : r = 0
  · refine .inl ⟨by omega, ?_⟩
    rw [e, h0, Int.add_zero, show -(m * q) = m * (-q) by rw [Int.mul_neg]]
    exact Int.mul_emod_right _ _
  · refine .inr ⟨by omega, ?_⟩
    rw [e, show -(m * q + r) = (m - r) + m * (-(q + 1)) by rw [Int.mul_neg, Int.mul_add]; omega, Int.add_mul_emod_self_left, Int.emod_eq_of_lt (by omega) (by omega)]
    omega

theorem ret_int {k : IntKind} {a b : Int} (h : a = b) : Ending.returned (.int k a) = .returned (.int k b) := by rw [h]

theorem pick_any (n m : Int) (w : World) (h0 : -9223372036854775808 ≤ n) (h1 : n ≤ 9223372036854775807) (hm : 0 < m) (hm1 : m ≤ 1000000) :
    Calls Try.prog 16 #[.int .i64 n, .int .i64 m] w fun e w' => e = .returned (.int .i64 (n % m)) ∧ w = w' := by
  by_cases hn : 0 ≤ n
  · have g1 := Int.emod_nonneg n (show m ≠ 0 by omega)
    have hz : (m == 0) = false := beq_eq_false_iff_ne.2 (by omega)
    go_enter Try.func16, Try.ntmps16
    go_wp2
    go_ret
    exact ⟨rfl, rfl⟩
  · have hz : (m == 0) = false := beq_eq_false_iff_ne.2 (by omega)
    have key := pick_neg n m (by omega) hm
    generalize hr : n % m = r at key ⊢
    have ht : -m ≤ n.tmod m ∧ n.tmod m < m := by
      have h3 := Int.emod_lt_of_pos n hm
      have h4 := Int.emod_nonneg n (show m ≠ 0 by omega)
      omega
    clear hr
    rcases key with ⟨k1, k2⟩ | ⟨k1, k2⟩
    · have K := Lib.hid k2
      clear k2
      go_enter Try.func16, Try.ntmps16
      go_wp2
      go_ret
      exact ⟨ret_int K.out.symm, rfl⟩
    · have K := Lib.hid k2
      clear k2
      go_enter Try.func16, Try.ntmps16
      go_wp2
      go_ret
      exact ⟨ret_int K.out.symm, rfl⟩

end Go.Proofs.Ytibagcgnaceimaa
