/- Walks of the laws on clocks. -/
import Derived.Test.YtdmenaihmghifaaF
namespace Go.Proofs.Ytdmenaihmghifaa
open Go.ChangeShapes Go.WideShapes Go.ChangeAt Go.RowKit

theorem walkPast (a0 : Int) (a1 : Int) (a2 : Int) (w : World) (w0 : (Lit.int .u64 a0).wf = true) (_w1 : (Lit.int .u64 a1).wf = true) (w2 : (Lit.int .u64 a2).wf = true) :
    Calls Try.prog 6 #[.int .u64 a0, .int .u64 a1, .int .u64 a2] w fun e w' => e = .returned (.bool true) ∧ Below w.heap.size w w' := by
  have b0 := bounds_u64 w0
  have b2 := bounds_u64 w2
  go_enter Try.func6, Try.ntmps6
  go_wp2_with (first | (go_at_call 11; refine (known_true _).mono ?_; rintro e w' ⟨rfl, rfl⟩) | (go_at_call 14; refine (past_any _ _ _ _ (by omega) (by omega)).mono ?_; rintro e w' ⟨rfl, rfl⟩) | (go_at_call 15; refine (refPast_any _ _ _ _ (by omega) (by omega)).mono ?_; rintro e w' ⟨rfl, rfl⟩))
  go_ret
  exact ⟨rfl, (Below.refl _ _).alloc (Nat.le_refl _) _⟩

theorem walkStays (a0 a1 a2 a3 : Int) (w : World) (w0 : (Lit.int .u64 a0).wf = true) (w1 : (Lit.int .u64 a1).wf = true) (w2 : (Lit.int .u64 a2).wf = true) (w3 : (Lit.int .u64 a3).wf = true) :
    Calls Try.prog 7 #[.int .u64 a0, .int .u64 a1, .int .u64 a2, .int .u64 a3] w fun e w' => e = .returned (.bool true) ∧ Below w.heap.size w w' := by
  have b0 := bounds_u64 w0
  have b1 := bounds_u64 w1
  have b2 := bounds_u64 w2
  have b3 := bounds_u64 w3
  clear w0 w1 w2 w3
  by_cases h : a0 ≤ a2 ∧ a1 ≤ a2 - a0
  · have p1 : PastB a0 a1 a2 = true := by simp [PastB, h]
    have p2 : PastB a0 (a1 / 2) a2 = true := by simp only [PastB, decide_eq_true_eq]; omega
    have p3 : PastB a0 0 a2 = true := by simp only [PastB, decide_eq_true_eq]; omega
    by_cases hm : a3 ≤ 18446744073709551615 - a2
    · have p4 : PastB a0 a1 (a2 + a3) = true := by simp only [PastB, decide_eq_true_eq]; omega
      go_enter Try.func7, Try.ntmps7
      go_wp2_with (first | (go_at_call 11; refine (known_true _).mono ?_; rintro e w' ⟨rfl, rfl⟩) | (go_at_call 14; refine (past_any _ _ _ _ (by omega) (by omega)).mono ?_; rintro e w' ⟨rfl, rfl⟩))
      go_ret
      exact ⟨rfl, (Below.refl _ _).alloc (Nat.le_refl _) _⟩
    · go_enter Try.func7, Try.ntmps7
      go_wp2_with (first | (go_at_call 11; refine (known_true _).mono ?_; rintro e w' ⟨rfl, rfl⟩) | (go_at_call 14; refine (past_any _ _ _ _ (by omega) (by omega)).mono ?_; rintro e w' ⟨rfl, rfl⟩))
      go_ret
      exact ⟨rfl, (Below.refl _ _).alloc (Nat.le_refl _) _⟩
  · have p1 : PastB a0 a1 a2 = false := by simp only [PastB, decide_eq_false_iff_not]; exact h
    clear h
    by_cases hm : a3 ≤ 18446744073709551615 - a2
    all_goals
      go_enter Try.func7, Try.ntmps7
      go_wp2_with (first | (go_at_call 11; refine (known_true _).mono ?_; rintro e w' ⟨rfl, rfl⟩) | (go_at_call 14; refine (past_any _ _ _ _ (by omega) (by omega)).mono ?_; rintro e w' ⟨rfl, rfl⟩))
      go_ret
      exact ⟨rfl, (Below.refl _ _).alloc (Nat.le_refl _) _⟩

theorem walkKnown (w : World) : Calls Try.prog 8 #[] w fun e w' => e = .returned (.bool true) ∧ Below w.heap.size w w' := by
  have f1 : FairB 10 2 2 [8, 12] = true := by decide +kernel
  have f2 : FairB 10 2 1 [13] = false := by decide +kernel
  have f3 : FairB 10 10 0 [] = false := by decide +kernel
  have p1 : PastB 9 0 8 = false := by decide +kernel
  go_enter Try.func8, Try.ntmps8
  go_wp2_with fail
  refine (new_ok _ _ (by omega)).mono ?_
  rintro e w' ⟨rfl, rfl⟩
  go_wp2_with fail
  refine (new_bad _ _ (by omega)).mono ?_
  rintro e w' ⟨rfl, rfl⟩
  go_wp2_with fail
  refine (known_true _).mono ?_
  rintro e w' ⟨rfl, rfl⟩
  go_wp2_with fail
  refine (tick_end _ 4611686018427387904 _ _ (by go_simp) (by omega) (by omega) (by omega) (by omega)).mono ?_
  rintro e w' ⟨rfl, rfl⟩
  go_wp2_with fail
  refine (tick_ok _ 4611686018427387904 _ _ (by go_simp) (by go_simp) (by omega) (by omega) (by omega) (by omega) (by omega)).mono ?_
  rintro e w' ⟨rfl, rfl⟩
  go_wp2_with fail
  refine (tick_arg _ _ _ (by omega)).mono ?_
  rintro e w' ⟨rfl, rfl⟩
  go_wp2_with fail
  refine (fair_any _ _ _ 2 2 [8, 12] _ (by omega) (by omega) (by omega) ?_).mono ?_
  · intro _
    refine ⟨_, _, rfl, fun i hi => ?_⟩
    rcases i with _ | _ | i
    · go_simp
    · go_simp
    · omega
  rintro e w' ⟨rfl, rfl⟩
  go_wp2_with fail
  refine (fair_any _ _ _ 1 1 [13] _ (by omega) (by omega) (by omega) ?_).mono ?_
  · intro _
    refine ⟨_, _, rfl, fun i hi => ?_⟩
    rcases i with _ | i
    · go_simp
    · omega
  rintro e w' ⟨rfl, rfl⟩
  go_wp2_with fail
  refine (fair_any _ _ _ 0 0 [] _ (by omega) (by omega) (by omega) ?_).mono ?_
  · intro h
    omega
  rintro e w' ⟨rfl, rfl⟩
  go_wp2_with fail
  refine (past_any _ _ _ _ (by omega) (by omega)).mono ?_
  rintro e w' ⟨rfl, rfl⟩
  go_wp2_with fail
  go_ret
  exact ⟨rfl, ((((Below.refl _ _).alloc (Nat.le_refl _) _).alloc (by simp) _).alloc (by simp; omega) _).alloc (by simp; omega) _⟩
end Go.Proofs.Ytdmenaihmghifaa
