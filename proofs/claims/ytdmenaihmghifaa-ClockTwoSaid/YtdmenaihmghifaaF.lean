/- Contracts of Fair, the program's and the reference's. -/
import Derived.Test.YtdmenaihmghifaaC
namespace Go.Proofs.Ytdmenaihmghifaa
open Go.ChangeShapes Go.WideShapes Go.ChangeAt Go.RowKit

/-- What Fair answers of the first 'n' numbers. -/
def FairB (u d : Int) (n : Nat) (zs : List Int) : Bool := decide (1 ≤ u ∧ u ≤ 1048576 ∧ d < u ∧ ∀ j, j < n → u - d ≤ zs.getD j 0 ∧ zs.getD j 0 ≤ u + d)

theorem fair_head (u d : Int) (n : Nat) (zs : List Int) (h : ¬ (1 ≤ u ∧ u ≤ 1048576 ∧ d < u)) : FairB u d n zs = false := by
  simp only [FairB, decide_eq_false_iff_not]; exact fun g => h ⟨g.1, g.2.1, g.2.2.1⟩

theorem fair_any (u d : Int) (a : Option Addr) (n cap : Nat) (zs : List Int) (w : World) (hu : 0 ≤ u) (hd : 0 ≤ d) (hn : n ≤ 9223372036854775807) (hc : Cells .u64 w a n zs) :
    Calls Try.prog 16 #[.int .u64 u, .int .u64 d, .slice a n cap] w fun e w' => e = .returned (.bool (FairB u d n zs)) ∧ w = w' := by
  by_cases h1 : 1 ≤ u
  · by_cases h2 : u ≤ 1048576
    · by_cases h3 : d < u
      · have HC : Hid (Cells .u64 w a n zs) := hc
        clear hc
        go_enter Try.func16, Try.ntmps16
        go_wp2
        go_loop [8, 22] (fun _ i => ∃ k : Nat, k ≤ n ∧ i = .int .i64 k ∧ ∀ j, j < k → u - d ≤ zs.getD j 0 ∧ zs.getD j 0 ≤ u + d) (fun _ i => n - (intOf i).toNat)
        case atStart => exact ⟨0, Nat.zero_le _, rfl, fun j h => absurd h (Nat.not_lt_zero _)⟩
        case round =>
          obtain ⟨k, hk, rfl, hall⟩ := hrel
          have HA : Hid (∀ j, j < k → u - d ≤ zs.getD j 0 ∧ zs.getD j 0 ≤ u + d) := hall
          clear hall
          by_cases hlt : k < n
          · obtain ⟨b, off, rfl, hcell⟩ := HC.out (by omega)
            have hc := hcell k hlt
            generalize hz : zs.getD k 0 = z at hc
            have HZ : Hid (zs.getD k 0 = z) := hz
            clear hz hcell
            by_cases g1 : u - d ≤ z
            · by_cases g2 : z ≤ u + d
              · go_wp2
                go_round
                case rel =>
                  refine ⟨k + 1, by omega, by go_num, fun j hj => ?_⟩
                  by_cases e : j = k
                  · rw [e, HZ.out]; exact ⟨g1, g2⟩
                  · exact HA.out j (by omega)
                case measure => simp [intOf]; omega
              · go_wp2
                go_ret
                refine ⟨ret_bool ?_, rfl⟩
                have : FairB u d n zs = false := by
                  simp only [FairB, decide_eq_false_iff_not]
                  intro g
                  have := g.2.2.2 k hlt
                  rw [HZ.out] at this
                  omega
                rw [this]
            · go_wp2
              go_ret
              refine ⟨ret_bool ?_, rfl⟩
              have : FairB u d n zs = false := by
                simp only [FairB, decide_eq_false_iff_not]
                intro g
                have := g.2.2.2 k hlt
                rw [HZ.out] at this
                omega
              rw [this]
          · go_wp2
            go_ret
            refine ⟨ret_bool ?_, rfl⟩
            have : FairB u d n zs = true := by
              simp only [FairB, decide_eq_true_eq]
              exact ⟨h1, h2, h3, fun j hj => HA.out j (by omega)⟩
            rw [this]
      · rw [fair_head _ _ _ _ (by omega)]
        clear hc
        go_enter Try.func16, Try.ntmps16
        go_wp2
        go_ret
        exact ⟨rfl, rfl⟩
    · rw [fair_head _ _ _ _ (by omega)]
      clear hc
      go_enter Try.func16, Try.ntmps16
      go_wp2
      go_ret
      exact ⟨rfl, rfl⟩
  · rw [fair_head _ _ _ _ (by omega)]
    clear hc
    go_enter Try.func16, Try.ntmps16
    go_wp2
    go_ret
    exact ⟨rfl, rfl⟩
theorem refFair_any (u d : Int) (a : Option Addr) (n cap : Nat) (zs : List Int) (w : World) (hu : 0 ≤ u) (hd : 0 ≤ d) (hn : n ≤ 9223372036854775807) (hc : Cells .u64 w a n zs) :
    Calls Try.prog 17 #[.int .u64 u, .int .u64 d, .slice a n cap] w fun e w' => e = .returned (.bool (FairB u d n zs)) ∧ w = w' := by
  by_cases h1 : 1 ≤ u
  · have e0 : (u == 0) = false := beq_eq_false_iff_ne.2 (by omega)
    by_cases h2 : u ≤ 1048576
    · by_cases h3 : d < u
      · have HC : Hid (Cells .u64 w a n zs) := hc
        clear hc
        go_enter Try.func17, Try.ntmps17
        go_wp2
        go_loop [7] (fun i => ∃ k : Nat, k ≤ n ∧ i = .int .i64 k ∧ ∀ j, j < k → u - d ≤ zs.getD j 0 ∧ zs.getD j 0 ≤ u + d) (fun i => n - (intOf i).toNat)
        case atStart => exact ⟨0, Nat.zero_le _, rfl, fun j h => absurd h (Nat.not_lt_zero _)⟩
        case round =>
          obtain ⟨k, hk, rfl, hall⟩ := hrel
          have HA : Hid (∀ j, j < k → u - d ≤ zs.getD j 0 ∧ zs.getD j 0 ≤ u + d) := hall
          clear hall
          by_cases hlt : k < n
          · obtain ⟨b, off, rfl, hcell⟩ := HC.out (by omega)
            have hc := hcell k hlt
            generalize hz : zs.getD k 0 = z at hc
            have HZ : Hid (zs.getD k 0 = z) := hz
            clear hz hcell
            by_cases g1 : u - d ≤ z
            · by_cases g2 : z ≤ u + d
              · go_wp2
                go_round
                case rel =>
                  refine ⟨k + 1, by omega, by go_num, fun j hj => ?_⟩
                  by_cases e : j = k
                  · rw [e, HZ.out]; exact ⟨g1, g2⟩
                  · exact HA.out j (by omega)
                case measure => simp [intOf]; omega
              · go_wp2
                go_ret
                refine ⟨ret_bool ?_, rfl⟩
                have : FairB u d n zs = false := by
                  simp only [FairB, decide_eq_false_iff_not]
                  intro g
                  have := g.2.2.2 k hlt
                  rw [HZ.out] at this
                  omega
                rw [this]
            · go_wp2
              go_ret
              refine ⟨ret_bool ?_, rfl⟩
              have : FairB u d n zs = false := by
                simp only [FairB, decide_eq_false_iff_not]
                intro g
                have := g.2.2.2 k hlt
                rw [HZ.out] at this
                omega
              rw [this]
          · go_wp2
            go_ret
            refine ⟨ret_bool ?_, rfl⟩
            have : FairB u d n zs = true := by
              simp only [FairB, decide_eq_true_eq]
              exact ⟨h1, h2, h3, fun j hj => HA.out j (by omega)⟩
            rw [this]
      · rw [fair_head _ _ _ _ (by omega)]
        clear hc
        go_enter Try.func17, Try.ntmps17
        go_wp2
        go_ret
        exact ⟨rfl, rfl⟩
    · rw [fair_head _ _ _ _ (by omega)]
      clear hc
      go_enter Try.func17, Try.ntmps17
      go_wp2
      go_ret
      exact ⟨rfl, rfl⟩
  · rw [fair_head _ _ _ _ (by omega)]
    have e0 : (u == 0) = true := beq_iff_eq.2 (by omega)
    clear hc
    go_enter Try.func17, Try.ntmps17
    go_wp2
    go_ret
    exact ⟨rfl, rfl⟩
end Go.Proofs.Ytdmenaihmghifaa
