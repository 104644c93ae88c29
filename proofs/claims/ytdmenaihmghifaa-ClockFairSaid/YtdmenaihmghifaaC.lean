/- Contracts of the clock's functions: New, Tick, Now, Past, each as a walk. -/
import Derived.Test.YtdmenaihmghifaaK
namespace Go.Proofs.Ytdmenaihmghifaa
open Go.ChangeShapes Go.WideShapes Go.ChangeAt Go.RowKit

theorem new_ok (s : Int) (w : World) (h : s ≤ 4611686018427387904) :
    Calls Try.prog 10 #[.int .u64 s] w fun e w' => e = .returned (.tuple #[.pointer (some ⟨w.heap.size, 0, none⟩), .int .i64 0]) ∧ w.alloc (.cells #[.int .u64 s] 41) = w' := by
  go_enter Try.func10, Try.ntmps10
  go_wp2
  go_ret2
  exact ⟨rfl, rfl⟩

theorem new_bad (s : Int) (w : World) (h : 4611686018427387904 < s) :
    Calls Try.prog 10 #[.int .u64 s] w fun e w' => e = .returned (.tuple #[.pointer none, .int .i64 1]) ∧ w = w' := by
  go_enter Try.func10, Try.ntmps10
  go_wp2
  go_ret2
  exact ⟨rfl, rfl⟩

theorem now_any (a : Addr) (v : Int) (w : World) (hc : w.cell? a = some (.int .u64 v)) :
    Calls Try.prog 13 #[.pointer (some a)] w fun e w' => e = .returned (.int .u64 v) ∧ w = w' := by
  go_enter Try.func13, Try.ntmps13
  go_wp2
  go_ret
  exact ⟨rfl, rfl⟩

theorem tick_arg (a : Addr) (by_ : Int) (w : World) (h : 4294967295 < by_) :
    Calls Try.prog 12 #[.pointer (some a), .int .u64 by_] w fun e w' => e = .returned (.int .i64 1) ∧ w = w' := by
  go_enter Try.func12, Try.ntmps12
  go_wp2
  go_ret
  exact ⟨rfl, rfl⟩

theorem tick_end (a : Addr) (v by_ : Int) (w : World) (hc : w.cell? a = some (.int .u64 v)) (h0 : 0 ≤ v) (hv : v ≤ 4611686018427387904) (h : by_ ≤ 4294967295) (he : 4611686018427387904 - v < by_) :
    Calls Try.prog 12 #[.pointer (some a), .int .u64 by_] w fun e w' => e = .returned (.int .i64 7) ∧ w = w' := by
  go_enter Try.func12, Try.ntmps12
  go_wp2
  go_ret
  exact ⟨rfl, rfl⟩

theorem tick_ok (a : Addr) (v by_ : Int) (w : World) (hc : w.cell? a = some (.int .u64 v)) (hf : w.frozen? a = false) (h0 : 0 ≤ v) (hv : v ≤ 4611686018427387904) (hb : 0 ≤ by_) (h : by_ ≤ 4294967295) (he : by_ ≤ 4611686018427387904 - v) :
    Calls Try.prog 12 #[.pointer (some a), .int .u64 by_] w fun e w' => e = .returned (.int .i64 0) ∧ w.setCell a (.int .u64 (v + by_)) = w' := by
  go_enter Try.func12, Try.ntmps12
  go_wp2
  go_ret
  exact ⟨rfl, rfl⟩

theorem past_yes (at_ span now : Int) (w : World) (h0 : 0 ≤ at_) (h1 : now ≤ 18446744073709551615) (h : at_ ≤ now) (h2 : span ≤ now - at_) :
    Calls Try.prog 14 #[.int .u64 at_, .int .u64 span, .int .u64 now] w fun e w' => e = .returned (.bool true) ∧ w = w' := by
  go_enter Try.func14, Try.ntmps14
  go_wp2
  go_ret
  exact ⟨rfl, rfl⟩

theorem past_no1 (at_ span now : Int) (w : World) (h : now < at_) :
    Calls Try.prog 14 #[.int .u64 at_, .int .u64 span, .int .u64 now] w fun e w' => e = .returned (.bool false) ∧ w = w' := by
  go_enter Try.func14, Try.ntmps14
  go_wp2
  go_ret
  exact ⟨rfl, rfl⟩

theorem past_no2 (at_ span now : Int) (w : World) (h0 : 0 ≤ at_) (h1 : now ≤ 18446744073709551615) (h : at_ ≤ now) (h2 : now - at_ < span) :
    Calls Try.prog 14 #[.int .u64 at_, .int .u64 span, .int .u64 now] w fun e w' => e = .returned (.bool false) ∧ w = w' := by
  go_enter Try.func14, Try.ntmps14
  go_wp2
  go_ret
  refine ⟨?_, rfl⟩
  show Ending.returned (.bool (decide (span ≤ now - at_))) = _
  rw [decide_eq_false (by omega)]

/-- What Past answers. -/
def PastB (at_ span now : Int) : Bool := decide (at_ ≤ now ∧ span ≤ now - at_)

theorem past_any (at_ span now : Int) (w : World) (h0 : 0 ≤ at_) (h1 : now ≤ 18446744073709551615) :
    Calls Try.prog 14 #[.int .u64 at_, .int .u64 span, .int .u64 now] w fun e w' => e = .returned (.bool (PastB at_ span now)) ∧ w = w' := by
  by_cases h : at_ ≤ now
  · by_cases h2 : span ≤ now - at_
    · rw [show PastB at_ span now = true by simp [PastB, h, h2]]
      exact past_yes _ _ _ _ h0 h1 h h2
    · rw [show PastB at_ span now = false by simp [PastB, h2]]
      exact past_no2 _ _ _ _ h0 h1 h (by omega)
  · rw [show PastB at_ span now = false by simp [PastB, h]]
    exact past_no1 _ _ _ _ (by omega)

theorem known_true (w : World) :
    Calls Try.prog 11 #[] w fun e w' => e = .returned (.bool true) ∧ w.alloc (.cells #[.int .u64 8] 41) = w' := by
  go_enter Try.func11, Try.ntmps11
  go_wp2
  go_ret
  exact ⟨rfl, rfl⟩

theorem refPast_any (at_ span now : Int) (w : World) (h0 : 0 ≤ at_) (h1 : now ≤ 18446744073709551615) :
    Calls Try.prog 15 #[.int .u64 at_, .int .u64 span, .int .u64 now] w fun e w' => e = .returned (.bool (PastB at_ span now)) ∧ w = w' := by
  by_cases h : at_ ≤ now
  · by_cases h2 : span ≤ now - at_
    · rw [show PastB at_ span now = true by simp [PastB, h, h2]]
      go_enter Try.func15, Try.ntmps15
      go_wp2
      go_ret
      exact ⟨rfl, rfl⟩
    · rw [show PastB at_ span now = false by simp [PastB, h2]]
      have h2' : now - at_ < span := by omega
      clear h2
      go_enter Try.func15, Try.ntmps15
      go_wp2
      go_ret
      refine ⟨?_, rfl⟩
      show Ending.returned (.bool (decide (span ≤ now - at_))) = _
      rw [decide_eq_false (by omega)]
  · rw [show PastB at_ span now = false by simp [PastB, h]]
    have h' : now < at_ := by omega
    clear h
    go_enter Try.func15, Try.ntmps15
    go_wp2
    go_ret
    exact ⟨rfl, rfl⟩
end Go.Proofs.Ytdmenaihmghifaa
