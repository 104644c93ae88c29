/- What RootsCount reckons: the plain law. -/
import Derived.Test.YthlgbjbandelkaaT
namespace Go.Proofs.Ythlgbjbandelkaa
set_option linter.unusedVariables false

/-- Nothing, or one of four IDs. -/
def Five (x : Int × Int) : Prop := x = (0, 0) ∨ x = (1, 1) ∨ x = (1, 2) ∨ x = (2, 1) ∨ x = (2, 2)

theorem cnt1_five (f : Nat → Int × Int) (k : Nat) (h : ∀ s, s < k → Five (f s)) : cnt1 f (0, 0) k + cnt1 f (1, 1) k + cnt1 f (1, 2) k + cnt1 f (2, 1) k + cnt1 f (2, 2) k = k := by
  induction k with
  | zero => simp [cnt1]
  | succ k ih =>
    have ih := ih fun s hs => h s (by omega)
    simp only [cnt1]
    rcases h k (by omega) with e | e | e | e | e <;> rw [e] <;> simp <;> omega

theorem cnt2_five (V : Nat → Nat → Int × Int) (S m : Nat) (h : ∀ a s, a < m → s < S → Five (V a s)) : cnt2 V S (0, 0) m + cnt2 V S (1, 1) m + cnt2 V S (1, 2) m + cnt2 V S (2, 1) m + cnt2 V S (2, 2) m = m * S := by
  induction m with
  | zero => simp [cnt2]
  | succ m ih =>
    have ih := ih fun a s ha hs => h a s (by omega) hs
    have h1 := cnt1_five (V m) S fun s hs => h m s (by omega) hs
    simp only [cnt2, Nat.add_mul, Nat.one_mul]
    omega

theorem heldL_cnt (f : Nat → Int × Int) (k : Nat) : (heldL f k).length + cnt1 f (0, 0) k = k := by
  induction k with
  | zero => simp [heldL, cnt1]
  | succ k ih =>
    simp only [heldL, cnt1, List.length_append]
    split <;> simp <;> omega

theorem allL_cnt (V : Nat → Nat → Int × Int) (S m : Nat) : (allL V S m).length + cnt2 V S (0, 0) m = m * S := by
  induction m with
  | zero => simp [allL, cnt2]
  | succ m ih =>
    have := heldL_cnt (V m) S
    simp only [allL, cnt2, List.length_append, Nat.add_mul, Nat.one_mul]
    omega

theorem upd_five {V : Nat → Nat → Int × Int} (h : ∀ a s, Five (V a s)) (m s : Nat) (x : Int × Int) (hx : Five x) : ∀ a t, Five (upd V m s x a t) := by
  intro a t
  unfold upd
  split
  · exact hx
  · exact h a t

theorem upd_other (V : Nat → Nat → Int × Int) (m s : Nat) (x : Int × Int) (a : Nat) (h : a ≠ m) : upd V m s x a = V a := by
  funext t
  simp [upd, h]
end Go.Proofs.Ythlgbjbandelkaa
