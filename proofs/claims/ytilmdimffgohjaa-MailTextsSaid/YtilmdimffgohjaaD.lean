/- Pick; what is known; lists in order. -/
import Derived.Test.YtilmdimffgohjaaA
namespace Go.Proofs.Ytilmdimffgohjaa
open Go.ChangeShapes Go.WideShapes Go.ChangeAt Go.RowKit
set_option linter.unusedVariables false

theorem pick_neg (n m : Int) (hn : n < 0) (hm : 0 < m) : n.tmod m = 0 ∧ n % m = 0 ∨ n.tmod m < 0 ∧ n % m = n.tmod m + m := by
  obtain ⟨k, rfl⟩ : ∃ k, n = -k := ⟨-n, by omega⟩
  rw [Int.neg_tmod, Int.tmod_eq_emod_of_nonneg (by omega)]
  have h1 := Int.emod_nonneg k (show m ≠ 0 by omega)
  have h2 := Int.emod_lt_of_pos k hm
  have e : k = m * (k / m) + k % m := (Int.mul_ediv_add_emod k m).symm
  generalize k % m = r at *
  generalize k / m = q at *
  by_cases h0 : r = 0
  · refine .inl ⟨by omega, ?_⟩
    rw [e, h0, Int.add_zero, show -(m * q) = m * (-q) by rw [Int.mul_neg]]
    exact Int.mul_emod_right _ _
  · refine .inr ⟨by omega, ?_⟩
    rw [e, show -(m * q + r) = (m - r) + m * (-(q + 1)) by rw [Int.mul_neg, Int.mul_add]; omega, Int.add_mul_emod_self_left, Int.emod_eq_of_lt (by omega) (by omega)]
    omega

theorem ret_int {k : IntKind} {a b : Int} (h : a = b) : Ending.returned (.int k a) = .returned (.int k b) := by rw [h]

theorem pick_any (n m : Int) (w : World) (h0 : -9223372036854775808 ≤ n) (h1 : n ≤ 9223372036854775807) (hm : 0 < m) (hm1 : m ≤ 1000000) :
    Calls Try.prog 12 #[.int .i64 n, .int .i64 m] w fun e w' => e = .returned (.int .i64 (n % m)) ∧ w = w' := by
  by_cases hn : 0 ≤ n
  · have g1 := Int.emod_nonneg n (show m ≠ 0 by omega)
    have hz : (m == 0) = false := beq_eq_false_iff_ne.2 (by omega)
    go_enter Try.func12, Try.ntmps12
    go_wp2
    go_ret
    exact ⟨rfl, rfl⟩
  · have hz : (m == 0) = false := beq_eq_false_iff_ne.2 (by omega)
    have key := pick_neg n m (by omega) hm
    generalize hr : n % m = r at key ⊢
    have ht : -m ≤ n.tmod m ∧ n.tmod m < m := by
      have h3 := Int.emod_lt_of_pos n hm
      have h4 := Int.emod_nonneg n (show m ≠ 0 by omega)
      omega
    clear hr
    rcases key with ⟨k1, k2⟩ | ⟨k1, k2⟩
    · have K := Lib.hid k2
      clear k2
      go_enter Try.func12, Try.ntmps12
      go_wp2
      go_ret
      exact ⟨ret_int K.out.symm, rfl⟩
    · have K := Lib.hid k2
      clear k2
      go_enter Try.func12, Try.ntmps12
      go_wp2
      go_ret
      exact ⟨ret_int K.out.symm, rfl⟩

theorem below_drewN {B : Nat} {a w : World} (h : Below B a w) (n : Nat) : Below B a (w.drewN n) := h.trans ⟨rfl, rfl, rfl, Nat.le_refl _, fun _ _ => rfl⟩

/-- A box made since w0, and nothing elder touched. -/
structure Own (w0 w : World) (p c cap : Nat) (buf : List Value) : Prop where
  box : BoxAt w p c cap buf
  below : Below w0.heap.size w0 w
  lo : w0.heap.size ≤ c

theorem Own.step {w0 w w' : World} {p c cap : Nat} {buf buf' : List Value} (h : Own w0 w p c cap buf) (hb : BoxAt w' p c cap buf') (hg : w.grownBy w' (some c)) : Own w0 w' p c cap buf' :=
  ⟨hb, h.below.grown hg h.below.size (fun k hk => by cases hk; exact h.lo), h.lo⟩

theorem known_true (w : World) : Calls Try.prog 8 #[] w fun e w' => e = .returned (.bool true) ∧ Below w.heap.size w w' := by
  go_enter Try.func8, Try.ntmps8
  go_wp2_with fail
  refine (new_box 2 _ (by omega) (by omega)).mono ?_
  rintro e w1 ⟨p, c, rfl, hbox, hb1, hc, hp⟩
  have HX : Hid (Own w w1 p c 2 []) := Lib.hid ⟨hbox, hb1, hc⟩
  clear hbox hb1
  go_wp2_with fail
  refine (take_none _ p c 2 HX.out.box).mono ?_
  rintro e w2 ⟨rfl, rfl⟩
  go_wp2_with fail
  refine (put_room (.int .i64 5) _ p c 2 [] HX.out.box (by simp)).mono ?_
  rintro e w2 ⟨rfl, hbox, hg⟩
  have HX2 : Hid (Own w w2 p c 2 [.int .i64 5]) := Lib.hid (HX.out.step hbox hg)
  clear hbox hg HX
  go_wp2_with fail
  refine (put_room (.int .i64 6) _ p c 2 _ HX2.out.box (by simp)).mono ?_
  rintro e w3 ⟨rfl, hbox, hg⟩
  have HX3 : Hid (Own w w3 p c 2 [.int .i64 5, .int .i64 6]) := Lib.hid (HX2.out.step hbox hg)
  clear hbox hg HX2
  go_wp2_with fail
  refine (put_full (.int .i64 7) _ p c 2 _ HX3.out.box (by simp)).mono ?_
  rintro e w4 ⟨rfl, rfl⟩
  go_wp2_with fail
  refine (take_some _ _ _ p c 2 HX3.out.box).mono ?_
  rintro e w4 ⟨rfl, hbox, hg⟩
  have HX4 : Hid (Own w w4 p c 2 [.int .i64 6]) := Lib.hid (HX3.out.step hbox hg)
  clear hbox hg HX3
  go_wp2_with fail
  refine (len_box _ p c 2 _ HX4.out.box).mono ?_
  rintro e w5 ⟨rfl, rfl⟩
  go_wp2_with fail
  go_ret
  exact ⟨rfl, HX4.out.below⟩

/-- A stretch of what f tells. -/
def seg (f : Nat → Value) (a b : Nat) : List Value := (List.range' a (b - a)).map f

theorem seg_self (f : Nat → Value) (a : Nat) : seg f a a = [] := by simp [seg]
theorem seg_length (f : Nat → Value) (a b : Nat) : (seg f a b).length = b - a := by simp [seg]
theorem seg_push (f : Nat → Value) (a b : Nat) (h : a ≤ b) : seg f a b ++ [f b] = seg f a (b + 1) := by
  have e : b + 1 - a = (b - a) + 1 := by omega
  have e2 : a + (b - a) = b := by omega
  simp [seg, e, List.range'_concat, e2]
theorem seg_head (f : Nat → Value) (a b : Nat) (h : a < b) : seg f a b = f a :: seg f (a + 1) b := by
  have e : b - a = (b - (a + 1)) + 1 := by omega
  simp [seg, e, List.range'_succ]
end Go.Proofs.Ytilmdimffgohjaa
