/- The contracts of Set. -/
import Derived.Test.YthlgbjbandelkaaA
namespace Go.Proofs.Ythlgbjbandelkaa
open Go.ChangeShapes Go.WideShapes Go.ChangeAt Go.RowKit
set_option linter.unusedVariables false

section
variable (p M S : Nat) (V : Nat → Nat → Int × Int) (lo hi rb cap : Nat) (bs : Nat → Nat) (w : World)

/-- The ways through the test of an ID, each in the walk's own words. -/
theorem id_cases (n r : Int) :
    (n = 0 ∧ r = 0 ∧ idOk n r = true) ∨ (n = 0 ∧ (r == 0) = false ∧ idOk n r = false) ∨ ((n == 0) = false ∧ n < 1 ∧ idOk n r = false) ∨ ((n == 0) = false ∧ 64 < n ∧ idOk n r = false) ∨
    ((n == 0) = false ∧ 1 ≤ n ∧ n ≤ 64 ∧ r < 1 ∧ idOk n r = false) ∨ ((n == 0) = false ∧ 1 ≤ n ∧ n ≤ 64 ∧ 72057594037927935 < r ∧ idOk n r = false) ∨ ((n == 0) = false ∧ 1 ≤ n ∧ n ≤ 64 ∧ 1 ≤ r ∧ r ≤ 72057594037927935 ∧ idOk n r = true) := by
  simp only [idOk, decide_eq_true_eq, decide_eq_false_iff_not, beq_eq_false_iff_ne]
  omega

theorem set_out (n r : Int) (h : Lay w p M S V lo hi rb cap bs) (hM : M ≤ 4) (hS : S ≤ 8) (m s : Int) (hno : ¬ (0 ≤ m ∧ m < M ∧ 0 ≤ s ∧ s < S)) :
    Calls Try.prog 13 #[.pointer (some ⟨p, 0, none⟩), .int .i64 m, .int .i64 s, .agg #[.int .i64 n, .int .u64 r]] w fun e w' => e = .returned (.bool false) ∧ w.alloc (.cells #[.int .i64 n, .int .u64 r] 32) = w' := by
  have H := Lib.hid h
  have HN := Lib.hid hno
  clear h hno
  rcases id_cases n r with ⟨rfl, rfl, _⟩ | ⟨rfl, e1, _⟩ | ⟨e0, g1, _⟩ | ⟨e0, g1, _⟩ | ⟨e0, g1, g2, g3, _⟩ | ⟨e0, g1, g2, g3, _⟩ | ⟨e0, g1, g2, g3, g4, _⟩
  all_goals
    go_enter Try.func13, Try.ntmps13
    go_wp2_with fail
    refine (there_no _ _ _ _ _ _ _ _ _ _ (H.out.alloc _) hM hS m s HN.out).mono ?_
    rintro e w' ⟨rfl, rfl⟩
    go_wp2_with fail
    go_ret
    exact ⟨rfl, rfl⟩

theorem set_bad (n r : Int) (h : Lay w p M S V lo hi rb cap bs) (hM : M ≤ 4) (hS : S ≤ 8) (m s : Nat) (hm : m < M) (hs : s < S) (hid : idOk n r = false) :
    Calls Try.prog 13 #[.pointer (some ⟨p, 0, none⟩), .int .i64 m, .int .i64 s, .agg #[.int .i64 n, .int .u64 r]] w fun e w' => e = .returned (.bool false) ∧ w.alloc (.cells #[.int .i64 n, .int .u64 r] 32) = w' := by
  have H := Lib.hid h
  clear h
  rcases id_cases n r with ⟨rfl, rfl, hx⟩ | ⟨rfl, e1, hx⟩ | ⟨e0, g1, hx⟩ | ⟨e0, g1, hx⟩ | ⟨e0, g1, g2, g3, hx⟩ | ⟨e0, g1, g2, g3, hx⟩ | ⟨e0, g1, g2, g3, g4, hx⟩
  case inl => rw [hx] at hid; cases hid
  case inr.inr.inr.inr.inr.inr => rw [hx] at hid; cases hid
  case inr.inr.inr.inr.inr.inl =>
    have g4 : decide (r ≤ 72057594037927935) = false := decide_eq_false (by omega)
    have g5 : 1 ≤ r := by omega
    clear hid hx g3
    go_enter Try.func13, Try.ntmps13
    go_wp2_with fail
    refine (there_yes _ _ _ _ _ _ _ _ _ _ (H.out.alloc _) hM hS m s hm hs).mono ?_
    rintro e w' ⟨rfl, rfl⟩
    go_wp2_with fail
    go_ret
    exact ⟨rfl, rfl⟩
  all_goals
    clear hid hx
    go_enter Try.func13, Try.ntmps13
    go_wp2_with fail
    refine (there_yes _ _ _ _ _ _ _ _ _ _ (H.out.alloc _) hM hS m s hm hs).mono ?_
    rintro e w' ⟨rfl, rfl⟩
    go_wp2_with fail
    go_ret
    exact ⟨rfl, rfl⟩

theorem set_good (n r : Int) (h : Lay w p M S V lo hi rb cap bs) (hM : M ≤ 4) (hS : S ≤ 8) (m s : Nat) (hm : m < M) (hs : s < S) (hid : idOk n r = true) :
    Calls Try.prog 13 #[.pointer (some ⟨p, 0, none⟩), .int .i64 m, .int .i64 s, .agg #[.int .i64 n, .int .u64 r]] w fun e w' => e = .returned (.bool true) ∧ (((w.setCell ⟨bs m, s * 2, none⟩ (.int .i64 n)).setCell ⟨bs m, s * 2 + 1, none⟩ (.int .u64 r)).alloc (.cells #[.int .i64 n, .int .u64 r] 32)).drew = w' := by
  have H := Lib.hid h
  have h1 := h.head
  have h2 := h.row m hm
  have h3 := h.node m s hm hs
  have h4 := h.serial m s hm hs
  have l1 := h.p_lt
  have l2 := h.rb_lt
  have l3 := h.bs_lt m hm
  have f1 := h.free m (s * 2) hm
  have f2 := h.free m (s * 2 + 1) hm
  clear h
  generalize V m s = v at h3 h4
  obtain ⟨n0, r0⟩ := v
  simp only at h3 h4
  rcases id_cases n r with ⟨rfl, rfl, hx⟩ | ⟨rfl, e1, hx⟩ | ⟨e0, g1, hx⟩ | ⟨e0, g1, hx⟩ | ⟨e0, g1, g2, g3, hx⟩ | ⟨e0, g1, g2, g3, hx⟩ | ⟨e0, g1, g2, g3, g4, hx⟩
  case inr.inl => rw [hx] at hid; cases hid
  case inr.inr.inl => rw [hx] at hid; cases hid
  case inr.inr.inr.inl => rw [hx] at hid; cases hid
  case inr.inr.inr.inr.inl => rw [hx] at hid; cases hid
  case inr.inr.inr.inr.inr.inl => rw [hx] at hid; cases hid
  all_goals
    clear hid hx
    go_enter Try.func13, Try.ntmps13
    go_wp2_with fail
    refine (there_yes _ _ _ _ _ _ _ _ _ _ (H.out.alloc _) hM hS m s hm hs).mono ?_
    rintro e w' ⟨rfl, rfl⟩
    go_wp2_with fail
    go_region
    all_goals
      go_wp2
      go_ret
      exact ⟨rfl, rfl⟩
end

/-- Beside the blocks of [lo, hi) nothing that was there has turned. -/
structure Keep (lo hi : Nat) (w w' : World) : Prop where
  os : w'.os = w.os
  tape : w'.tape = w.tape
  output : w'.output = w.output
  size : w.heap.size ≤ w'.heap.size
  block : ∀ k, k < w.heap.size → ¬ (lo ≤ k ∧ k < hi) → w'.heap[k]? = w.heap[k]?

theorem Keep.refl (lo hi : Nat) (w : World) : Keep lo hi w w := ⟨rfl, rfl, rfl, Nat.le_refl _, fun _ _ _ => rfl⟩
theorem Keep.of_below {lo hi B : Nat} {w w' : World} (h : Below B w w') (hB : w.heap.size ≤ B) : Keep lo hi w w' := ⟨h.os, h.tape, h.output, h.size, fun k hk _ => h.block k (by omega)⟩
theorem Keep.below {lo hi B : Nat} {a w w' : World} (h : Keep lo hi w w') (hb : Below B a w) (h1 : B ≤ lo) (h2 : B ≤ w.heap.size) : Below B a w' :=
  hb.trans ⟨h.os, h.tape, h.output, h.size, fun k hk => h.block k (by omega) (by omega)⟩
theorem Lay.other {w w' : World} {p M S : Nat} {V : Nat → Nat → Int × Int} {lo hi rb cap lo' hi' : Nat} {bs : Nat → Nat} (h : Lay w p M S V lo hi rb cap bs) (hk : Keep lo' hi' w w') (hd : hi ≤ lo' ∨ hi' ≤ lo) : Lay w' p M S V lo hi rb cap bs :=
  h.keep hk.size fun k h1 h2 => hk.block k (Nat.lt_of_lt_of_le h2 h.size) (by omega)

/-- One slot holds another thing. -/
def upd (V : Nat → Nat → Int × Int) (m s : Nat) (x : Int × Int) : Nat → Nat → Int × Int := fun m' s' => if m' = m ∧ s' = s then x else V m' s'

theorem frozen_alloc_lt (w : World) (o : Obj) (a : Addr) (h : a.block < w.heap.size) : (w.alloc o).frozen? a = w.frozen? a := World.frozen?_alloc_old _ _ _ (Nat.ne_of_lt h)

theorem addr_ne {b o b' o' : Nat} (h : b ≠ b' ∨ o ≠ o') : (⟨b, o, none⟩ : Addr) ≠ ⟨b', o', none⟩ := by
  intro e
  cases e
  rcases h with h | h <;> exact h rfl

theorem set_lay {w : World} {p M S : Nat} {V : Nat → Nat → Int × Int} {lo hi rb cap : Nat} {bs : Nat → Nat} (h : Lay w p M S V lo hi rb cap bs) (m s : Nat) (hm : m < M) (hs : s < S) (n r : Int) (o : Obj) :
    Lay (((w.setCell ⟨bs m, s * 2, none⟩ (.int .i64 n)).setCell ⟨bs m, s * 2 + 1, none⟩ (.int .u64 r)).alloc o).drew p M S (upd V m s (n, r)) lo hi rb cap bs ∧
    Keep lo hi w (((w.setCell ⟨bs m, s * 2, none⟩ (.int .i64 n)).setCell ⟨bs m, s * 2 + 1, none⟩ (.int .u64 r)).alloc o).drew := by
  have hb := h.hbs m hm
  have lp := h.p_lt
  have lr := h.rb_lt
  have cell : ∀ b j, b < w.heap.size → (b ≠ bs m ∨ (j ≠ s * 2 ∧ j ≠ s * 2 + 1)) → (((w.setCell ⟨bs m, s * 2, none⟩ (.int .i64 n)).setCell ⟨bs m, s * 2 + 1, none⟩ (.int .u64 r)).alloc o).drew.cell? ⟨b, j, none⟩ = w.cell? ⟨b, j, none⟩ := by
    intro b j hb' hj
    rw [World.cell?_drew, World.cell?_alloc_lt _ _ _ (by simpa using hb'), World.cell?_setCell_other _ _ _ _ (addr_ne (by omega)), World.cell?_setCell_other _ _ _ _ (addr_ne (by omega))]
  refine ⟨⟨by simp; have := h.size; omega, h.hp, h.hrb, h.ne, h.hbs, h.inj, ?_, ?_, ?_, ?_, ?_⟩, ⟨rfl, rfl, rfl, by simp, fun k hk hn => ?_⟩⟩
  · rw [cell _ _ lp (.inl (by omega))]; exact h.head
  · intro m' hm'
    rw [cell _ _ lr (.inl (by omega))]; exact h.row m' hm'
  · intro m' s' hm' hs'
    by_cases e : m' = m
    · subst e
      by_cases e' : s' = s
      · subst e'
        rw [World.cell?_drew, World.cell?_alloc_lt _ _ _ (by simpa using h.bs_lt _ hm), World.cell?_setCell_other _ _ _ _ (addr_ne (by omega)), World.cell?_setCell_same _ _ _ (h.node _ _ hm hs)]
        simp [upd]
      · rw [cell _ _ (h.bs_lt _ hm) (.inr (by omega)), h.node _ _ hm hs']
        simp [upd, e']
    · have hne : bs m' ≠ bs m := fun he => e (h.inj _ _ hm' hm he)
      rw [cell _ _ (h.bs_lt _ hm') (.inl hne), h.node _ _ hm' hs']
      simp [upd, e]
  · intro m' s' hm' hs'
    by_cases e : m' = m
    · subst e
      by_cases e' : s' = s
      · subst e'
        rw [World.cell?_drew, World.cell?_alloc_lt _ _ _ (by simpa using h.bs_lt _ hm), World.cell?_setCell_same (u := .int .u64 (V m' s').2) _ _ _ (by rw [World.cell?_setCell_other _ _ _ _ (addr_ne (by omega))]; exact h.serial _ _ hm hs)]
        simp [upd]
      · rw [cell _ _ (h.bs_lt _ hm) (.inr (by omega)), h.serial _ _ hm hs']
        simp [upd, e']
    · have hne : bs m' ≠ bs m := fun he => e (h.inj _ _ hm' hm he)
      rw [cell _ _ (h.bs_lt _ hm') (.inl hne), h.serial _ _ hm' hs']
      simp [upd, e]
  · intro m' j hm'
    rw [World.frozen?_drew, frozen_alloc_lt _ _ _ (by simpa using h.bs_lt _ hm')]
    simpa using h.free m' j hm'
  · show (((w.setCell _ _).setCell _ _).alloc o).heap[k]? = _
    rw [Below.heap_alloc _ _ _ (by simpa using hk), Below.heap_setCell _ _ _ _ (by simp; omega), Below.heap_setCell _ _ _ _ (by simp; omega)]
end Go.Proofs.Ythlgbjbandelkaa
