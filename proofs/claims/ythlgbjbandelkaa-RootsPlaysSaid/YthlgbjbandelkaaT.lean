/- The contracts of Count and IDs. -/
import Derived.Test.YthlgbjbandelkaaO
namespace Go.Proofs.Ythlgbjbandelkaa
open Go.ChangeShapes Go.WideShapes Go.ChangeAt Go.RowKit
set_option linter.unusedVariables false

/-- How many of a row's first k slots hold x. -/
def cnt1 (f : Nat → Int × Int) (x : Int × Int) : Nat → Nat
  | 0 => 0
  | k + 1 => cnt1 f x k + if f k = x then 1 else 0

/-- How many slots of the first m mutators hold x. -/
def cnt2 (V : Nat → Nat → Int × Int) (S : Nat) (x : Int × Int) : Nat → Nat
  | 0 => 0
  | m + 1 => cnt2 V S x m + cnt1 (V m) x S

theorem cnt1_le (f : Nat → Int × Int) (x : Int × Int) (k : Nat) : cnt1 f x k ≤ k := by
  induction k with
  | zero => simp [cnt1]
  | succ k ih => simp only [cnt1]; split <;> omega

theorem cnt2_le (V : Nat → Nat → Int × Int) (S : Nat) (x : Int × Int) (m : Nat) : cnt2 V S x m ≤ m * S := by
  induction m with
  | zero => simp [cnt2]
  | succ m ih =>
    have := cnt1_le (V m) x S
    simp only [cnt2, Nat.add_mul, Nat.one_mul]
    omega

/-- Two IDs held against each other, in the walk's own words. -/
theorem pair_cases (n r a b : Int) : ((a, b) = (n, r) ∧ a = n ∧ b = r) ∨ ((a, b) ≠ (n, r) ∧ (n == a) = false ∧ (a == n) = false) ∨ ((a, b) ≠ (n, r) ∧ a = n ∧ (r == b) = false ∧ (b == r) = false) := by
  by_cases h1 : a = n
  · by_cases h2 : b = r
    · exact .inl ⟨by rw [h1, h2], h1, h2⟩
    · exact .inr (.inr ⟨fun h => h2 (congrArg Prod.snd h), h1, beq_eq_false_iff_ne.2 (fun e => h2 e.symm), beq_eq_false_iff_ne.2 h2⟩)
  · exact .inr (.inl ⟨fun h => h1 (congrArg Prod.fst h), beq_eq_false_iff_ne.2 (fun e => h1 e.symm), beq_eq_false_iff_ne.2 h1⟩)

section
variable (p M S : Nat) (V : Nat → Nat → Int × Int) (lo hi rb cap : Nat) (bs : Nat → Nat) (w : World)

theorem count_any (n r : Int) (h : Lay w p M S V lo hi rb cap bs) (hM : (M : Int) ≤ 4) (hS : (S : Int) ≤ 8) :
    Calls Try.prog 15 #[.pointer (some ⟨p, 0, none⟩), .agg #[.int .i64 n, .int .u64 r]] w fun e w' => e = .returned (.int .i64 (cnt2 V S (n, r) M : Nat)) ∧ Below w.heap.size w w' := by
  have h1 := h.head
  have l1 := h.p_lt
  have H := Lib.hid h
  clear h
  go_enter Try.func15, Try.ntmps15
  go_wp2_with fail
  go_loopw [5, 15] (fun c i wr => ∃ k : Nat, k ≤ M ∧ i = .int .i64 k ∧ c = .int .i64 (cnt2 V S (n, r) k : Nat) ∧ wr.cell? ⟨w.heap.size, 0, none⟩ = some (.int .i64 n) ∧ wr.cell? ⟨w.heap.size, 1, none⟩ = some (.int .u64 r) ∧ w.heap.size < wr.heap.size ∧ Below w.heap.size w wr) (fun _ i _ => M - (intOf i).toNat)
  case atStart => exact ⟨0, Nat.zero_le _, rfl, rfl, by go_simp, by go_simp, by simp, (Below.refl _ _).alloc (Nat.le_refl _) _⟩
  case round =>
    obtain ⟨k, hk, rfl, rfl, hx1, hx2, hsz, hbel⟩ := hrel
    have hL := H.out.below hbel H.out.size
    have hc2 := cnt2_le V S (n, r) k
    have hks : k * S ≤ 4 * 8 := Nat.mul_le_mul (by omega) (by omega)
    have HB := Lib.hid hbel
    have HL := Lib.hid hL
    clear hbel
    by_cases hlt : k < M
    · have hrow := hL.row k hlt
      have lb := H.out.bs_lt k hlt
      clear hL
      go_wp2_with fail
      obtain ⟨wo, rfl⟩ : ∃ wo : World, wo = wr := ⟨_, rfl⟩
      go_loopw [5, 21] (fun c i wr => ∃ j : Nat, j ≤ S ∧ i = .int .i64 j ∧ c = .int .i64 (cnt2 V S (n, r) k + cnt1 (V k) (n, r) j : Nat) ∧ wr.cell? ⟨w.heap.size, 0, none⟩ = some (.int .i64 n) ∧ wr.cell? ⟨w.heap.size, 1, none⟩ = some (.int .u64 r) ∧ w.heap.size < wr.heap.size ∧ Below w.heap.size w wr) (fun _ i _ => S - (intOf i).toNat)
      case atStart => exact ⟨0, Nat.zero_le _, rfl, rfl, hx1, hx2, hsz, HB.out⟩
      case round =>
        clear hx1 hx2 hsz HL hrow HB
        obtain ⟨j, hj, rfl, rfl, hx1, hx2, hsz, hbel⟩ := hrel
        have hc1 := cnt1_le (V k) (n, r) j
        have HB := Lib.hid hbel
        by_cases hlt2 : j < S
        · obtain ⟨c1, c2⟩ := (H.out.rowAt k hlt).below hbel j hlt2
          have lb2 : bs k < wr.heap.size := by omega
          have hstep : cnt1 (V k) (n, r) (j + 1) = cnt1 (V k) (n, r) j + if V k j = (n, r) then 1 else 0 := rfl
          have HS := Lib.hid hstep
          clear hbel hstep
          generalize cnt1 (V k) (n, r) j = q at hc1 HS ⊢
          generalize cnt2 V S (n, r) k = t at hc2 ⊢
          generalize V k j = x at c1 c2 HS
          obtain ⟨a, b⟩ := x
          simp only at c1 c2
          rcases pair_cases n r a b with ⟨hp, rfl, rfl⟩ | ⟨hp, e1, e2⟩ | ⟨hp, rfl, e1, e2⟩
          · have HQ : Hid (cnt1 (V k) (a, b) (j + 1) = q + 1) := by rw [Hid, HS.out, if_pos rfl]
            clear hp HS
            go_wp2_with fail
            go_roundw
            case rel => exact ⟨j + 1, by omega, by go_num, by rw [HQ.out]; go_num, by go_simp, by go_simp, by simp; omega, HB.out.alloc (by omega) _⟩
            case measure => simp [intOf]; omega
          · have HQ : Hid (cnt1 (V k) (n, r) (j + 1) = q) := by rw [Hid, HS.out, if_neg hp]; rfl
            clear hp HS
            go_wp2_with fail
            go_roundw
            case rel => exact ⟨j + 1, by omega, by go_num, by rw [HQ.out], by go_simp, by go_simp, by simp; omega, HB.out.alloc (by omega) _⟩
            case measure => simp [intOf]; omega
          · have HQ : Hid (cnt1 (V k) (a, r) (j + 1) = q) := by rw [Hid, HS.out, if_neg hp]; rfl
            clear hp HS
            go_wp2_with fail
            go_roundw
            case rel => exact ⟨j + 1, by omega, by go_num, by rw [HQ.out], by go_simp, by go_simp, by simp; omega, HB.out.alloc (by omega) _⟩
            case measure => simp [intOf]; omega
        · obtain rfl : j = S := by omega
          clear hbel
          go_wp2_with fail
          go_roundw
          case rel => exact ⟨k + 1, by omega, by go_num, by rw [cnt2], hx1, hx2, hsz, HB.out⟩
          case measure => simp [intOf]; omega
    · obtain rfl : k = M := by omega
      go_wp2_with fail
      go_ret
      exact ⟨rfl, HB.out⟩
end
end Go.Proofs.Ythlgbjbandelkaa
