/- The reference's Of, All, Count; and IDs. -/
import Derived.Test.YthlgbjbandelkaaT
namespace Go.Proofs.Ythlgbjbandelkaa
open Go.ChangeShapes Go.WideShapes Go.ChangeAt Go.RowKit
set_option linter.unusedVariables false

section
variable (p M S : Nat) (V : Nat → Nat → Int × Int) (lo hi rb cap : Nat) (bs : Nat → Nat) (w : World)

theorem ofR_yes (h : Lay w p M S V lo hi rb cap bs) (hM : (M : Int) ≤ 4) (hS : (S : Int) ≤ 8) (m : Nat) (hm : m < M) :
    Calls Try.prog 19 #[.pointer (some ⟨p, 0, none⟩), .int .i64 m] w (ListPost (heldL (V m) S) w) := by
  obtain ⟨j0, hj, hy0, hy1, hy2⟩ := info_parts Try.info32
  have h1 := h.head
  have h2 := h.row m hm
  have h3 := h.rowAt m hm
  have l1 := h.p_lt
  have l2 := h.rb_lt
  have l3 := h.bs_lt m hm
  have H := Lib.hid h
  clear h
  generalize V m = f at h3 ⊢
  have HR := Lib.hid h3
  clear h3
  have b0 : ((m : Int) < 0) = False := eq_false (by omega)
  have b1 : ((M : Int) ≤ (m : Int)) = False := eq_false (by omega)
  go_enter Try.func19, Try.ntmps19
  go_wp2_with fail
  go_loopw [5, 6] (fun v i wr => ∃ k : Nat, k ≤ S ∧ i = .int .i64 k ∧ wr.ownsRow w.heap.size 32 2 v (heldL f k).length (idCells (heldL f k)) ∧ Below w.heap.size w wr) (fun _ i _ => S - (intOf i).toNat)
  case atStart => exact ⟨0, Nat.zero_le _, rfl, World.ownsRow_nil _ _ _ _, Below.refl _ _⟩
  case round =>
    obtain ⟨k, hk, rfl, hown, hbel⟩ := hrel
    have hL := H.out.below hbel H.out.size
    have d1 := hL.head
    have d2 := hL.row m hm
    have HO := Lib.hid hown
    have HB := Lib.hid hbel
    have hsz := hbel.size
    have hlen := heldL_length f k
    have hlb : bs m < wr.heap.size := by omega
    clear hown hL
    by_cases hlt : k < S
    · obtain ⟨c1, c2⟩ := HR.out.below hbel k hlt
      clear hbel
      by_cases h0 : f k = (0, 0)
      · have HL : Hid (heldL f (k + 1) = heldL f k) := by simp [Hid, heldL, h0]
        rw [h0] at c1 c2
        simp only at c1 c2
        clear h0
        go_wp2_with fail
        go_roundw
        case rel => exact ⟨k + 1, by omega, by go_num, by rw [HL.out]; exact HO.out, HB.out⟩
        case measure => simp [intOf]; omega
      · have HL : Hid (heldL f (k + 1) = heldL f k ++ [f k]) := by simp [Hid, heldL, h0]
        generalize f k = x at h0 HL c1 c2
        obtain ⟨a, r⟩ := x
        simp only at c1 c2
        have hways : (a == 0) = false ∨ ((a == 0) = true ∧ (r == 0) = false) := by
          by_cases ha : a = 0
          · refine .inr ⟨beq_iff_eq.2 ha, beq_eq_false_iff_ne.2 fun hr => h0 (by rw [ha, hr])⟩
          · exact .inl (beq_eq_false_iff_ne.2 ha)
        clear h0
        rcases hways with e0 | ⟨e1, e0⟩
        all_goals
          go_wp2_with (at_builtin; refine wpList_append_own _ rfl (.tmp 42) (.tmp 53) 39 rfl w.heap.size 32 j0 (.agg #[.int .i64 0, .int .u64 0]) 2 16 Try.underlying39 hj hy0 hy1 hy2 rfl (by decide) _ _ _ rfl (HO.out.alloc _) _ 1 1 [.int .i64 a, .int .u64 r] rfl ?_ ?_ ?_ ?_ ?_ ?_ ?_)
          · rfl
          · exact cell_two_new _ _ _ _
          · simp [Value.oneCell']
          · unfold maxLen; omega
          · omega
          · simp; omega
          intro v' w1 hown' hgrow' _
          have hb1 : Below w.heap.size w w1 := (HB.out.alloc hsz _).grown hgrow' (by simp; omega) (fun k hk => (HO.out.lt k hk).1)
          have HO1 := Lib.hid hown'
          have HB1 := Lib.hid hb1
          clear hown' hgrow' hb1
          go_wp2_with fail
          go_roundw
          case rel =>
            refine ⟨k + 1, by omega, by go_num, ?_, HB1.out⟩
            rw [HL.out, List.length_append, idCells_append]
            exact HO1.out
          case measure => simp [intOf]; omega
    · obtain rfl : k = S := by omega
      clear hbel
      go_wp2_with fail
      go_ret
      exact ⟨_, rfl, HO.out, HB.out⟩

theorem ofR_no (h : Lay w p M S V lo hi rb cap bs) (hM : (M : Int) ≤ 4) (m : Int) (hno : ¬ (0 ≤ m ∧ m < M)) :
    Calls Try.prog 19 #[.pointer (some ⟨p, 0, none⟩), .int .i64 m] w (ListPost [] w) := by
  have h1 := h.head
  clear h
  by_cases g1 : 0 ≤ m
  · have g2 : (M : Int) ≤ m := by omega
    clear hno
    go_enter Try.func19, Try.ntmps19
    go_wp2_with fail
    go_ret
    exact ⟨_, rfl, World.ownsRow_nil _ _ _ _, Below.refl _ _⟩
  · clear hno
    go_enter Try.func19, Try.ntmps19
    go_wp2_with fail
    go_ret
    exact ⟨_, rfl, World.ownsRow_nil _ _ _ _, Below.refl _ _⟩

theorem allR_any (h : Lay w p M S V lo hi rb cap bs) (hM : (M : Int) ≤ 4) (hS : (S : Int) ≤ 8) :
    Calls Try.prog 21 #[.pointer (some ⟨p, 0, none⟩)] w (ListPost (allL V S M) w) := by
  obtain ⟨j0, hj, hy0, hy1, hy2⟩ := info_parts Try.info32
  have h1 := h.head
  have l1 := h.p_lt
  have H := Lib.hid h
  clear h
  go_enter Try.func21, Try.ntmps21
  go_wp2_with fail
  go_loopw [3, 4] (fun v i wr => ∃ k : Nat, k ≤ M ∧ i = .int .i64 k ∧ wr.ownsRow w.heap.size 32 2 v (allL V S k).length (idCells (allL V S k)) ∧ Below w.heap.size w wr) (fun _ i _ => M - (intOf i).toNat)
  case atStart => exact ⟨0, Nat.zero_le _, rfl, World.ownsRow_nil _ _ _ _, Below.refl _ _⟩
  case round =>
    obtain ⟨k, hk, rfl, hown, hbel⟩ := hrel
    have HO := Lib.hid hown
    have HB := Lib.hid hbel
    have hsz := hbel.size
    have hlen := allL_length V S k
    have hks : k * S ≤ 4 * 8 := Nat.mul_le_mul (by omega) (by omega)
    have hL := H.out.below hbel H.out.size
    have d1 := hL.head
    have HL := Lib.hid hL
    clear hown hbel hL
    by_cases hlt : k < M
    · go_wp2_with fail
      refine (ofR_yes _ _ _ _ _ _ _ _ _ _ HL.out hM hS k hlt).mono ?_
      rintro e w' ⟨v', rfl, hown', hb'⟩
      obtain ⟨ao, c, rfl, hsrc⟩ := owns_src hown'
      have hlen' := heldL_length (V k) S
      have hsz' := hb'.size
      have HO' := Lib.hid hown'
      have HB' := Lib.hid hb'
      have HS' := Lib.hid hsrc
      clear hown' hb' hsrc
      go_wp2_with (at_builtin; refine wpList_append_own_any _ rfl (.tmp 14) (.tmp 17) 39 rfl w.heap.size 32 j0 (.agg #[.int .i64 0, .int .u64 0]) 2 16 Try.underlying39 hj hy0 hy1 hy2 rfl (by decide) _ _ _ rfl (owns_below HO.out HB'.out) ao _ c (idCells (heldL (V k) S)) rfl ?c1 ?c2 ?c3 ?c4 ?c5 ?c6 ?_)
      case c1 => exact idCells_length _
      case c2 => exact HS'.out
      case c3 => exact idCells_one _
      case c4 => unfold maxLen; omega
      case c5 => omega
      case c6 => omega
      intro v2 w2 hown2 hgrow2 _
      have hb2 : Below w.heap.size w w2 := (HB.out.trans (HB'.out.mono hsz)).grown hgrow2 (by omega) (fun k hk => (HO.out.lt k hk).1)
      have HO2 := Lib.hid hown2
      have HB2 := Lib.hid hb2
      clear hown2 hgrow2 hb2
      go_wp2_with fail
      go_roundw
      case rel =>
        refine ⟨k + 1, by omega, by go_num, ?_, HB2.out⟩
        rw [allL, List.length_append, idCells_append]
        exact HO2.out
      case measure => simp [intOf]; omega
    · obtain rfl : k = M := by omega
      go_wp2_with fail
      go_ret
      exact ⟨_, rfl, HO.out, HB.out⟩

theorem countR_any (n r : Int) (h : Lay w p M S V lo hi rb cap bs) (hM : (M : Int) ≤ 4) (hS : (S : Int) ≤ 8) :
    Calls Try.prog 16 #[.pointer (some ⟨p, 0, none⟩), .agg #[.int .i64 n, .int .u64 r]] w fun e w' => e = .returned (.int .i64 (cnt2 V S (n, r) M : Nat)) ∧ Below w.heap.size w w' := by
  have h1 := h.head
  have l1 := h.p_lt
  have l2 := h.rb_lt
  have H := Lib.hid h
  clear h
  go_enter Try.func16, Try.ntmps16
  go_wp2_with fail
  go_loopw [5, 6] (fun c i wr => ∃ k q : Nat, k ≤ M ∧ i = .int .i64 k ∧ c = .int .i64 (cnt2 V S (n, r) k : Nat) ∧ wr = (w.alloc (.cells #[.int .i64 n, .int .u64 r] 32)).drewN q) (fun _ i _ => M - (intOf i).toNat)
  case atStart => exact ⟨0, 0, Nat.zero_le _, rfl, rfl, rfl⟩
  case round =>
    obtain ⟨k, q, hk, rfl, rfl, rfl⟩ := hrel
    have hc2 := cnt2_le V S (n, r) k
    have hks : k * S ≤ 4 * 8 := Nat.mul_le_mul (by omega) (by omega)
    by_cases hlt : k < M
    · have hrow := H.out.row k hlt
      have lb := H.out.bs_lt k hlt
      go_wp2_with fail
      go_loopw [5, 7] (fun c i wr => ∃ j q : Nat, j ≤ S ∧ i = .int .i64 j ∧ c = .int .i64 (cnt2 V S (n, r) k + cnt1 (V k) (n, r) j : Nat) ∧ wr = (w.alloc (.cells #[.int .i64 n, .int .u64 r] 32)).drewN q) (fun _ i _ => S - (intOf i).toNat)
      case atStart => exact ⟨0, q, Nat.zero_le _, rfl, rfl, rfl⟩
      case round =>
        obtain ⟨j, q, hj, rfl, rfl, rfl⟩ := hrel
        have hc1 := cnt1_le (V k) (n, r) j
        by_cases hlt2 : j < S
        · obtain ⟨c1, c2⟩ := H.out.rowAt k hlt j hlt2
          have hstep : cnt1 (V k) (n, r) (j + 1) = cnt1 (V k) (n, r) j + if V k j = (n, r) then 1 else 0 := rfl
          have HS := Lib.hid hstep
          clear hstep
          generalize cnt1 (V k) (n, r) j = q1 at hc1 HS ⊢
          generalize cnt2 V S (n, r) k = t at hc2 ⊢
          generalize V k j = x at c1 c2 HS
          obtain ⟨a, b⟩ := x
          simp only at c1 c2
          rcases pair_cases n r a b with ⟨hp, rfl, rfl⟩ | ⟨hp, e1, e2⟩ | ⟨hp, rfl, e1, e2⟩
          · have HQ : Hid (cnt1 (V k) (a, b) (j + 1) = q1 + 1) := by rw [Hid, HS.out, if_pos rfl]
            clear hp HS
            go_wp2_with fail
            go_quiet (fail)
            go_wp2_with fail
            go_roundw
            case rel => exact ⟨j + 1, q + nq, by omega, by go_num, by rw [HQ.out]; go_num, by simp⟩
            case measure => simp [intOf]; omega
          · have HQ : Hid (cnt1 (V k) (n, r) (j + 1) = q1) := by rw [Hid, HS.out, if_neg hp]; rfl
            clear hp HS
            go_wp2_with fail
            go_quiet (fail)
            go_wp2_with fail
            go_roundw
            case rel => exact ⟨j + 1, q + nq, by omega, by go_num, by rw [HQ.out], by simp⟩
            case measure => simp [intOf]; omega
          · have HQ : Hid (cnt1 (V k) (a, r) (j + 1) = q1) := by rw [Hid, HS.out, if_neg hp]; rfl
            clear hp HS
            go_wp2_with fail
            go_quiet (fail)
            go_wp2_with fail
            go_roundw
            case rel => exact ⟨j + 1, q + nq, by omega, by go_num, by rw [HQ.out], by simp⟩
            case measure => simp [intOf]; omega
        · obtain rfl : j = S := by omega
          go_wp2_with fail
          go_roundw
          case rel => exact ⟨k + 1, q, by omega, by go_num, by rw [cnt2], rfl⟩
          case measure => simp [intOf]; omega
    · obtain rfl : k = M := by omega
      go_wp2_with fail
      go_ret
      exact ⟨rfl, below_drewN ((Below.refl _ _).alloc (Nat.le_refl _) _) _⟩
end
end Go.Proofs.Ythlgbjbandelkaa
