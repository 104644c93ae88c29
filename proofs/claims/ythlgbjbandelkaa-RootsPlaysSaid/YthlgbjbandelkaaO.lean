/- The contracts of Of, All, Count, IDs. -/
import Derived.Test.YthlgbjbandelkaaH
namespace Go.Proofs.Ythlgbjbandelkaa
open Go.ChangeShapes Go.WideShapes Go.ChangeAt Go.RowKit
set_option linter.unusedVariables false

/-- What the first m mutators hold. -/
def allL (V : Nat → Nat → Int × Int) (S : Nat) : Nat → List (Int × Int)
  | 0 => []
  | m + 1 => allL V S m ++ heldL (V m) S

theorem allL_length (V : Nat → Nat → Int × Int) (S m : Nat) : (allL V S m).length ≤ m * S := by
  induction m with
  | zero => simp [allL]
  | succ m ih =>
    have := heldL_length (V m) S
    simp only [allL, List.length_append, Nat.add_mul, Nat.one_mul]
    omega

section
variable (p M S : Nat) (V : Nat → Nat → Int × Int) (lo hi rb cap : Nat) (bs : Nat → Nat) (w : World)

theorem Lay.rowAt {w : World} {p M S : Nat} {V : Nat → Nat → Int × Int} {lo hi rb cap : Nat} {bs : Nat → Nat} (h : Lay w p M S V lo hi rb cap bs) (m : Nat) (hm : m < M) : RowAt w (bs m) S (V m) :=
  fun s hs => ⟨h.node m s hm hs, h.serial m s hm hs⟩

theorem of_yes (h : Lay w p M S V lo hi rb cap bs) (hM : (M : Int) ≤ 4) (hS : (S : Int) ≤ 8) (m : Nat) (hm : m < M) :
    Calls Try.prog 18 #[.pointer (some ⟨p, 0, none⟩), .int .i64 m] w (ListPost (heldL (V m) S) w) := by
  have h1 := h.head
  have h2 := h.row m hm
  have H := Lib.hid h
  clear h
  go_enter Try.func18, Try.ntmps18
  go_wp2_with fail
  refine (held_any (bs m) S S (V m) _ (H.out.rowAt m hm) hS (H.out.bs_lt m hm)).mono ?_
  rintro e w' ⟨v, rfl, hown, hb⟩
  have HO := Lib.hid hown
  have HB := Lib.hid hb
  clear hown hb
  go_wp2_with fail
  go_ret
  exact ⟨v, rfl, HO.out, HB.out⟩

theorem of_no (h : Lay w p M S V lo hi rb cap bs) (hM : (M : Int) ≤ 4) (m : Int) (hno : ¬ (0 ≤ m ∧ m < M)) :
    Calls Try.prog 18 #[.pointer (some ⟨p, 0, none⟩), .int .i64 m] w (ListPost [] w) := by
  have h1 := h.head
  clear h
  by_cases g1 : 0 ≤ m
  · have g2 : (M : Int) ≤ m := by omega
    clear hno
    go_enter Try.func18, Try.ntmps18
    go_wp2_with fail
    go_ret
    exact ⟨_, rfl, World.ownsRow_nil _ _ _ _, Below.refl _ _⟩
  · clear hno
    go_enter Try.func18, Try.ntmps18
    go_wp2_with fail
    go_ret
    exact ⟨_, rfl, World.ownsRow_nil _ _ _ _, Below.refl _ _⟩

theorem all_any (h : Lay w p M S V lo hi rb cap bs) (hM : (M : Int) ≤ 4) (hS : (S : Int) ≤ 8) :
    Calls Try.prog 20 #[.pointer (some ⟨p, 0, none⟩)] w (ListPost (allL V S M) w) := by
  obtain ⟨j0, hj, hy0, hy1, hy2⟩ := info_parts Try.info32
  have h1 := h.head
  have H := Lib.hid h
  clear h
  go_enter Try.func20, Try.ntmps20
  go_wp2_with fail
  go_loopw [3, 11] (fun v i wr => ∃ k : Nat, k ≤ M ∧ i = .int .i64 k ∧ wr.ownsRow w.heap.size 32 2 v (allL V S k).length (idCells (allL V S k)) ∧ Below w.heap.size w wr) (fun _ i _ => M - (intOf i).toNat)
  case atStart => exact ⟨0, Nat.zero_le _, rfl, World.ownsRow_nil _ _ _ _, Below.refl _ _⟩
  case round =>
    obtain ⟨k, hk, rfl, hown, hbel⟩ := hrel
    have HO := Lib.hid hown
    have HB := Lib.hid hbel
    have hsz := hbel.size
    have hlen := allL_length V S k
    have hks : k * S ≤ 4 * 8 := Nat.mul_le_mul (by omega) (by omega)
    have hL := H.out.below hbel H.out.size
    have HL := Lib.hid hL
    clear hown hbel
    by_cases hlt : k < M
    · have hrow := hL.row k hlt
      clear hL
      go_wp2_with fail
      refine (held_any (bs k) S S (V k) _ (HL.out.rowAt k hlt) hS (HL.out.bs_lt k hlt)).mono ?_
      rintro e w' ⟨v', rfl, hown', hb'⟩
      obtain ⟨ao, c, rfl, hsrc⟩ := owns_src hown'
      have hlen' := heldL_length (V k) S
      have hsz' := hb'.size
      have HO' := Lib.hid hown'
      have HB' := Lib.hid hb'
      have HS' := Lib.hid hsrc
      clear hown' hb' hsrc
      go_wp2_with (at_builtin; refine wpList_append_own_any _ rfl (.tmp 15) (.tmp 17) 39 rfl w.heap.size 32 j0 (.agg #[.int .i64 0, .int .u64 0]) 2 16 Try.underlying39 hj hy0 hy1 hy2 rfl (by decide) _ _ _ rfl (owns_below HO.out HB'.out) ao _ c (idCells (heldL (V k) S)) rfl ?c1 ?c2 ?c3 ?c4 ?c5 ?c6 ?_)
      case c1 => exact idCells_length _
      case c2 => exact HS'.out
      case c3 => exact idCells_one _
      case c4 => unfold maxLen; omega
      case c5 => omega
      case c6 => omega
      intro v2 w2 hown2 hgrow2 _
      have hb2 : Below w.heap.size w w2 := (HB.out.trans (HB'.out.mono hsz)).grown hgrow2 (by omega) (fun k hk => (HO.out.lt k hk).1)
      have HO2 := Lib.hid hown2
      have HB2 := Lib.hid hb2
      clear hown2 hgrow2 hb2
      go_wp2_with fail
      go_roundw
      case rel =>
        refine ⟨k + 1, by omega, by go_num, ?_, HB2.out⟩
        rw [allL, List.length_append, idCells_append]
        exact HO2.out
      case measure => simp [intOf]; omega
    · obtain rfl : k = M := by omega
      go_wp2_with fail
      go_ret
      exact ⟨_, rfl, HO.out, HB.out⟩
end
end Go.Proofs.Ythlgbjbandelkaa
