/- The contracts of held, Of, All. -/
import Derived.Test.YthlgbjbandelkaaN
import Derived.WalkSmall
namespace Go.Proofs.Ythlgbjbandelkaa
open Go.ChangeShapes Go.WideShapes Go.ChangeAt Go.RowKit
set_option linter.unusedVariables false

/-- Of the first k slots of a row what they hold, without the empty ones. -/
def heldL (f : Nat → Int × Int) : Nat → List (Int × Int)
  | 0 => []
  | k + 1 => heldL f k ++ if f k = (0, 0) then [] else [f k]

/-- The cells of IDs in a row. -/
def idCells : List (Int × Int) → List Value
  | [] => []
  | x :: r => .int .i64 x.1 :: .int .u64 x.2 :: idCells r

theorem idCells_append (a b : List (Int × Int)) : idCells (a ++ b) = idCells a ++ idCells b := by
  induction a with
  | nil => rfl
  | cons x r ih => simp [idCells, ih]

theorem idCells_length (a : List (Int × Int)) : (idCells a).length = a.length * 2 := by
  induction a with
  | nil => rfl
  | cons x r ih => simp [idCells, ih]; omega

theorem idCells_one (a : List (Int × Int)) : ∀ u ∈ idCells a, u.oneCell' = true := by
  induction a with
  | nil => intro u hu; cases hu
  | cons x r ih =>
    intro u hu
    simp only [idCells, List.mem_cons] at hu
    rcases hu with rfl | rfl | hu
    · rfl
    · rfl
    · exact ih u hu

theorem heldL_length (f : Nat → Int × Int) (k : Nat) : (heldL f k).length ≤ k := by
  induction k with
  | zero => simp [heldL]
  | succ k ih =>
    simp only [heldL, List.length_append]
    split <;> simp <;> omega

theorem grown_of_below {w w' : World} (h : Below w.heap.size w w') : w.grownBy w' none := ⟨h.os, h.tape, h.output, h.size, fun k hk _ => h.block k hk⟩

theorem owns_below {w w' : World} {base e size : Nat} {v : Value} {n : Nat} {xs : List Value} (h : w.ownsRow base e size v n xs) (hb : Below w.heap.size w w') : w'.ownsRow base e size v n xs :=
  h.kept (grown_of_below hb) (by cases hv : v.ownBlock <;> simp)

theorem owns_lower {w : World} {base base' e size : Nat} {v : Value} {n : Nat} {xs : List Value} (h : w.ownsRow base e size v n xs) (hb : base' ≤ base) : w.ownsRow base' e size v n xs := by
  refine ⟨h.1, ?_⟩
  rcases h.2 with h2 | ⟨g, cap, cur, h1, h2, h3⟩
  · exact .inl h2
  · exact .inr ⟨g, cap, cur, h1, by omega, h3⟩

/-- An owned row as the source of an append. -/
theorem owns_src {w : World} {base e size : Nat} {v : Value} {n : Nat} {xs : List Value} (h : w.ownsRow base e size v n xs) : ∃ ao c, v = .slice ao n c ∧ SrcAt w ao n c xs := by
  rcases h.2 with ⟨rfl, rfl⟩ | ⟨g, cap, cur, rfl, _⟩
  · exact ⟨none, 0, rfl, .inl ⟨rfl, rfl, rfl⟩⟩
  · exact ⟨some ⟨g, 0, none⟩, cap, rfl, .inr ⟨_, rfl, h.cells rfl⟩⟩

/-- A list of IDs in new memory. -/
def ListPost (l : List (Int × Int)) (w : World) (e : Ending) (w' : World) : Prop :=
  ∃ v, e = .returned v ∧ w'.ownsRow w.heap.size 32 2 v l.length (idCells l) ∧ Below w.heap.size w w'

/-- One row's cells. -/
def RowAt (w : World) (b S : Nat) (f : Nat → Int × Int) : Prop :=
  ∀ s, s < S → w.cell? ⟨b, s * 2, none⟩ = some (.int .i64 (f s).1) ∧ w.cell? ⟨b, s * 2 + 1, none⟩ = some (.int .u64 (f s).2)

theorem RowAt.below {w w' : World} {b S : Nat} {f : Nat → Int × Int} (h : RowAt w b S f) (hb : Below w.heap.size w w') : RowAt w' b S f :=
  fun s hs => ⟨(hb.cell (p := ⟨b, s * 2, none⟩) (World.block_lt_of_cell? _ _ (h s hs).1)).trans (h s hs).1, (hb.cell (p := ⟨b, s * 2 + 1, none⟩) (World.block_lt_of_cell? _ _ (h s hs).2)).trans (h s hs).2⟩

theorem held_any (b S cap : Nat) (f : Nat → Int × Int) (w : World) (h : RowAt w b S f) (hS : (S : Int) ≤ 8) (hb : b < w.heap.size) :
    Calls Try.prog 23 #[.slice (some ⟨b, 0, none⟩) S cap] w (ListPost (heldL f S) w) := by
  obtain ⟨j0, hj, hy0, hy1, hy2⟩ := info_parts Try.info32
  have H := Lib.hid h
  clear h
  go_enter Try.func23, Try.ntmps23
  go_wp2_with fail
  go_loopw [3, 8] (fun v i wr => ∃ k : Nat, k ≤ S ∧ i = .int .i64 k ∧ wr.ownsRow w.heap.size 32 2 v (heldL f k).length (idCells (heldL f k)) ∧ Below w.heap.size w wr) (fun _ i _ => S - (intOf i).toNat)
  case atStart => exact ⟨0, Nat.zero_le _, rfl, World.ownsRow_nil _ _ _ _, Below.refl _ _⟩
  case round =>
    obtain ⟨k, hk, rfl, hown, hbel⟩ := hrel
    have HO := Lib.hid hown
    have HB := Lib.hid hbel
    have hsz := hbel.size
    have hlen := heldL_length f k
    clear hown hbel
    by_cases hlt : k < S
    · obtain ⟨c1, c2⟩ := H.out.below HB.out k hlt
      have hl : b < wr.heap.size := by omega
      by_cases h0 : f k = (0, 0)
      · have HL : Hid (heldL f (k + 1) = heldL f k) := by simp [Hid, heldL, h0]
        rw [h0] at c1 c2
        simp only at c1 c2
        clear h0
        go_wp2_with fail
        go_roundw
        case rel => exact ⟨k + 1, by omega, by go_num, by rw [HL.out]; exact HO.out.alloc _, HB.out.alloc hsz _⟩
        case measure => simp [intOf]; omega
      · have HL : Hid (heldL f (k + 1) = heldL f k ++ [f k]) := by simp [Hid, heldL, h0]
        generalize f k = x at h0 HL c1 c2
        obtain ⟨a, r⟩ := x
        simp only at c1 c2
        have hways : (a == 0) = false ∨ ((a == 0) = true ∧ (r == 0) = false) := by
          by_cases ha : a = 0
          · refine .inr ⟨beq_iff_eq.2 ha, beq_eq_false_iff_ne.2 fun hr => h0 (by rw [ha, hr])⟩
          · exact .inl (beq_eq_false_iff_ne.2 ha)
        clear h0
        rcases hways with e0 | ⟨e1, e0⟩
        all_goals
          go_wp2_with (at_builtin; refine wpList_append_own _ rfl (.tmp 15) (.tmp 17) 39 rfl w.heap.size 32 j0 (.agg #[.int .i64 0, .int .u64 0]) 2 16 Try.underlying39 hj hy0 hy1 hy2 rfl (by decide) _ _ _ rfl ((HO.out.alloc _).alloc _) _ 1 1 [.int .i64 a, .int .u64 r] rfl ?_ ?_ ?_ ?_ ?_ ?_ ?_)
          · rfl
          · simpa only [World.size_alloc] using cell_two_new (wr.alloc (Obj.cells #[.int .i64 a, .int .u64 r] 32)) (.int .i64 a) (.int .u64 r) 32
          · simp [Value.oneCell']
          · unfold maxLen; omega
          · omega
          · simp; omega
          intro v' w1 hown' hgrow' _
          have hb1 : Below w.heap.size w w1 := ((HB.out.alloc hsz _).alloc (by simp; omega) _).grown hgrow' (by simp; omega) (fun k hk => (HO.out.lt k hk).1)
          have HO1 := Lib.hid hown'
          have HB1 := Lib.hid hb1
          clear hown' hgrow' hb1
          go_wp2_with fail
          go_roundw
          case rel =>
            refine ⟨k + 1, by omega, by go_num, ?_, HB1.out⟩
            rw [HL.out, List.length_append, idCells_append]
            exact HO1.out
          case measure => simp [intOf]; omega
    · obtain rfl : k = S := by omega
      go_wp2_with fail
      go_ret
      exact ⟨_, rfl, HO.out, HB.out⟩
end Go.Proofs.Ythlgbjbandelkaa
