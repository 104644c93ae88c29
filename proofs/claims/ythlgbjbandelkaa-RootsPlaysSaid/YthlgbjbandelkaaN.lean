/- The contract of New: all slots are empty. -/
import Derived.Test.YthlgbjbandelkaaS
import Derived.Deep.OwnRows
namespace Go.Proofs.Ythlgbjbandelkaa
open Go.ChangeShapes Go.WideShapes Go.ChangeAt Go.RowKit
set_option linter.unusedVariables false

theorem Try.info39 : (Try.prog.info? 39).map (fun i => (i.zero, i.size, i.bytes)) = some (some (.slice none 0 0), 1, 24) := by kernel_rfl
theorem Try.info32 : (Try.prog.info? 32).map (fun i => (i.zero, i.size, i.bytes)) = some (some (.agg #[.int .i64 0, .int .u64 0]), 2, 16) := by kernel_rfl

theorem rowIs_of_owns {w : World} {base e size g n : Nat} {xs : List Value} {f : Nat → Value} (h : w.ownsRow base e size (.slice (some ⟨g, 0, none⟩) n n) n xs) (hx : ∀ i, i < n * size → xs[i]? = some (f i)) : w.rowIs g e (n * size) f := by
  rcases h.2 with ⟨h', _⟩ | ⟨g', cap', cur, h', _, hg, _, _, hs, htake⟩
  · simp at h'
  · simp only [Value.slice.injEq, Option.some.injEq, Addr.mk.injEq, and_true, true_and] at h'
    obtain ⟨rfl, rfl⟩ := h'
    refine ⟨cur, hg, hs, fun i hi => ?_⟩
    have := hx i hi
    rw [← htake, List.getElem?_take, if_pos hi] at this
    simpa using this

/-- What an empty slot's cells hold. -/
def zeroAt (i : Nat) : Value := if i % 2 = 0 then .int .i64 0 else .int .u64 0

theorem made_ids (n i : Nat) (h : i < n * 2) : (madeCells (Value.agg #[.int .i64 0, .int .u64 0]).cells (n * 2)).toList[i]? = some (zeroAt i) := by
  have e : (Value.agg #[.int .i64 0, .int .u64 0]).cells = #[.int .i64 0, .int .u64 0] := rfl
  rw [e]
  simp only [madeCells, Array.toList_map, Array.toList_range, List.getElem?_map, List.getElem?_range h, Option.map_some, zeroAt]
  rcases Nat.mod_two_eq_zero_or_one i with h' | h' <;> simp [h']

theorem new_bad (m s : Int) (w : World) (h : ¬ (1 ≤ m ∧ m ≤ 4 ∧ 1 ≤ s ∧ s ≤ 8)) :
    Calls Try.prog 7 #[.int .i64 m, .int .i64 s] w fun e w' => e = .returned (.tuple #[.pointer none, .int .i64 1]) ∧ w = w' := by
  by_cases g1 : 1 ≤ m
  · by_cases g2 : m ≤ 4
    · by_cases g3 : 1 ≤ s
      · have g4 : 8 < s := by omega
        clear h
        go_enter Try.func7, Try.ntmps7
        go_wp2
        go_ret2
        exact ⟨rfl, rfl⟩
      · clear h
        go_enter Try.func7, Try.ntmps7
        go_wp2
        go_ret2
        exact ⟨rfl, rfl⟩
    · clear h
      go_enter Try.func7, Try.ntmps7
      go_wp2
      go_ret2
      exact ⟨rfl, rfl⟩
  · clear h
    go_enter Try.func7, Try.ntmps7
    go_wp2
    go_ret2
    exact ⟨rfl, rfl⟩

/-- The loop of New: the first k rows are made. -/
structure Made (w0 w : World) (rb M S k : Nat) (bs : Nat → Nat) : Prop where
  rows : w.rowIs rb 39 M (fun j => if j < k then .slice (some ⟨bs j, 0, none⟩) S S else .slice none 0 0)
  each : ∀ j, j < k → rb < bs j ∧ w.rowIs (bs j) 32 (S * 2) zeroAt
  mono : ∀ j j', j < j' → j' < k → bs j < bs j'
  below : Below w0.heap.size w0 w
  rb : w0.heap.size ≤ rb

theorem made_rows (n i : Nat) (h : i < n * 1) : (madeCells (Value.slice none 0 0).cells (n * 1)).toList[i]? = some (.slice none 0 0) := by
  have e : (Value.slice none 0 0).cells = #[.slice none 0 0] := rfl
  rw [e]
  simp only [madeCells, Array.toList_map, Array.toList_range, List.getElem?_map, List.getElem?_range h, Option.map_some]
  simp [Nat.mod_one]

theorem Made.start {w w1 : World} {M S cap : Nat} (hown : w1.ownsRow w.heap.size 39 1 (.slice (some ⟨w.heap.size, 0, none⟩) M M) M (madeCells (Value.slice none 0 0).cells (M * 1)).toList) (hg : w.grownBy w1 none) : Made w w1 w.heap.size M S 0 (fun _ => 0) where
  rows := by
    have := rowIs_of_owns (f := fun _ => .slice none 0 0) hown (fun i hi => made_rows M i hi)
    rw [Nat.mul_one] at this
    exact this.congr fun i _ => by simp
  each := fun j hj => by omega
  mono := fun j j' _ h => by omega
  below := (Below.refl _ _).grown hg (Nat.le_refl _) (fun k hk => by cases hk)
  rb := Nat.le_refl _

theorem Made.step {w0 w w1 : World} {rb M S k : Nat} {bs : Nat → Nat} (h : Made w0 w rb M S k bs) (hk : k < M)
    (hown : w1.ownsRow w0.heap.size 32 2 (.slice (some ⟨w.heap.size, 0, none⟩) S S) S (madeCells (Value.agg #[.int .i64 0, .int .u64 0]).cells (S * 2)).toList) (hg : w.grownBy w1 none) :
    Made w0 (w1.setCell ⟨rb, k, none⟩ (.slice (some ⟨w.heap.size, 0, none⟩) S S)) rb M S (k + 1) (fun j => if j < k then bs j else w.heap.size) := by
  have hlt := h.rows.lt
  have hsz := h.below.size
  have hrow := rowIs_of_owns hown (fun i hi => made_ids S i hi)
  refine ⟨?_, ?_, ?_, ?_, h.rb⟩
  · refine ((h.rows.of_block (hg.block rb hlt (by simp))).set k _).congr fun j hj => ?_
    by_cases e : j = k
    · subst e; simp
    · by_cases e' : j < k
      · simp [e, e', show j < k + 1 by omega]
      · simp [e, e', show ¬ j < k + 1 by omega]
  · intro j hj
    by_cases e : j < k
    · obtain ⟨h1, h2⟩ := h.each j e
      rw [if_pos e]
      exact ⟨h1, (h2.of_block (hg.block (bs j) h2.lt (by simp))).setOther (by simp; omega) _⟩
    · rw [if_neg e]
      exact ⟨hlt, hrow.setOther (by simp; omega) _⟩
  · intro j j' h1 h2
    by_cases e : j' < k
    · rw [if_pos e, if_pos (by omega)]; exact h.mono j j' h1 e
    · rw [if_neg e, if_pos (by omega)]; exact (h.each j (by omega)).2.lt
  · exact (h.below.grown hg hsz (fun k hk => by cases hk)).setCell h.rb _

/-- What New leaves: a pointer, slots that hold none. -/
def NewPost (M S : Nat) (w : World) (e : Ending) (w' : World) : Prop :=
  ∃ p rb bs, e = .returned (.tuple #[.pointer (some ⟨p, 0, none⟩), .int .i64 0]) ∧ Lay w' p M S (fun _ _ => (0, 0)) w.heap.size w'.heap.size rb M bs ∧ Below w.heap.size w w'

theorem zero_even (s : Nat) : zeroAt (s * 2) = .int .i64 0 := by simp [zeroAt]
theorem zero_odd (s : Nat) : zeroAt (s * 2 + 1) = .int .u64 0 := by
  have : (s * 2 + 1) % 2 = 1 := by omega
  simp [zeroAt, this]

theorem Made.lay {w0 w : World} {rb M S : Nat} {bs : Nat → Nat} (h : Made w0 w rb M S M bs) : NewPost M S w0 (.returned (.tuple #[.pointer (some ⟨w.heap.size, 0, none⟩), .int .i64 0])) (w.alloc (.cells #[.slice (some ⟨rb, 0, none⟩) M M] 53)) := by
  have hlt := h.rows.lt
  have hsz := h.below.size
  have hrb := h.rb
  have row := h.rows.alloc (.cells #[.slice (some ⟨rb, 0, none⟩) M M] 53)
  have each := fun j hj => (h.each j hj).2.alloc (.cells #[.slice (some ⟨rb, 0, none⟩) M M] 53)
  refine ⟨_, rb, bs, rfl, ⟨Nat.le_refl _, ⟨hsz, by simp⟩, ⟨hrb, by simp; omega⟩, by omega, ?_, ?_, ?_, ?_, ?_, ?_, ?_⟩, h.below.alloc hsz _⟩
  · intro m hm
    obtain ⟨h1, h2⟩ := h.each m hm
    have := h2.lt
    exact ⟨by omega, by simp; omega, by omega, by omega⟩
  · intro m m' hm hm' e
    rcases Nat.lt_trichotomy m m' with g | g | g
    · have := h.mono m m' g hm'; omega
    · exact g
    · have := h.mono m' m g hm; omega
  · exact World.cell?_alloc_new _ _ _ _
  · intro m hm
    rw [row.cell hm]; simp [hm]
  · intro m s hm hs
    rw [(each m hm).cell (by omega), zero_even]
  · intro m s hm hs
    rw [(each m hm).cell (by omega), zero_odd]
  · intro m j hm
    exact (each m hm).frozen j

theorem new_ok (M S : Nat) (w : World) (h1 : (1 : Int) ≤ M) (h2 : (M : Int) ≤ 4) (h3 : (1 : Int) ≤ S) (h4 : (S : Int) ≤ 8) :
    Calls Try.prog 7 #[.int .i64 M, .int .i64 S] w (NewPost M S w) := by
  obtain ⟨i0, hi, hz0, hz1, hz2⟩ := info_parts Try.info39
  obtain ⟨j0, hj, hy0, hy1, hy2⟩ := info_parts Try.info32
  go_enter Try.func7, Try.ntmps7
  go_wp2_with (at_make; refine wpList_make_full _ rfl _ _ 40 rfl w.heap.size 39 i0 (.slice none 0 0) 1 Try.underlying40 hi hz0 hz1 .i64 .i64 M M M rfl rfl rfl rfl ?b1 ?b2 ?b3 ?_)
  case b1 => rw [hz2]; omega
  case b2 => unfold maxLen; omega
  case b3 => exact Nat.le_refl _
  intro w1 hown1 hgrow1
  have HM := Lib.hid (Made.start (M := M) (S := S) (cap := 0) (by rw [Nat.mul_one]; exact hown1) hgrow1)
  clear hown1 hgrow1
  go_wp2_with fail
  go_loopw [7, 26] (fun _ i wr => ∃ (k : Nat) (bs : Nat → Nat), k ≤ M ∧ i = .int .i64 k ∧ Made w wr w.heap.size M S k bs) (fun _ i _ => M - (intOf i).toNat)
  case atStart => exact ⟨0, _, Nat.zero_le _, rfl, HM.out⟩
  case round =>
    obtain ⟨k, bs, hk, rfl, hmade⟩ := hrel
    have HW := Lib.hid hmade
    clear hmade
    by_cases hlt : k < M
    · have hcell := HW.out.rows.cell hlt
      have hfr := HW.out.rows.frozen k
      have hrow := HW.out.rows.lt
      have hsz := HW.out.below.size
      go_wp2_with (at_make; refine wpList_make_full _ rfl _ _ 39 rfl w.heap.size 32 j0 (.agg #[.int .i64 0, .int .u64 0]) 2 Try.underlying39 hj hy0 hy1 .i64 .i64 S S S rfl rfl rfl rfl ?b1 ?b2 ?b3 ?_)
      case b1 => rw [hy2]; omega
      case b2 => unfold maxLen; omega
      case b3 => exact hsz
      intro w2 hown2 hgrow2
      have hc2 : w2.cell? ⟨w.heap.size, k, none⟩ = some (.slice none 0 0) := by
        rw [World.cell?_of_block (hgrow2.block _ hrow (by simp)), hcell]; simp
      have hf2 : w2.frozen? ⟨w.heap.size, k, none⟩ = false := by
        rw [World.frozen?_of_block (hgrow2.block _ hrow (by simp))]; exact hfr
      have HM2 := Lib.hid (HW.out.step hlt hown2 hgrow2)
      clear hcell hfr hown2 hgrow2
      go_wp2_with fail
      go_roundw
      case rel => exact ⟨k + 1, _, by omega, by go_num, HM2.out⟩
      case measure => simp [intOf]; omega
    · obtain rfl : k = M := by omega
      go_wp2_with fail
      go_ret2
      exact HW.out.lay
end Go.Proofs.Ythlgbjbandelkaa
