/- Walks of the laws that tick a clock in a loop. -/
import Derived.Test.YtdmenaihmghifaaF
namespace Go.Proofs.Ytdmenaihmghifaa
open Go.ChangeShapes Go.WideShapes Go.ChangeAt Go.RowKit

theorem walkTicks (a0 : Int) (a1 : Option Addr) (len1 cap1 : Nat) (z1 : List Int) (w : World) (w0 : (Lit.int .u64 a0).wf = true) (w1 : IsRow .u64 w a1 len1 cap1 z1) (_s1 : len1 * 8 ≤ 140737488351232) :
    Calls Try.prog 3 #[.int .u64 a0, .slice a1 len1 cap1] w fun e w' => e = .returned (.bool true) ∧ Below w.heap.size w w' := by
  have b0 := bounds_u64 w0
  have hl := w1.len_le
  unfold maxLen at hl
  clear w0
  by_cases hs : 4611686018427387904 < a0
  · clear w1
    go_enter Try.func3, Try.ntmps3
    go_wp2_with (first | (go_at_call 11; refine (known_true _).mono ?_; rintro e w' ⟨rfl, rfl⟩) | (go_at_call 10; refine (new_bad _ _ (by omega)).mono ?_; rintro e w' ⟨rfl, rfl⟩))
    go_ret
    exact ⟨rfl, (Below.refl _ _).alloc (Nat.le_refl _) _⟩
  · have HW := Lib.hid w1
    clear w1
    go_enter Try.func3, Try.ntmps3
    go_wp2_with (first | (go_at_call 11; refine (known_true _).mono ?_; rintro e w' ⟨rfl, rfl⟩) | (go_at_call 10; refine (new_ok _ _ (by omega)).mono ?_; rintro e w' ⟨rfl, rfl⟩))
    go_loopw [7, 8] (fun nw i wr => ∃ (k : Nat) (v : Int), k ≤ len1 ∧ i = .int .i64 k ∧ nw = .int .u64 v ∧ 0 ≤ v ∧ v ≤ 4611686018427387904 ∧ wr.cell? ⟨w.heap.size, 0, none⟩ = some (.int .u64 v) ∧ wr.frozen? ⟨w.heap.size, 0, none⟩ = false ∧ Below w.heap.size w wr) (fun _ i _ => len1 - (intOf i).toNat)
    case atStart => exact ⟨0, a0, Nat.zero_le _, rfl, rfl, by omega, by omega, by go_simp, by go_simp, ((Below.refl _ _).alloc (Nat.le_refl _) _).alloc (by simp) _⟩
    case round =>
      obtain ⟨k, v, hk, rfl, rfl, hv0, hv1, hc, hf, hb⟩ := hrel
      have HB := Lib.hid hb
      clear hb
      by_cases hlt : k < len1
      · obtain ⟨b, off, rfl, hcell⟩ := HW.out.cells (by omega)
        have hbz := bounds_u64 (HW.out.wf k (by omega))
        have hck := hcell k (by omega)
        generalize z1.getD k 0 = z at hck hbz
        have hcz : wr.cell? ⟨b, off + k, none⟩ = some (.int .u64 z) := (HB.out.cell (p := ⟨b, off + k, none⟩) (World.block_lt_of_cell? _ _ hck)).trans hck
        clear hck hcell
        by_cases g1 : 4294967295 < z
        · go_wp2_with fail
          refine (tick_arg _ _ _ (by omega)).mono ?_
          rintro e w' ⟨rfl, rfl⟩
          go_wp2_with fail
          refine (now_any _ v _ hc).mono ?_
          rintro e w' ⟨rfl, rfl⟩
          go_wp2_with fail
          go_roundw
          case rel => exact ⟨k + 1, v, by omega, by go_num, rfl, hv0, hv1, hc, hf, HB.out⟩
          case measure => simp [intOf]; omega
        · by_cases g2 : 4611686018427387904 - v < z
          · go_wp2_with fail
            refine (tick_end _ v _ _ hc (by omega) (by omega) (by omega) (by omega)).mono ?_
            rintro e w' ⟨rfl, rfl⟩
            go_wp2_with fail
            refine (now_any _ v _ hc).mono ?_
            rintro e w' ⟨rfl, rfl⟩
            go_wp2_with fail
            go_roundw
            case rel => exact ⟨k + 1, v, by omega, by go_num, rfl, hv0, hv1, hc, hf, HB.out⟩
            case measure => simp [intOf]; omega
          · go_wp2_with fail
            refine (tick_ok _ v _ _ hc hf (by omega) (by omega) (by omega) (by omega) (by omega)).mono ?_
            rintro e w' ⟨rfl, rfl⟩
            go_wp2_with fail
            refine (now_any _ (v + z) _ (by go_simp)).mono ?_
            rintro e w' ⟨rfl, rfl⟩
            go_wp2_with fail
            go_roundw
            case rel => exact ⟨k + 1, v + z, by omega, by go_num, rfl, by omega, by omega, by go_simp, by go_simp, HB.out.setCell (Nat.le_refl _) _⟩
            case measure => simp [intOf]; omega
      · go_wp2_with (go_at_call 13; refine (now_any _ v _ hc).mono ?_; rintro e w' ⟨rfl, rfl⟩)
        go_ret
        exact ⟨ret_bool (by simp), HB.out⟩

theorem walkEnds (a0 : Int) (a1 : Option Addr) (len1 cap1 : Nat) (z1 : List Int) (w : World) (w0 : (Lit.int .u32 a0).wf = true) (w1 : IsRow .u32 w a1 len1 cap1 z1) (_s1 : len1 * 4 ≤ 140737488351232) :
    Calls Try.prog 4 #[.int .u32 a0, .slice a1 len1 cap1] w fun e w' => e = .returned (.bool true) ∧ Below w.heap.size w w' := by
  have b0 := bounds_u32 w0
  have hl := w1.len_le
  unfold maxLen at hl
  clear w0
  have HW := Lib.hid w1
  clear w1
  go_enter Try.func4, Try.ntmps4
  go_wp2_with (first | (go_at_call 11; refine (known_true _).mono ?_; rintro e w' ⟨rfl, rfl⟩) | (go_at_call 10; refine (new_ok _ _ (by omega)).mono ?_; rintro e w' ⟨rfl, rfl⟩))
  go_loopw [7] (fun i wr => ∃ (k : Nat) (v : Int), k ≤ len1 ∧ i = .int .i64 k ∧ 0 ≤ v ∧ v ≤ 4611686018427387904 ∧ wr.cell? ⟨w.heap.size, 0, none⟩ = some (.int .u64 v) ∧ wr.frozen? ⟨w.heap.size, 0, none⟩ = false ∧ Below w.heap.size w wr) (fun i _ => len1 - (intOf i).toNat)
  case atStart => exact ⟨0, 4611686018427387904 - a0, Nat.zero_le _, rfl, by omega, by omega, by go_simp, by go_simp, ((Below.refl _ _).alloc (Nat.le_refl _) _).alloc (by simp) _⟩
  case round =>
    obtain ⟨k, v, hk, rfl, hv0, hv1, hc, hf, hb⟩ := hrel
    have HB := Lib.hid hb
    clear hb
    by_cases hlt : k < len1
    · obtain ⟨b, off, rfl, hcell⟩ := HW.out.cells (by omega)
      have hbz := bounds_u32 (HW.out.wf k (by omega))
      have hck := hcell k (by omega)
      generalize z1.getD k 0 = z at hck hbz
      have hcz : wr.cell? ⟨b, off + k, none⟩ = some (.int .u32 z) := (HB.out.cell (p := ⟨b, off + k, none⟩) (World.block_lt_of_cell? _ _ hck)).trans hck
      have hlts : b < w.heap.size := World.block_lt_of_cell? _ _ hck
      clear hck hcell
      by_cases g2 : 4611686018427387904 - v < z
      · go_wp2_with fail
        refine (now_any _ v _ hc).mono ?_
        rintro e w' ⟨rfl, rfl⟩
        go_wp2_with fail
        refine (tick_end _ v _ _ hc (by omega) (by omega) (by omega) (by omega)).mono ?_
        rintro e w' ⟨rfl, rfl⟩
        go_wp2_with (go_at_call 13; refine (now_any _ v _ hc).mono ?_; rintro e w' ⟨rfl, rfl⟩)
        go_roundw
        case rel => exact ⟨k + 1, v, by omega, by go_num, hv0, hv1, hc, hf, HB.out⟩
        case measure => simp [intOf]; omega
      · go_wp2_with fail
        refine (now_any _ v _ hc).mono ?_
        rintro e w' ⟨rfl, rfl⟩
        go_wp2_with fail
        refine (tick_ok _ v _ _ hc hf (by omega) (by omega) (by omega) (by omega) (by omega)).mono ?_
        rintro e w' ⟨rfl, rfl⟩
        go_wp2_with (go_at_call 13; refine (now_any _ (v + z) _ (by go_simp)).mono ?_; rintro e w' ⟨rfl, rfl⟩)
        go_roundw
        case rel => exact ⟨k + 1, v + z, by omega, by go_num, by omega, by omega, by go_simp, by go_simp, HB.out.setCell (Nat.le_refl _) _⟩
        case measure => simp [intOf]; omega
    · go_wp2
      go_ret
      exact ⟨rfl, HB.out⟩

set_option maxRecDepth 100000 in
theorem walkTwo (a0 a1 : Int) (a2 : Option Addr) (len2 cap2 : Nat) (z2 : List Int) (w : World) (w0 : (Lit.int .u32 a0).wf = true) (w1 : (Lit.int .u32 a1).wf = true) (w2 : IsRow .u32 w a2 len2 cap2 z2) (_s2 : len2 * 4 ≤ 140737488351232) :
    Calls Try.prog 5 #[.int .u32 a0, .int .u32 a1, .slice a2 len2 cap2] w fun e w' => e = .returned (.bool true) ∧ Below w.heap.size w w' := by
  have b0 := bounds_u32 w0
  have b1 := bounds_u32 w1
  have hl := w2.len_le
  unfold maxLen at hl
  clear w0 w1
  have HW := Lib.hid w2
  clear w2
  go_enter Try.func5, Try.ntmps5
  go_wp2_with fail
  refine (new_ok _ _ (by omega)).mono ?_
  rintro e w' ⟨rfl, rfl⟩
  go_wp2_with fail
  refine (new_ok _ _ (by omega)).mono ?_
  rintro e w' ⟨rfl, rfl⟩
  go_wp2_with (go_at_call 11; refine (known_true _).mono ?_; rintro e w' ⟨rfl, rfl⟩)
  go_loopw [11, 12] (fun s i wr => ∃ (k : Nat) (v : Int), k ≤ len2 ∧ (k : Int) ≤ 65536 ∧ i = .int .i64 k ∧ s = .int .u64 v ∧ 0 ≤ v ∧ v ≤ 4294967295 + 4294967295 * (k : Int) ∧ wr.cell? ⟨w.heap.size, 0, none⟩ = some (.int .u64 v) ∧ wr.frozen? ⟨w.heap.size, 0, none⟩ = false ∧ wr.cell? ⟨w.heap.size + 1, 0, none⟩ = some (.int .u64 a1) ∧ Below w.heap.size w wr) (fun _ i _ => 65536 - (intOf i).toNat)
  case atStart => exact ⟨0, a0, Nat.zero_le _, by omega, rfl, rfl, by omega, by omega, by go_simp, by go_simp, by go_simp, (((Below.refl _ _).alloc (Nat.le_refl _) _).alloc (by simp) _).alloc (by simp; omega) _⟩
  case round =>
    obtain ⟨k, v, hk, hk6, rfl, rfl, hv0, hv1, hc, hf, hd, hb⟩ := hrel
    have HB := Lib.hid hb
    clear hb
    by_cases hlt : k < len2
    · by_cases h6 : (k : Int) < 65536
      · obtain ⟨b, off, rfl, hcell⟩ := HW.out.cells (by omega)
        have hbz := bounds_u32 (HW.out.wf k (by omega))
        have hck := hcell k (by omega)
        generalize z2.getD k 0 = z at hck hbz
        have hcz : wr.cell? ⟨b, off + k, none⟩ = some (.int .u32 z) := (HB.out.cell (p := ⟨b, off + k, none⟩) (World.block_lt_of_cell? _ _ hck)).trans hck
        have hlts : b < w.heap.size := World.block_lt_of_cell? _ _ hck
        clear hck hcell
        go_wp2_with fail
        refine (tick_ok _ v _ _ hc hf (by omega) (by omega) (by omega) (by omega) (by omega)).mono ?_
        rintro e w' ⟨rfl, rfl⟩
        go_wp2_with fail
        go_roundw
        case rel => exact ⟨k + 1, v + z, by omega, by omega, by go_num, rfl, by omega, by omega, by go_simp, by go_simp, by go_simp, HB.out.setCell (Nat.le_refl _) _⟩
        case measure => simp [intOf]; omega
      · go_wp2_with fail
        refine (now_any _ v _ hc).mono ?_
        rintro e w' ⟨rfl, rfl⟩
        go_wp2_with fail
        refine (now_any _ a1 _ hd).mono ?_
        rintro e w' ⟨rfl, rfl⟩
        go_wp2_with fail
        go_ret
        exact ⟨ret_bool (by simp), HB.out⟩
    · go_wp2_with fail
      refine (now_any _ v _ hc).mono ?_
      rintro e w' ⟨rfl, rfl⟩
      go_wp2_with fail
      refine (now_any _ a1 _ hd).mono ?_
      rintro e w' ⟨rfl, rfl⟩
      go_wp2_with fail
      go_ret
      exact ⟨ret_bool (by simp), HB.out⟩
end Go.Proofs.Ytdmenaihmghifaa
