/- The walk of the law on Fair. -/
import Derived.Test.YtdmenaihmghifaaF
namespace Go.Proofs.Ytdmenaihmghifaa
open Go.ChangeShapes Go.WideShapes Go.ChangeAt Go.RowKit

theorem Try.info22 : (Try.prog.info? 22).map (fun i => (i.zero, i.size, i.bytes)) = some (some (.int .u64 0), 1, 8) := by kernel_rfl

theorem walkFair (a0 a1 : Int) (a2 : Option Addr) (len2 cap2 : Nat) (z2 : List Int) (w : World) (w0 : (Lit.int .u64 a0).wf = true) (w1 : (Lit.int .u64 a1).wf = true) (w2 : IsRow .u64 w a2 len2 cap2 z2) (s2 : len2 * 8 ≤ 140737488351232) :
    Calls Try.prog 9 #[.int .u64 a0, .int .u64 a1, .slice a2 len2 cap2] w fun e w' => e = .returned (.bool true) ∧ Below w.heap.size w w' := by
  obtain ⟨i0, hi, hz0, hz1, hz2⟩ := info_parts Try.info22
  have b0 := bounds_u64 w0
  have b1 := bounds_u64 w1
  have hl := w2.len_le
  unfold maxLen at hl
  clear w0 w1
  have hsrc := Lib.hid w2.src
  have HW := Lib.hid w2
  clear w2
  go_enter Try.func9, Try.ntmps9
  go_wp2_with (at_builtin; refine wpList_append_own_any _ rfl (.tmp 10) (.tmp 11) 23 rfl w.heap.size 22 i0 (.int .u64 0) 1 8 Try.underlying23 hi hz0 hz1 hz2 rfl (by decide) _ 0 [] rfl (World.ownsRow_lit w #[] 0 (Nat.le_refl _) (by decide) rfl) a2 len2 cap2 ((z2.take len2).map (Value.int .u64)) rfl ?c1 ?c2 ?c3 ?c4 ?c5 ?c6 ?_)
  case c1 => simp; omega
  case c2 => exact hsrc.out.alloc _
  case c3 => exact ints_oneCell _ _
  case c4 => unfold maxLen; omega
  case c5 => omega
  case c6 => simp
  intro v1 w1 hown1 hgrow1 _
  have hb1 : Below w.heap.size w w1 := ((Below.refl _ _).alloc (Nat.le_refl _) _).grown hgrow1 (by simp) (fun k hk => by simp [Value.ownBlock] at hk; omega)
  have hs1 := hb1.size
  have HB1 := Lib.hid hb1
  have HO1 := Lib.hid hown1
  clear hgrow1 hb1 hown1
  go_wp2_with (at_builtin; refine wpList_append_own_any _ rfl (.tmp 12) (.tmp 13) 23 rfl w.heap.size 22 i0 (.int .u64 0) 1 8 Try.underlying23 hi hz0 hz1 hz2 rfl (by decide) _ len2 _ rfl (HO1.out.alloc _) _ 1 1 [.int .u64 77] rfl ?c1 ?c2 ?c3 ?c4 ?c5 ?c6 ?_)
  case c1 => rfl
  case c2 => exact .inr ⟨_, rfl, cell_one_new _ _ _⟩
  case c3 => simp [Value.oneCell']
  case c4 => unfold maxLen; omega
  case c5 => omega
  case c6 => simp; omega
  intro v2 w2 hown2 hgrow2 _
  have hb2 : Below w.heap.size w w2 := (HB1.out.alloc hs1 _).grown hgrow2 (by simp; omega) (fun k hk => (HO1.out.lt k hk).1)
  obtain ⟨g, cap, hv2, hg1, hg2, hg3, hg4⟩ := owned_head hown2 (by omega)
  rw [hv2] at hown2 ⊢
  have hself : ∀ i, i < len2 → w2.cell? ⟨g, i, none⟩ = some (.int .u64 (z2.getD i 0)) := by
    intro i hi
    rw [hown2.cellAt i (by omega), List.getElem?_append_left (by simp; omega)]
    simp [hi, List.getElem?_eq_getElem (show i < z2.length by omega)]
  have hlast : w2.cell? ⟨g, len2, none⟩ = some (.int .u64 77) := by
    rw [hown2.cellAt len2 (by omega), List.getElem?_append_right (by simp; omega)]
    simp [show min len2 z2.length = len2 by omega]
  have hs2 := hb2.size
  have HB2 := Lib.hid hb2
  have HS := Lib.hid hself
  clear hown2 hgrow2 hv2 hb2 hself HO1 HB1 hs1
  go_wp2_with fail
  refine (fair_any _ _ _ len2 cap z2 _ (by omega) (by omega) (by omega) ?_).mono ?_
  · exact fun _ => ⟨g, 0, rfl, fun i hi => by rw [Nat.zero_add]; exact HS.out i hi⟩
  rintro e w' ⟨rfl, rfl⟩
  go_wp2_with fail
  go_loopw [9] (fun i wr => ∃ k n : Nat, k ≤ len2 ∧ i = .int .i64 k ∧ wr = w2.drewN n) (fun i _ => len2 - (intOf i).toNat)
  case atStart => exact ⟨0, 0, Nat.zero_le _, rfl, rfl⟩
  case round =>
    obtain ⟨k, n, hk, rfl, rfl⟩ := hrel
    by_cases hlt : k < len2
    · obtain ⟨b, off, rfl, hcell⟩ := HW.out.cells (by omega)
      have hck := hcell k (by omega)
      have hown := HS.out k hlt
      generalize z2.getD k 0 = z at hck hown
      have hcz : w2.cell? ⟨b, off + k, none⟩ = some (.int .u64 z) := (HB2.out.cell (p := ⟨b, off + k, none⟩) (World.block_lt_of_cell? _ _ hck)).trans hck
      clear hck hcell
      go_wp2_with fail
      go_quiet (fail)
      go_wp2_with fail
      go_roundw
      case rel => exact ⟨k + 1, n + nq, by omega, by go_num, by simp⟩
      case measure => simp [intOf]; omega
    · go_wp2_with fail
      refine (known_true _).mono ?_
      rintro e w' ⟨rfl, rfl⟩
      have hl2 : ((w2.drewN n).alloc (.cells #[.int .u64 8] 41)).cell? ⟨g, len2, none⟩ = some (.int .u64 77) := by
        rw [World.cell?_alloc_lt _ _ _ (by simpa using hg2)]
        simpa using hlast
      go_wp2_with fail
      refine (refFair_any _ _ _ len2 cap2 z2 _ (by omega) (by omega) (by omega) ?_).mono ?_
      · intro h0
        obtain ⟨b, off, rfl, hcell⟩ := HW.out.cells h0
        refine ⟨b, off, rfl, fun i hi => ?_⟩
        have hck := hcell i (by omega)
        have hlt : b < w.heap.size := World.block_lt_of_cell? _ _ hck
        rw [World.cell?_alloc_lt _ _ _ (by simp; omega)]
        have := (HB2.out.cell (p := ⟨b, off + i, none⟩) hlt).trans hck
        simpa using this
      rintro e w' ⟨rfl, rfl⟩
      go_wp2_with fail
      go_ret
      exact ⟨rfl, (HB2.out.trans ⟨rfl, rfl, rfl, Nat.le_refl _, fun _ _ => rfl⟩ : Below w.heap.size w (w2.drewN n)).alloc (by simpa using hs2) _⟩
end Go.Proofs.Ytdmenaihmghifaa
