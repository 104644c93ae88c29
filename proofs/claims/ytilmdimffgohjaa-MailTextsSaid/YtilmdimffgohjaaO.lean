/- The walk of MailTexts. -/
import Derived.Test.YtilmdimffgohjaaN
import Derived.Deep.DeepCutAuto
namespace Go.Proofs.Ytilmdimffgohjaa
open Go.ChangeShapes Go.WideShapes Go.ChangeAt Go.RowKit
set_option linter.unusedVariables false

theorem Own.below' {w0 w w' : World} {p c cap : Nat} {buf : List Value} (h : Own w0 w p c cap buf) {B : Nat} (hb : Below B w w') (hB : w.heap.size ≤ B) : Own w0 w' p c cap buf :=
  ⟨h.box.below hb hB, h.below.trans (hb.mono (Nat.le_trans h.below.size hB)), h.lo⟩

set_option maxHeartbeats 2000000 in
set_option maxRecDepth 100000 in
theorem walkTexts (a0 : Int) (a1 : Option Addr) (len1 cap1 : Nat) (z1 : Nat → ByteArray) (a2 : Option Addr) (len2 cap2 : Nat) (z2 : Nat → Bool) (w : World) (w0 : (Lit.int .i64 a0).wf = true) (w1 : StrsAt w a1 len1 z1 ∧ len1 ≤ maxLen) (w2 : BoolsAt w a2 len2 z2 ∧ len2 ≤ maxLen) :
    Calls Try.prog 4 #[.int .i64 a0, .slice a1 len1 cap1, .slice a2 len2 cap2] w fun e w' => e = .returned (.bool true) ∧ Below w.heap.size w w' := by
  have b0 := bounds_i64 w0
  obtain ⟨hz1, L1⟩ := w1
  obtain ⟨hz2, L2⟩ := w2
  have HZ := Lib.hid hz1
  have HB := Lib.hid hz2
  clear hz1 hz2 w0
  unfold maxLen at L1 L2
  obtain ⟨r, hr1, hr2⟩ := mod_nat a0 16 (by omega)
  simp only [Int.cast_ofNat_Int] at hr1
  obtain ⟨fs, hfs⟩ : ∃ fs : Nat → Value, fs = fun j => .string (z1 j) := ⟨_, rfl⟩
  have HF := Lib.hid fun j => congrFun hfs j
  clear hfs
  have q0 : IntKind.i64.wrap (1 + (r : Int)) = ((1 + r : Nat) : Int) := by rw [IntWalk.i64_in _ (by omega)]; omega
  obtain ⟨M, hM⟩ : ∃ M, M = 1 + r := ⟨_, rfl⟩
  have hM1 : (1 : Int) ≤ M := by omega
  have hM2 : (M : Int) ≤ 16 := by omega
  go_enter Try.func4, Try.ntmps4
  go_wp2_with fail
  refine (pick_any a0 16 _ b0.1 b0.2 (by omega) (by omega)).mono ?_
  rintro e w3 ⟨rfl, rfl⟩
  rw [hr1]
  clear hr1
  rw [← hM] at q0
  clear hM hr2
  go_wp2_with fail
  refine (new_boxS M _ hM1 hM2).mono ?_
  rintro e w1 ⟨p, c, rfl, hbox, hb1, hc, hp⟩
  have HX : Hid (Own w w1 p c M []) := Lib.hid ⟨hbox, hb1, hc⟩
  clear hbox hb1 hc hp q0
  go_wp2_with fail
  refine (known_true _).mono ?_
  rintro e w2 ⟨rfl, hb2⟩
  have HX2 : Hid (Own w w2 p c M []) := Lib.hid (HX.out.below' hb2 (Nat.le_refl _))
  clear hb2 HX
  go_wp2_with fail
  go_loopw [9, 10, 11] (fun u t i wr => ∃ k g : Nat, k ≤ len1 ∧ k ≤ 500 ∧ g ≤ k ∧ k - g ≤ M ∧ u = .int .i64 k ∧ t = .int .i64 g ∧ i = .int .i64 k ∧ Own w wr p c M (seg fs g k)) (fun _ _ i _ => 500 - (intOf i).toNat)
  case atStart => exact ⟨0, 0, Nat.zero_le _, by omega, Nat.le_refl _, by omega, rfl, rfl, rfl, HX2.out⟩
  case round =>
    clear HX2
    obtain ⟨k, g, hk, hk5, hgk, hgM, rfl, rfl, rfl, hrel⟩ := hrel
    have HR := Lib.hid hrel
    clear hrel
    by_cases hgo : k < len1 ∧ k < 500
    · obtain ⟨hlt, h5⟩ := hgo
      obtain ⟨b, off, rfl, hc⟩ := HZ.out (by omega)
      have HC := Lib.hid hc
      have hbl : b < w.heap.size := World.block_lt_of_cell? _ _ (hc 0 (by omega))
      clear hc
      have q1 : IntKind.i64.wrap ((k : Int) - (g : Int)) = ((k - g : Nat) : Int) := by rw [IntWalk.i64_in _ (by omega)]; omega
      go_upto_if 50 with (fail)
      go_cut [10] (fun v wc => ∃ g' : Nat, v = .int .i64 g' ∧ g' ≤ k ∧ k - g' < M ∧ Own w wc p c M (seg fs g' k))
      case first =>
        by_cases hfull : k - g = M
        · have hx : BoxAt wr p c M (.string (z1 g) :: seg fs (g + 1) k) := by rw [← HF.out g, ← seg_head _ _ _ (by omega)]; exact HR.out.box
          have HX := Lib.hid hx
          have d0 := (HR.out.below.cell (p := ⟨b, off + g, none⟩) hbl).trans (HC.out g (by omega))
          clear hx
          go_wp2_with fail
          refine (take_someS _ _ _ p c M HX.out).mono ?_
          rintro e w3 ⟨rfl, hbox, hg⟩
          have HX3 := Lib.hid (HR.out.step hbox hg)
          have d1 := (HX3.out.below.cell (p := ⟨b, off + g, none⟩) hbl).trans (HC.out g (by omega))
          clear hbox hg d0 HX
          go_wp2_with fail
          go_meet
          case rel => exact ⟨g + 1, by go_num, by omega, by omega, HX3.out⟩
        · have hne : ¬ (((k - g : Nat) : Int) = (M : Int)) := by omega
          go_wp2_with fail
          go_meet
          case rel => exact ⟨g, rfl, hgk, by omega, HR.out⟩
      case rest =>
        obtain ⟨g', rfl, hg1, hg2, hx⟩ := hcut
        have HX := Lib.hid hx
        have d0 := (hx.below.cell (p := ⟨b, off + k, none⟩) hbl).trans (HC.out k (by omega))
        clear hx HR hgk hgM q1
        go_wp2_with fail
        refine (put_roomS (.string (z1 k)) _ p c M _ HX.out.box (by rw [seg_length]; omega)).mono ?_
        rintro e w4 ⟨rfl, hbox, hg⟩
        rw [← HF.out k, seg_push _ _ _ hg1] at hbox
        have HX4 := Lib.hid (HX.out.step hbox hg)
        clear hbox hg d0 HX
        go_upto_region 18 with (fail)
        go_cut [86] (fun v wc => ∃ look : Bool, v = .bool look ∧ w4 = wc)
        case first =>
          by_cases hl2 : k < len2
          · obtain ⟨b2, off2, rfl, hc2⟩ := HB.out (by omega)
            have hbl2 : b2 < w.heap.size := World.block_lt_of_cell? _ _ (hc2 0 (by omega))
            have d2 := (HX4.out.below.cell (p := ⟨b2, off2 + k, none⟩) hbl2).trans (hc2 k hl2)
            clear hc2
            go_wp2_with fail
            go_meet
            case rel => exact ⟨_, rfl, rfl⟩
          · go_wp2_with fail
            go_meet
            case rel => exact ⟨_, rfl, rfl⟩
        case rest =>
          obtain ⟨look, rfl, rfl⟩ := hcut
          cases look
          · go_wp2_with fail
            go_roundw
            case rel => exact ⟨k + 1, g', by omega, by omega, by omega, by omega, by go_num, rfl, by go_num, HX4.out⟩
            case measure => simp [intOf]; omega
          · go_wp2_with fail
            refine (all_boxS (seg fs g' (k + 1)) (by intro x hx; simp only [seg, List.mem_map] at hx; obtain ⟨n, _, rfl⟩ := hx; exact ⟨_, HF.out n⟩) _ p c M HX4.out.box (by rw [seg_length]; omega) hM2).mono ?_
            rw [seg_length]
            rintro e w5 ⟨v5, rfl, hown, hbox, hg⟩
            obtain ⟨n, hn⟩ : ∃ n, n = k + 1 - g' := ⟨_, rfl⟩
            rw [← hn] at hown
            have hn0 : 0 < n := by omega
            obtain ⟨gg, cc, rfl, hgg, hgs, _, _⟩ := owned_head hown hn0
            have HX5 := Lib.hid (HX4.out.step hbox hg)
            have hplt := HX4.out.box.lt
            have q5 : IntKind.i64.wrap ((k : Int) + 1 - (g' : Int)) = (n : Int) := by rw [IntWalk.i64_in _ (by omega)]; omega
            have hlo : w.heap.size ≤ gg := Nat.le_trans HX4.out.below.size hgg
            have hxs : ∀ j, j < n → (seg fs g' (k + 1))[j]? = some (fs (g' + j)) := by
              intro j hj
              simp only [seg, List.getElem?_map]
              rw [List.getElem?_range' (by omega)]
              simp
            have HO5 := Lib.hid hown
            have HXS := Lib.hid hxs
            clear hbox hg hown hxs
            go_wp2_with fail
            go_loopw [15] (fun i wx => ∃ (j : Nat) (xs : List Value), j ≤ n ∧ i = .int .i64 j ∧ wx.ownsRow w4.heap.size 9 1 (.slice (some ⟨gg, 0, none⟩) n cc) n xs ∧ (∀ t, j ≤ t → t < n → xs[t]? = some (fs (g' + t))) ∧ Own w wx p c M (seg fs g' (k + 1))) (fun i _ => n - (intOf i).toNat)
            case atStart => exact ⟨0, _, Nat.zero_le _, rfl, HO5.out, fun t _ ht => HXS.out t ht, HX5.out⟩
            case round =>
              clear HX5 HO5 HXS HX4
              obtain ⟨j, xs, hj, rfl, hown, hxs, hox⟩ := hrel
              have HX := Lib.hid hox
              by_cases hjn : j < n
              · have c0 : wr.cell? ⟨gg, j, none⟩ = some (.string (z1 (g' + j))) := (hown.cellAt j (by omega)).trans ((hxs j (Nat.le_refl _) hjn).trans (by rw [HF.out]))
                have f0 := hown.frozenAt j
                have d0 := (hox.below.cell (p := ⟨b, off + (g' + j), none⟩) hbl).trans (HC.out (g' + j) (by omega))
                have HOW := Lib.hid hown
                have HXS := Lib.hid hxs
                have hgl : ((g' : Int) + (j : Int)) = ((g' + j : Nat) : Int) := by omega
                have q6 : IntKind.i64.wrap ((g' : Int) + (j : Int)) = ((g' + j : Nat) : Int) := by rw [IntWalk.i64_in _ (by omega)]; omega
                have hlt6 : (((g' + j : Nat) : Int)) < len1 := by omega
                clear hxs hown hox hgl
                go_wp2_with fail
                go_quiet (fail)
                go_wp2_with fail
                go_roundw
                case rel =>
                  obtain ⟨hst, hgr⟩ := (show (wr.drewN nq).ownsRow w4.heap.size 9 1 (.slice (some ⟨gg, 0, none⟩) n cc) n xs from HOW.out).stored j (.string { data := #[109, 97, 114, 107] })
                  exact ⟨j + 1, _, by omega, by go_num, hst, fun t h1 h2 => by rw [List.getElem?_set_ne (by omega)]; exact HXS.out t (by omega) h2,
                    ⟨(show BoxAt (wr.drewN nq) p c M _ from HX.out.box).grown hgr (by intro e; cases e; omega) (by intro e; cases e; omega), (below_drewN HX.out.below nq).grown hgr HX.out.below.size (by intro k hk; cases hk; exact hlo), HX.out.lo⟩⟩
                case measure => simp [intOf]; omega
              · clear hown hxs hox
                go_wp2_with fail
                go_roundw
                case rel => exact ⟨k + 1, g', by omega, by omega, by omega, by omega, by go_num, rfl, by go_num, HX.out⟩
                case measure => simp [intOf]; omega
    · obtain ⟨wA, rfl⟩ : ∃ wA : World, wA = wr := ⟨_, rfl⟩
      have hways : ¬ k < len1 ∨ (k < len1 ∧ ¬ k < 500) := by omega
      clear hgo HB
      rcases hways with hlt | ⟨hlt, h5⟩
      all_goals
        go_wp2_with fail
        go_loopw [10] (fun t wr => ∃ g : Nat, g ≤ k ∧ t = .int .i64 g ∧ Own w wr p c M (seg fs g k)) (fun t _ => k - (intOf t).toNat)
        case atStart => exact ⟨g, hgk, rfl, HR.out⟩
        case round =>
          clear HR hgk hgM
          obtain ⟨g, hgk, rfl, hrel⟩ := hrel
          have HR := Lib.hid hrel
          clear hrel
          by_cases hg0 : g < k
          · obtain ⟨b, off, rfl, hc⟩ := HZ.out (by omega)
            have HC := Lib.hid hc
            have hbl : b < w.heap.size := World.block_lt_of_cell? _ _ (hc 0 (by omega))
            have hx : BoxAt wr p c M (.string (z1 g) :: seg fs (g + 1) k) := by rw [← HF.out g, ← seg_head _ _ _ (by omega)]; exact HR.out.box
            have HX := Lib.hid hx
            clear hx hc
            go_wp2_with fail
            refine (take_someS _ _ _ p c M HX.out).mono ?_
            rintro e w3 ⟨rfl, hbox, hg⟩
            have HX3 := Lib.hid (HR.out.step hbox hg)
            have d1 := (HX3.out.below.cell (p := ⟨b, off + g, none⟩) hbl).trans (HC.out g (by omega))
            clear hbox hg HX
            go_wp2_with fail
            go_roundw
            case rel => exact ⟨g + 1, by omega, by go_num, HX3.out⟩
            case measure => simp [intOf]; omega
          · obtain rfl : g = k := by omega
            have hs := seg_self fs g
            rw [hs] at HR
            clear hs hg0 hgk
            go_wp2_with fail
            refine (len_boxS _ p c M _ HR.out.box).mono ?_
            rintro e w3 ⟨rfl, rfl⟩
            go_wp2_with fail
            go_ret
            exact ⟨rfl, HR.out.below⟩
end Go.Proofs.Ytilmdimffgohjaa
