/- The walk of NetCounts. -/
import Derived.Test.YtibagcgnaceimaaN
import Derived.Test.YtibagcgnaceimaaP
import Derived.Deep.DeepCutAuto
import Derived.Deep.CutBlock
namespace Go.Proofs.Ytibagcgnaceimaa
open Go.ChangeShapes Go.WideShapes Go.ChangeAt Go.RowKit Go.Joins Go.Deep
set_option linter.unusedVariables false

/-- What stands between two rounds: a net, and how many were sent, taken, copied. -/
def CountRel (w0 wr : World) (n : Nat) (m : Int) (k S T C : Nat) : Prop :=
  ∃ F L lost, Mine w0 wr F n (netP m lost) L ∧ 0 ≤ lost ∧ lost ≤ k ∧ L.length + T = S + C ∧ (L.length : Int) ≤ m ∧ S ≤ k ∧ T ≤ k ∧ C ≤ k

set_option maxHeartbeats 2000000 in
set_option maxRecDepth 100000 in
theorem walkCounts (a0 : Int) (a1 : Option Addr) (len1 cap1 : Nat) (z1 : Nat → StepV) (w : World) (w0 : (Lit.int .i64 a0).wf = true) (w1 : StepsAt w a1 len1 z1 ∧ (∀ i, i < len1 → (z1 i).Ok) ∧ len1 ≤ cap1 ∧ cap1 ≤ maxLen) :
    Calls Try.prog 7 #[.int .i64 a0, .slice a1 len1 cap1] w fun e w' => e = .returned (.bool true) ∧ Below w.heap.size w w' := by
  obtain ⟨hz, hok, hlc, hcm⟩ := w1
  have HZ := Lib.hid hz
  have HOK := Lib.hid hok
  have b0 := bounds_i64 w0
  have hl63 : (len1 : Int) ≤ 9223372036854775807 := by unfold maxLen at hcm; omega
  clear hz hok w0 hlc hcm
  have g0 := Int.emod_nonneg a0 (show (256 : Int) ≠ 0 by omega)
  have g1 := Int.emod_lt_of_pos a0 (show (0 : Int) < 256 by omega)
  go_enter Try.func7, Try.ntmps7
  go_wp2_with fail
  refine (pick_any a0 256 _ b0.1 b0.2 (by omega) (by omega)).mono ?_
  rintro e w3 ⟨rfl, rfl⟩
  have HA : Hid (∀ W, Calls Try.prog 16 #[.int .i64 a0, .int .i64 256] W fun e w' => e = .returned (.int .i64 (a0 % 256)) ∧ W = w') := Lib.hid (fun W => pick_any a0 256 W b0.1 b0.2 (by omega) (by omega))
  generalize a0 % 256 = m at *
  have q1 : IntKind.i64.wrap (1 + m) = 1 + m := IntWalk.i64_in _ (by omega)
  go_wp2_with fail
  refine (newP _ (1 + m) (by omega) (by omega)).mono ?_
  rintro e w3 ⟨rfl, hn, hb⟩
  have HM : Hid (Mine w w3 _ w.heap.size (netP (1 + m) 0) []) := Lib.hid ⟨hn, hb, fun b hb => by omega⟩
  clear hn hb
  go_wp2_with fail
  refine (known_true _).mono ?_
  rintro e w4 ⟨rfl, hb⟩
  have HM4 := Lib.hid (HM.out.still hb)
  clear hb HM
  go_wp2_with fail
  go_loopw [7, 8, 9, 10] (fun s t c i wr => ∃ k S T C : Nat, k ≤ len1 ∧ k ≤ 2000 ∧ s = .int .i64 S ∧ t = .int .i64 T ∧ c = .int .i64 C ∧ i = .int .i64 k ∧ CountRel w wr w.heap.size (1 + m) k S T C) (fun _ _ _ i _ => 2000 - (intOf i).toNat)
  case atStart => exact ⟨0, 0, 0, 0, Nat.zero_le _, by omega, rfl, rfl, rfl, rfl, _, [], 0, HM4.out, by omega, by omega, rfl, by simp; omega, by omega, by omega, by omega⟩
  case round =>
    clear HM4
    obtain ⟨k, S, T, C, hk, hk2, rfl, rfl, rfl, rfl, F, L, lost, hm, hl0, hl1, hsum, hlen, hS, hT, hC⟩ := hrel
    have HM := Lib.hid hm
    clear hm
    by_cases hgo : k < len1 ∧ k < 2000
    · obtain ⟨hlt, h5⟩ := hgo
      obtain ⟨b, off, rfl, hc⟩ := HZ.out (by omega)
      obtain ⟨c0, c1, c2⟩ := hc k hlt
      obtain ⟨o0, o1, o2⟩ := HOK.out k hlt
      generalize z1 k = v at c0 c1 c2 o0 o1 o2
      obtain ⟨vw, vk, d⟩ := v
      simp only at c0 c1 c2 o0 o1 o2
      obtain ⟨c2, c3, bo, bc, c4, hsrc⟩ := c2.below HM.out.below
      replace c0 := below_cell HM.out.below c0
      replace c1 := below_cell HM.out.below c1
      have HS := Lib.hid hsrc
      clear hc hsrc
      go_wp2_with fail
      refine (pick_any vw 5 _ o0.1 o0.2 (by omega) (by omega)).mono ?_
      rintro e w5 ⟨rfl, rfl⟩
      go_upto_block 2 with (fail)
      have r1 : IntKind.i64.wrap ((S : Int) + 1) = (S : Int) + 1 := IntWalk.i64_in _ (by omega)
      have r2 : IntKind.i64.wrap ((T : Int) + 1) = (T : Int) + 1 := IntWalk.i64_in _ (by omega)
      have r3 : IntKind.i64.wrap ((C : Int) + 1) = (C : Int) + 1 := IntWalk.i64_in _ (by omega)
      go_cut [7, 8, 9, 45] (fun s t c _ wc => ∃ S T C : Nat, s = .int .i64 S ∧ t = .int .i64 T ∧ c = .int .i64 C ∧ CountRel w wc w.heap.size (1 + m) (k + 1) S T C)
      case first =>
        have hways : vw % 5 = 2 ∨ vw % 5 = 3 ∨ vw % 5 = 4 ∨ ((vw % 5 == 2) = false ∧ (vw % 5 == 3) = false ∧ (vw % 5 == 4) = false) := by
          simp only [beq_eq_false_iff_ne]; omega
        generalize vw % 5 = p at hways ⊢
        rcases hways with rfl | rfl | rfl | ⟨p2, p3, p4⟩
        · go_wp2_with fail
          refine (takeP _ _ _ (1 + m) lost L HM.out.net vk).mono ?_
          rintro e w6 ⟨v6, rfl, hown, hn, hc⟩
          obtain ⟨ao6, cc6, rfl, _⟩ := owns_slice hown
          have HM6 := Lib.hid (HM.out.step hn hc)
          have hz6 := hc.size
          clear hown hn hc
          cases hb : inB L vk
          · have he : without L vk = L := by simp [without, hb]
            rw [he] at HM6
            clear he
            go_wp2_with fail
            go_meet
            case rel => exact ⟨S, T, C, rfl, rfl, rfl, _, L, lost, HM6.out.still ((Below.refl _ _).alloc (Nat.le_refl _) _), hl0, by omega, hsum, hlen, by omega, by omega, by omega⟩
          · have hi := inB_at hb
            have he : (without L vk).length = L.length - 1 := by
              simp only [without, hb, if_true]
              rw [List.length_eraseIdx, if_pos (by omega)]
            go_wp2_with fail
            go_meet
            case rel => exact ⟨S, T + 1, C, rfl, by go_num, rfl, _, without L vk, lost, HM6.out.still ((Below.refl _ _).alloc (Nat.le_refl _) _), hl0, by omega, by omega, by omega, by omega, by omega, by omega⟩
        · go_wp2_with fail
          refine (doubleP _ _ _ (1 + m) lost L HM.out.net vk (by omega)).mono ?_
          rintro e w6 ⟨rfl, F6, hn, hc⟩
          have HM6 := Lib.hid (HM.out.step hn hc)
          have hz6 := hc.size
          clear hn hc
          cases hb : twice (1 + m) L vk
          · rw [hb] at HM6
            go_wp2_with fail
            go_meet
            case rel => exact ⟨S, T, C, rfl, rfl, rfl, _, L, lost, HM6.out, hl0, by omega, hsum, hlen, by omega, by omega, by omega⟩
          · rw [hb] at HM6
            have hr : (L.length : Int) < 1 + m := by simp only [twice, Bool.and_eq_true, decide_eq_true_eq] at hb; exact hb.2
            go_wp2_with fail
            go_meet
            case rel => exact ⟨S, T, C + 1, rfl, rfl, by go_num, _, L ++ [dgAt L vk], lost, HM6.out, hl0, by omega, by simp; omega, by simp; omega, by omega, by omega, by omega⟩
        · go_wp2_with fail
          refine (peekP _ _ _ (1 + m) lost L HM.out.net vk).mono ?_
          rintro e w6 ⟨v6, rfl, hown, hb6⟩
          obtain ⟨ao6, cc6, rfl, _⟩ := owns_slice hown
          have HM6 := Lib.hid (HM.out.still hb6)
          clear hown hb6
          go_wp2_with fail
          go_meet
          case rel => exact ⟨S, T, C, rfl, rfl, rfl, _, L, lost, HM6.out, hl0, by omega, hsum, hlen, by omega, by omega, by omega⟩
        · go_wp2_with fail
          refine (sendP _ _ _ (1 + m) lost L HM.out.net d bo bc HS.out (by have := o2.bs; omega) (by omega) (by omega)).mono ?_
          rintro e w6 ⟨rfl, F6, hn, hc⟩
          have HM6 := Lib.hid (HM.out.step hn hc)
          have hz6 := hc.size
          clear hn hc
          cases hb : fits (1 + m) L d.bs.length
          · rw [hb] at HM6
            go_wp2_with fail
            go_meet
            case rel => exact ⟨S, T, C, rfl, rfl, rfl, _, L, lost + 1, HM6.out, by omega, by omega, hsum, hlen, by omega, by omega, by omega⟩
          · rw [hb] at HM6
            have hr : (L.length : Int) < 1 + m := (of_decide_eq_true hb : _ ∧ _).1
            go_wp2_with fail
            go_meet
            case rel => exact ⟨S + 1, T, C, by go_num, rfl, rfl, _, L ++ [d], lost, HM6.out, hl0, by omega, by simp; omega, by simp; omega, by omega, by omega, by omega⟩
      case rest =>
        clear HM HS c0 c1 c2 c3 c4 hS hT hC hsum hlen hl0 hl1 r1 r2 r3
        obtain ⟨S', T', C', rfl, rfl, rfl, F', L', lost', hm', hl0, hl1, hsum, hlen, hS, hT, hC⟩ := hcut
        have HM := Lib.hid hm'
        clear hm'
        have r1 : IntKind.i64.wrap ((S' : Int) + C') = (S' : Int) + C' := IntWalk.i64_in _ (by omega)
        have r2 : IntKind.i64.wrap ((S' : Int) + C' - T') = (L'.length : Int) := (IntWalk.i64_in _ (by omega)).trans (by omega)
        have r4 : ¬ ((L'.length : Int) > 1 + m) := by omega
        go_wp2_with fail
        refine (lenP _ _ _ (1 + m) lost' L' HM.out.net).mono ?_
        rintro e w6 ⟨rfl, rfl⟩
        go_wp2_with fail
        refine (allP _ _ _ (1 + m) lost' L' HM.out.net (by omega)).mono ?_
        rintro e w6 ⟨v6, H6, rfl, hm6, hd6, hb6⟩
        have HM6 := Lib.hid (HM.out.still hb6)
        obtain ⟨ao6, cc6, hv6, _⟩ := owns_slice hd6.row
        have hl6 : H6.length = L'.length := by rw [← hm6, List.length_map]
        rw [hl6] at hv6
        subst hv6
        clear hm6 hd6 hb6 hl6 HM
        go_wp2_with fail
        refine (lenP _ _ _ (1 + m) lost' L' HM6.out.net).mono ?_
        rintro e w7 ⟨rfl, rfl⟩
        go_wp2_with fail
        refine (lenP _ _ _ (1 + m) lost' L' HM6.out.net).mono ?_
        rintro e w7 ⟨rfl, rfl⟩
        go_wp2_with fail
        refine (HA.out _).mono ?_
        rintro e w7 ⟨rfl, rfl⟩
        go_wp2_with fail
        go_roundw
        case rel =>
          exact ⟨k + 1, S', T', C', by omega, by omega, rfl, rfl, rfl, by go_num, F', L', lost', HM6.out, by omega, by omega, by omega, by omega, by omega, by omega, by omega⟩
        case measure => simp [intOf]; omega
    · by_cases hlt : k < len1
      · have h5 : ¬ (k : Int) < 2000 := by omega
        go_wp2_with fail
        go_ret
        exact ⟨rfl, HM.out.below⟩
      · have h5 : ¬ (k : Int) < len1 := by omega
        go_wp2_with fail
        go_ret
        exact ⟨rfl, HM.out.below⟩
end Go.Proofs.Ytibagcgnaceimaa
