/- The walk of NetPlays. -/
import Derived.Test.YtibagcgnaceimaaS
import Derived.Test.YtibagcgnaceimaaO
import Derived.Test.YtibagcgnaceimaaP
import Derived.Deep.DeepCutAuto
import Derived.Deep.CutBlock
namespace Go.Proofs.Ytibagcgnaceimaa
open Go.ChangeShapes Go.WideShapes Go.ChangeAt Go.RowKit Go.Joins Go.Deep
set_option linter.unusedVariables false

set_option maxRecDepth 100000 in
theorem playsBad (a0 : Int) (a1 : Option Addr) (len1 cap1 : Nat) (w : World) (h : ¬ (1 ≤ a0 ∧ a0 ≤ 256)) :
    Calls Try.prog 6 #[.int .i64 a0, .slice a1 len1 cap1] w fun e w' => e = .returned (.bool true) ∧ Below w.heap.size w w' := by
  have hways : a0 < 1 ∨ (1 ≤ a0 ∧ 256 < a0) := by omega
  rcases hways with g1 | ⟨g1, g2⟩
  all_goals
    go_enter Try.func6, Try.ntmps6
    go_wp2_with fail
    refine (new_bad a0 _ h).mono ?_
    rintro e w1 ⟨rfl, rfl⟩
    go_wp2_with fail
    refine (known_true _).mono ?_
    rintro e w2 ⟨rfl, hb⟩
    have HB := Lib.hid hb
    clear hb
    go_wp2_with fail
    go_ret
    exact ⟨rfl, HB.out⟩

set_option maxHeartbeats 4000000 in
set_option maxRecDepth 100000 in
theorem playsGood (a0 : Int) (a1 : Option Addr) (len1 cap1 : Nat) (z1 : Nat → StepV) (w : World) (h1 : 1 ≤ a0) (h2 : a0 ≤ 256) (w1 : StepsAt w a1 len1 z1 ∧ (∀ i, i < len1 → (z1 i).Ok) ∧ len1 ≤ cap1 ∧ cap1 ≤ maxLen) :
    Calls Try.prog 6 #[.int .i64 a0, .slice a1 len1 cap1] w fun e w' => e = .returned (.bool true) ∧ Below w.heap.size w w' := by
  obtain ⟨hz, hok, hlc, hcm⟩ := w1
  have HZ := Lib.hid hz
  have HOK := Lib.hid hok
  have hl63 : (len1 : Int) ≤ 9223372036854775807 := by unfold maxLen at hcm; omega
  clear hz hok hlc hcm
  go_enter Try.func6, Try.ntmps6
  go_wp2_with fail
  refine (newP _ a0 h1 h2).mono ?_
  rintro e w3 ⟨rfl, hn, hb⟩
  have HM : Hid (Mine w w3 _ w.heap.size (netP a0 0) []) := Lib.hid ⟨hn, hb, fun b hb => by omega⟩
  clear hn hb
  go_wp2_with fail
  refine (known_true _).mono ?_
  rintro e w4 ⟨rfl, hb⟩
  have HM4 := Lib.hid (HM.out.still hb)
  clear hb HM
  go_wp2_with fail
  have hD : Duo w (w4.alloc (netR a0 0 (.slice none 0 0))) (fun b => b = w.heap.size) (fun b => b = w4.heap.size) w.heap.size w4.heap.size a0 0 0 [] [] :=
    ⟨HM4.out.still ((Below.refl _ _).alloc (Nat.le_refl _) _), ⟨newR_net w4 a0, HM4.out.below.alloc HM4.out.below.size _, fun b hb => by have := HM4.out.below.size; omega⟩, fun b hb hb' => by have := HM4.out.net.lt b hb; omega⟩
  have HD0 := Lib.hid hD
  clear hD HM4
  generalize hmR : w4.heap.size = mR at *
  clear hmR
  go_loopw [8] (fun i wr => ∃ k : Nat, k ≤ len1 ∧ k ≤ 1000 ∧ i = .int .i64 k ∧ PlayRel w wr w.heap.size mR a0 k) (fun i _ => 1000 - (intOf i).toNat)
  case atStart => exact ⟨0, Nat.zero_le _, by omega, rfl, _, _, [], 0, HD0.out, by omega, by omega, by simp; omega⟩
  case round =>
    clear HD0
    obtain ⟨k, hk, hk2, rfl, F, G, L, lost, hduo, hl0, hl1, hlen⟩ := hrel
    have HD := Lib.hid hduo
    clear hduo
    by_cases hgo : k < len1 ∧ k < 1000
    · obtain ⟨hlt, h5⟩ := hgo
      obtain ⟨b, off, rfl, hc⟩ := HZ.out (by omega)
      obtain ⟨c0, c1, c2⟩ := hc k hlt
      obtain ⟨o0, o1, o2⟩ := HOK.out k hlt
      generalize z1 k = v at c0 c1 c2 o0 o1 o2
      obtain ⟨vw, vk, d⟩ := v
      simp only at c0 c1 c2 o0 o1 o2
      obtain ⟨c2, c3, bo, bc, c4, hsrcw⟩ := c2
      have HSW := Lib.hid hsrcw
      have hsrc := hsrcw.below HD.out.p.below
      replace c2 := below_cell HD.out.p.below c2
      replace c3 := below_cell HD.out.p.below c3
      replace c4 := below_cell HD.out.p.below c4
      have HLF := Lib.hid HD.out.p.net.lt
      have HLG0 := Lib.hid HD.out.r.net.lt
      replace c0 := below_cell HD.out.p.below c0
      replace c1 := below_cell HD.out.p.below c1
      have HS := Lib.hid hsrc
      clear hc hsrc hsrcw
      go_upto_if 68 with (fail)
      have HX := Lib.hid (HD.out.still ((Below.refl _ _).alloc (Nat.le_refl _) (.cells #[.int .i64 vw, .int .i64 vk, .int .i64 d.fr, .int .i64 d.to, .slice bo d.bs.length bc] 47)))
      have HSX := Lib.hid (HS.out.alloc (.cells #[.int .i64 vw, .int .i64 vk, .int .i64 d.fr, .int .i64 d.to, .slice bo d.bs.length bc] 47))
      have HX0 : Hid ((wr.alloc (.cells #[.int .i64 vw, .int .i64 vk, .int .i64 d.fr, .int .i64 d.to, .slice bo d.bs.length bc] 47)).cell? ⟨wr.heap.size, 0, none⟩ = some (.int .i64 vw)) := Lib.hid (by go_simp)
      have HX1 : Hid ((wr.alloc (.cells #[.int .i64 vw, .int .i64 vk, .int .i64 d.fr, .int .i64 d.to, .slice bo d.bs.length bc] 47)).cell? ⟨wr.heap.size, 1, none⟩ = some (.int .i64 vk)) := Lib.hid (by go_simp)
      have HX2 : Hid ((wr.alloc (.cells #[.int .i64 vw, .int .i64 vk, .int .i64 d.fr, .int .i64 d.to, .slice bo d.bs.length bc] 47)).cell? ⟨wr.heap.size, 2, none⟩ = some (.int .i64 d.fr)) := Lib.hid (by go_simp)
      have HX3 : Hid ((wr.alloc (.cells #[.int .i64 vw, .int .i64 vk, .int .i64 d.fr, .int .i64 d.to, .slice bo d.bs.length bc] 47)).cell? ⟨wr.heap.size, 3, none⟩ = some (.int .i64 d.to)) := Lib.hid (by go_simp)
      have HX4 : Hid ((wr.alloc (.cells #[.int .i64 vw, .int .i64 vk, .int .i64 d.fr, .int .i64 d.to, .slice bo d.bs.length bc] 47)).cell? ⟨wr.heap.size, 4, none⟩ = some (.slice bo d.bs.length bc)) := Lib.hid (by go_simp)
      have hzX : (wr.alloc (.cells #[.int .i64 vw, .int .i64 vk, .int .i64 d.fr, .int .i64 d.to, .slice bo d.bs.length bc] 47)).heap.size = wr.heap.size + 1 := by simp
      clear c0 c1 c2 c3 c4 HD HS
      generalize (wr.alloc (.cells #[.int .i64 vw, .int .i64 vk, .int .i64 d.fr, .int .i64 d.to, .slice bo d.bs.length bc] 47)) = wX at *
      go_cut [10] (fun v wc => ∃ kk : Int, v = .int .i64 kk ∧ Below wX.heap.size wX wc)
      case first =>
        by_cases h8 : 8 ≤ vw
        · obtain ⟨aR, cR, y2, _, hmz⟩ := HX.out.r.net.cellsR
          have q1 : IntKind.i64.wrap ((L.length : Int) + 1) = (L.length : Int) + 1 := IntWalk.i64_in _ (by omega)
          have x1 := HX1.out
          go_upto_region 15 with (fail)
          have hS : (fun w' : World => w'.cell? ⟨wr.heap.size, 1, none⟩ = some (.int .i64 vk) ∧ w'.cell? ⟨mR, 2, none⟩ = some (.slice aR L.length cR)) wX.drew := ⟨x1, y2⟩
          clear x1 y2
          refine wp_region_held_drew (S := fun w' => w'.cell? ⟨wr.heap.size, 1, none⟩ = some (.int .i64 vk) ∧ w'.cell? ⟨mR, 2, none⟩ = some (.slice aR L.length cR)) (by kernel_rfl) hS (fun hHeld => ?_)
          clear hS
          refine held_yes 0 rfl (by kernel_rfl) (by kernel_rfl) (by kernel_rfl) (fun _ _ _ _ h => h) (by rfl) (by assumption) ?_
          apply Exists.intro
          refine ⟨fun wq hSw => ?_, ?_⟩
          · (try dsimp only at hSw); go_simp; (try with_reducible rfl)
          try simp only [Act.put, List.setIfInBounds_toArray, List.set_cons_zero, List.set_cons_succ]
          refine held_yes 1 rfl (by kernel_rfl) (by kernel_rfl) (by kernel_rfl) (fun _ _ _ _ h => h) (by rfl) (by assumption) ?_
          apply Exists.intro
          refine ⟨fun wq hSw => ?_, ?_⟩
          · (try dsimp only at hSw); go_simp; (try with_reducible rfl)
          try simp only [Act.put, List.setIfInBounds_toArray, List.set_cons_zero, List.set_cons_succ]
          refine held_yes 2 rfl (by kernel_rfl) (by kernel_rfl) (by kernel_rfl) (fun _ _ _ _ h => h) (by rfl) (by assumption) ?_
          apply Exists.intro
          refine ⟨fun wq hSw => ?_, ?_⟩
          · (try dsimp only at hSw); go_simp; (try with_reducible rfl)
          try simp only [Act.put, List.setIfInBounds_toArray, List.set_cons_zero, List.set_cons_succ]
          refine held_yes 3 rfl (by kernel_rfl) (by kernel_rfl) (by kernel_rfl) (fun _ _ _ _ h => h) (by rfl) (by assumption) ?_
          apply Exists.intro
          refine ⟨fun wq hSw => ?_, ?_⟩
          · (try dsimp only at hSw); go_simp; (try with_reducible rfl)
          try simp only [Act.put, List.setIfInBounds_toArray, List.set_cons_zero, List.set_cons_succ]
          refine held_yes 4 rfl (by kernel_rfl) (by kernel_rfl) (by kernel_rfl) (fun _ _ _ _ h => h) (by rfl) (by assumption) ?_
          apply Exists.intro
          refine ⟨fun wq hSw => ?_, ?_⟩
          · (try dsimp only at hSw); go_simp; (try with_reducible rfl)
          try simp only [Act.put, List.setIfInBounds_toArray, List.set_cons_zero, List.set_cons_succ]
          refine held_yes 5 rfl (by kernel_rfl) (by kernel_rfl) (by kernel_rfl) (fun _ _ _ _ h => h) (by rfl) (by assumption) ?_
          apply Exists.intro
          refine ⟨fun wq hSw => ?_, ?_⟩
          · (try dsimp only at hSw); go_simp; (try with_reducible rfl)
          try simp only [Act.put, List.setIfInBounds_toArray, List.set_cons_zero, List.set_cons_succ]
          refine held_yes 6 rfl (by kernel_rfl) (by kernel_rfl) (by kernel_rfl) (fun _ _ _ _ h => h) (by rfl) (by assumption) ?_
          apply Exists.intro
          refine ⟨fun wq hSw => ?_, ?_⟩
          · (try dsimp only at hSw); go_simp; (try with_reducible rfl)
          try simp only [Act.put, List.setIfInBounds_toArray, List.set_cons_zero, List.set_cons_succ]
          refine held_yes 7 rfl (by kernel_rfl) (by kernel_rfl) (by kernel_rfl) (fun _ _ _ _ h => h) (by rfl) (by assumption) ?_
          apply Exists.intro
          refine ⟨fun wq hSw => ?_, ?_⟩
          · (try dsimp only at hSw); go_simp; (try with_reducible rfl)
          try simp only [Act.put, List.setIfInBounds_toArray, List.set_cons_zero, List.set_cons_succ]
          refine held_one 8 rfl (by kernel_rfl) (fun K hK => ?_)
          go_simp
          refine (pick_any vk ((L.length : Int) + 1) _ o1.1 o1.2 (by omega) (by omega)).mono ?_
          rintro e w' ⟨rfl, rfl⟩
          refine hK.out _ _ hHeld (fun hHeld => ?_)
          clear hK K
          try simp only [Act.put, List.setIfInBounds_toArray, List.set_cons_zero, List.set_cons_succ]
          refine held_yes 9 rfl (by kernel_rfl) (by kernel_rfl) (by kernel_rfl) (fun _ _ _ _ h => h) (by rfl) (by assumption) ?_
          apply Exists.intro
          refine ⟨fun wq hSw => ?_, ?_⟩
          · (try dsimp only at hSw); go_simp; (try with_reducible rfl)
          try simp only [Act.put, List.setIfInBounds_toArray, List.set_cons_zero, List.set_cons_succ]
          refine wpAnyH_done (by kernel_rfl) ?_ _
          go_wp2_with fail
          go_meet
          case rel => exact ⟨_, rfl, (Below.refl _ _).drew⟩
        · go_wp2_with fail
          go_meet
          case rel => exact ⟨vk, rfl, Below.refl _ _⟩
      case rest =>
        obtain ⟨kk, rfl, hbc⟩ := hcut
        have HC := Lib.hid (HX.out.still hbc)
        have HSC := Lib.hid (HSX.out.below hbc)
        have e0 := below_cell hbc HX0.out
        have e2 := below_cell hbc HX2.out
        have e3 := below_cell hbc HX3.out
        have e4 := below_cell hbc HX4.out
        have hzc := hbc.size
        clear hbc HX HSX HX0 HX1 HX2 HX3 HX4
        go_wp2_with fail
        refine (pick_any vw 5 _ o0.1 o0.2 (by omega) (by omega)).mono ?_
        rintro e w5 ⟨rfl, rfl⟩
        go_upto_block 2 with (fail)
        go_cut [11, 80] (fun v _ wd => v = .bool true ∧ PlayRel w wd w.heap.size mR a0 (k + 1))
        case first =>
          have hways : vw % 5 = 2 ∨ vw % 5 = 3 ∨ vw % 5 = 4 ∨ ((vw % 5 == 2) = false ∧ (vw % 5 == 3) = false ∧ (vw % 5 == 4) = false) := by
            simp only [beq_eq_false_iff_ne]; omega
          generalize vw % 5 = p at hways ⊢
          rcases hways with rfl | rfl | rfl | ⟨p2, p3, p4⟩
          · have HLG := Lib.hid HC.out.r.net.lt
            obtain ⟨dd, hdd⟩ : ∃ dd, dgAt L kk = dd := ⟨_, rfl⟩
            obtain ⟨bb, hbb⟩ : ∃ bb, inB L kk = bb := ⟨_, rfl⟩
            go_wp2_with fail
            refine (takeY HC.out.p.net kk dd (without L kk) bb hbb hdd rfl).mono ?_
            rintro e w6 ⟨vP, rfl, hown, hn, hc⟩
            have HD6 := Lib.hid (HC.out.stepP hn hc)
            have hz6 := hc.size
            clear hn hc
            obtain ⟨aoP, ccP, rfl, _⟩ := owns_slice hown
            have HOP := Lib.hid hown
            clear hown
            go_wp2_with fail
            have HD6b := Lib.hid (HD6.out.still ((Below.refl _ _).alloc (Nat.le_refl _) (.cells #[.int .i64 dd.fr, .int .i64 dd.to, .slice aoP dd.bs.length ccP] 31)))
            have HOPb := Lib.hid (owns_below HOP.out ((Below.refl _ _).alloc (Nat.le_refl _) (.cells #[.int .i64 dd.fr, .int .i64 dd.to, .slice aoP dd.bs.length ccP] 31)) (Nat.le_refl _))
            have t0 : (w6.alloc (.cells #[.int .i64 dd.fr, .int .i64 dd.to, .slice aoP dd.bs.length ccP] 31)).cell? ⟨w6.heap.size, 0, none⟩ = some (.int .i64 dd.fr) := by go_simp
            have t1 : (w6.alloc (.cells #[.int .i64 dd.fr, .int .i64 dd.to, .slice aoP dd.bs.length ccP] 31)).cell? ⟨w6.heap.size, 1, none⟩ = some (.int .i64 dd.to) := by go_simp
            have t2 : (w6.alloc (.cells #[.int .i64 dd.fr, .int .i64 dd.to, .slice aoP dd.bs.length ccP] 31)).cell? ⟨w6.heap.size, 2, none⟩ = some (.slice aoP dd.bs.length ccP) := by go_simp
            have hU := takeU _ _ _ a0 lost L HD6b.out.r.net kk (by omega)
            rw [hdd, hbb] at hU
            refine hU.mono ?_
            rintro e w7 ⟨vR, rfl, hownR, G7, hn, hc⟩
            have HD7a := Lib.hid (HD6b.out.stepR hn hc)
            have hoP := owns_chg HOPb.out hc HLG.out
            replace t0 := chg_cell hc t0 (fun hf => by have := HD6.out.r.net.lt _ hf; simp at this)
            replace t1 := chg_cell hc t1 (fun hf => by have := HD6.out.r.net.lt _ hf; simp at this)
            replace t2 := chg_cell hc t2 (fun hf => by have := HD6.out.r.net.lt _ hf; simp at this)
            clear hn hc hU
            obtain ⟨aoR, ccR, rfl, hsR⟩ := owns_src hownR
            obtain ⟨aoP', ccP', hv, hsP⟩ := owns_src hoP
            simp only [Value.slice.injEq, true_and] at hv
            obtain ⟨rfl, rfl⟩ := hv
            have HRs := Lib.hid hsR
            have HPs := Lib.hid hsP
            have hz7 : w6.heap.size < w7.heap.size := World.block_lt_of_cell? _ _ t0
            clear hownR hoP hsR hsP HOP HOPb HD6b
            have HSP := Lib.hid (HPs.out.alloc (.cells #[.int .i64 dd.fr, .int .i64 dd.to, .slice aoR dd.bs.length ccR] 31))
            have HSR := Lib.hid (HRs.out.alloc (.cells #[.int .i64 dd.fr, .int .i64 dd.to, .slice aoR dd.bs.length ccR] 31))
            have HD7 := Lib.hid (HD7a.out.still ((Below.refl _ _).alloc (Nat.le_refl _) (.cells #[.int .i64 dd.fr, .int .i64 dd.to, .slice aoR dd.bs.length ccR] 31)))
            go_wp2_with fail
            refine (same_true _ dd aoP aoR ccP ccR HSP.out HSR.out).mono ?_
            rintro e w8 ⟨rfl, hb8⟩
            have HD8 := Lib.hid (HD7.out.still hb8)
            clear hb8
            go_wp2_with fail
            go_meet
            case rel =>
              refine ⟨by simp, _, _, _, lost, HD8.out, hl0, by omega, ?_⟩
              have := without_le L kk
              omega
          · go_wp2_with fail
            refine (doubleP _ _ _ a0 lost L HC.out.p.net kk h2).mono ?_
            rintro e w6 ⟨rfl, F6, hn, hc⟩
            have HD6 := Lib.hid (HC.out.stepP hn hc)
            clear hn hc
            go_wp2_with fail
            refine (doubleU _ _ _ a0 lost L HD6.out.r.net kk h2).mono ?_
            rintro e w7 ⟨rfl, G7, hn, hc⟩
            have HD7 := Lib.hid (HD6.out.stepR hn hc)
            clear hn hc
            go_wp2_with fail
            go_meet
            case rel =>
              refine ⟨by simp, _, _, _, lost, HD7.out, hl0, by omega, ?_⟩
              cases hb : twice a0 L kk
              · simpa using hlen
              · have hr : (L.length : Int) < a0 := by simp only [twice, Bool.and_eq_true, decide_eq_true_eq] at hb; exact hb.2
                simp; omega
          · have HLG := Lib.hid HC.out.r.net.lt
            obtain ⟨dd, hdd⟩ : ∃ dd, dgAt L kk = dd := ⟨_, rfl⟩
            obtain ⟨bb, hbb⟩ : ∃ bb, inB L kk = bb := ⟨_, rfl⟩
            go_wp2_with fail
            refine (peekY HC.out.p.net kk dd bb hbb hdd).mono ?_
            rintro e w6 ⟨vP, rfl, hown, hbE⟩
            have HD6 := Lib.hid (HC.out.still hbE)
            have hz6 := hbE.size
            clear hbE
            obtain ⟨aoP, ccP, rfl, _⟩ := owns_slice hown
            have HOP := Lib.hid hown
            clear hown
            go_wp2_with fail
            have HD6b := Lib.hid (HD6.out.still ((Below.refl _ _).alloc (Nat.le_refl _) (.cells #[.int .i64 dd.fr, .int .i64 dd.to, .slice aoP dd.bs.length ccP] 31)))
            have HOPb := Lib.hid (owns_below HOP.out ((Below.refl _ _).alloc (Nat.le_refl _) (.cells #[.int .i64 dd.fr, .int .i64 dd.to, .slice aoP dd.bs.length ccP] 31)) (Nat.le_refl _))
            have t0 : (w6.alloc (.cells #[.int .i64 dd.fr, .int .i64 dd.to, .slice aoP dd.bs.length ccP] 31)).cell? ⟨w6.heap.size, 0, none⟩ = some (.int .i64 dd.fr) := by go_simp
            have t1 : (w6.alloc (.cells #[.int .i64 dd.fr, .int .i64 dd.to, .slice aoP dd.bs.length ccP] 31)).cell? ⟨w6.heap.size, 1, none⟩ = some (.int .i64 dd.to) := by go_simp
            have t2 : (w6.alloc (.cells #[.int .i64 dd.fr, .int .i64 dd.to, .slice aoP dd.bs.length ccP] 31)).cell? ⟨w6.heap.size, 2, none⟩ = some (.slice aoP dd.bs.length ccP) := by go_simp
            have hU := peekU _ _ _ a0 lost L HD6b.out.r.net kk
            rw [hdd, hbb] at hU
            refine hU.mono ?_
            rintro e w7 ⟨vR, rfl, hownR, hbE⟩
            have HD7a := Lib.hid (HD6b.out.still hbE)
            have hoP := owns_below HOPb.out hbE (Nat.le_refl _)
            replace t0 := below_cell hbE t0
            replace t1 := below_cell hbE t1
            replace t2 := below_cell hbE t2
            clear hbE hU
            obtain ⟨aoR, ccR, rfl, hsR⟩ := owns_src hownR
            obtain ⟨aoP', ccP', hv, hsP⟩ := owns_src hoP
            simp only [Value.slice.injEq, true_and] at hv
            obtain ⟨rfl, rfl⟩ := hv
            have HRs := Lib.hid hsR
            have HPs := Lib.hid hsP
            have hz7 : w6.heap.size < w7.heap.size := World.block_lt_of_cell? _ _ t0
            clear hownR hoP hsR hsP HOP HOPb HD6b
            have HSP := Lib.hid (HPs.out.alloc (.cells #[.int .i64 dd.fr, .int .i64 dd.to, .slice aoR dd.bs.length ccR] 31))
            have HSR := Lib.hid (HRs.out.alloc (.cells #[.int .i64 dd.fr, .int .i64 dd.to, .slice aoR dd.bs.length ccR] 31))
            have HD7 := Lib.hid (HD7a.out.still ((Below.refl _ _).alloc (Nat.le_refl _) (.cells #[.int .i64 dd.fr, .int .i64 dd.to, .slice aoR dd.bs.length ccR] 31)))
            go_wp2_with fail
            refine (same_true _ dd aoP aoR ccP ccR HSP.out HSR.out).mono ?_
            rintro e w8 ⟨rfl, hb8⟩
            have HD8 := Lib.hid (HD7.out.still hb8)
            clear hb8
            go_wp2_with fail
            go_meet
            case rel =>
              exact ⟨by simp, _, _, _, lost, HD8.out, hl0, by omega, hlen⟩
          · go_wp2_with fail
            refine (copy_any d.fr d.to bo bc d.bs _ HSC.out (by have := o2.bs; omega)).mono ?_
            rintro e w6 ⟨vO, rfl, hownO, hbO⟩
            obtain ⟨aoO, ccO, rfl, hsO⟩ := owns_src hownO
            have hzO := hbO.size
            have HO6 := Lib.hid hownO
            have HSO6 := Lib.hid hsO
            have HDO6 := Lib.hid (HC.out.still hbO)
            have HLFc : Hid (∀ b, F b → b < wc.heap.size) := Lib.hid HC.out.p.net.lt
            have HLGc : Hid (∀ b, G b → b < wc.heap.size) := Lib.hid HC.out.r.net.lt
            replace e2 := below_cell hbO e2
            replace e3 := below_cell hbO e3
            replace e4 := below_cell hbO e4
            have hwc : w.heap.size ≤ wc.heap.size := HC.out.p.below.size
            clear hownO hbO hsO HC HSC
            go_upto_region 19 with (fail)
            have hb6 : Below w6.heap.size w6 (w6.alloc (.cells #[.int .i64 d.fr, .int .i64 d.to, .slice aoO d.bs.length ccO] 31)).drew := ((Below.refl _ _).alloc (Nat.le_refl _) (.cells #[.int .i64 d.fr, .int .i64 d.to, .slice aoO d.bs.length ccO] 31)).drew
            have HDO := Lib.hid (HDO6.out.still hb6)
            have HOO := Lib.hid (owns_below HO6.out hb6 (Nat.le_refl _))
            have HSO := Lib.hid (HSO6.out.below hb6)
            have HNFO : Hid (∀ j : Nat, ¬ F (⟨w6.heap.size, j, none⟩ : Addr).block) := Lib.hid (fun j hf => by have := HLFc.out _ hf; simp at this; omega)
            have HNGO : Hid (∀ j : Nat, ¬ G (⟨w6.heap.size, j, none⟩ : Addr).block) := Lib.hid (fun j hf => by have := HLGc.out _ hf; simp at this; omega)
            have HNFX : Hid (∀ j : Nat, ¬ F (⟨wr.heap.size, j, none⟩ : Addr).block) := Lib.hid (fun j hf => by have := HLF.out _ hf; simp at this)
            have HNGX : Hid (∀ j : Nat, ¬ G (⟨wr.heap.size, j, none⟩ : Addr).block) := Lib.hid (fun j hf => by have := HLG0.out _ hf; simp at this)
            have hS : (fun w' : World => w'.cell? ⟨w6.heap.size, 0, none⟩ = some (.int .i64 d.fr) ∧ w'.cell? ⟨w6.heap.size, 1, none⟩ = some (.int .i64 d.to) ∧ w'.cell? ⟨w6.heap.size, 2, none⟩ = some (.slice aoO d.bs.length ccO) ∧ w'.cell? ⟨wr.heap.size, 2, none⟩ = some (.int .i64 d.fr) ∧ w'.cell? ⟨wr.heap.size, 3, none⟩ = some (.int .i64 d.to) ∧ w'.cell? ⟨wr.heap.size, 4, none⟩ = some (.slice bo d.bs.length bc)) (w6.alloc (.cells #[.int .i64 d.fr, .int .i64 d.to, .slice aoO d.bs.length ccO] 31)).drew := ⟨by go_simp, by go_simp, by go_simp, alloc_cell e2 _, alloc_cell e3 _, alloc_cell e4 _⟩
            clear e0 e2 e3 e4 hb6
            refine wp_region_held_drew (S := fun w' => w'.cell? ⟨w6.heap.size, 0, none⟩ = some (.int .i64 d.fr) ∧ w'.cell? ⟨w6.heap.size, 1, none⟩ = some (.int .i64 d.to) ∧ w'.cell? ⟨w6.heap.size, 2, none⟩ = some (.slice aoO d.bs.length ccO) ∧ w'.cell? ⟨wr.heap.size, 2, none⟩ = some (.int .i64 d.fr) ∧ w'.cell? ⟨wr.heap.size, 3, none⟩ = some (.int .i64 d.to) ∧ w'.cell? ⟨wr.heap.size, 4, none⟩ = some (.slice bo d.bs.length bc)) (by kernel_rfl) hS (fun hHeld => ?_)
            clear hS
            refine held_yes 0 rfl (by kernel_rfl) (by kernel_rfl) (by kernel_rfl) (fun _ _ _ _ h => h) (by rfl) (by assumption) ?_
            apply Exists.intro
            refine ⟨fun wq hSw => ?_, ?_⟩
            · (try dsimp only at hSw); go_simp; (try with_reducible rfl)
            try simp only [Act.put, List.setIfInBounds_toArray, List.set_cons_zero, List.set_cons_succ]
            refine held_yes 1 rfl (by kernel_rfl) (by kernel_rfl) (by kernel_rfl) (fun _ _ _ _ h => h) (by rfl) (by assumption) ?_
            apply Exists.intro
            refine ⟨fun wq hSw => ?_, ?_⟩
            · (try dsimp only at hSw); go_simp; (try with_reducible rfl)
            try simp only [Act.put, List.setIfInBounds_toArray, List.set_cons_zero, List.set_cons_succ]
            refine held_yes 3 rfl (by kernel_rfl) (by kernel_rfl) (by kernel_rfl) (fun _ _ _ _ h => h) (by rfl) (by assumption) ?_
            apply Exists.intro
            refine ⟨fun wq hSw => ?_, ?_⟩
            · (try dsimp only at hSw); go_simp; (try with_reducible rfl)
            try simp only [Act.put, List.setIfInBounds_toArray, List.set_cons_zero, List.set_cons_succ]
            refine held_yes 4 rfl (by kernel_rfl) (by kernel_rfl) (by kernel_rfl) (fun _ _ _ _ h => h) (by rfl) (by assumption) ?_
            apply Exists.intro
            refine ⟨fun wq hSw => ?_, ?_⟩
            · (try dsimp only at hSw); go_simp; (try with_reducible rfl)
            try simp only [Act.put, List.setIfInBounds_toArray, List.set_cons_zero, List.set_cons_succ]
            refine held_yes 5 rfl (by kernel_rfl) (by kernel_rfl) (by kernel_rfl) (fun _ _ _ _ h => h) (by rfl) (by assumption) ?_
            apply Exists.intro
            refine ⟨fun wq hSw => ?_, ?_⟩
            · (try dsimp only at hSw); go_simp; (try with_reducible rfl)
            try simp only [Act.put, List.setIfInBounds_toArray, List.set_cons_zero, List.set_cons_succ]
            refine held_one 2 rfl (by kernel_rfl) (fun K hK => ?_)
            go_simp
            refine (sendP _ _ _ a0 lost L HDO.out.p.net d aoO ccO HSO.out (by have := o2.bs; omega) h2 (by omega)).mono ?_
            rintro e w8 ⟨rfl, F8, hn, hc⟩
            have HD8 := Lib.hid (HDO.out.stepP hn hc)
            have HO8 := Lib.hid (owns_chg HOO.out hc HLFc.out)
            have HFT : Hid (∀ b, F8 b → F b ∨ w6.heap.size + 1 ≤ b) := Lib.hid (fun b hb => (hc.foot b hb).imp_right (fun h => by simpa using h))
            have hz8 : w6.heap.size + 1 ≤ w8.heap.size := by have := hc.size; simpa using this
            have hcS := hc
            clear hn hc
            refine hK.out _ _ ⟨chg_cell hcS hHeld.1 (HNFO.out _), chg_cell hcS hHeld.2.1 (HNFO.out _), chg_cell hcS hHeld.2.2.1 (HNFO.out _), chg_cell hcS hHeld.2.2.2.1 (HNFX.out _), chg_cell hcS hHeld.2.2.2.2.1 (HNFX.out _), chg_cell hcS hHeld.2.2.2.2.2 (HNFX.out _)⟩ (fun hHeld => ?_)
            clear hcS
            clear hK K
            try simp only [Act.put, List.setIfInBounds_toArray, List.set_cons_zero, List.set_cons_succ]
            refine held_one 6 rfl (by kernel_rfl) (fun K hK => ?_)
            go_simp
            refine (sendU _ _ _ a0 lost L HD8.out.r.net d bo bc (HSW.out.below HD8.out.p.below) (by have := o2.bs; omega) h2 (by omega)).mono ?_
            rintro e w9 ⟨rfl, G9, hn, hc⟩
            have HD9 := Lib.hid (HD8.out.stepR hn hc)
            have HO9 := Lib.hid (owns_chg HO8.out hc HLGc.out)
            have HGT : Hid (∀ b, G9 b → G b ∨ w8.heap.size ≤ b) := Lib.hid hc.foot
            have hz9 := hc.size
            have hcS := hc
            clear hn hc
            refine hK.out _ _ ⟨chg_cell hcS hHeld.1 (HNGO.out _), chg_cell hcS hHeld.2.1 (HNGO.out _), chg_cell hcS hHeld.2.2.1 (HNGO.out _), chg_cell hcS hHeld.2.2.2.1 (HNGX.out _), chg_cell hcS hHeld.2.2.2.2.1 (HNGX.out _), chg_cell hcS hHeld.2.2.2.2.2 (HNGX.out _)⟩ (fun hHeld => ?_)
            clear hcS
            clear hK K
            try simp only [Act.put, List.setIfInBounds_toArray, List.set_cons_zero, List.set_cons_succ]
            refine held_yes 7 rfl (by kernel_rfl) (by kernel_rfl) (by kernel_rfl) (fun _ _ _ _ h => h) (by rfl) (by assumption) ?_
            apply Exists.intro
            refine ⟨fun wq hSw => ?_, ?_⟩
            · (try dsimp only at hSw); go_simp; (try with_reducible rfl)
            try simp only [Act.put, List.setIfInBounds_toArray, List.set_cons_zero, List.set_cons_succ]
            refine held_yes 8 rfl (by kernel_rfl) (by kernel_rfl) (by kernel_rfl) (fun _ _ _ _ h => h) (by rfl) (by assumption) ?_
            apply Exists.intro
            refine ⟨fun wq hSw => ?_, ?_⟩
            · (try dsimp only at hSw); go_simp; (try with_reducible rfl)
            try simp only [Act.put, List.setIfInBounds_toArray, List.set_cons_zero, List.set_cons_succ]
            refine wpAnyH_done (by kernel_rfl) ?_ _
            have hs2 := hHeld.2.2.1
            clear hHeld
            have HNB : Hid (∀ g, (Value.slice aoO d.bs.length ccO).ownBlock = some g → ¬ F8 g ∧ ¬ G9 g ∧ g ≠ w6.heap.size ∧ w.heap.size ≤ g) := by
              refine Lib.hid fun g hg => ?_
              have l1 := HO6.out.lt g hg
              refine ⟨fun hf => ?_, fun hf => ?_, by omega, by omega⟩
              · rcases HFT.out g hf with e | e
                · have := HLFc.out g e; omega
                · omega
              · rcases HGT.out g hf with e | e
                · have := HLGc.out g e; omega
                · omega
            obtain ⟨L', hL'⟩ : ∃ L', (if fits a0 L d.bs.length then L ++ [d] else L) = L' := ⟨_, rfl⟩
            obtain ⟨lost', hlost'⟩ : ∃ lost', (if fits a0 L d.bs.length then lost else lost + 1) = lost' := ⟨_, rfl⟩
            rw [hL', hlost'] at HD9
            have hlen' : (L'.length : Int) ≤ a0 ∧ 0 ≤ lost' ∧ lost' ≤ k + 1 := by
              subst hL' hlost'
              cases hb : fits a0 L d.bs.length
              · simp; omega
              · have hr : (L.length : Int) < a0 := (of_decide_eq_true hb : _ ∧ _).1
                simp; omega
            have hm64 : (d.bs.length : Int) ≤ 140737488351232 := by have := o2.bs; omega
            clear HD8 HO8 HFT HGT HDO HOO HSO HNFO HNGO HNFX HNGX HDO6 HSO6 HO6 hL' hlost' HSW hlen hl0 hl1
            go_wp2_with fail
            go_loopw [21] (fun i wd => ∃ (y : Nat) (bs : List Int), y ≤ d.bs.length ∧ i = .int .i64 y ∧ wd.cell? ⟨w6.heap.size, 2, none⟩ = some (.slice aoO d.bs.length ccO) ∧ wd.ownsRow wc.heap.size 5 1 (.slice aoO d.bs.length ccO) d.bs.length (u8s bs) ∧ Duo w wd F8 G9 w.heap.size mR a0 lost' lost' L' L') (fun i _ => d.bs.length - (intOf i).toNat)
            case atStart => exact ⟨0, d.bs, Nat.zero_le _, rfl, hs2, HO9.out, HD9.out⟩
            case round =>
              clear HO9 HD9 hs2
              obtain ⟨y, bs, hyl, rfl, hc2, ho, hd⟩ := hrel
              have HDy := Lib.hid hd
              have HOy := Lib.hid ho
              have hzy : w6.heap.size < wr.heap.size := World.block_lt_of_cell? _ _ hc2
              by_cases hylt : y < d.bs.length
              · obtain ⟨g, c, z, hv, hgb, hgz, hmc, hcm, yb, fb⟩ := owns_byte ho y hylt
                simp only [Value.slice.injEq, true_and] at hv
                obtain ⟨rfl, rfl⟩ := hv
                obtain ⟨n1, n2, n3, n4⟩ := HNB.out g rfl
                have HN1 := Lib.hid n1
                have HN2 := Lib.hid n2
                clear hd ho hcm hmc n1 n2
                go_wp2_with fail
                go_roundw
                case rel =>
                  obtain ⟨K, hK1, hK2⟩ := bytes_stored HOy.out g y 238
                  exact ⟨y + 1, K, by omega, by go_num, by go_simp, hK2, HDy.out.write g y _ HN1.out HN2.out n4⟩
                case measure => simp [intOf]; omega
              · obtain rfl : y = d.bs.length := by omega
                clear hd ho
                go_wp2_with fail
                go_meet
                case rel => exact ⟨rfl, _, _, L', lost', HDy.out, hlen'.2.1, by omega, hlen'.1⟩
        case rest =>
          obtain ⟨rfl, F', G', L', lost', hduo, hl0', hl1', hlen'⟩ := hcut
          obtain ⟨aR, cR, y2, y1, hmz⟩ := hduo.r.net.cellsR
          have HD1 := Lib.hid hduo
          have hL63 : (L'.length : Int) ≤ 256 := by omega
          clear hduo HC HSC e0 e2 e3 e4
          go_upto_region 34 with (fail)
          have hS : (fun w' : World => w'.cell? ⟨mR, 2, none⟩ = some (.slice aR L'.length cR) ∧ w'.cell? ⟨mR, 1, none⟩ = some (.int .i64 lost')) wc.drew := ⟨y2, y1⟩
          clear y2 y1
          refine wp_region_held_drew (S := fun w' => w'.cell? ⟨mR, 2, none⟩ = some (.slice aR L'.length cR) ∧ w'.cell? ⟨mR, 1, none⟩ = some (.int .i64 lost')) (by kernel_rfl) hS (fun hHeld => ?_)
          clear hS
          refine held_yes 0 rfl (by kernel_rfl) (by kernel_rfl) (by kernel_rfl) (fun _ _ _ _ h => h) (by rfl) (by assumption) ?_
          apply Exists.intro
          refine ⟨fun wq hSw => ?_, ?_⟩
          · (try dsimp only at hSw); go_simp; (try with_reducible rfl)
          try simp only [Act.put, List.setIfInBounds_toArray, List.set_cons_zero, List.set_cons_succ]
          refine held_yes 1 rfl (by kernel_rfl) (by kernel_rfl) (by kernel_rfl) (fun _ _ _ _ h => h) (by rfl) (by assumption) ?_
          apply Exists.intro
          refine ⟨fun wq hSw => ?_, ?_⟩
          · (try dsimp only at hSw); go_simp; (try with_reducible rfl)
          try simp only [Act.put, List.setIfInBounds_toArray, List.set_cons_zero, List.set_cons_succ]
          refine held_yes 2 rfl (by kernel_rfl) (by kernel_rfl) (by kernel_rfl) (fun _ _ _ _ h => h) (by rfl) (by assumption) ?_
          apply Exists.intro
          refine ⟨fun wq hSw => ?_, ?_⟩
          · (try dsimp only at hSw); go_simp; (try with_reducible rfl)
          try simp only [Act.put, List.setIfInBounds_toArray, List.set_cons_zero, List.set_cons_succ]
          refine held_yes 3 rfl (by kernel_rfl) (by kernel_rfl) (by kernel_rfl) (fun _ _ _ _ h => h) (by rfl) (by assumption) ?_
          apply Exists.intro
          refine ⟨fun wq hSw => ?_, ?_⟩
          · (try dsimp only at hSw); go_simp; (try with_reducible rfl)
          try simp only [Act.put, List.setIfInBounds_toArray, List.set_cons_zero, List.set_cons_succ]
          refine held_yes 5 rfl (by kernel_rfl) (by kernel_rfl) (by kernel_rfl) (fun _ _ _ _ h => h) (by rfl) (by assumption) ?_
          apply Exists.intro
          refine ⟨fun wq hSw => ?_, ?_⟩
          · (try dsimp only at hSw); go_simp; (try with_reducible rfl)
          try simp only [Act.put, List.setIfInBounds_toArray, List.set_cons_zero, List.set_cons_succ]
          refine held_yes 6 rfl (by kernel_rfl) (by kernel_rfl) (by kernel_rfl) (fun _ _ _ _ h => h) (by rfl) (by assumption) ?_
          apply Exists.intro
          refine ⟨fun wq hSw => ?_, ?_⟩
          · (try dsimp only at hSw); go_simp; (try with_reducible rfl)
          try simp only [Act.put, List.setIfInBounds_toArray, List.set_cons_zero, List.set_cons_succ]
          refine held_yes 7 rfl (by kernel_rfl) (by kernel_rfl) (by kernel_rfl) (fun _ _ _ _ h => h) (by rfl) (by assumption) ?_
          apply Exists.intro
          refine ⟨fun wq hSw => ?_, ?_⟩
          · (try dsimp only at hSw); go_simp; (try with_reducible rfl)
          try simp only [Act.put, List.setIfInBounds_toArray, List.set_cons_zero, List.set_cons_succ]
          refine held_yes 8 rfl (by kernel_rfl) (by kernel_rfl) (by kernel_rfl) (fun _ _ _ _ h => h) (by rfl) (by assumption) ?_
          apply Exists.intro
          refine ⟨fun wq hSw => ?_, ?_⟩
          · (try dsimp only at hSw); go_simp; (try with_reducible rfl)
          try simp only [Act.put, List.setIfInBounds_toArray, List.set_cons_zero, List.set_cons_succ]
          refine held_yes 9 rfl (by kernel_rfl) (by kernel_rfl) (by kernel_rfl) (fun _ _ _ _ h => h) (by rfl) (by assumption) ?_
          apply Exists.intro
          refine ⟨fun wq hSw => ?_, ?_⟩
          · (try dsimp only at hSw); go_simp; (try with_reducible rfl)
          try simp only [Act.put, List.setIfInBounds_toArray, List.set_cons_zero, List.set_cons_succ]
          refine held_one 4 rfl (by kernel_rfl) (fun K hK => ?_)
          go_simp
          refine (lenP _ _ _ a0 lost' L' (HD1.out.still (Below.refl _ _).drew).p.net).mono ?_
          rintro e w' ⟨rfl, rfl⟩
          refine hK.out _ _ hHeld (fun hHeld => ?_)
          clear hK K
          try simp only [Act.put, List.setIfInBounds_toArray, List.set_cons_zero, List.set_cons_succ]
          refine held_yes 10 rfl (by kernel_rfl) (by kernel_rfl) (by kernel_rfl) (fun _ _ _ _ h => h) (by rfl) (by assumption) ?_
          apply Exists.intro
          refine ⟨fun wq hSw => ?_, ?_⟩
          · (try dsimp only at hSw); go_simp; (try with_reducible rfl)
          try simp only [Act.put, List.setIfInBounds_toArray, List.set_cons_zero, List.set_cons_succ]
          refine held_yes 11 rfl (by kernel_rfl) (by kernel_rfl) (by kernel_rfl) (fun _ _ _ _ h => h) (by rfl) (by assumption) ?_
          apply Exists.intro
          refine ⟨fun wq hSw => ?_, ?_⟩
          · (try dsimp only at hSw); go_simp; (try with_reducible rfl)
          try simp only [Act.put, List.setIfInBounds_toArray, List.set_cons_zero, List.set_cons_succ]
          refine held_yes 12 rfl (by kernel_rfl) (by kernel_rfl) (by kernel_rfl) (fun _ _ _ _ h => h) (by rfl) (by assumption) ?_
          apply Exists.intro
          refine ⟨fun wq hSw => ?_, ?_⟩
          · (try dsimp only at hSw); go_simp; (try with_reducible rfl)
          try simp only [Act.put, List.setIfInBounds_toArray, List.set_cons_zero, List.set_cons_succ]
          refine held_yes 13 rfl (by kernel_rfl) (by kernel_rfl) (by kernel_rfl) (fun _ _ _ _ h => h) (by rfl) (by assumption) ?_
          apply Exists.intro
          refine ⟨fun wq hSw => ?_, ?_⟩
          · (try dsimp only at hSw); go_simp; (try with_reducible rfl)
          try simp only [Act.put, List.setIfInBounds_toArray, List.set_cons_zero, List.set_cons_succ]
          refine held_yes 15 rfl (by kernel_rfl) (by kernel_rfl) (by kernel_rfl) (fun _ _ _ _ h => h) (by rfl) (by assumption) ?_
          apply Exists.intro
          refine ⟨fun wq hSw => ?_, ?_⟩
          · (try dsimp only at hSw); go_simp; (try with_reducible rfl)
          try simp only [Act.put, List.setIfInBounds_toArray, List.set_cons_zero, List.set_cons_succ]
          refine held_yes 16 rfl (by kernel_rfl) (by kernel_rfl) (by kernel_rfl) (fun _ _ _ _ h => h) (by rfl) (by assumption) ?_
          apply Exists.intro
          refine ⟨fun wq hSw => ?_, ?_⟩
          · (try dsimp only at hSw); go_simp; (try with_reducible rfl)
          try simp only [Act.put, List.setIfInBounds_toArray, List.set_cons_zero, List.set_cons_succ]
          refine held_yes 17 rfl (by kernel_rfl) (by kernel_rfl) (by kernel_rfl) (fun _ _ _ _ h => h) (by rfl) (by assumption) ?_
          apply Exists.intro
          refine ⟨fun wq hSw => ?_, ?_⟩
          · (try dsimp only at hSw); go_simp; (try with_reducible rfl)
          try simp only [Act.put, List.setIfInBounds_toArray, List.set_cons_zero, List.set_cons_succ]
          refine held_yes 18 rfl (by kernel_rfl) (by kernel_rfl) (by kernel_rfl) (fun _ _ _ _ h => h) (by rfl) (by assumption) ?_
          apply Exists.intro
          refine ⟨fun wq hSw => ?_, ?_⟩
          · (try dsimp only at hSw); go_simp; (try with_reducible rfl)
          try simp only [Act.put, List.setIfInBounds_toArray, List.set_cons_zero, List.set_cons_succ]
          refine held_one 14 rfl (by kernel_rfl) (fun K hK => ?_)
          go_simp
          refine (lostP _ _ _ a0 lost' L' (HD1.out.still (Below.refl _ _).drew).p.net).mono ?_
          rintro e w' ⟨rfl, rfl⟩
          refine hK.out _ _ hHeld (fun hHeld => ?_)
          clear hK K
          try simp only [Act.put, List.setIfInBounds_toArray, List.set_cons_zero, List.set_cons_succ]
          refine held_yes 19 rfl (by kernel_rfl) (by kernel_rfl) (by kernel_rfl) (fun _ _ _ _ h => h) (by rfl) (by assumption) ?_
          apply Exists.intro
          refine ⟨fun wq hSw => ?_, ?_⟩
          · (try dsimp only at hSw); go_simp; (try with_reducible rfl)
          try simp only [Act.put, List.setIfInBounds_toArray, List.set_cons_zero, List.set_cons_succ]
          refine held_yes 20 rfl (by kernel_rfl) (by kernel_rfl) (by kernel_rfl) (fun _ _ _ _ h => h) (by rfl) (by assumption) ?_
          apply Exists.intro
          refine ⟨fun wq hSw => ?_, ?_⟩
          · (try dsimp only at hSw); go_simp; (try with_reducible rfl)
          try simp only [Act.put, List.setIfInBounds_toArray, List.set_cons_zero, List.set_cons_succ]
          refine wpAnyH_done (by kernel_rfl) ?_ _
          go_wp2_with fail
          go_roundw
          case rel => exact ⟨k + 1, by omega, by omega, by go_num, F', G', L', lost', HD1.out.still (Below.refl _ _).drew, hl0', hl1', hlen'⟩
          case measure => simp [intOf]; omega
    · obtain ⟨aR, cR, y2, hrl⟩ := HD.out.r.net.rdR
      have HRL := Lib.hid hrl
      have hmz := HD.out.r.net.cellsR
      obtain ⟨_, _, _, _, hmz⟩ := hmz
      clear hrl
      have hways : (¬ (k : Int) < len1) ∨ ((k : Int) < len1 ∧ ¬ (k : Int) < 1000) := by omega
      rcases hways with g1 | ⟨g1, g2⟩
      all_goals
        go_upto_region 36 with (fail)
        have hS : (fun w' : World => w'.cell? ⟨mR, 2, none⟩ = some (.slice aR L.length cR)) wr.drew := y2
        clear y2
        refine wp_region_held_drew (S := fun w' => w'.cell? ⟨mR, 2, none⟩ = some (.slice aR L.length cR)) (by kernel_rfl) hS (fun hHeld => ?_)
        clear hS
        refine held_yes 0 rfl (by kernel_rfl) (by kernel_rfl) (by kernel_rfl) (fun _ _ _ _ h => h) (by rfl) (by assumption) ?_
        apply Exists.intro
        refine ⟨fun wq hSw => ?_, ?_⟩
        · (try dsimp only at hSw); go_simp; (try with_reducible rfl)
        try simp only [Act.put, List.setIfInBounds_toArray, List.set_cons_zero, List.set_cons_succ]
        refine held_yes 2 rfl (by kernel_rfl) (by kernel_rfl) (by kernel_rfl) (fun _ _ _ _ h => h) (by rfl) (by assumption) ?_
        apply Exists.intro
        refine ⟨fun wq hSw => ?_, ?_⟩
        · (try dsimp only at hSw); go_simp; (try with_reducible rfl)
        try simp only [Act.put, List.setIfInBounds_toArray, List.set_cons_zero, List.set_cons_succ]
        refine held_yes 3 rfl (by kernel_rfl) (by kernel_rfl) (by kernel_rfl) (fun _ _ _ _ h => h) (by rfl) (by assumption) ?_
        apply Exists.intro
        refine ⟨fun wq hSw => ?_, ?_⟩
        · (try dsimp only at hSw); go_simp; (try with_reducible rfl)
        try simp only [Act.put, List.setIfInBounds_toArray, List.set_cons_zero, List.set_cons_succ]
        refine held_yes 4 rfl (by kernel_rfl) (by kernel_rfl) (by kernel_rfl) (fun _ _ _ _ h => h) (by rfl) (by assumption) ?_
        apply Exists.intro
        refine ⟨fun wq hSw => ?_, ?_⟩
        · (try dsimp only at hSw); go_simp; (try with_reducible rfl)
        try simp only [Act.put, List.setIfInBounds_toArray, List.set_cons_zero, List.set_cons_succ]
        refine held_yes 5 rfl (by kernel_rfl) (by kernel_rfl) (by kernel_rfl) (fun _ _ _ _ h => h) (by rfl) (by assumption) ?_
        apply Exists.intro
        refine ⟨fun wq hSw => ?_, ?_⟩
        · (try dsimp only at hSw); go_simp; (try with_reducible rfl)
        try simp only [Act.put, List.setIfInBounds_toArray, List.set_cons_zero, List.set_cons_succ]
        refine held_one 1 rfl (by kernel_rfl) (fun K hK => ?_)
        go_simp
        refine (allP _ _ _ a0 lost L (HD.out.still (Below.refl _ _).drew).p.net (by omega)).mono ?_
        rintro e w9 ⟨v9, H9, rfl, hm9, hd9, hb9⟩
        obtain ⟨ao9, c9, rfl, hr9⟩ := hd9.rd hm9
        have HR9 := Lib.hid hr9
        have HRR := Lib.hid ((HRL.out.below (Below.refl _ _).drew).below hb9)
        have HD9 := Lib.hid ((HD.out.still (Below.refl _ _).drew).still hb9)
        refine hK.out _ _ (below_cell hb9 hHeld) (fun hHeld => ?_)
        clear hb9 hm9 hd9 hr9
        clear hK K
        try simp only [Act.put, List.setIfInBounds_toArray, List.set_cons_zero, List.set_cons_succ]
        refine held_one 6 rfl (by kernel_rfl) (fun K hK => ?_)
        go_simp
        refine (datagrams_true _ L _ _ _ _ HR9.out HRR.out (by omega)).mono ?_
        rintro e w10 ⟨rfl, hb10⟩
        have HD10 := Lib.hid (HD9.out.still hb10)
        refine hK.out _ _ (below_cell hb10 hHeld) (fun hHeld => ?_)
        clear hb10
        clear hK K
        try simp only [Act.put, List.setIfInBounds_toArray, List.set_cons_zero, List.set_cons_succ]
        refine held_yes 7 rfl (by kernel_rfl) (by kernel_rfl) (by kernel_rfl) (fun _ _ _ _ h => h) (by rfl) (by assumption) ?_
        apply Exists.intro
        refine ⟨fun wq hSw => ?_, ?_⟩
        · (try dsimp only at hSw); go_simp; (try with_reducible rfl)
        try simp only [Act.put, List.setIfInBounds_toArray, List.set_cons_zero, List.set_cons_succ]
        refine wpAnyH_done (by kernel_rfl) ?_ _
        go_wp2_with fail
        go_ret
        exact ⟨rfl, HD10.out.p.below⟩

theorem walkPlays (a0 : Int) (a1 : Option Addr) (len1 cap1 : Nat) (z1 : Nat → StepV) (w : World) (w0 : (Lit.int .i64 a0).wf = true) (w1 : StepsAt w a1 len1 z1 ∧ (∀ i, i < len1 → (z1 i).Ok) ∧ len1 ≤ cap1 ∧ cap1 ≤ maxLen) :
    Calls Try.prog 6 #[.int .i64 a0, .slice a1 len1 cap1] w fun e w' => e = .returned (.bool true) ∧ Below w.heap.size w w' := by
  by_cases h : 1 ≤ a0 ∧ a0 ≤ 256
  · exact playsGood a0 a1 len1 cap1 z1 w h.1 h.2 w1
  · exact playsBad a0 a1 len1 cap1 w h
end Go.Proofs.Ytibagcgnaceimaa
