/- The walk of NetMoves. -/
import Derived.Test.YtibagcgnaceimaaB
import Derived.Test.YtibagcgnaceimaaP
import Derived.Test.YtibagcgnaceimaaJ
import Derived.Deep.DeepCutAuto
import Derived.Deep.CutBlock
namespace Go.Proofs.Ytibagcgnaceimaa
open Go.ChangeShapes Go.WideShapes Go.ChangeAt Go.RowKit Go.Joins Go.Deep
set_option linter.unusedVariables false

theorem mod_nat (n : Int) (m : Nat) (h : 0 < m) : ∃ k : Nat, n % (m : Int) = k ∧ k < m := by
  have h1 := Int.emod_nonneg n (show (m : Int) ≠ 0 by omega)
  have h2 := Int.emod_lt_of_pos n (show (0 : Int) < m by omega)
  exact ⟨(n % (m : Int)).toNat, by omega, by omega⟩

theorem DList.chg {w w' : World} {F F' : Nat → Prop} {base : Nat} {v : Value} {H : List (Dg × Value)} (h : DList base w v H) (hc : Chg F F' w w') (hF : ∀ b, F b → b < base) : DList base w' v H :=
  ⟨owns_chg h.row hc hF, fun p hp => owns_chg (h.dg p hp) hc hF, h.small⟩

/-- What the sends leave: a net of some of the datagrams. -/
def SendRel (w0 wr : World) (n : Nat) (k : Nat) : Prop :=
  ∃ F L lost, Mine w0 wr F n (netP 256 lost) L ∧ 0 ≤ lost ∧ lost ≤ k ∧ (L.length : Int) ≤ k

set_option maxHeartbeats 2000000 in
set_option maxRecDepth 100000 in
theorem walkMoves (a0 : Option Addr) (len0 cap0 : Nat) (z0 : Nat → Dg) (a1 : Int) (w : World) (w0 : DgsAt w a0 len0 z0 ∧ (∀ i, i < len0 → (z0 i).Ok) ∧ len0 ≤ cap0 ∧ cap0 ≤ maxLen) (w1 : (Lit.int .i64 a1).wf = true) :
    Calls Try.prog 4 #[.slice a0 len0 cap0, .int .i64 a1] w fun e w' => e = .returned (.bool true) ∧ Below w.heap.size w w' := by
  obtain ⟨j0, hj, hy0, hy1, hy2⟩ := info_parts Try.info31
  obtain ⟨hz, hok, hlc, hcm⟩ := w0
  have HZ := Lib.hid hz
  have HOK := Lib.hid hok
  have b1 := bounds_i64 w1
  have hc63 : (cap0 : Int) ≤ 9223372036854775807 := by unfold maxLen at hcm; omega
  have hlc' : (len0 : Int) ≤ cap0 := by omega
  clear hz hok w1 hcm
  go_enter Try.func4, Try.ntmps4
  go_wp2_with fail
  refine (newP _ 256 (by omega) (by omega)).mono ?_
  rintro e w3 ⟨rfl, hn, hb⟩
  have HM : Hid (Mine w w3 _ w.heap.size (netP 256 0) []) := Lib.hid ⟨hn, hb, fun b hb => by omega⟩
  clear hn hb
  go_wp2_with fail
  refine (known_true _).mono ?_
  rintro e w4 ⟨rfl, hb⟩
  have HM4 := Lib.hid (HM.out.still hb)
  clear hb HM
  go_upto_region 4 with (fail)
  go_cut [0] (fun v wc => ∃ n : Nat, n ≤ 60 ∧ n ≤ len0 ∧ v = .slice a0 n cap0 ∧ w4 = wc)
  case first =>
    by_cases h60 : len0 ≤ 60
    · have h60' : ¬ (60 : Int) < len0 := by omega
      go_wp2_with fail
      go_meet
      case rel => exact ⟨len0, h60, Nat.le_refl _, rfl, rfl⟩
    · have h60' : (60 : Int) < len0 := by omega
      have h61 : (60 : Int) ≤ cap0 := by omega
      go_wp2_with fail
      go_meet
      case rel => exact ⟨60, Nat.le_refl _, by omega, rfl, rfl⟩
  case rest =>
    obtain ⟨n0, hn60, hn0, rfl, rfl⟩ := hcut
    clear hlc hlc'
    have HM4 := HM4
    go_wp2_with fail
    go_loopw [7] (fun i wr => ∃ k : Nat, k ≤ n0 ∧ i = .int .i64 k ∧ SendRel w wr w.heap.size k) (fun i _ => n0 - (intOf i).toNat)
    case atStart => exact ⟨0, Nat.zero_le _, rfl, _, [], 0, HM4.out, by omega, by omega, by simp⟩
    case round =>
      clear HM4
      obtain ⟨k, hk, rfl, F, L, lost, hm, hl0, hl1, hll⟩ := hrel
      have HM := Lib.hid hm
      clear hm
      by_cases hlt : k < n0
      · obtain ⟨b, off, rfl, hc⟩ := HZ.out (by omega)
        have o0 := HOK.out k (by omega)
        obtain ⟨c0, c1, bo, bc, c2, hsrc⟩ := (hc k (by omega)).below HM.out.below
        generalize z0 k = d at *
        have HS := Lib.hid hsrc
        clear hc hsrc
        go_wp2_with fail
        refine (sendP _ _ _ 256 lost L HM.out.net d bo bc HS.out (by have := o0.bs; omega) (by omega) (by omega)).mono ?_
        rintro e w6 ⟨rfl, F6, hn, hc⟩
        have HM6 := Lib.hid (HM.out.step hn hc)
        clear hn hc
        go_wp2_with fail
        go_roundw
        case rel =>
          cases hb : fits 256 L d.bs.length
          · rw [hb] at HM6
            exact ⟨k + 1, by omega, by go_num, _, L, lost + 1, HM6.out, by omega, by omega, by omega⟩
          · rw [hb] at HM6
            exact ⟨k + 1, by omega, by go_num, _, L ++ [d], lost, HM6.out, by omega, by omega, by simp; omega⟩
        case measure => simp [intOf]; omega
      · obtain rfl : k = n0 := by omega
        clear HZ HOK
        go_wp2_with fail
        refine (allP _ _ _ 256 lost L HM.out.net (by omega)).mono ?_
        rintro e w6 ⟨v6, H6, rfl, hm6, hd6, hb6⟩
        have HM6 := Lib.hid (HM.out.still hb6)
        obtain ⟨ao6, c6, rfl, hrd⟩ := hd6.rd hm6
        have HD6 := Lib.hid hd6
        have HMM := Lib.hid hm6
        have HRD := Lib.hid hrd
        have hz6 := hb6.size
        have HLT : Hid (∀ b, F b → b < wr.heap.size) := Lib.hid HM.out.net.lt
        clear hm6 hd6 hb6 hrd HM
        cases hL : L with
        | nil =>
          subst hL
          go_wp2_with fail
          refine (takeY HM6.out.net a1 ⟨0, 0, []⟩ [] false (by simp [inB]) (dgAt_out (by simp [inB])) (by simp [without])).mono ?_
          rintro e w7 ⟨v7, rfl, hown, hn, hc⟩
          obtain ⟨ao7, cc7, rfl, _⟩ := owns_slice hown
          have HM7 := Lib.hid (HM6.out.step hn hc)
          have hz7 := hc.size
          clear hown hn hc
          go_wp2_with fail
          go_ret
          exact ⟨rfl, HM7.out.below.alloc HM7.out.below.size _⟩
        | cons d0 L0 =>
          rw [← hL]
          have hpos : 0 < L.length := by rw [hL]; simp
          clear hL
          go_wp2_with fail
          refine (pick_any a1 L.length _ b1.1 b1.2 (by omega) (by omega)).mono ?_
          rintro e w7 ⟨rfl, rfl⟩
          obtain ⟨κ, hκ, hκl⟩ := mod_nat a1 L.length hpos
          rw [hκ]
          clear hκ
          have hget := List.getElem?_eq_getElem hκl
          generalize L[κ] = d at hget
          have HG := Lib.hid hget
          go_wp2_with fail
          refine (takeY HM6.out.net κ d (without L κ) true (inB_in hκl) (dgAt_in hget) rfl).mono ?_
          rintro e w7 ⟨v7, rfl, hown, hn, hc⟩
          obtain ⟨ao7, cc7, rfl, hs7⟩ := owns_src hown
          have HM7 := Lib.hid (HM6.out.step hn hc)
          have HS7 := Lib.hid hs7
          have hz7 := hc.size
          have HD7 : Hid (DList wr.heap.size w7 (.slice ao6 L.length c6) H6) := Lib.hid (HD6.out.chg hc HLT.out)
          clear hown hn hc hs7 hget
          go_wp2_with fail
          have hH6 : H6.length = L.length := by rw [← HMM.out, List.length_map]
          have HH6 := Lib.hid hH6
          obtain ⟨g, cap, hv, _, hg, hlc6, hcm6⟩ := owned_head HD7.out.row (by omega)
          simp only [Value.slice.injEq] at hv
          obtain ⟨rfl, -, rfl⟩ := hv
          rw [hH6] at hlc6
          clear hH6
          have hcm6' : (c6 : Int) ≤ 9223372036854775807 := by unfold maxLen at hcm6; omega
          have hkc : (κ : Int) ≤ c6 := by omega
          have hk1 : IntKind.i64.wrap ((κ : Int) + 1) = (κ : Int) + 1 := IntWalk.i64_in _ (by omega)
          have hk2 : (κ : Int) + 1 ≤ L.length := by omega
          have hk3 : (0 : Int) ≤ (κ : Int) + 1 := by omega
          have hk5 : (κ : Int) ≤ (κ : Int) + 1 := by omega
          obtain ⟨W1, hW1⟩ : ∃ W1, W1 = ((w7.alloc (.cells #[.int .i64 d.fr, .int .i64 d.to, .slice ao7 d.bs.length cc7] 31)).alloc (.cells #[] 31)).drew := ⟨_, rfl⟩
          have hlit : W1.ownsRow (w7.heap.size + 1) 31 3 (.slice (some ⟨w7.heap.size + 1, 0, none⟩) 0 0) 0 [] := by
            have := (World.ownsRow_lit (base := w7.heap.size + 1) (e := 31) (size := 3) (w7.alloc (.cells #[.int .i64 d.fr, .int .i64 d.to, .slice ao7 d.bs.length cc7] 31)) #[] 0 (by simp) (by decide) rfl).drew
            simp only [World.size_alloc] at this
            rw [hW1]; exact this
          have hbW : Below (w7.heap.size + 1) (w7.alloc (.cells #[.int .i64 d.fr, .int .i64 d.to, .slice ao7 d.bs.length cc7] 31)) W1 := by rw [hW1]; exact ((Below.refl _ _).alloc (by simp) _).drew
          have hzW : W1.heap.size = w7.heap.size + 2 := by rw [hW1]; simp
          have HDW := Lib.hid ((HD7.out.below ((Below.refl _ _).alloc (Nat.le_refl _) (.cells #[.int .i64 d.fr, .int .i64 d.to, .slice ao7 d.bs.length cc7] 31)) (Nat.le_refl _)).below hbW (by simp))
          have hgW : g < W1.heap.size := by omega
          have HLIT := Lib.hid hlit
          have HBW := Lib.hid hbW
          have HONE := Lib.hid (dcells_oneCell (H := H6) (fun p hp => by obtain ⟨a, c, he, _⟩ := owns_slice (HDW.out.dg p hp); exact ⟨a, _, c, he⟩))
          have hLs : L.length ≤ 256 := by omega
          clear hlit hbW
          have hA0 : (dcells (H6.take κ)).length = κ * 3 := by rw [dcells_length, List.length_take, HH6.out]; omega
          have hA1 : (dcells (H6.drop (κ + 1))).length = (L.length - (κ + 1)) * 3 := by rw [dcells_length, List.length_drop, HH6.out]
          have HA0 := Lib.hid hA0
          have HA1 := Lib.hid hA1
          clear hA0 hA1
          have HRT := Lib.hid HDW.out.row
          rw [HH6.out] at HRT
          go_cut [13] (fun v wc => ∃ aoB cB, v = .slice aoB (without L κ).length cB ∧ RD wc aoB (without L κ) ∧ Below (w7.heap.size + 1) (w7.alloc (.cells #[.int .i64 d.fr, .int .i64 d.to, .slice ao7 d.bs.length cc7] 31)) wc)
          case first =>
            by_cases hce : c6 = κ + 1
            · subst hce
              have hle : L.length - (κ + 1) = 0 := by omega
              have hnil : H6.drop (κ + 1) = [] := List.drop_eq_nil_of_le (by rw [HH6.out]; omega)
              have HNIL := Lib.hid hnil
              have HLE := Lib.hid hle
              clear hnil hle
              go_region_law (first
                | (refine step_append_any (by rfl) (.tmp 68) (.tmp 71) 22 (by rfl) (w7.heap.size + 1) 31 j0 (.agg #[.int .i64 0, .int .i64 0, .slice none 0 0]) 3 40 Try.underlying22 hj hy0 hy1 hy2 rfl (by decide) (.slice (some ⟨w7.heap.size + 1, 0, none⟩) 0 0) 0 [] (by rfl) (hW1 ▸ HLIT.out) (some ⟨g, 0, none⟩) κ (κ + 1) (dcells (H6.take κ)) (by rfl) HA0.out (hW1 ▸ src_take HRT.out HH6.out.symm κ (by omega)) (fun u hu => HONE.out u (by rw [← dcells_take] at hu; exact List.mem_of_mem_take hu)) (by unfold maxLen; omega) (by omega) (by simp) ?_; rw [← hW1]; intro vA wA hA gA _; rw [Nat.zero_add, List.nil_append] at hA; obtain ⟨aoA, cA, rfl, _⟩ := owns_slice hA; have hzA := gA.size; have HA := Lib.hid hA; have HbA := Lib.hid (HBW.out.grown gA (by omega) (by intro q hq; cases hq; exact Nat.le_refl _)); clear hA gA)
                | (refine step_append_any (by rfl) (.tmp 72) (.tmp 76) 22 (by rfl) (w7.heap.size + 1) 31 j0 (.agg #[.int .i64 0, .int .i64 0, .slice none 0 0]) 3 40 Try.underlying22 hj hy0 hy1 hy2 rfl (by decide) (.slice aoA κ cA) κ (dcells (H6.take κ)) (by rfl) HA.out (some ⟨g, 0, none⟩) 0 0 ([]) (by rfl) rfl src_none (by simp) (by unfold maxLen; omega) (by omega) (by omega) ?_; intro vB wB hB gB _; have HB := Lib.hid hB; have HbB := Lib.hid (HbA.out.grown gB (by omega) (fun q hq => (HA.out.lt q hq).1)); clear hB gB))
              go_wp2_with fail
              go_meet
              case rel =>
                have hhB : wB.ownsRow (w7.heap.size + 1) 31 3 vB (H6.eraseIdx κ).length (dcells (H6.eraseIdx κ)) := by
                  rw [← erase_length (by rw [HH6.out]; exact hκl), ← erase_parts (by rw [HH6.out]; exact hκl), Nat.zero_add, List.nil_append, HH6.out]
                  rw [HNIL.out, HLE.out]; exact HB.out
                obtain ⟨aoB, cB, hv, hr⟩ := (((HD7.out.below ((Below.refl _ _).alloc (Nat.le_refl _) (.cells #[.int .i64 d.fr, .int .i64 d.to, .slice ao7 d.bs.length cc7] 31)) (Nat.le_refl _)).below HbB.out (by simp)).rest hhB).rd (without_map HMM.out hκl)
                exact ⟨aoB, cB, hv, hr, HbB.out⟩
            · go_region_law (first
                | (refine step_append_any (by rfl) (.tmp 68) (.tmp 71) 22 (by rfl) (w7.heap.size + 1) 31 j0 (.agg #[.int .i64 0, .int .i64 0, .slice none 0 0]) 3 40 Try.underlying22 hj hy0 hy1 hy2 rfl (by decide) (.slice (some ⟨w7.heap.size + 1, 0, none⟩) 0 0) 0 [] (by rfl) (hW1 ▸ HLIT.out) (some ⟨g, 0, none⟩) κ c6 (dcells (H6.take κ)) (by rfl) HA0.out (hW1 ▸ src_take HRT.out HH6.out.symm κ (by omega)) (fun u hu => HONE.out u (by rw [← dcells_take] at hu; exact List.mem_of_mem_take hu)) (by unfold maxLen; omega) (by omega) (by simp) ?_; rw [← hW1]; intro vA wA hA gA _; rw [Nat.zero_add, List.nil_append] at hA; obtain ⟨aoA, cA, rfl, _⟩ := owns_slice hA; have hzA := gA.size; have HA := Lib.hid hA; have HbA := Lib.hid (HBW.out.grown gA (by omega) (by intro q hq; cases hq; exact Nat.le_refl _)); clear hA gA)
                | (refine step_append_any (by rfl) (.tmp 72) (.tmp 76) 22 (by rfl) (w7.heap.size + 1) 31 j0 (.agg #[.int .i64 0, .int .i64 0, .slice none 0 0]) 3 40 Try.underlying22 hj hy0 hy1 hy2 rfl (by decide) (.slice aoA κ cA) κ (dcells (H6.take κ)) (by rfl) HA.out (some ⟨g, (κ + 1) * 3, none⟩) (L.length - (κ + 1)) (c6 - (κ + 1)) (dcells (H6.drop (κ + 1))) (by rfl) HA1.out (src_drop (HD7.out.below ((Below.refl _ _).alloc (Nat.le_refl _) (.cells #[.int .i64 d.fr, .int .i64 d.to, .slice ao7 d.bs.length cc7] 31)) (Nat.le_refl _) |>.below HbA.out (by simp)).row HH6.out.symm (κ + 1) (by omega)) (fun u hu => HONE.out u (by rw [← dcells_drop] at hu; exact List.mem_of_mem_drop hu)) (by unfold maxLen; omega) (by omega) (by omega) ?_; intro vB wB hB gB _; have HB := Lib.hid hB; have HbB := Lib.hid (HbA.out.grown gB (by omega) (fun q hq => (HA.out.lt q hq).1)); clear hB gB))
              go_wp2_with fail
              go_meet
              case rel =>
                have hhB : wB.ownsRow (w7.heap.size + 1) 31 3 vB (H6.eraseIdx κ).length (dcells (H6.eraseIdx κ)) := by
                  rw [← erase_length (by rw [HH6.out]; exact hκl), ← erase_parts (by rw [HH6.out]; exact hκl), Nat.zero_add, List.nil_append, HH6.out]
                  exact HB.out
                obtain ⟨aoB, cB, hv, hr⟩ := (((HD7.out.below ((Below.refl _ _).alloc (Nat.le_refl _) (.cells #[.int .i64 d.fr, .int .i64 d.to, .slice ao7 d.bs.length cc7] 31)) (Nat.le_refl _)).below HbB.out (by simp)).rest hhB).rd (without_map HMM.out hκl)
                exact ⟨aoB, cB, hv, hr, HbB.out⟩
          case rest =>
            obtain ⟨aoB, cB, rfl, hrB, hbB⟩ := hcut
            clear hj hy0 hy1 hy2
            have hb7 : Below w7.heap.size w7 (w7.alloc (.cells #[.int .i64 d.fr, .int .i64 d.to, .slice ao7 d.bs.length cc7] 31)) := (Below.refl _ _).alloc (Nat.le_refl _) _
            have HMC := Lib.hid ((HM7.out.still hb7).still (hbB.mono (by simp)))
            have HRC := Lib.hid hrB
            have HT : Hid (SrcAt wc ao7 d.bs.length cc7 (u8s d.bs)) := Lib.hid ((HS7.out.below hb7).below (hbB.mono (by simp)))
            obtain ⟨g', c', xo, xc, hv, _, x0, x1, x2, _, hsx⟩ := ((HD7.out.below hb7 (Nat.le_refl _)).below hbB (by simp)).at HMM.out κ d HG.out
            simp only [Value.slice.injEq, Option.some.injEq, Addr.mk.injEq, and_true] at hv
            obtain ⟨rfl, -⟩ := hv
            have HX := Lib.hid hsx
            have t0 : wc.cell? ⟨w7.heap.size, 0, none⟩ = some (.int .i64 d.fr) := (hbB.cell (by simp)).trans (by go_simp)
            have t1 : wc.cell? ⟨w7.heap.size, 1, none⟩ = some (.int .i64 d.to) := (hbB.cell (by simp)).trans (by go_simp)
            have t2 : wc.cell? ⟨w7.heap.size, 2, none⟩ = some (.slice ao7 d.bs.length cc7) := (hbB.cell (by simp)).trans (by go_simp)
            have hlw : (without L κ).length ≤ 256 := Nat.le_trans (without_le L κ) hLs
            clear hb7 hbB hrB hsx HLIT HBW HDW HRT HONE HA0 HA1 HD7 HS7
            go_upto_region 16 with (fail)
            have hS : (fun w' : World => w'.cell? ⟨w7.heap.size, 0, none⟩ = some (.int .i64 d.fr) ∧ w'.cell? ⟨w7.heap.size, 1, none⟩ = some (.int .i64 d.to) ∧ w'.cell? ⟨w7.heap.size, 2, none⟩ = some (.slice ao7 d.bs.length cc7) ∧ w'.cell? ⟨g, κ * 3, none⟩ = some (.int .i64 d.fr) ∧ w'.cell? ⟨g, κ * 3 + 1, none⟩ = some (.int .i64 d.to) ∧ w'.cell? ⟨g, κ * 3 + 2, none⟩ = some (.slice xo d.bs.length xc)) wc.drew := ⟨t0, t1, t2, x0, x1, x2⟩
            clear t0 t1 t2 x0 x1 x2
            refine wp_region_held_drew (S := fun w' => w'.cell? ⟨w7.heap.size, 0, none⟩ = some (.int .i64 d.fr) ∧ w'.cell? ⟨w7.heap.size, 1, none⟩ = some (.int .i64 d.to) ∧ w'.cell? ⟨w7.heap.size, 2, none⟩ = some (.slice ao7 d.bs.length cc7) ∧ w'.cell? ⟨g, κ * 3, none⟩ = some (.int .i64 d.fr) ∧ w'.cell? ⟨g, κ * 3 + 1, none⟩ = some (.int .i64 d.to) ∧ w'.cell? ⟨g, κ * 3 + 2, none⟩ = some (.slice xo d.bs.length xc)) (by kernel_rfl) hS (fun hHeld => ?_)
            clear hS
            refine held_yes 0 rfl (by kernel_rfl) (by kernel_rfl) (by kernel_rfl) (fun _ _ _ _ h => h) (by rfl) (by assumption) ?_
            apply Exists.intro
            refine ⟨fun wq hSw => ?_, ?_⟩
            · (try dsimp only at hSw); go_simp; (try with_reducible rfl)
            try simp only [Act.put, List.setIfInBounds_toArray, List.set_cons_zero, List.set_cons_succ]
            refine held_yes 1 rfl (by kernel_rfl) (by kernel_rfl) (by kernel_rfl) (fun _ _ _ _ h => h) (by rfl) (by assumption) ?_
            apply Exists.intro
            refine ⟨fun wq hSw => ?_, ?_⟩
            · (try dsimp only at hSw); go_simp; (try with_reducible rfl)
            try simp only [Act.put, List.setIfInBounds_toArray, List.set_cons_zero, List.set_cons_succ]
            refine held_yes 2 rfl (by kernel_rfl) (by kernel_rfl) (by kernel_rfl) (fun _ _ _ _ h => h) (by rfl) (by assumption) ?_
            apply Exists.intro
            refine ⟨fun wq hSw => ?_, ?_⟩
            · (try dsimp only at hSw); go_simp; (try with_reducible rfl)
            try simp only [Act.put, List.setIfInBounds_toArray, List.set_cons_zero, List.set_cons_succ]
            refine held_yes 3 rfl (by kernel_rfl) (by kernel_rfl) (by kernel_rfl) (fun _ _ _ _ h => h) (by rfl) (by assumption) ?_
            apply Exists.intro
            refine ⟨fun wq hSw => ?_, ?_⟩
            · (try dsimp only at hSw); go_simp; (try with_reducible rfl)
            try simp only [Act.put, List.setIfInBounds_toArray, List.set_cons_zero, List.set_cons_succ]
            refine held_yes 4 rfl (by kernel_rfl) (by kernel_rfl) (by kernel_rfl) (fun _ _ _ _ h => h) (by rfl) (by assumption) ?_
            apply Exists.intro
            refine ⟨fun wq hSw => ?_, ?_⟩
            · (try dsimp only at hSw); go_simp; (try with_reducible rfl)
            try simp only [Act.put, List.setIfInBounds_toArray, List.set_cons_zero, List.set_cons_succ]
            refine held_yes 5 rfl (by kernel_rfl) (by kernel_rfl) (by kernel_rfl) (fun _ _ _ _ h => h) (by rfl) (by assumption) ?_
            apply Exists.intro
            refine ⟨fun wq hSw => ?_, ?_⟩
            · (try dsimp only at hSw); go_simp; (try with_reducible rfl)
            try simp only [Act.put, List.setIfInBounds_toArray, List.set_cons_zero, List.set_cons_succ]
            refine held_yes 6 rfl (by kernel_rfl) (by kernel_rfl) (by kernel_rfl) (fun _ _ _ _ h => h) (by rfl) (by assumption) ?_
            apply Exists.intro
            refine ⟨fun wq hSw => ?_, ?_⟩
            · (try dsimp only at hSw); go_simp; (try with_reducible rfl)
            try simp only [Act.put, List.setIfInBounds_toArray, List.set_cons_zero, List.set_cons_succ]
            refine held_one 7 rfl (by kernel_rfl) (fun K hK => ?_)
            go_simp
            refine (same_true _ d ao7 xo cc7 xc (HT.out.below (Below.refl _ _).drew) (HX.out.below (Below.refl _ _).drew)).mono ?_
            rintro e w8 ⟨rfl, hb8⟩
            have HM8 := Lib.hid (HMC.out.still (Below.refl _ _).drew |>.still hb8)
            have HR8 := Lib.hid (HRC.out.below (Below.refl _ _).drew |>.below hb8)
            refine hK.out _ _ ⟨below_cell hb8 hHeld.1, below_cell hb8 hHeld.2.1, below_cell hb8 hHeld.2.2.1, below_cell hb8 hHeld.2.2.2.1, below_cell hb8 hHeld.2.2.2.2.1, below_cell hb8 hHeld.2.2.2.2.2⟩ (fun hHeld => ?_)
            clear hb8
            clear hK K
            try simp only [Act.put, List.setIfInBounds_toArray, List.set_cons_zero, List.set_cons_succ]
            refine held_yes 8 rfl (by kernel_rfl) (by kernel_rfl) (by kernel_rfl) (fun _ _ _ _ h => h) (by rfl) (by assumption) ?_
            apply Exists.intro
            refine ⟨fun wq hSw => ?_, ?_⟩
            · (try dsimp only at hSw); go_simp; (try with_reducible rfl)
            try simp only [Act.put, List.setIfInBounds_toArray, List.set_cons_zero, List.set_cons_succ]
            refine held_yes 9 rfl (by kernel_rfl) (by kernel_rfl) (by kernel_rfl) (fun _ _ _ _ h => h) (by rfl) (by assumption) ?_
            apply Exists.intro
            refine ⟨fun wq hSw => ?_, ?_⟩
            · (try dsimp only at hSw); go_simp; (try with_reducible rfl)
            try simp only [Act.put, List.setIfInBounds_toArray, List.set_cons_zero, List.set_cons_succ]
            refine held_yes 10 rfl (by kernel_rfl) (by kernel_rfl) (by kernel_rfl) (fun _ _ _ _ h => h) (by rfl) (by assumption) ?_
            apply Exists.intro
            refine ⟨fun wq hSw => ?_, ?_⟩
            · (try dsimp only at hSw); go_simp; (try with_reducible rfl)
            try simp only [Act.put, List.setIfInBounds_toArray, List.set_cons_zero, List.set_cons_succ]
            refine held_yes 12 rfl (by kernel_rfl) (by kernel_rfl) (by kernel_rfl) (fun _ _ _ _ h => h) (by rfl) (by assumption) ?_
            apply Exists.intro
            refine ⟨fun wq hSw => ?_, ?_⟩
            · (try dsimp only at hSw); go_simp; (try with_reducible rfl)
            try simp only [Act.put, List.setIfInBounds_toArray, List.set_cons_zero, List.set_cons_succ]
            refine held_one 11 rfl (by kernel_rfl) (fun K hK => ?_)
            go_simp
            refine (allP _ _ _ 256 lost _ HM8.out.net (by omega)).mono ?_
            rintro e w9 ⟨v9, H9, rfl, hm9, hd9, hb9⟩
            obtain ⟨ao9, c9, rfl, hr9⟩ := hd9.rd hm9
            have HR9 := Lib.hid hr9
            have HRB := Lib.hid (HR8.out.below hb9)
            have HM9 := Lib.hid (HM8.out.still hb9)
            refine hK.out _ _ ⟨below_cell hb9 hHeld.1, below_cell hb9 hHeld.2.1, below_cell hb9 hHeld.2.2.1, below_cell hb9 hHeld.2.2.2.1, below_cell hb9 hHeld.2.2.2.2.1, below_cell hb9 hHeld.2.2.2.2.2⟩ (fun hHeld => ?_)
            clear hb9 hm9 hd9 hr9
            clear hK K
            try simp only [Act.put, List.setIfInBounds_toArray, List.set_cons_zero, List.set_cons_succ]
            refine held_one 13 rfl (by kernel_rfl) (fun K hK => ?_)
            go_simp
            refine (datagrams_true _ _ _ _ _ _ HR9.out HRB.out (by omega)).mono ?_
            rintro e w10 ⟨rfl, hb10⟩
            have HM10 := Lib.hid (HM9.out.still hb10)
            refine hK.out _ _ ⟨below_cell hb10 hHeld.1, below_cell hb10 hHeld.2.1, below_cell hb10 hHeld.2.2.1, below_cell hb10 hHeld.2.2.2.1, below_cell hb10 hHeld.2.2.2.2.1, below_cell hb10 hHeld.2.2.2.2.2⟩ (fun hHeld => ?_)
            clear hb10
            clear hK K
            try simp only [Act.put, List.setIfInBounds_toArray, List.set_cons_zero, List.set_cons_succ]
            refine held_yes 14 rfl (by kernel_rfl) (by kernel_rfl) (by kernel_rfl) (fun _ _ _ _ h => h) (by rfl) (by assumption) ?_
            apply Exists.intro
            refine ⟨fun wq hSw => ?_, ?_⟩
            · (try dsimp only at hSw); go_simp; (try with_reducible rfl)
            try simp only [Act.put, List.setIfInBounds_toArray, List.set_cons_zero, List.set_cons_succ]
            refine held_yes 15 rfl (by kernel_rfl) (by kernel_rfl) (by kernel_rfl) (fun _ _ _ _ h => h) (by rfl) (by assumption) ?_
            apply Exists.intro
            refine ⟨fun wq hSw => ?_, ?_⟩
            · (try dsimp only at hSw); go_simp; (try with_reducible rfl)
            try simp only [Act.put, List.setIfInBounds_toArray, List.set_cons_zero, List.set_cons_succ]
            refine wpAnyH_done (by kernel_rfl) ?_ _
            go_wp2_with fail
            go_ret
            exact ⟨rfl, HM10.out.below⟩
end Go.Proofs.Ytibagcgnaceimaa
