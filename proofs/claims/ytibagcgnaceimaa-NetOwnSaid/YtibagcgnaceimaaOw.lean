/- The walk of NetOwn. -/
import Derived.Test.YtibagcgnaceimaaO
import Derived.Test.YtibagcgnaceimaaJ
import Derived.Test.YtibagcgnaceimaaM
namespace Go.Proofs.Ytibagcgnaceimaa
open Go.ChangeShapes Go.WideShapes Go.ChangeAt Go.RowKit Go.Joins Go.Deep
set_option linter.unusedVariables false

set_option maxHeartbeats 4000000 in
set_option maxRecDepth 100000 in
theorem walkOwn (a0 : Option Addr) (len0 cap0 : Nat) (z0 : Nat → Dg) (w : World) (w0 : DgsAt w a0 len0 z0 ∧ (∀ i, i < len0 → (z0 i).Ok) ∧ len0 ≤ cap0 ∧ cap0 ≤ maxLen) :
    Calls Try.prog 3 #[.slice a0 len0 cap0] w fun e w' => e = .returned (.bool true) ∧ Below w.heap.size w w' := by
  obtain ⟨j0, hj, hy0, hy1, hy2⟩ := info_parts Try.info31
  obtain ⟨hz, hok, hlc, hcm⟩ := w0
  have HZ := Lib.hid hz
  have HOK := Lib.hid hok
  have hc63 : (cap0 : Int) ≤ 9223372036854775807 := by unfold maxLen at hcm; omega
  have hlc' : (len0 : Int) ≤ cap0 := by omega
  clear hz hok hcm
  go_enter Try.func3, Try.ntmps3
  go_wp2_with fail
  refine (newP _ 256 (by omega) (by omega)).mono ?_
  rintro e w3 ⟨rfl, hn, hb⟩
  have HM : Hid (Mine w w3 _ w.heap.size (netP 256 0) []) := Lib.hid ⟨hn, hb, fun b hb => by omega⟩
  clear hn hb
  go_wp2_with fail
  refine (known_true _).mono ?_
  rintro e w4 ⟨rfl, hb⟩
  have HM4 := Lib.hid (HM.out.still hb)
  clear hb HM
  go_upto_region 4 with (fail)
  go_cut [0] (fun v wc => ∃ n : Nat, n ≤ 50 ∧ n ≤ len0 ∧ v = .slice a0 n cap0 ∧ w4 = wc)
  case first =>
    by_cases h50 : len0 ≤ 50
    · have h50' : ¬ (50 : Int) < len0 := by omega
      go_wp2_with fail
      go_meet
      case rel => exact ⟨len0, h50, Nat.le_refl _, rfl, rfl⟩
    · have h50' : (50 : Int) < len0 := by omega
      have h61 : (50 : Int) ≤ cap0 := by omega
      go_wp2_with fail
      go_meet
      case rel => exact ⟨50, Nat.le_refl _, by omega, rfl, rfl⟩
  case rest =>
    obtain ⟨n0, hn50, hn0, rfl, rfl⟩ := hcut
    clear hlc hlc'
    have HM4 := HM4
    go_wp2_with fail
    go_loopw [5] (fun i wr => ∃ k : Nat, k ≤ n0 ∧ i = .int .i64 k ∧ SendRel w wr w.heap.size k) (fun i _ => n0 - (intOf i).toNat)
    case atStart => exact ⟨0, Nat.zero_le _, rfl, _, [], 0, HM4.out, by omega, by omega, by simp⟩
    case round =>
      clear HM4
      obtain ⟨k, hk, rfl, F, L, lost, hm, hl0, hl1, hll⟩ := hrel
      have HM := Lib.hid hm
      clear hm
      by_cases hlt : k < n0
      · obtain ⟨b, off, rfl, hc⟩ := HZ.out (by omega)
        have o0 := HOK.out k (by omega)
        obtain ⟨c0, c1, bo, bc, c2, hsrc⟩ := (hc k (by omega)).below HM.out.below
        generalize z0 k = d at *
        have HS := Lib.hid hsrc
        clear hc hsrc
        go_wp2_with fail
        refine (sendP _ _ _ 256 lost L HM.out.net d bo bc HS.out (by have := o0.bs; omega) (by omega) (by omega)).mono ?_
        rintro e w6 ⟨rfl, F6, hn, hc⟩
        have HM6 := Lib.hid (HM.out.step hn hc)
        clear hn hc
        go_wp2_with fail
        go_roundw
        case rel =>
          cases hb : fits 256 L d.bs.length
          · rw [hb] at HM6
            exact ⟨k + 1, by omega, by go_num, _, L, lost + 1, HM6.out, by omega, by omega, by omega⟩
          · rw [hb] at HM6
            exact ⟨k + 1, by omega, by go_num, _, L ++ [d], lost, HM6.out, by omega, by omega, by simp; omega⟩
        case measure => simp [intOf]; omega
      · obtain rfl : k = n0 := by omega
        clear HZ HOK
        go_wp2_with fail
        refine (allP _ _ _ 256 lost L HM.out.net (by omega)).mono ?_
        rintro e w6 ⟨v6, H6, rfl, hm6, hd6, hb6⟩
        have HM6 := Lib.hid (HM.out.still hb6)
        obtain ⟨ao6, c6, rfl, hrd⟩ := hd6.rd hm6
        have HD6 := Lib.hid hd6
        have HMM := Lib.hid hm6
        have HRD := Lib.hid hrd
        have hz6 := hb6.size
        have HLT : Hid (∀ b, F b → b < wr.heap.size) := Lib.hid HM.out.net.lt
        clear hm6 hd6 hb6 hrd HM
        have hH6 : H6.length = L.length := by rw [← HMM.out, List.length_map]
        have HH6 := Lib.hid hH6
        have hsrc := owns_src HD6.out.row
        obtain ⟨ao', c', hv, hsrc⟩ := hsrc
        rw [hH6] at hv hsrc
        simp only [Value.slice.injEq, true_and] at hv
        obtain ⟨rfl, rfl⟩ := hv
        have HS6 := Lib.hid hsrc
        have hA1 : (dcells H6).length = L.length * 3 := by rw [dcells_length, hH6]
        have HA1 := Lib.hid hA1
        have HONE := Lib.hid (dcells_oneCell (H := H6) (fun p hp => by obtain ⟨a, c, he, _⟩ := owns_slice (HD6.out.dg p hp); exact ⟨a, _, c, he⟩))
        have hLs : L.length ≤ 256 := by omega
        clear hsrc hA1 hH6
        go_wp2_with (at_builtin; refine wpList_append_own_any _ rfl (.tmp 49) (.tmp 50) 22 rfl w6.heap.size 31 j0 (.agg #[.int .i64 0, .int .i64 0, .slice none 0 0]) 3 40 Try.underlying22 hj hy0 hy1 hy2 rfl (by decide) (.slice (some ⟨w6.heap.size, 0, none⟩) 0 0) 0 [] rfl (World.ownsRow_lit (base := w6.heap.size) (e := 31) (size := 3) w6 #[] 0 (Nat.le_refl _) (by decide) rfl) ao6 L.length c6 (dcells H6) rfl HA1.out (HS6.out.alloc _) HONE.out (by unfold maxLen; omega) (by omega) (by simp) ?_)
        intro v7 w7 hA gA _
        obtain ⟨ao7, c7, rfl, _⟩ := owns_slice hA
        have hz7 := gA.size
        simp only [World.size_alloc] at hz7
        have hb7 : Below w6.heap.size w6 w7 := ((Below.refl _ _).alloc (Nat.le_refl _) (.cells #[] 31)).grown gA (by simp) (fun k hk => by cases hk; exact Nat.le_refl _)
        have HD7 : Hid (DList 0 w7 (.slice ao7 L.length c7) H6) := Lib.hid ⟨by rw [HH6.out]; exact owns_weaken hA (Nat.zero_le _), fun p hp => owns_weaken (owns_below (HD6.out.dg p hp) hb7 (Nat.le_refl _)) (Nat.zero_le _), HD6.out.small⟩
        obtain ⟨_, _, hv, hrd7⟩ := HD7.out.rd HMM.out
        simp only [Value.slice.injEq, true_and] at hv
        obtain ⟨rfl, rfl⟩ := hv
        have HR7 := Lib.hid hrd7
        have HM7 := Lib.hid (HM6.out.still hb7)
        have HLT7 : Hid (∀ b, F b → b < w7.heap.size) := Lib.hid HM7.out.net.lt
        clear hA gA hb7 hrd7 HD7 HD6 HMM HRD HS6 HA1 HONE HM6 HLT HH6
        go_wp2_with fail
        go_loopw [7, 8] (fun u i wc => ∃ (j : Nat) (K : List (Dg × Value)), j ≤ L.length ∧ i = .int .i64 j ∧ K.map (·.1) = L.take j ∧ DList w7.heap.size wc u K ∧ Below w7.heap.size w7 wc) (fun _ i _ => L.length - (intOf i).toNat)
        case atStart => exact ⟨0, [], Nat.zero_le _, rfl, by simp, DList.nil _ _, Below.refl _ _⟩
        case round =>
          obtain ⟨j, K, hj1, rfl, hm, hd, hbel⟩ := hrel
          have HMK := Lib.hid hm
          have HDK := Lib.hid hd
          have HBK := Lib.hid hbel
          have hszK := hbel.size
          have hKl : K.length = j := by have := congrArg List.length hm; simp at this; omega
          by_cases hjl : j < L.length
          · obtain ⟨b1, o1, rfl, h1⟩ := HR7.out (by omega)
            have hget := List.getElem?_eq_getElem hjl
            have hsm := HM7.out.net.small L[j] (List.getElem_mem hjl)
            have ht : L.take (j + 1) = L.take j ++ [L[j]] := by rw [List.take_add_one, hget]; rfl
            obtain ⟨x0, x1, xo, xc, x2, x3⟩ := (h1 j _ hget).below hbel
            generalize L[j] = d at *
            have HT := Lib.hid ht
            have HS := Lib.hid x3
            clear hm hd hbel h1 hget ht x3
            go_wp2_with fail
            refine (copy_any d.fr d.to xo xc d.bs _ HS.out (by omega)).mono ?_
            rintro e w8 ⟨v8, rfl, hown8, hb8⟩
            obtain ⟨ao8, c8, rfl, _⟩ := owns_slice hown8
            have hz8 := hb8.size
            have HD8 := Lib.hid (HDK.out.below hb8 (Nat.le_refl _))
            have HO8 := Lib.hid hown8
            have HB8 : Hid (Below w7.heap.size w7 w8) := Lib.hid (HBK.out.trans (hb8.mono hszK))
            clear hown8 hb8
            go_wp2_with (at_builtin; refine wpList_append_own _ rfl (.tmp 58) (.tmp 64) 22 rfl w7.heap.size 31 j0 (.agg #[.int .i64 0, .int .i64 0, .slice none 0 0]) 3 40 Try.underlying22 hj hy0 hy1 hy2 rfl (by decide) _ _ _ rfl (HD8.out.below ((Below.refl _ _).alloc (Nat.le_refl _) (.cells #[.int .i64 d.fr, .int .i64 d.to, .slice ao8 d.bs.length c8] 31)) (Nat.le_refl _)).row ⟨w8.heap.size, 0, none⟩ 1 1 [.int .i64 d.fr, .int .i64 d.to, .slice ao8 d.bs.length c8] rfl ?_ ?_ ?_ ?_ ?_ ?_ ?_)
            · rfl
            · exact World.news_of_block (heap_alloc_new _ _)
            · intro u hu; simp at hu; rcases hu with rfl | rfl | rfl <;> rfl
            · unfold maxLen; omega
            · omega
            · simp; omega
            intro v' w9 hown' hgrow' _
            have HD9 := Lib.hid ((HD8.out.below ((Below.refl _ _).alloc (Nat.le_refl _) (.cells #[.int .i64 d.fr, .int .i64 d.to, .slice ao8 d.bs.length c8] 31)) (Nat.le_refl _)).more (d := d) (owns_below (owns_weaken HO8.out (by omega)) ((Below.refl _ _).alloc (Nat.le_refl _) _) (Nat.le_refl _)) (by rw [hKl]; exact hown') hgrow' (by omega))
            have HB9 : Hid (Below w7.heap.size w7 w9) := Lib.hid ((HB8.out.alloc (by omega) _).grown hgrow' (by simp; omega) (fun k hk => (HD8.out.row.lt k hk).1))
            clear hown' hgrow'
            go_wp2_with fail
            go_roundw
            case rel => exact ⟨j + 1, K ++ [(d, .slice ao8 d.bs.length c8)], by omega, by go_num, by rw [HT.out, List.map_append, HMK.out]; rfl, HD9.out, HB9.out⟩
            case measure => simp [intOf]; omega
          · obtain rfl : j = L.length := by omega
            rw [List.take_length] at hm
            obtain ⟨aoK, cK, rfl, hrK⟩ := hd.rd hm
            have HRK := Lib.hid hrK
            have HMK := Lib.hid (HM7.out.still hbel)
            clear hm hd hbel hrK HDK HBK hszK hKl HM7 HR7 HLT7 hj hy0 hy1 hy2
            obtain ⟨wK, hwK⟩ : ∃ wK : World, wr = wK := ⟨_, rfl⟩
            rw [hwK] at HRK HMK ⊢
            clear hwK
            go_wp2_with fail
            go_loopw [9] (fun r wc => ∃ q : Nat, q ≤ 2 ∧ r = .int .i64 q ∧ Below wK.heap.size wK wc) (fun r _ => 2 - (intOf r).toNat)
            case atStart => exact ⟨0, by omega, rfl, Below.refl _ _⟩
            case round =>
              obtain ⟨q, hq, rfl, hb1⟩ := hrel
              obtain ⟨wA, hwA⟩ : ∃ wA : World, wr = wA := ⟨_, rfl⟩
              rw [hwA] at hb1 ⊢
              clear hwA
              have HMA := Lib.hid (HMK.out.still hb1)
              have HB1 := Lib.hid hb1
              have hz1 := hb1.size
              clear hb1
              by_cases hq2 : q < 2
              · have hq2' : (q : Int) < 2 := by omega
                go_wp2_with fail
                refine (allP _ _ _ 256 lost L HMA.out.net (by omega)).mono ?_
                rintro e wB ⟨vB, HB, rfl, hmB, hdB, hbB⟩
                obtain ⟨aoB, cB, rfl, _⟩ := hdB.rd hmB
                have hlB : HB.length = L.length := by rw [← hmB, List.length_map]
                have HDB := Lib.hid hdB
                have HBB : Hid (Below wA.heap.size wA wB) := Lib.hid hbB
                have HLB := Lib.hid hlB
                clear hmB hdB hbB hlB
                go_wp2_with fail
                go_loopw [11] (fun i wc => ∃ (j : Nat) (H : List (Dg × Value)), j ≤ L.length ∧ i = .int .i64 j ∧ H.length = L.length ∧ DList wA.heap.size wc (.slice aoB L.length cB) H ∧ Below wA.heap.size wA wc) (fun i _ => L.length - (intOf i).toNat)
                case atStart => exact ⟨0, HB, Nat.zero_le _, rfl, HLB.out, HDB.out, HBB.out⟩
                case round =>
                  clear HDB HBB HLB
                  obtain ⟨j, H, hj1, rfl, hlH, hd, hb2⟩ := hrel
                  obtain ⟨wC, hwC⟩ : ∃ wC : World, wr = wC := ⟨_, rfl⟩
                  rw [hwC] at hd hb2 ⊢
                  clear hwC
                  by_cases hjl : j < L.length
                  · obtain ⟨g, cap, hv, hgb, hgz, hlc6, hcm6⟩ := owned_head hd.row (by omega)
                    simp only [Value.slice.injEq] at hv
                    obtain ⟨rfl, -, rfl⟩ := hv
                    obtain ⟨p, hp⟩ : ∃ p, (H.map (fun p => (p.1.bs.length, p.2)))[j]? = some p := ⟨_, List.getElem?_eq_getElem (by simpa using (show j < H.length by omega))⟩
                    obtain ⟨m, sv⟩ := p
                    have hm1024 : m ≤ 1024 := by
                      obtain ⟨r, hr, he⟩ := List.mem_map.1 (List.mem_of_getElem? hp)
                      simp only [Prod.mk.injEq] at he
                      have := hd.small r hr
                      omega
                    have HP := Lib.hid hp
                    have HDC := Lib.hid hd
                    have HBC := Lib.hid hb2
                    have HLH := Lib.hid hlH
                    clear hp hd hb2 hlH hlc6 hcm6 hgz
                    go_wp2_with fail
                    go_loopw [12] (fun i wc => ∃ (x : Nat) (M : List (Dg × Value)), x ≤ m ∧ i = .int .i64 x ∧ M.map (fun p => (p.1.bs.length, p.2)) = H.map (fun p => (p.1.bs.length, p.2)) ∧ DList wA.heap.size wc (.slice (some ⟨g, 0, none⟩) L.length cB) M ∧ Below wA.heap.size wA wc) (fun i _ => m - (intOf i).toNat)
                    case atStart => exact ⟨0, H, Nat.zero_le _, rfl, rfl, HDC.out, HBC.out⟩
                    case round =>
                      clear HDC HBC
                      obtain ⟨x, M, hxm, rfl, hMm, hd, hb3⟩ := hrel
                      obtain ⟨wD, hwD⟩ : ∃ wD : World, wr = wD := ⟨_, rfl⟩
                      rw [hwD] at hd hb3 ⊢
                      clear hwD
                      obtain ⟨y2, bs, hos, hsg⟩ := hd.elem j m sv (by rw [hMm]; exact HP.out)
                      have HDD := Lib.hid hd
                      have HBD := Lib.hid hb3
                      have HMm := Lib.hid hMm
                      have hzD := hb3.size
                      obtain ⟨so, sc, rfl, _⟩ := owns_slice hos
                      have HOS := Lib.hid hos
                      by_cases hxl : x < m
                      · obtain ⟨b, c, y, hv, hbb, hbz, hmc, hcm, yb, fb⟩ := owns_byte hos x hxl
                        simp only [Value.slice.injEq, true_and] at hv
                        obtain ⟨rfl, rfl⟩ := hv
                        have HSG : Hid (g ≠ b) := Lib.hid (fun e => hsg (by rw [e]; rfl))
                        clear hos hsg hd hb3 hMm hcm hmc
                        go_wp2_with fail
                        go_roundw
                        case rel =>
                          obtain ⟨K, hK1, hK2⟩ := HDD.out.byte b x 238 (fun e => by cases e; exact HSG.out rfl)
                          exact ⟨x + 1, K, by omega, by go_num, hK1.trans HMm.out, hK2, HBD.out.setCell hbb _⟩
                        case measure => simp [intOf]; omega
                      · obtain rfl : x = m := by omega
                        have HMD := Lib.hid (HMA.out.still hb3)
                        clear hos hsg hd hb3 hMm
                        go_wp2_with fail
                        refine (peekY HMD.out.net j (dgAt L j) (inB L j) rfl rfl).mono ?_
                        rintro e wE ⟨vE, rfl, hownE, hbE⟩
                        have hEl := hownE.1
                        simp only [List.length_map, Nat.mul_one] at hEl
                        have hE1024 : (dgAt L j).bs.length ≤ 1024 := by
                          have hjj : j < L.length := hjl
                          rw [dgAt_in (List.getElem?_eq_getElem hjj)]
                          exact HMD.out.net.small _ (List.getElem_mem hjj)
                        generalize dgAt L j = dE at *
                        generalize inB L j = bE at *
                        obtain ⟨fE, tE, bsE⟩ := dE
                        simp only at hownE hE1024 ⊢
                        obtain ⟨aoE, cE, rfl, _⟩ := owns_slice hownE
                        have HBE : Hid (Below wD.heap.size wD wE) := Lib.hid hbE
                        have hzE := hbE.size
                        have HOE := Lib.hid hownE
                        clear hownE hbE
                        go_wp2_with fail
                        go_loopw [15] (fun i wc => ∃ (y : Nat) (bs : List Int), y ≤ bsE.length ∧ i = .int .i64 y ∧ wc.cell? ⟨wE.heap.size, 2, none⟩ = some (.slice aoE bsE.length cE) ∧ wE.heap.size < wc.heap.size ∧ wc.ownsRow wD.heap.size 5 1 (.slice aoE bsE.length cE) bsE.length (u8s bs) ∧ (Value.slice aoE bsE.length cE).ownBlock ≠ some wE.heap.size ∧ Below wD.heap.size wD wc) (fun i _ => bsE.length - (intOf i).toNat)
                        case atStart => exact ⟨0, bsE, Nat.zero_le _, rfl, by go_simp, by simp, owns_below HOE.out ((Below.refl _ _).alloc (Nat.le_refl _) _) (Nat.le_refl _), fun e => by have := (HOE.out.lt _ e).2; omega, HBE.out.alloc hzE _⟩
                        case round =>
                          clear HOE HBE
                          obtain ⟨y, bs', hyl, rfl, hc2, hzz, ho, hne, hb4⟩ := hrel
                          have HNE := Lib.hid hne
                          have HB4 := Lib.hid hb4
                          have HO4 := Lib.hid ho
                          have hz4 := hb4.size
                          by_cases hylt : y < bsE.length
                          · obtain ⟨b, c, z, hv, hbb, hbz, hmc, hcm, yb, fb⟩ := owns_byte ho y hylt
                            simp only [Value.slice.injEq, true_and] at hv
                            obtain ⟨rfl, rfl⟩ := hv
                            have hbE : b ≠ wE.heap.size := fun e => hne (by rw [e]; rfl)
                            clear hne hb4 ho hcm hmc
                            go_wp2_with fail
                            go_roundw
                            case rel =>
                              obtain ⟨K, hK1, hK2⟩ := bytes_stored HO4.out b y 221
                              exact ⟨y + 1, K, by omega, by go_num, by go_simp, by simp; omega, hK2, HNE.out, HB4.out.setCell hbb _⟩
                            case measure => simp [intOf]; omega
                          · obtain rfl : y = bsE.length := by omega
                            have hd4 := HDD.out.below hb4 (Nat.le_refl _)
                            have hMl : M.length = L.length := by
                              have := congrArg List.length HMm.out
                              simp only [List.length_map] at this
                              rw [this]; exact HLH.out
                            have f0 : wr.frozen? ⟨g, j * 3, none⟩ = false := (owns_len hd4.row).frozenAt _
                            have c0 : ∃ v0, wr.cell? ⟨g, j * 3, none⟩ = some v0 := ⟨_, ((owns_len hd4.row).cellAt _ (by omega)).trans (dcells_at M j M[j] (List.getElem?_eq_getElem (by omega))).1⟩
                            obtain ⟨v0, c0⟩ := c0
                            have HD4 := Lib.hid hd4
                            have HML := Lib.hid hMl
                            clear hne hb4 ho hd4 hMl
                            go_wp2_with fail
                            go_roundw
                            case rel =>
                              obtain ⟨K, hK1, hK2⟩ := HD4.out.sender j (by rw [HML.out]; exact hjl) 77
                              refine ⟨j + 1, K, by omega, by go_num, ?_, hK2, (HBD.out.trans (HB4.out.mono hzD)).setCell hgb _⟩
                              have := congrArg List.length hK1
                              simp only [List.length_map] at this
                              rw [this]; exact HML.out
                            case measure => simp [intOf]; omega
                  · obtain rfl : j = L.length := by omega
                    have HB2 := Lib.hid hb2
                    clear hd hb2 hlH
                    go_wp2_with fail
                    go_roundw
                    case rel => exact ⟨q + 1, by omega, by go_num, HB1.out.trans (HB2.out.mono hz1)⟩
                    case measure => simp [intOf]; omega
              · obtain rfl : q = 2 := by omega
                have HRA := Lib.hid (HRK.out.below HB1.out)
                clear HB1
                go_wp2_with fail
                refine (allP _ _ _ 256 lost L HMA.out.net (by omega)).mono ?_
                rintro e wB ⟨vB, HB, rfl, hmB, hdB, hbB⟩
                obtain ⟨aoB, cB, rfl, hrB⟩ := hdB.rd hmB
                have HRB := Lib.hid hrB
                have HRC := Lib.hid (HRA.out.below hbB)
                have HMB := Lib.hid (HMA.out.still hbB)
                clear hmB hdB hbB hrB
                go_wp2_with fail
                refine (datagrams_true _ _ _ _ _ _ HRB.out HRC.out (by omega)).mono ?_
                rintro e wC ⟨rfl, hbC⟩
                have HMC := Lib.hid (HMB.out.still hbC)
                clear hbC
                go_wp2_with fail
                go_ret
                exact ⟨rfl, HMC.out.below⟩
end Go.Proofs.Ytibagcgnaceimaa
