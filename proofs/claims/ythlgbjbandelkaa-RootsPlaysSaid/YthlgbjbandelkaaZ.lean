/- The walk of RootsCount. -/
import Derived.Test.YthlgbjbandelkaaX
import Derived.Test.YthlgbjbandelkaaY
import Derived.Test.YthlgbjbandelkaaG
namespace Go.Proofs.Ythlgbjbandelkaa
open Go.ChangeShapes Go.WideShapes Go.ChangeAt Go.RowKit
set_option linter.unusedVariables false

/-- The loop of RootsCount: k rounds are done. -/
structure CountRel (w wr : World) (p hi rb : Nat) (bs : Nat → Nat) (k : Nat) (V : Nat → Nat → Int × Int) : Prop where
  lay : Lay wr p 4 8 V w.heap.size hi rb 4 bs
  five : ∀ a s, Five (V a s)
  none : k = 0 → V = fun _ _ => (0, 0)
  below : Below w.heap.size w wr

theorem keep_cell {lo hi : Nat} {w w' : World} (h : Keep lo hi w w') {a : Addr} {v : Value} (hc : w.cell? a = some v) (hn : ¬ (lo ≤ a.block ∧ a.block < hi)) : w'.cell? a = some v :=
  (World.cell?_of_block (w := w) (h.block _ (World.block_lt_of_cell? _ _ hc) hn)).trans hc

theorem below_cell {w w' : World} (h : Below w.heap.size w w') {a : Addr} {v : Value} (hc : w.cell? a = some v) : w'.cell? a = some v :=
  (h.cell (p := a) (World.block_lt_of_cell? _ _ hc)).trans hc

set_option maxHeartbeats 2000000 in
set_option maxRecDepth 100000 in
theorem walkCount (a0 : Option Addr) (len0 cap0 : Nat) (z0 : Nat → SetV) (a1 : Int) (w : World) (w0 : SetsAt w a0 len0 z0 ∧ (∀ i, i < len0 → (z0 i).Ok) ∧ len0 ≤ maxLen) (w1 : (Lit.int .i64 a1).wf = true) :
    Calls Try.prog 4 #[.slice a0 len0 cap0, .int .i64 a1] w fun e w' => e = .returned (.bool true) ∧ Below w.heap.size w w' := by
  obtain ⟨hz, hok, hlen⟩ := w0
  have HZ := Lib.hid hz
  have HOK := Lib.hid hok
  have b1 := bounds_i64 w1
  unfold maxLen at hlen
  clear hz hok w1
  obtain ⟨mm, hmm1, hmm2⟩ := mod_nat a1 4 (by omega)
  simp only [Int.cast_ofNat_Int] at hmm1
  go_enter Try.func4, Try.ntmps4
  go_wp2_with fail
  refine (new_ok 4 8 _ (by omega) (by omega) (by omega) (by omega)).mono ?_
  rintro e w1 ⟨p, rb, bs, rfl, hlay, hb1⟩
  have HL1 := Lib.hid hlay
  have HB1 := Lib.hid hb1
  have hz1 := hb1.size
  clear hlay hb1
  go_wp2_with fail
  refine (known_true _).mono ?_
  rintro e w2 ⟨rfl, hb2⟩
  have HL2 := Lib.hid (HL1.out.below hb2 (Nat.le_refl _))
  have HB2 := Lib.hid (HB1.out.trans (hb2.mono hz1))
  clear hb2
  go_wp2_with fail
  refine (pick_any a1 4 _ b1.1 b1.2 (by omega) (by omega)).mono ?_
  rintro e w3 ⟨rfl, rfl⟩
  rw [hmm1]
  clear hmm1
  go_wp2_with fail
  generalize hhi : w1.heap.size = hi at *
  clear hhi
  go_loopw [7, 8] (fun c i wr => ∃ (k : Nat) (V : Nat → Nat → Int × Int), k ≤ len0 ∧ k ≤ 100 ∧ i = .int .i64 k ∧ c = .int .i64 k ∧ CountRel w wr p hi rb bs k V) (fun _ i _ => 100 - (intOf i).toNat)
  case atStart => exact ⟨0, _, Nat.zero_le _, by omega, rfl, rfl, HL2.out, fun _ _ => .inl rfl, fun _ => rfl, HB2.out⟩
  case round =>
    clear HL1 HL2 HB1 HB2
    obtain ⟨k, V, hk, hk5, rfl, rfl, hrel⟩ := hrel
    have HR := Lib.hid hrel
    have hwz := hrel.below.size
    have hbel := hrel.below
    clear hrel
    by_cases hgo : k < len0 ∧ k < 100
    · obtain ⟨hlt, h5⟩ := hgo
      obtain ⟨b, off, rfl, hc⟩ := HZ.out (by omega)
      obtain ⟨c0, c1, c2, c3, c4⟩ := hc k hlt
      obtain ⟨o0, o1, o2, o3⟩ := HOK.out k hlt
      have hbl : b < w.heap.size := World.block_lt_of_cell? _ _ c0
      generalize z0 k = v at c0 c1 c2 c3 c4 o0 o1 o2 o3
      obtain ⟨vm, vs, vn, vr, vb⟩ := v
      simp only at c0 c1 c2 c3 c4 o0 o1 o2 o3
      have d0 := (hbel.cell (p := ⟨b, off + k * 5, none⟩) hbl).trans c0
      have d1 := (hbel.cell (p := ⟨b, off + k * 5 + 1, none⟩) hbl).trans c1
      have d2 := (hbel.cell (p := ⟨b, off + k * 5 + 2, none⟩) hbl).trans c2
      have d3 := (hbel.cell (p := ⟨b, off + k * 5 + 3, none⟩) hbl).trans c3
      obtain ⟨m, hm1, hm2⟩ := mod_nat vm 4 (by omega)
      obtain ⟨s, hs1, hs2⟩ := mod_nat vs 8 (by omega)
      obtain ⟨n, hn1, hn2⟩ := mod_nat vn 2 (by omega)
      obtain ⟨r, hr1, hr2⟩ := mod_nat vr 2 (by omega)
      simp only [Int.cast_ofNat_Int] at hm1 hs1 hn1 hr1
      clear hbel hc c0 c1 c2 c3 c4
      go_wp2_with fail
      refine (pick_any vm 4 _ o0.1 o0.2 (by omega) (by omega)).mono ?_
      rintro e w3 ⟨rfl, rfl⟩
      rw [hm1]
      clear hm1
      go_wp2_with fail
      have hblr : b < wr.heap.size := by omega
      have hne := World.new_ne wr ⟨b, off + k * 5 + 2, none⟩ d2
      have q1 : IntKind.i64.wrap (1 + (n : Int)) = 1 + (n : Int) := IntWalk.i64_in _ (by omega)
      have q2 : vr.tmod 2 = (r : Int) := by rw [Int.tmod_eq_emod_of_nonneg o3.1]; exact hr1
      have q3 : IntKind.u64.wrap (1 + (r : Int)) = 1 + (r : Int) := IntWalk.u64_in _ (by omega)
      go_region_held3 (fun w' => w'.cell? ⟨b, off + k * 5 + 2, none⟩ = some (.int .i64 vn) ∧ w'.cell? ⟨b, off + k * 5 + 3, none⟩ = some (.int .u64 vr)) (go_keep) ((go_at_call 10; refine (pick_any vn 2 _ o2.1 o2.2 (by omega) (by omega)).mono ?_; rintro e w' ⟨rfl, rfl⟩))
      all_goals
        clear q1 q2 q3 hr1 hn1
        have hl3 := (HR.out.lay.alloc (.cells #[.int .i64 (1 + (n : Int)), .int .u64 (1 + (r : Int))] 32)).below (Below.refl _ _).drew (Nat.le_refl _)
        have hb3 := (HR.out.below.alloc hwz (.cells #[.int .i64 (1 + (n : Int)), .int .u64 (1 + (r : Int))] 32)).drew
        have e1 : (wr.alloc (.cells #[.int .i64 (1 + (n : Int)), .int .u64 (1 + (r : Int))] 32)).drew.cell? ⟨wr.heap.size, 0, none⟩ = some (.int .i64 (1 + (n : Int))) := by go_simp
        have e2 : (wr.alloc (.cells #[.int .i64 (1 + (n : Int)), .int .u64 (1 + (r : Int))] 32)).drew.cell? ⟨wr.heap.size, 1, none⟩ = some (.int .u64 (1 + (r : Int))) := by go_simp
        have e3 : (wr.alloc (.cells #[.int .i64 (1 + (n : Int)), .int .u64 (1 + (r : Int))] 32)).drew.cell? ⟨b, off + k * 5 + 1, none⟩ = some (.int .i64 vs) := by go_simp
        have e4 : (wr.alloc (.cells #[.int .i64 (1 + (n : Int)), .int .u64 (1 + (r : Int))] 32)).drew.heap.size = wr.heap.size + 1 := by simp
        generalize (wr.alloc (.cells #[.int .i64 (1 + (n : Int)), .int .u64 (1 + (r : Int))] 32)).drew = wB at hl3 hb3 e1 e2 e3 e4 ⊢
        clear d0 d1 d2 d3 hne
        go_wp2_with fail
        refine (of_yes _ _ _ _ _ _ _ _ _ _ hl3 (by omega) (by omega) mm hmm2).mono ?_
        rintro e w4 ⟨v4, rfl, hown4, hb4⟩
        obtain ⟨ao4, c4, rfl, _⟩ := owns_src hown4
        have g1 := below_cell hb4 e1
        have g2 := below_cell hb4 e2
        have g3 := below_cell hb4 e3
        have HL4 := Lib.hid (hl3.below hb4 hl3.size)
        have HB4 := Lib.hid (hb3.trans (hb4.mono hb3.size))
        have hz4 := hb4.size
        have hhi := HR.out.lay.size
        have hlen4 := heldL_length (V mm) 8
        clear hl3 hb3 e1 e2 e3 hown4 hb4
        have hid : idOk (1 + (n : Int)) (1 + (r : Int)) = true := by simp only [idOk, decide_eq_true_eq]; omega
        have HID := Lib.hid hid
        clear hid
        by_cases hkm : m = mm
        · subst hkm
          go_wp2_with fail
          refine wp_region_held_drew (S := fun w' => w'.cell? ⟨wr.heap.size, 0, none⟩ = some (.int .i64 (1 + (n : Int))) ∧ w'.cell? ⟨wr.heap.size, 1, none⟩ = some (.int .u64 (1 + (r : Int))) ∧ w'.cell? ⟨b, off + k * 5 + 1, none⟩ = some (.int .i64 vs)) (by kernel_rfl) ⟨g1, g2, g3⟩ (fun hHeld => ?_)
          refine held_yes 0 rfl (by kernel_rfl) (by kernel_rfl) (by kernel_rfl) (fun _ _ _ _ h => h) (by rfl) (by assumption) ?_
          apply Exists.intro
          refine ⟨fun wq hSw => ?_, ?_⟩
          · (try dsimp only at hSw); go_simp; (try with_reducible rfl)
          try simp only [Act.put, List.setIfInBounds_toArray, List.set_cons_zero, List.set_cons_succ]
          refine held_yes 1 rfl (by kernel_rfl) (by kernel_rfl) (by kernel_rfl) (fun _ _ _ _ h => h) (by rfl) (by assumption) ?_
          apply Exists.intro
          refine ⟨fun wq hSw => ?_, ?_⟩
          · (try dsimp only at hSw); go_simp; (try with_reducible rfl)
          try simp only [Act.put, List.setIfInBounds_toArray, List.set_cons_zero, List.set_cons_succ]
          refine held_yes 2 rfl (by kernel_rfl) (by kernel_rfl) (by kernel_rfl) (fun _ _ _ _ h => h) (by rfl) (by assumption) ?_
          apply Exists.intro
          refine ⟨fun wq hSw => ?_, ?_⟩
          · (try dsimp only at hSw); go_simp; (try with_reducible rfl)
          try simp only [Act.put, List.setIfInBounds_toArray, List.set_cons_zero, List.set_cons_succ]
          refine held_yes 3 rfl (by kernel_rfl) (by kernel_rfl) (by kernel_rfl) (fun _ _ _ _ h => h) (by rfl) (by assumption) ?_
          apply Exists.intro
          refine ⟨fun wq hSw => ?_, ?_⟩
          · (try dsimp only at hSw); go_simp; (try with_reducible rfl)
          try simp only [Act.put, List.setIfInBounds_toArray, List.set_cons_zero, List.set_cons_succ]
          refine held_yes 4 rfl (by kernel_rfl) (by kernel_rfl) (by kernel_rfl) (fun _ _ _ _ h => h) (by rfl) (by assumption) ?_
          apply Exists.intro
          refine ⟨fun wq hSw => ?_, ?_⟩
          · (try dsimp only at hSw); go_simp; (try with_reducible rfl)
          try simp only [Act.put, List.setIfInBounds_toArray, List.set_cons_zero, List.set_cons_succ]
          refine held_yes 5 rfl (by kernel_rfl) (by kernel_rfl) (by kernel_rfl) (fun _ _ _ _ h => h) (by rfl) (by assumption) ?_
          apply Exists.intro
          refine ⟨fun wq hSw => ?_, ?_⟩
          · (try dsimp only at hSw); go_simp; (try with_reducible rfl)
          try simp only [Act.put, List.setIfInBounds_toArray, List.set_cons_zero, List.set_cons_succ]
          refine held_yes 6 rfl (by kernel_rfl) (by kernel_rfl) (by kernel_rfl) (fun _ _ _ _ h => h) (by rfl) (by assumption) ?_
          apply Exists.intro
          refine ⟨fun wq hSw => ?_, ?_⟩
          · (try dsimp only at hSw); go_simp; (try with_reducible rfl)
          try simp only [Act.put, List.setIfInBounds_toArray, List.set_cons_zero, List.set_cons_succ]
          refine held_yes 8 rfl (by kernel_rfl) (by kernel_rfl) (by kernel_rfl) (fun _ _ _ _ h => h) (by rfl) (by assumption) ?_
          apply Exists.intro
          refine ⟨fun wq hSw => ?_, ?_⟩
          · (try dsimp only at hSw); go_simp; (try with_reducible rfl)
          try simp only [Act.put, List.setIfInBounds_toArray, List.set_cons_zero, List.set_cons_succ]
          refine held_one 7 rfl (by kernel_rfl) (fun K hK => ?_)
          go_simp
          refine (pick_any vs 8 _ o1.1 o1.2 (by omega) (by omega)).mono ?_
          rintro e w' ⟨rfl, rfl⟩
          rw [hs1]
          refine hK.out _ _ hHeld (fun hHeld => ?_)
          clear hK K
          try simp only [Act.put, List.setIfInBounds_toArray, List.set_cons_zero, List.set_cons_succ]
          refine held_one 9 rfl (by kernel_rfl) (fun K hK => ?_)
          go_simp
          refine (set_step (1 + (n : Int)) (1 + (r : Int)) (HL4.out.below (Below.refl _ _).drew HL4.out.size) (by omega) (by omega) m s hm2 hs2 HID.out).mono ?_
          rintro e w5 ⟨rfl, hl5, hk5⟩
          refine hK.out _ _ ⟨keep_cell hk5 g1 (by simp; omega), keep_cell hk5 g2 (by simp; omega), keep_cell hk5 g3 (by simp; omega)⟩ (fun hHeld => ?_)
          clear hK K
          try simp only [Act.put, List.setIfInBounds_toArray, List.set_cons_zero, List.set_cons_succ]
          refine held_yes 10 rfl (by kernel_rfl) (by kernel_rfl) (by kernel_rfl) (fun _ _ _ _ h => h) (by rfl) (by assumption) ?_
          apply Exists.intro
          refine ⟨fun wq hSw => ?_, ?_⟩
          · (try dsimp only at hSw); go_simp; (try with_reducible rfl)
          try simp only [Act.put, List.setIfInBounds_toArray, List.set_cons_zero, List.set_cons_succ]
          refine held_yes 11 rfl (by kernel_rfl) (by kernel_rfl) (by kernel_rfl) (fun _ _ _ _ h => h) (by rfl) (by assumption) ?_
          apply Exists.intro
          refine ⟨fun wq hSw => ?_, ?_⟩
          · (try dsimp only at hSw); go_simp; (try with_reducible rfl)
          try simp only [Act.put, List.setIfInBounds_toArray, List.set_cons_zero, List.set_cons_succ]
          refine held_yes 12 rfl (by kernel_rfl) (by kernel_rfl) (by kernel_rfl) (fun _ _ _ _ h => h) (by rfl) (by assumption) ?_
          apply Exists.intro
          refine ⟨fun wq hSw => ?_, ?_⟩
          · (try dsimp only at hSw); go_simp; (try with_reducible rfl)
          try simp only [Act.put, List.setIfInBounds_toArray, List.set_cons_zero, List.set_cons_succ]
          refine held_yes 13 rfl (by kernel_rfl) (by kernel_rfl) (by kernel_rfl) (fun _ _ _ _ h => h) (by rfl) (by assumption) ?_
          apply Exists.intro
          refine ⟨fun wq hSw => ?_, ?_⟩
          · (try dsimp only at hSw); go_simp; (try with_reducible rfl)
          try simp only [Act.put, List.setIfInBounds_toArray, List.set_cons_zero, List.set_cons_succ]
          refine held_yes 14 rfl (by kernel_rfl) (by kernel_rfl) (by kernel_rfl) (fun _ _ _ _ h => h) (by rfl) (by assumption) ?_
          apply Exists.intro
          refine ⟨fun wq hSw => ?_, ?_⟩
          · (try dsimp only at hSw); go_simp; (try with_reducible rfl)
          try simp only [Act.put, List.setIfInBounds_toArray, List.set_cons_zero, List.set_cons_succ]
          refine held_yes 15 rfl (by kernel_rfl) (by kernel_rfl) (by kernel_rfl) (fun _ _ _ _ h => h) (by rfl) (by assumption) ?_
          apply Exists.intro
          refine ⟨fun wq hSw => ?_, ?_⟩
          · (try dsimp only at hSw); go_simp; (try with_reducible rfl)
          try simp only [Act.put, List.setIfInBounds_toArray, List.set_cons_zero, List.set_cons_succ]
          refine held_no 16 rfl (by kernel_rfl) (by kernel_rfl) (by kernel_rfl) (fun _ _ _ _ h => h) (by rfl) (by assumption) ?_
          try simp only [Act.put, List.setIfInBounds_toArray, List.set_cons_zero, List.set_cons_succ]
          refine held_no 17 rfl (by kernel_rfl) (by kernel_rfl) (by kernel_rfl) (fun _ _ _ _ h => h) (by rfl) (by assumption) ?_
          try simp only [Act.put, List.setIfInBounds_toArray, List.set_cons_zero, List.set_cons_succ]
          refine held_no 18 rfl (by kernel_rfl) (by kernel_rfl) (by kernel_rfl) (fun _ _ _ _ h => h) (by rfl) (by assumption) ?_
          try simp only [Act.put, List.setIfInBounds_toArray, List.set_cons_zero, List.set_cons_succ]
          refine held_no 19 rfl (by kernel_rfl) (by kernel_rfl) (by kernel_rfl) (fun _ _ _ _ h => h) (by rfl) (by assumption) ?_
          try simp only [Act.put, List.setIfInBounds_toArray, List.set_cons_zero, List.set_cons_succ]
          refine held_no 20 rfl (by kernel_rfl) (by kernel_rfl) (by kernel_rfl) (fun _ _ _ _ h => h) (by rfl) (by assumption) ?_
          try simp only [Act.put, List.setIfInBounds_toArray, List.set_cons_zero, List.set_cons_succ]
          refine held_no 21 rfl (by kernel_rfl) (by kernel_rfl) (by kernel_rfl) (fun _ _ _ _ h => h) (by rfl) (by assumption) ?_
          try simp only [Act.put, List.setIfInBounds_toArray, List.set_cons_zero, List.set_cons_succ]
          refine held_yes 22 rfl (by kernel_rfl) (by kernel_rfl) (by kernel_rfl) (fun _ _ _ _ h => h) (by rfl) (by assumption) ?_
          apply Exists.intro
          refine ⟨fun wq hSw => ?_, ?_⟩
          · (try dsimp only at hSw); go_simp; (try with_reducible rfl)
          try simp only [Act.put, List.setIfInBounds_toArray, List.set_cons_zero, List.set_cons_succ]
          refine held_yes 23 rfl (by kernel_rfl) (by kernel_rfl) (by kernel_rfl) (fun _ _ _ _ h => h) (by rfl) (by assumption) ?_
          apply Exists.intro
          refine ⟨fun wq hSw => ?_, ?_⟩
          · (try dsimp only at hSw); go_simp; (try with_reducible rfl)
          try simp only [Act.put, List.setIfInBounds_toArray, List.set_cons_zero, List.set_cons_succ]
          refine wpAnyH_done (by kernel_rfl) ?_ _
          have HR5 : Hid (CountRel w w5 p hi rb bs (k + 1) (upd V m s (1 + (n : Int), 1 + (r : Int)))) := ⟨hl5, upd_five HR.out.five _ _ _ (by rcases Nat.lt_succ_iff_lt_or_eq.1 hn2 with e | rfl <;> rcases Nat.lt_succ_iff_lt_or_eq.1 hr2 with e' | rfl <;> simp_all [Five]), by omega, hk5.below HB4.out.drew (Nat.le_refl _) (by simp; omega)⟩
          clear hl5 hk5 hHeld
          go_wp2_with fail
          go_roundw
          case rel => exact ⟨k + 1, _, by omega, by omega, by go_num, by go_num, HR5.out⟩
          case measure => simp [intOf]; omega
        · have hkm1 : ((m : Int) == (mm : Int)) = false := beq_eq_false_iff_ne.2 (by omega)
          have hkm2 : ¬ ((m : Int) = (mm : Int)) := by omega
          go_wp2_with fail
          refine wp_region_held_drew (S := fun w' => w'.cell? ⟨wr.heap.size, 0, none⟩ = some (.int .i64 (1 + (n : Int))) ∧ w'.cell? ⟨wr.heap.size, 1, none⟩ = some (.int .u64 (1 + (r : Int))) ∧ w'.cell? ⟨b, off + k * 5 + 1, none⟩ = some (.int .i64 vs)) (by kernel_rfl) ⟨g1, g2, g3⟩ (fun hHeld => ?_)
          refine held_yes 0 rfl (by kernel_rfl) (by kernel_rfl) (by kernel_rfl) (fun _ _ _ _ h => h) (by rfl) (by assumption) ?_
          apply Exists.intro
          refine ⟨fun wq hSw => ?_, ?_⟩
          · (try dsimp only at hSw); go_simp; (try with_reducible rfl)
          try simp only [Act.put, List.setIfInBounds_toArray, List.set_cons_zero, List.set_cons_succ]
          refine held_yes 1 rfl (by kernel_rfl) (by kernel_rfl) (by kernel_rfl) (fun _ _ _ _ h => h) (by rfl) (by assumption) ?_
          apply Exists.intro
          refine ⟨fun wq hSw => ?_, ?_⟩
          · (try dsimp only at hSw); go_simp; (try with_reducible rfl)
          try simp only [Act.put, List.setIfInBounds_toArray, List.set_cons_zero, List.set_cons_succ]
          refine held_yes 2 rfl (by kernel_rfl) (by kernel_rfl) (by kernel_rfl) (fun _ _ _ _ h => h) (by rfl) (by assumption) ?_
          apply Exists.intro
          refine ⟨fun wq hSw => ?_, ?_⟩
          · (try dsimp only at hSw); go_simp; (try with_reducible rfl)
          try simp only [Act.put, List.setIfInBounds_toArray, List.set_cons_zero, List.set_cons_succ]
          refine held_yes 3 rfl (by kernel_rfl) (by kernel_rfl) (by kernel_rfl) (fun _ _ _ _ h => h) (by rfl) (by assumption) ?_
          apply Exists.intro
          refine ⟨fun wq hSw => ?_, ?_⟩
          · (try dsimp only at hSw); go_simp; (try with_reducible rfl)
          try simp only [Act.put, List.setIfInBounds_toArray, List.set_cons_zero, List.set_cons_succ]
          refine held_yes 4 rfl (by kernel_rfl) (by kernel_rfl) (by kernel_rfl) (fun _ _ _ _ h => h) (by rfl) (by assumption) ?_
          apply Exists.intro
          refine ⟨fun wq hSw => ?_, ?_⟩
          · (try dsimp only at hSw); go_simp; (try with_reducible rfl)
          try simp only [Act.put, List.setIfInBounds_toArray, List.set_cons_zero, List.set_cons_succ]
          refine held_yes 5 rfl (by kernel_rfl) (by kernel_rfl) (by kernel_rfl) (fun _ _ _ _ h => h) (by rfl) (by assumption) ?_
          apply Exists.intro
          refine ⟨fun wq hSw => ?_, ?_⟩
          · (try dsimp only at hSw); go_simp; (try with_reducible rfl)
          try simp only [Act.put, List.setIfInBounds_toArray, List.set_cons_zero, List.set_cons_succ]
          refine held_yes 6 rfl (by kernel_rfl) (by kernel_rfl) (by kernel_rfl) (fun _ _ _ _ h => h) (by rfl) (by assumption) ?_
          apply Exists.intro
          refine ⟨fun wq hSw => ?_, ?_⟩
          · (try dsimp only at hSw); go_simp; (try with_reducible rfl)
          try simp only [Act.put, List.setIfInBounds_toArray, List.set_cons_zero, List.set_cons_succ]
          refine held_yes 8 rfl (by kernel_rfl) (by kernel_rfl) (by kernel_rfl) (fun _ _ _ _ h => h) (by rfl) (by assumption) ?_
          apply Exists.intro
          refine ⟨fun wq hSw => ?_, ?_⟩
          · (try dsimp only at hSw); go_simp; (try with_reducible rfl)
          try simp only [Act.put, List.setIfInBounds_toArray, List.set_cons_zero, List.set_cons_succ]
          refine held_one 7 rfl (by kernel_rfl) (fun K hK => ?_)
          go_simp
          refine (pick_any vs 8 _ o1.1 o1.2 (by omega) (by omega)).mono ?_
          rintro e w' ⟨rfl, rfl⟩
          rw [hs1]
          refine hK.out _ _ hHeld (fun hHeld => ?_)
          clear hK K
          try simp only [Act.put, List.setIfInBounds_toArray, List.set_cons_zero, List.set_cons_succ]
          refine held_one 9 rfl (by kernel_rfl) (fun K hK => ?_)
          go_simp
          refine (set_step (1 + (n : Int)) (1 + (r : Int)) (HL4.out.below (Below.refl _ _).drew HL4.out.size) (by omega) (by omega) m s hm2 hs2 HID.out).mono ?_
          rintro e w5 ⟨rfl, hl5, hk5⟩
          refine hK.out _ _ ⟨keep_cell hk5 g1 (by simp; omega), keep_cell hk5 g2 (by simp; omega), keep_cell hk5 g3 (by simp; omega)⟩ (fun hHeld => ?_)
          clear hK K
          try simp only [Act.put, List.setIfInBounds_toArray, List.set_cons_zero, List.set_cons_succ]
          refine held_yes 10 rfl (by kernel_rfl) (by kernel_rfl) (by kernel_rfl) (fun _ _ _ _ h => h) (by rfl) (by assumption) ?_
          apply Exists.intro
          refine ⟨fun wq hSw => ?_, ?_⟩
          · (try dsimp only at hSw); go_simp; (try with_reducible rfl)
          try simp only [Act.put, List.setIfInBounds_toArray, List.set_cons_zero, List.set_cons_succ]
          refine held_yes 11 rfl (by kernel_rfl) (by kernel_rfl) (by kernel_rfl) (fun _ _ _ _ h => h) (by rfl) (by assumption) ?_
          apply Exists.intro
          refine ⟨fun wq hSw => ?_, ?_⟩
          · (try dsimp only at hSw); go_simp; (try with_reducible rfl)
          try simp only [Act.put, List.setIfInBounds_toArray, List.set_cons_zero, List.set_cons_succ]
          refine held_yes 12 rfl (by kernel_rfl) (by kernel_rfl) (by kernel_rfl) (fun _ _ _ _ h => h) (by rfl) (by assumption) ?_
          apply Exists.intro
          refine ⟨fun wq hSw => ?_, ?_⟩
          · (try dsimp only at hSw); go_simp; (try with_reducible rfl)
          try simp only [Act.put, List.setIfInBounds_toArray, List.set_cons_zero, List.set_cons_succ]
          refine held_yes 13 rfl (by kernel_rfl) (by kernel_rfl) (by kernel_rfl) (fun _ _ _ _ h => h) (by rfl) (by assumption) ?_
          apply Exists.intro
          refine ⟨fun wq hSw => ?_, ?_⟩
          · (try dsimp only at hSw); go_simp; (try with_reducible rfl)
          try simp only [Act.put, List.setIfInBounds_toArray, List.set_cons_zero, List.set_cons_succ]
          refine held_yes 14 rfl (by kernel_rfl) (by kernel_rfl) (by kernel_rfl) (fun _ _ _ _ h => h) (by rfl) (by assumption) ?_
          refine ⟨.bool true, fun wq hSw => ?_, ?_⟩
          · (try dsimp only at hSw); go_simp <;> simp [hkm2]
          try simp only [Act.put, List.setIfInBounds_toArray, List.set_cons_zero, List.set_cons_succ]
          refine held_yes 15 rfl (by kernel_rfl) (by kernel_rfl) (by kernel_rfl) (fun _ _ _ _ h => h) (by rfl) (by assumption) ?_
          apply Exists.intro
          refine ⟨fun wq hSw => ?_, ?_⟩
          · (try dsimp only at hSw); go_simp; (try with_reducible rfl)
          try simp only [Act.put, List.setIfInBounds_toArray, List.set_cons_zero, List.set_cons_succ]
          refine held_yes 16 rfl (by kernel_rfl) (by kernel_rfl) (by kernel_rfl) (fun _ _ _ _ h => h) (by rfl) (by assumption) ?_
          apply Exists.intro
          refine ⟨fun wq hSw => ?_, ?_⟩
          · (try dsimp only at hSw); go_simp; (try with_reducible rfl)
          try simp only [Act.put, List.setIfInBounds_toArray, List.set_cons_zero, List.set_cons_succ]
          refine held_yes 17 rfl (by kernel_rfl) (by kernel_rfl) (by kernel_rfl) (fun _ _ _ _ h => h) (by rfl) (by assumption) ?_
          apply Exists.intro
          refine ⟨fun wq hSw => ?_, ?_⟩
          · (try dsimp only at hSw); go_simp; (try with_reducible rfl)
          try simp only [Act.put, List.setIfInBounds_toArray, List.set_cons_zero, List.set_cons_succ]
          refine held_yes 20 rfl (by kernel_rfl) (by kernel_rfl) (by kernel_rfl) (fun _ _ _ _ h => h) (by rfl) (by assumption) ?_
          apply Exists.intro
          refine ⟨fun wq hSw => ?_, ?_⟩
          · (try dsimp only at hSw); go_simp; (try with_reducible rfl)
          try simp only [Act.put, List.setIfInBounds_toArray, List.set_cons_zero, List.set_cons_succ]
          refine held_one 18 rfl (by kernel_rfl) (fun K hK => ?_)
          go_simp
          refine (of_yes _ _ _ _ _ _ _ _ _ _ hl5 (by omega) (by omega) mm hmm2).mono ?_
          rw [upd_other _ _ _ _ _ (Ne.symm hkm)]
          rintro e w6 ⟨v6, rfl, hown6, hb6⟩
          obtain ⟨ao6, c6, rfl, _⟩ := owns_src hown6
          refine hK.out _ _ ⟨below_cell hb6 hHeld.1, below_cell hb6 hHeld.2.1, below_cell hb6 hHeld.2.2⟩ (fun hHeld => ?_)
          clear hK K
          try simp only [Act.put, List.setIfInBounds_toArray, List.set_cons_zero, List.set_cons_succ]
          refine held_yes 19 rfl (by kernel_rfl) (by kernel_rfl) (by kernel_rfl) (fun _ _ _ _ h => h) (by rfl) (by assumption) ?_
          apply Exists.intro
          refine ⟨fun wq hSw => ?_, ?_⟩
          · (try dsimp only at hSw); go_simp; (try with_reducible rfl)
          try simp only [Act.put, List.setIfInBounds_toArray, List.set_cons_zero, List.set_cons_succ]
          refine held_yes 21 rfl (by kernel_rfl) (by kernel_rfl) (by kernel_rfl) (fun _ _ _ _ h => h) (by rfl) (by assumption) ?_
          apply Exists.intro
          refine ⟨fun wq hSw => ?_, ?_⟩
          · (try dsimp only at hSw); go_simp; (try with_reducible rfl)
          try simp only [Act.put, List.setIfInBounds_toArray, List.set_cons_zero, List.set_cons_succ]
          refine held_yes 22 rfl (by kernel_rfl) (by kernel_rfl) (by kernel_rfl) (fun _ _ _ _ h => h) (by rfl) (by assumption) ?_
          apply Exists.intro
          refine ⟨fun wq hSw => ?_, ?_⟩
          · (try dsimp only at hSw); go_simp; (try with_reducible rfl)
          try simp only [Act.put, List.setIfInBounds_toArray, List.set_cons_zero, List.set_cons_succ]
          refine held_yes 23 rfl (by kernel_rfl) (by kernel_rfl) (by kernel_rfl) (fun _ _ _ _ h => h) (by rfl) (by assumption) ?_
          apply Exists.intro
          refine ⟨fun wq hSw => ?_, ?_⟩
          · (try dsimp only at hSw); go_simp; (try with_reducible rfl)
          try simp only [Act.put, List.setIfInBounds_toArray, List.set_cons_zero, List.set_cons_succ]
          refine wpAnyH_done (by kernel_rfl) ?_ _
          have HR5 : Hid (CountRel w w6 p hi rb bs (k + 1) (upd V m s (1 + (n : Int), 1 + (r : Int)))) := ⟨hl5.below hb6 hl5.size, upd_five HR.out.five _ _ _ (by rcases Nat.lt_succ_iff_lt_or_eq.1 hn2 with e | rfl <;> rcases Nat.lt_succ_iff_lt_or_eq.1 hr2 with e' | rfl <;> simp_all [Five]), by omega, (hk5.below HB4.out.drew (Nat.le_refl _) (by simp; omega)).trans (hb6.mono (by have := hk5.size; simp at this; omega))⟩
          clear hl5 hk5 hHeld hb6 hown6
          go_wp2_with fail
          go_roundw
          case rel => exact ⟨k + 1, _, by omega, by omega, by go_num, by go_num, HR5.out⟩
          case measure => simp [intOf]; omega
    · obtain ⟨wA, rfl⟩ : ∃ wA : World, wA = wr := ⟨_, rfl⟩
      have hways : ¬ k < len0 ∨ (k < len0 ∧ ¬ k < 100) := by omega
      clear hgo hbel HZ HOK
      have hhi := HR.out.lay.size
      have hc := cnt2_five V 8 4 (fun a s _ _ => HR.out.five a s)
      have hac := allL_cnt V 8 4
      have H00 := Lib.hid fun (wx : World) (h : Lay wx p 4 8 V w.heap.size hi rb 4 bs) => count_any _ _ _ _ _ _ _ _ _ _ 0 0 h (by omega) (by omega)
      have Hct := Lib.hid fun (n r : Nat) (wx : World) (h : Lay wx p 4 8 V w.heap.size hi rb 4 bs) => count_any _ _ _ _ _ _ _ _ _ _ (n : Int) (r : Int) h (by omega) (by omega)
      rcases hways with hlt | ⟨hlt, h5⟩
      all_goals
        go_wp2_with fail
        refine (H00.out _ HR.out.lay).mono ?_
        rintro e w3 ⟨rfl, hb3⟩
        have HL3 := Lib.hid (HR.out.lay.below hb3 HR.out.lay.size)
        have HB3 := Lib.hid (HR.out.below.trans (hb3.mono HR.out.below.size))
        have HV := Lib.hid HR.out.none
        clear hb3 HR
        generalize hc00 : cnt2 V 8 (0, 0) 4 = c00 at *
        generalize hc11 : cnt2 V 8 (1, 1) 4 = c11 at *
        generalize hc12 : cnt2 V 8 (1, 2) 4 = c12 at *
        generalize hc21 : cnt2 V 8 (2, 1) 4 = c21 at *
        generalize hc22 : cnt2 V 8 (2, 2) 4 = c22 at *
        go_wp2_with fail
        go_loopw [12, 13] (fun n i wr => ∃ (a t : Nat), i = .int .i64 a ∧ n = .int .i64 t ∧ (a = 1 ∧ t = c00 ∨ a = 2 ∧ t = c00 + c11 + c12 ∨ a = 3 ∧ t = 32) ∧ Lay wr p 4 8 V w.heap.size hi rb 4 bs ∧ Below w.heap.size w wr) (fun _ i _ => 3 - (intOf i).toNat)
        case atStart => exact ⟨1, c00, rfl, rfl, .inl ⟨rfl, rfl⟩, HL3.out, HB3.out⟩
        case round =>
          clear HL3 HB3
          obtain ⟨a, t, rfl, rfl, hat, hl, hb⟩ := hrel
          have HL := Lib.hid hl
          have HB := Lib.hid hb
          clear hl hb
          by_cases ha : a < 3
          · obtain ⟨x1, hx1⟩ : ∃ x, x = cnt2 V 8 ((a : Int), ((1 : Nat) : Int)) 4 := ⟨_, rfl⟩
            obtain ⟨x2, hx2⟩ : ∃ x, x = cnt2 V 8 ((a : Int), ((2 : Nat) : Int)) 4 := ⟨_, rfl⟩
            have hx : a = 1 ∧ x1 = c11 ∧ x2 = c12 ∨ a = 2 ∧ x1 = c21 ∧ x2 = c22 := by
              rcases hat with ⟨rfl, _⟩ | ⟨rfl, _⟩ | ⟨rfl, _⟩
              · exact .inl ⟨rfl, hx1.trans hc11, hx2.trans hc12⟩
              · exact .inr ⟨rfl, hx1.trans hc21, hx2.trans hc22⟩
              · omega
            have ha2 : (a : Int) ≤ 2 := by omega
            go_wp2_with fail
            obtain ⟨wB, rfl⟩ : ∃ wB : World, wB = wr := ⟨_, rfl⟩
            go_loopw [12, 14] (fun n i wr => ∃ (d u : Nat), i = .int .i64 d ∧ n = .int .i64 u ∧ (d = 1 ∧ u = t ∨ d = 2 ∧ u = t + x1 ∨ d = 3 ∧ u = t + x1 + x2) ∧ Lay wr p 4 8 V w.heap.size hi rb 4 bs ∧ Below w.heap.size w wr) (fun _ i _ => 3 - (intOf i).toNat)
            case atStart => exact ⟨1, t, rfl, rfl, .inl ⟨rfl, rfl⟩, HL.out, HB.out⟩
            case round =>
              clear HL HB
              obtain ⟨d, u, rfl, rfl, hdu, hl, hb⟩ := hrel
              have HL := Lib.hid hl
              have HB := Lib.hid hb
              clear hl hb
              by_cases hd : d < 3
              · have hd2 : (d : Int) ≤ 2 := by omega
                have q1 : IntKind.u64.wrap (d : Int) = (d : Int) := IntWalk.u64_in _ (by omega)
                obtain ⟨y, hy⟩ : ∃ y, y = cnt2 V 8 ((a : Int), (d : Int)) 4 := ⟨_, rfl⟩
                have hyx : d = 1 ∧ y = x1 ∨ d = 2 ∧ y = x2 := by
                  rcases hdu with ⟨rfl, _⟩ | ⟨rfl, _⟩ | ⟨rfl, _⟩
                  · exact .inl ⟨rfl, hy.trans hx1.symm⟩
                  · exact .inr ⟨rfl, hy.trans hx2.symm⟩
                  · omega
                have q2 : IntKind.i64.wrap ((u : Int) + (y : Int)) = ((u + y : Nat) : Int) := by rw [IntWalk.i64_in _ (by omega)]; omega
                go_wp2_with fail
                refine (Hct.out a d _ HL.out).mono ?_
                rw [← hy]
                rintro e w4 ⟨rfl, hb4⟩
                have HL4 := Lib.hid (HL.out.below hb4 HL.out.size)
                have HB4 := Lib.hid (HB.out.trans (hb4.mono HB.out.size))
                clear hb4
                go_wp2_with fail
                go_roundw
                case rel => exact ⟨d + 1, u + y, by go_num, by simp only [Int.natCast_add, hy], by omega, HL4.out, HB4.out⟩
                case measure => simp [intOf]; omega
              · have hd3 : d = 3 := by omega
                subst hd3
                go_wp2_with fail
                go_roundw
                case rel => exact ⟨a + 1, u, by go_num, rfl, by omega, HL.out, HB.out⟩
                case measure => simp [intOf]; omega
          · have ha3 : a = 3 := by omega
            have ht : t = 32 := by omega
            subst ha3 ht
            have hx20 := HL.out.size
            go_wp2_with fail
            refine (all_any _ _ _ _ _ _ _ _ _ _ HL.out (by omega) (by omega)).mono ?_
            rintro e w3 ⟨v3, rfl, hown3, hb3⟩
            obtain ⟨ao3, c3, rfl, hsrc3⟩ := owns_src hown3
            have HL3 := Lib.hid (HL.out.below hb3 HL.out.size)
            have HB3 := Lib.hid (HB.out.trans (hb3.mono HB.out.size))
            clear hown3 hsrc3 hb3 HL HB hx20
            go_wp2_with fail
            refine (H00.out _ HL3.out).mono ?_
            rintro e w4 ⟨rfl, hb4⟩
            have HL4 := Lib.hid (HL3.out.below hb4 HL3.out.size)
            have HB4 := Lib.hid (HB3.out.trans (hb4.mono HB3.out.size))
            clear hb4 HL3 HB3
            have q3 : IntKind.i64.wrap (32 - (c00 : Int)) = 32 - (c00 : Int) := IntWalk.i64_in _ (by omega)
            obtain ⟨L, hL⟩ : ∃ L, L = (allL V 8 4).length := ⟨_, rfl⟩
            rw [← hL] at hac ⊢
            have HLL := Lib.hid hL
            clear hL
            by_cases hk0 : k = 0
            · have hall : L = 0 := by rw [HLL.out, HV.out hk0]; decide
              obtain rfl : c00 = 32 := by omega
              subst hall
              subst hk0
              clear HV
              try (exfalso; omega)
              all_goals
                go_wp2_with fail
                refine (all_any _ _ _ _ _ _ _ _ _ _ HL4.out (by omega) (by omega)).mono ?_
                rintro e w5 ⟨v5, rfl, hown5, hb5⟩
                obtain ⟨ao5, c5, rfl, hsrc5⟩ := owns_src hown5
                have HB5 := Lib.hid (HB4.out.trans (hb5.mono HB4.out.size))
                clear hown5 hsrc5 hb5
                rw [← HLL.out]
                go_wp2_with fail
                go_ret
                exact ⟨rfl, HB5.out⟩
            · have hkp : (0 : Int) < (k : Int) := by omega
              have q5 : (L : Int) = 32 - (c00 : Int) := by omega
              clear HV hac
              go_wp2_with fail
              go_ret
              exact ⟨rfl, HB4.out⟩
end Go.Proofs.Ythlgbjbandelkaa
