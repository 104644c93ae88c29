/- The walk of RootsPlays. -/
import Derived.Test.YthlgbjbandelkaaZ
import Derived.Test.YthlgbjbandelkaaU
import Derived.Test.YthlgbjbandelkaaR
import Derived.Deep.DeepCutAuto
namespace Go.Proofs.Ythlgbjbandelkaa
open Go.ChangeShapes Go.WideShapes Go.ChangeAt Go.RowKit
set_option linter.unusedVariables false

/-- Both structures hold the same. -/
structure PlayRel (w wr : World) (p q M S hi lj hj rb rq cq : Nat) (bs bq : Nat → Nat) (V : Nat → Nat → Int × Int) : Prop where
  lay : Lay wr p M S V w.heap.size hi rb M bs
  ref : Lay wr q M S V lj hj rq cq bq
  below : Below w.heap.size w wr
  hij : hi ≤ lj

theorem PlayRel.step {w wr wc : World} {p q M S hi lj hj rb rq cq B : Nat} {bs bq : Nat → Nat} {V : Nat → Nat → Int × Int} (h : PlayRel w wr p q M S hi lj hj rb rq cq bs bq V) (hb : Below B wr wc) (hB : wr.heap.size ≤ B) : PlayRel w wc p q M S hi lj hj rb rq cq bs bq V :=
  ⟨h.lay.below hb (Nat.le_trans h.lay.size hB), h.ref.below hb (Nat.le_trans h.ref.size hB), h.below.trans (hb.mono (Nat.le_trans h.below.size hB)), h.hij⟩

theorem set_lay0 {w : World} {p M S : Nat} {V : Nat → Nat → Int × Int} {lo hi rb cap : Nat} {bs : Nat → Nat} (h : Lay w p M S V lo hi rb cap bs) (m s : Nat) (hm : m < M) (hs : s < S) (n r : Int) :
    Lay ((w.setCell ⟨bs m, s * 2, none⟩ (.int .i64 n)).setCell ⟨bs m, s * 2 + 1, none⟩ (.int .u64 r)).drew p M S (upd V m s (n, r)) lo hi rb cap bs ∧
    Keep lo hi w ((w.setCell ⟨bs m, s * 2, none⟩ (.int .i64 n)).setCell ⟨bs m, s * 2 + 1, none⟩ (.int .u64 r)).drew := by
  have hb := h.hbs m hm
  have lp := h.p_lt
  have lr := h.rb_lt
  have cell : ∀ b j, b < w.heap.size → (b ≠ bs m ∨ (j ≠ s * 2 ∧ j ≠ s * 2 + 1)) → ((w.setCell ⟨bs m, s * 2, none⟩ (.int .i64 n)).setCell ⟨bs m, s * 2 + 1, none⟩ (.int .u64 r)).drew.cell? ⟨b, j, none⟩ = w.cell? ⟨b, j, none⟩ := by
    intro b j hb' hj
    rw [World.cell?_drew, World.cell?_setCell_other _ _ _ _ (addr_ne (by omega)), World.cell?_setCell_other _ _ _ _ (addr_ne (by omega))]
  refine ⟨⟨by simpa using h.size, h.hp, h.hrb, h.ne, h.hbs, h.inj, ?_, ?_, ?_, ?_, ?_⟩, ⟨rfl, rfl, rfl, by simp, fun k hk hn => ?_⟩⟩
  · rw [cell _ _ lp (.inl (by omega))]; exact h.head
  · intro m' hm'
    rw [cell _ _ lr (.inl (by omega))]; exact h.row m' hm'
  · intro m' s' hm' hs'
    by_cases e : m' = m
    · subst e
      by_cases e' : s' = s
      · subst e'
        rw [World.cell?_drew, World.cell?_setCell_other _ _ _ _ (addr_ne (by omega)), World.cell?_setCell_same _ _ _ (h.node _ _ hm hs)]
        simp [upd]
      · rw [cell _ _ (h.bs_lt _ hm) (.inr (by omega)), h.node _ _ hm hs']
        simp [upd, e']
    · have hne : bs m' ≠ bs m := fun he => e (h.inj _ _ hm' hm he)
      rw [cell _ _ (h.bs_lt _ hm') (.inl hne), h.node _ _ hm' hs']
      simp [upd, e]
  · intro m' s' hm' hs'
    by_cases e : m' = m
    · subst e
      by_cases e' : s' = s
      · subst e'
        rw [World.cell?_drew, World.cell?_setCell_same (u := .int .u64 (V m' s').2) _ _ _ (by rw [World.cell?_setCell_other _ _ _ _ (addr_ne (by omega))]; exact h.serial _ _ hm hs)]
        simp [upd]
      · rw [cell _ _ (h.bs_lt _ hm) (.inr (by omega)), h.serial _ _ hm hs']
        simp [upd, e']
    · have hne : bs m' ≠ bs m := fun he => e (h.inj _ _ hm' hm he)
      rw [cell _ _ (h.bs_lt _ hm') (.inl hne), h.serial _ _ hm' hs']
      simp [upd, e]
  · intro m' j hm'
    rw [World.frozen?_drew]
    simpa using h.free m' j hm'
  · show ((w.setCell _ _).setCell _ _).heap[k]? = _
    rw [Below.heap_setCell _ _ _ _ (by simp; omega), Below.heap_setCell _ _ _ _ (by simp; omega)]

/-- Set of a slot that is there, to whatever. -/
theorem set_in {w : World} {p M S : Nat} {V : Nat → Nat → Int × Int} {lo hi rb cap : Nat} {bs : Nat → Nat} (n r : Int) (h : Lay w p M S V lo hi rb cap bs) (hM : M ≤ 4) (hS : S ≤ 8) (m s : Nat) (hm : m < M) (hs : s < S) :
    Calls Try.prog 13 #[.pointer (some ⟨p, 0, none⟩), .int .i64 m, .int .i64 s, .agg #[.int .i64 n, .int .u64 r]] w fun e w' => e = .returned (.bool (idOk n r)) ∧ Lay w' p M S (if idOk n r = true then upd V m s (n, r) else V) lo hi rb cap bs ∧ Keep lo hi w w' := by
  cases hid : idOk n r with
  | true => exact (set_step n r h hM hS m s hm hs hid).mono fun e w' ⟨he, hl, hk⟩ => ⟨he, by simpa using hl, hk⟩
  | false => exact (set_bad _ _ _ _ _ _ _ _ _ _ n r h hM hS m s hm hs hid).mono fun e w' ⟨he, hw⟩ => ⟨he, by rw [← hw]; simpa using h.alloc _, by rw [← hw]; exact Keep.of_below ((Below.refl _ _).alloc (Nat.le_refl _) _) (Nat.le_refl _)⟩

set_option maxHeartbeats 2000000 in
set_option maxRecDepth 100000 in
theorem playsBad (a0 a1 : Int) (a2 : Option Addr) (len2 cap2 : Nat) (w : World) (hbad : ¬ (1 ≤ a0 ∧ a0 ≤ 4 ∧ 1 ≤ a1 ∧ a1 ≤ 8)) :
    Calls Try.prog 3 #[.int .i64 a0, .int .i64 a1, .slice a2 len2 cap2] w fun e w' => e = .returned (.bool true) ∧ Below w.heap.size w w' := by
  go_enter Try.func3, Try.ntmps3
  go_wp2_with fail
  refine (new_bad a0 a1 _ hbad).mono ?_
  rintro e w1 ⟨rfl, rfl⟩
  go_wp2_with fail
  refine (known_true _).mono ?_
  rintro e w2 ⟨rfl, hb2⟩
  have HB2 := Lib.hid hb2
  clear hb2
  have hways : a0 < 1 ∨ (1 ≤ a0 ∧ 4 < a0) ∨ (1 ≤ a0 ∧ a0 ≤ 4 ∧ a1 < 1) ∨ (1 ≤ a0 ∧ a0 ≤ 4 ∧ 1 ≤ a1 ∧ 8 < a1) := by omega
  clear hbad
  rcases hways with h1 | ⟨h1, h2⟩ | ⟨h1, h2, h3⟩ | ⟨h1, h2, h3, h4⟩
  all_goals
    go_wp2_with fail
    go_ret
    exact ⟨rfl, HB2.out⟩

set_option maxHeartbeats 2000000 in
set_option maxRecDepth 100000 in
theorem playsGood (M S : Nat) (h1 : (1 : Int) ≤ M) (h2 : (M : Int) ≤ 4) (h3 : (1 : Int) ≤ S) (h4 : (S : Int) ≤ 8) (a2 : Option Addr) (len2 cap2 : Nat) (z2 : Nat → SetV) (w : World) (w2 : SetsAt w a2 len2 z2 ∧ (∀ i, i < len2 → (z2 i).Ok) ∧ len2 ≤ maxLen) :
    Calls Try.prog 3 #[.int .i64 M, .int .i64 S, .slice a2 len2 cap2] w fun e w' => e = .returned (.bool true) ∧ Below w.heap.size w w' := by
  obtain ⟨hz, hok, hlen⟩ := w2
  have HZ := Lib.hid hz
  have HOK := Lib.hid hok
  unfold maxLen at hlen
  clear hz hok
  go_enter Try.func3, Try.ntmps3
  go_wp2_with fail
  refine (new_ok M S _ h1 h2 h3 h4).mono ?_
  rintro e w1 ⟨p, rb, bs, rfl, hlay, hb1⟩
  have HL1 := Lib.hid hlay
  have HB1 := Lib.hid hb1
  have hz1 := hb1.size
  clear hlay hb1
  go_wp2_with fail
  refine (known_true _).mono ?_
  rintro e w2 ⟨rfl, hb2⟩
  have HL2 := Lib.hid (HL1.out.below hb2 (Nat.le_refl _))
  have HB2 := Lib.hid (HB1.out.trans (hb2.mono hz1))
  have hz2 := hb2.size
  clear hb2 HL1 HB1
  go_wp2_with fail
  refine (newR_ok M S _ h1 h2 h3 h4).mono ?_
  rintro e w3 ⟨q, rq, cq, bq, rfl, href, hb3⟩
  have HR3 : Hid (PlayRel w w3 p q M S w1.heap.size w2.heap.size w3.heap.size rb rq cq bs bq (fun _ _ => (0, 0))) := ⟨HL2.out.below hb3 hz2, href, HB2.out.trans (hb3.mono (by omega)), hz2⟩
  clear href hb3 HL2 HB2
  generalize w1.heap.size = hi at *
  generalize w2.heap.size = lj at *
  generalize w3.heap.size = hj at *
  clear hz1 hz2
  have hb := HR3.out.below.size
  go_wp2_with fail
  go_loopw [10] (fun i wr => ∃ (k : Nat) (V : Nat → Nat → Int × Int), k ≤ len2 ∧ k ≤ 300 ∧ i = .int .i64 k ∧ PlayRel w wr p q M S hi lj hj rb rq cq bs bq V) (fun i _ => 300 - (intOf i).toNat)
  case atStart => exact ⟨0, _, Nat.zero_le _, by omega, rfl, HR3.out⟩
  case round =>
    clear HR3 hb
    obtain ⟨k, V, hk, hk5, rfl, hrel⟩ := hrel
    have HR := Lib.hid hrel
    have hwz := hrel.below.size
    have hbel := hrel.below
    clear hrel
    by_cases hgo : k < len2 ∧ k < 300
    · obtain ⟨hlt, h5⟩ := hgo
      obtain ⟨b, off, rfl, hc⟩ := HZ.out (by omega)
      obtain ⟨c0, c1, c2, c3, c4⟩ := hc k hlt
      obtain ⟨o0, o1, o2, o3⟩ := HOK.out k hlt
      have hbl : b < w.heap.size := World.block_lt_of_cell? _ _ c0
      generalize z2 k = v at c0 c1 c2 c3 c4 o0 o1 o2 o3
      obtain ⟨vm, vs, vn, vr, vb⟩ := v
      simp only at c0 c1 c2 c3 c4 o0 o1 o2 o3
      have d0 := (hbel.cell (p := ⟨b, off + k * 5, none⟩) hbl).trans c0
      have d1 := (hbel.cell (p := ⟨b, off + k * 5 + 1, none⟩) hbl).trans c1
      have d2 := (hbel.cell (p := ⟨b, off + k * 5 + 2, none⟩) hbl).trans c2
      have d3 := (hbel.cell (p := ⟨b, off + k * 5 + 3, none⟩) hbl).trans c3
      have d4 := (hbel.cell (p := ⟨b, off + k * 5 + 4, none⟩) hbl).trans c4
      clear hbel hc c0 c1 c2 c3 c4
      have e0 : 0 ≤ (k : Int) % 5 := by omega
      go_upto_if 68 with (fail)
      go_cut [] (fun wc => ∃ xm xs xn xr : Int, wc.cell? ⟨wr.heap.size, 0, none⟩ = some (.int .i64 xm) ∧ wc.cell? ⟨wr.heap.size, 1, none⟩ = some (.int .i64 xs) ∧ wc.cell? ⟨wr.heap.size, 2, none⟩ = some (.int .i64 xn) ∧ wc.cell? ⟨wr.heap.size, 3, none⟩ = some (.int .u64 xr) ∧ wr.heap.size < wc.heap.size ∧ Below wr.heap.size wr wc)
      case first =>
        cases vb
        · go_wp2_with fail
          go_meet
          case rel => exact ⟨vm, vs, vn, vr, by go_simp, by go_simp, by go_simp, by go_simp, by simp, (Below.refl _ _).alloc (Nat.le_refl _) _⟩
        · obtain ⟨n, hn1, hn2⟩ := mod_nat vn 3 (by omega)
          obtain ⟨r, hr1, hr2⟩ := mod_nat vr 3 (by omega)
          simp only [Int.cast_ofNat_Int] at hn1 hr1
          have q1 : IntKind.i64.wrap (1 + (n : Int)) = 1 + (n : Int) := IntWalk.i64_in _ (by omega)
          have q2 : vr.tmod 3 = (r : Int) := by rw [Int.tmod_eq_emod_of_nonneg o3.1]; exact hr1
          have q3 : IntKind.u64.wrap (1 + (r : Int)) = 1 + (r : Int) := IntWalk.u64_in _ (by omega)
          clear d0 d1 d2 d3 d4
          go_wp2_with fail
          refine (pick_any vm ((M : Int) + 1) _ o0.1 o0.2 (by omega) (by omega)).mono ?_
          rintro e w4 ⟨rfl, rfl⟩
          obtain ⟨ym, hym⟩ : ∃ ym, ym = vm % ((M : Int) + 1) := ⟨_, rfl⟩
          rw [← hym]
          clear hym
          go_wp2_with fail
          refine (pick_any vs ((S : Int) + 1) _ o1.1 o1.2 (by omega) (by omega)).mono ?_
          rintro e w4 ⟨rfl, rfl⟩
          obtain ⟨ys, hys⟩ : ∃ ys, ys = vs % ((S : Int) + 1) := ⟨_, rfl⟩
          rw [← hys]
          clear hys
          go_wp2_with fail
          refine wp_region_still_tail 12 (by kernel_rfl) (by kernel_rfl) ?_
          simp only [List.take_succ_cons, List.take_zero, List.drop_succ_cons, List.drop_zero, World.drew_eq]
          repeat still_step
          still_call (pick_still vn 3 _ o2.1 o2.2 (by omega) (by omega))
          rw [hn1]
          repeat still_step
          refine wpStill_nil ?_
          go_wp2_with fail
          all_goals
            go_meet
            case rel =>
              refine ⟨ym, ys, ?_⟩
              apply Exists.intro
              apply Exists.intro
              refine ⟨by go_simp, by go_simp, ?_, ?_, by simp, ((Below.refl _ _).alloc (Nat.le_refl _) _).drew⟩
              · go_simp; try rfl
              · go_simp; try rfl
      case rest =>
        obtain ⟨xm, xs, xn, xr, x0, x1, x2, x3, hwx, hbx⟩ := hcut
        have HRc := Lib.hid (HR.out.step hbx (Nat.le_refl _))
        have hjz := HR.out.ref.size
        clear HR hbx d0 d1 d2 d3 d4 o0 o1 o2 o3 e0
        by_cases hin : 0 ≤ xm ∧ xm < M ∧ 0 ≤ xs ∧ xs < S
        · obtain ⟨g1, g2, g3, g4⟩ := hin
          obtain ⟨m, rfl⟩ := Int.eq_ofNat_of_zero_le g1
          obtain ⟨s, rfl⟩ := Int.eq_ofNat_of_zero_le g3
          have hm : m < M := by omega
          have hs : s < S := by omega
          clear g1 g2 g3 g4
          go_wp2_with fail
          refine (has_yes _ _ _ _ _ _ _ _ _ _ HRc.out.ref (by omega) (by omega) m s hm hs).mono ?_
          rintro e w4 ⟨rfl, rfl⟩
          go_wp2_with fail
          refine (id_any xn xr _).mono ?_
          rintro e w4 ⟨rfl, rfl⟩
          go_wp2_with fail
          refine (set_in xn xr (HRc.out.lay.alloc _) (by omega) (by omega) m s hm hs).mono ?_
          rintro e w5 ⟨rfl, hl5, hk5⟩
          have hwh := HRc.out.below.size
          have hlh := HRc.out.lay.size
          have hij := HRc.out.hij
          have hqq := HRc.out.ref.hp
          have hpp := HRc.out.lay.hp
          have hwr : Lay w5 q M S V lj hj rq cq bq := (HRc.out.ref.alloc _).other hk5 (.inr hij)
          have hb5 : Below w.heap.size w w5 := hk5.below (HRc.out.below.alloc (by omega) _) (Nat.le_refl _) (by simp; omega)
          have y0 := keep_cell hk5 ((World.cell?_alloc_lt _ _ _ (by simpa using hwx)).trans x0) (by simp; omega)
          have y1 := keep_cell hk5 ((World.cell?_alloc_lt _ _ _ (by simpa using hwx)).trans x1) (by simp; omega)
          have y2 := keep_cell hk5 ((World.cell?_alloc_lt _ _ _ (by simpa using hwx)).trans x2) (by simp; omega)
          have y3 := keep_cell hk5 ((World.cell?_alloc_lt _ _ _ (by simpa using hwx)).trans x3) (by simp; omega)
          have hz5 := hk5.size
          rw [World.size_alloc] at hz5
          clear hk5 x0 x1 x2 x3
          have HL5 := Lib.hid hl5
          have HW5 := Lib.hid hwr
          have HB5 := Lib.hid hb5
          clear hl5 hwr hb5 HRc
          obtain ⟨V', hV'⟩ : ∃ V', V' = if idOk xn xr = true then upd V m s (xn, xr) else V := ⟨_, rfl⟩
          rw [← hV'] at HL5
          have HV := Lib.hid hV'
          clear hV'
          generalize hid : idOk xn xr = okv at HV ⊢
          clear hid
          go_upto_if 119 with (fail)
          go_cut [] (fun wd => PlayRel w wd p q M S hi lj hj rb rq cq bs bq V' ∧ wd.cell? ⟨wr.heap.size, 0, none⟩ = some (.int .i64 m) ∧ wd.cell? ⟨wr.heap.size, 1, none⟩ = some (.int .i64 s) ∧ wd.cell? ⟨wr.heap.size, 2, none⟩ = some (.int .i64 xn) ∧ wd.cell? ⟨wr.heap.size, 3, none⟩ = some (.int .u64 xr) ∧ wr.heap.size < wd.heap.size)
          case first =>
            cases okv
            · obtain rfl : V' = V := by simpa using HV.out
              go_wp2_with fail
              go_meet
              case rel => exact ⟨⟨HL5.out, HW5.out, HB5.out, hij⟩, y0, y1, y2, y3, by omega⟩
            · obtain rfl : V' = upd V m s (xn, xr) := by simpa using HV.out
              clear HV
              have k1 := HW5.out.head
              have k2 := HW5.out.row m hm
              have k3 := HW5.out.node m s hm hs
              have k4 := HW5.out.serial m s hm hs
              have k5 := HW5.out.free m (s * 2) hm
              have k6 := HW5.out.free m (s * 2 + 1) hm
              have k7 := HW5.out.hbs m hm
              go_wp2_with fail
              refine wp_region_still_tail 13 (by kernel_rfl) (by kernel_rfl) ?_
              simp only [List.take_succ_cons, List.take_zero, List.drop_succ_cons, List.drop_zero, World.drew_eq]
              repeat still_step
              refine wpStill_nil ?_
              go_wp2_with fail
              go_meet
              case rel =>
                obtain ⟨hr6, hk6⟩ := set_lay0 HW5.out m s hm hs xn xr
                exact ⟨⟨HL5.out.other hk6 (.inl hij), hr6, hk6.below HB5.out (by omega) (by omega), hij⟩, keep_cell hk6 y0 (by simp; omega), keep_cell hk6 y1 (by simp; omega), keep_cell hk6 y2 (by simp; omega), keep_cell hk6 y3 (by simp; omega), by simp; omega⟩
          case rest =>
            obtain ⟨hrd, y0, y1, y2, y3, hwd⟩ := hcut
            have HRd := Lib.hid hrd
            clear hrd HV HL5 HW5 HB5
            go_wp2_with fail
            refine (get_yes _ _ _ _ _ _ _ _ _ _ HRd.out.lay (by omega) (by omega) m s hm hs).mono ?_
            rintro e w6 ⟨rfl, rfl⟩
            go_upto_region 25 with (fail)
            have hqz := HRd.out.ref.size
            have HRe := Lib.hid (HRd.out.step (((Below.refl _ _).alloc (Nat.le_refl _) (.cells #[.int .i64 (V' m s).1, .int .u64 (V' m s).2] 32)).alloc (by simp) (.cells #[.int .i64 (V' m s).1, .int .u64 (V' m s).2] 32)) (Nat.le_refl _))
            obtain ⟨v1, hv1⟩ : ∃ v1, v1 = (V' m s).1 := ⟨_, rfl⟩
            obtain ⟨v2, hv2⟩ : ∃ v2, v2 = (V' m s).2 := ⟨_, rfl⟩
            rw [← hv1, ← hv2] at HRe
            rw [← hv1, ← hv2]
            have z0 := (World.cell?_alloc_lt ((wc.alloc (.cells #[.int .i64 v1, .int .u64 v2] 32))) (.cells #[.int .i64 v1, .int .u64 v2] 32) _ (by simp; omega)).trans ((World.cell?_alloc_lt wc (.cells #[.int .i64 v1, .int .u64 v2] 32) _ (by simpa using hwd)).trans y0)
            have z1 := (World.cell?_alloc_lt ((wc.alloc (.cells #[.int .i64 v1, .int .u64 v2] 32))) (.cells #[.int .i64 v1, .int .u64 v2] 32) _ (by simp; omega)).trans ((World.cell?_alloc_lt wc (.cells #[.int .i64 v1, .int .u64 v2] 32) _ (by simpa using hwd)).trans y1)
            have z2 := (World.cell?_alloc_lt ((wc.alloc (.cells #[.int .i64 v1, .int .u64 v2] 32))) (.cells #[.int .i64 v1, .int .u64 v2] 32) _ (by simp; omega)).trans ((World.cell?_alloc_lt wc (.cells #[.int .i64 v1, .int .u64 v2] 32) _ (by simpa using hwd)).trans y2)
            have z3 := (World.cell?_alloc_lt ((wc.alloc (.cells #[.int .i64 v1, .int .u64 v2] 32))) (.cells #[.int .i64 v1, .int .u64 v2] 32) _ (by simp; omega)).trans ((World.cell?_alloc_lt wc (.cells #[.int .i64 v1, .int .u64 v2] 32) _ (by simpa using hwd)).trans y3)
            have z4 : ((wc.alloc (.cells #[.int .i64 v1, .int .u64 v2] 32)).alloc (.cells #[.int .i64 v1, .int .u64 v2] 32)).cell? ⟨wc.heap.size + 1, 0, none⟩ = some (.int .i64 v1) := by go_simp
            have z5 : ((wc.alloc (.cells #[.int .i64 v1, .int .u64 v2] 32)).alloc (.cells #[.int .i64 v1, .int .u64 v2] 32)).cell? ⟨wc.heap.size + 1, 1, none⟩ = some (.int .u64 v2) := by go_simp
            have z6 := HRe.out.ref.head
            have z7 := HRe.out.ref.row m hm
            have z8 : ((wc.alloc (.cells #[.int .i64 v1, .int .u64 v2] 32)).alloc (.cells #[.int .i64 v1, .int .u64 v2] 32)).cell? ⟨bq m, s * 2, none⟩ = some (.int .i64 v1) := (HRe.out.ref.node m s hm hs).trans (by rw [hv1])
            have z9 : ((wc.alloc (.cells #[.int .i64 v1, .int .u64 v2] 32)).alloc (.cells #[.int .i64 v1, .int .u64 v2] 32)).cell? ⟨bq m, s * 2 + 1, none⟩ = some (.int .u64 v2) := (HRe.out.ref.serial m s hm hs).trans (by rw [hv2])
            have hze : wr.heap.size < ((wc.alloc (.cells #[.int .i64 v1, .int .u64 v2] 32)).alloc (.cells #[.int .i64 v1, .int .u64 v2] 32)).heap.size := by simp; omega
            clear hv1 hv2 y0 y1 y2 y3
            obtain ⟨t, ht⟩ : ∃ t, t = wc.heap.size + 1 := ⟨_, rfl⟩
            rw [← ht] at z4 z5 ⊢
            clear ht HRd
            generalize (wc.alloc (.cells #[.int .i64 v1, .int .u64 v2] 32)).alloc (.cells #[.int .i64 v1, .int .u64 v2] 32) = wE at z0 z1 z2 z3 z4 z5 z6 z7 z8 z9 hze HRe ⊢
            clear hwd hqz
            go_cut [188] (fun v wc => v = .bool false ∧ PlayRel w wc p q M S hi lj hj rb rq cq bs bq V')
            case first =>
              have hS : (fun w' : World => w'.cell? ⟨wr.heap.size, 0, none⟩ = some (.int .i64 m) ∧ w'.cell? ⟨wr.heap.size, 1, none⟩ = some (.int .i64 s) ∧ w'.cell? ⟨wr.heap.size, 2, none⟩ = some (.int .i64 xn) ∧ w'.cell? ⟨wr.heap.size, 3, none⟩ = some (.int .u64 xr) ∧ w'.cell? ⟨t, 0, none⟩ = some (.int .i64 v1) ∧ w'.cell? ⟨t, 1, none⟩ = some (.int .u64 v2) ∧ w'.cell? ⟨q, 0, none⟩ = some (.slice (some ⟨rq, 0, none⟩) M cq) ∧ w'.cell? ⟨rq, m, none⟩ = some (.slice (some ⟨bq m, 0, none⟩) S S) ∧ w'.cell? ⟨bq m, s * 2, none⟩ = some (.int .i64 v1) ∧ w'.cell? ⟨bq m, s * 2 + 1, none⟩ = some (.int .u64 v2)) wE := ⟨z0, z1, z2, z3, z4, z5, z6, z7, z8, z9⟩
              clear z0 z1 z2 z3 z4 z5 z6 z7 z8 z9
              refine wp_region_held_drew (S := fun w' => w'.cell? ⟨wr.heap.size, 0, none⟩ = some (.int .i64 m) ∧ w'.cell? ⟨wr.heap.size, 1, none⟩ = some (.int .i64 s) ∧ w'.cell? ⟨wr.heap.size, 2, none⟩ = some (.int .i64 xn) ∧ w'.cell? ⟨wr.heap.size, 3, none⟩ = some (.int .u64 xr) ∧ w'.cell? ⟨t, 0, none⟩ = some (.int .i64 v1) ∧ w'.cell? ⟨t, 1, none⟩ = some (.int .u64 v2) ∧ w'.cell? ⟨q, 0, none⟩ = some (.slice (some ⟨rq, 0, none⟩) M cq) ∧ w'.cell? ⟨rq, m, none⟩ = some (.slice (some ⟨bq m, 0, none⟩) S S) ∧ w'.cell? ⟨bq m, s * 2, none⟩ = some (.int .i64 v1) ∧ w'.cell? ⟨bq m, s * 2 + 1, none⟩ = some (.int .u64 v2)) (by kernel_rfl) hS (fun hHeld => ?_)
              clear hS
              have HRe := Lib.hid (HRe.out.step (Below.refl _ _).drew (Nat.le_refl _))
              refine held_yes 0 rfl (by kernel_rfl) (by kernel_rfl) (by kernel_rfl) (fun _ _ _ _ h => h) (by rfl) (by assumption) ?_
              apply Exists.intro
              refine ⟨fun wq hSw => ?_, ?_⟩
              · (try dsimp only at hSw); go_simp; (try with_reducible rfl)
              try simp only [Act.put, List.setIfInBounds_toArray, List.set_cons_zero, List.set_cons_succ]
              refine held_yes 1 rfl (by kernel_rfl) (by kernel_rfl) (by kernel_rfl) (fun _ _ _ _ h => h) (by rfl) (by assumption) ?_
              apply Exists.intro
              refine ⟨fun wq hSw => ?_, ?_⟩
              · (try dsimp only at hSw); go_simp; (try with_reducible rfl)
              try simp only [Act.put, List.setIfInBounds_toArray, List.set_cons_zero, List.set_cons_succ]
              refine held_yes 2 rfl (by kernel_rfl) (by kernel_rfl) (by kernel_rfl) (fun _ _ _ _ h => h) (by rfl) (by assumption) ?_
              apply Exists.intro
              refine ⟨fun wq hSw => ?_, ?_⟩
              · (try dsimp only at hSw); go_simp; (try with_reducible rfl)
              try simp only [Act.put, List.setIfInBounds_toArray, List.set_cons_zero, List.set_cons_succ]
              refine held_yes 3 rfl (by kernel_rfl) (by kernel_rfl) (by kernel_rfl) (fun _ _ _ _ h => h) (by rfl) (by assumption) ?_
              apply Exists.intro
              refine ⟨fun wq hSw => ?_, ?_⟩
              · (try dsimp only at hSw); go_simp; (try with_reducible rfl)
              try simp only [Act.put, List.setIfInBounds_toArray, List.set_cons_zero, List.set_cons_succ]
              refine held_yes 4 rfl (by kernel_rfl) (by kernel_rfl) (by kernel_rfl) (fun _ _ _ _ h => h) (by rfl) (by assumption) ?_
              apply Exists.intro
              refine ⟨fun wq hSw => ?_, ?_⟩
              · (try dsimp only at hSw); go_simp; (try with_reducible rfl)
              try simp only [Act.put, List.setIfInBounds_toArray, List.set_cons_zero, List.set_cons_succ]
              refine held_yes 5 rfl (by kernel_rfl) (by kernel_rfl) (by kernel_rfl) (fun _ _ _ _ h => h) (by rfl) (by assumption) ?_
              apply Exists.intro
              refine ⟨fun wq hSw => ?_, ?_⟩
              · (try dsimp only at hSw); go_simp; (try with_reducible rfl)
              try simp only [Act.put, List.setIfInBounds_toArray, List.set_cons_zero, List.set_cons_succ]
              refine held_one 6 rfl (by kernel_rfl) (fun K hK => ?_)
              go_simp
              refine (has_yes _ _ _ _ _ _ _ _ _ _ HRe.out.ref (by omega) (by omega) m s hm hs).mono ?_
              rintro e w' ⟨rfl, rfl⟩
              refine hK.out _ _ hHeld (fun hHeld => ?_)
              clear hK K
              try simp only [Act.put, List.setIfInBounds_toArray, List.set_cons_zero, List.set_cons_succ]
              refine held_yes 7 rfl (by kernel_rfl) (by kernel_rfl) (by kernel_rfl) (fun _ _ _ _ h => h) (by rfl) (by assumption) ?_
              apply Exists.intro
              refine ⟨fun wq hSw => ?_, ?_⟩
              · (try dsimp only at hSw); go_simp; (try with_reducible rfl)
              try simp only [Act.put, List.setIfInBounds_toArray, List.set_cons_zero, List.set_cons_succ]
              refine held_yes 8 rfl (by kernel_rfl) (by kernel_rfl) (by kernel_rfl) (fun _ _ _ _ h => h) (by rfl) (by assumption) ?_
              apply Exists.intro
              refine ⟨fun wq hSw => ?_, ?_⟩
              · (try dsimp only at hSw); go_simp; (try with_reducible rfl)
              try simp only [Act.put, List.setIfInBounds_toArray, List.set_cons_zero, List.set_cons_succ]
              refine held_yes 9 rfl (by kernel_rfl) (by kernel_rfl) (by kernel_rfl) (fun _ _ _ _ h => h) (by rfl) (by assumption) ?_
              apply Exists.intro
              refine ⟨fun wq hSw => ?_, ?_⟩
              · (try dsimp only at hSw); go_simp; (try with_reducible rfl)
              try simp only [Act.put, List.setIfInBounds_toArray, List.set_cons_zero, List.set_cons_succ]
              refine held_yes 10 rfl (by kernel_rfl) (by kernel_rfl) (by kernel_rfl) (fun _ _ _ _ h => h) (by rfl) (by assumption) ?_
              apply Exists.intro
              refine ⟨fun wq hSw => ?_, ?_⟩
              · (try dsimp only at hSw); go_simp; (try with_reducible rfl)
              try simp only [Act.put, List.setIfInBounds_toArray, List.set_cons_zero, List.set_cons_succ]
              refine held_yes 11 rfl (by kernel_rfl) (by kernel_rfl) (by kernel_rfl) (fun _ _ _ _ h => h) (by rfl) (by assumption) ?_
              apply Exists.intro
              refine ⟨fun wq hSw => ?_, ?_⟩
              · (try dsimp only at hSw); go_simp; (try with_reducible rfl)
              try simp only [Act.put, List.setIfInBounds_toArray, List.set_cons_zero, List.set_cons_succ]
              refine held_yes 12 rfl (by kernel_rfl) (by kernel_rfl) (by kernel_rfl) (fun _ _ _ _ h => h) (by rfl) (by assumption) ?_
              apply Exists.intro
              refine ⟨fun wq hSw => ?_, ?_⟩
              · (try dsimp only at hSw); go_simp; (try with_reducible rfl)
              try simp only [Act.put, List.setIfInBounds_toArray, List.set_cons_zero, List.set_cons_succ]
              refine held_yes 13 rfl (by kernel_rfl) (by kernel_rfl) (by kernel_rfl) (fun _ _ _ _ h => h) (by rfl) (by assumption) ?_
              apply Exists.intro
              refine ⟨fun wq hSw => ?_, ?_⟩
              · (try dsimp only at hSw); go_simp; (try with_reducible rfl)
              try simp only [Act.put, List.setIfInBounds_toArray, List.set_cons_zero, List.set_cons_succ]
              refine held_yes 14 rfl (by kernel_rfl) (by kernel_rfl) (by kernel_rfl) (fun _ _ _ _ h => h) (by rfl) (by assumption) ?_
              apply Exists.intro
              refine ⟨fun wq hSw => ?_, ?_⟩
              · (try dsimp only at hSw); go_simp; (try with_reducible rfl)
              try simp only [Act.put, List.setIfInBounds_toArray, List.set_cons_zero, List.set_cons_succ]
              refine held_yes 15 rfl (by kernel_rfl) (by kernel_rfl) (by kernel_rfl) (fun _ _ _ _ h => h) (by rfl) (by assumption) ?_
              apply Exists.intro
              refine ⟨fun wq hSw => ?_, ?_⟩
              · (try dsimp only at hSw); go_simp; (try with_reducible rfl)
              try simp only [Act.put, List.setIfInBounds_toArray, List.set_cons_zero, List.set_cons_succ]
              refine held_yes 16 rfl (by kernel_rfl) (by kernel_rfl) (by kernel_rfl) (fun _ _ _ _ h => h) (by rfl) (by assumption) ?_
              apply Exists.intro
              refine ⟨fun wq hSw => ?_, ?_⟩
              · (try dsimp only at hSw); go_simp; (try with_reducible rfl)
              try simp only [Act.put, List.setIfInBounds_toArray, List.set_cons_zero, List.set_cons_succ]
              refine held_yes 17 rfl (by kernel_rfl) (by kernel_rfl) (by kernel_rfl) (fun _ _ _ _ h => h) (by rfl) (by assumption) ?_
              apply Exists.intro
              refine ⟨fun wq hSw => ?_, ?_⟩
              · (try dsimp only at hSw); go_simp; (try with_reducible rfl)
              try simp only [Act.put, List.setIfInBounds_toArray, List.set_cons_zero, List.set_cons_succ]
              refine held_yes 18 rfl (by kernel_rfl) (by kernel_rfl) (by kernel_rfl) (fun _ _ _ _ h => h) (by rfl) (by assumption) ?_
              apply Exists.intro
              refine ⟨fun wq hSw => ?_, ?_⟩
              · (try dsimp only at hSw); go_simp; (try with_reducible rfl)
              try simp only [Act.put, List.setIfInBounds_toArray, List.set_cons_zero, List.set_cons_succ]
              refine held_yes 19 rfl (by kernel_rfl) (by kernel_rfl) (by kernel_rfl) (fun _ _ _ _ h => h) (by rfl) (by assumption) ?_
              apply Exists.intro
              refine ⟨fun wq hSw => ?_, ?_⟩
              · (try dsimp only at hSw); go_simp; (try with_reducible rfl)
              try simp only [Act.put, List.setIfInBounds_toArray, List.set_cons_zero, List.set_cons_succ]
              refine held_yes 20 rfl (by kernel_rfl) (by kernel_rfl) (by kernel_rfl) (fun _ _ _ _ h => h) (by rfl) (by assumption) ?_
              apply Exists.intro
              refine ⟨fun wq hSw => ?_, ?_⟩
              · (try dsimp only at hSw); go_simp; (try with_reducible rfl)
              try simp only [Act.put, List.setIfInBounds_toArray, List.set_cons_zero, List.set_cons_succ]
              refine held_yes 21 rfl (by kernel_rfl) (by kernel_rfl) (by kernel_rfl) (fun _ _ _ _ h => h) (by rfl) (by assumption) ?_
              apply Exists.intro
              refine ⟨fun wq hSw => ?_, ?_⟩
              · (try dsimp only at hSw); go_simp; (try with_reducible rfl)
              try simp only [Act.put, List.setIfInBounds_toArray, List.set_cons_zero, List.set_cons_succ]
              refine held_yes 22 rfl (by kernel_rfl) (by kernel_rfl) (by kernel_rfl) (fun _ _ _ _ h => h) (by rfl) (by assumption) ?_
              apply Exists.intro
              refine ⟨fun wq hSw => ?_, ?_⟩
              · (try dsimp only at hSw); go_simp; (try with_reducible rfl)
              try simp only [Act.put, List.setIfInBounds_toArray, List.set_cons_zero, List.set_cons_succ]
              refine held_yes 23 rfl (by kernel_rfl) (by kernel_rfl) (by kernel_rfl) (fun _ _ _ _ h => h) (by rfl) (by assumption) ?_
              apply Exists.intro
              refine ⟨fun wq hSw => ?_, ?_⟩
              · (try dsimp only at hSw); go_simp; (try with_reducible rfl)
              try simp only [Act.put, List.setIfInBounds_toArray, List.set_cons_zero, List.set_cons_succ]
              refine held_yes 24 rfl (by kernel_rfl) (by kernel_rfl) (by kernel_rfl) (fun _ _ _ _ h => h) (by rfl) (by assumption) ?_
              apply Exists.intro
              refine ⟨fun wq hSw => ?_, ?_⟩
              · (try dsimp only at hSw); go_simp; (try with_reducible rfl)
              try simp only [Act.put, List.setIfInBounds_toArray, List.set_cons_zero, List.set_cons_succ]
              refine held_yes 25 rfl (by kernel_rfl) (by kernel_rfl) (by kernel_rfl) (fun _ _ _ _ h => h) (by rfl) (by assumption) ?_
              apply Exists.intro
              refine ⟨fun wq hSw => ?_, ?_⟩
              · (try dsimp only at hSw); go_simp; (try with_reducible rfl)
              try simp only [Act.put, List.setIfInBounds_toArray, List.set_cons_zero, List.set_cons_succ]
              refine held_yes 26 rfl (by kernel_rfl) (by kernel_rfl) (by kernel_rfl) (fun _ _ _ _ h => h) (by rfl) (by assumption) ?_
              apply Exists.intro
              refine ⟨fun wq hSw => ?_, ?_⟩
              · (try dsimp only at hSw); go_simp; (try with_reducible rfl)
              try simp only [Act.put, List.setIfInBounds_toArray, List.set_cons_zero, List.set_cons_succ]
              refine held_yes 27 rfl (by kernel_rfl) (by kernel_rfl) (by kernel_rfl) (fun _ _ _ _ h => h) (by rfl) (by assumption) ?_
              apply Exists.intro
              refine ⟨fun wq hSw => ?_, ?_⟩
              · (try dsimp only at hSw); go_simp; (try with_reducible rfl)
              try simp only [Act.put, List.setIfInBounds_toArray, List.set_cons_zero, List.set_cons_succ]
              refine held_yes 28 rfl (by kernel_rfl) (by kernel_rfl) (by kernel_rfl) (fun _ _ _ _ h => h) (by rfl) (by assumption) ?_
              apply Exists.intro
              refine ⟨fun wq hSw => ?_, ?_⟩
              · (try dsimp only at hSw); go_simp; (try with_reducible rfl)
              try simp only [Act.put, List.setIfInBounds_toArray, List.set_cons_zero, List.set_cons_succ]
              refine held_yes 29 rfl (by kernel_rfl) (by kernel_rfl) (by kernel_rfl) (fun _ _ _ _ h => h) (by rfl) (by assumption) ?_
              apply Exists.intro
              refine ⟨fun wq hSw => ?_, ?_⟩
              · (try dsimp only at hSw); go_simp; (try with_reducible rfl)
              try simp only [Act.put, List.setIfInBounds_toArray, List.set_cons_zero, List.set_cons_succ]
              refine held_yes 30 rfl (by kernel_rfl) (by kernel_rfl) (by kernel_rfl) (fun _ _ _ _ h => h) (by rfl) (by assumption) ?_
              apply Exists.intro
              refine ⟨fun wq hSw => ?_, ?_⟩
              · (try dsimp only at hSw); go_simp; (try with_reducible rfl)
              try simp only [Act.put, List.setIfInBounds_toArray, List.set_cons_zero, List.set_cons_succ]
              refine held_no 31 rfl (by kernel_rfl) (by kernel_rfl) (by kernel_rfl) (fun _ _ _ _ h => h) (by rfl) (by assumption) ?_
              try simp only [Act.put, List.setIfInBounds_toArray, List.set_cons_zero, List.set_cons_succ]
              refine held_no 32 rfl (by kernel_rfl) (by kernel_rfl) (by kernel_rfl) (fun _ _ _ _ h => h) (by rfl) (by assumption) ?_
              try simp only [Act.put, List.setIfInBounds_toArray, List.set_cons_zero, List.set_cons_succ]
              refine held_no 33 rfl (by kernel_rfl) (by kernel_rfl) (by kernel_rfl) (fun _ _ _ _ h => h) (by rfl) (by assumption) ?_
              try simp only [Act.put, List.setIfInBounds_toArray, List.set_cons_zero, List.set_cons_succ]
              refine held_yes 34 rfl (by kernel_rfl) (by kernel_rfl) (by kernel_rfl) (fun _ _ _ _ h => h) (by rfl) (by assumption) ?_
              apply Exists.intro
              refine ⟨fun wq hSw => ?_, ?_⟩
              · (try dsimp only at hSw); go_simp; (try with_reducible rfl)
              try simp only [Act.put, List.setIfInBounds_toArray, List.set_cons_zero, List.set_cons_succ]
              refine held_yes 35 rfl (by kernel_rfl) (by kernel_rfl) (by kernel_rfl) (fun _ _ _ _ h => h) (by rfl) (by assumption) ?_
              apply Exists.intro
              refine ⟨fun wq hSw => ?_, ?_⟩
              · (try dsimp only at hSw); go_simp; (try with_reducible rfl)
              try simp only [Act.put, List.setIfInBounds_toArray, List.set_cons_zero, List.set_cons_succ]
              refine held_yes 36 rfl (by kernel_rfl) (by kernel_rfl) (by kernel_rfl) (fun _ _ _ _ h => h) (by rfl) (by assumption) ?_
              apply Exists.intro
              refine ⟨fun wq hSw => ?_, ?_⟩
              · (try dsimp only at hSw); go_simp; (try with_reducible rfl)
              try simp only [Act.put, List.setIfInBounds_toArray, List.set_cons_zero, List.set_cons_succ]
              refine held_yes 37 rfl (by kernel_rfl) (by kernel_rfl) (by kernel_rfl) (fun _ _ _ _ h => h) (by rfl) (by assumption) ?_
              apply Exists.intro
              refine ⟨fun wq hSw => ?_, ?_⟩
              · (try dsimp only at hSw); go_simp; (try with_reducible rfl)
              try simp only [Act.put, List.setIfInBounds_toArray, List.set_cons_zero, List.set_cons_succ]
              refine held_yes 38 rfl (by kernel_rfl) (by kernel_rfl) (by kernel_rfl) (fun _ _ _ _ h => h) (by rfl) (by assumption) ?_
              apply Exists.intro
              refine ⟨fun wq hSw => ?_, ?_⟩
              · (try dsimp only at hSw); go_simp; (try with_reducible rfl)
              try simp only [Act.put, List.setIfInBounds_toArray, List.set_cons_zero, List.set_cons_succ]
              refine held_yes 39 rfl (by kernel_rfl) (by kernel_rfl) (by kernel_rfl) (fun _ _ _ _ h => h) (by rfl) (by assumption) ?_
              apply Exists.intro
              refine ⟨fun wq hSw => ?_, ?_⟩
              · (try dsimp only at hSw); go_simp; (try with_reducible rfl)
              try simp only [Act.put, List.setIfInBounds_toArray, List.set_cons_zero, List.set_cons_succ]
              refine held_yes 41 rfl (by kernel_rfl) (by kernel_rfl) (by kernel_rfl) (fun _ _ _ _ h => h) (by rfl) (by assumption) ?_
              apply Exists.intro
              refine ⟨fun wq hSw => ?_, ?_⟩
              · (try dsimp only at hSw); go_simp; (try with_reducible rfl)
              try simp only [Act.put, List.setIfInBounds_toArray, List.set_cons_zero, List.set_cons_succ]
              refine held_yes 42 rfl (by kernel_rfl) (by kernel_rfl) (by kernel_rfl) (fun _ _ _ _ h => h) (by rfl) (by assumption) ?_
              apply Exists.intro
              refine ⟨fun wq hSw => ?_, ?_⟩
              · (try dsimp only at hSw); go_simp; (try with_reducible rfl)
              try simp only [Act.put, List.setIfInBounds_toArray, List.set_cons_zero, List.set_cons_succ]
              refine held_yes 43 rfl (by kernel_rfl) (by kernel_rfl) (by kernel_rfl) (fun _ _ _ _ h => h) (by rfl) (by assumption) ?_
              apply Exists.intro
              refine ⟨fun wq hSw => ?_, ?_⟩
              · (try dsimp only at hSw); go_simp; (try with_reducible rfl)
              try simp only [Act.put, List.setIfInBounds_toArray, List.set_cons_zero, List.set_cons_succ]
              refine held_one 40 rfl (by kernel_rfl) (fun K hK => ?_)
              go_simp
              refine (count_any _ _ _ _ _ _ _ _ _ _ xn xr HRe.out.lay (by omega) (by omega)).mono ?_
              rintro e w6 ⟨rfl, hb6⟩
              refine hK.out _ _ ⟨below_cell hb6 hHeld.1, below_cell hb6 hHeld.2.1, below_cell hb6 hHeld.2.2.1, below_cell hb6 hHeld.2.2.2.1, below_cell hb6 hHeld.2.2.2.2.1, below_cell hb6 hHeld.2.2.2.2.2.1, below_cell hb6 hHeld.2.2.2.2.2.2.1, below_cell hb6 hHeld.2.2.2.2.2.2.2.1, below_cell hb6 hHeld.2.2.2.2.2.2.2.2.1, below_cell hb6 hHeld.2.2.2.2.2.2.2.2.2⟩ (fun hHeld => ?_)
              clear hK K
              try simp only [Act.put, List.setIfInBounds_toArray, List.set_cons_zero, List.set_cons_succ]
              refine held_one 44 rfl (by kernel_rfl) (fun K hK => ?_)
              go_simp
              refine (countR_any _ _ _ _ _ _ _ _ _ _ xn xr (HRe.out.ref.below hb6 HRe.out.ref.size) (by omega) (by omega)).mono ?_
              rintro e w7 ⟨rfl, hb7⟩
              refine hK.out _ _ ⟨below_cell hb7 hHeld.1, below_cell hb7 hHeld.2.1, below_cell hb7 hHeld.2.2.1, below_cell hb7 hHeld.2.2.2.1, below_cell hb7 hHeld.2.2.2.2.1, below_cell hb7 hHeld.2.2.2.2.2.1, below_cell hb7 hHeld.2.2.2.2.2.2.1, below_cell hb7 hHeld.2.2.2.2.2.2.2.1, below_cell hb7 hHeld.2.2.2.2.2.2.2.2.1, below_cell hb7 hHeld.2.2.2.2.2.2.2.2.2⟩ (fun hHeld => ?_)
              clear hK K
              try simp only [Act.put, List.setIfInBounds_toArray, List.set_cons_zero, List.set_cons_succ]
              refine held_yes 45 rfl (by kernel_rfl) (by kernel_rfl) (by kernel_rfl) (fun _ _ _ _ h => h) (by rfl) (by assumption) ?_
              apply Exists.intro
              refine ⟨fun wq hSw => ?_, ?_⟩
              · (try dsimp only at hSw); go_simp; (try with_reducible rfl)
              try simp only [Act.put, List.setIfInBounds_toArray, List.set_cons_zero, List.set_cons_succ]
              refine held_yes 46 rfl (by kernel_rfl) (by kernel_rfl) (by kernel_rfl) (fun _ _ _ _ h => h) (by rfl) (by assumption) ?_
              apply Exists.intro
              refine ⟨fun wq hSw => ?_, ?_⟩
              · (try dsimp only at hSw); go_simp; (try with_reducible rfl)
              try simp only [Act.put, List.setIfInBounds_toArray, List.set_cons_zero, List.set_cons_succ]
              refine wpAnyH_done (by kernel_rfl) ?_ _
              have HR7 := Lib.hid ((HRe.out.step hb6 (Nat.le_refl _)).step hb7 (Nat.le_refl _))
              clear hb6 hb7 hHeld HRe
              go_wp2_with fail
              go_meet
              case rel => exact ⟨rfl, HR7.out⟩
            case rest =>
              obtain ⟨rfl, hrx⟩ := hcut
              have HRx := Lib.hid hrx
              clear hrx z0 z1 z2 z3 z4 z5 z6 z7 z8 z9 hze HRe
              go_wp2_with fail
              go_roundw
              case rel => exact ⟨k + 1, V', by omega, by omega, by go_num, HRx.out⟩
              case measure => simp [intOf]; omega
        · go_wp2_with fail
          refine (has_no _ _ _ _ _ _ _ _ _ _ HRc.out.ref (by omega) (by omega) xm xs hin).mono ?_
          rintro e w4 ⟨rfl, rfl⟩
          go_wp2_with fail
          refine (set_out _ _ _ _ _ _ _ _ _ _ xn xr HRc.out.lay (by omega) (by omega) xm xs hin).mono ?_
          rintro e w4 ⟨rfl, rfl⟩
          go_wp2_with fail
          refine (get_no _ _ _ _ _ _ _ _ _ _ (HRc.out.lay.alloc _) (by omega) (by omega) xm xs hin).mono ?_
          rintro e w4 ⟨rfl, rfl⟩
          go_upto_region 25 with (fail)
          obtain ⟨O1, hO1⟩ : ∃ O1 : Obj, O1 = .cells #[.int .i64 xn, .int .u64 xr] 32 := ⟨_, rfl⟩
          obtain ⟨O2, hO2⟩ : ∃ O2 : Obj, O2 = .cells #[.int .i64 0, .int .u64 0] 32 := ⟨_, rfl⟩
          have HRe := Lib.hid (HRc.out.step ((((Below.refl _ _).alloc (Nat.le_refl _) O1).alloc (by simp) O2).alloc (by simp; omega) O2) (Nat.le_refl _))
          have z0 := (World.cell?_alloc_lt ((wc.alloc O1).alloc O2) O2 _ (by simp; omega)).trans ((World.cell?_alloc_lt (wc.alloc O1) O2 _ (by simp; omega)).trans ((World.cell?_alloc_lt wc O1 _ (by simpa using hwx)).trans x0))
          have z1 := (World.cell?_alloc_lt ((wc.alloc O1).alloc O2) O2 _ (by simp; omega)).trans ((World.cell?_alloc_lt (wc.alloc O1) O2 _ (by simp; omega)).trans ((World.cell?_alloc_lt wc O1 _ (by simpa using hwx)).trans x1))
          have z2 := (World.cell?_alloc_lt ((wc.alloc O1).alloc O2) O2 _ (by simp; omega)).trans ((World.cell?_alloc_lt (wc.alloc O1) O2 _ (by simp; omega)).trans ((World.cell?_alloc_lt wc O1 _ (by simpa using hwx)).trans x2))
          have z3 := (World.cell?_alloc_lt ((wc.alloc O1).alloc O2) O2 _ (by simp; omega)).trans ((World.cell?_alloc_lt (wc.alloc O1) O2 _ (by simp; omega)).trans ((World.cell?_alloc_lt wc O1 _ (by simpa using hwx)).trans x3))
          have z4 : (((wc.alloc O1).alloc (.cells #[.int .i64 0, .int .u64 0] 32)).alloc (.cells #[.int .i64 0, .int .u64 0] 32)).cell? ⟨wc.heap.size + 2, 0, none⟩ = some (.int .i64 0) := by go_simp
          have z5 : (((wc.alloc O1).alloc (.cells #[.int .i64 0, .int .u64 0] 32)).alloc (.cells #[.int .i64 0, .int .u64 0] 32)).cell? ⟨wc.heap.size + 2, 1, none⟩ = some (.int .u64 0) := by go_simp
          rw [← hO2] at z4 z5
          obtain ⟨t, ht⟩ : ∃ t, t = wc.heap.size + 2 := ⟨_, rfl⟩
          rw [← ht] at z4 z5 ⊢
          rw [← hO1, ← hO2]
          clear ht HRc x0 x1 x2 x3 hO1 hO2
          generalize ((wc.alloc O1).alloc O2).alloc O2 = wE at z0 z1 z2 z3 z4 z5 HRe ⊢
          clear hwx
          go_cut [188] (fun v wc => v = .bool false ∧ PlayRel w wc p q M S hi lj hj rb rq cq bs bq V)
          case first =>
            have hS : (fun w' : World => w'.cell? ⟨wr.heap.size, 0, none⟩ = some (.int .i64 xm) ∧ w'.cell? ⟨wr.heap.size, 1, none⟩ = some (.int .i64 xs) ∧ w'.cell? ⟨wr.heap.size, 2, none⟩ = some (.int .i64 xn) ∧ w'.cell? ⟨wr.heap.size, 3, none⟩ = some (.int .u64 xr) ∧ w'.cell? ⟨t, 0, none⟩ = some (.int .i64 0) ∧ w'.cell? ⟨t, 1, none⟩ = some (.int .u64 0)) wE := ⟨z0, z1, z2, z3, z4, z5⟩
            clear z0 z1 z2 z3 z4 z5
            refine wp_region_held_drew (S := fun w' => w'.cell? ⟨wr.heap.size, 0, none⟩ = some (.int .i64 xm) ∧ w'.cell? ⟨wr.heap.size, 1, none⟩ = some (.int .i64 xs) ∧ w'.cell? ⟨wr.heap.size, 2, none⟩ = some (.int .i64 xn) ∧ w'.cell? ⟨wr.heap.size, 3, none⟩ = some (.int .u64 xr) ∧ w'.cell? ⟨t, 0, none⟩ = some (.int .i64 0) ∧ w'.cell? ⟨t, 1, none⟩ = some (.int .u64 0)) (by kernel_rfl) hS (fun hHeld => ?_)
            clear hS
            have HRe := Lib.hid (HRe.out.step (Below.refl _ _).drew (Nat.le_refl _))
            refine held_yes 0 rfl (by kernel_rfl) (by kernel_rfl) (by kernel_rfl) (fun _ _ _ _ h => h) (by rfl) (by assumption) ?_
            apply Exists.intro
            refine ⟨fun wq hSw => ?_, ?_⟩
            · (try dsimp only at hSw); go_simp; (try with_reducible rfl)
            try simp only [Act.put, List.setIfInBounds_toArray, List.set_cons_zero, List.set_cons_succ]
            refine held_yes 1 rfl (by kernel_rfl) (by kernel_rfl) (by kernel_rfl) (fun _ _ _ _ h => h) (by rfl) (by assumption) ?_
            apply Exists.intro
            refine ⟨fun wq hSw => ?_, ?_⟩
            · (try dsimp only at hSw); go_simp; (try with_reducible rfl)
            try simp only [Act.put, List.setIfInBounds_toArray, List.set_cons_zero, List.set_cons_succ]
            refine held_yes 2 rfl (by kernel_rfl) (by kernel_rfl) (by kernel_rfl) (fun _ _ _ _ h => h) (by rfl) (by assumption) ?_
            apply Exists.intro
            refine ⟨fun wq hSw => ?_, ?_⟩
            · (try dsimp only at hSw); go_simp; (try with_reducible rfl)
            try simp only [Act.put, List.setIfInBounds_toArray, List.set_cons_zero, List.set_cons_succ]
            refine held_yes 3 rfl (by kernel_rfl) (by kernel_rfl) (by kernel_rfl) (fun _ _ _ _ h => h) (by rfl) (by assumption) ?_
            apply Exists.intro
            refine ⟨fun wq hSw => ?_, ?_⟩
            · (try dsimp only at hSw); go_simp; (try with_reducible rfl)
            try simp only [Act.put, List.setIfInBounds_toArray, List.set_cons_zero, List.set_cons_succ]
            refine held_yes 4 rfl (by kernel_rfl) (by kernel_rfl) (by kernel_rfl) (fun _ _ _ _ h => h) (by rfl) (by assumption) ?_
            apply Exists.intro
            refine ⟨fun wq hSw => ?_, ?_⟩
            · (try dsimp only at hSw); go_simp; (try with_reducible rfl)
            try simp only [Act.put, List.setIfInBounds_toArray, List.set_cons_zero, List.set_cons_succ]
            refine held_yes 5 rfl (by kernel_rfl) (by kernel_rfl) (by kernel_rfl) (fun _ _ _ _ h => h) (by rfl) (by assumption) ?_
            apply Exists.intro
            refine ⟨fun wq hSw => ?_, ?_⟩
            · (try dsimp only at hSw); go_simp; (try with_reducible rfl)
            try simp only [Act.put, List.setIfInBounds_toArray, List.set_cons_zero, List.set_cons_succ]
            refine held_one 6 rfl (by kernel_rfl) (fun K hK => ?_)
            go_simp
            refine (has_no _ _ _ _ _ _ _ _ _ _ HRe.out.ref (by omega) (by omega) xm xs hin).mono ?_
            rintro e w' ⟨rfl, rfl⟩
            refine hK.out _ _ hHeld (fun hHeld => ?_)
            clear hK K
            try simp only [Act.put, List.setIfInBounds_toArray, List.set_cons_zero, List.set_cons_succ]
            refine held_yes 7 rfl (by kernel_rfl) (by kernel_rfl) (by kernel_rfl) (fun _ _ _ _ h => h) (by rfl) (by assumption) ?_
            apply Exists.intro
            refine ⟨fun wq hSw => ?_, ?_⟩
            · (try dsimp only at hSw); go_simp; (try with_reducible rfl)
            try simp only [Act.put, List.setIfInBounds_toArray, List.set_cons_zero, List.set_cons_succ]
            refine held_yes 8 rfl (by kernel_rfl) (by kernel_rfl) (by kernel_rfl) (fun _ _ _ _ h => h) (by rfl) (by assumption) ?_
            apply Exists.intro
            refine ⟨fun wq hSw => ?_, ?_⟩
            · (try dsimp only at hSw); go_simp; (try with_reducible rfl)
            try simp only [Act.put, List.setIfInBounds_toArray, List.set_cons_zero, List.set_cons_succ]
            refine held_yes 9 rfl (by kernel_rfl) (by kernel_rfl) (by kernel_rfl) (fun _ _ _ _ h => h) (by rfl) (by assumption) ?_
            apply Exists.intro
            refine ⟨fun wq hSw => ?_, ?_⟩
            · (try dsimp only at hSw); go_simp; (try with_reducible rfl)
            try simp only [Act.put, List.setIfInBounds_toArray, List.set_cons_zero, List.set_cons_succ]
            refine held_yes 10 rfl (by kernel_rfl) (by kernel_rfl) (by kernel_rfl) (fun _ _ _ _ h => h) (by rfl) (by assumption) ?_
            apply Exists.intro
            refine ⟨fun wq hSw => ?_, ?_⟩
            · (try dsimp only at hSw); go_simp; (try with_reducible rfl)
            try simp only [Act.put, List.setIfInBounds_toArray, List.set_cons_zero, List.set_cons_succ]
            refine held_no 11 rfl (by kernel_rfl) (by kernel_rfl) (by kernel_rfl) (fun _ _ _ _ h => h) (by rfl) (by assumption) ?_
            try simp only [Act.put, List.setIfInBounds_toArray, List.set_cons_zero, List.set_cons_succ]
            refine held_no 12 rfl (by kernel_rfl) (by kernel_rfl) (by kernel_rfl) (fun _ _ _ _ h => h) (by rfl) (by assumption) ?_
            try simp only [Act.put, List.setIfInBounds_toArray, List.set_cons_zero, List.set_cons_succ]
            refine held_no 13 rfl (by kernel_rfl) (by kernel_rfl) (by kernel_rfl) (fun _ _ _ _ h => h) (by rfl) (by assumption) ?_
            try simp only [Act.put, List.setIfInBounds_toArray, List.set_cons_zero, List.set_cons_succ]
            refine held_no 14 rfl (by kernel_rfl) (by kernel_rfl) (by kernel_rfl) (fun _ _ _ _ h => h) (by rfl) (by assumption) ?_
            try simp only [Act.put, List.setIfInBounds_toArray, List.set_cons_zero, List.set_cons_succ]
            refine held_no 15 rfl (by kernel_rfl) (by kernel_rfl) (by kernel_rfl) (fun _ _ _ _ h => h) (by rfl) (by assumption) ?_
            try simp only [Act.put, List.setIfInBounds_toArray, List.set_cons_zero, List.set_cons_succ]
            refine held_no 16 rfl (by kernel_rfl) (by kernel_rfl) (by kernel_rfl) (fun _ _ _ _ h => h) (by rfl) (by assumption) ?_
            try simp only [Act.put, List.setIfInBounds_toArray, List.set_cons_zero, List.set_cons_succ]
            refine held_no 17 rfl (by kernel_rfl) (by kernel_rfl) (by kernel_rfl) (fun _ _ _ _ h => h) (by rfl) (by assumption) ?_
            try simp only [Act.put, List.setIfInBounds_toArray, List.set_cons_zero, List.set_cons_succ]
            refine held_no 18 rfl (by kernel_rfl) (by kernel_rfl) (by kernel_rfl) (fun _ _ _ _ h => h) (by rfl) (by assumption) ?_
            try simp only [Act.put, List.setIfInBounds_toArray, List.set_cons_zero, List.set_cons_succ]
            refine held_no 19 rfl (by kernel_rfl) (by kernel_rfl) (by kernel_rfl) (fun _ _ _ _ h => h) (by rfl) (by assumption) ?_
            try simp only [Act.put, List.setIfInBounds_toArray, List.set_cons_zero, List.set_cons_succ]
            refine held_no 20 rfl (by kernel_rfl) (by kernel_rfl) (by kernel_rfl) (fun _ _ _ _ h => h) (by rfl) (by assumption) ?_
            try simp only [Act.put, List.setIfInBounds_toArray, List.set_cons_zero, List.set_cons_succ]
            refine held_no 21 rfl (by kernel_rfl) (by kernel_rfl) (by kernel_rfl) (fun _ _ _ _ h => h) (by rfl) (by assumption) ?_
            try simp only [Act.put, List.setIfInBounds_toArray, List.set_cons_zero, List.set_cons_succ]
            refine held_no 22 rfl (by kernel_rfl) (by kernel_rfl) (by kernel_rfl) (fun _ _ _ _ h => h) (by rfl) (by assumption) ?_
            try simp only [Act.put, List.setIfInBounds_toArray, List.set_cons_zero, List.set_cons_succ]
            refine held_no 23 rfl (by kernel_rfl) (by kernel_rfl) (by kernel_rfl) (fun _ _ _ _ h => h) (by rfl) (by assumption) ?_
            try simp only [Act.put, List.setIfInBounds_toArray, List.set_cons_zero, List.set_cons_succ]
            refine held_no 24 rfl (by kernel_rfl) (by kernel_rfl) (by kernel_rfl) (fun _ _ _ _ h => h) (by rfl) (by assumption) ?_
            try simp only [Act.put, List.setIfInBounds_toArray, List.set_cons_zero, List.set_cons_succ]
            refine held_yes 25 rfl (by kernel_rfl) (by kernel_rfl) (by kernel_rfl) (fun _ _ _ _ h => h) (by rfl) (by assumption) ?_
            apply Exists.intro
            refine ⟨fun wq hSw => ?_, ?_⟩
            · (try dsimp only at hSw); go_simp; (try with_reducible rfl)
            try simp only [Act.put, List.setIfInBounds_toArray, List.set_cons_zero, List.set_cons_succ]
            refine held_yes 26 rfl (by kernel_rfl) (by kernel_rfl) (by kernel_rfl) (fun _ _ _ _ h => h) (by rfl) (by assumption) ?_
            apply Exists.intro
            refine ⟨fun wq hSw => ?_, ?_⟩
            · (try dsimp only at hSw); go_simp; (try with_reducible rfl)
            try simp only [Act.put, List.setIfInBounds_toArray, List.set_cons_zero, List.set_cons_succ]
            refine held_yes 27 rfl (by kernel_rfl) (by kernel_rfl) (by kernel_rfl) (fun _ _ _ _ h => h) (by rfl) (by assumption) ?_
            apply Exists.intro
            refine ⟨fun wq hSw => ?_, ?_⟩
            · (try dsimp only at hSw); go_simp; (try with_reducible rfl)
            try simp only [Act.put, List.setIfInBounds_toArray, List.set_cons_zero, List.set_cons_succ]
            refine held_yes 28 rfl (by kernel_rfl) (by kernel_rfl) (by kernel_rfl) (fun _ _ _ _ h => h) (by rfl) (by assumption) ?_
            apply Exists.intro
            refine ⟨fun wq hSw => ?_, ?_⟩
            · (try dsimp only at hSw); go_simp; (try with_reducible rfl)
            try simp only [Act.put, List.setIfInBounds_toArray, List.set_cons_zero, List.set_cons_succ]
            refine held_yes 29 rfl (by kernel_rfl) (by kernel_rfl) (by kernel_rfl) (fun _ _ _ _ h => h) (by rfl) (by assumption) ?_
            apply Exists.intro
            refine ⟨fun wq hSw => ?_, ?_⟩
            · (try dsimp only at hSw); go_simp; (try with_reducible rfl)
            try simp only [Act.put, List.setIfInBounds_toArray, List.set_cons_zero, List.set_cons_succ]
            refine held_yes 30 rfl (by kernel_rfl) (by kernel_rfl) (by kernel_rfl) (fun _ _ _ _ h => h) (by rfl) (by assumption) ?_
            apply Exists.intro
            refine ⟨fun wq hSw => ?_, ?_⟩
            · (try dsimp only at hSw); go_simp; (try with_reducible rfl)
            try simp only [Act.put, List.setIfInBounds_toArray, List.set_cons_zero, List.set_cons_succ]
            refine held_yes 31 rfl (by kernel_rfl) (by kernel_rfl) (by kernel_rfl) (fun _ _ _ _ h => h) (by rfl) (by assumption) ?_
            apply Exists.intro
            refine ⟨fun wq hSw => ?_, ?_⟩
            · (try dsimp only at hSw); go_simp; (try with_reducible rfl)
            try simp only [Act.put, List.setIfInBounds_toArray, List.set_cons_zero, List.set_cons_succ]
            refine held_yes 32 rfl (by kernel_rfl) (by kernel_rfl) (by kernel_rfl) (fun _ _ _ _ h => h) (by rfl) (by assumption) ?_
            apply Exists.intro
            refine ⟨fun wq hSw => ?_, ?_⟩
            · (try dsimp only at hSw); go_simp; (try with_reducible rfl)
            try simp only [Act.put, List.setIfInBounds_toArray, List.set_cons_zero, List.set_cons_succ]
            refine held_yes 33 rfl (by kernel_rfl) (by kernel_rfl) (by kernel_rfl) (fun _ _ _ _ h => h) (by rfl) (by assumption) ?_
            apply Exists.intro
            refine ⟨fun wq hSw => ?_, ?_⟩
            · (try dsimp only at hSw); go_simp; (try with_reducible rfl)
            try simp only [Act.put, List.setIfInBounds_toArray, List.set_cons_zero, List.set_cons_succ]
            refine held_yes 34 rfl (by kernel_rfl) (by kernel_rfl) (by kernel_rfl) (fun _ _ _ _ h => h) (by rfl) (by assumption) ?_
            apply Exists.intro
            refine ⟨fun wq hSw => ?_, ?_⟩
            · (try dsimp only at hSw); go_simp; (try with_reducible rfl)
            try simp only [Act.put, List.setIfInBounds_toArray, List.set_cons_zero, List.set_cons_succ]
            refine held_yes 35 rfl (by kernel_rfl) (by kernel_rfl) (by kernel_rfl) (fun _ _ _ _ h => h) (by rfl) (by assumption) ?_
            apply Exists.intro
            refine ⟨fun wq hSw => ?_, ?_⟩
            · (try dsimp only at hSw); go_simp; (try with_reducible rfl)
            try simp only [Act.put, List.setIfInBounds_toArray, List.set_cons_zero, List.set_cons_succ]
            refine held_yes 36 rfl (by kernel_rfl) (by kernel_rfl) (by kernel_rfl) (fun _ _ _ _ h => h) (by rfl) (by assumption) ?_
            apply Exists.intro
            refine ⟨fun wq hSw => ?_, ?_⟩
            · (try dsimp only at hSw); go_simp; (try with_reducible rfl)
            try simp only [Act.put, List.setIfInBounds_toArray, List.set_cons_zero, List.set_cons_succ]
            refine held_yes 37 rfl (by kernel_rfl) (by kernel_rfl) (by kernel_rfl) (fun _ _ _ _ h => h) (by rfl) (by assumption) ?_
            apply Exists.intro
            refine ⟨fun wq hSw => ?_, ?_⟩
            · (try dsimp only at hSw); go_simp; (try with_reducible rfl)
            try simp only [Act.put, List.setIfInBounds_toArray, List.set_cons_zero, List.set_cons_succ]
            refine held_yes 38 rfl (by kernel_rfl) (by kernel_rfl) (by kernel_rfl) (fun _ _ _ _ h => h) (by rfl) (by assumption) ?_
            apply Exists.intro
            refine ⟨fun wq hSw => ?_, ?_⟩
            · (try dsimp only at hSw); go_simp; (try with_reducible rfl)
            try simp only [Act.put, List.setIfInBounds_toArray, List.set_cons_zero, List.set_cons_succ]
            refine held_yes 39 rfl (by kernel_rfl) (by kernel_rfl) (by kernel_rfl) (fun _ _ _ _ h => h) (by rfl) (by assumption) ?_
            apply Exists.intro
            refine ⟨fun wq hSw => ?_, ?_⟩
            · (try dsimp only at hSw); go_simp; (try with_reducible rfl)
            try simp only [Act.put, List.setIfInBounds_toArray, List.set_cons_zero, List.set_cons_succ]
            refine held_yes 41 rfl (by kernel_rfl) (by kernel_rfl) (by kernel_rfl) (fun _ _ _ _ h => h) (by rfl) (by assumption) ?_
            apply Exists.intro
            refine ⟨fun wq hSw => ?_, ?_⟩
            · (try dsimp only at hSw); go_simp; (try with_reducible rfl)
            try simp only [Act.put, List.setIfInBounds_toArray, List.set_cons_zero, List.set_cons_succ]
            refine held_yes 42 rfl (by kernel_rfl) (by kernel_rfl) (by kernel_rfl) (fun _ _ _ _ h => h) (by rfl) (by assumption) ?_
            apply Exists.intro
            refine ⟨fun wq hSw => ?_, ?_⟩
            · (try dsimp only at hSw); go_simp; (try with_reducible rfl)
            try simp only [Act.put, List.setIfInBounds_toArray, List.set_cons_zero, List.set_cons_succ]
            refine held_yes 43 rfl (by kernel_rfl) (by kernel_rfl) (by kernel_rfl) (fun _ _ _ _ h => h) (by rfl) (by assumption) ?_
            apply Exists.intro
            refine ⟨fun wq hSw => ?_, ?_⟩
            · (try dsimp only at hSw); go_simp; (try with_reducible rfl)
            try simp only [Act.put, List.setIfInBounds_toArray, List.set_cons_zero, List.set_cons_succ]
            refine held_one 40 rfl (by kernel_rfl) (fun K hK => ?_)
            go_simp
            refine (count_any _ _ _ _ _ _ _ _ _ _ xn xr HRe.out.lay (by omega) (by omega)).mono ?_
            rintro e w6 ⟨rfl, hb6⟩
            refine hK.out _ _ ⟨below_cell hb6 hHeld.1, below_cell hb6 hHeld.2.1, below_cell hb6 hHeld.2.2.1, below_cell hb6 hHeld.2.2.2.1, below_cell hb6 hHeld.2.2.2.2.1, below_cell hb6 hHeld.2.2.2.2.2⟩ (fun hHeld => ?_)
            clear hK K
            try simp only [Act.put, List.setIfInBounds_toArray, List.set_cons_zero, List.set_cons_succ]
            refine held_one 44 rfl (by kernel_rfl) (fun K hK => ?_)
            go_simp
            refine (countR_any _ _ _ _ _ _ _ _ _ _ xn xr (HRe.out.ref.below hb6 HRe.out.ref.size) (by omega) (by omega)).mono ?_
            rintro e w7 ⟨rfl, hb7⟩
            refine hK.out _ _ ⟨below_cell hb7 hHeld.1, below_cell hb7 hHeld.2.1, below_cell hb7 hHeld.2.2.1, below_cell hb7 hHeld.2.2.2.1, below_cell hb7 hHeld.2.2.2.2.1, below_cell hb7 hHeld.2.2.2.2.2⟩ (fun hHeld => ?_)
            clear hK K
            try simp only [Act.put, List.setIfInBounds_toArray, List.set_cons_zero, List.set_cons_succ]
            refine held_yes 45 rfl (by kernel_rfl) (by kernel_rfl) (by kernel_rfl) (fun _ _ _ _ h => h) (by rfl) (by assumption) ?_
            apply Exists.intro
            refine ⟨fun wq hSw => ?_, ?_⟩
            · (try dsimp only at hSw); go_simp; (try with_reducible rfl)
            try simp only [Act.put, List.setIfInBounds_toArray, List.set_cons_zero, List.set_cons_succ]
            refine held_yes 46 rfl (by kernel_rfl) (by kernel_rfl) (by kernel_rfl) (fun _ _ _ _ h => h) (by rfl) (by assumption) ?_
            apply Exists.intro
            refine ⟨fun wq hSw => ?_, ?_⟩
            · (try dsimp only at hSw); go_simp; (try with_reducible rfl)
            try simp only [Act.put, List.setIfInBounds_toArray, List.set_cons_zero, List.set_cons_succ]
            refine wpAnyH_done (by kernel_rfl) ?_ _
            have HR7 := Lib.hid ((HRe.out.step hb6 (Nat.le_refl _)).step hb7 (Nat.le_refl _))
            clear hb6 hb7 hHeld HRe
            go_wp2_with fail
            go_meet
            case rel => exact ⟨rfl, HR7.out⟩
          case rest =>
            obtain ⟨rfl, hrx⟩ := hcut
            have HRx := Lib.hid hrx
            clear hrx z0 z1 z2 z3 z4 z5 HRe
            go_wp2_with fail
            go_roundw
            case rel => exact ⟨k + 1, V, by omega, by omega, by go_num, HRx.out⟩
            case measure => simp [intOf]; omega
    · obtain ⟨wA, rfl⟩ : ∃ wA : World, wA = wr := ⟨_, rfl⟩
      have hways : ¬ k < len2 ∨ (k < len2 ∧ ¬ k < 300) := by omega
      clear hgo hbel HZ HOK hwz
      have Hof : Hid (∀ m : Int, ∃ l, (l.length : Int) ≤ 1000000 ∧ (∀ wx, Lay wx p M S V w.heap.size hi rb M bs → Calls Try.prog 18 #[.pointer (some ⟨p, 0, none⟩), .int .i64 m] wx (ListPost l wx)) ∧ (∀ wx, Lay wx q M S V lj hj rq cq bq → Calls Try.prog 19 #[.pointer (some ⟨q, 0, none⟩), .int .i64 m] wx (ListPost l wx))) := by
        refine Lib.hid fun m => ?_
        by_cases h : 0 ≤ m ∧ m < M
        · obtain ⟨m, rfl⟩ := Int.eq_ofNat_of_zero_le h.1
          have hl := heldL_length (V m) S
          exact ⟨heldL (V m) S, by omega, fun wx hx => of_yes _ _ _ _ _ _ _ _ _ _ hx (by omega) (by omega) m (by omega), fun wx hx => ofR_yes _ _ _ _ _ _ _ _ _ _ hx (by omega) (by omega) m (by omega)⟩
        · exact ⟨[], by simp, fun wx hx => of_no _ _ _ _ _ _ _ _ _ _ hx (by omega) m h, fun wx hx => ofR_no _ _ _ _ _ _ _ _ _ _ hx (by omega) m h⟩
      have Hall : Hid (∃ l, (l.length : Int) ≤ 1000000 ∧ (∀ wx, Lay wx p M S V w.heap.size hi rb M bs → Calls Try.prog 20 #[.pointer (some ⟨p, 0, none⟩)] wx (ListPost l wx)) ∧ (∀ wx, Lay wx q M S V lj hj rq cq bq → Calls Try.prog 21 #[.pointer (some ⟨q, 0, none⟩)] wx (ListPost l wx))) := by
        have hl := allL_length V S M
        have hb : M * S ≤ 4 * 8 := Nat.mul_le_mul (by omega) (by omega)
        exact Lib.hid ⟨allL V S M, by omega, fun wx hx => all_any _ _ _ _ _ _ _ _ _ _ hx (by omega) (by omega), fun wx hx => allR_any _ _ _ _ _ _ _ _ _ _ hx (by omega) (by omega)⟩
      rcases hways with hlt | ⟨hlt, h5⟩
      all_goals
        go_wp2_with fail
        go_loopw [15] (fun i wr => ∃ j : Nat, j ≤ M + 2 ∧ i = .int .i64 ((j : Int) - 1) ∧ PlayRel w wr p q M S hi lj hj rb rq cq bs bq V) (fun i _ => M + 2 - (intOf i + 1).toNat)
        case atStart => exact ⟨0, by omega, rfl, HR.out⟩
        case round =>
          clear HR
          obtain ⟨j, hj2, rfl, hrel⟩ := hrel
          have HR := Lib.hid hrel
          clear hrel
          by_cases hjm : (j : Int) - 1 ≤ M
          · obtain ⟨l, hl, hp1, hq1⟩ := Hof.out ((j : Int) - 1)
            have HP := Lib.hid hp1
            have HQ := Lib.hid hq1
            clear hp1 hq1
            go_wp2_with fail
            refine (HP.out _ HR.out.lay).mono ?_
            rintro e w4 ⟨v4, rfl, hown4, hb4⟩
            have HR4 := Lib.hid (HR.out.step hb4 (Nat.le_refl _))
            have HO4 := Lib.hid hown4
            clear hown4 hb4
            go_wp2_with fail
            refine (HQ.out _ HR4.out.ref).mono ?_
            rintro e w5 ⟨v5, rfl, hown5, hb5⟩
            have HR5 := Lib.hid (HR4.out.step hb5 (Nat.le_refl _))
            obtain ⟨ao4, c4, rfl, hi4⟩ := owns_ids (owns_below HO4.out hb5)
            obtain ⟨ao5, c5, rfl, hi5⟩ := owns_ids hown5
            have HI4 := Lib.hid hi4
            have HI5 := Lib.hid hi5
            clear hown5 hb5 hi4 hi5 HO4 HR4
            go_wp2_with fail
            refine (ids_same _ _ _ _ l _ hl HI4.out HI5.out).mono ?_
            rintro e w6 ⟨rfl, t, rfl⟩
            have HR6 : Hid (PlayRel w (w5.drewN t) p q M S hi lj hj rb rq cq bs bq V) := Lib.hid (HR5.out.step (below_drewN (Below.refl _ _) t) (Nat.le_refl _))
            go_wp2_with fail
            go_roundw
            case rel => exact ⟨j + 1, by omega, by go_num, HR6.out⟩
            case measure => simp [intOf]; omega
          · obtain ⟨l, hl, hp1, hq1⟩ := Hall.out
            have HP := Lib.hid hp1
            have HQ := Lib.hid hq1
            clear hp1 hq1
            go_wp2_with fail
            refine (HP.out _ HR.out.lay).mono ?_
            rintro e w4 ⟨v4, rfl, hown4, hb4⟩
            have HR4 := Lib.hid (HR.out.step hb4 (Nat.le_refl _))
            have HO4 := Lib.hid hown4
            clear hown4 hb4
            go_wp2_with fail
            refine (HQ.out _ HR4.out.ref).mono ?_
            rintro e w5 ⟨v5, rfl, hown5, hb5⟩
            have HR5 := Lib.hid (HR4.out.step hb5 (Nat.le_refl _))
            obtain ⟨ao4, c4, rfl, hi4⟩ := owns_ids (owns_below HO4.out hb5)
            obtain ⟨ao5, c5, rfl, hi5⟩ := owns_ids hown5
            have HI4 := Lib.hid hi4
            have HI5 := Lib.hid hi5
            clear hown5 hb5 hi4 hi5 HO4 HR4
            go_wp2_with fail
            refine (ids_same _ _ _ _ l _ hl HI4.out HI5.out).mono ?_
            rintro e w6 ⟨rfl, t, rfl⟩
            go_wp2_with fail
            go_ret
            exact ⟨rfl, below_drewN HR5.out.below t⟩

theorem walkPlays (a0 a1 : Int) (a2 : Option Addr) (len2 cap2 : Nat) (z2 : Nat → SetV) (w : World) (w0 : (Lit.int .i64 a0).wf = true) (w1 : (Lit.int .i64 a1).wf = true) (w2 : SetsAt w a2 len2 z2 ∧ (∀ i, i < len2 → (z2 i).Ok) ∧ len2 ≤ maxLen) :
    Calls Try.prog 3 #[.int .i64 a0, .int .i64 a1, .slice a2 len2 cap2] w fun e w' => e = .returned (.bool true) ∧ Below w.heap.size w w' := by
  by_cases h : 1 ≤ a0 ∧ a0 ≤ 4 ∧ 1 ≤ a1 ∧ a1 ≤ 8
  · obtain ⟨h1, h2, h3, h4⟩ := h
    obtain ⟨M, rfl⟩ := Int.eq_ofNat_of_zero_le (show 0 ≤ a0 by omega)
    obtain ⟨S, rfl⟩ := Int.eq_ofNat_of_zero_le (show 0 ≤ a1 by omega)
    exact playsGood M S h1 h2 h3 h4 a2 len2 cap2 z2 w w2
  · exact playsBad a0 a1 a2 len2 cap2 w h
end Go.Proofs.Ythlgbjbandelkaa
