/- The walk of RootsOwn. -/
import Derived.Test.YthlgbjbandelkaaL
import Derived.Test.YthlgbjbandelkaaP
import Derived.StillTailTactics
namespace Go.Proofs.Ythlgbjbandelkaa
open Go.ChangeShapes Go.WideShapes Go.ChangeAt Go.RowKit
set_option linter.unusedVariables false

theorem pick_still (n m : Int) (w : World) (h0 : -9223372036854775808 ≤ n) (h1 : n ≤ 9223372036854775807) (hm : 0 < m) (hm1 : m ≤ 1000000) :
    Calls Try.prog 10 #[.int .i64 n, .int .i64 m] w fun e w' => e = .returned (.int .i64 (n % m)) ∧ w' = w :=
  (pick_any n m w h0 h1 hm hm1).mono fun _ _ ⟨a, b⟩ => ⟨a, b.symm⟩

/-- Set of a slot that is there, to whatever: some slots are held behind it. -/
theorem set_some {w : World} {p M S : Nat} {V : Nat → Nat → Int × Int} {lo hi rb cap : Nat} {bs : Nat → Nat} (n r : Int) (h : Lay w p M S V lo hi rb cap bs) (hM : M ≤ 4) (hS : S ≤ 8) (m s : Nat) (hm : m < M) (hs : s < S) :
    Calls Try.prog 13 #[.pointer (some ⟨p, 0, none⟩), .int .i64 m, .int .i64 s, .agg #[.int .i64 n, .int .u64 r]] w fun e w' => e = .returned (.bool (idOk n r)) ∧ (∃ V', Lay w' p M S V' lo hi rb cap bs) ∧ Keep lo hi w w' := by
  cases hid : idOk n r with
  | true => exact (set_step n r h hM hS m s hm hs hid).mono fun e w' ⟨he, hl, hk⟩ => ⟨he, ⟨_, hl⟩, hk⟩
  | false => exact (set_bad _ _ _ _ _ _ _ _ _ _ n r h hM hS m s hm hs hid).mono fun e w' ⟨he, hw⟩ => ⟨he, ⟨V, by rw [← hw]; exact h.alloc _⟩, by rw [← hw]; exact Keep.of_below ((Below.refl _ _).alloc (Nat.le_refl _) _) (Nat.le_refl _)⟩

theorem grown_trans {a b c : World} {row : Option Nat} (h : a.grownBy b row) (k : b.grownBy c row) : a.grownBy c row :=
  ⟨k.os.trans h.os, k.tape.trans h.tape, k.output.trans h.output, Nat.le_trans h.size k.size, fun i hi hn => (k.block i (Nat.lt_of_lt_of_le hi h.size) hn).trans (h.block i hi hn)⟩

/-- One ID's two cells in an owned row. -/
theorem own_pair {w : World} {base g n cap : Nat} {xs : List Value} (h : w.ownsRow base 32 2 (.slice (some ⟨g, 0, none⟩) n cap) n xs) (j : Nat) (hj : j < n) :
    ∃ u0 u1, w.cell? ⟨g, j * 2, none⟩ = some u0 ∧ w.cell? ⟨g, j * 2 + 1, none⟩ = some u1 ∧ w.frozen? ⟨g, j * 2, none⟩ = false ∧ w.frozen? ⟨g, j * 2 + 1, none⟩ = false := by
  have hl := h.1
  refine ⟨xs[j * 2]'(by omega), xs[j * 2 + 1]'(by omega), ?_, ?_, h.frozenAt _, h.frozenAt _⟩
  · rw [h.cellAt _ (by omega), List.getElem?_eq_getElem (by omega)]
  · rw [h.cellAt _ (by omega), List.getElem?_eq_getElem (by omega)]

theorem own_store2 {w : World} {base g n cap : Nat} {xs : List Value} (h : w.ownsRow base 32 2 (.slice (some ⟨g, 0, none⟩) n cap) n xs) (j : Nat) (a b : Value) :
    (∃ ys, ((w.setCell ⟨g, j * 2, none⟩ a).setCell ⟨g, j * 2 + 1, none⟩ b).ownsRow base 32 2 (.slice (some ⟨g, 0, none⟩) n cap) n ys) ∧ w.grownBy ((w.setCell ⟨g, j * 2, none⟩ a).setCell ⟨g, j * 2 + 1, none⟩ b) (some g) := by
  obtain ⟨h1, h2⟩ := h.stored (j * 2) a
  obtain ⟨h3, h4⟩ := h1.stored (j * 2 + 1) b
  exact ⟨⟨_, h3⟩, grown_trans h2 h4⟩

/-- Two values whose blocks lie in rows of numbers apart. -/
theorem own_apart {v v' : Value} {a b c d : Nat} (h : ∀ k, v.ownBlock = some k → a ≤ k ∧ k < b) (h' : ∀ k, v'.ownBlock = some k → c ≤ k ∧ k < d) (hd : d ≤ a) : v.ownBlock = none ∨ v.ownBlock ≠ v'.ownBlock := by
  cases hv : v.ownBlock with
  | none => exact .inl rfl
  | some k =>
    refine .inr fun e => ?_
    have h1 := (h k hv).1
    have h2 := (h' k e.symm).2
    omega

theorem own_apart' {v v' : Value} {a b c d : Nat} (h : ∀ k, v.ownBlock = some k → a ≤ k ∧ k < b) (h' : ∀ k, v'.ownBlock = some k → c ≤ k ∧ k < d) (hd : b ≤ c) : v.ownBlock = none ∨ v.ownBlock ≠ v'.ownBlock := by
  cases hv : v.ownBlock with
  | none => exact .inl rfl
  | some k =>
    refine .inr fun e => ?_
    have h1 := (h k hv).2
    have h2 := (h' k e.symm).1
    omega

theorem lay_grown {w w' : World} {p M S : Nat} {V : Nat → Nat → Int × Int} {lo hi rb cap : Nat} {bs : Nat → Nat} {row : Option Nat} (h : Lay w p M S V lo hi rb cap bs) (hg : w.grownBy w' row) (hr : ∀ b, row = some b → hi ≤ b) : Lay w' p M S V lo hi rb cap bs :=
  h.keep hg.size fun k _ hk => hg.block k (Nat.lt_of_lt_of_le hk h.size) (fun e => by have := hr k e.symm; omega)

theorem mod_nat (n : Int) (m : Nat) (h : 0 < m) : ∃ k : Nat, n % (m : Int) = k ∧ k < m := by
  have h1 := Int.emod_nonneg n (show (m : Int) ≠ 0 by omega)
  have h2 := Int.emod_lt_of_pos n (show (0 : Int) < m by omega)
  exact ⟨(n % (m : Int)).toNat, by omega, by omega⟩

theorem walkOwn (a0 : Option Addr) (len0 cap0 : Nat) (z0 : Nat → SetV) (w : World) (w0 : SetsAt w a0 len0 z0 ∧ (∀ i, i < len0 → (z0 i).Ok) ∧ len0 ≤ maxLen) :
    Calls Try.prog 5 #[.slice a0 len0 cap0] w fun e w' => e = .returned (.bool true) ∧ Below w.heap.size w w' := by
  obtain ⟨hz, hok, hlen⟩ := w0
  have HZ := Lib.hid hz
  have HOK := Lib.hid hok
  unfold maxLen at hlen
  clear hz hok
  obtain ⟨j0, hj, hy0, hy1, hy2⟩ := info_parts Try.info32
  go_enter Try.func5, Try.ntmps5
  go_wp2_with fail
  refine (new_ok 3 3 _ (by omega) (by omega) (by omega) (by omega)).mono ?_
  rintro e w1 ⟨p, rb, bs, rfl, hlay, hb1⟩
  have HL1 := Lib.hid hlay
  have HB1 := Lib.hid hb1
  have hz1 := hb1.size
  clear hlay hb1
  go_wp2_with fail
  refine (known_true _).mono ?_
  rintro e w2 ⟨rfl, hb2⟩
  have HL2 := Lib.hid (HL1.out.below hb2 (Nat.le_refl _))
  have HB2 := Lib.hid (HB1.out.trans (hb2.mono hz1))
  clear hb2
  go_wp2_with fail
  generalize hhi : w1.heap.size = hi at *
  clear hhi
  go_loopw [5] (fun i wr => ∃ (k : Nat) (V : Nat → Nat → Int × Int), k ≤ len0 ∧ k ≤ 50 ∧ i = .int .i64 k ∧ Lay wr p 3 3 V w.heap.size hi rb 3 bs ∧ Below w.heap.size w wr) (fun i _ => 50 - (intOf i).toNat)
  case atStart => exact ⟨0, _, Nat.zero_le _, by omega, rfl, HL2.out, HB2.out⟩
  case round =>
    clear HL1 HL2 HB1 HB2
    obtain ⟨k, V, hk, hk5, rfl, hlay, hbel⟩ := hrel
    have hwz := hbel.size
    have HL := Lib.hid hlay
    have HB := Lib.hid hbel
    clear hlay
    by_cases hgo : k < len0 ∧ k < 50
    · obtain ⟨hlt, h5⟩ := hgo
      · obtain ⟨b, off, rfl, hc⟩ := HZ.out (by omega)
        obtain ⟨c0, c1, c2, c3, c4⟩ := hc k hlt
        obtain ⟨o0, o1, o2, o3⟩ := HOK.out k hlt
        have hbl : b < w.heap.size := World.block_lt_of_cell? _ _ c0
        generalize z0 k = v at c0 c1 c2 c3 c4 o0 o1 o2 o3
        obtain ⟨vm, vs, vn, vr, vb⟩ := v
        simp only at c0 c1 c2 c3 c4 o0 o1 o2 o3
        have d0 := (hbel.cell (p := ⟨b, off + k * 5, none⟩) hbl).trans c0
        have d1 := (hbel.cell (p := ⟨b, off + k * 5 + 1, none⟩) hbl).trans c1
        have d2 := (hbel.cell (p := ⟨b, off + k * 5 + 2, none⟩) hbl).trans c2
        have d3 := (hbel.cell (p := ⟨b, off + k * 5 + 3, none⟩) hbl).trans c3
        obtain ⟨m, hm1, hm2⟩ := mod_nat vm 3 (by omega)
        obtain ⟨s, hs1, hs2⟩ := mod_nat vs 3 (by omega)
        simp only [Int.cast_ofNat_Int] at hm1 hs1
        clear hbel hc c0 c1 c2 c3 c4
        go_wp2_with fail
        refine wp_region_still_tail 18 (by kernel_rfl) (by kernel_rfl) ?_
        simp only [List.take_succ_cons, List.take_zero, List.drop_succ_cons, List.drop_zero, World.drew_eq]
        repeat still_step
        still_call (pick_still vm 3 _ o0.1 o0.2 (by omega) (by omega))
        repeat still_step
        still_call (pick_still vs 3 _ o1.1 o1.2 (by omega) (by omega))
        repeat still_step
        refine wpStill_nil ?_
        go_wp2_with fail
        refine (set_some vn vr (Lay.below HL.out (Below.refl _ _).drew (Nat.le_refl _)) (by omega) (by omega) m s hm2 hs2).mono ?_
        rintro e w3 ⟨rfl, ⟨V', hl3⟩, hk3⟩
        have hb3 := hk3.below HB.out.drew (Nat.le_refl _) hwz
        have HL3 := Lib.hid hl3
        have HB3 := Lib.hid hb3
        clear hl3 hk3 hb3
        go_wp2_with fail
        go_roundw
        case rel => exact ⟨k + 1, V', by omega, by omega, by go_num, HL3.out, HB3.out⟩
        case measure => simp [intOf]; omega
    · obtain ⟨wA, rfl⟩ : ∃ wA : World, wA = wr := ⟨_, rfl⟩
      have hways : ¬ k < len0 ∨ (k < len0 ∧ ¬ k < 50) := by omega
      clear hgo hk hbel
      have hhi := HL.out.size
      rcases hways with hlt | ⟨hlt, h5⟩
      all_goals
        go_wp2_with fail
        refine (all_any _ _ _ _ _ _ _ _ _ _ (HL.out.alloc _) (by omega) (by omega)).mono ?_
        rintro e w3 ⟨v3, rfl, hown3, hb3⟩
        have hlen3 := allL_length V 3 3
        obtain ⟨ao3, c3, rfl, hsrc3⟩ := owns_src hown3
        have HS3 := Lib.hid hsrc3
        have hz3 := hb3.size
        simp only [World.size_alloc] at hz3
        have HB3 := Lib.hid hb3
        clear hown3 hsrc3 hb3
        go_wp2_with (at_builtin; refine wpList_append_own_any _ rfl (.tmp 54) (.tmp 56) 39 rfl wA.heap.size 32 j0 (.agg #[.int .i64 0, .int .u64 0]) 2 16 Try.underlying39 hj hy0 hy1 hy2 rfl (by decide) _ 0 [] rfl (owns_below (World.ownsRow_lit wA #[] 0 (Nat.le_refl _) (by decide) rfl) HB3.out) ao3 _ c3 (idCells (allL V 3 3)) rfl ?c1 ?c2 ?c3 ?c4 ?c5 ?c6 ?_)
        case c1 => exact idCells_length _
        case c2 => exact HS3.out
        case c3 => exact idCells_one _
        case c4 => unfold maxLen; omega
        case c5 => omega
        case c6 => omega
        intro v4 w4 hown4 hgrow4 _
        have hb4 : Below wA.heap.size wA w4 := (((Below.refl _ _).alloc (Nat.le_refl _) _).trans (HB3.out.mono (by simp))).grown hgrow4 (by omega) (fun b hb => by simp [Value.ownBlock] at hb; omega)
        have hz4 := hb4.size
        have HO4 := Lib.hid hown4
        have HB4 := Lib.hid hb4
        have HL4 := Lib.hid (HL.out.below hb4 HL.out.size)
        clear hown4 hgrow4 hb4
        go_wp2_with fail
        refine (all_any _ _ _ _ _ _ _ _ _ _ HL4.out (by omega) (by omega)).mono ?_
        rintro e w5 ⟨v5, rfl, hown5, hb5⟩
        have hz5 := hb5.size
        have HO5 := Lib.hid hown5
        have HB5 := Lib.hid hb5
        have HL5 := Lib.hid (HL4.out.below hb5 HL4.out.size)
        clear hown5 hb5
        go_wp2_with fail
        refine (of_yes _ _ _ _ _ _ _ _ _ _ HL5.out (by omega) (by omega) 1 (by omega)).mono ?_
        rintro e w6 ⟨v6, rfl, hown6, hb6⟩
        have hz6 := hb6.size
        have hlen6 := heldL_length (V 1) 3
        obtain ⟨ao5, c5, rfl, _⟩ := owns_src HO5.out
        obtain ⟨ao6, c6, rfl, _⟩ := owns_src hown6
        have HO6 := Lib.hid hown6
        have HB6 := Lib.hid hb6
        clear hown6 hb6
        go_wp2_with fail
        generalize hL : allL V 3 3 = L at *
        have HLL := Lib.hid hL
        clear hL
        go_loopw [9] (fun i wx => ∃ (j : Nat) (xs : List Value), j ≤ L.length ∧ i = .int .i64 j ∧ wx.ownsRow w4.heap.size 32 2 (.slice ao5 L.length c5) L.length xs ∧ w6.grownBy wx (Value.slice ao5 L.length c5).ownBlock) (fun i _ => L.length - (intOf i).toNat)
        case atStart => exact ⟨0, _, Nat.zero_le _, rfl, owns_below HO5.out HB6.out, World.grownBy.refl _ _⟩
        case round =>
          obtain ⟨j, xs, hj, rfl, hown, hgrow⟩ := hrel
          by_cases hjl : j < L.length
          · obtain ⟨g, cap, hv, hg1, hg2, _, _⟩ := owned_head hown (by omega)
            simp only [Value.slice.injEq, true_and] at hv
            obtain ⟨rfl, rfl⟩ := hv
            obtain ⟨u0, u1, c0, c1, f0, f1⟩ := own_pair hown j hjl
            obtain ⟨⟨ys, hys⟩, hgr⟩ := own_store2 hown j (.int .i64 9) (.int .u64 9)
            have HY := Lib.hid hys
            have HG := Lib.hid (grown_trans hgrow hgr)
            clear hown hgrow hys hgr
            go_wp2_with fail
            go_roundw
            case rel => exact ⟨j + 1, ys, by omega, by go_num, HY.out, HG.out⟩
            case measure => simp [intOf]; omega
          · obtain ⟨w8, rfl⟩ : ∃ w8 : World, w8 = wr := ⟨_, rfl⟩
            have HG8 := Lib.hid hgrow
            have hz8 := hgrow.size
            have HO6' := Lib.hid (HO6.out.kept hgrow (own_apart HO6.out.lt HO5.out.lt (by omega)))
            clear hown hgrow
            go_wp2_with fail
            generalize hL6 : heldL (V 1) 3 = L6 at *
            have HLL6 := Lib.hid hL6
            clear hL6
            go_loopw [10] (fun i wx => ∃ (j : Nat) (xs : List Value), j ≤ L6.length ∧ i = .int .i64 j ∧ wx.ownsRow w5.heap.size 32 2 (.slice ao6 L6.length c6) L6.length xs ∧ w8.grownBy wx (Value.slice ao6 L6.length c6).ownBlock) (fun i _ => L6.length - (intOf i).toNat)
            case atStart => exact ⟨0, _, Nat.zero_le _, rfl, HO6'.out, World.grownBy.refl _ _⟩
            case round =>
              obtain ⟨j, xs, hj, rfl, hown, hgrow⟩ := hrel
              by_cases hjl : j < L6.length
              · obtain ⟨g, cap, hv, hg1, hg2, _, _⟩ := owned_head hown (by omega)
                simp only [Value.slice.injEq, true_and] at hv
                obtain ⟨rfl, rfl⟩ := hv
                obtain ⟨u0, u1, c0, c1, f0, f1⟩ := own_pair hown j hjl
                obtain ⟨⟨ys, hys⟩, hgr⟩ := own_store2 hown j (.int .i64 8) (.int .u64 8)
                have HY := Lib.hid hys
                have HG := Lib.hid (grown_trans hgrow hgr)
                clear hown hgrow hys hgr
                go_wp2_with fail
                go_roundw
                case rel => exact ⟨j + 1, ys, by omega, by go_num, HY.out, HG.out⟩
                case measure => simp [intOf]; omega
              · obtain ⟨w9, rfl⟩ : ∃ w9 : World, w9 = wr := ⟨_, rfl⟩
                have HL9 : Hid (Lay w9 p 3 3 V w.heap.size hi rb 3 bs) := lay_grown (lay_grown (HL5.out.below HB6.out HL5.out.size) HG8.out (fun b hb => by have := (HO5.out.lt b hb).1; omega)) hgrow (fun b hb => by have := (HO6.out.lt b hb).1; omega)
                have HO9 : Hid (w9.ownsRow wA.heap.size 32 2 v4 L.length (idCells L)) := ((owns_below (owns_below HO4.out HB5.out) HB6.out).kept HG8.out (own_apart' HO4.out.lt HO5.out.lt (Nat.le_refl _))).kept hgrow (own_apart' HO4.out.lt HO6.out.lt (by omega))
                have HB9 : Hid (Below w.heap.size w w9) := ((((HB.out.trans (HB4.out.mono hwz)).trans (HB5.out.mono (by omega))).trans (HB6.out.mono (by omega))).grown HG8.out (by omega) (fun b hb => by have := (HO5.out.lt b hb).1; omega)).grown hgrow (by omega) (fun b hb => by have := (HO6.out.lt b hb).1; omega)
                clear hown hgrow
                go_wp2_with fail
                refine (all_any _ _ _ _ _ _ _ _ _ _ HL9.out (by omega) (by omega)).mono ?_
                rw [HLL.out]
                rintro e w10 ⟨v10, rfl, hown10, hb10⟩
                obtain ⟨ao10, c10, rfl, hi10⟩ := owns_ids hown10
                obtain ⟨ao4, c4, rfl, hi4⟩ := owns_ids (owns_below HO9.out hb10)
                have HB10 := Lib.hid (HB9.out.trans (hb10.mono HB9.out.size))
                have HI10 := Lib.hid hi10
                have HI4 := Lib.hid hi4
                clear hown10 hb10 hi10 hi4
                go_wp2_with fail
                refine (ids_same _ _ _ _ L _ (by omega) HI10.out HI4.out).mono ?_
                rintro e w11 ⟨rfl, q, rfl⟩
                go_wp2_with fail
                go_ret
                exact ⟨rfl, below_drewN HB10.out q⟩
end Go.Proofs.Ythlgbjbandelkaa
