/- The walk of MailPlays. -/
import Derived.Test.YtilmdimffgohjaaJ
import Derived.Deep.DeepCutAuto
namespace Go.Proofs.Ytilmdimffgohjaa
open Go.ChangeShapes Go.WideShapes Go.ChangeAt Go.RowKit
set_option linter.unusedVariables false

abbrev nums (l : List Int) : List Value := l.map (Value.int .i64)

structure PlayM (w wr : World) (p c most base : Nat) (v : Value) (l : List Int) : Prop where
  own : Own w wr p c most (nums l)
  q : QAt wr base 3 v (nums l)
  lt : p < base ∧ c < base
  len : l.length ≤ most
  base_le : base ≤ wr.heap.size
  lo : w.heap.size ≤ base

theorem QAt.alloc {w : World} {base : Nat} {e : TypeId} {v : Value} {xs : List Value} (h : QAt w base e v xs) (o : Obj) : QAt (w.alloc o) base e v xs :=
  h.keep (row := none) ⟨rfl, rfl, rfl, by simp, fun k hk _ => Below.heap_alloc _ _ _ hk⟩ (by intro k hk; cases hk)

theorem QAt.lenM {w : World} {base : Nat} {e : TypeId} {v : Value} {l : List Int} (h : QAt w base e v (nums l)) : ∃ ao cap, v = .slice ao l.length cap ∧ l.length ≤ cap := by
  obtain ⟨ao, cap, h1, h2⟩ := h.length
  exact ⟨ao, cap, by simpa [nums] using h1, by simpa [nums] using h2⟩

theorem PlayM.box {w wr w' : World} {p c most base : Nat} {v : Value} {l : List Int} (h : PlayM w wr p c most base v l) {xs : List Value} (hb : BoxAt w' p c most xs) (hg : wr.grownBy w' (some c)) :
    Own w w' p c most xs ∧ QAt w' base 3 v (nums l) ∧ base ≤ w'.heap.size :=
  ⟨h.own.step hb hg, h.q.keep hg (by intro k hk; cases hk; exact h.lt.2), Nat.le_trans h.base_le hg.size⟩

theorem len_nums (w : World) (p c cap : Nat) (l : List Int) (h : BoxAt w p c cap (nums l)) :
    Calls Try.prog 11 #[.pointer (some ⟨p, 0, none⟩)] w fun e w' => e = .returned (.int .i64 l.length) ∧ w = w' :=
  (len_box w p c cap _ h).mono fun e w' ⟨he, hw⟩ => ⟨by simpa [nums] using he, hw⟩
theorem room_nums (w : World) (p c cap : Nat) (l : List Int) (h : BoxAt w p c cap (nums l)) (hr : l.length ≤ cap) (hcap : (cap : Int) ≤ 16) :
    Calls Try.prog 19 #[.pointer (some ⟨p, 0, none⟩)] w fun e w' => e = .returned (.int .i64 (cap - l.length : Nat)) ∧ ∃ q, w.drewN q = w' :=
  (room_box w p c cap _ h (by simpa [nums] using hr) hcap).mono fun e w' ⟨he, hw⟩ => ⟨by simpa [nums] using he, hw⟩
theorem QAt.drewN {w : World} {base : Nat} {e : TypeId} {v : Value} {xs : List Value} (h : QAt w base e v xs) (q : Nat) : QAt (w.drewN q) base e v xs := h
theorem PlayM.drewN {w wr : World} {p c most base : Nat} {v : Value} {l : List Int} (h : PlayM w wr p c most base v l) (q : Nat) : PlayM w (wr.drewN q) p c most base v l :=
  ⟨⟨h.own.box, below_drewN h.own.below q, h.own.lo⟩, h.q, h.lt, h.len, h.base_le, h.lo⟩

set_option maxHeartbeats 2000000 in
set_option maxRecDepth 100000 in
theorem playsBad (a0 : Int) (a1 : Option Addr) (len1 cap1 : Nat) (w : World) (hbad : ¬ (1 ≤ a0 ∧ a0 ≤ 16)) :
    Calls Try.prog 6 #[.int .i64 a0, .slice a1 len1 cap1] w fun e w' => e = .returned (.bool true) ∧ Below w.heap.size w w' := by
  go_enter Try.func6, Try.ntmps6
  go_wp2_with fail
  refine (new_not a0 _ hbad).mono ?_
  rintro e w1 ⟨rfl, rfl⟩
  go_wp2_with fail
  refine (known_true _).mono ?_
  rintro e w2 ⟨rfl, hb2⟩
  have HB2 := Lib.hid hb2
  clear hb2
  have hways : a0 < 1 ∨ (1 ≤ a0 ∧ 16 < a0) := by omega
  clear hbad
  rcases hways with h1 | ⟨h1, h2⟩
  all_goals
    go_wp2_with fail
    go_ret
    exact ⟨rfl, HB2.out⟩

set_option maxHeartbeats 2000000 in
set_option maxRecDepth 100000 in
theorem playsGood (most : Nat) (h1 : (1 : Int) ≤ most) (h2 : (most : Int) ≤ 16) (a1 : Option Addr) (len1 cap1 : Nat) (z1 : List Int) (w : World) (w1 : IsRow .i64 w a1 len1 cap1 z1) :
    Calls Try.prog 6 #[.int .i64 most, .slice a1 len1 cap1] w fun e w' => e = .returned (.bool true) ∧ Below w.heap.size w w' := by
  obtain ⟨L1, L2⟩ := w1.len_le
  obtain ⟨j0, hj, hy0, hy1, hy2⟩ := info_parts Try.info3
  have HZ := Lib.hid fun h0 => w1.cells h0
  have HWF := Lib.hid fun i hi => w1.wf i hi
  clear w1
  unfold maxLen at L2
  go_enter Try.func6, Try.ntmps6
  go_wp2_with fail
  refine (new_box most _ h1 h2).mono ?_
  rintro e w1 ⟨p, c, rfl, hbox, hb1, hc, hp⟩
  have HX : Hid (Own w w1 p c most []) := Lib.hid ⟨hbox, hb1, hc⟩
  clear hbox hb1 hc hp
  go_wp2_with fail
  refine (known_true _).mono ?_
  rintro e w2 ⟨rfl, hb2⟩
  have HX2 : Hid (Own w w2 p c most []) := Lib.hid ⟨HX.out.box.below hb2 (Nat.le_refl _), HX.out.below.trans (hb2.mono HX.out.below.size), HX.out.lo⟩
  clear hb2 HX
  obtain ⟨base, hbase⟩ : ∃ base, base = w2.heap.size := ⟨_, rfl⟩
  have HP2 : Hid (PlayM w w2 p c most base (.slice none 0 0) []) := Lib.hid ⟨HX2.out, .inl ⟨rfl, none, rfl⟩, by rw [hbase]; exact HX2.out.box.lt, by simp, Nat.le_of_eq hbase, by rw [hbase]; exact HX2.out.below.size⟩
  clear hbase HX2
  go_wp2_with fail
  go_loopw [7, 8] (fun v i wr => ∃ (k : Nat) (l : List Int), k ≤ len1 ∧ k ≤ 3000 ∧ i = .int .i64 k ∧ PlayM w wr p c most base v l) (fun _ i _ => 3000 - (intOf i).toNat)
  case atStart => exact ⟨0, [], Nat.zero_le _, by omega, rfl, HP2.out⟩
  case round =>
    clear HP2
    obtain ⟨k, l, hk, hk5, rfl, hrel⟩ := hrel
    have HR := Lib.hid hrel
    have hbel := hrel.own.below
    have hlm := hrel.len
    have hwz := hbel.size
    obtain ⟨ao, cap, rfl, hcl⟩ := hrel.q.lenM
    clear hrel
    by_cases hgo : k < len1 ∧ k < 3000
    · obtain ⟨hlt, h5⟩ := hgo
      obtain ⟨b, off, rfl, hc⟩ := HZ.out (by omega)
      have c0 := hc k (by omega)
      have hbl : b < w.heap.size := World.block_lt_of_cell? _ _ c0
      have d0 := (hbel.cell (p := ⟨b, off + k, none⟩) hbl).trans c0
      have hy := bounds_i64 (HWF.out k (by omega))
      have HC0 := Lib.hid c0
      obtain ⟨y, hyy⟩ : ∃ y, y = z1.getD k 0 := ⟨_, rfl⟩
      rw [← hyy] at d0 hy HC0
      clear hbel hc c0 hyy
      go_wp2_with fail
      refine (pick_any y 3 _ hy.1 hy.2 (by omega) (by omega)).mono ?_
      rintro e w3 ⟨rfl, rfl⟩
      obtain ⟨r, hr⟩ : ∃ r, r = y % 3 := ⟨_, rfl⟩
      rw [← hr]
      clear hr
      go_upto_if 51 with (fail)
      go_cut [7] (fun v wc => ∃ l' : List Int, PlayM w wc p c most base v l')
      case first =>
        by_cases hr0 : 0 < r
        · by_cases hroom : (l.length : Int) < most
          · go_wp2_with fail
            refine (put_room (.int .i64 y) _ p c most _ HR.out.own.box (by simp; omega)).mono ?_
            rintro e w3 ⟨rfl, hbox, hg⟩
            obtain ⟨ho3, hq3, hb3⟩ := HR.out.box hbox hg
            have HO3 := Lib.hid ho3
            have HQ3 := Lib.hid hq3
            have d1 := (ho3.below.cell (p := ⟨b, off + k, none⟩) hbl).trans HC0.out
            clear hbox hg ho3 hq3 d0
            go_wp2_with (at_builtin; refine wpList_append_queue _ rfl (.tmp 67) (.tmp 72) 22 rfl base 3 j0 (.int .i64 0) 8 Try.underlying22 hj hy0 hy1 hy2 rfl _ _ rfl (HQ3.out.alloc _) _ 1 (.int .i64 y) rfl ?_ ?_ ?_ ?_ ?_ ?_)
            · go_simp
            · simp [Value.oneCell']
            · simp [nums]; unfold maxLen; omega
            · simp [nums]; omega
            · simp; omega
            intro v' w4 row hq4 hg4 hrow
            have HQ4 := Lib.hid hq4
            have hox := (HO3.out.box.below ((Below.refl _ _).alloc (Nat.le_refl _) (.cells #[.int .i64 y] 3)) (Nat.le_refl _)).grown hg4 (fun e => by have := hrow _ e; have := HR.out.lt; omega) (fun e => by have := hrow _ e; have := HR.out.lt; omega)
            have HP4 : Hid (PlayM w w4 p c most base v' (l ++ [y])) := Lib.hid ⟨⟨by simpa [nums] using hox, (HO3.out.below.alloc HO3.out.below.size _).grown hg4 (by simp; have := HO3.out.below.size; omega) (fun k hk => Nat.le_trans HR.out.lo (hrow k hk)), HR.out.own.lo⟩, by simpa [nums] using hq4, HR.out.lt, by simp; omega, by have := hg4.size; simp at this; omega, HR.out.lo⟩
            clear hq4 hg4 hrow hox
            go_wp2_with fail
            go_meet
            case rel => exact ⟨_, HP4.out⟩
          · have hfull : ¬ ((l.length : Int) < most) := hroom
            go_wp2_with fail
            refine (put_full (.int .i64 y) _ p c most _ HR.out.own.box (by simp; omega)).mono ?_
            rintro e w3 ⟨rfl, rfl⟩
            go_wp2_with fail
            go_meet
            case rel => exact ⟨_, HR.out⟩
        · have hr1 : ¬ (0 < r) := hr0
          cases l with
          | nil =>
            go_wp2_with fail
            refine (take_none _ p c most HR.out.own.box).mono ?_
            rintro e w3 ⟨rfl, rfl⟩
            go_wp2_with fail
            go_meet
            case rel => exact ⟨[], HR.out⟩
          | cons x rest =>
            go_wp2_with fail
            refine (take_some (.int .i64 x) (nums rest) _ p c most HR.out.own.box).mono ?_
            rintro e w3 ⟨rfl, hbox, hg⟩
            obtain ⟨ho3, hq3, hb3⟩ := HR.out.box hbox hg
            obtain ⟨g, o, cap', hv, hcx, hn1, hn2, hq1, hq2⟩ := QAt.head (x := .int .i64 x) (xs := nums rest) hq3
            simp only [nums, List.length_map, Value.slice.injEq] at hv hn1 hn2 hq1 hq2
            obtain ⟨rfl, _, rfl⟩ := hv
            have HO3 := Lib.hid ho3
            have HQ1 := Lib.hid hq1
            have HQ2 := Lib.hid hq2
            clear hbox hg ho3 hq3 hq1 hq2 d0
            by_cases hcap1 : cap = 1
            · subst hcap1
              have hrest : rest.length = 0 := by omega
              go_wp2_with fail
              go_meet
              case rel => exact ⟨rest, HO3.out, by simpa [hrest] using HQ1.out (by simp), HR.out.lt, by have := HR.out.len; simp at this; omega, hb3, HR.out.lo⟩
            · have hcap2 : (cap == 1) = false := beq_eq_false_iff_ne.2 hcap1
              have hc1 : (1 : Int) ≤ cap := by omega
              have hc2 : (1 : Int) ≤ (rest.length : Int) + 1 := by omega
              have hc3 : (rest.length : Int) + 1 ≤ cap := by omega
              go_wp2_with fail
              go_meet
              case rel => exact ⟨rest, HO3.out, by simpa using HQ2.out hcap1, HR.out.lt, by have := HR.out.len; simp at this; omega, hb3, HR.out.lo⟩
      case rest =>
        obtain ⟨l', hrel'⟩ := hcut
        have HR' := Lib.hid hrel'
        obtain ⟨ao', cap', rfl, _⟩ := hrel'.q.lenM
        have hl' := hrel'.len
        have q1 : IntKind.i64.wrap ((most : Int) - (l'.length : Int)) = ((most - l'.length : Nat) : Int) := by rw [IntWalk.i64_in _ (by omega)]; omega
        clear hrel' HR d0
        go_wp2_with fail
        refine (len_nums _ p c most l' HR'.out.own.box).mono ?_
        rintro e w4 ⟨rfl, rfl⟩
        go_wp2_with fail
        refine (room_nums _ p c most l' HR'.out.own.box hl' h2).mono ?_
        rintro e w4 ⟨rfl, q, rfl⟩
        go_wp2_with fail
        go_roundw
        case rel => exact ⟨k + 1, l', by omega, by omega, by go_num, HR'.out.drewN q⟩
        case measure => simp [intOf]; omega
    · obtain ⟨wA, rfl⟩ : ∃ wA : World, wA = wr := ⟨_, rfl⟩
      have hways : ¬ k < len1 ∨ (k < len1 ∧ ¬ k < 3000) := by omega
      clear hgo hbel HZ HWF
      rcases hways with hlt | ⟨hlt, h5⟩
      all_goals
        go_wp2_with fail
        refine (all_box (nums l) (by intro x hx; simp [nums] at hx; obtain ⟨n, _, rfl⟩ := hx; exact ⟨_, rfl⟩) _ p c most HR.out.own.box (by simpa [nums] using hlm) h2).mono ?_
        rintro e w3 ⟨v3, rfl, hown, hbox, hg⟩
        obtain ⟨ho3, hq3, hb3⟩ := HR.out.box hbox hg
        have HR3 : Hid (PlayM w w3 p c most base (.slice ao l.length cap) l) := Lib.hid ⟨ho3, hq3, HR.out.lt, hlm, hb3, HR.out.lo⟩
        have HI3 := Lib.hid (ints_of_owns (by simp [nums]) hown)
        clear hown hbox hg ho3 hq3
        go_wp2_with fail
        refine (ints_same _ _ l _ (by omega) HI3.out HR3.out.q.ints).mono ?_
        rintro e w4 ⟨rfl, q, rfl⟩
        have HR4 := Lib.hid (HR3.out.drewN q)
        clear HI3
        go_wp2_with fail
        refine (all_box (nums l) (by intro x hx; simp [nums] at hx; obtain ⟨n, _, rfl⟩ := hx; exact ⟨_, rfl⟩) _ p c most HR4.out.own.box (by simpa [nums] using hlm) h2).mono ?_
        rintro e w5 ⟨v5, rfl, hown, hbox, hg⟩
        obtain ⟨ho5, hq5, hb5⟩ := HR4.out.box hbox hg
        have HR5 : Hid (PlayM w w5 p c most base (.slice ao l.length cap) l) := Lib.hid ⟨ho5, hq5, HR.out.lt, hlm, hb5, HR.out.lo⟩
        have HI5 := Lib.hid (ints_of_owns (by simp [nums]) hown)
        clear hown hbox hg ho5 hq5
        go_wp2_with fail
        refine (ints_same _ _ l _ (by omega) HI5.out HR5.out.q.ints).mono ?_
        rintro e w6 ⟨rfl, q', rfl⟩
        go_wp2_with fail
        go_ret
        exact ⟨rfl, below_drewN HR5.out.own.below q'⟩

theorem walkPlays (a0 : Int) (a1 : Option Addr) (len1 cap1 : Nat) (z1 : List Int) (w : World) (w0 : (Lit.int .i64 a0).wf = true) (w1 : IsRow .i64 w a1 len1 cap1 z1) (s1 : len1 * 8 ≤ 140737488351232) :
    Calls Try.prog 6 #[.int .i64 a0, .slice a1 len1 cap1] w fun e w' => e = .returned (.bool true) ∧ Below w.heap.size w w' := by
  by_cases h : 1 ≤ a0 ∧ a0 ≤ 16
  · obtain ⟨h1, h2⟩ := h
    obtain ⟨most, rfl⟩ := Int.eq_ofNat_of_zero_le (show 0 ≤ a0 by omega)
    exact playsGood most h1 h2 a1 len1 cap1 z1 w w1
  · exact playsBad a0 a1 len1 cap1 w h
end Go.Proofs.Ytilmdimffgohjaa
