/- The walk of MailTwo. -/
import Derived.Test.YtilmdimffgohjaaD
import Derived.Deep.DeepCutAuto
namespace Go.Proofs.Ytilmdimffgohjaa
open Go.ChangeShapes Go.WideShapes Go.ChangeAt Go.RowKit
set_option linter.unusedVariables false

/-- Two boxes that know nothing of one another. -/
structure Two (w wr : World) (p c q d : Nat) (l m : List Value) : Prop where
  a : Own w wr p c 16 l
  b : Own w wr q d 16 m
  ne : c ≠ d

theorem Two.stepA {w wr w' : World} {p c q d : Nat} {l m l' : List Value} (h : Two w wr p c q d l m) (hb : BoxAt w' p c 16 l') (hg : wr.grownBy w' (some c)) : Two w w' p c q d l' m := by
  obtain ⟨s, r, hc⟩ := h.a.box.2
  have h1 := cell_chan h.b.box.1 hc
  exact ⟨h.a.step hb hg, ⟨h.b.box.grown hg (by intro e; cases e; exact h1 rfl) (by intro e; cases e; exact h.ne rfl), (h.a.step hb hg).below, h.b.lo⟩, h.ne⟩

theorem Two.stepB {w wr w' : World} {p c q d : Nat} {l m m' : List Value} (h : Two w wr p c q d l m) (hb : BoxAt w' q d 16 m') (hg : wr.grownBy w' (some d)) : Two w w' p c q d l m' := by
  obtain ⟨s, r, hd⟩ := h.b.box.2
  have h1 := cell_chan h.a.box.1 hd
  exact ⟨⟨h.a.box.grown hg (by intro e; cases e; exact h1 rfl) (by intro e; cases e; exact h.ne rfl), (h.b.step hb hg).below, h.a.lo⟩, h.b.step hb hg, h.ne⟩

set_option maxHeartbeats 2000000 in
set_option maxRecDepth 100000 in
theorem walkTwo (a0 : Option Addr) (len0 cap0 : Nat) (z0 : List Int) (w : World) (w0 : IsRow .i64 w a0 len0 cap0 z0) (s0 : len0 * 8 ≤ 140737488351232) :
    Calls Try.prog 3 #[.slice a0 len0 cap0] w fun e w' => e = .returned (.bool true) ∧ Below w.heap.size w w' := by
  obtain ⟨L1, L2⟩ := w0.len_le
  have hcap : len0 ≤ cap0 := by
    rcases w0 with ⟨_, h1, h2, _⟩ | ⟨_, _, h1, _⟩
    · omega
    · exact h1
  have HR := Lib.hid w0
  clear w0
  unfold maxLen at L2
  go_enter Try.func3, Try.ntmps3
  go_wp2_with fail
  refine (new_box 16 _ (by omega) (by omega)).mono ?_
  rintro e w1 ⟨p, c, rfl, hbox, hb1, hc, hp⟩
  have HX : Hid (Own w w1 p c 16 []) := Lib.hid ⟨hbox, hb1, hc⟩
  clear hbox hb1 hc hp
  go_wp2_with fail
  refine (new_box 16 _ (by omega) (by omega)).mono ?_
  rintro e w2 ⟨q, d, rfl, hbox, hb2, hd, hq⟩
  have HT : Hid (Two w w2 p c q d [] []) := Lib.hid ⟨⟨HX.out.box.below hb2 (Nat.le_refl _), HX.out.below.trans (hb2.mono HX.out.below.size), HX.out.lo⟩, ⟨hbox, HX.out.below.trans (hb2.mono HX.out.below.size), Nat.le_trans HX.out.below.size hd⟩, Nat.ne_of_lt (Nat.lt_of_lt_of_le HX.out.box.lt.2 hd)⟩
  clear hbox hb2 hd hq HX
  go_wp2_with fail
  refine (known_true _).mono ?_
  rintro e w3 ⟨rfl, hb3⟩
  have HT3 : Hid (Two w w3 p c q d [] []) := Lib.hid ⟨⟨HT.out.a.box.below hb3 (Nat.le_refl _), HT.out.a.below.trans (hb3.mono HT.out.a.below.size), HT.out.a.lo⟩, ⟨HT.out.b.box.below hb3 (Nat.le_refl _), HT.out.a.below.trans (hb3.mono HT.out.a.below.size), HT.out.b.lo⟩, HT.out.ne⟩
  clear hb3 HT
  go_upto_region 5 with (fail)
  go_cut [0] (fun v wc => ∃ n : Nat, n ≤ 32 ∧ n ≤ len0 ∧ v = .slice a0 n cap0 ∧ w3 = wc)
  case first =>
    by_cases h32 : len0 ≤ 32
    · have h32' : ¬ (32 : Int) < len0 := by omega
      go_wp2_with fail
      go_meet
      case rel => exact ⟨len0, h32, Nat.le_refl _, rfl, rfl⟩
    · have h32' : (32 : Int) < len0 := by omega
      have h33 : (32 : Int) ≤ cap0 := by omega
      go_wp2_with fail
      go_meet
      case rel => exact ⟨32, Nat.le_refl _, by omega, rfl, rfl⟩
  case rest =>
    obtain ⟨n, hn, hnl, rfl, rfl⟩ := hcut
    have HZ := Lib.hid fun h0 => HR.out.cells (Nat.lt_of_lt_of_le h0 hnl)
    obtain ⟨fe, hfe⟩ : ∃ fe : Nat → Value, fe = fun j => .int .i64 (z0.getD (2 * j) 0) := ⟨_, rfl⟩
    obtain ⟨fo, hfo⟩ : ∃ fo : Nat → Value, fo = fun j => .int .i64 (z0.getD (2 * j + 1) 0) := ⟨_, rfl⟩
    have HE := Lib.hid fun j => congrFun hfe j
    have HO := Lib.hid fun j => congrFun hfo j
    clear hfe hfo
    go_wp2_with fail
    go_loopw [7] (fun i wr => ∃ k : Nat, k ≤ n ∧ i = .int .i64 k ∧ Two w wr p c q d (seg fe 0 ((k + 1) / 2)) (seg fo 0 (k / 2))) (fun i _ => n - (intOf i).toNat)
    case atStart => exact ⟨0, Nat.zero_le _, rfl, HT3.out⟩
    case round =>
      clear HT3
      obtain ⟨k, hk, rfl, ht⟩ := hrel
      have HT := Lib.hid ht
      have hbel := ht.a.below
      clear ht
      by_cases hkn : k < n
      · obtain ⟨b, off, rfl, hc⟩ := HZ.out (by omega)
        have c0 := hc k (by omega)
        have hbl : b < w.heap.size := World.block_lt_of_cell? _ _ c0
        have d0 := (hbel.cell (p := ⟨b, off + k, none⟩) hbl).trans c0
        clear hbel hc c0
        obtain ⟨j, hj | hj⟩ : ∃ j, k = 2 * j ∨ k = 2 * j + 1 := ⟨k / 2, by omega⟩
        · have hm : (k : Int) % 2 = 0 := by omega
          have e1 : (k + 1) / 2 = j := by omega
          have e2 : (k + 1 + 1) / 2 = j + 1 := by omega
          have e3 : k / 2 = j := by omega
          have e4 : (k + 1) / 2 = j := by omega
          have hx : Value.int .i64 (z0.getD k 0) = fe j := by rw [HE.out j, hj]
          have HXX := Lib.hid hx
          have E := Lib.hid (And.intro e1 (And.intro e2 e3))
          have hj16 : (k + 1) / 2 < 16 := by omega
          clear hx e1 e2 e3 e4 hj
          go_wp2_with fail
          refine (put_room (.int .i64 (z0.getD k 0)) _ p c 16 _ HT.out.a.box (by rw [seg_length]; omega)).mono ?_
          rintro e w4 ⟨rfl, hbox, hg⟩
          obtain ⟨e1, e2, e3⟩ := E.out
          rw [HXX.out, e1, seg_push _ _ _ (Nat.zero_le _)] at hbox
          have HT4 := Lib.hid (HT.out.stepA hbox hg)
          clear hbox hg
          go_wp2_with fail
          go_roundw
          case rel => exact ⟨k + 1, by omega, by go_num, by have h := HT4.out; rw [e3] at h; rw [e2, e1]; exact h⟩
          case measure => simp [intOf]; omega
        · have hm : (k : Int) % 2 = 1 := by omega
          have e1 : k / 2 = j := by omega
          have e2 : (k + 1) / 2 = j + 1 := by omega
          have e3 : (k + 1 + 1) / 2 = j + 1 := by omega
          have hx : Value.int .i64 (z0.getD k 0) = fo j := by rw [HO.out j, hj]
          have HXX := Lib.hid hx
          have E := Lib.hid (And.intro e1 (And.intro e2 e3))
          have hj16 : k / 2 < 16 := by omega
          clear hx e1 e2 e3 hj
          go_wp2_with fail
          refine (put_room (.int .i64 (z0.getD k 0)) _ q d 16 _ HT.out.b.box (by rw [seg_length]; omega)).mono ?_
          rintro e w4 ⟨rfl, hbox, hg⟩
          obtain ⟨e1, e2, e3⟩ := E.out
          rw [HXX.out, e1, seg_push _ _ _ (Nat.zero_le _)] at hbox
          have HT4 := Lib.hid (HT.out.stepB hbox hg)
          clear hbox hg
          go_wp2_with fail
          go_roundw
          case rel => exact ⟨k + 1, by omega, by go_num, by have h := HT4.out; rw [e2] at h; rw [e3, e2]; exact h⟩
          case measure => simp [intOf]; omega
      · obtain rfl : k = n := by omega
        obtain ⟨wA, rfl⟩ : ∃ wA : World, wA = wr := ⟨_, rfl⟩
        clear hbel hkn hk
        go_wp2_with fail
        go_loopw [8] (fun i wr => ∃ m : Nat, m ≤ k ∧ i = .int .i64 m ∧ Two w wr p c q d (seg fe ((m + 1) / 2) ((k + 1) / 2)) (seg fo (m / 2) (k / 2))) (fun i _ => k - (intOf i).toNat)
        case atStart => exact ⟨0, Nat.zero_le _, rfl, HT.out⟩
        case round =>
          clear HT
          obtain ⟨m, hm, rfl, ht⟩ := hrel
          have HT := Lib.hid ht
          have hbel := ht.a.below
          clear ht
          by_cases hmk : m < k
          · obtain ⟨b, off, rfl, hc⟩ := HZ.out (by omega)
            have c0 := hc m (by omega)
            have hbl : b < w.heap.size := World.block_lt_of_cell? _ _ c0
            have d0 := (hbel.cell (p := ⟨b, off + m, none⟩) hbl).trans c0
            obtain ⟨j, hj | hj⟩ : ∃ j, m = 2 * j ∨ m = 2 * j + 1 := ⟨m / 2, by omega⟩
            · have hm2 : (m : Int) % 2 = 0 := by omega
              have e1 : (m + 1) / 2 = j := by omega
              have e2 : (m + 1 + 1) / 2 = j + 1 := by omega
              have e3 : m / 2 = j := by omega
              have hjk : j < (k + 1) / 2 := by omega
              have hx : Value.int .i64 (z0.getD m 0) = fe j := by rw [HE.out j, hj]
              have hbx : BoxAt wr p c 16 (.int .i64 (z0.getD m 0) :: seg fe (j + 1) ((k + 1) / 2)) := by rw [hx, ← seg_head _ _ _ hjk, ← e1]; exact HT.out.a.box
              have HBX := Lib.hid hbx
              have E := Lib.hid (And.intro e1 (And.intro e2 e3))
              have hdd : wr.cell? ⟨b, off + m, none⟩ = some (.int .i64 (z0.getD m 0)) := d0
              clear hx e1 e2 e3 hj hbx hjk d0
              go_wp2_with fail
              refine (take_some _ _ _ p c 16 HBX.out).mono ?_
              rintro e w4 ⟨rfl, hbox, hg⟩
              have HT4 := Lib.hid (HT.out.stepA hbox hg)
              have hdd' := (HT4.out.a.below.cell (p := ⟨b, off + m, none⟩) hbl).trans c0
              clear hbox hg hdd c0 hc hbel HBX
              go_wp2_with fail
              go_roundw
              case rel =>
                obtain ⟨e1, e2, e3⟩ := E.out
                exact ⟨m + 1, by omega, by go_num, by have h := HT4.out; rw [e3] at h; rw [e2, e1]; exact h⟩
              case measure => simp [intOf]; omega
            · have hm2 : (m : Int) % 2 = 1 := by omega
              have e1 : m / 2 = j := by omega
              have e2 : (m + 1) / 2 = j + 1 := by omega
              have e3 : (m + 1 + 1) / 2 = j + 1 := by omega
              have hjk : j < k / 2 := by omega
              have hx : Value.int .i64 (z0.getD m 0) = fo j := by rw [HO.out j, hj]
              have hbx : BoxAt wr q d 16 (.int .i64 (z0.getD m 0) :: seg fo (j + 1) (k / 2)) := by rw [hx, ← seg_head _ _ _ hjk, ← e1]; exact HT.out.b.box
              have HBX := Lib.hid hbx
              have E := Lib.hid (And.intro e1 (And.intro e2 e3))
              have hdd : wr.cell? ⟨b, off + m, none⟩ = some (.int .i64 (z0.getD m 0)) := d0
              clear hx e1 e2 e3 hj hbx hjk d0
              go_wp2_with fail
              refine (take_some _ _ _ q d 16 HBX.out).mono ?_
              rintro e w4 ⟨rfl, hbox, hg⟩
              have HT4 := Lib.hid (HT.out.stepB hbox hg)
              have hdd' := (HT4.out.a.below.cell (p := ⟨b, off + m, none⟩) hbl).trans c0
              clear hbox hg hdd c0 hc hbel HBX
              go_wp2_with fail
              go_roundw
              case rel =>
                obtain ⟨e1, e2, e3⟩ := E.out
                exact ⟨m + 1, by omega, by go_num, by have h := HT4.out; rw [e2] at h; rw [e3, e2]; exact h⟩
              case measure => simp [intOf]; omega
          · obtain rfl : m = k := by omega
            have hl1 := seg_self fe ((m + 1) / 2)
            have hl2 := seg_self fo (m / 2)
            rw [hl1, hl2] at HT
            clear hl1 hl2 hbel hmk hm
            go_wp2_with fail
            refine (len_box _ p c 16 _ HT.out.a.box).mono ?_
            rintro e w5 ⟨rfl, rfl⟩
            go_wp2_with fail
            refine (len_box _ q d 16 _ HT.out.b.box).mono ?_
            rintro e w5 ⟨rfl, rfl⟩
            go_wp2_with fail
            go_ret
            exact ⟨rfl, HT.out.a.below⟩
end Go.Proofs.Ytilmdimffgohjaa
