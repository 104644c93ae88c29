/- The walk of NetKnown. -/
import Derived.Test.YtibagcgnaceimaaV
import Derived.Laws.BytesArg
namespace Go.Proofs.Ytibagcgnaceimaa
open Go.ChangeShapes Go.WideShapes Go.ChangeAt Go.RowKit
set_option linter.unusedVariables false

theorem owns_chg {w w' : World} {F F' : Nat → Prop} {base : Nat} {e : TypeId} {size : Nat} {v : Value} {n : Nat} {xs : List Value} (h : w.ownsRow base e size v n xs) (hc : Chg F F' w w') (hF : ∀ b, F b → b < base) : w'.ownsRow base e size v n xs :=
  owns_keep h fun g hg => hc.block g (h.lt g hg).2 (fun hf => by have := hF g hf; have := (h.lt g hg).1; omega)
theorem chg_cell {w w' : World} {F F' : Nat → Prop} (hc : Chg F F' w w') {a : Addr} {v : Value} (h : w.cell? a = some v) (hF : ¬ F a.block) : w'.cell? a = some v :=
  (World.cell?_of_block (hc.block a.block (World.block_lt_of_cell? _ _ h) hF)).trans h

/-- 'string(x)' of a slice of bytes, nil too. -/
theorem src_string {w : World} {ao : Option Addr} {n c : Nat} {bs : List Int} (h : SrcAt w ao n c (u8s bs)) (hn : bs.length = n) : (convert 29 9 (.slice ao n c)).run Try.prog w = .ok (.string (strOfNums bs)) w := by
  rcases h with ⟨rfl, rfl, rfl⟩ | ⟨ad, rfl, hc⟩
  · obtain rfl : bs = [] := List.eq_nil_of_length_eq_zero hn
    exact run_convert_bytes_nil w 29 5 Try.underlying29 Try.underlying5 0 0 9 Try.underlying9
  · cases n with
    | zero =>
      obtain rfl : bs = [] := List.eq_nil_of_length_eq_zero hn
      obtain ⟨b, off, spot⟩ := ad
      rw [run_convert_bytes_string w 29 9 5 _ 0 c Try.underlying29 Try.underlying5 Try.underlying9, run_bytesToString w _ 0 c [] (by simp [loadCells, loadCellsFrom])]
      rfl
    | succ n =>
      obtain ⟨b, off, spot⟩ := ad
      have h0 := hc 0 (.int .u8 (bs.getD 0 0)) (by simp [u8s, List.getD_eq_getElem?_getD, List.getElem?_eq_getElem (show 0 < bs.length by omega)])
      have hs : spot = none := by simpa [Addr.add] using World.cell?_spot h0
      subst hs
      refine run_convert_bytes_arg w 29 5 Try.underlying29 Try.underlying5 b off (n + 1) c bs hn (fun i hi => ?_) 9 Try.underlying9
      have := hc i (.int .u8 (bs.getD i 0)) (by simp [u8s, List.getD_eq_getElem?_getD, List.getElem?_eq_getElem (show i < bs.length by omega)])
      rwa [add_none] at this

theorem DList.at {base : Nat} {w : World} {v : Value} {H : List (Dg × Value)} {L : List Dg} (h : DList base w v H) (hm : H.map (·.1) = L) (i : Nat) (d : Dg) (hi : L[i]? = some d) :
    ∃ g c bo bc, v = .slice (some ⟨g, 0, none⟩) L.length c ∧ base ≤ g ∧ w.cell? ⟨g, i * 3, none⟩ = some (.int .i64 d.fr) ∧ w.cell? ⟨g, i * 3 + 1, none⟩ = some (.int .i64 d.to) ∧ w.cell? ⟨g, i * 3 + 2, none⟩ = some (.slice bo d.bs.length bc) ∧
      w.ownsRow base 5 1 (.slice bo d.bs.length bc) d.bs.length (u8s d.bs) ∧ SrcAt w bo d.bs.length bc (u8s d.bs) := by
  subst hm
  obtain ⟨p, hp, rfl⟩ : ∃ p, H[i]? = some p ∧ p.1 = d := by simpa using hi
  obtain ⟨hil, hie⟩ := List.getElem?_eq_some_iff.1 hp
  obtain ⟨x0, x1, x2⟩ := dcells_at H i p hp
  have hd := h.dg p (hie ▸ List.getElem_mem hil)
  obtain ⟨bo, bc, he, hs⟩ := owns_src hd
  obtain ⟨g, cap, rfl, hg, _⟩ := owned_head h.row (by omega)
  rw [he] at hd x2
  exact ⟨g, cap, bo, bc, by simp, hg, (h.row.cellAt _ (by omega)).trans x0, (h.row.cellAt _ (by omega)).trans x1, (h.row.cellAt _ (by omega)).trans x2, hd, hs⟩

set_option maxRecDepth 100000 in
theorem walkKnown (w : World) : Calls Try.prog 5 #[] w fun e w' => e = .returned (.bool true) ∧ Below w.heap.size w w' := by
  have kc := fun (w : World) (C : Array Value) (n c : Nat) => Lib.run_convert_bytes_const (P := Try.prog) w 29 5 C n c Try.underlying29 Try.underlying5
  go_enter Try.func5, Try.ntmps5
  go_wp2_with fail
  refine (new_bad 0 _ (by omega)).mono ?_
  rintro e w1 ⟨rfl, rfl⟩
  go_wp2_with fail
  refine (new_bad 257 _ (by omega)).mono ?_
  rintro e w1 ⟨rfl, rfl⟩
  go_wp2_with fail
  refine (newP _ 2 (by omega) (by omega)).mono ?_
  rintro e w1 ⟨rfl, hn, hb⟩
  have HM : Hid (Mine w w1 _ w.heap.size (netP 2 0) []) := Lib.hid ⟨hn, hb, fun b hb => by omega⟩
  clear hn hb
  go_wp2_with fail
  refine (known_true _).mono ?_
  rintro e w2 ⟨rfl, hb⟩
  have HM0 := Lib.hid (HM.out.still hb)
  clear hb HM
  go_wp2_with fail
  have HM1 := Lib.hid (HM0.out.still ((Below.refl _ _).alloc (Nat.le_refl _) (.cells #[.int .u8 97] 5 (1, 2))))
  refine (sendY HM1.out.net ⟨0, 0, [97]⟩ _ 1 (src_mark w2 [.int .u8 97] 5 (1, 2) 1 1) (by omega) (by omega) rfl).mono ?_
  rintro e w3 ⟨rfl, F2, hn, hc⟩
  have HM2 := Lib.hid (HM1.out.step hn hc)
  clear hn hc HM0 HM1
  go_wp2_with fail
  have HM3 := Lib.hid (HM2.out.still ((Below.refl _ _).alloc (Nat.le_refl _) (.cells #[.int .u8 98] 5 (1, 2))))
  refine (sendY HM3.out.net ⟨0, 0, [98]⟩ _ 1 (src_mark w3 [.int .u8 98] 5 (1, 2) 1 1) (by omega) (by omega) rfl).mono ?_
  rintro e w4 ⟨rfl, F3, hn, hc⟩
  have HM4 : Hid (Mine w w4 F3 w.heap.size (netP 2 0) [⟨0, 0, [97]⟩, ⟨0, 0, [98]⟩]) := Lib.hid (HM3.out.step hn hc)
  clear hn hc HM2 HM3
  go_wp2_with fail
  refine (takeY HM4.out.net 0 ⟨0, 0, [97]⟩ [⟨0, 0, [98]⟩] true rfl rfl rfl).mono ?_
  rintro e w5 ⟨v5, rfl, hown, hn, hc⟩
  have hlt := HM4.out.net.lt
  have HM5 : Hid (Mine w w5 F3 w.heap.size (netP 2 0) [⟨0, 0, [98]⟩]) := Lib.hid (HM4.out.step hn hc)
  have hown : w5.ownsRow w4.heap.size 5 1 v5 1 (u8s [97]) := hown
  obtain ⟨ao5, c5, rfl, _⟩ := owns_slice hown
  have HO5 := Lib.hid hown
  have hz5 := hc.size
  clear hn hc HM4 hown
  go_wp2_with fail
  have x2 : (w5.alloc (.cells #[.int .i64 0, .int .i64 0, .slice ao5 1 c5] 31)).cell? ⟨w5.heap.size, 2, none⟩ = some (.slice ao5 1 c5) := by go_simp
  have HM6 := Lib.hid (HM5.out.still ((Below.refl _ _).alloc (Nat.le_refl _) (.cells #[.int .i64 0, .int .i64 0, .slice ao5 1 c5] 31)))
  have HO6 := Lib.hid (owns_below HO5.out ((Below.refl _ _).alloc (Nat.le_refl _) (.cells #[.int .i64 0, .int .i64 0, .slice ao5 1 c5] 31)) (Nat.le_refl _))
  refine (doubleY HM6.out.net 0 (by omega) true [⟨0, 0, [98]⟩, ⟨0, 0, [98]⟩] rfl rfl).mono ?_
  rintro e w7 ⟨rfl, F7, hn, hc⟩
  have HM7 : Hid (Mine w w7 F7 w.heap.size (netP 2 0) [⟨0, 0, [98]⟩, ⟨0, 0, [98]⟩]) := Lib.hid (HM6.out.step hn hc)
  have HO7 := Lib.hid (owns_chg HO6.out hc hlt)
  replace x2 := chg_cell hc x2 (fun hf => by have := hlt _ hf; simp at this; omega)
  clear hn hc HM5 HM6 HO5 HO6
  go_wp2_with fail
  refine (allP _ _ _ 2 0 _ HM7.out.net (by simp)).mono ?_
  rintro e w8 ⟨v8, H8, rfl, hm, hd, hb⟩
  replace x2 := below_cell hb x2
  have HM8 := Lib.hid (HM7.out.still hb)
  have HO8 := Lib.hid (owns_below HO7.out hb (Nat.le_refl _))
  obtain ⟨g, c8, b1, e1, hv, _, _, _, y1, _, s1⟩ := hd.at hm 0 ⟨0, 0, [98]⟩ rfl
  obtain ⟨g', c8', b2, e2, hv', _, _, _, y2, _, s2⟩ := hd.at hm 1 ⟨0, 0, [98]⟩ rfl
  subst hv
  simp only [Value.slice.injEq, Option.some.injEq, Addr.mk.injEq, and_true, true_and] at hv'
  obtain ⟨rfl, rfl⟩ := hv'
  have k1 : (convert 29 9 (.slice b1 1 e1)).run Try.prog w8 = .ok (.string { data := #[98] }) w8 := src_string s1 rfl
  have k2 : (convert 29 9 (.slice b2 1 e2)).run Try.prog w8 = .ok (.string { data := #[98] }) w8 := src_string s2 rfl
  obtain ⟨a5, cc5, he5, s5⟩ := owns_src HO8.out
  simp only [Value.slice.injEq, true_and] at he5
  obtain ⟨rfl, rfl⟩ := he5
  have k0 : (convert 29 9 (.slice ao5 1 c5)).run Try.prog w8 = .ok (.string { data := #[97] }) w8 := src_string s5 rfl
  clear hm hd hb HO7 HO8 HM7 s1 s2 s5
  obtain ⟨j0, hj, hy0, hy1, hy2⟩ := info_parts Try.info5
  obtain ⟨w9, km, _, hg9⟩ := run_makeSlice_full (P := Try.prog) w8 0 29 5 j0 (.int .u8 0) 1 Try.underlying29 hj hy0 hy1 .i64 .i64 1025 (by omega) (by rw [hy2]; omega) (by decide) (Nat.zero_le _)
  replace km : (Instr.makeSlice 29 (.int .i64 1025) (.int .i64 1025)).run Try.prog w8 = .ok (.slice (some ⟨w8.heap.size, 0, none⟩) 1025 1025) w9 := km
  have HM9 := Lib.hid (HM8.out.still ((Below.refl _ _).grown hg9 (Nat.le_refl _) (fun k hk => by cases hk)))
  clear hg9
  go_wp2_with fail
  refine (sendN HM9.out.net 0 0 _ 1025 1025 (by omega) (by omega) rfl).mono ?_
  rintro e w10 ⟨rfl, hn, hc⟩
  have HM10 := Lib.hid (HM9.out.step hn hc)
  clear hn hc HM9
  go_wp2_with fail
  go_ret
  exact ⟨rfl, HM10.out.below⟩
end Go.Proofs.Ytibagcgnaceimaa
