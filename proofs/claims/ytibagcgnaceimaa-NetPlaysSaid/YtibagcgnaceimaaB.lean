/- Datagrams of two lists that tell the same. -/
import Derived.Test.YtibagcgnaceimaaN
import Derived.Test.YtibagcgnaceimaaW
namespace Go.Proofs.Ytibagcgnaceimaa
open Go.ChangeShapes Go.WideShapes Go.ChangeAt Go.RowKit Go.Joins Go.Deep
set_option linter.unusedVariables false

/-- A slice of datagrams that reads 'L'. -/
def RD (w : World) (ao : Option Addr) (L : List Dg) : Prop := 0 < L.length → ∃ b off, ao = some ⟨b, off, none⟩ ∧ ∀ i d, L[i]? = some d → DgIn w b (off + i * 3) d

theorem RD.below {w w' : World} {ao : Option Addr} {L : List Dg} (h : RD w ao L) (hb : Below w.heap.size w w') : RD w' ao L := fun h0 =>
  let ⟨b, off, ha, hi⟩ := h h0
  ⟨b, off, ha, fun i d hd => (hi i d hd).below hb⟩

theorem DList.rd {base : Nat} {w : World} {v : Value} {H : List (Dg × Value)} {L : List Dg} (h : DList base w v H) (hm : H.map (·.1) = L) : ∃ ao c, v = .slice ao L.length c ∧ RD w ao L := by
  obtain ⟨ao, c, rfl, _⟩ := owns_slice h.row
  have hl : H.length = L.length := by rw [← hm, List.length_map]
  rw [hl] at *
  refine ⟨ao, c, rfl, fun h0 => ?_⟩
  obtain ⟨g, c', bo, bc, hv, _⟩ := h.at hm 0 L[0] (by simp [h0])
  simp only [Value.slice.injEq] at hv
  obtain ⟨rfl, _, rfl⟩ := hv
  refine ⟨g, 0, rfl, fun i d hd => ?_⟩
  obtain ⟨g', c', bo, bc, hv, _, x0, x1, x2, _, hs⟩ := h.at hm i d hd
  simp only [Value.slice.injEq, Option.some.injEq, Addr.mk.injEq, and_true] at hv
  obtain ⟨rfl, _⟩ := hv
  rw [Nat.zero_add]
  exact ⟨x0, x1, bo, bc, x2, hs⟩

set_option maxRecDepth 100000 in
theorem datagrams_true (w : World) (L : List Dg) (ao bo : Option Addr) (ac bc : Nat) (ha : RD w ao L) (hb : RD w bo L) (hl : (L.length : Int) ≤ 9223372036854775807) :
    Calls Try.prog 14 #[.slice ao L.length ac, .slice bo L.length bc] w fun e w' => e = .returned (.bool true) ∧ Below w.heap.size w w' := by
  have HA := Lib.hid ha
  have HB := Lib.hid hb
  clear ha hb
  go_enter Try.func14, Try.ntmps14
  go_wp2_with fail
  go_loopw [5] (fun i wr => ∃ k : Nat, k ≤ L.length ∧ i = .int .i64 k ∧ Below w.heap.size w wr) (fun i _ => L.length - (intOf i).toNat)
  case atStart => exact ⟨0, Nat.zero_le _, rfl, Below.refl _ _⟩
  case round =>
    obtain ⟨k, hk, rfl, hbel⟩ := hrel
    by_cases hlt : k < L.length
    · obtain ⟨b1, o1, rfl, h1⟩ := HA.out (by omega)
      obtain ⟨b2, o2, rfl, h2⟩ := HB.out (by omega)
      obtain ⟨x0, x1, xo, xc, x2, x3⟩ := (h1 k _ (List.getElem?_eq_getElem hlt)).below hbel
      obtain ⟨y0, y1, yo, yc, y2, y3⟩ := (h2 k _ (List.getElem?_eq_getElem hlt)).below hbel
      generalize L[k] = d at *
      have k1 : ∀ q, (convert 29 9 (.slice xo d.bs.length xc)).run Try.prog (wr.drewN q) = .ok (.string (strOfNums d.bs)) (wr.drewN q) := fun q => src_string (w := wr.drewN q) x3 rfl
      have k2 : ∀ q, (convert 29 9 (.slice yo d.bs.length yc)).run Try.prog (wr.drewN q) = .ok (.string (strOfNums d.bs)) (wr.drewN q) := fun q => src_string (w := wr.drewN q) y3 rfl
      generalize strOfNums d.bs = s at k1 k2
      obtain ⟨fr, to, bs⟩ := d
      simp only at x0 x1 x2 y0 y1 y2 k1 k2
      clear h1 h2 x3 y3
      go_wp2_with fail
      go_quiet (fail)
      go_wp2_with fail
      go_roundw
      case rel => exact ⟨k + 1, by omega, by go_num, below_drewN hbel _⟩
      case measure => simp [intOf]; omega
    · obtain rfl : k = L.length := by omega
      go_wp2_with fail
      go_ret
      exact ⟨rfl, hbel⟩

theorem rd_one {w : World} {b : Nat} {d : Dg} {bo : Option Addr} {bc : Nat} (h0 : w.cell? ⟨b, 0, none⟩ = some (.int .i64 d.fr)) (h1 : w.cell? ⟨b, 1, none⟩ = some (.int .i64 d.to)) (h2 : w.cell? ⟨b, 2, none⟩ = some (.slice bo d.bs.length bc)) (hs : SrcAt w bo d.bs.length bc (u8s d.bs)) :
    RD w (some ⟨b, 0, none⟩) [d] := fun _ => ⟨b, 0, rfl, fun i e he => by
  match i, he with
  | 0, he =>
    simp only [List.getElem?_cons_zero, Option.some.injEq] at he
    subst he
    exact ⟨h0, h1, bo, bc, h2, hs⟩⟩

set_option maxRecDepth 100000 in
theorem same_true (w : World) (d : Dg) (ao bo : Option Addr) (ac bc : Nat) (ha : SrcAt w ao d.bs.length ac (u8s d.bs)) (hb : SrcAt w bo d.bs.length bc (u8s d.bs)) :
    Calls Try.prog 17 #[.agg #[.int .i64 d.fr, .int .i64 d.to, .slice ao d.bs.length ac], .agg #[.int .i64 d.fr, .int .i64 d.to, .slice bo d.bs.length bc]] w fun e w' => e = .returned (.bool true) ∧ Below w.heap.size w w' := by
  have HA := Lib.hid ha
  have HB := Lib.hid hb
  clear ha hb
  go_enter Try.func17, Try.ntmps17
  go_wp2_with fail
  have HB1 : Hid (Below w.heap.size w ((((w.alloc (.cells #[.int .i64 d.fr, .int .i64 d.to, .slice ao d.bs.length ac] 31)).alloc (.cells #[.int .i64 d.fr, .int .i64 d.to, .slice bo d.bs.length bc] 31)).alloc (.cells #[.int .i64 d.fr, .int .i64 d.to, .slice ao d.bs.length ac] 31)).alloc (.cells #[.int .i64 d.fr, .int .i64 d.to, .slice bo d.bs.length bc] 31))) :=
    Lib.hid (((((Below.refl _ _).alloc (Nat.le_refl _) _).alloc (by simp) _).alloc (by simp; omega) _).alloc (by simp; omega) _)
  refine (datagrams_true _ [d] _ _ 1 1 (rd_one (bo := ao) (bc := ac) ?_ ?_ ?_ (HA.out.below HB1.out)) (rd_one (bo := bo) (bc := bc) ?_ ?_ ?_ (HB.out.below HB1.out)) (by simp)).mono ?_
  · go_simp
  · go_simp
  · go_simp
  · go_simp
  · go_simp
  · go_simp
  rintro e w2 ⟨rfl, hb⟩
  have HB2 : Hid (Below w.heap.size w w2) := Lib.hid (HB1.out.trans (hb.mono HB1.out.size))
  clear hb HB1
  go_wp2_with fail
  go_ret
  exact ⟨rfl, HB2.out⟩
end Go.Proofs.Ytibagcgnaceimaa
