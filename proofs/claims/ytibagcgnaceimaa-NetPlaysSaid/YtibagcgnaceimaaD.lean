/- The contract of Peek. -/
import Derived.Test.YtibagcgnaceimaaC
namespace Go.Proofs.Ytibagcgnaceimaa
open Go.ChangeShapes Go.WideShapes Go.ChangeAt Go.RowKit
set_option linter.unusedVariables false

/-- Three stores into a block of three cells. -/
abbrev set3 (w : World) (b : Nat) (x y z : Value) : World := ((w.setCell ⟨b, 0, none⟩ x).setCell ⟨b, 1, none⟩ y).setCell ⟨b, 2, none⟩ z

theorem set3_cells {w : World} {b : Nat} {u0 u1 u2 : Value} (h0 : w.cell? ⟨b, 0, none⟩ = some u0) (h1 : w.cell? ⟨b, 1, none⟩ = some u1) (h2 : w.cell? ⟨b, 2, none⟩ = some u2) (x y z : Value) :
    (set3 w b x y z).cell? ⟨b, 0, none⟩ = some x ∧ (set3 w b x y z).cell? ⟨b, 1, none⟩ = some y ∧ (set3 w b x y z).cell? ⟨b, 2, none⟩ = some z := by
  refine ⟨by go_simp, by go_simp, by go_simp⟩

theorem set3_owns {w : World} {base : Nat} {e : TypeId} {size : Nat} {v : Value} {n : Nat} {xs : List Value} (h : w.ownsRow base e size v n xs) (b : Nat) (hb : v.ownBlock ≠ some b) (x y z : Value) : (set3 w b x y z).ownsRow base e size v n xs :=
  ((h.kept (grown_set _ _ _ _) (.inr hb)).kept (grown_set _ _ _ _) (.inr hb)).kept (grown_set _ _ _ _) (.inr hb)

theorem set3_below {w0 w : World} {k : Nat} (h : Below k w0 w) (b : Nat) (hb : k ≤ b) (x y z : Value) : Below k w0 (set3 w b x y z) := ((h.setCell hb _).setCell hb _).setCell hb _

section
variable (w : World) (F : Nat → Prop) (n : Nat) (most lost : Int) (v : Value) (H : List (Dg × Value))

theorem peek_out (h : NetAt w F n (netP most lost) v H) (k : Int) (hno : ¬ (0 ≤ k ∧ k < H.length)) :
    Calls Try.prog 13 #[.pointer (some ⟨n, 0, none⟩), .int .i64 k] w fun e w' => e = .returned (.tuple #[.agg #[.int .i64 0, .int .i64 0, .slice none 0 0], .bool false]) ∧ Below w.heap.size w w' := by
  obtain ⟨c0, c1, c2, f0, f2⟩ := h.cellsP
  have hn := h.lt n h.foot
  obtain ⟨ao, c, rfl, _⟩ := owns_slice h.row
  clear h
  by_cases g1 : 0 ≤ k
  · have g2 : (H.length : Int) ≤ k := by omega
    clear hno
    go_enter Try.func13, Try.ntmps13
    go_wp2_with fail
    exact bodyPost_ret (v := .tuple #[.agg #[.int .i64 0, .int .i64 0, .slice none 0 0], .bool false]) (by simp [results, Try.results13, go_sem]) rfl ⟨rfl, (Below.refl _ _).alloc (Nat.le_refl _) _⟩
  · clear hno
    go_enter Try.func13, Try.ntmps13
    go_wp2_with fail
    exact bodyPost_ret (v := .tuple #[.agg #[.int .i64 0, .int .i64 0, .slice none 0 0], .bool false]) (by simp [results, Try.results13, go_sem]) rfl ⟨rfl, (Below.refl _ _).alloc (Nat.le_refl _) _⟩

theorem peek_in (h : NetAt w F n (netP most lost) v H) (k : Nat) (d : Dg) (sv : Value) (hk : H[k]? = some (d, sv)) :
    Calls Try.prog 13 #[.pointer (some ⟨n, 0, none⟩), .int .i64 k] w fun e w' => ∃ v', e = .returned (.tuple #[.agg #[.int .i64 d.fr, .int .i64 d.to, v'], .bool true]) ∧ w'.ownsRow w.heap.size 5 1 v' d.bs.length (u8s d.bs) ∧ Below w.heap.size w w' := by
  obtain ⟨c0, c1, c2, f0, f2⟩ := h.cellsP
  have hn := h.lt n h.foot
  obtain ⟨hkl, hke⟩ := List.getElem?_eq_some_iff.1 hk
  have hmem : (d, sv) ∈ H := hke ▸ List.getElem_mem hkl
  have hsm := h.small _ hmem
  simp only at hsm
  obtain ⟨hd, _⟩ := h.dg _ hmem
  obtain ⟨g, cap, rfl, _, hg, hlc, _⟩ := owned_head h.row (by omega)
  obtain ⟨x0, x1, x2⟩ := dcells_at H k _ hk
  simp only at x0 x1 x2 hd
  have y0 := (h.row.cellAt (k * 3) (by omega)).trans x0
  have y1 := (h.row.cellAt (k * 3 + 1) (by omega)).trans x1
  have y2 := (h.row.cellAt (k * 3 + 2) (by omega)).trans x2
  obtain ⟨ao, c, rfl, hsrc⟩ := owns_src hd
  have HS := Lib.hid hsrc
  clear h hk hke hmem hd x0 x1 x2 hsrc
  go_enter Try.func13, Try.ntmps13
  go_wp2_with fail
  refine (twin_any d.fr d.to ao c d.bs _ (HS.out.alloc _) (by omega)).mono ?_
  rintro e w2 ⟨v2, rfl, hown, hb⟩
  obtain ⟨ao2, c2', rfl, _⟩ := owns_slice hown
  have hz := hb.size
  simp only [World.size_alloc] at hz
  have k0 : w2.cell? ⟨w.heap.size, 0, none⟩ = some (.int .i64 0) := (hb.cell (by simp)).trans (by go_simp)
  have k1 : w2.cell? ⟨w.heap.size, 1, none⟩ = some (.int .i64 0) := (hb.cell (by simp)).trans (by go_simp)
  have k2 : w2.cell? ⟨w.heap.size, 2, none⟩ = some (.slice none 0 0) := (hb.cell (by simp)).trans (by go_simp)
  have q0 : w2.frozen? ⟨w.heap.size, 0, none⟩ = false := (hb.frozen (by simp)).trans (by go_simp)
  have q1 : w2.frozen? ⟨w.heap.size, 1, none⟩ = false := (hb.frozen (by simp)).trans (by go_simp)
  have q2 : w2.frozen? ⟨w.heap.size, 2, none⟩ = false := (hb.frozen (by simp)).trans (by go_simp)
  have HO := Lib.hid hown
  have HB := Lib.hid hb
  clear hown hb
  go_wp2_with fail
  obtain ⟨r0, r1, r2⟩ := set3_cells k0 k1 k2 (.int .i64 d.fr) (.int .i64 d.to) (.slice ao2 d.bs.length c2')
  have hne : (Value.slice ao2 d.bs.length c2').ownBlock ≠ some w.heap.size := fun e => by have := (HO.out.lt _ e).1; simp at this; omega
  refine bodyPost_ret (v := .tuple #[.agg #[.int .i64 d.fr, .int .i64 d.to, .slice ao2 d.bs.length c2'], .bool true]) (by simp [results, Try.results13, go_sem, r0, r1, r2]) rfl ⟨_, rfl, ?_, ?_⟩
  · exact owns_weaken (set3_owns HO.out _ hne _ _ _) (by simp)
  · exact set3_below (((Below.refl _ _).alloc (Nat.le_refl _) _).trans (HB.out.mono (by simp))) _ (Nat.le_refl _) _ _ _
end
end Go.Proofs.Ytibagcgnaceimaa
