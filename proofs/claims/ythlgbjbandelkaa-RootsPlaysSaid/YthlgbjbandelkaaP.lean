/- A slice of the statements' Sets that came in, opened. -/
import Derived.Test.YthlgbjbandelkaaK
import Derived.Lib.SmallJoins
import Derived.Deep.Slices
namespace Go.Proofs.Ythlgbjbandelkaa
open Go.ChangeShapes Go.WideShapes Go.ChangeAt Go.RowKit Go.Joins Go.Deep
set_option linter.unusedVariables false

structure SetV where
  m : Int
  slot : Int
  node : Int
  serial : Int
  near : Bool

/-- Its numbers fit their kinds. -/
structure SetV.Ok (v : SetV) : Prop where
  m : -9223372036854775808 ≤ v.m ∧ v.m ≤ 9223372036854775807
  slot : -9223372036854775808 ≤ v.slot ∧ v.slot ≤ 9223372036854775807
  node : -9223372036854775808 ≤ v.node ∧ v.node ≤ 9223372036854775807
  serial : 0 ≤ v.serial ∧ v.serial ≤ 18446744073709551615

theorem cells34 : Try.prog.cellsOf 34 = 5 := by kernel_rfl
theorem cells32 : Try.prog.cellsOf 32 = 2 := by kernel_rfl
theorem cells3 : Try.prog.cellsOf 3 = 1 := by kernel_rfl
theorem cells4 : Try.prog.cellsOf 4 = 1 := by kernel_rfl
theorem cells30 : Try.prog.cellsOf 30 = 1 := by kernel_rfl

theorem read_set {H : Type} {enc : TypeId × Value → H} {w : World} {base : Nat} {spare : Nat → Bool} {held : Bool} {n : Nat} {cs : List Value} {x : DataW H × List MemPlace} (h : DataW.trod enc Try.prog w base spare held n 34 cs = some x) :
    ∃ v : SetV, cs = [.int .i64 v.m, .int .i64 v.slot, .int .i64 v.node, .int .u64 v.serial, .bool v.near] ∧ v.Ok := by
  obtain ⟨y0, y1, y2, y3, k, _, hl, h0, h1, h2, h3⟩ := trod_struct4 Try.underlying34 h
  rw [cells34] at hl
  match cs, hl with
  | [c0, c1, c2, c3, c4], _ =>
    simp only [cells3, cells4, cells32, List.drop, List.take] at h0 h1 h2 h3
    obtain ⟨n0, e0, _, w0⟩ := DataW.trod_int Try.underlying3 h0
    obtain ⟨n1, e1, _, w1⟩ := DataW.trod_int Try.underlying3 h1
    obtain ⟨b, e4, _⟩ := DataW.trod_bool Try.underlying4 h3
    obtain ⟨z0, z1, k', _, _, g0, g1⟩ := trod_struct2 Try.underlying32 h2
    simp only [cells3, cells30, List.drop, List.take] at g0 g1
    obtain ⟨n2, e2, _, w2⟩ := DataW.trod_int Try.underlying3 g0
    obtain ⟨n3, e3, _, w3⟩ := DataW.trod_int Try.underlying30 g1
    simp only [List.cons.injEq, and_true] at e0 e1 e2 e3 e4
    subst e0 e1 e2 e3 e4
    exact ⟨⟨n0, n1, n2, n3, b⟩, rfl, ⟨bounds_i64 w0, bounds_i64 w1, bounds_i64 w2, bounds_u64 w3⟩⟩

/-- The first 'len' Sets of a slice, each in its five cells. -/
def SetsAt (w : World) (a : Option Addr) (len : Nat) (Z : Nat → SetV) : Prop :=
  0 < len → ∃ b off, a = some ⟨b, off, none⟩ ∧ ∀ i, i < len →
    w.cell? ⟨b, off + i * 5, none⟩ = some (.int .i64 (Z i).m) ∧ w.cell? ⟨b, off + i * 5 + 1, none⟩ = some (.int .i64 (Z i).slot) ∧ w.cell? ⟨b, off + i * 5 + 2, none⟩ = some (.int .i64 (Z i).node) ∧
    w.cell? ⟨b, off + i * 5 + 3, none⟩ = some (.int .u64 (Z i).serial) ∧ w.cell? ⟨b, off + i * 5 + 4, none⟩ = some (.bool (Z i).near)

theorem add_none (b off i : Nat) : (⟨b, off, none⟩ : Addr).add i = ⟨b, off + i, none⟩ := by
  by_cases h : i = 0 <;> simp [Addr.add, h]

theorem open_row22 {H : Type} {enc : TypeId × Value → H} {W : World} {d : DataW H} {p : List MemPlace} (a : Option Addr) (len cap : Nat) (h : DataW.Trod enc Try.prog W 0 (fun _ => true) true 22 (.slice a len cap) d p) :
    ∃ Z : Nat → SetV, SetsAt W a len Z ∧ (∀ i, i < len → (Z i).Ok) ∧ len ≤ maxLen := by
  obtain ⟨fuel, hf⟩ := h
  rcases open_slice Try.underlying22 hf with ⟨hcs, _⟩ | ⟨x, l, c, m, n, D, Pl, hcs, _, hl, hm, hmm, _, hel⟩
  · simp [Value.cells] at hcs
    obtain ⟨rfl, rfl, rfl⟩ := hcs
    exact ⟨fun _ => ⟨0, 0, 0, 0, false⟩, fun h => absurd h (Nat.lt_irrefl _), fun i hi => absurd hi (Nat.not_lt_zero _), Nat.zero_le _⟩
  · simp [Value.cells] at hcs
    obtain ⟨rfl, rfl, rfl⟩ := hcs
    simp only [if_true] at hmm
    subst hmm
    rw [cells34] at hel
    haveI : Inhabited SetV := ⟨⟨0, 0, 0, 0, false⟩⟩
    obtain ⟨Z, hZ⟩ := choose_lt (n := len) (α := SetV) (p := fun i v => v.Ok ∧ ∀ j, j < 5 → W.cell? ((x.add (i * 5)).add j) = [Value.int .i64 v.m, .int .i64 v.slot, .int .i64 v.node, .int .u64 v.serial, .bool v.near][j]?) (fun i hi => by
      obtain ⟨cs', h1, h2⟩ := hel i (by omega)
      obtain ⟨v, rfl, hok⟩ := read_set h2
      exact ⟨v, hok, (World.cells?_some h1).2.2⟩)
    refine ⟨Z, fun h0 => ?_, fun i hi => (hZ i hi).1, by omega⟩
    obtain ⟨b, off, spot⟩ := x
    have hs : spot = none := by
      have := (hZ 0 h0).2 0 (by omega)
      simpa [Addr.add] using World.cell?_spot this
    subst hs
    refine ⟨b, off, rfl, fun i hi => ?_⟩
    have g := (hZ i hi).2
    simp only [add_none] at g
    exact ⟨g 0 (by omega), g 1 (by omega), g 2 (by omega), g 3 (by omega), g 4 (by omega)⟩
end Go.Proofs.Ythlgbjbandelkaa
