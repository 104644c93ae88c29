/- Slices of texts and of truths that came in. -/
import Derived.Test.YtilmdimffgohjaaD
import Derived.Test.YtilmdimffgohjaaG
import Derived.SliceStrings
import Derived.Deep.Grids
namespace Go.Proofs.Ytilmdimffgohjaa
open Go.ChangeShapes Go.WideShapes Go.ChangeAt Go.RowKit Go.Deep
set_option linter.unusedVariables false

def StrsAt (w : World) (a : Option Addr) (len : Nat) (Z : Nat → ByteArray) : Prop :=
  0 < len → ∃ b off, a = some ⟨b, off, none⟩ ∧ ∀ i, i < len → w.cell? ⟨b, off + i, none⟩ = some (.string (Z i))
def BoolsAt (w : World) (a : Option Addr) (len : Nat) (Z : Nat → Bool) : Prop :=
  0 < len → ∃ b off, a = some ⟨b, off, none⟩ ∧ ∀ i, i < len → w.cell? ⟨b, off + i, none⟩ = some (.bool (Z i))

theorem add_none (b off i : Nat) : (⟨b, off, none⟩ : Addr).add i = ⟨b, off + i, none⟩ := by
  by_cases h : i = 0 <;> simp [Addr.add, h]

theorem row_of {w : World} {x : Addr} {len : Nat} {f : Nat → Value} (h : ∀ i, i < len → w.cell? (x.add i) = some (f i)) (h0 : 0 < len) : ∃ b off, some x = some (⟨b, off, none⟩ : Addr) ∧ ∀ i, i < len → w.cell? ⟨b, off + i, none⟩ = some (f i) := by
  obtain ⟨b, off, spot⟩ := x
  have hs : spot = none := by
    have := h 0 h0
    simpa [Addr.add] using World.cell?_spot this
  subst hs
  refine ⟨b, off, rfl, fun i hi => ?_⟩
  have g := h i hi
  rwa [add_none] at g

theorem open_row33 {H : Type} {enc : TypeId × Value → H} {W : World} {d : DataW H} {p : List MemPlace} (a : Option Addr) (len cap : Nat) (h : DataW.Trod enc Try.prog W 0 (fun _ => true) true 33 (.slice a len cap) d p) :
    ∃ Z : Nat → ByteArray, StrsAt W a len Z ∧ len ≤ maxLen := by
  obtain ⟨fuel, hf⟩ := h
  rcases open_strings Try.underlying33 Try.underlying9 (by kernel_rfl) hf with ⟨hcs, _⟩ | ⟨x, l, c, ss, hcs, _, hl, hm, hlen, _, hel, _⟩
  · simp [Value.cells] at hcs
    obtain ⟨rfl, rfl, rfl⟩ := hcs
    exact ⟨fun _ => ByteArray.empty, fun h => absurd h (Nat.lt_irrefl _), Nat.zero_le _⟩
  · simp [Value.cells] at hcs
    obtain ⟨rfl, rfl, rfl⟩ := hcs
    simp only [if_true] at hlen
    exact ⟨fun i => ss.getD i ByteArray.empty, fun h0 => row_of (f := fun i => .string (ss.getD i ByteArray.empty)) (fun i hi => hel i (by omega)) h0, by omega⟩

theorem open_row34 {H : Type} {enc : TypeId × Value → H} {W : World} {d : DataW H} {p : List MemPlace} (a : Option Addr) (len cap : Nat) (h : DataW.Trod enc Try.prog W 0 (fun _ => true) true 34 (.slice a len cap) d p) :
    ∃ Z : Nat → Bool, BoolsAt W a len Z ∧ len ≤ maxLen := by
  obtain ⟨fuel, hf⟩ := h
  rcases open_bools Try.underlying34 Try.underlying4 (by kernel_rfl) hf with ⟨hcs, _⟩ | ⟨x, l, c, B, hcs, _, hl, hm, _, hel⟩
  · simp [Value.cells] at hcs
    obtain ⟨rfl, rfl, rfl⟩ := hcs
    exact ⟨fun _ => false, fun h => absurd h (Nat.lt_irrefl _), Nat.zero_le _⟩
  · simp [Value.cells] at hcs
    obtain ⟨rfl, rfl, rfl⟩ := hcs
    exact ⟨B, fun h0 => row_of (f := fun i => .bool (B i)) (fun i hi => hel i (by omega)) h0, by omega⟩

theorem mod_nat (z : Int) (m : Nat) (hm : 0 < m) : ∃ r : Nat, z % (m : Int) = r ∧ r < m := by
  have h1 := Int.emod_nonneg z (show (m : Int) ≠ 0 by omega)
  have h2 := Int.emod_lt_of_pos z (show (0 : Int) < m by omega)
  obtain ⟨r, hr⟩ := Int.eq_ofNat_of_zero_le h1
  exact ⟨r, hr, by omega⟩
end Go.Proofs.Ytilmdimffgohjaa
