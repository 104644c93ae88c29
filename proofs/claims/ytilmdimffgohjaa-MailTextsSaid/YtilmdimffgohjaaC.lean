/- A box in memory: a pointer to one field, a channel with a buffer. -/
import Derived.Test.YtilmdimffgohjaaK
import Derived.Conc.LoneSelect
namespace Go.Proofs.Ytilmdimffgohjaa
open Go.ChangeShapes Go.WideShapes Go.ChangeAt Go.RowKit Go.Conc
set_option linter.unusedVariables false

def BoxAt (w : World) (p c cap : Nat) (buf : List Value) : Prop :=
  w.cell? ⟨p, 0, none⟩ = some (.chan (some c)) ∧ ∃ s r, w.heap[c]? = some (.chan cap buf.toArray false s r false)

theorem heap_lt {w : World} {c : Nat} {o : Obj} (h : w.heap[c]? = some o) : c < w.heap.size := by
  rcases Nat.lt_or_ge c w.heap.size with h' | h'
  · exact h'
  · rw [Array.getElem?_eq_none h'] at h; cases h

theorem cell_chan {w : World} {p c : Nat} {v : Value} {cap : Nat} {buf : Array Value} {cl : Bool} {s r : Nat} {tm : Bool} (hp : w.cell? ⟨p, 0, none⟩ = some v) (hc : w.heap[c]? = some (.chan cap buf cl s r tm)) : p ≠ c := by
  rintro rfl
  simp [World.cell?, hc] at hp

theorem cell_setChan {w : World} {p c : Nat} {v : Value} {cap : Nat} {buf : Array Value} {cl : Bool} {s r : Nat} {tm : Bool} (hp : w.cell? ⟨p, 0, none⟩ = some v) (hc : w.heap[c]? = some (.chan cap buf cl s r tm)) (cap' : Nat) (buf' : Array Value) (s' r' : Nat) (tm' : Bool) :
    (w.setChan c cap' buf' false s' r' tm').cell? ⟨p, 0, none⟩ = some v := by
  have hne := cell_chan hp hc
  refine (World.cell?_of_block (w := w) ?_).trans hp
  simp only [World.setChan]
  rw [Array.getElem?_setIfInBounds_ne (Ne.symm hne)]

theorem grown_setChan (w : World) (c cap : Nat) (buf : Array Value) (s r : Nat) (tm : Bool) : w.grownBy (w.setChan c cap buf false s r tm) (some c) :=
  ⟨rfl, rfl, rfl, by simp [World.setChan], fun k hk hne => by
    simp only [World.setChan]
    rw [Array.getElem?_setIfInBounds_ne (fun h => hne (by rw [h]))]⟩

theorem BoxAt.keep {w w' : World} {p c cap : Nat} {buf : List Value} (h : BoxAt w p c cap buf) (hp : w'.heap[p]? = w.heap[p]?) (hc : w'.heap[c]? = w.heap[c]?) : BoxAt w' p c cap buf :=
  ⟨(World.cell?_of_block (w := w) hp).trans h.1, h.2.imp fun s ⟨r, hr⟩ => ⟨r, hc.trans hr⟩⟩
theorem BoxAt.lt {w : World} {p c cap : Nat} {buf : List Value} (h : BoxAt w p c cap buf) : p < w.heap.size ∧ c < w.heap.size :=
  ⟨World.block_lt_of_cell? _ _ h.1, let ⟨s, r, hr⟩ := h.2; heap_lt hr⟩
theorem BoxAt.below {w w' : World} {B p c cap : Nat} {buf : List Value} (h : BoxAt w p c cap buf) (hb : Below B w w') (hB : w.heap.size ≤ B) : BoxAt w' p c cap buf :=
  h.keep (hb.block p (Nat.lt_of_lt_of_le h.lt.1 hB)) (hb.block c (Nat.lt_of_lt_of_le h.lt.2 hB))
theorem BoxAt.grown {w w' : World} {row : Option Nat} {p c cap : Nat} {buf : List Value} (h : BoxAt w p c cap buf) (hg : w.grownBy w' row) (hp : row ≠ some p) (hc : row ≠ some c) : BoxAt w' p c cap buf :=
  h.keep (hg.block p h.lt.1 (Ne.symm hp)) (hg.block c h.lt.2 (Ne.symm hc))
end Go.Proofs.Ytilmdimffgohjaa
