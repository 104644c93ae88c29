/-
  No cell of these rows narrows 'for every input' (looked for: loops, veiled, ifaces, maps, wideKeys, modest, calm, conditions, laid).
  DERIVED. THE GIVEN ROWS OF THIS SEAT. 4 by the template 'for every input the law returns true; each argument reads behind the call as it read before'; 0 by the template 'total and deterministic' (their statements: YthlgbjbandelkaaTotals.lean).
  GIVEN WITH THE SEED: the statements are not yours to turn. If you find one false, say at which input.
  Laid BY PROGRAM, IN A SANDBOX (cutbox-rows.mjs): the forced cells as the released guide's own fill.sh prints them over the translation 1d9afa5021a0020a… (all of the seat's roots in one cut). By AI agents, Wed Nov 11 2026. No macro, syntax, notation, axiom, sorry.
-/
import Derived.Test.YthlgbjbandelkaaChecked
import GoSem.Claim
import GoSem.ClaimJoined
import GoSem.ClaimMapViews
import Derived.JoinedTies
import Derived.KernelRfl
namespace Go.Proofs.Ythlgbjbandelkaa
/- THE CELL 'sum', in the pinned program and in every row, IS THE sha256 OF THE DUMP (.gsa) THAT YthlgbjbandelkaaProg.lean LOADS. Nothing in Lean hashes anything: it is a label: what it is worth is what the hold of that sum in a sandbox is worth. -/
noncomputable def Try.pinned : Pinned := { name := "ythlgbjbandelkaa", sum := "1d9afa5021a0020a37bf381724c3910dfda33b03e84326bff244e0b6a5b22b9b", checked := Try.checked }
namespace Rows
def none {H : Type} : Left H := { results := [], args := [] }

/-- 'mooringlaw9.RootsPlays': WHATEVER THE INPUT: true; the input reads as it did. -/
def rootsPlaysSpec : ChangeSpec := { name := "rootsPlays", fn := fun _ => fun
  | [d1, d2, d3] => { results := [.lit (.bool true)], args := [d1, d2, d3] }
  | _ => none }
def rootsPlaysRow : OpenClaim := { program := "ythlgbjbandelkaa", sum := "1d9afa5021a0020a37bf381724c3910dfda33b03e84326bff244e0b6a5b22b9b", func := "mooring/mooringlaw9.RootsPlays", spec := "rootsPlays", apart := false }
def RootsPlaysSaid : Prop := rootsPlaysRow.holds Try.pinned (OpenSpec.ofChange rootsPlaysSpec)

/-- ITS FALSE NEIGHBOUR: 'it returns false'. Refute it at one input. -/
def rootsPlaysWrong : ChangeSpec := { name := "rootsPlays", fn := fun _ => fun
  | [d1, d2, d3] => { results := [.lit (.bool false)], args := [d1, d2, d3] }
  | _ => none }
def RootsPlaysWrongFalsely : Prop := rootsPlaysRow.holds Try.pinned (OpenSpec.ofChange rootsPlaysWrong)

/-- 'mooringlaw9.RootsCount': WHATEVER THE INPUT: true; the input reads as it did. -/
def rootsCountSpec : ChangeSpec := { name := "rootsCount", fn := fun _ => fun
  | [d1, d2] => { results := [.lit (.bool true)], args := [d1, d2] }
  | _ => none }
def rootsCountRow : OpenClaim := { program := "ythlgbjbandelkaa", sum := "1d9afa5021a0020a37bf381724c3910dfda33b03e84326bff244e0b6a5b22b9b", func := "mooring/mooringlaw9.RootsCount", spec := "rootsCount", apart := false }
def RootsCountSaid : Prop := rootsCountRow.holds Try.pinned (OpenSpec.ofChange rootsCountSpec)

/-- ITS FALSE NEIGHBOUR: 'it returns false'. Refute it at one input. -/
def rootsCountWrong : ChangeSpec := { name := "rootsCount", fn := fun _ => fun
  | [d1, d2] => { results := [.lit (.bool false)], args := [d1, d2] }
  | _ => none }
def RootsCountWrongFalsely : Prop := rootsCountRow.holds Try.pinned (OpenSpec.ofChange rootsCountWrong)

/-- 'mooringlaw9.RootsOwn': WHATEVER THE INPUT: true; the input reads as it did. -/
def rootsOwnSpec : ChangeSpec := { name := "rootsOwn", fn := fun _ => fun
  | [d] => { results := [.lit (.bool true)], args := [d] }
  | _ => none }
def rootsOwnRow : OpenClaim := { program := "ythlgbjbandelkaa", sum := "1d9afa5021a0020a37bf381724c3910dfda33b03e84326bff244e0b6a5b22b9b", func := "mooring/mooringlaw9.RootsOwn", spec := "rootsOwn", apart := false }
def RootsOwnSaid : Prop := rootsOwnRow.holds Try.pinned (OpenSpec.ofChange rootsOwnSpec)

/-- ITS FALSE NEIGHBOUR: 'it returns false'. Refute it at one input. -/
def rootsOwnWrong : ChangeSpec := { name := "rootsOwn", fn := fun _ => fun
  | [d] => { results := [.lit (.bool false)], args := [d] }
  | _ => none }
def RootsOwnWrongFalsely : Prop := rootsOwnRow.holds Try.pinned (OpenSpec.ofChange rootsOwnWrong)

/-- 'mooringlaw9.RootsKnown': WHATEVER THE INPUT: true; the input reads as it did. -/
def rootsKnownSpec : ChangeSpec := { name := "rootsKnown", fn := fun _ => fun
  | [] => { results := [.lit (.bool true)], args := [] }
  | _ => none }
def rootsKnownRow : OpenClaim := { program := "ythlgbjbandelkaa", sum := "1d9afa5021a0020a37bf381724c3910dfda33b03e84326bff244e0b6a5b22b9b", func := "mooring/mooringlaw9.RootsKnown", spec := "rootsKnown", apart := false }
def RootsKnownSaid : Prop := rootsKnownRow.holds Try.pinned (OpenSpec.ofChange rootsKnownSpec)

/-- ITS FALSE NEIGHBOUR: 'it returns false'. Refute it at one input. -/
def rootsKnownWrong : ChangeSpec := { name := "rootsKnown", fn := fun _ => fun
  | [] => { results := [.lit (.bool false)], args := [] }
  | _ => none }
def RootsKnownWrongFalsely : Prop := rootsKnownRow.holds Try.pinned (OpenSpec.ofChange rootsKnownWrong)

/- THE SECOND FORM. 'bulk': how many values and letters a reading holds, each counted each time it is reached (what is shared counts as often as it is met; a slice's spare places count too). A statement '..UptoSaid' is the law's where the arguments, and the package variables that the reading takes, are together of bulk at most 1048576: NARROWER than '..Said'. Prove '..Said' where nothing that the law and all that it calls make is longer than what came in: it says more and counts as full. Else prove '..UptoSaid'. A law counts once. -/
mutual
def uptoBulk {H : Type} : DataW H → Nat
  | .lit (.string bytes) => bytes.length + 1
  | .lit _ => 1
  | .nil => 1
  | .ptr d => uptoBulk d + 1
  | .slice elems spare => uptoBulkAll elems + uptoBulkAll spare + 1
  | .agg parts => uptoBulkAll parts + 1
  | .iface _ d => uptoBulk d + 1
  | .map entries => uptoBulkEntries entries + 1
  | .held _ => 1
def uptoBulkAll {H : Type} : List (DataW H) → Nat
  | [] => 0
  | d :: r => uptoBulk d + uptoBulkAll r
def uptoBulkEntries {H : Type} : List (Lit × DataW H) → Nat
  | [] => 0
  | x :: r => uptoBulkEntry x + uptoBulkEntries r
def uptoBulkEntry {H : Type} : Lit × DataW H → Nat
  | (.string bytes, d) => bytes.length + uptoBulk d + 1
  | (_, d) => uptoBulk d + 1
 end
def uptoSmall : (H : Type) → List (DataW H) → Bool := fun _ ds => decide (uptoBulkAll ds ≤ 1048576)
def OpenSpec.upto (s : _root_.Go.ChangeSpec) : _root_.Go.OpenSpec := { _root_.Go.OpenSpec.ofChange s with cond := some uptoSmall }

/-- 'mooringlaw9.RootsPlays', WHERE WHAT IT READS IS OF BULK AT MOST 1048576: true; the input reads as it did. -/
def rootsPlaysUptoRow : OpenClaim := { program := "ythlgbjbandelkaa", sum := "1d9afa5021a0020a37bf381724c3910dfda33b03e84326bff244e0b6a5b22b9b", func := "mooring/mooringlaw9.RootsPlays", spec := "rootsPlays", apart := false, narrowed := true }
def RootsPlaysUptoSaid : Prop := rootsPlaysUptoRow.holds Try.pinned (OpenSpec.upto rootsPlaysSpec)

/-- 'mooringlaw9.RootsCount', WHERE WHAT IT READS IS OF BULK AT MOST 1048576: true; the input reads as it did. -/
def rootsCountUptoRow : OpenClaim := { program := "ythlgbjbandelkaa", sum := "1d9afa5021a0020a37bf381724c3910dfda33b03e84326bff244e0b6a5b22b9b", func := "mooring/mooringlaw9.RootsCount", spec := "rootsCount", apart := false, narrowed := true }
def RootsCountUptoSaid : Prop := rootsCountUptoRow.holds Try.pinned (OpenSpec.upto rootsCountSpec)

/-- 'mooringlaw9.RootsOwn', WHERE WHAT IT READS IS OF BULK AT MOST 1048576: true; the input reads as it did. -/
def rootsOwnUptoRow : OpenClaim := { program := "ythlgbjbandelkaa", sum := "1d9afa5021a0020a37bf381724c3910dfda33b03e84326bff244e0b6a5b22b9b", func := "mooring/mooringlaw9.RootsOwn", spec := "rootsOwn", apart := false, narrowed := true }
def RootsOwnUptoSaid : Prop := rootsOwnUptoRow.holds Try.pinned (OpenSpec.upto rootsOwnSpec)

/-- 'mooringlaw9.RootsKnown', WHERE WHAT IT READS IS OF BULK AT MOST 1048576: true; the input reads as it did. -/
def rootsKnownUptoRow : OpenClaim := { program := "ythlgbjbandelkaa", sum := "1d9afa5021a0020a37bf381724c3910dfda33b03e84326bff244e0b6a5b22b9b", func := "mooring/mooringlaw9.RootsKnown", spec := "rootsKnown", apart := false, narrowed := true }
def RootsKnownUptoSaid : Prop := rootsKnownUptoRow.holds Try.pinned (OpenSpec.upto rootsKnownSpec)

end Rows
end Go.Proofs.Ythlgbjbandelkaa
