/-
  No cell of these rows narrows 'for every input' (looked for: loops, veiled, ifaces, maps, wideKeys, modest, calm, conditions, laid).
  DERIVED. THE GIVEN ROWS OF THIS SEAT. 7 by the template 'for every input the law returns true; each argument reads behind the call as it read before'; 0 by the template 'total and deterministic' (their statements: YtdmenaihmghifaaTotals.lean).
  GIVEN WITH THE SEED: the statements are not yours to turn. If you find one false, say at which input.
  Laid BY PROGRAM, IN A SANDBOX (cutbox-rows.mjs): the forced cells as the released guide's own fill.sh prints them over the translation fdfcc8cc2dbe6d45… (all of the seat's roots in one cut). By AI agents, Wed Nov 11 2026. No macro, syntax, notation, axiom, sorry.
-/
import Derived.Test.YtdmenaihmghifaaChecked
import GoSem.Claim
import GoSem.ClaimJoined
import GoSem.ClaimMapViews
import Derived.JoinedTies
import Derived.KernelRfl
namespace Go.Proofs.Ytdmenaihmghifaa
/- THE CELL 'sum', in the pinned program and in every row, IS THE sha256 OF THE DUMP (.gsa) THAT YtdmenaihmghifaaProg.lean LOADS. Nothing in Lean hashes anything: it is a label: what it is worth is what the hold of that sum in a sandbox is worth. -/
noncomputable def Try.pinned : Pinned := { name := "ytdmenaihmghifaa", sum := "fdfcc8cc2dbe6d4581585ddedf33b7e1a343a08459554e967341038f90dc5b64", checked := Try.checked }
namespace Rows
def none {H : Type} : Left H := { results := [], args := [] }

/-- 'mooringlaw3.ClockTicks': WHATEVER THE INPUT: true; the input reads as it did. -/
def clockTicksSpec : ChangeSpec := { name := "clockTicks", fn := fun _ => fun
  | [d1, d2] => { results := [.lit (.bool true)], args := [d1, d2] }
  | _ => none }
def clockTicksRow : OpenClaim := { program := "ytdmenaihmghifaa", sum := "fdfcc8cc2dbe6d4581585ddedf33b7e1a343a08459554e967341038f90dc5b64", func := "mooring/mooringlaw3.ClockTicks", spec := "clockTicks", apart := false }
def ClockTicksSaid : Prop := clockTicksRow.holds Try.pinned (OpenSpec.ofChange clockTicksSpec)

/-- ITS FALSE NEIGHBOUR: 'it returns false'. Refute it at one input. -/
def clockTicksWrong : ChangeSpec := { name := "clockTicks", fn := fun _ => fun
  | [d1, d2] => { results := [.lit (.bool false)], args := [d1, d2] }
  | _ => none }
def ClockTicksWrongFalsely : Prop := clockTicksRow.holds Try.pinned (OpenSpec.ofChange clockTicksWrong)

/-- 'mooringlaw3.ClockEnds': WHATEVER THE INPUT: true; the input reads as it did. -/
def clockEndsSpec : ChangeSpec := { name := "clockEnds", fn := fun _ => fun
  | [d1, d2] => { results := [.lit (.bool true)], args := [d1, d2] }
  | _ => none }
def clockEndsRow : OpenClaim := { program := "ytdmenaihmghifaa", sum := "fdfcc8cc2dbe6d4581585ddedf33b7e1a343a08459554e967341038f90dc5b64", func := "mooring/mooringlaw3.ClockEnds", spec := "clockEnds", apart := false }
def ClockEndsSaid : Prop := clockEndsRow.holds Try.pinned (OpenSpec.ofChange clockEndsSpec)

/-- ITS FALSE NEIGHBOUR: 'it returns false'. Refute it at one input. -/
def clockEndsWrong : ChangeSpec := { name := "clockEnds", fn := fun _ => fun
  | [d1, d2] => { results := [.lit (.bool false)], args := [d1, d2] }
  | _ => none }
def ClockEndsWrongFalsely : Prop := clockEndsRow.holds Try.pinned (OpenSpec.ofChange clockEndsWrong)

/-- 'mooringlaw3.ClockTwo': WHATEVER THE INPUT: true; the input reads as it did. -/
def clockTwoSpec : ChangeSpec := { name := "clockTwo", fn := fun _ => fun
  | [d1, d2, d3] => { results := [.lit (.bool true)], args := [d1, d2, d3] }
  | _ => none }
def clockTwoRow : OpenClaim := { program := "ytdmenaihmghifaa", sum := "fdfcc8cc2dbe6d4581585ddedf33b7e1a343a08459554e967341038f90dc5b64", func := "mooring/mooringlaw3.ClockTwo", spec := "clockTwo", apart := false }
def ClockTwoSaid : Prop := clockTwoRow.holds Try.pinned (OpenSpec.ofChange clockTwoSpec)

/-- ITS FALSE NEIGHBOUR: 'it returns false'. Refute it at one input. -/
def clockTwoWrong : ChangeSpec := { name := "clockTwo", fn := fun _ => fun
  | [d1, d2, d3] => { results := [.lit (.bool false)], args := [d1, d2, d3] }
  | _ => none }
def ClockTwoWrongFalsely : Prop := clockTwoRow.holds Try.pinned (OpenSpec.ofChange clockTwoWrong)

/-- 'mooringlaw3.ClockPast': WHATEVER THE INPUT: true; the input reads as it did. -/
def clockPastSpec : ChangeSpec := { name := "clockPast", fn := fun _ => fun
  | [d1, d2, d3] => { results := [.lit (.bool true)], args := [d1, d2, d3] }
  | _ => none }
def clockPastRow : OpenClaim := { program := "ytdmenaihmghifaa", sum := "fdfcc8cc2dbe6d4581585ddedf33b7e1a343a08459554e967341038f90dc5b64", func := "mooring/mooringlaw3.ClockPast", spec := "clockPast", apart := false }
def ClockPastSaid : Prop := clockPastRow.holds Try.pinned (OpenSpec.ofChange clockPastSpec)

/-- ITS FALSE NEIGHBOUR: 'it returns false'. Refute it at one input. -/
def clockPastWrong : ChangeSpec := { name := "clockPast", fn := fun _ => fun
  | [d1, d2, d3] => { results := [.lit (.bool false)], args := [d1, d2, d3] }
  | _ => none }
def ClockPastWrongFalsely : Prop := clockPastRow.holds Try.pinned (OpenSpec.ofChange clockPastWrong)

/-- 'mooringlaw3.ClockStays': WHATEVER THE INPUT: true; the input reads as it did. -/
def clockStaysSpec : ChangeSpec := { name := "clockStays", fn := fun _ => fun
  | [d1, d2, d3, d4] => { results := [.lit (.bool true)], args := [d1, d2, d3, d4] }
  | _ => none }
def clockStaysRow : OpenClaim := { program := "ytdmenaihmghifaa", sum := "fdfcc8cc2dbe6d4581585ddedf33b7e1a343a08459554e967341038f90dc5b64", func := "mooring/mooringlaw3.ClockStays", spec := "clockStays", apart := false }
def ClockStaysSaid : Prop := clockStaysRow.holds Try.pinned (OpenSpec.ofChange clockStaysSpec)

/-- ITS FALSE NEIGHBOUR: 'it returns false'. Refute it at one input. -/
def clockStaysWrong : ChangeSpec := { name := "clockStays", fn := fun _ => fun
  | [d1, d2, d3, d4] => { results := [.lit (.bool false)], args := [d1, d2, d3, d4] }
  | _ => none }
def ClockStaysWrongFalsely : Prop := clockStaysRow.holds Try.pinned (OpenSpec.ofChange clockStaysWrong)

/-- 'mooringlaw3.ClockKnown': WHATEVER THE INPUT: true; the input reads as it did. -/
def clockKnownSpec : ChangeSpec := { name := "clockKnown", fn := fun _ => fun
  | [] => { results := [.lit (.bool true)], args := [] }
  | _ => none }
def clockKnownRow : OpenClaim := { program := "ytdmenaihmghifaa", sum := "fdfcc8cc2dbe6d4581585ddedf33b7e1a343a08459554e967341038f90dc5b64", func := "mooring/mooringlaw3.ClockKnown", spec := "clockKnown", apart := false }
def ClockKnownSaid : Prop := clockKnownRow.holds Try.pinned (OpenSpec.ofChange clockKnownSpec)

/-- ITS FALSE NEIGHBOUR: 'it returns false'. Refute it at one input. -/
def clockKnownWrong : ChangeSpec := { name := "clockKnown", fn := fun _ => fun
  | [] => { results := [.lit (.bool false)], args := [] }
  | _ => none }
def ClockKnownWrongFalsely : Prop := clockKnownRow.holds Try.pinned (OpenSpec.ofChange clockKnownWrong)

/-- 'mooringlaw3.ClockFair': WHATEVER THE INPUT: true; the input reads as it did. -/
def clockFairSpec : ChangeSpec := { name := "clockFair", fn := fun _ => fun
  | [d1, d2, d3] => { results := [.lit (.bool true)], args := [d1, d2, d3] }
  | _ => none }
def clockFairRow : OpenClaim := { program := "ytdmenaihmghifaa", sum := "fdfcc8cc2dbe6d4581585ddedf33b7e1a343a08459554e967341038f90dc5b64", func := "mooring/mooringlaw3.ClockFair", spec := "clockFair", apart := false }
def ClockFairSaid : Prop := clockFairRow.holds Try.pinned (OpenSpec.ofChange clockFairSpec)

/-- ITS FALSE NEIGHBOUR: 'it returns false'. Refute it at one input. -/
def clockFairWrong : ChangeSpec := { name := "clockFair", fn := fun _ => fun
  | [d1, d2, d3] => { results := [.lit (.bool false)], args := [d1, d2, d3] }
  | _ => none }
def ClockFairWrongFalsely : Prop := clockFairRow.holds Try.pinned (OpenSpec.ofChange clockFairWrong)

/- THE SECOND FORM. 'bulk': how many values and letters a reading holds, each counted each time it is reached (what is shared counts as often as it is met; a slice's spare places count too). A statement '..UptoSaid' is the law's where the arguments, and the package variables that the reading takes, are together of bulk at most 1048576: NARROWER than '..Said'. Prove '..Said' where nothing that the law and all that it calls make is longer than what came in: it says more and counts as full. Else prove '..UptoSaid'. A law counts once. -/
mutual
def uptoBulk {H : Type} : DataW H → Nat
  | .lit (.string bytes) => bytes.length + 1
  | .lit _ => 1
  | .nil => 1
  | .ptr d => uptoBulk d + 1
  | .slice elems spare => uptoBulkAll elems + uptoBulkAll spare + 1
  | .agg parts => uptoBulkAll parts + 1
  | .iface _ d => uptoBulk d + 1
  | .map entries => uptoBulkEntries entries + 1
  | .held _ => 1
def uptoBulkAll {H : Type} : List (DataW H) → Nat
  | [] => 0
  | d :: r => uptoBulk d + uptoBulkAll r
def uptoBulkEntries {H : Type} : List (Lit × DataW H) → Nat
  | [] => 0
  | x :: r => uptoBulkEntry x + uptoBulkEntries r
def uptoBulkEntry {H : Type} : Lit × DataW H → Nat
  | (.string bytes, d) => bytes.length + uptoBulk d + 1
  | (_, d) => uptoBulk d + 1
 end
def uptoSmall : (H : Type) → List (DataW H) → Bool := fun _ ds => decide (uptoBulkAll ds ≤ 1048576)
def OpenSpec.upto (s : _root_.Go.ChangeSpec) : _root_.Go.OpenSpec := { _root_.Go.OpenSpec.ofChange s with cond := some uptoSmall }

/-- 'mooringlaw3.ClockTicks', WHERE WHAT IT READS IS OF BULK AT MOST 1048576: true; the input reads as it did. -/
def clockTicksUptoRow : OpenClaim := { program := "ytdmenaihmghifaa", sum := "fdfcc8cc2dbe6d4581585ddedf33b7e1a343a08459554e967341038f90dc5b64", func := "mooring/mooringlaw3.ClockTicks", spec := "clockTicks", apart := false, narrowed := true }
def ClockTicksUptoSaid : Prop := clockTicksUptoRow.holds Try.pinned (OpenSpec.upto clockTicksSpec)

/-- 'mooringlaw3.ClockEnds', WHERE WHAT IT READS IS OF BULK AT MOST 1048576: true; the input reads as it did. -/
def clockEndsUptoRow : OpenClaim := { program := "ytdmenaihmghifaa", sum := "fdfcc8cc2dbe6d4581585ddedf33b7e1a343a08459554e967341038f90dc5b64", func := "mooring/mooringlaw3.ClockEnds", spec := "clockEnds", apart := false, narrowed := true }
def ClockEndsUptoSaid : Prop := clockEndsUptoRow.holds Try.pinned (OpenSpec.upto clockEndsSpec)

/-- 'mooringlaw3.ClockTwo', WHERE WHAT IT READS IS OF BULK AT MOST 1048576: true; the input reads as it did. -/
def clockTwoUptoRow : OpenClaim := { program := "ytdmenaihmghifaa", sum := "fdfcc8cc2dbe6d4581585ddedf33b7e1a343a08459554e967341038f90dc5b64", func := "mooring/mooringlaw3.ClockTwo", spec := "clockTwo", apart := false, narrowed := true }
def ClockTwoUptoSaid : Prop := clockTwoUptoRow.holds Try.pinned (OpenSpec.upto clockTwoSpec)

/-- 'mooringlaw3.ClockPast', WHERE WHAT IT READS IS OF BULK AT MOST 1048576: true; the input reads as it did. -/
def clockPastUptoRow : OpenClaim := { program := "ytdmenaihmghifaa", sum := "fdfcc8cc2dbe6d4581585ddedf33b7e1a343a08459554e967341038f90dc5b64", func := "mooring/mooringlaw3.ClockPast", spec := "clockPast", apart := false, narrowed := true }
def ClockPastUptoSaid : Prop := clockPastUptoRow.holds Try.pinned (OpenSpec.upto clockPastSpec)

/-- 'mooringlaw3.ClockStays', WHERE WHAT IT READS IS OF BULK AT MOST 1048576: true; the input reads as it did. -/
def clockStaysUptoRow : OpenClaim := { program := "ytdmenaihmghifaa", sum := "fdfcc8cc2dbe6d4581585ddedf33b7e1a343a08459554e967341038f90dc5b64", func := "mooring/mooringlaw3.ClockStays", spec := "clockStays", apart := false, narrowed := true }
def ClockStaysUptoSaid : Prop := clockStaysUptoRow.holds Try.pinned (OpenSpec.upto clockStaysSpec)

/-- 'mooringlaw3.ClockKnown', WHERE WHAT IT READS IS OF BULK AT MOST 1048576: true; the input reads as it did. -/
def clockKnownUptoRow : OpenClaim := { program := "ytdmenaihmghifaa", sum := "fdfcc8cc2dbe6d4581585ddedf33b7e1a343a08459554e967341038f90dc5b64", func := "mooring/mooringlaw3.ClockKnown", spec := "clockKnown", apart := false, narrowed := true }
def ClockKnownUptoSaid : Prop := clockKnownUptoRow.holds Try.pinned (OpenSpec.upto clockKnownSpec)

/-- 'mooringlaw3.ClockFair', WHERE WHAT IT READS IS OF BULK AT MOST 1048576: true; the input reads as it did. -/
def clockFairUptoRow : OpenClaim := { program := "ytdmenaihmghifaa", sum := "fdfcc8cc2dbe6d4581585ddedf33b7e1a343a08459554e967341038f90dc5b64", func := "mooring/mooringlaw3.ClockFair", spec := "clockFair", apart := false, narrowed := true }
def ClockFairUptoSaid : Prop := clockFairUptoRow.holds Try.pinned (OpenSpec.upto clockFairSpec)

end Rows
end Go.Proofs.Ytdmenaihmghifaa
