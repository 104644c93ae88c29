/-
  No cell of these rows narrows 'for every input' (looked for: loops, veiled, ifaces, maps, wideKeys, modest, calm, conditions, laid).
  DERIVED. THE GIVEN ROWS OF THIS SEAT. 4 by the template 'for every input the law returns true; each argument reads behind the call as it read before'; 0 by the template 'total and deterministic' (their statements: YtilmdimffgohjaaTotals.lean).
  GIVEN WITH THE SEED: the statements are not yours to turn. If you find one false, say at which input.
  Laid BY PROGRAM, IN A SANDBOX (cutbox-rows.mjs): the forced cells as the released guide's own fill.sh prints them over the translation 85b30e27370764b8… (all of the seat's roots in one cut). By AI agents, Wed Nov 11 2026. No macro, syntax, notation, axiom, sorry.
-/
import Derived.Test.YtilmdimffgohjaaChecked
import GoSem.Claim
import GoSem.ClaimJoined
import GoSem.ClaimMapViews
import Derived.JoinedTies
import Derived.KernelRfl
namespace Go.Proofs.Ytilmdimffgohjaa
/- THE CELL 'sum', in the pinned program and in every row, IS THE sha256 OF THE DUMP (.gsa) THAT YtilmdimffgohjaaProg.lean LOADS. Nothing in Lean hashes anything: it is a label: what it is worth is what the hold of that sum in a sandbox is worth. -/
noncomputable def Try.pinned : Pinned := { name := "ytilmdimffgohjaa", sum := "85b30e27370764b86462daad1963cd413f3c92d008fbc02d0396e038327c93be", checked := Try.checked }
namespace Rows
def none {H : Type} : Left H := { results := [], args := [] }

/-- 'mooringlaw5.MailTwo': WHATEVER THE INPUT: true; the input reads as it did. -/
def mailTwoSpec : ChangeSpec := { name := "mailTwo", fn := fun _ => fun
  | [d] => { results := [.lit (.bool true)], args := [d] }
  | _ => none }
def mailTwoRow : OpenClaim := { program := "ytilmdimffgohjaa", sum := "85b30e27370764b86462daad1963cd413f3c92d008fbc02d0396e038327c93be", func := "mooring/mooringlaw5.MailTwo", spec := "mailTwo", apart := false }
def MailTwoSaid : Prop := mailTwoRow.holds Try.pinned (OpenSpec.ofChange mailTwoSpec)

/-- ITS FALSE NEIGHBOUR: 'it returns false'. Refute it at one input. -/
def mailTwoWrong : ChangeSpec := { name := "mailTwo", fn := fun _ => fun
  | [d] => { results := [.lit (.bool false)], args := [d] }
  | _ => none }
def MailTwoWrongFalsely : Prop := mailTwoRow.holds Try.pinned (OpenSpec.ofChange mailTwoWrong)

/-- 'mooringlaw5.MailTexts': WHATEVER THE INPUT: true; the input reads as it did. -/
def mailTextsSpec : ChangeSpec := { name := "mailTexts", fn := fun _ => fun
  | [d1, d2, d3] => { results := [.lit (.bool true)], args := [d1, d2, d3] }
  | _ => none }
def mailTextsRow : OpenClaim := { program := "ytilmdimffgohjaa", sum := "85b30e27370764b86462daad1963cd413f3c92d008fbc02d0396e038327c93be", func := "mooring/mooringlaw5.MailTexts", spec := "mailTexts", apart := false }
def MailTextsSaid : Prop := mailTextsRow.holds Try.pinned (OpenSpec.ofChange mailTextsSpec)

/-- ITS FALSE NEIGHBOUR: 'it returns false'. Refute it at one input. -/
def mailTextsWrong : ChangeSpec := { name := "mailTexts", fn := fun _ => fun
  | [d1, d2, d3] => { results := [.lit (.bool false)], args := [d1, d2, d3] }
  | _ => none }
def MailTextsWrongFalsely : Prop := mailTextsRow.holds Try.pinned (OpenSpec.ofChange mailTextsWrong)

/-- 'mooringlaw5.MailKnown': WHATEVER THE INPUT: true; the input reads as it did. -/
def mailKnownSpec : ChangeSpec := { name := "mailKnown", fn := fun _ => fun
  | [] => { results := [.lit (.bool true)], args := [] }
  | _ => none }
def mailKnownRow : OpenClaim := { program := "ytilmdimffgohjaa", sum := "85b30e27370764b86462daad1963cd413f3c92d008fbc02d0396e038327c93be", func := "mooring/mooringlaw5.MailKnown", spec := "mailKnown", apart := false }
def MailKnownSaid : Prop := mailKnownRow.holds Try.pinned (OpenSpec.ofChange mailKnownSpec)

/-- ITS FALSE NEIGHBOUR: 'it returns false'. Refute it at one input. -/
def mailKnownWrong : ChangeSpec := { name := "mailKnown", fn := fun _ => fun
  | [] => { results := [.lit (.bool false)], args := [] }
  | _ => none }
def MailKnownWrongFalsely : Prop := mailKnownRow.holds Try.pinned (OpenSpec.ofChange mailKnownWrong)

/-- 'mooringlaw5.MailPlays': WHATEVER THE INPUT: true; the input reads as it did. -/
def mailPlaysSpec : ChangeSpec := { name := "mailPlays", fn := fun _ => fun
  | [d1, d2] => { results := [.lit (.bool true)], args := [d1, d2] }
  | _ => none }
def mailPlaysRow : OpenClaim := { program := "ytilmdimffgohjaa", sum := "85b30e27370764b86462daad1963cd413f3c92d008fbc02d0396e038327c93be", func := "mooring/mooringlaw5.MailPlays", spec := "mailPlays", apart := false }
def MailPlaysSaid : Prop := mailPlaysRow.holds Try.pinned (OpenSpec.ofChange mailPlaysSpec)

/-- ITS FALSE NEIGHBOUR: 'it returns false'. Refute it at one input. -/
def mailPlaysWrong : ChangeSpec := { name := "mailPlays", fn := fun _ => fun
  | [d1, d2] => { results := [.lit (.bool false)], args := [d1, d2] }
  | _ => none }
def MailPlaysWrongFalsely : Prop := mailPlaysRow.holds Try.pinned (OpenSpec.ofChange mailPlaysWrong)

/- THE SECOND FORM. 'bulk': how many values and letters a reading holds, each counted each time it is reached (what is shared counts as often as it is met; a slice's spare places count too). A statement '..UptoSaid' is the law's where the arguments, and the package variables that the reading takes, are together of bulk at most 1048576: NARROWER than '..Said'. Prove '..Said' where nothing that the law and all that it calls make is longer than what came in: it says more and counts as full. Else prove '..UptoSaid'. A law counts once. -/
mutual
def uptoBulk {H : Type} : DataW H → Nat
  | .lit (.string bytes) => bytes.length + 1
  | .lit _ => 1
  | .nil => 1
  | .ptr d => uptoBulk d + 1
  | .slice elems spare => uptoBulkAll elems + uptoBulkAll spare + 1
  | .agg parts => uptoBulkAll parts + 1
  | .iface _ d => uptoBulk d + 1
  | .map entries => uptoBulkEntries entries + 1
  | .held _ => 1
def uptoBulkAll {H : Type} : List (DataW H) → Nat
  | [] => 0
  | d :: r => uptoBulk d + uptoBulkAll r
def uptoBulkEntries {H : Type} : List (Lit × DataW H) → Nat
  | [] => 0
  | x :: r => uptoBulkEntry x + uptoBulkEntries r
def uptoBulkEntry {H : Type} : Lit × DataW H → Nat
  | (.string bytes, d) => bytes.length + uptoBulk d + 1
  | (_, d) => uptoBulk d + 1
 end
def uptoSmall : (H : Type) → List (DataW H) → Bool := fun _ ds => decide (uptoBulkAll ds ≤ 1048576)
def OpenSpec.upto (s : _root_.Go.ChangeSpec) : _root_.Go.OpenSpec := { _root_.Go.OpenSpec.ofChange s with cond := some uptoSmall }

/-- 'mooringlaw5.MailTwo', WHERE WHAT IT READS IS OF BULK AT MOST 1048576: true; the input reads as it did. -/
def mailTwoUptoRow : OpenClaim := { program := "ytilmdimffgohjaa", sum := "85b30e27370764b86462daad1963cd413f3c92d008fbc02d0396e038327c93be", func := "mooring/mooringlaw5.MailTwo", spec := "mailTwo", apart := false, narrowed := true }
def MailTwoUptoSaid : Prop := mailTwoUptoRow.holds Try.pinned (OpenSpec.upto mailTwoSpec)

/-- 'mooringlaw5.MailTexts', WHERE WHAT IT READS IS OF BULK AT MOST 1048576: true; the input reads as it did. -/
def mailTextsUptoRow : OpenClaim := { program := "ytilmdimffgohjaa", sum := "85b30e27370764b86462daad1963cd413f3c92d008fbc02d0396e038327c93be", func := "mooring/mooringlaw5.MailTexts", spec := "mailTexts", apart := false, narrowed := true }
def MailTextsUptoSaid : Prop := mailTextsUptoRow.holds Try.pinned (OpenSpec.upto mailTextsSpec)

/-- 'mooringlaw5.MailKnown', WHERE WHAT IT READS IS OF BULK AT MOST 1048576: true; the input reads as it did. -/
def mailKnownUptoRow : OpenClaim := { program := "ytilmdimffgohjaa", sum := "85b30e27370764b86462daad1963cd413f3c92d008fbc02d0396e038327c93be", func := "mooring/mooringlaw5.MailKnown", spec := "mailKnown", apart := false, narrowed := true }
def MailKnownUptoSaid : Prop := mailKnownUptoRow.holds Try.pinned (OpenSpec.upto mailKnownSpec)

/-- 'mooringlaw5.MailPlays', WHERE WHAT IT READS IS OF BULK AT MOST 1048576: true; the input reads as it did. -/
def mailPlaysUptoRow : OpenClaim := { program := "ytilmdimffgohjaa", sum := "85b30e27370764b86462daad1963cd413f3c92d008fbc02d0396e038327c93be", func := "mooring/mooringlaw5.MailPlays", spec := "mailPlays", apart := false, narrowed := true }
def MailPlaysUptoSaid : Prop := mailPlaysUptoRow.holds Try.pinned (OpenSpec.upto mailPlaysSpec)

end Rows
end Go.Proofs.Ytilmdimffgohjaa
