/-
  No cell of these rows narrows 'for every input' (looked for: loops, veiled, ifaces, maps, wideKeys, modest, calm, conditions, laid).
  DERIVED. THE GIVEN ROWS OF THIS SEAT. 3 by the template 'for every input the law returns true; each argument reads behind the call as it read before'; 0 by the template 'total and deterministic' (their statements: YthndbbjkkehjeaaTotals.lean).
  GIVEN WITH THE SEED: the statements are not yours to turn. If you find one false, say at which input.
  Laid BY PROGRAM, IN A SANDBOX (cutbox-rows.mjs): the forced cells as the released guide's own fill.sh prints them over the translation e939356dccb60e44… (all of the seat's roots in one cut). By AI agents, Wed Nov 11 2026. No macro, syntax, notation, axiom, sorry.
-/
import Derived.Test.YthndbbjkkehjeaaChecked
import GoSem.Claim
import GoSem.ClaimJoined
import GoSem.ClaimMapViews
import Derived.JoinedTies
import Derived.KernelRfl
namespace Go.Proofs.Ythndbbjkkehjeaa
/- THE CELL 'sum', in the pinned program and in every row, IS THE sha256 OF THE DUMP (.gsa) THAT YthndbbjkkehjeaaProg.lean LOADS. Nothing in Lean hashes anything: it is a label: what it is worth is what the hold of that sum in a sandbox is worth. -/
noncomputable def Try.pinned : Pinned := { name := "ythndbbjkkehjeaa", sum := "e939356dccb60e443cafab9a985d0a4bf0e5c3d852d9653eef986eeaeb2e9958", checked := Try.checked }
namespace Rows
def none {H : Type} : Left H := { results := [], args := [] }

/-- 'capstanlaw14.LowerMany': WHATEVER THE INPUT: true; the input reads as it did. -/
def lowerManySpec : ChangeSpec := { name := "lowerMany", fn := fun _ => fun
  | [d1, d2] => { results := [.lit (.bool true)], args := [d1, d2] }
  | _ => none }
def lowerManyRow : OpenClaim := { program := "ythndbbjkkehjeaa", sum := "e939356dccb60e443cafab9a985d0a4bf0e5c3d852d9653eef986eeaeb2e9958", func := "capstan/capstanlaw14.LowerMany", spec := "lowerMany", apart := false }
def LowerManySaid : Prop := lowerManyRow.holds Try.pinned (OpenSpec.ofChange lowerManySpec)

/-- ITS FALSE NEIGHBOUR: 'it returns false'. Refute it at one input. -/
def lowerManyWrong : ChangeSpec := { name := "lowerMany", fn := fun _ => fun
  | [d1, d2] => { results := [.lit (.bool false)], args := [d1, d2] }
  | _ => none }
def LowerManyWrongFalsely : Prop := lowerManyRow.holds Try.pinned (OpenSpec.ofChange lowerManyWrong)

/-- 'capstanlaw14.LowerChecks': WHATEVER THE INPUT: true; the input reads as it did. -/
def lowerChecksSpec : ChangeSpec := { name := "lowerChecks", fn := fun _ => fun
  | [d1, d2, d3, d4] => { results := [.lit (.bool true)], args := [d1, d2, d3, d4] }
  | _ => none }
def lowerChecksRow : OpenClaim := { program := "ythndbbjkkehjeaa", sum := "e939356dccb60e443cafab9a985d0a4bf0e5c3d852d9653eef986eeaeb2e9958", func := "capstan/capstanlaw14.LowerChecks", spec := "lowerChecks", apart := false }
def LowerChecksSaid : Prop := lowerChecksRow.holds Try.pinned (OpenSpec.ofChange lowerChecksSpec)

/-- ITS FALSE NEIGHBOUR: 'it returns false'. Refute it at one input. -/
def lowerChecksWrong : ChangeSpec := { name := "lowerChecks", fn := fun _ => fun
  | [d1, d2, d3, d4] => { results := [.lit (.bool false)], args := [d1, d2, d3, d4] }
  | _ => none }
def LowerChecksWrongFalsely : Prop := lowerChecksRow.holds Try.pinned (OpenSpec.ofChange lowerChecksWrong)

/-- 'capstanlaw14.LowerPlays': WHATEVER THE INPUT: true; the input reads as it did. -/
def lowerPlaysSpec : ChangeSpec := { name := "lowerPlays", fn := fun _ => fun
  | [d1, d2, d3] => { results := [.lit (.bool true)], args := [d1, d2, d3] }
  | _ => none }
def lowerPlaysRow : OpenClaim := { program := "ythndbbjkkehjeaa", sum := "e939356dccb60e443cafab9a985d0a4bf0e5c3d852d9653eef986eeaeb2e9958", func := "capstan/capstanlaw14.LowerPlays", spec := "lowerPlays", apart := false }
def LowerPlaysSaid : Prop := lowerPlaysRow.holds Try.pinned (OpenSpec.ofChange lowerPlaysSpec)

/-- ITS FALSE NEIGHBOUR: 'it returns false'. Refute it at one input. -/
def lowerPlaysWrong : ChangeSpec := { name := "lowerPlays", fn := fun _ => fun
  | [d1, d2, d3] => { results := [.lit (.bool false)], args := [d1, d2, d3] }
  | _ => none }
def LowerPlaysWrongFalsely : Prop := lowerPlaysRow.holds Try.pinned (OpenSpec.ofChange lowerPlaysWrong)

/- THE SECOND FORM. 'bulk': how many values and letters a reading holds, each counted each time it is reached (what is shared counts as often as it is met; a slice's spare places count too). A statement '..UptoSaid' is the law's where the arguments, and the package variables that the reading takes, are together of bulk at most 1048576: NARROWER than '..Said'. Prove '..Said' where nothing that the law and all that it calls make is longer than what came in: it says more and counts as full. Else prove '..UptoSaid'. A law counts once. -/
mutual
def uptoBulk {H : Type} : DataW H → Nat
  | .lit (.string bytes) => bytes.length + 1
  | .lit _ => 1
  | .nil => 1
  | .ptr d => uptoBulk d + 1
  | .slice elems spare => uptoBulkAll elems + uptoBulkAll spare + 1
  | .agg parts => uptoBulkAll parts + 1
  | .iface _ d => uptoBulk d + 1
  | .map entries => uptoBulkEntries entries + 1
  | .held _ => 1
def uptoBulkAll {H : Type} : List (DataW H) → Nat
  | [] => 0
  | d :: r => uptoBulk d + uptoBulkAll r
def uptoBulkEntries {H : Type} : List (Lit × DataW H) → Nat
  | [] => 0
  | x :: r => uptoBulkEntry x + uptoBulkEntries r
def uptoBulkEntry {H : Type} : Lit × DataW H → Nat
  | (.string bytes, d) => bytes.length + uptoBulk d + 1
  | (_, d) => uptoBulk d + 1
 end
def uptoSmall : (H : Type) → List (DataW H) → Bool := fun _ ds => decide (uptoBulkAll ds ≤ 1048576)
def OpenSpec.upto (s : _root_.Go.ChangeSpec) : _root_.Go.OpenSpec := { _root_.Go.OpenSpec.ofChange s with cond := some uptoSmall }

/-- 'capstanlaw14.LowerMany', WHERE WHAT IT READS IS OF BULK AT MOST 1048576: true; the input reads as it did. -/
def lowerManyUptoRow : OpenClaim := { program := "ythndbbjkkehjeaa", sum := "e939356dccb60e443cafab9a985d0a4bf0e5c3d852d9653eef986eeaeb2e9958", func := "capstan/capstanlaw14.LowerMany", spec := "lowerMany", apart := false, narrowed := true }
def LowerManyUptoSaid : Prop := lowerManyUptoRow.holds Try.pinned (OpenSpec.upto lowerManySpec)

/-- 'capstanlaw14.LowerChecks', WHERE WHAT IT READS IS OF BULK AT MOST 1048576: true; the input reads as it did. -/
def lowerChecksUptoRow : OpenClaim := { program := "ythndbbjkkehjeaa", sum := "e939356dccb60e443cafab9a985d0a4bf0e5c3d852d9653eef986eeaeb2e9958", func := "capstan/capstanlaw14.LowerChecks", spec := "lowerChecks", apart := false, narrowed := true }
def LowerChecksUptoSaid : Prop := lowerChecksUptoRow.holds Try.pinned (OpenSpec.upto lowerChecksSpec)

/-- 'capstanlaw14.LowerPlays', WHERE WHAT IT READS IS OF BULK AT MOST 1048576: true; the input reads as it did. -/
def lowerPlaysUptoRow : OpenClaim := { program := "ythndbbjkkehjeaa", sum := "e939356dccb60e443cafab9a985d0a4bf0e5c3d852d9653eef986eeaeb2e9958", func := "capstan/capstanlaw14.LowerPlays", spec := "lowerPlays", apart := false, narrowed := true }
def LowerPlaysUptoSaid : Prop := lowerPlaysUptoRow.holds Try.pinned (OpenSpec.upto lowerPlaysSpec)

end Rows
end Go.Proofs.Ythndbbjkkehjeaa
