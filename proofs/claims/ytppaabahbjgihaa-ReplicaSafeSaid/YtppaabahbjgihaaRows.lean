/-
  No cell of these rows narrows 'for every input' (looked for: loops, veiled, ifaces, maps, wideKeys, modest, calm, conditions, laid).
  DERIVED. THE GIVEN ROWS OF THIS SEAT. 9 by the template 'for every input the law returns true; each argument reads behind the call as it read before'; 0 by the template 'total and deterministic' (their statements: YtppaabahbjgihaaTotals.lean).
  GIVEN WITH THE SEED: the statements are not yours to turn. If you find one false, say at which input.
  Laid BY PROGRAM, IN A SANDBOX (cutbox-rows.mjs): the forced cells as the released guide's own fill.sh prints them over the translation 148c5a5973f181b1… (all of the seat's roots in one cut). By AI agents, Wed Nov 11 2026. No macro, syntax, notation, axiom, sorry.
-/
import Derived.Test.YtppaabahbjgihaaChecked
import GoSem.Claim
import GoSem.ClaimJoined
import GoSem.ClaimMapViews
import Derived.JoinedTies
import Derived.KernelRfl
namespace Go.Proofs.Ytppaabahbjgihaa
/- THE CELL 'sum', in the pinned program and in every row, IS THE sha256 OF THE DUMP (.gsa) THAT YtppaabahbjgihaaProg.lean LOADS. Nothing in Lean hashes anything: it is a label: what it is worth is what the hold of that sum in a sandbox is worth. -/
noncomputable def Try.pinned : Pinned := { name := "ytppaabahbjgihaa", sum := "148c5a5973f181b172c721cddcf2c22580eca84a377645d7e040098df26f28b8", checked := Try.checked }
namespace Rows
def none {H : Type} : Left H := { results := [], args := [] }

/-- 'capstanlaw18.ReplicaLeads': WHATEVER THE INPUT: true; the input reads as it did. -/
def replicaLeadsSpec : ChangeSpec := { name := "replicaLeads", fn := fun _ => fun
  | [d1, d2] => { results := [.lit (.bool true)], args := [d1, d2] }
  | _ => none }
def replicaLeadsRow : OpenClaim := { program := "ytppaabahbjgihaa", sum := "148c5a5973f181b172c721cddcf2c22580eca84a377645d7e040098df26f28b8", func := "capstan/capstanlaw18.ReplicaLeads", spec := "replicaLeads", unfollowed := true, recurses := true, apart := false }
def ReplicaLeadsSaid : Prop := replicaLeadsRow.holds Try.pinned (OpenSpec.ofChange replicaLeadsSpec)

/-- ITS FALSE NEIGHBOUR: 'it returns false'. Refute it at one input. -/
def replicaLeadsWrong : ChangeSpec := { name := "replicaLeads", fn := fun _ => fun
  | [d1, d2] => { results := [.lit (.bool false)], args := [d1, d2] }
  | _ => none }
def ReplicaLeadsWrongFalsely : Prop := replicaLeadsRow.holds Try.pinned (OpenSpec.ofChange replicaLeadsWrong)

/-- 'capstanlaw18.ReplicaQuiet': WHATEVER THE INPUT: true; the input reads as it did. -/
def replicaQuietSpec : ChangeSpec := { name := "replicaQuiet", fn := fun _ => fun
  | [d1, d2, d3] => { results := [.lit (.bool true)], args := [d1, d2, d3] }
  | _ => none }
def replicaQuietRow : OpenClaim := { program := "ytppaabahbjgihaa", sum := "148c5a5973f181b172c721cddcf2c22580eca84a377645d7e040098df26f28b8", func := "capstan/capstanlaw18.ReplicaQuiet", spec := "replicaQuiet", unfollowed := true, recurses := true, apart := false }
def ReplicaQuietSaid : Prop := replicaQuietRow.holds Try.pinned (OpenSpec.ofChange replicaQuietSpec)

/-- ITS FALSE NEIGHBOUR: 'it returns false'. Refute it at one input. -/
def replicaQuietWrong : ChangeSpec := { name := "replicaQuiet", fn := fun _ => fun
  | [d1, d2, d3] => { results := [.lit (.bool false)], args := [d1, d2, d3] }
  | _ => none }
def ReplicaQuietWrongFalsely : Prop := replicaQuietRow.holds Try.pinned (OpenSpec.ofChange replicaQuietWrong)

/-- 'capstanlaw18.ReplicaCommits': WHATEVER THE INPUT: true; the input reads as it did. -/
def replicaCommitsSpec : ChangeSpec := { name := "replicaCommits", fn := fun _ => fun
  | [d1, d2] => { results := [.lit (.bool true)], args := [d1, d2] }
  | _ => none }
def replicaCommitsRow : OpenClaim := { program := "ytppaabahbjgihaa", sum := "148c5a5973f181b172c721cddcf2c22580eca84a377645d7e040098df26f28b8", func := "capstan/capstanlaw18.ReplicaCommits", spec := "replicaCommits", unfollowed := true, recurses := true, apart := false }
def ReplicaCommitsSaid : Prop := replicaCommitsRow.holds Try.pinned (OpenSpec.ofChange replicaCommitsSpec)

/-- ITS FALSE NEIGHBOUR: 'it returns false'. Refute it at one input. -/
def replicaCommitsWrong : ChangeSpec := { name := "replicaCommits", fn := fun _ => fun
  | [d1, d2] => { results := [.lit (.bool false)], args := [d1, d2] }
  | _ => none }
def ReplicaCommitsWrongFalsely : Prop := replicaCommitsRow.holds Try.pinned (OpenSpec.ofChange replicaCommitsWrong)

/-- 'capstanlaw18.ReplicaChanges': WHATEVER THE INPUT: true; the input reads as it did. -/
def replicaChangesSpec : ChangeSpec := { name := "replicaChanges", fn := fun _ => fun
  | [d1, d2, d3] => { results := [.lit (.bool true)], args := [d1, d2, d3] }
  | _ => none }
def replicaChangesRow : OpenClaim := { program := "ytppaabahbjgihaa", sum := "148c5a5973f181b172c721cddcf2c22580eca84a377645d7e040098df26f28b8", func := "capstan/capstanlaw18.ReplicaChanges", spec := "replicaChanges", unfollowed := true, recurses := true, apart := false }
def ReplicaChangesSaid : Prop := replicaChangesRow.holds Try.pinned (OpenSpec.ofChange replicaChangesSpec)

/-- ITS FALSE NEIGHBOUR: 'it returns false'. Refute it at one input. -/
def replicaChangesWrong : ChangeSpec := { name := "replicaChanges", fn := fun _ => fun
  | [d1, d2, d3] => { results := [.lit (.bool false)], args := [d1, d2, d3] }
  | _ => none }
def ReplicaChangesWrongFalsely : Prop := replicaChangesRow.holds Try.pinned (OpenSpec.ofChange replicaChangesWrong)

/-- 'capstanlaw18.ReplicaSnaps': WHATEVER THE INPUT: true; the input reads as it did. -/
def replicaSnapsSpec : ChangeSpec := { name := "replicaSnaps", fn := fun _ => fun
  | [d1, d2, d3] => { results := [.lit (.bool true)], args := [d1, d2, d3] }
  | _ => none }
def replicaSnapsRow : OpenClaim := { program := "ytppaabahbjgihaa", sum := "148c5a5973f181b172c721cddcf2c22580eca84a377645d7e040098df26f28b8", func := "capstan/capstanlaw18.ReplicaSnaps", spec := "replicaSnaps", unfollowed := true, recurses := true, apart := false }
def ReplicaSnapsSaid : Prop := replicaSnapsRow.holds Try.pinned (OpenSpec.ofChange replicaSnapsSpec)

/-- ITS FALSE NEIGHBOUR: 'it returns false'. Refute it at one input. -/
def replicaSnapsWrong : ChangeSpec := { name := "replicaSnaps", fn := fun _ => fun
  | [d1, d2, d3] => { results := [.lit (.bool false)], args := [d1, d2, d3] }
  | _ => none }
def ReplicaSnapsWrongFalsely : Prop := replicaSnapsRow.holds Try.pinned (OpenSpec.ofChange replicaSnapsWrong)

/-- 'capstanlaw18.ReplicaPlays': WHATEVER THE INPUT: true; the input reads as it did. -/
def replicaPlaysSpec : ChangeSpec := { name := "replicaPlays", fn := fun _ => fun
  | [d1, d2] => { results := [.lit (.bool true)], args := [d1, d2] }
  | _ => none }
def replicaPlaysRow : OpenClaim := { program := "ytppaabahbjgihaa", sum := "148c5a5973f181b172c721cddcf2c22580eca84a377645d7e040098df26f28b8", func := "capstan/capstanlaw18.ReplicaPlays", spec := "replicaPlays", unfollowed := true, recurses := true, apart := false }
def ReplicaPlaysSaid : Prop := replicaPlaysRow.holds Try.pinned (OpenSpec.ofChange replicaPlaysSpec)

/-- ITS FALSE NEIGHBOUR: 'it returns false'. Refute it at one input. -/
def replicaPlaysWrong : ChangeSpec := { name := "replicaPlays", fn := fun _ => fun
  | [d1, d2] => { results := [.lit (.bool false)], args := [d1, d2] }
  | _ => none }
def ReplicaPlaysWrongFalsely : Prop := replicaPlaysRow.holds Try.pinned (OpenSpec.ofChange replicaPlaysWrong)

/-- 'capstanlaw18.ReplicaTakes': WHATEVER THE INPUT: true; the input reads as it did. -/
def replicaTakesSpec : ChangeSpec := { name := "replicaTakes", fn := fun _ => fun
  | [d1, d2, d3] => { results := [.lit (.bool true)], args := [d1, d2, d3] }
  | _ => none }
def replicaTakesRow : OpenClaim := { program := "ytppaabahbjgihaa", sum := "148c5a5973f181b172c721cddcf2c22580eca84a377645d7e040098df26f28b8", func := "capstan/capstanlaw18.ReplicaTakes", spec := "replicaTakes", unfollowed := true, recurses := true, apart := false }
def ReplicaTakesSaid : Prop := replicaTakesRow.holds Try.pinned (OpenSpec.ofChange replicaTakesSpec)

/-- ITS FALSE NEIGHBOUR: 'it returns false'. Refute it at one input. -/
def replicaTakesWrong : ChangeSpec := { name := "replicaTakes", fn := fun _ => fun
  | [d1, d2, d3] => { results := [.lit (.bool false)], args := [d1, d2, d3] }
  | _ => none }
def ReplicaTakesWrongFalsely : Prop := replicaTakesRow.holds Try.pinned (OpenSpec.ofChange replicaTakesWrong)

/-- 'capstanlaw18.ReplicaSafe': WHATEVER THE INPUT: true; the input reads as it did. -/
def replicaSafeSpec : ChangeSpec := { name := "replicaSafe", fn := fun _ => fun
  | [d1, d2] => { results := [.lit (.bool true)], args := [d1, d2] }
  | _ => none }
def replicaSafeRow : OpenClaim := { program := "ytppaabahbjgihaa", sum := "148c5a5973f181b172c721cddcf2c22580eca84a377645d7e040098df26f28b8", func := "capstan/capstanlaw18.ReplicaSafe", spec := "replicaSafe", unfollowed := true, recurses := true, apart := false }
def ReplicaSafeSaid : Prop := replicaSafeRow.holds Try.pinned (OpenSpec.ofChange replicaSafeSpec)

/-- ITS FALSE NEIGHBOUR: 'it returns false'. Refute it at one input. -/
def replicaSafeWrong : ChangeSpec := { name := "replicaSafe", fn := fun _ => fun
  | [d1, d2] => { results := [.lit (.bool false)], args := [d1, d2] }
  | _ => none }
def ReplicaSafeWrongFalsely : Prop := replicaSafeRow.holds Try.pinned (OpenSpec.ofChange replicaSafeWrong)

/-- 'capstanlaw18.ReplicaWakes': WHATEVER THE INPUT: true; the input reads as it did. -/
def replicaWakesSpec : ChangeSpec := { name := "replicaWakes", fn := fun _ => fun
  | [d1, d2] => { results := [.lit (.bool true)], args := [d1, d2] }
  | _ => none }
def replicaWakesRow : OpenClaim := { program := "ytppaabahbjgihaa", sum := "148c5a5973f181b172c721cddcf2c22580eca84a377645d7e040098df26f28b8", func := "capstan/capstanlaw18.ReplicaWakes", spec := "replicaWakes", unfollowed := true, recurses := true, apart := false }
def ReplicaWakesSaid : Prop := replicaWakesRow.holds Try.pinned (OpenSpec.ofChange replicaWakesSpec)

/-- ITS FALSE NEIGHBOUR: 'it returns false'. Refute it at one input. -/
def replicaWakesWrong : ChangeSpec := { name := "replicaWakes", fn := fun _ => fun
  | [d1, d2] => { results := [.lit (.bool false)], args := [d1, d2] }
  | _ => none }
def ReplicaWakesWrongFalsely : Prop := replicaWakesRow.holds Try.pinned (OpenSpec.ofChange replicaWakesWrong)

/- THE SECOND FORM. 'bulk': how many values and letters a reading holds, each counted each time it is reached (what is shared counts as often as it is met; a slice's spare places count too). A statement '..UptoSaid' is the law's where the arguments, and the package variables that the reading takes, are together of bulk at most 1048576: NARROWER than '..Said'. Prove '..Said' where nothing that the law and all that it calls make is longer than what came in: it says more and counts as full. Else prove '..UptoSaid'. A law counts once. -/
mutual
def uptoBulk {H : Type} : DataW H → Nat
  | .lit (.string bytes) => bytes.length + 1
  | .lit _ => 1
  | .nil => 1
  | .ptr d => uptoBulk d + 1
  | .slice elems spare => uptoBulkAll elems + uptoBulkAll spare + 1
  | .agg parts => uptoBulkAll parts + 1
  | .iface _ d => uptoBulk d + 1
  | .map entries => uptoBulkEntries entries + 1
  | .held _ => 1
def uptoBulkAll {H : Type} : List (DataW H) → Nat
  | [] => 0
  | d :: r => uptoBulk d + uptoBulkAll r
def uptoBulkEntries {H : Type} : List (Lit × DataW H) → Nat
  | [] => 0
  | x :: r => uptoBulkEntry x + uptoBulkEntries r
def uptoBulkEntry {H : Type} : Lit × DataW H → Nat
  | (.string bytes, d) => bytes.length + uptoBulk d + 1
  | (_, d) => uptoBulk d + 1
 end
def uptoSmall : (H : Type) → List (DataW H) → Bool := fun _ ds => decide (uptoBulkAll ds ≤ 1048576)
def OpenSpec.upto (s : _root_.Go.ChangeSpec) : _root_.Go.OpenSpec := { _root_.Go.OpenSpec.ofChange s with cond := some uptoSmall }

/-- 'capstanlaw18.ReplicaLeads', WHERE WHAT IT READS IS OF BULK AT MOST 1048576: true; the input reads as it did. -/
def replicaLeadsUptoRow : OpenClaim := { program := "ytppaabahbjgihaa", sum := "148c5a5973f181b172c721cddcf2c22580eca84a377645d7e040098df26f28b8", func := "capstan/capstanlaw18.ReplicaLeads", spec := "replicaLeads", unfollowed := true, recurses := true, apart := false, narrowed := true }
def ReplicaLeadsUptoSaid : Prop := replicaLeadsUptoRow.holds Try.pinned (OpenSpec.upto replicaLeadsSpec)

/-- 'capstanlaw18.ReplicaQuiet', WHERE WHAT IT READS IS OF BULK AT MOST 1048576: true; the input reads as it did. -/
def replicaQuietUptoRow : OpenClaim := { program := "ytppaabahbjgihaa", sum := "148c5a5973f181b172c721cddcf2c22580eca84a377645d7e040098df26f28b8", func := "capstan/capstanlaw18.ReplicaQuiet", spec := "replicaQuiet", unfollowed := true, recurses := true, apart := false, narrowed := true }
def ReplicaQuietUptoSaid : Prop := replicaQuietUptoRow.holds Try.pinned (OpenSpec.upto replicaQuietSpec)

/-- 'capstanlaw18.ReplicaCommits', WHERE WHAT IT READS IS OF BULK AT MOST 1048576: true; the input reads as it did. -/
def replicaCommitsUptoRow : OpenClaim := { program := "ytppaabahbjgihaa", sum := "148c5a5973f181b172c721cddcf2c22580eca84a377645d7e040098df26f28b8", func := "capstan/capstanlaw18.ReplicaCommits", spec := "replicaCommits", unfollowed := true, recurses := true, apart := false, narrowed := true }
def ReplicaCommitsUptoSaid : Prop := replicaCommitsUptoRow.holds Try.pinned (OpenSpec.upto replicaCommitsSpec)

/-- 'capstanlaw18.ReplicaChanges', WHERE WHAT IT READS IS OF BULK AT MOST 1048576: true; the input reads as it did. -/
def replicaChangesUptoRow : OpenClaim := { program := "ytppaabahbjgihaa", sum := "148c5a5973f181b172c721cddcf2c22580eca84a377645d7e040098df26f28b8", func := "capstan/capstanlaw18.ReplicaChanges", spec := "replicaChanges", unfollowed := true, recurses := true, apart := false, narrowed := true }
def ReplicaChangesUptoSaid : Prop := replicaChangesUptoRow.holds Try.pinned (OpenSpec.upto replicaChangesSpec)

/-- 'capstanlaw18.ReplicaSnaps', WHERE WHAT IT READS IS OF BULK AT MOST 1048576: true; the input reads as it did. -/
def replicaSnapsUptoRow : OpenClaim := { program := "ytppaabahbjgihaa", sum := "148c5a5973f181b172c721cddcf2c22580eca84a377645d7e040098df26f28b8", func := "capstan/capstanlaw18.ReplicaSnaps", spec := "replicaSnaps", unfollowed := true, recurses := true, apart := false, narrowed := true }
def ReplicaSnapsUptoSaid : Prop := replicaSnapsUptoRow.holds Try.pinned (OpenSpec.upto replicaSnapsSpec)

/-- 'capstanlaw18.ReplicaPlays', WHERE WHAT IT READS IS OF BULK AT MOST 1048576: true; the input reads as it did. -/
def replicaPlaysUptoRow : OpenClaim := { program := "ytppaabahbjgihaa", sum := "148c5a5973f181b172c721cddcf2c22580eca84a377645d7e040098df26f28b8", func := "capstan/capstanlaw18.ReplicaPlays", spec := "replicaPlays", unfollowed := true, recurses := true, apart := false, narrowed := true }
def ReplicaPlaysUptoSaid : Prop := replicaPlaysUptoRow.holds Try.pinned (OpenSpec.upto replicaPlaysSpec)

/-- 'capstanlaw18.ReplicaTakes', WHERE WHAT IT READS IS OF BULK AT MOST 1048576: true; the input reads as it did. -/
def replicaTakesUptoRow : OpenClaim := { program := "ytppaabahbjgihaa", sum := "148c5a5973f181b172c721cddcf2c22580eca84a377645d7e040098df26f28b8", func := "capstan/capstanlaw18.ReplicaTakes", spec := "replicaTakes", unfollowed := true, recurses := true, apart := false, narrowed := true }
def ReplicaTakesUptoSaid : Prop := replicaTakesUptoRow.holds Try.pinned (OpenSpec.upto replicaTakesSpec)

/-- 'capstanlaw18.ReplicaSafe', WHERE WHAT IT READS IS OF BULK AT MOST 1048576: true; the input reads as it did. -/
def replicaSafeUptoRow : OpenClaim := { program := "ytppaabahbjgihaa", sum := "148c5a5973f181b172c721cddcf2c22580eca84a377645d7e040098df26f28b8", func := "capstan/capstanlaw18.ReplicaSafe", spec := "replicaSafe", unfollowed := true, recurses := true, apart := false, narrowed := true }
def ReplicaSafeUptoSaid : Prop := replicaSafeUptoRow.holds Try.pinned (OpenSpec.upto replicaSafeSpec)

/-- 'capstanlaw18.ReplicaWakes', WHERE WHAT IT READS IS OF BULK AT MOST 1048576: true; the input reads as it did. -/
def replicaWakesUptoRow : OpenClaim := { program := "ytppaabahbjgihaa", sum := "148c5a5973f181b172c721cddcf2c22580eca84a377645d7e040098df26f28b8", func := "capstan/capstanlaw18.ReplicaWakes", spec := "replicaWakes", unfollowed := true, recurses := true, apart := false, narrowed := true }
def ReplicaWakesUptoSaid : Prop := replicaWakesUptoRow.holds Try.pinned (OpenSpec.upto replicaWakesSpec)

end Rows
end Go.Proofs.Ytppaabahbjgihaa
