/-
  No cell of these rows narrows 'for every input' (looked for: loops, veiled, ifaces, maps, wideKeys, modest, calm, conditions, laid).
  DERIVED. THE GIVEN ROWS OF THIS SEAT. 6 by the template 'for every input the law returns true; each argument reads behind the call as it read before'; 0 by the template 'total and deterministic' (their statements: YtjbokbikkcfjjaaGreatTotals.lean).
  GIVEN WITH THE SEED: the statements are not yours to turn. If you find one false, say at which input.
  Laid BY PROGRAM, IN A SANDBOX (cutbox-rows.mjs): the forced cells as the released guide's own fill.sh prints them over the translation 3ce367a66db0acc4… (all of the seat's roots in one cut). By AI agents, Wed Nov 11 2026. No macro, syntax, notation, axiom, sorry.
-/
import Derived.Test.YtjbokbikkcfjjaaGreatChecked
import GoSem.Claim
import GoSem.ClaimJoined
import GoSem.ClaimMapViews
import Derived.JoinedTies
import Derived.KernelRfl
namespace Go.Proofs.YtjbokbikkcfjjaaGreat
/- THE CELL 'sum', in the pinned program and in every row, IS THE sha256 OF THE DUMP (.gsa) THAT YtjbokbikkcfjjaaGreatProg.lean LOADS. Nothing in Lean hashes anything: it is a label: what it is worth is what the hold of that sum in a sandbox is worth. -/
noncomputable def Tryz.pinned : Pinned := { name := "ytjbokbikkcfjjaagreat", sum := "3ce367a66db0acc4492d4a7156e9f71d48b55a6c78e3d41cb74cbcd4d2a85e47", checked := Tryz.checked }
namespace Rows
def none {H : Type} : Left H := { results := [], args := [] }

/-- 'capstanlaw20.GroupNet': WHATEVER THE INPUT: true; the input reads as it did. -/
def groupNetSpec : ChangeSpec := { name := "groupNet", fn := fun _ => fun
  | [d1, d2] => { results := [.lit (.bool true)], args := [d1, d2] }
  | _ => none }
def groupNetRow : OpenClaim := { program := "ytjbokbikkcfjjaagreat", sum := "3ce367a66db0acc4492d4a7156e9f71d48b55a6c78e3d41cb74cbcd4d2a85e47", func := "capstan/capstanlaw20.GroupNet", spec := "groupNet", unfollowed := true, recurses := true, apart := false }
def GroupNetSaid : Prop := groupNetRow.holds Tryz.pinned (OpenSpec.ofChange groupNetSpec)

/-- ITS FALSE NEIGHBOUR: 'it returns false'. Refute it at one input. -/
def groupNetWrong : ChangeSpec := { name := "groupNet", fn := fun _ => fun
  | [d1, d2] => { results := [.lit (.bool false)], args := [d1, d2] }
  | _ => none }
def GroupNetWrongFalsely : Prop := groupNetRow.holds Tryz.pinned (OpenSpec.ofChange groupNetWrong)

/-- 'capstanlaw20.GroupDoes': WHATEVER THE INPUT: true; the input reads as it did. -/
def groupDoesSpec : ChangeSpec := { name := "groupDoes", fn := fun _ => fun
  | [d1, d2] => { results := [.lit (.bool true)], args := [d1, d2] }
  | _ => none }
def groupDoesRow : OpenClaim := { program := "ytjbokbikkcfjjaagreat", sum := "3ce367a66db0acc4492d4a7156e9f71d48b55a6c78e3d41cb74cbcd4d2a85e47", func := "capstan/capstanlaw20.GroupDoes", spec := "groupDoes", unfollowed := true, recurses := true, apart := false }
def GroupDoesSaid : Prop := groupDoesRow.holds Tryz.pinned (OpenSpec.ofChange groupDoesSpec)

/-- ITS FALSE NEIGHBOUR: 'it returns false'. Refute it at one input. -/
def groupDoesWrong : ChangeSpec := { name := "groupDoes", fn := fun _ => fun
  | [d1, d2] => { results := [.lit (.bool false)], args := [d1, d2] }
  | _ => none }
def GroupDoesWrongFalsely : Prop := groupDoesRow.holds Tryz.pinned (OpenSpec.ofChange groupDoesWrong)

/-- 'capstanlaw20.GroupTorn': WHATEVER THE INPUT: true; the input reads as it did. -/
def groupTornSpec : ChangeSpec := { name := "groupTorn", fn := fun _ => fun
  | [d1, d2, d3] => { results := [.lit (.bool true)], args := [d1, d2, d3] }
  | _ => none }
def groupTornRow : OpenClaim := { program := "ytjbokbikkcfjjaagreat", sum := "3ce367a66db0acc4492d4a7156e9f71d48b55a6c78e3d41cb74cbcd4d2a85e47", func := "capstan/capstanlaw20.GroupTorn", spec := "groupTorn", unfollowed := true, recurses := true, apart := false }
def GroupTornSaid : Prop := groupTornRow.holds Tryz.pinned (OpenSpec.ofChange groupTornSpec)

/-- ITS FALSE NEIGHBOUR: 'it returns false'. Refute it at one input. -/
def groupTornWrong : ChangeSpec := { name := "groupTorn", fn := fun _ => fun
  | [d1, d2, d3] => { results := [.lit (.bool false)], args := [d1, d2, d3] }
  | _ => none }
def GroupTornWrongFalsely : Prop := groupTornRow.holds Tryz.pinned (OpenSpec.ofChange groupTornWrong)

/-- 'capstanlaw20.GroupNone': WHATEVER THE INPUT: true; the input reads as it did. -/
def groupNoneSpec : ChangeSpec := { name := "groupNone", fn := fun _ => fun
  | [d1, d2] => { results := [.lit (.bool true)], args := [d1, d2] }
  | _ => none }
def groupNoneRow : OpenClaim := { program := "ytjbokbikkcfjjaagreat", sum := "3ce367a66db0acc4492d4a7156e9f71d48b55a6c78e3d41cb74cbcd4d2a85e47", func := "capstan/capstanlaw20.GroupNone", spec := "groupNone", unfollowed := true, recurses := true, apart := false }
def GroupNoneSaid : Prop := groupNoneRow.holds Tryz.pinned (OpenSpec.ofChange groupNoneSpec)

/-- ITS FALSE NEIGHBOUR: 'it returns false'. Refute it at one input. -/
def groupNoneWrong : ChangeSpec := { name := "groupNone", fn := fun _ => fun
  | [d1, d2] => { results := [.lit (.bool false)], args := [d1, d2] }
  | _ => none }
def GroupNoneWrongFalsely : Prop := groupNoneRow.holds Tryz.pinned (OpenSpec.ofChange groupNoneWrong)

/-- 'capstanlaw20.GroupPlays': WHATEVER THE INPUT: true; the input reads as it did. -/
def groupPlaysSpec : ChangeSpec := { name := "groupPlays", fn := fun _ => fun
  | [d1, d2] => { results := [.lit (.bool true)], args := [d1, d2] }
  | _ => none }
def groupPlaysRow : OpenClaim := { program := "ytjbokbikkcfjjaagreat", sum := "3ce367a66db0acc4492d4a7156e9f71d48b55a6c78e3d41cb74cbcd4d2a85e47", func := "capstan/capstanlaw20.GroupPlays", spec := "groupPlays", unfollowed := true, recurses := true, apart := false }
def GroupPlaysSaid : Prop := groupPlaysRow.holds Tryz.pinned (OpenSpec.ofChange groupPlaysSpec)

/-- ITS FALSE NEIGHBOUR: 'it returns false'. Refute it at one input. -/
def groupPlaysWrong : ChangeSpec := { name := "groupPlays", fn := fun _ => fun
  | [d1, d2] => { results := [.lit (.bool false)], args := [d1, d2] }
  | _ => none }
def GroupPlaysWrongFalsely : Prop := groupPlaysRow.holds Tryz.pinned (OpenSpec.ofChange groupPlaysWrong)

/-- 'capstanlaw20.GroupAgrees': WHATEVER THE INPUT: true; the input reads as it did. -/
def groupAgreesSpec : ChangeSpec := { name := "groupAgrees", fn := fun _ => fun
  | [d1, d2, d3] => { results := [.lit (.bool true)], args := [d1, d2, d3] }
  | _ => none }
def groupAgreesRow : OpenClaim := { program := "ytjbokbikkcfjjaagreat", sum := "3ce367a66db0acc4492d4a7156e9f71d48b55a6c78e3d41cb74cbcd4d2a85e47", func := "capstan/capstanlaw20.GroupAgrees", spec := "groupAgrees", unfollowed := true, recurses := true, apart := false }
def GroupAgreesSaid : Prop := groupAgreesRow.holds Tryz.pinned (OpenSpec.ofChange groupAgreesSpec)

/-- ITS FALSE NEIGHBOUR: 'it returns false'. Refute it at one input. -/
def groupAgreesWrong : ChangeSpec := { name := "groupAgrees", fn := fun _ => fun
  | [d1, d2, d3] => { results := [.lit (.bool false)], args := [d1, d2, d3] }
  | _ => none }
def GroupAgreesWrongFalsely : Prop := groupAgreesRow.holds Tryz.pinned (OpenSpec.ofChange groupAgreesWrong)

/- THE SECOND FORM. 'bulk': how many values and letters a reading holds, each counted each time it is reached (what is shared counts as often as it is met; a slice's spare places count too). A statement '..UptoSaid' is the law's where the arguments, and the package variables that the reading takes, are together of bulk at most 1048576: NARROWER than '..Said'. Prove '..Said' where nothing that the law and all that it calls make is longer than what came in: it says more and counts as full. Else prove '..UptoSaid'. A law counts once. -/
mutual
def uptoBulk {H : Type} : DataW H → Nat
  | .lit (.string bytes) => bytes.length + 1
  | .lit _ => 1
  | .nil => 1
  | .ptr d => uptoBulk d + 1
  | .slice elems spare => uptoBulkAll elems + uptoBulkAll spare + 1
  | .agg parts => uptoBulkAll parts + 1
  | .iface _ d => uptoBulk d + 1
  | .map entries => uptoBulkEntries entries + 1
  | .held _ => 1
def uptoBulkAll {H : Type} : List (DataW H) → Nat
  | [] => 0
  | d :: r => uptoBulk d + uptoBulkAll r
def uptoBulkEntries {H : Type} : List (Lit × DataW H) → Nat
  | [] => 0
  | x :: r => uptoBulkEntry x + uptoBulkEntries r
def uptoBulkEntry {H : Type} : Lit × DataW H → Nat
  | (.string bytes, d) => bytes.length + uptoBulk d + 1
  | (_, d) => uptoBulk d + 1
 end
def uptoSmall : (H : Type) → List (DataW H) → Bool := fun _ ds => decide (uptoBulkAll ds ≤ 1048576)
def OpenSpec.upto (s : _root_.Go.ChangeSpec) : _root_.Go.OpenSpec := { _root_.Go.OpenSpec.ofChange s with cond := some uptoSmall }

/-- 'capstanlaw20.GroupNet', WHERE WHAT IT READS IS OF BULK AT MOST 1048576: true; the input reads as it did. -/
def groupNetUptoRow : OpenClaim := { program := "ytjbokbikkcfjjaagreat", sum := "3ce367a66db0acc4492d4a7156e9f71d48b55a6c78e3d41cb74cbcd4d2a85e47", func := "capstan/capstanlaw20.GroupNet", spec := "groupNet", unfollowed := true, recurses := true, apart := false, narrowed := true }
def GroupNetUptoSaid : Prop := groupNetUptoRow.holds Tryz.pinned (OpenSpec.upto groupNetSpec)

/-- 'capstanlaw20.GroupDoes', WHERE WHAT IT READS IS OF BULK AT MOST 1048576: true; the input reads as it did. -/
def groupDoesUptoRow : OpenClaim := { program := "ytjbokbikkcfjjaagreat", sum := "3ce367a66db0acc4492d4a7156e9f71d48b55a6c78e3d41cb74cbcd4d2a85e47", func := "capstan/capstanlaw20.GroupDoes", spec := "groupDoes", unfollowed := true, recurses := true, apart := false, narrowed := true }
def GroupDoesUptoSaid : Prop := groupDoesUptoRow.holds Tryz.pinned (OpenSpec.upto groupDoesSpec)

/-- 'capstanlaw20.GroupTorn', WHERE WHAT IT READS IS OF BULK AT MOST 1048576: true; the input reads as it did. -/
def groupTornUptoRow : OpenClaim := { program := "ytjbokbikkcfjjaagreat", sum := "3ce367a66db0acc4492d4a7156e9f71d48b55a6c78e3d41cb74cbcd4d2a85e47", func := "capstan/capstanlaw20.GroupTorn", spec := "groupTorn", unfollowed := true, recurses := true, apart := false, narrowed := true }
def GroupTornUptoSaid : Prop := groupTornUptoRow.holds Tryz.pinned (OpenSpec.upto groupTornSpec)

/-- 'capstanlaw20.GroupNone', WHERE WHAT IT READS IS OF BULK AT MOST 1048576: true; the input reads as it did. -/
def groupNoneUptoRow : OpenClaim := { program := "ytjbokbikkcfjjaagreat", sum := "3ce367a66db0acc4492d4a7156e9f71d48b55a6c78e3d41cb74cbcd4d2a85e47", func := "capstan/capstanlaw20.GroupNone", spec := "groupNone", unfollowed := true, recurses := true, apart := false, narrowed := true }
def GroupNoneUptoSaid : Prop := groupNoneUptoRow.holds Tryz.pinned (OpenSpec.upto groupNoneSpec)

/-- 'capstanlaw20.GroupPlays', WHERE WHAT IT READS IS OF BULK AT MOST 1048576: true; the input reads as it did. -/
def groupPlaysUptoRow : OpenClaim := { program := "ytjbokbikkcfjjaagreat", sum := "3ce367a66db0acc4492d4a7156e9f71d48b55a6c78e3d41cb74cbcd4d2a85e47", func := "capstan/capstanlaw20.GroupPlays", spec := "groupPlays", unfollowed := true, recurses := true, apart := false, narrowed := true }
def GroupPlaysUptoSaid : Prop := groupPlaysUptoRow.holds Tryz.pinned (OpenSpec.upto groupPlaysSpec)

/-- 'capstanlaw20.GroupAgrees', WHERE WHAT IT READS IS OF BULK AT MOST 1048576: true; the input reads as it did. -/
def groupAgreesUptoRow : OpenClaim := { program := "ytjbokbikkcfjjaagreat", sum := "3ce367a66db0acc4492d4a7156e9f71d48b55a6c78e3d41cb74cbcd4d2a85e47", func := "capstan/capstanlaw20.GroupAgrees", spec := "groupAgrees", unfollowed := true, recurses := true, apart := false, narrowed := true }
def GroupAgreesUptoSaid : Prop := groupAgreesUptoRow.holds Tryz.pinned (OpenSpec.upto groupAgreesSpec)

end Rows
end Go.Proofs.YtjbokbikkcfjjaaGreat
