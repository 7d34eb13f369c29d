/-
  replica: answers of a worker.
-/
import Derived.Test.YtbdpfclnomiicaaOthers
set_option maxRecDepth 4000
namespace Go.Proofs.Ytbdpfclnomiicaa
open Go.Cap
set_option linter.unusedSimpArgs false
set_option linter.unusedVariables false
attribute [local irreducible] POp SimFrom DrawFrom EOp Sim FnH T.gp
def addedM (yes : Bool) (index : Int) : Ms := ⟨4, 0, 0, 0, index, 0, 0, 0, yes, [], []⟩
end Go.Proofs.Ytbdpfclnomiicaa
