/-
  replica: a snapshot, laid by one that follows.
-/
import Derived.Test.YtbdpfclnomiicaaAdd
set_option maxRecDepth 4000
namespace Go.Proofs.Ytbdpfclnomiicaa
open Go.Cap
set_option linter.unusedSimpArgs false
set_option linter.unusedVariables false
attribute [local irreducible] POp SimFrom DrawFrom EOp Sim FnH T.gp
def restF (n : Nd) (m : Ms) : List En := if (m.index ≤ lastF n ∧ n.base < m.index) ∧ termF n m.index = m.logTerm then n.log.drop (m.index - n.base).toNat else []
def snapN (n : Nd) (m : Ms) : Nd := { quietN n with log := restF n m, base := m.index, baseTerm := m.logTerm, baseConf := m.conf, snap := m.snap, commit := m.index }
def snapF (n : Nd) (m : Ms) : Nd × List Ms := if m.term < n.term then (n, [sendF n m.frm (addedM false 0)]) else
  if n.commit < m.index then (snapN n m, [sendF (snapN n m) m.frm (addedM true (max m.index n.commit))]) else (quietN n, [sendF (quietN n) m.frm (addedM true (max m.index n.commit))])
theorem kApp {H B : Heap} (h : HeapFront B []) : HeapFront (H ++ B) H := by
  induction H with
  | nil => exact h
  | cons p H ih => exact .keep _ _ _ _ _ (BlkLe.refl _) ih
end Go.Proofs.Ytbdpfclnomiicaa
