/-
  replica: votes, asked for and given.
-/
import Derived.Test.YtbdpfclnomiicaaStand
set_option maxRecDepth 4000
namespace Go.Proofs.Ytbdpfclnomiicaa
open Go.Cap
set_option linter.unusedSimpArgs false
set_option linter.unusedVariables false
attribute [local irreducible] POp SimFrom DrawFrom EOp Sim FnH T.gp
theorem Bd.of {n n' : Nd} (h : Bd n) (h1 : n'.id = n.id := by rfl) (h2 : n'.log = n.log := by rfl) (h3 : n'.base = n.base := by rfl) (h4 : n'.baseConf = n.baseConf := by rfl) : Bd n' := by
  have hc : confF n' = confF n := by simp only [confF, h2, h3, h4]
  exact ⟨h1 ▸ h.id0, h1 ▸ h.id5, h2 ▸ h.log, h3 ▸ h.base0, h3 ▸ h.base1, hc ▸ h.conf0, hc ▸ h.conf1⟩
theorem bool_dec (b : Bool) : b = decide (b = true) := by simp
/-- A message, its bit as a condition. -/
theorem ms_dec (m : Ms) : ms m = .agg [ei m.kind, ei m.frm, ei m.to, ei m.term, ei m.index, ei m.logTerm, ei m.commit, ei m.conf, .v (.bool (decide (m.yes = true))), eens m.entries, es m.snap] := by
  simp [ms, msC, eB]
def votedM (yes : Bool) : Ms := ⟨2, 0, 0, 0, 0, 0, 0, 0, yes, [], []⟩
def yesF (n : Nd) (m : Ms) : Bool := decide ((m.term = n.term ∧ (n.vote = -1 ∨ n.vote = m.frm)) ∧ (termF n (lastF n) < m.logTerm ∨ m.logTerm = termF n (lastF n) ∧ lastF n ≤ m.index))
def voteF (n : Nd) (m : Ms) : Nd := if yesF n m then { n with vote := m.frm, wait := 0 } else n
end Go.Proofs.Ytbdpfclnomiicaa
