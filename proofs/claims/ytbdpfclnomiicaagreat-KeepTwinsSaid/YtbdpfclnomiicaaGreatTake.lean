/-
  replica: Take.
-/
import Derived.Test.YtbdpfclnomiicaaGreatTick
set_option maxRecDepth 4000
namespace Go.Proofs.YtbdpfclnomiicaaGreat
open Go.Cap
set_option linter.unusedSimpArgs false
set_option linter.unusedVariables false
attribute [local irreducible] POp SimFrom DrawFrom EOp Sim FnH T.gp
def badF (n : Nd) (m : Ms) : Prop := (((m.frm < 0 ∨ 5 ≤ m.frm) ∨ m.frm = n.id) ∨ ¬ m.to = n.id) ∨ (((m.kind < 1 ∨ 5 < m.kind) ∨ m.term < 0) ∨ 1073741824 < m.term)
instance (n : Nd) (m : Ms) : Decidable (badF n m) := by unfold badF; infer_instance
def upN (n : Nd) (m : Ms) : Nd := if n.term < m.term then { n with term := m.term, vote := -1, role := 0, votes := 0 } else n
def actF (n : Nd) (m : Ms) : Nd × List Ms := if m.kind = 1 then (voteF n m, [sendF (voteF n m) m.frm (votedM (yesF n m))]) else if m.kind = 2 then votedF n m else if m.kind = 3 then addF n m else
  if m.kind = 4 then heardF n m else snapF n m
def takeF (n : Nd) (m : Ms) : Nd × List Ms := if badF n m then (n, []) else actF (upN n m) m
def zeroN : Nd := ⟨0, 0, 0, 0, 0, 0, [], [], 0, 0, 0, 0, .all 0, .all 0⟩
structure MBd (n : Nd) (m : Ms) : Prop where
  i0 : -50000000000 ≤ m.index
  i1 : m.index ≤ 50000000000
  es : n.log.length + m.entries.length ≤ 100000000
structure NBd (n : Nd) : Prop where
  log : n.log.length < 100000000
  v0 : 0 ≤ n.votes
  v1 : n.votes ≤ 31
  x0 : ∀ i, -100000000000 ≤ n.next.get i
  x1 : ∀ i, n.next.get i ≤ 50000000000
  m0 : ∀ i, -100000000000 ≤ n.mtch.get i
  m1 : ∀ i, n.mtch.get i ≤ 50000000000
theorem upN_eq (n : Nd) (m : Ms) : ∃ t v r w, upN n m = { n with term := t, vote := v, role := r, votes := w } ∧ (w = 0 ∨ w = n.votes) := by
  unfold upN
  split
  · exact ⟨_, _, _, _, rfl, .inl rfl⟩
  · exact ⟨_, _, _, _, rfl, .inr rfl⟩
theorem Bd.up {n : Nd} (m : Ms) (h : Bd n) : Bd (upN n m) := by
  obtain ⟨_, _, _, _, e, _⟩ := upN_eq n m
  rw [e]; exact h.of
theorem NBd.up {n : Nd} (m : Ms) (h : NBd n) : NBd (upN n m) := by
  obtain ⟨_, _, _, _, e, hw⟩ := upN_eq n m
  have h0 := h.v0
  have h1 := h.v1
  rw [e]; exact ⟨h.log, by simp only; omega, by simp only; omega, h.x0, h.x1, h.m0, h.m1⟩
theorem MBd.up {n : Nd} {m : Ms} (h : MBd n m) : MBd (upN n m) m := by
  obtain ⟨_, _, _, _, e, hw⟩ := upN_eq n m
  rw [e]; exact ⟨h.i0, h.i1, h.es⟩
theorem votedF_bd {n : Nd} (m : Ms) (hn : Bd n) (hl : n.log.length < 100000000) : Bd (votedF n m).1 := by
  unfold votedF
  split
  · exact hn
  · split
    · exact lead_bd hn.of hl
    · exact hn.of
theorem voteF_bd {n : Nd} (m : Ms) (hn : Bd n) : Bd (voteF n m) := by
  unfold voteF
  split
  · exact hn.of
  · exact hn
theorem heardF_bd {n : Nd} (m : Ms) (hn : Bd n) : Bd (heardF n m).1 := by
  unfold heardF
  split
  · exact hn
  · split
    · exact (hn.of (n' := agreeN n m)).commit
    · split <;> exact hn.of
theorem addF_len {n : Nd} {m : Ms} (hl : n.log.length + m.entries.length ≤ 100000000) : (addF n m).1.log.length ≤ 100000000 := by
  unfold addF
  split
  · simp only; omega
  · split
    · simp only [quietN]; omega
    · split
      · simp only [quietN]; omega
      · have := layK_len n m m.entries.length
        simp only [addN]; omega
theorem snapF_len {n : Nd} {m : Ms} (hl : n.log.length ≤ 100000000) : (snapF n m).1.log.length ≤ 100000000 := by
  unfold snapF
  split
  · exact hl
  · split
    · simp only [snapN, restF]
      split
      · simp; omega
      · simp
    · exact hl
end Go.Proofs.YtbdpfclnomiicaaGreat
