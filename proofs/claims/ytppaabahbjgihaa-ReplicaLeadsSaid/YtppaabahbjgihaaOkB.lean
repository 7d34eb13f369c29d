/-
  Nodes whose numbers are small, told by a check.
-/
import Derived.Test.YtppaabahbjgihaaCommits
set_option maxRecDepth 4000
namespace Go.Proofs.Ytppaabahbjgihaa
open Go.Cap
set_option linter.unusedSimpArgs false
set_option linter.unusedVariables false
attribute [local irreducible] POp SimFrom DrawFrom EOp Sim FnH T.gp
def f5B (f : F5) : Bool := [f.a, f.b, f.c, f.d, f.e].all fun x => decide (-1000 ≤ x ∧ x ≤ 1000)
def okB (n : Nd) : Bool := decide (0 ≤ n.id ∧ n.id < 5 ∧ n.log.length < 1000 ∧ -1000 ≤ n.base ∧ n.base ≤ 1000) && decide (0 ≤ (confF n).2 ∧ (confF n).2 ≤ 31 ∧ 0 ≤ n.votes ∧ n.votes ≤ 31 ∧ 0 ≤ n.term ∧ n.term ≤ 1000) && decide (0 ≤ n.wait ∧ n.wait ≤ 1000 ∧ -1000 ≤ n.commit ∧ n.commit ≤ 1000) && f5B n.next && f5B n.mtch
theorem f5B_get {f : F5} (h : f5B f = true) (i : Nat) : -1000 ≤ f.get i ∧ f.get i ≤ 1000 := by
  simp only [f5B, List.all_cons, List.all_nil, Bool.and_eq_true, decide_eq_true_eq] at h
  exact f5_all (p := fun x => -1000 ≤ x ∧ x ≤ 1000) h.1 h.2.1 h.2.2.1 h.2.2.2.1 h.2.2.2.2.1 i
structure OkB (n : Nd) : Prop where
  bd : Bd n
  nbd : NBd n
  len : n.log.length < 1000
  t0 : 0 ≤ n.term
  t1 : n.term ≤ 1000
  w0 : 0 ≤ n.wait
  w1 : n.wait ≤ 1000
  c0 : -1000 ≤ n.commit
  c1 : n.commit ≤ 1000
theorem OkB.of {n : Nd} (h : okB n = true) : OkB n := by
  simp only [okB, Bool.and_eq_true, decide_eq_true_eq] at h
  obtain ⟨⟨⟨⟨⟨a1, a2, a3, a4, a5⟩, b1, b2, b3, b4, b5, b6⟩, c1, c2, c3, c4⟩, hx⟩, hm⟩ := h
  have hx' := f5B_get hx
  have hm' := f5B_get hm
  exact ⟨⟨a1, a2, by omega, by omega, by omega, b1, b2⟩, ⟨by omega, b3, b4, fun i => by have := hx' i; omega, fun i => by have := hx' i; omega, fun i => by have := hm' i; omega, fun i => by have := hm' i; omega⟩, a3, b5, b6, c1, c2, c3, c4⟩
/-- Take, of nodes that are checked. -/
theorem take_ok {n : Nd} {m : Ms} {r : Nd × List Ms} (h : okB n = true) (hr : takeF n m = r) (h0 : -1000 ≤ m.index) (h1 : m.index ≤ 1000) (h2 : m.entries.length ≤ 1000) : FnP Try.prog 17 [nd n, ms m] (fun x => x = .tup [nd r.1, mss r.2]) := by
  have ho := OkB.of h
  have hl := ho.len
  rw [← hr]
  exact take_fn ho.bd ho.nbd (.inr ⟨by omega, by omega, by omega⟩)
theorem tick_ok {n : Nd} {r : Nd × List Ms} (h : okB n = true) (hr : tickF n = r) : FnP Try.prog 15 [nd n] (fun x => x = .tup [nd r.1, mss r.2]) := by
  have ho := OkB.of h
  rw [← hr]
  exact tick_fn ho.bd ho.nbd.log ho.t0 (by have := ho.t1; omega) ho.w0 (by have := ho.w1; omega) (fun i => by have := ho.nbd.x1 i; omega)
theorem compact_ok {n : Nd} {r : Nd × Int} {i : Int} {s : List UInt8} (h : okB n = true) (hr : compactF n i s = r) (h0 : -1000 ≤ i) (h1 : i ≤ 1000) : FnP Try.prog 22 [nd n, ei i, es s] (fun x => x = .tup [nd r.1, ei r.2]) := by
  rw [← hr]
  exact compact_fn i s (OkB.of h).bd (by simp only [big]; omega) (by simp only [big]; omega)
theorem change_ok {n : Nd} {r : Nd × Int × Int} {c : Int} (h : okB n = true) (hr : changeF n c = r) : FnP Try.prog 20 [nd n, ei c] (fun x => x = .tup [nd r.1, ei r.2.1, ei r.2.2]) := by
  have ho := OkB.of h
  rw [← hr]
  exact change_fn c ho.bd ho.nbd.log (by have := ho.c0; simp only [big]; omega) (by have := ho.c1; simp only [big]; omega)
/-- The leader, ahead of the k-th answer. -/
def atS (c : Nat) : Nat → Nd
  | 1 => ledP c
  | 2 => comN c ⟨c + 1, c + 1, 0, 0, 0⟩ ⟨1, c + 2, 1, 1, 1⟩ 0
  | _ => comN c ⟨c + 1, c + 1, c + 1, 0, 0⟩ ⟨1, c + 2, c + 2, 1, 1⟩ (c + 1)
theorem atS_take : ∀ c : Fin 9, takeF (atS c.val 1) (okM 1 (c.val + 1)) = (atS c.val 2, []) ∧ takeF (atS c.val 2) (okM 2 (c.val + 1)) = (atS c.val 3, []) ∧ okB (atS c.val 1) = true ∧ okB (atS c.val 2) = true ∧ okB (atS c.val 3) = true := by decide +kernel
end Go.Proofs.Ytppaabahbjgihaa
