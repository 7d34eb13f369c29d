/-
  ReplicaLeads: one that has most members' votes leads, and no sooner.
-/
import Derived.Test.YtppaabahbjgihaaChanges
set_option maxRecDepth 4000
namespace Go.Proofs.Ytppaabahbjgihaa
open Go.Cap
set_option linter.unusedSimpArgs false
set_option linter.unusedVariables false
attribute [local irreducible] POp SimFrom DrawFrom EOp Sim FnH T.gp
def lowF (c : Nat) : Nat := if c % 2 = 1 then 0 else if c / 2 % 2 = 1 then 1 else if c / 4 % 2 = 1 then 2 else if c / 8 % 2 = 1 then 3 else 4
def lN (c : Nat) (k : Int) : Nd := waitN (newF (lowF c) c) k
def cN (c : Nat) (V : Nat) : Nd := { standN (lN c 0) with votes := V }
def ndV (c V : Nat) : Nd := if mostF c V then leadF (cN c V) else cN c V
def orN (V f : Nat) : Nat := V ||| 2 ^ f
def vtM (f to : Nat) : Ms := ⟨2, f, to, 1, 0, 0, 0, 0, true, [], []⟩
def seenP (V id p : Nat) : Prop := V.testBit p = true ∧ p ≠ id
instance (V id p : Nat) : Decidable (seenP V id p) := by unfold seenP; infer_instance
def seenC (V id : Nat) : List T := [.v (.bool (decide (seenP V id 0))), .v (.bool (decide (seenP V id 1))), .v (.bool (decide (seenP V id 2))), .v (.bool (decide (seenP V id 3))), .v (.bool (decide (seenP V id 4)))]
theorem low_ok : ∀ c : Fin 32, 1 ≤ c.val → lowF c.val < 5 ∧ ∀ k : Fin 5, k.val ≤ lowF c.val → (bAnd .i64 (bShr .i64 c.val (IntKind.u64.wrap (k.val : Nat))) 1 = 0 ↔ k.val ≠ lowF c.val) := by decide +kernel
theorem lead_quiet : ∀ c : Fin 32, ∀ k : Fin 17, 1 ≤ c.val → k.val < 4 + 3 * lowF c.val → tickF (lN c.val (k.val : Nat)) = (lN c.val ((k.val + 1 : Nat) : Int), []) := by decide +kernel
theorem lead_stand : ∀ c : Fin 32, 1 ≤ c.val → (tickF (lN c.val ((4 + 3 * lowF c.val : Nat) : Int))).1 = ndV c.val (2 ^ lowF c.val) ∧ (mostF c.val ((2 ^ lowF c.val : Nat) : Int) = true → (((tickF (lN c.val ((4 + 3 * lowF c.val : Nat) : Int))).2.length : Nat) : Int) = ones c.val - 1) := by decide +kernel
theorem lead_okB : ∀ c : Fin 32, 1 ≤ c.val → ∀ k : Fin 17, okB (lN c.val (k.val : Nat)) = true := by decide +kernel
theorem lead_nd : ∀ c V : Fin 32, 1 ≤ c.val → okB (ndV c.val V.val) = true ∧ ((ndV c.val V.val).role = 2 ↔ mostF c.val V.val = true) ∧ (ndV c.val V.val).term = 1 ∧ (mostF c.val V.val = true → (ndV c.val V.val).log = [⟨1, 0, []⟩]) ∧ 0 ≤ ones (andI c.val V.val) ∧ ones (andI c.val V.val) ≤ 5 := by decide +kernel
theorem lead_vote : ∀ c V : Fin 32, ∀ f : Fin 5, 1 ≤ c.val → ¬ mostF c.val V.val = true → f.val ≠ lowF c.val → (takeF (ndV c.val V.val) (vtM f.val (lowF c.val))).1 = ndV c.val (orN V.val f.val)
    ∧ (mostF c.val (orN V.val f.val : Nat) = true → (((takeF (ndV c.val V.val) (vtM f.val (lowF c.val))).2.length : Nat) : Int) = ones c.val - 1) := by decide +kernel
theorem lead_count : ∀ c V : Fin 32, ∀ f : Fin 5, f.val ≠ lowF c.val → ones (andI c.val (orN V.val f.val : Nat)) = ones (andI c.val V.val) + (if ¬ seenP V.val (lowF c.val) f.val ∧ bAnd .i64 (bShr .i64 c.val (IntKind.u64.wrap (f.val : Nat))) 1 = 1 then 1 else 0) ∧ orN V.val f.val < 32 := by decide +kernel
theorem seen_one : ∀ i : Fin 5, ∀ p : Fin 5, ¬ seenP (2 ^ i.val) i.val p.val := by decide
theorem seen_next : ∀ V : Fin 32, ∀ f p i : Fin 5, f.val ≠ i.val → (seenP (orN V.val f.val) i.val p.val ↔ seenP V.val i.val p.val ∨ p.val = f.val) := by decide +kernel
end Go.Proofs.Ytppaabahbjgihaa
