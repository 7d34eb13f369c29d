/-
  ReplicaVotes, as it is stated.
-/
import Derived.Test.YtlnloanphgeofaaVotes
import Derived.Test.YtlnloanphgeofaaBridge
import Derived.Test.YtlnloanphgeofaaRead
import Derived.Test.YtlnloanphgeofaaRows
import Derived.Carry
set_option maxRecDepth 10000
namespace Go.Proofs.Ytlnloanphgeofaa
open Go.Cap
open Go.ChangeShapes Go.WideShapes Go.ChangeAt Go.RowKit
theorem Try.ownV : ownKnob Try.prog.godebug = none := by kernel_rfl
theorem Try.laidOutV : laidOutB Try.prog = true := by kernel_rfl
section
variable {H : Type} {enc : TypeId × Value → H} {w : World}
theorem dec_intsV : Dec enc Try.prog w 22 (fun l : List Int => [T.sl false (l.map ei)]) (fun l => l.length ≤ maxLen ∧ ∀ a ∈ l, (Lit.int .i64 a).wf = true) :=
  dec_slice (f := fun n : Int => [ei n]) (e := 3) (k := 1) (by rfl) (by rfl) (by omega) (dec_int (k := .i64) (by rfl)) (fun _ => .inr ⟨rfl, rfl⟩)
end
set_option maxRecDepth 100000 in
theorem replicaVotes_lifted (os : Os) (started : os.Started) (H : Type) (enc : TypeId × Value → H) :
    ReturnsInHanded {} Try.checked os 3 .any (Rows.replicaVotesSpec.pre6 enc Try.prog Try.f3 Rows.replicaVotesRow.domain false) (Rows.replicaVotesSpec.post enc Try.prog Try.f3 false true false false) := by
  refine returnsInHanded_of_change (C := Try.checked) Try.ownV started (by kernel_rfl) Try.func3
    (ChangeSpec.witness6 (enc := enc) (C := Try.checked) false ⟨#[], #[.slice none 0 0, .int .i64 0, .int .i64 0, .bool false], []⟩ 8 (by kernel_rfl) (by kernel_rfl) (by kernel_rfl) (by kernel_rfl)) ?_
  intro W base args ds gs before hval0 hW hcnd _
  have hval : ∀ (j : Nat) t v, Try.f3.params[j]? = some t → args[j]? = some v → Value.okWide Try.prog W .any base t v := hval0
  have hW' := hW
  obtain ⟨p, q, hA0, hV, rfl, hfz, hnd⟩ := hW
  have hA : DataW.TrodAll enc Try.prog W 0 (fun _ => true) true Try.f3.params.toList args.toList ds p := hA0
  rw [Try.params3] at hA hval
  obtain ⟨v0, v1, v2, v3, d0, d1, d2, d3, p0, p1, p2, p3, rfl, rfl, rfl, t0, t1, t2, t3⟩ := trodAll_four hA
  obtain ⟨rfl, rfl⟩ := trodVars_none hV
  obtain ⟨a0, r0, k0⟩ := arg_slice (by rfl) (hval 0 _ v0 rfl rfl) t0 dec_intsV
  have h0 := k0.1
  rw [maxLen_eq] at h0
  obtain ⟨a1, rfl, rfl, rfl, w1⟩ := open_int Try.underlying3 (hval 1 _ v1 rfl rfl) t1
  obtain ⟨a2, rfl, rfl, rfl, w2⟩ := open_int Try.underlying3 (hval 2 _ v2 rfl rfl) t2
  obtain ⟨a3, rfl, rfl, rfl⟩ := open_bool Try.underlying4 (hval 3 _ v3 rfl rfl) t3
  have hc := calls_true (votes_fn a0 a1 a2 a3 h0) (w := W) (vs := [v0, .int .i64 a1, .int .i64 a2, .bool a3]) (.cons _ _ _ _ r0 (.cons _ _ _ _ (.v _) (.cons _ _ _ _ (.v _) (.cons _ _ _ _ (.v _) (.nil)))))
  refine hc.mono fun e W' ⟨he, hw⟩ => ?_
  subst he
  exact ⟨_, rfl, post_true Try.laidOutV rfl hW' hw (by kernel_rfl) rfl rfl rfl rfl Try.underlying4⟩
theorem replicaVotes_holds : Rows.ReplicaVotesSaid :=
  OpenClaim.holds_of_wide 3 Try.f3 rfl rfl rfl rfl rfl rfl rfl ⟨rfl, rfl, rfl, rfl, rfl⟩ rfl rfl rfl rfl rfl (by kernel_rfl) Try.func3 (by kernel_rfl)
    (of_decide_eq_true (by kernel_rfl)) (by unfold Func.isWrapper; first | (rw [if_pos (by decide +kernel)]; kernel_rfl) | (rw [if_neg (by decide +kernel)]; exact ⟨rfl, rfl⟩))
    (fun os started H enc _ => replicaVotes_lifted os started H enc)
end Go.Proofs.Ytlnloanphgeofaa
