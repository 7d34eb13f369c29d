/-
  ReplicaSafe, as it is stated.
-/
import Derived.Test.YtppaabahbjgihaaSafe
import Derived.Test.YtppaabahbjgihaaBridge
import Derived.Test.YtppaabahbjgihaaRead
import Derived.Test.YtppaabahbjgihaaRows
import Derived.Carry
import Derived.Test.YtppaabahbjgihaaDecs
set_option maxRecDepth 10000
namespace Go.Proofs.Ytppaabahbjgihaa
open Go.Cap
open Go.ChangeShapes Go.WideShapes Go.ChangeAt Go.RowKit
theorem Try.ownF : ownKnob Try.prog.godebug = none := by kernel_rfl
theorem Try.laidOutF : laidOutB Try.prog = true := by kernel_rfl
section
variable {H : Type} {enc : TypeId × Value → H} {w : World}
end
set_option maxRecDepth 100000 in
theorem replicaSafe_lifted (os : Os) (started : os.Started) (H : Type) (enc : TypeId × Value → H) :
    ReturnsInHanded {} Try.checked os 10 .any (Rows.replicaSafeSpec.pre6 enc Try.prog Try.f10 Rows.replicaSafeRow.domain false) (Rows.replicaSafeSpec.post enc Try.prog Try.f10 false true false false) := by
  refine returnsInHanded_of_change (C := Try.checked) Try.ownF started (by kernel_rfl) Try.func10
    (ChangeSpec.witness6 (enc := enc) (C := Try.checked) false ⟨#[], #[.int .i64 0, .slice none 0 0], []⟩ 8 (by kernel_rfl) (by kernel_rfl) (by kernel_rfl) (by kernel_rfl)) ?_
  intro W base args ds gs before hval0 hW hcnd _
  have hval : ∀ (j : Nat) t v, Try.f10.params[j]? = some t → args[j]? = some v → Value.okWide Try.prog W .any base t v := hval0
  have hW' := hW
  obtain ⟨p, q, hA0, hV, rfl, hfz, hnd⟩ := hW
  have hA : DataW.TrodAll enc Try.prog W 0 (fun _ => true) true Try.f10.params.toList args.toList ds p := hA0
  rw [Try.params10] at hA hval
  obtain ⟨v0, v1, d0, d1, p0, p1, rfl, rfl, rfl, t0, t1⟩ := trodAll_two hA
  obtain ⟨rfl, rfl⟩ := trodVars_none hV
  obtain ⟨a0, rfl, rfl, rfl, w0⟩ := open_int Try.underlying3 (hval 0 _ v0 rfl rfl) t0
  obtain ⟨a1, r1, k1⟩ := arg_slice (by rfl) (hval 1 _ v1 rfl rfl) t1 dec_acts
  have h1 := k1.1
  rw [maxLen_eq] at h1
  have hc := calls_true (safe_fn a0 a1 h1 (fun a ha => by have := k1.2 a ha; rw [maxLen_eq] at this; exact this)) (w := W) (vs := [.int .i64 a0, v1]) (.cons _ _ _ _ (.v _) (.cons _ _ _ _ r1 (.nil)))
  refine hc.mono fun e W' ⟨he, hw⟩ => ?_
  subst he
  exact ⟨_, rfl, post_true Try.laidOutF rfl hW' hw (by kernel_rfl) rfl rfl rfl rfl Try.underlying4⟩
theorem replicaSafe_holds : Rows.ReplicaSafeSaid :=
  OpenClaim.holds_of_wide 10 Try.f10 rfl rfl rfl rfl rfl rfl rfl ⟨rfl, rfl, rfl, rfl, rfl⟩ rfl rfl rfl rfl rfl (by kernel_rfl) Try.func10 (by kernel_rfl)
    (of_decide_eq_true (by kernel_rfl)) (by unfold Func.isWrapper; first | (rw [if_pos (by decide +kernel)]; kernel_rfl) | (rw [if_neg (by decide +kernel)]; exact ⟨rfl, rfl⟩))
    (fun os started H enc _ => replicaSafe_lifted os started H enc)
end Go.Proofs.Ytppaabahbjgihaa
