/-
  ReplicaTakes, as it is stated.
-/
import Derived.Test.YtppaabahbjgihaaTakes
import Derived.Test.YtppaabahbjgihaaBridge
import Derived.Test.YtppaabahbjgihaaRead
import Derived.Test.YtppaabahbjgihaaRows
import Derived.Carry
import Derived.Test.YtppaabahbjgihaaDecs
set_option maxRecDepth 10000
namespace Go.Proofs.Ytppaabahbjgihaa
open Go.Cap
open Go.ChangeShapes Go.WideShapes Go.ChangeAt Go.RowKit
theorem Try.ownT : ownKnob Try.prog.godebug = none := by kernel_rfl
theorem Try.laidOutT : laidOutB Try.prog = true := by kernel_rfl
section
variable {H : Type} {enc : TypeId × Value → H} {w : World}
end
set_option maxRecDepth 100000 in
theorem replicaTakes_lifted (os : Os) (started : os.Started) (H : Type) (enc : TypeId × Value → H) :
    ReturnsInHanded {} Try.checked os 9 .any (Rows.replicaTakesSpec.pre6 enc Try.prog Try.f9 Rows.replicaTakesRow.domain false) (Rows.replicaTakesSpec.post enc Try.prog Try.f9 false true false false) := by
  refine returnsInHanded_of_change (C := Try.checked) Try.ownT started (by kernel_rfl) Try.func9
    (ChangeSpec.witness6 (enc := enc) (C := Try.checked) false ⟨#[], #[.slice none 0 0, .agg #[.int .i64 0, .int .i64 0, .int .i64 0, .int .i64 0, .int .i64 0, .int .i64 0, .int .i64 0, .int .i64 0, .bool false, .slice none 0 0, .string .empty], .int .i64 0], []⟩ 8 (by kernel_rfl) (by kernel_rfl) (by kernel_rfl) (by kernel_rfl)) ?_
  intro W base args ds gs before hval0 hW hcnd _
  have hval : ∀ (j : Nat) t v, Try.f9.params[j]? = some t → args[j]? = some v → Value.okWide Try.prog W .any base t v := hval0
  have hW' := hW
  obtain ⟨p, q, hA0, hV, rfl, hfz, hnd⟩ := hW
  have hA : DataW.TrodAll enc Try.prog W 0 (fun _ => true) true Try.f9.params.toList args.toList ds p := hA0
  rw [Try.params9] at hA hval
  obtain ⟨v0, v1, v2, d0, d1, d2, p0, p1, p2, rfl, rfl, rfl, t0, t1, t2⟩ := trodAll_three hA
  obtain ⟨rfl, rfl⟩ := trodVars_none hV
  obtain ⟨a0, r0, k0⟩ := arg_slice (by rfl) (hval 0 _ v0 rfl rfl) t0 dec_acts
  have h0 := k0.1
  rw [maxLen_eq] at h0
  obtain ⟨a1, r1, k1⟩ := arg_struct (by rfl) (hval 1 _ v1 rfl rfl) t1 dec_msg
  have h1 := k1.1
  rw [maxLen_eq] at h1
  obtain ⟨a2, rfl, rfl, rfl, w2⟩ := open_int Try.underlying3 (hval 2 _ v2 rfl rfl) t2
  have hc := calls_true (takes_fn a0 a1 a2 h0 (fun a ha => by have := k0.2 a ha; rw [maxLen_eq] at this; exact this) h1 (by have := k1.2; rw [maxLen_eq] at this; exact this)) (w := W) (vs := [v0, v1, .int .i64 a2]) (.cons _ _ _ _ r0 (.cons _ _ _ _ r1 (.cons _ _ _ _ (.v _) (.nil))))
  refine hc.mono fun e W' ⟨he, hw⟩ => ?_
  subst he
  exact ⟨_, rfl, post_true Try.laidOutT rfl hW' hw (by kernel_rfl) rfl rfl rfl rfl Try.underlying4⟩
theorem replicaTakes_holds : Rows.ReplicaTakesSaid :=
  OpenClaim.holds_of_wide 9 Try.f9 rfl rfl rfl rfl rfl rfl rfl ⟨rfl, rfl, rfl, rfl, rfl⟩ rfl rfl rfl rfl rfl (by kernel_rfl) Try.func9 (by kernel_rfl)
    (of_decide_eq_true (by kernel_rfl)) (by unfold Func.isWrapper; first | (rw [if_pos (by decide +kernel)]; kernel_rfl) | (rw [if_neg (by decide +kernel)]; exact ⟨rfl, rfl⟩))
    (fun os started H enc _ => replicaTakes_lifted os started H enc)
end Go.Proofs.Ytppaabahbjgihaa
