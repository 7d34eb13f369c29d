/-
  GroupTorn, as it is stated.
-/
import Derived.Test.YtjbokbikkcfjjaaGreatAax
import Derived.Test.YtjbokbikkcfjjaaGreatAay
import Derived.Test.YtjbokbikkcfjjaaGreatRows
import Derived.Carry
set_option maxRecDepth 16000
set_option maxHeartbeats 8000000
set_option linter.all false
namespace Go.Proofs.YtjbokbikkcfjjaaGreat
open Go.Cap
open Go.ChangeShapes Go.WideShapes Go.ChangeAt Go.RowKit
theorem Tryz.ownT20 : ownKnob Tryz.prog.godebug = none := by kernel_rfl
theorem Tryz.laidOutT20 : laidOutB Tryz.prog = true := by kernel_rfl
section
variable {H : Type} {enc : TypeId × Value → H} {w : World}
theorem JM : Dec enc Tryz.prog w 22 (fun l : List Int => [T.sl false (l.map ei)]) (fun l => l.length ≤ maxLen ∧ ∀ a ∈ l, (Lit.int .i64 a).wf = true) :=
 Rc (f := fun n : Int => [ei n]) (e := 3) (k := 1) (by rfl) (by rfl) (by omega) (BJ (k := .i64) (by rfl)) (fun _ => .inr ⟨rfl, rfl⟩)
end
set_option maxRecDepth 100000 in
theorem groupTorn_lifted (os : Os) (started : os.Started) (H : Type) (enc : TypeId × Value → H) :
  ReturnsInHanded {} Tryz.checked os 5 .any (Rows.groupTornSpec.pre6 enc Tryz.prog Tryz.f5 Rows.groupTornRow.domain false) (Rows.groupTornSpec.post enc Tryz.prog Tryz.f5 false true false false) := by
 refine returnsInHanded_of_change (C := Tryz.checked) Tryz.ownT20 started (by kernel_rfl) Tryz.func5
  (ChangeSpec.witness6 (enc := enc) (C := Tryz.checked) false ⟨#[], #[.slice none 0 0, .slice none 0 0, .slice none 0 0], []⟩ 8 (by kernel_rfl) (by kernel_rfl) (by kernel_rfl) (by kernel_rfl)) ?_
 intro W base args ds gs before hval0 hW hcnd _
 have hval : ∀ (j : Nat) t v, Tryz.f5.params[j]? = some t → args[j]? = some v → Value.okWide Tryz.prog W .any base t v := hval0
 have hW' := hW
 obtain ⟨p, q, hA0, hV, rfl, hfz, hnd⟩ := hW
 have hA : DataW.TrodAll enc Tryz.prog W 0 (fun _ => true) true Tryz.f5.params.toList args.toList ds p := hA0
 rw [Tryz.params5] at hA hval
 obtain ⟨v0, v1, v2, d0, d1, d2, p0, p1, p2, rfl, rfl, rfl, t0, t1, t2⟩ := trodAll_three hA
 obtain ⟨rfl, rfl⟩ := trodVars_none hV
 obtain ⟨a0, r0, k0⟩ := U7 (by rfl) (hval 0 _ v0 rfl rfl) t0 JM
 have h0 := k0.1
 rw [U1] at h0
 obtain ⟨a1, r1, k1⟩ := U7 (by rfl) (hval 1 _ v1 rfl rfl) t1 JM
 have h1 := k1.1
 rw [U1] at h1
 obtain ⟨a2, r2, k2⟩ := U7 (by rfl) (hval 2 _ v2 rfl rfl) t2 JM
 have h2 := k2.1
 rw [U1] at h2
 have hc := ES (II a0 a1 a2 h0 h1 h2) (w := W) (vs := [v0, v1, v2]) (.cons _ _ _ _ r0 (.cons _ _ _ _ r1 (.cons _ _ _ _ r2 (.nil))))
 refine hc.mono fun e W' ⟨he, hw⟩ => ?_
 subst he
 exact ⟨_, rfl, On Tryz.laidOutT20 rfl hW' hw (by kernel_rfl) rfl rfl rfl rfl Tryz.underlying4⟩
theorem groupTorn_holds : Rows.GroupTornSaid :=
 OpenClaim.holds_of_wide 5 Tryz.f5 rfl rfl rfl rfl rfl rfl rfl ⟨rfl, rfl, rfl, rfl, rfl⟩ rfl rfl rfl rfl rfl (by kernel_rfl) Tryz.func5 (by kernel_rfl)
  (of_decide_eq_true (by kernel_rfl)) (by unfold Func.isWrapper; first | (rw [if_pos (by decide +kernel)]; kernel_rfl) | (rw [if_neg (by decide +kernel)]; exact ⟨rfl, rfl⟩))
  (fun os started H enc _ => groupTorn_lifted os started H enc)
end Go.Proofs.YtjbokbikkcfjjaaGreat
