/-
  GroupPlays, as it is stated.
-/
import Derived.Test.YtjbokbikkcfjjaaGreatAbf
import Derived.Test.YtjbokbikkcfjjaaGreatRows
import Derived.Carry
import Derived.ChangeMaps5
set_option maxRecDepth 16000
set_option maxHeartbeats 8000000
set_option linter.all false
namespace Go.Proofs.YtjbokbikkcfjjaaGreat
open Go.Cap
open Go.ChangeShapes Go.WideShapes Go.ChangeAt Go.RowKit Go.ChangeMaps
theorem Tryz.ownP20 : ownKnob Tryz.prog.godebug = none := by kernel_rfl
theorem Tryz.laidOutP20 : laidOutB Tryz.prog = true := by kernel_rfl
section
variable {H : Type} {enc : TypeId × Value → H} {w : World}
end
set_option maxRecDepth 100000 in
theorem groupPlays_lifted (os : Os) (started : os.Started) (H : Type) (enc : TypeId × Value → H) :
  ReturnsInHanded {} Tryz.checked os 7 .any (Rows.groupPlaysSpec.pre6 enc Tryz.prog Tryz.f7 Rows.groupPlaysRow.domain false) (Rows.groupPlaysSpec.post enc Tryz.prog Tryz.f7 false true false false) := by
 refine returnsInHanded_of_change (C := Tryz.checked) Tryz.ownP20 started (by kernel_rfl) Tryz.func7
  (ChangeSpec.witness6 (enc := enc) (C := Tryz.checked) false ⟨#[], #[.int .i64 0, .slice none 0 0], []⟩ 8 (by kernel_rfl) (by kernel_rfl) (by kernel_rfl) (by kernel_rfl)) ?_
 intro W base args ds gs before hval0 hW hcnd _
 have hval : ∀ (j : Nat) t v, Tryz.f7.params[j]? = some t → args[j]? = some v → Value.okWide Tryz.prog W .any base t v := hval0
 have hW' := hW
 obtain ⟨p, q, hA0, hV, rfl, hfz, hnd⟩ := hW
 have hA : DataW.TrodAll enc Tryz.prog W 0 (fun _ => true) true Tryz.f7.params.toList args.toList ds p := hA0
 rw [Tryz.params7] at hA hval
 obtain ⟨v0, v1, d0, d1, p0, p1, rfl, rfl, rfl, t0, t1⟩ := trodAll_two hA
 obtain ⟨rfl, rfl⟩ := trodVars_none hV
 obtain ⟨a0, rfl, rfl, rfl, w0⟩ := open_int Tryz.underlying3 (hval 0 _ v0 rfl rfl) t0
 obtain ⟨a1, r1, k1⟩ := BT (by rfl) (hval 1 _ v1 rfl rfl) t1 Nw
 have h1 := k1.1
 rw [C3] at h1
 have hc := RP (Bk a0 a1 h1) (w := W) (vs := [.int .i64 a0, v1]) (.cons _ _ _ _ (.v _) (.cons _ _ _ _ r1 (.nil)))
 refine hc.mono fun e W' ⟨he, hw⟩ => ?_
 subst he
 exact ⟨_, rfl, CH Tryz.laidOutP20 rfl hW' hw (by kernel_rfl) rfl rfl rfl rfl Tryz.underlying4⟩
theorem groupPlays_holds : Rows.GroupPlaysSaid :=
 OpenClaim.holds_of_wide 7 Tryz.f7 rfl rfl rfl rfl rfl rfl rfl ⟨rfl, rfl, rfl, rfl, rfl⟩ rfl rfl rfl rfl rfl (by kernel_rfl) Tryz.func7 (by kernel_rfl)
  (of_decide_eq_true (by kernel_rfl)) (by unfold Func.isWrapper; first | (rw [if_pos (by decide +kernel)]; kernel_rfl) | (rw [if_neg (by decide +kernel)]; exact ⟨rfl, rfl⟩))
  (fun os started H enc _ => groupPlays_lifted os started H enc)
end Go.Proofs.YtjbokbikkcfjjaaGreat
