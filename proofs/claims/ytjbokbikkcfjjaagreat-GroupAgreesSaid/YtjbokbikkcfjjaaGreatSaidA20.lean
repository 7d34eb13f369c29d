/-
  GroupAgrees, as it is stated.
-/
import Derived.Test.YtjbokbikkcfjjaaGreatAbb
import Derived.Test.YtjbokbikkcfjjaaGreatRows
import Derived.Carry
import Derived.ChangeMaps5
set_option maxRecDepth 16000
set_option maxHeartbeats 8000000
set_option linter.all false
namespace Go.Proofs.YtjbokbikkcfjjaaGreat
open Go.Cap
open Go.ChangeShapes Go.WideShapes Go.ChangeAt Go.RowKit Go.ChangeMaps
theorem Tryz.ownA20 : ownKnob Tryz.prog.godebug = none := by kernel_rfl
theorem Tryz.laidOutA20 : laidOutB Tryz.prog = true := by kernel_rfl
section
variable {H : Type} {enc : TypeId × Value → H} {w : World}
theorem EN : Dec enc Tryz.prog w 22 (fun l : List Int => [T.sl false (l.map ei)]) (fun l => l.length ≤ maxLen ∧ ∀ a ∈ l, (Lit.int .i64 a).wf = true) :=
 Mw (f := fun n : Int => [ei n]) (e := 3) (k := 1) (by rfl) (by rfl) (by omega) (O5 (k := .i64) (by rfl)) (fun _ => .inr ⟨rfl, rfl⟩)
end
set_option maxRecDepth 100000 in
theorem groupAgrees_lifted (os : Os) (started : os.Started) (H : Type) (enc : TypeId × Value → H) :
  ReturnsInHanded {} Tryz.checked os 8 .any (Rows.groupAgreesSpec.pre6 enc Tryz.prog Tryz.f8 Rows.groupAgreesRow.domain false) (Rows.groupAgreesSpec.post enc Tryz.prog Tryz.f8 false true false false) := by
 refine returnsInHanded_of_change (C := Tryz.checked) Tryz.ownA20 started (by kernel_rfl) Tryz.func8
  (ChangeSpec.witness6 (enc := enc) (C := Tryz.checked) false ⟨#[], #[.int .i64 0, .slice none 0 0, .slice none 0 0], []⟩ 8 (by kernel_rfl) (by kernel_rfl) (by kernel_rfl) (by kernel_rfl)) ?_
 intro W base args ds gs before hval0 hW hcnd _
 have hval : ∀ (j : Nat) t v, Tryz.f8.params[j]? = some t → args[j]? = some v → Value.okWide Tryz.prog W .any base t v := hval0
 have hW' := hW
 obtain ⟨p, q, hA0, hV, rfl, hfz, hnd⟩ := hW
 have hA : DataW.TrodAll enc Tryz.prog W 0 (fun _ => true) true Tryz.f8.params.toList args.toList ds p := hA0
 rw [Tryz.params8] at hA hval
 obtain ⟨v0, v1, v2, d0, d1, d2, p0, p1, p2, rfl, rfl, rfl, t0, t1, t2⟩ := trodAll_three hA
 obtain ⟨rfl, rfl⟩ := trodVars_none hV
 obtain ⟨a0, rfl, rfl, rfl, w0⟩ := open_int Tryz.underlying3 (hval 0 _ v0 rfl rfl) t0
 obtain ⟨a1, r1, k1⟩ := MG (by rfl) (hval 1 _ v1 rfl rfl) t1 BG
 have h1 := k1.1
 rw [Mb] at h1
 obtain ⟨a2, r2, k2⟩ := MG (by rfl) (hval 2 _ v2 rfl rfl) t2 EN
 have h2 := k2.1
 rw [Mb] at h2
 have hc := G2 (GJ a0 a1 a2 h1 h2) (w := W) (vs := [.int .i64 a0, v1, v2]) (.cons _ _ _ _ (.v _) (.cons _ _ _ _ r1 (.cons _ _ _ _ r2 (.nil))))
 refine hc.mono fun e W' ⟨he, hw⟩ => ?_
 subst he
 exact ⟨_, rfl, RC Tryz.laidOutA20 rfl hW' hw (by kernel_rfl) rfl rfl rfl rfl Tryz.underlying4⟩
theorem groupAgrees_holds : Rows.GroupAgreesSaid :=
 OpenClaim.holds_of_wide 8 Tryz.f8 rfl rfl rfl rfl rfl rfl rfl ⟨rfl, rfl, rfl, rfl, rfl⟩ rfl rfl rfl rfl rfl (by kernel_rfl) Tryz.func8 (by kernel_rfl)
  (of_decide_eq_true (by kernel_rfl)) (by unfold Func.isWrapper; first | (rw [if_pos (by decide +kernel)]; kernel_rfl) | (rw [if_neg (by decide +kernel)]; exact ⟨rfl, rfl⟩))
  (fun os started H enc _ => groupAgrees_lifted os started H enc)
end Go.Proofs.YtjbokbikkcfjjaaGreat
