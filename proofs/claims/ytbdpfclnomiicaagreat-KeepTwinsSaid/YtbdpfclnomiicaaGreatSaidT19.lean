/-
  KeepTwins, as it is stated.
-/
import Derived.Test.YtbdpfclnomiicaaGreatKTwins
import Derived.Test.YtbdpfclnomiicaaGreatBridge
import Derived.Test.YtbdpfclnomiicaaGreatRead
import Derived.Test.YtbdpfclnomiicaaGreatRows
import Derived.Carry
import Derived.ChangeMaps5
import Derived.Test.YtbdpfclnomiicaaGreatActs
set_option maxRecDepth 10000
namespace Go.Proofs.YtbdpfclnomiicaaGreat
open Go.Cap
open Go.ChangeShapes Go.WideShapes Go.ChangeAt Go.RowKit Go.ChangeMaps
theorem Tryz.ownT19 : ownKnob Tryz.prog.godebug = none := by kernel_rfl
theorem Tryz.laidOutT19 : laidOutB Tryz.prog = true := by kernel_rfl
section
variable {H : Type} {enc : TypeId × Value → H} {w : World}
end
set_option maxRecDepth 100000 in
theorem keepTwins_lifted (os : Os) (started : os.Started) (H : Type) (enc : TypeId × Value → H) :
    ReturnsInHanded {} Tryz.checked os 5 .any (Rows.keepTwinsSpec.pre6 enc Tryz.prog Tryz.f5 Rows.keepTwinsRow.domain false) (Rows.keepTwinsSpec.post enc Tryz.prog Tryz.f5 false true false false) := by
  refine returnsInHanded_of_change (C := Tryz.checked) Tryz.ownT19 started (by kernel_rfl) Tryz.func5
    (ChangeSpec.witness6 (enc := enc) (C := Tryz.checked) false ⟨#[], #[.slice none 0 0], []⟩ 8 (by kernel_rfl) (by kernel_rfl) (by kernel_rfl) (by kernel_rfl)) ?_
  intro W base args ds gs before hval0 hW hcnd _
  have hval : ∀ (j : Nat) t v, Tryz.f5.params[j]? = some t → args[j]? = some v → Value.okWide Tryz.prog W .any base t v := hval0
  have hW' := hW
  obtain ⟨p, q, hA0, hV, rfl, hfz, hnd⟩ := hW
  have hA : DataW.TrodAll enc Tryz.prog W 0 (fun _ => true) true Tryz.f5.params.toList args.toList ds p := hA0
  rw [Tryz.params5] at hA hval
  obtain ⟨v0, d0, rfl, rfl, t0⟩ := trodAll_one hA
  obtain ⟨rfl, rfl⟩ := trodVars_none hV
  obtain ⟨a0, r0, k0⟩ := arg_slice (by rfl) (hval 0 _ v0 rfl rfl) t0 dec_acts
  have h0 := k0.1
  rw [maxLen_eq] at h0
  have hc := calls_true (ktwins_fn a0 h0 (fun a ha => by have := k0.2 a ha; rw [maxLen_eq] at this; exact this)) (w := W) (vs := [v0]) (.cons _ _ _ _ r0 (.nil))
  refine hc.mono fun e W' ⟨he, hw⟩ => ?_
  subst he
  exact ⟨_, rfl, post_true Tryz.laidOutT19 rfl hW' hw (by kernel_rfl) rfl rfl rfl rfl Tryz.underlying4⟩
theorem keepTwins_holds : Rows.KeepTwinsSaid :=
  OpenClaim.holds_of_wide 5 Tryz.f5 rfl rfl rfl rfl rfl rfl rfl ⟨rfl, rfl, rfl, rfl, rfl⟩ rfl rfl rfl rfl rfl (by kernel_rfl) Tryz.func5 (by kernel_rfl)
    (of_decide_eq_true (by kernel_rfl)) (by unfold Func.isWrapper; first | (rw [if_pos (by decide +kernel)]; kernel_rfl) | (rw [if_neg (by decide +kernel)]; exact ⟨rfl, rfl⟩))
    (fun os started H enc _ => keepTwins_lifted os started H enc)
end Go.Proofs.YtbdpfclnomiicaaGreat
