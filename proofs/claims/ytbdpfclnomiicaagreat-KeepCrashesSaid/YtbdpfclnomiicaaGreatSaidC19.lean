/-
  KeepCrashes, as it is stated.
-/
import Derived.Test.YtbdpfclnomiicaaGreatKCrash
import Derived.Test.YtbdpfclnomiicaaGreatBridge
import Derived.Test.YtbdpfclnomiicaaGreatRead
import Derived.Test.YtbdpfclnomiicaaGreatRows
import Derived.Carry
import Derived.ChangeMaps5
import Derived.Test.YtbdpfclnomiicaaGreatActs
set_option maxRecDepth 10000
namespace Go.Proofs.YtbdpfclnomiicaaGreat
open Go.Cap
open Go.ChangeShapes Go.WideShapes Go.ChangeAt Go.RowKit Go.ChangeMaps
theorem Tryz.ownC19 : ownKnob Tryz.prog.godebug = none := by kernel_rfl
theorem Tryz.laidOutC19 : laidOutB Tryz.prog = true := by kernel_rfl
section
variable {H : Type} {enc : TypeId × Value → H} {w : World}
end
set_option maxRecDepth 100000 in
theorem keepCrashes_lifted (os : Os) (started : os.Started) (H : Type) (enc : TypeId × Value → H) :
    ReturnsInHanded {} Tryz.checked os 6 .any (Rows.keepCrashesSpec.pre6 enc Tryz.prog Tryz.f6 Rows.keepCrashesRow.domain false) (Rows.keepCrashesSpec.post enc Tryz.prog Tryz.f6 false true false false) := by
  refine returnsInHanded_of_change (C := Tryz.checked) Tryz.ownC19 started (by kernel_rfl) Tryz.func6
    (ChangeSpec.witness6 (enc := enc) (C := Tryz.checked) false ⟨#[], #[.int .i64 0, .int .i64 0, .slice none 0 0], []⟩ 8 (by kernel_rfl) (by kernel_rfl) (by kernel_rfl) (by kernel_rfl)) ?_
  intro W base args ds gs before hval0 hW hcnd _
  have hval : ∀ (j : Nat) t v, Tryz.f6.params[j]? = some t → args[j]? = some v → Value.okWide Tryz.prog W .any base t v := hval0
  have hW' := hW
  obtain ⟨p, q, hA0, hV, rfl, hfz, hnd⟩ := hW
  have hA : DataW.TrodAll enc Tryz.prog W 0 (fun _ => true) true Tryz.f6.params.toList args.toList ds p := hA0
  rw [Tryz.params6] at hA hval
  obtain ⟨v0, v1, v2, d0, d1, d2, p0, p1, p2, rfl, rfl, rfl, t0, t1, t2⟩ := trodAll_three hA
  obtain ⟨rfl, rfl⟩ := trodVars_none hV
  obtain ⟨a0, rfl, rfl, rfl, w0⟩ := open_int Tryz.underlying3 (hval 0 _ v0 rfl rfl) t0
  obtain ⟨a1, rfl, rfl, rfl, w1⟩ := open_int Tryz.underlying3 (hval 1 _ v1 rfl rfl) t1
  obtain ⟨a2, r2, k2⟩ := arg_slice (by rfl) (hval 2 _ v2 rfl rfl) t2 dec_acts
  have h2 := k2.1
  rw [maxLen_eq] at h2
  have hc := calls_true (kcrash_fn a0 a1 a2 h2 (fun a ha => by have := k2.2 a ha; rw [maxLen_eq] at this; exact this)) (w := W) (vs := [.int .i64 a0, .int .i64 a1, v2]) (.cons _ _ _ _ (.v _) (.cons _ _ _ _ (.v _) (.cons _ _ _ _ r2 (.nil))))
  refine hc.mono fun e W' ⟨he, hw⟩ => ?_
  subst he
  exact ⟨_, rfl, post_true Tryz.laidOutC19 rfl hW' hw (by kernel_rfl) rfl rfl rfl rfl Tryz.underlying4⟩
theorem keepCrashes_holds : Rows.KeepCrashesSaid :=
  OpenClaim.holds_of_wide 6 Tryz.f6 rfl rfl rfl rfl rfl rfl rfl ⟨rfl, rfl, rfl, rfl, rfl⟩ rfl rfl rfl rfl rfl (by kernel_rfl) Tryz.func6 (by kernel_rfl)
    (of_decide_eq_true (by kernel_rfl)) (by unfold Func.isWrapper; first | (rw [if_pos (by decide +kernel)]; kernel_rfl) | (rw [if_neg (by decide +kernel)]; exact ⟨rfl, rfl⟩))
    (fun os started H enc _ => keepCrashes_lifted os started H enc)
end Go.Proofs.YtbdpfclnomiicaaGreat
