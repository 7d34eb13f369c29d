/-
  KeepLong, as it is stated.
-/
import Derived.Test.YtbdpfclnomiicaaLongW
import Derived.Test.YtbdpfclnomiicaaBridge
import Derived.Test.YtbdpfclnomiicaaRead
import Derived.Test.YtbdpfclnomiicaaRows
import Derived.Carry
import Derived.ChangeMaps5
set_option maxRecDepth 10000
namespace Go.Proofs.Ytbdpfclnomiicaa
open Go.Cap
open Go.ChangeShapes Go.WideShapes Go.ChangeAt Go.RowKit Go.ChangeMaps
theorem Try.ownK : ownKnob Try.prog.godebug = none := by kernel_rfl
theorem Try.laidOutK : laidOutB Try.prog = true := by kernel_rfl
section
variable {H : Type} {enc : TypeId × Value → H} {w : World}
end
set_option maxRecDepth 100000 in
theorem keepLong_lifted (os : Os) (started : os.Started) (H : Type) (enc : TypeId × Value → H) :
    ReturnsInHanded {} Try.checked os 3 .any (Rows.keepLongSpec.pre6 enc Try.prog Try.f3 Rows.keepLongRow.domain false) (Rows.keepLongSpec.post enc Try.prog Try.f3 false true false false) := by
  refine returnsInHanded_of_change (C := Try.checked) Try.ownK started (by kernel_rfl) Try.func3
    (ChangeSpec.witness6 (enc := enc) (C := Try.checked) false ⟨#[], #[.int .i64 0, .int .i64 0, .string .empty], []⟩ 8 (by kernel_rfl) (by kernel_rfl) (by kernel_rfl) (by kernel_rfl)) ?_
  intro W base args ds gs before hval0 hW hcnd _
  have hval : ∀ (j : Nat) t v, Try.f3.params[j]? = some t → args[j]? = some v → Value.okWide Try.prog W .any base t v := hval0
  have hW' := hW
  obtain ⟨p, q, hA0, hV, rfl, hfz, hnd⟩ := hW
  have hA : DataW.TrodAll enc Try.prog W 0 (fun _ => true) true Try.f3.params.toList args.toList ds p := hA0
  rw [Try.params3] at hA hval
  obtain ⟨v0, v1, v2, d0, d1, d2, p0, p1, p2, rfl, rfl, rfl, t0, t1, t2⟩ := trodAll_three hA
  obtain ⟨rfl, rfl⟩ := trodVars_none hV
  obtain ⟨a0, rfl, rfl, rfl, w0⟩ := open_int Try.underlying3 (hval 0 _ v0 rfl rfl) t0
  obtain ⟨a1, rfl, rfl, rfl, w1⟩ := open_int Try.underlying3 (hval 1 _ v1 rfl rfl) t1
  obtain ⟨a2, rfl, rfl, rfl, k2⟩ := open_string Try.underlying9 (hval 2 _ v2 rfl rfl) t2
  have h2 := k2
  rw [maxLen_eq] at h2
  have hl2 : a2.data.toList.length ≤ 9223372036854775807 := by rw [Array.length_toList]; exact h2
  have e2 : bs a2.data.toList = a2 := by simp [bs]
  have hc := calls_true (long_fn a0 a1 a2.data.toList hl2) (w := W) (vs := [.int .i64 a0, .int .i64 a1, .string a2]) (.cons _ _ _ _ (.v _) (.cons _ _ _ _ (.v _) (.cons _ _ _ _ (by rw [es, e2]; exact .v _) (.nil))))
  refine hc.mono fun e W' ⟨he, hw⟩ => ?_
  subst he
  exact ⟨_, rfl, post_true Try.laidOutK rfl hW' hw (by kernel_rfl) rfl rfl rfl rfl Try.underlying4⟩
theorem keepLong_holds : Rows.KeepLongSaid :=
  OpenClaim.holds_of_wide 3 Try.f3 rfl rfl rfl rfl rfl rfl rfl ⟨rfl, rfl, rfl, rfl, rfl⟩ rfl rfl rfl rfl rfl (by kernel_rfl) Try.func3 (by kernel_rfl)
    (of_decide_eq_true (by kernel_rfl)) (by unfold Func.isWrapper; first | (rw [if_pos (by decide +kernel)]; kernel_rfl) | (rw [if_neg (by decide +kernel)]; exact ⟨rfl, rfl⟩))
    (fun os started H enc _ => keepLong_lifted os started H enc)
end Go.Proofs.Ytbdpfclnomiicaa
