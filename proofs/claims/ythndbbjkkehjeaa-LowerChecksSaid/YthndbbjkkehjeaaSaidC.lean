/-
  LowerChecks, as it is stated.
-/
import Derived.Test.YthndbbjkkehjeaaLowI
import Derived.Test.YthndbbjkkehjeaaBridge
import Derived.Test.YthndbbjkkehjeaaRead
import Derived.Test.YthndbbjkkehjeaaRows
set_option maxRecDepth 10000
namespace Go.Proofs.Ythndbbjkkehjeaa
open Go.Cap
open Go.ChangeShapes Go.WideShapes Go.ChangeAt Go.RowKit
theorem Try.ownC : ownKnob Try.prog.godebug = none := by kernel_rfl
theorem Try.laidOutC : laidOutB Try.prog = true := by kernel_rfl
section
variable {H : Type} {enc : TypeId × Value → H} {w : World}
theorem dec_bytesC : Dec enc Try.prog w 32 (fun l : List UInt8 => [ebs l]) (fun _ => True) :=
  (dec_slice (f := fun b : UInt8 => [eb b]) (e := 5) (k := 1) (by rfl) (by rfl) (by omega) (dec_u8 (by rfl)) (fun _ => .inr ⟨rfl, rfl⟩)).imp fun _ _ => trivial
theorem dec_int64 : Dec enc Try.prog w 3 (fun n : Int => [ei n]) (fun n => n ≤ 9223372036854775807) :=
  (dec_int (k := .i64) (by rfl)).imp fun n h => by
    simp [Lit.wf, IntKind.min, IntKind.max, IntKind.signed, IntKind.bits] at h; omega
theorem dec_po : Dec enc Try.prog w 34 (fun p : Po => [ei p.at_, ebs p.bytes]) (fun p => p.at_ ≤ 9223372036854775807) :=
  Dec.map (dec_struct (by rfl) (by rfl) (decf_cons (k := 1) (by rfl) (by rfl) dec_int64 (decf_cons (k := 1) (by rfl) (by rfl) dec_bytesC decf_nil))) (fun a => Po.mk a.1 a.2.1) (fun _ => rfl) (fun _ h => h.1)
theorem dec_posts : Dec enc Try.prog w 23 (fun l : List Po => [eps l]) (fun l => ∀ p ∈ l, p.at_ ≤ 9223372036854775807) :=
  (dec_slice (g := ep) (e := 34) (k := 2) (by rfl) (by rfl) (by omega) dec_po (fun _ => .inl rfl)).imp fun _ h => h.2
theorem dec_lo : Dec enc Try.prog w 25 (fun l : Lo => [ei l.height, eps l.posts, eps l.forced]) (fun l => (∀ p ∈ l.posts, p.at_ ≤ 9223372036854775807) ∧ ∀ p ∈ l.forced, p.at_ ≤ 9223372036854775807) :=
  Dec.map (dec_struct (by rfl) (by rfl) (decf_cons (k := 1) (by rfl) (by rfl) dec_int64 (decf_cons (k := 1) (by rfl) (by rfl) dec_posts (decf_cons (k := 1) (by rfl) (by rfl) dec_posts decf_nil)))) (fun a => Lo.mk a.1 a.2.1 a.2.2.1) (fun _ => rfl) (fun _ h => ⟨h.2.1, h.2.2.1⟩)
end
set_option maxRecDepth 100000 in
theorem checks_lifted (os : Os) (started : os.Started) (H : Type) (enc : TypeId × Value → H) :
    ReturnsInHanded {} Try.checked os 4 .any (Rows.lowerChecksSpec.pre6 enc Try.prog Try.f4 Rows.lowerChecksRow.domain false) (Rows.lowerChecksSpec.post enc Try.prog Try.f4 false true false false) := by
  refine returnsInHanded_of_change (C := Try.checked) Try.ownC started (by kernel_rfl) Try.func4
    (ChangeSpec.witness6 (enc := enc) (C := Try.checked) false ⟨#[], #[.agg #[.int .i64 0, .slice none 0 0, .slice none 0 0], .int .i64 0, .int .i64 0, .int .i64 0], []⟩ 8 (by kernel_rfl) (by kernel_rfl) (by kernel_rfl) (by kernel_rfl)) ?_
  intro W base args ds gs before hval0 hW hcnd _
  have hval : ∀ (j : Nat) t v, Try.f4.params[j]? = some t → args[j]? = some v → Value.okWide Try.prog W .any base t v := hval0
  have hW' := hW
  obtain ⟨p, q, hA0, hV, rfl, hfz, hnd⟩ := hW
  have hA : DataW.TrodAll enc Try.prog W 0 (fun _ => true) true Try.f4.params.toList args.toList ds p := hA0
  rw [Try.params4] at hA hval
  obtain ⟨v0, v1, v2, v3, d0, d1, d2, d3, p0, p1, p2, p3, rfl, rfl, rfl, t0, t1, t2, t3⟩ := trodAll_four hA
  obtain ⟨rfl, rfl⟩ := trodVars_none hV
  obtain ⟨l, r0, k0⟩ := arg_struct (by rfl) (hval 0 _ v0 rfl rfl) t0 dec_lo
  obtain ⟨n1, rfl, rfl, rfl, w1⟩ := open_int Try.underlying3 (hval 1 _ v1 rfl rfl) t1
  obtain ⟨n2, rfl, rfl, rfl, w2⟩ := open_int Try.underlying3 (hval 2 _ v2 rfl rfl) t2
  obtain ⟨n3, rfl, rfl, rfl, w3⟩ := open_int Try.underlying3 (hval 3 _ v3 rfl rfl) t3
  have hn3 : n3 ≤ 9223372036854775807 := by
    simp [Lit.wf, IntKind.min, IntKind.max, IntKind.signed, IntKind.bits] at w3; omega
  have hc := calls_true (checks_fn l n1 n2 n3 hn3 k0.1 k0.2) (w := W) (vs := [v0, .int .i64 n1, .int .i64 n2, .int .i64 n3]) (.cons _ _ _ _ r0 (.cons _ _ _ _ (.v _) (.cons _ _ _ _ (.v _) (.cons _ _ _ _ (.v _) .nil))))
  refine hc.mono fun e W' ⟨he, hw⟩ => ?_
  subst he
  exact ⟨_, rfl, post_true Try.laidOutC rfl hW' hw (by kernel_rfl) rfl rfl rfl rfl Try.underlying4⟩
theorem lowerChecks_holds : Rows.LowerChecksSaid :=
  OpenClaim.holds_of_wide 4 Try.f4 rfl rfl rfl rfl rfl rfl rfl ⟨rfl, rfl, rfl, rfl, rfl⟩ rfl rfl rfl rfl rfl (by kernel_rfl) Try.func4 (by kernel_rfl)
    (of_decide_eq_true (by kernel_rfl)) (by unfold Func.isWrapper; first | (rw [if_pos (by decide +kernel)]; kernel_rfl) | (rw [if_neg (by decide +kernel)]; exact ⟨rfl, rfl⟩))
    (fun os started H enc _ => checks_lifted os started H enc)
end Go.Proofs.Ythndbbjkkehjeaa
