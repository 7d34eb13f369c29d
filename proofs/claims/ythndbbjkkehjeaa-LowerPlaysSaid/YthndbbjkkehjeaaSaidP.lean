/-
  LowerPlays, as it is stated.
-/
import Derived.Test.YthndbbjkkehjeaaLowG
import Derived.Test.YthndbbjkkehjeaaBridge
import Derived.Test.YthndbbjkkehjeaaRead
import Derived.Test.YthndbbjkkehjeaaRows
set_option maxRecDepth 10000
namespace Go.Proofs.Ythndbbjkkehjeaa
open Go.Cap
open Go.ChangeShapes Go.WideShapes Go.ChangeAt Go.RowKit
theorem Try.ownP : ownKnob Try.prog.godebug = none := by kernel_rfl
theorem Try.laidOutP : laidOutB Try.prog = true := by kernel_rfl
section
variable {H : Type} {enc : TypeId × Value → H} {w : World}
theorem dec_ints : Dec enc Try.prog w 38 (fun l : List Int => [T.sl false (l.map ei)]) (fun l => l.length ≤ maxLen ∧ ∀ a ∈ l, (Lit.int .i64 a).wf = true) :=
  dec_slice (f := fun n : Int => [ei n]) (e := 3) (k := 1) (by rfl) (by rfl) (by omega) (dec_int (k := .i64) (by rfl)) (fun _ => .inr ⟨rfl, rfl⟩)
theorem dec_bytes : Dec enc Try.prog w 32 (fun l : List UInt8 => [ebs l]) (fun l => l.length ≤ maxLen ∧ ∀ a ∈ l, True) :=
  dec_slice (f := fun b : UInt8 => [eb b]) (e := 5) (k := 1) (by rfl) (by rfl) (by omega) (dec_u8 (by rfl)) (fun _ => .inr ⟨rfl, rfl⟩)
theorem dec_rows : Dec enc Try.prog w 39 (fun l : List (List UInt8) => [T.sl false (l.map ebs)]) (fun l => l.length ≤ maxLen ∧ ∀ a ∈ l, a.length ≤ maxLen ∧ ∀ b ∈ a, True) :=
  dec_slice (f := fun l : List UInt8 => [ebs l]) (e := 32) (k := 1) (by rfl) (by rfl) (by omega) dec_bytes (fun _ => .inr ⟨rfl, rfl⟩)
end
set_option maxRecDepth 100000 in
theorem plays_lifted (os : Os) (started : os.Started) (H : Type) (enc : TypeId × Value → H) :
    ReturnsInHanded {} Try.checked os 5 .any (Rows.lowerPlaysSpec.pre6 enc Try.prog Try.f5 Rows.lowerPlaysRow.domain false) (Rows.lowerPlaysSpec.post enc Try.prog Try.f5 false true false false) := by
  refine returnsInHanded_of_change (C := Try.checked) Try.ownP started (by kernel_rfl) Try.func5
    (ChangeSpec.witness6 (enc := enc) (C := Try.checked) false ⟨#[], #[.slice none 0 0, .slice none 0 0, .slice none 0 0], []⟩ 8 (by kernel_rfl) (by kernel_rfl) (by kernel_rfl) (by kernel_rfl)) ?_
  intro W base args ds gs before hval0 hW hcnd _
  have hval : ∀ (j : Nat) t v, Try.f5.params[j]? = some t → args[j]? = some v → Value.okWide Try.prog W .any base t v := hval0
  have hW' := hW
  obtain ⟨p, q, hA0, hV, rfl, hfz, hnd⟩ := hW
  have hA : DataW.TrodAll enc Try.prog W 0 (fun _ => true) true Try.f5.params.toList args.toList ds p := hA0
  rw [Try.params5] at hA hval
  obtain ⟨v0, v1, v2, d0, d1, d2, p0, p1, p2, rfl, rfl, rfl, t0, t1, t2⟩ := trodAll_three hA
  obtain ⟨rfl, rfl⟩ := trodVars_none hV
  obtain ⟨kinds, r0, k0⟩ := arg_slice (by rfl) (hval 0 _ v0 rfl rfl) t0 dec_ints
  obtain ⟨ns, r1, k1⟩ := arg_slice (by rfl) (hval 1 _ v1 rfl rfl) t1 dec_ints
  obtain ⟨rows, r2, k2⟩ := arg_slice (by rfl) (hval 2 _ v2 rfl rfl) t2 dec_rows
  have h0 := k0.1
  have h1 := k1.1
  rw [maxLen_eq] at h0 h1
  have hc := calls_true (plays_fn kinds ns rows h0 h1) (w := W) (vs := [v0, v1, v2]) (.cons _ _ _ _ r0 (.cons _ _ _ _ r1 (.cons _ _ _ _ r2 .nil)))
  refine hc.mono fun e W' ⟨he, hw⟩ => ?_
  subst he
  exact ⟨_, rfl, post_true Try.laidOutP rfl hW' hw (by kernel_rfl) rfl rfl rfl rfl Try.underlying4⟩
theorem lowerPlays_holds : Rows.LowerPlaysSaid :=
  OpenClaim.holds_of_wide 5 Try.f5 rfl rfl rfl rfl rfl rfl rfl ⟨rfl, rfl, rfl, rfl, rfl⟩ rfl rfl rfl rfl rfl (by kernel_rfl) Try.func5 (by kernel_rfl)
    (of_decide_eq_true (by kernel_rfl)) (by unfold Func.isWrapper; first | (rw [if_pos (by decide +kernel)]; kernel_rfl) | (rw [if_neg (by decide +kernel)]; exact ⟨rfl, rfl⟩))
    (fun os started H enc _ => plays_lifted os started H enc)
end Go.Proofs.Ythndbbjkkehjeaa
