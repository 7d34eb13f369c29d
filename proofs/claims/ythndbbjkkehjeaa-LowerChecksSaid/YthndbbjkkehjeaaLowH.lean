/-
  The document's chapter 14: what is wrong with a row, with a chain; LowerChecks.
-/
import Derived.Test.YthndbbjkkehjeaaLowD
import Derived.Test.YthndbbjkkehjeaaLowE
import Derived.Test.YthndbbjkkehjeaaSeg
set_option maxRecDepth 4000
namespace Go.Proofs.Ythndbbjkkehjeaa
open Go.Cap
set_option linter.unusedSimpArgs false
set_option linter.unusedVariables false
attribute [local irreducible] POp SimFrom DrawFrom EOp Sim FnH T.gp
instance : Inhabited Po := ⟨⟨0, []⟩⟩
def lastAt (l : List Po) (i : Nat) : Int := if i = 0 then 1 else (l.getD ((i : Int) - 1).toNat default).at_
set_option maxHeartbeats 1000000 in
theorem rrow_fn (l : List Po) (height long : Int) (hl : l.length ≤ 1000000) (h1 : -1 ≤ height) (h2 : height ≤ 4611686018427387904) :
    FnP Try.prog 23 [eps l, .v (.int .i64 height), .v (.int .i64 long)] (fun r => r = .v (.int .i64 (checkGo height long 1 l))) := by
  refine fn_enter Try.func23 (by rfl) (by rfl) ?_
  intro S0 w0
  show Sim _ _ [(0, T.sl false (l.map ep)), (1, _), (2, _)] _ _
  (repeat (first | apply cn | apply cq | apply cb | apply ck | apply cl | apply cx))
  apply cr
  refine s_ p_as ?_
  (repeat (first | apply cn | apply cq | apply cb | apply ck | apply cl | apply cx))
  apply cr
  refine s_ p_as ?_
  (repeat (first | apply cn | apply cq | apply cb | apply ck | apply cl | apply cx))
  apply sim_loopL (σ := Nat) (ok := fun i => i ≤ l.length ∧ 1 ≤ lastAt l i ∧ checkGo height long 1 l = checkGo height long (lastAt l i) (l.drop i))
    (env := fun i => [(7, .v (.int .i64 i)), (0, .sl false (l.map ep)), (1, .v (.int .i64 height)), (2, .v (.int .i64 long))]) (heap := fun _ => []) (μ := fun i => l.length - i) (s0 := 0)
  · exact ⟨by simp, by simp [lastAt], by simp [lastAt]⟩
  · exact eL
  · exact kN
  rintro i ⟨hi, hlast, he⟩
  (repeat (first | apply cn | apply cq | apply cb | apply ck | apply cl | apply cx))
  apply cr
  refine s_ p_mv ?_
  refine s_ p_mv ?_
  (first | refine s_ p_ln ?_ | refine s_ p_lr ?_)
  refine s_ p_lt ?_
  (repeat (first | apply cn | apply cq | apply cb | apply ck | apply cl | apply cx))
  refine ci ?_ ?_
  · intro hlt
    have hix : i < l.length := by simpa using hlt
    rw [drop_at hix] at he
    simp only [checkGo] at he
    have hnext : lastAt l (i + 1) = l[i].at_ := by
      have : (((i + 1 : Nat) : Int) - 1).toNat = i := by omega
      simp [lastAt, hix]
    (repeat (first | apply cn | apply cq | apply cb | apply ck | apply cl | apply cx))
    refine ca [0, 1, 2, 3, 4, 5, 6, 7, 8, 9, 10, 11, 12, 13, 14, 15, 16, 17, 18, 19, 20, 21, 22, 23, 24, 25, 26, 27, 28, 29, 30, 31, 32, 33] [] ?_
    refine a_ (fun _ => p_mv) ?_
    refine a_ (fun _ => p_mv) ?_
    (first | refine a_ (fun _ => p_ix hix) ?_ | refine a_ (fun _ => p_ix hix2) ?_ | refine a_ (fun _ => p_ia) ?_ | refine a_ (fun _ => p_ir) ?_)
    (first | refine a_ (fun _ => p_fa) ?_ | refine a_ (fun _ => p_fr) ?_)
    (first | refine a_ (fun _ => p_ld) ?_ | refine a_lo ?_)
    refine a_ (fun _ => p_lt) ?_
    refine a_ (fun _ => p_mv) ?_
    refine ag_F (fun _ hg => p_mv) ?_
    refine ag_F (fun _ hg => p_gt (hx := u_ hg)) ?_
    refine ag_F (fun _ hg => p_mv (hx := u_ hg)) ?_
    refine ah_T (fun _ hg => p_mv) ?_
    refine ah_T (fun _ hg => p_mv) ?_
    (first | refine ah_T (fun _ hg => p_ix hix (hx := u_ hg) (hy := u_ hg)) ?_ | refine ah_T (fun _ hg => p_ix hix2 (hx := u_ hg) (hy := u_ hg)) ?_ | refine ah_T (fun _ hg => p_ia (hx := u_ hg) (hy := u_ hg)) ?_ | refine ah_T (fun _ hg => p_ir (hx := u_ hg) (hy := u_ hg)) ?_)
    (first | refine ah_T (fun _ hg => p_fa (hx := u_ hg)) ?_ | refine ah_T (fun _ hg => p_fr (hx := u_ hg)) ?_)
    (first | refine ah_T (fun _ hg => p_ld (hx := u_ hg)) ?_ | refine ag_loT ?_)
    refine ah_T (fun _ hg => p_mv) ?_
    refine ah_T (fun _ hg => p_mv) ?_
    refine ah_T (fun _ hg => p_su (hx := u_ hg)) ?_
    (first | refine ah_T (fun _ hg => p_ix hix (hx := u_ hg) (hy := u_ hg)) ?_ | refine ah_T (fun _ hg => p_ix hix2 (hx := u_ hg) (hy := u_ hg)) ?_ | refine ah_T (fun _ hg => p_ia (hx := u_ hg) (hy := u_ hg)) ?_ | refine ah_T (fun _ hg => p_ir (hx := u_ hg) (hy := u_ hg)) ?_)
    (first | refine ah_T (fun _ hg => p_fa (hx := u_ hg)) ?_ | refine ah_T (fun _ hg => p_fr (hx := u_ hg)) ?_)
    (first | refine ah_T (fun _ hg => p_ld (hx := u_ hg)) ?_ | refine ag_loT ?_)
    refine ah_T (fun _ hg => p_lt (hx := u_ hg) (hy := u_ hg)) ?_
    refine ag_F (fun _ hg => p_anN hg) ?_
    refine a_ (fun _ => p_or) ?_
    refine a_ (fun _ => p_mv) ?_
    refine ag_F (fun _ hg => p_mv) ?_
    refine ag_F (fun _ hg => p_mv) ?_
    (first | refine ag_F (fun _ hg => p_ix hix (hx := u_ hg) (hy := u_ hg)) ?_ | refine ag_F (fun _ hg => p_ix hix2 (hx := u_ hg) (hy := u_ hg)) ?_ | refine ag_F (fun _ hg => p_ia (hx := u_ hg) (hy := u_ hg)) ?_ | refine ag_F (fun _ hg => p_ir (hx := u_ hg) (hy := u_ hg)) ?_)
    (first | refine ag_F (fun _ hg => p_fa (hx := u_ hg)) ?_ | refine ag_F (fun _ hg => p_fr (hx := u_ hg)) ?_)
    (first | refine ag_F (fun _ hg => p_ld (hx := u_ hg)) ?_ | refine ag_loF ?_)
    refine ag_F (fun _ hg => p_mv) ?_
    refine ag_F (fun _ hg => p_ad (hx := u_ hg)) ?_
    refine ag_F (fun _ hg => p_gt (hx := u_ hg) (hy := u_ hg)) ?_
    refine a_ (fun _ => p_or) ?_
    apply an
    (repeat (first | apply cn | apply cq | apply cb | apply ck | apply cl | apply cx))
    refine ci ?_ ?_
    · intro hc
      have hyc : l[i].at_ < lastAt l i ∨ l[i].at_ - 1 > height := by
        have e : lastAt l i = if i = 0 then 1 else (l.getD ((i : Int) - 1).toNat default).at_ := rfl
        by_cases h0 : i = 0
        · rw [if_pos h0] at e; omega
        · rw [if_neg h0] at e; omega
      rw [if_pos hyc] at he
      (repeat (first | apply cn | apply cq | apply cb | apply ck | apply cl | apply cx))
      apply cr
      refine s_ p_as ?_
      (repeat (first | apply cn | apply cq | apply cb | apply ck | apply cl | apply cx))
      (apply sim_ret; (try simp only [blockΨ_ret, thenΨ_ret, loopL_ret, cutΨ_ret, cutE_ret]); first | refine rt ?_ | refine rn ?_)
      rw [he]; exact Le.refl _
    intro hc
    have hnc : ¬ (l[i].at_ < lastAt l i ∨ l[i].at_ - 1 > height) := by
      simp only [not_or, not_and, Int.not_lt] at hc
      obtain ⟨⟨c1, c2⟩, c3⟩ := hc
      unfold lastAt
      split
      · omega
      · have := c2 (by omega)
        omega
    rw [if_neg hnc] at he
    (repeat (first | apply cn | apply cq | apply cb | apply ck | apply cl | apply cx))
    apply cr
    refine s_ p_mv ?_
    refine s_ p_mv ?_
    (first | refine s_ (p_ix hix) ?_ | refine s_ (p_ix hix2) ?_ | refine s_ p_ia ?_ | refine s_ p_ir ?_)
    (first | refine s_ p_fa ?_ | refine s_ p_fr ?_)
    (first | refine s_ p_ld ?_ | refine s_ p_lo ?_)
    (first | refine s_ p_ln ?_ | refine s_ p_lr ?_)
    refine s_ p_mv ?_
    refine s_ p_gt ?_
    (repeat (first | apply cn | apply cq | apply cb | apply ck | apply cl | apply cx))
    refine ci ?_ ?_
    · intro hc2
      rw [List.length_map] at hc2
      rw [if_pos hc2] at he
      (repeat (first | apply cn | apply cq | apply cb | apply ck | apply cl | apply cx))
      apply cr
      refine s_ p_as ?_
      (repeat (first | apply cn | apply cq | apply cb | apply ck | apply cl | apply cx))
      (apply sim_ret; (try simp only [blockΨ_ret, thenΨ_ret, loopL_ret, cutΨ_ret, cutE_ret]); first | refine rt ?_ | refine rn ?_)
      rw [he]; exact Le.refl _
    intro hc2
    rw [List.length_map] at hc2
    rw [if_neg hc2] at he
    (repeat (first | apply cn | apply cq | apply cb | apply ck | apply cl | apply cx))
    apply cr
    refine s_ p_mv ?_
    refine s_ p_ad ?_
    refine s_ p_as ?_
    (repeat (first | apply cn | apply cq | apply cb | apply ck | apply cl | apply cx))
    refine ⟨i + 1, ⟨by omega, by rw [hnext]; omega, by rw [hnext]; exact he⟩, (by simp only []; omega), eL, kN⟩
  · intro hge
    have : i = l.length := by simp only [List.length_map] at hge; omega
    subst this
    (repeat (first | apply cn | apply cq | apply cb | apply ck | apply cl | apply cx))
    apply cr
    refine s_ p_as ?_
    (repeat (first | apply cn | apply cq | apply cb | apply ck | apply cl | apply cx))
    (apply sim_ret; (try simp only [blockΨ_ret, thenΨ_ret, loopL_ret, cutΨ_ret, cutE_ret]); first | refine rt ?_ | refine rn ?_)
    rw [he, List.drop_length]; exact Le.refl _
set_option maxHeartbeats 1000000 in
theorem rcheck_fn (l : Lo) (hl1 : l.posts.length ≤ 1000000) (hl2 : l.forced.length ≤ 1000000) : FnP Try.prog 12 [el l] (fun r => r = .v (.int .i64 (checkF l))) := by
  refine fn_enter Try.func12 (by rfl) (by rfl) ?_
  intro S0 w0
  show Sim _ _ [(0, .agg [.v (.int .i64 l.height), eps l.posts, eps l.forced])] _ _
  (repeat (first | apply cn | apply cq | apply cb | apply ck | apply cl | apply cx))
  apply cr
  refine e_bx fun b1 _ => ?_
  refine s_ p_as ?_
  (repeat (first | apply cn | apply cq | apply cb | apply ck | apply cl | apply cx))
  apply cr
  refine s_ p_fr ?_
  refine s_ p_lo ?_
  refine s_ p_lt ?_
  refine s_ p_mv ?_
  refine gF (fun hg => p_fr) ?_
  refine gF (fun hg => p_lo (hx := u_ hg)) ?_
  refine gF (fun hg => p_gt (hx := u_ hg)) ?_
  refine s_ p_or ?_
  (repeat (first | apply cn | apply cq | apply cb | apply ck | apply cl | apply cx))
  refine ci ?_ ?_
  · intro h
    (repeat (first | apply cn | apply cq | apply cb | apply ck | apply cl | apply cx))
    apply cr
    refine s_ p_as ?_
    (repeat (first | apply cn | apply cq | apply cb | apply ck | apply cl | apply cx))
    (apply sim_ret; (try simp only [blockΨ_ret, thenΨ_ret, loopL_ret, cutΨ_ret, cutE_ret]); first | refine rt ?_ | refine rn ?_)
    rw [checkF, if_pos h]; exact Le.refl _
  intro h
  have c1 := rrow_fn l.posts l.height 4000 hl1 (by omega) (by omega)
  have c2 := rrow_fn l.forced l.height 200 hl2 (by omega) (by omega)
  (repeat (first | apply cn | apply cq | apply cb | apply ck | apply cl | apply cx))
  apply cr
  refine s_ p_fr ?_
  refine s_ p_lo ?_
  (first | refine s_ p_ln ?_ | refine s_ p_lr ?_)
  refine s_ p_gt ?_
  refine s_ p_mv ?_
  refine gF (fun hg => p_fr) ?_
  refine gF (fun hg => p_lo (hx := u_ hg)) ?_
  (first | refine gF (fun hg => p_ln (hx := u_ hg)) ?_ | refine gF (fun hg => p_lr (hx := u_ hg)) ?_)
  refine gF (fun hg => p_gt (hx := u_ hg)) ?_
  refine s_ p_or ?_
  (repeat (first | apply cn | apply cq | apply cb | apply ck | apply cl | apply cx))
  refine ci ?_ ?_
  · intro h'
    simp only [List.length_map] at h'
    (repeat (first | apply cn | apply cq | apply cb | apply ck | apply cl | apply cx))
    apply cr
    refine s_ p_as ?_
    (repeat (first | apply cn | apply cq | apply cb | apply ck | apply cl | apply cx))
    (apply sim_ret; (try simp only [blockΨ_ret, thenΨ_ret, loopL_ret, cutΨ_ret, cutE_ret]); first | refine rt ?_ | refine rn ?_)
    rw [checkF, if_neg h, if_pos h']; exact Le.refl _
  intro h'
  simp only [List.length_map] at h'
  have hcf : checkF l = if checkGo l.height 4000 1 l.posts = 0 then checkGo l.height 200 1 l.forced else checkGo l.height 4000 1 l.posts := by rw [checkF, if_neg h, if_neg h']
  (repeat (first | apply cn | apply cq | apply cb | apply ck | apply cl | apply cx))
  apply cr
  refine s_ p_fr ?_
  refine s_ p_lo ?_
  refine s_ p_fr ?_
  refine s_ p_lo ?_
  refine s_ (p_ca (c1)) ?_
  refine s_ p_as ?_
  (repeat (first | apply cn | apply cq | apply cb | apply ck | apply cl | apply cx))
  apply cr
  refine s_ p_mv ?_
  refine s_ p_eq ?_
  (repeat (first | apply cn | apply cq | apply cb | apply ck | apply cl | apply cx))
  refine ci ?_ ?_
  · intro h0
    rw [if_pos h0] at hcf
    (repeat (first | apply cn | apply cq | apply cb | apply ck | apply cl | apply cx))
    apply cr
    refine s_ p_fr ?_
    refine s_ p_lo ?_
    refine s_ p_fr ?_
    refine s_ p_lo ?_
    refine s_ (p_ca (c2)) ?_
    refine s_ p_as ?_
    (repeat (first | apply cn | apply cq | apply cb | apply ck | apply cl | apply cx))
    apply cr
    refine s_ p_mv ?_
    refine s_ p_as ?_
    (repeat (first | apply cn | apply cq | apply cb | apply ck | apply cl | apply cx))
    (apply sim_ret; (try simp only [blockΨ_ret, thenΨ_ret, loopL_ret, cutΨ_ret, cutE_ret]); first | refine rt ?_ | refine rn ?_)
    rw [hcf]; exact Le.refl _
  · intro h0
    rw [if_neg h0] at hcf
    (repeat (first | apply cn | apply cq | apply cb | apply ck | apply cl | apply cx))
    apply cr
    refine s_ p_mv ?_
    refine s_ p_as ?_
    (repeat (first | apply cn | apply cq | apply cb | apply ck | apply cl | apply cx))
    (apply sim_ret; (try simp only [blockΨ_ret, thenΨ_ret, loopL_ret, cutΨ_ret, cutE_ret]); first | refine rt ?_ | refine rn ?_)
    rw [hcf]; exact Le.refl _
end Go.Proofs.Ythndbbjkkehjeaa
