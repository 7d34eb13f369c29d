/-
  lower: what is wrong with a row, with a chain.
-/
import Derived.Test.YthndbbjkkehjeaaLowB
import Derived.Test.YthndbbjkkehjeaaEq
set_option maxRecDepth 4000
namespace Go.Proofs.Ythndbbjkkehjeaa
open Go.Cap
set_option linter.unusedSimpArgs false
set_option linter.unusedVariables false
attribute [local irreducible] POp SimFrom DrawFrom EOp Sim FnH T.gp
def checkGo (height long : Int) : Int → List Po → Int
  | _, [] => 0
  | last, p :: ps => if p.at_ < last ∨ p.at_ - 1 > height then 1 else if (p.bytes.length : Int) > long then 5 else checkGo height long p.at_ ps
def checkF (l : Lo) : Int :=
  if l.height < 0 ∨ l.height > 1073741824 then 1 else if (l.posts.length : Int) > 300 ∨ (l.forced.length : Int) > 60 then 4 else
    if checkGo l.height 4000 1 l.posts = 0 then checkGo l.height 200 1 l.forced else checkGo l.height 4000 1 l.posts
theorem drop_at {α : Type} {l : List α} {i : Nat} (h : i < l.length) : l.drop i = l[i] :: l.drop (i + 1) := List.drop_eq_getElem_cons h
set_option maxHeartbeats 400000 in
theorem lcheck_fn (l : List Po) (height long many : Int) (hl : l.length ≤ 1000000) (ha : ∀ p ∈ l, p.at_ ≤ 9223372036854775807) :
    FnP Try.prog 22 [eps l, .v (.int .i64 height), .agg [.v (.int .i64 long), .v (.int .i64 many)]] (fun r => r = .v (.int .i64 (checkGo height long 1 l))) := by
  refine fn_enter Try.func22 (by rfl) (by rfl) ?_
  intro S0 w0
  show Sim _ _ [(0, T.sl false (l.map ep)), (1, _), (2, _)] _ _
  (repeat (first | apply cn | apply cq | apply cb | apply ck | apply cl | apply cx))
  apply cr
  refine e_bx fun b5 _ => ?_
  refine s_ p_as ?_
  (repeat (first | apply cn | apply cq | apply cb | apply ck | apply cl | apply cx))
  apply cr
  refine s_ p_as ?_
  (repeat (first | apply cn | apply cq | apply cb | apply ck | apply cl | apply cx))
  apply cr
  refine s_ p_mv ?_
  (first | refine s_ p_ln ?_ | refine s_ p_lr ?_)
  refine s_ p_mv ?_
  (repeat (first | apply cn | apply cq | apply cb | apply ck | apply cl | apply cx))
  apply sim_loopL (σ := Nat × Int) (ok := fun s => s.1 ≤ l.length ∧ 1 ≤ s.2 ∧ checkGo height long 1 l = checkGo height long s.2 (l.drop s.1))
    (env := fun s => [(12, .v (.int .i64 s.1)), (11, .v (.int .i64 l.length)), (10, .sl false (l.map ep)), (7, .v (.int .i64 s.2)), (5, .v (.pointer (some ⟨b5, 0, none⟩))), (1, .v (.int .i64 height))])
    (heap := fun s => [(b5, ⟨49, [.v (.int .i64 long), .v (.int .i64 many)], 2⟩)]) (μ := fun s => l.length - s.1) (s0 := (0, 1))
  · exact ⟨by simp, by simp, by simp⟩
  · exact eL
  · exact kK kN
  rintro ⟨i, last⟩ ⟨hi, h1, he⟩
  (repeat (first | apply cn | apply cq | apply cb | apply ck | apply cl | apply cx))
  apply cr
  refine s_ p_lt ?_
  (repeat (first | apply cn | apply cq | apply cb | apply ck | apply cl | apply cx))
  refine ci ?_ ?_
  · intro hlt
    have hix : i < l.length := by simp only at hlt; omega
    have hai := ha _ (List.getElem_mem hix)
    have hlen := hl
    rw [drop_at hix] at he
    simp only [checkGo] at he
    (repeat (first | apply cn | apply cq | apply cb | apply ck | apply cl | apply cx))
    apply cr
    (first | refine s_ (p_ix hix) ?_ | refine s_ (p_ix hix2) ?_ | refine s_ p_ia ?_ | refine s_ p_ir ?_)
    (first | refine s_ p_la ?_ | refine s_ p_loa ?_)
    refine e_al fun b9 _ => ?_
    refine e_st ?_
    (repeat (first | apply cn | apply cq | apply cb | apply ck | apply cl | apply cx))
    apply cr
    refine s_ p_fr ?_
    refine s_ p_lo ?_
    refine s_ p_mv ?_
    refine s_ p_lt ?_
    refine s_ p_mv ?_
    refine gF (fun hg => p_fr) ?_
    refine gF (fun hg => p_lo (hx := u_ hg)) ?_
    refine gF (fun hg => p_su (hx := u_ hg)) ?_
    refine gF (fun hg => p_mv) ?_
    refine gF (fun hg => p_gt (hx := u_ hg) (hy := u_ hg)) ?_
    refine s_ p_or ?_
    refine s_ p_as ?_
    (repeat (first | apply cn | apply cq | apply cb | apply ck | apply cl | apply cx))
    refine ci ?_ ?_
    · intro hc
      rw [if_pos hc] at he
      (repeat (first | apply cn | apply cq | apply cb | apply ck | apply cl | apply cx))
      apply cr
      refine s_ p_as ?_
      (repeat (first | apply cn | apply cq | apply cb | apply ck | apply cl | apply cx))
      (apply sim_ret; (try simp only [blockΨ_ret, thenΨ_ret, loopL_ret, cutΨ_ret, cutE_ret]); first | refine rt ?_ | refine rn ?_)
      rw [he]; exact Le.refl _
    intro hc
    rw [if_neg hc] at he
    (repeat (first | apply cn | apply cq | apply cb | apply ck | apply cl | apply cx))
    apply cr
    refine s_ p_fr ?_
    refine s_ p_lo ?_
    (first | refine s_ p_ln ?_ | refine s_ p_lr ?_)
    refine s_ p_fr ?_
    refine s_ p_lo ?_
    refine s_ p_gt ?_
    refine s_ p_as ?_
    (repeat (first | apply cn | apply cq | apply cb | apply ck | apply cl | apply cx))
    refine ci ?_ ?_
    · intro hc2
      rw [List.length_map] at hc2
      rw [if_pos hc2] at he
      (repeat (first | apply cn | apply cq | apply cb | apply ck | apply cl | apply cx))
      apply cr
      refine s_ p_as ?_
      (repeat (first | apply cn | apply cq | apply cb | apply ck | apply cl | apply cx))
      (apply sim_ret; (try simp only [blockΨ_ret, thenΨ_ret, loopL_ret, cutΨ_ret, cutE_ret]); first | refine rt ?_ | refine rn ?_)
      rw [he]; exact Le.refl _
    intro hc2
    rw [List.length_map] at hc2
    rw [if_neg hc2] at he
    (repeat (first | apply cn | apply cq | apply cb | apply ck | apply cl | apply cx))
    apply cr
    refine s_ p_fr ?_
    refine s_ p_lo ?_
    refine s_ p_as ?_
    (repeat (first | apply cn | apply cq | apply cb | apply ck | apply cl | apply cx))
    apply cr
    refine s_ p_ad ?_
    refine s_ p_mv ?_
    (repeat (first | apply cn | apply cq | apply cb | apply ck | apply cl | apply cx))
    refine ⟨(i + 1, l[i].at_), ⟨by simp only; omega, by simp only; omega, he⟩, (by simp only []; omega), ?_, HeapFront.skip _ _ _ (kK kN)⟩
    exact eL
  · intro hge
    have : i = l.length := by simp only at hge; omega
    subst this
    (repeat (first | apply cn | apply cq | apply cb | apply ck | apply cl | apply cx))
    apply cr
    refine s_ p_as ?_
    (repeat (first | apply cn | apply cq | apply cb | apply ck | apply cl | apply cx))
    (apply sim_ret; (try simp only [blockΨ_ret, thenΨ_ret, loopL_ret, cutΨ_ret, cutE_ret]); first | refine rt ?_ | refine rn ?_)
    rw [he, List.drop_length]; exact Le.refl _
def elemsC (l : Lo) : List T := [.agg [eps l.posts, .v (.int .i64 4000), .v (.int .i64 300)], .agg [eps l.forced, .v (.int .i64 200), .v (.int .i64 60)]]
set_option maxHeartbeats 1000000 in
theorem check_fn (l : Lo) (hl1 : l.posts.length ≤ 1000000) (hl2 : l.forced.length ≤ 1000000) (ha1 : ∀ p ∈ l.posts, p.at_ ≤ 9223372036854775807) (ha2 : ∀ p ∈ l.forced, p.at_ ≤ 9223372036854775807) :
    FnP Try.prog 11 [el l] (fun r => r = .v (.int .i64 (checkF l))) := by
  have c1 := lcheck_fn l.posts l.height 4000 300 hl1 ha1
  have c2 := lcheck_fn l.forced l.height 200 60 hl2 ha2
  refine fn_enter Try.func11 (by rfl) (by rfl) ?_
  intro S0 w0
  show Sim _ _ [(0, .agg [.v (.int .i64 l.height), eps l.posts, eps l.forced])] _ _
  (repeat (first | apply cn | apply cq | apply cb | apply ck | apply cl | apply cx))
  apply cr
  refine e_bx fun b1 _ => ?_
  refine s_ p_as ?_
  (repeat (first | apply cn | apply cq | apply cb | apply ck | apply cl | apply cx))
  apply cr
  refine s_ p_fr ?_
  refine s_ p_lo ?_
  refine s_ p_lt ?_
  refine s_ p_mv ?_
  refine gF (fun hg => p_fr) ?_
  refine gF (fun hg => p_lo (hx := u_ hg)) ?_
  refine gF (fun hg => p_gt (hx := u_ hg)) ?_
  refine s_ p_or ?_
  refine s_ p_as ?_
  (repeat (first | apply cn | apply cq | apply cb | apply ck | apply cl | apply cx))
  refine ci ?_ ?_
  · intro h
    (repeat (first | apply cn | apply cq | apply cb | apply ck | apply cl | apply cx))
    apply cr
    refine s_ p_as ?_
    (repeat (first | apply cn | apply cq | apply cb | apply ck | apply cl | apply cx))
    (apply sim_ret; (try simp only [blockΨ_ret, thenΨ_ret, loopL_ret, cutΨ_ret, cutE_ret]); first | refine rt ?_ | refine rn ?_)
    rw [checkF, if_pos h]; exact Le.refl _
  intro h
  (repeat (first | apply cn | apply cq | apply cb | apply ck | apply cl | apply cx))
  refine ca [0, 1, 2, 3, 4, 5, 6, 7, 8, 9, 10, 11, 12, 13, 14] [] ?_
  refine a_ (fun _ => p_fr) ?_
  refine a_lo ?_
  (first | refine a_ (fun _ => p_ln) ?_ | refine a_ (fun _ => p_lr) ?_)
  refine a_ (fun _ => p_ca (posts_fn)) ?_
  refine a_ (fun _ => p_fd) ?_
  refine a_ (fun _ => p_gt) ?_
  refine a_ (fun _ => p_mv) ?_
  refine ag_F (fun _ hg => p_fr) ?_
  refine ag_loF ?_
  (first | refine ag_F (fun _ hg => p_ln (hx := u_ hg)) ?_ | refine ag_F (fun _ hg => p_lr (hx := u_ hg)) ?_)
  refine ag_F (fun _ hg => p_ca (forced_fn)) ?_
  refine ag_F (fun _ hg => p_fd (hx := u_ hg)) ?_
  refine ag_F (fun _ hg => p_gt (hx := u_ hg) (hy := u_ hg)) ?_
  refine a_ (fun _ => p_or) ?_
  refine a_ (fun _ => p_as) ?_
  apply an
  (repeat (first | apply cn | apply cq | apply cb | apply ck | apply cl | apply cx))
  refine ci ?_ ?_
  · intro h'
    simp only [List.length_map] at h'
    (repeat (first | apply cn | apply cq | apply cb | apply ck | apply cl | apply cx))
    apply cr
    refine s_ p_as ?_
    (repeat (first | apply cn | apply cq | apply cb | apply ck | apply cl | apply cx))
    (apply sim_ret; (try simp only [blockΨ_ret, thenΨ_ret, loopL_ret, cutΨ_ret, cutE_ret]); first | refine rt ?_ | refine rn ?_)
    rw [checkF, if_neg h, if_pos h']; exact Le.refl _
  intro h'
  simp only [List.length_map] at h'
  have hcf : checkF l = if checkGo l.height 4000 1 l.posts = 0 then checkGo l.height 200 1 l.forced else checkGo l.height 4000 1 l.posts := by rw [checkF, if_neg h, if_neg h']
  (repeat (first | apply cn | apply cq | apply cb | apply ck | apply cl | apply cx))
  refine ca [0, 1, 2, 3, 4, 5, 6, 7, 8, 9, 10] [] ?_
  refine a_ (fun _ => p_fr) ?_
  refine a_lo ?_
  refine a_ (fun _ => p_ca (posts_fn)) ?_
  refine a_ (fun _ => p_bd 3 [_, _, _]) ?_
  refine a_ (fun _ => p_fr) ?_
  refine a_lo ?_
  refine a_ (fun _ => p_ca (forced_fn)) ?_
  refine a_ (fun _ => p_bd 3 [_, _, _]) ?_
  refine a_ (fun _ => p_bs) ?_
  (first | refine a_ (fun _ => p_ln) ?_ | refine a_ (fun _ => p_lr) ?_)
  refine a_ (fun _ => p_mv) ?_
  apply an
  (repeat (first | apply cn | apply cq | apply cb | apply ck | apply cl | apply cx))
  apply sim_loopL (σ := Nat) (ok := fun i => i = 0 ∨ (i = 1 ∧ checkGo l.height 4000 1 l.posts = 0) ∨ (i = 2 ∧ checkGo l.height 4000 1 l.posts = 0 ∧ checkGo l.height 200 1 l.forced = 0))
    (env := fun i => [(40, .v (.int .i64 i)), (39, .v (.int .i64 2)), (38, .sl true (elemsC l)), (1, .v (.pointer (some ⟨b1, 0, none⟩)))])
    (heap := fun s => [(b1, ⟨25, [.v (.int .i64 l.height), eps l.posts, eps l.forced], 3⟩)]) (μ := fun i => 3 - i) (s0 := 0)
  · exact .inl rfl
  · exact eL
  · exact kK kN
  intro i hi
  (repeat (first | apply cn | apply cq | apply cb | apply ck | apply cl | apply cx))
  apply cr
  refine s_ p_lt ?_
  (repeat (first | apply cn | apply cq | apply cb | apply ck | apply cl | apply cx))
  refine ci ?_ ?_
  · intro hlt
    rcases hi with rfl | ⟨rfl, hp⟩ | ⟨rfl, hp, hq⟩
    · (repeat (first | apply cn | apply cq | apply cb | apply ck | apply cl | apply cx))
      apply cr
      (first | refine s_ (p_ix hix) ?_ | refine s_ (p_ix hix2) ?_ | refine s_ p_ia ?_ | refine s_ p_ir ?_)
      (first | refine s_ p_la ?_ | refine s_ p_loa ?_)
      refine e_al fun b4 _ => ?_
      refine e_st ?_
      (repeat (first | apply cn | apply cq | apply cb | apply ck | apply cl | apply cx))
      apply cr
      refine s_ p_fr ?_
      refine s_ p_loa ?_
      refine s_ (p_bd 2 [_, _]) ?_
      refine s_ (p_eqA Try.stoodInHeld49 Try.eqGuardType49) ?_
      (repeat (first | apply cn | apply cq | apply cb | apply ck | apply cl | apply cx))
      refine ci ?_ ?_
      · intro h; exfalso; omega
      intro _
      (repeat (first | apply cn | apply cq | apply cb | apply ck | apply cl | apply cx))
      (repeat (first | apply cn | apply cq | apply cb | apply ck | apply cl | apply cx))
      apply cr
      refine s_ p_fr ?_
      refine s_ p_lo ?_
      refine s_ p_fr ?_
      refine s_ p_lo ?_
      refine s_ p_fr ?_
      refine s_ p_loa ?_
      refine s_ (p_ca (c1)) ?_
      refine s_ p_as ?_
      (repeat (first | apply cn | apply cq | apply cb | apply ck | apply cl | apply cx))
      apply cr
      refine s_ p_mv ?_
      refine s_ p_ne ?_
      (repeat (first | apply cn | apply cq | apply cb | apply ck | apply cl | apply cx))
      refine ci ?_ ?_
      · intro hne
        (repeat (first | apply cn | apply cq | apply cb | apply ck | apply cl | apply cx))
        apply cr
        refine s_ p_mv ?_
        refine s_ p_as ?_
        (repeat (first | apply cn | apply cq | apply cb | apply ck | apply cl | apply cx))
        (apply sim_ret; (try simp only [blockΨ_ret, thenΨ_ret, loopL_ret, cutΨ_ret, cutE_ret]); first | refine rt ?_ | refine rn ?_)
        rw [hcf, if_neg hne]; exact Le.refl _
      intro heq
      have heq' := Classical.not_not.1 heq
      (repeat (first | apply cn | apply cq | apply cb | apply ck | apply cl | apply cx))
      apply cr
      refine s_ p_ad ?_
      refine s_ p_mv ?_
      (repeat (first | apply cn | apply cq | apply cb | apply ck | apply cl | apply cx))
      refine ⟨1, by simp [heq'], (by simp only []; omega), ?_, HeapFront.skip _ _ _ (kK kN)⟩
      exact eL
    · (repeat (first | apply cn | apply cq | apply cb | apply ck | apply cl | apply cx))
      apply cr
      (first | refine s_ (p_ix hix) ?_ | refine s_ (p_ix hix2) ?_ | refine s_ p_ia ?_ | refine s_ p_ir ?_)
      (first | refine s_ p_la ?_ | refine s_ p_loa ?_)
      refine e_al fun b4 _ => ?_
      refine e_st ?_
      (repeat (first | apply cn | apply cq | apply cb | apply ck | apply cl | apply cx))
      apply cr
      refine s_ p_fr ?_
      refine s_ p_loa ?_
      refine s_ (p_bd 2 [_, _]) ?_
      refine s_ (p_eqA Try.stoodInHeld49 Try.eqGuardType49) ?_
      (repeat (first | apply cn | apply cq | apply cb | apply ck | apply cl | apply cx))
      refine ci ?_ ?_
      · intro h; exfalso; omega
      intro _
      (repeat (first | apply cn | apply cq | apply cb | apply ck | apply cl | apply cx))
      (repeat (first | apply cn | apply cq | apply cb | apply ck | apply cl | apply cx))
      apply cr
      refine s_ p_fr ?_
      refine s_ p_lo ?_
      refine s_ p_fr ?_
      refine s_ p_lo ?_
      refine s_ p_fr ?_
      refine s_ p_loa ?_
      refine s_ (p_ca (c2)) ?_
      refine s_ p_as ?_
      (repeat (first | apply cn | apply cq | apply cb | apply ck | apply cl | apply cx))
      apply cr
      refine s_ p_mv ?_
      refine s_ p_ne ?_
      (repeat (first | apply cn | apply cq | apply cb | apply ck | apply cl | apply cx))
      refine ci ?_ ?_
      · intro hne
        (repeat (first | apply cn | apply cq | apply cb | apply ck | apply cl | apply cx))
        apply cr
        refine s_ p_mv ?_
        refine s_ p_as ?_
        (repeat (first | apply cn | apply cq | apply cb | apply ck | apply cl | apply cx))
        (apply sim_ret; (try simp only [blockΨ_ret, thenΨ_ret, loopL_ret, cutΨ_ret, cutE_ret]); first | refine rt ?_ | refine rn ?_)
        rw [hcf, if_pos hp]; exact Le.refl _
      intro heq
      have heq' := Classical.not_not.1 heq
      (repeat (first | apply cn | apply cq | apply cb | apply ck | apply cl | apply cx))
      apply cr
      refine s_ p_ad ?_
      refine s_ p_mv ?_
      (repeat (first | apply cn | apply cq | apply cb | apply ck | apply cl | apply cx))
      refine ⟨2, by simp [heq', hp], (by simp only []; omega), ?_, HeapFront.skip _ _ _ (kK kN)⟩
      exact eL
    · omega
  · intro hge
    have hi2 : i = 2 ∧ checkGo l.height 4000 1 l.posts = 0 ∧ checkGo l.height 200 1 l.forced = 0 := by rcases hi with rfl | ⟨rfl, hp⟩ | h <;> first | exact h | (exfalso; omega)
    (repeat (first | apply cn | apply cq | apply cb | apply ck | apply cl | apply cx))
    apply cr
    refine s_ p_as ?_
    (repeat (first | apply cn | apply cq | apply cb | apply ck | apply cl | apply cx))
    (apply sim_ret; (try simp only [blockΨ_ret, thenΨ_ret, loopL_ret, cutΨ_ret, cutE_ret]); first | refine rt ?_ | refine rn ?_)
    rw [hcf, hi2.2.1, hi2.2.2]; exact Le.refl _
end Go.Proofs.Ythndbbjkkehjeaa
