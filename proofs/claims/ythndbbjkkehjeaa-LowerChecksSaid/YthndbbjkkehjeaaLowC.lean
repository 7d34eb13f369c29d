/-
  The document's chapter 14: rows told from rows, chains from chains.
-/
import Derived.Test.YthndbbjkkehjeaaLowA
set_option maxRecDepth 4000
namespace Go.Proofs.Ythndbbjkkehjeaa
open Go.Cap
set_option linter.unusedSimpArgs false
set_option linter.unusedVariables false
attribute [local irreducible] POp SimFrom DrawFrom EOp Sim FnH T.gp
theorem Po.ext' {p q : Po} (h1 : p.at_ = q.at_) (h2 : p.bytes = q.bytes) : p = q := by cases p; cases q; simp_all
theorem Lo.ext' {p q : Lo} (h1 : p.height = q.height) (h2 : p.posts = q.posts) (h3 : p.forced = q.forced) : p = q := by cases p; cases q; simp_all
instance : DecidableEq Po := fun p q => decidable_of_iff (p.at_ = q.at_ ∧ p.bytes = q.bytes) ⟨fun h => Po.ext' h.1 h.2, fun h => by subst h; exact ⟨rfl, rfl⟩⟩
theorem take_snoc_eq {l m : List Po} {i : Nat} (h : l.take i = m.take i) (h1 : i < l.length) (h2 : i < m.length) (he : l[i] = m[i]) : l.take (i + 1) = m.take (i + 1) := by
  rw [List.take_succ_eq_append_getElem h1, List.take_succ_eq_append_getElem h2, h, he]
set_option maxHeartbeats 400000 in
theorem rows_fn (l m : List Po) (h1 : Fit l) (h2 : Fit m) : FnP Try.prog 21 [eps l, eps m] (fun r => r = .v (.bool (decide (l = m)))) := by
  have hl := h1.len
  have hm := h2.len
  refine fn_enter Try.func21 (by rfl) (by rfl) ?_
  intro S0 w0
  show Sim _ _ [(0, T.sl false (l.map ep)), (1, T.sl false (m.map ep))] _ _
  (repeat (first | apply cn | apply cq | apply cb | apply ck | apply cl | apply cx))
  apply cr
  refine s_ p_as ?_
  (repeat (first | apply cn | apply cq | apply cb | apply ck | apply cl | apply cx))
  apply cr
  refine s_ p_mv ?_
  (first | refine s_ p_ln ?_ | refine s_ p_lr ?_)
  refine s_ p_mv ?_
  (first | refine s_ p_ln ?_ | refine s_ p_lr ?_)
  refine s_ p_ne ?_
  (repeat (first | apply cn | apply cq | apply cb | apply ck | apply cl | apply cx))
  refine ci ?_ ?_
  · intro h
    simp only [List.length_map] at h
    (repeat (first | apply cn | apply cq | apply cb | apply ck | apply cl | apply cx))
    apply cr
    refine s_ p_as ?_
    (repeat (first | apply cn | apply cq | apply cb | apply ck | apply cl | apply cx))
    (apply sim_ret; (try simp only [blockΨ_ret, thenΨ_ret, loopL_ret, cutΨ_ret, cutE_ret]); first | refine rt ?_ | refine rn ?_)
    exact Le.of_eq (by have : ¬ l = m := fun e => h (by rw [e]); simp [this, packT])
  intro h
  simp only [List.length_map, Classical.not_not] at h
  have hlm : l.length = m.length := by omega
  (repeat (first | apply cn | apply cq | apply cb | apply ck | apply cl | apply cx))
  apply cr
  refine s_ p_as ?_
  (repeat (first | apply cn | apply cq | apply cb | apply ck | apply cl | apply cx))
  apply sim_loopL (σ := Nat) (ok := fun i => i ≤ l.length ∧ l.take i = m.take i) (env := fun i => [(5, .v (.int .i64 i)), (0, .sl false (l.map ep)), (1, .sl false (m.map ep))])
    (heap := fun i => []) (μ := fun i => l.length - i) (s0 := 0)
  · exact ⟨by omega, rfl⟩
  · exact eL
  · exact HeapFront.nil _
  rintro i ⟨hi, he⟩
  (repeat (first | apply cn | apply cq | apply cb | apply ck | apply cl | apply cx))
  apply cr
  refine s_ p_mv ?_
  refine s_ p_mv ?_
  (first | refine s_ p_ln ?_ | refine s_ p_lr ?_)
  refine s_ p_lt ?_
  (repeat (first | apply cn | apply cq | apply cb | apply ck | apply cl | apply cx))
  refine ci ?_ ?_
  · intro hlt
    simp only [List.length_map] at hlt
    have hix : i < l.length := by omega
    have hix2 : i < m.length := by omega
    have hbi := h1.each (l[i]) (List.getElem_mem hix)
    have hbj := h2.each (m[i]) (List.getElem_mem hix2)
    (repeat (first | apply cn | apply cq | apply cb | apply ck | apply cl | apply cx))
    refine ca [0, 1, 2, 3, 4, 5, 6, 7, 8, 9, 10, 11, 12, 13, 14, 15, 16, 17, 18, 19, 20, 21, 22, 23, 24, 25] [] ?_
    refine a_ (fun _ => p_mv) ?_
    refine a_ (fun _ => p_mv) ?_
    (first | refine a_ (fun _ => p_ix hix) ?_ | refine a_ (fun _ => p_ix hix2) ?_ | refine a_ (fun _ => p_ia) ?_ | refine a_ (fun _ => p_ir) ?_)
    (first | refine a_ (fun _ => p_fa) ?_ | refine a_ (fun _ => p_fr) ?_)
    (first | refine a_ (fun _ => p_ld) ?_ | refine a_lo ?_)
    refine a_ (fun _ => p_mv) ?_
    refine a_ (fun _ => p_mv) ?_
    (first | refine a_ (fun _ => p_ix hix) ?_ | refine a_ (fun _ => p_ix hix2) ?_ | refine a_ (fun _ => p_ia) ?_ | refine a_ (fun _ => p_ir) ?_)
    (first | refine a_ (fun _ => p_fa) ?_ | refine a_ (fun _ => p_fr) ?_)
    (first | refine a_ (fun _ => p_ld) ?_ | refine a_lo ?_)
    refine a_ (fun _ => p_ne) ?_
    refine a_ (fun _ => p_mv) ?_
    refine ag_F (fun _ hg => p_mv) ?_
    refine ag_F (fun _ hg => p_mv) ?_
    (first | refine ag_F (fun _ hg => p_ix hix (hx := u_ hg) (hy := u_ hg)) ?_ | refine ag_F (fun _ hg => p_ix hix2 (hx := u_ hg) (hy := u_ hg)) ?_ | refine ag_F (fun _ hg => p_ia (hx := u_ hg) (hy := u_ hg)) ?_ | refine ag_F (fun _ hg => p_ir (hx := u_ hg) (hy := u_ hg)) ?_)
    (first | refine ag_F (fun _ hg => p_fa (hx := u_ hg)) ?_ | refine ag_F (fun _ hg => p_fr (hx := u_ hg)) ?_)
    (first | refine ag_F (fun _ hg => p_ld (hx := u_ hg)) ?_ | refine ag_loF ?_)
    refine ag_F (fun _ hg => p_st (hx := u_ hg)) ?_
    refine ag_F (fun _ hg => p_mv) ?_
    refine ag_F (fun _ hg => p_mv) ?_
    (first | refine ag_F (fun _ hg => p_ix hix (hx := u_ hg) (hy := u_ hg)) ?_ | refine ag_F (fun _ hg => p_ix hix2 (hx := u_ hg) (hy := u_ hg)) ?_ | refine ag_F (fun _ hg => p_ia (hx := u_ hg) (hy := u_ hg)) ?_ | refine ag_F (fun _ hg => p_ir (hx := u_ hg) (hy := u_ hg)) ?_)
    (first | refine ag_F (fun _ hg => p_fa (hx := u_ hg)) ?_ | refine ag_F (fun _ hg => p_fr (hx := u_ hg)) ?_)
    (first | refine ag_F (fun _ hg => p_ld (hx := u_ hg)) ?_ | refine ag_loF ?_)
    refine ag_F (fun _ hg => p_st (hx := u_ hg)) ?_
    refine ag_F (fun _ hg => p_neS (hx := u_ hg) (hy := u_ hg)) ?_
    refine a_ (fun _ => p_or) ?_
    apply an
    (repeat (first | apply cn | apply cq | apply cb | apply ck | apply cl | apply cx))
    refine ci ?_ ?_
    · intro hne
      (repeat (first | apply cn | apply cq | apply cb | apply ck | apply cl | apply cx))
      apply cr
      refine s_ p_as ?_
      (repeat (first | apply cn | apply cq | apply cb | apply ck | apply cl | apply cx))
      (apply sim_ret; (try simp only [blockΨ_ret, thenΨ_ret, loopL_ret, cutΨ_ret, cutE_ret]); first | refine rt ?_ | refine rn ?_)
      refine Le.of_eq ?_
      have : ¬ l = m := by
        intro e; subst e
        rcases hne with h | h <;> exact h rfl
      simp [this, packT]
    · intro heq
      have heq' : l[i] = m[i] := Po.ext' (Classical.not_not.1 fun h => heq (.inl h)) (Classical.not_not.1 fun h => heq (.inr h))
      (repeat (first | apply cn | apply cq | apply cb | apply ck | apply cl | apply cx))
      apply cr
      refine s_ p_mv ?_
      refine s_ p_ad ?_
      refine s_ p_as ?_
      (repeat (first | apply cn | apply cq | apply cb | apply ck | apply cl | apply cx))
      refine ⟨i + 1, ⟨by omega, take_snoc_eq he hix hix2 heq'⟩, (by simp only []; omega), ?_, HeapFront.nil _⟩
      exact eL
  · intro hge
    simp only [List.length_map] at hge
    (repeat (first | apply cn | apply cq | apply cb | apply ck | apply cl | apply cx))
    apply cr
    refine s_ p_as ?_
    (repeat (first | apply cn | apply cq | apply cb | apply ck | apply cl | apply cx))
    (apply sim_ret; (try simp only [blockΨ_ret, thenΨ_ret, loopL_ret, cutΨ_ret, cutE_ret]); first | refine rt ?_ | refine rn ?_)
    refine Le.of_eq ?_
    have : l = m := by
      have e := he
      rwa [List.take_of_length_le (by omega), List.take_of_length_le (by omega)] at e
    simp [this, packT]
theorem same_fn (l m : Lo) (h1 : Fit l.posts) (h2 : Fit l.forced) (h3 : Fit m.posts) (h4 : Fit m.forced) :
    FnP Try.prog 10 [el l, el m] (fun r => r = .v (.bool (decide (((l.height = m.height) ∧ l.posts = m.posts) ∧ l.forced = m.forced)))) := by
  have c1 := rows_fn l.posts m.posts h1 h3
  have c2 := rows_fn l.forced m.forced h2 h4
  refine fn_enter Try.func10 (by rfl) (by rfl) ?_
  intro S0 w0
  show Sim _ _ [(0, .agg [.v (.int .i64 l.height), eps l.posts, eps l.forced]), (1, .agg [.v (.int .i64 m.height), eps m.posts, eps m.forced])] _ _
  (repeat (first | apply cn | apply cq | apply cb | apply ck | apply cl | apply cx))
  apply cr
  refine e_bx fun b2 _ => ?_
  refine e_bx fun b3 _ => ?_
  refine s_ p_as ?_
  (repeat (first | apply cn | apply cq | apply cb | apply ck | apply cl | apply cx))
  apply cr
  refine s_ p_fr ?_
  refine s_ p_lo ?_
  refine s_ p_fr ?_
  refine s_ p_lo ?_
  refine s_ p_eq ?_
  refine s_ p_mv ?_
  refine gT (fun hg => p_fr) ?_
  refine gT (fun hg => p_lo (hx := u_ hg)) ?_
  refine gT (fun hg => p_fr) ?_
  refine gT (fun hg => p_lo (hx := u_ hg)) ?_
  refine gT (fun hg => p_ca (c1) (ha' := by refine evl_cons (u_ hg) ?_; refine evl_cons (u_ hg) ?_; exact evl_nil)) ?_
  refine s_ p_an ?_
  refine s_ p_mv ?_
  refine gT (fun hg => p_fr) ?_
  refine gT (fun hg => p_lo (hx := u_ hg)) ?_
  refine gT (fun hg => p_fr) ?_
  refine gT (fun hg => p_lo (hx := u_ hg)) ?_
  refine gT (fun hg => p_ca (c2) (ha' := by refine evl_cons (u_ hg) ?_; refine evl_cons (u_ hg) ?_; exact evl_nil)) ?_
  refine s_ p_an ?_
  refine s_ p_as ?_
  (repeat (first | apply cn | apply cq | apply cb | apply ck | apply cl | apply cx))
  (apply sim_ret; (try simp only [blockΨ_ret, thenΨ_ret, loopL_ret, cutΨ_ret, cutE_ret]); first | refine rt ?_ | refine rn ?_)
  exact Le.refl _
end Go.Proofs.Ythndbbjkkehjeaa
