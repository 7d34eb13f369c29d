/-
  Chapter 14: the example; many posts.
-/
import Derived.Test.YthndbbjkkehjeaaLowB
import Derived.Test.YthndbbjkkehjeaaLowC
set_option maxRecDepth 4000
namespace Go.Proofs.Ythndbbjkkehjeaa
open Go.Cap
set_option linter.unusedSimpArgs false
set_option linter.unusedVariables false
attribute [local irreducible] POp SimFrom DrawFrom EOp Sim FnH T.gp
theorem fit_nil : Fit [] := ⟨by simp, by simp⟩
def lo0 : Lo := ⟨0, [], []⟩
def lo1 : Lo := ⟨0, [⟨1, [1]⟩], []⟩
def lo2 : Lo := ⟨1, [⟨1, [1]⟩], []⟩
theorem fit_one : Fit [⟨1, [1]⟩] := ⟨by simp, by simp⟩
theorem known_fn : FnP Try.prog 6 [] (fun r => r = .v (.bool (decide True))) := by
  have p : FnP Try.prog 8 [el lo0, ebs [1]] (fun r => r = .tup [el lo1, .v (.int .i64 0)]) := post_fn lo0 [1] ⟨fit_nil, fit_nil, by decide, by decide⟩ (by decide)
  have q : FnP Try.prog 15 [el lo1, .v (.int .i64 1)] (fun r => r = .tup [el lo2, .v (.int .i64 0)]) := next_fn lo1 1 ⟨fit_one, fit_nil, by decide, by decide⟩
  refine fn_enter Try.func6 (by rfl) (by rfl) ?_
  intro S0 w0
  show Sim _ _ [] _ _
  (repeat (first | apply cn | apply cq | apply cb | apply ck | apply cl | apply cx))
  apply cr
  refine s_ p_as ?_
  (repeat (first | apply cn | apply cq | apply cb | apply ck | apply cl | apply cx))
  apply cr
  refine s_ (p_bd 3 [_, _, _]) ?_
  refine s_ p_bs ?_
  refine s_ (p_cl (p)) ?_
  refine s_ p_mv ?_
  refine s_ p_ex ?_
  refine s_ p_ex ?_
  refine e_al fun b1 _ => ?_
  refine e_st ?_
  refine s_ p_as ?_
  (repeat (first | apply cn | apply cq | apply cb | apply ck | apply cl | apply cx))
  apply cr
  refine s_ p_loa ?_
  refine s_ (p_ca (q)) ?_
  refine s_ p_mv ?_
  refine s_ p_ex ?_
  refine s_ p_ex ?_
  refine e_st ?_
  refine s_ p_as ?_
  (repeat (first | apply cn | apply cq | apply cb | apply ck | apply cl | apply cx))
  apply cr
  refine s_ p_mv ?_
  refine s_ p_eq ?_
  refine s_ p_mv ?_
  refine gT (fun hg => p_mv) ?_
  refine gT (fun hg => p_eq (hx := u_ hg)) ?_
  refine s_ p_an ?_
  refine s_ p_mv ?_
  refine gT (fun hg => p_fr) ?_
  refine gT (fun hg => p_lo (hx := u_ hg)) ?_
  refine gT (fun hg => p_eq (hx := u_ hg)) ?_
  refine s_ p_an ?_
  refine s_ p_mv ?_
  refine gT (fun hg => p_fr) ?_
  refine gT (fun hg => p_lo (hx := u_ hg)) ?_
  (first | refine gT (fun hg => p_ln (hx := u_ hg)) ?_ | refine gT (fun hg => p_lr (hx := u_ hg)) ?_)
  refine gT (fun hg => p_eq (hx := u_ hg)) ?_
  refine s_ p_an ?_
  refine s_ p_mv ?_
  refine gT (fun hg => p_fr) ?_
  refine gT (fun hg => p_lo (hx := u_ hg)) ?_
  (first | refine gT (fun hg => p_ix hix (hx := u_ hg)) ?_ | refine gT (fun hg => p_ix hix2 (hx := u_ hg)) ?_ | refine gT (fun hg => p_ia (hx := u_ hg)) ?_ | refine gT (fun hg => p_ir (hx := u_ hg)) ?_)
  (first | refine gT (fun hg => p_fa (hx := u_ hg)) ?_ | refine gT (fun hg => p_fr (hx := u_ hg)) ?_)
  (first | refine gT (fun hg => p_ld (hx := u_ hg)) ?_ | refine gT (fun hg => p_lo (hx := u_ hg)) ?_)
  refine gT (fun hg => p_eq (hx := u_ hg)) ?_
  refine s_ p_an ?_
  refine s_ p_as ?_
  (repeat (first | apply cn | apply cq | apply cb | apply ck | apply cl | apply cx))
  (apply sim_ret; (try simp only [blockΨ_ret, thenΨ_ret, loopL_ret, cutΨ_ret, cutE_ret]); first | refine rt ?_ | refine rn ?_)
  exact Le.of_eq (by rfl)
def lowMost (f : Bool) : Nat := if f = true then 60 else 300
def lowK (f : Bool) (k : Nat) : Lo := if f = true then ⟨0, [], List.replicate (min k 60) ⟨1, []⟩⟩ else ⟨0, List.replicate (min k 300) ⟨1, []⟩, []⟩
theorem fit_rep (n : Nat) (h : n ≤ 300) : Fit (List.replicate n ⟨1, []⟩) := ⟨by simp; omega, fun p hp => by rw [(List.mem_replicate.1 hp).2]; simp⟩
theorem lowK_fit (f : Bool) (k : Nat) : FitL (lowK f k) := by
  cases f <;> exact ⟨by first | exact fit_rep _ (by omega) | exact fit_nil, by first | exact fit_nil | exact fit_rep _ (by omega), by simp [lowK], by simp [lowK]⟩
theorem rep_snoc {α : Type} (n : Nat) (x : α) : List.replicate n x ++ [x] = List.replicate (n + 1) x := by rw [List.replicate_succ']
theorem putF_step (k most : Nat) (long : Int) (hl : 0 ≤ long) :
    putF (List.replicate (min k most) ⟨1, []⟩) [] 1 long most = (List.replicate (min (k + 1) most) ⟨1, []⟩, if k < most then 0 else 4) := by
  unfold putF
  rw [if_neg (by simp; omega)]
  by_cases h : k < most
  · rw [if_neg (by simp; omega), if_pos h, rep_snoc, show min k most + 1 = min (k + 1) most by omega]
  · rw [if_pos (by simp; omega), if_neg h, show min k most = min (k + 1) most by omega]
theorem step_post (k : Nat) : postF (lowK false k) [] = (lowK false (k + 1), if k < 300 then 0 else 4) := by
  have := putF_step k 300 4000 (by omega)
  simp only [postF, lowK, Bool.false_eq_true, if_false, Int.zero_add]
  rw [show ((300 : Int)) = ((300 : Nat) : Int) by rfl, this]
theorem step_force (k : Nat) : forceF (lowK true k) [] = (lowK true (k + 1), if k < 60 then 0 else 4) := by
  have := putF_step k 60 200 (by omega)
  simp only [forceF, lowK, if_true, Int.zero_add]
  rw [show ((60 : Int)) = ((60 : Nat) : Int) by rfl, this]
theorem lowK_same (f : Bool) (k : Nat) (h : lowMost f ≤ k) : lowK f (k + 1) = lowK f k := by
  cases f
  · have h : 300 ≤ k := h
    simp only [lowK, Bool.false_eq_true, if_false]; rw [show min (k + 1) 300 = min k 300 by omega]
  · have h : 60 ≤ k := h
    simp only [lowK, if_true]; rw [show min (k + 1) 60 = min k 60 by omega]
def elc (l : Lo) : List T := [.v (.int .i64 l.height), eps l.posts, eps l.forced]
set_option maxHeartbeats 1000000 in
theorem many_fn (f : Bool) (n : Int) : FnP Try.prog 3 [.v (.bool (decide (f = true))), .v (.int .i64 n)] (fun r => r = .v (.bool true)) := by
  have hn3 : 0 ≤ n % 3 ∧ n % 3 < 3 := by omega
  have cw := within_fn n 3 (by omega) (by omega)
  refine fn_enter Try.func3 (by rfl) (by rfl) ?_
  intro S0 w0
  show Sim _ _ [(0, _), (1, _)] _ _
  (repeat (first | apply cn | apply cq | apply cb | apply ck | apply cl | apply cx))
  apply cr
  refine s_ p_as ?_
  (repeat (first | apply cn | apply cq | apply cb | apply ck | apply cl | apply cx))
  apply cr
  refine s_ (p_ca (known_fn)) ?_
  refine s_ p_no ?_
  (repeat (first | apply cn | apply cq | apply cb | apply ck | apply cl | apply cx))
  refine ci ?_ ?_
  · intro h; exact absurd trivial h
  intro _
  (repeat (first | apply cn | apply cq | apply cb | apply ck | apply cl | apply cx))
  apply cr
  refine s_ (p_bd 3 [_, _, _]) ?_
  refine e_al fun b5 _ => ?_
  refine e_st ?_
  (repeat (first | apply cn | apply cq | apply cb | apply ck | apply cl | apply cx))
  apply cr
  refine s_ p_as ?_
  (repeat (first | apply cn | apply cq | apply cb | apply ck | apply cl | apply cx))
  apply cr
  refine s_ p_mv ?_
  (repeat (first | apply cn | apply cq | apply cb | apply ck | apply cl | apply cx))
  apply sim_cut [(0, .v (.bool (decide (f = true)))), (1, .v (.int .i64 n)), (5, .v (.pointer (some ⟨b5, 0, none⟩))), (6, .v (.int .i64 (lowMost f)))] [(b5, ⟨25, elc lo0, 3⟩)]
  · refine ci ?_ ?_
    · intro h
      have hm : (lowMost f : Int) = 60 := by simp [lowMost, h]
      (repeat (first | apply cn | apply cq | apply cb | apply ck | apply cl | apply cx))
      apply cr
      refine s_ p_as ?_
      (repeat (first | apply cn | apply cq | apply cb | apply ck | apply cl | apply cx))
      exact ⟨by exact eL, kK kN⟩
    · intro h
      have hm : (lowMost f : Int) = 300 := by simp [lowMost, h]
      (repeat (first | apply cn | apply cq | apply cb | apply ck | apply cl | apply cx))
      exact ⟨by exact eL, kK kN⟩
  have hmo : lowMost f = 60 ∨ lowMost f = 300 := by cases f <;> simp [lowMost]
  (repeat (first | apply cn | apply cq | apply cb | apply ck | apply cl | apply cx))
  apply cr
  refine s_ p_as ?_
  (repeat (first | apply cn | apply cq | apply cb | apply ck | apply cl | apply cx))
  apply sim_loopL (σ := Nat) (ok := fun k => (k : Int) ≤ lowMost f + n % 3) (env := fun k => [(0, .v (.bool (decide (f = true)))), (1, .v (.int .i64 n)), (5, .v (.pointer (some ⟨b5, 0, none⟩))), (6, .v (.int .i64 (lowMost f))), (7, .v (.int .i64 k))])
    (heap := fun k => [(b5, ⟨25, elc (lowK f k), 3⟩)]) (μ := fun k => 310 - k) (s0 := 0)
  · simp; omega
  · exact eL
  · apply HeapFront.keep _ _ _ _ _ (blk_eq rfl ?_ rfl) (HeapFront.nil _)
    cases f <;> rfl
  intro k hk
  (repeat (first | apply cn | apply cq | apply cb | apply ck | apply cl | apply cx))
  apply cr
  refine s_ p_mv ?_
  refine s_ p_mv ?_
  refine s_ p_mv ?_
  refine s_ (p_ca (cw)) ?_
  refine s_ p_ad ?_
  refine s_ p_lt ?_
  (repeat (first | apply cn | apply cq | apply cb | apply ck | apply cl | apply cx))
  have hst : el lo0 = el lo0 := rfl
  refine ci ?_ ?_
  · intro hlt
    have cp := post_fn (lowK f k) [] (lowK_fit f k) (by simp)
    have cf := force_fn (lowK f k) [] (lowK_fit f k) (by simp)
    have cs := same_fn (lowK f (k + 1)) (lowK f k) (lowK_fit f _).posts (lowK_fit f _).forced (lowK_fit f _).posts (lowK_fit f _).forced
    (repeat (first | apply cn | apply cq | apply cb | apply ck | apply cl | apply cx))
    (repeat (first | apply cn | apply cq | apply cb | apply ck | apply cl | apply cx))
    apply cr
    refine s_ p_loa ?_
    refine s_ (p_cl (cp)) ?_
    refine s_ p_mv ?_
    refine s_ p_ex ?_
    refine s_ p_ex ?_
    refine e_al fun b8 _ => ?_
    refine e_st ?_
    refine s_ p_as ?_
    (repeat (first | apply cn | apply cq | apply cb | apply ck | apply cl | apply cx))
    apply cr
    refine s_ p_mv ?_
    (repeat (first | apply cn | apply cq | apply cb | apply ck | apply cl | apply cx))
    apply sim_cut [(0, .v (.bool (decide (f = true)))), (1, .v (.int .i64 n)), (5, .v (.pointer (some ⟨b5, 0, none⟩))), (6, .v (.int .i64 (lowMost f))), (7, .v (.int .i64 k)), (8, .v (.pointer (some ⟨b8, 0, none⟩))), (9, .v (.int .i64 (if k < lowMost f then 0 else 4)))]
      [(b8, ⟨25, elc (lowK f (k + 1)), 3⟩), (b5, ⟨25, elc (lowK f k), 3⟩)]
    · refine ci ?_ ?_
      · intro h
        subst h
        (repeat (first | apply cn | apply cq | apply cb | apply ck | apply cl | apply cx))
        apply cr
        refine s_ p_loa ?_
        refine s_ (p_cl (cf)) ?_
        refine s_ p_mv ?_
        refine s_ p_ex ?_
        refine s_ p_ex ?_
        refine e_st ?_
        refine s_ p_as ?_
        (repeat (first | apply cn | apply cq | apply cb | apply ck | apply cl | apply cx))
        refine ⟨?_, ?_⟩
        · simp only [step_force]; exact eL
        · simp only [step_force]; exact kK (kK kN)
      · intro h
        have hf : f = false := by simpa using h
        subst hf
        (repeat (first | apply cn | apply cq | apply cb | apply ck | apply cl | apply cx))
        refine ⟨?_, ?_⟩
        · simp only [step_post]; exact eL
        · simp only [step_post]; exact kK (kK kN)
    (repeat (first | apply cn | apply cq | apply cb | apply ck | apply cl | apply cx))
    apply cr
    refine s_ p_mv ?_
    refine s_ p_eq ?_
    refine s_ p_mv ?_
    refine s_ p_mv ?_
    refine s_ p_lt ?_
    refine s_ p_neB ?_
    refine s_ p_mv ?_
    refine gF (fun hg => p_mv) ?_
    refine gF (fun hg => p_ne (hx := u_ hg)) ?_
    refine gF (fun hg => p_mv (hx := u_ hg)) ?_
    refine hT (fun hg => p_mv) ?_
    refine hT (fun hg => p_ne (hx := u_ hg)) ?_
    refine hT (fun hg => p_mv (hx := u_ hg)) ?_
    refine hF (fun hg => p_loa) ?_
    refine hF (fun hg => p_loa) ?_
    refine hF (fun hg => p_ca (cs) (ha' := by refine evl_cons (u_ hg) ?_; refine evl_cons (u_ hg) ?_; exact evl_nil)) ?_
    refine hF (fun hg => p_no (hx := u_ hg)) ?_
    refine hT (fun hg => p_orN hg) ?_
    refine gF (fun hg => p_anN hg) ?_
    refine s_ p_or ?_
    (repeat (first | apply cn | apply cq | apply cb | apply ck | apply cl | apply cx))
    refine ci ?_ ?_
    · intro h
      exfalso
      by_cases hkm : k < lowMost f
      · simp [hkm] at h
      · have hs := lowK_same f k (by omega)
        simp [hkm, hs] at h
    intro _
    (repeat (first | apply cn | apply cq | apply cb | apply ck | apply cl | apply cx))
    apply cr
    refine s_ p_loa ?_
    refine e_st ?_
    (repeat (first | apply cn | apply cq | apply cb | apply ck | apply cl | apply cx))
    apply cr
    refine s_ p_mv ?_
    refine s_ p_ad ?_
    refine s_ p_as ?_
    (repeat (first | apply cn | apply cq | apply cb | apply ck | apply cl | apply cx))
    refine ⟨k + 1, by omega, (by simp only []; omega), ?_, HeapFront.skip _ _ _ (kK kN)⟩
    exact eL
  · intro hge
    have hfp := (lowK_fit f k).posts.len
    have hff := (lowK_fit f k).forced.len
    (repeat (first | apply cn | apply cq | apply cb | apply ck | apply cl | apply cx))
    apply cr
    refine s_ p_fr ?_
    refine s_ p_lo ?_
    (first | refine s_ p_ln ?_ | refine s_ p_lr ?_)
    refine s_ p_fr ?_
    refine s_ p_lo ?_
    (first | refine s_ p_ln ?_ | refine s_ p_lr ?_)
    refine s_ p_ad ?_
    refine s_ p_mv ?_
    refine s_ p_eq ?_
    refine s_ p_as ?_
    (repeat (first | apply cn | apply cq | apply cb | apply ck | apply cl | apply cx))
    (apply sim_ret; (try simp only [blockΨ_ret, thenΨ_ret, loopL_ret, cutΨ_ret, cutE_ret]); first | refine rt ?_ | refine rn ?_)
    have hl : (lowK f k).posts.length + (lowK f k).forced.length = lowMost f := by
      cases f
      · simp [lowK, lowMost] at *; omega
      · simp [lowK, lowMost] at *; omega
    refine Le.of_eq ?_
    simp only [packT, List.length_map]
    rw [decide_eq_true (by omega)]
end Go.Proofs.Ythndbbjkkehjeaa
