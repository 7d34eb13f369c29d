/-
  ReplicaLeads, walked.
-/
import Derived.Test.YtppaabahbjgihaaLeadsLaw
set_option maxRecDepth 4000
namespace Go.Proofs.Ytppaabahbjgihaa
open Go.Cap
set_option linter.unusedSimpArgs false
set_option linter.unusedVariables false
attribute [local irreducible] POp SimFrom DrawFrom EOp Sim FnH T.gp
theorem lead_cnt1 : ∀ c : Fin 32, 1 ≤ c.val → ones (andI c.val ((2 ^ lowF c.val : Nat) : Int)) = 1 ∧ 2 ^ lowF c.val < 32 ∧ 0 ≤ ones c.val ∧ ones c.val ≤ 5 := by decide +kernel
theorem seenC_init : ∀ i : Fin 5, seenC (2 ^ i.val) i.val = [.v (.bool false), .v (.bool false), .v (.bool false), .v (.bool false), .v (.bool false)] := by
  intro i
  unfold seenC
  rw [decide_eq_false (show ¬ seenP (2 ^ i.val) i.val 0 from seen_one i 0), decide_eq_false (show ¬ seenP (2 ^ i.val) i.val 1 from seen_one i 1), decide_eq_false (show ¬ seenP (2 ^ i.val) i.val 2 from seen_one i 2), decide_eq_false (show ¬ seenP (2 ^ i.val) i.val 3 from seen_one i 3), decide_eq_false (show ¬ seenP (2 ^ i.val) i.val 4 from seen_one i 4)]
theorem seenC_at (V id : Nat) {f : Nat} (hf : f < 5) : (seenC V id)[0 + (f : Int).toNat * 1]? = some (.v (.bool (decide (seenP V id f)))) := by
  rcases (by omega : f = 0 ∨ f = 1 ∨ f = 2 ∨ f = 3 ∨ f = 4) with rfl | rfl | rfl | rfl | rfl <;> rfl
theorem seenC_lay {V id f : Nat} (hV : V < 32) (hi : id < 5) (hf : f < 5) (hne : f ≠ id) : lay (seenC V id) (0 + (f : Int).toNat * 1) (T.v (.bool true)).cells = seenC (orN V f) id := by
  have h := fun p => seen_next ⟨V, hV⟩ ⟨f, hf⟩ p ⟨id, hi⟩ hne
  have h0 := h 0
  have h1 := h 1
  have h2 := h 2
  have h3 := h 3
  have h4 := h 4
  dsimp only at h0 h1 h2 h3 h4
  have e : ∀ (p : Nat), (seenP (orN V f) id p ↔ seenP V id p ∨ p = f) → decide (seenP (orN V f) id p) = if p = f then true else decide (seenP V id p) := by
    intro p hp
    by_cases hpf : p = f
    · rw [if_pos hpf]; exact decide_eq_true (hp.2 (.inr hpf))
    · rw [if_neg hpf, decide_eq_decide, hp]; simp [hpf]
  unfold seenC
  rw [e 0 h0, e 1 h1, e 2 h2, e 3 h3, e 4 h4]
  rcases (by omega : f = 0 ∨ f = 1 ∨ f = 2 ∨ f = 3 ∨ f = 4) with rfl | rfl | rfl | rfl | rfl <;> rfl
set_option maxHeartbeats 4000000 in
theorem leads_fn (conf0 : Int) (frm : List Int) (_hl : frm.length ≤ 9223372036854775807) : FnP Try.prog 3 [ei conf0, .sl false (frm.map ei)] (fun r => r = .v (.bool true)) := by
  have hk := known_fn
  have hw1 := within_fn conf0 31 (by omega) (by omega)
  have hc : 1 ≤ 1 + conf0 % 31 ∧ 1 + conf0 % 31 < 32 := by omega
  refine fn_enter Try.func3 (by rfl) (by rfl) ?_
  intro S0 w0
  show Sim _ _ [(0, ei conf0), (1, .sl false (frm.map ei))] _ _
  (repeat (first | apply cn | apply cq | apply cb | apply ck | apply cl | apply cx))
  apply cr
  refine s_ p_as ?_
  (repeat (first | apply cn | apply cq | apply cb | apply ck | apply cl | apply cx))
  apply cr
  refine s_ (p_ca (hk)) ?_
  refine s_ p_noB ?_
  refine cn ?_
  (repeat (first | apply cn | apply cq | apply cb | apply ck | apply cl | apply cx))
  refine ci (p := False) (fun h => h.elim) (fun _ => ?_)
  (repeat (first | apply cn | apply cq | apply cb | apply ck | apply cl | apply cx))
  apply cr
  refine s_ p_mv ?_
  refine s_ (p_ca (hw1)) ?_
  refine s_ p_ad ?_
  refine s_ p_as ?_
  (repeat (first | apply cn | apply cq | apply cb | apply ck | apply cl | apply cx))
  generalize 1 + conf0 % 31 = C0 at hc ⊢
  obtain ⟨c, rfl⟩ : ∃ c : Nat, C0 = (c : Int) := ⟨C0.toNat, by omega⟩
  have hc1 : 1 ≤ c := by omega
  have hc32 : c < 32 := by omega
  have hlow := low_ok ⟨c, hc32⟩ hc1
  have hcnt1 := lead_cnt1 ⟨c, hc32⟩ hc1
  have hlow5 : lowF c < 5 := hlow.1
  dsimp only at hcnt1
  have hN := new_fn' (lowF c) c (by omega) (by omega) (by omega) (by omega)
  have hB := bits_fn c (by omega) (by omega)
  (repeat (first | apply cn | apply cq | apply cb | apply ck | apply cl | apply cx))
  apply cr
  refine s_ p_as ?_
  (repeat (first | apply cn | apply cq | apply cb | apply ck | apply cl | apply cx))
  apply sim_loopL (σ := Nat) (ok := fun k => k ≤ lowF c) (env := fun k => [(5, ei (k : Nat)), (0, ei c), (1, .sl false (frm.map ei))]) (heap := fun _ => []) (μ := fun k => lowF c - k) (s0 := 0)
  · exact Nat.zero_le _
  · exact eL
  · exact kR
  intro k hk
  have hwk : IntKind.u64.wrap (k : Nat) = k := wrap32 (by omega) (by omega)
  have hbit := hlow.2 ⟨k, by omega⟩ hk
  (repeat (first | apply cn | apply cq | apply cb | apply ck | apply cl | apply cx))
  apply cr
  refine s_ p_mv ?_
  refine s_ p_mv ?_
  refine s_ p_cv ?_
  refine s_ p_shr ?_
  refine s_ p_and ?_
  refine s_ p_eq ?_
  (repeat (first | apply cn | apply cq | apply cb | apply ck | apply cl | apply cx))
  refine ci ?_ ?_
  · intro h0
    have hne : k ≠ lowF c := hbit.1 h0
    (repeat (first | apply cn | apply cq | apply cb | apply ck | apply cl | apply cx))
    apply cr
    refine s_ p_mv ?_
    refine s_ p_ad ?_
    refine s_ p_as ?_
    (repeat (first | apply cn | apply cq | apply cb | apply ck | apply cl | apply cx))
    exact ⟨k + 1, by omega, by show lowF c - (k + 1) < lowF c - k; omega, ⟨le_get (by rfl) (Le.refl _), eL⟩, kR⟩
  intro h0
  have hkl : k = lowF c := Classical.byContradiction fun h => h0 (hbit.2 h)
  subst hkl
  (repeat (first | apply cn | apply cq | apply cb | apply ck | apply cl | apply cx))
  apply cr
  refine s_ p_mv ?_
  refine s_ p_mv ?_
  refine s_ (p_ca (hN)) ?_
  refine e_al fun b6 _ => ?_
  refine e_st ?_
  (repeat (first | apply cn | apply cq | apply cb | apply ck | apply cl | apply cx))
  apply cr
  refine s_ p_as ?_
  (repeat (first | apply cn | apply cq | apply cb | apply ck | apply cl | apply cx))
  apply cr
  refine s_ p_as ?_
  (repeat (first | apply cn | apply cq | apply cb | apply ck | apply cl | apply cx))
  apply sim_loopL (σ := Nat) (ok := fun j => j ≤ 5 + 3 * lowF c) (env := fun j => [(8, ei (j : Nat)), (7, mss (if j = 5 + 3 * lowF c then (tickF (lN c ((4 + 3 * lowF c : Nat) : Int))).2 else [])), (6, pN b6), (5, ei (lowF c : Nat)), (0, ei c), (1, .sl false (frm.map ei))])
    (heap := fun j => [(b6, ⟨nB, nodeC (if j = 5 + 3 * lowF c then ndV c (2 ^ lowF c) else lN c (j : Nat)) (eens (if j = 5 + 3 * lowF c then ndV c (2 ^ lowF c) else lN c (j : Nat)).log), 22⟩)]) (μ := fun j => 5 + 3 * lowF c - j) (s0 := 0)
  · exact Nat.zero_le _
  · rw [if_neg (by omega)]
    exact eL
  · rw [if_neg (by omega)]
    exact kK kN (node_le0 _) (by rfl)
  intro j hj
  (repeat (first | apply cn | apply cq | apply cb | apply ck | apply cl | apply cx))
  apply cr
  refine s_ p_mv ?_
  refine s_ p_mv ?_
  refine s_ p_mu ?_
  refine s_ p_ad ?_
  refine s_ p_lt ?_
  (repeat (first | apply cn | apply cq | apply cb | apply ck | apply cl | apply cx))
  refine ci ?_ ?_
  · intro hlt
    have hj5 : j < 5 + 3 * lowF c := by omega
    have hjn : ¬ j = 5 + 3 * lowF c := by omega
    rw [if_neg hjn, if_neg hjn]
    have hok := lead_okB ⟨c, hc32⟩ hc1 ⟨j, by omega⟩
    by_cases hq : j < 4 + 3 * lowF c
    · have ht := tick_ok hok (lead_quiet ⟨c, hc32⟩ ⟨j, by omega⟩ hc1 hq)
      (repeat (first | apply cn | apply cq | apply cb | apply ck | apply cl | apply cx))
      apply cr
      refine s_ p_loa ?_
      refine s_ (p_cl (ht)) ?_
      refine s_ p_mv ?_
      refine s_ p_ex ?_
      refine s_ p_ex ?_
      refine e_st ?_
      refine s_ p_as ?_
      (repeat (first | apply cn | apply cq | apply cb | apply ck | apply cl | apply cx))
      apply cr
      refine s_ p_mv ?_
      refine s_ p_ad ?_
      refine s_ p_as ?_
      (repeat (first | apply cn | apply cq | apply cb | apply ck | apply cl | apply cx))
      refine ⟨j + 1, by omega, by show 5 + 3 * lowF c - (j + 1) < 5 + 3 * lowF c - j; omega, ?_, ?_⟩
      · exact ⟨le_get (by rfl) (Le.refl _), le_get (by ((repeat (apply gS; rfl)); exact gZ)) (Le.of_eq (by rw [if_neg (show ¬ j + 1 = 5 + 3 * lowF c by omega)])), eL⟩
      · dsimp only
        rw [if_neg (show ¬ j + 1 = 5 + 3 * lowF c by omega)]
        exact kR
    · have hj4 : j = 4 + 3 * lowF c := by omega
      subst hj4
      have hst := lead_stand ⟨c, hc32⟩ hc1
      have ht := tick_ok hok rfl
      dsimp only at ht hst
      rw [hst.1] at ht
      (repeat (first | apply cn | apply cq | apply cb | apply ck | apply cl | apply cx))
      apply cr
      refine s_ p_loa ?_
      refine s_ (p_cl (ht)) ?_
      refine s_ p_mv ?_
      refine s_ p_ex ?_
      refine s_ p_ex ?_
      refine e_st ?_
      refine s_ p_as ?_
      (repeat (first | apply cn | apply cq | apply cb | apply ck | apply cl | apply cx))
      apply cr
      refine s_ p_mv ?_
      refine s_ p_ad ?_
      refine s_ p_as ?_
      (repeat (first | apply cn | apply cq | apply cb | apply ck | apply cl | apply cx))
      refine ⟨4 + 3 * lowF c + 1, by omega, by show 5 + 3 * lowF c - (4 + 3 * lowF c + 1) < 5 + 3 * lowF c - (4 + 3 * lowF c); omega, ?_, ?_⟩
      · exact ⟨le_get (by rfl) (Le.refl _), le_get (by ((repeat (apply gS; rfl)); exact gZ)) (Le.of_eq (by rw [if_pos (show 4 + 3 * lowF c + 1 = 5 + 3 * lowF c by omega)])), eL⟩
      · dsimp only
        rw [if_pos (show 4 + 3 * lowF c + 1 = 5 + 3 * lowF c by omega)]
        exact kR
  intro hlt
  have hj5 : j = 5 + 3 * lowF c := by omega
  rw [if_pos hj5, if_pos hj5]
  clear hlt
  have hones : 0 ≤ ones (c : Nat) ∧ ones (c : Nat) ≤ 5 := ⟨hcnt1.2.2.1, hcnt1.2.2.2⟩
  (repeat (first | apply cn | apply cq | apply cb | apply ck | apply cl | apply cx))
  apply cr
  refine s_ p_mv ?_
  refine s_ (p_ca (hB)) ?_
  refine s_ p_su ?_
  refine s_ p_as ?_
  refine s_ p_as ?_
  (repeat (first | apply cn | apply cq | apply cb | apply ck | apply cl | apply cx))
  apply cr
  refine e_al fun b11 _ => ?_
  (repeat (first | apply cn | apply cq | apply cb | apply ck | apply cl | apply cx))
  apply cr
  refine s_ p_as ?_
  (repeat (first | apply cn | apply cq | apply cb | apply ck | apply cl | apply cx))
  apply sim_loopL (σ := (Nat × List Ms) × Nat) (ok := fun s => s.2 ≤ frm.length ∧ s.1.1 < 32 ∧ (mostF c s.1.1 = true → ((s.1.2.length : Nat) : Int) = ones c - 1)) (env := fun s => [(12, ei (s.2 : Nat)), (9, ei (ones (andI c s.1.1))), (10, ei (ones c - 1)), (7, mss s.1.2), (11, pN b11), (6, pN b6), (5, ei (lowF c : Nat)), (0, ei c), (1, .sl false (frm.map ei))])
    (heap := fun s => [(b11, ⟨35, seenC s.1.1 (lowF c), 5⟩), (b6, ⟨nB, nodeC (ndV c s.1.1) (eens (ndV c s.1.1).log), 22⟩)]) (μ := fun s => frm.length - s.2) (s0 := ((2 ^ lowF c, (tickF (lN c ((4 + 3 * lowF c : Nat) : Int))).2), 0))
  · exact ⟨Nat.zero_le _, hcnt1.2.1, (lead_stand ⟨c, hc32⟩ hc1).2⟩
  · exact ⟨le_get (by rfl) (Le.refl _), le_get (by ((repeat (apply gS; rfl)); exact gZ)) (Le.of_eq (by rw [hcnt1.1]; rfl)), eL⟩
  · dsimp only
    rw [show seenC (2 ^ lowF c) (lowF c) = _ from seenC_init ⟨lowF c, hlow5⟩]
    exact kR
  rintro ⟨⟨V, l⟩, i⟩ ⟨hi, hV, hml⟩
  simp only at hi hV hml
  have hnd := lead_nd ⟨c, hc32⟩ ⟨V, hV⟩ hc1
  dsimp only at hnd
  (repeat (first | apply cn | apply cq | apply cb | apply ck | apply cl | apply cx))
  apply cr
  refine s_ p_mv ?_
  refine s_ p_mv ?_
  (first | refine s_ p_ln ?_ | refine s_ p_lr ?_)
  refine s_ p_le ?_
  refine s_ p_mv ?_
  refine gT (fun hg => p_mv) ?_
  refine gT (fun hg => p_lt (hx := u_ hg)) ?_
  refine s_ p_an ?_
  (repeat (first | apply cn | apply cq | apply cb | apply ck | apply cl | apply cx))
  refine ci ?_ ?_
  · intro hlt
    have hi12 : (i : Int) < 12 := hlt.2
    (repeat (first | apply cn | apply cq | apply cb | apply ck | apply cl | apply cx))
    apply cr
    refine s_ p_mv ?_
    refine s_ p_mu ?_
    refine s_ p_mv ?_
    refine s_ (p_ca (hB)) ?_
    refine s_ p_gt ?_
    refine s_ p_as ?_
    (repeat (first | apply cn | apply cq | apply cb | apply ck | apply cl | apply cx))
    have hmv : mostF c V = true ↔ ones (c : Nat) < 2 * ones (andI c V) := by rw [mostF, decide_eq_true_iff]
    (repeat (first | apply cn | apply cq | apply cb | apply ck | apply cl | apply cx))
    apply cr
    refine s_ p_fr ?_
    refine s_ p_lo ?_
    refine s_ p_eq ?_
    refine s_ p_mv ?_
    refine s_ p_neB ?_
    refine s_ p_mv ?_
    refine gF (fun hg => p_fr) ?_
    refine gF (fun hg => p_lo (hx := u_ hg)) ?_
    refine gF (fun hg => p_ne (hx := u_ hg)) ?_
    refine s_ p_or ?_
    (repeat (first | apply cn | apply cq | apply cb | apply ck | apply cl | apply cx))
    refine ci ?_ ?_
    · intro h
      exfalso
      rcases h with h | h
      · exact h (hnd.2.1.trans hmv)
      · exact h hnd.2.2.1
    intro _
    (repeat (first | apply cn | apply cq | apply cb | apply ck | apply cl | apply cx))
    apply cr
    refine s_ p_mv ?_
    (repeat (first | apply cn | apply cq | apply cb | apply ck | apply cl | apply cx))
    refine ci ?_ ?_
    · intro hm
      have hm' := hmv.2 hm
      have hlog := hnd.2.2.2.1 hm'
      rw [hlog]
      (repeat (first | apply cn | apply cq | apply cb | apply ck | apply cl | apply cx))
      apply cr
      refine s_ p_mv ?_
      (first | refine s_ p_ln ?_ | refine s_ p_lr ?_)
      refine s_ p_mv ?_
      refine s_ p_eq ?_
      refine s_ p_mv ?_
      refine gT (fun hg => p_fr) ?_
      refine gT (fun hg => p_lo (hx := u_ hg)) ?_
      (first | refine gT (fun hg => p_ln (hx := u_ hg)) ?_ | refine gT (fun hg => p_lr (hx := u_ hg)) ?_)
      refine gT (fun hg => p_eq (hx := u_ hg)) ?_
      refine s_ p_an ?_
      refine s_ p_mv ?_
      refine gT (fun hg => p_fr) ?_
      refine gT (fun hg => p_lo (hx := u_ hg)) ?_
      (first | refine gT (fun hg => p_ix hix (hx := u_ hg)) ?_ | refine gT (fun hg => p_ix hix2 (hx := u_ hg)) ?_ | refine gT (fun hg => p_ia (hx := u_ hg)) ?_ | refine gT (fun hg => p_ir (hx := u_ hg)) ?_)
      (first | refine gT (fun hg => p_fa (hx := u_ hg)) ?_ | refine gT (fun hg => p_fr (hx := u_ hg)) ?_)
      (first | refine gT (fun hg => p_ld (hx := u_ hg)) ?_ | refine gT (fun hg => p_lo (hx := u_ hg)) ?_)
      refine gT (fun hg => p_eqS (hx := u_ hg)) ?_
      refine s_ p_an ?_
      refine s_ p_mv ?_
      refine gT (fun hg => p_fr) ?_
      refine gT (fun hg => p_lo (hx := u_ hg)) ?_
      (first | refine gT (fun hg => p_ix hix (hx := u_ hg)) ?_ | refine gT (fun hg => p_ix hix2 (hx := u_ hg)) ?_ | refine gT (fun hg => p_ia (hx := u_ hg)) ?_ | refine gT (fun hg => p_ir (hx := u_ hg)) ?_)
      (first | refine gT (fun hg => p_fa (hx := u_ hg)) ?_ | refine gT (fun hg => p_fr (hx := u_ hg)) ?_)
      (first | refine gT (fun hg => p_ld (hx := u_ hg)) ?_ | refine gT (fun hg => p_lo (hx := u_ hg)) ?_)
      refine gT (fun hg => p_eq (hx := u_ hg)) ?_
      refine s_ p_an ?_
      refine s_ p_as ?_
      (repeat (first | apply cn | apply cq | apply cb | apply ck | apply cl | apply cx))
      (apply sim_ret; (try simp only [blockΨ_ret, thenΨ_ret, loopL_ret, cutΨ_ret, cutE_ret]); first | refine rt ?_ | refine rn ?_)
      refine b_true ⟨⟨⟨?_, rfl⟩, rfl⟩, rfl⟩
      rw [List.length_map]
      exact hml hm'
    intro hm
    have hm' : ¬ mostF c V = true := fun h => hm (hmv.1 h)
    (repeat (first | apply cn | apply cq | apply cb | apply ck | apply cl | apply cx))
    apply cr
    refine s_ p_mv ?_
    refine s_ p_mv ?_
    (first | refine s_ p_ln ?_ | refine s_ p_lr ?_)
    refine s_ p_eq ?_
    (repeat (first | apply cn | apply cq | apply cb | apply ck | apply cl | apply cx))
    refine ci ?_ ?_
    · intro _
      (repeat (first | apply cn | apply cq | apply cb | apply ck | apply cl | apply cx))
      (repeat (first | apply cn | apply cq | apply cb | apply ck | apply cl | apply cx))
      apply cr
      refine s_ p_as ?_
      (repeat (first | apply cn | apply cq | apply cb | apply ck | apply cl | apply cx))
      (apply sim_ret; (try simp only [blockΨ_ret, thenΨ_ret, loopL_ret, cutΨ_ret, cutE_ret]); first | refine rt ?_ | refine rn ?_)
      exact Le.refl _
    intro hne
    have hix : i < frm.length := by simp only [List.length_map] at hne; omega
    have hw4 := within_fn frm[i] 4 (by omega) (by omega)
    have hx4 : 0 ≤ frm[i] % 4 ∧ frm[i] % 4 < 4 := by omega
    (repeat (first | apply cn | apply cq | apply cb | apply ck | apply cl | apply cx))
    apply cr
    refine s_ p_mv ?_
    refine s_ p_ad ?_
    refine s_ p_mv ?_
    refine s_ p_mv ?_
    (first | refine s_ (p_ix hix) ?_ | refine s_ (p_ix hix2) ?_ | refine s_ p_ia ?_ | refine s_ p_ir ?_)
    (first | refine s_ p_ld ?_ | refine s_ p_lo ?_)
    refine s_ (p_ca (hw4)) ?_
    refine s_ p_ad ?_
    refine s_ p_re ?_
    refine s_ p_as ?_
    (repeat (first | apply cn | apply cq | apply cb | apply ck | apply cl | apply cx))
    obtain ⟨f, hf⟩ : ∃ f : Nat, ((lowF c : Nat) + 1 + frm[i] % 4).tmod 5 = (f : Int) := ⟨((lowF c + 1 + frm[i] % 4) % 5).toNat, by rw [Int.tmod_eq_emod_of_nonneg (by omega)]; omega⟩
    have hf2 : (f : Int) = ((lowF c : Nat) + 1 + frm[i] % 4) % 5 := by rw [← hf, Int.tmod_eq_emod_of_nonneg (by omega)]
    rw [hf]
    have hf5 : f < 5 := by omega
    have hfl : f ≠ lowF c := by omega
    have hvo := lead_vote ⟨c, hc32⟩ ⟨V, hV⟩ ⟨f, hf5⟩ hc1 hm' hfl
    have hct := lead_count ⟨c, hc32⟩ ⟨V, hV⟩ ⟨f, hf5⟩ hfl
    dsimp only at hvo hct
    have ht := take_ok hnd.1 (m := vtM f (lowF c)) rfl (by simp [vtM]) (by simp [vtM]) (by simp [vtM])
    rw [hvo.1] at ht
    have hsat := seenC_at V (lowF c) hf5
    have hwf : IntKind.u64.wrap (f : Nat) = f := wrap32 (by omega) (by omega)
    (repeat (first | apply cn | apply cq | apply cb | apply ck | apply cl | apply cx))
    apply cr
    refine s_ p_loa ?_
    refine s_ p_mv ?_
    refine s_ p_mv ?_
    refine s_ (p_bd 11 [_, _, _, _, _, _, _, _, _, _, _]) ?_
    refine s_ (p_cl (ht)) ?_
    refine s_ p_mv ?_
    refine s_ p_ex ?_
    refine s_ p_ex ?_
    refine e_st ?_
    refine s_ p_as ?_
    (repeat (first | apply cn | apply cq | apply cb | apply ck | apply cl | apply cx))
    apply cr
    refine s_ p_mv ?_
    refine s_ p_ar ?_
    refine s_ (p_lo (hd := by first | rfl | assumption)) ?_
    refine s_ p_no ?_
    refine s_ p_mv ?_
    refine gT (fun hg => p_mv) ?_
    refine gT (fun hg => p_mv) ?_
    refine gT (fun hg => p_cv (hx := u_ hg)) ?_
    refine gT (fun hg => p_shr (hx := u_ hg) (hy := u_ hg)) ?_
    refine gT (fun hg => p_and (hx := u_ hg)) ?_
    refine gT (fun hg => p_eq (hx := u_ hg)) ?_
    refine s_ p_an ?_
    (repeat (first | apply cn | apply cq | apply cb | apply ck | apply cl | apply cx))
    refine ci ?_ ?_
    · intro hs
      have hn : ones (andI c (orN V f : Nat)) = ones (andI c V) + 1 := by rw [hct.1, if_pos hs]
      (repeat (first | apply cn | apply cq | apply cb | apply ck | apply cl | apply cx))
      apply cr
      refine s_ p_mv ?_
      refine s_ p_ad ?_
      refine s_ p_as ?_
      (repeat (first | apply cn | apply cq | apply cb | apply ck | apply cl | apply cx))
      apply cr
      refine s_ p_mv ?_
      refine s_ p_ar ?_
      refine e_ss ?_ ?_
      · show 0 + (f : Int).toNat * 1 + 1 ≤ 5; omega
      rw [seenC_lay hV hlow5 hf5 hfl]
      
      (repeat (first | apply cn | apply cq | apply cb | apply ck | apply cl | apply cx))
      apply cr
      refine s_ p_mv ?_
      refine s_ p_ad ?_
      refine s_ p_as ?_
      (repeat (first | apply cn | apply cq | apply cb | apply ck | apply cl | apply cx))
      exact ⟨((orN V f, _), i + 1), ⟨hix, hct.2, hvo.2⟩, by show frm.length - (i + 1) < frm.length - i; omega, ⟨le_get (by rfl) (Le.refl _), le_get (by ((repeat (apply gS; rfl)); exact gZ)) (Le.of_eq (by rw [hn]; rfl)), eL⟩, kR⟩
    · intro hs
      have hn : ones (andI c (orN V f : Nat)) = ones (andI c V) := by rw [hct.1, if_neg hs]; omega
      (repeat (first | apply cn | apply cq | apply cb | apply ck | apply cl | apply cx))
      apply cr
      refine s_ p_mv ?_
      refine s_ p_ar ?_
      refine e_ss ?_ ?_
      · show 0 + (f : Int).toNat * 1 + 1 ≤ 5; omega
      rw [seenC_lay hV hlow5 hf5 hfl]
      
      (repeat (first | apply cn | apply cq | apply cb | apply ck | apply cl | apply cx))
      apply cr
      refine s_ p_mv ?_
      refine s_ p_ad ?_
      refine s_ p_as ?_
      (repeat (first | apply cn | apply cq | apply cb | apply ck | apply cl | apply cx))
      exact ⟨((orN V f, _), i + 1), ⟨hix, hct.2, hvo.2⟩, by show frm.length - (i + 1) < frm.length - i; omega, ⟨le_get (by rfl) (Le.refl _), le_get (by ((repeat (apply gS; rfl)); exact gZ)) (Le.of_eq (by rw [hn])), eL⟩, kR⟩
  · intro _
    (repeat (first | apply cn | apply cq | apply cb | apply ck | apply cl | apply cx))
    apply cr
    refine s_ p_as ?_
    (repeat (first | apply cn | apply cq | apply cb | apply ck | apply cl | apply cx))
    (apply sim_ret; (try simp only [blockΨ_ret, thenΨ_ret, loopL_ret, cutΨ_ret, cutE_ret]); first | refine rt ?_ | refine rn ?_)
    exact Le.refl _
end Go.Proofs.Ytppaabahbjgihaa
