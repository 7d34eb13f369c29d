/-
  KeepLong, walked.
-/
import Derived.Test.YtbdpfclnomiicaaLong
import Derived.Test.YtbdpfclnomiicaaPows
set_option maxRecDepth 16000
namespace Go.Proofs.Ytbdpfclnomiicaa
open Go.Cap
set_option linter.unusedSimpArgs false
set_option linter.unusedVariables false
attribute [local irreducible] POp SimFrom DrawFrom EOp Sim FnH T.gp
structure LSt where
  i : Nat
  done : Nat
  bk : Nat
  bj : Nat
  K : Kp
set_option maxHeartbeats 4000000 in
theorem long_fn (a b : Int) (cmd : List UInt8) (hcl : cmd.length ≤ 9223372036854775807) : FnP Try.prog 3 [ei a, ei b, es cmd] (fun r => r = .v (.bool true)) := by
  have fK := known_fn
  have fA := within_fn a 60 (by omega) (by omega)
  have fB := within_fn b 20 (by omega) (by omega)
  have hD := newD_fn 1048576 (by omega) (by omega)
  have hsz : (bs cmd).size = cmd.length := by simp [bs, ByteArray.size]
  refine fn_enter Try.func3 (by rfl) (by rfl) ?_
  intro S0 w0
  show Sim _ _ [(0, ei a), (1, ei b), (2, es cmd)] _ _
  (repeat (first | apply cn | apply cq | apply cb | apply ck | apply cl | apply cx))
  apply cr
  refine s_ p_as ?_
  (repeat (first | apply cn | apply cq | apply cb | apply ck | apply cl | apply cx))
  apply cr
  refine s_ (p_ca (fK)) ?_
  refine s_ p_noB ?_
  refine cn ?_
  (repeat (first | apply cn | apply cq | apply cb | apply ck | apply cl | apply cx))
  refine ci (p := False) (fun h => h.elim) (fun _ => ?_)
  (repeat (first | apply cn | apply cq | apply cb | apply ck | apply cl | apply cx))
  apply cr
  refine s_ p_mv ?_
  refine s_ p_ls ?_
  refine s_ p_gt ?_
  refine s_ p_mv ?_
  refine gF (fun hg => p_mv) ?_
  refine gF (fun hg => p_ls (hx := u_ hg)) ?_
  refine gF (fun hg => p_eq (hx := u_ hg)) ?_
  refine s_ p_or ?_
  (repeat (first | apply cn | apply cq | apply cb | apply ck | apply cl | apply cx))
  refine ci ?_ ?_
  · intro _
    (repeat (first | apply cn | apply cq | apply cb | apply ck | apply cl | apply cx))
    apply cr
    refine s_ p_as ?_
    (repeat (first | apply cn | apply cq | apply cb | apply ck | apply cl | apply cx))
    (apply sim_ret; (try simp only [blockΨ_ret, thenΨ_ret, loopL_ret, cutΨ_ret, cutE_ret]); first | refine rt ?_ | refine rn ?_)
    exact Le.refl _
  intro hc
  rw [hsz] at hc
  have hc60 : cmd.length ≤ 60 := by omega
  have hcne : cmd ≠ [] := by rintro rfl; exact hc (.inr (by simp))
  have ha0 := Int.emod_nonneg a (show (60 : Int) ≠ 0 by omega)
  have ha1 := Int.emod_lt_of_pos a (show (0 : Int) < 60 by omega)
  have hb0 := Int.emod_nonneg b (show (20 : Int) ≠ 0 by omega)
  have hb1 := Int.emod_lt_of_pos b (show (0 : Int) < 20 by omega)
  (repeat (first | apply cn | apply cq | apply cb | apply ck | apply cl | apply cx))
  apply cr
  refine s_ p_mv ?_
  refine s_ (p_ca (fA)) ?_
  refine s_ p_mv ?_
  refine s_ (p_ca (fB)) ?_
  refine s_ p_ad ?_
  refine s_ p_as ?_
  refine s_ p_as ?_
  (repeat (first | apply cn | apply cq | apply cb | apply ck | apply cl | apply cx))
  (repeat (first | apply cn | apply cq | apply cb | apply ck | apply cl | apply cx))
  apply cr
  refine e_cH (Hs := []) (Hr := []) hD (.refl _) (fun r H ⟨bd, hr, hH⟩ => ?_)
  subst hr hH
  rw [List.append_nil]
  refine s_ p_mv ?_
  refine s_ p_ex ?_
  refine s_ p_ex ?_
  refine s_ p_as ?_
  refine s_ p_as ?_
  (repeat (first | apply cn | apply cq | apply cb | apply ck | apply cl | apply cx))
  have hO := open_new bd 2 4 1048576 100000 (by omega) (by omega) (by omega) (by omega) (by omega) (by omega) (by omega) (by omega)
  (repeat (first | apply cn | apply cq | apply cb | apply ck | apply cl | apply cx))
  apply cr
  refine s_ p_mv ?_
  refine e_cHA hO (fun r H ⟨bk, bj, K, hr, hH, hE, hN, hrm⟩ => ?_)
  subst hr hH
  refine s_ p_mv ?_
  refine s_ p_ex ?_
  refine s_ p_ex ?_
  refine s_ p_as ?_
  refine s_ p_as ?_
  (repeat (first | apply cn | apply cq | apply cb | apply ck | apply cl | apply cx))
  apply cr
  refine s_ p_mv ?_
  refine s_ p_ne ?_
  (repeat (first | apply cn | apply cq | apply cb | apply ck | apply cl | apply cx))
  refine ci ?_ ?_
  · intro h; exact absurd rfl h
  intro _
  (repeat (first | apply cn | apply cq | apply cb | apply ck | apply cl | apply cx))
  apply cr
  refine s_ p_as ?_
  (repeat (first | apply cn | apply cq | apply cb | apply ck | apply cl | apply cx))
  apply cr
  refine s_ p_as ?_
  (repeat (first | apply cn | apply cq | apply cb | apply ck | apply cl | apply cx))
  apply sim_loopL (σ := LSt) (ok := fun s => s.i ≤ (a % 60).toNat + 20 ∧ s.done ≤ s.i ∧ Easy (newF 2 4) 100000 (4 * s.i) s.K ∧ Lg cmd s.K.N s.done) (env := fun s => [(12, ei (s.i : Nat)), (11, ei (s.done : Nat)), (9, pW s.bk), (7, pW bd), (0, ei (a % 60)), (1, ei (1 + b % 20)), (2, es cmd)])
    (heap := fun s => KpH s.bk s.bj bd s.K) (μ := fun s => (a % 60).toNat + 20 - s.i) (s0 := ⟨0, 0, bk, bj, K⟩)
  · exact ⟨Nat.zero_le _, Nat.le_refl _, hE, by rw [hN]; exact lg_new cmd⟩
  · exact eL
  · exact kR
  rintro ⟨i, done, bk, bj, K⟩ ⟨hi, hdn, hE, hL⟩
  simp only at hi hdn hE hL
  show Sim _ _ [(12, ei (i : Nat)), (11, ei (done : Nat)), (9, pW bk), (7, pW bd), (0, ei (a % 60)), (1, ei (1 + b % 20)), (2, es cmd)] (KpH bk bj bd K) _
  have hNo := kNode_fn bk bj bd K (by have := hE.nk.len; omega)
  (repeat (first | apply cn | apply cq | apply cb | apply ck | apply cl | apply cx))
  apply cr
  refine s_ p_mv ?_
  refine s_ p_mv ?_
  refine s_ p_ad ?_
  refine s_ p_lt ?_
  (repeat (first | apply cn | apply cq | apply cb | apply ck | apply cl | apply cx))
  refine ci ?_ ?_
  · intro hlt
    (repeat (first | apply cn | apply cq | apply cb | apply ck | apply cl | apply cx))
    apply cr
    refine s_ p_mv ?_
    refine e_cHA hNo (fun r H ⟨hr, hH⟩ => ?_)
    subst hr hH
    refine s_ p_fd ?_
    refine s_ p_ne ?_
    (repeat (first | apply cn | apply cq | apply cb | apply ck | apply cl | apply cx))
    refine ci ?_ ?_
    · intro hrole
      have hrole' : ¬ K.N.role = 2 := hrole
      obtain ⟨K', hT, hE', hN', _⟩ := easy_tick hE (by omega) (by omega) (by omega)
      have hL' : Lg cmd K'.N done := by rw [hN']; exact hL.tick hcne hrole'
      (repeat (first | apply cn | apply cq | apply cb | apply ck | apply cl | apply cx))
      apply cr
      refine s_ p_mv ?_
      refine e_cHA (hT bk bj bd) (fun r H ⟨hr, hH⟩ => ?_)
      subst hr hH
      refine s_ p_mv ?_
      refine s_ p_ex ?_
      refine s_ p_ex ?_
      refine s_ p_as ?_
      refine s_ p_as ?_
      (repeat (first | apply cn | apply cq | apply cb | apply ck | apply cl | apply cx))
      apply cr
      refine s_ p_mv ?_
      refine s_ p_ne ?_
      (repeat (first | apply cn | apply cq | apply cb | apply ck | apply cl | apply cx))
      refine ci ?_ ?_
      · intro h; exact absurd rfl h
      intro _
      (repeat (first | apply cn | apply cq | apply cb | apply ck | apply cl | apply cx))
      (repeat (first | apply cn | apply cq | apply cb | apply ck | apply cl | apply cx))
      apply cr
      refine s_ p_mv ?_
      refine s_ p_ad ?_
      refine s_ p_as ?_
      (repeat (first | apply cn | apply cq | apply cb | apply ck | apply cl | apply cx))
      refine ⟨⟨i + 1, done, bk, bj, K'⟩, ⟨by simp only; omega, by simp only; omega, ?_, hL'⟩, (by simp only []; omega), ⟨?_, eL⟩, kR⟩
      · have e : 4 * (i + 1) = 4 * i + 3 + 1 := by omega
        simp only
        rw [e]
        exact ⟨hE'.live, hE'.left, hE'.room, hE'.nk.le (by omega)⟩
      · apply le_get; ((repeat (apply gS; rfl)); exact gZ)
        exact Le.refl _
    intro hrole
    have hrole' : K.N.role = 2 := Decidable.not_not.1 hrole
    obtain ⟨hLp, hpe⟩ := hL.prop hcne hrole'
    obtain ⟨K', hT, hE', hN', _⟩ := easy_prop cmd (by omega) hE hpe (by omega) (by omega) (by omega)
    rw [← hN'] at hLp
    (repeat (first | apply cn | apply cq | apply cb | apply ck | apply cl | apply cx))
    apply cr
    refine s_ p_mv ?_
    refine s_ p_mv ?_
    refine e_cHA (hT bk bj bd) (fun r H ⟨hr, hH⟩ => ?_)
    subst hr hH
    refine s_ p_mv ?_
    refine s_ p_ex ?_
    refine s_ p_ex ?_
    refine s_ p_as ?_
    refine s_ p_as ?_
    (repeat (first | apply cn | apply cq | apply cb | apply ck | apply cl | apply cx))
    apply cr
    refine s_ p_mv ?_
    refine s_ p_ne ?_
    (repeat (first | apply cn | apply cq | apply cb | apply ck | apply cl | apply cx))
    refine ci ?_ ?_
    · intro h; exact absurd rfl h
    intro _
    (repeat (first | apply cn | apply cq | apply cb | apply ck | apply cl | apply cx))
    apply cr
    refine s_ p_mv ?_
    refine s_ p_ad ?_
    refine s_ p_as ?_
    (repeat (first | apply cn | apply cq | apply cb | apply ck | apply cl | apply cx))
    apply cr
    refine s_ p_mv ?_
    refine s_ p_mv ?_
    refine s_ p_re ?_
    refine s_ p_eq ?_
    (repeat (first | apply cn | apply cq | apply cb | apply ck | apply cl | apply cx))
    have e4 : 4 * (i + 1) = 4 * i + 1 + 3 := by omega
    refine ci ?_ ?_
    · intro hev
      have hOp := easy_open bd 2 4 hE' (new_fn 2 4 (by omega) (by omega) (by omega) (by omega)) (wake_new 2 4) (by simp [newF]) (by omega) (by omega) (by omega)
      (repeat (first | apply cn | apply cq | apply cb | apply ck | apply cl | apply cx))
      apply cr
      refine s_ p_mv ?_
      refine e_cH (Hr := [_, _]) hOp (List.perm_append_comm (l₁ := [_, _])) (fun r H ⟨bk2, bj2, K2, hr, hH, hE2, hN2, _⟩ => ?_)
      subst hr hH
      refine s_ p_mv ?_
      refine s_ p_ex ?_
      refine s_ p_ex ?_
      refine s_ p_as ?_
      refine s_ p_as ?_
      (repeat (first | apply cn | apply cq | apply cb | apply ck | apply cl | apply cx))
      apply cr
      refine s_ p_mv ?_
      refine s_ p_ne ?_
      (repeat (first | apply cn | apply cq | apply cb | apply ck | apply cl | apply cx))
      refine ci ?_ ?_
      · intro h; exact absurd rfl h
      intro _
      (repeat (first | apply cn | apply cq | apply cb | apply ck | apply cl | apply cx))
      (repeat (first | apply cn | apply cq | apply cb | apply ck | apply cl | apply cx))
      apply cr
      refine s_ p_mv ?_
      refine s_ p_ad ?_
      refine s_ p_as ?_
      (repeat (first | apply cn | apply cq | apply cb | apply ck | apply cl | apply cx))
      refine ⟨⟨i + 1, done + 1, bk2, bj2, K2⟩, ⟨by simp only; omega, by simp only; omega, ?_, ?_⟩, (by simp only []; omega), ⟨?_, ?_, eL⟩, ?_⟩
      · simp only
        rw [e4]
        exact ⟨hE2.live, hE2.left, hE2.room, hE2.nk.le (by omega)⟩
      · simp only
        rw [hN2]
        exact hLp.wake
      · apply le_get; ((repeat (apply gS; rfl)); exact gZ)
        exact Le.refl _
      · apply le_get; ((repeat (apply gS; rfl)); exact gZ)
        exact Le.refl _
      · have hF := kH (HeapFront.nil [(bk, (⟨tK, pW bj :: nodeC K'.N (.sl false (K'.N.log.map een)), 23⟩ : Blk)), (bj, ⟨tJ, [pW bd, ei K'.n], 2⟩)]) (A := KpH bk2 bj2 bd K2)
        rw [List.append_nil] at hF
        exact hF
    · intro hev
      (repeat (first | apply cn | apply cq | apply cb | apply ck | apply cl | apply cx))
      (repeat (first | apply cn | apply cq | apply cb | apply ck | apply cl | apply cx))
      apply cr
      refine s_ p_mv ?_
      refine s_ p_ad ?_
      refine s_ p_as ?_
      (repeat (first | apply cn | apply cq | apply cb | apply ck | apply cl | apply cx))
      refine ⟨⟨i + 1, done + 1, bk, bj, K'⟩, ⟨by simp only; omega, by simp only; omega, ?_, hLp⟩, (by simp only []; omega), ⟨?_, ?_, eL⟩, kR⟩
      · simp only
        rw [e4]
        exact ⟨hE'.live, hE'.left, hE'.room, hE'.nk.le (by omega)⟩
      · apply le_get; ((repeat (apply gS; rfl)); exact gZ)
        exact Le.refl _
      · apply le_get; ((repeat (apply gS; rfl)); exact gZ)
        exact Le.refl _
  intro hge
  have hie : i = (a % 60).toNat + 20 := by omega
  have hNl := hE.nk.len
  obtain ⟨cf, hcf⟩ : ∃ cf : Nat → Nat, cf = fun k => ((K.N.log.take k).filter fun e => decide (e.cmd = cmd)).length := ⟨_, rfl⟩
  have hcf0 : cf 0 = 0 := by rw [hcf]; rfl
  have hcfn : ∀ k (hk : k < K.N.log.length), cf (k + 1) = if K.N.log[k].cmd = cmd then cf k + 1 else cf k := by
    intro k hk
    rw [hcf]
    simp only
    rw [List.take_succ_eq_append_getElem hk, List.filter_append, List.length_append]
    split
    · rename_i h; simp [h]
    · rename_i h; simp [h]
  have hcfl : ∀ k, cf k ≤ k := by
    intro k
    rw [hcf]
    exact Nat.le_trans (List.length_filter_le _ _) (by rw [List.length_take]; omega)
  have hcfe : cf K.N.log.length = done := by rw [hcf]; simp only; rw [List.take_length]; exact hL.cnt
  (repeat (first | apply cn | apply cq | apply cb | apply ck | apply cl | apply cx))
  apply cr
  refine s_ p_as ?_
  (repeat (first | apply cn | apply cq | apply cb | apply ck | apply cl | apply cx))
  apply cr
  refine s_ p_mv ?_
  refine e_cHA hNo (fun r H ⟨hr, hH⟩ => ?_)
  subst hr hH
  refine e_al fun b18 _ => ?_
  refine e_st ?_
  (repeat (first | apply cn | apply cq | apply cb | apply ck | apply cl | apply cx))
  apply cr
  refine s_ p_as ?_
  (repeat (first | apply cn | apply cq | apply cb | apply ck | apply cl | apply cx))
  apply sim_loopL (σ := Nat) (ok := fun k => k ≤ K.N.log.length) (env := fun k => [(19, ei k), (17, ei (cf k : Nat)), (18, pW b18), (11, ei (done : Nat)), (2, es cmd)]) (heap := fun _ => (b18, ⟨tN, nodeC K.N (.sl false (K.N.log.map een)), 22⟩) :: KpH bk bj bd K) (μ := fun k => K.N.log.length - k) (s0 := 0)
  · exact Nat.zero_le _
  · refine ⟨?_, ?_, eL⟩
    · apply le_get; ((repeat (apply gS; rfl)); exact gZ)
      exact Le.refl _
    · apply le_get; ((repeat (apply gS; rfl)); exact gZ)
      rw [hcf0]; exact Le.refl _
  · exact kR
  intro k hk
  (repeat (first | apply cn | apply cq | apply cb | apply ck | apply cl | apply cx))
  apply cr
  refine s_ p_mv ?_
  refine s_ p_fr ?_
  refine s_ p_lo ?_
  (first | refine s_ p_ln ?_ | refine s_ p_lr ?_)
  refine s_ p_lt ?_
  (repeat (first | apply cn | apply cq | apply cb | apply ck | apply cl | apply cx))
  refine ci ?_ ?_
  · intro hlt
    have hix : k < K.N.log.length := by simp only [List.length_map] at hlt; omega
    have hnx := hcfn k hix
    have hck := hcfl k
    (repeat (first | apply cn | apply cq | apply cb | apply ck | apply cl | apply cx))
    apply cr
    refine s_ p_fr ?_
    refine s_ p_lo ?_
    refine s_ p_mv ?_
    (first | refine s_ (p_ix hix) ?_ | refine s_ (p_ix hix2) ?_ | refine s_ p_ia ?_ | refine s_ p_ir ?_)
    refine s_ p_fa ?_
    refine s_ p_ld ?_
    refine s_ p_mv ?_
    refine s_ p_eqS ?_
    (repeat (first | apply cn | apply cq | apply cb | apply ck | apply cl | apply cx))
    refine ci ?_ ?_
    · intro he
      have he' : K.N.log[k].cmd = cmd := he
      rw [if_pos he'] at hnx
      (repeat (first | apply cn | apply cq | apply cb | apply ck | apply cl | apply cx))
      apply cr
      refine s_ p_mv ?_
      refine s_ p_ad ?_
      refine s_ p_as ?_
      (repeat (first | apply cn | apply cq | apply cb | apply ck | apply cl | apply cx))
      apply cr
      refine s_ p_mv ?_
      refine s_ p_ad ?_
      refine s_ p_as ?_
      (repeat (first | apply cn | apply cq | apply cb | apply ck | apply cl | apply cx))
      refine ⟨k + 1, hix, (by simp only []; omega), ⟨?_, ?_, eL⟩, kR⟩
      · apply le_get; ((repeat (apply gS; rfl)); exact gZ)
        exact Le.refl _
      · apply le_get; ((repeat (apply gS; rfl)); exact gZ)
        rw [hnx]; exact Le.refl _
    · intro he
      have he' : ¬ K.N.log[k].cmd = cmd := he
      rw [if_neg he'] at hnx
      (repeat (first | apply cn | apply cq | apply cb | apply ck | apply cl | apply cx))
      apply cr
      refine s_ p_mv ?_
      refine s_ p_ad ?_
      refine s_ p_as ?_
      (repeat (first | apply cn | apply cq | apply cb | apply ck | apply cl | apply cx))
      refine ⟨k + 1, hix, (by simp only []; omega), ⟨?_, ?_, eL⟩, kR⟩
      · apply le_get; ((repeat (apply gS; rfl)); exact gZ)
        exact Le.refl _
      · apply le_get; ((repeat (apply gS; rfl)); exact gZ)
        rw [hnx]; exact Le.refl _
  intro hge2
  have hke : k = K.N.log.length := by simp only [List.length_map] at hge2; omega
  subst hke
  rw [hcfe]
  have hcom := hL.com
  (repeat (first | apply cn | apply cq | apply cb | apply ck | apply cl | apply cx))
  apply cr
  refine s_ p_mv ?_
  refine s_ p_mv ?_
  refine s_ p_eq ?_
  refine s_ p_mv ?_
  refine gT (fun hg => p_fr) ?_
  refine gT (fun hg => p_lo (hx := u_ hg)) ?_
  refine gT (fun hg => p_fr) ?_
  refine gT (fun hg => p_lo (hx := u_ hg)) ?_
  (first | refine gT (fun hg => p_ln (hx := u_ hg)) ?_ | refine gT (fun hg => p_lr (hx := u_ hg)) ?_)
  refine gT (fun hg => p_eq (hx := u_ hg) (hy := u_ hg)) ?_
  refine s_ p_an ?_
  refine s_ p_as ?_
  (repeat (first | apply cn | apply cq | apply cb | apply ck | apply cl | apply cx))
  (apply sim_ret; (try simp only [blockΨ_ret, thenΨ_ret, loopL_ret, cutΨ_ret, cutE_ret]))
  refine rh (.skip _ _ _ (.skip _ _ _ (.skip _ _ _ (.skip _ _ _ kR)))) ⟨rfl, rfl⟩ ?_
  exact b_true ⟨by trivial, by rw [List.length_map]; exact hcom⟩
end Go.Proofs.Ytbdpfclnomiicaa
