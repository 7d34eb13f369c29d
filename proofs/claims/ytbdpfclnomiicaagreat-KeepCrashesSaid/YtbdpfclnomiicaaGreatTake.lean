/-
  replica: Take.
-/
import Derived.Test.YtbdpfclnomiicaaGreatTick
set_option maxRecDepth 4000
namespace Go.Proofs.YtbdpfclnomiicaaGreat
open Go.Cap
set_option linter.unusedSimpArgs false
set_option linter.unusedVariables false
attribute [local irreducible] POp SimFrom DrawFrom EOp Sim FnH T.gp
def badF (n : Nd) (m : Ms) : Prop := (((m.frm < 0 ∨ 5 ≤ m.frm) ∨ m.frm = n.id) ∨ ¬ m.to = n.id) ∨ (((m.kind < 1 ∨ 5 < m.kind) ∨ m.term < 0) ∨ 1073741824 < m.term)
instance (n : Nd) (m : Ms) : Decidable (badF n m) := by unfold badF; infer_instance
def upN (n : Nd) (m : Ms) : Nd := if n.term < m.term then { n with term := m.term, vote := -1, role := 0, votes := 0 } else n
def actF (n : Nd) (m : Ms) : Nd × List Ms := if m.kind = 1 then (voteF n m, [sendF (voteF n m) m.frm (votedM (yesF n m))]) else if m.kind = 2 then votedF n m else if m.kind = 3 then addF n m else
  if m.kind = 4 then heardF n m else snapF n m
def takeF (n : Nd) (m : Ms) : Nd × List Ms := if badF n m then (n, []) else actF (upN n m) m
def zeroN : Nd := ⟨0, 0, 0, 0, 0, 0, [], [], 0, 0, 0, 0, .all 0, .all 0⟩
/-- What a message must not outgrow. -/
structure MBd (n : Nd) (m : Ms) : Prop where
  i0 : -50000000000 ≤ m.index
  i1 : m.index ≤ 50000000000
  es : n.log.length + m.entries.length ≤ 100000000
structure NBd (n : Nd) : Prop where
  log : n.log.length < 100000000
  v0 : 0 ≤ n.votes
  v1 : n.votes ≤ 31
  x0 : ∀ i, -100000000000 ≤ n.next.get i
  x1 : ∀ i, n.next.get i ≤ 50000000000
  m0 : ∀ i, -100000000000 ≤ n.mtch.get i
  m1 : ∀ i, n.mtch.get i ≤ 50000000000
theorem upN_eq (n : Nd) (m : Ms) : ∃ t v r w, upN n m = { n with term := t, vote := v, role := r, votes := w } ∧ (w = 0 ∨ w = n.votes) := by
  unfold upN
  split
  · exact ⟨_, _, _, _, rfl, .inl rfl⟩
  · exact ⟨_, _, _, _, rfl, .inr rfl⟩
theorem Bd.up {n : Nd} (m : Ms) (h : Bd n) : Bd (upN n m) := by
  obtain ⟨_, _, _, _, e, _⟩ := upN_eq n m
  rw [e]; exact h.of
theorem NBd.up {n : Nd} (m : Ms) (h : NBd n) : NBd (upN n m) := by
  obtain ⟨_, _, _, _, e, hw⟩ := upN_eq n m
  have h0 := h.v0
  have h1 := h.v1
  rw [e]; exact ⟨h.log, by simp only; omega, by simp only; omega, h.x0, h.x1, h.m0, h.m1⟩
theorem MBd.up {n : Nd} {m : Ms} (h : MBd n m) : MBd (upN n m) m := by
  obtain ⟨_, _, _, _, e, hw⟩ := upN_eq n m
  rw [e]; exact ⟨h.i0, h.i1, h.es⟩
theorem votedF_bd {n : Nd} (m : Ms) (hn : Bd n) (hl : n.log.length < 100000000) : Bd (votedF n m).1 := by
  unfold votedF
  split
  · exact hn
  · split
    · exact lead_bd hn.of hl
    · exact hn.of
theorem voteF_bd {n : Nd} (m : Ms) (hn : Bd n) : Bd (voteF n m) := by
  unfold voteF
  split
  · exact hn.of
  · exact hn
theorem heardF_bd {n : Nd} (m : Ms) (hn : Bd n) : Bd (heardF n m).1 := by
  unfold heardF
  split
  · exact hn
  · split
    · exact (hn.of (n' := agreeN n m)).commit
    · split <;> exact hn.of
theorem addF_len {n : Nd} {m : Ms} (hl : n.log.length + m.entries.length ≤ 100000000) : (addF n m).1.log.length ≤ 100000000 := by
  unfold addF
  split
  · simp only; omega
  · split
    · simp only [quietN]; omega
    · split
      · simp only [quietN]; omega
      · have := layK_len n m m.entries.length
        simp only [addN]; omega
theorem snapF_len {n : Nd} {m : Ms} (hl : n.log.length ≤ 100000000) : (snapF n m).1.log.length ≤ 100000000 := by
  unfold snapF
  split
  · exact hl
  · split
    · simp only [snapN, restF]
      split
      · simp; omega
      · simp
    · exact hl
set_option maxHeartbeats 8000000 in
theorem take_fn {n : Nd} {m : Ms} (hn : Bd n) (hN : NBd n) (hM : badF n m ∨ MBd n m) : FnP Tryz.prog 27 [nd n, ms m] (fun r => r = .tup [nd (takeF n m).1, mss (takeF n m).2]) := by
  have hW := work_fn n (bd_len n hn)
  refine fn_enter Tryz.func27 (by rfl) (by rfl) ?_
  intro S0 w0
  show Sim _ _ [(0, T.agg (nodeC n (.sl false (n.log.map een)))), (1, T.agg (msC m (eens m.entries)))] _ _
  (repeat (first | apply cn | apply cq | apply cb | apply ck | apply cl | apply cx))
  apply cr
  refine e_bx fun b2 _ => ?_
  refine e_bx fun b3 _ => ?_
  refine e_al fun b4 _ => ?_
  refine s_ p_as ?_
  (repeat (first | apply cn | apply cq | apply cb | apply ck | apply cl | apply cx))
  refine sim_perm (List.perm_append_comm (l₁ := [_])) ?_
  refine lend1 3 (by simp [msC]) ?_
  refine lend1 2 (by simp [nodeC]) ?_
  (repeat (first | apply cn | apply cq | apply cb | apply ck | apply cl | apply cx))
  apply cr
  refine s_ p_la ?_
  refine e_cH (Hs := []) (Hr := [_]) hW (.refl _) (fun r H' ⟨b, hr, hw⟩ => ?_)
  subst hr
  have hw' := hw
  obtain ⟨vl, vo, Hl, Ho, h1, h2, rfl⟩ := hw
  obtain ⟨p, c, rfl⟩ := h1.len
  obtain ⟨q, d, rfl⟩ := h2.len
  refine s_ p_as ?_
  (repeat (first | apply cn | apply cq | apply cb | apply ck | apply cl | apply cx))
  refine ca [0, 1, 2, 3, 4, 5, 6, 7, 8, 9, 10, 11, 12, 13, 14, 15, 16, 17, 18, 19, 20, 21, 22, 23, 24, 25, 26, 27, 28] [] ?_
  refine a_ (fun _ => p_fa) ?_
  refine a_ (fun _ => p_ld) ?_
  refine a_ (fun _ => p_lt) ?_
  refine a_ (fun _ => p_mv) ?_
  refine ag_F (fun _ hg => p_fa) ?_
  refine ag_F (fun _ hg => p_ld (hx := u_ hg)) ?_
  refine ag_F (fun _ hg => p_ge (hx := u_ hg)) ?_
  refine a_ (fun _ => p_or) ?_
  refine a_ (fun _ => p_mv) ?_
  refine ag_F (fun _ hg => p_fa) ?_
  refine ag_F (fun _ hg => p_ld (hx := u_ hg)) ?_
  refine ag_F (fun _ hg => p_mv) ?_
  refine ag_F (fun _ hg => p_nc (hx := u_ hg)) ?_
  refine ag_F (fun _ hg => p_fr (hx := u_ hg)) ?_
  refine ag_F (fun _ hg => p_fr (hx := u_ hg)) ?_
  refine ag_loF ?_
  refine ag_F (fun _ hg => p_eq (hx := u_ hg) (hy := u_ hg)) ?_
  refine a_ (fun _ => p_or) ?_
  refine a_ (fun _ => p_mv) ?_
  refine ag_F (fun _ hg => p_fa) ?_
  refine ag_F (fun _ hg => p_ld (hx := u_ hg)) ?_
  refine ag_F (fun _ hg => p_mv) ?_
  refine ag_F (fun _ hg => p_nc (hx := u_ hg)) ?_
  refine ag_F (fun _ hg => p_fr (hx := u_ hg)) ?_
  refine ag_F (fun _ hg => p_fr (hx := u_ hg)) ?_
  refine ag_loF ?_
  refine ag_F (fun _ hg => p_ne (hx := u_ hg) (hy := u_ hg)) ?_
  refine a_ (fun _ => p_or) ?_
  refine a_ (fun _ => p_as) ?_
  apply an
  (repeat (first | apply cn | apply cq | apply cb | apply ck | apply cl | apply cx))
  refine ci ?_ ?_
  · intro hb
    (repeat (first | apply cn | apply cq | apply cb | apply ck | apply cl | apply cx))
    apply cr
    refine s_ p_mv ?_
    refine e_cH (done_fn (bd_len n hn) hw') (.refl _) (fun r H' ⟨hr, hr2⟩ => ?_)
    subst hr hr2
    refine s_ p_ex ?_
    refine s_ p_ex ?_
    refine e_st ?_
    refine s_ p_as ?_
    (repeat (first | apply cn | apply cq | apply cb | apply ck | apply cl | apply cx))
    (apply sim_ret; (try simp only [blockΨ_ret, thenΨ_ret, loopL_ret, cutΨ_ret, cutE_ret]); first | refine rt ?_ | refine rn ?_)
    have hbad : badF n m := .inl hb
    rw [takeF, if_pos hbad]
    exact Le.refl _
  intro hb
  (repeat (first | apply cn | apply cq | apply cb | apply ck | apply cl | apply cx))
  apply cr
  refine s_ p_fa ?_
  refine s_ p_ld ?_
  refine s_ p_lt ?_
  refine s_ p_mv ?_
  refine gF (fun hg => p_fa) ?_
  refine gF (fun hg => p_ld (hx := u_ hg)) ?_
  refine gF (fun hg => p_gt (hx := u_ hg)) ?_
  refine s_ p_or ?_
  refine s_ p_mv ?_
  refine gF (fun hg => p_fa) ?_
  refine gF (fun hg => p_ld (hx := u_ hg)) ?_
  refine gF (fun hg => p_lt (hx := u_ hg)) ?_
  refine s_ p_or ?_
  refine s_ p_mv ?_
  refine gF (fun hg => p_fa) ?_
  refine gF (fun hg => p_ld (hx := u_ hg)) ?_
  refine gF (fun hg => p_gt (hx := u_ hg)) ?_
  refine s_ p_or ?_
  refine s_ p_as ?_
  (repeat (first | apply cn | apply cq | apply cb | apply ck | apply cl | apply cx))
  refine ci ?_ ?_
  · intro hb2
    (repeat (first | apply cn | apply cq | apply cb | apply ck | apply cl | apply cx))
    apply cr
    refine s_ p_mv ?_
    refine e_cH (done_fn (bd_len n hn) hw') (.refl _) (fun r H' ⟨hr, hr2⟩ => ?_)
    subst hr hr2
    refine s_ p_ex ?_
    refine s_ p_ex ?_
    refine e_st ?_
    refine s_ p_as ?_
    (repeat (first | apply cn | apply cq | apply cb | apply ck | apply cl | apply cx))
    (apply sim_ret; (try simp only [blockΨ_ret, thenΨ_ret, loopL_ret, cutΨ_ret, cutE_ret]); first | refine rt ?_ | refine rn ?_)
    have hbad : badF n m := .inr hb2
    rw [takeF, if_pos hbad]
    exact Le.refl _
  intro hb2
  have hbad : ¬ badF n m := fun h => h.elim hb hb2
  have hM : MBd n m := hM.resolve_left hbad
  have hfr : 0 ≤ m.frm ∧ m.frm < 5 := by omega
  have hu := hn.up m
  have hNu := hN.up m
  have hMu := hM.up
  have hlu := hNu.log
  have hle := hMu.es
  have hi0 := hM.i0
  have hi1 := hM.i1
  have hv0 := hNu.v0
  have hv1 := hNu.v1
  have hx0 := hNu.x0
  have hx1 := hNu.x1
  have hm0 := hNu.m0
  have hm1 := hNu.m1
  (repeat (first | apply cn | apply cq | apply cb | apply ck | apply cl | apply cx))
  refine ca [0, 1, 2, 3, 4, 5, 6, 7] [] ?_
  refine a_ (fun _ => p_fa) ?_
  refine a_ (fun _ => p_ld) ?_
  refine a_ (fun _ => p_mv) ?_
  refine a_ (fun _ => p_nc) ?_
  refine a_ (fun _ => p_fr) ?_
  refine a_ (fun _ => p_fr) ?_
  refine a_lo ?_
  refine a_ (fun _ => p_gt) ?_
  apply an
  (repeat (first | apply cn | apply cq | apply cb | apply ck | apply cl | apply cx))
  show Sim _ _ _ _ (thenΨ _ _ _)
  refine sim_cut [(6, pW b), (3, .adr (.agg (msC m (eens m.entries)))), (4, .v (.pointer (some ⟨b4, 0, none⟩)))] ((b, ⟨tW, wkC (upN n m) (.slice p (n.log.map een).length c) (.slice q (List.length ([].map ms)) d), 23⟩) :: (Hl ++ (Ho ++ [])) ++ [(b4, (⟨36, nodeC zeroN (.v (.slice none 0 0)), 22⟩ : Blk))]) ?_ ?_
  · refine ci ?_ ?_
    · intro hgt
      (repeat (first | apply cn | apply cq | apply cb | apply ck | apply cl | apply cx))
      apply cr
      refine s_ p_mv ?_
      refine s_ p_mv ?_
      refine s_ p_mv ?_
      refine s_ p_mv ?_
      refine s_ p_fa ?_
      refine s_ p_ld ?_
      refine s_ p_nc ?_
      refine s_ p_fr ?_
      refine s_ p_fr ?_
      refine e_st ?_
      refine s_ p_nc ?_
      refine s_ p_fr ?_
      refine s_ p_fr ?_
      refine e_st ?_
      refine s_ p_nc ?_
      refine s_ p_fr ?_
      refine s_ p_fr ?_
      refine e_st ?_
      refine s_ p_nc ?_
      refine s_ p_fr ?_
      refine s_ p_fr ?_
      refine e_st ?_
      (repeat (first | apply cn | apply cq | apply cb | apply ck | apply cl | apply cx))
      have hgt' : n.term < m.term := hgt
      have e : upN n m = { n with term := m.term, vote := -1, role := 0, votes := 0 } := by rw [upN, if_pos hgt']
      rw [e]
      exact ⟨eL, kR⟩
    · intro hgt
      (repeat (first | apply cn | apply cq | apply cb | apply ck | apply cl | apply cx))
      have hgt' : ¬ n.term < m.term := hgt
      have e : upN n m = n := by rw [upN, if_neg hgt']
      rw [e]
      exact ⟨eL, kR⟩
  have hlog : (upN n m).log = n.log := by
    obtain ⟨_, _, _, _, e, _⟩ := upN_eq n m
    rw [e]
  have hw : WkH b (upN n m) [] ((b, ⟨tW, wkC (upN n m) (.slice p (n.log.map een).length c) (.slice q (List.length (([] : List Ms).map ms)) d), 23⟩) :: (Hl ++ (Ho ++ []))) := ⟨_, _, Hl, Ho, by rw [hlog]; exact h1, h2, rfl⟩
  (repeat (first | apply cn | apply cq | apply cb | apply ck | apply cl | apply cx))
  apply cr
  refine s_ p_fa ?_
  refine s_ p_ld ?_
  (repeat (first | apply cn | apply cq | apply cb | apply ck | apply cl | apply cx))
  apply cr
  refine s_ p_eq ?_
  refine s_ p_as ?_
  (repeat (first | apply cn | apply cq | apply cb | apply ck | apply cl | apply cx))
  refine ci ?_ ?_
  · intro hk1
    (repeat (first | apply cn | apply cq | apply cb | apply ck | apply cl | apply cx))
    apply cr
    refine s_ p_mv ?_
    refine s_ p_la ?_
    refine e_cH (vote_fn m hu (by simp) hw) (.refl _) (fun r H' ⟨hr, h3⟩ => ?_)
    subst hr
    (repeat (first | apply cn | apply cq | apply cb | apply ck | apply cl | apply cx))
    (repeat (first | apply cn | apply cq | apply cb | apply ck | apply cl | apply cx))
    (repeat (first | apply cn | apply cq | apply cb | apply ck | apply cl | apply cx))
    apply cr
    refine s_ p_mv ?_
    refine e_cH (done_fn (bd_len _ (voteF_bd m hu)) h3) (.refl _) (fun r H' ⟨hr, hr2⟩ => ?_)
    subst hr hr2
    refine s_ p_ex ?_
    refine s_ p_ex ?_
    refine e_st ?_
    refine s_ p_as ?_
    (repeat (first | apply cn | apply cq | apply cb | apply ck | apply cl | apply cx))
    (apply sim_ret; (try simp only [blockΨ_ret, thenΨ_ret, loopL_ret, cutΨ_ret, cutE_ret]); first | refine rt ?_ | refine rn ?_)
    rw [takeF, if_neg hbad, actF, if_pos hk1]
    exact Le.refl _
  · intro hk1
    (repeat (first | apply cn | apply cq | apply cb | apply ck | apply cl | apply cx))
    apply cr
    refine s_ p_eq ?_
    refine s_ p_as ?_
    (repeat (first | apply cn | apply cq | apply cb | apply ck | apply cl | apply cx))
    refine ci ?_ ?_
    · intro hk2
      (repeat (first | apply cn | apply cq | apply cb | apply ck | apply cl | apply cx))
      apply cr
      refine s_ p_mv ?_
      refine s_ p_la ?_
      refine e_cH (voted_fn m hu hlu hv0 hv1 (by omega) (by omega) (by simp) hw) (.refl _) (fun r H' ⟨hr, h3⟩ => ?_)
      subst hr
      (repeat (first | apply cn | apply cq | apply cb | apply ck | apply cl | apply cx))
      (repeat (first | apply cn | apply cq | apply cb | apply ck | apply cl | apply cx))
      (repeat (first | apply cn | apply cq | apply cb | apply ck | apply cl | apply cx))
      apply cr
      refine s_ p_mv ?_
      refine e_cH (done_fn (bd_len _ (votedF_bd m hu hlu)) h3) (.refl _) (fun r H' ⟨hr, hr2⟩ => ?_)
      subst hr hr2
      refine s_ p_ex ?_
      refine s_ p_ex ?_
      refine e_st ?_
      refine s_ p_as ?_
      (repeat (first | apply cn | apply cq | apply cb | apply ck | apply cl | apply cx))
      (apply sim_ret; (try simp only [blockΨ_ret, thenΨ_ret, loopL_ret, cutΨ_ret, cutE_ret]); first | refine rt ?_ | refine rn ?_)
      rw [takeF, if_neg hbad, actF, if_neg hk1, if_pos hk2]
      exact Le.refl _
    · intro hk2
      (repeat (first | apply cn | apply cq | apply cb | apply ck | apply cl | apply cx))
      apply cr
      refine s_ p_eq ?_
      refine s_ p_as ?_
      (repeat (first | apply cn | apply cq | apply cb | apply ck | apply cl | apply cx))
      refine ci ?_ ?_
      · intro hk3
        (repeat (first | apply cn | apply cq | apply cb | apply ck | apply cl | apply cx))
        apply cr
        refine s_ p_mv ?_
        refine s_ p_la ?_
        refine e_cH (add_fn m hu hle hi0 hi1 (by simp) hw) (.refl _) (fun r H' ⟨hr, h3⟩ => ?_)
        subst hr
        (repeat (first | apply cn | apply cq | apply cb | apply ck | apply cl | apply cx))
        (repeat (first | apply cn | apply cq | apply cb | apply ck | apply cl | apply cx))
        (repeat (first | apply cn | apply cq | apply cb | apply ck | apply cl | apply cx))
        apply cr
        refine s_ p_mv ?_
        refine e_cH (done_fn (by have := addF_len hle; omega) h3) (.refl _) (fun r H' ⟨hr, hr2⟩ => ?_)
        subst hr hr2
        refine s_ p_ex ?_
        refine s_ p_ex ?_
        refine e_st ?_
        refine s_ p_as ?_
        (repeat (first | apply cn | apply cq | apply cb | apply ck | apply cl | apply cx))
        (apply sim_ret; (try simp only [blockΨ_ret, thenΨ_ret, loopL_ret, cutΨ_ret, cutE_ret]); first | refine rt ?_ | refine rn ?_)
        rw [takeF, if_neg hbad, actF, if_neg hk1, if_neg hk2, if_pos hk3]
        exact Le.refl _
      · intro hk3
        (repeat (first | apply cn | apply cq | apply cb | apply ck | apply cl | apply cx))
        apply cr
        refine s_ p_eq ?_
        refine s_ p_as ?_
        (repeat (first | apply cn | apply cq | apply cb | apply ck | apply cl | apply cx))
        refine ci ?_ ?_
        · intro hk4
          (repeat (first | apply cn | apply cq | apply cb | apply ck | apply cl | apply cx))
          apply cr
          refine s_ p_mv ?_
          refine s_ p_la ?_
          refine e_cH (heard_fn m hu (by omega) (by omega) (hx0 _) (hx1 _) (hm0 _) (hm1 _) (by omega) (by omega) (by simp) hw) (.refl _) (fun r H' ⟨hr, h3⟩ => ?_)
          subst hr
          (repeat (first | apply cn | apply cq | apply cb | apply ck | apply cl | apply cx))
          (repeat (first | apply cn | apply cq | apply cb | apply ck | apply cl | apply cx))
          (repeat (first | apply cn | apply cq | apply cb | apply ck | apply cl | apply cx))
          apply cr
          refine s_ p_mv ?_
          refine e_cH (done_fn (bd_len _ (heardF_bd m hu)) h3) (.refl _) (fun r H' ⟨hr, hr2⟩ => ?_)
          subst hr hr2
          refine s_ p_ex ?_
          refine s_ p_ex ?_
          refine e_st ?_
          refine s_ p_as ?_
          (repeat (first | apply cn | apply cq | apply cb | apply ck | apply cl | apply cx))
          (apply sim_ret; (try simp only [blockΨ_ret, thenΨ_ret, loopL_ret, cutΨ_ret, cutE_ret]); first | refine rt ?_ | refine rn ?_)
          rw [takeF, if_neg hbad, actF, if_neg hk1, if_neg hk2, if_neg hk3, if_pos hk4]
          exact Le.refl _
        · intro hk4
          (repeat (first | apply cn | apply cq | apply cb | apply ck | apply cl | apply cx))
          apply cr
          refine s_ p_eq ?_
          refine s_ p_as ?_
          (repeat (first | apply cn | apply cq | apply cb | apply ck | apply cl | apply cx))
          refine ci ?_ ?_
          · intro hk5
            (repeat (first | apply cn | apply cq | apply cb | apply ck | apply cl | apply cx))
            apply cr
            refine s_ p_mv ?_
            refine s_ p_la ?_
            refine e_cH (snap_fn m hu (by omega) (by omega) (by simp) hw) (.refl _) (fun r H' ⟨hr, h3⟩ => ?_)
            subst hr
            (repeat (first | apply cn | apply cq | apply cb | apply ck | apply cl | apply cx))
            (repeat (first | apply cn | apply cq | apply cb | apply ck | apply cl | apply cx))
            (repeat (first | apply cn | apply cq | apply cb | apply ck | apply cl | apply cx))
            apply cr
            refine s_ p_mv ?_
            refine e_cH (done_fn (by have := snapF_len (n := upN n m) (m := m) hu.log; omega) h3) (.refl _) (fun r H' ⟨hr, hr2⟩ => ?_)
            subst hr hr2
            refine s_ p_ex ?_
            refine s_ p_ex ?_
            refine e_st ?_
            refine s_ p_as ?_
            (repeat (first | apply cn | apply cq | apply cb | apply ck | apply cl | apply cx))
            (apply sim_ret; (try simp only [blockΨ_ret, thenΨ_ret, loopL_ret, cutΨ_ret, cutE_ret]); first | refine rt ?_ | refine rn ?_)
            rw [takeF, if_neg hbad, actF, if_neg hk1, if_neg hk2, if_neg hk3, if_neg hk4]
            exact Le.refl _
          · intro hk5
            exfalso
            exact hb2 (by omega)
end Go.Proofs.YtbdpfclnomiicaaGreat
