/-
  replica: Take.
  replica: two nodes told from each other.
  replica: Wake, Propose, Change, Compact.
  keep.alike, own: how many entries two nodes have alike at their fronts.
  frames: checksums, heads, frames.
-/
import Derived.Test.YtjbokbikkcfjjaaGreatAau
import Derived.Test.YtjbokbikkcfjjaaGreatAal
import Derived.Test.YtjbokbikkcfjjaaGreatAas
import Derived.Test.YtjbokbikkcfjjaaGreatAaq
import Derived.Test.YtjbokbikkcfjjaaGreatAar
section
set_option maxRecDepth 4000
namespace Go.Proofs.YtjbokbikkcfjjaaGreat
open Go.Cap
set_option linter.unusedSimpArgs false
set_option linter.unusedVariables false
attribute [local irreducible] POp SimFrom DrawFrom EOp Sim FnH T.gp
def badF (n : Nd) (m : Ms) : Prop := (((m.frm < 0 ∨ 5 ≤ m.frm) ∨ m.frm = n.id) ∨ ¬ m.to = n.id) ∨ (((m.kind < 1 ∨ 5 < m.kind) ∨ m.term < 0) ∨ 1073741824 < m.term)
instance (n : Nd) (m : Ms) : Decidable (badF n m) := by unfold badF; infer_instance
def upN (n : Nd) (m : Ms) : Nd := if n.term < m.term then { n with term := m.term, vote := -1, role := 0, votes := 0 } else n
def actF (n : Nd) (m : Ms) : Nd × List Ms := if m.kind = 1 then (voteF n m, [sendF (voteF n m) m.frm (votedM (yesF n m))]) else if m.kind = 2 then votedF n m else if m.kind = 3 then addF n m else
  if m.kind = 4 then heardF n m else snapF n m
def takeF (n : Nd) (m : Ms) : Nd × List Ms := if badF n m then (n, []) else actF (upN n m) m
def zeroN : Nd := ⟨0, 0, 0, 0, 0, 0, [], [], 0, 0, 0, 0, .all 0, .all 0⟩
structure MBd (n : Nd) (m : Ms) : Prop where
  i0 : -50000000000 ≤ m.index
  i1 : m.index ≤ 50000000000
  es : n.log.length + m.entries.length ≤ 100000000
structure NBd (n : Nd) : Prop where
  log : n.log.length < 100000000
  v0 : 0 ≤ n.votes
  v1 : n.votes ≤ 31
  x0 : ∀ i, -100000000000 ≤ n.next.get i
  x1 : ∀ i, n.next.get i ≤ 50000000000
  m0 : ∀ i, -100000000000 ≤ n.mtch.get i
  m1 : ∀ i, n.mtch.get i ≤ 50000000000
theorem upN_eq (n : Nd) (m : Ms) : ∃ t v r w, upN n m = { n with term := t, vote := v, role := r, votes := w } ∧ (w = 0 ∨ w = n.votes) := by
  unfold upN
  split
  · exact ⟨_, _, _, _, rfl, .inl rfl⟩
  · exact ⟨_, _, _, _, rfl, .inr rfl⟩
theorem Bd.up {n : Nd} (m : Ms) (h : Bd n) : Bd (upN n m) := by
  obtain ⟨_, _, _, _, e, _⟩ := upN_eq n m
  rw [e]; exact h.of
theorem NBd.up {n : Nd} (m : Ms) (h : NBd n) : NBd (upN n m) := by
  obtain ⟨_, _, _, _, e, hw⟩ := upN_eq n m
  have h0 := h.v0
  have h1 := h.v1
  rw [e]; exact ⟨h.log, by simp only; omega, by simp only; omega, h.x0, h.x1, h.m0, h.m1⟩
theorem MBd.up {n : Nd} {m : Ms} (h : MBd n m) : MBd (upN n m) m := by
  obtain ⟨_, _, _, _, e, hw⟩ := upN_eq n m
  rw [e]; exact ⟨h.i0, h.i1, h.es⟩
theorem votedF_bd {n : Nd} (m : Ms) (hn : Bd n) (hl : n.log.length < 100000000) : Bd (votedF n m).1 := by
  unfold votedF
  split
  · exact hn
  · split
    · exact lead_bd hn.of hl
    · exact hn.of
theorem voteF_bd {n : Nd} (m : Ms) (hn : Bd n) : Bd (voteF n m) := by
  unfold voteF
  split
  · exact hn.of
  · exact hn
theorem heardF_bd {n : Nd} (m : Ms) (hn : Bd n) : Bd (heardF n m).1 := by
  unfold heardF
  split
  · exact hn
  · split
    · exact (hn.of (n' := agreeN n m)).commit
    · split <;> exact hn.of
theorem addF_len {n : Nd} {m : Ms} (hl : n.log.length + m.entries.length ≤ 100000000) : (addF n m).1.log.length ≤ 100000000 := by
  unfold addF
  split
  · simp only; omega
  · split
    · simp only [quietN]; omega
    · split
      · simp only [quietN]; omega
      · have := layK_len n m m.entries.length
        simp only [addN]; omega
theorem snapF_len {n : Nd} {m : Ms} (hl : n.log.length ≤ 100000000) : (snapF n m).1.log.length ≤ 100000000 := by
  unfold snapF
  split
  · exact hl
  · split
    · simp only [snapN, restF]
      split
      · simp; omega
      · simp
    · exact hl
set_option maxHeartbeats 8000000 in
theorem take_fn {n : Nd} {m : Ms} (hn : Bd n) (hN : NBd n) (hM : badF n m ∨ MBd n m) : FnP Tryz.prog 100 [nd n, ms m] (fun r => r = .tup [nd (takeF n m).1, mss (takeF n m).2]) := by
  have hW := work_fn n (bd_len n hn)
  refine fn_enter Tryz.func100 (by rfl) (by rfl) ?_
  intro S0 w0
  show Sim _ _ [(0, T.agg (nodeC n (.sl false (n.log.map een)))), (1, T.agg (msC m (eens m.entries)))] _ _
  refine zC ?_
  apply cr
  refine e_bx fun b2 _ => ?_
  refine e_bx fun b3 _ => ?_
  refine e_al fun b4 _ => ?_
  refine s_ p_as ?_
  refine zC ?_
  refine sim_perm (List.perm_append_comm (l₁ := [_])) ?_
  refine lend1 3 (by simp [msC]) ?_
  refine lend1 2 (by simp [nodeC]) ?_
  refine zC ?_
  apply cr
  refine s_ p_la ?_
  refine e_cH (Hs := []) (Hr := [_]) hW (.refl _) (fun r H' ⟨b, hr, hw⟩ => ?_)
  subst hr
  have hw' := hw
  obtain ⟨vl, vo, Hl, Ho, h1, h2, rfl⟩ := hw
  obtain ⟨p, c, rfl⟩ := h1.len
  obtain ⟨q, d, rfl⟩ := h2.len
  refine s_ p_as ?_
  refine zC ?_
  refine ca [0, 1, 2, 3, 4, 5, 6, 7, 8, 9, 10, 11, 12, 13, 14, 15, 16, 17, 18, 19, 20, 21, 22, 23, 24, 25, 26, 27, 28] [] ?_
  refine a_ (fun _ => p_fa) ?_
  refine a_ (fun _ => p_ld) ?_
  refine a_ (fun _ => p_lt) ?_
  refine a_ (fun _ => p_mv) ?_
  refine ag_F (fun _ hg => p_fa) ?_
  refine ag_F (fun _ hg => p_ld (hx := u_ hg)) ?_
  refine ag_F (fun _ hg => p_ge (hx := u_ hg)) ?_
  refine a_ (fun _ => p_or) ?_
  refine a_ (fun _ => p_mv) ?_
  refine ag_F (fun _ hg => p_fa) ?_
  refine ag_F (fun _ hg => p_ld (hx := u_ hg)) ?_
  refine ag_F (fun _ hg => p_mv) ?_
  refine ag_F (fun _ hg => p_nc (hx := u_ hg)) ?_
  refine ag_F (fun _ hg => p_fr (hx := u_ hg)) ?_
  refine ag_F (fun _ hg => p_fr (hx := u_ hg)) ?_
  refine ag_loF ?_
  refine ag_F (fun _ hg => p_eq (hx := u_ hg) (hy := u_ hg)) ?_
  refine a_ (fun _ => p_or) ?_
  refine a_ (fun _ => p_mv) ?_
  refine ag_F (fun _ hg => p_fa) ?_
  refine ag_F (fun _ hg => p_ld (hx := u_ hg)) ?_
  refine ag_F (fun _ hg => p_mv) ?_
  refine ag_F (fun _ hg => p_nc (hx := u_ hg)) ?_
  refine ag_F (fun _ hg => p_fr (hx := u_ hg)) ?_
  refine ag_F (fun _ hg => p_fr (hx := u_ hg)) ?_
  refine ag_loF ?_
  refine ag_F (fun _ hg => p_ne (hx := u_ hg) (hy := u_ hg)) ?_
  refine a_ (fun _ => p_or) ?_
  refine a_ (fun _ => p_as) ?_
  apply an
  refine zC ?_
  refine ci ?_ ?_
  · intro hb
    refine zC ?_
    apply cr
    refine s_ p_mv ?_
    refine e_cH (done_fn (bd_len n hn) hw') (.refl _) (fun r H' ⟨hr, hr2⟩ => ?_)
    subst hr hr2
    refine s_ p_ex ?_
    refine s_ p_ex ?_
    refine e_st ?_
    refine s_ p_as ?_
    refine zC ?_
    refine zE ?_
    have hbad : badF n m := .inl hb
    rw [takeF, if_pos hbad]
    exact Le.refl _
  intro hb
  refine zC ?_
  apply cr
  refine s_ p_fa ?_
  refine s_ p_ld ?_
  refine s_ p_lt ?_
  refine s_ p_mv ?_
  refine gF (fun hg => p_fa) ?_
  refine gF (fun hg => p_ld (hx := u_ hg)) ?_
  refine gF (fun hg => p_gt (hx := u_ hg)) ?_
  refine s_ p_or ?_
  refine s_ p_mv ?_
  refine gF (fun hg => p_fa) ?_
  refine gF (fun hg => p_ld (hx := u_ hg)) ?_
  refine gF (fun hg => p_lt (hx := u_ hg)) ?_
  refine s_ p_or ?_
  refine s_ p_mv ?_
  refine gF (fun hg => p_fa) ?_
  refine gF (fun hg => p_ld (hx := u_ hg)) ?_
  refine gF (fun hg => p_gt (hx := u_ hg)) ?_
  refine s_ p_or ?_
  refine s_ p_as ?_
  refine zC ?_
  refine ci ?_ ?_
  · intro hb2
    refine zC ?_
    apply cr
    refine s_ p_mv ?_
    refine e_cH (done_fn (bd_len n hn) hw') (.refl _) (fun r H' ⟨hr, hr2⟩ => ?_)
    subst hr hr2
    refine s_ p_ex ?_
    refine s_ p_ex ?_
    refine e_st ?_
    refine s_ p_as ?_
    refine zC ?_
    refine zE ?_
    have hbad : badF n m := .inr hb2
    rw [takeF, if_pos hbad]
    exact Le.refl _
  intro hb2
  have hbad : ¬ badF n m := fun h => h.elim hb hb2
  have hM : MBd n m := hM.resolve_left hbad
  have hfr : 0 ≤ m.frm ∧ m.frm < 5 := by omega
  have hu := hn.up m
  have hNu := hN.up m
  have hMu := hM.up
  have hlu := hNu.log
  have hle := hMu.es
  have hi0 := hM.i0
  have hi1 := hM.i1
  have hv0 := hNu.v0
  have hv1 := hNu.v1
  have hx0 := hNu.x0
  have hx1 := hNu.x1
  have hm0 := hNu.m0
  have hm1 := hNu.m1
  refine zC ?_
  refine ca [0, 1, 2, 3, 4, 5, 6, 7] [] ?_
  refine a_ (fun _ => p_fa) ?_
  refine a_ (fun _ => p_ld) ?_
  refine a_ (fun _ => p_mv) ?_
  refine a_ (fun _ => p_nc) ?_
  refine a_ (fun _ => p_fr) ?_
  refine a_ (fun _ => p_fr) ?_
  refine a_lo ?_
  refine a_ (fun _ => p_gt) ?_
  apply an
  refine zC ?_
  show Sim _ _ _ _ (thenΨ _ _ _)
  refine sim_cut [(6, pW b), (3, .adr (.agg (msC m (eens m.entries)))), (4, .v (.pointer (some ⟨b4, 0, none⟩)))] ((b, ⟨tW, wkC (upN n m) (.slice p (n.log.map een).length c) (.slice q (List.length ([].map ms)) d), 23⟩) :: (Hl ++ (Ho ++ [])) ++ [(b4, (⟨44, nodeC zeroN (.v (.slice none 0 0)), 22⟩ : Blk))]) ?_ ?_
  · refine ci ?_ ?_
    · intro hgt
      refine zC ?_
      apply cr
      refine s_ p_mv ?_
      refine s_ p_mv ?_
      refine s_ p_mv ?_
      refine s_ p_mv ?_
      refine s_ p_fa ?_
      refine s_ p_ld ?_
      refine s_ p_nc ?_
      refine s_ p_fr ?_
      refine s_ p_fr ?_
      refine e_st ?_
      refine s_ p_nc ?_
      refine s_ p_fr ?_
      refine s_ p_fr ?_
      refine e_st ?_
      refine s_ p_nc ?_
      refine s_ p_fr ?_
      refine s_ p_fr ?_
      refine e_st ?_
      refine s_ p_nc ?_
      refine s_ p_fr ?_
      refine s_ p_fr ?_
      refine e_st ?_
      refine zC ?_
      have hgt' : n.term < m.term := hgt
      have e : upN n m = { n with term := m.term, vote := -1, role := 0, votes := 0 } := by rw [upN, if_pos hgt']
      rw [e]
      exact ⟨eL, kR⟩
    · intro hgt
      refine zC ?_
      have hgt' : ¬ n.term < m.term := hgt
      have e : upN n m = n := by rw [upN, if_neg hgt']
      rw [e]
      exact ⟨eL, kR⟩
  have hlog : (upN n m).log = n.log := by
    obtain ⟨_, _, _, _, e, _⟩ := upN_eq n m
    rw [e]
  have hw : WkH b (upN n m) [] ((b, ⟨tW, wkC (upN n m) (.slice p (n.log.map een).length c) (.slice q (List.length (([] : List Ms).map ms)) d), 23⟩) :: (Hl ++ (Ho ++ []))) := ⟨_, _, Hl, Ho, by rw [hlog]; exact h1, h2, rfl⟩
  refine zC ?_
  apply cr
  refine s_ p_fa ?_
  refine s_ p_ld ?_
  refine zC ?_
  apply cr
  refine s_ p_eq ?_
  refine s_ p_as ?_
  refine zC ?_
  refine ci ?_ ?_
  · intro hk1
    refine zC ?_
    apply cr
    refine s_ p_mv ?_
    refine s_ p_la ?_
    refine e_cH (vote_fn m hu (by simp) hw) (.refl _) (fun r H' ⟨hr, h3⟩ => ?_)
    subst hr
    refine zC ?_
    refine zC ?_
    refine zC ?_
    apply cr
    refine s_ p_mv ?_
    refine e_cH (done_fn (bd_len _ (voteF_bd m hu)) h3) (.refl _) (fun r H' ⟨hr, hr2⟩ => ?_)
    subst hr hr2
    refine s_ p_ex ?_
    refine s_ p_ex ?_
    refine e_st ?_
    refine s_ p_as ?_
    refine zC ?_
    refine zE ?_
    rw [takeF, if_neg hbad, actF, if_pos hk1]
    exact Le.refl _
  · intro hk1
    refine zC ?_
    apply cr
    refine s_ p_eq ?_
    refine s_ p_as ?_
    refine zC ?_
    refine ci ?_ ?_
    · intro hk2
      refine zC ?_
      apply cr
      refine s_ p_mv ?_
      refine s_ p_la ?_
      refine e_cH (voted_fn m hu hlu hv0 hv1 (by omega) (by omega) (by simp) hw) (.refl _) (fun r H' ⟨hr, h3⟩ => ?_)
      subst hr
      refine zC ?_
      refine zC ?_
      refine zC ?_
      apply cr
      refine s_ p_mv ?_
      refine e_cH (done_fn (bd_len _ (votedF_bd m hu hlu)) h3) (.refl _) (fun r H' ⟨hr, hr2⟩ => ?_)
      subst hr hr2
      refine s_ p_ex ?_
      refine s_ p_ex ?_
      refine e_st ?_
      refine s_ p_as ?_
      refine zC ?_
      refine zE ?_
      rw [takeF, if_neg hbad, actF, if_neg hk1, if_pos hk2]
      exact Le.refl _
    · intro hk2
      refine zC ?_
      apply cr
      refine s_ p_eq ?_
      refine s_ p_as ?_
      refine zC ?_
      refine ci ?_ ?_
      · intro hk3
        refine zC ?_
        apply cr
        refine s_ p_mv ?_
        refine s_ p_la ?_
        refine e_cH (add_fn m hu hle hi0 hi1 (by simp) hw) (.refl _) (fun r H' ⟨hr, h3⟩ => ?_)
        subst hr
        refine zC ?_
        refine zC ?_
        refine zC ?_
        apply cr
        refine s_ p_mv ?_
        refine e_cH (done_fn (by have := addF_len hle; omega) h3) (.refl _) (fun r H' ⟨hr, hr2⟩ => ?_)
        subst hr hr2
        refine s_ p_ex ?_
        refine s_ p_ex ?_
        refine e_st ?_
        refine s_ p_as ?_
        refine zC ?_
        refine zE ?_
        rw [takeF, if_neg hbad, actF, if_neg hk1, if_neg hk2, if_pos hk3]
        exact Le.refl _
      · intro hk3
        refine zC ?_
        apply cr
        refine s_ p_eq ?_
        refine s_ p_as ?_
        refine zC ?_
        refine ci ?_ ?_
        · intro hk4
          refine zC ?_
          apply cr
          refine s_ p_mv ?_
          refine s_ p_la ?_
          refine e_cH (heard_fn m hu (by omega) (by omega) (hx0 _) (hx1 _) (hm0 _) (hm1 _) (by omega) (by omega) (by simp) hw) (.refl _) (fun r H' ⟨hr, h3⟩ => ?_)
          subst hr
          refine zC ?_
          refine zC ?_
          refine zC ?_
          apply cr
          refine s_ p_mv ?_
          refine e_cH (done_fn (bd_len _ (heardF_bd m hu)) h3) (.refl _) (fun r H' ⟨hr, hr2⟩ => ?_)
          subst hr hr2
          refine s_ p_ex ?_
          refine s_ p_ex ?_
          refine e_st ?_
          refine s_ p_as ?_
          refine zC ?_
          refine zE ?_
          rw [takeF, if_neg hbad, actF, if_neg hk1, if_neg hk2, if_neg hk3, if_pos hk4]
          exact Le.refl _
        · intro hk4
          refine zC ?_
          apply cr
          refine s_ p_eq ?_
          refine s_ p_as ?_
          refine zC ?_
          refine ci ?_ ?_
          · intro hk5
            refine zC ?_
            apply cr
            refine s_ p_mv ?_
            refine s_ p_la ?_
            refine e_cH (snap_fn m hu (by omega) (by omega) (by simp) hw) (.refl _) (fun r H' ⟨hr, h3⟩ => ?_)
            subst hr
            refine zC ?_
            refine zC ?_
            refine zC ?_
            apply cr
            refine s_ p_mv ?_
            refine e_cH (done_fn (by have := snapF_len (n := upN n m) (m := m) hu.log; omega) h3) (.refl _) (fun r H' ⟨hr, hr2⟩ => ?_)
            subst hr hr2
            refine s_ p_ex ?_
            refine s_ p_ex ?_
            refine e_st ?_
            refine s_ p_as ?_
            refine zC ?_
            refine zE ?_
            rw [takeF, if_neg hbad, actF, if_neg hk1, if_neg hk2, if_neg hk3, if_neg hk4]
            exact Le.refl _
          · intro hk5
            exfalso
            exact hb2 (by omega)
end Go.Proofs.YtjbokbikkcfjjaaGreat
end
section
set_option maxRecDepth 4000
namespace Go.Proofs.YtjbokbikkcfjjaaGreat
open Go.Cap
set_option linter.unusedSimpArgs false
set_option linter.unusedVariables false
attribute [local irreducible] POp SimFrom DrawFrom EOp Sim FnH T.gp
def eenV (e : En) : List Value := [.int .i64 e.term, .int .i64 e.conf, .string (bs e.cmd)]
theorem eenV_inj {a b : En} : eenV a = eenV b ↔ a = b := by
  constructor
  · intro h
    simp only [eenV, List.cons.injEq, Value.int.injEq, Value.string.injEq, true_and, and_true] at h
    cases a; cases b
    simp only at h
    rw [h.1, h.2.1, bs_inj h.2.2]
  · intro h; rw [h]
set_option maxHeartbeats 1000000 in
theorem equal_fn (f f' : Bool) (l m : List En) (hl : l.length ≤ 1000000000) (hm : m.length ≤ 1000000000) : FnP Tryz.prog 160 [.sl f (l.map een), .sl f' (m.map een)] (fun r => r = .v (.bool (decide (l = m)))) := by
  refine fn_enter Tryz.func160 (by rfl) (by rfl) ?_
  intro S0 w0
  show Sim _ _ [(0, T.sl f (l.map een)), (1, T.sl f' (m.map een))] _ _
  refine zC ?_
  apply cr
  refine s_ p_as ?_
  refine zC ?_
  apply cr
  refine s_ p_mv ?_
  (first | refine s_ p_ln ?_ | refine s_ p_lr ?_)
  refine s_ p_mv ?_
  (first | refine s_ p_ln ?_ | refine s_ p_lr ?_)
  refine s_ p_ne ?_
  refine zC ?_
  refine ci ?_ ?_
  · intro hne
    refine zC ?_
    apply cr
    refine s_ p_as ?_
    refine zC ?_
    refine zE ?_
    refine Le.of_eq ?_
    rw [show decide (l = m) = false from decide_eq_false (fun h => hne (by rw [h]))]
    rfl
  intro hne
  have hlen : l.length = m.length := by simp only [List.length_map] at hne; omega
  refine zC ?_
  apply cr
  refine s_ p_mv ?_
  (first | refine s_ p_ln ?_ | refine s_ p_lr ?_)
  refine s_ p_mv ?_
  refine zC ?_
  apply sim_loopL (σ := Nat) (ok := fun k => k ≤ l.length ∧ l.take k = m.take k) (env := fun k => [(13, ei (k : Nat)), (12, ei ((l.map een).length : Nat)), (0, T.sl f (l.map een)), (1, T.sl f' (m.map een))]) (heap := fun _ => []) (μ := fun k => l.length - k) (s0 := 0)
  · exact ⟨Nat.zero_le _, by simp⟩
  · exact eL
  · exact kR
  rintro k ⟨hk, htk⟩
  refine zC ?_
  apply cr
  refine s_ p_lt ?_
  refine zC ?_
  refine ci ?_ ?_
  · intro hlt
    simp only [List.length_map] at hlt
    have hkl : k < l.length := by omega
    have hkm : k < m.length := by omega
    have hix := hkl
    have hix2 := hkm
    refine zC ?_
    apply cr
    refine s_ p_mv ?_
    refine s_ p_as ?_
    refine zC ?_
    refine ca [0, 1, 2, 3, 4, 5, 6, 7, 8] [] ?_
    refine a_ (fun _ => p_mv) ?_
    refine a_ (fun _ => p_mv) ?_
    (first | refine a_ (fun _ => p_ix hix) ?_ | refine a_ (fun _ => p_ix hix2) ?_ | refine a_ (fun _ => p_ia) ?_ | refine a_ (fun _ => p_ir) ?_)
    (first | refine a_ (fun _ => p_la) ?_ | refine a_loa ?_)
    refine a_ (fun _ => p_mv) ?_
    refine a_ (fun _ => p_mv) ?_
    (first | refine a_ (fun _ => p_ix hix) ?_ | refine a_ (fun _ => p_ix hix2) ?_ | refine a_ (fun _ => p_ia) ?_ | refine a_ (fun _ => p_ir) ?_)
    (first | refine a_ (fun _ => p_la) ?_ | refine a_loa ?_)
    refine a_ (fun _ => p_neD 2 [.int .i64, .int .i64, .str] Tryz.eqGuardType84) ?_
    apply an
    refine zC ?_
    refine ci ?_ ?_
    · intro hd
      refine zC ?_
      apply cr
      refine s_ p_as ?_
      refine zC ?_
      refine zE ?_
      refine Le.of_eq ?_
      rw [show decide (l = m) = false from decide_eq_false (fun h => hd (by subst h; rfl))]
      rfl
    · intro hd
      have he : l[k] = m[k] := eenV_inj.1 (Classical.not_not.1 hd)
      refine zC ?_
      apply cr
      refine s_ p_ad ?_
      refine s_ p_mv ?_
      refine zC ?_
      refine ⟨k + 1, ⟨by omega, ?_⟩, by show l.length - (k + 1) < l.length - k; omega, ⟨le_get (by rfl) (Le.refl _), eL⟩, kR⟩
      rw [List.take_succ_eq_append_getElem hkl, List.take_succ_eq_append_getElem hkm, htk, he]
  · intro hlt
    simp only [List.length_map] at hlt
    have hkl : k = l.length := by omega
    have he : l = m := by
      have := htk
      rwa [hkl, List.take_length, hlen, List.take_length] at this
    refine zC ?_
    apply cr
    refine s_ p_as ?_
    refine zC ?_
    refine zE ?_
    refine Le.of_eq ?_
    rw [show decide (l = m) = true from decide_eq_true he]
    rfl
def numC (n : Nd) : List T := [ei n.id, ei n.term, ei n.vote, ei n.base, ei n.baseTerm, ei n.baseConf, ei n.commit, ei n.role, ei n.wait, ei n.votes] ++ (f5C n.next ++ f5C n.mtch)
set_option maxHeartbeats 4000000 in
theorem of_fn (n : Nd) : FnP Tryz.prog 159 [nd n] (fun r => r = .agg (numC n)) := by
  refine fn_enter Tryz.func159 (by rfl) (by rfl) ?_
  intro S0 w0
  show Sim _ _ [(0, T.agg (nodeC n (.sl false (n.log.map een))))] _ _
  refine zC ?_
  apply cr
  refine e_bx fun b1 _ => ?_
  refine e_al fun b2 _ => ?_
  refine zC ?_
  refine sim_perm (List.Perm.swap _ _ _) ?_
  refine lend1 1 (by simp [nodeC]) ?_
  refine zC ?_
  apply cr
  refine s_ p_fa ?_
  refine s_ p_ld ?_
  refine s_ p_fa ?_
  refine s_ p_ld ?_
  refine s_ p_fa ?_
  refine s_ p_ld ?_
  refine s_ p_fa ?_
  refine s_ p_ld ?_
  refine s_ p_fa ?_
  refine s_ p_ld ?_
  refine s_ p_fa ?_
  refine s_ p_ld ?_
  refine s_ p_fa ?_
  refine s_ p_ld ?_
  refine s_ p_fa ?_
  refine s_ p_ld ?_
  refine s_ p_fa ?_
  refine s_ p_ld ?_
  refine s_ p_fa ?_
  refine s_ p_ld ?_
  refine s_ p_faA ?_
  refine s_ p_la ?_
  refine s_ p_faA ?_
  refine s_ p_la ?_
  refine s_ (p_bR 20) ?_
  refine e_st ?_
  refine zC ?_
  refine zE ?_
  exact Le.refl _
theorem same_iff (a b : Nd) : ((numC a).map (fun x => match x with | .v y => y | _ => undef) = (numC b).map (fun x => match x with | .v y => y | _ => undef) ∧ a.snap = b.snap) ∧ a.log = b.log ↔ a = b := by
  constructor
  · rintro ⟨⟨h, h1⟩, h2⟩
    obtain ⟨_, _, _, _, _, _, _, _, _, _, _, _, ⟨_, _, _, _, _⟩, ⟨_, _, _, _, _⟩⟩ := a
    obtain ⟨_, _, _, _, _, _, _, _, _, _, _, _, ⟨_, _, _, _, _⟩, ⟨_, _, _, _, _⟩⟩ := b
    simp only [numC, f5C, ei, List.map_cons, List.map_nil, List.cons_append, List.nil_append, List.cons.injEq, Value.int.injEq, true_and, and_true] at h
    simp only at h1 h2
    simp only [Nd.mk.injEq, F5.mk.injEq]
    simp_all
  · rintro rfl; simp
set_option maxHeartbeats 1000000 in
theorem same_fn (a b : Nd) (ha : a.log.length ≤ 1000000000) (hb : b.log.length ≤ 1000000000) : FnP Tryz.prog 139 [nd a, nd b] (fun r => r = .v (.bool (decide (a = b)))) := by
  have h1 := of_fn a
  have h2 := of_fn b
  have he := equal_fn false false a.log b.log ha hb
  refine fn_enter Tryz.func139 (by rfl) (by rfl) ?_
  intro S0 w0
  show Sim _ _ [(0, T.agg (nodeC a (.sl false (a.log.map een)))), (1, T.agg (nodeC b (.sl false (b.log.map een))))] _ _
  refine zC ?_
  apply cr
  refine e_bx fun b2 _ => ?_
  refine e_bx fun b3 _ => ?_
  refine s_ p_as ?_
  refine zC ?_
  refine lend1 3 (by simp [nodeC]) ?_
  refine lend1 2 (by simp [nodeC]) ?_
  refine zC ?_
  refine ca [0, 1, 2, 3, 4, 5, 6, 7, 8, 9, 10, 11, 12, 13, 14, 15, 16, 17, 18, 19] [] ?_
  refine a_ (fun _ => p_la) ?_
  refine a_ (fun _ => p_ca (h1)) ?_
  refine a_ (fun _ => p_la) ?_
  refine a_ (fun _ => p_ca (h2)) ?_
  refine a_ (fun _ => p_eqD 3 [.int .i64, .int .i64, .int .i64, .int .i64, .int .i64, .int .i64, .int .i64, .int .i64, .int .i64, .int .i64, .int .i64, .int .i64, .int .i64, .int .i64, .int .i64, .int .i64, .int .i64, .int .i64, .int .i64, .int .i64] Tryz.eqGuardType200) ?_
  refine a_ (fun _ => p_mv) ?_
  refine ag_T (fun _ hg => p_fa) ?_
  refine ag_T (fun _ hg => p_ld (hx := u_ hg)) ?_
  refine ag_T (fun _ hg => p_fa) ?_
  refine ag_T (fun _ hg => p_ld (hx := u_ hg)) ?_
  refine ag_T (fun _ hg => p_eqS (hx := u_ hg) (hy := u_ hg)) ?_
  refine a_ (fun _ => p_an) ?_
  refine a_ (fun _ => p_mv) ?_
  refine ag_T (fun _ hg => p_fa) ?_
  refine ag_T (fun _ hg => p_ld (hx := u_ hg)) ?_
  refine ag_T (fun _ hg => p_fa) ?_
  refine ag_T (fun _ hg => p_ld (hx := u_ hg)) ?_
  refine ag_T (fun _ hg => p_ca (he) (ha' := by apply evl_cons (u_ hg); apply evl_cons (u_ hg); exact evl_nil)) ?_
  refine a_ (fun _ => p_an) ?_
  refine a_ (fun _ => p_as) ?_
  apply an
  refine zC ?_
  refine zE ?_
  refine Le.of_eq (congrArg (fun z => T.v (.bool z)) ?_)
  rw [decide_eq_decide]
  exact same_iff a b
end Go.Proofs.YtjbokbikkcfjjaaGreat
end
section
set_option maxRecDepth 4000
namespace Go.Proofs.YtjbokbikkcfjjaaGreat
open Go.Cap
set_option linter.unusedSimpArgs false
set_option linter.unusedVariables false
attribute [local irreducible] POp SimFrom DrawFrom EOp Sim FnH T.gp
theorem clone_fnD (f : Bool) (l : List En) (hl : l.length ≤ 1000000000) : FnP Tryz.prog 72 [.sl f (l.map een)] (fun r => r = eens l) :=
  FnH.give (clone_fn f l hl) (by rintro r H ⟨v, rfl, ho⟩; exact ho.lend fun _ h => h)
def wakeF (n : Nd) : Nd := { n with role := 0, wait := 0, votes := 0, next := .all 0, mtch := .all 0 }
theorem wake_fn (n : Nd) (hl : n.log.length ≤ 1000000000) : FnP Tryz.prog 68 [nd n] (fun r => r = nd (wakeF n)) := by
  have hc := clone_fnD false n.log hl
  refine fn_enter Tryz.func68 (by rfl) (by rfl) ?_
  intro S0 w0
  show Sim _ _ [(0, T.agg (nodeC n (.sl false (n.log.map een))))] _ _
  refine zC ?_
  apply cr
  refine e_bx fun b1 _ => ?_
  refine e_al fun b2 _ => ?_
  refine zC ?_
  refine sim_perm (List.Perm.swap _ _ _) ?_
  refine lend1 1 (by simp [nodeC]) ?_
  refine zC ?_
  refine ca [0, 1, 2, 3, 4, 5, 6, 7, 8, 9, 10, 11, 12, 13, 14, 15, 16, 17, 18, 19, 20] [20] ?_
  refine a_ (fun _ => p_fa) ?_
  refine a_ (fun _ => p_ld) ?_
  refine a_ (fun _ => p_fa) ?_
  refine a_ (fun _ => p_ld) ?_
  refine a_ (fun _ => p_fa) ?_
  refine a_ (fun _ => p_ld) ?_
  refine a_ (fun _ => p_fa) ?_
  refine a_ (fun _ => p_ld) ?_
  refine a_ (fun _ => p_fa) ?_
  refine a_ (fun _ => p_ld) ?_
  refine a_ (fun _ => p_fa) ?_
  refine a_ (fun _ => p_ld) ?_
  refine a_ (fun _ => p_fa) ?_
  refine a_ (fun _ => p_ld) ?_
  refine a_ (fun _ => p_fa) ?_
  refine a_ (fun _ => p_ld) ?_
  refine a_ (fun _ => p_ca (hc)) ?_
  refine a_ (fun _ => p_fa) ?_
  refine a_ (fun _ => p_ld) ?_
  refine a_ (fun _ => p_bR 22) ?_
  refine a_st ?_
  apply an
  refine zC ?_
  refine zE ?_
  exact Le.refl _
def propF (n : Nd) (cmd : List UInt8) : Nd × Int × Int := if ¬ n.role = 2 then (n, 0, 21) else if cmd = [] then (n, 0, 1) else (putF n ⟨0, 0, cmd⟩, n.base + (n.log.length + 1), 0)
set_option maxHeartbeats 1000000 in
theorem prop_fn {n : Nd} (cmd : List UInt8) (hn : Bd n) (hl : n.log.length < 100000000) : FnP Tryz.prog 71 [nd n, es cmd] (fun r => r = .tup [nd (propF n cmd).1, ei (propF n cmd).2.1, ei (propF n cmd).2.2]) := by
  have hW := work_fn n (bd_len n hn)
  refine fn_enter Tryz.func71 (by rfl) (by rfl) ?_
  intro S0 w0
  show Sim _ _ [(0, T.agg (nodeC n (.sl false (n.log.map een)))), (1, es cmd)] _ _
  refine zC ?_
  apply cr
  refine e_bx fun b2 _ => ?_
  refine e_al fun b4 _ => ?_
  refine s_ p_as ?_
  refine s_ p_as ?_
  refine zC ?_
  refine sim_perm (List.Perm.swap _ _ _) ?_
  refine lend1 2 (by simp [nodeC]) ?_
  refine zC ?_
  apply cr
  refine s_ p_la ?_
  refine e_cH (Hs := []) (Hr := [_]) hW (.refl _) (fun r H' ⟨b, hr, hw⟩ => ?_)
  subst hr
  have hw' := hw
  obtain ⟨vl, vo, Hl, Ho, h1, h2, rfl⟩ := hw
  obtain ⟨p, c, rfl⟩ := h1.len
  obtain ⟨q, d, rfl⟩ := h2.len
  refine s_ p_as ?_
  refine zC ?_
  apply cr
  refine s_ p_mv ?_
  refine s_ p_nc ?_
  refine s_ p_fr ?_
  refine s_ p_fr ?_
  refine s_ p_lo ?_
  refine s_ p_ne ?_
  refine s_ p_as ?_
  refine zC ?_
  refine ci ?_ ?_
  · intro hr
    refine zC ?_
    apply cr
    refine s_ p_mv ?_
    refine s_ p_nc ?_
    refine s_ p_fr ?_
    refine s_ p_loa ?_
    refine from_lend1 (G := (b, _) :: (Hl ++ (Ho ++ []))) (H1 := [_]) 20 (nd n) (Lends.agg (node_lends n (h1.lend (by intro p hp; simp [hp])))) ?_ (.refl _)
    refine e_st ?_
    refine s_ p_as ?_
    refine s_ p_as ?_
    refine zC ?_
    refine zC ?_
    refine zE ?_
    rw [propF, if_pos hr]
    exact Le.refl _
  intro hr
  refine zC ?_
  apply cr
  refine s_ p_mv ?_
  refine s_ p_eqS ?_
  refine s_ p_as ?_
  refine zC ?_
  refine ci ?_ ?_
  · intro hc
    refine zC ?_
    apply cr
    refine s_ p_mv ?_
    refine s_ p_nc ?_
    refine s_ p_fr ?_
    refine s_ p_loa ?_
    refine from_lend1 (G := (b, _) :: (Hl ++ (Ho ++ []))) (H1 := [_]) 27 (nd n) (Lends.agg (node_lends n (h1.lend (by intro p hp; simp [hp])))) ?_ (.refl _)
    refine e_st ?_
    refine s_ p_as ?_
    refine s_ p_as ?_
    refine zC ?_
    refine zC ?_
    refine zE ?_
    rw [propF, if_neg hr, if_pos hc]
    exact Le.refl _
  intro hc
  refine zC ?_
  apply cr
  refine s_ p_mv ?_
  refine s_ p_mv ?_
  refine s_ (p_bd 3 [_, _, _]) ?_
  refine e_cH (FnH.of_le ?_ (put_fn ⟨0, 0, cmd⟩ hn hl (by simp) (by simp) hw')) (.refl _) (fun r H' ⟨hr1, hr2⟩ => ?_)
  · ((repeat (apply LeL.cons; (first | exact Le.refl _ | exact Le.nil _ | exact Le.full _ _ | exact Le.any _ | (apply Le.agg; (repeat (apply LeL.cons; (first | exact Le.refl _ | exact Le.nil _ | exact Le.full _ _ | exact Le.any _))); exact LeL.nil) | (apply Le.tup; (repeat (apply LeL.cons; (first | exact Le.refl _ | exact Le.nil _ | exact Le.full _ _ | exact Le.any _ | (apply Le.agg; (repeat (apply LeL.cons; (first | exact Le.refl _ | exact Le.nil _ | exact Le.full _ _ | exact Le.any _))); exact LeL.nil)))); exact LeL.nil)))); exact LeL.nil)
  subst hr1 hr2
  refine s_ p_ex ?_
  refine s_ p_ex ?_
  refine s_ p_ex ?_
  refine e_st ?_
  refine s_ p_as ?_
  refine s_ p_as ?_
  refine zC ?_
  refine zE ?_
  rw [propF, if_neg hr, if_neg hc]
  exact Le.refl _
end Go.Proofs.YtjbokbikkcfjjaaGreat
end
section
set_option maxRecDepth 16000
namespace Go.Proofs.YtjbokbikkcfjjaaGreat
open Go.Cap
set_option linter.unusedSimpArgs false
set_option linter.unusedVariables false
attribute [local irreducible] POp SimFrom DrawFrom EOp Sim FnH T.gp
def pfx : List En → List En → Nat
  | x :: xs, y :: ys => if x = y then pfx xs ys + 1 else 0
  | _, _ => 0
def alikeF (a b : Nd) : Nat := if a.base = b.base then pfx a.log b.log else 0
theorem pfx_le : ∀ (a b : List En), pfx a b ≤ a.length ∧ pfx a b ≤ b.length
  | [], b => by simp [pfx]
  | _ :: _, [] => by simp [pfx]
  | x :: xs, y :: ys => by
    have := pfx_le xs ys
    unfold pfx
    split
    · simp only [List.length_cons]; omega
    · simp
theorem pfx_next {a b : List En} {k : Nat} (h1 : k < a.length) (h2 : k < b.length) : pfx (a.drop k) (b.drop k) = if a[k] = b[k] then pfx (a.drop (k + 1)) (b.drop (k + 1)) + 1 else 0 := by
  rw [List.drop_eq_getElem_cons h1, List.drop_eq_getElem_cons h2, pfx]
theorem pfx_end {a b : List En} {k : Nat} (h : ¬ (k < a.length ∧ k < b.length)) : pfx (a.drop k) (b.drop k) = 0 := by
  have := pfx_le (a.drop k) (b.drop k)
  simp only [List.length_drop] at this
  omega
set_option maxHeartbeats 2000000 in
theorem alike_fn (a b : Nd) (ha : a.log.length ≤ 1000000000) (hb : b.log.length ≤ 1000000000) : FnP Tryz.prog 142 [nd a, nd b] (fun r => r = ei (alikeF a b)) := by
  refine fn_enter Tryz.func142 (by rfl) (by rfl) ?_
  intro S0 w0
  show Sim _ _ [(0, T.agg (nodeC a (.sl false (a.log.map een)))), (1, T.agg (nodeC b (.sl false (b.log.map een))))] _ _
  refine zC ?_
  apply cr
  refine e_bx fun b2 _ => ?_
  refine e_bx fun b3 _ => ?_
  refine s_ p_as ?_
  refine zC ?_
  apply cr
  refine s_ p_fr ?_
  refine s_ p_lo ?_
  refine s_ p_fr ?_
  refine s_ p_lo ?_
  refine s_ p_ne ?_
  refine zC ?_
  refine ci ?_ ?_
  · intro hne
    have hne' : ¬ a.base = b.base := hne
    refine zC ?_
    apply cr
    refine s_ p_as ?_
    refine zC ?_
    refine zE ?_
    rw [alikeF, if_neg hne']
    exact Le.refl _
  intro heq
  have heq' : a.base = b.base := Decidable.not_not.1 heq
  rw [alikeF, if_pos heq']
  refine zC ?_
  apply cr
  refine s_ p_as ?_
  refine zC ?_
  apply sim_loopL (σ := Nat) (ok := fun k => k ≤ a.log.length ∧ pfx a.log b.log = k + pfx (a.log.drop k) (b.log.drop k)) (env := fun k => [(5, ei k), (2, pW b2), (3, pW b3)]) (heap := fun _ => [(b3, ⟨44, nodeC b (.sl false (b.log.map een)), 22⟩), (b2, ⟨44, nodeC a (.sl false (a.log.map een)), 22⟩)]) (μ := fun k => a.log.length - k) (s0 := 0)
  · exact ⟨Nat.zero_le _, by simp⟩
  · exact eL
  · exact kR
  rintro k ⟨hk, hp⟩
  by_cases hin : k < a.log.length ∧ k < b.log.length
  · have hix : k < a.log.length := hin.1
    have hix2 : k < b.log.length := hin.2
    have hnx := pfx_next hix hix2
    refine zC ?_
    refine ca [0, 1, 2, 3, 4, 5, 6, 7, 8, 9, 10, 11, 12, 13, 14, 15, 16, 17, 18, 19, 20, 21, 22, 23, 24] [] ?_
    refine a_ (fun _ => p_mv) ?_
    refine a_ (fun _ => p_fr) ?_
    refine a_lo ?_
    (first | refine a_ (fun _ => p_ln) ?_ | refine a_ (fun _ => p_lr) ?_)
    refine a_ (fun _ => p_lt) ?_
    refine a_ (fun _ => p_mv) ?_
    refine ag_T (fun _ hg => p_mv) ?_
    refine ag_T (fun _ hg => p_fr) ?_
    refine ag_loT ?_
    (first | refine ag_T (fun _ hg => p_ln (hx := u_ hg)) ?_ | refine ag_T (fun _ hg => p_lr (hx := u_ hg)) ?_)
    refine ag_T (fun _ hg => p_lt (hx := u_ hg) (hy := u_ hg)) ?_
    refine a_ (fun _ => p_an) ?_
    refine a_ (fun _ => p_mv) ?_
    refine ag_T (fun _ hg => p_fr) ?_
    refine ag_loT ?_
    refine ag_T (fun _ hg => p_mv) ?_
    (first | refine ag_T (fun _ hg => p_ix hix (hx := u_ hg) (hy := u_ hg)) ?_ | refine ag_T (fun _ hg => p_ix hix2 (hx := u_ hg) (hy := u_ hg)) ?_ | refine ag_T (fun _ hg => p_ia (hx := u_ hg) (hy := u_ hg)) ?_ | refine ag_T (fun _ hg => p_ir (hx := u_ hg) (hy := u_ hg)) ?_)
    (first | refine ag_T (fun _ hg => p_la (hx := u_ hg)) ?_ | refine ag_loaT ?_)
    refine ag_T (fun _ hg => p_fr) ?_
    refine ag_loT ?_
    refine ag_T (fun _ hg => p_mv) ?_
    (first | refine ag_T (fun _ hg => p_ix hix (hx := u_ hg) (hy := u_ hg)) ?_ | refine ag_T (fun _ hg => p_ix hix2 (hx := u_ hg) (hy := u_ hg)) ?_ | refine ag_T (fun _ hg => p_ia (hx := u_ hg) (hy := u_ hg)) ?_ | refine ag_T (fun _ hg => p_ir (hx := u_ hg) (hy := u_ hg)) ?_)
    (first | refine ag_T (fun _ hg => p_la (hx := u_ hg)) ?_ | refine ag_loaT ?_)
    refine ag_T (fun _ hg => p_eqD 2 [.int .i64, .int .i64, .str] Tryz.eqGuardType84 (hx := u_ hg) (hy := u_ hg)) ?_
    refine a_ (fun _ => p_an) ?_
    apply an
    refine zC ?_
    refine ci ?_ ?_
    · intro hc
      have he : a.log[k] = b.log[k] := by
        exact eenV_inj.1 hc.2
      rw [if_pos he] at hnx
      refine zC ?_
      apply cr
      refine s_ p_mv ?_
      refine s_ p_ad ?_
      refine s_ p_as ?_
      refine zC ?_
      refine ⟨k + 1, ⟨by omega, by rw [hp, hnx]; omega⟩, (by simp only []; omega), ⟨?_, eL⟩, kR⟩
      apply le_get; ((repeat (apply gS; rfl)); exact gZ)
      exact Le.refl _
    · intro hc
      have he : ¬ a.log[k] = b.log[k] := fun h => hc ⟨⟨by simp only [List.length_map]; omega, by simp only [List.length_map]; omega⟩, eenV_inj.2 h⟩
      rw [if_neg he] at hnx
      refine zC ?_
      apply cr
      refine s_ p_mv ?_
      refine s_ p_as ?_
      refine zC ?_
      refine zE ?_
      rw [hp, hnx]
      exact Le.refl _
  · have hno : ¬ ((k : Int) < ((a.log.map een).length : Nat) ∧ (k : Int) < ((b.log.map een).length : Nat)) := by
      simp only [List.length_map]; omega
    refine zC ?_
    refine ca [0, 1, 2, 3, 4, 5, 6, 7, 8, 9, 10, 11, 12, 13, 14, 15, 16, 17, 18, 19, 20, 21, 22, 23, 24] [] ?_
    refine a_ (fun _ => p_mv) ?_
    refine a_ (fun _ => p_fr) ?_
    refine a_lo ?_
    (first | refine a_ (fun _ => p_ln) ?_ | refine a_ (fun _ => p_lr) ?_)
    refine a_ (fun _ => p_lt) ?_
    refine a_ (fun _ => p_mv) ?_
    refine ag_T (fun _ hg => p_mv) ?_
    refine ag_T (fun _ hg => p_fr) ?_
    refine ag_loT ?_
    (first | refine ag_T (fun _ hg => p_ln (hx := u_ hg)) ?_ | refine ag_T (fun _ hg => p_lr (hx := u_ hg)) ?_)
    refine ag_T (fun _ hg => p_lt (hx := u_ hg) (hy := u_ hg)) ?_
    refine a_ (fun _ => p_an) ?_
    refine a_ (fun _ => p_mv) ?_
    refine ag_T (fun _ hg => p_fr) ?_
    refine ag_loT ?_
    refine ag_T (fun _ hg => p_mv) ?_
    refine ag_T (d := .any) (fun _ hg => absurd hg hno) ?_
    refine ag_T (d := .any) (fun _ hg => absurd hg hno) ?_
    refine ag_T (fun _ hg => p_fr) ?_
    refine ag_loT ?_
    refine ag_T (fun _ hg => p_mv) ?_
    refine ag_T (d := .any) (fun _ hg => absurd hg hno) ?_
    refine ag_T (d := .any) (fun _ hg => absurd hg hno) ?_
    refine ag_T (d := .v (.bool (decide False))) (fun _ hg => absurd hg hno) ?_
    refine a_ (fun _ => p_an) ?_
    apply an
    refine zC ?_
    refine ci ?_ ?_
    · intro hc; exact absurd hc.1 hno
    intro _
    refine zC ?_
    apply cr
    refine s_ p_mv ?_
    refine s_ p_as ?_
    refine zC ?_
    refine zE ?_
    rw [hp, pfx_end hin]
    exact Le.refl _
theorem kown_fn (n : Nd) (hl : n.log.length ≤ 1000000000) : FnP Tryz.prog 44 [nd n] (fun r => r = nd n) := by
  have hc := clone_fnD false n.log hl
  refine fn_enter Tryz.func44 (by rfl) (by rfl) ?_
  intro S0 w0
  show Sim _ _ [(0, T.agg (nodeC n (.sl false (n.log.map een))))] _ _
  refine zC ?_
  apply cr
  refine e_bx fun b1 _ => ?_
  refine e_al fun b2 _ => ?_
  refine zC ?_
  apply cr
  refine s_ p_fr ?_
  refine s_ p_lo ?_
  refine s_ (p_ca (hc)) ?_
  refine s_ p_fr ?_
  refine e_st ?_
  refine zC ?_
  apply cr
  refine s_ p_loa ?_
  refine e_st ?_
  refine zC ?_
  refine zE ?_
  exact Le.refl _
end Go.Proofs.YtjbokbikkcfjjaaGreat
end
section
set_option maxRecDepth 16000
namespace Go.Cap
section
variable {P : Program} {t : Env} {H : Heap} {dst : Option Tmp} {tp : TypeId} {pos : String} {aft : Array Edge} {g : Option (Nat × Bool)} {ty : TypeId} {x : Operand} {k : IntKind} {a : Int}
theorem pop_com (hx : t.ev x = .v (.int .u32 a)) : POp P t H ⟨dst, .unOp .xor ty x, tp, pos, aft, g⟩ (.v (.int .u32 (bXor .u32 4294967295 a))) :=
  POp.still fun S w a' _ _ hr => by
    have h1 := hr x (by simp [Op.operands]); rw [hx] at h1
    exact ⟨.int .u32 (bXor .u32 4294967295 a), by simp only [execOp]; rw [h1.v_eq]; rfl, .v _⟩
theorem p_com (hx : autoParam (t.ev x = .v (.int .u32 a)) zl._auto_1) : POp P t H ⟨dst, .unOp .xor ty x, tp, pos, aft, g⟩ (.v (.int .u32 (bXor .u32 4294967295 a))) := pop_com hx
end
end Go.Cap
namespace Go.Proofs.YtjbokbikkcfjjaaGreat
open Go.Cap
set_option linter.unusedSimpArgs false
set_option linter.unusedVariables false
attribute [local irreducible] POp SimFrom DrawFrom EOp Sim FnH T.gp
def crcStep (c : Int) : Int := bXor .u32 (bShr .u32 c 1) (IntKind.u32.wrap (3988292384 * bAnd .u32 c 1))
def crcN : Nat → Int → Int
  | 0, c => c
  | k + 1, c => crcStep (crcN k c)
def crcAdd (c : Int) (x : UInt8) : Int := crcN 8 (bXor .u32 c (IntKind.u32.wrap (x.toNat : Int)))
def crcL (l : List UInt8) : Int := l.foldl crcAdd 4294967295
def crcF (l : List UInt8) : Int := bXor .u32 4294967295 (crcL l)
theorem crcL_next (l : List UInt8) {k : Nat} (hk : k < l.length) : crcL (l.take (k + 1)) = crcAdd (crcL (l.take k)) l[k] := by
  unfold crcL
  rw [List.take_succ_eq_append_getElem hk, List.foldl_append]
  rfl
theorem u32_range (a : Int) : 0 ≤ IntKind.u32.wrap a ∧ IntKind.u32.wrap a < 4294967296 := by
  simp [IntKind.wrap, IntKind.bits, IntKind.signed]
  omega
theorem crcF_range (l : List UInt8) : 0 ≤ crcF l ∧ crcF l < 4294967296 := u32_range _
def tS : TypeId := 191
def CrH (b : Nat) (c : Int) : Heap := [(b, ⟨tS, [.v (.int .u32 c)], 1⟩)]
theorem cadd_fn (b : Nat) (c : Int) (x : UInt8) : FnH Tryz.prog 153 [pW b, eb x] (CrH b c) (fun r H => r = .tup [] ∧ H = CrH b (crcAdd c x)) := by
  refine fn_enter Tryz.func153 (by rfl) (by rfl) ?_
  intro S0 w0
  show Sim _ _ [(0, pW b), (1, eb x)] (CrH b c) _
  unfold CrH
  refine zC ?_
  apply cr
  refine s_ p_mv ?_
  refine s_ p_nc ?_
  refine s_ p_lo ?_
  refine s_ p_mv ?_
  refine s_ p_cv ?_
  refine s_ p_xor ?_
  refine s_ p_nc ?_
  refine e_st ?_
  refine zC ?_
  apply cr
  refine s_ p_mv ?_
  refine zC ?_
  apply sim_loopL (σ := Nat) (ok := fun k => k ≤ 8) (env := fun k => [(11, ei k), (0, pW b)]) (heap := fun k => [(b, ⟨tS, [.v (.int .u32 (crcN k (bXor .u32 c (IntKind.u32.wrap (x.toNat : Int)))))], 1⟩)]) (μ := fun k => 8 - k) (s0 := 0)
  · exact Nat.zero_le _
  · exact eL
  · exact kR
  intro k hk
  refine zC ?_
  apply cr
  refine s_ p_lt ?_
  refine zC ?_
  refine ci ?_ ?_
  · intro hlt
    refine zC ?_
    refine ca [0, 1, 2, 3, 4, 5, 6, 7, 8, 9, 10, 11, 12] [12] ?_
    refine a_ (fun _ => p_mv) ?_
    refine a_ (fun _ => p_mv) ?_
    refine a_ (fun _ => p_nc) ?_
    refine a_lo ?_
    refine a_ (fun _ => p_shr) ?_
    refine a_ (fun _ => p_mv) ?_
    refine a_ (fun _ => p_nc) ?_
    refine a_lo ?_
    refine a_ (fun _ => p_and) ?_
    refine a_ (fun _ => p_muw) ?_
    refine a_ (fun _ => p_xor) ?_
    refine a_ (fun _ => p_nc) ?_
    refine a_st ?_
    apply an
    refine zC ?_
    apply cr
    refine s_ p_ad ?_
    refine s_ p_mv ?_
    refine zC ?_
    refine ⟨k + 1, by omega, (by simp only []; omega), ⟨?_, eL⟩, kR⟩
    apply le_get; ((repeat (apply gS; rfl)); exact gZ)
    exact Le.refl _
  · intro hge
    have : k = 8 := by omega
    subst this
    refine zC ?_
    exact rhn kR ⟨rfl, rfl⟩ (Le.refl _)
theorem crc_fn (f : Bool) (l : List UInt8) (hl : l.length ≤ 1000000000000) : FnP Tryz.prog 126 [.sl f (l.map eb)] (fun r => r = .v (.int .u32 (crcF l))) := by
  refine fn_enter Tryz.func126 (by rfl) (by rfl) ?_
  intro S0 w0
  show Sim _ _ [(0, T.sl f (l.map eb))] _ _
  refine zC ?_
  apply cr
  refine s_ p_as ?_
  refine zC ?_
  apply cr
  refine e_al fun b3 _ => ?_
  refine e_st ?_
  refine zC ?_
  apply cr
  refine s_ p_mf ?_
  refine s_ p_as ?_
  refine zC ?_
  apply cr
  refine s_ p_mv ?_
  (first | refine s_ p_ln ?_ | refine s_ p_lr ?_)
  refine s_ p_mv ?_
  refine zC ?_
  apply sim_loopL (σ := Nat) (ok := fun k => k ≤ l.length) (env := fun k => [(10, ei k), (9, ei (l.length : Nat)), (8, .sl f (l.map eb)), (4, .clo 153 [pW b3] []), (3, pW b3)]) (heap := fun k => CrH b3 (crcL (l.take k))) (μ := fun k => l.length - k) (s0 := 0)
  · exact Nat.zero_le _
  · refine ⟨?_, ?_, eL⟩
    · apply le_get; ((repeat (apply gS; rfl)); exact gZ)
      exact Le.refl _
    · apply le_get; ((repeat (apply gS; rfl)); exact gZ)
      exact Le.of_eq (by simp [ei])
  · exact kR
  intro k hk
  refine zC ?_
  apply cr
  refine s_ p_lt ?_
  refine zC ?_
  refine ci ?_ ?_
  · intro hlt
    have hlt' : k < l.length := by omega
    refine zC ?_
    apply cr
    (first | refine s_ (p_ix hix) ?_ | refine s_ (p_ix hix2) ?_ | refine s_ p_ia ?_ | refine s_ p_ir ?_)
    (first | refine s_ p_ld ?_ | refine s_ p_lo ?_)
    refine s_ p_as ?_
    refine zC ?_
    apply cr
    refine s_ p_mv ?_
    refine s_ p_mv ?_
    refine e_vH (fs := [pW b3]) (args := [eb l[k]]) (cs := []) (cadd_fn b3 (crcL (l.take k)) l[k]) (Hr := []) perm0 (fun r H' ⟨hr1, hr2⟩ => ?_)
    subst hr1 hr2
    
    refine zC ?_
    apply cr
    refine s_ p_ad ?_
    refine s_ p_mv ?_
    refine zC ?_
    refine ⟨k + 1, by omega, (by simp only []; omega), ⟨?_, eL⟩, ?_⟩
    · apply le_get; ((repeat (apply gS; rfl)); exact gZ)
      exact Le.refl _
    · rw [List.append_nil, ← crcL_next _ hlt']; exact kR
  · intro hge
    have hke : k = l.length := by omega
    subst hke
    rw [List.take_length]
    unfold CrH
    refine zC ?_
    apply cr
    refine s_ p_lo ?_
    refine s_ p_com ?_
    refine s_ p_as ?_
    refine zC ?_
    refine zE ?_
    exact Le.refl _
def fourF (n : Int) : List UInt8 := [UInt8.ofNat (n.toNat % 256), UInt8.ofNat (n.toNat / 256 % 256), UInt8.ofNat (n.toNat / 65536 % 256), UInt8.ofNat (n.toNat / 16777216 % 256)]
theorem u8_wrap (n : Nat) : IntKind.u8.wrap (n : Int) = ((UInt8.ofNat (n % 256)).toNat : Int) := by
  simp [IntKind.wrap, IntKind.bits, IntKind.signed]
theorem shr_u32 (n : Nat) {j : Int} {k : Nat} (hj : 0 ≤ j) (hk : j ≤ 32) (h : 2 ^ j.toNat = k) : bShr .u32 (n : Int) j = ((n / k : Nat) : Int) := by
  unfold bShr
  rw [show min j.toNat IntKind.u32.bits = j.toNat by simp only [IntKind.bits]; omega, show (2 : Int) ^ j.toNat = ((k : Nat) : Int) by rw [← h]; push_cast; rfl, Int.fdiv_eq_ediv_of_nonneg _ (by omega)]
  push_cast
  rfl
theorem four_fn (n : Nat) : FnP Tryz.prog 175 [.v (.int .u32 n)] (fun r => r = .sl true ((fourF n).map eb)) := by
  refine fn_enter Tryz.func175 (by rfl) (by rfl) ?_
  intro S0 w0
  show Sim _ _ [(0, .v (.int .u32 n))] _ _
  refine zC ?_
  apply cr
  refine s_ p_as ?_
  refine zC ?_
  apply cr
  refine s_ p_mv ?_
  refine s_ p_cv ?_
  refine s_ p_mv ?_
  refine s_ p_shr ?_
  refine s_ p_cv ?_
  refine s_ p_mv ?_
  refine s_ p_shr ?_
  refine s_ p_cv ?_
  refine s_ p_mv ?_
  refine s_ p_shr ?_
  refine s_ p_cv ?_
  rw [shr_u32 n (j := 8) (k := 256) (by omega) (by omega) rfl, shr_u32 n (j := 16) (k := 65536) (by omega) (by omega) rfl, shr_u32 n (j := 24) (k := 16777216) (by omega) (by omega) rfl, u8_wrap n, u8_wrap (n / 256), u8_wrap (n / 65536), u8_wrap (n / 16777216)]
  refine s_ p_bs ?_
  refine s_ p_as ?_
  refine zC ?_
  refine zE ?_
  exact Le.refl _
def numF (l : List UInt8) : Int := bOr .u32 (bOr .u32 (bOr .u32 (l.getD 0 0).toNat (bShl .u32 (l.getD 1 0).toNat 8)) (bShl .u32 (l.getD 2 0).toNat 16)) (bShl .u32 (l.getD 3 0).toNat 24)
theorem u32_u8 (x : UInt8) : IntKind.u32.wrap (x.toNat : Int) = (x.toNat : Int) := by
  have := x.toNat_lt
  simp [IntKind.wrap, IntKind.bits, IntKind.signed]
  omega
theorem number4_fn (f : Bool) (l : List UInt8) (hl : 4 ≤ l.length) : FnP Tryz.prog 125 [.sl f (l.map eb)] (fun r => r = .v (.int .u32 (numF l))) := by
  obtain ⟨a, b, c, d, r, rfl⟩ : ∃ a b c d r, l = a :: b :: c :: d :: r := by
    match l, hl with
    | a :: b :: c :: d :: r, _ => exact ⟨a, b, c, d, r, rfl⟩
  refine fn_enter Tryz.func125 (by rfl) (by rfl) ?_
  intro S0 w0
  show Sim _ _ [(0, .sl f ((a :: b :: c :: d :: r).map eb))] _ _
  refine zC ?_
  apply cr
  refine s_ p_as ?_
  refine zC ?_
  refine zC ?_
  refine ca [0, 1, 2, 3, 4, 5, 6, 7, 8, 9, 10, 11, 12, 13, 14, 15, 16, 17, 18, 19, 20, 21, 22] [] ?_
  refine a_ (fun _ => p_mv) ?_
  (first | refine a_ (fun _ => p_ix hix) ?_ | refine a_ (fun _ => p_ix hix2) ?_ | refine a_ (fun _ => p_ia) ?_)
  refine a_ (fun _ => p_ld) ?_
  refine a_ (fun _ => p_cv) ?_
  refine a_ (fun _ => p_mv) ?_
  (first | refine a_ (fun _ => p_ix hix) ?_ | refine a_ (fun _ => p_ix hix2) ?_ | refine a_ (fun _ => p_ia) ?_)
  refine a_ (fun _ => p_ld) ?_
  refine a_ (fun _ => p_cv) ?_
  refine a_ (fun _ => p_shl) ?_
  refine a_ (fun _ => p_oor) ?_
  refine a_ (fun _ => p_mv) ?_
  (first | refine a_ (fun _ => p_ix hix) ?_ | refine a_ (fun _ => p_ix hix2) ?_ | refine a_ (fun _ => p_ia) ?_)
  refine a_ (fun _ => p_ld) ?_
  refine a_ (fun _ => p_cv) ?_
  refine a_ (fun _ => p_shl) ?_
  refine a_ (fun _ => p_oor) ?_
  refine a_ (fun _ => p_mv) ?_
  (first | refine a_ (fun _ => p_ix hix) ?_ | refine a_ (fun _ => p_ix hix2) ?_ | refine a_ (fun _ => p_ia) ?_)
  refine a_ (fun _ => p_ld) ?_
  refine a_ (fun _ => p_cv) ?_
  refine a_ (fun _ => p_shl) ?_
  refine a_ (fun _ => p_oor) ?_
  refine a_ (fun _ => p_as) ?_
  apply an
  refine zC ?_
  refine zE ?_
  exact Le.of_eq (by simp [packT, numF, u32_u8])
theorem wrap_u32 {a : Int} (h0 : 0 ≤ a) (h1 : a < 4294967296) : IntKind.u32.wrap a = a := by
  simp [IntKind.wrap, IntKind.bits, IntKind.signed]
  omega
theorem or32 {a x i k : Nat} (hi : i ≤ 31) (hk : 2 ^ i = k) (ha : a < k) (hx : a + k * x < 4294967296) : bOr .u32 (a : Int) (bShl .u32 (x : Int) (i : Int)) = ((a + k * x : Nat) : Int) := by
  have e2 : bShl .u32 (x : Int) (i : Int) = ((k * x : Nat) : Int) := by
    unfold bShl
    rw [show min ((i : Int)).toNat IntKind.u32.bits = i by simp only [IntKind.bits]; omega]
    have : (x : Int) * 2 ^ i = ((k * x : Nat) : Int) := by rw [← hk]; push_cast; rw [Int.mul_comm]
    rw [this, wrap_u32 (by omega) (by omega)]
  rw [e2]
  unfold bOr
  have e3 : (BitVec.ofInt IntKind.u32.bits (a : Int) ||| BitVec.ofInt IntKind.u32.bits ((k * x : Nat) : Int)).toNat = a + k * x := by
    rw [BitVec.toNat_or, BitVec.toNat_ofInt, BitVec.toNat_ofInt]
    show ((a : Int) % 4294967296).toNat ||| (((k * x : Nat) : Int) % 4294967296).toNat = _
    rw [show ((a : Int) % 4294967296).toNat = a by omega, show (((k * x : Nat) : Int) % 4294967296).toNat = k * x by omega, Nat.or_comm, ← hk, ← Nat.two_pow_add_eq_or_of_lt (by rw [hk]; exact ha) x]
    omega
  rw [e3]
  exact wrap_u32 (by omega) (by omega)
theorem numF_eq (a b c d : UInt8) (r : List UInt8) : numF (a :: b :: c :: d :: r) = ((a.toNat + 256 * b.toNat + 65536 * c.toNat + 16777216 * d.toNat : Nat) : Int) := by
  have ha := a.toNat_lt
  have hb := b.toNat_lt
  have hc := c.toNat_lt
  have hd := d.toNat_lt
  unfold numF
  show bOr .u32 (bOr .u32 (bOr .u32 (a.toNat : Int) (bShl .u32 (b.toNat : Int) ((8 : Nat) : Int))) (bShl .u32 (c.toNat : Int) ((16 : Nat) : Int))) (bShl .u32 (d.toNat : Int) ((24 : Nat) : Int)) = _
  rw [or32 (i := 8) (k := 256) (by omega) rfl (by omega) (by omega), or32 (i := 16) (k := 65536) (by omega) rfl (by omega) (by omega), or32 (i := 24) (k := 16777216) (by omega) rfl (by omega) (by omega)]
theorem numF_range (l : List UInt8) (h : 4 ≤ l.length) : 0 ≤ numF l ∧ numF l < 4294967296 := by
  match l, h with
  | a :: b :: c :: d :: r, _ =>
    have ha := a.toNat_lt
    have hb := b.toNat_lt
    have hc := c.toNat_lt
    have hd := d.toNat_lt
    rw [numF_eq]
    omega
theorem num_four {n : Int} (h0 : 0 ≤ n) (h1 : n < 4294967296) (r : List UInt8) : numF (fourF n ++ r) = n := by
  obtain ⟨m, rfl⟩ := Int.eq_ofNat_of_zero_le h0
  show numF (UInt8.ofNat (m % 256) :: UInt8.ofNat (m / 256 % 256) :: UInt8.ofNat (m / 65536 % 256) :: UInt8.ofNat (m / 16777216 % 256) :: r) = _
  rw [numF_eq]
  simp only [UInt8.toNat_ofNat']
  omega
end Go.Proofs.YtjbokbikkcfjjaaGreat
end
