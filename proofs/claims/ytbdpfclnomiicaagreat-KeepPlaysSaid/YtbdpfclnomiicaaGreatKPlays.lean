/-
  KeepPlays: whatever comes to a kept replica, it does, and sends, what a replica does.
-/
import Derived.Test.YtbdpfclnomiicaaGreatActs
set_option maxRecDepth 16000
namespace Go.Proofs.YtbdpfclnomiicaaGreat
open Go.Cap
set_option linter.unusedSimpArgs false
set_option linter.unusedVariables false
attribute [local irreducible] POp SimFrom DrawFrom EOp Sim FnH T.gp
def playOk (l : List Ak) (n0 : Nd) (s : Nat × Nat × Nat × Kp) : Prop := s.1 ≤ l.length ∧ Easy n0 100000 (6 * s.1) s.2.2.2
set_option maxHeartbeats 8000000 in
theorem kplays_fn (id conf : Int) (l : List Ak) (hl : l.length ≤ 9223372036854775807) (hle : ∀ a ∈ l, a.m.entries.length ≤ 9223372036854775807) : FnP Tryz.prog 3 [ei id, ei conf, .sl false (l.map akT)] (fun r => r = .v (.bool true)) := by
  have fK := known_fn
  have fF := few_fn false l hl hle
  have w5 := within_fn id 5 (by omega) (by omega)
  have w31 := within_fn conf 31 (by omega) (by omega)
  refine fn_enter Tryz.func3 (by rfl) (by rfl) ?_
  intro S0 w0
  show Sim _ _ [(0, ei id), (1, ei conf), (2, T.sl false (l.map akT))] _ _
  (repeat (first | apply cn | apply cq | apply cb | apply ck | apply cl | apply cx))
  apply cr
  refine s_ p_as ?_
  (repeat (first | apply cn | apply cq | apply cb | apply ck | apply cl | apply cx))
  apply cr
  refine s_ (p_ca (fK)) ?_
  refine s_ p_noB ?_
  refine cn ?_
  (repeat (first | apply cn | apply cq | apply cb | apply ck | apply cl | apply cx))
  refine ci (p := False) (fun h => h.elim) (fun _ => ?_)
  (repeat (first | apply cn | apply cq | apply cb | apply ck | apply cl | apply cx))
  apply cr
  refine s_ p_mv ?_
  refine e_cP fF (fun r ⟨b, hr, hF⟩ => ?_)
  subst hr
  refine s_ p_noB ?_
  refine cn ?_
  (repeat (first | apply cn | apply cq | apply cb | apply ck | apply cl | apply cx))
  cases b with
  | false =>
    refine ci (p := True) (fun _ => ?_) (fun h => absurd trivial h)
    (repeat (first | apply cn | apply cq | apply cb | apply ck | apply cl | apply cx))
    apply cr
    refine s_ p_as ?_
    (repeat (first | apply cn | apply cq | apply cb | apply ck | apply cl | apply cx))
    (apply sim_ret; (try simp only [blockΨ_ret, thenΨ_ret, loopL_ret, cutΨ_ret, cutE_ret]); first | refine rt ?_ | refine rn ?_)
    exact Le.refl _
  | true =>
  refine ci (p := False) (fun h => h.elim) (fun _ => ?_)
  obtain ⟨hfew, hl80⟩ := hF rfl
  clear hF fK fF
  (repeat (first | apply cn | apply cq | apply cb | apply ck | apply cl | apply cx))
  apply cr
  refine s_ p_mv ?_
  refine s_ (p_ca (w5)) ?_
  refine s_ p_mv ?_
  refine s_ (p_ca (w31)) ?_
  refine s_ p_ad ?_
  refine s_ p_as ?_
  refine s_ p_as ?_
  (repeat (first | apply cn | apply cq | apply cb | apply ck | apply cl | apply cx))
  obtain ⟨i0, hi0⟩ : ∃ i0, i0 = id % 5 := ⟨_, rfl⟩
  obtain ⟨cf, hcf⟩ : ∃ cf, cf = 1 + conf % 31 := ⟨_, rfl⟩
  have hi1 : 0 ≤ i0 ∧ i0 < 5 := by omega
  have hc1 : 0 ≤ cf ∧ cf ≤ 31 := by omega
  rw [← hi0, ← hcf]
  clear hi0 hcf w5 w31
  have hNew := new_fn i0 cf hi1.1 hi1.2 hc1.1 hc1.2
  (repeat (first | apply cn | apply cq | apply cb | apply ck | apply cl | apply cx))
  apply cr
  refine e_cH (Hs := []) (Hr := []) (newD_fn2 1048576 (by omega) (by omega)) (.refl _) (fun r H ⟨bd, hr, hH⟩ => ?_)
  subst hr hH
  rw [List.append_nil]
  refine s_ p_mv ?_
  refine s_ p_ex ?_
  refine s_ p_ex ?_
  refine s_ p_as ?_
  refine s_ p_as ?_
  (repeat (first | apply cn | apply cq | apply cb | apply ck | apply cl | apply cx))
  have hO := open_new bd i0 cf 1048576 100000 hi1.1 hi1.2 hc1.1 hc1.2 (by omega) (by omega) (by omega) (by omega)
  (repeat (first | apply cn | apply cq | apply cb | apply ck | apply cl | apply cx))
  apply cr
  refine s_ p_mv ?_
  refine s_ p_mv ?_
  refine s_ p_mv ?_
  refine e_cHA hO (fun r H ⟨bk, bj, K, hr, hH, hE, hN, hrm⟩ => ?_)
  subst hr hH
  refine s_ p_mv ?_
  refine s_ p_ex ?_
  refine s_ p_ex ?_
  refine s_ p_as ?_
  refine s_ p_as ?_
  (repeat (first | apply cn | apply cq | apply cb | apply ck | apply cl | apply cx))
  clear hO
  (repeat (first | apply cn | apply cq | apply cb | apply ck | apply cl | apply cx))
  apply cr
  refine s_ p_mv ?_
  refine s_ p_mv ?_
  refine s_ (p_ca (hNew)) ?_
  refine e_al fun b11 _ => ?_
  refine e_st ?_
  (repeat (first | apply cn | apply cq | apply cb | apply ck | apply cl | apply cx))
  (repeat (first | apply cn | apply cq | apply cb | apply ck | apply cl | apply cx))
  apply cr
  refine s_ p_mv ?_
  refine s_ p_ne ?_
  (repeat (first | apply cn | apply cq | apply cb | apply ck | apply cl | apply cx))
  refine ci ?_ ?_
  · intro h; exact absurd rfl h
  intro _
  (repeat (first | apply cn | apply cq | apply cb | apply ck | apply cl | apply cx))
  apply cr
  refine s_ p_as ?_
  (repeat (first | apply cn | apply cq | apply cb | apply ck | apply cl | apply cx))
  apply sim_loopL (σ := Nat × Nat × Nat × Kp) (ok := playOk l (newF i0 cf)) (env := fun s => [(12, ei (s.1 : Nat)), (11, pW b11), (9, pW s.2.1), (7, pW bd), (2, T.sl false (l.map akT)), (1, ei cf), (0, ei i0)]) (heap := fun s => (b11, ⟨nB19, nodeC s.2.2.2.N (eens s.2.2.2.N.log), 22⟩) :: KpH s.2.1 s.2.2.1 bd s.2.2.2) (μ := fun s => l.length - s.1) (s0 := (0, bk, bj, K))
  · exact ⟨Nat.zero_le _, hE⟩
  · exact eL
  · rw [hN]; exact kR
  clear hE hN hrm
  rintro ⟨k, bk, bj, K⟩ ⟨hk, hE⟩
  simp only at hk hE
  show Sim _ _ [(12, ei (k : Nat)), (11, pW b11), (9, pW bk), (7, pW bd), (2, T.sl false (l.map akT)), (1, ei cf), (0, ei i0)] ((b11, ⟨nB19, nodeC K.N (eens K.N.log), 22⟩) :: KpH bk bj bd K) _
  (repeat (first | apply cn | apply cq | apply cb | apply ck | apply cl | apply cx))
  apply cr
  refine s_ p_mv ?_
  refine s_ p_mv ?_
  (first | refine s_ p_ln ?_ | refine s_ p_lr ?_)
  refine s_ p_lt ?_
  (repeat (first | apply cn | apply cq | apply cb | apply ck | apply cl | apply cx))
  refine ci ?_ ?_
  rotate_left
  · intro hlt
    (repeat (first | apply cn | apply cq | apply cb | apply ck | apply cl | apply cx))
    apply cr
    refine s_ p_as ?_
    (repeat (first | apply cn | apply cq | apply cb | apply ck | apply cl | apply cx))
    (apply sim_ret; (try simp only [blockΨ_ret, thenΨ_ret, loopL_ret, cutΨ_ret, cutE_ret]); first | refine rt ?_ | refine rn ?_)
    exact Le.refl _
  intro hlt
  have hix : k < l.length := by simp only [List.length_map] at hlt; omega
  have hw17 := within_fn l[k].kind 17 (by omega) (by omega)
  have hstep : ∀ (t bk bj : Nat) (K' : Kp), Easy (newF i0 cf) 100000 (6 * k + 6) K' → playOk l (newF i0 cf) (k + 1, bk, bj, K') := fun t bk bj K' h => ⟨hix, by show Easy _ _ (6 * (k + 1)) _; rw [Nat.mul_add]; exact h⟩
  (repeat (first | apply cn | apply cq | apply cb | apply ck | apply cl | apply cx))
  apply cr
  refine s_ p_mv ?_
  refine s_ p_mv ?_
  (first | refine s_ (p_ix hix) ?_ | refine s_ (p_ix hix2) ?_ | refine s_ p_ia ?_ | refine s_ p_ir ?_)
  (first | refine s_ p_fa ?_ | refine s_ p_fr ?_)
  (first | refine s_ p_ld ?_ | refine s_ p_lo ?_)
  refine s_ (p_ca (hw17)) ?_
  refine s_ p_ge ?_
  (repeat (first | apply cn | apply cq | apply cb | apply ck | apply cl | apply cx))
  refine ci ?_ ?_
  · intro h15
    have hO := easy_open bd i0 cf hE hNew (wake_new i0 cf) (by simp [newF]) (by omega) (by omega) (by omega)
    (repeat (first | apply cn | apply cq | apply cb | apply ck | apply cl | apply cx))
    apply cr
    refine s_ p_mv ?_
    refine s_ p_mv ?_
    refine s_ p_mv ?_
    refine e_cH (Hr := [_, _, _]) hO (List.perm_append_comm (l₁ := [_, _, _])) (fun r H ⟨bk', bj', K', hr, hH, hE', hN', hrm⟩ => ?_)
    subst hr hH
    refine from_perm (List.perm_append_comm (l₂ := [_, _, _])) ?_
    refine s_ p_mv ?_
    refine s_ p_ex ?_
    refine s_ p_ex ?_
    refine s_ p_as ?_
    refine s_ p_as ?_
    (repeat (first | apply cn | apply cq | apply cb | apply ck | apply cl | apply cx))
    apply cr
    refine s_ p_mv ?_
    refine s_ p_ne ?_
    (repeat (first | apply cn | apply cq | apply cb | apply ck | apply cl | apply cx))
    refine ci ?_ ?_
    · intro h; exact absurd rfl h
    intro _
    have hW := wake_fn K.N (by have := hE.nk.len; omega)
    (repeat (first | apply cn | apply cq | apply cb | apply ck | apply cl | apply cx))
    apply cr
    refine s_ p_loa ?_
    refine s_ (p_ca (hW)) ?_
    refine e_st ?_
    (repeat (first | apply cn | apply cq | apply cb | apply ck | apply cl | apply cx))
    have hNo := kNode_fn bk' bj' bd K' (by have := hE'.nk.len; omega)
    rw [hN'] at hNo
    have hSa := same_fn (wakeF K.N) (wakeF K.N) (by have := hE.nk.wake.len; omega) (by have := hE.nk.wake.len; omega)
    refine sim_cutP (σ := Unit) (ok := fun _ => True) (env := fun _ => (93, .v (.bool (decide (¬ (wakeF K.N) = (wakeF K.N))))) :: [(12, ei (k : Nat)), (11, pW b11), (9, pW bk'), (7, pW bd), (2, T.sl false (l.map akT)), (1, ei cf), (0, ei i0)]) (heap := fun _ => (b11, ⟨nB19, nodeC (wakeF K.N) (eens (wakeF K.N).log), 22⟩) :: KpH bk' bj' bd K') ?_ (fun _ _ => ?_)
    · refine cm [1] (.yields 0 (.yields 2 (.alt 1 (.yields 3 (.yields 4 .done)) .stop))) ?_
      refine m_ (fun _ => p_mv) ?_
      refine m_loa ?_
      refine ⟨?_, ?_⟩
      · refine t_cHr (Hr := [_, _, _]) hNo (List.perm_append_comm (l₁ := [_, _, _])) (fun r H' ⟨hr1, hr2⟩ => ⟨?_, ?_⟩)
        · subst hr1 hr2; exact by (repeat (first | exact trivial | (apply And.intro; focus (intro hb; first | exact trivial | exact noB hb rfl | (repeat (first | exact hZ | apply hS | apply hA))))))
        subst hr1 hr2
        refine m_ (fun _ => p_ca hSa) ?_
        refine m_ (fun _ => p_no) ?_
        exact ⟨(), _, trivial, eL, List.perm_append_comm (l₁ := KpH bk' bj' bd K'), .keep _ _ _ _ _ (BlkLe.refl _) (.skip _ _ _ (.skip _ _ _ kR))⟩
      trivial
    (repeat (first | apply cn | apply cq | apply cb | apply ck | apply cl | apply cx))
    refine ci ?_ ?_
    · intro h; exact absurd rfl h
    intro _
    (repeat (first | apply cn | apply cq | apply cb | apply ck | apply cl | apply cx))
    apply cr
    refine s_ p_mv ?_
    refine s_ p_ad ?_
    refine s_ p_as ?_
    (repeat (first | apply cn | apply cq | apply cb | apply ck | apply cl | apply cx))
    refine ⟨(k + 1, bk', bj', K'), hstep 0 bk' bj' K' ⟨hE'.live, hE'.left, hE'.room, hE'.nk.le (by omega)⟩, (by simp only []; omega), ⟨le_get (by ((repeat (apply gS; rfl)); exact gZ)) (Le.refl _), eL⟩, ?_⟩
    simp only [hN']
    exact kR
  intro h15
  have hak : AkOk l[k] := by
    obtain ⟨h1, h2, h3⟩ := hfew l[k] (List.getElem_mem hix)
    exact ⟨h1, h2, h3⟩
  obtain ⟨x, w, hA, hDo⟩ := do_fn l[k] K.N (6 * k) hak hE.nk (by omega)
  have hDo := hDo bk bj bd K rfl (hE.live.ok (by omega))
  have hrx := hA.nk.rec_
  have hst : ∃ K', keepF K x w = (K', w) ∧ Easy (newF i0 cf) 100000 (6 * k + 6) K' ∧ K'.N = (if w = 0 then x else K.N) := by
    by_cases hw : w = 0
    · subst hw
      obtain ⟨K', e1, e2, e3, e4, e5⟩ := live_step hE.live hE.left hE.room (hA.id.trans hE.live.id) (hA.nk.sz (by omega)) (by omega) (by omega)
      exact ⟨K', e1, ⟨e2, e4, by rw [e5]; exact hE.room, by rw [e3]; exact hA.nk⟩, e3.trans (if_pos rfl).symm⟩
    · exact ⟨K, keepF_err K x hw, ⟨hE.live, hE.left, hE.room, hE.nk.le (by omega)⟩, (if_neg hw).symm⟩
  obtain ⟨K', hkp, hE', hN'⟩ := hst
  rw [doT, hkp] at hDo
  simp only at hDo
  (repeat (first | apply cn | apply cq | apply cb | apply ck | apply cl | apply cx))
  refine sim_cutP (σ := Nat) (ok := fun _ => True) (env := fun s => [(13, pW s), (16, .v (.bool (decide True))), (15, ei w), (14, ei w), (12, ei (k : Nat)), (11, pW b11), (9, pW bk), (7, pW bd), (2, T.sl false (l.map akT)), (1, ei cf), (0, ei i0)])
    (heap := fun s => (s, ⟨nB19, nodeC x (eens x.log), 22⟩) :: (b11, ⟨nB19, nodeC K.N (eens K.N.log), 22⟩) :: KpH bk bj bd K') ?_ (fun b13 _ => ?_)
  · skip
    refine cm [6, 12, 13, 14, 15, 16] (.yields 0 (.yields 1 (.yields 2 (.yields 3 (.yields 4 (.yields 5 (.alt 6 (.yields 7 (.yields 8 (.yields 9 (.yields 10 (.yields 11 (.alt 12 (.alt 13 (.alt 14 (.alt 15 (.alt 16 .done .stop) .stop) .stop) .stop) .stop)))))) (.alt 12 (.alt 6 (.yields 7 (.yields 8 (.yields 9 (.yields 10 (.yields 11 (.alt 13 (.alt 14 (.alt 15 (.alt 16 .done .stop) .stop) .stop) .stop)))))) .stop) .stop)))))))) ?_
    refine m_ (fun _ => p_mv) ?_
    refine m_ (fun _ => p_mv) ?_
    refine m_ (fun _ => p_ix hix) ?_
    refine m_ (fun _ => p_la) ?_
    refine m_ (fun _ => p_mv) ?_
    refine m_loa ?_
    refine ⟨?_, ?_⟩
    · refine t_cHr (Hr := [_]) hDo (List.perm_append_comm (l₁ := [_])) (fun r H' ⟨hr1, hr2⟩ => ⟨?_, ?_⟩)
      · subst hr1 hr2; exact by (repeat (first | exact trivial | (apply And.intro; focus (intro hb; first | exact trivial | exact noB hb rfl | (repeat (first | exact hZ | apply hS | apply hA))))))
      subst hr1 hr2
      refine m_ (fun _ => p_mv) ?_
      refine m_ (fun _ => p_ex) ?_
      refine m_ (fun _ => p_ex) ?_
      refine m_ (fun _ => p_ex) ?_
      refine m_ (fun _ => p_ex) ?_
      refine ⟨?_, ?_⟩
      · refine t_al fun b13 _ => ⟨by (repeat (first | exact trivial | (apply And.intro; focus (intro hb; first | exact trivial | exact noB hb rfl | (repeat (first | exact hZ | apply hS | apply hA)))))), ?_⟩
        refine ⟨?_, ?_⟩
        · refine t_st ?_
          refine ⟨?_, ?_⟩
          · refine t_as ⟨by (repeat (first | exact trivial | (apply And.intro; focus (intro hb; first | exact trivial | exact noB hb rfl | (repeat (first | exact hZ | apply hS | apply hA)))))), ?_⟩
            refine ⟨?_, ?_⟩
            · refine t_as ⟨by (repeat (first | exact trivial | (apply And.intro; focus (intro hb; first | exact trivial | exact noB hb rfl | (repeat (first | exact hZ | apply hS | apply hA)))))), ?_⟩
              refine ⟨?_, ?_⟩
              · refine t_as ⟨by (repeat (first | exact trivial | (apply And.intro; focus (intro hb; first | exact trivial | exact noB hb rfl | (repeat (first | exact hZ | apply hS | apply hA)))))), ?_⟩
                exact ⟨b13, _, trivial, eL, .cons _ List.perm_append_comm, kR⟩
              trivial
            trivial
          trivial
        trivial
      trivial
    refine ⟨?_, ?_⟩
    · refine t_al fun b13 _ => ⟨by (repeat (first | exact trivial | (apply And.intro; focus (intro hb; first | exact trivial | exact noB hb rfl | (repeat (first | exact hZ | apply hS | apply hA)))))), ?_⟩
      refine ⟨?_, ?_⟩
      · refine t_cHr (Hr := [_, _]) hDo (List.perm_append_comm (l₁ := [_, _])) (fun r H' ⟨hr1, hr2⟩ => ⟨?_, ?_⟩)
        · subst hr1 hr2; exact by (repeat (first | exact trivial | (apply And.intro; focus (intro hb; first | exact trivial | exact noB hb rfl | (repeat (first | exact hZ | apply hS | apply hA))))))
        subst hr1 hr2
        refine m_ (fun _ => p_mv) ?_
        refine m_ (fun _ => p_ex) ?_
        refine m_ (fun _ => p_ex) ?_
        refine m_ (fun _ => p_ex) ?_
        refine m_ (fun _ => p_ex) ?_
        refine ⟨?_, ?_⟩
        · refine t_st ?_
          refine ⟨?_, ?_⟩
          · refine t_as ⟨by (repeat (first | exact trivial | (apply And.intro; focus (intro hb; first | exact trivial | exact noB hb rfl | (repeat (first | exact hZ | apply hS | apply hA)))))), ?_⟩
            refine ⟨?_, ?_⟩
            · refine t_as ⟨by (repeat (first | exact trivial | (apply And.intro; focus (intro hb; first | exact trivial | exact noB hb rfl | (repeat (first | exact hZ | apply hS | apply hA)))))), ?_⟩
              refine ⟨?_, ?_⟩
              · refine t_as ⟨by (repeat (first | exact trivial | (apply And.intro; focus (intro hb; first | exact trivial | exact noB hb rfl | (repeat (first | exact hZ | apply hS | apply hA)))))), ?_⟩
                exact ⟨b13, _, trivial, eL, List.perm_append_comm (l₁ := KpH bk bj bd K'), kR⟩
              trivial
            trivial
          trivial
        trivial
      trivial
    trivial
  (repeat (first | apply cn | apply cq | apply cb | apply ck | apply cl | apply cx))
  apply cr
  refine s_ p_mv ?_
  refine s_ p_mv ?_
  refine s_ p_ne ?_
  refine s_ p_mv ?_
  refine gF (fun hg => p_mv) ?_
  refine gF (fun hg => p_no (hx := u_ hg)) ?_
  refine s_ p_or ?_
  (repeat (first | apply cn | apply cq | apply cb | apply ck | apply cl | apply cx))
  refine ci ?_ ?_
  · rintro (h | h)
    · exact absurd rfl h
    · exact absurd h (by simp)
  intro _
  (repeat (first | apply cn | apply cq | apply cb | apply ck | apply cl | apply cx))
  apply cr
  refine s_ p_mv ?_
  refine s_ p_eq ?_
  (repeat (first | apply cn | apply cq | apply cb | apply ck | apply cl | apply cx))
  have hln := hE'.nk.len
  have hNo := kNode_fn bk bj bd K' (by omega)
  rw [hN'] at hNo
  have hSa := same_fn (if w = 0 then x else K.N) (if w = 0 then x else K.N) (by rw [← hN']; omega) (by rw [← hN']; omega)
  refine ci ?_ ?_
  · intro hw
    rw [if_pos hw] at hNo hSa hN'
    (repeat (first | apply cn | apply cq | apply cb | apply ck | apply cl | apply cx))
    apply cr
    refine s_ p_loa ?_
    refine e_st ?_
    (repeat (first | apply cn | apply cq | apply cb | apply ck | apply cl | apply cx))
    refine sim_cutP (σ := Unit) (ok := fun _ => True) (env := fun _ => (93, .v (.bool (decide (¬ x = x)))) :: [(12, ei (k : Nat)), (11, pW b11), (9, pW bk), (7, pW bd), (2, T.sl false (l.map akT)), (1, ei cf), (0, ei i0)]) (heap := fun _ => (b11, ⟨nB19, nodeC x (eens x.log), 22⟩) :: KpH bk bj bd K') ?_ (fun _ _ => ?_)
    · refine cm [1] (.yields 0 (.yields 2 (.alt 1 (.yields 3 (.yields 4 .done)) .stop))) ?_
      refine m_ (fun _ => p_mv) ?_
      refine m_loa ?_
      refine ⟨?_, ?_⟩
      · refine t_cHr (Hr := [_, _]) hNo (List.perm_append_comm (l₁ := [_, _])) (fun r H' ⟨hr1, hr2⟩ => ⟨?_, ?_⟩)
        · subst hr1 hr2; exact by (repeat (first | exact trivial | (apply And.intro; focus (intro hb; first | exact trivial | exact noB hb rfl | (repeat (first | exact hZ | apply hS | apply hA))))))
        subst hr1 hr2
        refine m_ (fun _ => p_ca hSa) ?_
        refine m_ (fun _ => p_no) ?_
        exact ⟨(), _, trivial, eL, List.perm_append_comm (l₁ := KpH bk bj bd K'), .skip _ _ _ (.keep _ _ _ _ _ (BlkLe.refl _) kR)⟩
      trivial
    (repeat (first | apply cn | apply cq | apply cb | apply ck | apply cl | apply cx))
    refine ci ?_ ?_
    · intro h; exact absurd rfl h
    intro _
    (repeat (first | apply cn | apply cq | apply cb | apply ck | apply cl | apply cx))
    apply cr
    refine s_ p_mv ?_
    refine s_ p_ad ?_
    refine s_ p_as ?_
    (repeat (first | apply cn | apply cq | apply cb | apply ck | apply cl | apply cx))
    refine ⟨(k + 1, bk, bj, K'), hstep 0 bk bj K' hE', (by simp only []; omega), ⟨le_get (by ((repeat (apply gS; rfl)); exact gZ)) (Le.refl _), eL⟩, ?_⟩
    simp only [hN']
    exact kR
  · intro hw
    rw [if_neg hw] at hNo hSa hN'
    (repeat (first | apply cn | apply cq | apply cb | apply ck | apply cl | apply cx))
    refine sim_cutP (σ := Unit) (ok := fun _ => True) (env := fun _ => (93, .v (.bool (decide (¬ K.N = K.N)))) :: [(12, ei (k : Nat)), (11, pW b11), (9, pW bk), (7, pW bd), (2, T.sl false (l.map akT)), (1, ei cf), (0, ei i0)]) (heap := fun _ => (b11, ⟨nB19, nodeC K.N (eens K.N.log), 22⟩) :: KpH bk bj bd K') ?_ (fun _ _ => ?_)
    · refine cm [1] (.yields 0 (.yields 2 (.alt 1 (.yields 3 (.yields 4 .done)) .stop))) ?_
      refine m_ (fun _ => p_mv) ?_
      refine m_loa ?_
      refine ⟨?_, ?_⟩
      · refine t_cHr (Hr := [_, _]) hNo (List.perm_append_comm (l₁ := [_, _])) (fun r H' ⟨hr1, hr2⟩ => ⟨?_, ?_⟩)
        · subst hr1 hr2; exact by (repeat (first | exact trivial | (apply And.intro; focus (intro hb; first | exact trivial | exact noB hb rfl | (repeat (first | exact hZ | apply hS | apply hA))))))
        subst hr1 hr2
        refine m_ (fun _ => p_ca hSa) ?_
        refine m_ (fun _ => p_no) ?_
        exact ⟨(), _, trivial, eL, List.perm_append_comm (l₁ := KpH bk bj bd K'), .skip _ _ _ (.keep _ _ _ _ _ (BlkLe.refl _) kR)⟩
      trivial
    (repeat (first | apply cn | apply cq | apply cb | apply ck | apply cl | apply cx))
    refine ci ?_ ?_
    · intro h; exact absurd rfl h
    intro _
    (repeat (first | apply cn | apply cq | apply cb | apply ck | apply cl | apply cx))
    apply cr
    refine s_ p_mv ?_
    refine s_ p_ad ?_
    refine s_ p_as ?_
    (repeat (first | apply cn | apply cq | apply cb | apply ck | apply cl | apply cx))
    refine ⟨(k + 1, bk, bj, K'), hstep 0 bk bj K' hE', (by simp only []; omega), ⟨le_get (by ((repeat (apply gS; rfl)); exact gZ)) (Le.refl _), eL⟩, ?_⟩
    simp only [hN']
    exact kR
end Go.Proofs.YtbdpfclnomiicaaGreat
