/-
  KeepFull: where there is no room nothing is done; what was there stays.
-/
import Derived.Test.YtbdpfclnomiicaaGreatActs
set_option maxRecDepth 16000
namespace Go.Proofs.YtbdpfclnomiicaaGreat
open Go.Cap
set_option linter.unusedSimpArgs false
set_option linter.unusedVariables false
attribute [local irreducible] POp SimFrom DrawFrom EOp Sim FnH T.gp
/-- A kept replica whose power stays, small. -/
structure Tight (n0 : Nd) (R s : Nat) (K : Kp) : Prop where
  live : Live n0 R K
  left : K.d.left = 0
  nk : Nk K.N s
theorem tight_step {n0 : Nd} {R : Nat} {K : Kp} {t : Nd} (h : Live n0 R K) (h0 : K.d.left = 0) (hid : t.id = n0.id) (hsz : Sz t) (hr : (recB t 0).length ≤ R) (hR : R ≤ 4000000) :
    ∃ K' e, keepF K t 0 = (K', e) ∧ Live n0 R K' ∧ K'.d.left = 0 ∧ ((e = 0 ∧ K'.N = t) ∨ (e = 19 ∧ K'.N = K.N)) := by
  have hc := keep_cases h hid hsz hr hR
  generalize keepF K t 0 = w at hc ⊢
  cases hc with
  | ok K' h' hN hl hr' => exact ⟨K', 0, rfl, h', by have := h'.dk.l0; omega, .inl ⟨rfl, hN⟩⟩
  | full K' h' hN hl hr' hf => exact ⟨K', 19, rfl, h', by have := h'.dk.l0; omega, .inr ⟨rfl, hN⟩⟩
  | dead K' hN hl h' hr' => exact absurd hl (by omega)
def fullOk (l : List Ak) (s : Nat × Nat × Nat × Kp) : Prop := s.1 ≤ l.length ∧ Tight (newF 1 7) 100000 (6 * s.1) s.2.2.2
set_option maxHeartbeats 8000000 in
theorem kfull_fn (room : Int) (l : List Ak) (hl : l.length ≤ 9223372036854775807) (hle : ∀ a ∈ l, a.m.entries.length ≤ 9223372036854775807) : FnP Tryz.prog 4 [ei room, .sl false (l.map akT)] (fun r => r = .v (.bool true)) := by
  have fK := known_fn
  have fF := few_fn false l hl hle
  have w3 := within_fn room 3000 (by omega) (by omega)
  refine fn_enter Tryz.func4 (by rfl) (by rfl) ?_
  intro S0 w0
  show Sim _ _ [(0, ei room), (1, T.sl false (l.map akT))] _ _
  (repeat (first | apply cn | apply cq | apply cb | apply ck | apply cl | apply cx))
  apply cr
  refine s_ p_as ?_
  (repeat (first | apply cn | apply cq | apply cb | apply ck | apply cl | apply cx))
  apply cr
  refine s_ (p_ca (fK)) ?_
  refine s_ p_noB ?_
  refine cn ?_
  (repeat (first | apply cn | apply cq | apply cb | apply ck | apply cl | apply cx))
  refine ci (p := False) (fun h => h.elim) (fun _ => ?_)
  (repeat (first | apply cn | apply cq | apply cb | apply ck | apply cl | apply cx))
  apply cr
  refine s_ p_mv ?_
  refine e_cP fF (fun r ⟨b, hr, hF⟩ => ?_)
  subst hr
  refine s_ p_noB ?_
  refine cn ?_
  (repeat (first | apply cn | apply cq | apply cb | apply ck | apply cl | apply cx))
  cases b with
  | false =>
    refine ci (p := True) (fun _ => ?_) (fun h => absurd trivial h)
    (repeat (first | apply cn | apply cq | apply cb | apply ck | apply cl | apply cx))
    apply cr
    refine s_ p_as ?_
    (repeat (first | apply cn | apply cq | apply cb | apply ck | apply cl | apply cx))
    (apply sim_ret; (try simp only [blockΨ_ret, thenΨ_ret, loopL_ret, cutΨ_ret, cutE_ret]); first | refine rt ?_ | refine rn ?_)
    exact Le.refl _
  | true =>
  refine ci (p := False) (fun h => h.elim) (fun _ => ?_)
  obtain ⟨hfew, hl80⟩ := hF rfl
  clear hF fK fF
  have hNew := new_fn 1 7 (by omega) (by omega) (by omega) (by omega)
  have hk0 : Nk (newF 1 7) 0 := new_nk (by omega) (by omega) (by omega) (by omega)
  (repeat (first | apply cn | apply cq | apply cb | apply ck | apply cl | apply cx))
  apply cr
  refine s_ p_mv ?_
  refine s_ (p_ca (w3)) ?_
  refine s_ p_ad ?_
  refine e_cH (Hs := []) (Hr := []) (newD_fn2 (1 + room % 3000) (by omega) (by omega)) (.refl _) (fun r H ⟨bd, hr, hH⟩ => ?_)
  subst hr hH
  rw [List.append_nil]
  refine s_ p_mv ?_
  refine s_ p_ex ?_
  refine s_ p_ex ?_
  refine s_ p_as ?_
  refine s_ p_as ?_
  (repeat (first | apply cn | apply cq | apply cb | apply ck | apply cl | apply cx))
  have hL := new_live (n0 := newF 1 7) (R := 100000) (1 + room % 3000) (wake_new 1 7) (hk0.sz (by omega)) (by have := hk0.rec_; omega) (by omega) (by omega)
  have hO := open_live bd 1 7 hL rfl hNew (wake_new 1 7) (by simp [newF]) (by omega) (hk0.sz (by omega)) (by have := hk0.rec_; show (recB (newF 1 7) 0).length ≤ _; omega)
  (repeat (first | apply cn | apply cq | apply cb | apply ck | apply cl | apply cx))
  apply cr
  refine s_ p_mv ?_
  refine e_cHA hO (fun r H ⟨bk, bj, K, hr, hH, hE, hN, hd⟩ => ?_)
  subst hr hH
  refine s_ p_mv ?_
  refine s_ p_ex ?_
  refine s_ p_ex ?_
  refine s_ p_as ?_
  refine s_ p_as ?_
  (repeat (first | apply cn | apply cq | apply cb | apply ck | apply cl | apply cx))
  clear hO
  (repeat (first | apply cn | apply cq | apply cb | apply ck | apply cl | apply cx))
  apply cr
  refine s_ (p_ca (hNew)) ?_
  refine e_al fun b9 _ => ?_
  refine e_st ?_
  (repeat (first | apply cn | apply cq | apply cb | apply ck | apply cl | apply cx))
  (repeat (first | apply cn | apply cq | apply cb | apply ck | apply cl | apply cx))
  apply cr
  refine s_ p_mv ?_
  refine s_ p_ne ?_
  (repeat (first | apply cn | apply cq | apply cb | apply ck | apply cl | apply cx))
  refine ci ?_ ?_
  · intro h; exact absurd rfl h
  intro _
  (repeat (first | apply cn | apply cq | apply cb | apply ck | apply cl | apply cx))
  apply cr
  refine s_ p_as ?_
  (repeat (first | apply cn | apply cq | apply cb | apply ck | apply cl | apply cx))
  apply sim_loopL (σ := Nat × Nat × Nat × Kp) (ok := fullOk l) (env := fun s => [(10, ei (s.1 : Nat)), (9, pW b9), (7, pW s.2.1), (5, pW bd), (1, T.sl false (l.map akT))]) (heap := fun s => (b9, ⟨nB19, nodeC s.2.2.2.N (eens s.2.2.2.N.log), 22⟩) :: KpH s.2.1 s.2.2.1 bd s.2.2.2) (μ := fun s => l.length - s.1) (s0 := (0, bk, bj, K))
  · exact ⟨Nat.zero_le _, hE, by rw [hd], by rw [hN]; exact hk0⟩
  · exact eL
  · simp only [hN]; exact kR
  rintro ⟨k, bk, bj, K⟩ ⟨hk, hE⟩
  simp only at hk hE
  show Sim _ _ [(10, ei (k : Nat)), (9, pW b9), (7, pW bk), (5, pW bd), (1, T.sl false (l.map akT))] ((b9, ⟨nB19, nodeC K.N (eens K.N.log), 22⟩) :: KpH bk bj bd K) _
  (repeat (first | apply cn | apply cq | apply cb | apply ck | apply cl | apply cx))
  apply cr
  refine s_ p_mv ?_
  refine s_ p_mv ?_
  (first | refine s_ p_ln ?_ | refine s_ p_lr ?_)
  refine s_ p_lt ?_
  (repeat (first | apply cn | apply cq | apply cb | apply ck | apply cl | apply cx))
  refine ci ?_ ?_
  rotate_left
  · intro hlt
    (repeat (first | apply cn | apply cq | apply cb | apply ck | apply cl | apply cx))
    apply cr
    refine s_ p_as ?_
    (repeat (first | apply cn | apply cq | apply cb | apply ck | apply cl | apply cx))
    (apply sim_ret; (try simp only [blockΨ_ret, thenΨ_ret, loopL_ret, cutΨ_ret, cutE_ret]); first | refine rt ?_ | refine rn ?_)
    exact Le.refl _
  intro hlt
  have hix : k < l.length := by simp only [List.length_map] at hlt; omega
  have hw17 := within_fn l[k].kind 17 (by omega) (by omega)
  have hstep : ∀ (t bk bj : Nat) (K' : Kp), Tight (newF 1 7) 100000 (6 * k + 6) K' → fullOk l (k + 1, bk, bj, K') := fun t bk bj K' h => ⟨hix, by show Tight _ _ (6 * (k + 1)) _; rw [Nat.mul_add]; exact h⟩
  (repeat (first | apply cn | apply cq | apply cb | apply ck | apply cl | apply cx))
  apply cr
  refine s_ p_mv ?_
  refine s_ p_mv ?_
  (first | refine s_ (p_ix hix) ?_ | refine s_ (p_ix hix2) ?_ | refine s_ p_ia ?_ | refine s_ p_ir ?_)
  (first | refine s_ p_fa ?_ | refine s_ p_fr ?_)
  (first | refine s_ p_ld ?_ | refine s_ p_lo ?_)
  refine s_ (p_ca (hw17)) ?_
  refine s_ p_ge ?_
  (repeat (first | apply cn | apply cq | apply cb | apply ck | apply cl | apply cx))
  refine ci ?_ ?_
  · intro h15
    have hkw := hE.nk.wake
    have hrw := hkw.rec_
    have hO := open_live bd 1 7 hE.live hE.left hNew (wake_new 1 7) (by simp [newF]) (by omega) (hkw.sz (by omega)) (by omega)
    (repeat (first | apply cn | apply cq | apply cb | apply ck | apply cl | apply cx))
    apply cr
    refine s_ p_mv ?_
    refine e_cH (Hr := [_, _, _]) hO (List.perm_append_comm (l₁ := [_, _, _])) (fun r H ⟨bk', bj', K', hr, hH, hE', hN', hd'⟩ => ?_)
    subst hr hH
    refine from_perm (List.perm_append_comm (l₂ := [_, _, _])) ?_
    refine s_ p_mv ?_
    refine s_ p_ex ?_
    refine s_ p_ex ?_
    refine s_ p_as ?_
    refine s_ p_as ?_
    (repeat (first | apply cn | apply cq | apply cb | apply ck | apply cl | apply cx))
    apply cr
    refine s_ p_mv ?_
    refine s_ p_ne ?_
    (repeat (first | apply cn | apply cq | apply cb | apply ck | apply cl | apply cx))
    refine ci ?_ ?_
    · intro h; exact absurd rfl h
    intro _
    have hW := wake_fn K.N (by have := hE.nk.len; omega)
    (repeat (first | apply cn | apply cq | apply cb | apply ck | apply cl | apply cx))
    apply cr
    refine s_ p_loa ?_
    refine s_ (p_ca (hW)) ?_
    refine e_st ?_
    (repeat (first | apply cn | apply cq | apply cb | apply ck | apply cl | apply cx))
    have hNo := kNode_fn bk' bj' bd K' (by rw [hN']; have := hkw.len; omega)
    rw [hN'] at hNo
    have hSa := same_fn (wakeF K.N) (wakeF K.N) (by have := hkw.len; omega) (by have := hkw.len; omega)
    refine sim_cutP (σ := Unit) (ok := fun _ => True) (env := fun _ => (93, .v (.bool (decide (¬ (wakeF K.N) = (wakeF K.N))))) :: [(10, ei (k : Nat)), (9, pW b9), (7, pW bk'), (5, pW bd), (1, T.sl false (l.map akT))]) (heap := fun _ => (b9, ⟨nB19, nodeC (wakeF K.N) (eens (wakeF K.N).log), 22⟩) :: KpH bk' bj' bd K') ?_ (fun _ _ => ?_)
    · refine cm [1] (.yields 0 (.yields 2 (.alt 1 (.yields 3 (.yields 4 .done)) .stop))) ?_
      refine m_ (fun _ => p_mv) ?_
      refine m_loa ?_
      refine ⟨?_, ?_⟩
      · refine t_cHr (Hr := [_, _, _]) hNo (List.perm_append_comm (l₁ := [_, _, _])) (fun r H' ⟨hr1, hr2⟩ => ⟨?_, ?_⟩)
        · subst hr1 hr2; exact by (repeat (first | exact trivial | (apply And.intro; focus (intro hb; first | exact trivial | exact noB hb rfl | (repeat (first | exact hZ | apply hS | apply hA))))))
        subst hr1 hr2
        refine m_ (fun _ => p_ca hSa) ?_
        refine m_ (fun _ => p_no) ?_
        exact ⟨(), _, trivial, eL, List.perm_append_comm (l₁ := KpH bk' bj' bd K'), .keep _ _ _ _ _ (BlkLe.refl _) (.skip _ _ _ (.skip _ _ _ kR))⟩
      trivial
    (repeat (first | apply cn | apply cq | apply cb | apply ck | apply cl | apply cx))
    refine ci ?_ ?_
    · intro h; exact absurd rfl h
    intro _
    (repeat (first | apply cn | apply cq | apply cb | apply ck | apply cl | apply cx))
    apply cr
    refine s_ p_mv ?_
    refine s_ p_ad ?_
    refine s_ p_as ?_
    (repeat (first | apply cn | apply cq | apply cb | apply ck | apply cl | apply cx))
    refine ⟨(k + 1, bk', bj', K'), hstep 0 bk' bj' K' ⟨hE', by rw [hd']; exact hE.left, by rw [hN']; exact hkw.le (by omega)⟩, (by simp only []; omega), ⟨le_get (by ((repeat (apply gS; rfl)); exact gZ)) (Le.refl _), eL⟩, ?_⟩
    simp only [hN']
    exact kR
  intro h15
  have hak : AkOk l[k] := by
    obtain ⟨h1, h2, h3⟩ := hfew l[k] (List.getElem_mem hix)
    exact ⟨h1, h2, h3⟩
  obtain ⟨x, w, hA, hDo⟩ := do_fn l[k] K.N (6 * k) hak hE.nk (by omega)
  have hDo := hDo bk bj bd K rfl (hE.live.ok (by omega))
  have hrx := hA.nk.rec_
  have hst : ∃ K' e, keepF K x w = (K', e) ∧ Tight (newF 1 7) 100000 (6 * k + 6) K' ∧ ((e = w ∧ K'.N = (if e = 0 then x else K.N)) ∨ (w = 0 ∧ e = 19 ∧ K'.N = K.N)) := by
    by_cases hw : w = 0
    · subst hw
      obtain ⟨K', e, e1, e2, e3, e4⟩ := tight_step hE.live hE.left (hA.id.trans hE.live.id) (hA.nk.sz (by omega)) (by omega) (by omega)
      refine ⟨K', e, e1, ⟨e2, e3, ?_⟩, ?_⟩
      · rcases e4 with ⟨_, h⟩ | ⟨_, h⟩
        · rw [h]; exact hA.nk
        · rw [h]; exact hE.nk.le (by omega)
      · rcases e4 with ⟨h0, h⟩ | ⟨h0, h⟩
        · exact .inl ⟨h0, by rw [if_pos h0]; exact h⟩
        · exact .inr ⟨rfl, h0, h⟩
    · exact ⟨K, w, keepF_err K x hw, ⟨hE.live, hE.left, hE.nk.le (by omega)⟩, .inl ⟨rfl, (if_neg hw).symm⟩⟩
  obtain ⟨K', e, hkp, hE', hcase⟩ := hst
  rw [doT, hkp] at hDo
  simp only at hDo
  (repeat (first | apply cn | apply cq | apply cb | apply ck | apply cl | apply cx))
  refine sim_cutP (σ := Nat) (ok := fun _ => True) (env := fun s => [(11, pW s), (14, .v (.bool (decide True))), (13, ei w), (12, ei e), (10, ei (k : Nat)), (9, pW b9), (7, pW bk), (5, pW bd), (1, T.sl false (l.map akT))])
    (heap := fun s => (s, ⟨nB19, nodeC x (eens x.log), 22⟩) :: (b9, ⟨nB19, nodeC K.N (eens K.N.log), 22⟩) :: KpH bk bj bd K') ?_ (fun b11 _ => ?_)
  · skip
    refine cm [6, 12, 13, 14, 15, 16] (.yields 0 (.yields 1 (.yields 2 (.yields 3 (.yields 4 (.yields 5 (.alt 6 (.yields 7 (.yields 8 (.yields 9 (.yields 10 (.yields 11 (.alt 12 (.alt 13 (.alt 14 (.alt 15 (.alt 16 .done .stop) .stop) .stop) .stop) .stop)))))) (.alt 12 (.alt 6 (.yields 7 (.yields 8 (.yields 9 (.yields 10 (.yields 11 (.alt 13 (.alt 14 (.alt 15 (.alt 16 .done .stop) .stop) .stop) .stop)))))) .stop) .stop)))))))) ?_
    refine m_ (fun _ => p_mv) ?_
    refine m_ (fun _ => p_mv) ?_
    refine m_ (fun _ => p_ix hix) ?_
    refine m_ (fun _ => p_la) ?_
    refine m_ (fun _ => p_mv) ?_
    refine m_loa ?_
    refine ⟨?_, ?_⟩
    · refine t_cHr (Hr := [_]) hDo (List.perm_append_comm (l₁ := [_])) (fun r H' ⟨hr1, hr2⟩ => ⟨?_, ?_⟩)
      · subst hr1 hr2; exact by (repeat (first | exact trivial | (apply And.intro; focus (intro hb; first | exact trivial | exact noB hb rfl | (repeat (first | exact hZ | apply hS | apply hA))))))
      subst hr1 hr2
      refine m_ (fun _ => p_mv) ?_
      refine m_ (fun _ => p_ex) ?_
      refine m_ (fun _ => p_ex) ?_
      refine m_ (fun _ => p_ex) ?_
      refine m_ (fun _ => p_ex) ?_
      refine ⟨?_, ?_⟩
      · refine t_al fun b11 _ => ⟨by (repeat (first | exact trivial | (apply And.intro; focus (intro hb; first | exact trivial | exact noB hb rfl | (repeat (first | exact hZ | apply hS | apply hA)))))), ?_⟩
        refine ⟨?_, ?_⟩
        · refine t_st ?_
          refine ⟨?_, ?_⟩
          · refine t_as ⟨by (repeat (first | exact trivial | (apply And.intro; focus (intro hb; first | exact trivial | exact noB hb rfl | (repeat (first | exact hZ | apply hS | apply hA)))))), ?_⟩
            refine ⟨?_, ?_⟩
            · refine t_as ⟨by (repeat (first | exact trivial | (apply And.intro; focus (intro hb; first | exact trivial | exact noB hb rfl | (repeat (first | exact hZ | apply hS | apply hA)))))), ?_⟩
              refine ⟨?_, ?_⟩
              · refine t_as ⟨by (repeat (first | exact trivial | (apply And.intro; focus (intro hb; first | exact trivial | exact noB hb rfl | (repeat (first | exact hZ | apply hS | apply hA)))))), ?_⟩
                exact ⟨b11, _, trivial, eL, .cons _ List.perm_append_comm, kR⟩
              trivial
            trivial
          trivial
        trivial
      trivial
    refine ⟨?_, ?_⟩
    · refine t_al fun b11 _ => ⟨by (repeat (first | exact trivial | (apply And.intro; focus (intro hb; first | exact trivial | exact noB hb rfl | (repeat (first | exact hZ | apply hS | apply hA)))))), ?_⟩
      refine ⟨?_, ?_⟩
      · refine t_cHr (Hr := [_, _]) hDo (List.perm_append_comm (l₁ := [_, _])) (fun r H' ⟨hr1, hr2⟩ => ⟨?_, ?_⟩)
        · subst hr1 hr2; exact by (repeat (first | exact trivial | (apply And.intro; focus (intro hb; first | exact trivial | exact noB hb rfl | (repeat (first | exact hZ | apply hS | apply hA))))))
        subst hr1 hr2
        refine m_ (fun _ => p_mv) ?_
        refine m_ (fun _ => p_ex) ?_
        refine m_ (fun _ => p_ex) ?_
        refine m_ (fun _ => p_ex) ?_
        refine m_ (fun _ => p_ex) ?_
        refine ⟨?_, ?_⟩
        · refine t_st ?_
          refine ⟨?_, ?_⟩
          · refine t_as ⟨by (repeat (first | exact trivial | (apply And.intro; focus (intro hb; first | exact trivial | exact noB hb rfl | (repeat (first | exact hZ | apply hS | apply hA)))))), ?_⟩
            refine ⟨?_, ?_⟩
            · refine t_as ⟨by (repeat (first | exact trivial | (apply And.intro; focus (intro hb; first | exact trivial | exact noB hb rfl | (repeat (first | exact hZ | apply hS | apply hA)))))), ?_⟩
              refine ⟨?_, ?_⟩
              · refine t_as ⟨by (repeat (first | exact trivial | (apply And.intro; focus (intro hb; first | exact trivial | exact noB hb rfl | (repeat (first | exact hZ | apply hS | apply hA)))))), ?_⟩
                exact ⟨b11, _, trivial, eL, List.perm_append_comm (l₁ := KpH bk bj bd K'), kR⟩
              trivial
            trivial
          trivial
        trivial
      trivial
    trivial
  have hln := hE'.nk.len
  have hNo := kNode_fn bk bj bd K' (by omega)
  have hSa := same_fn K'.N K'.N (by omega) (by omega)
  rcases hcase with ⟨he, hN'⟩ | ⟨hw, he, hN'⟩
  · rw [hN'] at hNo hSa
    (repeat (first | apply cn | apply cq | apply cb | apply ck | apply cl | apply cx))
    apply cr
    refine s_ p_mv ?_
    refine s_ p_mv ?_
    refine s_ p_eq ?_
    refine s_ p_mv ?_
    refine gT (fun hg => p_mv) ?_
    refine s_ p_an ?_
    refine s_ p_as ?_
    (repeat (first | apply cn | apply cq | apply cb | apply ck | apply cl | apply cx))
    refine ci ?_ ?_
    rotate_left
    · intro h; exact absurd ⟨he, trivial⟩ h
    intro _
    (repeat (first | apply cn | apply cq | apply cb | apply ck | apply cl | apply cx))
    apply cr
    refine s_ p_mv ?_
    refine s_ p_eq ?_
    (repeat (first | apply cn | apply cq | apply cb | apply ck | apply cl | apply cx))
    refine ci ?_ ?_
    · intro he0
      rw [if_pos he0] at hNo hSa hN'
      (repeat (first | apply cn | apply cq | apply cb | apply ck | apply cl | apply cx))
      apply cr
      refine s_ p_loa ?_
      refine e_st ?_
      (repeat (first | apply cn | apply cq | apply cb | apply ck | apply cl | apply cx))
      refine sim_cutP (σ := Unit) (ok := fun _ => True) (env := fun _ => (93, .v (.bool (decide (¬ x = x)))) :: [(10, ei (k : Nat)), (9, pW b9), (7, pW bk), (5, pW bd), (1, T.sl false (l.map akT))]) (heap := fun _ => (b9, ⟨nB19, nodeC x (eens x.log), 22⟩) :: KpH bk bj bd K') ?_ (fun _ _ => ?_)
      · refine cm [1] (.yields 0 (.yields 2 (.alt 1 (.yields 3 (.yields 4 .done)) .stop))) ?_
        refine m_ (fun _ => p_mv) ?_
        refine m_loa ?_
        refine ⟨?_, ?_⟩
        · refine t_cHr (Hr := [_, _]) hNo (List.perm_append_comm (l₁ := [_, _])) (fun r H' ⟨hr1, hr2⟩ => ⟨?_, ?_⟩)
          · subst hr1 hr2; exact by (repeat (first | exact trivial | (apply And.intro; focus (intro hb; first | exact trivial | exact noB hb rfl | (repeat (first | exact hZ | apply hS | apply hA))))))
          subst hr1 hr2
          refine m_ (fun _ => p_ca hSa) ?_
          refine m_ (fun _ => p_no) ?_
          exact ⟨(), _, trivial, eL, List.perm_append_comm (l₁ := KpH bk bj bd K'), .skip _ _ _ (.keep _ _ _ _ _ (BlkLe.refl _) kR)⟩
        trivial
      (repeat (first | apply cn | apply cq | apply cb | apply ck | apply cl | apply cx))
      refine ci ?_ ?_
      · intro h; exact absurd rfl h
      intro _
      (repeat (first | apply cn | apply cq | apply cb | apply ck | apply cl | apply cx))
      apply cr
      refine s_ p_mv ?_
      refine s_ p_ad ?_
      refine s_ p_as ?_
      (repeat (first | apply cn | apply cq | apply cb | apply ck | apply cl | apply cx))
      refine ⟨(k + 1, bk, bj, K'), hstep 0 bk bj K' hE', (by simp only []; omega), ⟨le_get (by ((repeat (apply gS; rfl)); exact gZ)) (Le.refl _), eL⟩, ?_⟩
      simp only [hN']
      exact kR
    · intro he0
      rw [if_neg he0] at hNo hSa hN'
      (repeat (first | apply cn | apply cq | apply cb | apply ck | apply cl | apply cx))
      refine sim_cutP (σ := Unit) (ok := fun _ => True) (env := fun _ => (93, .v (.bool (decide (¬ K.N = K.N)))) :: [(10, ei (k : Nat)), (9, pW b9), (7, pW bk), (5, pW bd), (1, T.sl false (l.map akT))]) (heap := fun _ => (b9, ⟨nB19, nodeC K.N (eens K.N.log), 22⟩) :: KpH bk bj bd K') ?_ (fun _ _ => ?_)
      · refine cm [1] (.yields 0 (.yields 2 (.alt 1 (.yields 3 (.yields 4 .done)) .stop))) ?_
        refine m_ (fun _ => p_mv) ?_
        refine m_loa ?_
        refine ⟨?_, ?_⟩
        · refine t_cHr (Hr := [_, _]) hNo (List.perm_append_comm (l₁ := [_, _])) (fun r H' ⟨hr1, hr2⟩ => ⟨?_, ?_⟩)
          · subst hr1 hr2; exact by (repeat (first | exact trivial | (apply And.intro; focus (intro hb; first | exact trivial | exact noB hb rfl | (repeat (first | exact hZ | apply hS | apply hA))))))
          subst hr1 hr2
          refine m_ (fun _ => p_ca hSa) ?_
          refine m_ (fun _ => p_no) ?_
          exact ⟨(), _, trivial, eL, List.perm_append_comm (l₁ := KpH bk bj bd K'), .skip _ _ _ (.keep _ _ _ _ _ (BlkLe.refl _) kR)⟩
        trivial
      (repeat (first | apply cn | apply cq | apply cb | apply ck | apply cl | apply cx))
      refine ci ?_ ?_
      · intro h; exact absurd rfl h
      intro _
      (repeat (first | apply cn | apply cq | apply cb | apply ck | apply cl | apply cx))
      apply cr
      refine s_ p_mv ?_
      refine s_ p_ad ?_
      refine s_ p_as ?_
      (repeat (first | apply cn | apply cq | apply cb | apply ck | apply cl | apply cx))
      refine ⟨(k + 1, bk, bj, K'), hstep 0 bk bj K' hE', (by simp only []; omega), ⟨le_get (by ((repeat (apply gS; rfl)); exact gZ)) (Le.refl _), eL⟩, ?_⟩
      simp only [hN']
      exact kR
  · rw [hN'] at hNo hSa
    (repeat (first | apply cn | apply cq | apply cb | apply ck | apply cl | apply cx))
    apply cr
    refine s_ p_mv ?_
    refine s_ p_mv ?_
    refine s_ p_eq ?_
    refine s_ p_mv ?_
    refine gT (fun hg => p_mv) ?_
    refine s_ p_an ?_
    refine s_ p_as ?_
    (repeat (first | apply cn | apply cq | apply cb | apply ck | apply cl | apply cx))
    refine ci ?_ ?_
    · intro h; exact absurd h.1 (by omega)
    intro _
    (repeat (first | apply cn | apply cq | apply cb | apply ck | apply cl | apply cx))
    apply cr
    refine s_ p_mv ?_
    refine s_ p_eq ?_
    refine s_ p_mv ?_
    refine gT (fun hg => p_mv) ?_
    refine gT (fun hg => p_eq (hx := u_ hg)) ?_
    refine s_ p_an ?_
    refine s_ p_mv ?_
    refine gT (fun hg => p_mv) ?_
    refine s_ p_an ?_
    refine s_ p_as ?_
    (repeat (first | apply cn | apply cq | apply cb | apply ck | apply cl | apply cx))
    refine ci ?_ ?_
    rotate_left
    · intro h; exact absurd ⟨⟨he, hw⟩, trivial⟩ h
    · intro _
      (repeat (first | apply cn | apply cq | apply cb | apply ck | apply cl | apply cx))
      refine sim_cutP (σ := Unit) (ok := fun _ => True) (env := fun _ => (93, .v (.bool (decide (¬ K.N = K.N)))) :: [(10, ei (k : Nat)), (9, pW b9), (7, pW bk), (5, pW bd), (1, T.sl false (l.map akT))]) (heap := fun _ => (b9, ⟨nB19, nodeC K.N (eens K.N.log), 22⟩) :: KpH bk bj bd K') ?_ (fun _ _ => ?_)
      · refine cm [1] (.yields 0 (.yields 2 (.alt 1 (.yields 3 (.yields 4 .done)) .stop))) ?_
        refine m_ (fun _ => p_mv) ?_
        refine m_loa ?_
        refine ⟨?_, ?_⟩
        · refine t_cHr (Hr := [_, _]) hNo (List.perm_append_comm (l₁ := [_, _])) (fun r H' ⟨hr1, hr2⟩ => ⟨?_, ?_⟩)
          · subst hr1 hr2; exact by (repeat (first | exact trivial | (apply And.intro; focus (intro hb; first | exact trivial | exact noB hb rfl | (repeat (first | exact hZ | apply hS | apply hA))))))
          subst hr1 hr2
          refine m_ (fun _ => p_ca hSa) ?_
          refine m_ (fun _ => p_no) ?_
          exact ⟨(), _, trivial, eL, List.perm_append_comm (l₁ := KpH bk bj bd K'), .skip _ _ _ (.keep _ _ _ _ _ (BlkLe.refl _) kR)⟩
        trivial
      (repeat (first | apply cn | apply cq | apply cb | apply ck | apply cl | apply cx))
      refine ci ?_ ?_
      · intro h; exact absurd rfl h
      intro _
      (repeat (first | apply cn | apply cq | apply cb | apply ck | apply cl | apply cx))
      apply cr
      refine s_ p_mv ?_
      refine s_ p_ad ?_
      refine s_ p_as ?_
      (repeat (first | apply cn | apply cq | apply cb | apply ck | apply cl | apply cx))
      refine ⟨(k + 1, bk, bj, K'), hstep 0 bk bj K' hE', (by simp only []; omega), ⟨le_get (by ((repeat (apply gS; rfl)); exact gZ)) (Le.refl _), eL⟩, ?_⟩
      simp only [hN']
      exact kR
end Go.Proofs.YtbdpfclnomiicaaGreat
