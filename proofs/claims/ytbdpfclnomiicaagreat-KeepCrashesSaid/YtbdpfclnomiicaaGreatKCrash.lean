/-
  KeepCrashes: wherever the power goes, a replica that is opened anew has what stayed behind all calls that were answered, or behind one more.
-/
import Derived.Test.YtbdpfclnomiicaaGreatRevive
set_option maxRecDepth 16000
namespace Go.Proofs.YtbdpfclnomiicaaGreat
open Go.Cap
set_option linter.unusedSimpArgs false
set_option linter.unusedVariables false
attribute [local irreducible] POp SimFrom DrawFrom EOp Sim FnH T.gp
/-- A kept replica whose power may go. -/
structure Hot (n0 : Nd) (R s : Nat) (K : Kp) : Prop where
  live : Live n0 R K
  room : (2 * R + 200 : Int) ≤ K.d.room
  nk : Nk K.N s
def hotOk (l : List Ak) (n0 : Nd) (s : Nat × Nat × Nat × Kp) : Prop := s.1 ≤ l.length ∧ Hot n0 100000 (6 * s.1) s.2.2.2
structure Mid (n0 : Nd) (R s : Nat) (K : Kp) (y : Nd) : Prop where
  af : After n0 R K y
  room : (2 * R + 200 : Int) ≤ K.d.room
  nk : Nk K.N s
  nky : Nk y s
  id : K.N.id = n0.id
  idy : y.id = n0.id
theorem hot_step {n0 : Nd} {R s : Nat} {K : Kp} {x : Nd} {w : Int} (h : Hot n0 R s K) (hx : Act19 K.N x w s) (hs : s ≤ 800) (hR : 90 + 101 * (s + 6) ≤ R) (hR2 : R ≤ 4000000) :
    ∃ K' e, keepF K x w = (K', e) ∧ ((e = w ∧ Mid n0 R (s + 6) K' K'.N ∧ K'.N = (if e = 0 then x else K.N)) ∨ (w = 0 ∧ e = 20 ∧ K'.N = K.N ∧ Mid n0 R (s + 6) K' x)) := by
  have hrx := hx.nk.rec_
  have hidx := hx.id.trans h.live.id
  by_cases hw : w = 0
  · subst hw
    have hc := keep_cases h.live hidx (hx.nk.sz (by omega)) (by omega) hR2
    generalize keepF K x 0 = v at hc ⊢
    cases hc with
    | ok K' h' hN hl hr' => exact ⟨K', 0, rfl, .inl ⟨rfl, ⟨.inl ⟨h', rfl⟩, by rw [hr']; exact h.room, by rw [hN]; exact hx.nk, by rw [hN]; exact hx.nk, h'.id, h'.id⟩, by rw [if_pos rfl]; exact hN⟩⟩
    | full K' h' hN hl hr' hf => exact absurd h.room (by omega)
    | dead K' hN hl h' hr' => exact ⟨K', 20, rfl, .inr ⟨rfl, rfl, hN, ⟨.inr (by rw [hN]; exact h'), by rw [hr']; exact h.room, by rw [hN]; exact h.nk.le (by omega), hx.nk, by rw [hN]; exact h.live.id, hidx⟩⟩⟩
  · exact ⟨K, w, keepF_err K x hw, .inl ⟨rfl, ⟨.inl ⟨h.live, rfl⟩, h.room, h.nk.le (by omega), h.nk.le (by omega), h.live.id, h.live.id⟩, (if_neg hw).symm⟩⟩
set_option maxHeartbeats 8000000 in
theorem kcrash_fn (id conf : Int) (l : List Ak) (hl : l.length ≤ 9223372036854775807) (hle : ∀ a ∈ l, a.m.entries.length ≤ 9223372036854775807) : FnP Tryz.prog 6 [ei id, ei conf, .sl false (l.map akT)] (fun r => r = .v (.bool true)) := by
  have fK := known_fn
  have fF := few_fn false l hl hle
  have w5 := within_fn id 5 (by omega) (by omega)
  have w31 := within_fn conf 31 (by omega) (by omega)
  refine fn_enter Tryz.func6 (by rfl) (by rfl) ?_
  intro S0 w0
  show Sim _ _ [(0, ei id), (1, ei conf), (2, T.sl false (l.map akT))] _ _
  (repeat (first | apply cn | apply cq | apply cb | apply ck | apply cl | apply cx))
  apply cr
  refine s_ p_as ?_
  (repeat (first | apply cn | apply cq | apply cb | apply ck | apply cl | apply cx))
  apply cr
  refine s_ (p_ca (fK)) ?_
  refine s_ p_noB ?_
  refine cn ?_
  (repeat (first | apply cn | apply cq | apply cb | apply ck | apply cl | apply cx))
  refine ci (p := False) (fun h => h.elim) (fun _ => ?_)
  (repeat (first | apply cn | apply cq | apply cb | apply ck | apply cl | apply cx))
  apply cr
  refine s_ p_mv ?_
  refine e_cP fF (fun r ⟨b, hr, hF⟩ => ?_)
  subst hr
  refine s_ p_noB ?_
  refine cn ?_
  (repeat (first | apply cn | apply cq | apply cb | apply ck | apply cl | apply cx))
  cases b with
  | false =>
    refine ci (p := True) (fun _ => ?_) (fun h => absurd trivial h)
    (repeat (first | apply cn | apply cq | apply cb | apply ck | apply cl | apply cx))
    apply cr
    refine s_ p_as ?_
    (repeat (first | apply cn | apply cq | apply cb | apply ck | apply cl | apply cx))
    (apply sim_ret; (try simp only [blockΨ_ret, thenΨ_ret, loopL_ret, cutΨ_ret, cutE_ret]); first | refine rt ?_ | refine rn ?_)
    exact Le.refl _
  | true =>
  refine ci (p := False) (fun h => h.elim) (fun _ => ?_)
  obtain ⟨hfew, hl80⟩ := hF rfl
  clear hF fK fF
  (repeat (first | apply cn | apply cq | apply cb | apply ck | apply cl | apply cx))
  apply cr
  refine s_ p_mv ?_
  refine s_ (p_ca (w5)) ?_
  refine s_ p_mv ?_
  refine s_ (p_ca (w31)) ?_
  refine s_ p_ad ?_
  refine s_ p_as ?_
  refine s_ p_as ?_
  (repeat (first | apply cn | apply cq | apply cb | apply ck | apply cl | apply cx))
  obtain ⟨i0, hi0⟩ : ∃ i0, i0 = id % 5 := ⟨_, rfl⟩
  obtain ⟨cf, hcf⟩ : ∃ cf, cf = 1 + conf % 31 := ⟨_, rfl⟩
  have hi1 : 0 ≤ i0 ∧ i0 < 5 := by omega
  have hc1 : 0 ≤ cf ∧ cf ≤ 31 := by omega
  rw [← hi0, ← hcf]
  clear hi0 hcf w5 w31
  have hNew := new_fn i0 cf hi1.1 hi1.2 hc1.1 hc1.2
  (repeat (first | apply cn | apply cq | apply cb | apply ck | apply cl | apply cx))
  apply cr
  refine e_cH (Hs := []) (Hr := []) (newD_fn2 1048576 (by omega) (by omega)) (.refl _) (fun r H ⟨bd, hr, hH⟩ => ?_)
  subst hr hH
  rw [List.append_nil]
  refine s_ p_mv ?_
  refine s_ p_ex ?_
  refine s_ p_ex ?_
  refine s_ p_as ?_
  refine s_ p_as ?_
  (repeat (first | apply cn | apply cq | apply cb | apply ck | apply cl | apply cx))
  have hO := open_new bd i0 cf 1048576 100000 hi1.1 hi1.2 hc1.1 hc1.2 (by omega) (by omega) (by omega) (by omega)
  (repeat (first | apply cn | apply cq | apply cb | apply ck | apply cl | apply cx))
  apply cr
  refine s_ p_mv ?_
  refine s_ p_mv ?_
  refine s_ p_mv ?_
  refine e_cHA hO (fun r H ⟨bk, bj, K, hr, hH, hE, hN, hrm⟩ => ?_)
  subst hr hH
  refine s_ p_mv ?_
  refine s_ p_ex ?_
  refine s_ p_ex ?_
  refine s_ p_as ?_
  refine s_ p_as ?_
  (repeat (first | apply cn | apply cq | apply cb | apply ck | apply cl | apply cx))
  clear hO
  (repeat (first | apply cn | apply cq | apply cb | apply ck | apply cl | apply cx))
  apply cr
  refine s_ p_mv ?_
  refine s_ p_mv ?_
  refine s_ (p_ca (hNew)) ?_
  refine e_al fun b11 _ => ?_
  refine e_st ?_
  (repeat (first | apply cn | apply cq | apply cb | apply ck | apply cl | apply cx))
  (repeat (first | apply cn | apply cq | apply cb | apply ck | apply cl | apply cx))
  apply cr
  refine s_ p_mv ?_
  refine s_ p_ne ?_
  (repeat (first | apply cn | apply cq | apply cb | apply ck | apply cl | apply cx))
  refine ci ?_ ?_
  · intro h; exact absurd rfl h
  intro _
  (repeat (first | apply cn | apply cq | apply cb | apply ck | apply cl | apply cx))
  apply cr
  refine s_ p_as ?_
  (repeat (first | apply cn | apply cq | apply cb | apply ck | apply cl | apply cx))
  apply sim_loopL (σ := Nat × Nat × Nat × Kp) (ok := hotOk l (newF i0 cf)) (env := fun s => [(12, ei (s.1 : Nat)), (11, pW b11), (9, pW s.2.1), (7, pW bd), (2, T.sl false (l.map akT)), (1, ei cf), (0, ei i0)]) (heap := fun s => (b11, ⟨nB19, nodeC s.2.2.2.N (eens s.2.2.2.N.log), 22⟩) :: KpH s.2.1 s.2.2.1 bd s.2.2.2) (μ := fun s => l.length - s.1) (s0 := (0, bk, bj, K))
  · exact ⟨Nat.zero_le _, hE.live, hE.room, hE.nk⟩
  · exact eL
  · rw [hN]; exact kR
  clear hE hN hrm
  rintro ⟨k, bk, bj, K⟩ ⟨hk, hE⟩
  simp only at hk hE
  show Sim _ _ [(12, ei (k : Nat)), (11, pW b11), (9, pW bk), (7, pW bd), (2, T.sl false (l.map akT)), (1, ei cf), (0, ei i0)] ((b11, ⟨nB19, nodeC K.N (eens K.N.log), 22⟩) :: KpH bk bj bd K) _
  (repeat (first | apply cn | apply cq | apply cb | apply ck | apply cl | apply cx))
  apply cr
  refine s_ p_mv ?_
  refine s_ p_mv ?_
  (first | refine s_ p_ln ?_ | refine s_ p_lr ?_)
  refine s_ p_lt ?_
  (repeat (first | apply cn | apply cq | apply cb | apply ck | apply cl | apply cx))
  refine ci ?_ ?_
  rotate_left
  · intro hlt
    (repeat (first | apply cn | apply cq | apply cb | apply ck | apply cl | apply cx))
    apply cr
    refine s_ p_as ?_
    (repeat (first | apply cn | apply cq | apply cb | apply ck | apply cl | apply cx))
    (apply sim_ret; (try simp only [blockΨ_ret, thenΨ_ret, loopL_ret, cutΨ_ret, cutE_ret]); first | refine rt ?_ | refine rn ?_)
    exact Le.refl _
  intro hlt
  have hix : k < l.length := by simp only [List.length_map] at hlt; omega
  have hw17 := within_fn l[k].kind 17 (by omega) (by omega)
  have hw5 := within_fn l[k].n 5 (by omega) (by omega)
  have hstep : ∀ (t bk bj : Nat) (K' : Kp), Hot (newF i0 cf) 100000 (6 * k + 6) K' → hotOk l (newF i0 cf) (k + 1, bk, bj, K') := fun t bk bj K' h => ⟨hix, by show Hot _ _ (6 * (k + 1)) _; rw [Nat.mul_add]; exact h⟩
  (repeat (first | apply cn | apply cq | apply cb | apply ck | apply cl | apply cx))
  apply cr
  refine s_ p_mv ?_
  refine s_ p_mv ?_
  (first | refine s_ (p_ix hix) ?_ | refine s_ (p_ix hix2) ?_ | refine s_ p_ia ?_ | refine s_ p_ir ?_)
  (first | refine s_ p_fa ?_ | refine s_ p_fr ?_)
  (first | refine s_ p_ld ?_ | refine s_ p_lo ?_)
  refine s_ (p_ca (hw17)) ?_
  refine s_ p_eq ?_
  (repeat (first | apply cn | apply cq | apply cb | apply ck | apply cl | apply cx))
  refine ci ?_ ?_
  · intro h15
    have hSt := stop_fn bd K.d (1 + l[k].n % 5)
    (repeat (first | apply cn | apply cq | apply cb | apply ck | apply cl | apply cx))
    refine ca [0, 1, 2, 3, 4, 5, 6, 7, 8, 9, 10] [10] ?_
    refine a_ (fun _ => p_mv) ?_
    refine a_ (fun _ => p_nc) ?_
    refine a_ (fun _ => p_fr) ?_
    refine a_ (fun _ => p_mv) ?_
    refine a_ (fun _ => p_mv) ?_
    (first | refine a_ (fun _ => p_ix hix) ?_ | refine a_ (fun _ => p_ix hix2) ?_ | refine a_ (fun _ => p_ia) ?_ | refine a_ (fun _ => p_ir) ?_)
    (first | refine a_ (fun _ => p_fa) ?_ | refine a_ (fun _ => p_fr) ?_)
    (first | refine a_ (fun _ => p_ld) ?_ | refine a_lo ?_)
    refine a_ (fun _ => p_ca (hw5)) ?_
    refine a_ (fun _ => p_ad) ?_
    refine a_cHr (Hr := [_, _, _]) hSt (List.perm_append_comm (l₁ := [_, _, _])) (fun r H' ⟨hr1, hr2⟩ => ⟨?_, ?_⟩)
    · subst hr1 hr2; exact by (repeat (first | exact trivial | (apply And.intro; focus (intro hb; first | exact trivial | exact noB hb rfl | (repeat (first | exact hZ | apply hS | apply hA))))))
    subst hr1 hr2
    (apply Exists.intro; apply And.intro; (focus (repeat (first | exact PDrop.nil | apply PDrop.dropL rfl | apply PDrop.keep))))
    apply an
    (repeat (first | apply cn | apply cq | apply cb | apply ck | apply cl | apply cx))
    refine sim_perm (List.perm_append_comm (l₂ := [_, _, _])) ?_
    (repeat (first | apply cn | apply cq | apply cb | apply ck | apply cl | apply cx))
    apply cr
    refine s_ p_mv ?_
    refine s_ p_ad ?_
    refine s_ p_as ?_
    (repeat (first | apply cn | apply cq | apply cb | apply ck | apply cl | apply cx))
    refine ⟨(k + 1, bk, bj, { K with d := stopF K.d (1 + l[k].n % 5) }), hstep 0 bk bj _ ⟨stop_live _ hE.live (by omega), hE.room, hE.nk.le (by omega)⟩, (by simp only []; omega), ⟨le_get (by ((repeat (apply gS; rfl)); exact gZ)) (Le.refl _), eL⟩, ?_⟩
    exact kR
  intro h15
  (repeat (first | apply cn | apply cq | apply cb | apply ck | apply cl | apply cx))
  apply cr
  refine s_ p_loa ?_
  refine e_al fun b13 _ => ?_
  refine e_st ?_
  (repeat (first | apply cn | apply cq | apply cb | apply ck | apply cl | apply cx))
  (repeat (first | apply cn | apply cq | apply cb | apply ck | apply cl | apply cx))
  apply cr
  refine s_ p_mv ?_
  refine s_ p_mv ?_
  (first | refine s_ (p_ix hix) ?_ | refine s_ (p_ix hix2) ?_ | refine s_ p_ia ?_ | refine s_ p_ir ?_)
  (first | refine s_ p_fa ?_ | refine s_ p_fr ?_)
  (first | refine s_ p_ld ?_ | refine s_ p_lo ?_)
  refine s_ (p_ca (hw17)) ?_
  refine s_ p_lt ?_
  (repeat (first | apply cn | apply cq | apply cb | apply ck | apply cl | apply cx))
  refine sim_cutP (σ := Kp × Nd) (ok := fun s => Mid (newF i0 cf) 100000 (6 * k + 6) s.1 s.2) (env := fun _ => [(13, pW b13), (12, ei (k : Nat)), (11, pW b11), (9, pW bk), (7, pW bd), (2, T.sl false (l.map akT)), (1, ei cf), (0, ei i0)]) (heap := fun s => (b13, ⟨nB19, nodeC s.2 (eens s.2.log), 22⟩) :: (b11, ⟨nB19, nodeC s.1.N (eens s.1.N.log), 22⟩) :: KpH bk bj bd s.1) ?_ ?_
  · refine ci ?_ ?_
    rotate_left
    · intro h16
      (repeat (first | apply cn | apply cq | apply cb | apply ck | apply cl | apply cx))
      exact ⟨(K, K.N), _, ⟨.inl ⟨hE.live, rfl⟩, hE.room, hE.nk.le (by omega), hE.nk.le (by omega), hE.live.id, hE.live.id⟩, eL, .refl _, kR⟩
    intro h14
    have hak : AkOk l[k] := by
      obtain ⟨h1, h2, h3⟩ := hfew l[k] (List.getElem_mem hix)
      exact ⟨h1, h2, h3⟩
    obtain ⟨x, w, hA, hDo⟩ := do_fn l[k] K.N (6 * k) hak hE.nk (by omega)
    have hDo := hDo bk bj bd K rfl (hE.live.ok (by omega))
    obtain ⟨K', e, hkp, hcase⟩ := hot_step hE hA (by omega) (by omega) (by omega)
    rw [doT, hkp] at hDo
    simp only at hDo
    (repeat (first | apply cn | apply cq | apply cb | apply ck | apply cl | apply cx))
    refine sim_cutP (σ := Nat) (ok := fun _ => True) (env := fun s => (14, pW s) :: (17, .v (.bool (decide True))) :: (16, ei w) :: (15, ei e) :: [(13, pW b13), (12, ei (k : Nat)), (11, pW b11), (9, pW bk), (7, pW bd), (2, T.sl false (l.map akT)), (1, ei cf), (0, ei i0)])
      (heap := fun s => (s, ⟨nB19, nodeC x (eens x.log), 22⟩) :: (b13, ⟨nB19, nodeC K.N (eens K.N.log), 22⟩) :: (b11, ⟨nB19, nodeC K.N (eens K.N.log), 22⟩) :: KpH bk bj bd K') ?_ (fun b14 _ => ?_)
    · skip
      refine cm [6, 12, 13, 14, 15, 16] (.yields 0 (.yields 1 (.yields 2 (.yields 3 (.yields 4 (.yields 5 (.alt 6 (.yields 7 (.yields 8 (.yields 9 (.yields 10 (.yields 11 (.alt 12 (.alt 13 (.alt 14 (.alt 15 (.alt 16 .done .stop) .stop) .stop) .stop) .stop)))))) (.alt 12 (.alt 6 (.yields 7 (.yields 8 (.yields 9 (.yields 10 (.yields 11 (.alt 13 (.alt 14 (.alt 15 (.alt 16 .done .stop) .stop) .stop) .stop)))))) .stop) .stop)))))))) ?_
      refine m_ (fun _ => p_mv) ?_
      refine m_ (fun _ => p_mv) ?_
      refine m_ (fun _ => p_ix hix) ?_
      refine m_ (fun _ => p_la) ?_
      refine m_ (fun _ => p_mv) ?_
      refine m_loa ?_
      refine ⟨?_, ?_⟩
      · refine t_cHr (Hr := [_, _]) hDo (List.perm_append_comm (l₁ := [_, _])) (fun r H' ⟨hr1, hr2⟩ => ⟨?_, ?_⟩)
        · subst hr1 hr2; exact by (repeat (first | exact trivial | (apply And.intro; focus (intro hb; first | exact trivial | exact noB hb rfl | (repeat (first | exact hZ | apply hS | apply hA))))))
        subst hr1 hr2
        refine m_ (fun _ => p_mv) ?_
        refine m_ (fun _ => p_ex) ?_
        refine m_ (fun _ => p_ex) ?_
        refine m_ (fun _ => p_ex) ?_
        refine m_ (fun _ => p_ex) ?_
        refine ⟨?_, ?_⟩
        · refine t_al fun b14 _ => ⟨by (repeat (first | exact trivial | (apply And.intro; focus (intro hb; first | exact trivial | exact noB hb rfl | (repeat (first | exact hZ | apply hS | apply hA)))))), ?_⟩
          refine ⟨?_, ?_⟩
          · refine t_st ?_
            refine ⟨?_, ?_⟩
            · refine t_as ⟨by (repeat (first | exact trivial | (apply And.intro; focus (intro hb; first | exact trivial | exact noB hb rfl | (repeat (first | exact hZ | apply hS | apply hA)))))), ?_⟩
              refine ⟨?_, ?_⟩
              · refine t_as ⟨by (repeat (first | exact trivial | (apply And.intro; focus (intro hb; first | exact trivial | exact noB hb rfl | (repeat (first | exact hZ | apply hS | apply hA)))))), ?_⟩
                refine ⟨?_, ?_⟩
                · refine t_as ⟨by (repeat (first | exact trivial | (apply And.intro; focus (intro hb; first | exact trivial | exact noB hb rfl | (repeat (first | exact hZ | apply hS | apply hA)))))), ?_⟩
                  exact ⟨b14, _, trivial, eL, .cons _ List.perm_append_comm, kR⟩
                trivial
              trivial
            trivial
          trivial
        trivial
      refine ⟨?_, ?_⟩
      · refine t_al fun b14 _ => ⟨by (repeat (first | exact trivial | (apply And.intro; focus (intro hb; first | exact trivial | exact noB hb rfl | (repeat (first | exact hZ | apply hS | apply hA)))))), ?_⟩
        refine ⟨?_, ?_⟩
        · refine t_cHr (Hr := [_, _, _]) hDo (List.perm_append_comm (l₁ := [_, _, _])) (fun r H' ⟨hr1, hr2⟩ => ⟨?_, ?_⟩)
          · subst hr1 hr2; exact by (repeat (first | exact trivial | (apply And.intro; focus (intro hb; first | exact trivial | exact noB hb rfl | (repeat (first | exact hZ | apply hS | apply hA))))))
          subst hr1 hr2
          refine m_ (fun _ => p_mv) ?_
          refine m_ (fun _ => p_ex) ?_
          refine m_ (fun _ => p_ex) ?_
          refine m_ (fun _ => p_ex) ?_
          refine m_ (fun _ => p_ex) ?_
          refine ⟨?_, ?_⟩
          · refine t_st ?_
            refine ⟨?_, ?_⟩
            · refine t_as ⟨by (repeat (first | exact trivial | (apply And.intro; focus (intro hb; first | exact trivial | exact noB hb rfl | (repeat (first | exact hZ | apply hS | apply hA)))))), ?_⟩
              refine ⟨?_, ?_⟩
              · refine t_as ⟨by (repeat (first | exact trivial | (apply And.intro; focus (intro hb; first | exact trivial | exact noB hb rfl | (repeat (first | exact hZ | apply hS | apply hA)))))), ?_⟩
                refine ⟨?_, ?_⟩
                · refine t_as ⟨by (repeat (first | exact trivial | (apply And.intro; focus (intro hb; first | exact trivial | exact noB hb rfl | (repeat (first | exact hZ | apply hS | apply hA)))))), ?_⟩
                  exact ⟨b14, _, trivial, eL, List.perm_append_comm (l₁ := KpH bk bj bd K'), kR⟩
                trivial
              trivial
            trivial
          trivial
        trivial
      trivial
    rcases hcase with ⟨he, hM, hN'⟩ | ⟨hw, he, hN', hM⟩
    · (repeat (first | apply cn | apply cq | apply cb | apply ck | apply cl | apply cx))
      apply cr
      refine s_ p_mv ?_
      refine s_ p_mv ?_
      refine s_ p_eq ?_
      refine s_ p_mv ?_
      refine gT (fun hg => p_mv) ?_
      refine s_ p_an ?_
      refine s_ p_as ?_
      (repeat (first | apply cn | apply cq | apply cb | apply ck | apply cl | apply cx))
      refine ci ?_ ?_
      rotate_left
      · intro h; exact absurd ⟨he, trivial⟩ h
      intro _
      (repeat (first | apply cn | apply cq | apply cb | apply ck | apply cl | apply cx))
      apply cr
      refine s_ p_mv ?_
      refine s_ p_eq ?_
      (repeat (first | apply cn | apply cq | apply cb | apply ck | apply cl | apply cx))
      refine ci ?_ ?_
      · intro he0
        rw [if_pos he0] at hN'
        (repeat (first | apply cn | apply cq | apply cb | apply ck | apply cl | apply cx))
        apply cr
        refine s_ p_loa ?_
        refine e_st ?_
        (repeat (first | apply cn | apply cq | apply cb | apply ck | apply cl | apply cx))
        (repeat (first | apply cn | apply cq | apply cb | apply ck | apply cl | apply cx))
        apply cr
        refine s_ p_loa ?_
        refine e_st ?_
        (repeat (first | apply cn | apply cq | apply cb | apply ck | apply cl | apply cx))
        exact ⟨(K', K'.N), _, hM, eL, .refl _, by simp only [hN']; exact .skip _ _ _ kR⟩
      · intro he0
        rw [if_neg he0] at hN'
        (repeat (first | apply cn | apply cq | apply cb | apply ck | apply cl | apply cx))
        apply cr
        refine s_ p_loa ?_
        refine e_st ?_
        (repeat (first | apply cn | apply cq | apply cb | apply ck | apply cl | apply cx))
        exact ⟨(K', K'.N), _, hM, eL, .refl _, by simp only [hN']; exact .skip _ _ _ kR⟩
    · (repeat (first | apply cn | apply cq | apply cb | apply ck | apply cl | apply cx))
      apply cr
      refine s_ p_mv ?_
      refine s_ p_mv ?_
      refine s_ p_eq ?_
      refine s_ p_mv ?_
      refine gT (fun hg => p_mv) ?_
      refine s_ p_an ?_
      refine s_ p_as ?_
      (repeat (first | apply cn | apply cq | apply cb | apply ck | apply cl | apply cx))
      refine ci ?_ ?_
      · intro h; exact absurd h.1 (by omega)
      intro _
      (repeat (first | apply cn | apply cq | apply cb | apply ck | apply cl | apply cx))
      apply cr
      refine s_ p_mv ?_
      refine s_ p_eq ?_
      refine s_ p_mv ?_
      refine gT (fun hg => p_mv) ?_
      refine gT (fun hg => p_eq (hx := u_ hg)) ?_
      refine s_ p_an ?_
      refine s_ p_mv ?_
      refine gT (fun hg => p_mv) ?_
      refine s_ p_an ?_
      refine s_ p_as ?_
      (repeat (first | apply cn | apply cq | apply cb | apply ck | apply cl | apply cx))
      refine ci ?_ ?_
      rotate_left
      · intro h; exact absurd ⟨⟨he, hw⟩, trivial⟩ h
      intro _
      (repeat (first | apply cn | apply cq | apply cb | apply ck | apply cl | apply cx))
      apply cr
      refine s_ p_loa ?_
      refine e_st ?_
      (repeat (first | apply cn | apply cq | apply cb | apply ck | apply cl | apply cx))
      exact ⟨(K', x), _, hM, eL, .refl _, by simp only [hN']; exact .skip _ _ _ kR⟩
  rintro ⟨K', y⟩ hM
  simp only at hM
  show Sim _ _ [(13, pW b13), (12, ei (k : Nat)), (11, pW b11), (9, pW bk), (7, pW bd), (2, T.sl false (l.map akT)), (1, ei cf), (0, ei i0)] ((b13, ⟨nB19, nodeC y (eens y.log), 22⟩) :: (b11, ⟨nB19, nodeC K'.N (eens K'.N.log), 22⟩) :: KpH bk bj bd K') _
  have hDd := dead_fnP bd K'.d
  (repeat (first | apply cn | apply cq | apply cb | apply ck | apply cl | apply cx))
  apply cr
  refine s_ p_mv ?_
  refine s_ p_nc ?_
  refine s_ p_fr ?_
  refine e_cH (Hr := [_, _, _, _]) hDd (List.perm_append_comm (l₁ := [_, _, _, _])) (fun r H' ⟨hr1, hr2⟩ => ?_)
  subst hr1 hr2
  refine from_perm (List.perm_append_comm (l₂ := [_, _, _, _])) ?_
  refine s_ p_no ?_
  refine s_ p_mv ?_
  refine gT (fun hg => p_mv) ?_
  refine gT (fun hg => p_mv) ?_
  (first | refine gT (fun hg => p_ix hix (hx := u_ hg) (hy := u_ hg)) ?_ | refine gT (fun hg => p_ix hix2 (hx := u_ hg) (hy := u_ hg)) ?_ | refine gT (fun hg => p_ia (hx := u_ hg) (hy := u_ hg)) ?_ | refine gT (fun hg => p_ir (hx := u_ hg) (hy := u_ hg)) ?_)
  (first | refine gT (fun hg => p_fa (hx := u_ hg)) ?_ | refine gT (fun hg => p_fr (hx := u_ hg)) ?_)
  (first | refine gT (fun hg => p_ld (hx := u_ hg)) ?_ | refine gT (fun hg => p_lo (hx := u_ hg)) ?_)
  refine gT (fun hg => p_ca (hw17) (ha' := by apply evl_cons (u_ hg); apply evl_cons (by first | ((repeat (apply eS; rfl)); exact eZ) | exact ev_int | exact ev_bool | exact ev_nil | exact ev_str | exact ev_ptr | exact ev_agg | exact ev_map | exact ev_nilf | exact ev_nili | exact ev_func); exact evl_nil)) ?_
  refine gT (fun hg => p_ne (hx := u_ hg)) ?_
  refine s_ p_an ?_
  (repeat (first | apply cn | apply cq | apply cb | apply ck | apply cl | apply cx))
  have hln := hM.nk.len
  have hlny := hM.nky.len
  refine ci ?_ ?_
  · rintro ⟨hnd, _⟩
    obtain ⟨hL, hy⟩ : Live (newF i0 cf) 100000 K' ∧ y = K'.N := hM.af.resolve_right fun h => hnd h.dead
    have hNo := kNode_fn bk bj bd K' (by omega)
    have hSa := same_fn K'.N K'.N (by omega) (by omega)
    (repeat (first | apply cn | apply cq | apply cb | apply ck | apply cl | apply cx))
    refine sim_cutP (σ := Unit) (ok := fun _ => True) (env := fun _ => (128, .v (.bool (decide (¬ K'.N = K'.N)))) :: [(13, pW b13), (12, ei (k : Nat)), (11, pW b11), (9, pW bk), (7, pW bd), (2, T.sl false (l.map akT)), (1, ei cf), (0, ei i0)]) (heap := fun _ => (b13, ⟨nB19, nodeC y (eens y.log), 22⟩) :: (b11, ⟨nB19, nodeC K'.N (eens K'.N.log), 22⟩) :: KpH bk bj bd K') ?_ (fun _ _ => ?_)
    · refine cm [1] (.yields 0 (.yields 2 (.alt 1 (.yields 3 (.yields 4 .done)) .stop))) ?_
      refine m_ (fun _ => p_mv) ?_
      refine m_loa ?_
      refine ⟨?_, ?_⟩
      · refine t_cHr (Hr := [_, _]) hNo (List.perm_append_comm (l₁ := [_, _])) (fun r H' ⟨hr1, hr2⟩ => ⟨?_, ?_⟩)
        · subst hr1 hr2; exact by (repeat (first | exact trivial | (apply And.intro; focus (intro hb; first | exact trivial | exact noB hb rfl | (repeat (first | exact hZ | apply hS | apply hA))))))
        subst hr1 hr2
        refine m_ (fun _ => p_ca hSa) ?_
        refine m_ (fun _ => p_no) ?_
        exact ⟨(), _, trivial, eL, List.perm_append_comm (l₁ := KpH bk bj bd K'), (.keep _ _ _ _ _ (BlkLe.refl _) (.keep _ _ _ _ _ (BlkLe.refl _) kR))⟩
      trivial
    (repeat (first | apply cn | apply cq | apply cb | apply ck | apply cl | apply cx))
    refine ci ?_ ?_
    · intro h; exact absurd rfl h
    intro _
    (repeat (first | apply cn | apply cq | apply cb | apply ck | apply cl | apply cx))
    apply cr
    refine s_ p_mv ?_
    refine s_ p_ad ?_
    refine s_ p_as ?_
    (repeat (first | apply cn | apply cq | apply cb | apply ck | apply cl | apply cx))
    exact ⟨(k + 1, bk, bj, K'), hstep 0 bk bj K' ⟨hL, hM.room, hM.nk⟩, (by simp only []; omega), ⟨le_get (by ((repeat (apply gS; rfl)); exact gZ)) (Le.refl _), eL⟩, .skip _ _ _ kR⟩
  intro _
  obtain ⟨hdk, hs0, hs1, so, rs, tl, hcont⟩ := after_crash l[k].n hM.af
  have hSt := stop_fn bd K'.d 0
  (repeat (first | apply cn | apply cq | apply cb | apply ck | apply cl | apply cx))
  apply cr
  refine s_ p_mv ?_
  refine s_ p_nc ?_
  refine s_ p_fr ?_
  refine e_cH (Hr := [_, _, _, _]) hSt (List.perm_append_comm (l₁ := [_, _, _, _])) (fun r H' ⟨hr1, hr2⟩ => ?_)
  subst hr1 hr2
  refine from_perm (List.perm_append_comm (l₂ := [_, _, _, _])) ?_
  (repeat (first | apply cn | apply cq | apply cb | apply ck | apply cl | apply cx))
  have hdk0 : DkOk (stopF K'.d 0) := ⟨Int.le_refl _, by show max (0 : Int) 0 ≤ _; omega, hdk.r0, hdk.r1, hdk.ok.used⟩
  have hCr := crash_fn bd (stopF K'.d 0) l[k].n hdk0 hs0 hs1
  (repeat (first | apply cn | apply cq | apply cb | apply ck | apply cl | apply cx))
  apply cr
  refine s_ p_mv ?_
  refine s_ p_mv ?_
  refine s_ p_mv ?_
  (first | refine s_ (p_ix hix) ?_ | refine s_ (p_ix hix2) ?_ | refine s_ p_ia ?_ | refine s_ p_ir ?_)
  (first | refine s_ p_fa ?_ | refine s_ p_fr ?_)
  (first | refine s_ p_ld ?_ | refine s_ p_lo ?_)
  refine e_cH (Hr := [_, _, _, _]) hCr (List.perm_append_comm (l₁ := [_, _, _, _])) (fun r H' ⟨hr1, hr2⟩ => ?_)
  subst hr1 hr2
  refine from_perm (List.perm_append_comm (l₂ := [_, _, _, _])) ?_
  (repeat (first | apply cn | apply cq | apply cb | apply ck | apply cl | apply cx))
  have hcd := crash_dk l[k].n hdk
  obtain ⟨d2, hd2⟩ : ∃ d2, d2 = crashF (stopF K'.d 0) l[k].n := ⟨_, rfl⟩
  have hd2a : d2.dead = false ∧ d2.left = 0 ∧ d2.synced = d2.log.length ∧ d2.room = K'.d.room := by rw [hd2]; exact ⟨rfl, rfl, rfl, rfl⟩
  rw [← hd2] at hcd hcont ⊢
  obtain ⟨z1, z2, z3, z4⟩ := hd2a
  have hO : FnH Tryz.prog 11 [pW bd, ei i0, ei cf] (DkH bd d2) (fun r H => ∃ bk bj K2, r = .tup [pW bk, ei 0] ∧ H = KpH bk bj bd K2 ∧ Live (newF i0 cf) 100000 K2 ∧ (K2.N = wakeF K'.N ∨ K2.N = wakeF y) ∧ K2.d.room = d2.room) := by
    have r1 := hM.nk.wake.rec_
    have r2 := hM.nky.wake.rec_
    rcases hcont with hc | hc
    · exact FnH.mono (revive bd i0 cf hc hcd z1 z2 z3 hM.id hNew (wake_new i0 cf) (by simp [newF]) (by omega) (hM.nk.wake.sz (by omega)) (by omega)) (by
        rintro r H ⟨a, b, c, e1, e2, e3, e4, e5, e6⟩
        exact ⟨a, b, c, e1, e2, e3, .inl e4, e6⟩)
    · exact FnH.mono (revive bd i0 cf hc hcd z1 z2 z3 hM.idy hNew (wake_new i0 cf) (by simp [newF]) (by omega) (hM.nky.wake.sz (by omega)) (by omega)) (by
        rintro r H ⟨a, b, c, e1, e2, e3, e4, e5, e6⟩
        exact ⟨a, b, c, e1, e2, e3, .inr e4, e6⟩)
  (repeat (first | apply cn | apply cq | apply cb | apply ck | apply cl | apply cx))
  apply cr
  refine s_ p_mv ?_
  refine s_ p_mv ?_
  refine s_ p_mv ?_
  refine e_cH (Hr := [_, _, _, _]) hO (List.perm_append_comm (l₁ := [_, _, _, _])) (fun r H ⟨bk', bj', K2, hr, hH, hL2, hN2, hrm⟩ => ?_)
  subst hr hH
  refine from_perm (List.perm_append_comm (l₂ := [_, _, _, _])) ?_
  refine s_ p_mv ?_
  refine s_ p_ex ?_
  refine s_ p_ex ?_
  refine s_ p_as ?_
  refine s_ p_as ?_
  (repeat (first | apply cn | apply cq | apply cb | apply ck | apply cl | apply cx))
  apply cr
  refine s_ p_mv ?_
  refine s_ p_ne ?_
  (repeat (first | apply cn | apply cq | apply cb | apply ck | apply cl | apply cx))
  refine ci ?_ ?_
  · intro h; exact absurd rfl h
  intro _
  have hW1 := wake_fn K'.N (by omega)
  have hW2 := wake_fn y (by omega)
  have hk1 := hM.nk.wake
  have hk2 := hM.nky.wake
  have hl1 := hk1.len
  have hl2 := hk2.len
  have hk2N : Nk K2.N (6 * k + 6) := by
    rcases hN2 with h | h
    · rw [h]; exact hk1
    · rw [h]; exact hk2
  have hlN := hk2N.len
  (repeat (first | apply cn | apply cq | apply cb | apply ck | apply cl | apply cx))
  refine ca [0, 1, 2, 3, 4, 5] [4, 5] ?_
  refine a_loa ?_
  refine a_ (fun _ => p_ca (hW1)) ?_
  refine a_loa ?_
  refine a_ (fun _ => p_ca (hW2)) ?_
  refine a_st ?_
  refine a_st ?_
  apply an
  (repeat (first | apply cn | apply cq | apply cb | apply ck | apply cl | apply cx))
  have hNo := kNode_fn bk' bj' bd K2 (by omega)
  have hSa := same_fn K2.N (wakeF K'.N) (by omega) (by omega)
  refine sim_cutP (σ := Unit) (ok := fun _ => True) (env := fun _ => (157, .v (.bool (decide (¬ K2.N = wakeF K'.N)))) :: [(13, pW b13), (12, ei (k : Nat)), (11, pW b11), (9, pW bk'), (7, pW bd), (2, T.sl false (l.map akT)), (1, ei cf), (0, ei i0)]) (heap := fun _ => (b13, ⟨nB19, nodeC (wakeF y) (eens (wakeF y).log), 22⟩) :: (b11, ⟨nB19, nodeC (wakeF K'.N) (eens (wakeF K'.N).log), 22⟩) :: KpH bk' bj' bd K2) ?_ (fun _ _ => ?_)
  · refine cm [1] (.yields 0 (.yields 2 (.alt 1 (.yields 3 (.yields 4 .done)) .stop))) ?_
    refine m_ (fun _ => p_mv) ?_
    refine m_loa ?_
    refine ⟨?_, ?_⟩
    · refine t_cHr (Hr := [_, _, _, _]) hNo (List.perm_append_comm (l₁ := [_, _, _, _])) (fun r H' ⟨hr1, hr2⟩ => ⟨?_, ?_⟩)
      · subst hr1 hr2; exact by (repeat (first | exact trivial | (apply And.intro; focus (intro hb; first | exact trivial | exact noB hb rfl | (repeat (first | exact hZ | apply hS | apply hA))))))
      subst hr1 hr2
      refine m_ (fun _ => p_ca hSa) ?_
      refine m_ (fun _ => p_no) ?_
      exact ⟨(), _, trivial, eL, List.perm_append_comm (l₁ := KpH bk' bj' bd K2), (.keep _ _ _ _ _ (BlkLe.refl _) (.keep _ _ _ _ _ (BlkLe.refl _) (.skip _ _ _ (.skip _ _ _ kR))))⟩
    trivial
  (repeat (first | apply cn | apply cq | apply cb | apply ck | apply cl | apply cx))
  have hS2 := same_fn K2.N K2.N (by omega) (by omega)
  refine ci ?_ ?_
  · intro hne
    have hNy := hN2.resolve_left hne
    (repeat (first | apply cn | apply cq | apply cb | apply ck | apply cl | apply cx))
    apply cr
    refine s_ p_loa ?_
    refine e_st ?_
    (repeat (first | apply cn | apply cq | apply cb | apply ck | apply cl | apply cx))
    rw [← hNy]
    refine sim_cutP (σ := Unit) (ok := fun _ => True) (env := fun _ => (163, .v (.bool (decide (¬ K2.N = K2.N)))) :: [(13, pW b13), (12, ei (k : Nat)), (11, pW b11), (9, pW bk'), (7, pW bd), (2, T.sl false (l.map akT)), (1, ei cf), (0, ei i0)]) (heap := fun _ => (b13, ⟨nB19, nodeC K2.N (eens K2.N.log), 22⟩) :: (b11, ⟨nB19, nodeC K2.N (eens K2.N.log), 22⟩) :: KpH bk' bj' bd K2) ?_ (fun _ _ => ?_)
    · refine cm [1] (.yields 0 (.yields 2 (.alt 1 (.yields 3 (.yields 4 .done)) .stop))) ?_
      refine m_ (fun _ => p_mv) ?_
      refine m_loa ?_
      refine ⟨?_, ?_⟩
      · refine t_cHr (Hr := [_, _]) hNo (List.perm_append_comm (l₁ := [_, _])) (fun r H' ⟨hr1, hr2⟩ => ⟨?_, ?_⟩)
        · subst hr1 hr2; exact by (repeat (first | exact trivial | (apply And.intro; focus (intro hb; first | exact trivial | exact noB hb rfl | (repeat (first | exact hZ | apply hS | apply hA))))))
        subst hr1 hr2
        refine m_ (fun _ => p_ca hS2) ?_
        refine m_ (fun _ => p_no) ?_
        exact ⟨(), _, trivial, eL, List.perm_append_comm (l₁ := KpH bk' bj' bd K2), (.keep _ _ _ _ _ (BlkLe.refl _) (.keep _ _ _ _ _ (BlkLe.refl _) kR))⟩
      trivial
    (repeat (first | apply cn | apply cq | apply cb | apply ck | apply cl | apply cx))
    refine ci ?_ ?_
    · intro h; exact absurd rfl h
    intro _
    (repeat (first | apply cn | apply cq | apply cb | apply ck | apply cl | apply cx))
    apply cr
    refine s_ p_mv ?_
    refine s_ p_ad ?_
    refine s_ p_as ?_
    (repeat (first | apply cn | apply cq | apply cb | apply ck | apply cl | apply cx))
    exact ⟨(k + 1, bk', bj', K2), hstep 0 bk' bj' K2 ⟨hL2, by rw [hrm, z4]; exact hM.room, hk2N⟩, (by simp only []; omega), ⟨le_get (by ((repeat (apply gS; rfl)); exact gZ)) (Le.refl _), eL⟩, .skip _ _ _ kR⟩
  · intro heq
    have hNy : K2.N = wakeF K'.N := Classical.byContradiction heq
    (repeat (first | apply cn | apply cq | apply cb | apply ck | apply cl | apply cx))
    rw [← hNy]
    refine sim_cutP (σ := Unit) (ok := fun _ => True) (env := fun _ => (163, .v (.bool (decide (¬ K2.N = K2.N)))) :: [(13, pW b13), (12, ei (k : Nat)), (11, pW b11), (9, pW bk'), (7, pW bd), (2, T.sl false (l.map akT)), (1, ei cf), (0, ei i0)]) (heap := fun _ => (b13, ⟨nB19, nodeC (wakeF y) (eens (wakeF y).log), 22⟩) :: (b11, ⟨nB19, nodeC K2.N (eens K2.N.log), 22⟩) :: KpH bk' bj' bd K2) ?_ (fun _ _ => ?_)
    · refine cm [1] (.yields 0 (.yields 2 (.alt 1 (.yields 3 (.yields 4 .done)) .stop))) ?_
      refine m_ (fun _ => p_mv) ?_
      refine m_loa ?_
      refine ⟨?_, ?_⟩
      · refine t_cHr (Hr := [_, _]) hNo (List.perm_append_comm (l₁ := [_, _])) (fun r H' ⟨hr1, hr2⟩ => ⟨?_, ?_⟩)
        · subst hr1 hr2; exact by (repeat (first | exact trivial | (apply And.intro; focus (intro hb; first | exact trivial | exact noB hb rfl | (repeat (first | exact hZ | apply hS | apply hA))))))
        subst hr1 hr2
        refine m_ (fun _ => p_ca hS2) ?_
        refine m_ (fun _ => p_no) ?_
        exact ⟨(), _, trivial, eL, List.perm_append_comm (l₁ := KpH bk' bj' bd K2), (.keep _ _ _ _ _ (BlkLe.refl _) (.keep _ _ _ _ _ (BlkLe.refl _) kR))⟩
      trivial
    (repeat (first | apply cn | apply cq | apply cb | apply ck | apply cl | apply cx))
    refine ci ?_ ?_
    · intro h; exact absurd rfl h
    intro _
    (repeat (first | apply cn | apply cq | apply cb | apply ck | apply cl | apply cx))
    apply cr
    refine s_ p_mv ?_
    refine s_ p_ad ?_
    refine s_ p_as ?_
    (repeat (first | apply cn | apply cq | apply cb | apply ck | apply cl | apply cx))
    exact ⟨(k + 1, bk', bj', K2), hstep 0 bk' bj' K2 ⟨hL2, by rw [hrm, z4]; exact hM.room, hk2N⟩, (by simp only []; omega), ⟨le_get (by ((repeat (apply gS; rfl)); exact gZ)) (Le.refl _), eL⟩, .skip _ _ _ kR⟩
end Go.Proofs.YtbdpfclnomiicaaGreat
