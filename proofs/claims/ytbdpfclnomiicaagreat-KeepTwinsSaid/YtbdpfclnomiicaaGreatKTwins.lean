/-
  KeepTwins: two kept replicas, led alike, are alike, whatever a third one does.
-/
import Derived.Test.YtbdpfclnomiicaaGreatActs
import Derived.Test.YtbdpfclnomiicaaGreatMixG
set_option maxRecDepth 16000
namespace Go.Proofs.YtbdpfclnomiicaaGreat
open Go.Cap
set_option linter.unusedSimpArgs false
set_option linter.unusedVariables false
attribute [local irreducible] POp SimFrom DrawFrom EOp Sim FnH T.gp
abbrev Tw : Type := Nat × Nat × Nat × Kp
def twH (s : Tw) : Heap := KpH s.1 s.2.1 s.2.2.1 s.2.2.2
def tA19 : TypeId := 49
def tB19 : TypeId := 50
def nilP : T := .v (.pointer none)
def ksC : List Tw → List T
  | [] => [nilP, nilP, nilP]
  | [a] => [pW a.1, nilP, nilP]
  | [b, a] => [pW a.1, pW b.1, nilP]
  | c :: b :: a :: _ => [pW a.1, pW b.1, pW c.1]
theorem easy_act {n0 : Nd} {R s : Nat} {K : Kp} {x : Nd} {w : Int} (h : Easy n0 R s K) (hA : Act19 K.N x w s) (hs : s ≤ 800) (hR : 90 + 101 * (s + 6) ≤ R) (hR2 : R ≤ 4000000) :
    ∃ K', keepF K x w = (K', w) ∧ Easy n0 R (s + 6) K' ∧ K'.N = (if w = 0 then x else K.N) := by
  have hrx := hA.nk.rec_
  by_cases hw : w = 0
  · subst hw
    obtain ⟨K', e1, e2, e3, e4, e5⟩ := live_step h.live h.left h.room (hA.id.trans h.live.id) (hA.nk.sz (by omega)) (by omega) hR2
    exact ⟨K', e1, ⟨e2, e4, by rw [e5]; exact h.room, by rw [e3]; exact hA.nk⟩, e3.trans (if_pos rfl).symm⟩
  · exact ⟨K, keepF_err K x hw, ⟨h.live, h.left, h.room, h.nk.le (by omega)⟩, (if_neg hw).symm⟩
theorem Easy.more {n0 : Nd} {R s s' : Nat} {K : Kp} (h : Easy n0 R s K) (hs : s ≤ s') : Easy n0 R s' K := ⟨h.live, h.left, h.room, h.nk.le hs⟩
def twinOk (l : List Ak) (s : Nat × Kp × Kp × Kp) : Prop := s.1 ≤ l.length ∧ s.1 ≤ 50 ∧ Easy (newF 1 7) 100000 (6 * s.1) s.2.1 ∧ Easy (newF 1 7) 100000 (6 * s.1) s.2.2.1 ∧ Easy (newF 1 7) 100000 (6 * s.1) s.2.2.2 ∧ s.2.2.1.N = s.2.1.N
def twOk (q : List Tw) : Prop := q.length ≤ 3 ∧ ∀ s ∈ q, Easy (newF 1 7) 100000 0 s.2.2.2 ∧ s.2.2.2.N = newF 1 7
set_option maxHeartbeats 8000000 in
theorem ktwins_fn (l : List Ak) (hl : l.length ≤ 9223372036854775807) (hle : ∀ a ∈ l, a.m.entries.length ≤ 9223372036854775807) : FnP Tryz.prog 5 [.sl false (l.map akT)] (fun r => r = .v (.bool true)) := by
  have fK := known_fn
  have fF := few_fn false l hl hle
  refine fn_enter Tryz.func5 (by rfl) (by rfl) ?_
  intro S0 w0
  show Sim _ _ [(0, T.sl false (l.map akT))] _ _
  (repeat (first | apply cn | apply cq | apply cb | apply ck | apply cl | apply cx))
  apply cr
  refine s_ p_as ?_
  (repeat (first | apply cn | apply cq | apply cb | apply ck | apply cl | apply cx))
  apply cr
  refine s_ (p_ca (fK)) ?_
  refine s_ p_noB ?_
  refine cn ?_
  (repeat (first | apply cn | apply cq | apply cb | apply ck | apply cl | apply cx))
  refine ci (p := False) (fun h => h.elim) (fun _ => ?_)
  (repeat (first | apply cn | apply cq | apply cb | apply ck | apply cl | apply cx))
  apply cr
  refine s_ p_mv ?_
  refine e_cP fF (fun r ⟨b, hr, hF⟩ => ?_)
  subst hr
  refine s_ p_noB ?_
  refine cn ?_
  (repeat (first | apply cn | apply cq | apply cb | apply ck | apply cl | apply cx))
  cases b with
  | false =>
    refine ci (p := True) (fun _ => ?_) (fun h => absurd trivial h)
    (repeat (first | apply cn | apply cq | apply cb | apply ck | apply cl | apply cx))
    apply cr
    refine s_ p_as ?_
    (repeat (first | apply cn | apply cq | apply cb | apply ck | apply cl | apply cx))
    (apply sim_ret; (try simp only [blockΨ_ret, thenΨ_ret, loopL_ret, cutΨ_ret, cutE_ret]); first | refine rt ?_ | refine rn ?_)
    exact Le.refl _
  | true =>
  refine ci (p := False) (fun h => h.elim) (fun _ => ?_)
  obtain ⟨hfew, hl80⟩ := hF rfl
  clear hF fK fF
  have hNew := new_fn 1 7 (by omega) (by omega) (by omega) (by omega)
  have hD := newD_fn2 1048576 (by omega) (by omega)
  (repeat (first | apply cn | apply cq | apply cb | apply ck | apply cl | apply cx))
  apply cr
  refine e_al fun b3 _ => ?_
  (repeat (first | apply cn | apply cq | apply cb | apply ck | apply cl | apply cx))
  apply cr
  refine e_al fun b4 _ => ?_
  (repeat (first | apply cn | apply cq | apply cb | apply ck | apply cl | apply cx))
  apply cr
  refine s_ p_as ?_
  (repeat (first | apply cn | apply cq | apply cb | apply ck | apply cl | apply cx))
  apply sim_loopL (σ := List Tw) (ok := twOk) (env := fun q => [(5, ei (q.length : Nat)), (4, pW b4), (3, pW b3), (0, T.sl false (l.map akT))]) (heap := fun q => (b4, ⟨tB19, zC19 ++ zC19, 44⟩) :: (b3, ⟨tA19, ksC q, 3⟩) :: q.flatMap twH) (μ := fun q => 3 - q.length) (s0 := [])
  · exact ⟨by simp, by simp⟩
  · exact eL
  · exact kR
  rintro q ⟨hq3, hq⟩
  have hO : ∀ bd, _ := fun bd => open_new bd 1 7 1048576 100000 (by omega) (by omega) (by omega) (by omega) (by omega) (by omega) (by omega) (by omega)
  rcases q with _ | ⟨a, _ | ⟨b, _ | ⟨c, _ | ⟨z, q⟩⟩⟩⟩
  · show Sim _ _ [(5, ei ((0 : Nat) : Int)), (4, pW b4), (3, pW b3), (0, T.sl false (l.map akT))] ((b4, ⟨tB19, zC19 ++ zC19, 44⟩) :: (b3, ⟨tA19, [nilP, nilP, nilP], 3⟩) :: []) _
    (repeat (first | apply cn | apply cq | apply cb | apply ck | apply cl | apply cx))
    apply cr
    refine s_ p_mv ?_
    refine s_ p_lt ?_
    (repeat (first | apply cn | apply cq | apply cb | apply ck | apply cl | apply cx))
    refine ci ?_ ?_
    rotate_left
    · intro h; exact (h (by decide)).elim
    intro _
    (repeat (first | apply cn | apply cq | apply cb | apply ck | apply cl | apply cx))
    apply cr
    refine e_cH (Hs := []) hD (.refl _) (fun r H ⟨bd, hr, hH⟩ => ?_)
    subst hr hH
    refine s_ p_mv ?_
    refine s_ p_ex ?_
    refine s_ p_ex ?_
    refine s_ p_as ?_
    refine s_ p_as ?_
    (repeat (first | apply cn | apply cq | apply cb | apply ck | apply cl | apply cx))
    (repeat (first | apply cn | apply cq | apply cb | apply ck | apply cl | apply cx))
    apply cr
    refine s_ p_mv ?_
    refine s_ p_mv ?_
    refine e_cH (hO bd) (.refl _) (fun r H ⟨bk, bj, K, hr, hH, hE, hN, hrm⟩ => ?_)
    subst hr hH
    refine from_perm (List.perm_append_comm_assoc _ [_, _] _) ?_
    refine s_ p_mv ?_
    refine s_ p_ex ?_
    refine s_ p_ex ?_
    refine s_ p_ar ?_
    refine e_st ?_
    (repeat (first | apply cn | apply cq | apply cb | apply ck | apply cl | apply cx))
    (repeat (first | apply cn | apply cq | apply cb | apply ck | apply cl | apply cx))
    apply cr
    refine s_ p_mv ?_
    refine s_ p_ad ?_
    refine s_ p_as ?_
    (repeat (first | apply cn | apply cq | apply cb | apply ck | apply cl | apply cx))
    refine ⟨(bk, bj, bd, K) :: [], ⟨(by simp only [List.length_cons, List.length_nil]; omega), ?_⟩, (by simp only [List.length_cons, List.length_nil]; omega), ⟨le_get (by ((repeat (apply gS; rfl)); exact gZ)) (Le.refl _), eL⟩, ?_⟩
    · intro s hs
      rcases List.mem_cons.1 hs with rfl | hs
      · exact ⟨hE, hN⟩
      · exact hq s hs
    · exact kR
  · show Sim _ _ [(5, ei ((1 : Nat) : Int)), (4, pW b4), (3, pW b3), (0, T.sl false (l.map akT))] ((b4, ⟨tB19, zC19 ++ zC19, 44⟩) :: (b3, ⟨tA19, [pW a.1, nilP, nilP], 3⟩) :: (twH a ++ [])) _
    (repeat (first | apply cn | apply cq | apply cb | apply ck | apply cl | apply cx))
    apply cr
    refine s_ p_mv ?_
    refine s_ p_lt ?_
    (repeat (first | apply cn | apply cq | apply cb | apply ck | apply cl | apply cx))
    refine ci ?_ ?_
    rotate_left
    · intro h; exact (h (by decide)).elim
    intro _
    (repeat (first | apply cn | apply cq | apply cb | apply ck | apply cl | apply cx))
    apply cr
    refine e_cH (Hs := []) hD (.refl _) (fun r H ⟨bd, hr, hH⟩ => ?_)
    subst hr hH
    refine s_ p_mv ?_
    refine s_ p_ex ?_
    refine s_ p_ex ?_
    refine s_ p_as ?_
    refine s_ p_as ?_
    (repeat (first | apply cn | apply cq | apply cb | apply ck | apply cl | apply cx))
    (repeat (first | apply cn | apply cq | apply cb | apply ck | apply cl | apply cx))
    apply cr
    refine s_ p_mv ?_
    refine s_ p_mv ?_
    refine e_cH (hO bd) (.refl _) (fun r H ⟨bk, bj, K, hr, hH, hE, hN, hrm⟩ => ?_)
    subst hr hH
    refine from_perm (List.perm_append_comm_assoc _ [_, _] _) ?_
    refine s_ p_mv ?_
    refine s_ p_ex ?_
    refine s_ p_ex ?_
    refine s_ p_ar ?_
    refine e_st ?_
    (repeat (first | apply cn | apply cq | apply cb | apply ck | apply cl | apply cx))
    (repeat (first | apply cn | apply cq | apply cb | apply ck | apply cl | apply cx))
    apply cr
    refine s_ p_mv ?_
    refine s_ p_ad ?_
    refine s_ p_as ?_
    (repeat (first | apply cn | apply cq | apply cb | apply ck | apply cl | apply cx))
    refine ⟨(bk, bj, bd, K) :: [a], ⟨(by simp only [List.length_cons, List.length_nil]; omega), ?_⟩, (by simp only [List.length_cons, List.length_nil]; omega), ⟨le_get (by ((repeat (apply gS; rfl)); exact gZ)) (Le.refl _), eL⟩, ?_⟩
    · intro s hs
      rcases List.mem_cons.1 hs with rfl | hs
      · exact ⟨hE, hN⟩
      · exact hq s hs
    · exact kR
  · show Sim _ _ [(5, ei ((2 : Nat) : Int)), (4, pW b4), (3, pW b3), (0, T.sl false (l.map akT))] ((b4, ⟨tB19, zC19 ++ zC19, 44⟩) :: (b3, ⟨tA19, [pW b.1, pW a.1, nilP], 3⟩) :: (twH a ++ (twH b ++ []))) _
    (repeat (first | apply cn | apply cq | apply cb | apply ck | apply cl | apply cx))
    apply cr
    refine s_ p_mv ?_
    refine s_ p_lt ?_
    (repeat (first | apply cn | apply cq | apply cb | apply ck | apply cl | apply cx))
    refine ci ?_ ?_
    rotate_left
    · intro h; exact (h (by decide)).elim
    intro _
    (repeat (first | apply cn | apply cq | apply cb | apply ck | apply cl | apply cx))
    apply cr
    refine e_cH (Hs := []) hD (.refl _) (fun r H ⟨bd, hr, hH⟩ => ?_)
    subst hr hH
    refine s_ p_mv ?_
    refine s_ p_ex ?_
    refine s_ p_ex ?_
    refine s_ p_as ?_
    refine s_ p_as ?_
    (repeat (first | apply cn | apply cq | apply cb | apply ck | apply cl | apply cx))
    (repeat (first | apply cn | apply cq | apply cb | apply ck | apply cl | apply cx))
    apply cr
    refine s_ p_mv ?_
    refine s_ p_mv ?_
    refine e_cH (hO bd) (.refl _) (fun r H ⟨bk, bj, K, hr, hH, hE, hN, hrm⟩ => ?_)
    subst hr hH
    refine from_perm (List.perm_append_comm_assoc _ [_, _] _) ?_
    refine s_ p_mv ?_
    refine s_ p_ex ?_
    refine s_ p_ex ?_
    refine s_ p_ar ?_
    refine e_st ?_
    (repeat (first | apply cn | apply cq | apply cb | apply ck | apply cl | apply cx))
    (repeat (first | apply cn | apply cq | apply cb | apply ck | apply cl | apply cx))
    apply cr
    refine s_ p_mv ?_
    refine s_ p_ad ?_
    refine s_ p_as ?_
    (repeat (first | apply cn | apply cq | apply cb | apply ck | apply cl | apply cx))
    refine ⟨(bk, bj, bd, K) :: [a, b], ⟨(by simp only [List.length_cons, List.length_nil]; omega), ?_⟩, (by simp only [List.length_cons, List.length_nil]; omega), ⟨le_get (by ((repeat (apply gS; rfl)); exact gZ)) (Le.refl _), eL⟩, ?_⟩
    · intro s hs
      rcases List.mem_cons.1 hs with rfl | hs
      · exact ⟨hE, hN⟩
      · exact hq s hs
    · exact kR
  rotate_left
  · exact absurd hq3 (by simp only [List.length_cons]; omega)
  obtain ⟨k2, j2, d2, K2⟩ := a
  obtain ⟨k1, j1, d1, K1⟩ := b
  obtain ⟨k0, j0, d0, K0⟩ := c
  obtain ⟨hE2, hN2⟩ := hq _ List.mem_cons_self
  obtain ⟨hE1, hN1⟩ := hq _ (List.mem_cons_of_mem _ List.mem_cons_self)
  obtain ⟨hE0, hN0⟩ := hq _ (List.mem_cons_of_mem _ (List.mem_cons_of_mem _ List.mem_cons_self))
  simp only at hE0 hE1 hE2 hN0 hN1 hN2
  show Sim _ _ [(5, ei ((3 : Nat) : Int)), (4, pW b4), (3, pW b3), (0, T.sl false (l.map akT))] ((b4, ⟨tB19, zC19 ++ zC19, 44⟩) :: (b3, ⟨tA19, [pW k0, pW k1, pW k2], 3⟩) :: (KpH k2 j2 d2 K2 ++ (KpH k1 j1 d1 K1 ++ (KpH k0 j0 d0 K0 ++ [])))) _
  (repeat (first | apply cn | apply cq | apply cb | apply ck | apply cl | apply cx))
  apply cr
  refine s_ p_mv ?_
  refine s_ p_lt ?_
  (repeat (first | apply cn | apply cq | apply cb | apply ck | apply cl | apply cx))
  refine ci ?_ ?_
  · intro h; exact absurd h (by decide)
  intro _
  rw [List.append_nil]
  (repeat (first | apply cn | apply cq | apply cb | apply ck | apply cl | apply cx))
  apply cr
  refine s_ (p_ca (hNew)) ?_
  refine s_ (p_ca (hNew)) ?_
  refine s_ p_ar ?_
  refine e_st ?_
  refine s_ p_ar ?_
  refine e_st ?_
  (repeat (first | apply cn | apply cq | apply cb | apply ck | apply cl | apply cx))
  (repeat (first | apply cn | apply cq | apply cb | apply ck | apply cl | apply cx))
  apply cr
  refine s_ p_as ?_
  (repeat (first | apply cn | apply cq | apply cb | apply ck | apply cl | apply cx))
  clear hO hq3 hq hD
  apply sim_loopL (σ := Nat × Kp × Kp × Kp) (ok := twinOk l) (env := fun s => [(8, ei (s.1 : Nat)), (4, pW b4), (3, pW b3), (0, T.sl false (l.map akT))]) (heap := fun s => (b4, ⟨tB19, nodeC s.2.1.N (eens s.2.1.N.log) ++ nodeC s.2.1.N (eens s.2.1.N.log), 44⟩) :: (b3, ⟨tA19, [pW k0, pW k1, pW k2], 3⟩) :: (KpH k2 j2 d2 s.2.2.2 ++ (KpH k1 j1 d1 s.2.2.1 ++ KpH k0 j0 d0 s.2.1))) (μ := fun s => l.length - s.1) (s0 := (0, K0, K1, K2))
  · exact ⟨Nat.zero_le _, Nat.zero_le _, hE0, hE1, hE2, by rw [hN1, hN0]⟩
  · exact eL
  · simp only [hN0]; exact kR
  clear hE0 hE1 hE2 hN0 hN1 hN2
  rintro ⟨k, K0, K1, K2⟩ ⟨hk, hk50, hE0, hE1, hE2, hNN⟩
  simp only at hk hk50 hE0 hE1 hE2 hNN
  show Sim _ _ [(8, ei (k : Nat)), (4, pW b4), (3, pW b3), (0, T.sl false (l.map akT))] ((b4, ⟨tB19, nodeC K0.N (eens K0.N.log) ++ nodeC K0.N (eens K0.N.log), 44⟩) :: (b3, ⟨tA19, [pW k0, pW k1, pW k2], 3⟩) :: (KpH k2 j2 d2 K2 ++ (KpH k1 j1 d1 K1 ++ KpH k0 j0 d0 K0))) _
  (repeat (first | apply cn | apply cq | apply cb | apply ck | apply cl | apply cx))
  apply cr
  refine s_ p_mv ?_
  refine s_ p_mv ?_
  (first | refine s_ p_ln ?_ | refine s_ p_lr ?_)
  refine s_ p_lt ?_
  refine s_ p_mv ?_
  refine gT (fun hg => p_mv) ?_
  refine gT (fun hg => p_lt (hx := u_ hg)) ?_
  refine s_ p_an ?_
  (repeat (first | apply cn | apply cq | apply cb | apply ck | apply cl | apply cx))
  refine ci ?_ ?_
  rotate_left
  · intro hlt
    (repeat (first | apply cn | apply cq | apply cb | apply ck | apply cl | apply cx))
    apply cr
    refine s_ p_as ?_
    (repeat (first | apply cn | apply cq | apply cb | apply ck | apply cl | apply cx))
    (apply sim_ret; (try simp only [blockΨ_ret, thenΨ_ret, loopL_ret, cutΨ_ret, cutE_ret]); first | refine rt ?_ | refine rn ?_)
    exact Le.refl _
  rintro ⟨hlt, hlt50⟩
  have hix : k < l.length := by simp only [List.length_map] at hlt; omega
  have hk50' : k < 50 := by omega
  have hw17 := within_fn l[k].kind 17 (by omega) (by omega)
  have hstep : ∀ K0 K1 K2 : Kp, Easy (newF 1 7) 100000 (6 * k + 6) K0 → Easy (newF 1 7) 100000 (6 * k + 6) K1 → Easy (newF 1 7) 100000 (6 * k + 6) K2 → K1.N = K0.N → twinOk l (k + 1, K0, K1, K2) := fun K0 K1 K2 h0 h1 h2 h => by
    refine ⟨hix, hk50', ?_, ?_, ?_, h⟩
    · show Easy _ _ (6 * (k + 1)) _; rw [Nat.mul_add]; exact h0
    · show Easy _ _ (6 * (k + 1)) _; rw [Nat.mul_add]; exact h1
    · show Easy _ _ (6 * (k + 1)) _; rw [Nat.mul_add]; exact h2
  obtain ⟨K2', hT, hE2', -, -⟩ := easy_tick hE2 (by omega) (by omega) (by omega)
  have hT := hT k2 j2 d2
  replace hE2' : Easy (newF 1 7) 100000 (6 * k + 6) K2' := hE2'.more (by omega)
  (repeat (first | apply cn | apply cq | apply cb | apply ck | apply cl | apply cx))
  apply cr
  refine s_ p_mv ?_
  refine s_ p_mv ?_
  (first | refine s_ (p_ix hix) ?_ | refine s_ (p_ix hix2) ?_ | refine s_ p_ia ?_ | refine s_ p_ir ?_)
  (first | refine s_ p_fa ?_ | refine s_ p_fr ?_)
  (first | refine s_ p_ld ?_ | refine s_ p_lo ?_)
  refine s_ (p_ca (hw17)) ?_
  refine s_ p_ge ?_
  (repeat (first | apply cn | apply cq | apply cb | apply ck | apply cl | apply cx))
  refine ci ?_ ?_
  · intro h15
    (repeat (first | apply cn | apply cq | apply cb | apply ck | apply cl | apply cx))
    apply cr
    refine s_ p_ar ?_
    refine s_ p_lo ?_
    refine e_cH hT (List.perm_append_comm_assoc [_, _] (KpH k2 j2 d2 K2) (KpH k1 j1 d1 K1 ++ KpH k0 j0 d0 K0)) (fun r H' ⟨hr1, hr2⟩ => ?_)
    subst hr1 hr2
    refine from_perm (List.perm_append_comm_assoc (KpH k2 j2 d2 K2') [_, _] (KpH k1 j1 d1 K1 ++ KpH k0 j0 d0 K0)) ?_
    (repeat (first | apply cn | apply cq | apply cb | apply ck | apply cl | apply cx))
    (repeat (first | apply cn | apply cq | apply cb | apply ck | apply cl | apply cx))
    apply cr
    refine s_ p_mv ?_
    refine s_ p_ad ?_
    refine s_ p_as ?_
    (repeat (first | apply cn | apply cq | apply cb | apply ck | apply cl | apply cx))
    exact ⟨(k + 1, K0, K1, K2'), hstep K0 K1 K2' (hE0.more (by omega)) (hE1.more (by omega)) hE2' hNN, (by simp only []; omega), ⟨le_get (by ((repeat (apply gS; rfl)); exact gZ)) (Le.refl _), eL⟩, kR⟩
  intro h15
  have hak : AkOk l[k] := by
    obtain ⟨h1, h2, h3⟩ := hfew l[k] (List.getElem_mem hix)
    exact ⟨h1, h2, h3⟩
  obtain ⟨x, w, hA, hDo⟩ := do_fn l[k] K0.N (6 * k) hak hE0.nk (by omega)
  have hDo0 := hDo k0 j0 d0 K0 rfl (hE0.live.ok (by omega))
  have hDo1 := hDo k1 j1 d1 K1 hNN (hE1.live.ok (by omega))
  obtain ⟨K0', hkp0, hE0', hN0'⟩ := easy_act hE0 hA (by omega) (by omega) (by omega)
  obtain ⟨K1', hkp1, hE1', hN1'⟩ := easy_act hE1 (by rw [hNN]; exact hA) (by omega) (by omega) (by omega)
  rw [doT, hkp0] at hDo0
  rw [doT, hkp1] at hDo1
  simp only at hDo0 hDo1
  (repeat (first | apply cn | apply cq | apply cb | apply ck | apply cl | apply cx))
  refine sim_cutP (σ := Nat) (ok := fun _ => True) (env := fun s => (9, pW s) :: (12, .v (.bool (decide True))) :: (11, ei w) :: (10, ei w) :: [(8, ei (k : Nat)), (4, pW b4), (3, pW b3), (0, T.sl false (l.map akT))])
    (heap := fun s => (s, ⟨nB19, nodeC x (eens x.log), 22⟩) :: (b4, ⟨tB19, nodeC K0.N (eens K0.N.log) ++ nodeC K0.N (eens K0.N.log), 44⟩) :: (b3, ⟨tA19, [pW k0, pW k1, pW k2], 3⟩) :: (KpH k2 j2 d2 K2 ++ (KpH k1 j1 d1 K1 ++ KpH k0 j0 d0 K0'))) ?_ (fun b9 _ => ?_)
  · skip
    refine cm [8, 14, 15, 16, 17, 18] (.yields 0 (.yields 1 (.yields 2 (.yields 3 (.yields 4 (.yields 5 (.yields 6 (.yields 7 (.alt 8 (.yields 9 (.yields 10 (.yields 11 (.yields 12 (.yields 13 (.alt 14 (.alt 15 (.alt 16 (.alt 17 (.alt 18 .done .stop) .stop) .stop) .stop) .stop)))))) (.alt 14 (.alt 8 (.yields 9 (.yields 10 (.yields 11 (.yields 12 (.yields 13 (.alt 15 (.alt 16 (.alt 17 (.alt 18 .done .stop) .stop) .stop) .stop)))))) .stop) .stop)))))))))) ?_
    refine m_ (fun _ => p_mv) ?_
    refine m_ (fun _ => p_mv) ?_
    refine m_ (fun _ => p_ix hix) ?_
    refine m_ (fun _ => p_la) ?_
    refine m_ (fun _ => p_ar) ?_
    refine m_lo ?_
    refine m_ (fun _ => p_ar) ?_
    refine m_loa ?_
    refine ⟨?_, ?_⟩
    · refine t_cHr hDo0 (List.perm_append_comm (l₁ := [_, _, _, _, _, _, _, _]) (l₂ := KpH k0 j0 d0 K0)) (fun r H' ⟨hr1, hr2⟩ => ⟨?_, ?_⟩)
      · subst hr1 hr2; exact by (repeat (first | exact trivial | (apply And.intro; focus (intro hb; first | exact trivial | exact noB hb rfl | (repeat (first | exact hZ | apply hS | apply hA))))))
      subst hr1 hr2
      refine m_ (fun _ => p_mv) ?_
      refine m_ (fun _ => p_ex) ?_
      refine m_ (fun _ => p_ex) ?_
      refine m_ (fun _ => p_ex) ?_
      refine m_ (fun _ => p_ex) ?_
      refine ⟨?_, trivial⟩
      refine t_al fun b9 _ => ⟨by (repeat (first | exact trivial | (apply And.intro; focus (intro hb; first | exact trivial | exact noB hb rfl | (repeat (first | exact hZ | apply hS | apply hA)))))), ?_⟩
      refine ⟨?_, trivial⟩
      refine t_st ?_
      refine ⟨?_, trivial⟩
      refine t_as ⟨by repeat (first | trivial | (apply And.intro; focus (intro hb; first | trivial | exact noB hb rfl))), ?_⟩
      refine ⟨?_, trivial⟩
      refine t_as ⟨by repeat (first | trivial | (apply And.intro; focus (intro hb; first | trivial | exact noB hb rfl))), ?_⟩
      refine ⟨?_, trivial⟩
      refine t_as ⟨by repeat (first | trivial | (apply And.intro; focus (intro hb; first | trivial | exact noB hb rfl))), ?_⟩
      exact ⟨b9, _, trivial, eL, .cons _ (List.perm_append_comm (l₁ := KpH k0 j0 d0 K0') (l₂ := [_, _, _, _, _, _, _, _])), kR⟩
    refine ⟨?_, trivial⟩
    refine t_al fun b9 _ => ⟨by (repeat (first | exact trivial | (apply And.intro; focus (intro hb; first | exact trivial | exact noB hb rfl | (repeat (first | exact hZ | apply hS | apply hA)))))), ?_⟩
    refine ⟨?_, trivial⟩
    refine t_cHr hDo0 (List.perm_append_comm (l₁ := [_, _, _, _, _, _, _, _, _]) (l₂ := KpH k0 j0 d0 K0)) (fun r H' ⟨hr1, hr2⟩ => ⟨?_, ?_⟩)
    · subst hr1 hr2; exact by (repeat (first | exact trivial | (apply And.intro; focus (intro hb; first | exact trivial | exact noB hb rfl | (repeat (first | exact hZ | apply hS | apply hA))))))
    subst hr1 hr2
    refine m_ (fun _ => p_mv) ?_
    refine m_ (fun _ => p_ex) ?_
    refine m_ (fun _ => p_ex) ?_
    refine m_ (fun _ => p_ex) ?_
    refine m_ (fun _ => p_ex) ?_
    refine ⟨?_, trivial⟩
    refine t_st ?_
    refine ⟨?_, trivial⟩
    refine t_as ⟨by repeat (first | trivial | (apply And.intro; focus (intro hb; first | trivial | exact noB hb rfl))), ?_⟩
    refine ⟨?_, trivial⟩
    refine t_as ⟨by repeat (first | trivial | (apply And.intro; focus (intro hb; first | trivial | exact noB hb rfl))), ?_⟩
    refine ⟨?_, trivial⟩
    refine t_as ⟨by repeat (first | trivial | (apply And.intro; focus (intro hb; first | trivial | exact noB hb rfl))), ?_⟩
    exact ⟨b9, _, trivial, eL, List.perm_append_comm (l₁ := KpH k0 j0 d0 K0') (l₂ := [_, _, _, _, _, _, _, _, _]), kR⟩
  (repeat (first | apply cn | apply cq | apply cb | apply ck | apply cl | apply cx))
  refine sim_cutP (σ := Nat) (ok := fun _ => True) (env := fun s => (13, pW s) :: (16, .v (.bool (decide True))) :: (15, ei w) :: (14, ei w) :: (9, pW b9) :: (12, .v (.bool (decide True))) :: (11, ei w) :: (10, ei w) :: [(8, ei (k : Nat)), (4, pW b4), (3, pW b3), (0, T.sl false (l.map akT))])
    (heap := fun s => (s, ⟨nB19, nodeC x (eens x.log), 22⟩) :: (b9, ⟨nB19, nodeC x (eens x.log), 22⟩) :: (b4, ⟨tB19, nodeC K0.N (eens K0.N.log) ++ nodeC K0.N (eens K0.N.log), 44⟩) :: (b3, ⟨tA19, [pW k0, pW k1, pW k2], 3⟩) :: (KpH k2 j2 d2 K2 ++ (KpH k1 j1 d1 K1' ++ KpH k0 j0 d0 K0'))) ?_ (fun b13 _ => ?_)
  · skip
    refine cm [8, 14, 15, 16, 17, 18] (.yields 0 (.yields 1 (.yields 2 (.yields 3 (.yields 4 (.yields 5 (.yields 6 (.yields 7 (.alt 8 (.yields 9 (.yields 10 (.yields 11 (.yields 12 (.yields 13 (.alt 14 (.alt 15 (.alt 16 (.alt 17 (.alt 18 .done .stop) .stop) .stop) .stop) .stop)))))) (.alt 14 (.alt 8 (.yields 9 (.yields 10 (.yields 11 (.yields 12 (.yields 13 (.alt 15 (.alt 16 (.alt 17 (.alt 18 .done .stop) .stop) .stop) .stop)))))) .stop) .stop)))))))))) ?_
    refine m_ (fun _ => p_mv) ?_
    refine m_ (fun _ => p_mv) ?_
    refine m_ (fun _ => p_ix hix) ?_
    refine m_ (fun _ => p_la) ?_
    refine m_ (fun _ => p_ar) ?_
    refine m_lo ?_
    refine m_ (fun _ => p_ar) ?_
    refine m_loa ?_
    refine ⟨?_, ?_⟩
    · refine t_cHr hDo1 (List.perm_append_comm_assoc [_, _, _, _, _, _] (KpH k1 j1 d1 K1) (KpH k0 j0 d0 K0')) (fun r H' ⟨hr1, hr2⟩ => ⟨?_, ?_⟩)
      · subst hr1 hr2; exact by (repeat (first | exact trivial | (apply And.intro; focus (intro hb; first | exact trivial | exact noB hb rfl | (repeat (first | exact hZ | apply hS | apply hA))))))
      subst hr1 hr2
      refine m_ (fun _ => p_mv) ?_
      refine m_ (fun _ => p_ex) ?_
      refine m_ (fun _ => p_ex) ?_
      refine m_ (fun _ => p_ex) ?_
      refine m_ (fun _ => p_ex) ?_
      refine ⟨?_, trivial⟩
      refine t_al fun b13 _ => ⟨by (repeat (first | exact trivial | (apply And.intro; focus (intro hb; first | exact trivial | exact noB hb rfl | (repeat (first | exact hZ | apply hS | apply hA)))))), ?_⟩
      refine ⟨?_, trivial⟩
      refine t_st ?_
      refine ⟨?_, trivial⟩
      refine t_as ⟨by repeat (first | trivial | (apply And.intro; focus (intro hb; first | trivial | exact noB hb rfl))), ?_⟩
      refine ⟨?_, trivial⟩
      refine t_as ⟨by repeat (first | trivial | (apply And.intro; focus (intro hb; first | trivial | exact noB hb rfl))), ?_⟩
      refine ⟨?_, trivial⟩
      refine t_as ⟨by repeat (first | trivial | (apply And.intro; focus (intro hb; first | trivial | exact noB hb rfl))), ?_⟩
      exact ⟨b13, _, trivial, eL, .cons _ (List.perm_append_comm_assoc (KpH k1 j1 d1 K1') [_, _, _, _, _, _] (KpH k0 j0 d0 K0')), kR⟩
    refine ⟨?_, trivial⟩
    refine t_al fun b13 _ => ⟨by (repeat (first | exact trivial | (apply And.intro; focus (intro hb; first | exact trivial | exact noB hb rfl | (repeat (first | exact hZ | apply hS | apply hA)))))), ?_⟩
    refine ⟨?_, trivial⟩
    refine t_cHr hDo1 (List.perm_append_comm_assoc [_, _, _, _, _, _, _] (KpH k1 j1 d1 K1) (KpH k0 j0 d0 K0')) (fun r H' ⟨hr1, hr2⟩ => ⟨?_, ?_⟩)
    · subst hr1 hr2; exact by (repeat (first | exact trivial | (apply And.intro; focus (intro hb; first | exact trivial | exact noB hb rfl | (repeat (first | exact hZ | apply hS | apply hA))))))
    subst hr1 hr2
    refine m_ (fun _ => p_mv) ?_
    refine m_ (fun _ => p_ex) ?_
    refine m_ (fun _ => p_ex) ?_
    refine m_ (fun _ => p_ex) ?_
    refine m_ (fun _ => p_ex) ?_
    refine ⟨?_, trivial⟩
    refine t_st ?_
    refine ⟨?_, trivial⟩
    refine t_as ⟨by repeat (first | trivial | (apply And.intro; focus (intro hb; first | trivial | exact noB hb rfl))), ?_⟩
    refine ⟨?_, trivial⟩
    refine t_as ⟨by repeat (first | trivial | (apply And.intro; focus (intro hb; first | trivial | exact noB hb rfl))), ?_⟩
    refine ⟨?_, trivial⟩
    refine t_as ⟨by repeat (first | trivial | (apply And.intro; focus (intro hb; first | trivial | exact noB hb rfl))), ?_⟩
    exact ⟨b13, _, trivial, eL, List.perm_append_comm_assoc (KpH k1 j1 d1 K1') [_, _, _, _, _, _, _] (KpH k0 j0 d0 K0'), kR⟩
  (repeat (first | apply cn | apply cq | apply cb | apply ck | apply cl | apply cx))
  apply cr
  refine s_ p_ar ?_
  refine s_ p_lo ?_
  refine e_cH hT (List.perm_append_comm_assoc [_, _, _, _] (KpH k2 j2 d2 K2) (KpH k1 j1 d1 K1' ++ KpH k0 j0 d0 K0')) (fun r H' ⟨hr1, hr2⟩ => ?_)
  subst hr1 hr2
  refine from_perm (List.perm_append_comm_assoc (KpH k2 j2 d2 K2') [_, _, _, _] (KpH k1 j1 d1 K1' ++ KpH k0 j0 d0 K0')) ?_
  (repeat (first | apply cn | apply cq | apply cb | apply ck | apply cl | apply cx))
  have hN1'' : K1'.N = (if w = 0 then x else K0.N) := by rw [hN1', hNN]
  have hl0 := hE0'.nk.len
  have hl1 := hE1'.nk.len
  have hNo0 := kNode_fn k0 j0 d0 K0' (by omega)
  have hNo1 := kNode_fn k1 j1 d1 K1' (by omega)
  obtain ⟨A, hA0⟩ : ∃ A, A = (if w = 0 then x else K0.N) := ⟨_, rfl⟩
  rw [← hA0] at hN0' hN1''
  have hSa := same_fn A A (by rw [← hN0']; omega) (by rw [← hN0']; omega)
  rw [hN0'] at hNo0
  rw [hN1''] at hNo1
  have hno : ¬ ((¬ w = w ∨ ¬ True) ∨ ¬ True) := by simp
  refine sim_cutP (σ := Unit) (ok := fun _ => True) (env := fun _ => (112, .v (.bool (decide (((¬ w = w ∨ ¬ True) ∨ ¬ True) ∨ ¬ A = A)))) :: (13, pW b13) :: (9, pW b9) :: (11, ei w) :: (10, ei w) :: [(8, ei (k : Nat)), (4, pW b4), (3, pW b3), (0, T.sl false (l.map akT))])
    (heap := fun _ => (b13, ⟨nB19, nodeC x (eens x.log), 22⟩) :: (b9, ⟨nB19, nodeC x (eens x.log), 22⟩) :: (b4, ⟨tB19, nodeC K0.N (eens K0.N.log) ++ nodeC K0.N (eens K0.N.log), 44⟩) :: (b3, ⟨tA19, [pW k0, pW k1, pW k2], 3⟩) :: (KpH k2 j2 d2 K2' ++ (KpH k1 j1 d1 K1' ++ KpH k0 j0 d0 K0'))) ?_ (fun _ _ => ?_)
  · skip
    refine cmg [14, 17] (.yields 0 (.yields 1 (.yields 2 (.yields 3 (.yields 4 (.yields 5 (.yields 6 (.yields 7 (.yields 8 (.yields 9 (.yields 10 (.yields 11 (.yields 12 (.yields 13 (.yields 15 (.yields 16 (.alt 14 (.alt 17 (.yields 18 (.yields 19 (.yields 20 .done))) .stop) .stop))))))))))))))))) ?_
    refine m_ (fun _ => p_mv) ?_
    refine m_ (fun _ => p_mv) ?_
    refine m_ (fun _ => p_ne) ?_
    refine m_ (fun _ => p_mv) ?_
    refine mg_N (fun _ hg => p_mv) ?_
    refine mg_N (fun _ hg => p_no (hx := u_ hg)) ?_
    refine m_ (fun _ => p_or) ?_
    refine m_ (fun _ => p_mv) ?_
    refine mg_N (fun _ hg => p_mv) ?_
    refine mg_N (fun _ hg => p_no (hx := u_ hg)) ?_
    refine m_ (fun _ => p_or) ?_
    refine m_ (fun _ => p_mv) ?_
    refine mg_N (fun _ hg => p_ar) ?_
    refine mg_loN ?_
    refine mg_N (fun _ hg => p_ar) ?_
    refine mg_loN ?_
    refine ⟨?_, trivial⟩
    refine ⟨guard_no hno, ?_⟩
    refine t_cHrG hNo0 (List.perm_append_comm (l₁ := [_, _, _, _, _, _, _, _, _, _]) (l₂ := KpH k0 j0 d0 K0')) (fun r H' ⟨hr1, hr2⟩ => ⟨?_, ?_⟩) (ha' := evl_cons (u_ hno) evl_nil)
    · subst hr1 hr2; exact by (repeat (first | exact trivial | (apply And.intro; focus (intro hb; first | exact trivial | exact noB hb rfl | (repeat (first | exact hZ | apply hS | apply hA))))))
    subst hr1 hr2
    refine ⟨?_, trivial⟩
    refine ⟨guard_no hno, ?_⟩
    refine t_cHrG hNo1 (List.perm_append_comm (l₁ := [_, _, _, _, _, _, _, _, _, _]) (l₂ := KpH k1 j1 d1 K1')) (fun r H' ⟨hr1, hr2⟩ => ⟨?_, ?_⟩) (ha' := evl_cons (u_ hno) evl_nil)
    · subst hr1 hr2; exact by (repeat (first | exact trivial | (apply And.intro; focus (intro hb; first | exact trivial | exact noB hb rfl | (repeat (first | exact hZ | apply hS | apply hA))))))
    subst hr1 hr2
    refine mg_N (fun _ hg => p_ca hSa) ?_
    refine mg_N (fun _ hg => p_no (hx := u_ hg)) ?_
    refine m_ (fun _ => p_or) ?_
    exact ⟨(), _, trivial, eL, List.perm_append_comm (l₁ := KpH k1 j1 d1 K1' ++ KpH k0 j0 d0 K0') (l₂ := [_, _, _, _, _, _, _]), kR⟩
  (repeat (first | apply cn | apply cq | apply cb | apply ck | apply cl | apply cx))
  refine ci ?_ ?_
  · rintro (((h | h) | h) | h)
    · exact absurd rfl h
    · exact absurd trivial h
    · exact absurd trivial h
    · exact absurd rfl h
  intro _
  (repeat (first | apply cn | apply cq | apply cb | apply ck | apply cl | apply cx))
  apply cr
  refine s_ p_mv ?_
  refine s_ p_eq ?_
  refine s_ p_mv ?_
  refine gT (fun hg => p_mv) ?_
  refine gT (fun hg => p_eq (hx := u_ hg)) ?_
  refine s_ p_an ?_
  (repeat (first | apply cn | apply cq | apply cb | apply ck | apply cl | apply cx))
  refine ci ?_ ?_
  · rintro ⟨hw, _⟩
    rw [if_pos hw] at hA0
    (repeat (first | apply cn | apply cq | apply cb | apply ck | apply cl | apply cx))
    refine ca [0, 1, 2, 3, 4, 5] [3, 5] ?_
    refine a_loa ?_
    refine a_loa ?_
    refine a_ (fun _ => p_ar) ?_
    refine a_st ?_
    refine a_ (fun _ => p_ar) ?_
    refine a_st ?_
    apply an
    (repeat (first | apply cn | apply cq | apply cb | apply ck | apply cl | apply cx))
    (repeat (first | apply cn | apply cq | apply cb | apply ck | apply cl | apply cx))
    apply cr
    refine s_ p_mv ?_
    refine s_ p_ad ?_
    refine s_ p_as ?_
    (repeat (first | apply cn | apply cq | apply cb | apply ck | apply cl | apply cx))
    refine ⟨(k + 1, K0', K1', K2'), hstep K0' K1' K2' hE0' hE1' hE2' (by rw [hN0', hN1'']), (by simp only []; omega), ⟨le_get (by ((repeat (apply gS; rfl)); exact gZ)) (Le.refl _), eL⟩, ?_⟩
    simp only [hN0', hA0]
    exact .skip _ _ _ (.skip _ _ _ kR)
  · intro hw
    rw [if_neg fun h => hw ⟨h, h⟩] at hA0
    (repeat (first | apply cn | apply cq | apply cb | apply ck | apply cl | apply cx))
    apply cr
    refine s_ p_mv ?_
    refine s_ p_ad ?_
    refine s_ p_as ?_
    (repeat (first | apply cn | apply cq | apply cb | apply ck | apply cl | apply cx))
    refine ⟨(k + 1, K0', K1', K2'), hstep K0' K1' K2' hE0' hE1' hE2' (by rw [hN0', hN1'']), (by simp only []; omega), ⟨le_get (by ((repeat (apply gS; rfl)); exact gZ)) (Le.refl _), eL⟩, ?_⟩
    simp only [hN0', hA0]
    exact .skip _ _ _ (.skip _ _ _ kR)
end Go.Proofs.YtbdpfclnomiicaaGreat
