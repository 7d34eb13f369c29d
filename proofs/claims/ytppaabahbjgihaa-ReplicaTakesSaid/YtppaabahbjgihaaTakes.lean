/-
  ReplicaTakes: a message that nobody of the five sent for it changes nothing.
-/
import Derived.Test.YtppaabahbjgihaaPlays
import Derived.Test.YtppaabahbjgihaaFivs
set_option maxRecDepth 16000
namespace Go.Proofs.Ytppaabahbjgihaa
open Go.Cap Raft
set_option linter.unusedSimpArgs false
set_option linter.unusedVariables false
attribute [local irreducible] POp SimFrom DrawFrom EOp Sim FnH T.gp
theorem take_bad {n : Nd} {m : Ms} (h : badF n m) : takeF n m = (n, []) := by rw [takeF, if_pos h]
set_option maxHeartbeats 16000000 in
theorem takes_fn (l : List Ac) (m : Ms) (which : Int) (hl : l.length ≤ 9223372036854775807) (hcl : ∀ a ∈ l, a.cmd.length ≤ 9223372036854775807) (hme : m.entries.length ≤ 9223372036854775807) (hms : m.snap.length ≤ 9223372036854775807) : FnP Try.prog 9 [.sl false (l.map acT), ms m, ei which] (fun r => r = .v (.bool true)) := by
  have fK := known_fn
  have fF := few_fn l hl hcl
  refine fn_enter Try.func9 (by rfl) (by rfl) ?_
  intro S0 w0
  show Sim _ _ [(0, T.sl false (l.map acT)), (1, .agg (msC m (eens m.entries))), (2, ei which)] _ _
  (repeat (first | apply cn | apply cq | apply cb | apply ck | apply cl | apply cx))
  apply cr
  refine e_bx fun b4 _ => ?_
  refine s_ p_as ?_
  (repeat (first | apply cn | apply cq | apply cb | apply ck | apply cl | apply cx))
  refine lend1 4 (by simp [msC]) ?_
  (repeat (first | apply cn | apply cq | apply cb | apply ck | apply cl | apply cx))
  apply cr
  refine s_ (p_ca (fK)) ?_
  refine s_ p_noB ?_
  refine cn ?_
  (repeat (first | apply cn | apply cq | apply cb | apply ck | apply cl | apply cx))
  refine ci (p := False) (fun h => h.elim) (fun _ => ?_)
  (repeat (first | apply cn | apply cq | apply cb | apply ck | apply cl | apply cx))
  apply cr
  refine s_ p_mv ?_
  refine s_ (p_ca (fF)) ?_
  refine s_ p_no ?_
  refine s_ p_mv ?_
  refine gF (fun hg => p_mv) ?_
  (first | refine gF (fun hg => p_ln (hx := u_ hg)) ?_ | refine gF (fun hg => p_lr (hx := u_ hg)) ?_)
  refine gF (fun hg => p_gt (hx := u_ hg)) ?_
  refine s_ p_or ?_
  refine s_ p_mv ?_
  refine gF (fun hg => p_fa) ?_
  refine gF (fun hg => p_ld (hx := u_ hg)) ?_
  (first | refine gF (fun hg => p_ln (hx := u_ hg)) ?_ | refine gF (fun hg => p_lr (hx := u_ hg)) ?_)
  refine gF (fun hg => p_gt (hx := u_ hg)) ?_
  refine s_ p_or ?_
  refine s_ p_mv ?_
  refine gF (fun hg => p_fa) ?_
  refine gF (fun hg => p_ld (hx := u_ hg)) ?_
  refine gF (fun hg => p_ls (hx := u_ hg)) ?_
  refine gF (fun hg => p_gt (hx := u_ hg)) ?_
  refine s_ p_or ?_
  (repeat (first | apply cn | apply cq | apply cb | apply ck | apply cl | apply cx))
  refine ci ?_ ?_
  · intro hf
    (repeat (first | apply cn | apply cq | apply cb | apply ck | apply cl | apply cx))
    apply cr
    refine s_ p_as ?_
    (repeat (first | apply cn | apply cq | apply cb | apply ck | apply cl | apply cx))
    (apply sim_ret; (try simp only [blockΨ_ret, thenΨ_ret, loopL_ret, cutΨ_ret, cutE_ret]); first | refine rt ?_ | refine rn ?_)
    exact Le.refl _
  intro hf
  have hl100 : l.length ≤ 100 := by
    refine Nat.le_of_not_lt fun h => hf (.inl (.inl (.inr ?_)))
    show (100 : Int) < ((l.map acT).length : Nat)
    rw [List.length_map]; omega
  have he20 : m.entries.length ≤ 20 := by
    refine Nat.le_of_not_lt fun h => hf (.inl (.inr ?_))
    show (20 : Int) < ((m.entries.map een).length : Nat)
    rw [List.length_map]; omega
  (repeat (first | apply cn | apply cq | apply cb | apply ck | apply cl | apply cx))
  apply cr
  refine e_cH (Hr := []) (begin_fn 31 (by omega) (by omega)) (.refl _) (fun r H' ⟨b, hr, hF⟩ => ?_)
  subst hr
  rw [List.append_nil]
  refine s_ p_as ?_
  (repeat (first | apply cn | apply cq | apply cb | apply ck | apply cl | apply cx))
  apply cr
  refine s_ p_as ?_
  (repeat (first | apply cn | apply cq | apply cb | apply ck | apply cl | apply cx))
  apply sim_loopL (σ := Nat × Heap) (ok := fun s => s.1 ≤ l.length ∧ ∃ N M, FvH b N M s.2 ∧ Iv s.1 N M) (env := fun s => [(8, ei (s.1 : Nat)), (7, pW b), (0, T.sl false (l.map acT)), (4, .adr (.agg (msC m (eens m.entries)))), (2, ei which)]) (heap := fun s => s.2) (μ := fun s => l.length - s.1) (s0 := (0, H'))
  · exact ⟨Nat.zero_le _, _, _, hF, _, _, iv_begin (by omega) (by omega)⟩
  · exact eL
  · exact kR
  rintro ⟨k, H⟩ ⟨hk, N, M, hF, Hh, L, I⟩
  simp only at hk hF I
  (repeat (first | apply cn | apply cq | apply cb | apply ck | apply cl | apply cx))
  apply cr
  refine s_ p_mv ?_
  refine s_ p_mv ?_
  (first | refine s_ p_ln ?_ | refine s_ p_lr ?_)
  refine s_ p_lt ?_
  (repeat (first | apply cn | apply cq | apply cb | apply ck | apply cl | apply cx))
  refine ci ?_ ?_
  · intro hlt
    have hix : k < l.length := by simp only [List.length_map] at hlt; omega
    have fD := do_fn I (by omega) l[k] hF
    (repeat (first | apply cn | apply cq | apply cb | apply ck | apply cl | apply cx))
    apply cr
    refine s_ p_mv ?_
    refine s_ p_mv ?_
    refine s_ p_mv ?_
    (first | refine s_ (p_ix hix) ?_ | refine s_ (p_ix hix2) ?_ | refine s_ p_ia ?_ | refine s_ p_ir ?_)
    (first | refine s_ p_la ?_ | refine s_ p_loa ?_)
    refine e_cHA fD (fun r H' ⟨hr, hF'⟩ => ?_)
    subst hr
    
    refine s_ p_noB ?_
    refine cn ?_
    (repeat (first | apply cn | apply cq | apply cb | apply ck | apply cl | apply cx))
    refine ci (p := False) (fun h => h.elim) (fun _ => ?_)
    obtain ⟨H2, L2, _, I2⟩ := do_step I l[k]
    (repeat (first | apply cn | apply cq | apply cb | apply ck | apply cl | apply cx))
    apply cr
    refine s_ p_mv ?_
    refine s_ p_ad ?_
    refine s_ p_as ?_
    (repeat (first | apply cn | apply cq | apply cb | apply ck | apply cl | apply cx))
    exact ⟨(k + 1, _), ⟨hix, _, _, hF', H2, L2, I2⟩, by show l.length - (k + 1) < l.length - k; omega, ⟨le_get (by rfl) (Le.refl _), eL⟩, kR⟩
  intro hlt
  obtain ⟨v, Hm, h1, rfl⟩ := hF
  (repeat (first | apply cn | apply cq | apply cb | apply ck | apply cl | apply cx))
  apply cr
  refine s_ p_as ?_
  (repeat (first | apply cn | apply cq | apply cb | apply ck | apply cl | apply cx))
  apply sim_loopL (σ := Nat) (ok := fun j => j ≤ 5) (env := fun j => [(9, ei (j : Nat)), (7, pW b), (4, .adr (.agg (msC m (eens m.entries)))), (2, ei which)]) (heap := fun _ => (b, ⟨tF, fvC N (.v v), 111⟩) :: (Hm ++ [])) (μ := fun j => 5 - j) (s0 := 0)
  · exact Nat.zero_le _
  · exact eL
  · exact kR
  intro j hj
  (repeat (first | apply cn | apply cq | apply cb | apply ck | apply cl | apply cx))
  apply cr
  refine s_ p_mv ?_
  refine s_ p_lt ?_
  (repeat (first | apply cn | apply cq | apply cb | apply ck | apply cl | apply cx))
  refine ci ?_ ?_
  · intro hlt2
    have hj5 : j < 5 := by omega
    have hid := (I.nd j hj5).id
    obtain ⟨hRd, hNb, hlg, _, _, hla, _⟩ := I.rd (by omega) hj5
    have hj0 : (0 : Int) ≤ (j : Nat) := by omega
    have hj5' : ((j : Nat) : Int) < 5 := by omega
    have hjt : ((j : Nat) : Int).toNat = j := Int.toNat_natCast j
    rw [← hjt] at hRd hlg hNb
    have hid : (N ((j : Nat) : Int).toNat).id = (j : Nat) := by rw [hjt]; exact hid
    generalize hn : N ((j : Nat) : Int).toNat = n at hRd hlg hNb hid
    have htk : TakeR (fvC N (.v v)) (0 + 0 + ((j : Nat) : Int).toNat * 22) 22 (nodeC n (eens n.log)) := by rw [← hn]; exact fv_take hj0 hj5'
    have w1 := within_fn m.kind 5 (by omega) (by omega)
    have w2 := within_fn m.term 5 (by omega) (by omega)
    have w3 := within_fn which 4 (by omega) (by omega)
    have w4 := within_fn m.to 4 (by omega) (by omega)
    have w5 := within_fn m.kind 9 (by omega) (by omega)
    have w6 := within_fn m.term 9 (by omega) (by omega)
    have hr1 : ((j : Int) + 1).tmod 5 = ((j : Int) + 1) % 5 := Int.tmod_eq_emod_of_nonneg (by omega)
    have hr2 : ((j : Int) + 1 + m.to % 4).tmod 5 = ((j : Int) + 1 + m.to % 4) % 5 := Int.tmod_eq_emod_of_nonneg (by omega)
    (repeat (first | apply cn | apply cq | apply cb | apply ck | apply cl | apply cx))
    apply cr
    refine s_ p_la ?_
    refine e_al fun b10 _ => ?_
    refine e_st ?_
    (repeat (first | apply cn | apply cq | apply cb | apply ck | apply cl | apply cx))
    refine ca [0, 1, 2, 3, 4, 5, 6, 7, 8, 9, 10, 11, 12, 13, 14, 15, 16, 17, 18] [12, 14, 16, 18] ?_
    refine a_ (fun _ => p_mv) ?_
    refine a_ (fun _ => p_mv) ?_
    refine a_ (fun _ => p_ad) ?_
    refine a_ (fun _ => p_re) ?_
    refine a_ (fun _ => p_fa) ?_
    refine a_ (fun _ => p_ld) ?_
    refine a_ (fun _ => p_ca (w1)) ?_
    refine a_ (fun _ => p_ad) ?_
    refine a_ (fun _ => p_fa) ?_
    refine a_ (fun _ => p_ld) ?_
    refine a_ (fun _ => p_ca (w2)) ?_
    refine a_ (fun _ => p_fr) ?_
    refine a_st ?_
    refine a_ (fun _ => p_fr) ?_
    refine a_st ?_
    refine a_ (fun _ => p_fr) ?_
    refine a_st ?_
    refine a_ (fun _ => p_fr) ?_
    refine a_st ?_
    apply an
    (repeat (first | apply cn | apply cq | apply cb | apply ck | apply cl | apply cx))
    apply cr
    refine s_ p_mv ?_
    refine s_ (p_ca (w3)) ?_
    apply cn
    show Sim _ _ _ _ (thenΨ _ _ _)
    refine sim_cutE (σ := Ms) (ok := fun x => badF n x ∧ x.entries = m.entries) (env := fun _ => [(10, pN b10), (9, ei (j : Nat)), (7, pW b), (4, .adr (.agg (msC m (eens m.entries)))), (2, ei which)]) (heap := fun x => (b10, ⟨tM, msC x (eens m.entries), 11⟩) :: (b, ⟨tF, fvC N (.v v), 111⟩) :: (Hm ++ [])) ?_ ?_
    · generalize hwk : which % 4 = wk
      have hw4 : 0 ≤ wk ∧ wk < 4 := by omega
      (repeat (first | apply cn | apply cq | apply cb | apply ck | apply cl | apply cx))
      apply cr
      refine s_ p_eq ?_
      refine s_ p_as ?_
      (repeat (first | apply cn | apply cq | apply cb | apply ck | apply cl | apply cx))
      refine ci ?_ ?_
      · intro hc
        (repeat (first | apply cn | apply cq | apply cb | apply ck | apply cl | apply cx))
        apply cr
        refine s_ p_mv ?_
        refine s_ p_ad ?_
        refine s_ p_fa ?_
        refine s_ p_ld ?_
        refine s_ (p_ca (w4)) ?_
        refine s_ p_ad ?_
        refine s_ p_re ?_
        refine s_ p_fr ?_
        refine e_st ?_
        (repeat (first | apply cn | apply cq | apply cb | apply ck | apply cl | apply cx))
        refine ⟨{ m with to := ((j : Int) + 1 + m.to % 4).tmod 5, frm := ((j : Int) + 1).tmod 5, kind := 1 + m.kind % 5, term := m.term % 5 }, ⟨?_, rfl⟩, eL, kR⟩
        refine .inl (.inr ?_)
        show ¬ ((j : Int) + 1 + m.to % 4).tmod 5 = n.id
        rw [hr2, hid]; omega
      intro hc0
      (repeat (first | apply cn | apply cq | apply cb | apply ck | apply cl | apply cx))
      apply cr
      refine s_ p_eq ?_
      refine s_ p_as ?_
      (repeat (first | apply cn | apply cq | apply cb | apply ck | apply cl | apply cx))
      refine ci ?_ ?_
      · intro hc
        (repeat (first | apply cn | apply cq | apply cb | apply ck | apply cl | apply cx))
        apply cr
        refine s_ p_mv ?_
        refine s_ p_fr ?_
        refine e_st ?_
        (repeat (first | apply cn | apply cq | apply cb | apply ck | apply cl | apply cx))
        refine ⟨{ m with to := (j : Nat), frm := (j : Nat), kind := 1 + m.kind % 5, term := m.term % 5 }, ⟨?_, rfl⟩, eL, kR⟩
        exact .inl (.inl (.inr hid.symm))
      intro hc1
      (repeat (first | apply cn | apply cq | apply cb | apply ck | apply cl | apply cx))
      apply cr
      refine s_ p_eq ?_
      refine s_ p_as ?_
      (repeat (first | apply cn | apply cq | apply cb | apply ck | apply cl | apply cx))
      refine ci ?_ ?_
      · intro hc
        (repeat (first | apply cn | apply cq | apply cb | apply ck | apply cl | apply cx))
        apply cr
        refine s_ p_fa ?_
        refine s_ p_ld ?_
        refine s_ (p_ca (w5)) ?_
        refine s_ p_ad ?_
        refine s_ p_fr ?_
        refine e_st ?_
        (repeat (first | apply cn | apply cq | apply cb | apply ck | apply cl | apply cx))
        refine ⟨{ m with to := (j : Nat), frm := ((j : Int) + 1).tmod 5, kind := 6 + m.kind % 9, term := m.term % 5 }, ⟨?_, rfl⟩, eL, kR⟩
        refine .inr (.inl (.inl (.inr ?_)))
        show 5 < 6 + m.kind % 9
        omega
      intro hc2
      (repeat (first | apply cn | apply cq | apply cb | apply ck | apply cl | apply cx))
      apply cr
      refine s_ p_eq ?_
      refine s_ p_as ?_
      (repeat (first | apply cn | apply cq | apply cb | apply ck | apply cl | apply cx))
      refine ci ?_ ?_
      · intro hc
        (repeat (first | apply cn | apply cq | apply cb | apply ck | apply cl | apply cx))
        apply cr
        refine s_ p_fa ?_
        refine s_ p_ld ?_
        refine s_ (p_ca (w6)) ?_
        refine s_ p_ad ?_
        refine s_ p_fr ?_
        refine e_st ?_
        (repeat (first | apply cn | apply cq | apply cb | apply ck | apply cl | apply cx))
        refine ⟨{ m with to := (j : Nat), frm := ((j : Int) + 1).tmod 5, kind := 1 + m.kind % 5, term := 1073741825 + m.term % 9 }, ⟨?_, rfl⟩, eL, kR⟩
        refine .inr (.inr ?_)
        show 1073741824 < 1073741825 + m.term % 9
        omega
      · intro hc3
        exfalso
        have h0 : ¬ wk = 0 := hc0
        have h1 : ¬ wk = 1 := hc1
        have h2 : ¬ wk = 2 := hc2
        have h3 : ¬ wk = 3 := hc3
        omega
    rintro x ⟨hbad, hxe⟩
    show Sim _ _ [(10, pN b10), (9, ei (j : Nat)), (7, pW b), (4, .adr (.agg (msC m (eens m.entries)))), (2, ei which)] ((b10, ⟨tM, msC x (eens m.entries), 11⟩) :: (b, ⟨tF, fvC N (.v v), 111⟩) :: (Hm ++ [])) _
    rw [← hxe]
    have fT := take_fn (n := n) (m := x) hRd.bd hNb (.inl hbad)
    rw [take_bad hbad] at fT
    have fS := same_fn n n (by omega) (by omega)
    (repeat (first | apply cn | apply cq | apply cb | apply ck | apply cl | apply cx))
    refine ca [0, 1, 2, 3, 4, 5, 6, 7, 8, 9, 10, 11, 12, 13] [11, 12] ?_
    refine a_ (fun _ => p_mv) ?_
    refine a_ (fun _ => p_mv) ?_
    refine a_ (fun _ => p_nc) ?_
    refine a_ (fun _ => p_fr) ?_
    refine a_ (fun _ => p_ar) ?_
    refine a_loa (hc := htk) ?_
    refine a_loa ?_
    refine a_ (fun _ => p_ca (fT)) ?_
    refine a_ (fun _ => p_mv) ?_
    refine a_ (fun _ => p_ex) ?_
    refine a_ (fun _ => p_ex) ?_
    refine a_al fun b11 _ => ⟨by (repeat (first | exact trivial | (apply And.intro; focus (intro hb; first | exact trivial | exact noB hb rfl | (repeat (first | exact hZ | apply hS | apply hA)))))), ?_⟩
    refine a_st ?_
    refine a_ (fun _ => p_as) ?_
    apply an
    (repeat (first | apply cn | apply cq | apply cb | apply ck | apply cl | apply cx))
    refine ca [0, 1, 2, 3, 4, 5, 6, 7, 8, 9, 10, 11, 12, 13] [] ?_
    refine a_loa ?_
    refine a_ (fun _ => p_mv) ?_
    refine a_ (fun _ => p_mv) ?_
    refine a_ (fun _ => p_nc) ?_
    refine a_ (fun _ => p_fr) ?_
    refine a_ (fun _ => p_ar) ?_
    refine a_loa (hc := htk) ?_
    refine a_ (fun _ => p_ca (fS)) ?_
    refine a_ (fun _ => p_no) ?_
    refine a_ (fun _ => p_mv) ?_
    refine ag_F (fun _ hg => p_mv) ?_
    (first | refine ag_F (fun _ hg => p_ln (hx := u_ hg)) ?_ | refine ag_F (fun _ hg => p_lr (hx := u_ hg)) ?_)
    refine ag_F (fun _ hg => p_ne (hx := u_ hg)) ?_
    refine a_ (fun _ => p_or) ?_
    apply an
    (repeat (first | apply cn | apply cq | apply cb | apply ck | apply cl | apply cx))
    refine ci (fun h => ?_) (fun _ => ?_)
    · exfalso
      rcases h with h | h <;> exact h rfl
    (repeat (first | apply cn | apply cq | apply cb | apply ck | apply cl | apply cx))
    apply cr
    refine s_ p_mv ?_
    refine s_ p_ad ?_
    refine s_ p_as ?_
    (repeat (first | apply cn | apply cq | apply cb | apply ck | apply cl | apply cx))
    rw [hxe]
    exact ⟨j + 1, by omega, by show 5 - (j + 1) < 5 - j; omega, ⟨le_get (by rfl) (Le.refl _), eL⟩, kS (kS kR)⟩
  · intro _
    (repeat (first | apply cn | apply cq | apply cb | apply ck | apply cl | apply cx))
    apply cr
    refine s_ p_as ?_
    (repeat (first | apply cn | apply cq | apply cb | apply ck | apply cl | apply cx))
    (apply sim_ret; (try simp only [blockΨ_ret, thenΨ_ret, loopL_ret, cutΨ_ret, cutE_ret]); first | refine rt ?_ | refine rn ?_)
    exact Le.refl _
end Go.Proofs.Ytppaabahbjgihaa
