/-
  ReplicaSafe: at most one leads in a term; logs that hold the same entry are the same up to it; what is committed stays.
-/
import Derived.Test.YtppaabahbjgihaaPlays
import Derived.Test.YtppaabahbjgihaaSafeA
import Derived.Test.YtppaabahbjgihaaFivs
set_option maxRecDepth 16000
namespace Go.Proofs.Ytppaabahbjgihaa
open Go.Cap Raft
set_option linter.unusedSimpArgs false
set_option linter.unusedVariables false
attribute [local irreducible] POp SimFrom DrawFrom EOp Sim FnH T.gp
def tI : TypeId := 3
theorem ei1 (l : List Int) : ∀ x ∈ l.map ei, x.cells.length = 1 := by
  intro x hx
  obtain ⟨a, _, rfl⟩ := List.mem_map.1 hx
  rfl
theorem osl_get {e : TypeId} {k : Nat} {xs : List T} {p : Option Addr} {n c : Nat} {Hs : Heap} (h : OSl e k xs (.slice p n c) Hs) {j : Nat} (hj : j < xs.length) : ∃ bl, p = some ⟨bl, 0, none⟩ ∧ (bl, (⟨e, xs.flatMap T.cells, c * k⟩ : Blk)) ∈ Hs := by
  rcases h with ⟨rfl, _⟩ | ⟨bl, c', e, _, rfl⟩
  · simp at hj
  · cases e; exact ⟨bl, rfl, List.mem_singleton.2 rfl⟩
structure SS where
  k : Nat
  vL : Value
  vW : Value
  vD : Value
  F : Heap
  L : Heap
  W : Heap
  D : Heap
def SS.heap (s : SS) : Heap := s.F ++ (s.L ++ (s.W ++ s.D))
/-- The rows that the law keeps. -/
structure Rw (led who : List Int) (D : List En) (vL vW vD : Value) (HL HW HD : Heap) : Prop where
  l : OSl tI 1 (led.map ei) vL HL
  w : OSl tI 1 (who.map ei) vW HW
  d : OSl tE 3 (D.map een) vD HD
set_option maxHeartbeats 32000000 in
theorem safe_fn (conf : Int) (l : List Ac) (hl : l.length ≤ 9223372036854775807) (hcl : ∀ a ∈ l, a.cmd.length ≤ 9223372036854775807) : FnP Try.prog 10 [ei conf, .sl false (l.map acT)] (fun r => r = .v (.bool true)) := by
  have fK := known_fn
  have fF := few_fn l hl hcl
  have fW := within_fn conf 31 (by omega) (by omega)
  have hcf := conf_at conf
  refine fn_enter Try.func10 (by rfl) (by rfl) ?_
  intro S0 w0
  show Sim _ _ [(0, ei conf), (1, T.sl false (l.map acT))] _ _
  (repeat (first | apply cn | apply cq | apply cb | apply ck | apply cl | apply cx))
  apply cr
  refine s_ p_as ?_
  (repeat (first | apply cn | apply cq | apply cb | apply ck | apply cl | apply cx))
  apply cr
  refine s_ (p_ca (fK)) ?_
  refine s_ p_noB ?_
  refine cn ?_
  (repeat (first | apply cn | apply cq | apply cb | apply ck | apply cl | apply cx))
  refine ci (p := False) (fun h => h.elim) (fun _ => ?_)
  (repeat (first | apply cn | apply cq | apply cb | apply ck | apply cl | apply cx))
  apply cr
  refine s_ p_mv ?_
  refine s_ (p_ca (fF)) ?_
  refine s_ p_no ?_
  (repeat (first | apply cn | apply cq | apply cb | apply ck | apply cl | apply cx))
  refine ci ?_ ?_
  · intro hf
    (repeat (first | apply cn | apply cq | apply cb | apply ck | apply cl | apply cx))
    apply cr
    refine s_ p_as ?_
    (repeat (first | apply cn | apply cq | apply cb | apply ck | apply cl | apply cx))
    (apply sim_ret; (try simp only [blockΨ_ret, thenΨ_ret, loopL_ret, cutΨ_ret, cutE_ret]); first | refine rt ?_ | refine rn ?_)
    exact Le.refl _
  intro hf
  have hfew : fewF l = true := Classical.not_not.1 hf
  rw [fewF, Bool.and_eq_true, List.all_eq_true, decide_eq_true_iff] at hfew
  have hl400 := hfew.2
  (repeat (first | apply cn | apply cq | apply cb | apply ck | apply cl | apply cx))
  apply cr
  refine s_ p_mv ?_
  refine s_ (p_ca (fW)) ?_
  refine s_ p_ad ?_
  refine e_cH (Hr := []) (begin_fn (1 + conf % 31) hcf.1 hcf.2) (.refl _) (fun r H' ⟨b, hr, hF⟩ => ?_)
  subst hr
  rw [List.append_nil]
  refine s_ p_as ?_
  (repeat (first | apply cn | apply cq | apply cb | apply ck | apply cl | apply cx))
  apply cr
  refine s_ p_as ?_
  (repeat (first | apply cn | apply cq | apply cb | apply ck | apply cl | apply cx))
  apply cr
  refine s_ p_as ?_
  (repeat (first | apply cn | apply cq | apply cb | apply ck | apply cl | apply cx))
  apply cr
  refine s_ p_as ?_
  (repeat (first | apply cn | apply cq | apply cb | apply ck | apply cl | apply cx))
  apply cr
  refine s_ p_as ?_
  (repeat (first | apply cn | apply cq | apply cb | apply ck | apply cl | apply cx))
  apply sim_loopL (σ := SS) (ok := fun s => s.k ≤ l.length ∧ ∃ N M led who D Hh L, FvH b N M s.F ∧ Rw led who D s.vL s.vW s.vD s.L s.W s.D ∧ IvH Hh L s.k N M ∧ B0 N M ∧ Sf Hh led who D ∧ led.length ≤ 5 * s.k)
    (env := fun s => [(9, ei (s.k : Nat)), (8, .v s.vD), (7, .v s.vW), (6, .v s.vL), (5, pW b), (1, T.sl false (l.map acT))]) (heap := SS.heap) (μ := fun s => l.length - s.k) (s0 := ⟨0, .slice none 0 0, .slice none 0 0, .slice none 0 0, H', [], [], []⟩)
  · exact ⟨Nat.zero_le _, _, _, [], [], [], _, _, hF, ⟨osl_nil, osl_nil, osl_nil⟩, iv_begin hcf.1 hcf.2, B0.begin _, sf_begin _, Nat.zero_le _⟩
  · exact eL
  · show HeapFront H' (H' ++ ([] ++ ([] ++ [])))
    rw [List.append_nil, List.append_nil, List.append_nil]
    exact kR
  rintro ⟨k, vL, vW, vD, HF, HL, HW, HD⟩ ⟨hk, N, M, led, who, D, Hh, L, hF, hR, I, hB, hSf, hlen⟩
  simp only at hk hF hR I hlen
  show Sim _ _ [(9, ei (k : Nat)), (8, .v vD), (7, .v vW), (6, .v vL), (5, pW b), (1, T.sl false (l.map acT))] (HF ++ (HL ++ (HW ++ HD))) _
  (repeat (first | apply cn | apply cq | apply cb | apply ck | apply cl | apply cx))
  apply cr
  refine s_ p_mv ?_
  refine s_ p_mv ?_
  (first | refine s_ p_ln ?_ | refine s_ p_lr ?_)
  refine s_ p_lt ?_
  refine s_ p_mv ?_
  refine gT (fun hg => p_mv) ?_
  refine gT (fun hg => p_lt (hx := u_ hg)) ?_
  refine s_ p_an ?_
  (repeat (first | apply cn | apply cq | apply cb | apply ck | apply cl | apply cx))
  refine ci ?_ ?_
  · intro hlt
    have hix : k < l.length := by have := hlt.1; simp only [List.length_map] at this; omega
    have hk250 : k < 250 := by have := hlt.2; omega
    have w18 := within_fn l[k].kind 18 (by omega) (by omega)
    (repeat (first | apply cn | apply cq | apply cb | apply ck | apply cl | apply cx))
    apply cr
    refine s_ p_mv ?_
    refine s_ p_mv ?_
    (first | refine s_ (p_ix hix) ?_ | refine s_ (p_ix hix2) ?_ | refine s_ p_ia ?_ | refine s_ p_ir ?_)
    (first | refine s_ p_la ?_ | refine s_ p_loa ?_)
    refine e_al fun b10 _ => ?_
    refine e_st ?_
    (repeat (first | apply cn | apply cq | apply cb | apply ck | apply cl | apply cx))
    apply cr
    refine s_ p_fr ?_
    refine s_ p_lo ?_
    refine s_ (p_ca (w18)) ?_
    refine s_ p_eq ?_
    (repeat (first | apply cn | apply cq | apply cb | apply ck | apply cl | apply cx))
    show Sim _ _ _ _ (thenΨ _ _ _)
    refine sim_cutE (σ := Ac) (ok := fun a => a.kind % 18 ≠ 15) (env := fun _ => [(10, pN b10), (9, ei (k : Nat)), (8, .v vD), (7, .v vW), (6, .v vL), (5, pW b), (1, T.sl false (l.map acT))]) (heap := fun a => (b10, ⟨58, [ei a.kind, ei a.i, ei a.n, es a.cmd], 4⟩) :: (HF ++ (HL ++ (HW ++ HD)))) ?_ ?_
    · refine ci ?_ ?_
      · intro hc
        (repeat (first | apply cn | apply cq | apply cb | apply ck | apply cl | apply cx))
        apply cr
        refine s_ p_fr ?_
        refine e_st ?_
        (repeat (first | apply cn | apply cq | apply cb | apply ck | apply cl | apply cx))
        exact ⟨{ l[k] with kind := 3 }, by show (3:Int) % 18 ≠ 15; decide, eL, kR⟩
      · intro hc
        (repeat (first | apply cn | apply cq | apply cb | apply ck | apply cl | apply cx))
        exact ⟨l[k], hc, eL, kR⟩
    intro a ha
    have fD := do_fn I (by omega) a hF
    (repeat (first | apply cn | apply cq | apply cb | apply ck | apply cl | apply cx))
    apply cr
    refine s_ p_mv ?_
    refine s_ p_loa ?_
    refine e_cH (Hs := HF) (Hr := (b10, _) :: (HL ++ (HW ++ HD))) fD List.perm_middle.symm (fun r H' ⟨hr, hF'⟩ => ?_)
    subst hr
    
    refine s_ p_noB ?_
    refine cn ?_
    (repeat (first | apply cn | apply cq | apply cb | apply ck | apply cl | apply cx))
    refine ci (p := False) (fun h => h.elim) (fun _ => ?_)
    obtain ⟨H2, L2, hE, I2⟩ := do_step I a
    have hB2 := hB.act I ha
    have hS2 := hSf.ext I.F hE
    generalize (doF N M a).1 = N2 at hF' I2 hB2
    generalize (doF N M a).2 = M2 at hF' I2 hB2
    have hF2 := hF'
    obtain ⟨v, Hm, h1, rfl⟩ := hF'
    (repeat (first | apply cn | apply cq | apply cb | apply ck | apply cl | apply cx))
    apply cr
    refine s_ p_as ?_
    (repeat (first | apply cn | apply cq | apply cb | apply ck | apply cl | apply cx))
    apply sim_loopL (σ := SS) (ok := fun s => s.k ≤ 5 ∧ s.F = (b, ⟨tF, fvC N2 (.v v), 111⟩) :: (Hm ++ []) ∧ ∃ led who D, Rw led who D s.vL s.vW s.vD s.L s.W s.D ∧ Sf H2 led who D ∧ led.length ≤ 5 * k + s.k)
      (env := fun s => [(11, ei (s.k : Nat)), (9, ei (k : Nat)), (8, .v s.vD), (7, .v s.vW), (6, .v s.vL), (5, pW b), (1, T.sl false (l.map acT))]) (heap := SS.heap) (μ := fun s => 5 - s.k) (s0 := ⟨0, vL, vW, vD, (b, ⟨tF, fvC N2 (.v v), 111⟩) :: (Hm ++ []), HL, HW, HD⟩)
    · exact ⟨Nat.zero_le _, rfl, led, who, D, hR, hS2, hlen⟩
    · exact eL
    · show HeapFront (((b, ⟨tF, fvC N2 (.v v), 111⟩) :: (Hm ++ [])) ++ (_ :: (HL ++ (HW ++ HD)))) (((b, ⟨tF, fvC N2 (.v v), 111⟩) :: (Hm ++ [])) ++ (HL ++ (HW ++ HD)))
      exact kH (kS kR)
    clear hR hSf hS2 hlen
    rintro ⟨j, vL, vW, vD, _, HL, HW, HD⟩ ⟨hj, rfl, led, who, D, hR, hSf, hlen⟩
    simp only at hj hR hlen
    show Sim _ _ [(11, ei (j : Nat)), (9, ei (k : Nat)), (8, .v vD), (7, .v vW), (6, .v vL), (5, pW b), (1, T.sl false (l.map acT))] ((b, ⟨tF, fvC N2 (.v v), 111⟩) :: (Hm ++ []) ++ (HL ++ (HW ++ HD))) _
    (repeat (first | apply cn | apply cq | apply cb | apply ck | apply cl | apply cx))
    apply cr
    refine s_ p_mv ?_
    refine s_ p_lt ?_
    (repeat (first | apply cn | apply cq | apply cb | apply ck | apply cl | apply cx))
    refine ci ?_ ?_
    · intro hlt2
      have hj5 : j < 5 := by omega
      obtain ⟨hRd, hNb, hlg, _, _, hla, _⟩ := I2.rd (by omega) hj5
      have hNI := I2.nd j hj5
      have hb0 := hB2.1 j hj5
      have hj0 : (0 : Int) ≤ (j : Nat) := by omega
      have hj5' : ((j : Nat) : Int) < 5 := by omega
      have hjt : ((j : Nat) : Int).toNat = j := Int.toNat_natCast j
      have htk := fv_take (N := N2) (v := .v v) hj0 hj5'
      rw [hjt] at htk
      generalize N2 j = n at htk hNI hb0 hlg
      obtain ⟨cc, hcc, hcl, hK⟩ := NI.known hNI hb0
      (repeat (first | apply cn | apply cq | apply cb | apply ck | apply cl | apply cx))
      apply cr
      refine s_ p_mv ?_
      refine s_ p_mv ?_
      refine s_ p_nc ?_
      refine s_ p_fr ?_
      refine s_ p_ar ?_
      refine s_ (p_loa (hc := htk)) ?_
      refine e_al fun b12 _ => ?_
      refine e_st ?_
      (repeat (first | apply cn | apply cq | apply cb | apply ck | apply cl | apply cx))
      apply cr
      refine s_ p_fr ?_
      refine s_ p_lo ?_
      refine s_ p_eq ?_
      (repeat (first | apply cn | apply cq | apply cb | apply ck | apply cl | apply cx))
      refine sim_cutE (σ := SS) (ok := fun s => s.F = (b, ⟨tF, fvC N2 (.v v), 111⟩) :: (Hm ++ []) ∧ ∃ led who D, Rw led who D s.vL s.vW s.vD s.L s.W s.D ∧ Sf H2 led who D ∧ led.length ≤ 5 * k + (j + 1))
        (env := fun s => [(12, pN b12), (11, ei (j : Nat)), (9, ei (k : Nat)), (8, .v s.vD), (7, .v s.vW), (6, .v s.vL), (5, pW b), (1, T.sl false (l.map acT))]) (heap := fun s => (b12, ⟨nB, nodeC n (eens n.log), 22⟩) :: s.heap) ?_ ?_
      · refine ci ?_ ?_
        · intro hr0
          have hrole : n.role = 2 := hr0
          have hwl := hSf.len
          obtain ⟨pL, cL, rfl⟩ := hR.l.len
          obtain ⟨pW', cW, rfl⟩ := hR.w.len
          (repeat (first | apply cn | apply cq | apply cb | apply ck | apply cl | apply cx))
          apply cr
          refine s_ p_as ?_
          (repeat (first | apply cn | apply cq | apply cb | apply ck | apply cl | apply cx))
          apply sim_loopL (σ := Nat) (ok := fun q => q ≤ led.length) (env := fun q => [(13, ei (q : Nat)), (12, pN b12), (11, ei (j : Nat)), (9, ei (k : Nat)), (8, .v vD), (7, .v (.slice pW' (who.map ei).length cW)), (6, .v (.slice pL (led.map ei).length cL)), (5, pW b), (1, T.sl false (l.map acT))])
            (heap := fun _ => (b12, ⟨nB, nodeC n (eens n.log), 22⟩) :: (((b, ⟨tF, fvC N2 (.v v), 111⟩) :: (Hm ++ [])) ++ (HL ++ (HW ++ HD)))) (μ := fun q => led.length - q) (s0 := 0)
          · exact Nat.zero_le _
          · exact eL
          · exact kR
          intro q hq
          (repeat (first | apply cn | apply cq | apply cb | apply ck | apply cl | apply cx))
          apply cr
          refine s_ p_mv ?_
          refine s_ p_mv ?_
          (first | refine s_ p_ln ?_ | refine s_ p_lr ?_)
          refine s_ p_lt ?_
          (repeat (first | apply cn | apply cq | apply cb | apply ck | apply cl | apply cx))
          refine ci ?_ ?_
          · intro hq2
            have hq3 : q < led.length := by simp only [List.length_map] at hq2; omega
            have hq4 : q < who.length := hSf.len ▸ hq3
            obtain ⟨t0, ht0⟩ : ∃ t, led[q]? = some t := ⟨_, List.getElem?_eq_getElem hq3⟩
            obtain ⟨u0, hu0⟩ : ∃ t, who[q]? = some t := ⟨_, List.getElem?_eq_getElem hq4⟩
            have hq5 : q < (led.map ei).length := by rw [List.length_map]; exact hq3
            have hq6 : q < (who.map ei).length := by rw [List.length_map]; exact hq4
            obtain ⟨bl, hbl, hml⟩ := osl_get hR.l hq5
            obtain ⟨bw, hbw, hmw⟩ := osl_get hR.w hq6
            have hg1 : ((led.map ei).flatMap T.cells)[0 + q * 1 + 0]? = some (ei t0) := flat_at (k := 1) (j := 0) (ei1 _) (by rw [List.getElem?_map, ht0]; rfl) (by decide) rfl
            have hg2 : ((who.map ei).flatMap T.cells)[0 + q * 1 + 0]? = some (ei u0) := flat_at (k := 1) (j := 0) (ei1 _) (by rw [List.getElem?_map, hu0]; rfl) (by decide) rfl
            (repeat (first | apply cn | apply cq | apply cb | apply ck | apply cl | apply cx))
            refine ca [0, 1, 2, 3, 4, 5, 6, 7, 8, 9, 10, 11, 12, 13, 14] [] ?_
            refine a_ (fun _ => p_mv) ?_
            refine a_ (fun _ => p_mv) ?_
            refine a_ (fun _ => p_irG hbl) ?_
            refine a_lo (b := bl) (hm := List.mem_cons_of_mem _ (List.mem_append_right _ (List.mem_append_left _ hml))) (hd := hg1) ?_
            refine a_ (fun _ => p_fr) ?_
            refine a_lo ?_
            refine a_ (fun _ => p_eq) ?_
            refine a_ (fun _ => p_mv) ?_
            refine ag_T (fun _ hg => p_mv) ?_
            refine ag_T (fun _ hg => p_mv) ?_
            refine ag_T (p := t0 = n.term) (fun _ hg => p_irG hbw (hx := u_ hg) (hy := u_ hg)) ?_
            refine ag_loTc (p := t0 = n.term) (b := bw) (fun _ => List.mem_cons_of_mem _ (List.mem_append_right _ (List.mem_append_right _ (List.mem_append_left _ hmw)))) (fun _ => hg2) ?_
            refine ag_T (fun _ hg => p_mv) ?_
            refine ag_T (fun _ hg => p_ne (hx := u_ hg) (hy := u_ hg)) ?_
            refine a_ (fun _ => p_an) ?_
            apply an
            (repeat (first | apply cn | apply cq | apply cb | apply ck | apply cl | apply cx))
            refine ci ?_ ?_
            · intro hc
              obtain ⟨h1, h2⟩ := hc
              subst h1
              exact (h2 (hSf.one hNI hrole ht0 hu0)).elim
            · intro _
              (repeat (first | apply cn | apply cq | apply cb | apply ck | apply cl | apply cx))
              apply cr
              refine s_ p_mv ?_
              refine s_ p_ad ?_
              refine s_ p_as ?_
              (repeat (first | apply cn | apply cq | apply cb | apply ck | apply cl | apply cx))
              exact ⟨q + 1, by omega, by show led.length - (q + 1) < led.length - q; omega, ⟨le_get (by rfl) (Le.refl _), eL⟩, kR⟩
          · intro _
            (repeat (first | apply cn | apply cq | apply cb | apply ck | apply cl | apply cx))
            apply cr
            refine s_ p_mv ?_
            refine s_ p_fr ?_
            refine s_ p_lo ?_
            refine s_ p_bs ?_
            refine e_os (ho := hR.l) (A := (b12, _) :: (b, _) :: (Hm ++ [])) (B := HW ++ HD) (ei1 _) (fun vL' HL' hL' => ?_)
            refine s_ p_mv ?_
            refine s_ p_mv ?_
            refine s_ p_bs ?_
            refine e_os (ho := hR.w) (A := ((b12, _) :: (b, _) :: (Hm ++ [])) ++ HL') (B := HD) (ei1 _) (fun vW2 HW' hW' => ?_) (hH := (List.append_assoc _ _ _).symm)
            refine s_ p_as ?_
            refine s_ p_as ?_
            (repeat (first | apply cn | apply cq | apply cb | apply ck | apply cl | apply cx))
            refine ⟨⟨0, vL', vW2, vD, _, HL', HW', HD⟩, ⟨rfl, led ++ [n.term], who ++ [((j : Nat) : Int)], D, ⟨by simpa using hL', by simpa using hW', hR.d⟩, hSf.more hNI hrole, by rw [List.length_append]; simp only [List.length_singleton]; omega⟩, eL, ?_⟩
            rw [List.append_assoc]
            exact kR
        · intro _
          (repeat (first | apply cn | apply cq | apply cb | apply ck | apply cl | apply cx))
          exact ⟨⟨0, vL, vW, vD, _, HL, HW, HD⟩, ⟨rfl, led, who, D, hR, hSf, by omega⟩, eL, kR⟩
      clear hR hSf hlen
      rintro ⟨_, vL, vW, vD, _, HL, HW, HD⟩ ⟨hF3, led, who, D, hR, hSf, hlen⟩
      simp only at hF3 hR hlen
      subst hF3
      have hRl := hR.l
      have hRw := hR.w
      show Sim _ _ [(12, pN b12), (11, ei (j : Nat)), (9, ei (k : Nat)), (8, .v vD), (7, .v vW), (6, .v vL), (5, pW b), (1, T.sl false (l.map acT))] ((b12, ⟨nB, nodeC n (eens n.log), 22⟩) :: (((b, ⟨tF, fvC N2 (.v v), 111⟩) :: (Hm ++ [])) ++ (HL ++ (HW ++ HD)))) _
      (repeat (first | apply cn | apply cq | apply cb | apply ck | apply cl | apply cx))
      apply cr
      refine s_ p_as ?_
      (repeat (first | apply cn | apply cq | apply cb | apply ck | apply cl | apply cx))
      apply sim_loopL (σ := Nat × Value × Heap) (ok := fun s => s.1 ≤ cc ∧ ∃ D, s.1 ≤ D.length ∧ OSl tE 3 (D.map een) s.2.1 s.2.2 ∧ Sf H2 led who D)
        (env := fun s => [(14, ei (s.1 : Nat)), (12, pN b12), (11, ei (j : Nat)), (9, ei (k : Nat)), (8, .v s.2.1), (7, .v vW), (6, .v vL), (5, pW b), (1, T.sl false (l.map acT))])
        (heap := fun s => (b12, ⟨nB, nodeC n (eens n.log), 22⟩) :: (((b, ⟨tF, fvC N2 (.v v), 111⟩) :: (Hm ++ [])) ++ (HL ++ (HW ++ s.2.2)))) (μ := fun s => cc - s.1) (s0 := (0, vD, HD))
      · exact ⟨Nat.zero_le _, D, Nat.zero_le _, hR.d, hSf⟩
      · exact eL
      · exact kR
      clear hR hSf
      clear D vD HD
      rintro ⟨q, vD, HD⟩ ⟨hq, D, hqD, hD, hSf⟩
      simp only at hq hqD hD
      obtain ⟨pD, cD, rfl⟩ := hD.len
      show Sim _ _ [(14, ei (q : Nat)), (12, pN b12), (11, ei (j : Nat)), (9, ei (k : Nat)), (8, .v (.slice pD (D.map een).length cD)), (7, .v vW), (6, .v vL), (5, pW b), (1, T.sl false (l.map acT))] ((b12, ⟨nB, nodeC n (eens n.log), 22⟩) :: (((b, ⟨tF, fvC N2 (.v v), 111⟩) :: (Hm ++ [])) ++ (HL ++ (HW ++ HD)))) _
      (repeat (first | apply cn | apply cq | apply cb | apply ck | apply cl | apply cx))
      apply cr
      refine s_ p_mv ?_
      refine s_ p_fr ?_
      refine s_ p_lo ?_
      refine s_ p_lt ?_
      (repeat (first | apply cn | apply cq | apply cb | apply ck | apply cl | apply cx))
      refine ci ?_ ?_
      · intro hq2
        have hq3 : q < cc := by rw [hcc] at hq2; omega
        have hix : q < n.log.length := by omega
        (repeat (first | apply cn | apply cq | apply cb | apply ck | apply cl | apply cx))
        apply cr
        refine s_ p_mv ?_
        refine s_ p_mv ?_
        (first | refine s_ p_ln ?_ | refine s_ p_lr ?_)
        refine s_ p_ge ?_
        (repeat (first | apply cn | apply cq | apply cb | apply ck | apply cl | apply cx))
        refine sim_cutE (σ := List En × Value × Heap) (ok := fun s => q < s.1.length ∧ Sf H2 led who s.1 ∧ OSl tE 3 (s.1.map een) s.2.1 s.2.2)
          (env := fun s => [(14, ei (q : Nat)), (12, pN b12), (11, ei (j : Nat)), (9, ei (k : Nat)), (8, .v s.2.1), (7, .v vW), (6, .v vL), (5, pW b), (1, T.sl false (l.map acT))])
          (heap := fun s => (b12, ⟨nB, nodeC n (eens n.log), 22⟩) :: (((b, ⟨tF, fvC N2 (.v v), 111⟩) :: (Hm ++ [])) ++ (HL ++ (HW ++ s.2.2)))) ?_ ?_
        · refine ci ?_ ?_
          · intro hge
            have e : q = D.length := by
              have h : (((D.map een).length : Nat) : Int) ≤ q := hge
              rw [List.length_map] at h; omega
            obtain ⟨T0, hT0⟩ := hSf.don
            have hmore := done_more I2.F hT0 hK hcl (by omega)
            have hget : n.log.getD D.length default = n.log[q] := by rw [← e]; simp [hix]
            rw [hget] at hmore
            (repeat (first | apply cn | apply cq | apply cb | apply ck | apply cl | apply cx))
            apply cr
            refine s_ p_mv ?_
            refine s_ p_fr ?_
            refine s_ p_lo ?_
            refine s_ p_mv ?_
            (first | refine s_ (p_ix hix) ?_ | refine s_ (p_ix hix2) ?_ | refine s_ p_ia ?_ | refine s_ p_ir ?_)
            (first | refine s_ p_la ?_ | refine s_ p_loa ?_)
            refine s_ p_bs ?_
            refine e_os (ho := hD) (A := ((b12, _) :: (b, _) :: (Hm ++ [])) ++ (HL ++ HW)) (B := []) (ys := [een n.log[q]]) (een3 _) (fun vD' HD' hD' => ?_) (hH := by rw [List.append_nil HD, List.append_assoc, List.append_assoc]; rfl)
            refine s_ p_as ?_
            (repeat (first | apply cn | apply cq | apply cb | apply ck | apply cl | apply cx))
            refine ⟨(D ++ [n.log[q]], vD', HD'), ⟨by rw [List.length_append]; simp only [List.length_singleton]; omega, hSf.put (by rw [List.length_append]; exact hmore), by simpa using hD'⟩, eL, ?_⟩
            rw [List.append_nil HD', List.append_assoc, List.append_assoc]
            exact kR
          · intro hge
            (repeat (first | apply cn | apply cq | apply cb | apply ck | apply cl | apply cx))
            have h1 : q < D.length := by
              have h : ¬ (((D.map een).length : Nat) : Int) ≤ q := hge
              rw [List.length_map] at h; omega
            exact ⟨(D, _, HD), ⟨h1, hSf, hD⟩, eL, kR⟩
        clear hSf hD hqD
        rintro ⟨D, vD, HD⟩ ⟨hqD, hSf, hD⟩
        simp only at hqD hSf hD
        obtain ⟨pD, cD, rfl⟩ := hD.len
        obtain ⟨T0, hT0⟩ := hSf.don
        have hsame := done_same I2.F hT0 hK hqD hq3
        rw [List.getElem?_eq_getElem hix] at hsame
        have hq7 : q < (D.map een).length := by rw [List.length_map]; exact hqD
        obtain ⟨bd, hbd, hmd⟩ := osl_get hD hq7
        have hgd : TakeR ((D.map een).flatMap T.cells) (0 + q * 3) 3 (een n.log[q]).cells := TakeR.flat (een3 _) (by rw [List.getElem?_map, hsame]; rfl)
        show Sim _ _ [(14, ei (q : Nat)), (12, pN b12), (11, ei (j : Nat)), (9, ei (k : Nat)), (8, .v (.slice pD (D.map een).length cD)), (7, .v vW), (6, .v vL), (5, pW b), (1, T.sl false (l.map acT))] ((b12, ⟨nB, nodeC n (eens n.log), 22⟩) :: (((b, ⟨tF, fvC N2 (.v v), 111⟩) :: (Hm ++ [])) ++ (HL ++ (HW ++ HD)))) _
        (repeat (first | apply cn | apply cq | apply cb | apply ck | apply cl | apply cx))
        refine ca [0, 1, 2, 3, 4, 5, 6, 7, 8, 9] [] ?_
        refine a_ (fun _ => p_mv) ?_
        refine a_ (fun _ => p_mv) ?_
        refine a_ (fun _ => p_irG hbd) ?_
        refine a_loa (b := bd) (hm := List.mem_cons_of_mem _ (List.mem_append_right _ (List.mem_append_right _ (List.mem_append_right _ hmd)))) (hc := hgd) ?_
        refine a_ (fun _ => p_fr) ?_
        refine a_lo ?_
        refine a_ (fun _ => p_mv) ?_
        (first | refine a_ (fun _ => p_ix hix) ?_ | refine a_ (fun _ => p_ix hix2) ?_ | refine a_ (fun _ => p_ia) ?_ | refine a_ (fun _ => p_ir) ?_)
        (first | refine a_ (fun _ => p_la) ?_ | refine a_loa ?_)
        refine a_ (fun _ => p_neD 2 [.int .i64, .int .i64, .str] Try.eqGuardType37) ?_
        apply an
        (repeat (first | apply cn | apply cq | apply cb | apply ck | apply cl | apply cx))
        refine ci ?_ ?_
        · intro h
          exact (h rfl).elim
        · intro _
          (repeat (first | apply cn | apply cq | apply cb | apply ck | apply cl | apply cx))
          apply cr
          refine s_ p_mv ?_
          refine s_ p_ad ?_
          refine s_ p_as ?_
          (repeat (first | apply cn | apply cq | apply cb | apply ck | apply cl | apply cx))
          exact ⟨(q + 1, _, HD), ⟨hq3, D, hqD, hD, hSf⟩, by show cc - (q + 1) < cc - q; omega, ⟨le_get (by rfl) (Le.refl _), eL⟩, kR⟩
      · intro _
        (repeat (first | apply cn | apply cq | apply cb | apply ck | apply cl | apply cx))
        apply cr
        refine s_ p_mv ?_
        refine s_ p_ad ?_
        refine s_ p_as ?_
        (repeat (first | apply cn | apply cq | apply cb | apply ck | apply cl | apply cx))
        exact ⟨⟨j + 1, vL, vW, _, _, HL, HW, HD⟩, ⟨hj5, rfl, led, who, D, ⟨hRl, hRw, hD⟩, hSf, by simp only; omega⟩, by show 5 - (j + 1) < 5 - j; omega, ⟨le_get (by rfl) (Le.refl _), eL⟩, kS kR⟩
    · intro _
      (repeat (first | apply cn | apply cq | apply cb | apply ck | apply cl | apply cx))
      apply cr
      refine s_ p_mv ?_
      refine s_ p_ad ?_
      refine s_ p_as ?_
      (repeat (first | apply cn | apply cq | apply cb | apply ck | apply cl | apply cx))
      exact ⟨⟨k + 1, vL, vW, vD, _, HL, HW, HD⟩, ⟨by simp only; omega, N2, M2, led, who, D, H2, L2, hF2, hR, I2, hB2, hSf, by simp only; omega⟩, by show l.length - (k + 1) < l.length - k; omega, ⟨le_get (by rfl) (Le.refl _), eL⟩, kR⟩
  · intro hlt
    obtain ⟨v, Hm, h1, rfl⟩ := hF
    (repeat (first | apply cn | apply cq | apply cb | apply ck | apply cl | apply cx))
    apply cr
    refine s_ p_as ?_
    (repeat (first | apply cn | apply cq | apply cb | apply ck | apply cl | apply cx))
    apply sim_loopL (σ := Nat) (ok := fun q => q ≤ 25) (env := fun q => [(15, ei (q : Nat)), (5, pW b)]) (heap := fun _ => (b, ⟨tF, fvC N (.v v), 111⟩) :: ((Hm ++ []) ++ (HL ++ (HW ++ HD)))) (μ := fun q => 25 - q) (s0 := 0)
    · exact Nat.zero_le _
    · exact eL
    · exact kR
    intro q hq
    (repeat (first | apply cn | apply cq | apply cb | apply ck | apply cl | apply cx))
    apply cr
    refine s_ p_mv ?_
    refine s_ p_lt ?_
    (repeat (first | apply cn | apply cq | apply cb | apply ck | apply cl | apply cx))
    refine ci ?_ ?_
    · intro hq2
      have hq25 : q < 25 := by omega
      have hi5 : q / 5 < 5 := by omega
      have hj5 : q % 5 < 5 := Nat.mod_lt _ (by decide)
      have hNa := I.nd (q / 5) hi5
      have hNb := I.nd (q % 5) hj5
      have hba := hB.1 _ hi5
      have hbb := hB.1 _ hj5
      obtain ⟨_, _, hla, _⟩ := I.rd (by omega) hi5
      obtain ⟨_, _, hlb, _⟩ := I.rd (by omega) hj5
      have hd0 : (0 : Int) ≤ ((q : Nat) : Int).tdiv 5 := by show (0 : Int) ≤ ((q / 5 : Nat) : Int); omega
      have hd5 : ((q : Nat) : Int).tdiv 5 < 5 := by show ((q / 5 : Nat) : Int) < 5; omega
      have hm0 : (0 : Int) ≤ ((q : Nat) : Int).tmod 5 := by show (0 : Int) ≤ ((q % 5 : Nat) : Int); omega
      have hm5 : ((q : Nat) : Int).tmod 5 < 5 := by show ((q % 5 : Nat) : Int) < 5; omega
      have hta : TakeR (fvC N (.v v)) (0 + 0 + (((q : Nat) : Int).tdiv 5).toNat * 22) 22 (nodeC (N (q / 5)) (eens (N (q / 5)).log)) := fv_take (N := N) (v := .v v) hd0 hd5
      have htb : TakeR (fvC N (.v v)) (0 + 0 + (((q : Nat) : Int).tmod 5).toNat * 22) 22 (nodeC (N (q % 5)) (eens (N (q % 5)).log)) := fv_take (N := N) (v := .v v) hm0 hm5
      have hca : Cons Hh (N (q / 5)).log := by rw [NI.whole hNa hba]; exact hNa.cons
      have hcb : Cons Hh (N (q % 5)).log := by rw [NI.whole hNb hbb]; exact hNb.cons
      clear hNa hNb hba hbb
      generalize N (q / 5) = na at hla hta hca
      generalize N (q % 5) = nb at hlb htb hcb
      (repeat (first | apply cn | apply cq | apply cb | apply ck | apply cl | apply cx))
      refine sim_cutP (σ := Nat × Nat) (ok := fun _ => True) (env := fun s => [(17, pN s.2), (16, pN s.1), (15, ei (q : Nat)), (5, pW b)]) (heap := fun s => (s.2, ⟨nB, nodeC nb (eens nb.log), 22⟩) :: (s.1, ⟨nB, nodeC na (eens na.log), 22⟩) :: ((b, ⟨tF, fvC N (.v v), 111⟩) :: ((Hm ++ []) ++ (HL ++ (HW ++ HD))))) ?_ ?_
      · refine ct [0, 1, 2, 3, 4, 5, 6, 7, 8, 9, 10, 11, 12, 13] [14, 15, 16, 17] ?_
        refine t_ (fun _ => p_mv) ?_
        refine t_ (fun _ => p_mv) ?_
        refine t_ (fun _ => p_qu) ?_
        refine t_ (fun _ => p_nc) ?_
        refine t_ (fun _ => p_fr) ?_
        refine t_ (fun _ => p_ar) ?_
        refine t_loa (hc := hta) ?_
        refine t_ (fun _ => p_mv) ?_
        refine t_ (fun _ => p_mv) ?_
        refine t_ (fun _ => p_re) ?_
        refine t_ (fun _ => p_nc) ?_
        refine t_ (fun _ => p_fr) ?_
        refine t_ (fun _ => p_ar) ?_
        refine t_loa (hc := htb) ?_
        intro p hp hr
        rcases List.mem_cons.1 hp with rfl | hp
        · clear hp hr
          refine t_al fun b16 _ => ⟨by (repeat (first | exact trivial | (apply And.intro; focus (intro hb; first | exact trivial | exact noB hb rfl | (repeat (first | exact hZ | apply hS | apply hA)))))), ?_⟩
          intro p hp hr
          rcases List.mem_cons.1 hp with rfl | hp
          · clear hp hr
            refine t_al fun b17 _ => ⟨by (repeat (first | exact trivial | (apply And.intro; focus (intro hb; first | exact trivial | exact noB hb rfl | (repeat (first | exact hZ | apply hS | apply hA)))))), ?_⟩
            intro p hp hr
            rcases List.mem_cons.1 hp with rfl | hp
            · clear hp hr
              refine t_st ?_
              intro p hp hr
              rcases List.mem_cons.1 hp with rfl | hp
              · clear hp hr
                refine t_st ?_
                exact ⟨(b16, b17), _, trivial, eL, .refl _, kR⟩
              exact (List.not_mem_nil hp).elim
            rcases List.mem_cons.1 hp with rfl | hp
            · exact tno hr
            exact (List.not_mem_nil hp).elim
          rcases List.mem_cons.1 hp with rfl | hp
          · clear hp hr
            refine t_st ?_
            intro p hp hr
            rcases List.mem_cons.1 hp with rfl | hp
            · clear hp hr
              refine t_al fun b17 _ => ⟨by (repeat (first | exact trivial | (apply And.intro; focus (intro hb; first | exact trivial | exact noB hb rfl | (repeat (first | exact hZ | apply hS | apply hA)))))), ?_⟩
              intro p hp hr
              rcases List.mem_cons.1 hp with rfl | hp
              · clear hp hr
                refine t_st ?_
                exact ⟨(b16, b17), _, trivial, eL, .refl _, kR⟩
              exact (List.not_mem_nil hp).elim
            rcases List.mem_cons.1 hp with rfl | hp
            · exact tno hr
            exact (List.not_mem_nil hp).elim
          rcases List.mem_cons.1 hp with rfl | hp
          · exact tno hr
          exact (List.not_mem_nil hp).elim
        rcases List.mem_cons.1 hp with rfl | hp
        · clear hp hr
          refine t_al fun b17 _ => ⟨by (repeat (first | exact trivial | (apply And.intro; focus (intro hb; first | exact trivial | exact noB hb rfl | (repeat (first | exact hZ | apply hS | apply hA)))))), ?_⟩
          intro p hp hr
          rcases List.mem_cons.1 hp with rfl | hp
          · clear hp hr
            refine t_al fun b16 _ => ⟨by (repeat (first | exact trivial | (apply And.intro; focus (intro hb; first | exact trivial | exact noB hb rfl | (repeat (first | exact hZ | apply hS | apply hA)))))), ?_⟩
            intro p hp hr
            rcases List.mem_cons.1 hp with rfl | hp
            · clear hp hr
              refine t_st ?_
              intro p hp hr
              rcases List.mem_cons.1 hp with rfl | hp
              · clear hp hr
                refine t_st ?_
                exact ⟨(b16, b17), _, trivial, eL, .swap _ _ _, kR⟩
              exact (List.not_mem_nil hp).elim
            rcases List.mem_cons.1 hp with rfl | hp
            · exact tno hr
            exact (List.not_mem_nil hp).elim
          rcases List.mem_cons.1 hp with rfl | hp
          · exact tno hr
          rcases List.mem_cons.1 hp with rfl | hp
          · exact tno hr
          exact (List.not_mem_nil hp).elim
        rcases List.mem_cons.1 hp with rfl | hp
        · exact tno hr
        rcases List.mem_cons.1 hp with rfl | hp
        · exact tno hr
        exact (List.not_mem_nil hp).elim
      rintro ⟨b16, b17⟩ _
      have hmn : min (((na.log.map een).length : Nat) : Int) (((nb.log.map een).length : Nat) : Int) - 1 = ((min na.log.length nb.log.length : Nat) : Int) - 1 := by
        rw [List.length_map, List.length_map]; omega
      (repeat (first | apply cn | apply cq | apply cb | apply ck | apply cl | apply cx))
      apply cr
      refine s_ p_as ?_
      (repeat (first | apply cn | apply cq | apply cb | apply ck | apply cl | apply cx))
      apply cr
      refine s_ p_fr ?_
      refine s_ p_lo ?_
      (first | refine s_ p_ln ?_ | refine s_ p_lr ?_)
      refine s_ p_fr ?_
      refine s_ p_lo ?_
      (first | refine s_ p_ln ?_ | refine s_ p_lr ?_)
      refine s_ p_mi ?_
      refine s_ p_su ?_
      refine s_ p_as ?_
      refine cn ?_
      show Sim _ _ _ _ (thenΨ _ _ _)
      refine sim_cutE (σ := Unit) (ok := fun _ => True) (env := fun _ => [(18, .v (.bool true)), (15, ei (q : Nat)), (5, pW b)]) (heap := fun _ => (b, ⟨tF, fvC N (.v v), 111⟩) :: ((Hm ++ []) ++ (HL ++ (HW ++ HD)))) ?_ ?_
      · (repeat (first | apply cn | apply cq | apply cb | apply ck | apply cl | apply cx))
        apply sim_loopL (σ := Nat) (ok := fun r => r ≤ na.log.length ∧ r ≤ nb.log.length) (env := fun r => [(19, ei ((r : Int) - 1)), (18, .v (.bool (decide True))), (17, pN b17), (16, pN b16), (15, ei (q : Nat)), (5, pW b)])
          (heap := fun _ => (b17, ⟨nB, nodeC nb (eens nb.log), 22⟩) :: (b16, ⟨nB, nodeC na (eens na.log), 22⟩) :: ((b, ⟨tF, fvC N (.v v), 111⟩) :: ((Hm ++ []) ++ (HL ++ (HW ++ HD))))) (μ := fun r => r) (s0 := min na.log.length nb.log.length)
        · exact ⟨Nat.min_le_left _ _, Nat.min_le_right _ _⟩
        · exact ⟨le_get (by ((repeat (apply gS; rfl)); exact gZ)) (Le.of_eq (congrArg ei hmn)), eL⟩
        · exact kR
        rintro r ⟨hr1, hr2⟩
        (repeat (first | apply cn | apply cq | apply cb | apply ck | apply cl | apply cx))
        apply cr
        refine s_ p_mv ?_
        refine s_ p_ge ?_
        (repeat (first | apply cn | apply cq | apply cb | apply ck | apply cl | apply cx))
        refine ci ?_ ?_
        · intro hr0
          obtain ⟨m, rfl⟩ : ∃ m, r = m + 1 := ⟨r - 1, by omega⟩
          have e1 : ((m + 1 : Nat) : Int) - 1 = (m : Nat) := by omega
          have hix : m < na.log.length := hr1
          have hix2 : m < nb.log.length := hr2
          rw [e1]
          (repeat (first | apply cn | apply cq | apply cb | apply ck | apply cl | apply cx))
          refine ca [0, 1, 2, 3, 4, 5, 6, 7, 8, 9, 10, 11, 12] [] ?_
          refine a_ (fun _ => p_fr) ?_
          refine a_lo ?_
          refine a_ (fun _ => p_mv) ?_
          (first | refine a_ (fun _ => p_ix hix) ?_ | refine a_ (fun _ => p_ix hix2) ?_ | refine a_ (fun _ => p_ia) ?_ | refine a_ (fun _ => p_ir) ?_)
          (first | refine a_ (fun _ => p_fa) ?_ | refine a_ (fun _ => p_fr) ?_)
          (first | refine a_ (fun _ => p_ld) ?_ | refine a_lo ?_)
          refine a_ (fun _ => p_fr) ?_
          refine a_lo ?_
          refine a_ (fun _ => p_mv) ?_
          (first | refine a_ (fun _ => p_ix hix) ?_ | refine a_ (fun _ => p_ix hix2) ?_ | refine a_ (fun _ => p_ia) ?_ | refine a_ (fun _ => p_ir) ?_)
          (first | refine a_ (fun _ => p_fa) ?_ | refine a_ (fun _ => p_fr) ?_)
          (first | refine a_ (fun _ => p_ld) ?_ | refine a_lo ?_)
          refine a_ (fun _ => p_eq) ?_
          apply an
          (repeat (first | apply cn | apply cq | apply cb | apply ck | apply cl | apply cx))
          refine ci ?_ ?_
          · intro ht
            have hag := hca.ag hcb (List.getElem?_eq_getElem hix) (List.getElem?_eq_getElem hix2) ht
            (repeat (first | apply cn | apply cq | apply cb | apply ck | apply cl | apply cx))
            apply cr
            refine s_ p_as ?_
            (repeat (first | apply cn | apply cq | apply cb | apply ck | apply cl | apply cx))
            apply sim_loopL (σ := Nat) (ok := fun p => p ≤ m + 1) (env := fun p => [(20, ei (p : Nat)), (19, ei (m : Nat)), (18, .v (.bool (decide True))), (17, pN b17), (16, pN b16), (15, ei (q : Nat)), (5, pW b)])
              (heap := fun _ => (b17, ⟨nB, nodeC nb (eens nb.log), 22⟩) :: (b16, ⟨nB, nodeC na (eens na.log), 22⟩) :: ((b, ⟨tF, fvC N (.v v), 111⟩) :: ((Hm ++ []) ++ (HL ++ (HW ++ HD))))) (μ := fun p => m + 1 - p) (s0 := 0)
            · exact Nat.zero_le _
            · exact eL
            · exact kR
            intro p hp
            (repeat (first | apply cn | apply cq | apply cb | apply ck | apply cl | apply cx))
            apply cr
            refine s_ p_mv ?_
            refine s_ p_mv ?_
            refine s_ p_le ?_
            (repeat (first | apply cn | apply cq | apply cb | apply ck | apply cl | apply cx))
            refine ci ?_ ?_
            · intro hp2
              have hpm : p < m + 1 := by omega
              have hix : p < na.log.length := by omega
              have hix2 : p < nb.log.length := by omega
              have hee : na.log[p] = nb.log[p] := by
                have := hag.get hpm
                rw [List.getElem?_eq_getElem hix, List.getElem?_eq_getElem hix2] at this
                exact Option.some.inj this
              refine ck ?_
              refine cq ?_
              refine sim_cutP (σ := Unit) (ok := fun _ => True) (env := fun _ => [(18, .v (.bool (decide True))), (20, ei (p : Nat)), (19, ei (m : Nat)), (17, pN b17), (16, pN b16), (15, ei (q : Nat)), (5, pW b)])
                (heap := fun _ => (b17, ⟨nB, nodeC nb (eens nb.log), 22⟩) :: (b16, ⟨nB, nodeC na (eens na.log), 22⟩) :: ((b, ⟨tF, fvC N (.v v), 111⟩) :: ((Hm ++ []) ++ (HL ++ (HW ++ HD))))) ?_ ?_
              · (repeat (first | apply cn | apply cq | apply cb | apply ck | apply cl | apply cx))
                refine ct [0, 1, 2, 3, 4, 5, 6, 7, 8, 9, 10, 11, 12, 13] [14] ?_
                refine t_ (fun _ => p_mv) ?_
                refine t_ (fun _ => p_mv) ?_
                refine tg_T (p := True) (fun _ hg => p_fr) ?_
                refine tg_loT (p := True) ?_
                refine tg_T (p := True) (fun _ hg => p_mv) ?_
                refine tg_T (p := True) (fun _ hg => p_ix hix (hx := u_ hg) (hy := u_ hg)) ?_
                refine tg_T (p := True) (fun _ hg => p_la (hx := u_ hg)) ?_
                refine tg_T (p := True) (fun _ hg => p_fr) ?_
                refine tg_loT (p := True) ?_
                refine tg_T (p := True) (fun _ hg => p_mv) ?_
                refine tg_T (p := True) (fun _ hg => p_ix hix2 (hx := u_ hg) (hy := u_ hg)) ?_
                refine tg_T (p := True) (fun _ hg => p_la (hx := u_ hg)) ?_
                refine tg_T (p := True) (fun _ hg => p_eqD 2 [.int .i64, .int .i64, .str] Try.eqGuardType37 (hx := u_ hg) (hy := u_ hg)) ?_
                refine t_ (fun _ => p_an) ?_
                intro p0 hp0 hr0'
                rcases List.mem_cons.1 hp0 with rfl | hp0
                · clear hp0 hr0'
                  refine t_as ⟨by (repeat (first | exact trivial | (apply And.intro; focus (intro hb; first | exact trivial | exact noB hb rfl | (repeat (first | exact hZ | apply hS | apply hA)))))), ?_⟩
                  refine ⟨(), _, trivial, ⟨le_get (by ((repeat (apply gS; rfl)); exact gZ)) (Le.of_eq ?_), eL⟩, .refl _, kR⟩
                  refine congrArg (fun x => T.v (.bool x)) (decide_eq_decide.2 ⟨fun _ => trivial, fun _ => ⟨trivial, ?_⟩⟩)
                  rw [hee]
                exact (List.not_mem_nil hp0).elim
              rintro _ _
              (repeat (first | apply cn | apply cq | apply cb | apply ck | apply cl | apply cx))
              apply cr
              refine s_ p_mv ?_
              refine s_ p_ad ?_
              refine s_ p_as ?_
              (repeat (first | apply cn | apply cq | apply cb | apply ck | apply cl | apply cx))
              exact ⟨p + 1, hpm, by show m + 1 - (p + 1) < m + 1 - p; omega, ⟨le_get (by rfl) (Le.refl _), eL⟩, kR⟩
            · intro _
              (repeat (first | apply cn | apply cq | apply cb | apply ck | apply cl | apply cx))
              exact ⟨(), trivial, eL, kS (kS kR)⟩
          · intro _
            (repeat (first | apply cn | apply cq | apply cb | apply ck | apply cl | apply cx))
            apply cr
            refine s_ p_mv ?_
            refine s_ p_su ?_
            refine s_ p_as ?_
            (repeat (first | apply cn | apply cq | apply cb | apply ck | apply cl | apply cx))
            exact ⟨m, ⟨by omega, by omega⟩, Nat.lt_succ_self m, ⟨le_get (by ((repeat (apply gS; rfl)); exact gZ)) (Le.refl _), eL⟩, kR⟩
        · intro _
          (repeat (first | apply cn | apply cq | apply cb | apply ck | apply cl | apply cx))
          exact ⟨(), trivial, eL, kS (kS kR)⟩
      rintro _ _
      (repeat (first | apply cn | apply cq | apply cb | apply ck | apply cl | apply cx))
      apply cr
      refine s_ p_mv ?_
      refine s_ p_noB ?_
      refine cn ?_
      (repeat (first | apply cn | apply cq | apply cb | apply ck | apply cl | apply cx))
      refine ci (p := False) (fun h => h.elim) (fun _ => ?_)
      (repeat (first | apply cn | apply cq | apply cb | apply ck | apply cl | apply cx))
      apply cr
      refine s_ p_mv ?_
      refine s_ p_ad ?_
      refine s_ p_as ?_
      (repeat (first | apply cn | apply cq | apply cb | apply ck | apply cl | apply cx))
      exact ⟨q + 1, by omega, by show 25 - (q + 1) < 25 - q; omega, ⟨le_get (by rfl) (Le.refl _), eL⟩, kR⟩
    · intro _
      (repeat (first | apply cn | apply cq | apply cb | apply ck | apply cl | apply cx))
      apply cr
      refine s_ p_as ?_
      (repeat (first | apply cn | apply cq | apply cb | apply ck | apply cl | apply cx))
      (apply sim_ret; (try simp only [blockΨ_ret, thenΨ_ret, loopL_ret, cutΨ_ret, cutE_ret]); first | refine rt ?_ | refine rn ?_)
      exact Le.refl _
end Go.Proofs.Ytppaabahbjgihaa
