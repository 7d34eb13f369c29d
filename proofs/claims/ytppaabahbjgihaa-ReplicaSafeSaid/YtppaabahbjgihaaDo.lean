/-
  An act, of five nodes: each call is the document's.
-/
import Derived.Test.YtppaabahbjgihaaFivs
set_option maxRecDepth 8000
namespace Go.Proofs.Ytppaabahbjgihaa
open Go.Cap Raft
set_option linter.unusedSimpArgs false
set_option linter.unusedVariables false
attribute [local irreducible] POp SimFrom DrawFrom EOp Sim FnH T.gp
theorem five_acts (a : Ac) : 0 ≤ a.i % 5 ∧ a.i % 5 < 5 ∧ (a.i % 5).toNat = iOf a ∧ iOf a < 5 := by unfold iOf; omega
theorem tick_out (n : Nd) : (tickF n).2.length ≤ 5 := by
  unfold tickF
  split
  · exact toAll_len _ _ _
  · split
    · simp
    · split
      · unfold standF
        split <;> (dsimp only; exact toAll_len _ _ _)
      · simp
theorem take_out (n : Nd) (m : Ms) : (takeF n m).2.length ≤ 5 := by
  unfold takeF
  split
  · simp
  generalize upN n m = n
  unfold actF
  split
  · simp
  split
  · unfold votedF
    split
    · simp
    · split
      · exact toAll_len _ _ _
      · simp
  split
  · unfold addF
    split
    · simp
    · split
      · simp
      · split <;> simp
  split
  · unfold heardF
    split
    · simp
    · split
      · simp
      · split <;> simp
  · unfold snapF
    split
    · simp
    · split <;> simp
/-- What one act leads to: whose node it is now, what it sends, what is under way ahead of it. -/
structure Out (N : Nat → Nd) (M : List Ms) (a : Ac) (x : Nd) (l : List Ms) (i : Int) (M1 : List Ms) : Prop where
  i0 : 0 ≤ i
  i5 : i < 5
  log : x.log.length ≤ 1000000000
  out : l.length ≤ 5
  ent : ∀ m ∈ l, m.entries.length ≤ 1000000000
  len : M1.length ≤ 80
  eq : doF N M a = (updN N i.toNat x, trimM (M1 ++ l))
theorem node_all (n : Nd) (lg : T) : TakeR (nodeC n lg) 0 22 (nodeC n lg) := by ((repeat (apply TakeR.skip)); (repeat (apply TakeR.cons)); exact TakeR.nil _)
theorem fv_layA {N : Nat → Nd} {v : T} {i : Int} (h0 : 0 ≤ i) (h5 : i < 5) (x : Nd) : lay (fvC N v) (0 + 0 + i.toNat * 22) (T.agg (nodeC x (eens x.log))).cells = fvC (updN N i.toNat x) v := fv_lay h0 h5 x
theorem goes_bd {H : Hist} {i s : Nat} {x : Nd} {l : List Ms} (hg : Goes 1 i H x l) (hb : H.bd ≤ s) : x.log.length ≤ s + 1 ∧ ∀ m ∈ l, m.entries.length ≤ 8 := by
  obtain ⟨H', l', D, F, hN, hO⟩ := hg
  have h1 := Cons.len F hN.cons
  obtain ⟨b, _, _, _, h2⟩ := hN.bnat
  have := D.bd
  exact ⟨by omega, fun m hm => (hO m hm).es⟩
theorem out_of {H : Hist} {L : Nat → List En} {s : Nat} {N : Nat → Nd} {M : List Ms} (I : IvH H L s N M) (hs : s ≤ 1000) {a : Ac} {j : Nat} {x : Nd} {l M1 : List Ms} {i : Int} (hg : Goes 1 j H x l) (h0 : 0 ≤ i) (h5 : i < 5) (hl : l.length ≤ 5) (hM : M1.length ≤ 80) (he : doF N M a = (updN N i.toNat x, trimM (M1 ++ l))) : Out N M a x l i M1 := by
  obtain ⟨h1, h2⟩ := goes_bd hg I.bd
  exact ⟨h0, h5, by omega, hl, fun m hm => by have := h2 m hm; omega, hM, he⟩
theorem b_iff {p q : Prop} {i : Decidable p} {j : Decidable q} (h : p ↔ q) : Le (.v (.bool (@decide p i))) (.v (.bool (@decide q j))) := Le.of_eq (by rw [decide_eq_decide.2 h])
theorem osM_cap {M : List Ms} {p : Option Addr} {n c : Nat} {H : Heap} (h : OSo tM 11 (M.map ms) (.slice p n c) H) : n ≤ c := by
  rcases h with ⟨_, ⟨q, e⟩, _⟩ | ⟨b, c', pre, e, hc, _⟩
  · cases e; exact Nat.le_refl _
  · cases e; exact hc
set_option maxHeartbeats 16000000 in
theorem do_fn {b : Nat} {N : Nat → Nd} {M : List Ms} {H : Heap} {Hh : Hist} {L : Nat → List En} {s : Nat} (I : IvH Hh L s N M) (hs : s ≤ 1000) (a : Ac) (hw : FvH b N M H) :
    FnH Try.prog 25 [pW b, acT a] H (fun r H' => r = .v (.bool true) ∧ FvH b (doF N M a).1 (doF N M a).2 H') := by
  have hml := I.len
  obtain ⟨hi0, hi5, hit, hil⟩ := five_acts a
  have hR := fun i (hi : i < 5) => I.rd (by omega) hi
  have hRi := hR _ hil
  have fW5 := within_fn a.i 5 (by omega) (by omega)
  have fWk := within_fn a.n (max (M.length : Int) 1) (by omega) (by omega)
  have fW18 := within_fn a.kind 18 (by omega) (by omega)
  have fRi := toRef_fn (N (a.i % 5).toNat) (by rw [hit]; have := hRi.2.2.1; omega)
  obtain ⟨v, Hm, h1, rfl⟩ := hw
  obtain ⟨p, c, hv⟩ := OSo.len h1
  rw [List.length_map] at hv
  subst hv
  refine fn_enter Try.func25 (by rfl) (by rfl) ?_
  intro S0 w0
  show Sim _ _ [(0, pW b), (1, .agg [ei a.kind, ei a.i, ei a.n, es a.cmd])] _ _
  (repeat (first | apply cn | apply cq | apply cb | apply ck | apply cl | apply cx))
  apply cr
  refine e_bx fun b3 _ => ?_
  refine s_ p_as ?_
  (repeat (first | apply cn | apply cq | apply cb | apply ck | apply cl | apply cx))
  refine lend1 3 (by simp) ?_
  (repeat (first | apply cn | apply cq | apply cb | apply ck | apply cl | apply cx))
  apply cr
  refine s_ p_fa ?_
  refine s_ p_ld ?_
  refine s_ (p_ca (fW5)) ?_
  refine s_ p_as ?_
  (repeat (first | apply cn | apply cq | apply cb | apply ck | apply cl | apply cx))
  apply cr
  refine s_ p_mv ?_
  refine s_ p_mv ?_
  refine s_ p_nc ?_
  refine s_ p_fr ?_
  refine s_ p_ar ?_
  refine s_ (p_loa (hc := fv_take hi0 hi5)) ?_
  refine e_al fun b6 _ => ?_
  refine e_st ?_
  (repeat (first | apply cn | apply cq | apply cb | apply ck | apply cl | apply cx))
  apply cr
  refine s_ p_loa ?_
  refine e_al fun b7 _ => ?_
  refine e_st ?_
  refine s_ p_as ?_
  (repeat (first | apply cn | apply cq | apply cb | apply ck | apply cl | apply cx))
  apply cr
  refine s_ p_loa ?_
  refine s_ (p_ca (fRi)) ?_
  refine e_al fun b9 _ => ?_
  refine e_st ?_
  refine s_ p_as ?_
  (repeat (first | apply cn | apply cq | apply cb | apply ck | apply cl | apply cx))
  refine ca [0, 1, 2, 3, 4, 5, 6, 7, 8, 9] [] ?_
  refine a_ (fun _ => p_fa) ?_
  refine a_ (fun _ => p_ld) ?_
  refine a_ (fun _ => p_mv) ?_
  refine a_ (fun _ => p_nc) ?_
  refine a_ (fun _ => p_fr) ?_
  refine a_lo ?_
  (first | refine a_ (fun _ => p_ln) ?_ | refine a_ (fun _ => p_lr) ?_)
  refine a_ (fun _ => p_ma) ?_
  refine a_ (fun _ => p_ca (fWk)) ?_
  refine a_ (fun _ => p_as) ?_
  apply an
  (repeat (first | apply cn | apply cq | apply cb | apply ck | apply cl | apply cx))
  apply cr
  refine s_ p_fa ?_
  refine s_ p_ld ?_
  refine s_ (p_ca (fW18)) ?_
  apply cn
  show Sim _ _ _ _ (thenΨ _ _ _)
  refine sim_cutE (σ := (Nd × List Ms × Int × List Ms) × Value × Heap) (ok := fun s => Out N M a s.1.1 s.1.2.1 s.1.2.2.1 s.1.2.2.2 ∧ OSo tM 11 (s.1.2.2.2.map ms) s.2.1 s.2.2)
    (env := fun s => [(10, mss s.1.2.1), (9, pN b9), (8, mss s.1.2.1), (7, pN b7), (5, ei s.1.2.2.1), (0, pW b)])
    (heap := fun s => (b9, ⟨rN, nodeC s.1.1 (eens s.1.1.log), 22⟩) :: (b7, ⟨nB, nodeC s.1.1 (eens s.1.1.log), 22⟩) :: (b, ⟨tF, fvC N (.v s.2.1), 111⟩) :: (s.2.2 ++ [])) ?_ ?_
  · generalize hn : N (a.i % 5).toNat = n
    have hnn : N (iOf a) = n := by rw [← hit]; exact hn
    rw [hnn] at hRi
    rw [hn] at fRi
    generalize hkk : a.kind % 18 = kk
    have hk0 : 0 ≤ kk ∧ kk < 18 := by omega
    have hkM : a.n % max (M.length : Int) 1 = ((kOf a M : Nat) : Int) := by unfold kOf; have := Int.emod_nonneg a.n (show max (M.length : Int) 1 ≠ 0 by omega); omega
    obtain ⟨hRd, hNb, hlg, ht1, ht0, hla, hnx⟩ := hRi
    have hwt := I.wait _ hil
    rw [hnn] at hwt
    have hbd := hRd.bd
    have hlg2 : n.log.length < 100000000 := by omega
    have hec : eens n.log = .sl false (n.log.map een) := rfl
    (repeat (first | apply cn | apply cq | apply cb | apply ck | apply cl | apply cx))
    apply cr
    refine s_ p_eq ?_
    refine s_ p_as ?_
    (repeat (first | apply cn | apply cq | apply cb | apply ck | apply cl | apply cx))
    show Sim _ _ _ _ (thenΨ _ _ _)
    refine sim_cut [(54, .v (.bool (decide (kk = 0 ∨ kk = 1 ∨ kk = 2)))), (53, ei kk), (11, ei (a.n % max (M.length : Int) 1)), (10, .v (.slice none 0 0)), (9, pN b9), (8, .v (.slice none 0 0)), (7, pN b7), (6, pN b6), (5, ei (a.i % 5)), (3, .adr (.agg [ei a.kind, ei a.i, ei a.n, es a.cmd])), (0, pW b)] ((b9, ⟨rN, nodeC n (eens n.log), 22⟩) :: (b7, ⟨nB, nodeC n (eens n.log), 22⟩) :: (b6, ⟨nB, nodeC n (eens n.log), 22⟩) :: (b, ⟨tF, fvC N (.v (.slice p M.length c)), 111⟩) :: (Hm ++ [])) ?_ ?_
    · refine ci (fun hq0 => ?_) (fun hq0 => ?_)
      · (repeat (first | apply cn | apply cq | apply cb | apply ck | apply cl | apply cx))
        exact ⟨⟨le_get (by rfl) (b_iff (by omega)), eL⟩, kR⟩
      (repeat (first | apply cn | apply cq | apply cb | apply ck | apply cl | apply cx))
      apply cr
      refine s_ p_eq ?_
      refine s_ p_as ?_
      (repeat (first | apply cn | apply cq | apply cb | apply ck | apply cl | apply cx))
      refine ci (fun hq1 => ?_) (fun hq1 => ?_)
      · (repeat (first | apply cn | apply cq | apply cb | apply ck | apply cl | apply cx))
        exact ⟨⟨le_get (by rfl) (b_iff (by omega)), eL⟩, kR⟩
      (repeat (first | apply cn | apply cq | apply cb | apply ck | apply cl | apply cx))
      apply cr
      refine s_ p_eq ?_
      refine s_ p_as ?_
      (repeat (first | apply cn | apply cq | apply cb | apply ck | apply cl | apply cx))
      exact ⟨⟨le_get (by rfl) (b_iff (by omega)), eL⟩, kR⟩
    refine ci ?_ ?_
    · intro hc
      have fT := tick_fn hbd hlg2 ht0 (by omega) (by omega) (by omega) (fun j => by have := hNb.x1 j; omega)
      have fQ := rTick_fn hRd hlg2 ht0 (by omega) (by omega) (by omega) hnx
      (repeat (first | apply cn | apply cq | apply cb | apply ck | apply cl | apply cx))
      apply cr
      refine s_ p_loa ?_
      refine s_ (p_ca (fT)) ?_
      refine s_ p_mv ?_
      refine s_ p_ex ?_
      refine s_ p_ex ?_
      refine e_st ?_
      refine s_ p_as ?_
      (repeat (first | apply cn | apply cq | apply cb | apply ck | apply cl | apply cx))
      apply cr
      refine s_ p_loa ?_
      refine s_ (p_ca (fRi)) ?_
      refine s_ (p_ca (fQ)) ?_
      refine s_ p_mv ?_
      refine s_ p_ex ?_
      refine s_ p_ex ?_
      refine e_st ?_
      refine s_ p_as ?_
      (repeat (first | apply cn | apply cq | apply cb | apply ck | apply cl | apply cx))
      have hNI := I.nd _ hil
      rw [hnn] at hNI
      have hE : doF N M a = (updN N (a.i % 5).toNat (tickF n).1, trimM (M ++ (tickF n).2)) := by
        unfold doF
        rw [if_pos (by rw [hkk]; exact hc), hit, hnn]
      have hO := out_of I hs (i := a.i % 5) (x := (tickF n).1) (l := (tickF n).2) (M1 := M) (tick_all I.F hNI hil) hi0 hi5 (by first | exact tick_out _ | exact take_out _ _ | simp) (by first | omega | (have := List.length_eraseIdx_le M (kOf a M); omega)) hE
      exact ⟨(((tickF n).1, (tickF n).2, a.i % 5, M), .slice p M.length c, Hm), ⟨hO, h1⟩, eL, .keep _ _ _ _ _ (BlkLe.refl _) (.keep _ _ _ _ _ (BlkLe.refl _) (kS kR))⟩
    intro hc012
    (repeat (first | apply cn | apply cq | apply cb | apply ck | apply cl | apply cx))
    apply cr
    refine s_ p_eq ?_
    refine s_ p_as ?_
    (repeat (first | apply cn | apply cq | apply cb | apply ck | apply cl | apply cx))
    show Sim _ _ _ _ (thenΨ _ _ _)
    refine sim_cut [(69, .v (.bool (decide (kk = 3 ∨ kk = 4 ∨ kk = 5 ∨ kk = 6 ∨ kk = 7 ∨ kk = 8 ∨ kk = 9)))), (53, ei kk), (11, ei (a.n % max (M.length : Int) 1)), (10, .v (.slice none 0 0)), (9, pN b9), (8, .v (.slice none 0 0)), (7, pN b7), (6, pN b6), (5, ei (a.i % 5)), (3, .adr (.agg [ei a.kind, ei a.i, ei a.n, es a.cmd])), (0, pW b)] ((b9, ⟨rN, nodeC n (eens n.log), 22⟩) :: (b7, ⟨nB, nodeC n (eens n.log), 22⟩) :: (b6, ⟨nB, nodeC n (eens n.log), 22⟩) :: (b, ⟨tF, fvC N (.v (.slice p M.length c)), 111⟩) :: (Hm ++ [])) ?_ ?_
    · refine ci (fun hq0 => ?_) (fun hq0 => ?_)
      · (repeat (first | apply cn | apply cq | apply cb | apply ck | apply cl | apply cx))
        exact ⟨⟨le_get (by rfl) (b_iff (by omega)), eL⟩, kR⟩
      (repeat (first | apply cn | apply cq | apply cb | apply ck | apply cl | apply cx))
      apply cr
      refine s_ p_eq ?_
      refine s_ p_as ?_
      (repeat (first | apply cn | apply cq | apply cb | apply ck | apply cl | apply cx))
      refine ci (fun hq1 => ?_) (fun hq1 => ?_)
      · (repeat (first | apply cn | apply cq | apply cb | apply ck | apply cl | apply cx))
        exact ⟨⟨le_get (by rfl) (b_iff (by omega)), eL⟩, kR⟩
      (repeat (first | apply cn | apply cq | apply cb | apply ck | apply cl | apply cx))
      apply cr
      refine s_ p_eq ?_
      refine s_ p_as ?_
      (repeat (first | apply cn | apply cq | apply cb | apply ck | apply cl | apply cx))
      refine ci (fun hq2 => ?_) (fun hq2 => ?_)
      · (repeat (first | apply cn | apply cq | apply cb | apply ck | apply cl | apply cx))
        exact ⟨⟨le_get (by rfl) (b_iff (by omega)), eL⟩, kR⟩
      (repeat (first | apply cn | apply cq | apply cb | apply ck | apply cl | apply cx))
      apply cr
      refine s_ p_eq ?_
      refine s_ p_as ?_
      (repeat (first | apply cn | apply cq | apply cb | apply ck | apply cl | apply cx))
      refine ci (fun hq3 => ?_) (fun hq3 => ?_)
      · (repeat (first | apply cn | apply cq | apply cb | apply ck | apply cl | apply cx))
        exact ⟨⟨le_get (by rfl) (b_iff (by omega)), eL⟩, kR⟩
      (repeat (first | apply cn | apply cq | apply cb | apply ck | apply cl | apply cx))
      apply cr
      refine s_ p_eq ?_
      refine s_ p_as ?_
      (repeat (first | apply cn | apply cq | apply cb | apply ck | apply cl | apply cx))
      refine ci (fun hq4 => ?_) (fun hq4 => ?_)
      · (repeat (first | apply cn | apply cq | apply cb | apply ck | apply cl | apply cx))
        exact ⟨⟨le_get (by rfl) (b_iff (by omega)), eL⟩, kR⟩
      (repeat (first | apply cn | apply cq | apply cb | apply ck | apply cl | apply cx))
      apply cr
      refine s_ p_eq ?_
      refine s_ p_as ?_
      (repeat (first | apply cn | apply cq | apply cb | apply ck | apply cl | apply cx))
      refine ci (fun hq5 => ?_) (fun hq5 => ?_)
      · (repeat (first | apply cn | apply cq | apply cb | apply ck | apply cl | apply cx))
        exact ⟨⟨le_get (by rfl) (b_iff (by omega)), eL⟩, kR⟩
      (repeat (first | apply cn | apply cq | apply cb | apply ck | apply cl | apply cx))
      apply cr
      refine s_ p_eq ?_
      refine s_ p_as ?_
      (repeat (first | apply cn | apply cq | apply cb | apply ck | apply cl | apply cx))
      exact ⟨⟨le_get (by rfl) (b_iff (by omega)), eL⟩, kR⟩
    rw [hkM]
    refine ci ?_ ?_
    · intro hc
      have hk9 : kk ≤ 9 := by omega
      (repeat (first | apply cn | apply cq | apply cb | apply ck | apply cl | apply cx))
      apply cr
      refine s_ p_mv ?_
      refine s_ p_nc ?_
      refine s_ p_fr ?_
      refine s_ p_lo ?_
      (first | refine s_ p_ln ?_ | refine s_ p_lr ?_)
      refine s_ p_eq ?_
      (repeat (first | apply cn | apply cq | apply cb | apply ck | apply cl | apply cx))
      refine ci ?_ ?_
      · intro hz
        have hM0 : M = [] := by
          have h : (M.length : Int) = 0 := hz
          exact List.length_eq_zero_iff.1 (by omega)
        (repeat (first | apply cn | apply cq | apply cb | apply ck | apply cl | apply cx))
        apply cr
        refine s_ p_as ?_
        (repeat (first | apply cn | apply cq | apply cb | apply ck | apply cl | apply cx))
        (apply sim_ret; (try simp only [blockΨ_ret, thenΨ_ret, loopL_ret, cutΨ_ret, cutE_ret]))
        refine rh (kS (kS (kS kR))) ⟨rfl, ?_⟩ (Le.refl _)
        have hE : doF N M a = (N, M) := by
          unfold doF
          rw [if_neg (by rw [hkk]; exact hc012), if_pos (by rw [hkk]; exact hk9), if_pos hM0]
        rw [hE]
        exact ⟨_, Hm, h1, rfl⟩
      · intro hz
        have hM0 : M ≠ [] := fun h => hz (by rw [h]; rfl)
        have hkl := kOf_lt a hM0
        have hcm := getD_mem hkl
        obtain ⟨t, ht5, hto⟩ := (I.ms _ hcm).to
        have fOut := out_fn (kOf a M) hkl (by omega) (show FvH b N M _ from ⟨_, Hm, h1, rfl⟩)
        have hMd := I.mbd (by omega) ht5 hcm
        have hLt := fun h5 => I.lt hcm h5
        have hMI := I.ms _ hcm
        generalize hcg : M.getD (kOf a M) default = cm at hcm hto fOut hMd hLt hMI
        have hto0 : 0 ≤ cm.to := by omega
        have hto5 : cm.to < 5 := by omega
        have htn : cm.to.toNat = t := by omega
        obtain ⟨hRd2, hNb2, hlg2', ht1', ht0', hla', hnx'⟩ := hR t ht5
        have fT := take_fn (n := N t) (m := cm) hRd2.bd hNb2 (.inr hMd.1)
        have fR2 := toRef_fn (N t) (by omega)
        have fRm := toRefMsg_fn cm (by have := hMd.2; omega)
        have fQ := rTake_fn (n := N t) (m := cm) hRd2 hNb2 (.inr ⟨hMd.1, hLt⟩)
        rw [← htn] at fT fR2 fQ
        (repeat (first | apply cn | apply cq | apply cb | apply ck | apply cl | apply cx))
        apply cr
        refine s_ p_mv ?_
        refine s_ p_mv ?_
        refine e_cH (Hr := [_, _, _]) fOut (List.perm_append_comm (l₁ := [_, _, _])) (fun r H' ⟨hr, hF⟩ => ?_)
        obtain ⟨v', Hm', h1', rfl⟩ := hF
        subst hr
        refine from_perm (List.perm_append_comm (l₂ := [_, _, _])) ?_
        refine e_al fun b12 _ => ?_
        refine e_st ?_
        (repeat (first | apply cn | apply cq | apply cb | apply ck | apply cl | apply cx))
        apply cr
        refine s_ p_fr ?_
        refine s_ p_lo ?_
        refine s_ p_as ?_
        (repeat (first | apply cn | apply cq | apply cb | apply ck | apply cl | apply cx))
        refine ca [0, 1, 2, 3, 4, 5, 6, 7, 8, 9, 10, 11, 12] [11] ?_
        refine a_ (fun _ => p_mv) ?_
        refine a_ (fun _ => p_mv) ?_
        refine a_ (fun _ => p_nc) ?_
        refine a_ (fun _ => p_fr) ?_
        refine a_ (fun _ => p_ar) ?_
        refine a_loa (hc := fv_take hto0 hto5) ?_
        refine a_loa ?_
        refine a_ (fun _ => p_ca (fT)) ?_
        refine a_ (fun _ => p_mv) ?_
        refine a_ (fun _ => p_ex) ?_
        refine a_ (fun _ => p_ex) ?_
        refine a_st ?_
        refine a_ (fun _ => p_as) ?_
        apply an
        (repeat (first | apply cn | apply cq | apply cb | apply ck | apply cl | apply cx))
        refine ca [0, 1, 2, 3, 4, 5, 6, 7, 8, 9, 10, 11, 12, 13, 14] [13] ?_
        refine a_ (fun _ => p_mv) ?_
        refine a_ (fun _ => p_mv) ?_
        refine a_ (fun _ => p_nc) ?_
        refine a_ (fun _ => p_fr) ?_
        refine a_ (fun _ => p_ar) ?_
        refine a_loa (hc := fv_take hto0 hto5) ?_
        refine a_ (fun _ => p_ca (fR2)) ?_
        refine a_loa ?_
        refine a_ (fun _ => p_ca (fRm)) ?_
        refine a_ (fun _ => p_ca (fQ)) ?_
        refine a_ (fun _ => p_mv) ?_
        refine a_ (fun _ => p_ex) ?_
        refine a_ (fun _ => p_ex) ?_
        refine a_st ?_
        refine a_ (fun _ => p_as) ?_
        apply an
        (repeat (first | apply cn | apply cq | apply cb | apply ck | apply cl | apply cx))
        have hNI := I.nd _ ht5
        rw [← htn] at hNI
        have hE : doF N M a = (updN N cm.to.toNat (takeF (N cm.to.toNat) cm).1, trimM (M.eraseIdx (kOf a M) ++ (takeF (N cm.to.toNat) cm).2)) := by
          unfold doF
          rw [if_neg (by rw [hkk]; exact hc012), if_pos (by rw [hkk]; exact hk9), if_neg hM0, hcg]
        have hO := out_of I hs (i := cm.to) (M1 := M.eraseIdx (kOf a M)) (take_all I.F hNI (by omega) hMI) hto0 hto5 (take_out _ _) (by have := List.length_eraseIdx_le M (kOf a M); omega) hE
        exact ⟨(((takeF (N cm.to.toNat) cm).1, (takeF (N cm.to.toNat) cm).2, cm.to, M.eraseIdx (kOf a M)), v', Hm'), ⟨hO, h1'⟩, eL, kS (.keep _ _ _ _ _ (BlkLe.refl _) (.keep _ _ _ _ _ (BlkLe.refl _) (kS kR)))⟩
    intro hc39
    have hk10 : 10 ≤ kk := by omega
    have hd1 : ¬ (a.kind % 18 = 0 ∨ a.kind % 18 = 1 ∨ a.kind % 18 = 2) := by rw [hkk]; exact hc012
    have hd2 : ¬ a.kind % 18 ≤ 9 := by rw [hkk]; omega
    (repeat (first | apply cn | apply cq | apply cb | apply ck | apply cl | apply cx))
    apply cr
    refine s_ p_eq ?_
    refine s_ p_as ?_
    (repeat (first | apply cn | apply cq | apply cb | apply ck | apply cl | apply cx))
    refine ci ?_ ?_
    · intro hc
      have hc' : a.kind % 18 = 10 := by rw [hkk]; exact hc
      (repeat (first | apply cn | apply cq | apply cb | apply ck | apply cl | apply cx))
      apply cr
      refine s_ p_mv ?_
      refine s_ p_nc ?_
      refine s_ p_fr ?_
      refine s_ p_lo ?_
      (first | refine s_ p_ln ?_ | refine s_ p_lr ?_)
      refine s_ p_gt ?_
      (repeat (first | apply cn | apply cq | apply cb | apply ck | apply cl | apply cx))
      refine ci ?_ ?_
      · intro hz
        have hM0 : M ≠ [] := List.length_pos_iff.1 (by have h : (0 : Int) < M.length := hz; omega)
        have hkl := kOf_lt a hM0
        have fOut := out_fn (kOf a M) hkl (by omega) (show FvH b N M _ from ⟨_, Hm, h1, rfl⟩)
        (repeat (first | apply cn | apply cq | apply cb | apply ck | apply cl | apply cx))
        apply cr
        refine s_ p_mv ?_
        refine s_ p_mv ?_
        refine e_cH (Hr := [_, _, _]) fOut (List.perm_append_comm (l₁ := [_, _, _])) (fun r H' ⟨hr, hF⟩ => ?_)
        obtain ⟨v', Hm', h1', rfl⟩ := hF
        subst hr
        
        (repeat (first | apply cn | apply cq | apply cb | apply ck | apply cl | apply cx))
        apply cr
        refine s_ p_as ?_
        (repeat (first | apply cn | apply cq | apply cb | apply ck | apply cl | apply cx))
        (apply sim_ret; (try simp only [blockΨ_ret, thenΨ_ret, loopL_ret, cutΨ_ret, cutE_ret]))
        have hE : doF N M a = (N, M.eraseIdx (kOf a M)) := by
          unfold doF
          rw [if_neg hd1, if_neg hd2, if_pos hc', if_neg hM0]
        rw [hE]
        exact rh (d := .v (.bool true)) (kApp kN) ⟨rfl, _, Hm', h1', rfl⟩ (Le.refl _)
      · intro hz
        have hM0 : M = [] := List.length_eq_zero_iff.1 (by have h : ¬ (0 : Int) < M.length := hz; omega)
        (repeat (first | apply cn | apply cq | apply cb | apply ck | apply cl | apply cx))
        apply cr
        refine s_ p_as ?_
        (repeat (first | apply cn | apply cq | apply cb | apply ck | apply cl | apply cx))
        (apply sim_ret; (try simp only [blockΨ_ret, thenΨ_ret, loopL_ret, cutΨ_ret, cutE_ret]))
        have hE : doF N M a = (N, M) := by
          unfold doF
          rw [if_neg hd1, if_neg hd2, if_pos hc', if_pos hM0]
        rw [hE]
        exact rh (d := .v (.bool true)) (kS (kS (kS kR))) ⟨rfl, _, Hm, h1, rfl⟩ (Le.refl _)
    intro hc10
    have hd3 : ¬ a.kind % 18 = 10 := by rw [hkk]; exact hc10
    (repeat (first | apply cn | apply cq | apply cb | apply ck | apply cl | apply cx))
    apply cr
    refine s_ p_eq ?_
    refine s_ p_as ?_
    (repeat (first | apply cn | apply cq | apply cb | apply ck | apply cl | apply cx))
    refine ci ?_ ?_
    · intro hc
      have hc' : a.kind % 18 = 11 := by rw [hkk]; exact hc
      (repeat (first | apply cn | apply cq | apply cb | apply ck | apply cl | apply cx))
      apply cr
      refine s_ p_mv ?_
      refine s_ p_nc ?_
      refine s_ p_fr ?_
      refine s_ p_lo ?_
      (first | refine s_ p_ln ?_ | refine s_ p_lr ?_)
      refine s_ p_gt ?_
      refine s_ p_mv ?_
      refine gT (fun hg => p_mv) ?_
      refine gT (fun hg => p_nc (hx := u_ hg)) ?_
      refine gT (fun hg => p_fr (hx := u_ hg)) ?_
      refine gT (fun hg => p_lo (hx := u_ hg)) ?_
      (first | refine gT (fun hg => p_ln (hx := u_ hg)) ?_ | refine gT (fun hg => p_lr (hx := u_ hg)) ?_)
      refine gT (fun hg => p_lt (hx := u_ hg)) ?_
      refine s_ p_an ?_
      (repeat (first | apply cn | apply cq | apply cb | apply ck | apply cl | apply cx))
      refine ci ?_ ?_
      · intro hz
        have hz' : 0 < M.length ∧ M.length < 80 := by have h1 : (0 : Int) < M.length := hz.1; have h2 : (M.length : Int) < 80 := hz.2; omega
        have hkl := kOf_lt a (List.length_pos_iff.1 hz'.1)
        obtain ⟨bl, pre, hp, hmem⟩ := OSo.at h1 (j := kOf a M) (by rw [List.length_map]; exact hkl)
        have hgk : M.getD (kOf a M) default = M[kOf a M] := by simp [hkl]
        subst hp
        (repeat (first | apply cn | apply cq | apply cb | apply ck | apply cl | apply cx))
        refine ca [0, 1, 2, 3, 4, 5, 6, 7, 8, 9, 10, 11, 12, 13, 14, 15, 16] [13, 16] ?_
        refine a_ (fun _ => p_mv) ?_
        refine a_ (fun _ => p_mv) ?_
        refine a_ (fun _ => p_nc) ?_
        refine a_ (fun _ => p_fr) ?_
        refine a_lo ?_
        refine a_ (fun _ => p_mv) ?_
        refine a_ (fun _ => p_nc) ?_
        refine a_ (fun _ => p_fr) ?_
        refine a_lo ?_
        refine a_ (fun _ => p_mv) ?_
        (first | refine a_ (fun _ => p_ix hix) ?_ | refine a_ (fun _ => p_ix hix2) ?_ | refine a_ (fun _ => p_ia) ?_ | refine a_ (fun _ => p_ir) ?_)
        refine a_loa (hm := List.mem_cons_of_mem _ (List.mem_cons_of_mem _ (List.mem_cons_of_mem _ (List.mem_cons_of_mem _ (List.mem_append_left _ hmem))))) (hc := TakeR.elem (ms11 M) (x := ms M[kOf a M]) (by simp [hkl])) ?_
        refine a_ (fun _ => p_bs) ?_
        refine a_oso (ho := h1) (A := [_, _, _, _]) (B := []) (ys := [ms M[kOf a M]]) (ms11 _) (fun v2 Hm2 h2 => ⟨by (repeat (first | exact trivial | (apply And.intro; focus (intro hb; first | exact trivial | exact noB hb rfl | (repeat (first | exact hZ | apply hS | apply hA)))))), ?_⟩)
        (apply Exists.intro; apply And.intro; (focus (repeat (first | exact PDrop.nil | apply PDrop.dropL rfl | apply PDrop.keep))))
        have h2 : OSo tM 11 ((M ++ [M[kOf a M]]).map ms) v2 Hm2 := by rw [List.map_append]; exact h2
        obtain ⟨p2, c2, rfl⟩ := OSo.len h2
        refine a_ (fun _ => p_nc) ?_
        refine a_ (fun _ => p_fr) ?_
        refine a_st ?_
        apply an
        (repeat (first | apply cn | apply cq | apply cb | apply ck | apply cl | apply cx))
        apply cr
        refine s_ p_as ?_
        (repeat (first | apply cn | apply cq | apply cb | apply ck | apply cl | apply cx))
        (apply sim_ret; (try simp only [blockΨ_ret, thenΨ_ret, loopL_ret, cutΨ_ret, cutE_ret]))
        have hE : doF N M a = (N, M ++ [M[kOf a M]]) := by
          unfold doF
          rw [if_neg hd1, if_neg hd2, if_neg hd3, if_pos hc', if_pos hz', hgk]
        rw [hE]
        exact rh (d := .v (.bool true)) (kS (kS (kS kR))) ⟨rfl, _, Hm2, h2, rfl⟩ (Le.refl _)
      · intro hz
        have hz' : ¬ (0 < M.length ∧ M.length < 80) := fun h => hz ⟨by show (0 : Int) < M.length; omega, by show (M.length : Int) < 80; omega⟩
        (repeat (first | apply cn | apply cq | apply cb | apply ck | apply cl | apply cx))
        apply cr
        refine s_ p_as ?_
        (repeat (first | apply cn | apply cq | apply cb | apply ck | apply cl | apply cx))
        (apply sim_ret; (try simp only [blockΨ_ret, thenΨ_ret, loopL_ret, cutΨ_ret, cutE_ret]))
        have hE : doF N M a = (N, M) := by
          unfold doF
          rw [if_neg hd1, if_neg hd2, if_neg hd3, if_pos hc', if_neg hz']
        rw [hE]
        exact rh (d := .v (.bool true)) (kS (kS (kS kR))) ⟨rfl, _, Hm, h1, rfl⟩ (Le.refl _)
    intro hc11
    have hd4 : ¬ a.kind % 18 = 11 := by rw [hkk]; exact hc11
    have hNI := I.nd _ hil
    rw [hnn] at hNI
    (repeat (first | apply cn | apply cq | apply cb | apply ck | apply cl | apply cx))
    apply cr
    refine s_ p_eq ?_
    refine s_ p_as ?_
    (repeat (first | apply cn | apply cq | apply cb | apply ck | apply cl | apply cx))
    show Sim _ _ _ _ (thenΨ _ _ _)
    refine sim_cut [(155, .v (.bool (decide (kk = 12 ∨ kk = 13)))), (53, ei kk), (11, ei ((kOf a M : Nat) : Int)), (10, .v (.slice none 0 0)), (9, pN b9), (8, .v (.slice none 0 0)), (7, pN b7), (6, pN b6), (5, ei (a.i % 5)), (3, .adr (.agg [ei a.kind, ei a.i, ei a.n, es a.cmd])), (0, pW b)] ((b9, ⟨rN, nodeC n (eens n.log), 22⟩) :: (b7, ⟨nB, nodeC n (eens n.log), 22⟩) :: (b6, ⟨nB, nodeC n (eens n.log), 22⟩) :: (b, ⟨tF, fvC N (.v (.slice p M.length c)), 111⟩) :: (Hm ++ [])) ?_ ?_
    · refine ci (fun hq0 => ?_) (fun hq0 => ?_)
      · (repeat (first | apply cn | apply cq | apply cb | apply ck | apply cl | apply cx))
        exact ⟨⟨le_get (by rfl) (b_iff (by omega)), eL⟩, kR⟩
      (repeat (first | apply cn | apply cq | apply cb | apply ck | apply cl | apply cx))
      apply cr
      refine s_ p_eq ?_
      refine s_ p_as ?_
      (repeat (first | apply cn | apply cq | apply cb | apply ck | apply cl | apply cx))
      exact ⟨⟨le_get (by rfl) (b_iff (by omega)), eL⟩, kR⟩
    refine ci ?_ ?_
    · intro hc
      have hc' : a.kind % 18 = 12 ∨ a.kind % 18 = 13 := by rw [hkk]; exact hc
      have fP := prop_fn a.cmd hbd hlg2
      have fQ := rProp_fn a.cmd hRd hlg2
      (repeat (first | apply cn | apply cq | apply cb | apply ck | apply cl | apply cx))
      apply cr
      refine s_ p_loa ?_
      refine s_ p_fa ?_
      refine s_ p_ld ?_
      refine s_ (p_ca (fP)) ?_
      refine s_ p_mv ?_
      refine s_ p_ex ?_
      refine s_ p_ex ?_
      refine s_ p_ex ?_
      refine e_al fun b13 _ => ?_
      refine e_st ?_
      refine s_ p_as ?_
      refine s_ p_as ?_
      (repeat (first | apply cn | apply cq | apply cb | apply ck | apply cl | apply cx))
      refine ca [0, 1, 2, 3, 4, 5, 6, 7, 8, 9, 10, 11, 12] [9, 10] ?_
      refine a_loa ?_
      refine a_ (fun _ => p_ca (fRi)) ?_
      refine a_ (fun _ => p_fa) ?_
      refine a_ (fun _ => p_ld) ?_
      refine a_ (fun _ => p_ca (fQ)) ?_
      refine a_ (fun _ => p_mv) ?_
      refine a_ (fun _ => p_ex) ?_
      refine a_ (fun _ => p_ex) ?_
      refine a_ (fun _ => p_ex) ?_
      refine a_al fun b16 _ => ⟨by (repeat (first | exact trivial | (apply And.intro; focus (intro hb; first | exact trivial | exact noB hb rfl | (repeat (first | exact hZ | apply hS | apply hA)))))), ?_⟩
      refine a_st ?_
      refine a_ (fun _ => p_as) ?_
      refine a_ (fun _ => p_as) ?_
      apply an
      (repeat (first | apply cn | apply cq | apply cb | apply ck | apply cl | apply cx))
      apply cr
      refine s_ p_mv ?_
      refine s_ p_mv ?_
      refine s_ p_ne ?_
      refine s_ p_mv ?_
      refine gF (fun hg => p_mv) ?_
      refine gF (fun hg => p_mv) ?_
      refine gF (fun hg => p_ne (hx := u_ hg) (hy := u_ hg)) ?_
      refine s_ p_or ?_
      (repeat (first | apply cn | apply cq | apply cb | apply ck | apply cl | apply cx))
      refine ci (fun h => ?_) (fun _ => ?_)
      · exfalso
        rcases h with h | h <;> exact h rfl
      (repeat (first | apply cn | apply cq | apply cb | apply ck | apply cl | apply cx))
      refine ca [0, 1, 2, 3] [2, 3] ?_
      refine a_loa ?_
      refine a_loa ?_
      refine a_st ?_
      refine a_st ?_
      apply an
      (repeat (first | apply cn | apply cq | apply cb | apply ck | apply cl | apply cx))
      have hE : doF N M a = (updN N (a.i % 5).toNat (propF n a.cmd).1, trimM (M ++ [])) := by
        unfold doF
        rw [if_neg hd1, if_neg hd2, if_neg hd3, if_neg hd4, if_pos hc', hit, hnn]
      have hO := out_of I hs (i := a.i % 5) (x := (propF n a.cmd).1) (l := []) (M1 := M) (prop_all I.F hNI hil a.cmd) hi0 hi5 (by first | exact tick_out _ | exact take_out _ _ | simp) (by first | omega | (have := List.length_eraseIdx_le M (kOf a M); omega)) hE
      exact ⟨(((propF n a.cmd).1, [], a.i % 5, M), .slice p M.length c, Hm), ⟨hO, h1⟩, eL, kS (kS (.keep _ _ _ _ _ (BlkLe.refl _) (.keep _ _ _ _ _ (BlkLe.refl _) (kS kR))))⟩
    intro hc1213
    have hd5 : ¬ (a.kind % 18 = 12 ∨ a.kind % 18 = 13) := by rw [hkk]; exact hc1213
    (repeat (first | apply cn | apply cq | apply cb | apply ck | apply cl | apply cx))
    apply cr
    refine s_ p_eq ?_
    refine s_ p_as ?_
    (repeat (first | apply cn | apply cq | apply cb | apply ck | apply cl | apply cx))
    refine ci ?_ ?_
    · intro hc
      have hc' : a.kind % 18 = 14 := by rw [hkk]; exact hc
      have fP := wake_fn n (by omega)
      have fQ := rWake_fn n (by omega)
      (repeat (first | apply cn | apply cq | apply cb | apply ck | apply cl | apply cx))
      refine ca [0, 1, 2, 3, 4, 5, 6] [5, 6] ?_
      refine a_loa ?_
      refine a_ (fun _ => p_ca (fP)) ?_
      refine a_loa ?_
      refine a_ (fun _ => p_ca (fRi)) ?_
      refine a_ (fun _ => p_ca (fQ)) ?_
      refine a_st ?_
      refine a_st ?_
      apply an
      (repeat (first | apply cn | apply cq | apply cb | apply ck | apply cl | apply cx))
      have hE : doF N M a = (updN N (a.i % 5).toNat (wakeF n), trimM (M ++ [])) := by
        unfold doF
        rw [if_neg hd1, if_neg hd2, if_neg hd3, if_neg hd4, if_neg hd5, if_pos hc', hit, hnn]
      have hO := out_of I hs (i := a.i % 5) (x := (wakeF n)) (l := []) (M1 := M) (wake_all I.F hNI) hi0 hi5 (by first | exact tick_out _ | exact take_out _ _ | simp) (by first | omega | (have := List.length_eraseIdx_le M (kOf a M); omega)) hE
      exact ⟨(((wakeF n), [], a.i % 5, M), .slice p M.length c, Hm), ⟨hO, h1⟩, eL, .keep _ _ _ _ _ (BlkLe.refl _) (.keep _ _ _ _ _ (BlkLe.refl _) (kS kR))⟩
    intro hc14
    have hd6 : ¬ a.kind % 18 = 14 := by rw [hkk]; exact hc14
    have hc0 := hRd.c0
    have hb0 := hRd.b0
    have hc1 := hRd.c1
    (repeat (first | apply cn | apply cq | apply cb | apply ck | apply cl | apply cx))
    apply cr
    refine s_ p_eq ?_
    refine s_ p_as ?_
    (repeat (first | apply cn | apply cq | apply cb | apply ck | apply cl | apply cx))
    refine ci ?_ ?_
    · intro hc
      have hc' : a.kind % 18 = 15 := by rw [hkk]; exact hc
      have fW := within_fn a.n 3 (by omega) (by omega)
      have fP := compact_fn (n := n) (n.commit - a.n % 3) a.cmd hbd (by simp only [big]; omega) (by simp only [big]; omega)
      have fQ := rCompact_fn (n := n) (n.commit - a.n % 3) a.cmd hRd
      (repeat (first | apply cn | apply cq | apply cb | apply ck | apply cl | apply cx))
      refine ca [0, 1, 2, 3, 4, 5, 6, 7, 8, 9, 10, 11, 12, 13, 14, 15] [13, 14] ?_
      refine a_loa ?_
      refine a_ (fun _ => p_fr) ?_
      refine a_lo ?_
      refine a_ (fun _ => p_fa) ?_
      refine a_ (fun _ => p_ld) ?_
      refine a_ (fun _ => p_ca (fW)) ?_
      refine a_ (fun _ => p_su) ?_
      refine a_ (fun _ => p_fa) ?_
      refine a_ (fun _ => p_ld) ?_
      refine a_ (fun _ => p_ca (fP)) ?_
      refine a_ (fun _ => p_mv) ?_
      refine a_ (fun _ => p_ex) ?_
      refine a_ (fun _ => p_ex) ?_
      refine a_al fun b19 _ => ⟨by (repeat (first | exact trivial | (apply And.intro; focus (intro hb; first | exact trivial | exact noB hb rfl | (repeat (first | exact hZ | apply hS | apply hA)))))), ?_⟩
      refine a_st ?_
      refine a_ (fun _ => p_as) ?_
      apply an
      (repeat (first | apply cn | apply cq | apply cb | apply ck | apply cl | apply cx))
      refine ca [0, 1, 2, 3, 4, 5, 6, 7, 8, 9, 10, 11, 12, 13, 14, 15, 16] [14, 15] ?_
      refine a_loa ?_
      refine a_ (fun _ => p_ca (fRi)) ?_
      refine a_ (fun _ => p_fr) ?_
      refine a_lo ?_
      refine a_ (fun _ => p_fa) ?_
      refine a_ (fun _ => p_ld) ?_
      refine a_ (fun _ => p_ca (fW)) ?_
      refine a_ (fun _ => p_su) ?_
      refine a_ (fun _ => p_fa) ?_
      refine a_ (fun _ => p_ld) ?_
      refine a_ (fun _ => p_ca (fQ)) ?_
      refine a_ (fun _ => p_mv) ?_
      refine a_ (fun _ => p_ex) ?_
      refine a_ (fun _ => p_ex) ?_
      refine a_al fun b21 _ => ⟨by (repeat (first | exact trivial | (apply And.intro; focus (intro hb; first | exact trivial | exact noB hb rfl | (repeat (first | exact hZ | apply hS | apply hA)))))), ?_⟩
      refine a_st ?_
      refine a_ (fun _ => p_as) ?_
      apply an
      (repeat (first | apply cn | apply cq | apply cb | apply ck | apply cl | apply cx))
      apply cr
      refine s_ p_mv ?_
      refine s_ p_mv ?_
      refine s_ p_ne ?_
      (repeat (first | apply cn | apply cq | apply cb | apply ck | apply cl | apply cx))
      refine ci (fun h => absurd rfl h) (fun _ => ?_)
      (repeat (first | apply cn | apply cq | apply cb | apply ck | apply cl | apply cx))
      refine ca [0, 1, 2, 3] [2, 3] ?_
      refine a_loa ?_
      refine a_loa ?_
      refine a_st ?_
      refine a_st ?_
      apply an
      (repeat (first | apply cn | apply cq | apply cb | apply ck | apply cl | apply cx))
      have hE : doF N M a = (updN N (a.i % 5).toNat (compactF n (n.commit - a.n % 3) a.cmd).1, trimM (M ++ [])) := by
        unfold doF
        rw [if_neg hd1, if_neg hd2, if_neg hd3, if_neg hd4, if_neg hd5, if_neg hd6, if_pos hc', hit, hnn]
      have hO := out_of I hs (i := a.i % 5) (x := (compactF n (n.commit - a.n % 3) a.cmd).1) (l := []) (M1 := M) (compact_all I.F hNI _ _) hi0 hi5 (by first | exact tick_out _ | exact take_out _ _ | simp) (by first | omega | (have := List.length_eraseIdx_le M (kOf a M); omega)) hE
      exact ⟨(((compactF n (n.commit - a.n % 3) a.cmd).1, [], a.i % 5, M), .slice p M.length c, Hm), ⟨hO, h1⟩, eL, kS (kS (.keep _ _ _ _ _ (BlkLe.refl _) (.keep _ _ _ _ _ (BlkLe.refl _) (kS kR))))⟩
    intro hc15
    have hd7 : ¬ a.kind % 18 = 15 := by rw [hkk]; exact hc15
    (repeat (first | apply cn | apply cq | apply cb | apply ck | apply cl | apply cx))
    apply cr
    refine s_ p_eq ?_
    refine s_ p_as ?_
    (repeat (first | apply cn | apply cq | apply cb | apply ck | apply cl | apply cx))
    show Sim _ _ _ _ (thenΨ _ _ _)
    refine sim_cut [(226, .v (.bool (decide (kk = 16 ∨ kk = 17)))), (53, ei kk), (11, ei ((kOf a M : Nat) : Int)), (10, .v (.slice none 0 0)), (9, pN b9), (8, .v (.slice none 0 0)), (7, pN b7), (6, pN b6), (5, ei (a.i % 5)), (3, .adr (.agg [ei a.kind, ei a.i, ei a.n, es a.cmd])), (0, pW b)] ((b9, ⟨rN, nodeC n (eens n.log), 22⟩) :: (b7, ⟨nB, nodeC n (eens n.log), 22⟩) :: (b6, ⟨nB, nodeC n (eens n.log), 22⟩) :: (b, ⟨tF, fvC N (.v (.slice p M.length c)), 111⟩) :: (Hm ++ [])) ?_ ?_
    · refine ci (fun hq0 => ?_) (fun hq0 => ?_)
      · (repeat (first | apply cn | apply cq | apply cb | apply ck | apply cl | apply cx))
        exact ⟨⟨le_get (by rfl) (b_iff (by omega)), eL⟩, kR⟩
      (repeat (first | apply cn | apply cq | apply cb | apply ck | apply cl | apply cx))
      apply cr
      refine s_ p_eq ?_
      refine s_ p_as ?_
      (repeat (first | apply cn | apply cq | apply cb | apply ck | apply cl | apply cx))
      exact ⟨⟨le_get (by rfl) (b_iff (by omega)), eL⟩, kR⟩
    refine ci ?_ (fun h => absurd (show kk = 16 ∨ kk = 17 by omega) h)
    intro hc
    have fC := Conf_fn n (by omega) (by omega) (by omega)
    have fW5n := within_fn a.n 5 (by omega) (by omega)
    have fW60 := within_fn a.n 60 (by omega) (by omega)
    have hw5 : IntKind.u64.wrap (a.n % 5) = a.n % 5 := wrap32 (by omega) (by omega)
    have fP := change_fn (cfOf n a) hbd hlg2 (by simp only [big]; omega) (by simp only [big]; omega)
    have fQ := rChange_fn (cfOf n a) hRd hlg2
    (repeat (first | apply cn | apply cq | apply cb | apply ck | apply cl | apply cx))
    refine ca [0, 1, 2, 3, 4, 5, 6, 7, 8, 9, 10, 11, 12, 13] [] ?_
    refine a_loa ?_
    refine a_ (fun _ => p_ca (fC)) ?_
    refine a_ (fun _ => p_fa) ?_
    refine a_ (fun _ => p_ld) ?_
    refine a_ (fun _ => p_ca (fW5n)) ?_
    refine a_ (fun _ => p_cv) ?_
    refine a_ (fun _ => p_shl) ?_
    refine a_ (fun _ => p_xor) ?_
    refine a_ (fun _ => p_fa) ?_
    refine a_ (fun _ => p_ld) ?_
    refine a_ (fun _ => p_ca (fW60)) ?_
    (first | refine a_ (fun _ => p_qu) ?_ | refine a_ (fun _ => p_quw) ?_)
    refine a_ (fun _ => p_xor) ?_
    refine a_ (fun _ => p_as) ?_
    apply an
    (repeat (first | apply cn | apply cq | apply cb | apply ck | apply cl | apply cx))
    (repeat (first | apply cn | apply cq | apply cb | apply ck | apply cl | apply cx))
    apply cr
    refine s_ p_loa ?_
    refine s_ p_mv ?_
    refine s_ (p_ca (fP)) ?_
    refine s_ p_mv ?_
    refine s_ p_ex ?_
    refine s_ p_ex ?_
    refine s_ p_ex ?_
    refine e_al fun b24 _ => ?_
    refine e_st ?_
    refine s_ p_as ?_
    refine s_ p_as ?_
    (repeat (first | apply cn | apply cq | apply cb | apply ck | apply cl | apply cx))
    apply cr
    refine s_ p_loa ?_
    refine s_ (p_ca (fRi)) ?_
    refine s_ p_mv ?_
    refine s_ (p_ca (fQ)) ?_
    refine s_ p_mv ?_
    refine s_ p_ex ?_
    refine s_ p_ex ?_
    refine s_ p_ex ?_
    refine e_al fun b27 _ => ?_
    refine e_st ?_
    refine s_ p_as ?_
    refine s_ p_as ?_
    (repeat (first | apply cn | apply cq | apply cb | apply ck | apply cl | apply cx))
    apply cr
    refine s_ p_mv ?_
    refine s_ p_mv ?_
    refine s_ p_ne ?_
    refine s_ p_mv ?_
    refine gF (fun hg => p_mv) ?_
    refine gF (fun hg => p_mv) ?_
    refine gF (fun hg => p_ne (hx := u_ hg) (hy := u_ hg)) ?_
    refine s_ p_or ?_
    (repeat (first | apply cn | apply cq | apply cb | apply ck | apply cl | apply cx))
    refine ci (fun h => ?_) (fun _ => ?_)
    · exfalso
      rcases h with h | h <;> exact h rfl
    (repeat (first | apply cn | apply cq | apply cb | apply ck | apply cl | apply cx))
    refine ca [0, 1, 2, 3] [2, 3] ?_
    refine a_loa ?_
    refine a_loa ?_
    refine a_st ?_
    refine a_st ?_
    apply an
    (repeat (first | apply cn | apply cq | apply cb | apply ck | apply cl | apply cx))
    have hE : doF N M a = (updN N (a.i % 5).toNat (changeF n (cfOf n a)).1, trimM (M ++ [])) := by
      unfold doF
      rw [if_neg hd1, if_neg hd2, if_neg hd3, if_neg hd4, if_neg hd5, if_neg hd6, if_neg hd7, hit, hnn]
    have hO := out_of I hs (i := a.i % 5) (x := (changeF n (cfOf n a)).1) (l := []) (M1 := M) (change_all I.F hNI hil _) hi0 hi5 (by first | exact tick_out _ | exact take_out _ _ | simp) (by first | omega | (have := List.length_eraseIdx_le M (kOf a M); omega)) hE
    exact ⟨(((changeF n (cfOf n a)).1, [], a.i % 5, M), .slice p M.length c, Hm), ⟨hO, h1⟩, eL, kS (kS (.keep _ _ _ _ _ (BlkLe.refl _) (.keep _ _ _ _ _ (BlkLe.refl _) (kS kR))))⟩
  rintro ⟨⟨x, l, i, M1⟩, v1, Hm1⟩ ⟨hO, h1'⟩
  simp only at hO h1'
  show Sim _ _ [(10, mss l), (9, pN b9), (8, mss l), (7, pN b7), (5, ei i), (0, pW b)] ((b9, ⟨rN, nodeC x (eens x.log), 22⟩) :: (b7, ⟨nB, nodeC x (eens x.log), 22⟩) :: (b, ⟨tF, fvC N (.v v1), 111⟩) :: (Hm1 ++ [])) _
  clear h1
  obtain ⟨hi0', hi5', hxl, hll, hle, hM1, heq⟩ := hO
  obtain ⟨p, c, hv⟩ := OSo.len h1'
  rw [List.length_map] at hv
  subst hv
  have hcap := osM_cap h1'
  have hRj := hR i.toNat (by omega)
  have fRx := toRef_fn x hxl
  have fRn := toRef_fn (N i.toNat) (by have := hRj.2.2.1; omega)
  have fSxx := rSame_fn x x hxl hxl
  have fMM := sameMsgs_fn false false l l (by omega) (by omega) hle hle
  have fSxn := same_fn x (N i.toNat) hxl (by have := hRj.2.2.1; omega)
  have fQxn := rSame_fn x (N i.toNat) hxl (by have := hRj.2.2.1; omega)
  (repeat (first | apply cn | apply cq | apply cb | apply ck | apply cl | apply cx))
  refine ca [0, 1, 2, 3, 4, 5, 6, 7, 8, 9, 10, 11, 12, 13, 14, 15, 16, 17, 18, 19, 20, 21, 22, 23, 24, 25, 26, 27, 28, 29, 30] [] ?_
  refine a_loa ?_
  refine a_ (fun _ => p_ca (fRx)) ?_
  refine a_loa ?_
  refine a_ (fun _ => p_ca (fSxx)) ?_
  refine a_ (fun _ => p_no) ?_
  refine a_ (fun _ => p_mv) ?_
  refine ag_F (fun _ hg => p_mv) ?_
  refine ag_F (fun _ hg => p_mv) ?_
  refine ag_F (fun _ hg => p_ca (fMM) (ha' := by apply evl_cons (u_ hg); apply evl_cons (u_ hg); exact evl_nil)) ?_
  refine ag_F (fun _ hg => p_no (hx := u_ hg)) ?_
  refine a_ (fun _ => p_or) ?_
  refine a_ (fun _ => p_mv) ?_
  refine ag_loaF ?_
  refine ag_F (fun _ hg => p_mv) ?_
  refine ag_F (fun _ hg => p_mv) ?_
  refine ag_F (fun _ hg => p_nc (hx := u_ hg)) ?_
  refine ag_F (fun _ hg => p_fr (hx := u_ hg)) ?_
  refine ag_F (fun _ hg => p_ar (hx := u_ hg) (hy := u_ hg)) ?_
  refine ag_loaF (hc := fv_take hi0' hi5') ?_
  refine ag_F (fun _ hg => p_ca (fSxn) (ha' := by apply evl_cons (u_ hg); apply evl_cons (u_ hg); exact evl_nil)) ?_
  refine ag_loaF ?_
  refine ag_F (fun _ hg => p_mv) ?_
  refine ag_F (fun _ hg => p_mv) ?_
  refine ag_F (fun _ hg => p_nc (hx := u_ hg)) ?_
  refine ag_F (fun _ hg => p_fr (hx := u_ hg)) ?_
  refine ag_F (fun _ hg => p_ar (hx := u_ hg) (hy := u_ hg)) ?_
  refine ag_loaF (hc := fv_take hi0' hi5') ?_
  refine ag_F (fun _ hg => p_ca (fRn) (ha' := by apply evl_cons (u_ hg); exact evl_nil)) ?_
  refine ag_F (fun _ hg => p_ca (fQxn) (ha' := by apply evl_cons (u_ hg); apply evl_cons (u_ hg); exact evl_nil)) ?_
  refine ag_F (fun _ hg => p_neB (hx := u_ hg) (hy := u_ hg)) ?_
  refine a_ (fun _ => p_or) ?_
  apply an
  (repeat (first | apply cn | apply cq | apply cb | apply ck | apply cl | apply cx))
  refine ci ?_ ?_
  · intro hbad
    exfalso
    rcases hbad with (h | h) | h
    · exact h rfl
    · exact h rfl
    · exact h Iff.rfl
  intro _
  (repeat (first | apply cn | apply cq | apply cb | apply ck | apply cl | apply cx))
  refine ca [0, 1, 2, 3, 4, 5, 6] [6] ?_
  refine a_ (fun _ => p_mv) ?_
  refine a_ (fun _ => p_mv) ?_
  refine a_loa (hc := node_all x _) ?_
  refine a_ (fun _ => p_nc) ?_
  refine a_ (fun _ => p_fr) ?_
  refine a_ (fun _ => p_ar) ?_
  refine a_ss ?_ ?_
  · rw [fvC_len]; show _ + 22 ≤ 111; omega
  rw [fv_layA hi0' hi5']
  apply an
  (repeat (first | apply cn | apply cq | apply cb | apply ck | apply cl | apply cx))
  refine sim_cutE (σ := Value × Heap) (ok := fun s => OSo tM 11 ((M1 ++ l).map ms) s.1 s.2) (env := fun _ => [(0, pW b)]) (heap := fun s => (b, ⟨tF, fvC (updN N i.toNat x) (.v s.1), 111⟩) :: (s.2 ++ [])) ?_ ?_
  · by_cases hz : l = []
    · (repeat (first | apply cn | apply cq | apply cb | apply ck | apply cl | apply cx))
      apply cr
      refine s_ p_mv ?_
      refine s_ p_mv ?_
      refine s_ p_nc ?_
      refine s_ p_fr ?_
      refine s_ p_lo ?_
      refine s_ p_mv ?_
      refine s_ (p_apN hcap (hyl := Le.of_eq (by rw [hz]; rfl))) ?_
      refine s_ p_nc ?_
      refine s_ p_fr ?_
      refine e_st ?_
      (repeat (first | apply cn | apply cq | apply cb | apply ck | apply cl | apply cx))
      exact ⟨(_, Hm1), by rw [hz, List.append_nil]; exact h1', eL, kS (kS kR)⟩
    · have hlp : 0 < l.length := List.length_pos_iff.2 hz
      (repeat (first | apply cn | apply cq | apply cb | apply ck | apply cl | apply cx))
      apply cr
      refine s_ p_mv ?_
      refine s_ p_mv ?_
      refine s_ p_nc ?_
      refine s_ p_fr ?_
      refine s_ p_lo ?_
      refine s_ p_mv ?_
      refine e_oso (ho := h1') (A := [_, _, _]) (B := []) (ms11 _) (fun v2 Hm2 h2 => ?_) (ys := l.map ms) (f := false) (hyl := Le.refl _) (hky := ms11 _)
      have h2 : OSo tM 11 ((M1 ++ l).map ms) v2 Hm2 := by rw [List.map_append]; exact h2
      obtain ⟨p, c, rfl⟩ := OSo.len h2
      refine s_ p_nc ?_
      refine s_ p_fr ?_
      refine e_st ?_
      (repeat (first | apply cn | apply cq | apply cb | apply ck | apply cl | apply cx))
      exact ⟨(_, Hm2), h2, eL, kS (kS kR)⟩
  rintro ⟨v2, Hm2⟩ h2
  simp only at h2
  show Sim _ _ [(0, pW b)] ((b, ⟨tF, fvC (updN N i.toNat x) (.v v2), 111⟩) :: (Hm2 ++ [])) _
  obtain ⟨p, c, hv⟩ := OSo.len h2
  rw [List.length_map] at hv
  subst hv
  have hcap2 := osM_cap h2
  have hle2 : (M1 ++ l).length ≤ 85 := by rw [List.length_append]; omega
  (repeat (first | apply cn | apply cq | apply cb | apply ck | apply cl | apply cx))
  apply cr
  refine s_ p_mv ?_
  refine s_ p_nc ?_
  refine s_ p_fr ?_
  refine s_ p_lo ?_
  (first | refine s_ p_ln ?_ | refine s_ p_lr ?_)
  refine s_ p_gt ?_
  (repeat (first | apply cn | apply cq | apply cb | apply ck | apply cl | apply cx))
  refine ci ?_ ?_
  · intro hgt
    have hgt' : 80 < (M1 ++ l).length := by
      have : (80 : Int) < ((M1 ++ l).length : Nat) := hgt
      omega
    obtain ⟨lo, hlo⟩ : ∃ lo : Nat, lo = (M1 ++ l).length - 80 := ⟨_, rfl⟩
    have h3 := OSo.sub h2 (ms11 _) (lo := lo) (by rw [List.length_map]; omega)
    rw [← List.map_drop] at h3
    have hlo2 : (((M1 ++ l).length : Nat) : Int) - 80 = (lo : Nat) := by omega
    (repeat (first | apply cn | apply cq | apply cb | apply ck | apply cl | apply cx))
    refine ca [0, 1, 2, 3, 4, 5, 6, 7, 8, 9, 10, 11, 12, 13, 14] [14] ?_
    refine a_ (fun _ => p_mv) ?_
    refine a_ (fun _ => p_mv) ?_
    refine a_ (fun _ => p_nc) ?_
    refine a_ (fun _ => p_fr) ?_
    refine a_lo ?_
    refine a_ (fun _ => p_mv) ?_
    refine a_ (fun _ => p_nc) ?_
    refine a_ (fun _ => p_fr) ?_
    refine a_lo ?_
    (first | refine a_ (fun _ => p_ln) ?_ | refine a_ (fun _ => p_lr) ?_)
    refine a_ (fun _ => p_su) ?_
    rw [hlo2]
    refine a_ (fun _ => p_sbl (v := subV 11 p c lo ((M1 ++ l).length - lo)) hcap2 (by rw [Int.toNat_natCast]; rfl)) ?_
    refine a_ (fun _ => p_nc) ?_
    refine a_ (fun _ => p_fr) ?_
    refine a_st ?_
    apply an
    (repeat (first | apply cn | apply cq | apply cb | apply ck | apply cl | apply cx))
    apply cr
    refine s_ p_as ?_
    (repeat (first | apply cn | apply cq | apply cb | apply ck | apply cl | apply cx))
    (apply sim_ret; (try simp only [blockΨ_ret, thenΨ_ret, loopL_ret, cutΨ_ret, cutE_ret]))
    refine rh kR ⟨rfl, ?_⟩ (Le.refl _)
    rw [heq]
    have ht : trimM (M1 ++ l) = (M1 ++ l).drop lo := by rw [trimM, if_pos hgt', hlo]
    rw [ht]
    exact ⟨_, Hm2, h3, rfl⟩
  · intro hgt
    have hgt' : ¬ 80 < (M1 ++ l).length := fun h => hgt (by show (80 : Int) < ((M1 ++ l).length : Nat); omega)
    (repeat (first | apply cn | apply cq | apply cb | apply ck | apply cl | apply cx))
    apply cr
    refine s_ p_as ?_
    (repeat (first | apply cn | apply cq | apply cb | apply ck | apply cl | apply cx))
    (apply sim_ret; (try simp only [blockΨ_ret, thenΨ_ret, loopL_ret, cutΨ_ret, cutE_ret]))
    refine rh kR ⟨rfl, ?_⟩ (Le.refl _)
    rw [heq]
    have ht : trimM (M1 ++ l) = M1 ++ l := by rw [trimM, if_neg hgt']
    rw [ht]
    exact ⟨_, Hm2, h2, rfl⟩
end Go.Proofs.Ytppaabahbjgihaa
