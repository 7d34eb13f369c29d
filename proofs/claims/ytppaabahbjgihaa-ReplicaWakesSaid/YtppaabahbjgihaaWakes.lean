/-
  ReplicaWakes: what a node must keep it keeps; nothing else.
-/
import Derived.Test.YtppaabahbjgihaaPlays
import Derived.Test.YtppaabahbjgihaaFivs
set_option maxRecDepth 16000
namespace Go.Proofs.Ytppaabahbjgihaa
open Go.Cap Raft
set_option linter.unusedSimpArgs false
set_option linter.unusedVariables false
attribute [local irreducible] POp SimFrom DrawFrom EOp Sim FnH T.gp
set_option maxHeartbeats 16000000 in
theorem wakes_fn (conf : Int) (l : List Ac) (hl : l.length ≤ 9223372036854775807) (hcl : ∀ a ∈ l, a.cmd.length ≤ 9223372036854775807) : FnP Try.prog 11 [ei conf, .sl false (l.map acT)] (fun r => r = .v (.bool true)) := by
  have fK := known_fn
  have fF := few_fn l hl hcl
  have fW := within_fn conf 31 (by omega) (by omega)
  have hcf := conf_at conf
  refine fn_enter Try.func11 (by rfl) (by rfl) ?_
  intro S0 w0
  show Sim _ _ [(0, ei conf), (1, T.sl false (l.map acT))] _ _
  (repeat (first | apply cn | apply cq | apply cb | apply ck | apply cl | apply cx))
  apply cr
  refine s_ p_as ?_
  (repeat (first | apply cn | apply cq | apply cb | apply ck | apply cl | apply cx))
  apply cr
  refine s_ (p_ca (fK)) ?_
  refine s_ p_noB ?_
  refine cn ?_
  (repeat (first | apply cn | apply cq | apply cb | apply ck | apply cl | apply cx))
  refine ci (p := False) (fun h => h.elim) (fun _ => ?_)
  (repeat (first | apply cn | apply cq | apply cb | apply ck | apply cl | apply cx))
  apply cr
  refine s_ p_mv ?_
  refine s_ (p_ca (fF)) ?_
  refine s_ p_no ?_
  refine s_ p_mv ?_
  refine gF (fun hg => p_mv) ?_
  (first | refine gF (fun hg => p_ln (hx := u_ hg)) ?_ | refine gF (fun hg => p_lr (hx := u_ hg)) ?_)
  refine gF (fun hg => p_gt (hx := u_ hg)) ?_
  refine s_ p_or ?_
  (repeat (first | apply cn | apply cq | apply cb | apply ck | apply cl | apply cx))
  refine ci ?_ ?_
  · intro hf
    (repeat (first | apply cn | apply cq | apply cb | apply ck | apply cl | apply cx))
    apply cr
    refine s_ p_as ?_
    (repeat (first | apply cn | apply cq | apply cb | apply ck | apply cl | apply cx))
    (apply sim_ret; (try simp only [blockΨ_ret, thenΨ_ret, loopL_ret, cutΨ_ret, cutE_ret]); first | refine rt ?_ | refine rn ?_)
    exact Le.refl _
  intro hf
  have hl150 : l.length ≤ 150 := by
    refine Nat.le_of_not_lt fun h => hf (.inr ?_)
    show (150 : Int) < ((l.map acT).length : Nat)
    rw [List.length_map]; omega
  (repeat (first | apply cn | apply cq | apply cb | apply ck | apply cl | apply cx))
  apply cr
  refine s_ p_mv ?_
  refine s_ (p_ca (fW)) ?_
  refine s_ p_ad ?_
  refine e_cH (Hr := []) (begin_fn (1 + conf % 31) hcf.1 hcf.2) (.refl _) (fun r H' ⟨b, hr, hF⟩ => ?_)
  subst hr
  rw [List.append_nil]
  refine s_ p_as ?_
  (repeat (first | apply cn | apply cq | apply cb | apply ck | apply cl | apply cx))
  apply cr
  refine s_ p_as ?_
  (repeat (first | apply cn | apply cq | apply cb | apply ck | apply cl | apply cx))
  apply sim_loopL (σ := Nat × Heap) (ok := fun s => s.1 ≤ l.length ∧ ∃ N M, FvH b N M s.2 ∧ Iv s.1 N M) (env := fun s => [(6, ei (s.1 : Nat)), (5, pW b), (1, T.sl false (l.map acT))]) (heap := fun s => s.2) (μ := fun s => l.length - s.1) (s0 := (0, H'))
  · exact ⟨Nat.zero_le _, _, _, hF, _, _, iv_begin (by omega) (by omega)⟩
  · exact eL
  · exact kR
  rintro ⟨k, H⟩ ⟨hk, N, M, hF, Hh, L, I⟩
  simp only at hk hF I
  (repeat (first | apply cn | apply cq | apply cb | apply ck | apply cl | apply cx))
  apply cr
  refine s_ p_mv ?_
  refine s_ p_mv ?_
  (first | refine s_ p_ln ?_ | refine s_ p_lr ?_)
  refine s_ p_lt ?_
  (repeat (first | apply cn | apply cq | apply cb | apply ck | apply cl | apply cx))
  refine ci ?_ ?_
  · intro hlt
    have hix : k < l.length := by simp only [List.length_map] at hlt; omega
    have fD := do_fn I (by omega) l[k] hF
    (repeat (first | apply cn | apply cq | apply cb | apply ck | apply cl | apply cx))
    apply cr
    refine s_ p_mv ?_
    refine s_ p_mv ?_
    refine s_ p_mv ?_
    (first | refine s_ (p_ix hix) ?_ | refine s_ (p_ix hix2) ?_ | refine s_ p_ia ?_ | refine s_ p_ir ?_)
    (first | refine s_ p_la ?_ | refine s_ p_loa ?_)
    refine e_cHA fD (fun r H' ⟨hr, hF'⟩ => ?_)
    subst hr
    
    refine s_ p_noB ?_
    refine cn ?_
    (repeat (first | apply cn | apply cq | apply cb | apply ck | apply cl | apply cx))
    refine ci (p := False) (fun h => h.elim) (fun _ => ?_)
    obtain ⟨H2, L2, _, I2⟩ := do_step I l[k]
    (repeat (first | apply cn | apply cq | apply cb | apply ck | apply cl | apply cx))
    apply cr
    refine s_ p_mv ?_
    refine s_ p_ad ?_
    refine s_ p_as ?_
    (repeat (first | apply cn | apply cq | apply cb | apply ck | apply cl | apply cx))
    exact ⟨(k + 1, _), ⟨hix, _, _, hF', H2, L2, I2⟩, by show l.length - (k + 1) < l.length - k; omega, ⟨le_get (by rfl) (Le.refl _), eL⟩, kR⟩
  intro hlt
  obtain ⟨v, Hm, h1, rfl⟩ := hF
  (repeat (first | apply cn | apply cq | apply cb | apply ck | apply cl | apply cx))
  apply cr
  refine s_ p_as ?_
  (repeat (first | apply cn | apply cq | apply cb | apply ck | apply cl | apply cx))
  apply sim_loopL (σ := Nat) (ok := fun j => j ≤ 5) (env := fun j => [(7, ei (j : Nat)), (5, pW b)]) (heap := fun _ => (b, ⟨tF, fvC N (.v v), 111⟩) :: (Hm ++ [])) (μ := fun j => 5 - j) (s0 := 0)
  · exact Nat.zero_le _
  · exact eL
  · exact kR
  intro j hj
  (repeat (first | apply cn | apply cq | apply cb | apply ck | apply cl | apply cx))
  apply cr
  refine s_ p_mv ?_
  refine s_ p_lt ?_
  (repeat (first | apply cn | apply cq | apply cb | apply ck | apply cl | apply cx))
  refine ci ?_ ?_
  · intro hlt2
    have hj5 : j < 5 := by omega
    obtain ⟨hRd, hNb, hlg, _, _, hla, _⟩ := I.rd (by omega) hj5
    have hj0 : (0 : Int) ≤ (j : Nat) := by omega
    have hj5' : ((j : Nat) : Int) < 5 := by omega
    have hjt : ((j : Nat) : Int).toNat = j := Int.toNat_natCast j
    rw [← hjt] at hRd hlg
    have hsz := hRd.sz
    have hb0 := hRd.b0
    generalize hn : N ((j : Nat) : Int).toNat = n at hRd hlg hsz hb0
    have htk : TakeR (fvC N (.v v)) (0 + 0 + ((j : Nat) : Int).toNat * 22) 22 (nodeC n (eens n.log)) := by rw [← hn]; exact fv_take hj0 hj5'
    have fA := wake_fn n (by omega)
    have fB := Conf_fn n (by omega) (by omega) (by omega)
    have fC := Conf_fn (wakeF n) (show n.log.length ≤ _ by omega) (show _ ≤ n.base by omega) (show n.base ≤ _ by omega)
    have fD := wake_fn (wakeF n) (show n.log.length ≤ _ by omega)
    have fE := same_fn (wakeF n) (wakeF (wakeF n)) (show n.log.length ≤ _ by omega) (show n.log.length ≤ _ by omega)
    have hww : wakeF (wakeF n) = wakeF n := rfl
    (repeat (first | apply cn | apply cq | apply cb | apply ck | apply cl | apply cx))
    refine sim_cutP (σ := Nat × Nat) (ok := fun _ => True) (env := fun s => [(9, pN s.2), (8, pN s.1), (7, ei (j : Nat)), (5, pW b)]) (heap := fun s => (s.2, ⟨nB, nodeC (wakeF n) (eens n.log), 22⟩) :: (s.1, ⟨nB, nodeC n (eens n.log), 22⟩) :: (b, ⟨tF, fvC N (.v v), 111⟩) :: (Hm ++ [])) ?_ ?_
    · refine ct [0, 1, 2, 3, 4, 5, 6, 7, 8, 9, 10, 11, 12] [13, 14, 15, 16] ?_
      refine t_ (fun _ => p_mv) ?_
      refine t_ (fun _ => p_mv) ?_
      refine t_ (fun _ => p_nc) ?_
      refine t_ (fun _ => p_fr) ?_
      refine t_ (fun _ => p_ar) ?_
      refine t_loa (hc := htk) ?_
      refine t_ (fun _ => p_mv) ?_
      refine t_ (fun _ => p_mv) ?_
      refine t_ (fun _ => p_nc) ?_
      refine t_ (fun _ => p_fr) ?_
      refine t_ (fun _ => p_ar) ?_
      refine t_loa (hc := htk) ?_
      refine t_ (fun _ => p_ca fA) ?_
      intro p hp hr
      rcases List.mem_cons.1 hp with rfl | hp
      · clear hp hr
        refine t_al fun b8 _ => ⟨by (repeat (first | exact trivial | (apply And.intro; focus (intro hb; first | exact trivial | exact noB hb rfl | (repeat (first | exact hZ | apply hS | apply hA)))))), ?_⟩
        intro p hp hr
        rcases List.mem_cons.1 hp with rfl | hp
        · clear hp hr
          refine t_al fun b9 _ => ⟨by (repeat (first | exact trivial | (apply And.intro; focus (intro hb; first | exact trivial | exact noB hb rfl | (repeat (first | exact hZ | apply hS | apply hA)))))), ?_⟩
          intro p hp hr
          rcases List.mem_cons.1 hp with rfl | hp
          · clear hp hr
            refine t_st ?_
            intro p hp hr
            rcases List.mem_cons.1 hp with rfl | hp
            · clear hp hr
              refine t_st ?_
              exact ⟨(b8, b9), _, trivial, eL, .refl _, kR⟩
            exact (List.not_mem_nil hp).elim
          rcases List.mem_cons.1 hp with rfl | hp
          · exact tno hr
          exact (List.not_mem_nil hp).elim
        rcases List.mem_cons.1 hp with rfl | hp
        · clear hp hr
          refine t_st ?_
          intro p hp hr
          rcases List.mem_cons.1 hp with rfl | hp
          · clear hp hr
            refine t_al fun b9 _ => ⟨by (repeat (first | exact trivial | (apply And.intro; focus (intro hb; first | exact trivial | exact noB hb rfl | (repeat (first | exact hZ | apply hS | apply hA)))))), ?_⟩
            intro p hp hr
            rcases List.mem_cons.1 hp with rfl | hp
            · clear hp hr
              refine t_st ?_
              exact ⟨(b8, b9), _, trivial, eL, .refl _, kR⟩
            exact (List.not_mem_nil hp).elim
          rcases List.mem_cons.1 hp with rfl | hp
          · exact tno hr
          exact (List.not_mem_nil hp).elim
        rcases List.mem_cons.1 hp with rfl | hp
        · exact tno hr
        exact (List.not_mem_nil hp).elim
      rcases List.mem_cons.1 hp with rfl | hp
      · clear hp hr
        refine t_al fun b9 _ => ⟨by (repeat (first | exact trivial | (apply And.intro; focus (intro hb; first | exact trivial | exact noB hb rfl | (repeat (first | exact hZ | apply hS | apply hA)))))), ?_⟩
        intro p hp hr
        rcases List.mem_cons.1 hp with rfl | hp
        · clear hp hr
          refine t_al fun b8 _ => ⟨by (repeat (first | exact trivial | (apply And.intro; focus (intro hb; first | exact trivial | exact noB hb rfl | (repeat (first | exact hZ | apply hS | apply hA)))))), ?_⟩
          intro p hp hr
          rcases List.mem_cons.1 hp with rfl | hp
          · clear hp hr
            refine t_st ?_
            intro p hp hr
            rcases List.mem_cons.1 hp with rfl | hp
            · clear hp hr
              refine t_st ?_
              exact ⟨(b8, b9), _, trivial, eL, .swap _ _ _, kR⟩
            exact (List.not_mem_nil hp).elim
          rcases List.mem_cons.1 hp with rfl | hp
          · exact tno hr
          exact (List.not_mem_nil hp).elim
        rcases List.mem_cons.1 hp with rfl | hp
        · exact tno hr
        rcases List.mem_cons.1 hp with rfl | hp
        · exact tno hr
        exact (List.not_mem_nil hp).elim
      rcases List.mem_cons.1 hp with rfl | hp
      · exact tno hr
      rcases List.mem_cons.1 hp with rfl | hp
      · exact tno hr
      exact (List.not_mem_nil hp).elim
    rintro ⟨b8, b9⟩ _
    (repeat (first | apply cn | apply cq | apply cb | apply ck | apply cl | apply cx))
    refine ca [0, 1, 2, 3, 4, 5, 6, 7, 8, 9, 10, 11, 12, 13, 14, 15, 16, 17, 18, 19, 20, 21, 22, 23, 24, 25, 26, 27, 28, 29, 30, 31, 32, 33, 34, 35, 36, 37, 38, 39, 40, 41, 42, 43, 44, 45, 46, 47, 48, 49, 50, 51, 52, 53, 54, 55, 56, 57, 58, 59, 60, 61, 62, 63, 64, 65, 66, 67, 68, 69, 70, 71, 72, 73, 74, 75, 76, 77, 78, 79, 80, 81, 82, 83, 84, 85, 86, 87, 88, 89, 90, 91, 92, 93, 94, 95, 96] [] ?_
    refine a_ (fun _ => p_fr) ?_
    refine a_lo ?_
    refine a_ (fun _ => p_fr) ?_
    refine a_lo ?_
    refine a_ (fun _ => p_ne) ?_
    refine a_ (fun _ => p_mv) ?_
    refine ag_F (fun _ hg => p_fr) ?_
    refine ag_loF ?_
    refine ag_F (fun _ hg => p_fr) ?_
    refine ag_loF ?_
    refine ag_F (fun _ hg => p_ne (hx := u_ hg) (hy := u_ hg)) ?_
    refine a_ (fun _ => p_or) ?_
    refine a_ (fun _ => p_mv) ?_
    refine ag_F (fun _ hg => p_fr) ?_
    refine ag_loF ?_
    refine ag_F (fun _ hg => p_fr) ?_
    refine ag_loF ?_
    refine ag_F (fun _ hg => p_ne (hx := u_ hg) (hy := u_ hg)) ?_
    refine a_ (fun _ => p_or) ?_
    refine a_ (fun _ => p_mv) ?_
    refine ag_F (fun _ hg => p_fr) ?_
    refine ag_loF ?_
    refine ag_F (fun _ hg => p_fr) ?_
    refine ag_loF ?_
    refine ag_F (fun _ hg => p_ne (hx := u_ hg) (hy := u_ hg)) ?_
    refine a_ (fun _ => p_or) ?_
    refine a_ (fun _ => p_mv) ?_
    refine ag_F (fun _ hg => p_fr) ?_
    refine ag_loF ?_
    refine ag_F (fun _ hg => p_fr) ?_
    refine ag_loF ?_
    refine ag_F (fun _ hg => p_ne (hx := u_ hg) (hy := u_ hg)) ?_
    refine a_ (fun _ => p_or) ?_
    refine a_ (fun _ => p_mv) ?_
    refine ag_F (fun _ hg => p_fr) ?_
    refine ag_loF ?_
    refine ag_F (fun _ hg => p_fr) ?_
    refine ag_loF ?_
    refine ag_F (fun _ hg => p_ne (hx := u_ hg) (hy := u_ hg)) ?_
    refine a_ (fun _ => p_or) ?_
    refine a_ (fun _ => p_mv) ?_
    refine ag_F (fun _ hg => p_fr) ?_
    refine ag_loF ?_
    refine ag_F (fun _ hg => p_fr) ?_
    refine ag_loF ?_
    refine ag_F (fun _ hg => p_neS (hx := u_ hg) (hy := u_ hg)) ?_
    refine a_ (fun _ => p_or) ?_
    refine a_ (fun _ => p_mv) ?_
    refine ag_F (fun _ hg => p_fr) ?_
    refine ag_loF ?_
    (first | refine ag_F (fun _ hg => p_ln (hx := u_ hg)) ?_ | refine ag_F (fun _ hg => p_lr (hx := u_ hg)) ?_)
    refine ag_F (fun _ hg => p_fr) ?_
    refine ag_loF ?_
    (first | refine ag_F (fun _ hg => p_ln (hx := u_ hg)) ?_ | refine ag_F (fun _ hg => p_lr (hx := u_ hg)) ?_)
    refine ag_F (fun _ hg => p_ne (hx := u_ hg) (hy := u_ hg)) ?_
    refine a_ (fun _ => p_or) ?_
    refine a_ (fun _ => p_mv) ?_
    refine ag_F (fun _ hg => p_fr) ?_
    refine ag_loF ?_
    refine ag_F (fun _ hg => p_ne (hx := u_ hg)) ?_
    refine a_ (fun _ => p_or) ?_
    refine a_ (fun _ => p_mv) ?_
    refine ag_F (fun _ hg => p_fr) ?_
    refine ag_loF ?_
    refine ag_F (fun _ hg => p_ne (hx := u_ hg)) ?_
    refine a_ (fun _ => p_or) ?_
    refine a_ (fun _ => p_mv) ?_
    refine ag_F (fun _ hg => p_fr) ?_
    refine ag_loF ?_
    refine ag_F (fun _ hg => p_ne (hx := u_ hg)) ?_
    refine a_ (fun _ => p_or) ?_
    refine a_ (fun _ => p_mv) ?_
    refine ag_F (fun _ hg => p_fr) ?_
    refine ag_loaF ?_
    refine ag_F (fun _ hg => p_bd 5 [_, _, _, _, _]) ?_
    refine ag_F (fun _ hg => p_neD 2 [.int .i64, .int .i64, .int .i64, .int .i64, .int .i64] Try.eqGuardType27 (hx := u_ hg) (hy := u_ hg)) ?_
    refine a_ (fun _ => p_or) ?_
    refine a_ (fun _ => p_mv) ?_
    refine ag_F (fun _ hg => p_fr) ?_
    refine ag_loaF ?_
    refine ag_F (fun _ hg => p_bd 5 [_, _, _, _, _]) ?_
    refine ag_F (fun _ hg => p_neD 2 [.int .i64, .int .i64, .int .i64, .int .i64, .int .i64] Try.eqGuardType27 (hx := u_ hg) (hy := u_ hg)) ?_
    refine a_ (fun _ => p_or) ?_
    refine a_ (fun _ => p_mv) ?_
    refine ag_loaF ?_
    refine ag_F (fun _ hg => p_ca (fB) (ha' := by apply evl_cons (u_ hg); exact evl_nil)) ?_
    refine ag_loaF ?_
    refine ag_F (fun _ hg => p_ca (fC) (ha' := by apply evl_cons (u_ hg); exact evl_nil)) ?_
    refine ag_F (fun _ hg => p_ne (hx := u_ hg) (hy := u_ hg)) ?_
    refine a_ (fun _ => p_or) ?_
    refine a_ (fun _ => p_mv) ?_
    refine ag_loaF ?_
    refine ag_loaF ?_
    refine ag_F (fun _ hg => p_ca (fD) (ha' := by apply evl_cons (u_ hg); exact evl_nil)) ?_
    refine ag_F (fun _ hg => p_ca (fE) (ha' := by apply evl_cons (u_ hg); apply evl_cons (u_ hg); exact evl_nil)) ?_
    refine ag_F (fun _ hg => p_no (hx := u_ hg)) ?_
    refine a_ (fun _ => p_or) ?_
    apply an
    (repeat (first | apply cn | apply cq | apply cb | apply ck | apply cl | apply cx))
    refine ci (fun h => ?_) (fun _ => ?_)
    · exfalso
      rcases h with (((((((((((((h | h) | h) | h) | h) | h) | h) | h) | h) | h) | h) | h) | h) | h) | h <;> exact h rfl
    (repeat (first | apply cn | apply cq | apply cb | apply ck | apply cl | apply cx))
    apply cr
    refine s_ p_mv ?_
    refine s_ p_ad ?_
    refine s_ p_as ?_
    (repeat (first | apply cn | apply cq | apply cb | apply ck | apply cl | apply cx))
    exact ⟨j + 1, by omega, by show 5 - (j + 1) < 5 - j; omega, ⟨le_get (by rfl) (Le.refl _), eL⟩, kS (kS kR)⟩
  · intro _
    (repeat (first | apply cn | apply cq | apply cb | apply ck | apply cl | apply cx))
    apply cr
    refine s_ p_as ?_
    (repeat (first | apply cn | apply cq | apply cb | apply ck | apply cl | apply cx))
    (apply sim_ret; (try simp only [blockΨ_ret, thenΨ_ret, loopL_ret, cutΨ_ret, cutE_ret]); first | refine rt ?_ | refine rn ?_)
    exact Le.refl _
end Go.Proofs.Ytppaabahbjgihaa
