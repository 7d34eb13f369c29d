/-
  ReplicaPlays: whatever is done to five, each call's node and messages are the document's.
-/
import Derived.Test.YtppaabahbjgihaaDo
set_option maxRecDepth 8000
namespace Go.Proofs.Ytppaabahbjgihaa
open Go.Cap Raft
set_option linter.unusedSimpArgs false
set_option linter.unusedVariables false
attribute [local irreducible] POp SimFrom DrawFrom EOp Sim FnH T.gp
/-- What is known behind some acts. -/
def Iv (s : Nat) (N : Nat → Nd) (M : List Ms) : Prop := ∃ H L, IvH H L s N M
theorem conf_at (conf : Int) : 0 ≤ 1 + conf % 31 ∧ 1 + conf % 31 ≤ 31 := by omega
set_option maxHeartbeats 8000000 in
theorem plays_fn (conf : Int) (l : List Ac) (hl : l.length ≤ 9223372036854775807) (hcl : ∀ a ∈ l, a.cmd.length ≤ 9223372036854775807) : FnP Try.prog 8 [ei conf, .sl false (l.map acT)] (fun r => r = .v (.bool true)) := by
  have fK := known_fn
  have fF := few_fn l hl hcl
  have fW := within_fn conf 31 (by omega) (by omega)
  have hcf := conf_at conf
  refine fn_enter Try.func8 (by rfl) (by rfl) ?_
  intro S0 w0
  show Sim _ _ [(0, ei conf), (1, T.sl false (l.map acT))] _ _
  (repeat (first | apply cn | apply cq | apply cb | apply ck | apply cl | apply cx))
  apply cr
  refine s_ p_as ?_
  (repeat (first | apply cn | apply cq | apply cb | apply ck | apply cl | apply cx))
  apply cr
  refine s_ (p_ca (fK)) ?_
  refine s_ p_noB ?_
  refine cn ?_
  (repeat (first | apply cn | apply cq | apply cb | apply ck | apply cl | apply cx))
  refine ci (p := False) (fun h => h.elim) (fun _ => ?_)
  (repeat (first | apply cn | apply cq | apply cb | apply ck | apply cl | apply cx))
  apply cr
  refine s_ p_mv ?_
  refine s_ (p_ca (fF)) ?_
  refine s_ p_no ?_
  (repeat (first | apply cn | apply cq | apply cb | apply ck | apply cl | apply cx))
  refine ci ?_ ?_
  · intro hf
    (repeat (first | apply cn | apply cq | apply cb | apply ck | apply cl | apply cx))
    apply cr
    refine s_ p_as ?_
    (repeat (first | apply cn | apply cq | apply cb | apply ck | apply cl | apply cx))
    (apply sim_ret; (try simp only [blockΨ_ret, thenΨ_ret, loopL_ret, cutΨ_ret, cutE_ret]); first | refine rt ?_ | refine rn ?_)
    exact Le.refl _
  intro hf
  have hfew : fewF l = true := Classical.not_not.1 hf
  rw [fewF, Bool.and_eq_true, List.all_eq_true, decide_eq_true_iff] at hfew
  have hl400 := hfew.2
  (repeat (first | apply cn | apply cq | apply cb | apply ck | apply cl | apply cx))
  apply cr
  refine s_ p_mv ?_
  refine s_ (p_ca (fW)) ?_
  refine s_ p_ad ?_
  refine e_cH (Hr := []) (begin_fn (1 + conf % 31) hcf.1 hcf.2) (.refl _) (fun r H' ⟨b, hr, hF⟩ => ?_)
  subst hr
  rw [List.append_nil]
  refine s_ p_as ?_
  (repeat (first | apply cn | apply cq | apply cb | apply ck | apply cl | apply cx))
  apply cr
  refine s_ p_as ?_
  (repeat (first | apply cn | apply cq | apply cb | apply ck | apply cl | apply cx))
  apply sim_loopL (σ := Nat × Heap) (ok := fun s => s.1 ≤ l.length ∧ ∃ N M, FvH b N M s.2 ∧ Iv s.1 N M) (env := fun s => [(6, ei (s.1 : Nat)), (5, pW b), (1, T.sl false (l.map acT))]) (heap := fun s => s.2) (μ := fun s => l.length - s.1) (s0 := (0, H'))
  · exact ⟨Nat.zero_le _, _, _, hF, _, _, iv_begin hcf.1 hcf.2⟩
  · exact eL
  · exact kR
  rintro ⟨k, H⟩ ⟨hk, N, M, hF, Hh, L, I⟩
  simp only at hk hF I
  (repeat (first | apply cn | apply cq | apply cb | apply ck | apply cl | apply cx))
  apply cr
  refine s_ p_mv ?_
  refine s_ p_mv ?_
  (first | refine s_ p_ln ?_ | refine s_ p_lr ?_)
  refine s_ p_lt ?_
  refine s_ p_mv ?_
  refine gT (fun hg => p_mv) ?_
  refine gT (fun hg => p_lt (hx := u_ hg)) ?_
  refine s_ p_an ?_
  (repeat (first | apply cn | apply cq | apply cb | apply ck | apply cl | apply cx))
  refine ci ?_ ?_
  · intro hlt
    have hix : k < l.length := by have := hlt.1; simp only [List.length_map] at this; omega
    have fD := do_fn I (by omega) l[k] hF
    (repeat (first | apply cn | apply cq | apply cb | apply ck | apply cl | apply cx))
    apply cr
    refine s_ p_mv ?_
    refine s_ p_mv ?_
    refine s_ p_mv ?_
    (first | refine s_ (p_ix hix) ?_ | refine s_ (p_ix hix2) ?_ | refine s_ p_ia ?_ | refine s_ p_ir ?_)
    (first | refine s_ p_la ?_ | refine s_ p_loa ?_)
    refine e_cHA fD (fun r H' ⟨hr, hF'⟩ => ?_)
    subst hr
    
    refine s_ p_noB ?_
    refine cn ?_
    (repeat (first | apply cn | apply cq | apply cb | apply ck | apply cl | apply cx))
    refine ci (p := False) (fun h => h.elim) (fun _ => ?_)
    obtain ⟨H2, L2, _, I2⟩ := do_step I l[k]
    generalize (doF N M l[k]).1 = N2 at hF' I2
    generalize (doF N M l[k]).2 = M2 at hF' I2
    have hF2 := hF'
    obtain ⟨v, Hm, h1, rfl⟩ := hF'
    (repeat (first | apply cn | apply cq | apply cb | apply ck | apply cl | apply cx))
    apply cr
    refine s_ p_as ?_
    (repeat (first | apply cn | apply cq | apply cb | apply ck | apply cl | apply cx))
    apply sim_loopL (σ := Nat) (ok := fun j => j ≤ 5) (env := fun j => [(7, ei (j : Nat)), (6, ei (k : Nat)), (5, pW b), (1, T.sl false (l.map acT))]) (heap := fun _ => (b, ⟨tF, fvC N2 (.v v), 111⟩) :: (Hm ++ [])) (μ := fun j => 5 - j) (s0 := 0)
    · exact Nat.zero_le _
    · exact eL
    · exact kR
    intro j hj
    (repeat (first | apply cn | apply cq | apply cb | apply ck | apply cl | apply cx))
    apply cr
    refine s_ p_mv ?_
    refine s_ p_lt ?_
    (repeat (first | apply cn | apply cq | apply cb | apply ck | apply cl | apply cx))
    refine ci ?_ ?_
    · intro hlt2
      have hj5 : j < 5 := by omega
      obtain ⟨hRd, hNb, hlg, _, _, hla, _⟩ := I2.rd (by omega) hj5
      have hsz := hRd.sz
      have hb0 := hRd.b0
      have fL := last_fn (N2 ((j : Nat) : Int).toNat) (by rw [Int.toNat_natCast]; omega) (by rw [Int.toNat_natCast]; omega) (by rw [Int.toNat_natCast]; omega)
      have fC := Conf_fn (N2 ((j : Nat) : Int).toNat) (by rw [Int.toNat_natCast]; omega) (by rw [Int.toNat_natCast]; omega) (by rw [Int.toNat_natCast]; omega)
      have fR := toRef_fn (N2 ((j : Nat) : Int).toNat) (by rw [Int.toNat_natCast]; omega)
      have fQ := rLast_fn (N2 ((j : Nat) : Int).toNat) (by rw [Int.toNat_natCast]; omega) (by rw [Int.toNat_natCast]; omega) (by rw [Int.toNat_natCast]; omega)
      have fE := rConf_fn (N2 ((j : Nat) : Int).toNat) (by rw [Int.toNat_natCast]; omega) (by rw [Int.toNat_natCast]; omega) (by rw [Int.toNat_natCast]; omega)
      have hj0 : (0 : Int) ≤ (j : Nat) := by omega
      have hj5' : ((j : Nat) : Int) < 5 := by omega
      (repeat (first | apply cn | apply cq | apply cb | apply ck | apply cl | apply cx))
      apply cr
      refine s_ p_mv ?_
      refine s_ p_mv ?_
      refine s_ p_nc ?_
      refine s_ p_fr ?_
      refine s_ p_ar ?_
      refine s_ (p_loa (hc := fv_take hj0 hj5')) ?_
      refine s_ (p_ca (fL)) ?_
      refine s_ p_mv ?_
      refine s_ p_ex ?_
      refine s_ p_ex ?_
      refine s_ p_as ?_
      refine s_ p_as ?_
      (repeat (first | apply cn | apply cq | apply cb | apply ck | apply cl | apply cx))
      apply cr
      refine s_ p_mv ?_
      refine s_ p_mv ?_
      refine s_ p_nc ?_
      refine s_ p_fr ?_
      refine s_ p_ar ?_
      refine s_ (p_loa (hc := fv_take hj0 hj5')) ?_
      refine s_ (p_ca (fR)) ?_
      refine s_ (p_ca (fQ)) ?_
      refine s_ p_mv ?_
      refine s_ p_ex ?_
      refine s_ p_ex ?_
      refine s_ p_as ?_
      refine s_ p_as ?_
      (repeat (first | apply cn | apply cq | apply cb | apply ck | apply cl | apply cx))
      refine ca [0, 1, 2, 3, 4, 5, 6, 7, 8, 9, 10, 11, 12, 13, 14, 15, 16, 17, 18, 19, 20, 21, 22, 23, 24, 25] [] ?_
      refine a_ (fun _ => p_mv) ?_
      refine a_ (fun _ => p_mv) ?_
      refine a_ (fun _ => p_ne) ?_
      refine a_ (fun _ => p_mv) ?_
      refine ag_F (fun _ hg => p_mv) ?_
      refine ag_F (fun _ hg => p_mv) ?_
      refine ag_F (fun _ hg => p_ne (hx := u_ hg) (hy := u_ hg)) ?_
      refine a_ (fun _ => p_or) ?_
      refine a_ (fun _ => p_mv) ?_
      refine ag_F (fun _ hg => p_mv) ?_
      refine ag_F (fun _ hg => p_mv) ?_
      refine ag_F (fun _ hg => p_nc (hx := u_ hg)) ?_
      refine ag_F (fun _ hg => p_fr (hx := u_ hg)) ?_
      refine ag_F (fun _ hg => p_ar (hx := u_ hg) (hy := u_ hg)) ?_
      refine ag_loaF (hc := fv_take hj0 hj5') ?_
      refine ag_F (fun _ hg => p_ca (fC) (ha' := by apply evl_cons (u_ hg); exact evl_nil)) ?_
      refine ag_F (fun _ hg => p_mv) ?_
      refine ag_F (fun _ hg => p_mv) ?_
      refine ag_F (fun _ hg => p_nc (hx := u_ hg)) ?_
      refine ag_F (fun _ hg => p_fr (hx := u_ hg)) ?_
      refine ag_F (fun _ hg => p_ar (hx := u_ hg) (hy := u_ hg)) ?_
      refine ag_loaF (hc := fv_take hj0 hj5') ?_
      refine ag_F (fun _ hg => p_ca (fR) (ha' := by apply evl_cons (u_ hg); exact evl_nil)) ?_
      refine ag_F (fun _ hg => p_ca (fE) (ha' := by apply evl_cons (u_ hg); exact evl_nil)) ?_
      refine ag_F (fun _ hg => p_ne (hx := u_ hg) (hy := u_ hg)) ?_
      refine a_ (fun _ => p_or) ?_
      apply an
      (repeat (first | apply cn | apply cq | apply cb | apply ck | apply cl | apply cx))
      refine ci (fun h => ?_) (fun _ => ?_)
      · exfalso
        rcases h with (h | h) | h <;> exact h rfl
      (repeat (first | apply cn | apply cq | apply cb | apply ck | apply cl | apply cx))
      apply cr
      refine s_ p_mv ?_
      refine s_ p_ad ?_
      refine s_ p_as ?_
      (repeat (first | apply cn | apply cq | apply cb | apply ck | apply cl | apply cx))
      exact ⟨j + 1, by omega, by show 5 - (j + 1) < 5 - j; omega, ⟨le_get (by rfl) (Le.refl _), eL⟩, kR⟩
    · intro _
      (repeat (first | apply cn | apply cq | apply cb | apply ck | apply cl | apply cx))
      apply cr
      refine s_ p_mv ?_
      refine s_ p_ad ?_
      refine s_ p_as ?_
      (repeat (first | apply cn | apply cq | apply cb | apply ck | apply cl | apply cx))
      exact ⟨(k + 1, _), ⟨hix, N2, M2, hF2, H2, L2, I2⟩, by show l.length - (k + 1) < l.length - k; omega, ⟨le_get (by rfl) (Le.refl _), eL⟩, kR⟩
  · intro _
    (repeat (first | apply cn | apply cq | apply cb | apply ck | apply cl | apply cx))
    apply cr
    refine s_ p_as ?_
    (repeat (first | apply cn | apply cq | apply cb | apply ck | apply cl | apply cx))
    (apply sim_ret; (try simp only [blockΨ_ret, thenΨ_ret, loopL_ret, cutΨ_ret, cutE_ret]); first | refine rt ?_ | refine rn ?_)
    exact Le.refl _
end Go.Proofs.Ytppaabahbjgihaa
