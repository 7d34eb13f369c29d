/-
  ReplicaQuiet: who is no member asks for nothing.
-/
import Derived.Test.YtppaabahbjgihaaLawB
set_option maxRecDepth 4000
namespace Go.Proofs.Ytppaabahbjgihaa
open Go.Cap
set_option linter.unusedSimpArgs false
set_option linter.unusedVariables false
attribute [local irreducible] POp SimFrom DrawFrom EOp Sim FnH T.gp
def askG (f to t i lt : Int) : Ms := ⟨1, f, to, t, i, lt, 0, 0, false, [], []⟩
theorem vot_takeG {x y : Nd} {f t i lt : Int} (h0 : 0 ≤ f) (h5 : f < 5) (hf : f ≠ x.id) (ht0 : 0 ≤ t) (ht1 : t ≤ 1073741824) (hu : upN x (askG f x.id t i lt) = y) :
    takeF x (askG f x.id t i lt) = (voteF y (askG f x.id t i lt), [sendF (voteF y (askG f x.id t i lt)) f (votedM (yesF y (askG f x.id t i lt)))]) := by
  have hb : ¬ badF x (askG f x.id t i lt) := by
    show ¬ ((((f < 0 ∨ 5 ≤ f) ∨ f = x.id) ∨ ¬ x.id = x.id) ∨ ((((1 : Int) < 1 ∨ (5 : Int) < 1) ∨ t < 0) ∨ 1073741824 < t))
    omega
  rw [takeF, if_neg hb, hu, actF, if_pos (show (askG f x.id t i lt).kind = 1 from rfl)]
  rfl
def clrI (c id : Int) : Int := bAnn .i64 c (bShl .i64 1 (IntKind.u64.wrap id))
theorem clr_ok {c id : Int} (h0 : 0 ≤ id) (h1 : id < 5) (h2 : 0 ≤ c) (h3 : c < 32) : 0 ≤ clrI c id ∧ clrI c id ≤ 31 ∧ isF (clrI c id) id = false := by
  have key : ∀ i : Fin 5, ∀ j : Fin 32, 0 ≤ clrI j.val i.val ∧ clrI j.val i.val ≤ 31 ∧ isF (clrI j.val i.val) i.val = false := by decide +kernel
  obtain ⟨i, rfl⟩ : ∃ i : Nat, id = (i : Int) := ⟨id.toNat, by omega⟩
  obtain ⟨j, rfl⟩ : ∃ j : Nat, c = (j : Int) := ⟨c.toNat, by omega⟩
  exact key ⟨i, by omega⟩ ⟨j, by omega⟩
set_option maxHeartbeats 4000000 in
theorem quiet_fn (id0 conf0 ticks0 : Int) : FnP Try.prog 4 [ei id0, ei conf0, ei ticks0] (fun r => r = .v (.bool true)) := by
  have hk := known_fn
  have hw1 := within_fn id0 5 (by omega) (by omega)
  have hw2 := within_fn conf0 32 (by omega) (by omega)
  have hw3 := within_fn ticks0 40 (by omega) (by omega)
  have hi : 0 ≤ id0 % 5 ∧ id0 % 5 < 5 := by omega
  have hc : 0 ≤ conf0 % 32 ∧ conf0 % 32 < 32 := by omega
  have ht : 0 ≤ ticks0 % 40 ∧ ticks0 % 40 < 40 := by omega
  refine fn_enter Try.func4 (by rfl) (by rfl) ?_
  intro S0 w0
  show Sim _ _ [(0, ei id0), (1, ei conf0), (2, ei ticks0)] _ _
  (repeat (first | apply cn | apply cq | apply cb | apply ck | apply cl | apply cx))
  apply cr
  refine s_ p_as ?_
  (repeat (first | apply cn | apply cq | apply cb | apply ck | apply cl | apply cx))
  apply cr
  refine s_ (p_ca (hk)) ?_
  refine s_ p_noB ?_
  refine cn ?_
  (repeat (first | apply cn | apply cq | apply cb | apply ck | apply cl | apply cx))
  refine ci (p := False) (fun h => h.elim) (fun _ => ?_)
  (repeat (first | apply cn | apply cq | apply cb | apply ck | apply cl | apply cx))
  apply cr
  refine s_ p_mv ?_
  refine s_ (p_ca (hw1)) ?_
  refine s_ p_mv ?_
  refine s_ (p_ca (hw2)) ?_
  refine s_ p_mv ?_
  refine s_ (p_ca (hw3)) ?_
  refine s_ p_as ?_
  refine s_ p_as ?_
  refine s_ p_as ?_
  (repeat (first | apply cn | apply cq | apply cb | apply ck | apply cl | apply cx))
  generalize id0 % 5 = id at hi ⊢
  generalize conf0 % 32 = conf at hc ⊢
  generalize hT : ticks0 % 40 = T0 at ht ⊢
  obtain ⟨tk, rfl⟩ : ∃ tk : Nat, T0 = (tk : Int) := ⟨T0.toNat, by omega⟩
  have hwi : IntKind.u64.wrap id = id := wrap32 hi.1 (by omega)
  have hcl := clr_ok hi.1 hi.2 hc.1 hc.2
  (repeat (first | apply cn | apply cq | apply cb | apply ck | apply cl | apply cx))
  apply cr
  refine s_ p_mv ?_
  refine s_ p_mv ?_
  refine s_ p_cv ?_
  refine s_ p_shl ?_
  refine s_ p_ann ?_
  refine s_ p_as ?_
  (repeat (first | apply cn | apply cq | apply cb | apply ck | apply cl | apply cx))
  rw [show bAnn .i64 conf (bShl .i64 1 (IntKind.u64.wrap id)) = clrI conf id from rfl]
  generalize clrI conf id = cf at hcl ⊢
  have hN := new_fn' id cf hi.1 hi.2 hcl.1 hcl.2.1
  have hb := new_bd hi.1 hi.2 hcl.1 hcl.2.1
  have htk : tickF (newF id cf) = (newF id cf, []) := by
    have hcf : confF (newF id cf) = (0, cf) := rfl
    rw [tickF, if_neg (show ¬ (newF id cf).role = 2 from by show ¬ (0 : Int) = 2; decide), hcf, if_pos (by rw [show (newF id cf).id = id from rfl, hcl.2.2]; decide)]
  have hx : ∀ i, (newF id cf).next.get i ≤ 100000000000 := fun i => by rw [show (newF id cf).next = .all 0 from rfl, F5.get_all]; omega
  have hti := tick_fn (n := newF id cf) hb (by simp [newF]) (by simp [newF]) (by simp [newF]) (by simp [newF]) (by simp [newF]) hx
  rw [htk] at hti
  have hsm := same_fn (newF id cf) (newF id cf) (by simp [newF]) (by simp [newF])
  (repeat (first | apply cn | apply cq | apply cb | apply ck | apply cl | apply cx))
  apply cr
  refine s_ p_mv ?_
  refine s_ p_mv ?_
  refine s_ (p_ca (hN)) ?_
  refine e_al fun b7 _ => ?_
  refine e_st ?_
  (repeat (first | apply cn | apply cq | apply cb | apply ck | apply cl | apply cx))
  apply cr
  refine s_ p_as ?_
  (repeat (first | apply cn | apply cq | apply cb | apply ck | apply cl | apply cx))
  apply sim_loopL (σ := Nat) (ok := fun k => k ≤ tk) (env := fun k => [(8, ei (k : Nat)), (7, pN b7), (0, ei id), (2, ei tk)]) (heap := fun _ => [(b7, ⟨nB, nodeC (newF id cf) (.sl false (([] : List En).map een)), 22⟩)]) (μ := fun k => tk - k) (s0 := 0)
  · exact Nat.zero_le _
  · exact eL
  · exact kK kN (node_le0 _) (by rfl)
  intro k hk
  (repeat (first | apply cn | apply cq | apply cb | apply ck | apply cl | apply cx))
  apply cr
  refine s_ p_mv ?_
  refine s_ p_mv ?_
  refine s_ p_lt ?_
  (repeat (first | apply cn | apply cq | apply cb | apply ck | apply cl | apply cx))
  refine ci ?_ ?_
  · intro hlt
    (repeat (first | apply cn | apply cq | apply cb | apply ck | apply cl | apply cx))
    apply cr
    refine s_ p_loa ?_
    refine s_ (p_cl (hti)) ?_
    refine s_ p_mv ?_
    refine s_ p_ex ?_
    refine s_ p_ex ?_
    refine e_al fun b9 _ => ?_
    refine e_st ?_
    refine s_ p_as ?_
    (repeat (first | apply cn | apply cq | apply cb | apply ck | apply cl | apply cx))
    apply cr
    refine s_ p_mv ?_
    (first | refine s_ p_ln ?_ | refine s_ p_lr ?_)
    refine s_ p_ne ?_
    refine s_ p_mv ?_
    refine gF (fun hg => p_loa) ?_
    refine gF (fun hg => p_loa) ?_
    refine gF (fun hg => p_cl (hsm) (ha' := by apply evl_cons (u_ hg); apply evl_cons (u_ hg); exact evl_nil)) ?_
    refine gF (fun hg => p_no (hx := u_ hg)) ?_
    refine s_ p_or ?_
    (repeat (first | apply cn | apply cq | apply cb | apply ck | apply cl | apply cx))
    refine ci ?_ ?_
    · intro h
      exfalso
      rcases h with h | h
      · exact h rfl
      · exact h rfl
    intro _
    (repeat (first | apply cn | apply cq | apply cb | apply ck | apply cl | apply cx))
    apply cr
    refine s_ p_mv ?_
    refine s_ p_ad ?_
    refine s_ p_as ?_
    (repeat (first | apply cn | apply cq | apply cb | apply ck | apply cl | apply cx))
    exact ⟨k + 1, by omega, by show tk - (k + 1) < tk - k; omega, ⟨le_get (by rfl) (Le.refl _), eL⟩, kS kR⟩
  · intro hlt
    have hf : (id + 1).tmod 5 = (id + 1) % 5 := Int.tmod_eq_emod_of_nonneg (by omega)
    have hy : upN (newF id cf) (askG ((id + 1) % 5) id 3 0 0) = { newF id cf with term := 3, vote := -1, role := 0, votes := 0 } := by rw [upN, if_pos (by simp [newF, askG])]; rfl
    have hnb : NBd (newF id cf) := zero_nbd (by simp [newF]) rfl rfl rfl
    have htt := take_fn (n := newF id cf) (m := askG ((id + 1) % 5) id 3 0 0) hb hnb (.inr ⟨by simp [askG], by simp [askG], by simp [askG, newF]⟩)
    rw [show askG ((id + 1) % 5) id 3 0 0 = askG ((id + 1) % 5) (newF id cf).id 3 0 0 from rfl] at htt hy
    rw [vot_takeG (by omega) (by omega) (by rw [show (newF id cf).id = id from rfl]; omega) (by omega) (by omega) hy] at htt
    generalize hyy : ({ newF id cf with term := 3, vote := -1, role := 0, votes := 0 } : Nd) = y at htt
    have hyes : yesF y (askG ((id + 1) % 5) (newF id cf).id 3 0 0) = true := by rw [← hyy]; simp [yesF, askG, termF, lastF, newF]
    have hk2 := voteF_keeps y (askG ((id + 1) % 5) (newF id cf).id 3 0 0)
    rw [hyes] at hk2
    (repeat (first | apply cn | apply cq | apply cb | apply ck | apply cl | apply cx))
    apply cr
    refine s_ p_mv ?_
    refine s_ p_ad ?_
    refine s_ p_re ?_
    refine s_ p_as ?_
    (repeat (first | apply cn | apply cq | apply cb | apply ck | apply cl | apply cx))
    rw [hf]
    (repeat (first | apply cn | apply cq | apply cb | apply ck | apply cl | apply cx))
    apply cr
    refine s_ p_loa ?_
    refine s_ p_mv ?_
    refine s_ p_mv ?_
    refine s_ (p_bd 11 [_, _, _, _, _, _, _, _, _, _, _]) ?_
    refine s_ (p_cl (htt)) ?_
    refine s_ p_mv ?_
    refine s_ p_ex ?_
    refine s_ p_ex ?_
    refine e_al fun b12 _ => ?_
    refine e_st ?_
    refine s_ p_as ?_
    (repeat (first | apply cn | apply cq | apply cb | apply ck | apply cl | apply cx))
    apply cr
    refine s_ p_mv ?_
    (first | refine s_ p_ln ?_ | refine s_ p_lr ?_)
    refine s_ p_eq ?_
    refine s_ p_mv ?_
    refine gT (fun hg => p_mv) ?_
    (first | refine gT (fun hg => p_ix hix (hx := u_ hg)) ?_ | refine gT (fun hg => p_ix hix2 (hx := u_ hg)) ?_ | refine gT (fun hg => p_ia (hx := u_ hg)) ?_ | refine gT (fun hg => p_ir (hx := u_ hg)) ?_)
    (first | refine gT (fun hg => p_fa (hx := u_ hg)) ?_ | refine gT (fun hg => p_fr (hx := u_ hg)) ?_)
    (first | refine gT (fun hg => p_ld (hx := u_ hg)) ?_ | refine gT (fun hg => p_lo (hx := u_ hg)) ?_)
    refine s_ p_an ?_
    refine s_ p_mv ?_
    refine gT (fun hg => p_mv) ?_
    (first | refine gT (fun hg => p_ix hix (hx := u_ hg)) ?_ | refine gT (fun hg => p_ix hix2 (hx := u_ hg)) ?_ | refine gT (fun hg => p_ia (hx := u_ hg)) ?_ | refine gT (fun hg => p_ir (hx := u_ hg)) ?_)
    (first | refine gT (fun hg => p_fa (hx := u_ hg)) ?_ | refine gT (fun hg => p_fr (hx := u_ hg)) ?_)
    (first | refine gT (fun hg => p_ld (hx := u_ hg)) ?_ | refine gT (fun hg => p_lo (hx := u_ hg)) ?_)
    refine gT (fun hg => p_mv) ?_
    refine gT (fun hg => p_eq (hx := u_ hg) (hy := u_ hg)) ?_
    refine s_ p_an ?_
    refine s_ p_mv ?_
    refine gT (fun hg => p_fr) ?_
    refine gT (fun hg => p_lo (hx := u_ hg)) ?_
    refine gT (fun hg => p_mv) ?_
    refine gT (fun hg => p_eq (hx := u_ hg) (hy := u_ hg)) ?_
    refine s_ p_an ?_
    refine s_ p_mv ?_
    refine gT (fun hg => p_fr) ?_
    refine gT (fun hg => p_lo (hx := u_ hg)) ?_
    refine gT (fun hg => p_eq (hx := u_ hg)) ?_
    refine s_ p_an ?_
    refine s_ p_as ?_
    (repeat (first | apply cn | apply cq | apply cb | apply ck | apply cl | apply cx))
    (apply sim_ret; (try simp only [blockΨ_ret, thenΨ_ret, loopL_ret, cutΨ_ret, cutE_ret]); first | refine rt ?_ | refine rn ?_)
    refine b_true ⟨⟨⟨⟨rfl, ?_⟩, rfl⟩, ?_⟩, ?_⟩
    · exact of_decide_eq_true hyes
    · exact hk2.2.2.2.2.2.2.2.2
    · exact hk2.2.1.trans (by rw [← hyy])
end Go.Proofs.Ytppaabahbjgihaa
