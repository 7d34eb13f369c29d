/-
  replica: Wake, Propose, Change, Compact.
-/
import Derived.Test.YtbdpfclnomiicaaSame
set_option maxRecDepth 4000
namespace Go.Proofs.Ytbdpfclnomiicaa
open Go.Cap
set_option linter.unusedSimpArgs false
set_option linter.unusedVariables false
attribute [local irreducible] POp SimFrom DrawFrom EOp Sim FnH T.gp
theorem clone_fnD (f : Bool) (l : List En) (hl : l.length ≤ 1000000000) : FnP Try.prog 30 [.sl f (l.map een)] (fun r => r = eens l) :=
  FnH.give (clone_fn f l hl) (by rintro r H ⟨v, rfl, ho⟩; exact ho.lend fun _ h => h)
def wakeF (n : Nd) : Nd := { n with role := 0, wait := 0, votes := 0, next := .all 0, mtch := .all 0 }
theorem wake_fn (n : Nd) (hl : n.log.length ≤ 1000000000) : FnP Try.prog 14 [nd n] (fun r => r = nd (wakeF n)) := by
  have hc := clone_fnD false n.log hl
  refine fn_enter Try.func14 (by rfl) (by rfl) ?_
  intro S0 w0
  show Sim _ _ [(0, T.agg (nodeC n (.sl false (n.log.map een))))] _ _
  (repeat (first | apply cn | apply cq | apply cb | apply ck | apply cl | apply cx))
  apply cr
  refine e_bx fun b1 _ => ?_
  refine e_al fun b2 _ => ?_
  (repeat (first | apply cn | apply cq | apply cb | apply ck | apply cl | apply cx))
  refine sim_perm (List.Perm.swap _ _ _) ?_
  refine lend1 1 (by simp [nodeC]) ?_
  (repeat (first | apply cn | apply cq | apply cb | apply ck | apply cl | apply cx))
  refine ca [0, 1, 2, 3, 4, 5, 6, 7, 8, 9, 10, 11, 12, 13, 14, 15, 16, 17, 18, 19, 20] [20] ?_
  refine a_ (fun _ => p_fa) ?_
  refine a_ (fun _ => p_ld) ?_
  refine a_ (fun _ => p_fa) ?_
  refine a_ (fun _ => p_ld) ?_
  refine a_ (fun _ => p_fa) ?_
  refine a_ (fun _ => p_ld) ?_
  refine a_ (fun _ => p_fa) ?_
  refine a_ (fun _ => p_ld) ?_
  refine a_ (fun _ => p_fa) ?_
  refine a_ (fun _ => p_ld) ?_
  refine a_ (fun _ => p_fa) ?_
  refine a_ (fun _ => p_ld) ?_
  refine a_ (fun _ => p_fa) ?_
  refine a_ (fun _ => p_ld) ?_
  refine a_ (fun _ => p_fa) ?_
  refine a_ (fun _ => p_ld) ?_
  refine a_ (fun _ => p_ca (hc)) ?_
  refine a_ (fun _ => p_fa) ?_
  refine a_ (fun _ => p_ld) ?_
  refine a_ (fun _ => p_bR 22) ?_
  refine a_st ?_
  apply an
  (repeat (first | apply cn | apply cq | apply cb | apply ck | apply cl | apply cx))
  (apply sim_ret; (try simp only [blockΨ_ret, thenΨ_ret, loopL_ret, cutΨ_ret, cutE_ret]); first | refine rt ?_ | refine rn ?_)
  exact Le.refl _
def propF (n : Nd) (cmd : List UInt8) : Nd × Int × Int := if ¬ n.role = 2 then (n, 0, 21) else if cmd = [] then (n, 0, 1) else (putF n ⟨0, 0, cmd⟩, n.base + (n.log.length + 1), 0)
set_option maxHeartbeats 1000000 in
theorem prop_fn {n : Nd} (cmd : List UInt8) (hn : Bd n) (hl : n.log.length < 100000000) : FnP Try.prog 19 [nd n, es cmd] (fun r => r = .tup [nd (propF n cmd).1, ei (propF n cmd).2.1, ei (propF n cmd).2.2]) := by
  have hW := work_fn n (bd_len n hn)
  refine fn_enter Try.func19 (by rfl) (by rfl) ?_
  intro S0 w0
  show Sim _ _ [(0, T.agg (nodeC n (.sl false (n.log.map een)))), (1, es cmd)] _ _
  (repeat (first | apply cn | apply cq | apply cb | apply ck | apply cl | apply cx))
  apply cr
  refine e_bx fun b2 _ => ?_
  refine e_al fun b4 _ => ?_
  refine s_ p_as ?_
  refine s_ p_as ?_
  (repeat (first | apply cn | apply cq | apply cb | apply ck | apply cl | apply cx))
  refine sim_perm (List.Perm.swap _ _ _) ?_
  refine lend1 2 (by simp [nodeC]) ?_
  (repeat (first | apply cn | apply cq | apply cb | apply ck | apply cl | apply cx))
  apply cr
  refine s_ p_la ?_
  refine e_cH (Hs := []) (Hr := [_]) hW (.refl _) (fun r H' ⟨b, hr, hw⟩ => ?_)
  subst hr
  have hw' := hw
  obtain ⟨vl, vo, Hl, Ho, h1, h2, rfl⟩ := hw
  obtain ⟨p, c, rfl⟩ := h1.len
  obtain ⟨q, d, rfl⟩ := h2.len
  refine s_ p_as ?_
  (repeat (first | apply cn | apply cq | apply cb | apply ck | apply cl | apply cx))
  apply cr
  refine s_ p_mv ?_
  refine s_ p_nc ?_
  refine s_ p_fr ?_
  refine s_ p_fr ?_
  refine s_ p_lo ?_
  refine s_ p_ne ?_
  refine s_ p_as ?_
  (repeat (first | apply cn | apply cq | apply cb | apply ck | apply cl | apply cx))
  refine ci ?_ ?_
  · intro hr
    (repeat (first | apply cn | apply cq | apply cb | apply ck | apply cl | apply cx))
    apply cr
    refine s_ p_mv ?_
    refine s_ p_nc ?_
    refine s_ p_fr ?_
    refine s_ p_loa ?_
    refine from_lend1 (G := (b, _) :: (Hl ++ (Ho ++ []))) (H1 := [_]) 20 (nd n) (Lends.agg (node_lends n (h1.lend (by intro p hp; simp [hp])))) ?_ (.refl _)
    refine e_st ?_
    refine s_ p_as ?_
    refine s_ p_as ?_
    (repeat (first | apply cn | apply cq | apply cb | apply ck | apply cl | apply cx))
    (repeat (first | apply cn | apply cq | apply cb | apply ck | apply cl | apply cx))
    (apply sim_ret; (try simp only [blockΨ_ret, thenΨ_ret, loopL_ret, cutΨ_ret, cutE_ret]); first | refine rt ?_ | refine rn ?_)
    rw [propF, if_pos hr]
    exact Le.refl _
  intro hr
  (repeat (first | apply cn | apply cq | apply cb | apply ck | apply cl | apply cx))
  apply cr
  refine s_ p_mv ?_
  refine s_ p_eqS ?_
  refine s_ p_as ?_
  (repeat (first | apply cn | apply cq | apply cb | apply ck | apply cl | apply cx))
  refine ci ?_ ?_
  · intro hc
    (repeat (first | apply cn | apply cq | apply cb | apply ck | apply cl | apply cx))
    apply cr
    refine s_ p_mv ?_
    refine s_ p_nc ?_
    refine s_ p_fr ?_
    refine s_ p_loa ?_
    refine from_lend1 (G := (b, _) :: (Hl ++ (Ho ++ []))) (H1 := [_]) 27 (nd n) (Lends.agg (node_lends n (h1.lend (by intro p hp; simp [hp])))) ?_ (.refl _)
    refine e_st ?_
    refine s_ p_as ?_
    refine s_ p_as ?_
    (repeat (first | apply cn | apply cq | apply cb | apply ck | apply cl | apply cx))
    (repeat (first | apply cn | apply cq | apply cb | apply ck | apply cl | apply cx))
    (apply sim_ret; (try simp only [blockΨ_ret, thenΨ_ret, loopL_ret, cutΨ_ret, cutE_ret]); first | refine rt ?_ | refine rn ?_)
    rw [propF, if_neg hr, if_pos hc]
    exact Le.refl _
  intro hc
  (repeat (first | apply cn | apply cq | apply cb | apply ck | apply cl | apply cx))
  apply cr
  refine s_ p_mv ?_
  refine s_ p_mv ?_
  refine s_ (p_bd 3 [_, _, _]) ?_
  refine e_cH (FnH.of_le ?_ (put_fn ⟨0, 0, cmd⟩ hn hl (by simp) (by simp) hw')) (.refl _) (fun r H' ⟨hr1, hr2⟩ => ?_)
  · ((repeat (apply LeL.cons; (first | exact Le.refl _ | exact Le.nil _ | exact Le.full _ _ | exact Le.any _ | (apply Le.agg; (repeat (apply LeL.cons; (first | exact Le.refl _ | exact Le.nil _ | exact Le.full _ _ | exact Le.any _))); exact LeL.nil) | (apply Le.tup; (repeat (apply LeL.cons; (first | exact Le.refl _ | exact Le.nil _ | exact Le.full _ _ | exact Le.any _ | (apply Le.agg; (repeat (apply LeL.cons; (first | exact Le.refl _ | exact Le.nil _ | exact Le.full _ _ | exact Le.any _))); exact LeL.nil)))); exact LeL.nil)))); exact LeL.nil)
  subst hr1 hr2
  refine s_ p_ex ?_
  refine s_ p_ex ?_
  refine s_ p_ex ?_
  refine e_st ?_
  refine s_ p_as ?_
  refine s_ p_as ?_
  (repeat (first | apply cn | apply cq | apply cb | apply ck | apply cl | apply cx))
  (apply sim_ret; (try simp only [blockΨ_ret, thenΨ_ret, loopL_ret, cutΨ_ret, cutE_ret]); first | refine rt ?_ | refine rn ?_)
  rw [propF, if_neg hr, if_neg hc]
  exact Le.refl _
def xorI (a b : Int) : Int := (a.toNat ^^^ b.toNat : Nat)
theorem xor_eq {x y : Int} (h0 : 0 ≤ x) (h1 : x ≤ 31) (h2 : 0 ≤ y) (h3 : y ≤ 31) : IntKind.u64.wrap (bXor .i64 x y) = xorI x y ∧ 0 ≤ xorI x y ∧ xorI x y ≤ 31 := by
  have key : ∀ i : Fin 32, ∀ j : Fin 32, IntKind.u64.wrap (bXor .i64 i.val j.val) = xorI i.val j.val ∧ 0 ≤ xorI i.val j.val ∧ xorI i.val j.val ≤ 31 := by decide +kernel
  obtain ⟨i, rfl⟩ := fin32 h0 h1
  obtain ⟨j, rfl⟩ := fin32 h2 h3
  exact key i j
def changeF (n : Nd) (conf : Int) : Nd × Int × Int := if ¬ n.role = 2 then (n, 0, 21) else if (conf < 1 ∨ 31 < conf) ∨ ¬ ones (xorI conf (confF n).2) = 1 then (n, 0, 1) else
  if n.commit < (confF n).1 ∨ ¬ termF n n.commit = n.term then (n, 0, 23) else (putF n ⟨0, conf, []⟩, n.base + (n.log.length + 1), 0)
end Go.Proofs.Ytbdpfclnomiicaa
