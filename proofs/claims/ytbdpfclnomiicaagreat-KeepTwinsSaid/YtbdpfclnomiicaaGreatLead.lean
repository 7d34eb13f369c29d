/-
  replica: answers of a worker.
-/
import Derived.Test.YtbdpfclnomiicaaGreatOthers
set_option maxRecDepth 4000
namespace Go.Proofs.YtbdpfclnomiicaaGreat
open Go.Cap
set_option linter.unusedSimpArgs false
set_option linter.unusedVariables false
attribute [local irreducible] POp SimFrom DrawFrom EOp Sim FnH T.gp
def addedM (yes : Bool) (index : Int) : Ms := ⟨4, 0, 0, 0, index, 0, 0, 0, yes, [], []⟩
theorem added_fn {b : Nat} {n : Nd} {out : List Ms} {H : Heap} (to : Int) (yes : Bool) (index : Int) (hb : out.length ≤ 1000) (hw : WkH b n out H) :
    FnH Tryz.prog 79 [pW b, ei to, eB yes, ei index] H (fun r H' => r = .tup [] ∧ WkH b n (out ++ [sendF n to (addedM yes index)]) H') := by
  refine fn_enter Tryz.func79 (by rfl) (by rfl) ?_
  intro S0 w0
  show Sim _ _ [(0, pW b), (1, ei to), (2, eB yes), (3, ei index)] _ _
  (repeat (first | apply cn | apply cq | apply cb | apply ck | apply cl | apply cx))
  apply cr
  refine s_ p_mv ?_
  refine s_ p_mv ?_
  refine s_ p_mv ?_
  refine s_ p_mv ?_
  refine s_ (p_bd 11 [_, _, _, _, _, _, _, _, _, _, _]) ?_
  refine e_cHA (FnH.of_le ?_ (send_fn to (addedM yes index) hb hw)) (fun r H' ⟨hr, h3⟩ => ?_)
  · ((repeat (apply LeL.cons; (first | exact Le.refl _ | exact Le.nil _ | exact Le.full _ _ | exact Le.any _ | (apply Le.agg; (repeat (apply LeL.cons; (first | exact Le.refl _ | exact Le.nil _ | exact Le.full _ _ | exact Le.any _))); exact LeL.nil) | (apply Le.tup; (repeat (apply LeL.cons; (first | exact Le.refl _ | exact Le.nil _ | exact Le.full _ _ | exact Le.any _ | (apply Le.agg; (repeat (apply LeL.cons; (first | exact Le.refl _ | exact Le.nil _ | exact Le.full _ _ | exact Le.any _))); exact LeL.nil)))); exact LeL.nil)))); exact LeL.nil)
  · subst hr
    (repeat (first | apply cn | apply cq | apply cb | apply ck | apply cl | apply cx))
    exact rhn kR ⟨rfl, h3⟩ (Le.refl _)
theorem follow_fn {b : Nat} {n : Nd} {out : List Ms} {H : Heap} (m : Ms) (hb : out.length ≤ 1000) (hw : WkH b n out H) :
    FnH Tryz.prog 78 [pW b, ms m] H (fun r H' => if m.term < n.term then r = eB false ∧ WkH b n (out ++ [sendF n m.frm (addedM false 0)]) H' else r = eB true ∧ WkH b { n with role := 0, wait := 0 } out H') := by
  have hw' := hw
  obtain ⟨vl, vo, Hl, Ho, h1, h2, rfl⟩ := hw
  obtain ⟨p, c, rfl⟩ := h1.len
  obtain ⟨q, d, rfl⟩ := h2.len
  refine fn_enter Tryz.func78 (by rfl) (by rfl) ?_
  intro S0 w0
  show Sim _ _ [(0, pW b), (1, T.agg (msC m (eens m.entries)))] _ _
  (repeat (first | apply cn | apply cq | apply cb | apply ck | apply cl | apply cx))
  apply cr
  refine e_bx fun b3 _ => ?_
  refine s_ p_as ?_
  (repeat (first | apply cn | apply cq | apply cb | apply ck | apply cl | apply cx))
  refine ca [0, 1, 2, 3, 4, 5, 6, 7] [] ?_
  refine a_ (fun _ => p_fr) ?_
  refine a_lo ?_
  refine a_ (fun _ => p_mv) ?_
  refine a_ (fun _ => p_nc) ?_
  refine a_ (fun _ => p_fr) ?_
  refine a_ (fun _ => p_fr) ?_
  refine a_lo ?_
  refine a_ (fun _ => p_lt) ?_
  apply an
  (repeat (first | apply cn | apply cq | apply cb | apply ck | apply cl | apply cx))
  refine ci ?_ ?_
  · intro hlt
    (repeat (first | apply cn | apply cq | apply cb | apply ck | apply cl | apply cx))
    apply cr
    refine s_ p_mv ?_
    refine s_ p_fr ?_
    refine s_ p_lo ?_
    refine e_cH (Hr := [_]) (added_fn m.frm false 0 hb hw') (List.perm_append_comm (l₁ := [_])) (fun r H' ⟨hr, h3⟩ => ?_)
    subst hr
    
    (repeat (first | apply cn | apply cq | apply cb | apply ck | apply cl | apply cx))
    apply cr
    refine s_ p_as ?_
    (repeat (first | apply cn | apply cq | apply cb | apply ck | apply cl | apply cx))
    (apply sim_ret; (try simp only [blockΨ_ret, thenΨ_ret, loopL_ret, cutΨ_ret, cutE_ret]))
    refine rhp (List.perm_append_comm (l₂ := [_])) (.skip _ _ _ kR) ?_ (Le.refl _)
    rw [if_pos hlt]
    exact ⟨rfl, h3⟩
  · intro hlt
    (repeat (first | apply cn | apply cq | apply cb | apply ck | apply cl | apply cx))
    apply cr
    refine s_ p_mv ?_
    refine s_ p_mv ?_
    refine s_ p_nc ?_
    refine s_ p_fr ?_
    refine s_ p_fr ?_
    refine e_st ?_
    refine s_ p_nc ?_
    refine s_ p_fr ?_
    refine s_ p_fr ?_
    refine e_st ?_
    (repeat (first | apply cn | apply cq | apply cb | apply ck | apply cl | apply cx))
    apply cr
    refine s_ p_as ?_
    (repeat (first | apply cn | apply cq | apply cb | apply ck | apply cl | apply cx))
    (apply sim_ret; (try simp only [blockΨ_ret, thenΨ_ret, loopL_ret, cutΨ_ret, cutE_ret]))
    refine rh (.skip _ _ _ kR) ?_ (Le.refl _)
    rw [if_neg hlt]
    exact ⟨rfl, _, _, Hl, Ho, h1, h2, rfl⟩
end Go.Proofs.YtbdpfclnomiicaaGreat
