/-
  replica: votes, asked for and given.
-/
import Derived.Test.YtbdpfclnomiicaaGreatStand
set_option maxRecDepth 4000
namespace Go.Proofs.YtbdpfclnomiicaaGreat
open Go.Cap
set_option linter.unusedSimpArgs false
set_option linter.unusedVariables false
attribute [local irreducible] POp SimFrom DrawFrom EOp Sim FnH T.gp
theorem Bd.of {n n' : Nd} (h : Bd n) (h1 : n'.id = n.id := by rfl) (h2 : n'.log = n.log := by rfl) (h3 : n'.base = n.base := by rfl) (h4 : n'.baseConf = n.baseConf := by rfl) : Bd n' := by
  have hc : confF n' = confF n := by simp only [confF, h2, h3, h4]
  exact ⟨h1 ▸ h.id0, h1 ▸ h.id5, h2 ▸ h.log, h3 ▸ h.base0, h3 ▸ h.base1, hc ▸ h.conf0, hc ▸ h.conf1⟩
theorem ms_dec (m : Ms) : ms m = .agg [ei m.kind, ei m.frm, ei m.to, ei m.term, ei m.index, ei m.logTerm, ei m.commit, ei m.conf, .v (.bool (decide (m.yes = true))), eens m.entries, es m.snap] := by
  simp [ms, msC, eB]
def votedM (yes : Bool) : Ms := ⟨2, 0, 0, 0, 0, 0, 0, 0, yes, [], []⟩
def yesF (n : Nd) (m : Ms) : Bool := decide ((m.term = n.term ∧ (n.vote = -1 ∨ n.vote = m.frm)) ∧ (termF n (lastF n) < m.logTerm ∨ m.logTerm = termF n (lastF n) ∧ lastF n ≤ m.index))
def voteF (n : Nd) (m : Ms) : Nd := if yesF n m then { n with vote := m.frm, wait := 0 } else n
set_option maxHeartbeats 2000000 in
theorem vote_fn {b : Nat} {n : Nd} {out : List Ms} {H : Heap} (m : Ms) (hn : Bd n) (ho : out.length ≤ 900) (hw : WkH b n out H) :
    FnH Tryz.prog 55 [pW b, ms m] H (fun r H' => r = .tup [] ∧ WkH b (voteF n m) (out ++ [sendF (voteF n m) m.frm (votedM (yesF n m))]) H') := by
  have hb0 := hn.base0
  have hb1 := hn.base1
  have hlog := hn.log
  have hL := last_fn n (by omega) (by omega) (by omega)
  refine fn_enter Tryz.func55 (by rfl) (by rfl) ?_
  intro S0 w0
  show Sim _ _ [(0, pW b), (1, T.agg (msC m (eens m.entries)))] _ _
  obtain ⟨vl, vo, Hl, Ho, h1, h2, rfl⟩ := hw
  obtain ⟨p, c, rfl⟩ := h1.len
  obtain ⟨q, d, rfl⟩ := h2.len
  (repeat (first | apply cn | apply cq | apply cb | apply ck | apply cl | apply cx))
  apply cr
  refine e_bx fun b3 _ => ?_
  (repeat (first | apply cn | apply cq | apply cb | apply ck | apply cl | apply cx))
  refine lend1 3 (by simp [msC]) ?_
  (repeat (first | apply cn | apply cq | apply cb | apply ck | apply cl | apply cx))
  apply cr
  refine s_ p_mv ?_
  refine s_ p_nc ?_
  refine s_ p_fr ?_
  refine s_ p_loa ?_
  refine s_ (p_cLA hL (LendsL.cons (Lends.agg (node_lends _ (h1.lend (by intro p hp; simp [hp])))) LendsL.nil)) ?_
  refine s_ p_mv ?_
  refine s_ p_ex ?_
  refine s_ p_ex ?_
  refine s_ p_as ?_
  refine s_ p_as ?_
  (repeat (first | apply cn | apply cq | apply cb | apply ck | apply cl | apply cx))
  refine ca [0, 1, 2, 3, 4, 5, 6, 7, 8, 9, 10, 11, 12, 13, 14, 15, 16, 17, 18, 19, 20, 21, 22, 23, 24, 25, 26, 27, 28, 29, 30, 31, 32, 33, 34, 35, 36, 37, 38, 39, 40, 41, 42, 43, 44] [] ?_
  refine a_ (fun _ => p_fa) ?_
  refine a_ (fun _ => p_ld) ?_
  refine a_ (fun _ => p_mv) ?_
  refine a_ (fun _ => p_nc) ?_
  refine a_ (fun _ => p_fr) ?_
  refine a_ (fun _ => p_fr) ?_
  refine a_lo ?_
  refine a_ (fun _ => p_eq) ?_
  refine a_ (fun _ => p_mv) ?_
  refine ag_T (fun _ hg => p_mv) ?_
  refine ag_T (fun _ hg => p_nc (hx := u_ hg)) ?_
  refine ag_T (fun _ hg => p_fr (hx := u_ hg)) ?_
  refine ag_T (fun _ hg => p_fr (hx := u_ hg)) ?_
  refine ag_loT ?_
  refine ag_T (fun _ hg => p_eq (hx := u_ hg)) ?_
  refine ag_T (fun _ hg => p_mv (hx := u_ hg)) ?_
  refine ah_F (fun _ hg => p_mv) ?_
  refine ah_F (fun _ hg => p_nc (hx := u_ hg)) ?_
  refine ah_F (fun _ hg => p_fr (hx := u_ hg)) ?_
  refine ah_F (fun _ hg => p_fr (hx := u_ hg)) ?_
  refine ah_loF ?_
  refine ah_F (fun _ hg => p_fa) ?_
  refine ah_F (fun _ hg => p_ld (hx := u_ hg)) ?_
  refine ah_F (fun _ hg => p_eq (hx := u_ hg) (hy := u_ hg)) ?_
  refine ag_T (fun _ hg => p_orN hg) ?_
  refine a_ (fun _ => p_an) ?_
  refine a_ (fun _ => p_mv) ?_
  refine ag_T (fun _ hg => p_fa) ?_
  refine ag_T (fun _ hg => p_ld (hx := u_ hg)) ?_
  refine ag_T (fun _ hg => p_mv) ?_
  refine ag_T (fun _ hg => p_gt (hx := u_ hg) (hy := u_ hg)) ?_
  refine ag_T (fun _ hg => p_mv (hx := u_ hg)) ?_
  refine ah_F (fun _ hg => p_fa) ?_
  refine ah_F (fun _ hg => p_ld (hx := u_ hg)) ?_
  refine ah_F (fun _ hg => p_mv) ?_
  refine ah_F (fun _ hg => p_eq (hx := u_ hg) (hy := u_ hg)) ?_
  refine ah_F (fun _ hg => p_mv (hx := u_ hg)) ?_
  refine ah_T (fun _ hg => p_fa) ?_
  refine ah_T (fun _ hg => p_ld (hx := u_ hg)) ?_
  refine ah_T (fun _ hg => p_mv) ?_
  refine ah_T (fun _ hg => p_ge (hx := u_ hg) (hy := u_ hg)) ?_
  refine ah_F (fun _ hg => p_anN hg) ?_
  refine ag_T (fun _ hg => p_orN hg) ?_
  refine a_ (fun _ => p_an) ?_
  refine a_ (fun _ => p_as) ?_
  apply an
  (repeat (first | apply cn | apply cq | apply cb | apply ck | apply cl | apply cx))
  apply cr
  refine s_ p_mv ?_
  (repeat (first | apply cn | apply cq | apply cb | apply ck | apply cl | apply cx))
  refine ci ?_ ?_
  · intro hc
    have hy : yesF n m = true := decide_eq_true hc
    have hv : voteF n m = { n with vote := m.frm, wait := 0 } := by rw [voteF, if_pos hy]
    (repeat (first | apply cn | apply cq | apply cb | apply ck | apply cl | apply cx))
    apply cr
    refine s_ p_mv ?_
    refine s_ p_mv ?_
    refine s_ p_fa ?_
    refine s_ p_ld ?_
    refine s_ p_nc ?_
    refine s_ p_fr ?_
    refine s_ p_fr ?_
    refine e_st ?_
    refine s_ p_nc ?_
    refine s_ p_fr ?_
    refine s_ p_fr ?_
    refine e_st ?_
    (repeat (first | apply cn | apply cq | apply cb | apply ck | apply cl | apply cx))
    apply cr
    refine s_ p_mv ?_
    refine s_ p_fa ?_
    refine s_ p_ld ?_
    refine s_ p_mv ?_
    refine s_ (p_bd 11 [_, _, _, _, _, _, _, _, _, _, _]) ?_
    refine e_cHA (FnH.of_le ?_ (send_fn m.frm (votedM (yesF n m)) (by omega) (show WkH b { n with vote := m.frm, wait := 0 } out _ from ⟨_, _, Hl, Ho, h1, h2, rfl⟩))) (fun r H' ⟨hr, h3⟩ => ?_)
    · ((repeat (apply LeL.cons; (first | exact Le.refl _ | exact Le.nil _ | exact Le.full _ _ | exact Le.any _ | (apply Le.agg; (repeat (apply LeL.cons; (first | exact Le.refl _ | exact Le.nil _ | exact Le.full _ _ | exact Le.any _))); exact LeL.nil) | (apply Le.tup; (repeat (apply LeL.cons; (first | exact Le.refl _ | exact Le.nil _ | exact Le.full _ _ | exact Le.any _ | (apply Le.agg; (repeat (apply LeL.cons; (first | exact Le.refl _ | exact Le.nil _ | exact Le.full _ _ | exact Le.any _))); exact LeL.nil)))); exact LeL.nil)))); exact LeL.nil)
    · subst hr
      (repeat (first | apply cn | apply cq | apply cb | apply ck | apply cl | apply cx))
      rw [hv]
      exact rhn kR ⟨rfl, h3⟩ (Le.refl _)
  · intro hc
    have hy : ¬ yesF n m = true := fun h => hc (of_decide_eq_true h)
    have hv : voteF n m = n := by rw [voteF, if_neg hy]
    (repeat (first | apply cn | apply cq | apply cb | apply ck | apply cl | apply cx))
    apply cr
    refine s_ p_mv ?_
    refine s_ p_fa ?_
    refine s_ p_ld ?_
    refine s_ p_mv ?_
    refine s_ (p_bd 11 [_, _, _, _, _, _, _, _, _, _, _]) ?_
    refine e_cHA (FnH.of_le ?_ (send_fn m.frm (votedM (yesF n m)) (by omega) (show WkH b n out _ from ⟨_, _, Hl, Ho, h1, h2, rfl⟩))) (fun r H' ⟨hr, h3⟩ => ?_)
    · ((repeat (apply LeL.cons; (first | exact Le.refl _ | exact Le.nil _ | exact Le.full _ _ | exact Le.any _ | (apply Le.agg; (repeat (apply LeL.cons; (first | exact Le.refl _ | exact Le.nil _ | exact Le.full _ _ | exact Le.any _))); exact LeL.nil) | (apply Le.tup; (repeat (apply LeL.cons; (first | exact Le.refl _ | exact Le.nil _ | exact Le.full _ _ | exact Le.any _ | (apply Le.agg; (repeat (apply LeL.cons; (first | exact Le.refl _ | exact Le.nil _ | exact Le.full _ _ | exact Le.any _))); exact LeL.nil)))); exact LeL.nil)))); exact LeL.nil)
    · subst hr
      (repeat (first | apply cn | apply cq | apply cb | apply ck | apply cl | apply cx))
      rw [hv]
      exact rhn kR ⟨rfl, h3⟩ (Le.refl _)
end Go.Proofs.YtbdpfclnomiicaaGreat
