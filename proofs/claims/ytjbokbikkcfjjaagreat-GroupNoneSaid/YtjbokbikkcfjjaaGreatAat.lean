/-
  replica: one stands for a term.
  replica: votes, asked for and given.
  replica: votes counted; how far others agree; an entry laid.
  replica: entries laid by one that follows.
-/
import Derived.Test.YtjbokbikkcfjjaaGreatAas
section
set_option maxRecDepth 4000
namespace Go.Proofs.YtjbokbikkcfjjaaGreat
open Go.Cap
set_option linter.unusedSimpArgs false
set_option linter.unusedVariables false
attribute [local irreducible] POp SimFrom DrawFrom EOp Sim FnH T.gp
def askM (idx term : Int) : Ms := ⟨1, 0, 0, 0, idx, term, 0, 0, false, [], []⟩
def standN (n : Nd) : Nd := { n with role := 1, vote := n.id, wait := 0, term := n.term + 1, votes := 2 ^ n.id.toNat }
def standF (n : Nd) : Nd × List Ms := if mostF (confF n).2 (2 ^ n.id.toNat) then (leadF (standN n), toAll (leadF (standN n)) (oweF (leadF (standN n))) 5)
  else (standN n, toAll (standN n) (fun to => sendF (standN n) to (askM (lastF n) (termF n (lastF n)))) 5)
theorem ask_fn {b b1 b2 b3 : Nat} {n : Nd} {out : List Ms} {H : Heap} (to idx term : Int) (hb : out.length ≤ 1000) (hw : WkH b n out H) :
    FnH Tryz.prog 148 ([] ++ [ei to] ++ [pW b1, pW b2, pW b3]) (H ++ [(b3, ⟨3, [ei term], 1⟩), (b2, ⟨3, [ei idx], 1⟩), (b1, ⟨164, [pW b], 1⟩)])
      (fun _ H' => ∃ H1, H' = H1 ++ [(b3, ⟨3, [ei term], 1⟩), (b2, ⟨3, [ei idx], 1⟩), (b1, ⟨164, [pW b], 1⟩)] ∧ WkH b n (out ++ [sendF n to (askM idx term)]) H1) := by
  refine fn_enter Tryz.func148 (by rfl) (by rfl) ?_
  intro S0 w0
  show Sim _ _ [(0, ei to), (1, pW b1), (2, pW b2), (3, pW b3)] _ _
  refine zC ?_
  apply cr
  refine s_ p_lo ?_
  refine s_ p_mv ?_
  refine s_ p_lo ?_
  refine s_ p_lo ?_
  refine s_ (p_bd 11 [_, _, _, _, _, _, _, _, _, _, _]) ?_
  refine e_cH (FnH.of_le ?_ (send_fn to (askM idx term) hb hw)) (.refl _) (fun r H' ⟨hr, h3⟩ => ?_)
  · ((repeat (apply LeL.cons; (first | exact Le.refl _ | exact Le.nil _ | exact Le.full _ _ | exact Le.any _ | (apply Le.agg; (repeat (apply LeL.cons; (first | exact Le.refl _ | exact Le.nil _ | exact Le.full _ _ | exact Le.any _))); exact LeL.nil) | (apply Le.tup; (repeat (apply LeL.cons; (first | exact Le.refl _ | exact Le.nil _ | exact Le.full _ _ | exact Le.any _ | (apply Le.agg; (repeat (apply LeL.cons; (first | exact Le.refl _ | exact Le.nil _ | exact Le.full _ _ | exact Le.any _))); exact LeL.nil)))); exact LeL.nil)))); exact LeL.nil)
  · subst hr
    refine zC ?_
    exact rhn kR ⟨_, rfl, h3⟩ (Le.refl _)
theorem Bd.stand {n : Nd} (h : Bd n) : Bd (standN n) := ⟨h.id0, h.id5, h.log, h.base0, h.base1, h.conf0, h.conf1⟩
set_option maxHeartbeats 2000000 in
theorem stand_fn {b : Nat} {n : Nd} {out : List Ms} {H : Heap} (hn : Bd n) (hl : n.log.length < 100000000) (ht0 : 0 ≤ n.term) (ht1 : n.term ≤ 1000000000000) (ho : out.length ≤ 900) (hw : WkH b n out H) :
    FnH Tryz.prog 108 [pW b] H (fun r H' => r = .tup [] ∧ WkH b (standF n).1 (out ++ (standF n).2) H') := by
  have hb0 := hn.base0
  have hb1 := hn.base1
  have hi0 := hn.id0
  have hi5 := hn.id5
  have hC := Conf_fn (standN n) (by show n.log.length ≤ _; omega) (by show _ ≤ n.base; omega) (by show n.base ≤ _; omega)
  have hL := last_fn (standN n) (by show n.log.length ≤ _; omega) (by show _ ≤ n.base; omega) (by show n.base ≤ _; omega)
  have hsh : bShl .i64 1 (IntKind.u64.wrap n.id) = 2 ^ n.id.toNat ∧ 0 ≤ (2 : Int) ^ n.id.toNat ∧ (2 : Int) ^ n.id.toNat ≤ 31 := by
    rcases five hi0 hi5 with h | h | h | h | h <;> rw [h] <;> decide
  have hwi : IntKind.u64.wrap n.id = n.id := wrap32 hi0 (by omega)
  have hM := most_fn (confF n).2 (2 ^ n.id.toNat) hsh.2.1 hsh.2.2 hn.conf0 hn.conf1
  refine fn_enter Tryz.func108 (by rfl) (by rfl) ?_
  intro S0 w0
  show Sim _ _ [(0, pW b)] _ _
  obtain ⟨vl, vo, Hl, Ho, h1, h2, rfl⟩ := hw
  obtain ⟨p, c, rfl⟩ := h1.len
  obtain ⟨q, d, rfl⟩ := h2.len
  refine zC ?_
  apply cr
  refine e_b1 fun b1 _ => ?_
  refine zC ?_
  refine ca [0, 1, 2, 3, 4, 5, 6, 7, 8, 9, 10, 11, 12, 13, 14, 15, 16, 17, 18, 19] [11, 15, 19] ?_
  refine a_lo ?_
  refine a_lo ?_
  refine a_lo ?_
  refine a_lo ?_
  refine a_ (fun _ => p_nc) ?_
  refine a_ (fun _ => p_fr) ?_
  refine a_ (fun _ => p_fr) ?_
  refine a_lo ?_
  refine a_ (fun _ => p_nc) ?_
  refine a_ (fun _ => p_fr) ?_
  refine a_ (fun _ => p_fr) ?_
  refine a_st ?_
  refine a_ (fun _ => p_nc) ?_
  refine a_ (fun _ => p_fr) ?_
  refine a_ (fun _ => p_fr) ?_
  refine a_st ?_
  refine a_ (fun _ => p_nc) ?_
  refine a_ (fun _ => p_fr) ?_
  refine a_ (fun _ => p_fr) ?_
  refine a_st ?_
  apply an
  refine zC ?_
  apply cr
  refine s_ p_lo ?_
  refine s_ p_nc ?_
  refine s_ p_fr ?_
  refine s_ p_fr ?_
  refine s_ p_lo ?_
  refine s_ p_ad ?_
  refine s_ p_nc ?_
  refine s_ p_fr ?_
  refine s_ p_fr ?_
  refine e_st ?_
  refine zC ?_
  refine ca [0, 1, 2, 3, 4, 5, 6, 7, 8, 9, 10, 11] [11] ?_
  refine a_lo ?_
  refine a_lo ?_
  refine a_ (fun _ => p_nc) ?_
  refine a_ (fun _ => p_fr) ?_
  refine a_ (fun _ => p_fr) ?_
  refine a_lo ?_
  refine a_ (fun _ => p_cv) ?_
  refine a_ (fun _ => p_shl) ?_
  refine a_ (fun _ => p_nc) ?_
  refine a_ (fun _ => p_fr) ?_
  refine a_ (fun _ => p_fr) ?_
  refine a_st ?_
  apply an
  refine zC ?_
  rw [hsh.1]
  refine zC ?_
  refine ca [0, 1, 2, 3, 4, 5, 6, 7, 8, 9, 10] [] ?_
  refine a_lo ?_
  refine a_ (fun _ => p_nc) ?_
  refine a_ (fun _ => p_fr) ?_
  refine a_loa ?_
  refine a_cL (G := (b, _) :: (Hl ++ (Ho ++ []))) hC (LendsL.cons (Lends.agg (node_lends _ (h1.lend (by intro p hp; simp [hp])))) LendsL.nil) ⟨[_], List.perm_append_comm (l₁ := [_])⟩ ?_
  refine a_lo ?_
  refine a_ (fun _ => p_nc) ?_
  refine a_ (fun _ => p_fr) ?_
  refine a_ (fun _ => p_fr) ?_
  refine a_lo ?_
  refine a_ (fun _ => p_ca (hM)) ?_
  apply an
  refine zC ?_
  have hw : WkH b (standN n) out ((b, ⟨tW, wkC (standN n) (.slice p (n.log.map een).length c) (.slice q (out.map ms).length d), 23⟩) :: (Hl ++ (Ho ++ []))) := ⟨_, _, Hl, Ho, h1, h2, rfl⟩
  refine ci ?_ ?_
  · intro hc
    refine zC ?_
    apply cr
    refine s_ p_lo ?_
    refine e_cH (Hr := [_]) (lead_fn hn.stand hl ho hw) (List.perm_append_comm (l₁ := [_])) (fun r H' ⟨hr, h3⟩ => ?_)
    subst hr
    refine zC ?_
    refine zR ?_
    refine rhp (List.perm_append_comm (l₂ := [_])) (.skip _ _ _ kR) ⟨rfl, ?_⟩ (Le.refl _)
    have hm : mostF (confF n).2 (2 ^ n.id.toNat) = true := decide_eq_true hc
    rw [standF, if_pos hm]
    exact h3
  · intro hc
    refine zC ?_
    apply cr
    refine s_ p_lo ?_
    refine s_ p_nc ?_
    refine s_ p_fr ?_
    refine s_ p_loa ?_
    refine s_ (p_cL (G := (b, _) :: (Hl ++ (Ho ++ []))) hL (LendsL.cons (Lends.agg (node_lends _ (h1.lend (by intro p hp; simp [hp])))) LendsL.nil) ⟨[_], List.perm_append_comm (l₁ := [_])⟩) ?_
    refine s_ p_mv ?_
    refine s_ p_ex ?_
    refine s_ p_ex ?_
    refine e_al fun b2 _ => ?_
    refine e_al fun b3 _ => ?_
    refine e_st ?_
    refine e_st ?_
    refine zC ?_
    apply cr
    refine s_ p_lo ?_
    refine s_ p_mf ?_
    have hO := others_fn (fun to => sendF (standN n) to (askM (lastF (standN n)) (termF (standN n) (lastF (standN n))))) 148 [] [pW b1, pW b2, pW b3] (by rfl) hn.stand ho hw (fun to out' H2 h0 h5 ho2 hw2 => ask_fn (b1 := b1) (b2 := b2) (b3 := b3) to _ _ (by omega) hw2)
    refine e_cH (Hr := []) hO ?_ (fun r H' hh => ?_)
    · exact List.Perm.trans (l₂ := (_ :: _) ++ (_ :: _ :: _ :: [])) (List.perm_append_comm (l₁ := _ :: _ :: _ :: [])) (List.Perm.of_eq (List.append_nil _).symm)
    obtain ⟨hr, H1, e, h3⟩ := hh
    subst hr
    subst e
    refine zC ?_
    rw [List.append_nil]
    refine rhn (kH (r' := []) kN) ⟨rfl, ?_⟩ (Le.refl _)
    have hm : ¬ mostF (confF n).2 (2 ^ n.id.toNat) = true := fun h => hc (of_decide_eq_true h)
    rw [standF, if_neg hm, List.append_nil]
    exact h3
end Go.Proofs.YtjbokbikkcfjjaaGreat
end
section
set_option maxRecDepth 4000
namespace Go.Proofs.YtjbokbikkcfjjaaGreat
open Go.Cap
set_option linter.unusedSimpArgs false
set_option linter.unusedVariables false
attribute [local irreducible] POp SimFrom DrawFrom EOp Sim FnH T.gp
theorem Bd.of {n n' : Nd} (h : Bd n) (h1 : n'.id = n.id := by rfl) (h2 : n'.log = n.log := by rfl) (h3 : n'.base = n.base := by rfl) (h4 : n'.baseConf = n.baseConf := by rfl) : Bd n' := by
  have hc : confF n' = confF n := by simp only [confF, h2, h3, h4]
  exact ⟨h1 ▸ h.id0, h1 ▸ h.id5, h2 ▸ h.log, h3 ▸ h.base0, h3 ▸ h.base1, hc ▸ h.conf0, hc ▸ h.conf1⟩
theorem ms_dec (m : Ms) : ms m = .agg [ei m.kind, ei m.frm, ei m.to, ei m.term, ei m.index, ei m.logTerm, ei m.commit, ei m.conf, .v (.bool (decide (m.yes = true))), eens m.entries, es m.snap] := by
  simp [ms, msC, eB]
def votedM (yes : Bool) : Ms := ⟨2, 0, 0, 0, 0, 0, 0, 0, yes, [], []⟩
def yesF (n : Nd) (m : Ms) : Bool := decide ((m.term = n.term ∧ (n.vote = -1 ∨ n.vote = m.frm)) ∧ (termF n (lastF n) < m.logTerm ∨ m.logTerm = termF n (lastF n) ∧ lastF n ≤ m.index))
def voteF (n : Nd) (m : Ms) : Nd := if yesF n m then { n with vote := m.frm, wait := 0 } else n
set_option maxHeartbeats 2000000 in
theorem vote_fn {b : Nat} {n : Nd} {out : List Ms} {H : Heap} (m : Ms) (hn : Bd n) (ho : out.length ≤ 900) (hw : WkH b n out H) :
    FnH Tryz.prog 133 [pW b, ms m] H (fun r H' => r = .tup [] ∧ WkH b (voteF n m) (out ++ [sendF (voteF n m) m.frm (votedM (yesF n m))]) H') := by
  have hb0 := hn.base0
  have hb1 := hn.base1
  have hlog := hn.log
  have hL := last_fn n (by omega) (by omega) (by omega)
  refine fn_enter Tryz.func133 (by rfl) (by rfl) ?_
  intro S0 w0
  show Sim _ _ [(0, pW b), (1, T.agg (msC m (eens m.entries)))] _ _
  obtain ⟨vl, vo, Hl, Ho, h1, h2, rfl⟩ := hw
  obtain ⟨p, c, rfl⟩ := h1.len
  obtain ⟨q, d, rfl⟩ := h2.len
  refine zC ?_
  apply cr
  refine e_bx fun b3 _ => ?_
  refine zC ?_
  refine lend1 3 (by simp [msC]) ?_
  refine zC ?_
  apply cr
  refine s_ p_mv ?_
  refine s_ p_nc ?_
  refine s_ p_fr ?_
  refine s_ p_loa ?_
  refine s_ (p_cLA hL (LendsL.cons (Lends.agg (node_lends _ (h1.lend (by intro p hp; simp [hp])))) LendsL.nil)) ?_
  refine s_ p_mv ?_
  refine s_ p_ex ?_
  refine s_ p_ex ?_
  refine s_ p_as ?_
  refine s_ p_as ?_
  refine zC ?_
  refine ca [0, 1, 2, 3, 4, 5, 6, 7, 8, 9, 10, 11, 12, 13, 14, 15, 16, 17, 18, 19, 20, 21, 22, 23, 24, 25, 26, 27, 28, 29, 30, 31, 32, 33, 34, 35, 36, 37, 38, 39, 40, 41, 42, 43, 44] [] ?_
  refine a_ (fun _ => p_fa) ?_
  refine a_ (fun _ => p_ld) ?_
  refine a_ (fun _ => p_mv) ?_
  refine a_ (fun _ => p_nc) ?_
  refine a_ (fun _ => p_fr) ?_
  refine a_ (fun _ => p_fr) ?_
  refine a_lo ?_
  refine a_ (fun _ => p_eq) ?_
  refine a_ (fun _ => p_mv) ?_
  refine ag_T (fun _ hg => p_mv) ?_
  refine ag_T (fun _ hg => p_nc (hx := u_ hg)) ?_
  refine ag_T (fun _ hg => p_fr (hx := u_ hg)) ?_
  refine ag_T (fun _ hg => p_fr (hx := u_ hg)) ?_
  refine ag_loT ?_
  refine ag_T (fun _ hg => p_eq (hx := u_ hg)) ?_
  refine ag_T (fun _ hg => p_mv (hx := u_ hg)) ?_
  refine ah_F (fun _ hg => p_mv) ?_
  refine ah_F (fun _ hg => p_nc (hx := u_ hg)) ?_
  refine ah_F (fun _ hg => p_fr (hx := u_ hg)) ?_
  refine ah_F (fun _ hg => p_fr (hx := u_ hg)) ?_
  refine ah_loF ?_
  refine ah_F (fun _ hg => p_fa) ?_
  refine ah_F (fun _ hg => p_ld (hx := u_ hg)) ?_
  refine ah_F (fun _ hg => p_eq (hx := u_ hg) (hy := u_ hg)) ?_
  refine ag_T (fun _ hg => p_orN hg) ?_
  refine a_ (fun _ => p_an) ?_
  refine a_ (fun _ => p_mv) ?_
  refine ag_T (fun _ hg => p_fa) ?_
  refine ag_T (fun _ hg => p_ld (hx := u_ hg)) ?_
  refine ag_T (fun _ hg => p_mv) ?_
  refine ag_T (fun _ hg => p_gt (hx := u_ hg) (hy := u_ hg)) ?_
  refine ag_T (fun _ hg => p_mv (hx := u_ hg)) ?_
  refine ah_F (fun _ hg => p_fa) ?_
  refine ah_F (fun _ hg => p_ld (hx := u_ hg)) ?_
  refine ah_F (fun _ hg => p_mv) ?_
  refine ah_F (fun _ hg => p_eq (hx := u_ hg) (hy := u_ hg)) ?_
  refine ah_F (fun _ hg => p_mv (hx := u_ hg)) ?_
  refine ah_T (fun _ hg => p_fa) ?_
  refine ah_T (fun _ hg => p_ld (hx := u_ hg)) ?_
  refine ah_T (fun _ hg => p_mv) ?_
  refine ah_T (fun _ hg => p_ge (hx := u_ hg) (hy := u_ hg)) ?_
  refine ah_F (fun _ hg => p_anN hg) ?_
  refine ag_T (fun _ hg => p_orN hg) ?_
  refine a_ (fun _ => p_an) ?_
  refine a_ (fun _ => p_as) ?_
  apply an
  refine zC ?_
  apply cr
  refine s_ p_mv ?_
  refine zC ?_
  refine ci ?_ ?_
  · intro hc
    have hy : yesF n m = true := decide_eq_true hc
    have hv : voteF n m = { n with vote := m.frm, wait := 0 } := by rw [voteF, if_pos hy]
    refine zC ?_
    apply cr
    refine s_ p_mv ?_
    refine s_ p_mv ?_
    refine s_ p_fa ?_
    refine s_ p_ld ?_
    refine s_ p_nc ?_
    refine s_ p_fr ?_
    refine s_ p_fr ?_
    refine e_st ?_
    refine s_ p_nc ?_
    refine s_ p_fr ?_
    refine s_ p_fr ?_
    refine e_st ?_
    refine zC ?_
    apply cr
    refine s_ p_mv ?_
    refine s_ p_fa ?_
    refine s_ p_ld ?_
    refine s_ p_mv ?_
    refine s_ (p_bd 11 [_, _, _, _, _, _, _, _, _, _, _]) ?_
    refine e_cHA (FnH.of_le ?_ (send_fn m.frm (votedM (yesF n m)) (by omega) (show WkH b { n with vote := m.frm, wait := 0 } out _ from ⟨_, _, Hl, Ho, h1, h2, rfl⟩))) (fun r H' ⟨hr, h3⟩ => ?_)
    · ((repeat (apply LeL.cons; (first | exact Le.refl _ | exact Le.nil _ | exact Le.full _ _ | exact Le.any _ | (apply Le.agg; (repeat (apply LeL.cons; (first | exact Le.refl _ | exact Le.nil _ | exact Le.full _ _ | exact Le.any _))); exact LeL.nil) | (apply Le.tup; (repeat (apply LeL.cons; (first | exact Le.refl _ | exact Le.nil _ | exact Le.full _ _ | exact Le.any _ | (apply Le.agg; (repeat (apply LeL.cons; (first | exact Le.refl _ | exact Le.nil _ | exact Le.full _ _ | exact Le.any _))); exact LeL.nil)))); exact LeL.nil)))); exact LeL.nil)
    · subst hr
      refine zC ?_
      rw [hv]
      exact rhn kR ⟨rfl, h3⟩ (Le.refl _)
  · intro hc
    have hy : ¬ yesF n m = true := fun h => hc (of_decide_eq_true h)
    have hv : voteF n m = n := by rw [voteF, if_neg hy]
    refine zC ?_
    apply cr
    refine s_ p_mv ?_
    refine s_ p_fa ?_
    refine s_ p_ld ?_
    refine s_ p_mv ?_
    refine s_ (p_bd 11 [_, _, _, _, _, _, _, _, _, _, _]) ?_
    refine e_cHA (FnH.of_le ?_ (send_fn m.frm (votedM (yesF n m)) (by omega) (show WkH b n out _ from ⟨_, _, Hl, Ho, h1, h2, rfl⟩))) (fun r H' ⟨hr, h3⟩ => ?_)
    · ((repeat (apply LeL.cons; (first | exact Le.refl _ | exact Le.nil _ | exact Le.full _ _ | exact Le.any _ | (apply Le.agg; (repeat (apply LeL.cons; (first | exact Le.refl _ | exact Le.nil _ | exact Le.full _ _ | exact Le.any _))); exact LeL.nil) | (apply Le.tup; (repeat (apply LeL.cons; (first | exact Le.refl _ | exact Le.nil _ | exact Le.full _ _ | exact Le.any _ | (apply Le.agg; (repeat (apply LeL.cons; (first | exact Le.refl _ | exact Le.nil _ | exact Le.full _ _ | exact Le.any _))); exact LeL.nil)))); exact LeL.nil)))); exact LeL.nil)
    · subst hr
      refine zC ?_
      rw [hv]
      exact rhn kR ⟨rfl, h3⟩ (Le.refl _)
end Go.Proofs.YtjbokbikkcfjjaaGreat
end
section
set_option maxRecDepth 4000
namespace Go.Proofs.YtjbokbikkcfjjaaGreat
open Go.Cap
set_option linter.unusedSimpArgs false
set_option linter.unusedVariables false
attribute [local irreducible] POp SimFrom DrawFrom EOp Sim FnH T.gp
def orI (a b : Int) : Int := (a.toNat ||| b.toNat : Nat)
theorem or_eq {x y : Int} (h0 : 0 ≤ x) (h1 : x ≤ 31) (h2 : 0 ≤ y) (h3 : y < 5) : bOr .i64 x (bShl .i64 1 (IntKind.u64.wrap y)) = orI x (2 ^ y.toNat) ∧ 0 ≤ orI x (2 ^ y.toNat) ∧ orI x (2 ^ y.toNat) ≤ 31 := by
  have key : ∀ i : Fin 32, ∀ j : Fin 5, bOr .i64 i.val (bShl .i64 1 (IntKind.u64.wrap (j.val : Nat))) = orI i.val (2 ^ j.val) ∧ 0 ≤ orI i.val (2 ^ j.val) ∧ orI i.val (2 ^ j.val) ≤ 31 := by decide
  obtain ⟨i, rfl⟩ := fin32 h0 h1
  obtain ⟨j, rfl⟩ : ∃ j : Nat, y = (j : Int) := ⟨y.toNat, by omega⟩
  exact key i ⟨j, by omega⟩
def countN (n : Nd) (m : Ms) : Nd := { n with votes := orI n.votes (2 ^ m.frm.toNat) }
def votedF (n : Nd) (m : Ms) : Nd × List Ms := if (¬ m.term = n.term ∨ ¬ n.role = 1) ∨ ¬ m.yes = true then (n, []) else
  if mostF (confF n).2 (orI n.votes (2 ^ m.frm.toNat)) then (leadF (countN n m), toAll (leadF (countN n m)) (oweF (leadF (countN n m))) 5) else (countN n m, [])
set_option maxHeartbeats 2000000 in
theorem voted_fn {b : Nat} {n : Nd} {out : List Ms} {H : Heap} (m : Ms) (hn : Bd n) (hl : n.log.length < 100000000) (hv0 : 0 ≤ n.votes) (hv1 : n.votes ≤ 31) (hf0 : 0 ≤ m.frm) (hf5 : m.frm < 5) (ho : out.length ≤ 900) (hw : WkH b n out H) :
    FnH Tryz.prog 134 [pW b, ms m] H (fun r H' => r = .tup [] ∧ WkH b (votedF n m).1 (out ++ (votedF n m).2) H') := by
  have hb0 := hn.base0
  have hb1 := hn.base1
  have hlog := hn.log
  have hor := or_eq hv0 hv1 hf0 hf5
  have hwf : IntKind.u64.wrap m.frm = m.frm := wrap32 hf0 (by omega)
  have hC := Conf_fn (countN n m) (by show n.log.length ≤ _; omega) (by show _ ≤ n.base; omega) (by show n.base ≤ _; omega)
  have hM := most_fn (confF n).2 (orI n.votes (2 ^ m.frm.toNat)) hor.2.1 hor.2.2 hn.conf0 hn.conf1
  rw [ms_dec]
  refine fn_enter Tryz.func134 (by rfl) (by rfl) ?_
  intro S0 w0
  show Sim _ _ [(0, pW b), (1, T.agg [ei m.kind, ei m.frm, ei m.to, ei m.term, ei m.index, ei m.logTerm, ei m.commit, ei m.conf, .v (.bool (decide (m.yes = true))), eens m.entries, es m.snap])] _ _
  obtain ⟨vl, vo, Hl, Ho, h1, h2, rfl⟩ := hw
  obtain ⟨p, c, rfl⟩ := h1.len
  obtain ⟨q, d, rfl⟩ := h2.len
  refine zC ?_
  apply cr
  refine e_bx fun b3 _ => ?_
  refine zC ?_
  refine lend1 3 (by simp) ?_
  refine zC ?_
  refine ca [0, 1, 2, 3, 4, 5, 6, 7, 8, 9, 10, 11, 12, 13, 14, 15, 16, 17, 18, 19, 20] [] ?_
  refine a_ (fun _ => p_fa) ?_
  refine a_ (fun _ => p_ld) ?_
  refine a_ (fun _ => p_mv) ?_
  refine a_ (fun _ => p_nc) ?_
  refine a_ (fun _ => p_fr) ?_
  refine a_ (fun _ => p_fr) ?_
  refine a_lo ?_
  refine a_ (fun _ => p_ne) ?_
  refine a_ (fun _ => p_mv) ?_
  refine ag_F (fun _ hg => p_mv) ?_
  refine ag_F (fun _ hg => p_nc (hx := u_ hg)) ?_
  refine ag_F (fun _ hg => p_fr (hx := u_ hg)) ?_
  refine ag_F (fun _ hg => p_fr (hx := u_ hg)) ?_
  refine ag_loF ?_
  refine ag_F (fun _ hg => p_ne (hx := u_ hg)) ?_
  refine a_ (fun _ => p_or) ?_
  refine a_ (fun _ => p_mv) ?_
  refine ag_F (fun _ hg => p_fa) ?_
  refine ag_F (fun _ hg => p_ld (hx := u_ hg)) ?_
  refine ag_F (fun _ hg => p_no (hx := u_ hg)) ?_
  refine a_ (fun _ => p_or) ?_
  apply an
  refine zC ?_
  refine ci ?_ ?_
  · intro hc
    refine zR ?_
    refine rh kR ⟨rfl, ?_⟩ (Le.refl _)
    rw [votedF, if_pos hc, List.append_nil]
    exact ⟨_, _, Hl, Ho, h1, h2, rfl⟩
  · intro hc
    refine zC ?_
    refine ca [0, 1, 2, 3, 4, 5, 6, 7, 8, 9, 10, 11, 12, 13] [13] ?_
    refine a_ (fun _ => p_mv) ?_
    refine a_ (fun _ => p_nc) ?_
    refine a_ (fun _ => p_fr) ?_
    refine a_ (fun _ => p_fr) ?_
    refine a_lo ?_
    refine a_ (fun _ => p_fa) ?_
    refine a_ (fun _ => p_ld) ?_
    refine a_ (fun _ => p_cv) ?_
    refine a_ (fun _ => p_shl) ?_
    refine a_ (fun _ => p_oor) ?_
    refine a_ (fun _ => p_nc) ?_
    refine a_ (fun _ => p_fr) ?_
    refine a_ (fun _ => p_fr) ?_
    refine a_st ?_
    apply an
    refine zC ?_
    rw [hor.1]
    have hw : WkH b (countN n m) out ((b, ⟨tW, wkC (countN n m) (.slice p (n.log.map een).length c) (.slice q (out.map ms).length d), 23⟩) :: (Hl ++ (Ho ++ []))) := ⟨_, _, Hl, Ho, h1, h2, rfl⟩
    refine zC ?_
    refine ca [0, 1, 2, 3, 4, 5, 6, 7, 8, 9, 10] [] ?_
    refine a_ (fun _ => p_mv) ?_
    refine a_ (fun _ => p_nc) ?_
    refine a_ (fun _ => p_fr) ?_
    refine a_loa ?_
    refine a_cL (G := (b, _) :: (Hl ++ (Ho ++ []))) hC (LendsL.cons (Lends.agg (node_lends _ (h1.lend (by intro p hp; simp [hp])))) LendsL.nil) ⟨[], perm0⟩ ?_
    refine a_ (fun _ => p_mv) ?_
    refine a_ (fun _ => p_nc) ?_
    refine a_ (fun _ => p_fr) ?_
    refine a_ (fun _ => p_fr) ?_
    refine a_lo ?_
    refine a_ (fun _ => p_ca (hM)) ?_
    apply an
    refine zC ?_
    refine ci ?_ ?_
    · intro hm
      refine zC ?_
      apply cr
      refine s_ p_mv ?_
      refine e_cHA (lead_fn (hn.of (n' := countN n m)) hl ho hw) (fun r H' ⟨hr, h3⟩ => ?_)
      subst hr
      refine zC ?_
      refine rhn kR ⟨rfl, ?_⟩ (Le.refl _)
      have hm' : mostF (confF n).2 (orI n.votes (2 ^ m.frm.toNat)) = true := decide_eq_true hm
      rw [votedF, if_neg hc, if_pos hm']
      exact h3
    · intro hm
      refine zC ?_
      refine rhn kR ⟨rfl, ?_⟩ (Le.refl _)
      have hm' : ¬ mostF (confF n).2 (orI n.votes (2 ^ m.frm.toNat)) = true := fun h => hm (of_decide_eq_true h)
      rw [votedF, if_neg hc, if_neg hm', List.append_nil]
      exact hw
theorem mtch_at {n : Nd} {vl vo : Value} {to : Int} (h0 : 0 ≤ to) (h5 : to < 5) : (wkC n vl vo)[0 + 0 + 17 + to.toNat * 1]? = some (ei (n.mtch.get to.toNat)) := by
  rcases five h0 h5 with rfl | rfl | rfl | rfl | rfl <;> rfl
theorem lay_nextI {n : Nd} {vl vo : Value} {i : Int} (h0 : 0 ≤ i) (h5 : i < 5) (v : Int) : lay (wkC n vl vo) (0 + 0 + 12 + i.toNat * 1) (T.v (.int .i64 v)).cells = wkC { n with next := n.next.set i.toNat v } vl vo := by
  rcases five h0 h5 with rfl | rfl | rfl | rfl | rfl <;> rfl
theorem lay_mtchI {n : Nd} {vl vo : Value} {i : Int} (h0 : 0 ≤ i) (h5 : i < 5) (v : Int) : lay (wkC n vl vo) (0 + 0 + 17 + i.toNat * 1) (T.v (.int .i64 v)).cells = wkC { n with mtch := n.mtch.set i.toNat v } vl vo := by
  rcases five h0 h5 with rfl | rfl | rfl | rfl | rfl <;> rfl
theorem get_set (f : F5) {i : Int} (h0 : 0 ≤ i) (h5 : i < 5) (v : Int) : (f.set i.toNat v).get i.toNat = v := by
  rcases five h0 h5 with rfl | rfl | rfl | rfl | rfl <;> rfl
def agreeN (n : Nd) (m : Ms) : Nd := { n with mtch := n.mtch.set m.frm.toNat (max (n.mtch.get m.frm.toNat) m.index), next := n.next.set m.frm.toNat (max (n.mtch.get m.frm.toNat) m.index + 1) }
def backN (n : Nd) (m : Ms) : Nd := { n with next := n.next.set m.frm.toNat (max (max (min (n.next.get m.frm.toNat - 1) (m.index + 1)) 1) (n.mtch.get m.frm.toNat + 1)) }
def heardF (n : Nd) (m : Ms) : Nd × List Ms := if ¬ m.term = n.term ∨ ¬ n.role = 2 then (n, []) else if m.yes = true then (commitF (agreeN n m), []) else
  if (backN n m).next.get m.frm.toNat ≤ lastF n then (backN n m, [oweF (backN n m) m.frm]) else (backN n m, [])
set_option maxHeartbeats 2000000 in
theorem heard_fn {b : Nat} {n : Nd} {out : List Ms} {H : Heap} (m : Ms) (hn : Bd n) (hf0 : 0 ≤ m.frm) (hf5 : m.frm < 5) (hx0 : -100000000000 ≤ n.next.get m.frm.toNat) (hx1 : n.next.get m.frm.toNat ≤ 50000000000) (hm0 : -100000000000 ≤ n.mtch.get m.frm.toNat) (hm1 : n.mtch.get m.frm.toNat ≤ 50000000000) (hi0 : -100000000000 ≤ m.index) (hi1 : m.index ≤ 50000000000) (ho : out.length ≤ 900) (hw : WkH b n out H) :
    FnH Tryz.prog 136 [pW b, ms m] H (fun r H' => r = .tup [] ∧ WkH b (heardF n m).1 (out ++ (heardF n m).2) H') := by
  have hb0 := hn.base0
  have hb1 := hn.base1
  have hlog := hn.log
  have hL := last_fn (backN n m) (by show n.log.length ≤ _; omega) (by show _ ≤ n.base; omega) (by show n.base ≤ _; omega)
  rw [ms_dec]
  refine fn_enter Tryz.func136 (by rfl) (by rfl) ?_
  intro S0 w0
  show Sim _ _ [(0, pW b), (1, T.agg [ei m.kind, ei m.frm, ei m.to, ei m.term, ei m.index, ei m.logTerm, ei m.commit, ei m.conf, .v (.bool (decide (m.yes = true))), eens m.entries, es m.snap])] _ _
  obtain ⟨vl, vo, Hl, Ho, h1, h2, rfl⟩ := hw
  obtain ⟨p, c, rfl⟩ := h1.len
  obtain ⟨q, d, rfl⟩ := h2.len
  refine zC ?_
  apply cr
  refine e_bx fun b3 _ => ?_
  refine zC ?_
  refine lend1 3 (by simp) ?_
  refine zC ?_
  refine ca [0, 1, 2, 3, 4, 5, 6, 7, 8, 9, 10, 11, 12, 13, 14, 15] [] ?_
  refine a_ (fun _ => p_fa) ?_
  refine a_ (fun _ => p_ld) ?_
  refine a_ (fun _ => p_mv) ?_
  refine a_ (fun _ => p_nc) ?_
  refine a_ (fun _ => p_fr) ?_
  refine a_ (fun _ => p_fr) ?_
  refine a_lo ?_
  refine a_ (fun _ => p_ne) ?_
  refine a_ (fun _ => p_mv) ?_
  refine ag_F (fun _ hg => p_mv) ?_
  refine ag_F (fun _ hg => p_nc (hx := u_ hg)) ?_
  refine ag_F (fun _ hg => p_fr (hx := u_ hg)) ?_
  refine ag_F (fun _ hg => p_fr (hx := u_ hg)) ?_
  refine ag_loF ?_
  refine ag_F (fun _ hg => p_ne (hx := u_ hg)) ?_
  refine a_ (fun _ => p_or) ?_
  apply an
  refine zC ?_
  refine ci ?_ ?_
  · intro hc
    refine zR ?_
    refine rh kR ⟨rfl, ?_⟩ (Le.refl _)
    rw [heardF, if_pos hc, List.append_nil]
    exact ⟨_, _, Hl, Ho, h1, h2, rfl⟩
  · intro hc
    refine zC ?_
    apply cr
    refine s_ p_fa ?_
    refine s_ p_ld ?_
    refine zC ?_
    refine ci ?_ ?_
    · intro hy
      refine zC ?_
      refine ca [0, 1, 2, 3, 4, 5, 6, 7, 8, 9, 10, 11, 12, 13, 14, 15, 16, 17, 18] [18] ?_
      refine a_ (fun _ => p_mv) ?_
      refine a_ (fun _ => p_fa) ?_
      refine a_ (fun _ => p_ld) ?_
      refine a_ (fun _ => p_mv) ?_
      refine a_ (fun _ => p_fa) ?_
      refine a_ (fun _ => p_ld) ?_
      refine a_ (fun _ => p_nc) ?_
      refine a_ (fun _ => p_fr) ?_
      refine a_ (fun _ => p_fr) ?_
      refine a_ (fun _ => p_ar) ?_
      refine a_lo (hd := mtch_at hf0 hf5) ?_
      refine a_ (fun _ => p_fa) ?_
      refine a_ (fun _ => p_ld) ?_
      refine a_ (fun _ => p_ma) ?_
      refine a_ (fun _ => p_nc) ?_
      refine a_ (fun _ => p_fr) ?_
      refine a_ (fun _ => p_fr) ?_
      refine a_ (fun _ => p_ar) ?_
      refine a_ss ?_ ?_
      · simp only [wkC_len, ei_cells, T.cells, Value.cells]; simp; omega
      rw [lay_mtchI hf0 hf5]
      have hd2 : ∀ vl vo, (wkC { n with mtch := n.mtch.set m.frm.toNat (max (n.mtch.get m.frm.toNat) m.index) } vl vo)[0 + 0 + 17 + m.frm.toNat * 1]? = some (ei (max (n.mtch.get m.frm.toNat) m.index)) := fun _ _ => by rw [mtch_at hf0 hf5, get_set _ hf0 hf5]
      apply an
      refine zC ?_
      refine ca [0, 1, 2, 3, 4, 5, 6, 7, 8, 9, 10, 11, 12, 13, 14, 15, 16] [16] ?_
      refine a_ (fun _ => p_mv) ?_
      refine a_ (fun _ => p_fa) ?_
      refine a_ (fun _ => p_ld) ?_
      refine a_ (fun _ => p_mv) ?_
      refine a_ (fun _ => p_fa) ?_
      refine a_ (fun _ => p_ld) ?_
      refine a_ (fun _ => p_nc) ?_
      refine a_ (fun _ => p_fr) ?_
      refine a_ (fun _ => p_fr) ?_
      refine a_ (fun _ => p_ar) ?_
      refine a_lo (hd := hd2 _ _) ?_
      refine a_ (fun _ => p_ad) ?_
      refine a_ (fun _ => p_nc) ?_
      refine a_ (fun _ => p_fr) ?_
      refine a_ (fun _ => p_fr) ?_
      refine a_ (fun _ => p_ar) ?_
      refine a_ss ?_ ?_
      · simp only [wkC_len, ei_cells, T.cells, Value.cells]; simp; omega
      rw [lay_nextI hf0 hf5]
      apply an
      refine zC ?_
      apply cr
      refine s_ p_mv ?_
      refine e_cHA (commit_fn (hn.of (n' := agreeN n m)) ⟨_, _, Hl, Ho, h1, h2, rfl⟩) (fun r H' ⟨hr, h3⟩ => ?_)
      subst hr
      refine zC ?_
      refine zR ?_
      refine rh kR ⟨rfl, ?_⟩ (Le.refl _)
      rw [heardF, if_neg hc, if_pos hy, List.append_nil]
      exact h3
    · intro hy
      refine zC ?_
      refine ca [0, 1, 2, 3, 4, 5, 6, 7, 8, 9, 10, 11, 12, 13, 14, 15, 16, 17, 18, 19, 20, 21, 22, 23, 24, 25, 26, 27, 28, 29, 30] [30] ?_
      refine a_ (fun _ => p_mv) ?_
      refine a_ (fun _ => p_fa) ?_
      refine a_ (fun _ => p_ld) ?_
      refine a_ (fun _ => p_mv) ?_
      refine a_ (fun _ => p_fa) ?_
      refine a_ (fun _ => p_ld) ?_
      refine a_ (fun _ => p_nc) ?_
      refine a_ (fun _ => p_fr) ?_
      refine a_ (fun _ => p_fr) ?_
      refine a_ (fun _ => p_ar) ?_
      refine a_lo (hd := next_at hf0 hf5) ?_
      refine a_ (fun _ => p_su) ?_
      refine a_ (fun _ => p_fa) ?_
      refine a_ (fun _ => p_ld) ?_
      refine a_ (fun _ => p_ad) ?_
      refine a_ (fun _ => p_mi) ?_
      refine a_ (fun _ => p_mv) ?_
      refine a_ (fun _ => p_fa) ?_
      refine a_ (fun _ => p_ld) ?_
      refine a_ (fun _ => p_nc) ?_
      refine a_ (fun _ => p_fr) ?_
      refine a_ (fun _ => p_fr) ?_
      refine a_ (fun _ => p_ar) ?_
      refine a_lo (hd := mtch_at hf0 hf5) ?_
      refine a_ (fun _ => p_ad) ?_
      refine a_ (fun _ => p_ma3) ?_
      refine a_ (fun _ => p_nc) ?_
      refine a_ (fun _ => p_fr) ?_
      refine a_ (fun _ => p_fr) ?_
      refine a_ (fun _ => p_ar) ?_
      refine a_ss ?_ ?_
      · simp only [wkC_len, ei_cells, T.cells, Value.cells]; simp; omega
      rw [lay_nextI hf0 hf5]
      have hw : WkH b (backN n m) out ((b, ⟨tW, wkC (backN n m) (.slice p (n.log.map een).length c) (.slice q (out.map ms).length d), 23⟩) :: (Hl ++ (Ho ++ []))) := ⟨_, _, Hl, Ho, h1, h2, rfl⟩
      apply an
      refine zC ?_
      apply cr
      refine s_ p_mv ?_
      refine s_ p_nc ?_
      refine s_ p_fr ?_
      refine s_ p_loa ?_
      refine s_ (p_cLA hL (LendsL.cons (Lends.agg (node_lends (backN n m) (h1.lend (by intro p hp; simp [hp])))) LendsL.nil)) ?_
      refine s_ p_mv ?_
      refine s_ p_ex ?_
      refine s_ p_ex ?_
      refine s_ p_as ?_
      refine s_ p_as ?_
      refine zC ?_
      refine ca [0, 1, 2, 3, 4, 5, 6, 7, 8, 9] [] ?_
      refine a_ (fun _ => p_mv) ?_
      refine a_ (fun _ => p_fa) ?_
      refine a_ (fun _ => p_ld) ?_
      refine a_ (fun _ => p_nc) ?_
      refine a_ (fun _ => p_fr) ?_
      refine a_ (fun _ => p_fr) ?_
      refine a_ (fun _ => p_ar) ?_
      refine a_lo (hd := next_at (n := backN n m) hf0 hf5) ?_
      refine a_ (fun _ => p_mv) ?_
      refine a_ (fun _ => p_le) ?_
      apply an
      refine zC ?_
      refine ci ?_ ?_
      · intro hle
        refine zC ?_
        apply cr
        refine s_ p_mv ?_
        refine s_ p_fa ?_
        refine s_ p_ld ?_
        refine e_cHA (owe_fn m.frm hf0 hf5 (by show n.log.length ≤ _; omega) (by show _ ≤ n.base; omega) (by show n.base ≤ _; omega) ?_ (by omega) hw) (fun r H' ⟨hr, h3⟩ => ?_)
        · have : (backN n m).next.get m.frm.toNat = max (max (min (n.next.get m.frm.toNat - 1) (m.index + 1)) 1) (n.mtch.get m.frm.toNat + 1) := get_set _ hf0 hf5 _
          rw [this]; omega
        subst hr
        refine zC ?_
        refine rhn kR ⟨rfl, ?_⟩ (Le.refl _)
        have hle' : (backN n m).next.get m.frm.toNat ≤ lastF n := hle
        rw [heardF, if_neg hc, if_neg hy, if_pos hle']
        exact h3
      · intro hle
        refine zC ?_
        refine rhn kR ⟨rfl, ?_⟩ (Le.refl _)
        have hle' : ¬ (backN n m).next.get m.frm.toNat ≤ lastF n := hle
        rw [heardF, if_neg hc, if_neg hy, if_neg hle', List.append_nil]
        exact hw
def putN (n : Nd) (e : En) : Nd := { n with log := n.log ++ [⟨n.term, e.conf, e.cmd⟩], mtch := n.mtch.set n.id.toNat (n.base + (n.log.length + 1)) }
def putF (n : Nd) (e : En) : Nd := commitF (putN n e)
theorem lc_app1 (l : List En) (e : En) : lc (l ++ [e]) (l ++ [e]).length = if e.conf ≠ 0 then some (l.length, e.conf) else lc l l.length := by
  rw [List.length_append, List.length_singleton, lc]
  have : (l ++ [e]).getD l.length default = e := by simp [List.getD_eq_getElem?_getD]
  rw [this]
  split
  · rfl
  · exact lc_app0 _ _ _ (Nat.le_refl _)
theorem Bd.put {n : Nd} {e : En} (h : Bd n) (hl : n.log.length < 100000000) (h0 : 0 ≤ e.conf) (h1 : e.conf ≤ 31) : Bd (putN n e) := by
  have hc : (confF (putN n e)).2 = if e.conf ≠ 0 then e.conf else (confF n).2 := by
    have := lc_app1 n.log ⟨n.term, e.conf, e.cmd⟩
    by_cases hz : e.conf ≠ 0
    · rw [if_pos hz] at this ⊢
      simp only [confF, putN, this]
    · rw [if_neg hz] at this ⊢
      simp only [confF, putN, this]
  refine ⟨h.id0, h.id5, by simp [putN]; omega, h.base0, h.base1, ?_, ?_⟩ <;> rw [hc] <;> split
  · exact h0
  · exact h.conf0
  · exact h1
  · exact h.conf1
end Go.Proofs.YtjbokbikkcfjjaaGreat
end
section
set_option maxRecDepth 4000
namespace Go.Proofs.YtjbokbikkcfjjaaGreat
open Go.Cap
set_option linter.unusedSimpArgs false
set_option linter.unusedVariables false
attribute [local irreducible] POp SimFrom DrawFrom EOp Sim FnH T.gp
def quietN (n : Nd) : Nd := { n with role := 0, wait := 0 }
theorem follow_fn' {b : Nat} {n : Nd} {out : List Ms} {H : Heap} (m : Ms) (hb : out.length ≤ 1000) (hw : WkH b n out H) :
    FnH Tryz.prog 157 [pW b, ms m] H (fun r H' => r = .v (.bool (decide (¬ m.term < n.term))) ∧ WkH b (if m.term < n.term then n else quietN n) (if m.term < n.term then out ++ [sendF n m.frm (addedM false 0)] else out) H') :=
  (follow_fn m hb hw).mono fun r H' h => by
    by_cases hlt : m.term < n.term
    · rw [if_pos hlt] at h
      rw [if_pos hlt, if_pos hlt]
      exact ⟨by rw [h.1]; simp [hlt, eB], h.2⟩
    · rw [if_neg hlt] at h
      rw [if_neg hlt, if_neg hlt]
      exact ⟨by rw [h.1]; simp [hlt, eB], h.2⟩
def layK (n : Nd) (m : Ms) : Nat → List En
  | 0 => n.log
  | i + 1 => if m.index - n.base + i < (layK n m i).length ∧ ((layK n m i).getD (m.index - n.base + i).toNat default).term = (m.entries.getD i default).term then layK n m i
    else (layK n m i).take (min (m.index - n.base + i) (layK n m i).length).toNat ++ [m.entries.getD i default]
theorem layK_len (n : Nd) (m : Ms) : ∀ i, (layK n m i).length ≤ n.log.length + i
  | 0 => Nat.le_refl _
  | i + 1 => by
    have := layK_len n m i
    rw [layK]
    split
    · omega
    · simp; omega
def addN (n : Nd) (m : Ms) : Nd := { quietN n with log := layK n m m.entries.length, commit := max n.commit (min m.commit (m.index + m.entries.length)) }
def addF (n : Nd) (m : Ms) : Nd × List Ms := if m.term < n.term then (n, [sendF n m.frm (addedM false 0)]) else
  if m.index < n.base then (quietN n, [sendF (quietN n) m.frm (addedM true n.base)]) else
  if lastF n < m.index ∨ ¬ termF n m.index = m.logTerm then (quietN n, [sendF (quietN n) m.frm (addedM false (min (lastF n) (m.index - 1)))]) else
  (addN n m, [sendF (addN n m) m.frm (addedM true (m.index + m.entries.length))])
theorem flat_at {k : Nat} {xs : List T} {i j : Nat} {x d : T} (hk : ∀ y ∈ xs, y.cells.length = k) (h : xs[i]? = some x) (hj : j < k) (hd : x.cells[j]? = some d) : (xs.flatMap T.cells)[0 + i * k + j]? = some d := by
  have ⟨h1, h2⟩ := flat_get hk h
  have h3 : (((xs.flatMap T.cells).drop (i * k)).take k)[j]? = some d := by rw [h1, hd]
  rw [List.getElem?_take, if_pos hj, List.getElem?_drop] at h3
  rw [Nat.zero_add]
  exact h3
theorem OE.at {l : List En} {p : Option Addr} {n c : Nat} {Hs : Heap} (h : OE l (.slice p n c) Hs) : ∃ bl, 0 < l.length → p = some ⟨bl, 0, none⟩ ∧ (bl, (⟨tE, (l.map een).flatMap T.cells, c * 3⟩ : Blk)) ∈ Hs := by
  rcases h with ⟨h, _⟩ | ⟨bl, c', e, _, rfl⟩
  · have : l = [] := by simpa using h
    exact ⟨0, fun h => by rw [this] at h; simp at h⟩
  · cases e; exact ⟨bl, fun _ => ⟨rfl, List.mem_singleton.2 rfl⟩⟩
theorem OE.sub0 {l : List En} {p : Option Addr} {n c : Nat} {Hs : Heap} (h : OE l (.slice p n c) Hs) (j : Nat) : subV 3 p c 0 j = .slice p j c := by
  rcases h with ⟨_, ⟨q, e⟩, _⟩ | ⟨bl, c', e, _, _⟩
  · cases e; cases p <;> rfl
  · cases e
    unfold subV
    by_cases hc : c = 0 <;> simp [hc, Addr.add_mk]
set_option maxHeartbeats 4000000 in
theorem add_fn {b : Nat} {n : Nd} {out : List Ms} {H : Heap} (m : Ms) (hn : Bd n) (hl : n.log.length + m.entries.length ≤ 100000000) (hi0 : -50000000000 ≤ m.index) (hi1 : m.index ≤ 50000000000) (ho : out.length ≤ 900) (hw : WkH b n out H) :
    FnH Tryz.prog 135 [pW b, ms m] H (fun r H' => r = .tup [] ∧ WkH b (addF n m).1 (out ++ (addF n m).2) H') := by
  have hb0 := hn.base0
  have hb1 := hn.base1
  have hlog := hn.log
  have hL := last_fn (quietN n) (by show n.log.length ≤ _; omega) (by show _ ≤ n.base; omega) (by show n.base ≤ _; omega)
  refine fn_enter Tryz.func135 (by rfl) (by rfl) ?_
  intro S0 w0
  show Sim _ _ [(0, pW b), (1, T.agg (msC m (eens m.entries)))] _ _
  refine zC ?_
  apply cr
  refine e_bx fun b3 _ => ?_
  refine zC ?_
  refine lend1 3 (by simp [msC]) ?_
  refine zC ?_
  apply cr
  refine s_ p_mv ?_
  refine s_ p_la ?_
  refine e_cHA (follow_fn' m (by omega) hw) (fun r H' ⟨hr, hw⟩ => ?_)
  subst hr
  refine s_ p_no ?_
  refine zC ?_
  refine ci ?_ ?_
  · intro hc
    have hlt : m.term < n.term := Decidable.not_not.1 hc
    rw [if_pos hlt, if_pos hlt] at hw
    refine zR ?_
    refine rh kR ⟨rfl, ?_⟩ (Le.refl _)
    rw [addF, if_pos hlt]
    exact hw
  intro hc
  have hlt : ¬ m.term < n.term := fun h => hc (fun h' => h' h)
  rw [if_neg hlt, if_neg hlt] at hw
  have hw1 := hw
  obtain ⟨vl, vo, Hl, Ho, h1, h2, rfl⟩ := hw
  obtain ⟨p, c, rfl⟩ := h1.len
  obtain ⟨q, d, rfl⟩ := h2.len
  refine zC ?_
  apply cr
  refine s_ p_mv ?_
  refine s_ p_nc ?_
  refine s_ p_fr ?_
  refine s_ p_loa ?_
  refine s_ (p_cLA hL (LendsL.cons (Lends.agg (node_lends (quietN n) (h1.lend (by intro p hp; simp [hp])))) LendsL.nil)) ?_
  refine s_ p_mv ?_
  refine s_ p_ex ?_
  refine s_ p_ex ?_
  refine s_ p_as ?_
  refine s_ p_as ?_
  refine zC ?_
  refine ca [0, 1, 2, 3, 4, 5, 6, 7, 8] [] ?_
  refine a_ (fun _ => p_fa) ?_
  refine a_ (fun _ => p_ld) ?_
  refine a_ (fun _ => p_mv) ?_
  refine a_ (fun _ => p_nc) ?_
  refine a_ (fun _ => p_fr) ?_
  refine a_ (fun _ => p_fr) ?_
  refine a_lo ?_
  refine a_ (fun _ => p_lt) ?_
  refine a_ (fun _ => p_as) ?_
  apply an
  refine zC ?_
  refine ci ?_ ?_
  · intro hlo
    refine zC ?_
    refine ca [0, 1, 2, 3, 4, 5, 6, 7, 8] [8] ?_
    refine a_ (fun _ => p_mv) ?_
    refine a_ (fun _ => p_fa) ?_
    refine a_ (fun _ => p_ld) ?_
    refine a_ (fun _ => p_mv) ?_
    refine a_ (fun _ => p_nc) ?_
    refine a_ (fun _ => p_fr) ?_
    refine a_ (fun _ => p_fr) ?_
    refine a_lo ?_
    refine a_cH (FnH.of_le ?_ (added_fn m.frm true n.base (by omega) hw1)) (fun r H' ⟨hr, h3⟩ => ⟨zd, ?_⟩)
    · ((repeat (apply LeL.cons; (first | exact Le.refl _ | exact Le.nil _ | exact Le.full _ _ | exact Le.any _ | (apply Le.agg; (repeat (apply LeL.cons; (first | exact Le.refl _ | exact Le.nil _ | exact Le.full _ _ | exact Le.any _))); exact LeL.nil) | (apply Le.tup; (repeat (apply LeL.cons; (first | exact Le.refl _ | exact Le.nil _ | exact Le.full _ _ | exact Le.any _ | (apply Le.agg; (repeat (apply LeL.cons; (first | exact Le.refl _ | exact Le.nil _ | exact Le.full _ _ | exact Le.any _))); exact LeL.nil)))); exact LeL.nil)))); exact LeL.nil)
    · refine zD ?_
      subst hr
      apply an
      refine zC ?_
      refine zR ?_
      refine rh kR ⟨rfl, ?_⟩ (Le.refl _)
      have hlo' : m.index < n.base := hlo
      rw [addF, if_neg hlt, if_pos hlo']
      exact h3
  intro hlo
  have hlo' : ¬ m.index < n.base := hlo
  have hT := term_fn (quietN n) m.index (by show n.log.length ≤ _; omega) (by simp only [big]; show _ ≤ n.base; omega) (by simp only [big]; show n.base ≤ _; omega) (by simp only [big]; omega) (by simp only [big]; omega)
  refine zC ?_
  refine ca [0, 1, 2, 3, 4, 5, 6, 7, 8, 9, 10, 11, 12, 13, 14, 15] [] ?_
  refine a_ (fun _ => p_fa) ?_
  refine a_ (fun _ => p_ld) ?_
  refine a_ (fun _ => p_mv) ?_
  refine a_ (fun _ => p_gt) ?_
  refine a_ (fun _ => p_mv) ?_
  refine ag_F (fun _ hg => p_mv) ?_
  refine ag_F (fun _ hg => p_nc (hx := u_ hg)) ?_
  refine ag_F (fun _ hg => p_fr (hx := u_ hg)) ?_
  refine ag_F (fun _ hg => p_fa) ?_
  refine ag_F (fun _ hg => p_ld (hx := u_ hg)) ?_
  refine ag_cLF (G := (b, _) :: (Hl ++ (Ho ++ []))) (fun _ => hT) (fun _ => LendsL.cons (nd_ptr (n := quietN n) h1 (by intro p hp; simp [hp]) List.mem_cons_self) (LendsL.cons (Lends.le (Le.refl _)) LendsL.nil)) ⟨[], perm0⟩ ?_ (fun hg => by refine evl_cons (u_ hg) (evl_cons (u_ hg) evl_nil))
  refine ag_F (fun _ hg => p_fa) ?_
  refine ag_F (fun _ hg => p_ld (hx := u_ hg)) ?_
  refine ag_F (fun _ hg => p_ne (hx := u_ hg) (hy := u_ hg)) ?_
  refine a_ (fun _ => p_or) ?_
  refine a_ (fun _ => p_as) ?_
  apply an
  refine zC ?_
  refine ci ?_ ?_
  · intro hno
    refine zC ?_
    apply cr
    refine s_ p_mv ?_
    refine s_ p_fa ?_
    refine s_ p_ld ?_
    refine s_ p_mv ?_
    refine s_ p_fa ?_
    refine s_ p_ld ?_
    refine s_ p_su ?_
    refine s_ p_mi ?_
    refine e_cHA (FnH.of_le ?_ (added_fn m.frm false (min (lastF n) (m.index - 1)) (by omega) hw1)) (fun r H' ⟨hr, h3⟩ => ?_)
    · ((repeat (apply LeL.cons; (first | exact Le.refl _ | exact Le.nil _ | exact Le.full _ _ | exact Le.any _ | (apply Le.agg; (repeat (apply LeL.cons; (first | exact Le.refl _ | exact Le.nil _ | exact Le.full _ _ | exact Le.any _))); exact LeL.nil) | (apply Le.tup; (repeat (apply LeL.cons; (first | exact Le.refl _ | exact Le.nil _ | exact Le.full _ _ | exact Le.any _ | (apply Le.agg; (repeat (apply LeL.cons; (first | exact Le.refl _ | exact Le.nil _ | exact Le.full _ _ | exact Le.any _))); exact LeL.nil)))); exact LeL.nil)))); exact LeL.nil)
    · subst hr
      refine zC ?_
      refine zR ?_
      refine rh kR ⟨rfl, ?_⟩ (Le.refl _)
      have hno' : lastF n < m.index ∨ ¬ termF n m.index = m.logTerm := hno
      rw [addF, if_neg hlt, if_neg hlo', if_pos hno']
      exact h3
  intro hno
  have hno' : ¬ (lastF n < m.index ∨ ¬ termF n m.index = m.logTerm) := hno
  refine zC ?_
  apply cr
  refine s_ p_fa ?_
  refine s_ p_ld ?_
  (first | refine s_ p_ln ?_ | refine s_ p_lr ?_)
  refine s_ p_mv ?_
  refine zC ?_
  apply sim_loopL (σ := Nat × Heap) (ok := fun s => s.1 ≤ m.entries.length ∧ WkH b { quietN n with log := layK n m s.1 } out s.2) (env := fun s => [(68, ei (s.1 : Nat)), (67, ei ((m.entries.map een).length : Nat)), (66, eens m.entries), (3, .adr (.agg (msC m (eens m.entries)))), (0, pW b)])
    (heap := fun s => s.2) (μ := fun s => m.entries.length - s.1) (s0 := (0, (b, ⟨tW, wkC (quietN n) (.slice p (n.log.map een).length c) (.slice q (out.map ms).length d), 23⟩) :: (Hl ++ (Ho ++ []))))
  · exact ⟨Nat.zero_le _, hw1⟩
  · exact eL
  · exact kR
  rintro ⟨i, H⟩ ⟨hi, hw⟩
  simp only at hi hw
  clear h1 h2 hw1
  obtain ⟨vl, vo, Hl, Ho, h1, h2, rfl⟩ := hw
  simp only at h1
  obtain ⟨p, c, rfl⟩ := h1.len
  obtain ⟨q, d, rfl⟩ := h2.len
  have hlk := layK_len n m i
  have hqb : (quietN n).base = n.base := rfl
  refine zC ?_
  apply cr
  refine s_ p_lt ?_
  refine zC ?_
  refine ci ?_ ?_
  · intro hlt2
    simp only [List.length_map] at hlt2
    have hix : i < m.entries.length := by omega
    have hge : m.entries.getD i default = m.entries[i] := by simp [hix]
    refine zC ?_
    apply cr
    refine s_ p_mv ?_
    (first | refine s_ (p_ix hix) ?_ | refine s_ (p_ix hix2) ?_ | refine s_ p_ia ?_ | refine s_ p_ir ?_)
    (first | refine s_ p_la ?_ | refine s_ p_loa ?_)
    refine e_al fun b7 _ => ?_
    refine s_ p_as ?_
    refine e_st ?_
    refine zC ?_
    refine ca [0, 1, 2, 3, 4, 5, 6, 7, 8, 9, 10] [] ?_
    refine a_ (fun _ => p_fa) ?_
    refine a_ (fun _ => p_ld) ?_
    refine a_ (fun _ => p_mv) ?_
    refine a_ (fun _ => p_nc) ?_
    refine a_ (fun _ => p_fr) ?_
    refine a_ (fun _ => p_fr) ?_
    refine a_lo ?_
    refine a_ (fun _ => p_su) ?_
    refine a_ (fun _ => p_mv) ?_
    refine a_ (fun _ => p_ad) ?_
    refine a_ (fun _ => p_as) ?_
    apply an
    refine zC ?_
    rw [hqb]
    generalize hk : m.index - n.base + (i : Nat) = k
    have hk0 : 0 ≤ k := by omega
    obtain ⟨bl, hbl⟩ := h1.at
    refine zC ?_
    refine ca [0, 1, 2, 3, 4, 5, 6, 7, 8, 9, 10, 11, 12, 13, 14, 15, 16, 17, 18, 19, 20, 21] [] ?_
    refine a_ (fun _ => p_mv) ?_
    refine a_ (fun _ => p_mv) ?_
    refine a_ (fun _ => p_nc) ?_
    refine a_ (fun _ => p_fr) ?_
    refine a_ (fun _ => p_fr) ?_
    refine a_lo ?_
    (first | refine a_ (fun _ => p_ln) ?_ | refine a_ (fun _ => p_lr) ?_)
    refine a_ (fun _ => p_lt) ?_
    refine a_ (fun _ => p_mv) ?_
    refine ag_T (fun _ hg => p_mv) ?_
    refine ag_T (fun _ hg => p_nc (hx := u_ hg)) ?_
    refine ag_T (fun _ hg => p_fr (hx := u_ hg)) ?_
    refine ag_T (fun _ hg => p_fr (hx := u_ hg)) ?_
    refine ag_loT ?_
    refine ag_T (fun _ hg => p_mv) ?_
    have hkl : k < (((layK n m i).map een).length : Nat) → k.toNat < (layK n m i).length := fun h => by rw [List.length_map] at h; omega
    refine ag_T (p := k < (((layK n m i).map een).length : Nat)) (fun _ hg => p_irG (hbl (by have := hkl hg; omega)).1 (hx := u_ hg) (hy := u_ hg)) ?_
    refine ag_T (fun _ hg => p_fr (hx := u_ hg)) ?_
    refine ag_loTc (p := k < (((layK n m i).map een).length : Nat)) (b := bl) (fun hg => List.mem_cons_of_mem _ (List.mem_cons_of_mem _ (List.mem_append_left _ (hbl (by have := hkl hg; omega)).2))) (fun hg => flat_at (k := 3) (j := 0) (een3 _) (een_get _ (hkl hg)) (by decide) rfl) ?_
    refine ag_T (fun _ hg => p_fr) ?_
    refine ag_loT ?_
    refine ag_T (fun _ hg => p_eq (hx := u_ hg) (hy := u_ hg)) ?_
    refine a_ (fun _ => p_an) ?_
    apply an
    refine zC ?_
    refine ci ?_ ?_
    · intro hsame
      have hs : layK n m (i + 1) = layK n m i := by rw [layK, hk, hge, if_pos ⟨by have := hsame.1; rw [List.length_map] at this; exact this, hsame.2⟩]
      refine zC ?_
      apply cr
      refine s_ p_ad ?_
      refine s_ p_mv ?_
      refine zC ?_
      refine ⟨(i + 1, _), ⟨hix, ?_⟩, by show m.entries.length - (i + 1) < m.entries.length - i; omega, ⟨le_get (by rfl) (Le.refl _), eL⟩, kS kR⟩
      simp only
      rw [hs]
      exact ⟨_, _, Hl, Ho, h1, h2, rfl⟩
    · intro hdiff
      have hs : layK n m (i + 1) = (layK n m i).take (min k (layK n m i).length).toNat ++ [m.entries[i]] := by
        rw [layK, hk, hge, if_neg fun h => hdiff ⟨by rw [List.length_map]; exact h.1, h.2⟩]
      have hcap : ((layK n m i).map een).length ≤ c := OSl.cap h1
      refine zC ?_
      refine ca [0, 1, 2, 3, 4, 5, 6, 7, 8, 9, 10, 11, 12, 13, 14, 15, 16, 17, 18, 19, 20, 21] [17, 21] ?_
      refine a_ (fun _ => p_mv) ?_
      refine a_ (fun _ => p_mv) ?_
      refine a_ (fun _ => p_nc) ?_
      refine a_ (fun _ => p_fr) ?_
      refine a_ (fun _ => p_fr) ?_
      refine a_lo ?_
      refine a_ (fun _ => p_mv) ?_
      refine a_ (fun _ => p_mv) ?_
      refine a_ (fun _ => p_nc) ?_
      refine a_ (fun _ => p_fr) ?_
      refine a_ (fun _ => p_fr) ?_
      refine a_lo ?_
      (first | refine a_ (fun _ => p_ln) ?_ | refine a_ (fun _ => p_lr) ?_)
      refine a_ (fun _ => p_mi) ?_
      refine a_ (fun _ => p_sbh (v := .slice p (min k (((layK n m i).map een).length : Nat)).toNat c) hcap (by exact h1.sub0 _)) ?_
      refine a_loa ?_
      refine a_ (fun _ => p_bs) ?_
      refine a_osT (A := [_, _]) (B := Ho ++ []) (ys := [een m.entries[i]]) h1 (een3 _) (min k ((layK n m i).length : Nat)).toNat (fun v' Hl' h1' => ⟨zd, ?_⟩) (hx := ?_)
      · refine zD ?_
        have h1 : OE ((layK n m i).take (min k (layK n m i).length).toNat ++ [m.entries[i]]) v' Hl' := by unfold OE; rw [List.map_append, List.map_take]; exact h1'
        clear h1'
        obtain ⟨p, c, rfl⟩ := h1.len
        refine a_ (fun _ => p_nc) ?_
        refine a_ (fun _ => p_fr) ?_
        refine a_ (fun _ => p_fr) ?_
        refine a_st ?_
        apply an
        refine zC ?_
        apply cr
        refine s_ p_ad ?_
        refine s_ p_mv ?_
        refine zC ?_
        refine ⟨(i + 1, _), ⟨hix, ?_⟩, by show m.entries.length - (i + 1) < m.entries.length - i; omega, ⟨le_get (by rfl) (Le.refl _), eL⟩, kS kR⟩
        simp only
        rw [hs]
        exact ⟨_, _, Hl', Ho, h1, h2, rfl⟩
      · refine Eq.trans (zl) ?_
        have e : (min k (((layK n m i).map een).length : Nat)).toNat = min (min k ((layK n m i).length : Nat)).toNat ((layK n m i).map een).length := by rw [List.length_map]; omega
        rw [e]
  · intro hlt2
    simp only [List.length_map] at hlt2
    have : i = m.entries.length := by omega
    subst this
    have hel : ((m.entries.map een).length : Int) = (m.entries.length : Int) := by simp
    refine zC ?_
    apply cr
    refine s_ p_fa ?_
    refine s_ p_ld ?_
    refine s_ p_fa ?_
    refine s_ p_ld ?_
    (first | refine s_ p_ln ?_ | refine s_ p_lr ?_)
    refine s_ p_ad ?_
    refine s_ p_as ?_
    refine zC ?_
    refine ca [0, 1, 2, 3, 4, 5, 6, 7, 8, 9, 10, 11, 12, 13, 14] [14] ?_
    refine a_ (fun _ => p_mv) ?_
    refine a_ (fun _ => p_mv) ?_
    refine a_ (fun _ => p_nc) ?_
    refine a_ (fun _ => p_fr) ?_
    refine a_ (fun _ => p_fr) ?_
    refine a_lo ?_
    refine a_ (fun _ => p_fa) ?_
    refine a_ (fun _ => p_ld) ?_
    refine a_ (fun _ => p_mv) ?_
    refine a_ (fun _ => p_mi) ?_
    refine a_ (fun _ => p_ma) ?_
    refine a_ (fun _ => p_nc) ?_
    refine a_ (fun _ => p_fr) ?_
    refine a_ (fun _ => p_fr) ?_
    refine a_st ?_
    apply an
    refine zC ?_
    apply cr
    refine s_ p_mv ?_
    refine s_ p_fa ?_
    refine s_ p_ld ?_
    refine s_ p_mv ?_
    rw [hel]
    refine e_cHA (FnH.of_le ?_ (added_fn m.frm true (m.index + m.entries.length) (by omega) (show WkH b (addN n m) out _ from ⟨_, _, Hl, Ho, h1, h2, rfl⟩))) (fun r H' ⟨hr, h3⟩ => ?_)
    · ((repeat (apply LeL.cons; (first | exact Le.refl _ | exact Le.nil _ | exact Le.full _ _ | exact Le.any _ | (apply Le.agg; (repeat (apply LeL.cons; (first | exact Le.refl _ | exact Le.nil _ | exact Le.full _ _ | exact Le.any _))); exact LeL.nil) | (apply Le.tup; (repeat (apply LeL.cons; (first | exact Le.refl _ | exact Le.nil _ | exact Le.full _ _ | exact Le.any _ | (apply Le.agg; (repeat (apply LeL.cons; (first | exact Le.refl _ | exact Le.nil _ | exact Le.full _ _ | exact Le.any _))); exact LeL.nil)))); exact LeL.nil)))); exact LeL.nil)
    · subst hr
      refine zC ?_
      refine rhn kR ⟨rfl, ?_⟩ (Le.refl _)
      rw [addF, if_neg hlt, if_neg hlo', if_neg hno']
      exact h3
end Go.Proofs.YtjbokbikkcfjjaaGreat
end
