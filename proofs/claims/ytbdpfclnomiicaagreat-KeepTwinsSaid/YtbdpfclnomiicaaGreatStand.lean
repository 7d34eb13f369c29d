/-
  replica: one stands for a term.
-/
import Derived.Test.YtbdpfclnomiicaaGreatLeads
set_option maxRecDepth 4000
namespace Go.Proofs.YtbdpfclnomiicaaGreat
open Go.Cap
set_option linter.unusedSimpArgs false
set_option linter.unusedVariables false
attribute [local irreducible] POp SimFrom DrawFrom EOp Sim FnH T.gp
def askM (idx term : Int) : Ms := ⟨1, 0, 0, 0, idx, term, 0, 0, false, [], []⟩
def standN (n : Nd) : Nd := { n with role := 1, vote := n.id, wait := 0, term := n.term + 1, votes := 2 ^ n.id.toNat }
def standF (n : Nd) : Nd × List Ms := if mostF (confF n).2 (2 ^ n.id.toNat) then (leadF (standN n), toAll (leadF (standN n)) (oweF (leadF (standN n))) 5)
  else (standN n, toAll (standN n) (fun to => sendF (standN n) to (askM (lastF n) (termF n (lastF n)))) 5)
theorem ask_fn {b b1 b2 b3 : Nat} {n : Nd} {out : List Ms} {H : Heap} (to idx term : Int) (hb : out.length ≤ 1000) (hw : WkH b n out H) :
    FnH Tryz.prog 77 ([] ++ [ei to] ++ [pW b1, pW b2, pW b3]) (H ++ [(b3, ⟨3, [ei term], 1⟩), (b2, ⟨3, [ei idx], 1⟩), (b1, ⟨106, [pW b], 1⟩)])
      (fun _ H' => ∃ H1, H' = H1 ++ [(b3, ⟨3, [ei term], 1⟩), (b2, ⟨3, [ei idx], 1⟩), (b1, ⟨106, [pW b], 1⟩)] ∧ WkH b n (out ++ [sendF n to (askM idx term)]) H1) := by
  refine fn_enter Tryz.func77 (by rfl) (by rfl) ?_
  intro S0 w0
  show Sim _ _ [(0, ei to), (1, pW b1), (2, pW b2), (3, pW b3)] _ _
  (repeat (first | apply cn | apply cq | apply cb | apply ck | apply cl | apply cx))
  apply cr
  refine s_ p_lo ?_
  refine s_ p_mv ?_
  refine s_ p_lo ?_
  refine s_ p_lo ?_
  refine s_ (p_bd 11 [_, _, _, _, _, _, _, _, _, _, _]) ?_
  refine e_cH (FnH.of_le ?_ (send_fn to (askM idx term) hb hw)) (.refl _) (fun r H' ⟨hr, h3⟩ => ?_)
  · ((repeat (apply LeL.cons; (first | exact Le.refl _ | exact Le.nil _ | exact Le.full _ _ | exact Le.any _ | (apply Le.agg; (repeat (apply LeL.cons; (first | exact Le.refl _ | exact Le.nil _ | exact Le.full _ _ | exact Le.any _))); exact LeL.nil) | (apply Le.tup; (repeat (apply LeL.cons; (first | exact Le.refl _ | exact Le.nil _ | exact Le.full _ _ | exact Le.any _ | (apply Le.agg; (repeat (apply LeL.cons; (first | exact Le.refl _ | exact Le.nil _ | exact Le.full _ _ | exact Le.any _))); exact LeL.nil)))); exact LeL.nil)))); exact LeL.nil)
  · subst hr
    (repeat (first | apply cn | apply cq | apply cb | apply ck | apply cl | apply cx))
    exact rhn kR ⟨_, rfl, h3⟩ (Le.refl _)
theorem Bd.stand {n : Nd} (h : Bd n) : Bd (standN n) := ⟨h.id0, h.id5, h.log, h.base0, h.base1, h.conf0, h.conf1⟩
set_option maxHeartbeats 2000000 in
theorem stand_fn {b : Nat} {n : Nd} {out : List Ms} {H : Heap} (hn : Bd n) (hl : n.log.length < 100000000) (ht0 : 0 ≤ n.term) (ht1 : n.term ≤ 1000000000000) (ho : out.length ≤ 900) (hw : WkH b n out H) :
    FnH Tryz.prog 53 [pW b] H (fun r H' => r = .tup [] ∧ WkH b (standF n).1 (out ++ (standF n).2) H') := by
  have hb0 := hn.base0
  have hb1 := hn.base1
  have hi0 := hn.id0
  have hi5 := hn.id5
  have hC := Conf_fn (standN n) (by show n.log.length ≤ _; omega) (by show _ ≤ n.base; omega) (by show n.base ≤ _; omega)
  have hL := last_fn (standN n) (by show n.log.length ≤ _; omega) (by show _ ≤ n.base; omega) (by show n.base ≤ _; omega)
  have hsh : bShl .i64 1 (IntKind.u64.wrap n.id) = 2 ^ n.id.toNat ∧ 0 ≤ (2 : Int) ^ n.id.toNat ∧ (2 : Int) ^ n.id.toNat ≤ 31 := by
    rcases five hi0 hi5 with h | h | h | h | h <;> rw [h] <;> decide
  have hwi : IntKind.u64.wrap n.id = n.id := wrap32 hi0 (by omega)
  have hM := most_fn (confF n).2 (2 ^ n.id.toNat) hsh.2.1 hsh.2.2 hn.conf0 hn.conf1
  refine fn_enter Tryz.func53 (by rfl) (by rfl) ?_
  intro S0 w0
  show Sim _ _ [(0, pW b)] _ _
  obtain ⟨vl, vo, Hl, Ho, h1, h2, rfl⟩ := hw
  obtain ⟨p, c, rfl⟩ := h1.len
  obtain ⟨q, d, rfl⟩ := h2.len
  (repeat (first | apply cn | apply cq | apply cb | apply ck | apply cl | apply cx))
  apply cr
  refine e_b1 fun b1 _ => ?_
  (repeat (first | apply cn | apply cq | apply cb | apply ck | apply cl | apply cx))
  refine ca [0, 1, 2, 3, 4, 5, 6, 7, 8, 9, 10, 11, 12, 13, 14, 15, 16, 17, 18, 19] [11, 15, 19] ?_
  refine a_lo ?_
  refine a_lo ?_
  refine a_lo ?_
  refine a_lo ?_
  refine a_ (fun _ => p_nc) ?_
  refine a_ (fun _ => p_fr) ?_
  refine a_ (fun _ => p_fr) ?_
  refine a_lo ?_
  refine a_ (fun _ => p_nc) ?_
  refine a_ (fun _ => p_fr) ?_
  refine a_ (fun _ => p_fr) ?_
  refine a_st ?_
  refine a_ (fun _ => p_nc) ?_
  refine a_ (fun _ => p_fr) ?_
  refine a_ (fun _ => p_fr) ?_
  refine a_st ?_
  refine a_ (fun _ => p_nc) ?_
  refine a_ (fun _ => p_fr) ?_
  refine a_ (fun _ => p_fr) ?_
  refine a_st ?_
  apply an
  (repeat (first | apply cn | apply cq | apply cb | apply ck | apply cl | apply cx))
  apply cr
  refine s_ p_lo ?_
  refine s_ p_nc ?_
  refine s_ p_fr ?_
  refine s_ p_fr ?_
  refine s_ p_lo ?_
  refine s_ p_ad ?_
  refine s_ p_nc ?_
  refine s_ p_fr ?_
  refine s_ p_fr ?_
  refine e_st ?_
  (repeat (first | apply cn | apply cq | apply cb | apply ck | apply cl | apply cx))
  refine ca [0, 1, 2, 3, 4, 5, 6, 7, 8, 9, 10, 11] [11] ?_
  refine a_lo ?_
  refine a_lo ?_
  refine a_ (fun _ => p_nc) ?_
  refine a_ (fun _ => p_fr) ?_
  refine a_ (fun _ => p_fr) ?_
  refine a_lo ?_
  refine a_ (fun _ => p_cv) ?_
  refine a_ (fun _ => p_shl) ?_
  refine a_ (fun _ => p_nc) ?_
  refine a_ (fun _ => p_fr) ?_
  refine a_ (fun _ => p_fr) ?_
  refine a_st ?_
  apply an
  (repeat (first | apply cn | apply cq | apply cb | apply ck | apply cl | apply cx))
  rw [hsh.1]
  (repeat (first | apply cn | apply cq | apply cb | apply ck | apply cl | apply cx))
  refine ca [0, 1, 2, 3, 4, 5, 6, 7, 8, 9, 10] [] ?_
  refine a_lo ?_
  refine a_ (fun _ => p_nc) ?_
  refine a_ (fun _ => p_fr) ?_
  refine a_loa ?_
  refine a_cL (G := (b, _) :: (Hl ++ (Ho ++ []))) hC (LendsL.cons (Lends.agg (node_lends _ (h1.lend (by intro p hp; simp [hp])))) LendsL.nil) ⟨[_], List.perm_append_comm (l₁ := [_])⟩ ?_
  refine a_lo ?_
  refine a_ (fun _ => p_nc) ?_
  refine a_ (fun _ => p_fr) ?_
  refine a_ (fun _ => p_fr) ?_
  refine a_lo ?_
  refine a_ (fun _ => p_ca (hM)) ?_
  apply an
  (repeat (first | apply cn | apply cq | apply cb | apply ck | apply cl | apply cx))
  have hw : WkH b (standN n) out ((b, ⟨tW, wkC (standN n) (.slice p (n.log.map een).length c) (.slice q (out.map ms).length d), 23⟩) :: (Hl ++ (Ho ++ []))) := ⟨_, _, Hl, Ho, h1, h2, rfl⟩
  refine ci ?_ ?_
  · intro hc
    (repeat (first | apply cn | apply cq | apply cb | apply ck | apply cl | apply cx))
    apply cr
    refine s_ p_lo ?_
    refine e_cH (Hr := [_]) (lead_fn hn.stand hl ho hw) (List.perm_append_comm (l₁ := [_])) (fun r H' ⟨hr, h3⟩ => ?_)
    subst hr
    (repeat (first | apply cn | apply cq | apply cb | apply ck | apply cl | apply cx))
    (apply sim_ret; (try simp only [blockΨ_ret, thenΨ_ret, loopL_ret, cutΨ_ret, cutE_ret]))
    refine rhp (List.perm_append_comm (l₂ := [_])) (.skip _ _ _ kR) ⟨rfl, ?_⟩ (Le.refl _)
    have hm : mostF (confF n).2 (2 ^ n.id.toNat) = true := decide_eq_true hc
    rw [standF, if_pos hm]
    exact h3
  · intro hc
    (repeat (first | apply cn | apply cq | apply cb | apply ck | apply cl | apply cx))
    apply cr
    refine s_ p_lo ?_
    refine s_ p_nc ?_
    refine s_ p_fr ?_
    refine s_ p_loa ?_
    refine s_ (p_cL (G := (b, _) :: (Hl ++ (Ho ++ []))) hL (LendsL.cons (Lends.agg (node_lends _ (h1.lend (by intro p hp; simp [hp])))) LendsL.nil) ⟨[_], List.perm_append_comm (l₁ := [_])⟩) ?_
    refine s_ p_mv ?_
    refine s_ p_ex ?_
    refine s_ p_ex ?_
    refine e_al fun b2 _ => ?_
    refine e_al fun b3 _ => ?_
    refine e_st ?_
    refine e_st ?_
    (repeat (first | apply cn | apply cq | apply cb | apply ck | apply cl | apply cx))
    apply cr
    refine s_ p_lo ?_
    refine s_ p_mf ?_
    have hO := others_fn (fun to => sendF (standN n) to (askM (lastF (standN n)) (termF (standN n) (lastF (standN n))))) 77 [] [pW b1, pW b2, pW b3] (by rfl) hn.stand ho hw (fun to out' H2 h0 h5 ho2 hw2 => ask_fn (b1 := b1) (b2 := b2) (b3 := b3) to _ _ (by omega) hw2)
    refine e_cH (Hr := []) hO ?_ (fun r H' hh => ?_)
    · exact List.Perm.trans (l₂ := (_ :: _) ++ (_ :: _ :: _ :: [])) (List.perm_append_comm (l₁ := _ :: _ :: _ :: [])) (List.Perm.of_eq (List.append_nil _).symm)
    obtain ⟨hr, H1, e, h3⟩ := hh
    subst hr
    subst e
    (repeat (first | apply cn | apply cq | apply cb | apply ck | apply cl | apply cx))
    rw [List.append_nil]
    refine rhn (kH (r' := []) kN) ⟨rfl, ?_⟩ (Le.refl _)
    have hm : ¬ mostF (confF n).2 (2 ^ n.id.toNat) = true := fun h => hc (of_decide_eq_true h)
    rw [standF, if_neg hm, List.append_nil]
    exact h3
end Go.Proofs.YtbdpfclnomiicaaGreat
