/-
  replica: votes counted; how far others agree; an entry laid.
-/
import Derived.Test.YtbdpfclnomiicaaGreatVote
set_option maxRecDepth 4000
namespace Go.Proofs.YtbdpfclnomiicaaGreat
open Go.Cap
set_option linter.unusedSimpArgs false
set_option linter.unusedVariables false
attribute [local irreducible] POp SimFrom DrawFrom EOp Sim FnH T.gp
def orI (a b : Int) : Int := (a.toNat ||| b.toNat : Nat)
theorem or_eq {x y : Int} (h0 : 0 ≤ x) (h1 : x ≤ 31) (h2 : 0 ≤ y) (h3 : y < 5) : bOr .i64 x (bShl .i64 1 (IntKind.u64.wrap y)) = orI x (2 ^ y.toNat) ∧ 0 ≤ orI x (2 ^ y.toNat) ∧ orI x (2 ^ y.toNat) ≤ 31 := by
  have key : ∀ i : Fin 32, ∀ j : Fin 5, bOr .i64 i.val (bShl .i64 1 (IntKind.u64.wrap (j.val : Nat))) = orI i.val (2 ^ j.val) ∧ 0 ≤ orI i.val (2 ^ j.val) ∧ orI i.val (2 ^ j.val) ≤ 31 := by decide
  obtain ⟨i, rfl⟩ := fin32 h0 h1
  obtain ⟨j, rfl⟩ : ∃ j : Nat, y = (j : Int) := ⟨y.toNat, by omega⟩
  exact key i ⟨j, by omega⟩
def countN (n : Nd) (m : Ms) : Nd := { n with votes := orI n.votes (2 ^ m.frm.toNat) }
def votedF (n : Nd) (m : Ms) : Nd × List Ms := if (¬ m.term = n.term ∨ ¬ n.role = 1) ∨ ¬ m.yes = true then (n, []) else
  if mostF (confF n).2 (orI n.votes (2 ^ m.frm.toNat)) then (leadF (countN n m), toAll (leadF (countN n m)) (oweF (leadF (countN n m))) 5) else (countN n m, [])
set_option maxHeartbeats 2000000 in
theorem voted_fn {b : Nat} {n : Nd} {out : List Ms} {H : Heap} (m : Ms) (hn : Bd n) (hl : n.log.length < 100000000) (hv0 : 0 ≤ n.votes) (hv1 : n.votes ≤ 31) (hf0 : 0 ≤ m.frm) (hf5 : m.frm < 5) (ho : out.length ≤ 900) (hw : WkH b n out H) :
    FnH Tryz.prog 56 [pW b, ms m] H (fun r H' => r = .tup [] ∧ WkH b (votedF n m).1 (out ++ (votedF n m).2) H') := by
  have hb0 := hn.base0
  have hb1 := hn.base1
  have hlog := hn.log
  have hor := or_eq hv0 hv1 hf0 hf5
  have hwf : IntKind.u64.wrap m.frm = m.frm := wrap32 hf0 (by omega)
  have hC := Conf_fn (countN n m) (by show n.log.length ≤ _; omega) (by show _ ≤ n.base; omega) (by show n.base ≤ _; omega)
  have hM := most_fn (confF n).2 (orI n.votes (2 ^ m.frm.toNat)) hor.2.1 hor.2.2 hn.conf0 hn.conf1
  rw [ms_dec]
  refine fn_enter Tryz.func56 (by rfl) (by rfl) ?_
  intro S0 w0
  show Sim _ _ [(0, pW b), (1, T.agg [ei m.kind, ei m.frm, ei m.to, ei m.term, ei m.index, ei m.logTerm, ei m.commit, ei m.conf, .v (.bool (decide (m.yes = true))), eens m.entries, es m.snap])] _ _
  obtain ⟨vl, vo, Hl, Ho, h1, h2, rfl⟩ := hw
  obtain ⟨p, c, rfl⟩ := h1.len
  obtain ⟨q, d, rfl⟩ := h2.len
  (repeat (first | apply cn | apply cq | apply cb | apply ck | apply cl | apply cx))
  apply cr
  refine e_bx fun b3 _ => ?_
  (repeat (first | apply cn | apply cq | apply cb | apply ck | apply cl | apply cx))
  refine lend1 3 (by simp) ?_
  (repeat (first | apply cn | apply cq | apply cb | apply ck | apply cl | apply cx))
  refine ca [0, 1, 2, 3, 4, 5, 6, 7, 8, 9, 10, 11, 12, 13, 14, 15, 16, 17, 18, 19, 20] [] ?_
  refine a_ (fun _ => p_fa) ?_
  refine a_ (fun _ => p_ld) ?_
  refine a_ (fun _ => p_mv) ?_
  refine a_ (fun _ => p_nc) ?_
  refine a_ (fun _ => p_fr) ?_
  refine a_ (fun _ => p_fr) ?_
  refine a_lo ?_
  refine a_ (fun _ => p_ne) ?_
  refine a_ (fun _ => p_mv) ?_
  refine ag_F (fun _ hg => p_mv) ?_
  refine ag_F (fun _ hg => p_nc (hx := u_ hg)) ?_
  refine ag_F (fun _ hg => p_fr (hx := u_ hg)) ?_
  refine ag_F (fun _ hg => p_fr (hx := u_ hg)) ?_
  refine ag_loF ?_
  refine ag_F (fun _ hg => p_ne (hx := u_ hg)) ?_
  refine a_ (fun _ => p_or) ?_
  refine a_ (fun _ => p_mv) ?_
  refine ag_F (fun _ hg => p_fa) ?_
  refine ag_F (fun _ hg => p_ld (hx := u_ hg)) ?_
  refine ag_F (fun _ hg => p_no (hx := u_ hg)) ?_
  refine a_ (fun _ => p_or) ?_
  apply an
  (repeat (first | apply cn | apply cq | apply cb | apply ck | apply cl | apply cx))
  refine ci ?_ ?_
  · intro hc
    (apply sim_ret; (try simp only [blockΨ_ret, thenΨ_ret, loopL_ret, cutΨ_ret, cutE_ret]))
    refine rh kR ⟨rfl, ?_⟩ (Le.refl _)
    rw [votedF, if_pos hc, List.append_nil]
    exact ⟨_, _, Hl, Ho, h1, h2, rfl⟩
  · intro hc
    (repeat (first | apply cn | apply cq | apply cb | apply ck | apply cl | apply cx))
    refine ca [0, 1, 2, 3, 4, 5, 6, 7, 8, 9, 10, 11, 12, 13] [13] ?_
    refine a_ (fun _ => p_mv) ?_
    refine a_ (fun _ => p_nc) ?_
    refine a_ (fun _ => p_fr) ?_
    refine a_ (fun _ => p_fr) ?_
    refine a_lo ?_
    refine a_ (fun _ => p_fa) ?_
    refine a_ (fun _ => p_ld) ?_
    refine a_ (fun _ => p_cv) ?_
    refine a_ (fun _ => p_shl) ?_
    refine a_ (fun _ => p_oor) ?_
    refine a_ (fun _ => p_nc) ?_
    refine a_ (fun _ => p_fr) ?_
    refine a_ (fun _ => p_fr) ?_
    refine a_st ?_
    apply an
    (repeat (first | apply cn | apply cq | apply cb | apply ck | apply cl | apply cx))
    rw [hor.1]
    have hw : WkH b (countN n m) out ((b, ⟨tW, wkC (countN n m) (.slice p (n.log.map een).length c) (.slice q (out.map ms).length d), 23⟩) :: (Hl ++ (Ho ++ []))) := ⟨_, _, Hl, Ho, h1, h2, rfl⟩
    (repeat (first | apply cn | apply cq | apply cb | apply ck | apply cl | apply cx))
    refine ca [0, 1, 2, 3, 4, 5, 6, 7, 8, 9, 10] [] ?_
    refine a_ (fun _ => p_mv) ?_
    refine a_ (fun _ => p_nc) ?_
    refine a_ (fun _ => p_fr) ?_
    refine a_loa ?_
    refine a_cL (G := (b, _) :: (Hl ++ (Ho ++ []))) hC (LendsL.cons (Lends.agg (node_lends _ (h1.lend (by intro p hp; simp [hp])))) LendsL.nil) ⟨[], perm0⟩ ?_
    refine a_ (fun _ => p_mv) ?_
    refine a_ (fun _ => p_nc) ?_
    refine a_ (fun _ => p_fr) ?_
    refine a_ (fun _ => p_fr) ?_
    refine a_lo ?_
    refine a_ (fun _ => p_ca (hM)) ?_
    apply an
    (repeat (first | apply cn | apply cq | apply cb | apply ck | apply cl | apply cx))
    refine ci ?_ ?_
    · intro hm
      (repeat (first | apply cn | apply cq | apply cb | apply ck | apply cl | apply cx))
      apply cr
      refine s_ p_mv ?_
      refine e_cHA (lead_fn (hn.of (n' := countN n m)) hl ho hw) (fun r H' ⟨hr, h3⟩ => ?_)
      subst hr
      (repeat (first | apply cn | apply cq | apply cb | apply ck | apply cl | apply cx))
      refine rhn kR ⟨rfl, ?_⟩ (Le.refl _)
      have hm' : mostF (confF n).2 (orI n.votes (2 ^ m.frm.toNat)) = true := decide_eq_true hm
      rw [votedF, if_neg hc, if_pos hm']
      exact h3
    · intro hm
      (repeat (first | apply cn | apply cq | apply cb | apply ck | apply cl | apply cx))
      refine rhn kR ⟨rfl, ?_⟩ (Le.refl _)
      have hm' : ¬ mostF (confF n).2 (orI n.votes (2 ^ m.frm.toNat)) = true := fun h => hm (of_decide_eq_true h)
      rw [votedF, if_neg hc, if_neg hm', List.append_nil]
      exact hw
theorem mtch_at {n : Nd} {vl vo : Value} {to : Int} (h0 : 0 ≤ to) (h5 : to < 5) : (wkC n vl vo)[0 + 0 + 17 + to.toNat * 1]? = some (ei (n.mtch.get to.toNat)) := by
  rcases five h0 h5 with rfl | rfl | rfl | rfl | rfl <;> rfl
theorem lay_nextI {n : Nd} {vl vo : Value} {i : Int} (h0 : 0 ≤ i) (h5 : i < 5) (v : Int) : lay (wkC n vl vo) (0 + 0 + 12 + i.toNat * 1) (T.v (.int .i64 v)).cells = wkC { n with next := n.next.set i.toNat v } vl vo := by
  rcases five h0 h5 with rfl | rfl | rfl | rfl | rfl <;> rfl
theorem lay_mtchI {n : Nd} {vl vo : Value} {i : Int} (h0 : 0 ≤ i) (h5 : i < 5) (v : Int) : lay (wkC n vl vo) (0 + 0 + 17 + i.toNat * 1) (T.v (.int .i64 v)).cells = wkC { n with mtch := n.mtch.set i.toNat v } vl vo := by
  rcases five h0 h5 with rfl | rfl | rfl | rfl | rfl <;> rfl
theorem get_set (f : F5) {i : Int} (h0 : 0 ≤ i) (h5 : i < 5) (v : Int) : (f.set i.toNat v).get i.toNat = v := by
  rcases five h0 h5 with rfl | rfl | rfl | rfl | rfl <;> rfl
def agreeN (n : Nd) (m : Ms) : Nd := { n with mtch := n.mtch.set m.frm.toNat (max (n.mtch.get m.frm.toNat) m.index), next := n.next.set m.frm.toNat (max (n.mtch.get m.frm.toNat) m.index + 1) }
def backN (n : Nd) (m : Ms) : Nd := { n with next := n.next.set m.frm.toNat (max (max (min (n.next.get m.frm.toNat - 1) (m.index + 1)) 1) (n.mtch.get m.frm.toNat + 1)) }
def heardF (n : Nd) (m : Ms) : Nd × List Ms := if ¬ m.term = n.term ∨ ¬ n.role = 2 then (n, []) else if m.yes = true then (commitF (agreeN n m), []) else
  if (backN n m).next.get m.frm.toNat ≤ lastF n then (backN n m, [oweF (backN n m) m.frm]) else (backN n m, [])
set_option maxHeartbeats 2000000 in
theorem heard_fn {b : Nat} {n : Nd} {out : List Ms} {H : Heap} (m : Ms) (hn : Bd n) (hf0 : 0 ≤ m.frm) (hf5 : m.frm < 5) (hx0 : -100000000000 ≤ n.next.get m.frm.toNat) (hx1 : n.next.get m.frm.toNat ≤ 50000000000) (hm0 : -100000000000 ≤ n.mtch.get m.frm.toNat) (hm1 : n.mtch.get m.frm.toNat ≤ 50000000000) (hi0 : -100000000000 ≤ m.index) (hi1 : m.index ≤ 50000000000) (ho : out.length ≤ 900) (hw : WkH b n out H) :
    FnH Tryz.prog 58 [pW b, ms m] H (fun r H' => r = .tup [] ∧ WkH b (heardF n m).1 (out ++ (heardF n m).2) H') := by
  have hb0 := hn.base0
  have hb1 := hn.base1
  have hlog := hn.log
  have hL := last_fn (backN n m) (by show n.log.length ≤ _; omega) (by show _ ≤ n.base; omega) (by show n.base ≤ _; omega)
  rw [ms_dec]
  refine fn_enter Tryz.func58 (by rfl) (by rfl) ?_
  intro S0 w0
  show Sim _ _ [(0, pW b), (1, T.agg [ei m.kind, ei m.frm, ei m.to, ei m.term, ei m.index, ei m.logTerm, ei m.commit, ei m.conf, .v (.bool (decide (m.yes = true))), eens m.entries, es m.snap])] _ _
  obtain ⟨vl, vo, Hl, Ho, h1, h2, rfl⟩ := hw
  obtain ⟨p, c, rfl⟩ := h1.len
  obtain ⟨q, d, rfl⟩ := h2.len
  (repeat (first | apply cn | apply cq | apply cb | apply ck | apply cl | apply cx))
  apply cr
  refine e_bx fun b3 _ => ?_
  (repeat (first | apply cn | apply cq | apply cb | apply ck | apply cl | apply cx))
  refine lend1 3 (by simp) ?_
  (repeat (first | apply cn | apply cq | apply cb | apply ck | apply cl | apply cx))
  refine ca [0, 1, 2, 3, 4, 5, 6, 7, 8, 9, 10, 11, 12, 13, 14, 15] [] ?_
  refine a_ (fun _ => p_fa) ?_
  refine a_ (fun _ => p_ld) ?_
  refine a_ (fun _ => p_mv) ?_
  refine a_ (fun _ => p_nc) ?_
  refine a_ (fun _ => p_fr) ?_
  refine a_ (fun _ => p_fr) ?_
  refine a_lo ?_
  refine a_ (fun _ => p_ne) ?_
  refine a_ (fun _ => p_mv) ?_
  refine ag_F (fun _ hg => p_mv) ?_
  refine ag_F (fun _ hg => p_nc (hx := u_ hg)) ?_
  refine ag_F (fun _ hg => p_fr (hx := u_ hg)) ?_
  refine ag_F (fun _ hg => p_fr (hx := u_ hg)) ?_
  refine ag_loF ?_
  refine ag_F (fun _ hg => p_ne (hx := u_ hg)) ?_
  refine a_ (fun _ => p_or) ?_
  apply an
  (repeat (first | apply cn | apply cq | apply cb | apply ck | apply cl | apply cx))
  refine ci ?_ ?_
  · intro hc
    (apply sim_ret; (try simp only [blockΨ_ret, thenΨ_ret, loopL_ret, cutΨ_ret, cutE_ret]))
    refine rh kR ⟨rfl, ?_⟩ (Le.refl _)
    rw [heardF, if_pos hc, List.append_nil]
    exact ⟨_, _, Hl, Ho, h1, h2, rfl⟩
  · intro hc
    (repeat (first | apply cn | apply cq | apply cb | apply ck | apply cl | apply cx))
    apply cr
    refine s_ p_fa ?_
    refine s_ p_ld ?_
    (repeat (first | apply cn | apply cq | apply cb | apply ck | apply cl | apply cx))
    refine ci ?_ ?_
    · intro hy
      (repeat (first | apply cn | apply cq | apply cb | apply ck | apply cl | apply cx))
      refine ca [0, 1, 2, 3, 4, 5, 6, 7, 8, 9, 10, 11, 12, 13, 14, 15, 16, 17, 18] [18] ?_
      refine a_ (fun _ => p_mv) ?_
      refine a_ (fun _ => p_fa) ?_
      refine a_ (fun _ => p_ld) ?_
      refine a_ (fun _ => p_mv) ?_
      refine a_ (fun _ => p_fa) ?_
      refine a_ (fun _ => p_ld) ?_
      refine a_ (fun _ => p_nc) ?_
      refine a_ (fun _ => p_fr) ?_
      refine a_ (fun _ => p_fr) ?_
      refine a_ (fun _ => p_ar) ?_
      refine a_lo (hd := mtch_at hf0 hf5) ?_
      refine a_ (fun _ => p_fa) ?_
      refine a_ (fun _ => p_ld) ?_
      refine a_ (fun _ => p_ma) ?_
      refine a_ (fun _ => p_nc) ?_
      refine a_ (fun _ => p_fr) ?_
      refine a_ (fun _ => p_fr) ?_
      refine a_ (fun _ => p_ar) ?_
      refine a_ss ?_ ?_
      · simp only [wkC_len, ei_cells, T.cells, Value.cells]; simp; omega
      rw [lay_mtchI hf0 hf5]
      have hd2 : ∀ vl vo, (wkC { n with mtch := n.mtch.set m.frm.toNat (max (n.mtch.get m.frm.toNat) m.index) } vl vo)[0 + 0 + 17 + m.frm.toNat * 1]? = some (ei (max (n.mtch.get m.frm.toNat) m.index)) := fun _ _ => by rw [mtch_at hf0 hf5, get_set _ hf0 hf5]
      apply an
      (repeat (first | apply cn | apply cq | apply cb | apply ck | apply cl | apply cx))
      refine ca [0, 1, 2, 3, 4, 5, 6, 7, 8, 9, 10, 11, 12, 13, 14, 15, 16] [16] ?_
      refine a_ (fun _ => p_mv) ?_
      refine a_ (fun _ => p_fa) ?_
      refine a_ (fun _ => p_ld) ?_
      refine a_ (fun _ => p_mv) ?_
      refine a_ (fun _ => p_fa) ?_
      refine a_ (fun _ => p_ld) ?_
      refine a_ (fun _ => p_nc) ?_
      refine a_ (fun _ => p_fr) ?_
      refine a_ (fun _ => p_fr) ?_
      refine a_ (fun _ => p_ar) ?_
      refine a_lo (hd := hd2 _ _) ?_
      refine a_ (fun _ => p_ad) ?_
      refine a_ (fun _ => p_nc) ?_
      refine a_ (fun _ => p_fr) ?_
      refine a_ (fun _ => p_fr) ?_
      refine a_ (fun _ => p_ar) ?_
      refine a_ss ?_ ?_
      · simp only [wkC_len, ei_cells, T.cells, Value.cells]; simp; omega
      rw [lay_nextI hf0 hf5]
      apply an
      (repeat (first | apply cn | apply cq | apply cb | apply ck | apply cl | apply cx))
      apply cr
      refine s_ p_mv ?_
      refine e_cHA (commit_fn (hn.of (n' := agreeN n m)) ⟨_, _, Hl, Ho, h1, h2, rfl⟩) (fun r H' ⟨hr, h3⟩ => ?_)
      subst hr
      (repeat (first | apply cn | apply cq | apply cb | apply ck | apply cl | apply cx))
      (apply sim_ret; (try simp only [blockΨ_ret, thenΨ_ret, loopL_ret, cutΨ_ret, cutE_ret]))
      refine rh kR ⟨rfl, ?_⟩ (Le.refl _)
      rw [heardF, if_neg hc, if_pos hy, List.append_nil]
      exact h3
    · intro hy
      (repeat (first | apply cn | apply cq | apply cb | apply ck | apply cl | apply cx))
      refine ca [0, 1, 2, 3, 4, 5, 6, 7, 8, 9, 10, 11, 12, 13, 14, 15, 16, 17, 18, 19, 20, 21, 22, 23, 24, 25, 26, 27, 28, 29, 30] [30] ?_
      refine a_ (fun _ => p_mv) ?_
      refine a_ (fun _ => p_fa) ?_
      refine a_ (fun _ => p_ld) ?_
      refine a_ (fun _ => p_mv) ?_
      refine a_ (fun _ => p_fa) ?_
      refine a_ (fun _ => p_ld) ?_
      refine a_ (fun _ => p_nc) ?_
      refine a_ (fun _ => p_fr) ?_
      refine a_ (fun _ => p_fr) ?_
      refine a_ (fun _ => p_ar) ?_
      refine a_lo (hd := next_at hf0 hf5) ?_
      refine a_ (fun _ => p_su) ?_
      refine a_ (fun _ => p_fa) ?_
      refine a_ (fun _ => p_ld) ?_
      refine a_ (fun _ => p_ad) ?_
      refine a_ (fun _ => p_mi) ?_
      refine a_ (fun _ => p_mv) ?_
      refine a_ (fun _ => p_fa) ?_
      refine a_ (fun _ => p_ld) ?_
      refine a_ (fun _ => p_nc) ?_
      refine a_ (fun _ => p_fr) ?_
      refine a_ (fun _ => p_fr) ?_
      refine a_ (fun _ => p_ar) ?_
      refine a_lo (hd := mtch_at hf0 hf5) ?_
      refine a_ (fun _ => p_ad) ?_
      refine a_ (fun _ => p_ma3) ?_
      refine a_ (fun _ => p_nc) ?_
      refine a_ (fun _ => p_fr) ?_
      refine a_ (fun _ => p_fr) ?_
      refine a_ (fun _ => p_ar) ?_
      refine a_ss ?_ ?_
      · simp only [wkC_len, ei_cells, T.cells, Value.cells]; simp; omega
      rw [lay_nextI hf0 hf5]
      have hw : WkH b (backN n m) out ((b, ⟨tW, wkC (backN n m) (.slice p (n.log.map een).length c) (.slice q (out.map ms).length d), 23⟩) :: (Hl ++ (Ho ++ []))) := ⟨_, _, Hl, Ho, h1, h2, rfl⟩
      apply an
      (repeat (first | apply cn | apply cq | apply cb | apply ck | apply cl | apply cx))
      apply cr
      refine s_ p_mv ?_
      refine s_ p_nc ?_
      refine s_ p_fr ?_
      refine s_ p_loa ?_
      refine s_ (p_cLA hL (LendsL.cons (Lends.agg (node_lends (backN n m) (h1.lend (by intro p hp; simp [hp])))) LendsL.nil)) ?_
      refine s_ p_mv ?_
      refine s_ p_ex ?_
      refine s_ p_ex ?_
      refine s_ p_as ?_
      refine s_ p_as ?_
      (repeat (first | apply cn | apply cq | apply cb | apply ck | apply cl | apply cx))
      refine ca [0, 1, 2, 3, 4, 5, 6, 7, 8, 9] [] ?_
      refine a_ (fun _ => p_mv) ?_
      refine a_ (fun _ => p_fa) ?_
      refine a_ (fun _ => p_ld) ?_
      refine a_ (fun _ => p_nc) ?_
      refine a_ (fun _ => p_fr) ?_
      refine a_ (fun _ => p_fr) ?_
      refine a_ (fun _ => p_ar) ?_
      refine a_lo (hd := next_at (n := backN n m) hf0 hf5) ?_
      refine a_ (fun _ => p_mv) ?_
      refine a_ (fun _ => p_le) ?_
      apply an
      (repeat (first | apply cn | apply cq | apply cb | apply ck | apply cl | apply cx))
      refine ci ?_ ?_
      · intro hle
        (repeat (first | apply cn | apply cq | apply cb | apply ck | apply cl | apply cx))
        apply cr
        refine s_ p_mv ?_
        refine s_ p_fa ?_
        refine s_ p_ld ?_
        refine e_cHA (owe_fn m.frm hf0 hf5 (by show n.log.length ≤ _; omega) (by show _ ≤ n.base; omega) (by show n.base ≤ _; omega) ?_ (by omega) hw) (fun r H' ⟨hr, h3⟩ => ?_)
        · have : (backN n m).next.get m.frm.toNat = max (max (min (n.next.get m.frm.toNat - 1) (m.index + 1)) 1) (n.mtch.get m.frm.toNat + 1) := get_set _ hf0 hf5 _
          rw [this]; omega
        subst hr
        (repeat (first | apply cn | apply cq | apply cb | apply ck | apply cl | apply cx))
        refine rhn kR ⟨rfl, ?_⟩ (Le.refl _)
        have hle' : (backN n m).next.get m.frm.toNat ≤ lastF n := hle
        rw [heardF, if_neg hc, if_neg hy, if_pos hle']
        exact h3
      · intro hle
        (repeat (first | apply cn | apply cq | apply cb | apply ck | apply cl | apply cx))
        refine rhn kR ⟨rfl, ?_⟩ (Le.refl _)
        have hle' : ¬ (backN n m).next.get m.frm.toNat ≤ lastF n := hle
        rw [heardF, if_neg hc, if_neg hy, if_neg hle', List.append_nil]
        exact hw
def putN (n : Nd) (e : En) : Nd := { n with log := n.log ++ [⟨n.term, e.conf, e.cmd⟩], mtch := n.mtch.set n.id.toNat (n.base + (n.log.length + 1)) }
def putF (n : Nd) (e : En) : Nd := commitF (putN n e)
theorem lc_app1 (l : List En) (e : En) : lc (l ++ [e]) (l ++ [e]).length = if e.conf ≠ 0 then some (l.length, e.conf) else lc l l.length := by
  rw [List.length_append, List.length_singleton, lc]
  have : (l ++ [e]).getD l.length default = e := by simp [List.getD_eq_getElem?_getD]
  rw [this]
  split
  · rfl
  · exact lc_app0 _ _ _ (Nat.le_refl _)
theorem Bd.put {n : Nd} {e : En} (h : Bd n) (hl : n.log.length < 100000000) (h0 : 0 ≤ e.conf) (h1 : e.conf ≤ 31) : Bd (putN n e) := by
  have hc : (confF (putN n e)).2 = if e.conf ≠ 0 then e.conf else (confF n).2 := by
    have := lc_app1 n.log ⟨n.term, e.conf, e.cmd⟩
    by_cases hz : e.conf ≠ 0
    · rw [if_pos hz] at this ⊢
      simp only [confF, putN, this]
    · rw [if_neg hz] at this ⊢
      simp only [confF, putN, this]
  refine ⟨h.id0, h.id5, by simp [putN]; omega, h.base0, h.base1, ?_, ?_⟩ <;> rw [hc] <;> split
  · exact h0
  · exact h.conf0
  · exact h1
  · exact h.conf1
set_option maxHeartbeats 2000000 in
theorem put_fn {b : Nat} {n : Nd} {out : List Ms} {H : Heap} (e : En) (hn : Bd n) (hl : n.log.length < 100000000) (hc0 : 0 ≤ e.conf) (hc1 : e.conf ≤ 31) (hw : WkH b n out H) :
    FnP' Tryz.prog 60 [pW b, een e] H (.tup [nd (putF n e), ei (n.base + (n.log.length + 1)), ei 0]) := by
  have hb0 := hn.base0
  have hb1 := hn.base1
  have hi0 := hn.id0
  have hi5 := hn.id5
  have hL := last_fn { n with log := n.log ++ [⟨n.term, e.conf, e.cmd⟩] } (by simp; omega) (by simp only; omega) (by simp only; omega)
  refine fn_enter Tryz.func60 (by rfl) (by rfl) ?_
  intro S0 w0
  show Sim _ _ [(0, pW b), (1, een e)] _ _
  obtain ⟨vl, vo, Hl, Ho, h1, h2, rfl⟩ := hw
  obtain ⟨p, c, rfl⟩ := h1.len
  obtain ⟨q, d, rfl⟩ := h2.len
  (repeat (first | apply cn | apply cq | apply cb | apply ck | apply cl | apply cx))
  apply cr
  refine e_bx fun b3 _ => ?_
  refine e_al fun b4 _ => ?_
  refine s_ p_as ?_
  refine s_ p_as ?_
  (repeat (first | apply cn | apply cq | apply cb | apply ck | apply cl | apply cx))
  apply cr
  refine s_ p_mv ?_
  refine s_ p_nc ?_
  refine s_ p_fr ?_
  refine s_ p_fr ?_
  refine s_ p_lo ?_
  refine s_ p_fr ?_
  refine e_st ?_
  (repeat (first | apply cn | apply cq | apply cb | apply ck | apply cl | apply cx))
  (repeat (first | apply cn | apply cq | apply cb | apply ck | apply cl | apply cx))
  refine ca [0, 1, 2, 3, 4, 5, 6, 7, 8, 9, 10, 11, 12] [8, 12] ?_
  refine a_ (fun _ => p_mv) ?_
  refine a_ (fun _ => p_mv) ?_
  refine a_ (fun _ => p_nc) ?_
  refine a_ (fun _ => p_fr) ?_
  refine a_ (fun _ => p_fr) ?_
  refine a_lo ?_
  refine a_loa ?_
  refine a_ (fun _ => p_bs) ?_
  refine a_os (ho := h1) (A := [_, _, _]) (B := Ho ++ []) (een3 n.log) (fun v' Hl' h1' => ⟨by (repeat (first | exact trivial | (apply And.intro; focus (intro hb; first | exact trivial | exact noB hb rfl | (repeat (first | exact hZ | apply hS | apply hA)))))), ?_⟩)
  (apply Exists.intro; apply And.intro; (focus (repeat (first | exact PDrop.nil | apply PDrop.dropL rfl | apply PDrop.keep))))
  have h1 : OE (n.log ++ [⟨n.term, e.conf, e.cmd⟩]) v' Hl' := by unfold OE; rw [List.map_append]; exact h1'
  clear h1'
  obtain ⟨p, c, rfl⟩ := h1.len
  refine a_ (fun _ => p_nc) ?_
  refine a_ (fun _ => p_fr) ?_
  refine a_ (fun _ => p_fr) ?_
  refine a_st ?_
  apply an
  (repeat (first | apply cn | apply cq | apply cb | apply ck | apply cl | apply cx))
  apply cr
  refine s_ p_mv ?_
  refine s_ p_nc ?_
  refine s_ p_fr ?_
  refine s_ p_loa ?_
  refine s_ (p_cL (G := (b, _) :: (Hl' ++ (Ho ++ []))) hL (LendsL.cons (Lends.agg (node_lends _ (h1.lend (by intro p hp; simp [hp])))) LendsL.nil) ⟨[_, _], List.perm_append_comm (l₁ := _ :: _ :: [])⟩) ?_
  have hLF : lastF { n with log := n.log ++ [⟨n.term, e.conf, e.cmd⟩] } = n.base + (n.log.length + 1) := by simp [lastF]
  rw [hLF]
  refine s_ p_mv ?_
  refine s_ p_ex ?_
  refine s_ p_ex ?_
  refine s_ p_as ?_
  refine s_ p_as ?_
  (repeat (first | apply cn | apply cq | apply cb | apply ck | apply cl | apply cx))
  refine ca [0, 1, 2, 3, 4, 5, 6, 7, 8, 9, 10, 11] [11] ?_
  refine a_ (fun _ => p_mv) ?_
  refine a_ (fun _ => p_mv) ?_
  refine a_ (fun _ => p_nc) ?_
  refine a_ (fun _ => p_fr) ?_
  refine a_ (fun _ => p_fr) ?_
  refine a_lo ?_
  refine a_ (fun _ => p_mv) ?_
  refine a_ (fun _ => p_nc) ?_
  refine a_ (fun _ => p_fr) ?_
  refine a_ (fun _ => p_fr) ?_
  refine a_ (fun _ => p_ar) ?_
  refine a_ss ?_ ?_
  · simp only [wkC_len, ei_cells, wkC, nodeC]; simp; omega
  apply an
  (repeat (first | apply cn | apply cq | apply cb | apply ck | apply cl | apply cx))
  have hm : lay (wkC { n with log := n.log ++ [⟨n.term, e.conf, e.cmd⟩] } (.slice p ((n.log ++ [(⟨n.term, e.conf, e.cmd⟩ : En)]).map een).length c) (.slice q (out.map ms).length d)) (0 + 0 + 17 + n.id.toNat * 1) (ei (n.base + (n.log.length + 1))).cells = wkC (putN n e) (.slice p ((n.log ++ [(⟨n.term, e.conf, e.cmd⟩ : En)]).map een).length c) (.slice q (out.map ms).length d) := lay_mtchI hi0 hi5 _
  have hw : WkH b (putN n e) out ((b, ⟨tW, lay (wkC { n with log := n.log ++ [⟨n.term, e.conf, e.cmd⟩] } (.slice p ((n.log ++ [(⟨n.term, e.conf, e.cmd⟩ : En)]).map een).length c) (.slice q (out.map ms).length d)) (0 + 0 + 17 + n.id.toNat * 1) (ei (n.base + (n.log.length + 1))).cells, 23⟩) :: (Hl' ++ (Ho ++ []))) := by
    rw [hm]
    exact ⟨_, _, Hl', Ho, h1, h2, rfl⟩
  have hn' := hn.put hl hc0 hc1
  (repeat (first | apply cn | apply cq | apply cb | apply ck | apply cl | apply cx))
  apply cr
  refine s_ p_mv ?_
  refine e_cH (Hr := _ :: _ :: []) (commit_fn hn' hw) (List.perm_append_comm (l₁ := _ :: _ :: [])) (fun r H' ⟨hr, h3⟩ => ?_)
  subst hr
  
  (repeat (first | apply cn | apply cq | apply cb | apply ck | apply cl | apply cx))
  apply cr
  refine s_ p_mv ?_
  refine e_cH (done_fn (by have := hn'.commit.log; omega) h3) (.refl _) (fun r H' ⟨hr, hr2⟩ => ?_)
  subst hr hr2
  refine s_ p_mv ?_
  refine s_ p_ex ?_
  refine s_ p_ex ?_
  refine e_al fun b9 _ => ?_
  refine e_st ?_
  refine s_ p_as ?_
  (repeat (first | apply cn | apply cq | apply cb | apply ck | apply cl | apply cx))
  apply cr
  refine s_ p_loa ?_
  refine s_ p_mv ?_
  refine e_st ?_
  refine s_ p_as ?_
  refine s_ p_as ?_
  (repeat (first | apply cn | apply cq | apply cb | apply ck | apply cl | apply cx))
  (apply sim_ret; (try simp only [blockΨ_ret, thenΨ_ret, loopL_ret, cutΨ_ret, cutE_ret]))
  exact rh kN ⟨rfl, rfl⟩ (Le.refl _)
end Go.Proofs.YtbdpfclnomiicaaGreat
