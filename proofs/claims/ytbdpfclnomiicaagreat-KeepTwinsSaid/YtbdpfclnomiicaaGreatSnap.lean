/-
  replica: a snapshot, laid by one that follows.
-/
import Derived.Test.YtbdpfclnomiicaaGreatAdd
set_option maxRecDepth 4000
namespace Go.Proofs.YtbdpfclnomiicaaGreat
open Go.Cap
set_option linter.unusedSimpArgs false
set_option linter.unusedVariables false
attribute [local irreducible] POp SimFrom DrawFrom EOp Sim FnH T.gp
def restF (n : Nd) (m : Ms) : List En := if (m.index ≤ lastF n ∧ n.base < m.index) ∧ termF n m.index = m.logTerm then n.log.drop (m.index - n.base).toNat else []
def snapN (n : Nd) (m : Ms) : Nd := { quietN n with log := restF n m, base := m.index, baseTerm := m.logTerm, baseConf := m.conf, snap := m.snap, commit := m.index }
def snapF (n : Nd) (m : Ms) : Nd × List Ms := if m.term < n.term then (n, [sendF n m.frm (addedM false 0)]) else
  if n.commit < m.index then (snapN n m, [sendF (snapN n m) m.frm (addedM true (max m.index n.commit))]) else (quietN n, [sendF (quietN n) m.frm (addedM true (max m.index n.commit))])
theorem kApp {H B : Heap} (h : HeapFront B []) : HeapFront (H ++ B) H := by
  induction H with
  | nil => exact h
  | cons p H ih => exact .keep _ _ _ _ _ (BlkLe.refl _) ih
set_option maxHeartbeats 4000000 in
theorem snap_fn {b : Nat} {n : Nd} {out : List Ms} {H : Heap} (m : Ms) (hn : Bd n) (hi0 : -50000000000 ≤ m.index) (hi1 : m.index ≤ 50000000000) (ho : out.length ≤ 900) (hw : WkH b n out H) :
    FnH Tryz.prog 59 [pW b, ms m] H (fun r H' => r = .tup [] ∧ WkH b (snapF n m).1 (out ++ (snapF n m).2) H') := by
  have hb0 := hn.base0
  have hb1 := hn.base1
  have hlog := hn.log
  have hL := last_fn (quietN n) (by show n.log.length ≤ _; omega) (by show _ ≤ n.base; omega) (by show n.base ≤ _; omega)
  refine fn_enter Tryz.func59 (by rfl) (by rfl) ?_
  intro S0 w0
  show Sim _ _ [(0, pW b), (1, T.agg (msC m (eens m.entries)))] _ _
  (repeat (first | apply cn | apply cq | apply cb | apply ck | apply cl | apply cx))
  apply cr
  refine e_bx fun b3 _ => ?_
  (repeat (first | apply cn | apply cq | apply cb | apply ck | apply cl | apply cx))
  refine lend1 3 (by simp [msC]) ?_
  (repeat (first | apply cn | apply cq | apply cb | apply ck | apply cl | apply cx))
  apply cr
  refine s_ p_mv ?_
  refine s_ p_la ?_
  refine e_cHA (follow_fn' m (by omega) hw) (fun r H' ⟨hr, hw⟩ => ?_)
  subst hr
  refine s_ p_no ?_
  (repeat (first | apply cn | apply cq | apply cb | apply ck | apply cl | apply cx))
  refine ci ?_ ?_
  · intro hc
    have hlt : m.term < n.term := Decidable.not_not.1 hc
    rw [if_pos hlt, if_pos hlt] at hw
    (apply sim_ret; (try simp only [blockΨ_ret, thenΨ_ret, loopL_ret, cutΨ_ret, cutE_ret]))
    refine rh kR ⟨rfl, ?_⟩ (Le.refl _)
    rw [snapF, if_pos hlt]
    exact hw
  intro hc
  have hlt : ¬ m.term < n.term := fun h => hc (fun h' => h' h)
  rw [if_neg hlt, if_neg hlt] at hw
  have hw1 := hw
  obtain ⟨vl, vo, Hl, Ho, h1, h2, rfl⟩ := hw
  obtain ⟨p, c, rfl⟩ := h1.len
  obtain ⟨q, d, rfl⟩ := h2.len
  have hqb : (quietN n).base = n.base := rfl
  have hcap : (n.log.map een).length ≤ c := OSl.cap h1
  (repeat (first | apply cn | apply cq | apply cb | apply ck | apply cl | apply cx))
  apply cr
  refine s_ p_mv ?_
  refine s_ p_nc ?_
  refine s_ p_fr ?_
  refine s_ p_fr ?_
  refine s_ p_lo ?_
  refine s_ p_as ?_
  (repeat (first | apply cn | apply cq | apply cb | apply ck | apply cl | apply cx))
  refine ca [0, 1, 2, 3, 4, 5, 6, 7] [] ?_
  refine a_ (fun _ => p_fa) ?_
  refine a_ (fun _ => p_ld) ?_
  refine a_ (fun _ => p_mv) ?_
  refine a_ (fun _ => p_nc) ?_
  refine a_ (fun _ => p_fr) ?_
  refine a_ (fun _ => p_fr) ?_
  refine a_lo ?_
  refine a_ (fun _ => p_gt) ?_
  apply an
  (repeat (first | apply cn | apply cq | apply cb | apply ck | apply cl | apply cx))
  refine ci ?_ ?_
  · intro hgt
    (repeat (first | apply cn | apply cq | apply cb | apply ck | apply cl | apply cx))
    apply cr
    refine s_ p_mv ?_
    refine s_ p_nc ?_
    refine s_ p_fr ?_
    refine s_ p_loa ?_
    refine s_ (p_cLA hL (LendsL.cons (Lends.agg (node_lends (quietN n) (h1.lend (by intro p hp; simp [hp])))) LendsL.nil)) ?_
    have hT := term_fn (quietN n) m.index (by show n.log.length ≤ _; omega) (by simp only [big]; show _ ≤ n.base; omega) (by simp only [big]; show n.base ≤ _; omega) (by simp only [big]; omega) (by simp only [big]; omega)
    refine s_ p_mv ?_
    refine s_ p_ex ?_
    refine s_ p_ex ?_
    refine s_ p_as ?_
    refine s_ p_as ?_
    (repeat (first | apply cn | apply cq | apply cb | apply ck | apply cl | apply cx))
    apply cr
    refine s_ p_as ?_
    (repeat (first | apply cn | apply cq | apply cb | apply ck | apply cl | apply cx))
    refine ca [0, 1, 2, 3, 4, 5, 6, 7, 8, 9, 10, 11, 12, 13, 14, 15, 16, 17, 18, 19, 20, 21, 22, 23, 24] [] ?_
    refine a_ (fun _ => p_fa) ?_
    refine a_ (fun _ => p_ld) ?_
    refine a_ (fun _ => p_mv) ?_
    refine a_ (fun _ => p_le) ?_
    refine a_ (fun _ => p_mv) ?_
    refine ag_T (fun _ hg => p_fa) ?_
    refine ag_T (fun _ hg => p_ld (hx := u_ hg)) ?_
    refine ag_T (fun _ hg => p_mv) ?_
    refine ag_T (fun _ hg => p_nc (hx := u_ hg)) ?_
    refine ag_T (fun _ hg => p_fr (hx := u_ hg)) ?_
    refine ag_T (fun _ hg => p_fr (hx := u_ hg)) ?_
    refine ag_loT ?_
    refine ag_T (fun _ hg => p_gt (hx := u_ hg) (hy := u_ hg)) ?_
    refine a_ (fun _ => p_an) ?_
    refine a_ (fun _ => p_mv) ?_
    refine ag_T (fun _ hg => p_mv) ?_
    refine ag_T (fun _ hg => p_nc (hx := u_ hg)) ?_
    refine ag_T (fun _ hg => p_fr (hx := u_ hg)) ?_
    refine ag_T (fun _ hg => p_fa) ?_
    refine ag_T (fun _ hg => p_ld (hx := u_ hg)) ?_
    refine ag_cLT (G := (b, _) :: (Hl ++ (Ho ++ []))) (fun _ => hT) (fun _ => LendsL.cons (nd_ptr (n := quietN n) h1 (by intro p hp; simp [hp]) List.mem_cons_self) (LendsL.cons (Lends.le (Le.refl _)) LendsL.nil)) ⟨[], perm0⟩ ?_ (fun hg => by refine evl_cons (u_ hg) (evl_cons (u_ hg) evl_nil))
    refine ag_T (fun _ hg => p_fa) ?_
    refine ag_T (fun _ hg => p_ld (hx := u_ hg)) ?_
    refine ag_T (fun _ hg => p_eq (hx := u_ hg) (hy := u_ hg)) ?_
    refine a_ (fun _ => p_an) ?_
    apply an
    (repeat (first | apply cn | apply cq | apply cb | apply ck | apply cl | apply cx))
    refine ci ?_ ?_
    · intro hr
      have hr' : (m.index ≤ lastF n ∧ n.base < m.index) ∧ termF n m.index = m.logTerm := hr
      have hrest : restF n m = n.log.drop (m.index - n.base).toNat := by rw [restF, if_pos hr']
      have hlf : lastF n = n.base + n.log.length := rfl
      obtain ⟨lo, hlo⟩ : ∃ lo : Nat, (lo : Int) = m.index - n.base := ⟨(m.index - n.base).toNat, by omega⟩
      have hlol : lo ≤ n.log.length := by omega
      have hs5 := (h1.sle (G := (b, ⟨tW, wkC (quietN n) (.slice p (n.log.map een).length c) (.slice q (out.map ms).length d), 23⟩) :: (Hl ++ (Ho ++ []))) (by intro p hp; simp [hp]))
      have hs5' := SlE.sub hs5 (lo := lo) (hi := n.log.length) hlol (Nat.le_refl _)
      rw [List.take_of_length_le (by simp [quietN])] at hs5'
      obtain ⟨p5, c5, e5, hc5, hl5⟩ := hs5'
      (repeat (first | apply cn | apply cq | apply cb | apply ck | apply cl | apply cx))
      refine ca [0, 1, 2, 3, 4, 5, 6, 7, 8, 9, 10, 11, 12, 13, 14] [] ?_
      refine a_ (fun _ => p_mv) ?_
      refine a_ (fun _ => p_nc) ?_
      refine a_ (fun _ => p_fr) ?_
      refine a_ (fun _ => p_fr) ?_
      refine a_lo ?_
      refine a_ (fun _ => p_fa) ?_
      refine a_ (fun _ => p_ld) ?_
      refine a_ (fun _ => p_mv) ?_
      refine a_ (fun _ => p_nc) ?_
      refine a_ (fun _ => p_fr) ?_
      refine a_ (fun _ => p_fr) ?_
      refine a_lo ?_
      refine a_ (fun _ => p_su) ?_
      rw [hqb, ← hlo]
      refine a_ (fun _ => p_sbl (v := .slice p5 (n.log.drop lo).length c5) hcap (by rw [List.length_map, Int.toNat_natCast]; exact e5)) ?_
      refine a_ (fun _ => p_as) ?_
      apply an
      (repeat (first | apply cn | apply cq | apply cb | apply ck | apply cl | apply cx))
      have hrl : restF n m = n.log.drop lo := by rw [hrest, ← hlo, Int.toNat_natCast]
      (repeat (first | apply cn | apply cq | apply cb | apply ck | apply cl | apply cx))
      apply cr
      refine s_ p_mv ?_
      refine s_ p_mv ?_
      refine e_cLA (clone_fn false (n.log.drop lo) (by first | (simp; done) | (simp; omega))) (LendsL.cons ((e5 ▸ hl5)) LendsL.nil) OE.of ?_
      rintro r H1 ⟨v, rfl, ho⟩
      obtain ⟨p8, c8, rfl⟩ := ho.len
      refine from_perm (List.perm_middle) ?_
      refine s_ p_nc ?_
      refine s_ p_fr ?_
      refine s_ p_fr ?_
      refine e_st ?_
      (repeat (first | apply cn | apply cq | apply cb | apply ck | apply cl | apply cx))
      refine ca [0, 1, 2, 3, 4, 5, 6, 7, 8, 9, 10, 11, 12, 13, 14, 15, 16, 17, 18, 19, 20, 21, 22, 23, 24, 25, 26, 27, 28, 29, 30, 31, 32, 33, 34] [18, 22, 26, 30, 34] ?_
      refine a_ (fun _ => p_mv) ?_
      refine a_ (fun _ => p_mv) ?_
      refine a_ (fun _ => p_mv) ?_
      refine a_ (fun _ => p_mv) ?_
      refine a_ (fun _ => p_mv) ?_
      refine a_ (fun _ => p_fa) ?_
      refine a_ (fun _ => p_ld) ?_
      refine a_ (fun _ => p_fa) ?_
      refine a_ (fun _ => p_ld) ?_
      refine a_ (fun _ => p_fa) ?_
      refine a_ (fun _ => p_ld) ?_
      refine a_ (fun _ => p_fa) ?_
      refine a_ (fun _ => p_ld) ?_
      refine a_ (fun _ => p_fa) ?_
      refine a_ (fun _ => p_ld) ?_
      refine a_ (fun _ => p_nc) ?_
      refine a_ (fun _ => p_fr) ?_
      refine a_ (fun _ => p_fr) ?_
      refine a_st ?_
      refine a_ (fun _ => p_nc) ?_
      refine a_ (fun _ => p_fr) ?_
      refine a_ (fun _ => p_fr) ?_
      refine a_st ?_
      refine a_ (fun _ => p_nc) ?_
      refine a_ (fun _ => p_fr) ?_
      refine a_ (fun _ => p_fr) ?_
      refine a_st ?_
      refine a_ (fun _ => p_nc) ?_
      refine a_ (fun _ => p_fr) ?_
      refine a_ (fun _ => p_fr) ?_
      refine a_st ?_
      refine a_ (fun _ => p_nc) ?_
      refine a_ (fun _ => p_fr) ?_
      refine a_ (fun _ => p_fr) ?_
      refine a_st ?_
      apply an
      (repeat (first | apply cn | apply cq | apply cb | apply ck | apply cl | apply cx))
      apply cr
      refine s_ p_mv ?_
      refine s_ p_fa ?_
      refine s_ p_ld ?_
      refine s_ p_fa ?_
      refine s_ p_ld ?_
      refine s_ p_mv ?_
      refine s_ p_ma ?_
      refine e_cH (Hs := (b, _) :: (H1 ++ (Ho ++ []))) (Hr := Hl) (FnH.of_le ?_ (added_fn m.frm true (max m.index n.commit) (by omega) (show WkH b (snapN n m) out ((b, ⟨tW, wkC (snapN n m) (.slice p8 _ c8) (.slice q (out.map ms).length d), 23⟩) :: (H1 ++ (Ho ++ []))) from ⟨_, _, H1, Ho, (by rw [show (snapN n m).log = n.log.drop lo from hrl]; exact ho), h2, rfl⟩))) ?_ (fun r H' ⟨hr, h3⟩ => ?_)
      · ((repeat (apply LeL.cons; (first | exact Le.refl _ | exact Le.nil _ | exact Le.full _ _ | exact Le.any _ | (apply Le.agg; (repeat (apply LeL.cons; (first | exact Le.refl _ | exact Le.nil _ | exact Le.full _ _ | exact Le.any _))); exact LeL.nil) | (apply Le.tup; (repeat (apply LeL.cons; (first | exact Le.refl _ | exact Le.nil _ | exact Le.full _ _ | exact Le.any _ | (apply Le.agg; (repeat (apply LeL.cons; (first | exact Le.refl _ | exact Le.nil _ | exact Le.full _ _ | exact Le.any _))); exact LeL.nil)))); exact LeL.nil)))); exact LeL.nil)
      · refine .cons _ ?_
        show List.Perm _ ((H1 ++ (Ho ++ [])) ++ Hl)
        rw [List.append_assoc]
        refine .append_left _ ?_
        exact List.perm_append_comm
      · subst hr
        (repeat (first | apply cn | apply cq | apply cb | apply ck | apply cl | apply cx))
        refine rhn (H' := H') (kApp kN) ⟨rfl, ?_⟩ (Le.refl _)
        have hgt' : n.commit < m.index := hgt
        rw [snapF, if_neg hlt, if_pos hgt']
        exact h3
    · intro hr
      have hr' : ¬ ((m.index ≤ lastF n ∧ n.base < m.index) ∧ termF n m.index = m.logTerm) := hr
      have hrl : restF n m = [] := by rw [restF, if_neg hr']
      (repeat (first | apply cn | apply cq | apply cb | apply ck | apply cl | apply cx))
      apply cr
      refine s_ p_mv ?_
      refine s_ p_mv ?_
      refine e_cLA (clone_fn false [] (by first | (simp; done) | (simp; omega))) (LendsL.cons (Lends.le (Le.nil _)) LendsL.nil) OE.of ?_
      rintro r H1 ⟨v, rfl, ho⟩
      obtain ⟨p8, c8, rfl⟩ := ho.len
      refine from_perm (List.perm_middle) ?_
      refine s_ p_nc ?_
      refine s_ p_fr ?_
      refine s_ p_fr ?_
      refine e_st ?_
      (repeat (first | apply cn | apply cq | apply cb | apply ck | apply cl | apply cx))
      refine ca [0, 1, 2, 3, 4, 5, 6, 7, 8, 9, 10, 11, 12, 13, 14, 15, 16, 17, 18, 19, 20, 21, 22, 23, 24, 25, 26, 27, 28, 29, 30, 31, 32, 33, 34] [18, 22, 26, 30, 34] ?_
      refine a_ (fun _ => p_mv) ?_
      refine a_ (fun _ => p_mv) ?_
      refine a_ (fun _ => p_mv) ?_
      refine a_ (fun _ => p_mv) ?_
      refine a_ (fun _ => p_mv) ?_
      refine a_ (fun _ => p_fa) ?_
      refine a_ (fun _ => p_ld) ?_
      refine a_ (fun _ => p_fa) ?_
      refine a_ (fun _ => p_ld) ?_
      refine a_ (fun _ => p_fa) ?_
      refine a_ (fun _ => p_ld) ?_
      refine a_ (fun _ => p_fa) ?_
      refine a_ (fun _ => p_ld) ?_
      refine a_ (fun _ => p_fa) ?_
      refine a_ (fun _ => p_ld) ?_
      refine a_ (fun _ => p_nc) ?_
      refine a_ (fun _ => p_fr) ?_
      refine a_ (fun _ => p_fr) ?_
      refine a_st ?_
      refine a_ (fun _ => p_nc) ?_
      refine a_ (fun _ => p_fr) ?_
      refine a_ (fun _ => p_fr) ?_
      refine a_st ?_
      refine a_ (fun _ => p_nc) ?_
      refine a_ (fun _ => p_fr) ?_
      refine a_ (fun _ => p_fr) ?_
      refine a_st ?_
      refine a_ (fun _ => p_nc) ?_
      refine a_ (fun _ => p_fr) ?_
      refine a_ (fun _ => p_fr) ?_
      refine a_st ?_
      refine a_ (fun _ => p_nc) ?_
      refine a_ (fun _ => p_fr) ?_
      refine a_ (fun _ => p_fr) ?_
      refine a_st ?_
      apply an
      (repeat (first | apply cn | apply cq | apply cb | apply ck | apply cl | apply cx))
      apply cr
      refine s_ p_mv ?_
      refine s_ p_fa ?_
      refine s_ p_ld ?_
      refine s_ p_fa ?_
      refine s_ p_ld ?_
      refine s_ p_mv ?_
      refine s_ p_ma ?_
      refine e_cH (Hs := (b, _) :: (H1 ++ (Ho ++ []))) (Hr := Hl) (FnH.of_le ?_ (added_fn m.frm true (max m.index n.commit) (by omega) (show WkH b (snapN n m) out ((b, ⟨tW, wkC (snapN n m) (.slice p8 _ c8) (.slice q (out.map ms).length d), 23⟩) :: (H1 ++ (Ho ++ []))) from ⟨_, _, H1, Ho, (by rw [show (snapN n m).log = [] from hrl]; exact ho), h2, rfl⟩))) ?_ (fun r H' ⟨hr, h3⟩ => ?_)
      · ((repeat (apply LeL.cons; (first | exact Le.refl _ | exact Le.nil _ | exact Le.full _ _ | exact Le.any _ | (apply Le.agg; (repeat (apply LeL.cons; (first | exact Le.refl _ | exact Le.nil _ | exact Le.full _ _ | exact Le.any _))); exact LeL.nil) | (apply Le.tup; (repeat (apply LeL.cons; (first | exact Le.refl _ | exact Le.nil _ | exact Le.full _ _ | exact Le.any _ | (apply Le.agg; (repeat (apply LeL.cons; (first | exact Le.refl _ | exact Le.nil _ | exact Le.full _ _ | exact Le.any _))); exact LeL.nil)))); exact LeL.nil)))); exact LeL.nil)
      · refine .cons _ ?_
        show List.Perm _ ((H1 ++ (Ho ++ [])) ++ Hl)
        rw [List.append_assoc]
        refine .append_left _ ?_
        exact List.perm_append_comm
      · subst hr
        (repeat (first | apply cn | apply cq | apply cb | apply ck | apply cl | apply cx))
        refine rhn (H' := H') (kApp kN) ⟨rfl, ?_⟩ (Le.refl _)
        have hgt' : n.commit < m.index := hgt
        rw [snapF, if_neg hlt, if_pos hgt']
        exact h3
  · intro hgt
    (repeat (first | apply cn | apply cq | apply cb | apply ck | apply cl | apply cx))
    apply cr
    refine s_ p_mv ?_
    refine s_ p_fa ?_
    refine s_ p_ld ?_
    refine s_ p_fa ?_
    refine s_ p_ld ?_
    refine s_ p_mv ?_
    refine s_ p_ma ?_
    refine e_cHA (FnH.of_le ?_ (added_fn m.frm true (max m.index n.commit) (by omega) hw1)) (fun r H' ⟨hr, h3⟩ => ?_)
    · ((repeat (apply LeL.cons; (first | exact Le.refl _ | exact Le.nil _ | exact Le.full _ _ | exact Le.any _ | (apply Le.agg; (repeat (apply LeL.cons; (first | exact Le.refl _ | exact Le.nil _ | exact Le.full _ _ | exact Le.any _))); exact LeL.nil) | (apply Le.tup; (repeat (apply LeL.cons; (first | exact Le.refl _ | exact Le.nil _ | exact Le.full _ _ | exact Le.any _ | (apply Le.agg; (repeat (apply LeL.cons; (first | exact Le.refl _ | exact Le.nil _ | exact Le.full _ _ | exact Le.any _))); exact LeL.nil)))); exact LeL.nil)))); exact LeL.nil)
    · subst hr
      (repeat (first | apply cn | apply cq | apply cb | apply ck | apply cl | apply cx))
      refine rhn kR ⟨rfl, ?_⟩ (Le.refl _)
      have hgt' : ¬ n.commit < m.index := hgt
      rw [snapF, if_neg hlt, if_neg hgt']
      exact h3
end Go.Proofs.YtbdpfclnomiicaaGreat
