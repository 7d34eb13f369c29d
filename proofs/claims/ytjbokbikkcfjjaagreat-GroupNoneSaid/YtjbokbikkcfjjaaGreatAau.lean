/-
  replica: a snapshot, laid by one that follows.
  replica: Tick.
  replica: Take.
  replica: two nodes told from each other.
  replica: Wake, Propose, Change, Compact.
-/
import Derived.Test.YtjbokbikkcfjjaaGreatAat
import Derived.Test.YtjbokbikkcfjjaaGreatAal
section
set_option maxRecDepth 4000
namespace Go.Proofs.YtjbokbikkcfjjaaGreat
open Go.Cap
set_option linter.unusedSimpArgs false
set_option linter.unusedVariables false
attribute [local irreducible] POp SimFrom DrawFrom EOp Sim FnH T.gp
def restF (n : Nd) (m : Ms) : List En := if (m.index ≤ lastF n ∧ n.base < m.index) ∧ termF n m.index = m.logTerm then n.log.drop (m.index - n.base).toNat else []
def snapN (n : Nd) (m : Ms) : Nd := { quietN n with log := restF n m, base := m.index, baseTerm := m.logTerm, baseConf := m.conf, snap := m.snap, commit := m.index }
def snapF (n : Nd) (m : Ms) : Nd × List Ms := if m.term < n.term then (n, [sendF n m.frm (addedM false 0)]) else
  if n.commit < m.index then (snapN n m, [sendF (snapN n m) m.frm (addedM true (max m.index n.commit))]) else (quietN n, [sendF (quietN n) m.frm (addedM true (max m.index n.commit))])
theorem kApp {H B : Heap} (h : HeapFront B []) : HeapFront (H ++ B) H := by
  induction H with
  | nil => exact h
  | cons p H ih => exact .keep _ _ _ _ _ (BlkLe.refl _) ih
set_option maxHeartbeats 4000000 in
theorem snap_fn {b : Nat} {n : Nd} {out : List Ms} {H : Heap} (m : Ms) (hn : Bd n) (hi0 : -50000000000 ≤ m.index) (hi1 : m.index ≤ 50000000000) (ho : out.length ≤ 900) (hw : WkH b n out H) :
    FnH Tryz.prog 137 [pW b, ms m] H (fun r H' => r = .tup [] ∧ WkH b (snapF n m).1 (out ++ (snapF n m).2) H') := by
  have hb0 := hn.base0
  have hb1 := hn.base1
  have hlog := hn.log
  have hL := last_fn (quietN n) (by show n.log.length ≤ _; omega) (by show _ ≤ n.base; omega) (by show n.base ≤ _; omega)
  refine fn_enter Tryz.func137 (by rfl) (by rfl) ?_
  intro S0 w0
  show Sim _ _ [(0, pW b), (1, T.agg (msC m (eens m.entries)))] _ _
  refine zC ?_
  apply cr
  refine e_bx fun b3 _ => ?_
  refine zC ?_
  refine lend1 3 (by simp [msC]) ?_
  refine zC ?_
  apply cr
  refine s_ p_mv ?_
  refine s_ p_la ?_
  refine e_cHA (follow_fn' m (by omega) hw) (fun r H' ⟨hr, hw⟩ => ?_)
  subst hr
  refine s_ p_no ?_
  refine zC ?_
  refine ci ?_ ?_
  · intro hc
    have hlt : m.term < n.term := Decidable.not_not.1 hc
    rw [if_pos hlt, if_pos hlt] at hw
    refine zR ?_
    refine rh kR ⟨rfl, ?_⟩ (Le.refl _)
    rw [snapF, if_pos hlt]
    exact hw
  intro hc
  have hlt : ¬ m.term < n.term := fun h => hc (fun h' => h' h)
  rw [if_neg hlt, if_neg hlt] at hw
  have hw1 := hw
  obtain ⟨vl, vo, Hl, Ho, h1, h2, rfl⟩ := hw
  obtain ⟨p, c, rfl⟩ := h1.len
  obtain ⟨q, d, rfl⟩ := h2.len
  have hqb : (quietN n).base = n.base := rfl
  have hcap : (n.log.map een).length ≤ c := OSl.cap h1
  refine zC ?_
  apply cr
  refine s_ p_mv ?_
  refine s_ p_nc ?_
  refine s_ p_fr ?_
  refine s_ p_fr ?_
  refine s_ p_lo ?_
  refine s_ p_as ?_
  refine zC ?_
  refine ca [0, 1, 2, 3, 4, 5, 6, 7] [] ?_
  refine a_ (fun _ => p_fa) ?_
  refine a_ (fun _ => p_ld) ?_
  refine a_ (fun _ => p_mv) ?_
  refine a_ (fun _ => p_nc) ?_
  refine a_ (fun _ => p_fr) ?_
  refine a_ (fun _ => p_fr) ?_
  refine a_lo ?_
  refine a_ (fun _ => p_gt) ?_
  apply an
  refine zC ?_
  refine ci ?_ ?_
  · intro hgt
    refine zC ?_
    apply cr
    refine s_ p_mv ?_
    refine s_ p_nc ?_
    refine s_ p_fr ?_
    refine s_ p_loa ?_
    refine s_ (p_cLA hL (LendsL.cons (Lends.agg (node_lends (quietN n) (h1.lend (by intro p hp; simp [hp])))) LendsL.nil)) ?_
    have hT := term_fn (quietN n) m.index (by show n.log.length ≤ _; omega) (by simp only [big]; show _ ≤ n.base; omega) (by simp only [big]; show n.base ≤ _; omega) (by simp only [big]; omega) (by simp only [big]; omega)
    refine s_ p_mv ?_
    refine s_ p_ex ?_
    refine s_ p_ex ?_
    refine s_ p_as ?_
    refine s_ p_as ?_
    refine zC ?_
    apply cr
    refine s_ p_as ?_
    refine zC ?_
    refine ca [0, 1, 2, 3, 4, 5, 6, 7, 8, 9, 10, 11, 12, 13, 14, 15, 16, 17, 18, 19, 20, 21, 22, 23, 24] [] ?_
    refine a_ (fun _ => p_fa) ?_
    refine a_ (fun _ => p_ld) ?_
    refine a_ (fun _ => p_mv) ?_
    refine a_ (fun _ => p_le) ?_
    refine a_ (fun _ => p_mv) ?_
    refine ag_T (fun _ hg => p_fa) ?_
    refine ag_T (fun _ hg => p_ld (hx := u_ hg)) ?_
    refine ag_T (fun _ hg => p_mv) ?_
    refine ag_T (fun _ hg => p_nc (hx := u_ hg)) ?_
    refine ag_T (fun _ hg => p_fr (hx := u_ hg)) ?_
    refine ag_T (fun _ hg => p_fr (hx := u_ hg)) ?_
    refine ag_loT ?_
    refine ag_T (fun _ hg => p_gt (hx := u_ hg) (hy := u_ hg)) ?_
    refine a_ (fun _ => p_an) ?_
    refine a_ (fun _ => p_mv) ?_
    refine ag_T (fun _ hg => p_mv) ?_
    refine ag_T (fun _ hg => p_nc (hx := u_ hg)) ?_
    refine ag_T (fun _ hg => p_fr (hx := u_ hg)) ?_
    refine ag_T (fun _ hg => p_fa) ?_
    refine ag_T (fun _ hg => p_ld (hx := u_ hg)) ?_
    refine ag_cLT (G := (b, _) :: (Hl ++ (Ho ++ []))) (fun _ => hT) (fun _ => LendsL.cons (nd_ptr (n := quietN n) h1 (by intro p hp; simp [hp]) List.mem_cons_self) (LendsL.cons (Lends.le (Le.refl _)) LendsL.nil)) ⟨[], perm0⟩ ?_ (fun hg => by refine evl_cons (u_ hg) (evl_cons (u_ hg) evl_nil))
    refine ag_T (fun _ hg => p_fa) ?_
    refine ag_T (fun _ hg => p_ld (hx := u_ hg)) ?_
    refine ag_T (fun _ hg => p_eq (hx := u_ hg) (hy := u_ hg)) ?_
    refine a_ (fun _ => p_an) ?_
    apply an
    refine zC ?_
    refine ci ?_ ?_
    · intro hr
      have hr' : (m.index ≤ lastF n ∧ n.base < m.index) ∧ termF n m.index = m.logTerm := hr
      have hrest : restF n m = n.log.drop (m.index - n.base).toNat := by rw [restF, if_pos hr']
      have hlf : lastF n = n.base + n.log.length := rfl
      obtain ⟨lo, hlo⟩ : ∃ lo : Nat, (lo : Int) = m.index - n.base := ⟨(m.index - n.base).toNat, by omega⟩
      have hlol : lo ≤ n.log.length := by omega
      have hs5 := (h1.sle (G := (b, ⟨tW, wkC (quietN n) (.slice p (n.log.map een).length c) (.slice q (out.map ms).length d), 23⟩) :: (Hl ++ (Ho ++ []))) (by intro p hp; simp [hp]))
      have hs5' := SlE.sub hs5 (lo := lo) (hi := n.log.length) hlol (Nat.le_refl _)
      rw [List.take_of_length_le (by simp [quietN])] at hs5'
      obtain ⟨p5, c5, e5, hc5, hl5⟩ := hs5'
      refine zC ?_
      refine ca [0, 1, 2, 3, 4, 5, 6, 7, 8, 9, 10, 11, 12, 13, 14] [] ?_
      refine a_ (fun _ => p_mv) ?_
      refine a_ (fun _ => p_nc) ?_
      refine a_ (fun _ => p_fr) ?_
      refine a_ (fun _ => p_fr) ?_
      refine a_lo ?_
      refine a_ (fun _ => p_fa) ?_
      refine a_ (fun _ => p_ld) ?_
      refine a_ (fun _ => p_mv) ?_
      refine a_ (fun _ => p_nc) ?_
      refine a_ (fun _ => p_fr) ?_
      refine a_ (fun _ => p_fr) ?_
      refine a_lo ?_
      refine a_ (fun _ => p_su) ?_
      rw [hqb, ← hlo]
      refine a_ (fun _ => p_sbl (v := .slice p5 (n.log.drop lo).length c5) hcap (by rw [List.length_map, Int.toNat_natCast]; exact e5)) ?_
      refine a_ (fun _ => p_as) ?_
      apply an
      refine zC ?_
      have hrl : restF n m = n.log.drop lo := by rw [hrest, ← hlo, Int.toNat_natCast]
      refine zC ?_
      apply cr
      refine s_ p_mv ?_
      refine s_ p_mv ?_
      refine e_cLA (clone_fn false (n.log.drop lo) (by first | (simp; done) | (simp; omega))) (LendsL.cons ((e5 ▸ hl5)) LendsL.nil) OE.of ?_
      rintro r H1 ⟨v, rfl, ho⟩
      obtain ⟨p8, c8, rfl⟩ := ho.len
      refine from_perm (List.perm_middle) ?_
      refine s_ p_nc ?_
      refine s_ p_fr ?_
      refine s_ p_fr ?_
      refine e_st ?_
      refine zC ?_
      refine ca [0, 1, 2, 3, 4, 5, 6, 7, 8, 9, 10, 11, 12, 13, 14, 15, 16, 17, 18, 19, 20, 21, 22, 23, 24, 25, 26, 27, 28, 29, 30, 31, 32, 33, 34] [18, 22, 26, 30, 34] ?_
      refine a_ (fun _ => p_mv) ?_
      refine a_ (fun _ => p_mv) ?_
      refine a_ (fun _ => p_mv) ?_
      refine a_ (fun _ => p_mv) ?_
      refine a_ (fun _ => p_mv) ?_
      refine a_ (fun _ => p_fa) ?_
      refine a_ (fun _ => p_ld) ?_
      refine a_ (fun _ => p_fa) ?_
      refine a_ (fun _ => p_ld) ?_
      refine a_ (fun _ => p_fa) ?_
      refine a_ (fun _ => p_ld) ?_
      refine a_ (fun _ => p_fa) ?_
      refine a_ (fun _ => p_ld) ?_
      refine a_ (fun _ => p_fa) ?_
      refine a_ (fun _ => p_ld) ?_
      refine a_ (fun _ => p_nc) ?_
      refine a_ (fun _ => p_fr) ?_
      refine a_ (fun _ => p_fr) ?_
      refine a_st ?_
      refine a_ (fun _ => p_nc) ?_
      refine a_ (fun _ => p_fr) ?_
      refine a_ (fun _ => p_fr) ?_
      refine a_st ?_
      refine a_ (fun _ => p_nc) ?_
      refine a_ (fun _ => p_fr) ?_
      refine a_ (fun _ => p_fr) ?_
      refine a_st ?_
      refine a_ (fun _ => p_nc) ?_
      refine a_ (fun _ => p_fr) ?_
      refine a_ (fun _ => p_fr) ?_
      refine a_st ?_
      refine a_ (fun _ => p_nc) ?_
      refine a_ (fun _ => p_fr) ?_
      refine a_ (fun _ => p_fr) ?_
      refine a_st ?_
      apply an
      refine zC ?_
      apply cr
      refine s_ p_mv ?_
      refine s_ p_fa ?_
      refine s_ p_ld ?_
      refine s_ p_fa ?_
      refine s_ p_ld ?_
      refine s_ p_mv ?_
      refine s_ p_ma ?_
      refine e_cH (Hs := (b, _) :: (H1 ++ (Ho ++ []))) (Hr := Hl) (FnH.of_le ?_ (added_fn m.frm true (max m.index n.commit) (by omega) (show WkH b (snapN n m) out ((b, ⟨tW, wkC (snapN n m) (.slice p8 _ c8) (.slice q (out.map ms).length d), 23⟩) :: (H1 ++ (Ho ++ []))) from ⟨_, _, H1, Ho, (by rw [show (snapN n m).log = n.log.drop lo from hrl]; exact ho), h2, rfl⟩))) ?_ (fun r H' ⟨hr, h3⟩ => ?_)
      · ((repeat (apply LeL.cons; (first | exact Le.refl _ | exact Le.nil _ | exact Le.full _ _ | exact Le.any _ | (apply Le.agg; (repeat (apply LeL.cons; (first | exact Le.refl _ | exact Le.nil _ | exact Le.full _ _ | exact Le.any _))); exact LeL.nil) | (apply Le.tup; (repeat (apply LeL.cons; (first | exact Le.refl _ | exact Le.nil _ | exact Le.full _ _ | exact Le.any _ | (apply Le.agg; (repeat (apply LeL.cons; (first | exact Le.refl _ | exact Le.nil _ | exact Le.full _ _ | exact Le.any _))); exact LeL.nil)))); exact LeL.nil)))); exact LeL.nil)
      · refine .cons _ ?_
        show List.Perm _ ((H1 ++ (Ho ++ [])) ++ Hl)
        rw [List.append_assoc]
        refine .append_left _ ?_
        exact List.perm_append_comm
      · subst hr
        refine zC ?_
        refine rhn (H' := H') (kApp kN) ⟨rfl, ?_⟩ (Le.refl _)
        have hgt' : n.commit < m.index := hgt
        rw [snapF, if_neg hlt, if_pos hgt']
        exact h3
    · intro hr
      have hr' : ¬ ((m.index ≤ lastF n ∧ n.base < m.index) ∧ termF n m.index = m.logTerm) := hr
      have hrl : restF n m = [] := by rw [restF, if_neg hr']
      refine zC ?_
      apply cr
      refine s_ p_mv ?_
      refine s_ p_mv ?_
      refine e_cLA (clone_fn false [] (by first | (simp; done) | (simp; omega))) (LendsL.cons (Lends.le (Le.nil _)) LendsL.nil) OE.of ?_
      rintro r H1 ⟨v, rfl, ho⟩
      obtain ⟨p8, c8, rfl⟩ := ho.len
      refine from_perm (List.perm_middle) ?_
      refine s_ p_nc ?_
      refine s_ p_fr ?_
      refine s_ p_fr ?_
      refine e_st ?_
      refine zC ?_
      refine ca [0, 1, 2, 3, 4, 5, 6, 7, 8, 9, 10, 11, 12, 13, 14, 15, 16, 17, 18, 19, 20, 21, 22, 23, 24, 25, 26, 27, 28, 29, 30, 31, 32, 33, 34] [18, 22, 26, 30, 34] ?_
      refine a_ (fun _ => p_mv) ?_
      refine a_ (fun _ => p_mv) ?_
      refine a_ (fun _ => p_mv) ?_
      refine a_ (fun _ => p_mv) ?_
      refine a_ (fun _ => p_mv) ?_
      refine a_ (fun _ => p_fa) ?_
      refine a_ (fun _ => p_ld) ?_
      refine a_ (fun _ => p_fa) ?_
      refine a_ (fun _ => p_ld) ?_
      refine a_ (fun _ => p_fa) ?_
      refine a_ (fun _ => p_ld) ?_
      refine a_ (fun _ => p_fa) ?_
      refine a_ (fun _ => p_ld) ?_
      refine a_ (fun _ => p_fa) ?_
      refine a_ (fun _ => p_ld) ?_
      refine a_ (fun _ => p_nc) ?_
      refine a_ (fun _ => p_fr) ?_
      refine a_ (fun _ => p_fr) ?_
      refine a_st ?_
      refine a_ (fun _ => p_nc) ?_
      refine a_ (fun _ => p_fr) ?_
      refine a_ (fun _ => p_fr) ?_
      refine a_st ?_
      refine a_ (fun _ => p_nc) ?_
      refine a_ (fun _ => p_fr) ?_
      refine a_ (fun _ => p_fr) ?_
      refine a_st ?_
      refine a_ (fun _ => p_nc) ?_
      refine a_ (fun _ => p_fr) ?_
      refine a_ (fun _ => p_fr) ?_
      refine a_st ?_
      refine a_ (fun _ => p_nc) ?_
      refine a_ (fun _ => p_fr) ?_
      refine a_ (fun _ => p_fr) ?_
      refine a_st ?_
      apply an
      refine zC ?_
      apply cr
      refine s_ p_mv ?_
      refine s_ p_fa ?_
      refine s_ p_ld ?_
      refine s_ p_fa ?_
      refine s_ p_ld ?_
      refine s_ p_mv ?_
      refine s_ p_ma ?_
      refine e_cH (Hs := (b, _) :: (H1 ++ (Ho ++ []))) (Hr := Hl) (FnH.of_le ?_ (added_fn m.frm true (max m.index n.commit) (by omega) (show WkH b (snapN n m) out ((b, ⟨tW, wkC (snapN n m) (.slice p8 _ c8) (.slice q (out.map ms).length d), 23⟩) :: (H1 ++ (Ho ++ []))) from ⟨_, _, H1, Ho, (by rw [show (snapN n m).log = [] from hrl]; exact ho), h2, rfl⟩))) ?_ (fun r H' ⟨hr, h3⟩ => ?_)
      · ((repeat (apply LeL.cons; (first | exact Le.refl _ | exact Le.nil _ | exact Le.full _ _ | exact Le.any _ | (apply Le.agg; (repeat (apply LeL.cons; (first | exact Le.refl _ | exact Le.nil _ | exact Le.full _ _ | exact Le.any _))); exact LeL.nil) | (apply Le.tup; (repeat (apply LeL.cons; (first | exact Le.refl _ | exact Le.nil _ | exact Le.full _ _ | exact Le.any _ | (apply Le.agg; (repeat (apply LeL.cons; (first | exact Le.refl _ | exact Le.nil _ | exact Le.full _ _ | exact Le.any _))); exact LeL.nil)))); exact LeL.nil)))); exact LeL.nil)
      · refine .cons _ ?_
        show List.Perm _ ((H1 ++ (Ho ++ [])) ++ Hl)
        rw [List.append_assoc]
        refine .append_left _ ?_
        exact List.perm_append_comm
      · subst hr
        refine zC ?_
        refine rhn (H' := H') (kApp kN) ⟨rfl, ?_⟩ (Le.refl _)
        have hgt' : n.commit < m.index := hgt
        rw [snapF, if_neg hlt, if_pos hgt']
        exact h3
  · intro hgt
    refine zC ?_
    apply cr
    refine s_ p_mv ?_
    refine s_ p_fa ?_
    refine s_ p_ld ?_
    refine s_ p_fa ?_
    refine s_ p_ld ?_
    refine s_ p_mv ?_
    refine s_ p_ma ?_
    refine e_cHA (FnH.of_le ?_ (added_fn m.frm true (max m.index n.commit) (by omega) hw1)) (fun r H' ⟨hr, h3⟩ => ?_)
    · ((repeat (apply LeL.cons; (first | exact Le.refl _ | exact Le.nil _ | exact Le.full _ _ | exact Le.any _ | (apply Le.agg; (repeat (apply LeL.cons; (first | exact Le.refl _ | exact Le.nil _ | exact Le.full _ _ | exact Le.any _))); exact LeL.nil) | (apply Le.tup; (repeat (apply LeL.cons; (first | exact Le.refl _ | exact Le.nil _ | exact Le.full _ _ | exact Le.any _ | (apply Le.agg; (repeat (apply LeL.cons; (first | exact Le.refl _ | exact Le.nil _ | exact Le.full _ _ | exact Le.any _))); exact LeL.nil)))); exact LeL.nil)))); exact LeL.nil)
    · subst hr
      refine zC ?_
      refine rhn kR ⟨rfl, ?_⟩ (Le.refl _)
      have hgt' : ¬ n.commit < m.index := hgt
      rw [snapF, if_neg hlt, if_neg hgt']
      exact h3
end Go.Proofs.YtjbokbikkcfjjaaGreat
end
section
set_option maxRecDepth 4000
namespace Go.Proofs.YtjbokbikkcfjjaaGreat
open Go.Cap
set_option linter.unusedSimpArgs false
set_option linter.unusedVariables false
attribute [local irreducible] POp SimFrom DrawFrom EOp Sim FnH T.gp
def tickF (n : Nd) : Nd × List Ms := if n.role = 2 then (n, toAll n (oweF n) 5) else if ¬ isF (confF n).2 n.id = true then (n, []) else
  if 5 + 3 * n.id ≤ n.wait + 1 ∧ n.term < 1073741824 then standF { n with wait := n.wait + 1 } else ({ n with wait := n.wait + 1 }, [])
theorem bd_len (n : Nd) (h : Bd n) : n.log.length ≤ 1000000000 := by have := h.log; omega
theorem lead_bd {n : Nd} (hn : Bd n) (hl : n.log.length < 100000000) : Bd (leadF n) := (hn.lead hl).commit
theorem stand_bd {n : Nd} (hn : Bd n) (hl : n.log.length < 100000000) : Bd (standF n).1 := by
  unfold standF
  split
  · exact lead_bd hn.stand hl
  · exact hn.stand
set_option maxHeartbeats 2000000 in
theorem tick_fn {n : Nd} (hn : Bd n) (hl : n.log.length < 100000000) (ht0 : 0 ≤ n.term) (ht1 : n.term ≤ 1000000000000) (hw0 : 0 ≤ n.wait) (hw1 : n.wait ≤ 1000000000) (hx : ∀ i, n.next.get i ≤ 100000000000) :
    FnP Tryz.prog 76 [nd n] (fun r => r = .tup [nd (tickF n).1, mss (tickF n).2]) := by
  have hC := Conf_fn n (bd_len n hn) (by have := hn.base0; omega) (by have := hn.base1; omega)
  have hI := is_fn' (confF n).2 n.id hn.id0 hn.id5 hn.conf0 hn.conf1
  have hW := work_fn n (bd_len n hn)
  have hi0 := hn.id0
  have hi5 := hn.id5
  refine fn_enter Tryz.func76 (by rfl) (by rfl) ?_
  intro S0 w0
  show Sim _ _ [(0, T.agg (nodeC n (.sl false (n.log.map een))))] _ _
  refine zC ?_
  apply cr
  refine e_bx fun b1 _ => ?_
  refine e_al fun b2 _ => ?_
  refine s_ p_as ?_
  refine zC ?_
  refine sim_perm (List.Perm.swap _ _ _) ?_
  refine lend1 1 (by simp [nodeC]) ?_
  refine zC ?_
  apply cr
  refine s_ p_la ?_
  refine e_cH (Hs := []) (Hr := [_]) hW (.refl _) (fun r H' ⟨b, hr, hw⟩ => ?_)
  subst hr
  have hw' := hw
  obtain ⟨vl, vo, Hl, Ho, h1, h2, rfl⟩ := hw
  obtain ⟨p, c, rfl⟩ := h1.len
  obtain ⟨q, d, rfl⟩ := h2.len
  refine s_ p_as ?_
  refine zC ?_
  apply cr
  refine s_ p_mv ?_
  refine s_ p_nc ?_
  refine s_ p_fr ?_
  refine s_ p_fr ?_
  refine s_ p_lo ?_
  refine s_ p_eq ?_
  refine zC ?_
  refine ci ?_ ?_
  · intro hr
    refine zC ?_
    apply cr
    refine s_ p_mv ?_
    refine s_ p_mv ?_
    refine s_ p_mf ?_
    refine e_cH (owes_fn hn hx (by simp) hw') (.refl _) (fun r H' ⟨hr, h3⟩ => ?_)
    subst hr
    
    refine zC ?_
    apply cr
    refine s_ p_mv ?_
    refine e_cH (done_fn (bd_len n hn) h3) (.refl _) (fun r H' ⟨hr, hr2⟩ => ?_)
    subst hr hr2
    refine s_ p_ex ?_
    refine s_ p_ex ?_
    refine e_st ?_
    refine s_ p_as ?_
    refine zC ?_
    refine zE ?_
    rw [tickF, if_pos hr]
    exact Le.refl _
  · intro hr
    refine zC ?_
    refine ca [0, 1, 2, 3, 4, 5] [] ?_
    refine a_ (fun _ => p_la) ?_
    refine a_ (fun _ => p_ca (hC)) ?_
    refine a_ (fun _ => p_fa) ?_
    refine a_ (fun _ => p_ld) ?_
    refine a_ (fun _ => p_ca (hI)) ?_
    refine a_ (fun _ => p_no) ?_
    apply an
    refine zC ?_
    refine ci ?_ ?_
    · intro hm
      refine zC ?_
      apply cr
      refine s_ p_mv ?_
      refine e_cH (done_fn (bd_len n hn) hw') (.refl _) (fun r H' ⟨hr, hr2⟩ => ?_)
      subst hr hr2
      refine s_ p_ex ?_
      refine s_ p_ex ?_
      refine e_st ?_
      refine s_ p_as ?_
      refine zC ?_
      refine zE ?_
      rw [tickF, if_neg hr, if_pos hm]
      exact Le.refl _
    · intro hm
      have hn1 : Bd { n with wait := n.wait + 1 } := hn.of
      refine zC ?_
      apply cr
      refine s_ p_mv ?_
      refine s_ p_nc ?_
      refine s_ p_fr ?_
      refine s_ p_fr ?_
      refine s_ p_lo ?_
      refine s_ p_ad ?_
      refine s_ p_nc ?_
      refine s_ p_fr ?_
      refine s_ p_fr ?_
      refine e_st ?_
      refine zC ?_
      refine ca [0, 1, 2, 3, 4, 5, 6, 7, 8, 9, 10, 11, 12, 13, 14, 15, 16, 17, 18, 19, 20] [] ?_
      refine a_ (fun _ => p_mv) ?_
      refine a_ (fun _ => p_nc) ?_
      refine a_ (fun _ => p_fr) ?_
      refine a_ (fun _ => p_fr) ?_
      refine a_lo ?_
      refine a_ (fun _ => p_mv) ?_
      refine a_ (fun _ => p_nc) ?_
      refine a_ (fun _ => p_fr) ?_
      refine a_ (fun _ => p_fr) ?_
      refine a_lo ?_
      refine a_ (fun _ => p_mu) ?_
      refine a_ (fun _ => p_ad) ?_
      refine a_ (fun _ => p_ge) ?_
      refine a_ (fun _ => p_mv) ?_
      refine ag_T (fun _ hg => p_mv) ?_
      refine ag_T (fun _ hg => p_nc (hx := u_ hg)) ?_
      refine ag_T (fun _ hg => p_fr (hx := u_ hg)) ?_
      refine ag_T (fun _ hg => p_fr (hx := u_ hg)) ?_
      refine ag_loT ?_
      refine ag_T (fun _ hg => p_lt (hx := u_ hg)) ?_
      refine a_ (fun _ => p_an) ?_
      apply an
      refine zC ?_
      refine ci ?_ ?_
      · intro hs
        refine zC ?_
        apply cr
        refine s_ p_mv ?_
        refine e_cH (stand_fn hn1 hl ht0 (by simp only; omega) (by simp) (show WkH b { n with wait := n.wait + 1 } [] _ from ⟨_, _, Hl, Ho, h1, h2, rfl⟩)) (.refl _) (fun r H' ⟨hr, h3⟩ => ?_)
        subst hr
        
        refine zC ?_
        apply cr
        refine s_ p_mv ?_
        refine e_cH (done_fn (bd_len _ (stand_bd hn1 hl)) h3) (.refl _) (fun r H' ⟨hr, hr2⟩ => ?_)
        subst hr hr2
        refine s_ p_ex ?_
        refine s_ p_ex ?_
        refine e_st ?_
        refine s_ p_as ?_
        refine zC ?_
        refine zE ?_
        have hs' : 5 + 3 * n.id ≤ n.wait + 1 ∧ n.term < 1073741824 := hs
        rw [tickF, if_neg hr, if_neg hm, if_pos hs']
        exact Le.refl _
      · intro hs
        refine zC ?_
        apply cr
        refine s_ p_mv ?_
        refine e_cH (done_fn (bd_len _ hn1) (show WkH b { n with wait := n.wait + 1 } [] _ from ⟨_, _, Hl, Ho, h1, h2, rfl⟩)) (.refl _) (fun r H' ⟨hr, hr2⟩ => ?_)
        subst hr hr2
        refine s_ p_ex ?_
        refine s_ p_ex ?_
        refine e_st ?_
        refine s_ p_as ?_
        refine zC ?_
        refine zE ?_
        have hs' : ¬ (5 + 3 * n.id ≤ n.wait + 1 ∧ n.term < 1073741824) := hs
        rw [tickF, if_neg hr, if_neg hm, if_neg hs']
        exact Le.refl _
end Go.Proofs.YtjbokbikkcfjjaaGreat
end
section
set_option maxRecDepth 4000
namespace Go.Proofs.YtjbokbikkcfjjaaGreat
open Go.Cap
set_option linter.unusedSimpArgs false
set_option linter.unusedVariables false
attribute [local irreducible] POp SimFrom DrawFrom EOp Sim FnH T.gp
def badF (n : Nd) (m : Ms) : Prop := (((m.frm < 0 ∨ 5 ≤ m.frm) ∨ m.frm = n.id) ∨ ¬ m.to = n.id) ∨ (((m.kind < 1 ∨ 5 < m.kind) ∨ m.term < 0) ∨ 1073741824 < m.term)
instance (n : Nd) (m : Ms) : Decidable (badF n m) := by unfold badF; infer_instance
def upN (n : Nd) (m : Ms) : Nd := if n.term < m.term then { n with term := m.term, vote := -1, role := 0, votes := 0 } else n
def actF (n : Nd) (m : Ms) : Nd × List Ms := if m.kind = 1 then (voteF n m, [sendF (voteF n m) m.frm (votedM (yesF n m))]) else if m.kind = 2 then votedF n m else if m.kind = 3 then addF n m else
  if m.kind = 4 then heardF n m else snapF n m
def takeF (n : Nd) (m : Ms) : Nd × List Ms := if badF n m then (n, []) else actF (upN n m) m
def zeroN : Nd := ⟨0, 0, 0, 0, 0, 0, [], [], 0, 0, 0, 0, .all 0, .all 0⟩
structure MBd (n : Nd) (m : Ms) : Prop where
  i0 : -50000000000 ≤ m.index
  i1 : m.index ≤ 50000000000
  es : n.log.length + m.entries.length ≤ 100000000
structure NBd (n : Nd) : Prop where
  log : n.log.length < 100000000
  v0 : 0 ≤ n.votes
  v1 : n.votes ≤ 31
  x0 : ∀ i, -100000000000 ≤ n.next.get i
  x1 : ∀ i, n.next.get i ≤ 50000000000
  m0 : ∀ i, -100000000000 ≤ n.mtch.get i
  m1 : ∀ i, n.mtch.get i ≤ 50000000000
theorem upN_eq (n : Nd) (m : Ms) : ∃ t v r w, upN n m = { n with term := t, vote := v, role := r, votes := w } ∧ (w = 0 ∨ w = n.votes) := by
  unfold upN
  split
  · exact ⟨_, _, _, _, rfl, .inl rfl⟩
  · exact ⟨_, _, _, _, rfl, .inr rfl⟩
theorem Bd.up {n : Nd} (m : Ms) (h : Bd n) : Bd (upN n m) := by
  obtain ⟨_, _, _, _, e, _⟩ := upN_eq n m
  rw [e]; exact h.of
theorem NBd.up {n : Nd} (m : Ms) (h : NBd n) : NBd (upN n m) := by
  obtain ⟨_, _, _, _, e, hw⟩ := upN_eq n m
  have h0 := h.v0
  have h1 := h.v1
  rw [e]; exact ⟨h.log, by simp only; omega, by simp only; omega, h.x0, h.x1, h.m0, h.m1⟩
theorem MBd.up {n : Nd} {m : Ms} (h : MBd n m) : MBd (upN n m) m := by
  obtain ⟨_, _, _, _, e, hw⟩ := upN_eq n m
  rw [e]; exact ⟨h.i0, h.i1, h.es⟩
theorem votedF_bd {n : Nd} (m : Ms) (hn : Bd n) (hl : n.log.length < 100000000) : Bd (votedF n m).1 := by
  unfold votedF
  split
  · exact hn
  · split
    · exact lead_bd hn.of hl
    · exact hn.of
theorem voteF_bd {n : Nd} (m : Ms) (hn : Bd n) : Bd (voteF n m) := by
  unfold voteF
  split
  · exact hn.of
  · exact hn
theorem heardF_bd {n : Nd} (m : Ms) (hn : Bd n) : Bd (heardF n m).1 := by
  unfold heardF
  split
  · exact hn
  · split
    · exact (hn.of (n' := agreeN n m)).commit
    · split <;> exact hn.of
theorem addF_len {n : Nd} {m : Ms} (hl : n.log.length + m.entries.length ≤ 100000000) : (addF n m).1.log.length ≤ 100000000 := by
  unfold addF
  split
  · simp only; omega
  · split
    · simp only [quietN]; omega
    · split
      · simp only [quietN]; omega
      · have := layK_len n m m.entries.length
        simp only [addN]; omega
theorem snapF_len {n : Nd} {m : Ms} (hl : n.log.length ≤ 100000000) : (snapF n m).1.log.length ≤ 100000000 := by
  unfold snapF
  split
  · exact hl
  · split
    · simp only [snapN, restF]
      split
      · simp; omega
      · simp
    · exact hl
set_option maxHeartbeats 8000000 in
theorem take_fn {n : Nd} {m : Ms} (hn : Bd n) (hN : NBd n) (hM : badF n m ∨ MBd n m) : FnP Tryz.prog 100 [nd n, ms m] (fun r => r = .tup [nd (takeF n m).1, mss (takeF n m).2]) := by
  have hW := work_fn n (bd_len n hn)
  refine fn_enter Tryz.func100 (by rfl) (by rfl) ?_
  intro S0 w0
  show Sim _ _ [(0, T.agg (nodeC n (.sl false (n.log.map een)))), (1, T.agg (msC m (eens m.entries)))] _ _
  refine zC ?_
  apply cr
  refine e_bx fun b2 _ => ?_
  refine e_bx fun b3 _ => ?_
  refine e_al fun b4 _ => ?_
  refine s_ p_as ?_
  refine zC ?_
  refine sim_perm (List.perm_append_comm (l₁ := [_])) ?_
  refine lend1 3 (by simp [msC]) ?_
  refine lend1 2 (by simp [nodeC]) ?_
  refine zC ?_
  apply cr
  refine s_ p_la ?_
  refine e_cH (Hs := []) (Hr := [_]) hW (.refl _) (fun r H' ⟨b, hr, hw⟩ => ?_)
  subst hr
  have hw' := hw
  obtain ⟨vl, vo, Hl, Ho, h1, h2, rfl⟩ := hw
  obtain ⟨p, c, rfl⟩ := h1.len
  obtain ⟨q, d, rfl⟩ := h2.len
  refine s_ p_as ?_
  refine zC ?_
  refine ca [0, 1, 2, 3, 4, 5, 6, 7, 8, 9, 10, 11, 12, 13, 14, 15, 16, 17, 18, 19, 20, 21, 22, 23, 24, 25, 26, 27, 28] [] ?_
  refine a_ (fun _ => p_fa) ?_
  refine a_ (fun _ => p_ld) ?_
  refine a_ (fun _ => p_lt) ?_
  refine a_ (fun _ => p_mv) ?_
  refine ag_F (fun _ hg => p_fa) ?_
  refine ag_F (fun _ hg => p_ld (hx := u_ hg)) ?_
  refine ag_F (fun _ hg => p_ge (hx := u_ hg)) ?_
  refine a_ (fun _ => p_or) ?_
  refine a_ (fun _ => p_mv) ?_
  refine ag_F (fun _ hg => p_fa) ?_
  refine ag_F (fun _ hg => p_ld (hx := u_ hg)) ?_
  refine ag_F (fun _ hg => p_mv) ?_
  refine ag_F (fun _ hg => p_nc (hx := u_ hg)) ?_
  refine ag_F (fun _ hg => p_fr (hx := u_ hg)) ?_
  refine ag_F (fun _ hg => p_fr (hx := u_ hg)) ?_
  refine ag_loF ?_
  refine ag_F (fun _ hg => p_eq (hx := u_ hg) (hy := u_ hg)) ?_
  refine a_ (fun _ => p_or) ?_
  refine a_ (fun _ => p_mv) ?_
  refine ag_F (fun _ hg => p_fa) ?_
  refine ag_F (fun _ hg => p_ld (hx := u_ hg)) ?_
  refine ag_F (fun _ hg => p_mv) ?_
  refine ag_F (fun _ hg => p_nc (hx := u_ hg)) ?_
  refine ag_F (fun _ hg => p_fr (hx := u_ hg)) ?_
  refine ag_F (fun _ hg => p_fr (hx := u_ hg)) ?_
  refine ag_loF ?_
  refine ag_F (fun _ hg => p_ne (hx := u_ hg) (hy := u_ hg)) ?_
  refine a_ (fun _ => p_or) ?_
  refine a_ (fun _ => p_as) ?_
  apply an
  refine zC ?_
  refine ci ?_ ?_
  · intro hb
    refine zC ?_
    apply cr
    refine s_ p_mv ?_
    refine e_cH (done_fn (bd_len n hn) hw') (.refl _) (fun r H' ⟨hr, hr2⟩ => ?_)
    subst hr hr2
    refine s_ p_ex ?_
    refine s_ p_ex ?_
    refine e_st ?_
    refine s_ p_as ?_
    refine zC ?_
    refine zE ?_
    have hbad : badF n m := .inl hb
    rw [takeF, if_pos hbad]
    exact Le.refl _
  intro hb
  refine zC ?_
  apply cr
  refine s_ p_fa ?_
  refine s_ p_ld ?_
  refine s_ p_lt ?_
  refine s_ p_mv ?_
  refine gF (fun hg => p_fa) ?_
  refine gF (fun hg => p_ld (hx := u_ hg)) ?_
  refine gF (fun hg => p_gt (hx := u_ hg)) ?_
  refine s_ p_or ?_
  refine s_ p_mv ?_
  refine gF (fun hg => p_fa) ?_
  refine gF (fun hg => p_ld (hx := u_ hg)) ?_
  refine gF (fun hg => p_lt (hx := u_ hg)) ?_
  refine s_ p_or ?_
  refine s_ p_mv ?_
  refine gF (fun hg => p_fa) ?_
  refine gF (fun hg => p_ld (hx := u_ hg)) ?_
  refine gF (fun hg => p_gt (hx := u_ hg)) ?_
  refine s_ p_or ?_
  refine s_ p_as ?_
  refine zC ?_
  refine ci ?_ ?_
  · intro hb2
    refine zC ?_
    apply cr
    refine s_ p_mv ?_
    refine e_cH (done_fn (bd_len n hn) hw') (.refl _) (fun r H' ⟨hr, hr2⟩ => ?_)
    subst hr hr2
    refine s_ p_ex ?_
    refine s_ p_ex ?_
    refine e_st ?_
    refine s_ p_as ?_
    refine zC ?_
    refine zE ?_
    have hbad : badF n m := .inr hb2
    rw [takeF, if_pos hbad]
    exact Le.refl _
  intro hb2
  have hbad : ¬ badF n m := fun h => h.elim hb hb2
  have hM : MBd n m := hM.resolve_left hbad
  have hfr : 0 ≤ m.frm ∧ m.frm < 5 := by omega
  have hu := hn.up m
  have hNu := hN.up m
  have hMu := hM.up
  have hlu := hNu.log
  have hle := hMu.es
  have hi0 := hM.i0
  have hi1 := hM.i1
  have hv0 := hNu.v0
  have hv1 := hNu.v1
  have hx0 := hNu.x0
  have hx1 := hNu.x1
  have hm0 := hNu.m0
  have hm1 := hNu.m1
  refine zC ?_
  refine ca [0, 1, 2, 3, 4, 5, 6, 7] [] ?_
  refine a_ (fun _ => p_fa) ?_
  refine a_ (fun _ => p_ld) ?_
  refine a_ (fun _ => p_mv) ?_
  refine a_ (fun _ => p_nc) ?_
  refine a_ (fun _ => p_fr) ?_
  refine a_ (fun _ => p_fr) ?_
  refine a_lo ?_
  refine a_ (fun _ => p_gt) ?_
  apply an
  refine zC ?_
  show Sim _ _ _ _ (thenΨ _ _ _)
  refine sim_cut [(6, pW b), (3, .adr (.agg (msC m (eens m.entries)))), (4, .v (.pointer (some ⟨b4, 0, none⟩)))] ((b, ⟨tW, wkC (upN n m) (.slice p (n.log.map een).length c) (.slice q (List.length ([].map ms)) d), 23⟩) :: (Hl ++ (Ho ++ [])) ++ [(b4, (⟨44, nodeC zeroN (.v (.slice none 0 0)), 22⟩ : Blk))]) ?_ ?_
  · refine ci ?_ ?_
    · intro hgt
      refine zC ?_
      apply cr
      refine s_ p_mv ?_
      refine s_ p_mv ?_
      refine s_ p_mv ?_
      refine s_ p_mv ?_
      refine s_ p_fa ?_
      refine s_ p_ld ?_
      refine s_ p_nc ?_
      refine s_ p_fr ?_
      refine s_ p_fr ?_
      refine e_st ?_
      refine s_ p_nc ?_
      refine s_ p_fr ?_
      refine s_ p_fr ?_
      refine e_st ?_
      refine s_ p_nc ?_
      refine s_ p_fr ?_
      refine s_ p_fr ?_
      refine e_st ?_
      refine s_ p_nc ?_
      refine s_ p_fr ?_
      refine s_ p_fr ?_
      refine e_st ?_
      refine zC ?_
      have hgt' : n.term < m.term := hgt
      have e : upN n m = { n with term := m.term, vote := -1, role := 0, votes := 0 } := by rw [upN, if_pos hgt']
      rw [e]
      exact ⟨eL, kR⟩
    · intro hgt
      refine zC ?_
      have hgt' : ¬ n.term < m.term := hgt
      have e : upN n m = n := by rw [upN, if_neg hgt']
      rw [e]
      exact ⟨eL, kR⟩
  have hlog : (upN n m).log = n.log := by
    obtain ⟨_, _, _, _, e, _⟩ := upN_eq n m
    rw [e]
  have hw : WkH b (upN n m) [] ((b, ⟨tW, wkC (upN n m) (.slice p (n.log.map een).length c) (.slice q (List.length (([] : List Ms).map ms)) d), 23⟩) :: (Hl ++ (Ho ++ []))) := ⟨_, _, Hl, Ho, by rw [hlog]; exact h1, h2, rfl⟩
  refine zC ?_
  apply cr
  refine s_ p_fa ?_
  refine s_ p_ld ?_
  refine zC ?_
  apply cr
  refine s_ p_eq ?_
  refine s_ p_as ?_
  refine zC ?_
  refine ci ?_ ?_
  · intro hk1
    refine zC ?_
    apply cr
    refine s_ p_mv ?_
    refine s_ p_la ?_
    refine e_cH (vote_fn m hu (by simp) hw) (.refl _) (fun r H' ⟨hr, h3⟩ => ?_)
    subst hr
    refine zC ?_
    refine zC ?_
    refine zC ?_
    apply cr
    refine s_ p_mv ?_
    refine e_cH (done_fn (bd_len _ (voteF_bd m hu)) h3) (.refl _) (fun r H' ⟨hr, hr2⟩ => ?_)
    subst hr hr2
    refine s_ p_ex ?_
    refine s_ p_ex ?_
    refine e_st ?_
    refine s_ p_as ?_
    refine zC ?_
    refine zE ?_
    rw [takeF, if_neg hbad, actF, if_pos hk1]
    exact Le.refl _
  · intro hk1
    refine zC ?_
    apply cr
    refine s_ p_eq ?_
    refine s_ p_as ?_
    refine zC ?_
    refine ci ?_ ?_
    · intro hk2
      refine zC ?_
      apply cr
      refine s_ p_mv ?_
      refine s_ p_la ?_
      refine e_cH (voted_fn m hu hlu hv0 hv1 (by omega) (by omega) (by simp) hw) (.refl _) (fun r H' ⟨hr, h3⟩ => ?_)
      subst hr
      refine zC ?_
      refine zC ?_
      refine zC ?_
      apply cr
      refine s_ p_mv ?_
      refine e_cH (done_fn (bd_len _ (votedF_bd m hu hlu)) h3) (.refl _) (fun r H' ⟨hr, hr2⟩ => ?_)
      subst hr hr2
      refine s_ p_ex ?_
      refine s_ p_ex ?_
      refine e_st ?_
      refine s_ p_as ?_
      refine zC ?_
      refine zE ?_
      rw [takeF, if_neg hbad, actF, if_neg hk1, if_pos hk2]
      exact Le.refl _
    · intro hk2
      refine zC ?_
      apply cr
      refine s_ p_eq ?_
      refine s_ p_as ?_
      refine zC ?_
      refine ci ?_ ?_
      · intro hk3
        refine zC ?_
        apply cr
        refine s_ p_mv ?_
        refine s_ p_la ?_
        refine e_cH (add_fn m hu hle hi0 hi1 (by simp) hw) (.refl _) (fun r H' ⟨hr, h3⟩ => ?_)
        subst hr
        refine zC ?_
        refine zC ?_
        refine zC ?_
        apply cr
        refine s_ p_mv ?_
        refine e_cH (done_fn (by have := addF_len hle; omega) h3) (.refl _) (fun r H' ⟨hr, hr2⟩ => ?_)
        subst hr hr2
        refine s_ p_ex ?_
        refine s_ p_ex ?_
        refine e_st ?_
        refine s_ p_as ?_
        refine zC ?_
        refine zE ?_
        rw [takeF, if_neg hbad, actF, if_neg hk1, if_neg hk2, if_pos hk3]
        exact Le.refl _
      · intro hk3
        refine zC ?_
        apply cr
        refine s_ p_eq ?_
        refine s_ p_as ?_
        refine zC ?_
        refine ci ?_ ?_
        · intro hk4
          refine zC ?_
          apply cr
          refine s_ p_mv ?_
          refine s_ p_la ?_
          refine e_cH (heard_fn m hu (by omega) (by omega) (hx0 _) (hx1 _) (hm0 _) (hm1 _) (by omega) (by omega) (by simp) hw) (.refl _) (fun r H' ⟨hr, h3⟩ => ?_)
          subst hr
          refine zC ?_
          refine zC ?_
          refine zC ?_
          apply cr
          refine s_ p_mv ?_
          refine e_cH (done_fn (bd_len _ (heardF_bd m hu)) h3) (.refl _) (fun r H' ⟨hr, hr2⟩ => ?_)
          subst hr hr2
          refine s_ p_ex ?_
          refine s_ p_ex ?_
          refine e_st ?_
          refine s_ p_as ?_
          refine zC ?_
          refine zE ?_
          rw [takeF, if_neg hbad, actF, if_neg hk1, if_neg hk2, if_neg hk3, if_pos hk4]
          exact Le.refl _
        · intro hk4
          refine zC ?_
          apply cr
          refine s_ p_eq ?_
          refine s_ p_as ?_
          refine zC ?_
          refine ci ?_ ?_
          · intro hk5
            refine zC ?_
            apply cr
            refine s_ p_mv ?_
            refine s_ p_la ?_
            refine e_cH (snap_fn m hu (by omega) (by omega) (by simp) hw) (.refl _) (fun r H' ⟨hr, h3⟩ => ?_)
            subst hr
            refine zC ?_
            refine zC ?_
            refine zC ?_
            apply cr
            refine s_ p_mv ?_
            refine e_cH (done_fn (by have := snapF_len (n := upN n m) (m := m) hu.log; omega) h3) (.refl _) (fun r H' ⟨hr, hr2⟩ => ?_)
            subst hr hr2
            refine s_ p_ex ?_
            refine s_ p_ex ?_
            refine e_st ?_
            refine s_ p_as ?_
            refine zC ?_
            refine zE ?_
            rw [takeF, if_neg hbad, actF, if_neg hk1, if_neg hk2, if_neg hk3, if_neg hk4]
            exact Le.refl _
          · intro hk5
            exfalso
            exact hb2 (by omega)
end Go.Proofs.YtjbokbikkcfjjaaGreat
end
section
set_option maxRecDepth 4000
namespace Go.Proofs.YtjbokbikkcfjjaaGreat
open Go.Cap
set_option linter.unusedSimpArgs false
set_option linter.unusedVariables false
attribute [local irreducible] POp SimFrom DrawFrom EOp Sim FnH T.gp
def eenV (e : En) : List Value := [.int .i64 e.term, .int .i64 e.conf, .string (bs e.cmd)]
theorem eenV_inj {a b : En} : eenV a = eenV b ↔ a = b := by
  constructor
  · intro h
    simp only [eenV, List.cons.injEq, Value.int.injEq, Value.string.injEq, true_and, and_true] at h
    cases a; cases b
    simp only at h
    rw [h.1, h.2.1, bs_inj h.2.2]
  · intro h; rw [h]
set_option maxHeartbeats 1000000 in
theorem equal_fn (f f' : Bool) (l m : List En) (hl : l.length ≤ 1000000000) (hm : m.length ≤ 1000000000) : FnP Tryz.prog 160 [.sl f (l.map een), .sl f' (m.map een)] (fun r => r = .v (.bool (decide (l = m)))) := by
  refine fn_enter Tryz.func160 (by rfl) (by rfl) ?_
  intro S0 w0
  show Sim _ _ [(0, T.sl f (l.map een)), (1, T.sl f' (m.map een))] _ _
  refine zC ?_
  apply cr
  refine s_ p_as ?_
  refine zC ?_
  apply cr
  refine s_ p_mv ?_
  (first | refine s_ p_ln ?_ | refine s_ p_lr ?_)
  refine s_ p_mv ?_
  (first | refine s_ p_ln ?_ | refine s_ p_lr ?_)
  refine s_ p_ne ?_
  refine zC ?_
  refine ci ?_ ?_
  · intro hne
    refine zC ?_
    apply cr
    refine s_ p_as ?_
    refine zC ?_
    refine zE ?_
    refine Le.of_eq ?_
    rw [show decide (l = m) = false from decide_eq_false (fun h => hne (by rw [h]))]
    rfl
  intro hne
  have hlen : l.length = m.length := by simp only [List.length_map] at hne; omega
  refine zC ?_
  apply cr
  refine s_ p_mv ?_
  (first | refine s_ p_ln ?_ | refine s_ p_lr ?_)
  refine s_ p_mv ?_
  refine zC ?_
  apply sim_loopL (σ := Nat) (ok := fun k => k ≤ l.length ∧ l.take k = m.take k) (env := fun k => [(13, ei (k : Nat)), (12, ei ((l.map een).length : Nat)), (0, T.sl f (l.map een)), (1, T.sl f' (m.map een))]) (heap := fun _ => []) (μ := fun k => l.length - k) (s0 := 0)
  · exact ⟨Nat.zero_le _, by simp⟩
  · exact eL
  · exact kR
  rintro k ⟨hk, htk⟩
  refine zC ?_
  apply cr
  refine s_ p_lt ?_
  refine zC ?_
  refine ci ?_ ?_
  · intro hlt
    simp only [List.length_map] at hlt
    have hkl : k < l.length := by omega
    have hkm : k < m.length := by omega
    have hix := hkl
    have hix2 := hkm
    refine zC ?_
    apply cr
    refine s_ p_mv ?_
    refine s_ p_as ?_
    refine zC ?_
    refine ca [0, 1, 2, 3, 4, 5, 6, 7, 8] [] ?_
    refine a_ (fun _ => p_mv) ?_
    refine a_ (fun _ => p_mv) ?_
    (first | refine a_ (fun _ => p_ix hix) ?_ | refine a_ (fun _ => p_ix hix2) ?_ | refine a_ (fun _ => p_ia) ?_ | refine a_ (fun _ => p_ir) ?_)
    (first | refine a_ (fun _ => p_la) ?_ | refine a_loa ?_)
    refine a_ (fun _ => p_mv) ?_
    refine a_ (fun _ => p_mv) ?_
    (first | refine a_ (fun _ => p_ix hix) ?_ | refine a_ (fun _ => p_ix hix2) ?_ | refine a_ (fun _ => p_ia) ?_ | refine a_ (fun _ => p_ir) ?_)
    (first | refine a_ (fun _ => p_la) ?_ | refine a_loa ?_)
    refine a_ (fun _ => p_neD 2 [.int .i64, .int .i64, .str] Tryz.eqGuardType84) ?_
    apply an
    refine zC ?_
    refine ci ?_ ?_
    · intro hd
      refine zC ?_
      apply cr
      refine s_ p_as ?_
      refine zC ?_
      refine zE ?_
      refine Le.of_eq ?_
      rw [show decide (l = m) = false from decide_eq_false (fun h => hd (by subst h; rfl))]
      rfl
    · intro hd
      have he : l[k] = m[k] := eenV_inj.1 (Classical.not_not.1 hd)
      refine zC ?_
      apply cr
      refine s_ p_ad ?_
      refine s_ p_mv ?_
      refine zC ?_
      refine ⟨k + 1, ⟨by omega, ?_⟩, by show l.length - (k + 1) < l.length - k; omega, ⟨le_get (by rfl) (Le.refl _), eL⟩, kR⟩
      rw [List.take_succ_eq_append_getElem hkl, List.take_succ_eq_append_getElem hkm, htk, he]
  · intro hlt
    simp only [List.length_map] at hlt
    have hkl : k = l.length := by omega
    have he : l = m := by
      have := htk
      rwa [hkl, List.take_length, hlen, List.take_length] at this
    refine zC ?_
    apply cr
    refine s_ p_as ?_
    refine zC ?_
    refine zE ?_
    refine Le.of_eq ?_
    rw [show decide (l = m) = true from decide_eq_true he]
    rfl
def numC (n : Nd) : List T := [ei n.id, ei n.term, ei n.vote, ei n.base, ei n.baseTerm, ei n.baseConf, ei n.commit, ei n.role, ei n.wait, ei n.votes] ++ (f5C n.next ++ f5C n.mtch)
set_option maxHeartbeats 4000000 in
theorem of_fn (n : Nd) : FnP Tryz.prog 159 [nd n] (fun r => r = .agg (numC n)) := by
  refine fn_enter Tryz.func159 (by rfl) (by rfl) ?_
  intro S0 w0
  show Sim _ _ [(0, T.agg (nodeC n (.sl false (n.log.map een))))] _ _
  refine zC ?_
  apply cr
  refine e_bx fun b1 _ => ?_
  refine e_al fun b2 _ => ?_
  refine zC ?_
  refine sim_perm (List.Perm.swap _ _ _) ?_
  refine lend1 1 (by simp [nodeC]) ?_
  refine zC ?_
  apply cr
  refine s_ p_fa ?_
  refine s_ p_ld ?_
  refine s_ p_fa ?_
  refine s_ p_ld ?_
  refine s_ p_fa ?_
  refine s_ p_ld ?_
  refine s_ p_fa ?_
  refine s_ p_ld ?_
  refine s_ p_fa ?_
  refine s_ p_ld ?_
  refine s_ p_fa ?_
  refine s_ p_ld ?_
  refine s_ p_fa ?_
  refine s_ p_ld ?_
  refine s_ p_fa ?_
  refine s_ p_ld ?_
  refine s_ p_fa ?_
  refine s_ p_ld ?_
  refine s_ p_fa ?_
  refine s_ p_ld ?_
  refine s_ p_faA ?_
  refine s_ p_la ?_
  refine s_ p_faA ?_
  refine s_ p_la ?_
  refine s_ (p_bR 20) ?_
  refine e_st ?_
  refine zC ?_
  refine zE ?_
  exact Le.refl _
theorem same_iff (a b : Nd) : ((numC a).map (fun x => match x with | .v y => y | _ => undef) = (numC b).map (fun x => match x with | .v y => y | _ => undef) ∧ a.snap = b.snap) ∧ a.log = b.log ↔ a = b := by
  constructor
  · rintro ⟨⟨h, h1⟩, h2⟩
    obtain ⟨_, _, _, _, _, _, _, _, _, _, _, _, ⟨_, _, _, _, _⟩, ⟨_, _, _, _, _⟩⟩ := a
    obtain ⟨_, _, _, _, _, _, _, _, _, _, _, _, ⟨_, _, _, _, _⟩, ⟨_, _, _, _, _⟩⟩ := b
    simp only [numC, f5C, ei, List.map_cons, List.map_nil, List.cons_append, List.nil_append, List.cons.injEq, Value.int.injEq, true_and, and_true] at h
    simp only at h1 h2
    simp only [Nd.mk.injEq, F5.mk.injEq]
    simp_all
  · rintro rfl; simp
set_option maxHeartbeats 1000000 in
theorem same_fn (a b : Nd) (ha : a.log.length ≤ 1000000000) (hb : b.log.length ≤ 1000000000) : FnP Tryz.prog 139 [nd a, nd b] (fun r => r = .v (.bool (decide (a = b)))) := by
  have h1 := of_fn a
  have h2 := of_fn b
  have he := equal_fn false false a.log b.log ha hb
  refine fn_enter Tryz.func139 (by rfl) (by rfl) ?_
  intro S0 w0
  show Sim _ _ [(0, T.agg (nodeC a (.sl false (a.log.map een)))), (1, T.agg (nodeC b (.sl false (b.log.map een))))] _ _
  refine zC ?_
  apply cr
  refine e_bx fun b2 _ => ?_
  refine e_bx fun b3 _ => ?_
  refine s_ p_as ?_
  refine zC ?_
  refine lend1 3 (by simp [nodeC]) ?_
  refine lend1 2 (by simp [nodeC]) ?_
  refine zC ?_
  refine ca [0, 1, 2, 3, 4, 5, 6, 7, 8, 9, 10, 11, 12, 13, 14, 15, 16, 17, 18, 19] [] ?_
  refine a_ (fun _ => p_la) ?_
  refine a_ (fun _ => p_ca (h1)) ?_
  refine a_ (fun _ => p_la) ?_
  refine a_ (fun _ => p_ca (h2)) ?_
  refine a_ (fun _ => p_eqD 3 [.int .i64, .int .i64, .int .i64, .int .i64, .int .i64, .int .i64, .int .i64, .int .i64, .int .i64, .int .i64, .int .i64, .int .i64, .int .i64, .int .i64, .int .i64, .int .i64, .int .i64, .int .i64, .int .i64, .int .i64] Tryz.eqGuardType200) ?_
  refine a_ (fun _ => p_mv) ?_
  refine ag_T (fun _ hg => p_fa) ?_
  refine ag_T (fun _ hg => p_ld (hx := u_ hg)) ?_
  refine ag_T (fun _ hg => p_fa) ?_
  refine ag_T (fun _ hg => p_ld (hx := u_ hg)) ?_
  refine ag_T (fun _ hg => p_eqS (hx := u_ hg) (hy := u_ hg)) ?_
  refine a_ (fun _ => p_an) ?_
  refine a_ (fun _ => p_mv) ?_
  refine ag_T (fun _ hg => p_fa) ?_
  refine ag_T (fun _ hg => p_ld (hx := u_ hg)) ?_
  refine ag_T (fun _ hg => p_fa) ?_
  refine ag_T (fun _ hg => p_ld (hx := u_ hg)) ?_
  refine ag_T (fun _ hg => p_ca (he) (ha' := by apply evl_cons (u_ hg); apply evl_cons (u_ hg); exact evl_nil)) ?_
  refine a_ (fun _ => p_an) ?_
  refine a_ (fun _ => p_as) ?_
  apply an
  refine zC ?_
  refine zE ?_
  refine Le.of_eq (congrArg (fun z => T.v (.bool z)) ?_)
  rw [decide_eq_decide]
  exact same_iff a b
end Go.Proofs.YtjbokbikkcfjjaaGreat
end
section
set_option maxRecDepth 4000
namespace Go.Proofs.YtjbokbikkcfjjaaGreat
open Go.Cap
set_option linter.unusedSimpArgs false
set_option linter.unusedVariables false
attribute [local irreducible] POp SimFrom DrawFrom EOp Sim FnH T.gp
theorem clone_fnD (f : Bool) (l : List En) (hl : l.length ≤ 1000000000) : FnP Tryz.prog 72 [.sl f (l.map een)] (fun r => r = eens l) :=
  FnH.give (clone_fn f l hl) (by rintro r H ⟨v, rfl, ho⟩; exact ho.lend fun _ h => h)
def wakeF (n : Nd) : Nd := { n with role := 0, wait := 0, votes := 0, next := .all 0, mtch := .all 0 }
theorem wake_fn (n : Nd) (hl : n.log.length ≤ 1000000000) : FnP Tryz.prog 68 [nd n] (fun r => r = nd (wakeF n)) := by
  have hc := clone_fnD false n.log hl
  refine fn_enter Tryz.func68 (by rfl) (by rfl) ?_
  intro S0 w0
  show Sim _ _ [(0, T.agg (nodeC n (.sl false (n.log.map een))))] _ _
  refine zC ?_
  apply cr
  refine e_bx fun b1 _ => ?_
  refine e_al fun b2 _ => ?_
  refine zC ?_
  refine sim_perm (List.Perm.swap _ _ _) ?_
  refine lend1 1 (by simp [nodeC]) ?_
  refine zC ?_
  refine ca [0, 1, 2, 3, 4, 5, 6, 7, 8, 9, 10, 11, 12, 13, 14, 15, 16, 17, 18, 19, 20] [20] ?_
  refine a_ (fun _ => p_fa) ?_
  refine a_ (fun _ => p_ld) ?_
  refine a_ (fun _ => p_fa) ?_
  refine a_ (fun _ => p_ld) ?_
  refine a_ (fun _ => p_fa) ?_
  refine a_ (fun _ => p_ld) ?_
  refine a_ (fun _ => p_fa) ?_
  refine a_ (fun _ => p_ld) ?_
  refine a_ (fun _ => p_fa) ?_
  refine a_ (fun _ => p_ld) ?_
  refine a_ (fun _ => p_fa) ?_
  refine a_ (fun _ => p_ld) ?_
  refine a_ (fun _ => p_fa) ?_
  refine a_ (fun _ => p_ld) ?_
  refine a_ (fun _ => p_fa) ?_
  refine a_ (fun _ => p_ld) ?_
  refine a_ (fun _ => p_ca (hc)) ?_
  refine a_ (fun _ => p_fa) ?_
  refine a_ (fun _ => p_ld) ?_
  refine a_ (fun _ => p_bR 22) ?_
  refine a_st ?_
  apply an
  refine zC ?_
  refine zE ?_
  exact Le.refl _
end Go.Proofs.YtjbokbikkcfjjaaGreat
end
