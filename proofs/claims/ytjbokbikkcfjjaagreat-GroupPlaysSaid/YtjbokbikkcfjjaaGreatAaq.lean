/-
  replica: a snapshot, laid by one that follows.
-/
import Derived.Test.YtjbokbikkcfjjaaGreatAap
set_option maxRecDepth 16000
set_option maxHeartbeats 8000000
set_option linter.all false
namespace Go.Proofs.YtjbokbikkcfjjaaGreat
open Go.Cap
attribute [local irreducible] POp Qi SO EOp Sim FnH T.gp
def ZQ (n : Nd) (m : Ms) : List En := if (m.index ≤ Qq n ∧ n.base < m.index) ∧ termF n m.index = m.logTerm then n.log.drop (m.index - n.base).toNat else []
def Jd (n : Nd) (m : Ms) : Nd := { QU n with log := ZQ n m, base := m.index, baseTerm := m.logTerm, baseConf := m.conf, snap := m.snap, commit := m.index }
def Zq (n : Nd) (m : Ms) : Nd × List Ms := if m.term < n.term then (n, [QW n m.frm (YD false 0)]) else
 if n.commit < m.index then (Jd n m, [QW (Jd n m) m.frm (YD true (max m.index n.commit))]) else (QU n, [QW (QU n) m.frm (YD true (max m.index n.commit))])
theorem Sh {H B : Qd} (h : Qp B []) : Qp (H ++ B) H := by
 induction H with
 | nil => exact h
 | cons p H ih => exact .keep _ _ _ _ _ (YZ.refl _) ih
theorem Pb {b : Nat} {n : Nd} {out : List Ms} {H : Qd} (m : Ms) (hn : Bd n) (hi0 : -50000000000 ≤ m.index) (hi1 : m.index ≤ 50000000000) (ho : out.length ≤ 900) (hw : WkH b n out H) :
  FnH Tryz.prog 137 [pW b, ms m] H (fun r H' => r = .tup [] ∧ WkH b (Zq n m).1 (out ++ (Zq n m).2) H') := by
 have hb0 := hn.base0
 have hb1 := hn.base1
 have hlog := hn.log
 have hL := Um (QU n) (by show n.log.length ≤ _; omega) (by show _ ≤ n.base; omega) (by show n.base ≤ _; omega)
 refine fe Tryz.func137 fun S0 w0 => ?_
 show Sim _ _ [(0, pW b), (1, T.agg (msC m (XZ m.entries)))] _ _
 refine zC ?_
 apply cr
 refine Xk fun b3 _ => ?_
 refine zC ?_
 refine X4 3 (by simp [msC]) ?_
 refine zC ?_
 refine cr <| s_ Qa <| s_ XN ?_
 refine QY (Mp m (by omega) hw) (fun r H' ⟨hr, hw⟩ => ?_)
 subst hr
 refine s_ Yb <| zC ?_
 refine ci ?_ ?_
 ·intro hc
  have hlt : m.term < n.term := Decidable.not_not.1 hc
  rw [if_pos hlt, if_pos hlt] at hw
  refine zR ?_
  refine rh kR ⟨rfl, ?_⟩ (Le.refl _)
  rw [Zq, if_pos hlt]
  exact hw
 intro hc
 have hlt : ¬ m.term < n.term := fun h => hc (fun h' => h' h)
 rw [if_neg hlt, if_neg hlt] at hw
 have hw1 := hw
 obtain ⟨vl, vo, Hl, Ho, h1, h2, rfl⟩ := hw
 obtain ⟨p, c, rfl⟩ := h1.len
 obtain ⟨q, d, rfl⟩ := h2.len
 have hqb : (QU n).base = n.base := rfl
 have hcap : (n.log.map een).length ≤ c := OSl.cap h1
 refine zC ?_
 refine cr <| s_ Qa <| s_ Qe <| s_ Qc <| s_ Qc <| s_ Ql <| s_ Qb <| zC ?_
 refine ca [0, 1, 2, 3, 4, 5, 6, 7] [] <| a_ (fun _ => Qj) <| a_ (fun _ => Qf) <| a_ (fun _ => Qa) <| a_ (fun _ => Qe) <| a_ (fun _ => Qc) <| a_ (fun _ => Qc) <| Qv ?_
 refine a_ (fun _ => XX) ?_
 apply an
 refine zC ?_
 refine ci ?_ ?_
 ·intro hgt
  refine zC ?_
  refine cr <| s_ Qa <| s_ Qe <| s_ Qc <| s_ Qw <| s_ (LZ hL (Qk.cons (QJ.agg (Xa (QU n) (h1.lend (by intro p hp; simp [hp])))) Qk.nil)) ?_
  have hT := VZ (QU n) m.index (by show n.log.length ≤ _; omega) (by simp only [big]; show _ ≤ n.base; omega) (by simp only [big]; show n.base ≤ _; omega) (by simp only [big]; omega) (by simp only [big]; omega)
  refine s_ Qa <| s_ Qt <| s_ Qt <| s_ Qb <| s_ Qb <| zC ?_
  refine cr <| s_ Qb <| zC ?_
  refine ca [0, 1, 2, 3, 4, 5, 6, 7, 8, 9, 10, 11, 12, 13, 14, 15, 16, 17, 18, 19, 20, 21, 22, 23, 24] [] <| a_ (fun _ => Qj) <| a_ (fun _ => Qf) <| a_ (fun _ => Qa) <| a_ (fun _ => Ej) <| a_ (fun _ => Qa) <| QI (fun _ hg => Qj) ?_
  refine QI (fun _ hg => Qf (hx := u_ hg)) ?_
  refine QI (fun _ hg => Qa) ?_
  refine QI (fun _ hg => Qe (hx := u_ hg)) ?_
  refine QI (fun _ hg => Qc (hx := u_ hg)) ?_
  refine QI (fun _ hg => Qc (hx := u_ hg)) ?_
  refine Zt ?_
  refine QI (fun _ hg => XX (hx := u_ hg) (hy := u_ hg)) ?_
  refine a_ (fun _ => Xv) <| a_ (fun _ => Qa) <| QI (fun _ hg => Qa) ?_
  refine QI (fun _ hg => Qe (hx := u_ hg)) ?_
  refine QI (fun _ hg => Qc (hx := u_ hg)) ?_
  refine QI (fun _ hg => Qj) ?_
  refine QI (fun _ hg => Qf (hx := u_ hg)) ?_
  refine KR (G := (b, _) :: (Hl ++ (Ho ++ []))) (fun _ => hT) (fun _ => Qk.cons (WS (n := QU n) h1 (by intro p hp; simp [hp]) List.mem_cons_self) (Qk.cons (QJ.le (Le.refl _)) Qk.nil)) ⟨[], W9⟩ ?_ (fun hg => by refine Qu (u_ hg) (Qu (u_ hg) Xh))
  refine QI (fun _ hg => Qj) ?_
  refine QI (fun _ hg => Qf (hx := u_ hg)) ?_
  refine QI (fun _ hg => Q5 (hx := u_ hg) (hy := u_ hg)) ?_
  refine a_ (fun _ => Xv) ?_
  apply an
  refine zC ?_
  refine ci ?_ ?_
  ·intro hr
   have hr' : (m.index ≤ Qq n ∧ n.base < m.index) ∧ termF n m.index = m.logTerm := hr
   have hrest : ZQ n m = n.log.drop (m.index - n.base).toNat := by rw [ZQ, if_pos hr']
   have hlf : Qq n = n.base + n.log.length := rfl
   obtain ⟨lo, hlo⟩ : ∃ lo : Nat, (lo : Int) = m.index - n.base := ⟨(m.index - n.base).toNat, by omega⟩
   have hlol : lo ≤ n.log.length := by omega
   have hs5 := (h1.sle (G := (b, ⟨tW, wkC (QU n) (.slice p (n.log.map een).length c) (.slice q (out.map ms).length d), 23⟩) :: (Hl ++ (Ho ++ []))) (by intro p hp; simp [hp]))
   have hs5' := SlE.sub hs5 (lo := lo) (hi := n.log.length) hlol (Nat.le_refl _)
   rw [List.take_of_length_le (by simp [QU])] at hs5'
   obtain ⟨p5, c5, e5, hc5, hl5⟩ := hs5'
   refine zC ?_
   refine ca [0, 1, 2, 3, 4, 5, 6, 7, 8, 9, 10, 11, 12, 13, 14] [] <| a_ (fun _ => Qa) <| a_ (fun _ => Qe) <| a_ (fun _ => Qc) <| a_ (fun _ => Qc) <| Qv ?_
   refine a_ (fun _ => Qj) <| a_ (fun _ => Qf) <| a_ (fun _ => Qa) <| a_ (fun _ => Qe) <| a_ (fun _ => Qc) <| a_ (fun _ => Qc) <| Qv ?_
   refine a_ (fun _ => Yr) ?_
   rw [hqb, ← hlo]
   refine a_ (fun _ => Iu (v := .slice p5 (n.log.drop lo).length c5) hcap (by rw [List.length_map, Int.toNat_natCast]; exact e5)) <| a_ (fun _ => Qb) ?_
   apply an
   refine zC ?_
   have hrl : ZQ n m = n.log.drop lo := by rw [hrest, ← hlo, Int.toNat_natCast]
   refine zC ?_
   refine cr <| s_ Qa <| s_ Qa ?_
   refine Nq (Jn false (n.log.drop lo) (by first | (simp; done) | (simp; omega))) (Qk.cons ((e5 ▸ hl5)) Qk.nil) OE.of ?_
   rintro r H1 ⟨v, rfl, ho⟩
   obtain ⟨p8, c8, rfl⟩ := ho.len
   refine QV (List.perm_middle) ?_
   refine s_ Qe <| s_ Qc <| s_ Qc <| Qn ?_
   refine zC ?_
   refine ca [0, 1, 2, 3, 4, 5, 6, 7, 8, 9, 10, 11, 12, 13, 14, 15, 16, 17, 18, 19, 20, 21, 22, 23, 24, 25, 26, 27, 28, 29, 30, 31, 32, 33, 34] [18, 22, 26, 30, 34] <| a_ (fun _ => Qa) <| a_ (fun _ => Qa) <| a_ (fun _ => Qa) <| a_ (fun _ => Qa) <| a_ (fun _ => Qa) <| a_ (fun _ => Qj) <| a_ (fun _ => Qf) <| a_ (fun _ => Qj) <| a_ (fun _ => Qf) <| a_ (fun _ => Qj) <| a_ (fun _ => Qf) <| a_ (fun _ => Qj) <| a_ (fun _ => Qf) <| a_ (fun _ => Qj) <| a_ (fun _ => Qf) <| a_ (fun _ => Qe) <| a_ (fun _ => Qc) <| a_ (fun _ => Qc) <| Q2 ?_
   refine a_ (fun _ => Qe) <| a_ (fun _ => Qc) <| a_ (fun _ => Qc) <| Q2 ?_
   refine a_ (fun _ => Qe) <| a_ (fun _ => Qc) <| a_ (fun _ => Qc) <| Q2 ?_
   refine a_ (fun _ => Qe) <| a_ (fun _ => Qc) <| a_ (fun _ => Qc) <| Q2 ?_
   refine a_ (fun _ => Qe) <| a_ (fun _ => Qc) <| a_ (fun _ => Qc) <| Q2 ?_
   apply an
   refine zC ?_
   refine cr <| s_ Qa <| s_ Qj <| s_ Qf <| s_ Qj <| s_ Qf <| s_ Qa <| s_ VG ?_
   refine Q1 (Hs := (b, _) :: (H1 ++ (Ho ++ []))) (Hr := Hl) (FnH.of_le ?_ (Jp m.frm true (max m.index n.commit) (by omega) (show WkH b (Jd n m) out ((b, ⟨tW, wkC (Jd n m) (.slice p8 _ c8) (.slice q (out.map ms).length d), 23⟩) :: (H1 ++ (Ho ++ []))) from ⟨_, _, H1, Ho, (by rw [show (Jd n m).log = n.log.drop lo from hrl]; exact ho), h2, rfl⟩))) ?_ (fun r H' ⟨hr, h3⟩ => ?_)
   ·exact zM
   ·refine .cons _ ?_
    show List.Perm _ ((H1 ++ (Ho ++ [])) ++ Hl)
    rw [List.append_assoc]
    refine .append_left _ ?_
    exact List.perm_append_comm
   ·subst hr
    refine zC ?_
    refine rhn (H' := H') (Sh kN) ⟨rfl, ?_⟩ (Le.refl _)
    have hgt' : n.commit < m.index := hgt
    rw [Zq, if_neg hlt, if_pos hgt']
    exact h3
  ·intro hr
   have hr' : ¬ ((m.index ≤ Qq n ∧ n.base < m.index) ∧ termF n m.index = m.logTerm) := hr
   have hrl : ZQ n m = [] := by rw [ZQ, if_neg hr']
   refine zC ?_
   refine cr <| s_ Qa <| s_ Qa ?_
   refine Nq (Jn false [] (by first | (simp; done) | (simp; omega))) (Qk.cons (QJ.le (Le.nil _)) Qk.nil) OE.of ?_
   rintro r H1 ⟨v, rfl, ho⟩
   obtain ⟨p8, c8, rfl⟩ := ho.len
   refine QV (List.perm_middle) ?_
   refine s_ Qe <| s_ Qc <| s_ Qc <| Qn ?_
   refine zC ?_
   refine ca [0, 1, 2, 3, 4, 5, 6, 7, 8, 9, 10, 11, 12, 13, 14, 15, 16, 17, 18, 19, 20, 21, 22, 23, 24, 25, 26, 27, 28, 29, 30, 31, 32, 33, 34] [18, 22, 26, 30, 34] <| a_ (fun _ => Qa) <| a_ (fun _ => Qa) <| a_ (fun _ => Qa) <| a_ (fun _ => Qa) <| a_ (fun _ => Qa) <| a_ (fun _ => Qj) <| a_ (fun _ => Qf) <| a_ (fun _ => Qj) <| a_ (fun _ => Qf) <| a_ (fun _ => Qj) <| a_ (fun _ => Qf) <| a_ (fun _ => Qj) <| a_ (fun _ => Qf) <| a_ (fun _ => Qj) <| a_ (fun _ => Qf) <| a_ (fun _ => Qe) <| a_ (fun _ => Qc) <| a_ (fun _ => Qc) <| Q2 ?_
   refine a_ (fun _ => Qe) <| a_ (fun _ => Qc) <| a_ (fun _ => Qc) <| Q2 ?_
   refine a_ (fun _ => Qe) <| a_ (fun _ => Qc) <| a_ (fun _ => Qc) <| Q2 ?_
   refine a_ (fun _ => Qe) <| a_ (fun _ => Qc) <| a_ (fun _ => Qc) <| Q2 ?_
   refine a_ (fun _ => Qe) <| a_ (fun _ => Qc) <| a_ (fun _ => Qc) <| Q2 ?_
   apply an
   refine zC ?_
   refine cr <| s_ Qa <| s_ Qj <| s_ Qf <| s_ Qj <| s_ Qf <| s_ Qa <| s_ VG ?_
   refine Q1 (Hs := (b, _) :: (H1 ++ (Ho ++ []))) (Hr := Hl) (FnH.of_le ?_ (Jp m.frm true (max m.index n.commit) (by omega) (show WkH b (Jd n m) out ((b, ⟨tW, wkC (Jd n m) (.slice p8 _ c8) (.slice q (out.map ms).length d), 23⟩) :: (H1 ++ (Ho ++ []))) from ⟨_, _, H1, Ho, (by rw [show (Jd n m).log = [] from hrl]; exact ho), h2, rfl⟩))) ?_ (fun r H' ⟨hr, h3⟩ => ?_)
   ·exact zM
   ·refine .cons _ ?_
    show List.Perm _ ((H1 ++ (Ho ++ [])) ++ Hl)
    rw [List.append_assoc]
    refine .append_left _ ?_
    exact List.perm_append_comm
   ·subst hr
    refine zC ?_
    refine rhn (H' := H') (Sh kN) ⟨rfl, ?_⟩ (Le.refl _)
    have hgt' : n.commit < m.index := hgt
    rw [Zq, if_neg hlt, if_pos hgt']
    exact h3
 ·intro hgt
  refine zC ?_
  refine cr <| s_ Qa <| s_ Qj <| s_ Qf <| s_ Qj <| s_ Qf <| s_ Qa <| s_ VG ?_
  refine QY (FnH.of_le ?_ (Jp m.frm true (max m.index n.commit) (by omega) hw1)) (fun r H' ⟨hr, h3⟩ => ?_)
  ·exact zM
  ·subst hr
   refine zC ?_
   refine rhn kR ⟨rfl, ?_⟩ (Le.refl _)
   have hgt' : ¬ n.commit < m.index := hgt
   rw [Zq, if_neg hlt, if_neg hgt']
   exact h3
def Xi (n : Nd) : Nd × List Ms := if n.role = 2 then (n, XJ n (Y4 n) 5) else if ¬ isF (QA n).2 n.id = true then (n, []) else
 if 5 + 3 * n.id ≤ n.wait + 1 ∧ n.term < 1073741824 then Yl { n with wait := n.wait + 1 } else ({ n with wait := n.wait + 1 }, [])
theorem Y1 (n : Nd) (h : Bd n) : n.log.length ≤ 1000000000 := by have := h.log; omega
theorem IF {n : Nd} (hn : Bd n) (hl : n.log.length < 100000000) : Bd (Xy n) := (hn.lead hl).commit
theorem AC {n : Nd} (hn : Bd n) (hl : n.log.length < 100000000) : Bd (Yl n).1 := by
 unfold Yl
 split
 ·exact IF hn.stand hl
 ·exact hn.stand
theorem tick_fn {n : Nd} (hn : Bd n) (hl : n.log.length < 100000000) (ht0 : 0 ≤ n.term) (ht1 : n.term ≤ 1000000000000) (hw0 : 0 ≤ n.wait) (hw1 : n.wait ≤ 1000000000) (hx : ∀ i, n.next.get i ≤ 100000000000) :
  FnP Tryz.prog 76 [nd n] (fun r => r = .tup [nd (Xi n).1, mss (Xi n).2]) := by
 have hC := LK n (Y1 n hn) (by have := hn.base0; omega) (by have := hn.base1; omega)
 have hI := TO (QA n).2 n.id hn.id0 hn.id5 hn.conf0 hn.conf1
 have hW := Lp n (Y1 n hn)
 have hi0 := hn.id0
 have hi5 := hn.id5
 refine fe Tryz.func76 fun S0 w0 => ?_
 show Sim _ _ [(0, T.agg (Qg n (.sl false (n.log.map een))))] _ _
 refine zC ?_
 apply cr
 refine Xk fun b1 _ => ?_
 refine Xt fun b2 _ => ?_
 refine s_ Qb <| zC ?_
 refine Xr (List.Perm.swap _ _ _) ?_
 refine X4 1 (by simp [Qg]) ?_
 refine zC ?_
 refine cr <| s_ XN ?_
 refine Q1 (Hs := []) (Hr := [_]) hW (.refl _) (fun r H' ⟨b, hr, hw⟩ => ?_)
 subst hr
 have hw' := hw
 obtain ⟨vl, vo, Hl, Ho, h1, h2, rfl⟩ := hw
 obtain ⟨p, c, rfl⟩ := h1.len
 obtain ⟨q, d, rfl⟩ := h2.len
 refine s_ Qb <| zC ?_
 refine cr <| s_ Qa <| s_ Qe <| s_ Qc <| s_ Qc <| s_ Ql <| s_ Q5 <| zC ?_
 refine ci ?_ ?_
 ·intro hr
  refine zC ?_
  refine cr <| s_ Qa <| s_ Qa <| s_ Wd ?_
  refine Q1 (Iz hn hx (by simp) hw') (.refl _) (fun r H' ⟨hr, h3⟩ => ?_)
  subst hr
  refine zC ?_
  refine cr <| s_ Qa ?_
  refine Q1 (Y9 (Y1 n hn) h3) (.refl _) (fun r H' ⟨hr, hr2⟩ => ?_)
  subst hr hr2
  refine s_ Qt <| s_ Qt <| Qn ?_
  refine s_ Qb <| zC ?_
  refine zE ?_
  rw [Xi, if_pos hr]
  exact Le.refl _
 ·intro hr
  refine zC ?_
  refine ca [0, 1, 2, 3, 4, 5] [] <| a_ (fun _ => XN) <| a_ (fun _ => Qr (hC)) <| a_ (fun _ => Qj) <| a_ (fun _ => Qf) <| a_ (fun _ => Qr (hI)) <| a_ (fun _ => Yb) ?_
  apply an
  refine zC ?_
  refine ci ?_ ?_
  ·intro hm
   refine zC ?_
   refine cr <| s_ Qa ?_
   refine Q1 (Y9 (Y1 n hn) hw') (.refl _) (fun r H' ⟨hr, hr2⟩ => ?_)
   subst hr hr2
   refine s_ Qt <| s_ Qt <| Qn ?_
   refine s_ Qb <| zC ?_
   refine zE ?_
   rw [Xi, if_neg hr, if_pos hm]
   exact Le.refl _
  ·intro hm
   have hn1 : Bd { n with wait := n.wait + 1 } := hn.of
   refine zC ?_
   refine cr <| s_ Qa <| s_ Qe <| s_ Qc <| s_ Qc <| s_ Ql <| s_ QQ <| s_ Qe <| s_ Qc <| s_ Qc <| Qn ?_
   refine zC ?_
   refine ca [0, 1, 2, 3, 4, 5, 6, 7, 8, 9, 10, 11, 12, 13, 14, 15, 16, 17, 18, 19, 20] [] <| a_ (fun _ => Qa) <| a_ (fun _ => Qe) <| a_ (fun _ => Qc) <| a_ (fun _ => Qc) <| Qv ?_
   refine a_ (fun _ => Qa) <| a_ (fun _ => Qe) <| a_ (fun _ => Qc) <| a_ (fun _ => Qc) <| Qv ?_
   refine a_ (fun _ => Tl) <| a_ (fun _ => QQ) <| a_ (fun _ => ZL) <| a_ (fun _ => Qa) <| QI (fun _ hg => Qa) ?_
   refine QI (fun _ hg => Qe (hx := u_ hg)) ?_
   refine QI (fun _ hg => Qc (hx := u_ hg)) ?_
   refine QI (fun _ hg => Qc (hx := u_ hg)) ?_
   refine Zt ?_
   refine QI (fun _ hg => QN (hx := u_ hg)) ?_
   refine a_ (fun _ => Xv) ?_
   apply an
   refine zC ?_
   refine ci ?_ ?_
   ·intro hs
    refine zC ?_
    refine cr <| s_ Qa ?_
    refine Q1 (AB hn1 hl ht0 (by simp only; omega) (by simp) (show WkH b { n with wait := n.wait + 1 } [] _ from ⟨_, _, Hl, Ho, h1, h2, rfl⟩)) (.refl _) (fun r H' ⟨hr, h3⟩ => ?_)
    subst hr
    refine zC ?_
    refine cr <| s_ Qa ?_
    refine Q1 (Y9 (Y1 _ (AC hn1 hl)) h3) (.refl _) (fun r H' ⟨hr, hr2⟩ => ?_)
    subst hr hr2
    refine s_ Qt <| s_ Qt <| Qn ?_
    refine s_ Qb <| zC ?_
    refine zE ?_
    have hs' : 5 + 3 * n.id ≤ n.wait + 1 ∧ n.term < 1073741824 := hs
    rw [Xi, if_neg hr, if_neg hm, if_pos hs']
    exact Le.refl _
   ·intro hs
    refine zC ?_
    refine cr <| s_ Qa ?_
    refine Q1 (Y9 (Y1 _ hn1) (show WkH b { n with wait := n.wait + 1 } [] _ from ⟨_, _, Hl, Ho, h1, h2, rfl⟩)) (.refl _) (fun r H' ⟨hr, hr2⟩ => ?_)
    subst hr hr2
    refine s_ Qt <| s_ Qt <| Qn ?_
    refine s_ Qb <| zC ?_
    refine zE ?_
    have hs' : ¬ (5 + 3 * n.id ≤ n.wait + 1 ∧ n.term < 1073741824) := hs
    rw [Xi, if_neg hr, if_neg hm, if_neg hs']
    exact Le.refl _
def Ln (n : Nd) (m : Ms) : Prop := (((m.frm < 0 ∨ 5 ≤ m.frm) ∨ m.frm = n.id) ∨ ¬ m.to = n.id) ∨ (((m.kind < 1 ∨ 5 < m.kind) ∨ m.term < 0) ∨ 1073741824 < m.term)
instance (n : Nd) (m : Ms) : Decidable (Ln n m) := by unfold Ln; infer_instance
def upN (n : Nd) (m : Ms) : Nd := if n.term < m.term then { n with term := m.term, vote := -1, role := 0, votes := 0 } else n
def WE (n : Nd) (m : Ms) : Nd × List Ms := if m.kind = 1 then (Yj n m, [QW (Yj n m) m.frm (Zo (WF n m))]) else if m.kind = 2 then Yi n m else if m.kind = 3 then Jt n m else
 if m.kind = 4 then X5 n m else Zq n m
def Xd (n : Nd) (m : Ms) : Nd × List Ms := if Ln n m then (n, []) else WE (upN n m) m
def YK : Nd := ⟨0, 0, 0, 0, 0, 0, [], [], 0, 0, 0, 0, .all 0, .all 0⟩
structure MBd (n : Nd) (m : Ms) : Prop where
 i0 : -50000000000 ≤ m.index
 i1 : m.index ≤ 50000000000
 es : n.log.length + m.entries.length ≤ 100000000
structure NBd (n : Nd) : Prop where
 log : n.log.length < 100000000
 v0 : 0 ≤ n.votes
 v1 : n.votes ≤ 31
 x0 : ∀ i, -100000000000 ≤ n.next.get i
 x1 : ∀ i, n.next.get i ≤ 50000000000
 m0 : ∀ i, -100000000000 ≤ n.mtch.get i
 m1 : ∀ i, n.mtch.get i ≤ 50000000000
theorem WI (n : Nd) (m : Ms) : ∃ t v r w, upN n m = { n with term := t, vote := v, role := r, votes := w } ∧ (w = 0 ∨ w = n.votes) := by
 unfold upN
 split
 ·exact ⟨_, _, _, _, rfl, .inl rfl⟩
 ·exact ⟨_, _, _, _, rfl, .inr rfl⟩
theorem Bd.up {n : Nd} (m : Ms) (h : Bd n) : Bd (upN n m) := by
 obtain ⟨_, _, _, _, e, _⟩ := WI n m
 rw [e]; exact h.of
theorem NBd.up {n : Nd} (m : Ms) (h : NBd n) : NBd (upN n m) := by
 obtain ⟨_, _, _, _, e, hw⟩ := WI n m
 have h0 := h.v0
 have h1 := h.v1
 rw [e]; exact ⟨h.log, by simp only; omega, by simp only; omega, h.x0, h.x1, h.m0, h.m1⟩
theorem MBd.up {n : Nd} {m : Ms} (h : MBd n m) : MBd (upN n m) m := by
 obtain ⟨_, _, _, _, e, hw⟩ := WI n m
 rw [e]; exact ⟨h.i0, h.i1, h.es⟩
theorem Cj {n : Nd} (m : Ms) (hn : Bd n) (hl : n.log.length < 100000000) : Bd (Yi n m).1 := by
 unfold Yi
 split
 ·exact hn
 ·split
  ·exact IF hn.of hl
  ·exact hn.of
theorem Am {n : Nd} (m : Ms) (hn : Bd n) : Bd (Yj n m) := by
 unfold Yj
 split
 ·exact hn.of
 ·exact hn
theorem Bh {n : Nd} (m : Ms) (hn : Bd n) : Bd (X5 n m).1 := by
 unfold X5
 split
 ·exact hn
 ·split
  ·exact (hn.of (n' := JK n m)).commit
  ·split <;> exact hn.of
theorem NT {n : Nd} {m : Ms} (hl : n.log.length + m.entries.length ≤ 100000000) : (Jt n m).1.log.length ≤ 100000000 := by
 unfold Jt
 split
 ·simp only; omega
 ·split
  ·simp only [QU]; omega
  ·split
   ·simp only [QU]; omega
   ·have := Wj n m m.entries.length
    simp only [RY]; omega
theorem Cs {n : Nd} {m : Ms} (hl : n.log.length ≤ 100000000) : (Zq n m).1.log.length ≤ 100000000 := by
 unfold Zq
 split
 ·exact hl
 ·split
  ·simp only [Jd, ZQ]
   split
   ·simp; omega
   ·simp
  ·exact hl
theorem take_fn {n : Nd} {m : Ms} (hn : Bd n) (hN : NBd n) (hM : Ln n m ∨ MBd n m) : FnP Tryz.prog 100 [nd n, ms m] (fun r => r = .tup [nd (Xd n m).1, mss (Xd n m).2]) := by
 have hW := Lp n (Y1 n hn)
 refine fe Tryz.func100 fun S0 w0 => ?_
 show Sim _ _ [(0, T.agg (Qg n (.sl false (n.log.map een)))), (1, T.agg (msC m (XZ m.entries)))] _ _
 refine zC ?_
 apply cr
 refine Xk fun b2 _ => ?_
 refine Xk fun b3 _ => ?_
 refine Xt fun b4 _ => ?_
 refine s_ Qb <| zC ?_
 refine Xr (List.perm_append_comm (l₁ := [_])) ?_
 refine X4 3 (by simp [msC]) ?_
 refine X4 2 (by simp [Qg]) ?_
 refine zC ?_
 refine cr <| s_ XN ?_
 refine Q1 (Hs := []) (Hr := [_]) hW (.refl _) (fun r H' ⟨b, hr, hw⟩ => ?_)
 subst hr
 have hw' := hw
 obtain ⟨vl, vo, Hl, Ho, h1, h2, rfl⟩ := hw
 obtain ⟨p, c, rfl⟩ := h1.len
 obtain ⟨q, d, rfl⟩ := h2.len
 refine s_ Qb <| zC ?_
 refine ca [0, 1, 2, 3, 4, 5, 6, 7, 8, 9, 10, 11, 12, 13, 14, 15, 16, 17, 18, 19, 20, 21, 22, 23, 24, 25, 26, 27, 28] [] <| a_ (fun _ => Qj) <| a_ (fun _ => Qf) <| a_ (fun _ => QN) <| a_ (fun _ => Qa) <| Xw (fun _ hg => Qj) ?_
 refine Xw (fun _ hg => Qf (hx := u_ hg)) ?_
 refine Xw (fun _ hg => ZL (hx := u_ hg)) ?_
 refine a_ (fun _ => XC) <| a_ (fun _ => Qa) <| Xw (fun _ hg => Qj) ?_
 refine Xw (fun _ hg => Qf (hx := u_ hg)) ?_
 refine Xw (fun _ hg => Qa) ?_
 refine Xw (fun _ hg => Qe (hx := u_ hg)) ?_
 refine Xw (fun _ hg => Qc (hx := u_ hg)) ?_
 refine Xw (fun _ hg => Qc (hx := u_ hg)) ?_
 refine U0 ?_
 refine Xw (fun _ hg => Q5 (hx := u_ hg) (hy := u_ hg)) ?_
 refine a_ (fun _ => XC) <| a_ (fun _ => Qa) <| Xw (fun _ hg => Qj) ?_
 refine Xw (fun _ hg => Qf (hx := u_ hg)) ?_
 refine Xw (fun _ hg => Qa) ?_
 refine Xw (fun _ hg => Qe (hx := u_ hg)) ?_
 refine Xw (fun _ hg => Qc (hx := u_ hg)) ?_
 refine Xw (fun _ hg => Qc (hx := u_ hg)) ?_
 refine U0 ?_
 refine Xw (fun _ hg => XE (hx := u_ hg) (hy := u_ hg)) ?_
 refine a_ (fun _ => XC) <| a_ (fun _ => Qb) ?_
 apply an
 refine zC ?_
 refine ci ?_ ?_
 ·intro hb
  refine zC ?_
  refine cr <| s_ Qa ?_
  refine Q1 (Y9 (Y1 n hn) hw') (.refl _) (fun r H' ⟨hr, hr2⟩ => ?_)
  subst hr hr2
  refine s_ Qt <| s_ Qt <| Qn ?_
  refine s_ Qb <| zC ?_
  refine zE ?_
  have hbad : Ln n m := .inl hb
  rw [Xd, if_pos hbad]
  exact Le.refl _
 intro hb
 refine zC ?_
 refine cr <| s_ Qj <| s_ Qf <| s_ QN <| s_ Qa <| gF (fun hg => Qj) ?_
 refine gF (fun hg => Qf (hx := u_ hg)) ?_
 refine gF (fun hg => XX (hx := u_ hg)) ?_
 refine s_ XC <| s_ Qa <| gF (fun hg => Qj) ?_
 refine gF (fun hg => Qf (hx := u_ hg)) ?_
 refine gF (fun hg => QN (hx := u_ hg)) ?_
 refine s_ XC <| s_ Qa <| gF (fun hg => Qj) ?_
 refine gF (fun hg => Qf (hx := u_ hg)) ?_
 refine gF (fun hg => XX (hx := u_ hg)) ?_
 refine s_ XC <| s_ Qb <| zC ?_
 refine ci ?_ ?_
 ·intro hb2
  refine zC ?_
  refine cr <| s_ Qa ?_
  refine Q1 (Y9 (Y1 n hn) hw') (.refl _) (fun r H' ⟨hr, hr2⟩ => ?_)
  subst hr hr2
  refine s_ Qt <| s_ Qt <| Qn ?_
  refine s_ Qb <| zC ?_
  refine zE ?_
  have hbad : Ln n m := .inr hb2
  rw [Xd, if_pos hbad]
  exact Le.refl _
 intro hb2
 have hbad : ¬ Ln n m := fun h => h.elim hb hb2
 have hM : MBd n m := hM.resolve_left hbad
 have hfr : 0 ≤ m.frm ∧ m.frm < 5 := by omega
 have hu := hn.up m
 have hNu := hN.up m
 have hMu := hM.up
 have hlu := hNu.log
 have hle := hMu.es
 have hi0 := hM.i0
 have hi1 := hM.i1
 have hv0 := hNu.v0
 have hv1 := hNu.v1
 have hx0 := hNu.x0
 have hx1 := hNu.x1
 have hm0 := hNu.m0
 have hm1 := hNu.m1
 refine zC ?_
 refine ca [0, 1, 2, 3, 4, 5, 6, 7] [] <| a_ (fun _ => Qj) <| a_ (fun _ => Qf) <| a_ (fun _ => Qa) <| a_ (fun _ => Qe) <| a_ (fun _ => Qc) <| a_ (fun _ => Qc) <| Qv ?_
 refine a_ (fun _ => XX) ?_
 apply an
 refine zC ?_
 show Sim _ _ _ _ (W4 _ _ _)
 refine Y8 [(6, pW b), (3, .adr (.agg (msC m (XZ m.entries)))), (4, .v (.pointer (some ⟨b4, 0, none⟩)))] ((b, ⟨tW, wkC (upN n m) (.slice p (n.log.map een).length c) (.slice q (List.length ([].map ms)) d), 23⟩) :: (Hl ++ (Ho ++ [])) ++ [(b4, (⟨44, Qg YK (.v (.slice none 0 0)), 22⟩ : Blk))]) ?_ ?_
 ·refine ci ?_ ?_
  ·intro hgt
   refine zC ?_
   refine cr <| s_ Qa <| s_ Qa <| s_ Qa <| s_ Qa <| s_ Qj <| s_ Qf <| s_ Qe <| s_ Qc <| s_ Qc <| Qn ?_
   refine s_ Qe <| s_ Qc <| s_ Qc <| Qn ?_
   refine s_ Qe <| s_ Qc <| s_ Qc <| Qn ?_
   refine s_ Qe <| s_ Qc <| s_ Qc <| Qn ?_
   refine zC ?_
   have hgt' : n.term < m.term := hgt
   have e : upN n m = { n with term := m.term, vote := -1, role := 0, votes := 0 } := by rw [upN, if_pos hgt']
   rw [e]
   exact ⟨eL, kR⟩
  ·intro hgt
   refine zC ?_
   have hgt' : ¬ n.term < m.term := hgt
   have e : upN n m = n := by rw [upN, if_neg hgt']
   rw [e]
   exact ⟨eL, kR⟩
 have hlog : (upN n m).log = n.log := by
  obtain ⟨_, _, _, _, e, _⟩ := WI n m
  rw [e]
 have hw : WkH b (upN n m) [] ((b, ⟨tW, wkC (upN n m) (.slice p (n.log.map een).length c) (.slice q (List.length (([] : List Ms).map ms)) d), 23⟩) :: (Hl ++ (Ho ++ []))) := ⟨_, _, Hl, Ho, by rw [hlog]; exact h1, h2, rfl⟩
 refine zC ?_
 refine cr <| s_ Qj <| s_ Qf <| zC ?_
 refine cr <| s_ Q5 <| s_ Qb <| zC ?_
 refine ci ?_ ?_
 ·intro hk1
  refine zC ?_
  refine cr <| s_ Qa <| s_ XN ?_
  refine Q1 (NZ m hu (by simp) hw) (.refl _) (fun r H' ⟨hr, h3⟩ => ?_)
  subst hr
  refine zC ?_
  refine zC ?_
  refine zC ?_
  refine cr <| s_ Qa ?_
  refine Q1 (Y9 (Y1 _ (Am m hu)) h3) (.refl _) (fun r H' ⟨hr, hr2⟩ => ?_)
  subst hr hr2
  refine s_ Qt <| s_ Qt <| Qn ?_
  refine s_ Qb <| zC ?_
  refine zE ?_
  rw [Xd, if_neg hbad, WE, if_pos hk1]
  exact Le.refl _
 ·intro hk1
  refine zC ?_
  refine cr <| s_ Q5 <| s_ Qb <| zC ?_
  refine ci ?_ ?_
  ·intro hk2
   refine zC ?_
   refine cr <| s_ Qa <| s_ XN ?_
   refine Q1 (Al m hu hlu hv0 hv1 (by omega) (by omega) (by simp) hw) (.refl _) (fun r H' ⟨hr, h3⟩ => ?_)
   subst hr
   refine zC ?_
   refine zC ?_
   refine zC ?_
   refine cr <| s_ Qa ?_
   refine Q1 (Y9 (Y1 _ (Cj m hu hlu)) h3) (.refl _) (fun r H' ⟨hr, hr2⟩ => ?_)
   subst hr hr2
   refine s_ Qt <| s_ Qt <| Qn ?_
   refine s_ Qb <| zC ?_
   refine zE ?_
   rw [Xd, if_neg hbad, WE, if_neg hk1, if_pos hk2]
   exact Le.refl _
  ·intro hk2
   refine zC ?_
   refine cr <| s_ Q5 <| s_ Qb <| zC ?_
   refine ci ?_ ?_
   ·intro hk3
    refine zC ?_
    refine cr <| s_ Qa <| s_ XN ?_
    refine Q1 (KT m hu hle hi0 hi1 (by simp) hw) (.refl _) (fun r H' ⟨hr, h3⟩ => ?_)
    subst hr
    refine zC ?_
    refine zC ?_
    refine zC ?_
    refine cr <| s_ Qa ?_
    refine Q1 (Y9 (by have := NT hle; omega) h3) (.refl _) (fun r H' ⟨hr, hr2⟩ => ?_)
    subst hr hr2
    refine s_ Qt <| s_ Qt <| Qn ?_
    refine s_ Qb <| zC ?_
    refine zE ?_
    rw [Xd, if_neg hbad, WE, if_neg hk1, if_neg hk2, if_pos hk3]
    exact Le.refl _
   ·intro hk3
    refine zC ?_
    refine cr <| s_ Q5 <| s_ Qb <| zC ?_
    refine ci ?_ ?_
    ·intro hk4
     refine zC ?_
     refine cr <| s_ Qa <| s_ XN ?_
     refine Q1 (TR m hu (by omega) (by omega) (hx0 _) (hx1 _) (hm0 _) (hm1 _) (by omega) (by omega) (by simp) hw) (.refl _) (fun r H' ⟨hr, h3⟩ => ?_)
     subst hr
     refine zC ?_
     refine zC ?_
     refine zC ?_
     refine cr <| s_ Qa ?_
     refine Q1 (Y9 (Y1 _ (Bh m hu)) h3) (.refl _) (fun r H' ⟨hr, hr2⟩ => ?_)
     subst hr hr2
     refine s_ Qt <| s_ Qt <| Qn ?_
     refine s_ Qb <| zC ?_
     refine zE ?_
     rw [Xd, if_neg hbad, WE, if_neg hk1, if_neg hk2, if_neg hk3, if_pos hk4]
     exact Le.refl _
    ·intro hk4
     refine zC ?_
     refine cr <| s_ Q5 <| s_ Qb <| zC ?_
     refine ci ?_ ?_
     ·intro hk5
      refine zC ?_
      refine cr <| s_ Qa <| s_ XN ?_
      refine Q1 (Pb m hu (by omega) (by omega) (by simp) hw) (.refl _) (fun r H' ⟨hr, h3⟩ => ?_)
      subst hr
      refine zC ?_
      refine zC ?_
      refine zC ?_
      refine cr <| s_ Qa ?_
      refine Q1 (Y9 (by have := Cs (n := upN n m) (m := m) hu.log; omega) h3) (.refl _) (fun r H' ⟨hr, hr2⟩ => ?_)
      subst hr hr2
      refine s_ Qt <| s_ Qt <| Qn ?_
      refine s_ Qb <| zC ?_
      refine zE ?_
      rw [Xd, if_neg hbad, WE, if_neg hk1, if_neg hk2, if_neg hk3, if_neg hk4]
      exact Le.refl _
     ·intro hk5
      exfalso
      exact hb2 (by omega)
def KG (e : En) : List Value := [.int .i64 e.term, .int .i64 e.conf, .string (bs e.cmd)]
theorem Wu {a b : En} : KG a = KG b ↔ a = b := by
 constructor
 ·intro h
  simp only [KG, List.cons.injEq, Value.int.injEq, Value.string.injEq, true_and, and_true] at h
  cases a; cases b
  simp only at h
  rw [h.1, h.2.1, NF h.2.2]
 ·intro h; rw [h]
theorem Ng (f f' : Bool) (l m : List En) (hl : l.length ≤ 1000000000) (hm : m.length ≤ 1000000000) : FnP Tryz.prog 160 [.sl f (l.map een), .sl f' (m.map een)] (fun r => r = .v (.bool (decide (l = m)))) := by
 refine fe Tryz.func160 fun S0 w0 => ?_
 show Sim _ _ [(0, T.sl f (l.map een)), (1, T.sl f' (m.map een))] _ _
 refine zC ?_
 refine cr <| s_ Qb <| zC ?_
 refine cr <| s_ Qa ?_
 (first | refine s_ QS ?_ | refine s_ QP ?_)
 refine s_ Qa ?_
 (first | refine s_ QS ?_ | refine s_ QP ?_)
 refine s_ XE <| zC ?_
 refine ci ?_ ?_
 ·intro hne
  refine zC ?_
  refine cr <| s_ Qb <| zC ?_
  refine zE ?_
  refine Le.of_eq ?_
  rw [show decide (l = m) = false from decide_eq_false (fun h => hne (by rw [h]))]
  rfl
 intro hne
 have hlen : l.length = m.length := by simp only [List.length_map] at hne; omega
 refine zC ?_
 refine cr <| s_ Qa ?_
 (first | refine s_ QS ?_ | refine s_ QP ?_)
 refine s_ Qa <| zC ?_
 apply Qm (σ := Nat) (ok := fun k => k ≤ l.length ∧ l.take k = m.take k) (env := fun k => [(13, ei (k : Nat)), (12, ei ((l.map een).length : Nat)), (0, T.sl f (l.map een)), (1, T.sl f' (m.map een))]) (heap := fun _ => []) (μ := fun k => l.length - k) (s0 := 0)
 ·exact ⟨Nat.zero_le _, by simp⟩
 ·exact eL
 ·exact kR
 rintro k ⟨hk, htk⟩
 refine zC ?_
 refine cr <| s_ QN <| zC ?_
 refine ci ?_ ?_
 ·intro hlt
  simp only [List.length_map] at hlt
  have hkl : k < l.length := by omega
  have hkm : k < m.length := by omega
  have hix := hkl
  have hix2 := hkm
  refine zC ?_
  refine cr <| s_ Qa <| s_ Qb <| zC ?_
  refine ca [0, 1, 2, 3, 4, 5, 6, 7, 8] [] <| a_ (fun _ => Qa) <| a_ (fun _ => Qa) ?_
  (first | refine a_ (fun _ => Q4 hix) ?_ | refine a_ (fun _ => Q4 hix2) ?_ | refine a_ (fun _ => Yd) ?_ | refine a_ (fun _ => Ys) ?_)
  (first | refine a_ (fun _ => XN) ?_ | refine QR ?_)
  refine a_ (fun _ => Qa) <| a_ (fun _ => Qa) ?_
  (first | refine a_ (fun _ => Q4 hix) ?_ | refine a_ (fun _ => Q4 hix2) ?_ | refine a_ (fun _ => Yd) ?_ | refine a_ (fun _ => Ys) ?_)
  (first | refine a_ (fun _ => XN) ?_ | refine QR ?_)
  refine a_ (fun _ => HN 2 [.int .i64, .int .i64, .str] Tryz.eqGuardType84) ?_
  apply an
  refine zC ?_
  refine ci ?_ ?_
  ·intro hd
   refine zC ?_
   refine cr <| s_ Qb <| zC ?_
   refine zE ?_
   refine Le.of_eq ?_
   rw [show decide (l = m) = false from decide_eq_false (fun h => hd (by subst h; rfl))]
   rfl
  ·intro hd
   have he : l[k] = m[k] := Wu.1 (Classical.not_not.1 hd)
   refine zC ?_
   refine cr <| s_ QQ <| s_ Qa <| zC ?_
   refine ⟨k + 1, ⟨by omega, ?_⟩, by show l.length - (k + 1) < l.length - k; omega, ⟨Qh (by rfl) (Le.refl _), eL⟩, kR⟩
   rw [List.take_succ_eq_append_getElem hkl, List.take_succ_eq_append_getElem hkm, htk, he]
 ·intro hlt
  simp only [List.length_map] at hlt
  have hkl : k = l.length := by omega
  have he : l = m := by
   have := htk
   rwa [hkl, List.take_length, hlen, List.take_length] at this
  refine zC ?_
  refine cr <| s_ Qb <| zC ?_
  refine zE ?_
  refine Le.of_eq ?_
  rw [show decide (l = m) = true from decide_eq_true he]
  rfl
def PJ (n : Nd) : List T := [ei n.id, ei n.term, ei n.vote, ei n.base, ei n.baseTerm, ei n.baseConf, ei n.commit, ei n.role, ei n.wait, ei n.votes] ++ (f5C n.next ++ f5C n.mtch)
theorem HS (n : Nd) : FnP Tryz.prog 159 [nd n] (fun r => r = .agg (PJ n)) := by
 refine fe Tryz.func159 fun S0 w0 => ?_
 show Sim _ _ [(0, T.agg (Qg n (.sl false (n.log.map een))))] _ _
 refine zC ?_
 apply cr
 refine Xk fun b1 _ => ?_
 refine Xt fun b2 _ => ?_
 refine zC ?_
 refine Xr (List.Perm.swap _ _ _) ?_
 refine X4 1 (by simp [Qg]) ?_
 refine zC ?_
 refine cr <| s_ Qj <| s_ Qf <| s_ Qj <| s_ Qf <| s_ Qj <| s_ Qf <| s_ Qj <| s_ Qf <| s_ Qj <| s_ Qf <| s_ Qj <| s_ Qf <| s_ Qj <| s_ Qf <| s_ Qj <| s_ Qf <| s_ Qj <| s_ Qf <| s_ Qj <| s_ Qf <| s_ Uv <| s_ XN <| s_ Uv <| s_ XN <| s_ (PI 20) <| Qn ?_
 refine zC ?_
 refine zE ?_
 exact Le.refl _
theorem AN (a b : Nd) : ((PJ a).map (fun x => match x with | .v y => y | _ => undef) = (PJ b).map (fun x => match x with | .v y => y | _ => undef) ∧ a.snap = b.snap) ∧ a.log = b.log ↔ a = b := by
 constructor
 ·rintro ⟨⟨h, h1⟩, h2⟩
  obtain ⟨_, _, _, _, _, _, _, _, _, _, _, _, ⟨_, _, _, _, _⟩, ⟨_, _, _, _, _⟩⟩ := a
  obtain ⟨_, _, _, _, _, _, _, _, _, _, _, _, ⟨_, _, _, _, _⟩, ⟨_, _, _, _, _⟩⟩ := b
  simp only [PJ, f5C, ei, List.map_cons, List.map_nil, List.cons_append, List.nil_append, List.cons.injEq, Value.int.injEq, true_and, and_true] at h
  simp only at h1 h2
  simp only [Nd.mk.injEq, F5.mk.injEq]
  simp_all
 ·rintro rfl; simp
theorem Pf (a b : Nd) (ha : a.log.length ≤ 1000000000) (hb : b.log.length ≤ 1000000000) : FnP Tryz.prog 139 [nd a, nd b] (fun r => r = .v (.bool (decide (a = b)))) := by
 have h1 := HS a
 have h2 := HS b
 have he := Ng false false a.log b.log ha hb
 refine fe Tryz.func139 fun S0 w0 => ?_
 show Sim _ _ [(0, T.agg (Qg a (.sl false (a.log.map een)))), (1, T.agg (Qg b (.sl false (b.log.map een))))] _ _
 refine zC ?_
 apply cr
 refine Xk fun b2 _ => ?_
 refine Xk fun b3 _ => ?_
 refine s_ Qb <| zC ?_
 refine X4 3 (by simp [Qg]) ?_
 refine X4 2 (by simp [Qg]) ?_
 refine zC ?_
 refine ca [0, 1, 2, 3, 4, 5, 6, 7, 8, 9, 10, 11, 12, 13, 14, 15, 16, 17, 18, 19] [] <| a_ (fun _ => XN) <| a_ (fun _ => Qr (h1)) <| a_ (fun _ => XN) <| a_ (fun _ => Qr (h2)) <| a_ (fun _ => Iy 3 [.int .i64, .int .i64, .int .i64, .int .i64, .int .i64, .int .i64, .int .i64, .int .i64, .int .i64, .int .i64, .int .i64, .int .i64, .int .i64, .int .i64, .int .i64, .int .i64, .int .i64, .int .i64, .int .i64, .int .i64] Tryz.eqGuardType200) <| a_ (fun _ => Qa) <| QI (fun _ hg => Qj) ?_
 refine QI (fun _ hg => Qf (hx := u_ hg)) ?_
 refine QI (fun _ hg => Qj) ?_
 refine QI (fun _ hg => Qf (hx := u_ hg)) ?_
 refine QI (fun _ hg => Iw (hx := u_ hg) (hy := u_ hg)) ?_
 refine a_ (fun _ => Xv) <| a_ (fun _ => Qa) <| QI (fun _ hg => Qj) ?_
 refine QI (fun _ hg => Qf (hx := u_ hg)) ?_
 refine QI (fun _ hg => Qj) ?_
 refine QI (fun _ hg => Qf (hx := u_ hg)) ?_
 refine QI (fun _ hg => Qr (he) (ha' := by apply Qu (u_ hg); apply Qu (u_ hg); exact Xh)) ?_
 refine a_ (fun _ => Xv) <| a_ (fun _ => Qb) ?_
 apply an
 refine zC ?_
 refine zE ?_
 refine Le.of_eq (congrArg (fun z => T.v (.bool z)) ?_)
 rw [decide_eq_decide]
 exact AN a b
theorem DR (f : Bool) (l : List En) (hl : l.length ≤ 1000000000) : FnP Tryz.prog 72 [.sl f (l.map een)] (fun r => r = XZ l) :=
 FnH.give (Jn f l hl) (by rintro r H ⟨v, rfl, ho⟩; exact ho.lend fun _ h => h)
def QK (n : Nd) : Nd := { n with role := 0, wait := 0, votes := 0, next := .all 0, mtch := .all 0 }
theorem D1 (n : Nd) (hl : n.log.length ≤ 1000000000) : FnP Tryz.prog 68 [nd n] (fun r => r = nd (QK n)) := by
 have hc := DR false n.log hl
 refine fe Tryz.func68 fun S0 w0 => ?_
 show Sim _ _ [(0, T.agg (Qg n (.sl false (n.log.map een))))] _ _
 refine zC ?_
 apply cr
 refine Xk fun b1 _ => ?_
 refine Xt fun b2 _ => ?_
 refine zC ?_
 refine Xr (List.Perm.swap _ _ _) ?_
 refine X4 1 (by simp [Qg]) ?_
 refine zC ?_
 refine ca [0, 1, 2, 3, 4, 5, 6, 7, 8, 9, 10, 11, 12, 13, 14, 15, 16, 17, 18, 19, 20] [20] <| a_ (fun _ => Qj) <| a_ (fun _ => Qf) <| a_ (fun _ => Qj) <| a_ (fun _ => Qf) <| a_ (fun _ => Qj) <| a_ (fun _ => Qf) <| a_ (fun _ => Qj) <| a_ (fun _ => Qf) <| a_ (fun _ => Qj) <| a_ (fun _ => Qf) <| a_ (fun _ => Qj) <| a_ (fun _ => Qf) <| a_ (fun _ => Qj) <| a_ (fun _ => Qf) <| a_ (fun _ => Qj) <| a_ (fun _ => Qf) <| a_ (fun _ => Qr (hc)) <| a_ (fun _ => Qj) <| a_ (fun _ => Qf) <| a_ (fun _ => PI 22) <| Q2 ?_
 apply an
 refine zC ?_
 refine zE ?_
 exact Le.refl _
def Xn (n : Nd) (cmd : List UInt8) : Nd × Int × Int := if ¬ n.role = 2 then (n, 0, 21) else if cmd = [] then (n, 0, 1) else (UA n ⟨0, 0, cmd⟩, n.base + (n.log.length + 1), 0)
theorem Po {n : Nd} (cmd : List UInt8) (hn : Bd n) (hl : n.log.length < 100000000) : FnP Tryz.prog 71 [nd n, es cmd] (fun r => r = .tup [nd (Xn n cmd).1, ei (Xn n cmd).2.1, ei (Xn n cmd).2.2]) := by
 have hW := Lp n (Y1 n hn)
 refine fe Tryz.func71 fun S0 w0 => ?_
 show Sim _ _ [(0, T.agg (Qg n (.sl false (n.log.map een)))), (1, es cmd)] _ _
 refine zC ?_
 apply cr
 refine Xk fun b2 _ => ?_
 refine Xt fun b4 _ => ?_
 refine s_ Qb <| s_ Qb <| zC ?_
 refine Xr (List.Perm.swap _ _ _) ?_
 refine X4 2 (by simp [Qg]) ?_
 refine zC ?_
 refine cr <| s_ XN ?_
 refine Q1 (Hs := []) (Hr := [_]) hW (.refl _) (fun r H' ⟨b, hr, hw⟩ => ?_)
 subst hr
 have hw' := hw
 obtain ⟨vl, vo, Hl, Ho, h1, h2, rfl⟩ := hw
 obtain ⟨p, c, rfl⟩ := h1.len
 obtain ⟨q, d, rfl⟩ := h2.len
 refine s_ Qb <| zC ?_
 refine cr <| s_ Qa <| s_ Qe <| s_ Qc <| s_ Qc <| s_ Ql <| s_ XE <| s_ Qb <| zC ?_
 refine ci ?_ ?_
 ·intro hr
  refine zC ?_
  refine cr <| s_ Qa <| s_ Qe <| s_ Qc <| s_ Qw ?_
  refine Jl (G := (b, _) :: (Hl ++ (Ho ++ []))) (H1 := [_]) 20 (nd n) (QJ.agg (Xa n (h1.lend (by intro p hp; simp [hp])))) ?_ (.refl _)
  refine Qn ?_
  refine s_ Qb <| s_ Qb <| zC ?_
  refine zC ?_
  refine zE ?_
  rw [Xn, if_pos hr]
  exact Le.refl _
 intro hr
 refine zC ?_
 refine cr <| s_ Qa <| s_ Iw <| s_ Qb <| zC ?_
 refine ci ?_ ?_
 ·intro hc
  refine zC ?_
  refine cr <| s_ Qa <| s_ Qe <| s_ Qc <| s_ Qw ?_
  refine Jl (G := (b, _) :: (Hl ++ (Ho ++ []))) (H1 := [_]) 27 (nd n) (QJ.agg (Xa n (h1.lend (by intro p hp; simp [hp])))) ?_ (.refl _)
  refine Qn ?_
  refine s_ Qb <| s_ Qb <| zC ?_
  refine zC ?_
  refine zE ?_
  rw [Xn, if_neg hr, if_pos hc]
  exact Le.refl _
 intro hc
 refine zC ?_
 refine cr <| s_ Qa <| s_ Qa <| s_ (YH 3 [_, _, _]) ?_
 refine Q1 (FnH.of_le ?_ (A4 ⟨0, 0, cmd⟩ hn hl (by simp) (by simp) hw')) (.refl _) (fun r H' ⟨hr1, hr2⟩ => ?_)
 ·exact zM
 subst hr1 hr2
 refine s_ Qt <| s_ Qt <| s_ Qt <| Qn ?_
 refine s_ Qb <| s_ Qb <| zC ?_
 refine zE ?_
 rw [Xn, if_neg hr, if_neg hc]
 exact Le.refl _
def WG (a b : Int) : Int := (a.toNat ^^^ b.toNat : Nat)
theorem B8 {x y : Int} (h0 : 0 ≤ x) (h1 : x ≤ 31) (h2 : 0 ≤ y) (h3 : y ≤ 31) : IntKind.u64.wrap (WB .i64 x y) = WG x y ∧ 0 ≤ WG x y ∧ WG x y ≤ 31 := by
 have key : ∀ i : Fin 32, ∀ j : Fin 32, IntKind.u64.wrap (WB .i64 i.val j.val) = WG i.val j.val ∧ 0 ≤ WG i.val j.val ∧ WG i.val j.val ≤ 31 := by decide +kernel
 obtain ⟨i, rfl⟩ := Wp h0 h1
 obtain ⟨j, rfl⟩ := Wp h2 h3
 exact key i j
def QG (n : Nd) (conf : Int) : Nd × Int × Int := if ¬ n.role = 2 then (n, 0, 21) else if (conf < 1 ∨ 31 < conf) ∨ ¬ J3 (WG conf (QA n).2) = 1 then (n, 0, 1) else
 if n.commit < (QA n).1 ∨ ¬ termF n n.commit = n.term then (n, 0, 23) else (UA n ⟨0, conf, []⟩, n.base + (n.log.length + 1), 0)
theorem BG {n : Nd} (conf : Int) (hn : Bd n) (hl : n.log.length < 100000000) (hc0 : -big ≤ n.commit) (hc1 : n.commit ≤ big) : FnP Tryz.prog 77 [nd n, ei conf] (fun r => r = .tup [nd (QG n conf).1, ei (QG n conf).2.1, ei (QG n conf).2.2]) := by
 have hW := Lp n (Y1 n hn)
 have hb0 := hn.base0
 have hb1 := hn.base1
 have hC := EQ n (Y1 n hn) (by omega) (by omega)
 have hT := VZ n n.commit (Y1 n hn) (by simp only [big]; omega) (by simp only [big]; omega) hc0 hc1
 refine fe Tryz.func77 fun S0 w0 => ?_
 show Sim _ _ [(0, T.agg (Qg n (.sl false (n.log.map een)))), (1, ei conf)] _ _
 refine zC ?_
 apply cr
 refine Xk fun b2 _ => ?_
 refine Xt fun b4 _ => ?_
 refine s_ Qb <| s_ Qb <| zC ?_
 refine Xr (List.Perm.swap _ _ _) ?_
 refine X4 2 (by simp [Qg]) ?_
 refine zC ?_
 refine cr <| s_ XN ?_
 refine Q1 (Hs := []) (Hr := [_]) hW (.refl _) (fun r H' ⟨b, hr, hw⟩ => ?_)
 subst hr
 have hw' := hw
 obtain ⟨vl, vo, Hl, Ho, h1, h2, rfl⟩ := hw
 obtain ⟨p, c, rfl⟩ := h1.len
 obtain ⟨q, d, rfl⟩ := h2.len
 refine s_ Qb <| zC ?_
 refine cr <| s_ Qa <| s_ Qe <| s_ Qc <| s_ (PH (G := (b, _) :: (Hl ++ (Ho ++ []))) hC (Qk.cons (WS h1 (by intro p hp; simp [hp]) List.mem_cons_self) Qk.nil) ⟨[_], .refl _⟩) <| s_ Qa <| s_ Qt <| s_ Qt <| s_ Qb <| s_ Qb <| zC ?_
 refine cr <| s_ Qa <| s_ Qe <| s_ Qc <| s_ Qc <| s_ Ql <| s_ XE <| s_ Qb <| zC ?_
 refine ci ?_ ?_
 ·intro hr
  refine zC ?_
  refine cr <| s_ Qa <| s_ Qe <| s_ Qc <| s_ Qw ?_
  refine Jl (G := (b, _) :: (Hl ++ (Ho ++ []))) (H1 := [_]) 29 (nd n) (QJ.agg (Xa n (h1.lend (by intro p hp; simp [hp])))) ?_ (.refl _)
  refine Qn ?_
  refine s_ Qb <| s_ Qb <| zC ?_
  refine zC ?_
  refine zE ?_
  rw [QG, if_pos hr]
  exact Le.refl _
 intro hr
 have hones : ¬ (conf < 1 ∨ 31 < conf) → FnP Tryz.prog 109 [.v (.int .u64 (IntKind.u64.wrap (WB .i64 conf (QA n).2)))] (fun r => r = ei (J3 (WG conf (QA n).2))) := by
  intro h
  have hx := B8 (x := conf) (y := (QA n).2) (by omega) (by omega) hn.conf0 hn.conf1
  rw [hx.1]
  exact Eo _ hx.2.1 hx.2.2
 refine zC ?_
 refine cr <| s_ Qa <| s_ QN <| s_ Qa <| gF (fun hg => Qa) ?_
 refine gF (fun hg => XX (hx := u_ hg)) ?_
 refine s_ XC <| s_ Qa <| gF (fun hg => Qa) ?_
 refine gF (fun hg => Qa) ?_
 refine gF (fun hg => GH (hx := u_ hg) (hy := u_ hg)) ?_
 refine gF (fun hg => YG (hx := u_ hg)) ?_
 refine gF (p := conf < 1 ∨ 31 < conf) (fun hg => Qr (hones hg) (ha' := by refine Qu (u_ hg) ?_; exact Xh)) ?_
 refine gF (fun hg => XE (hx := u_ hg)) ?_
 refine s_ XC <| s_ Qb <| zC ?_
 refine ci ?_ ?_
 ·intro hc
  refine zC ?_
  refine cr <| s_ Qa <| s_ Qe <| s_ Qc <| s_ Qw ?_
  refine Jl (G := (b, _) :: (Hl ++ (Ho ++ []))) (H1 := [_]) 48 (nd n) (QJ.agg (Xa n (h1.lend (by intro p hp; simp [hp])))) ?_ (.refl _)
  refine Qn ?_
  refine s_ Qb <| s_ Qb <| zC ?_
  refine zC ?_
  refine zE ?_
  rw [QG, if_neg hr, if_pos hc]
  exact Le.refl _
 intro hc
 refine zC ?_
 refine ca [0, 1, 2, 3, 4, 5, 6, 7, 8, 9, 10, 11, 12, 13, 14, 15, 16, 17, 18, 19, 20, 21, 22, 23, 24] [] <| a_ (fun _ => Qa) <| a_ (fun _ => Qa) <| a_ (fun _ => Qe) <| a_ (fun _ => Qc) <| a_ (fun _ => Qc) <| Qv ?_
 refine a_ (fun _ => XX) <| a_ (fun _ => Qa) <| Xw (fun _ hg => Qa) ?_
 refine Xw (fun _ hg => Qe (hx := u_ hg)) ?_
 refine Xw (fun _ hg => Qc (hx := u_ hg)) ?_
 refine Xw (fun _ hg => Qa) ?_
 refine Xw (fun _ hg => Qe (hx := u_ hg)) ?_
 refine Xw (fun _ hg => Qc (hx := u_ hg)) ?_
 refine Xw (fun _ hg => Qc (hx := u_ hg)) ?_
 refine U0 ?_
 refine NS (G := (b, _) :: (Hl ++ (Ho ++ []))) (fun _ => hT) (fun _ => Qk.cons (WS h1 (by intro p hp; simp [hp]) List.mem_cons_self) (Qk.cons (QJ.le (Le.refl _)) Qk.nil)) ⟨[_], .refl _⟩ ?_ (fun hg => by refine Qu (u_ hg) (Qu (u_ hg) Xh))
 refine Xw (fun _ hg => Qa) ?_
 refine Xw (fun _ hg => Qe (hx := u_ hg)) ?_
 refine Xw (fun _ hg => Qc (hx := u_ hg)) ?_
 refine Xw (fun _ hg => Qc (hx := u_ hg)) ?_
 refine U0 ?_
 refine Xw (fun _ hg => XE (hx := u_ hg) (hy := u_ hg)) ?_
 refine a_ (fun _ => XC) <| a_ (fun _ => Qb) ?_
 apply an
 refine zC ?_
 refine ci ?_ ?_
 ·intro he
  refine zC ?_
  refine cr <| s_ Qa <| s_ Qe <| s_ Qc <| s_ Qw ?_
  refine Jl (G := (b, _) :: (Hl ++ (Ho ++ []))) (H1 := [_]) 77 (nd n) (QJ.agg (Xa n (h1.lend (by intro p hp; simp [hp])))) ?_ (.refl _)
  refine Qn ?_
  refine s_ Qb <| s_ Qb <| zC ?_
  refine zC ?_
  refine zE ?_
  rw [QG, if_neg hr, if_neg hc, if_pos he]
  exact Le.refl _
 intro he
 refine zC ?_
 refine cr <| s_ Qa <| s_ Qa <| s_ (YH 3 [_, _, _]) ?_
 refine Q1 (FnH.of_le ?_ (A4 ⟨0, conf, []⟩ hn hl (by simp only; omega) (by simp only; omega) hw')) (.refl _) (fun r H' ⟨hr1, hr2⟩ => ?_)
 ·exact zM
 subst hr1 hr2
 refine s_ Qt <| s_ Qt <| s_ Qt <| Qn ?_
 refine s_ Qb <| s_ Qb <| zC ?_
 refine zE ?_
 rw [QG, if_neg hr, if_neg hc, if_neg he]
 exact Le.refl _
def pfx : List En → List En → Nat
 | x :: xs, y :: ys => if x = y then pfx xs ys + 1 else 0
 | _, _ => 0
def Qz (a b : Nd) : Nat := if a.base = b.base then pfx a.log b.log else 0
theorem Ei : ∀ (a b : List En), pfx a b ≤ a.length ∧ pfx a b ≤ b.length
 | [], b => by simp [pfx]
 | _ :: _, [] => by simp [pfx]
 | x :: xs, y :: ys => by
  have := Ei xs ys
  unfold pfx
  split
  ·simp only [List.length_cons]; omega
  ·simp
theorem Th {a b : List En} {k : Nat} (h1 : k < a.length) (h2 : k < b.length) : pfx (a.drop k) (b.drop k) = if a[k] = b[k] then pfx (a.drop (k + 1)) (b.drop (k + 1)) + 1 else 0 := by
 rw [List.drop_eq_getElem_cons h1, List.drop_eq_getElem_cons h2, pfx]
theorem PF {a b : List En} {k : Nat} (h : ¬ (k < a.length ∧ k < b.length)) : pfx (a.drop k) (b.drop k) = 0 := by
 have := Ei (a.drop k) (b.drop k)
 simp only [List.length_drop] at this
 omega
theorem NP (a b : Nd) (ha : a.log.length ≤ 1000000000) (hb : b.log.length ≤ 1000000000) : FnP Tryz.prog 142 [nd a, nd b] (fun r => r = ei (Qz a b)) := by
 refine fe Tryz.func142 fun S0 w0 => ?_
 show Sim _ _ [(0, T.agg (Qg a (.sl false (a.log.map een)))), (1, T.agg (Qg b (.sl false (b.log.map een))))] _ _
 refine zC ?_
 apply cr
 refine Xk fun b2 _ => ?_
 refine Xk fun b3 _ => ?_
 refine s_ Qb <| zC ?_
 refine cr <| s_ Qc <| s_ Ql <| s_ Qc <| s_ Ql <| s_ XE <| zC ?_
 refine ci ?_ ?_
 ·intro hne
  have hne' : ¬ a.base = b.base := hne
  refine zC ?_
  refine cr <| s_ Qb <| zC ?_
  refine zE ?_
  rw [Qz, if_neg hne']
  exact Le.refl _
 intro heq
 have heq' : a.base = b.base := Decidable.not_not.1 heq
 rw [Qz, if_pos heq']
 refine zC ?_
 refine cr <| s_ Qb <| zC ?_
 apply Qm (σ := Nat) (ok := fun k => k ≤ a.log.length ∧ pfx a.log b.log = k + pfx (a.log.drop k) (b.log.drop k)) (env := fun k => [(5, ei k), (2, pW b2), (3, pW b3)]) (heap := fun _ => [(b3, ⟨44, Qg b (.sl false (b.log.map een)), 22⟩), (b2, ⟨44, Qg a (.sl false (a.log.map een)), 22⟩)]) (μ := fun k => a.log.length - k) (s0 := 0)
 ·exact ⟨Nat.zero_le _, by simp⟩
 ·exact eL
 ·exact kR
 rintro k ⟨hk, hp⟩
 by_cases hin : k < a.log.length ∧ k < b.log.length
 ·have hix : k < a.log.length := hin.1
  have hix2 : k < b.log.length := hin.2
  have hnx := Th hix hix2
  refine zC ?_
  refine ca [0, 1, 2, 3, 4, 5, 6, 7, 8, 9, 10, 11, 12, 13, 14, 15, 16, 17, 18, 19, 20, 21, 22, 23, 24] [] <| a_ (fun _ => Qa) <| a_ (fun _ => Qc) <| Qv ?_
  (first | refine a_ (fun _ => QS) ?_ | refine a_ (fun _ => QP) ?_)
  refine a_ (fun _ => QN) <| a_ (fun _ => Qa) <| QI (fun _ hg => Qa) ?_
  refine QI (fun _ hg => Qc) ?_
  refine Zt ?_
  (first | refine QI (fun _ hg => QS (hx := u_ hg)) ?_ | refine QI (fun _ hg => QP (hx := u_ hg)) ?_)
  refine QI (fun _ hg => QN (hx := u_ hg) (hy := u_ hg)) ?_
  refine a_ (fun _ => Xv) <| a_ (fun _ => Qa) <| QI (fun _ hg => Qc) ?_
  refine Zt ?_
  refine QI (fun _ hg => Qa) ?_
  (first | refine QI (fun _ hg => Q4 hix (hx := u_ hg) (hy := u_ hg)) ?_ | refine QI (fun _ hg => Q4 hix2 (hx := u_ hg) (hy := u_ hg)) ?_ | refine QI (fun _ hg => Yd (hx := u_ hg) (hy := u_ hg)) ?_ | refine QI (fun _ hg => Ys (hx := u_ hg) (hy := u_ hg)) ?_)
  (first | refine QI (fun _ hg => XN (hx := u_ hg)) ?_ | refine LH ?_)
  refine QI (fun _ hg => Qc) ?_
  refine Zt ?_
  refine QI (fun _ hg => Qa) ?_
  (first | refine QI (fun _ hg => Q4 hix (hx := u_ hg) (hy := u_ hg)) ?_ | refine QI (fun _ hg => Q4 hix2 (hx := u_ hg) (hy := u_ hg)) ?_ | refine QI (fun _ hg => Yd (hx := u_ hg) (hy := u_ hg)) ?_ | refine QI (fun _ hg => Ys (hx := u_ hg) (hy := u_ hg)) ?_)
  (first | refine QI (fun _ hg => XN (hx := u_ hg)) ?_ | refine LH ?_)
  refine QI (fun _ hg => Iy 2 [.int .i64, .int .i64, .str] Tryz.eqGuardType84 (hx := u_ hg) (hy := u_ hg)) ?_
  refine a_ (fun _ => Xv) ?_
  apply an
  refine zC ?_
  refine ci ?_ ?_
  ·intro hc
   have he : a.log[k] = b.log[k] := by
    exact Wu.1 hc.2
   rw [if_pos he] at hnx
   refine zC ?_
   refine cr <| s_ Qa <| s_ QQ <| s_ Qb <| zC ?_
   refine ⟨k + 1, ⟨by omega, by rw [hp, hnx]; omega⟩, (by simp only []; omega), ⟨?_, eL⟩, kR⟩
   apply Qh; (exact zG)
   exact Le.refl _
  ·intro hc
   have he : ¬ a.log[k] = b.log[k] := fun h => hc ⟨⟨by simp only [List.length_map]; omega, by simp only [List.length_map]; omega⟩, Wu.2 h⟩
   rw [if_neg he] at hnx
   refine zC ?_
   refine cr <| s_ Qa <| s_ Qb <| zC ?_
   refine zE ?_
   rw [hp, hnx]
   exact Le.refl _
 ·have hno : ¬ ((k : Int) < ((a.log.map een).length : Nat) ∧ (k : Int) < ((b.log.map een).length : Nat)) := by
   simp only [List.length_map]; omega
  refine zC ?_
  refine ca [0, 1, 2, 3, 4, 5, 6, 7, 8, 9, 10, 11, 12, 13, 14, 15, 16, 17, 18, 19, 20, 21, 22, 23, 24] [] <| a_ (fun _ => Qa) <| a_ (fun _ => Qc) <| Qv ?_
  (first | refine a_ (fun _ => QS) ?_ | refine a_ (fun _ => QP) ?_)
  refine a_ (fun _ => QN) <| a_ (fun _ => Qa) <| QI (fun _ hg => Qa) ?_
  refine QI (fun _ hg => Qc) ?_
  refine Zt ?_
  (first | refine QI (fun _ hg => QS (hx := u_ hg)) ?_ | refine QI (fun _ hg => QP (hx := u_ hg)) ?_)
  refine QI (fun _ hg => QN (hx := u_ hg) (hy := u_ hg)) ?_
  refine a_ (fun _ => Xv) <| a_ (fun _ => Qa) <| QI (fun _ hg => Qc) ?_
  refine Zt ?_
  refine QI (fun _ hg => Qa) ?_
  refine QI (d := .any) (fun _ hg => absurd hg hno) ?_
  refine QI (d := .any) (fun _ hg => absurd hg hno) ?_
  refine QI (fun _ hg => Qc) ?_
  refine Zt ?_
  refine QI (fun _ hg => Qa) ?_
  refine QI (d := .any) (fun _ hg => absurd hg hno) ?_
  refine QI (d := .any) (fun _ hg => absurd hg hno) ?_
  refine QI (d := .v (.bool (decide False))) (fun _ hg => absurd hg hno) ?_
  refine a_ (fun _ => Xv) ?_
  apply an
  refine zC ?_
  refine ci ?_ ?_
  ·intro hc; exact absurd hc.1 hno
  intro _
  refine zC ?_
  refine cr <| s_ Qa <| s_ Qb <| zC ?_
  refine zE ?_
  rw [hp, PF hin]
  exact Le.refl _
theorem IL (n : Nd) (hl : n.log.length ≤ 1000000000) : FnP Tryz.prog 44 [nd n] (fun r => r = nd n) := by
 have hc := DR false n.log hl
 refine fe Tryz.func44 fun S0 w0 => ?_
 show Sim _ _ [(0, T.agg (Qg n (.sl false (n.log.map een))))] _ _
 refine zC ?_
 apply cr
 refine Xk fun b1 _ => ?_
 refine Xt fun b2 _ => ?_
 refine zC ?_
 refine cr <| s_ Qc <| s_ Ql <| s_ (Qr (hc)) <| s_ Qc <| Qn ?_
 refine zC ?_
 refine cr <| s_ Qw <| Qn ?_
 refine zC ?_
 refine zE ?_
 exact Le.refl _
end Go.Proofs.YtjbokbikkcfjjaaGreat
namespace Go.Cap
section
variable {P : Program} {t : Env} {H : Qd} {dst : Option Tmp} {tp : TypeId} {pos : String} {aft : Array Edge} {g : Option (Nat × Bool)} {ty : TypeId} {x : Operand} {k : IntKind} {a : Int}
theorem PD (hx : t.ev x = .v (.int .u32 a)) : POp P t H ⟨dst, .unOp .xor ty x, tp, pos, aft, g⟩ (.v (.int .u32 (WB .u32 4294967295 a))) :=
 POp.still fun S w a' _ _ hr => by
  have h1 := hr x (by simp [Op.operands]); rw [hx] at h1
  exact ⟨.int .u32 (WB .u32 4294967295 a), by simp only [execOp]; rw [h1.v_eq]; rfl, .v _⟩
theorem Sc (hx : t.ev x = .v (.int .u32 a) := by exact zl) : POp P t H ⟨dst, .unOp .xor ty x, tp, pos, aft, g⟩ (.v (.int .u32 (WB .u32 4294967295 a))) := PD hx
end
end Go.Cap
namespace Go.Proofs.YtjbokbikkcfjjaaGreat
open Go.Cap
attribute [local irreducible] POp Qi SO EOp Sim FnH T.gp
def Hn (c : Int) : Int := WB .u32 (Vq .u32 c 1) (IntKind.u32.wrap (3988292384 * Vr .u32 c 1))
def KL : Nat → Int → Int
 | 0, c => c
 | k + 1, c => Hn (KL k c)
def RM (c : Int) (x : UInt8) : Int := KL 8 (WB .u32 c (IntKind.u32.wrap (x.toNat : Int)))
def BB (l : List UInt8) : Int := l.foldl RM 4294967295
def Ox (l : List UInt8) : Int := WB .u32 4294967295 (BB l)
theorem BA (l : List UInt8) {k : Nat} (hk : k < l.length) : BB (l.take (k + 1)) = RM (BB (l.take k)) l[k] := by
 unfold BB
 rw [List.take_succ_eq_append_getElem hk, List.foldl_append]
 rfl
theorem Ck (a : Int) : 0 ≤ IntKind.u32.wrap a ∧ IntKind.u32.wrap a < 4294967296 := by
 simp [IntKind.wrap, IntKind.bits, IntKind.signed]
 omega
theorem VO (l : List UInt8) : 0 ≤ Ox l ∧ Ox l < 4294967296 := Ck _
def tS : TypeId := 191
def CrH (b : Nat) (c : Int) : Qd := [(b, ⟨tS, [.v (.int .u32 c)], 1⟩)]
theorem Hp (b : Nat) (c : Int) (x : UInt8) : FnH Tryz.prog 153 [pW b, eb x] (CrH b c) (fun r H => r = .tup [] ∧ H = CrH b (RM c x)) := by
 refine fe Tryz.func153 fun S0 w0 => ?_
 show Sim _ _ [(0, pW b), (1, eb x)] (CrH b c) _
 unfold CrH
 refine zC ?_
 refine cr <| s_ Qa <| s_ Qe <| s_ Ql <| s_ Qa <| s_ YG <| s_ GH <| s_ Qe <| Qn ?_
 refine zC ?_
 refine cr <| s_ Qa <| zC ?_
 apply Qm (σ := Nat) (ok := fun k => k ≤ 8) (env := fun k => [(11, ei k), (0, pW b)]) (heap := fun k => [(b, ⟨tS, [.v (.int .u32 (KL k (WB .u32 c (IntKind.u32.wrap (x.toNat : Int)))))], 1⟩)]) (μ := fun k => 8 - k) (s0 := 0)
 ·exact Nat.zero_le _
 ·exact eL
 ·exact kR
 intro k hk
 refine zC ?_
 refine cr <| s_ QN <| zC ?_
 refine ci ?_ ?_
 ·intro hlt
  refine zC ?_
  refine ca [0, 1, 2, 3, 4, 5, 6, 7, 8, 9, 10, 11, 12] [12] <| a_ (fun _ => Qa) <| a_ (fun _ => Qa) <| a_ (fun _ => Qe) <| Qv ?_
  refine a_ (fun _ => ZR) <| a_ (fun _ => Qa) <| a_ (fun _ => Qe) <| Qv ?_
  refine a_ (fun _ => J1) <| a_ (fun _ => K8) <| a_ (fun _ => GH) <| a_ (fun _ => Qe) <| Q2 ?_
  apply an
  refine zC ?_
  refine cr <| s_ QQ <| s_ Qa <| zC ?_
  refine ⟨k + 1, by omega, (by simp only []; omega), ⟨?_, eL⟩, kR⟩
  apply Qh; (exact zG)
  exact Le.refl _
 ·intro hge
  have : k = 8 := by omega
  subst this
  refine zC ?_
  exact rhn kR ⟨rfl, rfl⟩ (Le.refl _)
theorem RL (f : Bool) (l : List UInt8) (hl : l.length ≤ 1000000000000) : FnP Tryz.prog 126 [.sl f (l.map eb)] (fun r => r = .v (.int .u32 (Ox l))) := by
 refine fe Tryz.func126 fun S0 w0 => ?_
 show Sim _ _ [(0, T.sl f (l.map eb))] _ _
 refine zC ?_
 refine cr <| s_ Qb <| zC ?_
 apply cr
 refine Xt fun b3 _ => ?_
 refine Qn ?_
 refine zC ?_
 refine cr <| s_ Wd <| s_ Qb <| zC ?_
 refine cr <| s_ Qa ?_
 (first | refine s_ QS ?_ | refine s_ QP ?_)
 refine s_ Qa <| zC ?_
 apply Qm (σ := Nat) (ok := fun k => k ≤ l.length) (env := fun k => [(10, ei k), (9, ei (l.length : Nat)), (8, .sl f (l.map eb)), (4, .clo 153 [pW b3] []), (3, pW b3)]) (heap := fun k => CrH b3 (BB (l.take k))) (μ := fun k => l.length - k) (s0 := 0)
 ·exact Nat.zero_le _
 ·refine ⟨?_, ?_, eL⟩
  ·apply Qh; (exact zG)
   exact Le.refl _
  ·apply Qh; (exact zG)
   exact Le.of_eq (by simp [ei])
 ·exact kR
 intro k hk
 refine zC ?_
 refine cr <| s_ QN <| zC ?_
 refine ci ?_ ?_
 ·intro hlt
  have hlt' : k < l.length := by omega
  refine zC ?_
  apply cr
  (first | refine s_ (Q4 hix) ?_ | refine s_ (Q4 hix2) ?_ | refine s_ Yd ?_ | refine s_ Ys ?_)
  (first | refine s_ Qf ?_ | refine s_ Ql ?_)
  refine s_ Qb <| zC ?_
  refine cr <| s_ Qa <| s_ Qa ?_
  refine VN (fs := [pW b3]) (args := [eb l[k]]) (cs := []) (Hp b3 (BB (l.take k)) l[k]) (Hr := []) W9 (fun r H' ⟨hr1, hr2⟩ => ?_)
  subst hr1 hr2
  refine zC ?_
  refine cr <| s_ QQ <| s_ Qa <| zC ?_
  refine ⟨k + 1, by omega, (by simp only []; omega), ⟨?_, eL⟩, ?_⟩
  ·apply Qh; (exact zG)
   exact Le.refl _
  ·rw [List.append_nil, ← BA _ hlt']; exact kR
 ·intro hge
  have hke : k = l.length := by omega
  subst hke
  rw [List.take_length]
  unfold CrH
  refine zC ?_
  refine cr <| s_ Ql <| s_ Sc <| s_ Qb <| zC ?_
  refine zE ?_
  exact Le.refl _
def Wn (n : Int) : List UInt8 := [UInt8.ofNat (n.toNat % 256), UInt8.ofNat (n.toNat / 256 % 256), UInt8.ofNat (n.toNat / 65536 % 256), UInt8.ofNat (n.toNat / 16777216 % 256)]
theorem Lr (n : Nat) : IntKind.u8.wrap (n : Int) = ((UInt8.ofNat (n % 256)).toNat : Int) := by
 simp [IntKind.wrap, IntKind.bits, IntKind.signed]
theorem D3 (n : Nat) {j : Int} {k : Nat} (hj : 0 ≤ j) (hk : j ≤ 32) (h : 2 ^ j.toNat = k) : Vq .u32 (n : Int) j = ((n / k : Nat) : Int) := by
 unfold Vq
 rw [show min j.toNat IntKind.u32.bits = j.toNat by simp only [IntKind.bits]; omega, show (2 : Int) ^ j.toNat = ((k : Nat) : Int) by rw [← h]; push_cast; rfl, Int.fdiv_eq_ediv_of_nonneg _ (by omega)]
 push_cast
 rfl
theorem IZ (n : Nat) : FnP Tryz.prog 175 [.v (.int .u32 n)] (fun r => r = .sl true ((Wn n).map eb)) := by
 refine fe Tryz.func175 fun S0 w0 => ?_
 show Sim _ _ [(0, .v (.int .u32 n))] _ _
 refine zC ?_
 refine cr <| s_ Qb <| zC ?_
 refine cr <| s_ Qa <| s_ YG <| s_ Qa <| s_ ZR <| s_ YG <| s_ Qa <| s_ ZR <| s_ YG <| s_ Qa <| s_ ZR <| s_ YG ?_
 rw [D3 n (j := 8) (k := 256) (by omega) (by omega) rfl, D3 n (j := 16) (k := 65536) (by omega) (by omega) rfl, D3 n (j := 24) (k := 16777216) (by omega) (by omega) rfl, Lr n, Lr (n / 256), Lr (n / 65536), Lr (n / 16777216)]
 refine s_ XS <| s_ Qb <| zC ?_
 refine zE ?_
 exact Le.refl _
def WQ (l : List UInt8) : Int := bOr .u32 (bOr .u32 (bOr .u32 (l.getD 0 0).toNat (ZP .u32 (l.getD 1 0).toNat 8)) (ZP .u32 (l.getD 2 0).toNat 16)) (ZP .u32 (l.getD 3 0).toNat 24)
theorem Kf (x : UInt8) : IntKind.u32.wrap (x.toNat : Int) = (x.toNat : Int) := by
 have := x.toNat_lt
 simp [IntKind.wrap, IntKind.bits, IntKind.signed]
 omega
theorem Ji (f : Bool) (l : List UInt8) (hl : 4 ≤ l.length) : FnP Tryz.prog 125 [.sl f (l.map eb)] (fun r => r = .v (.int .u32 (WQ l))) := by
 obtain ⟨a, b, c, d, r, rfl⟩ : ∃ a b c d r, l = a :: b :: c :: d :: r := by
  match l, hl with
  | a :: b :: c :: d :: r, _ => exact ⟨a, b, c, d, r, rfl⟩
 refine fe Tryz.func125 fun S0 w0 => ?_
 show Sim _ _ [(0, .sl f ((a :: b :: c :: d :: r).map eb))] _ _
 refine zC ?_
 refine cr <| s_ Qb <| zC ?_
 refine zC ?_
 refine ca [0, 1, 2, 3, 4, 5, 6, 7, 8, 9, 10, 11, 12, 13, 14, 15, 16, 17, 18, 19, 20, 21, 22] [] <| a_ (fun _ => Qa) ?_
 (first | refine a_ (fun _ => Q4 hix) ?_ | refine a_ (fun _ => Q4 hix2) ?_ | refine a_ (fun _ => Yd) ?_)
 refine a_ (fun _ => Qf) <| a_ (fun _ => YG) <| a_ (fun _ => Qa) ?_
 (first | refine a_ (fun _ => Q4 hix) ?_ | refine a_ (fun _ => Q4 hix2) ?_ | refine a_ (fun _ => Yd) ?_)
 refine a_ (fun _ => Qf) <| a_ (fun _ => YG) <| a_ (fun _ => J0) <| a_ (fun _ => Vx) <| a_ (fun _ => Qa) ?_
 (first | refine a_ (fun _ => Q4 hix) ?_ | refine a_ (fun _ => Q4 hix2) ?_ | refine a_ (fun _ => Yd) ?_)
 refine a_ (fun _ => Qf) <| a_ (fun _ => YG) <| a_ (fun _ => J0) <| a_ (fun _ => Vx) <| a_ (fun _ => Qa) ?_
 (first | refine a_ (fun _ => Q4 hix) ?_ | refine a_ (fun _ => Q4 hix2) ?_ | refine a_ (fun _ => Yd) ?_)
 refine a_ (fun _ => Qf) <| a_ (fun _ => YG) <| a_ (fun _ => J0) <| a_ (fun _ => Vx) <| a_ (fun _ => Qb) ?_
 apply an
 refine zC ?_
 refine zE ?_
 exact Le.of_eq (by simp [Yv, WQ, Kf])
theorem VX {a : Int} (h0 : 0 ≤ a) (h1 : a < 4294967296) : IntKind.u32.wrap a = a := by
 simp [IntKind.wrap, IntKind.bits, IntKind.signed]
 omega
theorem Ku {a x i k : Nat} (hi : i ≤ 31) (hk : 2 ^ i = k) (ha : a < k) (hx : a + k * x < 4294967296) : bOr .u32 (a : Int) (ZP .u32 (x : Int) (i : Int)) = ((a + k * x : Nat) : Int) := by
 have e2 : ZP .u32 (x : Int) (i : Int) = ((k * x : Nat) : Int) := by
  unfold ZP
  rw [show min ((i : Int)).toNat IntKind.u32.bits = i by simp only [IntKind.bits]; omega]
  have : (x : Int) * 2 ^ i = ((k * x : Nat) : Int) := by rw [← hk]; push_cast; rw [Int.mul_comm]
  rw [this, VX (by omega) (by omega)]
 rw [e2]
 unfold bOr
 have e3 : (BitVec.ofInt IntKind.u32.bits (a : Int) ||| BitVec.ofInt IntKind.u32.bits ((k * x : Nat) : Int)).toNat = a + k * x := by
  rw [BitVec.toNat_or, BitVec.toNat_ofInt, BitVec.toNat_ofInt]
  show ((a : Int) % 4294967296).toNat ||| (((k * x : Nat) : Int) % 4294967296).toNat = _
  rw [show ((a : Int) % 4294967296).toNat = a by omega, show (((k * x : Nat) : Int) % 4294967296).toNat = k * x by omega, Nat.or_comm, ← hk, ← Nat.two_pow_add_eq_or_of_lt (by rw [hk]; exact ha) x]
  omega
 rw [e3]
 exact VX (by omega) (by omega)
theorem IC (a b c d : UInt8) (r : List UInt8) : WQ (a :: b :: c :: d :: r) = ((a.toNat + 256 * b.toNat + 65536 * c.toNat + 16777216 * d.toNat : Nat) : Int) := by
 have ha := a.toNat_lt
 have hb := b.toNat_lt
 have hc := c.toNat_lt
 have hd := d.toNat_lt
 unfold WQ
 show bOr .u32 (bOr .u32 (bOr .u32 (a.toNat : Int) (ZP .u32 (b.toNat : Int) ((8 : Nat) : Int))) (ZP .u32 (c.toNat : Int) ((16 : Nat) : Int))) (ZP .u32 (d.toNat : Int) ((24 : Nat) : Int)) = _
 rw [Ku (i := 8) (k := 256) (by omega) rfl (by omega) (by omega), Ku (i := 16) (k := 65536) (by omega) rfl (by omega) (by omega), Ku (i := 24) (k := 16777216) (by omega) rfl (by omega) (by omega)]
theorem Rc (l : List UInt8) (h : 4 ≤ l.length) : 0 ≤ WQ l ∧ WQ l < 4294967296 := by
 match l, h with
 | a :: b :: c :: d :: r, _ =>
  have ha := a.toNat_lt
  have hb := b.toNat_lt
  have hc := c.toNat_lt
  have hd := d.toNat_lt
  rw [IC]
  omega
theorem L6 {n : Int} (h0 : 0 ≤ n) (h1 : n < 4294967296) (r : List UInt8) : WQ (Wn n ++ r) = n := by
 obtain ⟨m, rfl⟩ := Int.eq_ofNat_of_zero_le h0
 show WQ (UInt8.ofNat (m % 256) :: UInt8.ofNat (m / 256 % 256) :: UInt8.ofNat (m / 65536 % 256) :: UInt8.ofNat (m / 16777216 % 256) :: r) = _
 rw [IC]
 simp only [UInt8.toNat_ofNat']
 omega
end Go.Proofs.YtjbokbikkcfjjaaGreat
