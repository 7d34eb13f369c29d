/-
  replica: a snapshot, laid by one that follows.
-/
import Derived.Test.YtjbokbikkcfjjaaGreatAap
set_option maxRecDepth 16000
set_option maxHeartbeats 8000000
set_option linter.all false
namespace Go.Proofs.YtjbokbikkcfjjaaGreat
open Go.Cap
attribute [local irreducible] POp Qe AD EOp Sim FnH T.gp
def Vp (n : Nd) (m : Ms) : List En := if (m.index ≤ QW n ∧ n.base < m.index) ∧ Yi n m.index = m.logTerm then n.log.drop (m.index - n.base).toNat else []
def J5 (n : Nd) (m : Ms) : Nd := { Q1 n with log := Vp n m, base := m.index, baseTerm := m.logTerm, baseConf := m.conf, snap := m.snap, commit := m.index }
def JF (n : Nd) (m : Ms) : Nd × List Ms := if m.term < n.term then (n, [X4 n m.frm (Zk false 0)]) else
 if n.commit < m.index then (J5 n m, [X4 (J5 n m) m.frm (Zk true (max m.index n.commit))]) else (Q1 n, [X4 (Q1 n) m.frm (Zk true (max m.index n.commit))])
theorem B9 {H B : Qc} (h : Qh B []) : Qh (H ++ B) H := by
 induction H with
 | nil => exact h
 | cons p H ih => exact .keep _ _ _ _ _ (X9.refl _) ih
theorem Iy {b : Nat} {n : Nd} {out : List Ms} {H : Qc} (m : Ms) (hn : Bd n) (hi0 : -50000000000 ≤ m.index) (hi1 : m.index ≤ 50000000000) (ho : out.length ≤ 900) (hw : WkH b n out H) :
  FnH Tryz.prog 137 [pW b, ms m] H (fun r H' => r = .tup [] ∧ WkH b (JF n m).1 (out ++ (JF n m).2) H') := by
 have hb0 := hn.base0
 have hb1 := hn.base1
 have hlog := hn.log
 have hL := Z3 (Q1 n) (by show n.log.length ≤ _; omega) (by show _ ≤ n.base; omega) (by show n.base ≤ _; omega)
 refine fe Tryz.func137 fun S0 w0 => ?_
 show Sim _ _ [(0, pW b), (1, T.agg (msC m (Zn m.entries)))] _ _
 refine zC ?_
 apply cr
 refine XN fun b3 _ => ?_
 refine zC ?_
 refine Zc 3 (by simp [msC]) ?_
 refine zC ?_
 refine cr <| s_ Qa <| s_ YP ?_
 refine QJ (VK m (by omega) hw) (fun r H' ⟨hr, hw⟩ => ?_)
 subst hr
 refine s_ YE <| zC ?_
 refine ci ?_ ?_
 ·intro hc
  have hlt : m.term < n.term := Decidable.not_not.1 hc
  rw [if_pos hlt, if_pos hlt] at hw
  refine zR ?_
  refine rh kR ⟨rfl, ?_⟩ (Le.refl _)
  rw [JF, if_pos hlt]
  exact hw
 intro hc
 have hlt : ¬ m.term < n.term := fun h => hc (fun h' => h' h)
 rw [if_neg hlt, if_neg hlt] at hw
 have hw1 := hw
 obtain ⟨vl, vo, Hl, Ho, h1, h2, rfl⟩ := hw
 obtain ⟨p, c, rfl⟩ := h1.len
 obtain ⟨q, d, rfl⟩ := h2.len
 have hqb : (Q1 n).base = n.base := rfl
 have hcap : (n.log.map een).length ≤ c := OSl.cap h1
 refine zC ?_
 refine cr <| s_ Qa <| s_ Qf <| s_ Qd <| s_ Qd <| s_ Ql <| s_ Qb <| zC ?_
 refine ca [0, 1, 2, 3, 4, 5, 6, 7] [] <| a_ (fun _ => Qr) <| a_ (fun _ => Qn) <| a_ (fun _ => Qa) <| a_ (fun _ => Qf) <| a_ (fun _ => Qd) <| a_ (fun _ => Qd) <| QF ?_
 refine a_ (fun _ => X0) ?_
 apply an
 refine zC ?_
 refine ci ?_ ?_
 ·intro hgt
  refine zC ?_
  refine cr <| s_ Qa <| s_ Qf <| s_ Qd <| s_ Q7 <| s_ (Vt hL (Qg.cons (Qu.agg (QS (Q1 n) (h1.lend (by intro p hp; simp [hp])))) Qg.nil)) ?_
  have hT := U8 (Q1 n) m.index (by show n.log.length ≤ _; omega) (by simp only [big]; show _ ≤ n.base; omega) (by simp only [big]; show n.base ≤ _; omega) (by simp only [big]; omega) (by simp only [big]; omega)
  refine s_ Qa <| s_ QC <| s_ QC <| s_ Qb <| s_ Qb <| zC ?_
  refine cr <| s_ Qb <| zC ?_
  refine ca [0, 1, 2, 3, 4, 5, 6, 7, 8, 9, 10, 11, 12, 13, 14, 15, 16, 17, 18, 19, 20, 21, 22, 23, 24] [] <| a_ (fun _ => Qr) <| a_ (fun _ => Qn) <| a_ (fun _ => Qa) <| a_ (fun _ => IX) <| a_ (fun _ => Qa) <| Qz (fun _ hg => Qr) ?_
  refine Qz (fun _ hg => Qn (hx := u_ hg)) ?_
  refine Qz (fun _ hg => Qa) ?_
  refine Qz (fun _ hg => Qf (hx := u_ hg)) ?_
  refine Qz (fun _ hg => Qd (hx := u_ hg)) ?_
  refine Qz (fun _ hg => Qd (hx := u_ hg)) ?_
  refine Zi ?_
  refine Qz (fun _ hg => X0 (hx := u_ hg) (hy := u_ hg)) ?_
  refine a_ (fun _ => XW) <| a_ (fun _ => Qa) <| Qz (fun _ hg => Qa) ?_
  refine Qz (fun _ hg => Qf (hx := u_ hg)) ?_
  refine Qz (fun _ hg => Qd (hx := u_ hg)) ?_
  refine Qz (fun _ hg => Qr) ?_
  refine Qz (fun _ hg => Qn (hx := u_ hg)) ?_
  refine BE (G := (b, _) :: (Hl ++ (Ho ++ []))) (fun _ => hT) (fun _ => Qg.cons (Lt (n := Q1 n) h1 (by intro p hp; simp [hp]) List.mem_cons_self) (Qg.cons (Qu.le (Le.refl _)) Qg.nil)) ⟨[], UT⟩ ?_ (fun hg => by refine QQ (u_ hg) (QQ (u_ hg) XS))
  refine Qz (fun _ hg => Qr) ?_
  refine Qz (fun _ hg => Qn (hx := u_ hg)) ?_
  refine Qz (fun _ hg => XB (hx := u_ hg) (hy := u_ hg)) ?_
  refine a_ (fun _ => XW) ?_
  apply an
  refine zC ?_
  refine ci ?_ ?_
  ·intro hr
   have hr' : (m.index ≤ QW n ∧ n.base < m.index) ∧ Yi n m.index = m.logTerm := hr
   have hrest : Vp n m = n.log.drop (m.index - n.base).toNat := by rw [Vp, if_pos hr']
   have hlf : QW n = n.base + n.log.length := rfl
   obtain ⟨lo, hlo⟩ : ∃ lo : Nat, (lo : Int) = m.index - n.base := ⟨(m.index - n.base).toNat, by omega⟩
   have hlol : lo ≤ n.log.length := by omega
   have hs5 := (h1.sle (G := (b, ⟨tW, wkC (Q1 n) (.slice p (n.log.map een).length c) (.slice q (out.map ms).length d), 23⟩) :: (Hl ++ (Ho ++ []))) (by intro p hp; simp [hp]))
   have hs5' := SlE.sub hs5 (lo := lo) (hi := n.log.length) hlol (Nat.le_refl _)
   rw [List.take_of_length_le (by simp [Q1])] at hs5'
   obtain ⟨p5, c5, e5, hc5, hl5⟩ := hs5'
   refine zC ?_
   refine ca [0, 1, 2, 3, 4, 5, 6, 7, 8, 9, 10, 11, 12, 13, 14] [] <| a_ (fun _ => Qa) <| a_ (fun _ => Qf) <| a_ (fun _ => Qd) <| a_ (fun _ => Qd) <| QF ?_
   refine a_ (fun _ => Qr) <| a_ (fun _ => Qn) <| a_ (fun _ => Qa) <| a_ (fun _ => Qf) <| a_ (fun _ => Qd) <| a_ (fun _ => Qd) <| QF ?_
   refine a_ (fun _ => Y9) ?_
   rw [hqb, ← hlo]
   refine a_ (fun _ => O2 (v := .slice p5 (n.log.drop lo).length c5) hcap (by rw [List.length_map, Int.toNat_natCast]; exact e5)) <| a_ (fun _ => Qb) ?_
   apply an
   refine zC ?_
   have hrl : Vp n m = n.log.drop lo := by rw [hrest, ← hlo, Int.toNat_natCast]
   refine zC ?_
   refine cr <| s_ Qa <| s_ Qa ?_
   refine R0 (Zf false (n.log.drop lo) (by first | (simp; done) | (simp; omega))) (Qg.cons ((e5 ▸ hl5)) Qg.nil) OE.of ?_
   rintro r H1 ⟨v, rfl, ho⟩
   obtain ⟨p8, c8, rfl⟩ := ho.len
   refine QG (List.perm_middle) ?_
   refine s_ Qf <| s_ Qd <| s_ Qd <| Qw ?_
   refine zC ?_
   refine ca [0, 1, 2, 3, 4, 5, 6, 7, 8, 9, 10, 11, 12, 13, 14, 15, 16, 17, 18, 19, 20, 21, 22, 23, 24, 25, 26, 27, 28, 29, 30, 31, 32, 33, 34] [18, 22, 26, 30, 34] <| a_ (fun _ => Qa) <| a_ (fun _ => Qa) <| a_ (fun _ => Qa) <| a_ (fun _ => Qa) <| a_ (fun _ => Qa) <| a_ (fun _ => Qr) <| a_ (fun _ => Qn) <| a_ (fun _ => Qr) <| a_ (fun _ => Qn) <| a_ (fun _ => Qr) <| a_ (fun _ => Qn) <| a_ (fun _ => Qr) <| a_ (fun _ => Qn) <| a_ (fun _ => Qr) <| a_ (fun _ => Qn) <| a_ (fun _ => Qf) <| a_ (fun _ => Qd) <| a_ (fun _ => Qd) <| XH ?_
   refine a_ (fun _ => Qf) <| a_ (fun _ => Qd) <| a_ (fun _ => Qd) <| XH ?_
   refine a_ (fun _ => Qf) <| a_ (fun _ => Qd) <| a_ (fun _ => Qd) <| XH ?_
   refine a_ (fun _ => Qf) <| a_ (fun _ => Qd) <| a_ (fun _ => Qd) <| XH ?_
   refine a_ (fun _ => Qf) <| a_ (fun _ => Qd) <| a_ (fun _ => Qd) <| XH ?_
   apply an
   refine zC ?_
   refine cr <| s_ Qa <| s_ Qr <| s_ Qn <| s_ Qr <| s_ Qn <| s_ Qa <| s_ Lp ?_
   refine QU (Hs := (b, _) :: (H1 ++ (Ho ++ []))) (Hr := Hl) (FnH.of_le ?_ (Zj m.frm true (max m.index n.commit) (by omega) (show WkH b (J5 n m) out ((b, ⟨tW, wkC (J5 n m) (.slice p8 _ c8) (.slice q (out.map ms).length d), 23⟩) :: (H1 ++ (Ho ++ []))) from ⟨_, _, H1, Ho, (by rw [show (J5 n m).log = n.log.drop lo from hrl]; exact ho), h2, rfl⟩))) ?_ (fun r H' ⟨hr, h3⟩ => ?_)
   ·exact zM
   ·refine .cons _ ?_
    show List.Perm _ ((H1 ++ (Ho ++ [])) ++ Hl)
    rw [List.append_assoc]
    refine .append_left _ ?_
    exact List.perm_append_comm
   ·subst hr
    refine zC ?_
    refine rhn (H' := H') (B9 kN) ⟨rfl, ?_⟩ (Le.refl _)
    have hgt' : n.commit < m.index := hgt
    rw [JF, if_neg hlt, if_pos hgt']
    exact h3
  ·intro hr
   have hr' : ¬ ((m.index ≤ QW n ∧ n.base < m.index) ∧ Yi n m.index = m.logTerm) := hr
   have hrl : Vp n m = [] := by rw [Vp, if_neg hr']
   refine zC ?_
   refine cr <| s_ Qa <| s_ Qa ?_
   refine R0 (Zf false [] (by first | (simp; done) | (simp; omega))) (Qg.cons (Qu.le (Le.nil _)) Qg.nil) OE.of ?_
   rintro r H1 ⟨v, rfl, ho⟩
   obtain ⟨p8, c8, rfl⟩ := ho.len
   refine QG (List.perm_middle) ?_
   refine s_ Qf <| s_ Qd <| s_ Qd <| Qw ?_
   refine zC ?_
   refine ca [0, 1, 2, 3, 4, 5, 6, 7, 8, 9, 10, 11, 12, 13, 14, 15, 16, 17, 18, 19, 20, 21, 22, 23, 24, 25, 26, 27, 28, 29, 30, 31, 32, 33, 34] [18, 22, 26, 30, 34] <| a_ (fun _ => Qa) <| a_ (fun _ => Qa) <| a_ (fun _ => Qa) <| a_ (fun _ => Qa) <| a_ (fun _ => Qa) <| a_ (fun _ => Qr) <| a_ (fun _ => Qn) <| a_ (fun _ => Qr) <| a_ (fun _ => Qn) <| a_ (fun _ => Qr) <| a_ (fun _ => Qn) <| a_ (fun _ => Qr) <| a_ (fun _ => Qn) <| a_ (fun _ => Qr) <| a_ (fun _ => Qn) <| a_ (fun _ => Qf) <| a_ (fun _ => Qd) <| a_ (fun _ => Qd) <| XH ?_
   refine a_ (fun _ => Qf) <| a_ (fun _ => Qd) <| a_ (fun _ => Qd) <| XH ?_
   refine a_ (fun _ => Qf) <| a_ (fun _ => Qd) <| a_ (fun _ => Qd) <| XH ?_
   refine a_ (fun _ => Qf) <| a_ (fun _ => Qd) <| a_ (fun _ => Qd) <| XH ?_
   refine a_ (fun _ => Qf) <| a_ (fun _ => Qd) <| a_ (fun _ => Qd) <| XH ?_
   apply an
   refine zC ?_
   refine cr <| s_ Qa <| s_ Qr <| s_ Qn <| s_ Qr <| s_ Qn <| s_ Qa <| s_ Lp ?_
   refine QU (Hs := (b, _) :: (H1 ++ (Ho ++ []))) (Hr := Hl) (FnH.of_le ?_ (Zj m.frm true (max m.index n.commit) (by omega) (show WkH b (J5 n m) out ((b, ⟨tW, wkC (J5 n m) (.slice p8 _ c8) (.slice q (out.map ms).length d), 23⟩) :: (H1 ++ (Ho ++ []))) from ⟨_, _, H1, Ho, (by rw [show (J5 n m).log = [] from hrl]; exact ho), h2, rfl⟩))) ?_ (fun r H' ⟨hr, h3⟩ => ?_)
   ·exact zM
   ·refine .cons _ ?_
    show List.Perm _ ((H1 ++ (Ho ++ [])) ++ Hl)
    rw [List.append_assoc]
    refine .append_left _ ?_
    exact List.perm_append_comm
   ·subst hr
    refine zC ?_
    refine rhn (H' := H') (B9 kN) ⟨rfl, ?_⟩ (Le.refl _)
    have hgt' : n.commit < m.index := hgt
    rw [JF, if_neg hlt, if_pos hgt']
    exact h3
 ·intro hgt
  refine zC ?_
  refine cr <| s_ Qa <| s_ Qr <| s_ Qn <| s_ Qr <| s_ Qn <| s_ Qa <| s_ Lp ?_
  refine QJ (FnH.of_le ?_ (Zj m.frm true (max m.index n.commit) (by omega) hw1)) (fun r H' ⟨hr, h3⟩ => ?_)
  ·exact zM
  ·subst hr
   refine zC ?_
   refine rhn kR ⟨rfl, ?_⟩ (Le.refl _)
   have hgt' : ¬ n.commit < m.index := hgt
   rw [JF, if_neg hlt, if_neg hgt']
   exact h3
def Xw (n : Nd) : Nd × List Ms := if n.role = 2 then (n, Yb n (Jc n) 5) else if ¬ isF (QM n).2 n.id = true then (n, []) else
 if 5 + 3 * n.id ≤ n.wait + 1 ∧ n.term < 1073741824 then YI { n with wait := n.wait + 1 } else ({ n with wait := n.wait + 1 }, [])
theorem Yu (n : Nd) (h : Bd n) : n.log.length ≤ 1000000000 := by have := h.log; omega
theorem Eo {n : Nd} (hn : Bd n) (hl : n.log.length < 100000000) : Bd (Xu n) := (hn.lead hl).commit
theorem Oy {n : Nd} (hn : Bd n) (hl : n.log.length < 100000000) : Bd (YI n).1 := by
 unfold YI
 split
 ·exact Eo hn.stand hl
 ·exact hn.stand
theorem tick_fn {n : Nd} (hn : Bd n) (hl : n.log.length < 100000000) (ht0 : 0 ≤ n.term) (ht1 : n.term ≤ 1000000000000) (hw0 : 0 ≤ n.wait) (hw1 : n.wait ≤ 1000000000) (hx : ∀ i, n.next.get i ≤ 100000000000) :
  FnP Tryz.prog 76 [nd n] (fun r => r = .tup [nd (Xw n).1, mss (Xw n).2]) := by
 have hC := Vh n (Yu n hn) (by have := hn.base0; omega) (by have := hn.base1; omega)
 have hI := Rr (QM n).2 n.id hn.id0 hn.id5 hn.conf0 hn.conf1
 have hW := W0 n (Yu n hn)
 have hi0 := hn.id0
 have hi5 := hn.id5
 refine fe Tryz.func76 fun S0 w0 => ?_
 show Sim _ _ [(0, T.agg (Qt n (.sl false (n.log.map een))))] _ _
 refine zC ?_
 apply cr
 refine XN fun b1 _ => ?_
 refine XX fun b2 _ => ?_
 refine s_ Qb <| zC ?_
 refine XV (List.Perm.swap _ _ _) ?_
 refine Zc 1 (by simp [Qt]) ?_
 refine zC ?_
 refine cr <| s_ YP ?_
 refine QU (Hs := []) (Hr := [_]) hW (.refl _) (fun r H' ⟨b, hr, hw⟩ => ?_)
 subst hr
 have hw' := hw
 obtain ⟨vl, vo, Hl, Ho, h1, h2, rfl⟩ := hw
 obtain ⟨p, c, rfl⟩ := h1.len
 obtain ⟨q, d, rfl⟩ := h2.len
 refine s_ Qb <| zC ?_
 refine cr <| s_ Qa <| s_ Qf <| s_ Qd <| s_ Qd <| s_ Ql <| s_ XB <| zC ?_
 refine ci ?_ ?_
 ·intro hr
  refine zC ?_
  refine cr <| s_ Qa <| s_ Qa <| s_ Uf ?_
  refine QU (Eh hn hx (by simp) hw') (.refl _) (fun r H' ⟨hr, h3⟩ => ?_)
  subst hr
  refine zC ?_
  refine cr <| s_ Qa ?_
  refine QU (XY (Yu n hn) h3) (.refl _) (fun r H' ⟨hr, hr2⟩ => ?_)
  subst hr hr2
  refine s_ QC <| s_ QC <| Qw ?_
  refine s_ Qb <| zC ?_
  refine zE ?_
  rw [Xw, if_pos hr]
  exact Le.refl _
 ·intro hr
  refine zC ?_
  refine ca [0, 1, 2, 3, 4, 5] [] <| a_ (fun _ => YP) <| a_ (fun _ => QK (hC)) <| a_ (fun _ => Qr) <| a_ (fun _ => Qn) <| a_ (fun _ => QK (hI)) <| a_ (fun _ => YE) ?_
  apply an
  refine zC ?_
  refine ci ?_ ?_
  ·intro hm
   refine zC ?_
   refine cr <| s_ Qa ?_
   refine QU (XY (Yu n hn) hw') (.refl _) (fun r H' ⟨hr, hr2⟩ => ?_)
   subst hr hr2
   refine s_ QC <| s_ QC <| Qw ?_
   refine s_ Qb <| zC ?_
   refine zE ?_
   rw [Xw, if_neg hr, if_pos hm]
   exact Le.refl _
  ·intro hm
   have hn1 : Bd { n with wait := n.wait + 1 } := hn.of
   refine zC ?_
   refine cr <| s_ Qa <| s_ Qf <| s_ Qd <| s_ Qd <| s_ Ql <| s_ Q0 <| s_ Qf <| s_ Qd <| s_ Qd <| Qw ?_
   refine zC ?_
   refine ca [0, 1, 2, 3, 4, 5, 6, 7, 8, 9, 10, 11, 12, 13, 14, 15, 16, 17, 18, 19, 20] [] <| a_ (fun _ => Qa) <| a_ (fun _ => Qf) <| a_ (fun _ => Qd) <| a_ (fun _ => Qd) <| QF ?_
   refine a_ (fun _ => Qa) <| a_ (fun _ => Qf) <| a_ (fun _ => Qd) <| a_ (fun _ => Qd) <| QF ?_
   refine a_ (fun _ => Bb) <| a_ (fun _ => Q0) <| a_ (fun _ => U0) <| a_ (fun _ => Qa) <| Qz (fun _ hg => Qa) ?_
   refine Qz (fun _ hg => Qf (hx := u_ hg)) ?_
   refine Qz (fun _ hg => Qd (hx := u_ hg)) ?_
   refine Qz (fun _ hg => Qd (hx := u_ hg)) ?_
   refine Zi ?_
   refine Qz (fun _ hg => QR (hx := u_ hg)) ?_
   refine a_ (fun _ => XW) ?_
   apply an
   refine zC ?_
   refine ci ?_ ?_
   ·intro hs
    refine zC ?_
    refine cr <| s_ Qa ?_
    refine QU (Ox hn1 hl ht0 (by simp only; omega) (by simp) (show WkH b { n with wait := n.wait + 1 } [] _ from ⟨_, _, Hl, Ho, h1, h2, rfl⟩)) (.refl _) (fun r H' ⟨hr, h3⟩ => ?_)
    subst hr
    refine zC ?_
    refine cr <| s_ Qa ?_
    refine QU (XY (Yu _ (Oy hn1 hl)) h3) (.refl _) (fun r H' ⟨hr, hr2⟩ => ?_)
    subst hr hr2
    refine s_ QC <| s_ QC <| Qw ?_
    refine s_ Qb <| zC ?_
    refine zE ?_
    have hs' : 5 + 3 * n.id ≤ n.wait + 1 ∧ n.term < 1073741824 := hs
    rw [Xw, if_neg hr, if_neg hm, if_pos hs']
    exact Le.refl _
   ·intro hs
    refine zC ?_
    refine cr <| s_ Qa ?_
    refine QU (XY (Yu _ hn1) (show WkH b { n with wait := n.wait + 1 } [] _ from ⟨_, _, Hl, Ho, h1, h2, rfl⟩)) (.refl _) (fun r H' ⟨hr, hr2⟩ => ?_)
    subst hr hr2
    refine s_ QC <| s_ QC <| Qw ?_
    refine s_ Qb <| zC ?_
    refine zE ?_
    have hs' : ¬ (5 + 3 * n.id ≤ n.wait + 1 ∧ n.term < 1073741824) := hs
    rw [Xw, if_neg hr, if_neg hm, if_neg hs']
    exact Le.refl _
def DQ (n : Nd) (m : Ms) : Prop := (((m.frm < 0 ∨ 5 ≤ m.frm) ∨ m.frm = n.id) ∨ ¬ m.to = n.id) ∨ (((m.kind < 1 ∨ 5 < m.kind) ∨ m.term < 0) ∨ 1073741824 < m.term)
instance (n : Nd) (m : Ms) : Decidable (DQ n m) := by unfold DQ; infer_instance
def upN (n : Nd) (m : Ms) : Nd := if n.term < m.term then { n with term := m.term, vote := -1, role := 0, votes := 0 } else n
def M2 (n : Nd) (m : Ms) : Nd × List Ms := if m.kind = 1 then (Y4 n m, [X4 (Y4 n m) m.frm (W3 (M5 n m))]) else if m.kind = 2 then YH n m else if m.kind = 3 then UH n m else
 if m.kind = 4 then Ym n m else JF n m
def Xs (n : Nd) (m : Ms) : Nd × List Ms := if DQ n m then (n, []) else M2 (upN n m) m
def BJ : Nd := ⟨0, 0, 0, 0, 0, 0, [], [], 0, 0, 0, 0, .all 0, .all 0⟩
structure MBd (n : Nd) (m : Ms) : Prop where
 i0 : -50000000000 ≤ m.index
 i1 : m.index ≤ 50000000000
 es : n.log.length + m.entries.length ≤ 100000000
structure NBd (n : Nd) : Prop where
 log : n.log.length < 100000000
 v0 : 0 ≤ n.votes
 v1 : n.votes ≤ 31
 x0 : ∀ i, -100000000000 ≤ n.next.get i
 x1 : ∀ i, n.next.get i ≤ 50000000000
 m0 : ∀ i, -100000000000 ≤ n.mtch.get i
 m1 : ∀ i, n.mtch.get i ≤ 50000000000
theorem W4 (n : Nd) (m : Ms) : ∃ t v r w, upN n m = { n with term := t, vote := v, role := r, votes := w } ∧ (w = 0 ∨ w = n.votes) := by
 unfold upN
 split
 ·exact ⟨_, _, _, _, rfl, .inl rfl⟩
 ·exact ⟨_, _, _, _, rfl, .inr rfl⟩
theorem Bd.up {n : Nd} (m : Ms) (h : Bd n) : Bd (upN n m) := by
 obtain ⟨_, _, _, _, e, _⟩ := W4 n m
 rw [e]; exact h.of
theorem NBd.up {n : Nd} (m : Ms) (h : NBd n) : NBd (upN n m) := by
 obtain ⟨_, _, _, _, e, hw⟩ := W4 n m
 have h0 := h.v0
 have h1 := h.v1
 rw [e]; exact ⟨h.log, by simp only; omega, by simp only; omega, h.x0, h.x1, h.m0, h.m1⟩
theorem MBd.up {n : Nd} {m : Ms} (h : MBd n m) : MBd (upN n m) m := by
 obtain ⟨_, _, _, _, e, hw⟩ := W4 n m
 rw [e]; exact ⟨h.i0, h.i1, h.es⟩
theorem ES {n : Nd} (m : Ms) (hn : Bd n) (hl : n.log.length < 100000000) : Bd (YH n m).1 := by
 unfold YH
 split
 ·exact hn
 ·split
  ·exact Eo hn.of hl
  ·exact hn.of
theorem On {n : Nd} (m : Ms) (hn : Bd n) : Bd (Y4 n m) := by
 unfold Y4
 split
 ·exact hn.of
 ·exact hn
theorem GH {n : Nd} (m : Ms) (hn : Bd n) : Bd (Ym n m).1 := by
 unfold Ym
 split
 ·exact hn
 ·split
  ·exact (hn.of (n' := JZ n m)).commit
  ·split <;> exact hn.of
theorem Ij {n : Nd} {m : Ms} (hl : n.log.length + m.entries.length ≤ 100000000) : (UH n m).1.log.length ≤ 100000000 := by
 unfold UH
 split
 ·simp only; omega
 ·split
  ·simp only [Q1]; omega
  ·split
   ·simp only [Q1]; omega
   ·have := VC n m m.entries.length
    simp only [Ii]; omega
theorem EY {n : Nd} {m : Ms} (hl : n.log.length ≤ 100000000) : (JF n m).1.log.length ≤ 100000000 := by
 unfold JF
 split
 ·exact hl
 ·split
  ·simp only [J5, Vp]
   split
   ·simp; omega
   ·simp
  ·exact hl
theorem take_fn {n : Nd} {m : Ms} (hn : Bd n) (hN : NBd n) (hM : DQ n m ∨ MBd n m) : FnP Tryz.prog 100 [nd n, ms m] (fun r => r = .tup [nd (Xs n m).1, mss (Xs n m).2]) := by
 have hW := W0 n (Yu n hn)
 refine fe Tryz.func100 fun S0 w0 => ?_
 show Sim _ _ [(0, T.agg (Qt n (.sl false (n.log.map een)))), (1, T.agg (msC m (Zn m.entries)))] _ _
 refine zC ?_
 apply cr
 refine XN fun b2 _ => ?_
 refine XN fun b3 _ => ?_
 refine XX fun b4 _ => ?_
 refine s_ Qb <| zC ?_
 refine XV (List.perm_append_comm (l₁ := [_])) ?_
 refine Zc 3 (by simp [msC]) ?_
 refine Zc 2 (by simp [Qt]) ?_
 refine zC ?_
 refine cr <| s_ YP ?_
 refine QU (Hs := []) (Hr := [_]) hW (.refl _) (fun r H' ⟨b, hr, hw⟩ => ?_)
 subst hr
 have hw' := hw
 obtain ⟨vl, vo, Hl, Ho, h1, h2, rfl⟩ := hw
 obtain ⟨p, c, rfl⟩ := h1.len
 obtain ⟨q, d, rfl⟩ := h2.len
 refine s_ Qb <| zC ?_
 refine ca [0, 1, 2, 3, 4, 5, 6, 7, 8, 9, 10, 11, 12, 13, 14, 15, 16, 17, 18, 19, 20, 21, 22, 23, 24, 25, 26, 27, 28] [] <| a_ (fun _ => Qr) <| a_ (fun _ => Qn) <| a_ (fun _ => QR) <| a_ (fun _ => Qa) <| Xz (fun _ hg => Qr) ?_
 refine Xz (fun _ hg => Qn (hx := u_ hg)) ?_
 refine Xz (fun _ hg => U0 (hx := u_ hg)) ?_
 refine a_ (fun _ => YD) <| a_ (fun _ => Qa) <| Xz (fun _ hg => Qr) ?_
 refine Xz (fun _ hg => Qn (hx := u_ hg)) ?_
 refine Xz (fun _ hg => Qa) ?_
 refine Xz (fun _ hg => Qf (hx := u_ hg)) ?_
 refine Xz (fun _ hg => Qd (hx := u_ hg)) ?_
 refine Xz (fun _ hg => Qd (hx := u_ hg)) ?_
 refine LT ?_
 refine Xz (fun _ hg => XB (hx := u_ hg) (hy := u_ hg)) ?_
 refine a_ (fun _ => YD) <| a_ (fun _ => Qa) <| Xz (fun _ hg => Qr) ?_
 refine Xz (fun _ hg => Qn (hx := u_ hg)) ?_
 refine Xz (fun _ hg => Qa) ?_
 refine Xz (fun _ hg => Qf (hx := u_ hg)) ?_
 refine Xz (fun _ hg => Qd (hx := u_ hg)) ?_
 refine Xz (fun _ hg => Qd (hx := u_ hg)) ?_
 refine LT ?_
 refine Xz (fun _ hg => XR (hx := u_ hg) (hy := u_ hg)) ?_
 refine a_ (fun _ => YD) <| a_ (fun _ => Qb) ?_
 apply an
 refine zC ?_
 refine ci ?_ ?_
 ·intro hb
  refine zC ?_
  refine cr <| s_ Qa ?_
  refine QU (XY (Yu n hn) hw') (.refl _) (fun r H' ⟨hr, hr2⟩ => ?_)
  subst hr hr2
  refine s_ QC <| s_ QC <| Qw ?_
  refine s_ Qb <| zC ?_
  refine zE ?_
  have hbad : DQ n m := .inl hb
  rw [Xs, if_pos hbad]
  exact Le.refl _
 intro hb
 refine zC ?_
 refine cr <| s_ Qr <| s_ Qn <| s_ QR <| s_ Qa <| gF (fun hg => Qr) ?_
 refine gF (fun hg => Qn (hx := u_ hg)) ?_
 refine gF (fun hg => X0 (hx := u_ hg)) ?_
 refine s_ YD <| s_ Qa <| gF (fun hg => Qr) ?_
 refine gF (fun hg => Qn (hx := u_ hg)) ?_
 refine gF (fun hg => QR (hx := u_ hg)) ?_
 refine s_ YD <| s_ Qa <| gF (fun hg => Qr) ?_
 refine gF (fun hg => Qn (hx := u_ hg)) ?_
 refine gF (fun hg => X0 (hx := u_ hg)) ?_
 refine s_ YD <| s_ Qb <| zC ?_
 refine ci ?_ ?_
 ·intro hb2
  refine zC ?_
  refine cr <| s_ Qa ?_
  refine QU (XY (Yu n hn) hw') (.refl _) (fun r H' ⟨hr, hr2⟩ => ?_)
  subst hr hr2
  refine s_ QC <| s_ QC <| Qw ?_
  refine s_ Qb <| zC ?_
  refine zE ?_
  have hbad : DQ n m := .inr hb2
  rw [Xs, if_pos hbad]
  exact Le.refl _
 intro hb2
 have hbad : ¬ DQ n m := fun h => h.elim hb hb2
 have hM : MBd n m := hM.resolve_left hbad
 have hfr : 0 ≤ m.frm ∧ m.frm < 5 := by omega
 have hu := hn.up m
 have hNu := hN.up m
 have hMu := hM.up
 have hlu := hNu.log
 have hle := hMu.es
 have hi0 := hM.i0
 have hi1 := hM.i1
 have hv0 := hNu.v0
 have hv1 := hNu.v1
 have hx0 := hNu.x0
 have hx1 := hNu.x1
 have hm0 := hNu.m0
 have hm1 := hNu.m1
 refine zC ?_
 refine ca [0, 1, 2, 3, 4, 5, 6, 7] [] <| a_ (fun _ => Qr) <| a_ (fun _ => Qn) <| a_ (fun _ => Qa) <| a_ (fun _ => Qf) <| a_ (fun _ => Qd) <| a_ (fun _ => Qd) <| QF ?_
 refine a_ (fun _ => X0) ?_
 apply an
 refine zC ?_
 show Sim _ _ _ _ (Wp _ _ _)
 refine Ju [(6, pW b), (3, .adr (.agg (msC m (Zn m.entries)))), (4, .v (.pointer (some ⟨b4, 0, none⟩)))] ((b, ⟨tW, wkC (upN n m) (.slice p (n.log.map een).length c) (.slice q (List.length ([].map ms)) d), 23⟩) :: (Hl ++ (Ho ++ [])) ++ [(b4, (⟨44, Qt BJ (.v (.slice none 0 0)), 22⟩ : Blk))]) ?_ ?_
 ·refine ci ?_ ?_
  ·intro hgt
   refine zC ?_
   refine cr <| s_ Qa <| s_ Qa <| s_ Qa <| s_ Qa <| s_ Qr <| s_ Qn <| s_ Qf <| s_ Qd <| s_ Qd <| Qw ?_
   refine s_ Qf <| s_ Qd <| s_ Qd <| Qw ?_
   refine s_ Qf <| s_ Qd <| s_ Qd <| Qw ?_
   refine s_ Qf <| s_ Qd <| s_ Qd <| Qw ?_
   refine zC ?_
   have hgt' : n.term < m.term := hgt
   have e : upN n m = { n with term := m.term, vote := -1, role := 0, votes := 0 } := by rw [upN, if_pos hgt']
   rw [e]
   exact ⟨eL, kR⟩
  ·intro hgt
   refine zC ?_
   have hgt' : ¬ n.term < m.term := hgt
   have e : upN n m = n := by rw [upN, if_neg hgt']
   rw [e]
   exact ⟨eL, kR⟩
 have hlog : (upN n m).log = n.log := by
  obtain ⟨_, _, _, _, e, _⟩ := W4 n m
  rw [e]
 have hw : WkH b (upN n m) [] ((b, ⟨tW, wkC (upN n m) (.slice p (n.log.map een).length c) (.slice q (List.length (([] : List Ms).map ms)) d), 23⟩) :: (Hl ++ (Ho ++ []))) := ⟨_, _, Hl, Ho, by rw [hlog]; exact h1, h2, rfl⟩
 refine zC ?_
 refine cr <| s_ Qr <| s_ Qn <| zC ?_
 refine cr <| s_ XB <| s_ Qb <| zC ?_
 refine ci ?_ ?_
 ·intro hk1
  refine zC ?_
  refine cr <| s_ Qa <| s_ YP ?_
  refine QU (Ir m hu (by simp) hw) (.refl _) (fun r H' ⟨hr, h3⟩ => ?_)
  subst hr
  refine zC ?_
  refine zC ?_
  refine zC ?_
  refine cr <| s_ Qa ?_
  refine QU (XY (Yu _ (On m hu)) h3) (.refl _) (fun r H' ⟨hr, hr2⟩ => ?_)
  subst hr hr2
  refine s_ QC <| s_ QC <| Qw ?_
  refine s_ Qb <| zC ?_
  refine zE ?_
  rw [Xs, if_neg hbad, M2, if_pos hk1]
  exact Le.refl _
 ·intro hk1
  refine zC ?_
  refine cr <| s_ XB <| s_ Qb <| zC ?_
  refine ci ?_ ?_
  ·intro hk2
   refine zC ?_
   refine cr <| s_ Qa <| s_ YP ?_
   refine QU (Om m hu hlu hv0 hv1 (by omega) (by omega) (by simp) hw) (.refl _) (fun r H' ⟨hr, h3⟩ => ?_)
   subst hr
   refine zC ?_
   refine zC ?_
   refine zC ?_
   refine cr <| s_ Qa ?_
   refine QU (XY (Yu _ (ES m hu hlu)) h3) (.refl _) (fun r H' ⟨hr, hr2⟩ => ?_)
   subst hr hr2
   refine s_ QC <| s_ QC <| Qw ?_
   refine s_ Qb <| zC ?_
   refine zE ?_
   rw [Xs, if_neg hbad, M2, if_neg hk1, if_pos hk2]
   exact Le.refl _
  ·intro hk2
   refine zC ?_
   refine cr <| s_ XB <| s_ Qb <| zC ?_
   refine ci ?_ ?_
   ·intro hk3
    refine zC ?_
    refine cr <| s_ Qa <| s_ YP ?_
    refine QU (BG m hu hle hi0 hi1 (by simp) hw) (.refl _) (fun r H' ⟨hr, h3⟩ => ?_)
    subst hr
    refine zC ?_
    refine zC ?_
    refine zC ?_
    refine cr <| s_ Qa ?_
    refine QU (XY (by have := Ij hle; omega) h3) (.refl _) (fun r H' ⟨hr, hr2⟩ => ?_)
    subst hr hr2
    refine s_ QC <| s_ QC <| Qw ?_
    refine s_ Qb <| zC ?_
    refine zE ?_
    rw [Xs, if_neg hbad, M2, if_neg hk1, if_neg hk2, if_pos hk3]
    exact Le.refl _
   ·intro hk3
    refine zC ?_
    refine cr <| s_ XB <| s_ Qb <| zC ?_
    refine ci ?_ ?_
    ·intro hk4
     refine zC ?_
     refine cr <| s_ Qa <| s_ YP ?_
     refine QU (Rs m hu (by omega) (by omega) (hx0 _) (hx1 _) (hm0 _) (hm1 _) (by omega) (by omega) (by simp) hw) (.refl _) (fun r H' ⟨hr, h3⟩ => ?_)
     subst hr
     refine zC ?_
     refine zC ?_
     refine zC ?_
     refine cr <| s_ Qa ?_
     refine QU (XY (Yu _ (GH m hu)) h3) (.refl _) (fun r H' ⟨hr, hr2⟩ => ?_)
     subst hr hr2
     refine s_ QC <| s_ QC <| Qw ?_
     refine s_ Qb <| zC ?_
     refine zE ?_
     rw [Xs, if_neg hbad, M2, if_neg hk1, if_neg hk2, if_neg hk3, if_pos hk4]
     exact Le.refl _
    ·intro hk4
     refine zC ?_
     refine cr <| s_ XB <| s_ Qb <| zC ?_
     refine ci ?_ ?_
     ·intro hk5
      refine zC ?_
      refine cr <| s_ Qa <| s_ YP ?_
      refine QU (Iy m hu (by omega) (by omega) (by simp) hw) (.refl _) (fun r H' ⟨hr, h3⟩ => ?_)
      subst hr
      refine zC ?_
      refine zC ?_
      refine zC ?_
      refine cr <| s_ Qa ?_
      refine QU (XY (by have := EY (n := upN n m) (m := m) hu.log; omega) h3) (.refl _) (fun r H' ⟨hr, hr2⟩ => ?_)
      subst hr hr2
      refine s_ QC <| s_ QC <| Qw ?_
      refine s_ Qb <| zC ?_
      refine zE ?_
      rw [Xs, if_neg hbad, M2, if_neg hk1, if_neg hk2, if_neg hk3, if_neg hk4]
      exact Le.refl _
     ·intro hk5
      exfalso
      exact hb2 (by omega)
def Bs (e : En) : List Value := [.int .i64 e.term, .int .i64 e.conf, .string (bs e.cmd)]
theorem VV {a b : En} : Bs a = Bs b ↔ a = b := by
 constructor
 ·intro h
  simp only [Bs, List.cons.injEq, Value.int.injEq, Value.string.injEq, true_and, and_true] at h
  cases a; cases b
  simp only at h
  rw [h.1, h.2.1, Ib h.2.2]
 ·intro h; rw [h]
theorem RS (f f' : Bool) (l m : List En) (hl : l.length ≤ 1000000000) (hm : m.length ≤ 1000000000) : FnP Tryz.prog 160 [.sl f (l.map een), .sl f' (m.map een)] (fun r => r = .v (.bool (decide (l = m)))) := by
 refine fe Tryz.func160 fun S0 w0 => ?_
 show Sim _ _ [(0, T.sl f (l.map een)), (1, T.sl f' (m.map een))] _ _
 refine zC ?_
 refine cr <| s_ Qb <| zC ?_
 refine cr <| s_ Qa ?_
 (first | refine s_ QP ?_ | refine s_ QO ?_)
 refine s_ Qa ?_
 (first | refine s_ QP ?_ | refine s_ QO ?_)
 refine s_ XR <| zC ?_
 refine ci ?_ ?_
 ·intro hne
  refine zC ?_
  refine cr <| s_ Qb <| zC ?_
  refine zE ?_
  refine Le.of_eq ?_
  rw [show decide (l = m) = false from decide_eq_false (fun h => hne (by rw [h]))]
  rfl
 intro hne
 have hlen : l.length = m.length := by simp only [List.length_map] at hne; omega
 refine zC ?_
 refine cr <| s_ Qa ?_
 (first | refine s_ QP ?_ | refine s_ QO ?_)
 refine s_ Qa <| zC ?_
 apply Qo (σ := Nat) (ok := fun k => k ≤ l.length ∧ l.take k = m.take k) (env := fun k => [(13, ei (k : Nat)), (12, ei ((l.map een).length : Nat)), (0, T.sl f (l.map een)), (1, T.sl f' (m.map een))]) (heap := fun _ => []) (μ := fun k => l.length - k) (s0 := 0)
 ·exact ⟨Nat.zero_le _, by simp⟩
 ·exact eL
 ·exact kR
 rintro k ⟨hk, htk⟩
 refine zC ?_
 refine cr <| s_ QR <| zC ?_
 refine ci ?_ ?_
 ·intro hlt
  simp only [List.length_map] at hlt
  have hkl : k < l.length := by omega
  have hkm : k < m.length := by omega
  have hix := hkl
  have hix2 := hkm
  refine zC ?_
  refine cr <| s_ Qa <| s_ Qb <| zC ?_
  refine ca [0, 1, 2, 3, 4, 5, 6, 7, 8] [] <| a_ (fun _ => Qa) <| a_ (fun _ => Qa) ?_
  (first | refine a_ (fun _ => Xg hix) ?_ | refine a_ (fun _ => Xg hix2) ?_ | refine a_ (fun _ => YK) ?_ | refine a_ (fun _ => ZK) ?_)
  (first | refine a_ (fun _ => YP) ?_ | refine Yk ?_)
  refine a_ (fun _ => Qa) <| a_ (fun _ => Qa) ?_
  (first | refine a_ (fun _ => Xg hix) ?_ | refine a_ (fun _ => Xg hix2) ?_ | refine a_ (fun _ => YK) ?_ | refine a_ (fun _ => ZK) ?_)
  (first | refine a_ (fun _ => YP) ?_ | refine Yk ?_)
  refine a_ (fun _ => BR 2 [.int .i64, .int .i64, .str] Tryz.eqGuardType84) ?_
  apply an
  refine zC ?_
  refine ci ?_ ?_
  ·intro hd
   refine zC ?_
   refine cr <| s_ Qb <| zC ?_
   refine zE ?_
   refine Le.of_eq ?_
   rw [show decide (l = m) = false from decide_eq_false (fun h => hd (by subst h; rfl))]
   rfl
  ·intro hd
   have he : l[k] = m[k] := VV.1 (Classical.not_not.1 hd)
   refine zC ?_
   refine cr <| s_ Q0 <| s_ Qa <| zC ?_
   refine ⟨k + 1, ⟨by omega, ?_⟩, by show l.length - (k + 1) < l.length - k; omega, ⟨Qi (by rfl) (Le.refl _), eL⟩, kR⟩
   rw [List.take_succ_eq_append_getElem hkl, List.take_succ_eq_append_getElem hkm, htk, he]
 ·intro hlt
  simp only [List.length_map] at hlt
  have hkl : k = l.length := by omega
  have he : l = m := by
   have := htk
   rwa [hkl, List.take_length, hlen, List.take_length] at this
  refine zC ?_
  refine cr <| s_ Qb <| zC ?_
  refine zE ?_
  refine Le.of_eq ?_
  rw [show decide (l = m) = true from decide_eq_true he]
  rfl
def IZ (n : Nd) : List T := [ei n.id, ei n.term, ei n.vote, ei n.base, ei n.baseTerm, ei n.baseConf, ei n.commit, ei n.role, ei n.wait, ei n.votes] ++ (f5C n.next ++ f5C n.mtch)
theorem CR (n : Nd) : FnP Tryz.prog 159 [nd n] (fun r => r = .agg (IZ n)) := by
 refine fe Tryz.func159 fun S0 w0 => ?_
 show Sim _ _ [(0, T.agg (Qt n (.sl false (n.log.map een))))] _ _
 refine zC ?_
 apply cr
 refine XN fun b1 _ => ?_
 refine XX fun b2 _ => ?_
 refine zC ?_
 refine XV (List.Perm.swap _ _ _) ?_
 refine Zc 1 (by simp [Qt]) ?_
 refine zC ?_
 refine cr <| s_ Qr <| s_ Qn <| s_ Qr <| s_ Qn <| s_ Qr <| s_ Qn <| s_ Qr <| s_ Qn <| s_ Qr <| s_ Qn <| s_ Qr <| s_ Qn <| s_ Qr <| s_ Qn <| s_ Qr <| s_ Qn <| s_ Qr <| s_ Qn <| s_ Qr <| s_ Qn <| s_ Eg <| s_ YP <| s_ Eg <| s_ YP <| s_ (BZ 20) <| Qw ?_
 refine zC ?_
 refine zE ?_
 exact Le.refl _
theorem OJ (a b : Nd) : ((IZ a).map (fun x => match x with | .v y => y | _ => undef) = (IZ b).map (fun x => match x with | .v y => y | _ => undef) ∧ a.snap = b.snap) ∧ a.log = b.log ↔ a = b := by
 constructor
 ·rintro ⟨⟨h, h1⟩, h2⟩
  obtain ⟨_, _, _, _, _, _, _, _, _, _, _, _, ⟨_, _, _, _, _⟩, ⟨_, _, _, _, _⟩⟩ := a
  obtain ⟨_, _, _, _, _, _, _, _, _, _, _, _, ⟨_, _, _, _, _⟩, ⟨_, _, _, _, _⟩⟩ := b
  simp only [IZ, f5C, ei, List.map_cons, List.map_nil, List.cons_append, List.nil_append, List.cons.injEq, Value.int.injEq, true_and, and_true] at h
  simp only at h1 h2
  simp only [Nd.mk.injEq, F5.mk.injEq]
  simp_all
 ·rintro rfl; simp
theorem IC (a b : Nd) (ha : a.log.length ≤ 1000000000) (hb : b.log.length ≤ 1000000000) : FnP Tryz.prog 139 [nd a, nd b] (fun r => r = .v (.bool (decide (a = b)))) := by
 have h1 := CR a
 have h2 := CR b
 have he := RS false false a.log b.log ha hb
 refine fe Tryz.func139 fun S0 w0 => ?_
 show Sim _ _ [(0, T.agg (Qt a (.sl false (a.log.map een)))), (1, T.agg (Qt b (.sl false (b.log.map een))))] _ _
 refine zC ?_
 apply cr
 refine XN fun b2 _ => ?_
 refine XN fun b3 _ => ?_
 refine s_ Qb <| zC ?_
 refine Zc 3 (by simp [Qt]) ?_
 refine Zc 2 (by simp [Qt]) ?_
 refine zC ?_
 refine ca [0, 1, 2, 3, 4, 5, 6, 7, 8, 9, 10, 11, 12, 13, 14, 15, 16, 17, 18, 19] [] <| a_ (fun _ => YP) <| a_ (fun _ => QK (h1)) <| a_ (fun _ => YP) <| a_ (fun _ => QK (h2)) <| a_ (fun _ => CO 3 [.int .i64, .int .i64, .int .i64, .int .i64, .int .i64, .int .i64, .int .i64, .int .i64, .int .i64, .int .i64, .int .i64, .int .i64, .int .i64, .int .i64, .int .i64, .int .i64, .int .i64, .int .i64, .int .i64, .int .i64] Tryz.eqGuardType200) <| a_ (fun _ => Qa) <| Qz (fun _ hg => Qr) ?_
 refine Qz (fun _ hg => Qn (hx := u_ hg)) ?_
 refine Qz (fun _ hg => Qr) ?_
 refine Qz (fun _ hg => Qn (hx := u_ hg)) ?_
 refine Qz (fun _ hg => CN (hx := u_ hg) (hy := u_ hg)) ?_
 refine a_ (fun _ => XW) <| a_ (fun _ => Qa) <| Qz (fun _ hg => Qr) ?_
 refine Qz (fun _ hg => Qn (hx := u_ hg)) ?_
 refine Qz (fun _ hg => Qr) ?_
 refine Qz (fun _ hg => Qn (hx := u_ hg)) ?_
 refine Qz (fun _ hg => QK (he) (ha' := by apply QQ (u_ hg); apply QQ (u_ hg); exact XS)) ?_
 refine a_ (fun _ => XW) <| a_ (fun _ => Qb) ?_
 apply an
 refine zC ?_
 refine zE ?_
 refine Le.of_eq (congrArg (fun z => T.v (.bool z)) ?_)
 rw [decide_eq_decide]
 exact OJ a b
theorem WV (f : Bool) (l : List En) (hl : l.length ≤ 1000000000) : FnP Tryz.prog 72 [.sl f (l.map een)] (fun r => r = Zn l) :=
 FnH.give (Zf f l hl) (by rintro r H ⟨v, rfl, ho⟩; exact ho.lend fun _ h => h)
def Q2 (n : Nd) : Nd := { n with role := 0, wait := 0, votes := 0, next := .all 0, mtch := .all 0 }
theorem W2 (n : Nd) (hl : n.log.length ≤ 1000000000) : FnP Tryz.prog 68 [nd n] (fun r => r = nd (Q2 n)) := by
 have hc := WV false n.log hl
 refine fe Tryz.func68 fun S0 w0 => ?_
 show Sim _ _ [(0, T.agg (Qt n (.sl false (n.log.map een))))] _ _
 refine zC ?_
 apply cr
 refine XN fun b1 _ => ?_
 refine XX fun b2 _ => ?_
 refine zC ?_
 refine XV (List.Perm.swap _ _ _) ?_
 refine Zc 1 (by simp [Qt]) ?_
 refine zC ?_
 refine ca [0, 1, 2, 3, 4, 5, 6, 7, 8, 9, 10, 11, 12, 13, 14, 15, 16, 17, 18, 19, 20] [20] <| a_ (fun _ => Qr) <| a_ (fun _ => Qn) <| a_ (fun _ => Qr) <| a_ (fun _ => Qn) <| a_ (fun _ => Qr) <| a_ (fun _ => Qn) <| a_ (fun _ => Qr) <| a_ (fun _ => Qn) <| a_ (fun _ => Qr) <| a_ (fun _ => Qn) <| a_ (fun _ => Qr) <| a_ (fun _ => Qn) <| a_ (fun _ => Qr) <| a_ (fun _ => Qn) <| a_ (fun _ => Qr) <| a_ (fun _ => Qn) <| a_ (fun _ => QK (hc)) <| a_ (fun _ => Qr) <| a_ (fun _ => Qn) <| a_ (fun _ => BZ 22) <| XH ?_
 apply an
 refine zC ?_
 refine zE ?_
 exact Le.refl _
def Xa (n : Nd) (cmd : List UInt8) : Nd × Int × Int := if ¬ n.role = 2 then (n, 0, 21) else if cmd = [] then (n, 0, 1) else (Ga n ⟨0, 0, cmd⟩, n.base + (n.log.length + 1), 0)
theorem IE {n : Nd} (cmd : List UInt8) (hn : Bd n) (hl : n.log.length < 100000000) : FnP Tryz.prog 71 [nd n, es cmd] (fun r => r = .tup [nd (Xa n cmd).1, ei (Xa n cmd).2.1, ei (Xa n cmd).2.2]) := by
 have hW := W0 n (Yu n hn)
 refine fe Tryz.func71 fun S0 w0 => ?_
 show Sim _ _ [(0, T.agg (Qt n (.sl false (n.log.map een)))), (1, es cmd)] _ _
 refine zC ?_
 apply cr
 refine XN fun b2 _ => ?_
 refine XX fun b4 _ => ?_
 refine s_ Qb <| s_ Qb <| zC ?_
 refine XV (List.Perm.swap _ _ _) ?_
 refine Zc 2 (by simp [Qt]) ?_
 refine zC ?_
 refine cr <| s_ YP ?_
 refine QU (Hs := []) (Hr := [_]) hW (.refl _) (fun r H' ⟨b, hr, hw⟩ => ?_)
 subst hr
 have hw' := hw
 obtain ⟨vl, vo, Hl, Ho, h1, h2, rfl⟩ := hw
 obtain ⟨p, c, rfl⟩ := h1.len
 obtain ⟨q, d, rfl⟩ := h2.len
 refine s_ Qb <| zC ?_
 refine cr <| s_ Qa <| s_ Qf <| s_ Qd <| s_ Qd <| s_ Ql <| s_ XR <| s_ Qb <| zC ?_
 refine ci ?_ ?_
 ·intro hr
  refine zC ?_
  refine cr <| s_ Qa <| s_ Qf <| s_ Qd <| s_ Q7 ?_
  refine VJ (G := (b, _) :: (Hl ++ (Ho ++ []))) (H1 := [_]) 20 (nd n) (Qu.agg (QS n (h1.lend (by intro p hp; simp [hp])))) ?_ (.refl _)
  refine Qw ?_
  refine s_ Qb <| s_ Qb <| zC ?_
  refine zC ?_
  refine zE ?_
  rw [Xa, if_pos hr]
  exact Le.refl _
 intro hr
 refine zC ?_
 refine cr <| s_ Qa <| s_ CN <| s_ Qb <| zC ?_
 refine ci ?_ ?_
 ·intro hc
  refine zC ?_
  refine cr <| s_ Qa <| s_ Qf <| s_ Qd <| s_ Q7 ?_
  refine VJ (G := (b, _) :: (Hl ++ (Ho ++ []))) (H1 := [_]) 27 (nd n) (Qu.agg (QS n (h1.lend (by intro p hp; simp [hp])))) ?_ (.refl _)
  refine Qw ?_
  refine s_ Qb <| s_ Qb <| zC ?_
  refine zC ?_
  refine zE ?_
  rw [Xa, if_neg hr, if_pos hc]
  exact Le.refl _
 intro hc
 refine zC ?_
 refine cr <| s_ Qa <| s_ Qa <| s_ (Zv 3 [_, _, _]) ?_
 refine QU (FnH.of_le ?_ (C4 ⟨0, 0, cmd⟩ hn hl (by simp) (by simp) hw')) (.refl _) (fun r H' ⟨hr1, hr2⟩ => ?_)
 ·exact zM
 subst hr1 hr2
 refine s_ QC <| s_ QC <| s_ QC <| Qw ?_
 refine s_ Qb <| s_ Qb <| zC ?_
 refine zE ?_
 rw [Xa, if_neg hr, if_neg hc]
 exact Le.refl _
def pfx : List En → List En → Nat
 | x :: xs, y :: ys => if x = y then pfx xs ys + 1 else 0
 | _, _ => 0
def Qm (a b : Nd) : Nat := if a.base = b.base then pfx a.log b.log else 0
theorem Lo : ∀ (a b : List En), pfx a b ≤ a.length ∧ pfx a b ≤ b.length
 | [], b => by simp [pfx]
 | _ :: _, [] => by simp [pfx]
 | x :: xs, y :: ys => by
  have := Lo xs ys
  unfold pfx
  split
  ·simp only [List.length_cons]; omega
  ·simp
theorem O1 {a b : List En} {k : Nat} (h1 : k < a.length) (h2 : k < b.length) : pfx (a.drop k) (b.drop k) = if a[k] = b[k] then pfx (a.drop (k + 1)) (b.drop (k + 1)) + 1 else 0 := by
 rw [List.drop_eq_getElem_cons h1, List.drop_eq_getElem_cons h2, pfx]
theorem IW {a b : List En} {k : Nat} (h : ¬ (k < a.length ∧ k < b.length)) : pfx (a.drop k) (b.drop k) = 0 := by
 have := Lo (a.drop k) (b.drop k)
 simp only [List.length_drop] at this
 omega
theorem Ih (a b : Nd) (ha : a.log.length ≤ 1000000000) (hb : b.log.length ≤ 1000000000) : FnP Tryz.prog 142 [nd a, nd b] (fun r => r = ei (Qm a b)) := by
 refine fe Tryz.func142 fun S0 w0 => ?_
 show Sim _ _ [(0, T.agg (Qt a (.sl false (a.log.map een)))), (1, T.agg (Qt b (.sl false (b.log.map een))))] _ _
 refine zC ?_
 apply cr
 refine XN fun b2 _ => ?_
 refine XN fun b3 _ => ?_
 refine s_ Qb <| zC ?_
 refine cr <| s_ Qd <| s_ Ql <| s_ Qd <| s_ Ql <| s_ XR <| zC ?_
 refine ci ?_ ?_
 ·intro hne
  have hne' : ¬ a.base = b.base := hne
  refine zC ?_
  refine cr <| s_ Qb <| zC ?_
  refine zE ?_
  rw [Qm, if_neg hne']
  exact Le.refl _
 intro heq
 have heq' : a.base = b.base := Decidable.not_not.1 heq
 rw [Qm, if_pos heq']
 refine zC ?_
 refine cr <| s_ Qb <| zC ?_
 apply Qo (σ := Nat) (ok := fun k => k ≤ a.log.length ∧ pfx a.log b.log = k + pfx (a.log.drop k) (b.log.drop k)) (env := fun k => [(5, ei k), (2, pW b2), (3, pW b3)]) (heap := fun _ => [(b3, ⟨44, Qt b (.sl false (b.log.map een)), 22⟩), (b2, ⟨44, Qt a (.sl false (a.log.map een)), 22⟩)]) (μ := fun k => a.log.length - k) (s0 := 0)
 ·exact ⟨Nat.zero_le _, by simp⟩
 ·exact eL
 ·exact kR
 rintro k ⟨hk, hp⟩
 by_cases hin : k < a.log.length ∧ k < b.log.length
 ·have hix : k < a.log.length := hin.1
  have hix2 : k < b.log.length := hin.2
  have hnx := O1 hix hix2
  refine zC ?_
  refine ca [0, 1, 2, 3, 4, 5, 6, 7, 8, 9, 10, 11, 12, 13, 14, 15, 16, 17, 18, 19, 20, 21, 22, 23, 24] [] <| a_ (fun _ => Qa) <| a_ (fun _ => Qd) <| QF ?_
  (first | refine a_ (fun _ => QP) ?_ | refine a_ (fun _ => QO) ?_)
  refine a_ (fun _ => QR) <| a_ (fun _ => Qa) <| Qz (fun _ hg => Qa) ?_
  refine Qz (fun _ hg => Qd) ?_
  refine Zi ?_
  (first | refine Qz (fun _ hg => QP (hx := u_ hg)) ?_ | refine Qz (fun _ hg => QO (hx := u_ hg)) ?_)
  refine Qz (fun _ hg => QR (hx := u_ hg) (hy := u_ hg)) ?_
  refine a_ (fun _ => XW) <| a_ (fun _ => Qa) <| Qz (fun _ hg => Qd) ?_
  refine Zi ?_
  refine Qz (fun _ hg => Qa) ?_
  (first | refine Qz (fun _ hg => Xg hix (hx := u_ hg) (hy := u_ hg)) ?_ | refine Qz (fun _ hg => Xg hix2 (hx := u_ hg) (hy := u_ hg)) ?_ | refine Qz (fun _ hg => YK (hx := u_ hg) (hy := u_ hg)) ?_ | refine Qz (fun _ hg => ZK (hx := u_ hg) (hy := u_ hg)) ?_)
  (first | refine Qz (fun _ hg => YP (hx := u_ hg)) ?_ | refine EO ?_)
  refine Qz (fun _ hg => Qd) ?_
  refine Zi ?_
  refine Qz (fun _ hg => Qa) ?_
  (first | refine Qz (fun _ hg => Xg hix (hx := u_ hg) (hy := u_ hg)) ?_ | refine Qz (fun _ hg => Xg hix2 (hx := u_ hg) (hy := u_ hg)) ?_ | refine Qz (fun _ hg => YK (hx := u_ hg) (hy := u_ hg)) ?_ | refine Qz (fun _ hg => ZK (hx := u_ hg) (hy := u_ hg)) ?_)
  (first | refine Qz (fun _ hg => YP (hx := u_ hg)) ?_ | refine EO ?_)
  refine Qz (fun _ hg => CO 2 [.int .i64, .int .i64, .str] Tryz.eqGuardType84 (hx := u_ hg) (hy := u_ hg)) ?_
  refine a_ (fun _ => XW) ?_
  apply an
  refine zC ?_
  refine ci ?_ ?_
  ·intro hc
   have he : a.log[k] = b.log[k] := by
    exact VV.1 hc.2
   rw [if_pos he] at hnx
   refine zC ?_
   refine cr <| s_ Qa <| s_ Q0 <| s_ Qb <| zC ?_
   refine ⟨k + 1, ⟨by omega, by rw [hp, hnx]; omega⟩, (by simp only []; omega), ⟨?_, eL⟩, kR⟩
   apply Qi; (exact zG)
   exact Le.refl _
  ·intro hc
   have he : ¬ a.log[k] = b.log[k] := fun h => hc ⟨⟨by simp only [List.length_map]; omega, by simp only [List.length_map]; omega⟩, VV.2 h⟩
   rw [if_neg he] at hnx
   refine zC ?_
   refine cr <| s_ Qa <| s_ Qb <| zC ?_
   refine zE ?_
   rw [hp, hnx]
   exact Le.refl _
 ·have hno : ¬ ((k : Int) < ((a.log.map een).length : Nat) ∧ (k : Int) < ((b.log.map een).length : Nat)) := by
   simp only [List.length_map]; omega
  refine zC ?_
  refine ca [0, 1, 2, 3, 4, 5, 6, 7, 8, 9, 10, 11, 12, 13, 14, 15, 16, 17, 18, 19, 20, 21, 22, 23, 24] [] <| a_ (fun _ => Qa) <| a_ (fun _ => Qd) <| QF ?_
  (first | refine a_ (fun _ => QP) ?_ | refine a_ (fun _ => QO) ?_)
  refine a_ (fun _ => QR) <| a_ (fun _ => Qa) <| Qz (fun _ hg => Qa) ?_
  refine Qz (fun _ hg => Qd) ?_
  refine Zi ?_
  (first | refine Qz (fun _ hg => QP (hx := u_ hg)) ?_ | refine Qz (fun _ hg => QO (hx := u_ hg)) ?_)
  refine Qz (fun _ hg => QR (hx := u_ hg) (hy := u_ hg)) ?_
  refine a_ (fun _ => XW) <| a_ (fun _ => Qa) <| Qz (fun _ hg => Qd) ?_
  refine Zi ?_
  refine Qz (fun _ hg => Qa) ?_
  refine Qz (d := .any) (fun _ hg => absurd hg hno) ?_
  refine Qz (d := .any) (fun _ hg => absurd hg hno) ?_
  refine Qz (fun _ hg => Qd) ?_
  refine Zi ?_
  refine Qz (fun _ hg => Qa) ?_
  refine Qz (d := .any) (fun _ hg => absurd hg hno) ?_
  refine Qz (d := .any) (fun _ hg => absurd hg hno) ?_
  refine Qz (d := .v (.bool (decide False))) (fun _ hg => absurd hg hno) ?_
  refine a_ (fun _ => XW) ?_
  apply an
  refine zC ?_
  refine ci ?_ ?_
  ·intro hc; exact absurd hc.1 hno
  intro _
  refine zC ?_
  refine cr <| s_ Qa <| s_ Qb <| zC ?_
  refine zE ?_
  rw [hp, IW hin]
  exact Le.refl _
theorem Es (n : Nd) (hl : n.log.length ≤ 1000000000) : FnP Tryz.prog 44 [nd n] (fun r => r = nd n) := by
 have hc := WV false n.log hl
 refine fe Tryz.func44 fun S0 w0 => ?_
 show Sim _ _ [(0, T.agg (Qt n (.sl false (n.log.map een))))] _ _
 refine zC ?_
 apply cr
 refine XN fun b1 _ => ?_
 refine XX fun b2 _ => ?_
 refine zC ?_
 refine cr <| s_ Qd <| s_ Ql <| s_ (QK (hc)) <| s_ Qd <| Qw ?_
 refine zC ?_
 refine cr <| s_ Q7 <| Qw ?_
 refine zC ?_
 refine zE ?_
 exact Le.refl _
end Go.Proofs.YtjbokbikkcfjjaaGreat
namespace Go.Cap
section
variable {P : Program} {t : Env} {H : Qc} {dst : Option Tmp} {tp : TypeId} {pos : String} {aft : Array Edge} {g : Option (Nat × Bool)} {ty : TypeId} {x : Operand} {k : IntKind} {a : Int}
theorem IU (hx : t.ev x = .v (.int .u32 a)) : POp P t H ⟨dst, .unOp .xor ty x, tp, pos, aft, g⟩ (.v (.int .u32 (M0 .u32 4294967295 a))) :=
 POp.still fun S w a' _ _ hr => by
  have h1 := hr x (by simp [Op.operands]); rw [hx] at h1
  exact ⟨.int .u32 (M0 .u32 4294967295 a), by simp only [execOp]; rw [h1.v_eq]; rfl, .v _⟩
theorem BY (hx : t.ev x = .v (.int .u32 a) := by exact zl) : POp P t H ⟨dst, .unOp .xor ty x, tp, pos, aft, g⟩ (.v (.int .u32 (M0 .u32 4294967295 a))) := IU hx
end
end Go.Cap
namespace Go.Proofs.YtjbokbikkcfjjaaGreat
open Go.Cap
attribute [local irreducible] POp Qe AD EOp Sim FnH T.gp
def Cr (c : Int) : Int := M0 .u32 (VZ .u32 c 1) (IntKind.u32.wrap (3988292384 * V0 .u32 c 1))
def Bx : Nat → Int → Int
 | 0, c => c
 | k + 1, c => Cr (Bx k c)
def DM (c : Int) (x : UInt8) : Int := Bx 8 (M0 .u32 c (IntKind.u32.wrap (x.toNat : Int)))
def G4 (l : List UInt8) : Int := l.foldl DM 4294967295
def MT (l : List UInt8) : Int := M0 .u32 4294967295 (G4 l)
theorem G3 (l : List UInt8) {k : Nat} (hk : k < l.length) : G4 (l.take (k + 1)) = DM (G4 (l.take k)) l[k] := by
 unfold G4
 rw [List.take_succ_eq_append_getElem hk, List.foldl_append]
 rfl
theorem ET (a : Int) : 0 ≤ IntKind.u32.wrap a ∧ IntKind.u32.wrap a < 4294967296 := by
 simp [IntKind.wrap, IntKind.bits, IntKind.signed]
 omega
theorem JW (l : List UInt8) : 0 ≤ MT l ∧ MT l < 4294967296 := ET _
def tS : TypeId := 191
def CrH (b : Nat) (c : Int) : Qc := [(b, ⟨tS, [.v (.int .u32 c)], 1⟩)]
theorem Cs (b : Nat) (c : Int) (x : UInt8) : FnH Tryz.prog 153 [pW b, eb x] (CrH b c) (fun r H => r = .tup [] ∧ H = CrH b (DM c x)) := by
 refine fe Tryz.func153 fun S0 w0 => ?_
 show Sim _ _ [(0, pW b), (1, eb x)] (CrH b c) _
 unfold CrH
 refine zC ?_
 refine cr <| s_ Qa <| s_ Qf <| s_ Ql <| s_ Qa <| s_ Ya <| s_ CG <| s_ Qf <| Qw ?_
 refine zC ?_
 refine cr <| s_ Qa <| zC ?_
 apply Qo (σ := Nat) (ok := fun k => k ≤ 8) (env := fun k => [(11, ei k), (0, pW b)]) (heap := fun k => [(b, ⟨tS, [.v (.int .u32 (Bx k (M0 .u32 c (IntKind.u32.wrap (x.toNat : Int)))))], 1⟩)]) (μ := fun k => 8 - k) (s0 := 0)
 ·exact Nat.zero_le _
 ·exact eL
 ·exact kR
 intro k hk
 refine zC ?_
 refine cr <| s_ QR <| zC ?_
 refine ci ?_ ?_
 ·intro hlt
  refine zC ?_
  refine ca [0, 1, 2, 3, 4, 5, 6, 7, 8, 9, 10, 11, 12] [12] <| a_ (fun _ => Qa) <| a_ (fun _ => Qa) <| a_ (fun _ => Qf) <| QF ?_
  refine a_ (fun _ => Zt) <| a_ (fun _ => Qa) <| a_ (fun _ => Qf) <| QF ?_
  refine a_ (fun _ => JH) <| a_ (fun _ => BT) <| a_ (fun _ => CG) <| a_ (fun _ => Qf) <| XH ?_
  apply an
  refine zC ?_
  refine cr <| s_ Q0 <| s_ Qa <| zC ?_
  refine ⟨k + 1, by omega, (by simp only []; omega), ⟨?_, eL⟩, kR⟩
  apply Qi; (exact zG)
  exact Le.refl _
 ·intro hge
  have : k = 8 := by omega
  subst this
  refine zC ?_
  exact rhn kR ⟨rfl, rfl⟩ (Le.refl _)
theorem DL (f : Bool) (l : List UInt8) (hl : l.length ≤ 1000000000000) : FnP Tryz.prog 126 [.sl f (l.map eb)] (fun r => r = .v (.int .u32 (MT l))) := by
 refine fe Tryz.func126 fun S0 w0 => ?_
 show Sim _ _ [(0, T.sl f (l.map eb))] _ _
 refine zC ?_
 refine cr <| s_ Qb <| zC ?_
 apply cr
 refine XX fun b3 _ => ?_
 refine Qw ?_
 refine zC ?_
 refine cr <| s_ Uf <| s_ Qb <| zC ?_
 refine cr <| s_ Qa ?_
 (first | refine s_ QP ?_ | refine s_ QO ?_)
 refine s_ Qa <| zC ?_
 apply Qo (σ := Nat) (ok := fun k => k ≤ l.length) (env := fun k => [(10, ei k), (9, ei (l.length : Nat)), (8, .sl f (l.map eb)), (4, .clo 153 [pW b3] []), (3, pW b3)]) (heap := fun k => CrH b3 (G4 (l.take k))) (μ := fun k => l.length - k) (s0 := 0)
 ·exact Nat.zero_le _
 ·refine ⟨?_, ?_, eL⟩
  ·apply Qi; (exact zG)
   exact Le.refl _
  ·apply Qi; (exact zG)
   exact Le.of_eq (by simp [ei])
 ·exact kR
 intro k hk
 refine zC ?_
 refine cr <| s_ QR <| zC ?_
 refine ci ?_ ?_
 ·intro hlt
  have hlt' : k < l.length := by omega
  refine zC ?_
  apply cr
  (first | refine s_ (Xg hix) ?_ | refine s_ (Xg hix2) ?_ | refine s_ YK ?_ | refine s_ ZK ?_)
  (first | refine s_ Qn ?_ | refine s_ Ql ?_)
  refine s_ Qb <| zC ?_
  refine cr <| s_ Qa <| s_ Qa ?_
  refine JV (fs := [pW b3]) (args := [eb l[k]]) (cs := []) (Cs b3 (G4 (l.take k)) l[k]) (Hr := []) UT (fun r H' ⟨hr1, hr2⟩ => ?_)
  subst hr1 hr2
  refine zC ?_
  refine cr <| s_ Q0 <| s_ Qa <| zC ?_
  refine ⟨k + 1, by omega, (by simp only []; omega), ⟨?_, eL⟩, ?_⟩
  ·apply Qi; (exact zG)
   exact Le.refl _
  ·rw [List.append_nil, ← G3 _ hlt']; exact kR
 ·intro hge
  have hke : k = l.length := by omega
  subst hke
  rw [List.take_length]
  unfold CrH
  refine zC ?_
  refine cr <| s_ Ql <| s_ BY <| s_ Qb <| zC ?_
  refine zE ?_
  exact Le.refl _
def Ul (n : Int) : List UInt8 := [UInt8.ofNat (n.toNat % 256), UInt8.ofNat (n.toNat / 256 % 256), UInt8.ofNat (n.toNat / 65536 % 256), UInt8.ofNat (n.toNat / 16777216 % 256)]
theorem U7 (n : Nat) : IntKind.u8.wrap (n : Int) = ((UInt8.ofNat (n % 256)).toNat : Int) := by
 simp [IntKind.wrap, IntKind.bits, IntKind.signed]
theorem W7 (n : Nat) {j : Int} {k : Nat} (hj : 0 ≤ j) (hk : j ≤ 32) (h : 2 ^ j.toNat = k) : VZ .u32 (n : Int) j = ((n / k : Nat) : Int) := by
 unfold VZ
 rw [show min j.toNat IntKind.u32.bits = j.toNat by simp only [IntKind.bits]; omega, show (2 : Int) ^ j.toNat = ((k : Nat) : Int) by rw [← h]; push_cast; rfl, Int.fdiv_eq_ediv_of_nonneg _ (by omega)]
 push_cast
 rfl
theorem EE (n : Nat) : FnP Tryz.prog 175 [.v (.int .u32 n)] (fun r => r = .sl true ((Ul n).map eb)) := by
 refine fe Tryz.func175 fun S0 w0 => ?_
 show Sim _ _ [(0, .v (.int .u32 n))] _ _
 refine zC ?_
 refine cr <| s_ Qb <| zC ?_
 refine cr <| s_ Qa <| s_ Ya <| s_ Qa <| s_ Zt <| s_ Ya <| s_ Qa <| s_ Zt <| s_ Ya <| s_ Qa <| s_ Zt <| s_ Ya ?_
 rw [W7 n (j := 8) (k := 256) (by omega) (by omega) rfl, W7 n (j := 16) (k := 65536) (by omega) (by omega) rfl, W7 n (j := 24) (k := 16777216) (by omega) (by omega) rfl, U7 n, U7 (n / 256), U7 (n / 65536), U7 (n / 16777216)]
 refine s_ Z0 <| s_ Qb <| zC ?_
 refine zE ?_
 exact Le.refl _
def UB (l : List UInt8) : Int := bOr .u32 (bOr .u32 (bOr .u32 (l.getD 0 0).toNat (Zh .u32 (l.getD 1 0).toNat 8)) (Zh .u32 (l.getD 2 0).toNat 16)) (Zh .u32 (l.getD 3 0).toNat 24)
theorem C0 (x : UInt8) : IntKind.u32.wrap (x.toNat : Int) = (x.toNat : Int) := by
 have := x.toNat_lt
 simp [IntKind.wrap, IntKind.bits, IntKind.signed]
 omega
theorem Za (f : Bool) (l : List UInt8) (hl : 4 ≤ l.length) : FnP Tryz.prog 125 [.sl f (l.map eb)] (fun r => r = .v (.int .u32 (UB l))) := by
 obtain ⟨a, b, c, d, r, rfl⟩ : ∃ a b c d r, l = a :: b :: c :: d :: r := by
  match l, hl with
  | a :: b :: c :: d :: r, _ => exact ⟨a, b, c, d, r, rfl⟩
 refine fe Tryz.func125 fun S0 w0 => ?_
 show Sim _ _ [(0, .sl f ((a :: b :: c :: d :: r).map eb))] _ _
 refine zC ?_
 refine cr <| s_ Qb <| zC ?_
 refine zC ?_
 refine ca [0, 1, 2, 3, 4, 5, 6, 7, 8, 9, 10, 11, 12, 13, 14, 15, 16, 17, 18, 19, 20, 21, 22] [] <| a_ (fun _ => Qa) ?_
 (first | refine a_ (fun _ => Xg hix) ?_ | refine a_ (fun _ => Xg hix2) ?_ | refine a_ (fun _ => YK) ?_)
 refine a_ (fun _ => Qn) <| a_ (fun _ => Ya) <| a_ (fun _ => Qa) ?_
 (first | refine a_ (fun _ => Xg hix) ?_ | refine a_ (fun _ => Xg hix2) ?_ | refine a_ (fun _ => YK) ?_)
 refine a_ (fun _ => Qn) <| a_ (fun _ => Ya) <| a_ (fun _ => Ue) <| a_ (fun _ => UU) <| a_ (fun _ => Qa) ?_
 (first | refine a_ (fun _ => Xg hix) ?_ | refine a_ (fun _ => Xg hix2) ?_ | refine a_ (fun _ => YK) ?_)
 refine a_ (fun _ => Qn) <| a_ (fun _ => Ya) <| a_ (fun _ => Ue) <| a_ (fun _ => UU) <| a_ (fun _ => Qa) ?_
 (first | refine a_ (fun _ => Xg hix) ?_ | refine a_ (fun _ => Xg hix2) ?_ | refine a_ (fun _ => YK) ?_)
 refine a_ (fun _ => Qn) <| a_ (fun _ => Ya) <| a_ (fun _ => Ue) <| a_ (fun _ => UU) <| a_ (fun _ => Qb) ?_
 apply an
 refine zC ?_
 refine zE ?_
 exact Le.of_eq (by simp [XJ, UB, C0])
theorem J0 {a : Int} (h0 : 0 ≤ a) (h1 : a < 4294967296) : IntKind.u32.wrap a = a := by
 simp [IntKind.wrap, IntKind.bits, IntKind.signed]
 omega
theorem Bg {a x i k : Nat} (hi : i ≤ 31) (hk : 2 ^ i = k) (ha : a < k) (hx : a + k * x < 4294967296) : bOr .u32 (a : Int) (Zh .u32 (x : Int) (i : Int)) = ((a + k * x : Nat) : Int) := by
 have e2 : Zh .u32 (x : Int) (i : Int) = ((k * x : Nat) : Int) := by
  unfold Zh
  rw [show min ((i : Int)).toNat IntKind.u32.bits = i by simp only [IntKind.bits]; omega]
  have : (x : Int) * 2 ^ i = ((k * x : Nat) : Int) := by rw [← hk]; push_cast; rw [Int.mul_comm]
  rw [this, J0 (by omega) (by omega)]
 rw [e2]
 unfold bOr
 have e3 : (BitVec.ofInt IntKind.u32.bits (a : Int) ||| BitVec.ofInt IntKind.u32.bits ((k * x : Nat) : Int)).toNat = a + k * x := by
  rw [BitVec.toNat_or, BitVec.toNat_ofInt, BitVec.toNat_ofInt]
  show ((a : Int) % 4294967296).toNat ||| (((k * x : Nat) : Int) % 4294967296).toNat = _
  rw [show ((a : Int) % 4294967296).toNat = a by omega, show (((k * x : Nat) : Int) % 4294967296).toNat = k * x by omega, Nat.or_comm, ← hk, ← Nat.two_pow_add_eq_or_of_lt (by rw [hk]; exact ha) x]
  omega
 rw [e3]
 exact J0 (by omega) (by omega)
theorem El (a b c d : UInt8) (r : List UInt8) : UB (a :: b :: c :: d :: r) = ((a.toNat + 256 * b.toNat + 65536 * c.toNat + 16777216 * d.toNat : Nat) : Int) := by
 have ha := a.toNat_lt
 have hb := b.toNat_lt
 have hc := c.toNat_lt
 have hd := d.toNat_lt
 unfold UB
 show bOr .u32 (bOr .u32 (bOr .u32 (a.toNat : Int) (Zh .u32 (b.toNat : Int) ((8 : Nat) : Int))) (Zh .u32 (c.toNat : Int) ((16 : Nat) : Int))) (Zh .u32 (d.toNat : Int) ((24 : Nat) : Int)) = _
 rw [Bg (i := 8) (k := 256) (by omega) rfl (by omega) (by omega), Bg (i := 16) (k := 65536) (by omega) rfl (by omega) (by omega), Bg (i := 24) (k := 16777216) (by omega) rfl (by omega) (by omega)]
theorem Dm (l : List UInt8) (h : 4 ≤ l.length) : 0 ≤ UB l ∧ UB l < 4294967296 := by
 match l, h with
 | a :: b :: c :: d :: r, _ =>
  have ha := a.toNat_lt
  have hb := b.toNat_lt
  have hc := c.toNat_lt
  have hd := d.toNat_lt
  rw [El]
  omega
theorem Vx {n : Int} (h0 : 0 ≤ n) (h1 : n < 4294967296) (r : List UInt8) : UB (Ul n ++ r) = n := by
 obtain ⟨m, rfl⟩ := Int.eq_ofNat_of_zero_le h0
 show UB (UInt8.ofNat (m % 256) :: UInt8.ofNat (m / 256 % 256) :: UInt8.ofNat (m / 65536 % 256) :: UInt8.ofNat (m / 16777216 % 256) :: r) = _
 rw [El]
 simp only [UInt8.toNat_ofNat']
 omega
end Go.Proofs.YtjbokbikkcfjjaaGreat
