/-
  replica: a snapshot, laid by one that follows.
-/
import Derived.Test.YtjbokbikkcfjjaaGreatAap
set_option maxRecDepth 16000
set_option maxHeartbeats 8000000
set_option linter.all false
namespace Go.Proofs.YtjbokbikkcfjjaaGreat
open Go.Cap
attribute [local irreducible] POp Qf Bv EOp Sim FnH T.gp
def U9 (n : Nd) (m : Ms) : List En := if (m.index ≤ QY n ∧ n.base < m.index) ∧ Ya n m.index = m.logTerm then n.log.drop (m.index - n.base).toNat else []
def JY (n : Nd) (m : Ms) : Nd := { QZ n with log := U9 n m, base := m.index, baseTerm := m.logTerm, baseConf := m.conf, snap := m.snap, commit := m.index }
def JA (n : Nd) (m : Ms) : Nd × List Ms := if m.term < n.term then (n, [XT n m.frm (Y4 false 0)]) else
 if n.commit < m.index then (JY n m, [XT (JY n m) m.frm (Y4 true (max m.index n.commit))]) else (QZ n, [XT (QZ n) m.frm (Y4 true (max m.index n.commit))])
theorem Bb {H B : Qb} (h : Qh B []) : Qh (H ++ B) H := by
 induction H with
 | nil => exact h
 | cons p H ih => exact .keep _ _ _ _ _ (XX.refl _) ih
theorem RC {b : Nat} {n : Nd} {out : List Ms} {H : Qb} (m : Ms) (hn : Bd n) (hi0 : -50000000000 ≤ m.index) (hi1 : m.index ≤ 50000000000) (ho : out.length ≤ 900) (hw : WkH b n out H) :
  FnH Tryz.prog 137 [pW b, ms m] H (fun r H' => r = .tup [] ∧ WkH b (JA n m).1 (out ++ (JA n m).2) H') := by
 have hb0 := hn.base0
 have hb1 := hn.base1
 have hlog := hn.log
 have hL := Jq (QZ n) (by show n.log.length ≤ _; omega) (by show _ ≤ n.base; omega) (by show n.base ≤ _; omega)
 refine fe Tryz.func137 fun S0 w0 => ?_
 show Sim _ _ [(0, pW b), (1, T.agg (msC m (Y7 m.entries)))] _ _
 refine zC ?_
 apply cr
 refine XO fun b3 _ => ?_
 refine zC ?_
 refine Zf 3 (by simp [msC]) ?_
 refine zC ?_
 refine cr <| s_ Qa <| s_ Y6 ?_
 refine QN (Vt m (by omega) hw) (fun r H' ⟨hr, hw⟩ => ?_)
 subst hr
 refine s_ XY <| zC ?_
 refine ci ?_ ?_
 ·intro hc
  have hlt : m.term < n.term := Decidable.not_not.1 hc
  rw [if_pos hlt, if_pos hlt] at hw
  refine zR ?_
  refine rh kR ⟨rfl, ?_⟩ (Le.refl _)
  rw [JA, if_pos hlt]
  exact hw
 intro hc
 have hlt : ¬ m.term < n.term := fun h => hc (fun h' => h' h)
 rw [if_neg hlt, if_neg hlt] at hw
 have hw1 := hw
 obtain ⟨vl, vo, Hl, Ho, h1, h2, rfl⟩ := hw
 obtain ⟨p, c, rfl⟩ := h1.len
 obtain ⟨q, d, rfl⟩ := h2.len
 have hqb : (QZ n).base = n.base := rfl
 have hcap : (n.log.map een).length ≤ c := OSl.cap h1
 refine zC ?_
 refine cr <| s_ Qa <| s_ Qe <| s_ Qd <| s_ Qd <| s_ Qn <| s_ Qc <| zC ?_
 refine ca [0, 1, 2, 3, 4, 5, 6, 7] [] <| a_ (fun _ => Qs) <| a_ (fun _ => Qm) <| a_ (fun _ => Qa) <| a_ (fun _ => Qe) <| a_ (fun _ => Qd) <| a_ (fun _ => Qd) <| QF ?_
 refine a_ (fun _ => XZ) ?_
 apply an
 refine zC ?_
 refine ci ?_ ?_
 ·intro hgt
  refine zC ?_
  refine cr <| s_ Qa <| s_ Qe <| s_ Qd <| s_ Xp <| s_ (Vd hL (Qg.cons (Qz.agg (Q6 (QZ n) (h1.lend (by intro p hp; simp [hp])))) Qg.nil)) ?_
  have hT := UT (QZ n) m.index (by show n.log.length ≤ _; omega) (by simp only [big]; show _ ≤ n.base; omega) (by simp only [big]; show n.base ≤ _; omega) (by simp only [big]; omega) (by simp only [big]; omega)
  refine s_ Qa <| s_ QH <| s_ QH <| s_ Qc <| s_ Qc <| zC ?_
  refine cr <| s_ Qc <| zC ?_
  refine ca [0, 1, 2, 3, 4, 5, 6, 7, 8, 9, 10, 11, 12, 13, 14, 15, 16, 17, 18, 19, 20, 21, 22, 23, 24] [] <| a_ (fun _ => Qs) <| a_ (fun _ => Qm) <| a_ (fun _ => Qa) <| a_ (fun _ => Of) <| a_ (fun _ => Qa) <| Qy (fun _ hg => Qs) ?_
  refine Qy (fun _ hg => Qm (hx := u_ hg)) ?_
  refine Qy (fun _ hg => Qa) ?_
  refine Qy (fun _ hg => Qe (hx := u_ hg)) ?_
  refine Qy (fun _ hg => Qd (hx := u_ hg)) ?_
  refine Qy (fun _ hg => Qd (hx := u_ hg)) ?_
  refine Y2 ?_
  refine Qy (fun _ hg => XZ (hx := u_ hg) (hy := u_ hg)) ?_
  refine a_ (fun _ => Xz) <| a_ (fun _ => Qa) <| Qy (fun _ hg => Qa) ?_
  refine Qy (fun _ hg => Qe (hx := u_ hg)) ?_
  refine Qy (fun _ hg => Qd (hx := u_ hg)) ?_
  refine Qy (fun _ hg => Qs) ?_
  refine Qy (fun _ hg => Qm (hx := u_ hg)) ?_
  refine CD (G := (b, _) :: (Hl ++ (Ho ++ []))) (fun _ => hT) (fun _ => Qg.cons (W4 (n := QZ n) h1 (by intro p hp; simp [hp]) List.mem_cons_self) (Qg.cons (Qz.le (Le.refl _)) Qg.nil)) ⟨[], UF⟩ ?_ (fun hg => by refine Qp (u_ hg) (Qp (u_ hg) Xj))
  refine Qy (fun _ hg => Qs) ?_
  refine Qy (fun _ hg => Qm (hx := u_ hg)) ?_
  refine Qy (fun _ hg => Xy (hx := u_ hg) (hy := u_ hg)) ?_
  refine a_ (fun _ => Xz) ?_
  apply an
  refine zC ?_
  refine ci ?_ ?_
  ·intro hr
   have hr' : (m.index ≤ QY n ∧ n.base < m.index) ∧ Ya n m.index = m.logTerm := hr
   have hrest : U9 n m = n.log.drop (m.index - n.base).toNat := by rw [U9, if_pos hr']
   have hlf : QY n = n.base + n.log.length := rfl
   obtain ⟨lo, hlo⟩ : ∃ lo : Nat, (lo : Int) = m.index - n.base := ⟨(m.index - n.base).toNat, by omega⟩
   have hlol : lo ≤ n.log.length := by omega
   have hs5 := (h1.sle (G := (b, ⟨tW, wkC (QZ n) (.slice p (n.log.map een).length c) (.slice q (out.map ms).length d), 23⟩) :: (Hl ++ (Ho ++ []))) (by intro p hp; simp [hp]))
   have hs5' := SlE.sub hs5 (lo := lo) (hi := n.log.length) hlol (Nat.le_refl _)
   rw [List.take_of_length_le (by simp [QZ])] at hs5'
   obtain ⟨p5, c5, e5, hc5, hl5⟩ := hs5'
   refine zC ?_
   refine ca [0, 1, 2, 3, 4, 5, 6, 7, 8, 9, 10, 11, 12, 13, 14] [] <| a_ (fun _ => Qa) <| a_ (fun _ => Qe) <| a_ (fun _ => Qd) <| a_ (fun _ => Qd) <| QF ?_
   refine a_ (fun _ => Qs) <| a_ (fun _ => Qm) <| a_ (fun _ => Qa) <| a_ (fun _ => Qe) <| a_ (fun _ => Qd) <| a_ (fun _ => Qd) <| QF ?_
   refine a_ (fun _ => ZP) ?_
   rw [hqb, ← hlo]
   refine a_ (fun _ => Oc (v := .slice p5 (n.log.drop lo).length c5) hcap (by rw [List.length_map, Int.toNat_natCast]; exact e5)) <| a_ (fun _ => Qc) ?_
   apply an
   refine zC ?_
   have hrl : U9 n m = n.log.drop lo := by rw [hrest, ← hlo, Int.toNat_natCast]
   refine zC ?_
   refine cr <| s_ Qa <| s_ Qa ?_
   refine O9 (YY false (n.log.drop lo) (by first | (simp; done) | (simp; omega))) (Qg.cons ((e5 ▸ hl5)) Qg.nil) OE.of ?_
   rintro r H1 ⟨v, rfl, ho⟩
   obtain ⟨p8, c8, rfl⟩ := ho.len
   refine QJ (List.perm_middle) ?_
   refine s_ Qe <| s_ Qd <| s_ Qd <| QC ?_
   refine zC ?_
   refine ca [0, 1, 2, 3, 4, 5, 6, 7, 8, 9, 10, 11, 12, 13, 14, 15, 16, 17, 18, 19, 20, 21, 22, 23, 24, 25, 26, 27, 28, 29, 30, 31, 32, 33, 34] [18, 22, 26, 30, 34] <| a_ (fun _ => Qa) <| a_ (fun _ => Qa) <| a_ (fun _ => Qa) <| a_ (fun _ => Qa) <| a_ (fun _ => Qa) <| a_ (fun _ => Qs) <| a_ (fun _ => Qm) <| a_ (fun _ => Qs) <| a_ (fun _ => Qm) <| a_ (fun _ => Qs) <| a_ (fun _ => Qm) <| a_ (fun _ => Qs) <| a_ (fun _ => Qm) <| a_ (fun _ => Qs) <| a_ (fun _ => Qm) <| a_ (fun _ => Qe) <| a_ (fun _ => Qd) <| a_ (fun _ => Qd) <| XJ ?_
   refine a_ (fun _ => Qe) <| a_ (fun _ => Qd) <| a_ (fun _ => Qd) <| XJ ?_
   refine a_ (fun _ => Qe) <| a_ (fun _ => Qd) <| a_ (fun _ => Qd) <| XJ ?_
   refine a_ (fun _ => Qe) <| a_ (fun _ => Qd) <| a_ (fun _ => Qd) <| XJ ?_
   refine a_ (fun _ => Qe) <| a_ (fun _ => Qd) <| a_ (fun _ => Qd) <| XJ ?_
   apply an
   refine zC ?_
   refine cr <| s_ Qa <| s_ Qs <| s_ Qm <| s_ Qs <| s_ Qm <| s_ Qa <| s_ LX ?_
   refine Q1 (Hs := (b, _) :: (H1 ++ (Ho ++ []))) (Hr := Hl) (FnH.of_le ?_ (Y3 m.frm true (max m.index n.commit) (by omega) (show WkH b (JY n m) out ((b, ⟨tW, wkC (JY n m) (.slice p8 _ c8) (.slice q (out.map ms).length d), 23⟩) :: (H1 ++ (Ho ++ []))) from ⟨_, _, H1, Ho, (by rw [show (JY n m).log = n.log.drop lo from hrl]; exact ho), h2, rfl⟩))) ?_ (fun r H' ⟨hr, h3⟩ => ?_)
   ·exact zM
   ·refine .cons _ ?_
    show List.Perm _ ((H1 ++ (Ho ++ [])) ++ Hl)
    rw [List.append_assoc]
    refine .append_left _ ?_
    exact List.perm_append_comm
   ·subst hr
    refine zC ?_
    refine rhn (H' := H') (Bb kN) ⟨rfl, ?_⟩ (Le.refl _)
    have hgt' : n.commit < m.index := hgt
    rw [JA, if_neg hlt, if_pos hgt']
    exact h3
  ·intro hr
   have hr' : ¬ ((m.index ≤ QY n ∧ n.base < m.index) ∧ Ya n m.index = m.logTerm) := hr
   have hrl : U9 n m = [] := by rw [U9, if_neg hr']
   refine zC ?_
   refine cr <| s_ Qa <| s_ Qa ?_
   refine O9 (YY false [] (by first | (simp; done) | (simp; omega))) (Qg.cons (Qz.le (Le.nil _)) Qg.nil) OE.of ?_
   rintro r H1 ⟨v, rfl, ho⟩
   obtain ⟨p8, c8, rfl⟩ := ho.len
   refine QJ (List.perm_middle) ?_
   refine s_ Qe <| s_ Qd <| s_ Qd <| QC ?_
   refine zC ?_
   refine ca [0, 1, 2, 3, 4, 5, 6, 7, 8, 9, 10, 11, 12, 13, 14, 15, 16, 17, 18, 19, 20, 21, 22, 23, 24, 25, 26, 27, 28, 29, 30, 31, 32, 33, 34] [18, 22, 26, 30, 34] <| a_ (fun _ => Qa) <| a_ (fun _ => Qa) <| a_ (fun _ => Qa) <| a_ (fun _ => Qa) <| a_ (fun _ => Qa) <| a_ (fun _ => Qs) <| a_ (fun _ => Qm) <| a_ (fun _ => Qs) <| a_ (fun _ => Qm) <| a_ (fun _ => Qs) <| a_ (fun _ => Qm) <| a_ (fun _ => Qs) <| a_ (fun _ => Qm) <| a_ (fun _ => Qs) <| a_ (fun _ => Qm) <| a_ (fun _ => Qe) <| a_ (fun _ => Qd) <| a_ (fun _ => Qd) <| XJ ?_
   refine a_ (fun _ => Qe) <| a_ (fun _ => Qd) <| a_ (fun _ => Qd) <| XJ ?_
   refine a_ (fun _ => Qe) <| a_ (fun _ => Qd) <| a_ (fun _ => Qd) <| XJ ?_
   refine a_ (fun _ => Qe) <| a_ (fun _ => Qd) <| a_ (fun _ => Qd) <| XJ ?_
   refine a_ (fun _ => Qe) <| a_ (fun _ => Qd) <| a_ (fun _ => Qd) <| XJ ?_
   apply an
   refine zC ?_
   refine cr <| s_ Qa <| s_ Qs <| s_ Qm <| s_ Qs <| s_ Qm <| s_ Qa <| s_ LX ?_
   refine Q1 (Hs := (b, _) :: (H1 ++ (Ho ++ []))) (Hr := Hl) (FnH.of_le ?_ (Y3 m.frm true (max m.index n.commit) (by omega) (show WkH b (JY n m) out ((b, ⟨tW, wkC (JY n m) (.slice p8 _ c8) (.slice q (out.map ms).length d), 23⟩) :: (H1 ++ (Ho ++ []))) from ⟨_, _, H1, Ho, (by rw [show (JY n m).log = [] from hrl]; exact ho), h2, rfl⟩))) ?_ (fun r H' ⟨hr, h3⟩ => ?_)
   ·exact zM
   ·refine .cons _ ?_
    show List.Perm _ ((H1 ++ (Ho ++ [])) ++ Hl)
    rw [List.append_assoc]
    refine .append_left _ ?_
    exact List.perm_append_comm
   ·subst hr
    refine zC ?_
    refine rhn (H' := H') (Bb kN) ⟨rfl, ?_⟩ (Le.refl _)
    have hgt' : n.commit < m.index := hgt
    rw [JA, if_neg hlt, if_pos hgt']
    exact h3
 ·intro hgt
  refine zC ?_
  refine cr <| s_ Qa <| s_ Qs <| s_ Qm <| s_ Qs <| s_ Qm <| s_ Qa <| s_ LX ?_
  refine QN (FnH.of_le ?_ (Y3 m.frm true (max m.index n.commit) (by omega) hw1)) (fun r H' ⟨hr, h3⟩ => ?_)
  ·exact zM
  ·subst hr
   refine zC ?_
   refine rhn kR ⟨rfl, ?_⟩ (Le.refl _)
   have hgt' : ¬ n.commit < m.index := hgt
   rw [JA, if_neg hlt, if_neg hgt']
   exact h3
def Xt (n : Nd) : Nd × List Ms := if n.role = 2 then (n, X0 n (Z2 n) 5) else if ¬ isF (QK n).2 n.id = true then (n, []) else
 if 5 + 3 * n.id ≤ n.wait + 1 ∧ n.term < 1073741824 then Yv { n with wait := n.wait + 1 } else ({ n with wait := n.wait + 1 }, [])
theorem Yx (n : Nd) (h : Bd n) : n.log.length ≤ 1000000000 := by have := h.log; omega
theorem DR {n : Nd} (hn : Bd n) (hl : n.log.length < 100000000) : Bd (Xr n) := (hn.lead hl).commit
theorem GK {n : Nd} (hn : Bd n) (hl : n.log.length < 100000000) : Bd (Yv n).1 := by
 unfold Yv
 split
 ·exact DR hn.stand hl
 ·exact hn.stand
theorem tick_fn {n : Nd} (hn : Bd n) (hl : n.log.length < 100000000) (ht0 : 0 ≤ n.term) (ht1 : n.term ≤ 1000000000000) (hw0 : 0 ≤ n.wait) (hw1 : n.wait ≤ 1000000000) (hx : ∀ i, n.next.get i ≤ 100000000000) :
  FnP Tryz.prog 76 [nd n] (fun r => r = .tup [nd (Xt n).1, mss (Xt n).2]) := by
 have hC := U1 n (Yx n hn) (by have := hn.base0; omega) (by have := hn.base1; omega)
 have hI := OG (QK n).2 n.id hn.id0 hn.id5 hn.conf0 hn.conf1
 have hW := Du n (Yx n hn)
 have hi0 := hn.id0
 have hi5 := hn.id5
 refine fe Tryz.func76 fun S0 w0 => ?_
 show Sim _ _ [(0, T.agg (Qv n (.sl false (n.log.map een))))] _ _
 refine zC ?_
 apply cr
 refine XO fun b1 _ => ?_
 refine Yt fun b2 _ => ?_
 refine s_ Qc <| zC ?_
 refine X2 (List.Perm.swap _ _ _) ?_
 refine Zf 1 (by simp [Qv]) ?_
 refine zC ?_
 refine cr <| s_ Y6 ?_
 refine Q1 (Hs := []) (Hr := [_]) hW (.refl _) (fun r H' ⟨b, hr, hw⟩ => ?_)
 subst hr
 have hw' := hw
 obtain ⟨vl, vo, Hl, Ho, h1, h2, rfl⟩ := hw
 obtain ⟨p, c, rfl⟩ := h1.len
 obtain ⟨q, d, rfl⟩ := h2.len
 refine s_ Qc <| zC ?_
 refine cr <| s_ Qa <| s_ Qe <| s_ Qd <| s_ Qd <| s_ Qn <| s_ Xy <| zC ?_
 refine ci ?_ ?_
 ·intro hr
  refine zC ?_
  refine cr <| s_ Qa <| s_ Qa <| s_ J8 ?_
  refine Q1 (DL hn hx (by simp) hw') (.refl _) (fun r H' ⟨hr, h3⟩ => ?_)
  subst hr
  refine zC ?_
  refine cr <| s_ Qa ?_
  refine Q1 (X6 (Yx n hn) h3) (.refl _) (fun r H' ⟨hr, hr2⟩ => ?_)
  subst hr hr2
  refine s_ QH <| s_ QH <| QC ?_
  refine s_ Qc <| zC ?_
  refine zE ?_
  rw [Xt, if_pos hr]
  exact Le.refl _
 ·intro hr
  refine zC ?_
  refine ca [0, 1, 2, 3, 4, 5] [] <| a_ (fun _ => Y6) <| a_ (fun _ => QM (hC)) <| a_ (fun _ => Qs) <| a_ (fun _ => Qm) <| a_ (fun _ => QM (hI)) <| a_ (fun _ => XY) ?_
  apply an
  refine zC ?_
  refine ci ?_ ?_
  ·intro hm
   refine zC ?_
   refine cr <| s_ Qa ?_
   refine Q1 (X6 (Yx n hn) hw') (.refl _) (fun r H' ⟨hr, hr2⟩ => ?_)
   subst hr hr2
   refine s_ QH <| s_ QH <| QC ?_
   refine s_ Qc <| zC ?_
   refine zE ?_
   rw [Xt, if_neg hr, if_pos hm]
   exact Le.refl _
  ·intro hm
   have hn1 : Bd { n with wait := n.wait + 1 } := hn.of
   refine zC ?_
   refine cr <| s_ Qa <| s_ Qe <| s_ Qd <| s_ Qd <| s_ Qn <| s_ Q5 <| s_ Qe <| s_ Qd <| s_ Qd <| QC ?_
   refine zC ?_
   refine ca [0, 1, 2, 3, 4, 5, 6, 7, 8, 9, 10, 11, 12, 13, 14, 15, 16, 17, 18, 19, 20] [] <| a_ (fun _ => Qa) <| a_ (fun _ => Qe) <| a_ (fun _ => Qd) <| a_ (fun _ => Qd) <| QF ?_
   refine a_ (fun _ => Qa) <| a_ (fun _ => Qe) <| a_ (fun _ => Qd) <| a_ (fun _ => Qd) <| QF ?_
   refine a_ (fun _ => Cd) <| a_ (fun _ => Q5) <| a_ (fun _ => Vc) <| a_ (fun _ => Qa) <| Qy (fun _ hg => Qa) ?_
   refine Qy (fun _ hg => Qe (hx := u_ hg)) ?_
   refine Qy (fun _ hg => Qd (hx := u_ hg)) ?_
   refine Qy (fun _ hg => Qd (hx := u_ hg)) ?_
   refine Y2 ?_
   refine Qy (fun _ hg => QX (hx := u_ hg)) ?_
   refine a_ (fun _ => Xz) ?_
   apply an
   refine zC ?_
   refine ci ?_ ?_
   ·intro hs
    refine zC ?_
    refine cr <| s_ Qa ?_
    refine Q1 (GJ hn1 hl ht0 (by simp only; omega) (by simp) (show WkH b { n with wait := n.wait + 1 } [] _ from ⟨_, _, Hl, Ho, h1, h2, rfl⟩)) (.refl _) (fun r H' ⟨hr, h3⟩ => ?_)
    subst hr
    refine zC ?_
    refine cr <| s_ Qa ?_
    refine Q1 (X6 (Yx _ (GK hn1 hl)) h3) (.refl _) (fun r H' ⟨hr, hr2⟩ => ?_)
    subst hr hr2
    refine s_ QH <| s_ QH <| QC ?_
    refine s_ Qc <| zC ?_
    refine zE ?_
    have hs' : 5 + 3 * n.id ≤ n.wait + 1 ∧ n.term < 1073741824 := hs
    rw [Xt, if_neg hr, if_neg hm, if_pos hs']
    exact Le.refl _
   ·intro hs
    refine zC ?_
    refine cr <| s_ Qa ?_
    refine Q1 (X6 (Yx _ hn1) (show WkH b { n with wait := n.wait + 1 } [] _ from ⟨_, _, Hl, Ho, h1, h2, rfl⟩)) (.refl _) (fun r H' ⟨hr, hr2⟩ => ?_)
    subst hr hr2
    refine s_ QH <| s_ QH <| QC ?_
    refine s_ Qc <| zC ?_
    refine zE ?_
    have hs' : ¬ (5 + 3 * n.id ≤ n.wait + 1 ∧ n.term < 1073741824) := hs
    rw [Xt, if_neg hr, if_neg hm, if_neg hs']
    exact Le.refl _
def Dn (n : Nd) (m : Ms) : Prop := (((m.frm < 0 ∨ 5 ≤ m.frm) ∨ m.frm = n.id) ∨ ¬ m.to = n.id) ∨ (((m.kind < 1 ∨ 5 < m.kind) ∨ m.term < 0) ∨ 1073741824 < m.term)
instance (n : Nd) (m : Ms) : Decidable (Dn n m) := by unfold Dn; infer_instance
def upN (n : Nd) (m : Ms) : Nd := if n.term < m.term then { n with term := m.term, vote := -1, role := 0, votes := 0 } else n
def ME (n : Nd) (m : Ms) : Nd × List Ms := if m.kind = 1 then (YR n m, [XT (YR n m) m.frm (WG (MH n m))]) else if m.kind = 2 then Yu n m else if m.kind = 3 then Uw n m else
 if m.kind = 4 then Yd n m else JA n m
def Xq (n : Nd) (m : Ms) : Nd × List Ms := if Dn n m then (n, []) else ME (upN n m) m
def CI : Nd := ⟨0, 0, 0, 0, 0, 0, [], [], 0, 0, 0, 0, .all 0, .all 0⟩
structure MBd (n : Nd) (m : Ms) : Prop where
 i0 : -50000000000 ≤ m.index
 i1 : m.index ≤ 50000000000
 es : n.log.length + m.entries.length ≤ 100000000
structure NBd (n : Nd) : Prop where
 log : n.log.length < 100000000
 v0 : 0 ≤ n.votes
 v1 : n.votes ≤ 31
 x0 : ∀ i, -100000000000 ≤ n.next.get i
 x1 : ∀ i, n.next.get i ≤ 50000000000
 m0 : ∀ i, -100000000000 ≤ n.mtch.get i
 m1 : ∀ i, n.mtch.get i ≤ 50000000000
theorem WH (n : Nd) (m : Ms) : ∃ t v r w, upN n m = { n with term := t, vote := v, role := r, votes := w } ∧ (w = 0 ∨ w = n.votes) := by
 unfold upN
 split
 ·exact ⟨_, _, _, _, rfl, .inl rfl⟩
 ·exact ⟨_, _, _, _, rfl, .inr rfl⟩
theorem Bd.up {n : Nd} (m : Ms) (h : Bd n) : Bd (upN n m) := by
 obtain ⟨_, _, _, _, e, _⟩ := WH n m
 rw [e]; exact h.of
theorem NBd.up {n : Nd} (m : Ms) (h : NBd n) : NBd (upN n m) := by
 obtain ⟨_, _, _, _, e, hw⟩ := WH n m
 have h0 := h.v0
 have h1 := h.v1
 rw [e]; exact ⟨h.log, by simp only; omega, by simp only; omega, h.x0, h.x1, h.m0, h.m1⟩
theorem MBd.up {n : Nd} {m : Ms} (h : MBd n m) : MBd (upN n m) m := by
 obtain ⟨_, _, _, _, e, hw⟩ := WH n m
 rw [e]; exact ⟨h.i0, h.i1, h.es⟩
theorem Eg {n : Nd} (m : Ms) (hn : Bd n) (hl : n.log.length < 100000000) : Bd (Yu n m).1 := by
 unfold Yu
 split
 ·exact hn
 ·split
  ·exact DR hn.of hl
  ·exact hn.of
theorem GE {n : Nd} (m : Ms) (hn : Bd n) : Bd (YR n m) := by
 unfold YR
 split
 ·exact hn.of
 ·exact hn
theorem EZ {n : Nd} (m : Ms) (hn : Bd n) : Bd (Yd n m).1 := by
 unfold Yd
 split
 ·exact hn
 ·split
  ·exact (hn.of (n' := JS n m)).commit
  ·split <;> exact hn.of
theorem Rq {n : Nd} {m : Ms} (hl : n.log.length + m.entries.length ≤ 100000000) : (Uw n m).1.log.length ≤ 100000000 := by
 unfold Uw
 split
 ·simp only; omega
 ·split
  ·simp only [QZ]; omega
  ·split
   ·simp only [QZ]; omega
   ·have := Vm n m m.entries.length
    simp only [Rp]; omega
theorem Eo {n : Nd} {m : Ms} (hl : n.log.length ≤ 100000000) : (JA n m).1.log.length ≤ 100000000 := by
 unfold JA
 split
 ·exact hl
 ·split
  ·simp only [JY, U9]
   split
   ·simp; omega
   ·simp
  ·exact hl
theorem take_fn {n : Nd} {m : Ms} (hn : Bd n) (hN : NBd n) (hM : Dn n m ∨ MBd n m) : FnP Tryz.prog 100 [nd n, ms m] (fun r => r = .tup [nd (Xq n m).1, mss (Xq n m).2]) := by
 have hW := Du n (Yx n hn)
 refine fe Tryz.func100 fun S0 w0 => ?_
 show Sim _ _ [(0, T.agg (Qv n (.sl false (n.log.map een)))), (1, T.agg (msC m (Y7 m.entries)))] _ _
 refine zC ?_
 apply cr
 refine XO fun b2 _ => ?_
 refine XO fun b3 _ => ?_
 refine Yt fun b4 _ => ?_
 refine s_ Qc <| zC ?_
 refine X2 (List.perm_append_comm (l₁ := [_])) ?_
 refine Zf 3 (by simp [msC]) ?_
 refine Zf 2 (by simp [Qv]) ?_
 refine zC ?_
 refine cr <| s_ Y6 ?_
 refine Q1 (Hs := []) (Hr := [_]) hW (.refl _) (fun r H' ⟨b, hr, hw⟩ => ?_)
 subst hr
 have hw' := hw
 obtain ⟨vl, vo, Hl, Ho, h1, h2, rfl⟩ := hw
 obtain ⟨p, c, rfl⟩ := h1.len
 obtain ⟨q, d, rfl⟩ := h2.len
 refine s_ Qc <| zC ?_
 refine ca [0, 1, 2, 3, 4, 5, 6, 7, 8, 9, 10, 11, 12, 13, 14, 15, 16, 17, 18, 19, 20, 21, 22, 23, 24, 25, 26, 27, 28] [] <| a_ (fun _ => Qs) <| a_ (fun _ => Qm) <| a_ (fun _ => QX) <| a_ (fun _ => Qa) <| Xw (fun _ hg => Qs) ?_
 refine Xw (fun _ hg => Qm (hx := u_ hg)) ?_
 refine Xw (fun _ hg => Vc (hx := u_ hg)) ?_
 refine a_ (fun _ => Yc) <| a_ (fun _ => Qa) <| Xw (fun _ hg => Qs) ?_
 refine Xw (fun _ hg => Qm (hx := u_ hg)) ?_
 refine Xw (fun _ hg => Qa) ?_
 refine Xw (fun _ hg => Qe (hx := u_ hg)) ?_
 refine Xw (fun _ hg => Qd (hx := u_ hg)) ?_
 refine Xw (fun _ hg => Qd (hx := u_ hg)) ?_
 refine Ls ?_
 refine Xw (fun _ hg => Xy (hx := u_ hg) (hy := u_ hg)) ?_
 refine a_ (fun _ => Yc) <| a_ (fun _ => Qa) <| Xw (fun _ hg => Qs) ?_
 refine Xw (fun _ hg => Qm (hx := u_ hg)) ?_
 refine Xw (fun _ hg => Qa) ?_
 refine Xw (fun _ hg => Qe (hx := u_ hg)) ?_
 refine Xw (fun _ hg => Qd (hx := u_ hg)) ?_
 refine Xw (fun _ hg => Qd (hx := u_ hg)) ?_
 refine Ls ?_
 refine Xw (fun _ hg => Yw (hx := u_ hg) (hy := u_ hg)) ?_
 refine a_ (fun _ => Yc) <| a_ (fun _ => Qc) ?_
 apply an
 refine zC ?_
 refine ci ?_ ?_
 ·intro hb
  refine zC ?_
  refine cr <| s_ Qa ?_
  refine Q1 (X6 (Yx n hn) hw') (.refl _) (fun r H' ⟨hr, hr2⟩ => ?_)
  subst hr hr2
  refine s_ QH <| s_ QH <| QC ?_
  refine s_ Qc <| zC ?_
  refine zE ?_
  have hbad : Dn n m := .inl hb
  rw [Xq, if_pos hbad]
  exact Le.refl _
 intro hb
 refine zC ?_
 refine cr <| s_ Qs <| s_ Qm <| s_ QX <| s_ Qa <| gF (fun hg => Qs) ?_
 refine gF (fun hg => Qm (hx := u_ hg)) ?_
 refine gF (fun hg => XZ (hx := u_ hg)) ?_
 refine s_ Yc <| s_ Qa <| gF (fun hg => Qs) ?_
 refine gF (fun hg => Qm (hx := u_ hg)) ?_
 refine gF (fun hg => QX (hx := u_ hg)) ?_
 refine s_ Yc <| s_ Qa <| gF (fun hg => Qs) ?_
 refine gF (fun hg => Qm (hx := u_ hg)) ?_
 refine gF (fun hg => XZ (hx := u_ hg)) ?_
 refine s_ Yc <| s_ Qc <| zC ?_
 refine ci ?_ ?_
 ·intro hb2
  refine zC ?_
  refine cr <| s_ Qa ?_
  refine Q1 (X6 (Yx n hn) hw') (.refl _) (fun r H' ⟨hr, hr2⟩ => ?_)
  subst hr hr2
  refine s_ QH <| s_ QH <| QC ?_
  refine s_ Qc <| zC ?_
  refine zE ?_
  have hbad : Dn n m := .inr hb2
  rw [Xq, if_pos hbad]
  exact Le.refl _
 intro hb2
 have hbad : ¬ Dn n m := fun h => h.elim hb hb2
 have hM : MBd n m := hM.resolve_left hbad
 have hfr : 0 ≤ m.frm ∧ m.frm < 5 := by omega
 have hu := hn.up m
 have hNu := hN.up m
 have hMu := hM.up
 have hlu := hNu.log
 have hle := hMu.es
 have hi0 := hM.i0
 have hi1 := hM.i1
 have hv0 := hNu.v0
 have hv1 := hNu.v1
 have hx0 := hNu.x0
 have hx1 := hNu.x1
 have hm0 := hNu.m0
 have hm1 := hNu.m1
 refine zC ?_
 refine ca [0, 1, 2, 3, 4, 5, 6, 7] [] <| a_ (fun _ => Qs) <| a_ (fun _ => Qm) <| a_ (fun _ => Qa) <| a_ (fun _ => Qe) <| a_ (fun _ => Qd) <| a_ (fun _ => Qd) <| QF ?_
 refine a_ (fun _ => XZ) ?_
 apply an
 refine zC ?_
 show Sim _ _ _ _ (Lz _ _ _)
 refine Jn [(6, pW b), (3, .adr (.agg (msC m (Y7 m.entries)))), (4, .v (.pointer (some ⟨b4, 0, none⟩)))] ((b, ⟨tW, wkC (upN n m) (.slice p (n.log.map een).length c) (.slice q (List.length ([].map ms)) d), 23⟩) :: (Hl ++ (Ho ++ [])) ++ [(b4, (⟨44, Qv CI (.v (.slice none 0 0)), 22⟩ : Blk))]) ?_ ?_
 ·refine ci ?_ ?_
  ·intro hgt
   refine zC ?_
   refine cr <| s_ Qa <| s_ Qa <| s_ Qa <| s_ Qa <| s_ Qs <| s_ Qm <| s_ Qe <| s_ Qd <| s_ Qd <| QC ?_
   refine s_ Qe <| s_ Qd <| s_ Qd <| QC ?_
   refine s_ Qe <| s_ Qd <| s_ Qd <| QC ?_
   refine s_ Qe <| s_ Qd <| s_ Qd <| QC ?_
   refine zC ?_
   have hgt' : n.term < m.term := hgt
   have e : upN n m = { n with term := m.term, vote := -1, role := 0, votes := 0 } := by rw [upN, if_pos hgt']
   rw [e]
   exact ⟨eL, kR⟩
  ·intro hgt
   refine zC ?_
   have hgt' : ¬ n.term < m.term := hgt
   have e : upN n m = n := by rw [upN, if_neg hgt']
   rw [e]
   exact ⟨eL, kR⟩
 have hlog : (upN n m).log = n.log := by
  obtain ⟨_, _, _, _, e, _⟩ := WH n m
  rw [e]
 have hw : WkH b (upN n m) [] ((b, ⟨tW, wkC (upN n m) (.slice p (n.log.map een).length c) (.slice q (List.length (([] : List Ms).map ms)) d), 23⟩) :: (Hl ++ (Ho ++ []))) := ⟨_, _, Hl, Ho, by rw [hlog]; exact h1, h2, rfl⟩
 refine zC ?_
 refine cr <| s_ Qs <| s_ Qm <| zC ?_
 refine cr <| s_ Xy <| s_ Qc <| zC ?_
 refine ci ?_ ?_
 ·intro hk1
  refine zC ?_
  refine cr <| s_ Qa <| s_ Y6 ?_
  refine Q1 (Ry m hu (by simp) hw) (.refl _) (fun r H' ⟨hr, h3⟩ => ?_)
  subst hr
  refine zC ?_
  refine zC ?_
  refine zC ?_
  refine cr <| s_ Qa ?_
  refine Q1 (X6 (Yx _ (GE m hu)) h3) (.refl _) (fun r H' ⟨hr, hr2⟩ => ?_)
  subst hr hr2
  refine s_ QH <| s_ QH <| QC ?_
  refine s_ Qc <| zC ?_
  refine zE ?_
  rw [Xq, if_neg hbad, ME, if_pos hk1]
  exact Le.refl _
 ·intro hk1
  refine zC ?_
  refine cr <| s_ Xy <| s_ Qc <| zC ?_
  refine ci ?_ ?_
  ·intro hk2
   refine zC ?_
   refine cr <| s_ Qa <| s_ Y6 ?_
   refine Q1 (GD m hu hlu hv0 hv1 (by omega) (by omega) (by simp) hw) (.refl _) (fun r H' ⟨hr, h3⟩ => ?_)
   subst hr
   refine zC ?_
   refine zC ?_
   refine zC ?_
   refine cr <| s_ Qa ?_
   refine Q1 (X6 (Yx _ (Eg m hu hlu)) h3) (.refl _) (fun r H' ⟨hr, hr2⟩ => ?_)
   subst hr hr2
   refine s_ QH <| s_ QH <| QC ?_
   refine s_ Qc <| zC ?_
   refine zE ?_
   rw [Xq, if_neg hbad, ME, if_neg hk1, if_pos hk2]
   exact Le.refl _
  ·intro hk2
   refine zC ?_
   refine cr <| s_ Xy <| s_ Qc <| zC ?_
   refine ci ?_ ?_
   ·intro hk3
    refine zC ?_
    refine cr <| s_ Qa <| s_ Y6 ?_
    refine Q1 (CF m hu hle hi0 hi1 (by simp) hw) (.refl _) (fun r H' ⟨hr, h3⟩ => ?_)
    subst hr
    refine zC ?_
    refine zC ?_
    refine zC ?_
    refine cr <| s_ Qa ?_
    refine Q1 (X6 (by have := Rq hle; omega) h3) (.refl _) (fun r H' ⟨hr, hr2⟩ => ?_)
    subst hr hr2
    refine s_ QH <| s_ QH <| QC ?_
    refine s_ Qc <| zC ?_
    refine zE ?_
    rw [Xq, if_neg hbad, ME, if_neg hk1, if_neg hk2, if_pos hk3]
    exact Le.refl _
   ·intro hk3
    refine zC ?_
    refine cr <| s_ Xy <| s_ Qc <| zC ?_
    refine ci ?_ ?_
    ·intro hk4
     refine zC ?_
     refine cr <| s_ Qa <| s_ Y6 ?_
     refine Q1 (OH m hu (by omega) (by omega) (hx0 _) (hx1 _) (hm0 _) (hm1 _) (by omega) (by omega) (by simp) hw) (.refl _) (fun r H' ⟨hr, h3⟩ => ?_)
     subst hr
     refine zC ?_
     refine zC ?_
     refine zC ?_
     refine cr <| s_ Qa ?_
     refine Q1 (X6 (Yx _ (EZ m hu)) h3) (.refl _) (fun r H' ⟨hr, hr2⟩ => ?_)
     subst hr hr2
     refine s_ QH <| s_ QH <| QC ?_
     refine s_ Qc <| zC ?_
     refine zE ?_
     rw [Xq, if_neg hbad, ME, if_neg hk1, if_neg hk2, if_neg hk3, if_pos hk4]
     exact Le.refl _
    ·intro hk4
     refine zC ?_
     refine cr <| s_ Xy <| s_ Qc <| zC ?_
     refine ci ?_ ?_
     ·intro hk5
      refine zC ?_
      refine cr <| s_ Qa <| s_ Y6 ?_
      refine Q1 (RC m hu (by omega) (by omega) (by simp) hw) (.refl _) (fun r H' ⟨hr, h3⟩ => ?_)
      subst hr
      refine zC ?_
      refine zC ?_
      refine zC ?_
      refine cr <| s_ Qa ?_
      refine Q1 (X6 (by have := Eo (n := upN n m) (m := m) hu.log; omega) h3) (.refl _) (fun r H' ⟨hr, hr2⟩ => ?_)
      subst hr hr2
      refine s_ QH <| s_ QH <| QC ?_
      refine s_ Qc <| zC ?_
      refine zE ?_
      rw [Xq, if_neg hbad, ME, if_neg hk1, if_neg hk2, if_neg hk3, if_neg hk4]
      exact Le.refl _
     ·intro hk5
      exfalso
      exact hb2 (by omega)
def Ct (e : En) : List Value := [.int .i64 e.term, .int .i64 e.conf, .string (bs e.cmd)]
theorem VF {a b : En} : Ct a = Ct b ↔ a = b := by
 constructor
 ·intro h
  simp only [Ct, List.cons.injEq, Value.int.injEq, Value.string.injEq, true_and, and_true] at h
  cases a; cases b
  simp only at h
  rw [h.1, h.2.1, Ri h.2.2]
 ·intro h; rw [h]
theorem O2 (f f' : Bool) (l m : List En) (hl : l.length ≤ 1000000000) (hm : m.length ≤ 1000000000) : FnP Tryz.prog 160 [.sl f (l.map een), .sl f' (m.map een)] (fun r => r = .v (.bool (decide (l = m)))) := by
 refine fe Tryz.func160 fun S0 w0 => ?_
 show Sim _ _ [(0, T.sl f (l.map een)), (1, T.sl f' (m.map een))] _ _
 refine zC ?_
 refine cr <| s_ Qc <| zC ?_
 refine cr <| s_ Qa ?_
 (first | refine s_ QR ?_ | refine s_ QP ?_)
 refine s_ Qa ?_
 (first | refine s_ QR ?_ | refine s_ QP ?_)
 refine s_ Yw <| zC ?_
 refine ci ?_ ?_
 ·intro hne
  refine zC ?_
  refine cr <| s_ Qc <| zC ?_
  refine zE ?_
  refine Le.of_eq ?_
  rw [show decide (l = m) = false from decide_eq_false (fun h => hne (by rw [h]))]
  rfl
 intro hne
 have hlen : l.length = m.length := by simp only [List.length_map] at hne; omega
 refine zC ?_
 refine cr <| s_ Qa ?_
 (first | refine s_ QR ?_ | refine s_ QP ?_)
 refine s_ Qa <| zC ?_
 apply Qt (σ := Nat) (ok := fun k => k ≤ l.length ∧ l.take k = m.take k) (env := fun k => [(13, ei (k : Nat)), (12, ei ((l.map een).length : Nat)), (0, T.sl f (l.map een)), (1, T.sl f' (m.map een))]) (heap := fun _ => []) (μ := fun k => l.length - k) (s0 := 0)
 ·exact ⟨Nat.zero_le _, by simp⟩
 ·exact eL
 ·exact kR
 rintro k ⟨hk, htk⟩
 refine zC ?_
 refine cr <| s_ QX <| zC ?_
 refine ci ?_ ?_
 ·intro hlt
  simp only [List.length_map] at hlt
  have hkl : k < l.length := by omega
  have hkm : k < m.length := by omega
  have hix := hkl
  have hix2 := hkm
  refine zC ?_
  refine cr <| s_ Qa <| s_ Qc <| zC ?_
  refine ca [0, 1, 2, 3, 4, 5, 6, 7, 8] [] <| a_ (fun _ => Qa) <| a_ (fun _ => Qa) ?_
  (first | refine a_ (fun _ => Xu hix) ?_ | refine a_ (fun _ => Xu hix2) ?_ | refine a_ (fun _ => Zz) ?_ | refine a_ (fun _ => Jw) ?_)
  (first | refine a_ (fun _ => Y6) ?_ | refine Yz ?_)
  refine a_ (fun _ => Qa) <| a_ (fun _ => Qa) ?_
  (first | refine a_ (fun _ => Xu hix) ?_ | refine a_ (fun _ => Xu hix2) ?_ | refine a_ (fun _ => Zz) ?_ | refine a_ (fun _ => Jw) ?_)
  (first | refine a_ (fun _ => Y6) ?_ | refine Yz ?_)
  refine a_ (fun _ => CR 2 [.int .i64, .int .i64, .str] Tryz.eqGuardType84) ?_
  apply an
  refine zC ?_
  refine ci ?_ ?_
  ·intro hd
   refine zC ?_
   refine cr <| s_ Qc <| zC ?_
   refine zE ?_
   refine Le.of_eq ?_
   rw [show decide (l = m) = false from decide_eq_false (fun h => hd (by subst h; rfl))]
   rfl
  ·intro hd
   have he : l[k] = m[k] := VF.1 (Classical.not_not.1 hd)
   refine zC ?_
   refine cr <| s_ Q5 <| s_ Qa <| zC ?_
   refine ⟨k + 1, ⟨by omega, ?_⟩, by show l.length - (k + 1) < l.length - k; omega, ⟨Qk (by rfl) (Le.refl _), eL⟩, kR⟩
   rw [List.take_succ_eq_append_getElem hkl, List.take_succ_eq_append_getElem hkm, htk, he]
 ·intro hlt
  simp only [List.length_map] at hlt
  have hkl : k = l.length := by omega
  have he : l = m := by
   have := htk
   rwa [hkl, List.take_length, hlen, List.take_length] at this
  refine zC ?_
  refine cr <| s_ Qc <| zC ?_
  refine zE ?_
  refine Le.of_eq ?_
  rw [show decide (l = m) = true from decide_eq_true he]
  rfl
def R4 (n : Nd) : List T := [ei n.id, ei n.term, ei n.vote, ei n.base, ei n.baseTerm, ei n.baseConf, ei n.commit, ei n.role, ei n.wait, ei n.votes] ++ (f5C n.next ++ f5C n.mtch)
theorem IT (n : Nd) : FnP Tryz.prog 159 [nd n] (fun r => r = .agg (R4 n)) := by
 refine fe Tryz.func159 fun S0 w0 => ?_
 show Sim _ _ [(0, T.agg (Qv n (.sl false (n.log.map een))))] _ _
 refine zC ?_
 apply cr
 refine XO fun b1 _ => ?_
 refine Yt fun b2 _ => ?_
 refine zC ?_
 refine X2 (List.Perm.swap _ _ _) ?_
 refine Zf 1 (by simp [Qv]) ?_
 refine zC ?_
 refine cr <| s_ Qs <| s_ Qm <| s_ Qs <| s_ Qm <| s_ Qs <| s_ Qm <| s_ Qs <| s_ Qm <| s_ Qs <| s_ Qm <| s_ Qs <| s_ Qm <| s_ Qs <| s_ Qm <| s_ Qs <| s_ Qm <| s_ Qs <| s_ Qm <| s_ Qs <| s_ Qm <| s_ DK <| s_ Y6 <| s_ DK <| s_ Y6 <| s_ (C2 20) <| QC ?_
 refine zC ?_
 refine zE ?_
 exact Le.refl _
theorem GU (a b : Nd) : ((R4 a).map (fun x => match x with | .v y => y | _ => undef) = (R4 b).map (fun x => match x with | .v y => y | _ => undef) ∧ a.snap = b.snap) ∧ a.log = b.log ↔ a = b := by
 constructor
 ·rintro ⟨⟨h, h1⟩, h2⟩
  obtain ⟨_, _, _, _, _, _, _, _, _, _, _, _, ⟨_, _, _, _, _⟩, ⟨_, _, _, _, _⟩⟩ := a
  obtain ⟨_, _, _, _, _, _, _, _, _, _, _, _, ⟨_, _, _, _, _⟩, ⟨_, _, _, _, _⟩⟩ := b
  simp only [R4, f5C, ei, List.map_cons, List.map_nil, List.cons_append, List.nil_append, List.cons.injEq, Value.int.injEq, true_and, and_true] at h
  simp only at h1 h2
  simp only [Nd.mk.injEq, F5.mk.injEq]
  simp_all
 ·rintro rfl; simp
theorem RH (a b : Nd) (ha : a.log.length ≤ 1000000000) (hb : b.log.length ≤ 1000000000) : FnP Tryz.prog 139 [nd a, nd b] (fun r => r = .v (.bool (decide (a = b)))) := by
 have h1 := IT a
 have h2 := IT b
 have he := O2 false false a.log b.log ha hb
 refine fe Tryz.func139 fun S0 w0 => ?_
 show Sim _ _ [(0, T.agg (Qv a (.sl false (a.log.map een)))), (1, T.agg (Qv b (.sl false (b.log.map een))))] _ _
 refine zC ?_
 apply cr
 refine XO fun b2 _ => ?_
 refine XO fun b3 _ => ?_
 refine s_ Qc <| zC ?_
 refine Zf 3 (by simp [Qv]) ?_
 refine Zf 2 (by simp [Qv]) ?_
 refine zC ?_
 refine ca [0, 1, 2, 3, 4, 5, 6, 7, 8, 9, 10, 11, 12, 13, 14, 15, 16, 17, 18, 19] [] <| a_ (fun _ => Y6) <| a_ (fun _ => QM (h1)) <| a_ (fun _ => Y6) <| a_ (fun _ => QM (h2)) <| a_ (fun _ => IP 3 [.int .i64, .int .i64, .int .i64, .int .i64, .int .i64, .int .i64, .int .i64, .int .i64, .int .i64, .int .i64, .int .i64, .int .i64, .int .i64, .int .i64, .int .i64, .int .i64, .int .i64, .int .i64, .int .i64, .int .i64] Tryz.eqGuardType200) <| a_ (fun _ => Qa) <| Qy (fun _ hg => Qs) ?_
 refine Qy (fun _ hg => Qm (hx := u_ hg)) ?_
 refine Qy (fun _ hg => Qs) ?_
 refine Qy (fun _ hg => Qm (hx := u_ hg)) ?_
 refine Qy (fun _ hg => CX (hx := u_ hg) (hy := u_ hg)) ?_
 refine a_ (fun _ => Xz) <| a_ (fun _ => Qa) <| Qy (fun _ hg => Qs) ?_
 refine Qy (fun _ hg => Qm (hx := u_ hg)) ?_
 refine Qy (fun _ hg => Qs) ?_
 refine Qy (fun _ hg => Qm (hx := u_ hg)) ?_
 refine Qy (fun _ hg => QM (he) (ha' := by apply Qp (u_ hg); apply Qp (u_ hg); exact Xj)) ?_
 refine a_ (fun _ => Xz) <| a_ (fun _ => Qc) ?_
 apply an
 refine zC ?_
 refine zE ?_
 refine Le.of_eq (congrArg (fun z => T.v (.bool z)) ?_)
 rw [decide_eq_decide]
 exact GU a b
theorem WA (f : Bool) (l : List En) (hl : l.length ≤ 1000000000) : FnP Tryz.prog 72 [.sl f (l.map een)] (fun r => r = Y7 l) :=
 FnH.give (YY f l hl) (by rintro r H ⟨v, rfl, ho⟩; exact ho.lend fun _ h => h)
def Q0 (n : Nd) : Nd := { n with role := 0, wait := 0, votes := 0, next := .all 0, mtch := .all 0 }
theorem WF (n : Nd) (hl : n.log.length ≤ 1000000000) : FnP Tryz.prog 68 [nd n] (fun r => r = nd (Q0 n)) := by
 have hc := WA false n.log hl
 refine fe Tryz.func68 fun S0 w0 => ?_
 show Sim _ _ [(0, T.agg (Qv n (.sl false (n.log.map een))))] _ _
 refine zC ?_
 apply cr
 refine XO fun b1 _ => ?_
 refine Yt fun b2 _ => ?_
 refine zC ?_
 refine X2 (List.Perm.swap _ _ _) ?_
 refine Zf 1 (by simp [Qv]) ?_
 refine zC ?_
 refine ca [0, 1, 2, 3, 4, 5, 6, 7, 8, 9, 10, 11, 12, 13, 14, 15, 16, 17, 18, 19, 20] [20] <| a_ (fun _ => Qs) <| a_ (fun _ => Qm) <| a_ (fun _ => Qs) <| a_ (fun _ => Qm) <| a_ (fun _ => Qs) <| a_ (fun _ => Qm) <| a_ (fun _ => Qs) <| a_ (fun _ => Qm) <| a_ (fun _ => Qs) <| a_ (fun _ => Qm) <| a_ (fun _ => Qs) <| a_ (fun _ => Qm) <| a_ (fun _ => Qs) <| a_ (fun _ => Qm) <| a_ (fun _ => Qs) <| a_ (fun _ => Qm) <| a_ (fun _ => QM (hc)) <| a_ (fun _ => Qs) <| a_ (fun _ => Qm) <| a_ (fun _ => C2 22) <| XJ ?_
 apply an
 refine zC ?_
 refine zE ?_
 exact Le.refl _
def pfx : List En → List En → Nat
 | x :: xs, y :: ys => if x = y then pfx xs ys + 1 else 0
 | _, _ => 0
def Ql (a b : Nd) : Nat := if a.base = b.base then pfx a.log b.log else 0
theorem WY : ∀ (a b : List En), pfx a b ≤ a.length ∧ pfx a b ≤ b.length
 | [], b => by simp [pfx]
 | _ :: _, [] => by simp [pfx]
 | x :: xs, y :: ys => by
  have := WY xs ys
  unfold pfx
  split
  ·simp only [List.length_cons]; omega
  ·simp
theorem Ob {a b : List En} {k : Nat} (h1 : k < a.length) (h2 : k < b.length) : pfx (a.drop k) (b.drop k) = if a[k] = b[k] then pfx (a.drop (k + 1)) (b.drop (k + 1)) + 1 else 0 := by
 rw [List.drop_eq_getElem_cons h1, List.drop_eq_getElem_cons h2, pfx]
theorem R2 {a b : List En} {k : Nat} (h : ¬ (k < a.length ∧ k < b.length)) : pfx (a.drop k) (b.drop k) = 0 := by
 have := WY (a.drop k) (b.drop k)
 simp only [List.length_drop] at this
 omega
theorem Ro (a b : Nd) (ha : a.log.length ≤ 1000000000) (hb : b.log.length ≤ 1000000000) : FnP Tryz.prog 142 [nd a, nd b] (fun r => r = ei (Ql a b)) := by
 refine fe Tryz.func142 fun S0 w0 => ?_
 show Sim _ _ [(0, T.agg (Qv a (.sl false (a.log.map een)))), (1, T.agg (Qv b (.sl false (b.log.map een))))] _ _
 refine zC ?_
 apply cr
 refine XO fun b2 _ => ?_
 refine XO fun b3 _ => ?_
 refine s_ Qc <| zC ?_
 refine cr <| s_ Qd <| s_ Qn <| s_ Qd <| s_ Qn <| s_ Yw <| zC ?_
 refine ci ?_ ?_
 ·intro hne
  have hne' : ¬ a.base = b.base := hne
  refine zC ?_
  refine cr <| s_ Qc <| zC ?_
  refine zE ?_
  rw [Ql, if_neg hne']
  exact Le.refl _
 intro heq
 have heq' : a.base = b.base := Decidable.not_not.1 heq
 rw [Ql, if_pos heq']
 refine zC ?_
 refine cr <| s_ Qc <| zC ?_
 apply Qt (σ := Nat) (ok := fun k => k ≤ a.log.length ∧ pfx a.log b.log = k + pfx (a.log.drop k) (b.log.drop k)) (env := fun k => [(5, ei k), (2, pW b2), (3, pW b3)]) (heap := fun _ => [(b3, ⟨44, Qv b (.sl false (b.log.map een)), 22⟩), (b2, ⟨44, Qv a (.sl false (a.log.map een)), 22⟩)]) (μ := fun k => a.log.length - k) (s0 := 0)
 ·exact ⟨Nat.zero_le _, by simp⟩
 ·exact eL
 ·exact kR
 rintro k ⟨hk, hp⟩
 by_cases hin : k < a.log.length ∧ k < b.log.length
 ·have hix : k < a.log.length := hin.1
  have hix2 : k < b.log.length := hin.2
  have hnx := Ob hix hix2
  refine zC ?_
  refine ca [0, 1, 2, 3, 4, 5, 6, 7, 8, 9, 10, 11, 12, 13, 14, 15, 16, 17, 18, 19, 20, 21, 22, 23, 24] [] <| a_ (fun _ => Qa) <| a_ (fun _ => Qd) <| QF ?_
  (first | refine a_ (fun _ => QR) ?_ | refine a_ (fun _ => QP) ?_)
  refine a_ (fun _ => QX) <| a_ (fun _ => Qa) <| Qy (fun _ hg => Qa) ?_
  refine Qy (fun _ hg => Qd) ?_
  refine Y2 ?_
  (first | refine Qy (fun _ hg => QR (hx := u_ hg)) ?_ | refine Qy (fun _ hg => QP (hx := u_ hg)) ?_)
  refine Qy (fun _ hg => QX (hx := u_ hg) (hy := u_ hg)) ?_
  refine a_ (fun _ => Xz) <| a_ (fun _ => Qa) <| Qy (fun _ hg => Qd) ?_
  refine Y2 ?_
  refine Qy (fun _ hg => Qa) ?_
  (first | refine Qy (fun _ hg => Xu hix (hx := u_ hg) (hy := u_ hg)) ?_ | refine Qy (fun _ hg => Xu hix2 (hx := u_ hg) (hy := u_ hg)) ?_ | refine Qy (fun _ hg => Zz (hx := u_ hg) (hy := u_ hg)) ?_ | refine Qy (fun _ hg => Jw (hx := u_ hg) (hy := u_ hg)) ?_)
  (first | refine Qy (fun _ hg => Y6 (hx := u_ hg)) ?_ | refine Ed ?_)
  refine Qy (fun _ hg => Qd) ?_
  refine Y2 ?_
  refine Qy (fun _ hg => Qa) ?_
  (first | refine Qy (fun _ hg => Xu hix (hx := u_ hg) (hy := u_ hg)) ?_ | refine Qy (fun _ hg => Xu hix2 (hx := u_ hg) (hy := u_ hg)) ?_ | refine Qy (fun _ hg => Zz (hx := u_ hg) (hy := u_ hg)) ?_ | refine Qy (fun _ hg => Jw (hx := u_ hg) (hy := u_ hg)) ?_)
  (first | refine Qy (fun _ hg => Y6 (hx := u_ hg)) ?_ | refine Ed ?_)
  refine Qy (fun _ hg => IP 2 [.int .i64, .int .i64, .str] Tryz.eqGuardType84 (hx := u_ hg) (hy := u_ hg)) ?_
  refine a_ (fun _ => Xz) ?_
  apply an
  refine zC ?_
  refine ci ?_ ?_
  ·intro hc
   have he : a.log[k] = b.log[k] := by
    exact VF.1 hc.2
   rw [if_pos he] at hnx
   refine zC ?_
   refine cr <| s_ Qa <| s_ Q5 <| s_ Qc <| zC ?_
   refine ⟨k + 1, ⟨by omega, by rw [hp, hnx]; omega⟩, (by simp only []; omega), ⟨?_, eL⟩, kR⟩
   apply Qk; (exact zG)
   exact Le.refl _
  ·intro hc
   have he : ¬ a.log[k] = b.log[k] := fun h => hc ⟨⟨by simp only [List.length_map]; omega, by simp only [List.length_map]; omega⟩, VF.2 h⟩
   rw [if_neg he] at hnx
   refine zC ?_
   refine cr <| s_ Qa <| s_ Qc <| zC ?_
   refine zE ?_
   rw [hp, hnx]
   exact Le.refl _
 ·have hno : ¬ ((k : Int) < ((a.log.map een).length : Nat) ∧ (k : Int) < ((b.log.map een).length : Nat)) := by
   simp only [List.length_map]; omega
  refine zC ?_
  refine ca [0, 1, 2, 3, 4, 5, 6, 7, 8, 9, 10, 11, 12, 13, 14, 15, 16, 17, 18, 19, 20, 21, 22, 23, 24] [] <| a_ (fun _ => Qa) <| a_ (fun _ => Qd) <| QF ?_
  (first | refine a_ (fun _ => QR) ?_ | refine a_ (fun _ => QP) ?_)
  refine a_ (fun _ => QX) <| a_ (fun _ => Qa) <| Qy (fun _ hg => Qa) ?_
  refine Qy (fun _ hg => Qd) ?_
  refine Y2 ?_
  (first | refine Qy (fun _ hg => QR (hx := u_ hg)) ?_ | refine Qy (fun _ hg => QP (hx := u_ hg)) ?_)
  refine Qy (fun _ hg => QX (hx := u_ hg) (hy := u_ hg)) ?_
  refine a_ (fun _ => Xz) <| a_ (fun _ => Qa) <| Qy (fun _ hg => Qd) ?_
  refine Y2 ?_
  refine Qy (fun _ hg => Qa) ?_
  refine Qy (d := .any) (fun _ hg => absurd hg hno) ?_
  refine Qy (d := .any) (fun _ hg => absurd hg hno) ?_
  refine Qy (fun _ hg => Qd) ?_
  refine Y2 ?_
  refine Qy (fun _ hg => Qa) ?_
  refine Qy (d := .any) (fun _ hg => absurd hg hno) ?_
  refine Qy (d := .any) (fun _ hg => absurd hg hno) ?_
  refine Qy (d := .v (.bool (decide False))) (fun _ hg => absurd hg hno) ?_
  refine a_ (fun _ => Xz) ?_
  apply an
  refine zC ?_
  refine ci ?_ ?_
  ·intro hc; exact absurd hc.1 hno
  intro _
  refine zC ?_
  refine cr <| s_ Qa <| s_ Qc <| zC ?_
  refine zE ?_
  rw [hp, R2 hin]
  exact Le.refl _
theorem DU (n : Nd) (hl : n.log.length ≤ 1000000000) : FnP Tryz.prog 44 [nd n] (fun r => r = nd n) := by
 have hc := WA false n.log hl
 refine fe Tryz.func44 fun S0 w0 => ?_
 show Sim _ _ [(0, T.agg (Qv n (.sl false (n.log.map een))))] _ _
 refine zC ?_
 apply cr
 refine XO fun b1 _ => ?_
 refine Yt fun b2 _ => ?_
 refine zC ?_
 refine cr <| s_ Qd <| s_ Qn <| s_ (QM (hc)) <| s_ Qd <| QC ?_
 refine zC ?_
 refine cr <| s_ Xp <| QC ?_
 refine zC ?_
 refine zE ?_
 exact Le.refl _
end Go.Proofs.YtjbokbikkcfjjaaGreat
namespace Go.Cap
section
variable {P : Program} {t : Env} {H : Qb} {dst : Option Tmp} {tp : TypeId} {pos : String} {aft : Array Edge} {g : Option (Nat × Bool)} {ty : TypeId} {x : Operand} {k : IntKind} {a : Int}
theorem RZ (hx : t.ev x = .v (.int .u32 a)) : POp P t H ⟨dst, .unOp .xor ty x, tp, pos, aft, g⟩ (.v (.int .u32 (MC .u32 4294967295 a))) :=
 POp.still fun S w a' _ _ hr => by
  have h1 := hr x (by simp [Op.operands]); rw [hx] at h1
  exact ⟨.int .u32 (MC .u32 4294967295 a), by simp only [execOp]; rw [h1.v_eq]; rfl, .v _⟩
theorem C0 (hx : t.ev x = .v (.int .u32 a) := by exact zl) : POp P t H ⟨dst, .unOp .xor ty x, tp, pos, aft, g⟩ (.v (.int .u32 (MC .u32 4294967295 a))) := RZ hx
end
end Go.Cap
namespace Go.Proofs.YtjbokbikkcfjjaaGreat
open Go.Cap
attribute [local irreducible] POp Qf Bv EOp Sim FnH T.gp
def Iu (c : Int) : Int := MC .u32 (VI .u32 c 1) (IntKind.u32.wrap (3988292384 * VJ .u32 c 1))
def Cw : Nat → Int → Int
 | 0, c => c
 | k + 1, c => Iu (Cw k c)
def Di (c : Int) (x : UInt8) : Int := Cw 8 (MC .u32 c (IntKind.u32.wrap (x.toNat : Int)))
def Gj (l : List UInt8) : Int := l.foldl Di 4294967295
def Mv (l : List UInt8) : Int := MC .u32 4294967295 (Gj l)
theorem Gi (l : List UInt8) {k : Nat} (hk : k < l.length) : Gj (l.take (k + 1)) = Di (Gj (l.take k)) l[k] := by
 unfold Gj
 rw [List.take_succ_eq_append_getElem hk, List.foldl_append]
 rfl
theorem Eh (a : Int) : 0 ≤ IntKind.u32.wrap a ∧ IntKind.u32.wrap a < 4294967296 := by
 simp [IntKind.wrap, IntKind.bits, IntKind.signed]
 omega
theorem JP (l : List UInt8) : 0 ≤ Mv l ∧ Mv l < 4294967296 := Eh _
def tS : TypeId := 191
def CrH (b : Nat) (c : Int) : Qb := [(b, ⟨tS, [.v (.int .u32 c)], 1⟩)]
theorem Iv (b : Nat) (c : Int) (x : UInt8) : FnH Tryz.prog 153 [pW b, eb x] (CrH b c) (fun r H => r = .tup [] ∧ H = CrH b (Di c x)) := by
 refine fe Tryz.func153 fun S0 w0 => ?_
 show Sim _ _ [(0, pW b), (1, eb x)] (CrH b c) _
 unfold CrH
 refine zC ?_
 refine cr <| s_ Qa <| s_ Qe <| s_ Qn <| s_ Qa <| s_ X3 <| s_ IL <| s_ Qe <| QC ?_
 refine zC ?_
 refine cr <| s_ Qa <| zC ?_
 apply Qt (σ := Nat) (ok := fun k => k ≤ 8) (env := fun k => [(11, ei k), (0, pW b)]) (heap := fun k => [(b, ⟨tS, [.v (.int .u32 (Cw k (MC .u32 c (IntKind.u32.wrap (x.toNat : Int)))))], 1⟩)]) (μ := fun k => 8 - k) (s0 := 0)
 ·exact Nat.zero_le _
 ·exact eL
 ·exact kR
 intro k hk
 refine zC ?_
 refine cr <| s_ QX <| zC ?_
 refine ci ?_ ?_
 ·intro hlt
  refine zC ?_
  refine ca [0, 1, 2, 3, 4, 5, 6, 7, 8, 9, 10, 11, 12] [12] <| a_ (fun _ => Qa) <| a_ (fun _ => Qa) <| a_ (fun _ => Qe) <| QF ?_
  refine a_ (fun _ => Zd) <| a_ (fun _ => Qa) <| a_ (fun _ => Qe) <| QF ?_
  refine a_ (fun _ => JC) <| a_ (fun _ => CU) <| a_ (fun _ => IL) <| a_ (fun _ => Qe) <| XJ ?_
  apply an
  refine zC ?_
  refine cr <| s_ Q5 <| s_ Qa <| zC ?_
  refine ⟨k + 1, by omega, (by simp only []; omega), ⟨?_, eL⟩, kR⟩
  apply Qk; (exact zG)
  exact Le.refl _
 ·intro hge
  have : k = 8 := by omega
  subst this
  refine zC ?_
  exact rhn kR ⟨rfl, rfl⟩ (Le.refl _)
theorem Dh (f : Bool) (l : List UInt8) (hl : l.length ≤ 1000000000000) : FnP Tryz.prog 126 [.sl f (l.map eb)] (fun r => r = .v (.int .u32 (Mv l))) := by
 refine fe Tryz.func126 fun S0 w0 => ?_
 show Sim _ _ [(0, T.sl f (l.map eb))] _ _
 refine zC ?_
 refine cr <| s_ Qc <| zC ?_
 apply cr
 refine Yt fun b3 _ => ?_
 refine QC ?_
 refine zC ?_
 refine cr <| s_ J8 <| s_ Qc <| zC ?_
 refine cr <| s_ Qa ?_
 (first | refine s_ QR ?_ | refine s_ QP ?_)
 refine s_ Qa <| zC ?_
 apply Qt (σ := Nat) (ok := fun k => k ≤ l.length) (env := fun k => [(10, ei k), (9, ei (l.length : Nat)), (8, .sl f (l.map eb)), (4, .clo 153 [pW b3] []), (3, pW b3)]) (heap := fun k => CrH b3 (Gj (l.take k))) (μ := fun k => l.length - k) (s0 := 0)
 ·exact Nat.zero_le _
 ·refine ⟨?_, ?_, eL⟩
  ·apply Qk; (exact zG)
   exact Le.refl _
  ·apply Qk; (exact zG)
   exact Le.of_eq (by simp [ei])
 ·exact kR
 intro k hk
 refine zC ?_
 refine cr <| s_ QX <| zC ?_
 refine ci ?_ ?_
 ·intro hlt
  have hlt' : k < l.length := by omega
  refine zC ?_
  apply cr
  (first | refine s_ (Xu hix) ?_ | refine s_ (Xu hix2) ?_ | refine s_ Zz ?_ | refine s_ Jw ?_)
  (first | refine s_ Qm ?_ | refine s_ Qn ?_)
  refine s_ Qc <| zC ?_
  refine cr <| s_ Qa <| s_ Qa ?_
  refine JO (fs := [pW b3]) (args := [eb l[k]]) (cs := []) (Iv b3 (Gj (l.take k)) l[k]) (Hr := []) UF (fun r H' ⟨hr1, hr2⟩ => ?_)
  subst hr1 hr2
  refine zC ?_
  refine cr <| s_ Q5 <| s_ Qa <| zC ?_
  refine ⟨k + 1, by omega, (by simp only []; omega), ⟨?_, eL⟩, ?_⟩
  ·apply Qk; (exact zG)
   exact Le.refl _
  ·rw [List.append_nil, ← Gi _ hlt']; exact kR
 ·intro hge
  have hke : k = l.length := by omega
  subst hke
  rw [List.take_length]
  unfold CrH
  refine zC ?_
  refine cr <| s_ Qn <| s_ C0 <| s_ Qc <| zC ?_
  refine zE ?_
  exact Le.refl _
def Ud (n : Int) : List UInt8 := [UInt8.ofNat (n.toNat % 256), UInt8.ofNat (n.toNat / 256 % 256), UInt8.ofNat (n.toNat / 65536 % 256), UInt8.ofNat (n.toNat / 16777216 % 256)]
theorem US (n : Nat) : IntKind.u8.wrap (n : Int) = ((UInt8.ofNat (n % 256)).toNat : Int) := by
 simp [IntKind.wrap, IntKind.bits, IntKind.signed]
theorem WK (n : Nat) {j : Int} {k : Nat} (hj : 0 ≤ j) (hk : j ≤ 32) (h : 2 ^ j.toNat = k) : VI .u32 (n : Int) j = ((n / k : Nat) : Int) := by
 unfold VI
 rw [show min j.toNat IntKind.u32.bits = j.toNat by simp only [IntKind.bits]; omega, show (2 : Int) ^ j.toNat = ((k : Nat) : Int) by rw [← h]; push_cast; rfl, Int.fdiv_eq_ediv_of_nonneg _ (by omega)]
 push_cast
 rfl
theorem D3 (n : Nat) : FnP Tryz.prog 175 [.v (.int .u32 n)] (fun r => r = .sl true ((Ud n).map eb)) := by
 refine fe Tryz.func175 fun S0 w0 => ?_
 show Sim _ _ [(0, .v (.int .u32 n))] _ _
 refine zC ?_
 refine cr <| s_ Qc <| zC ?_
 refine cr <| s_ Qa <| s_ X3 <| s_ Qa <| s_ Zd <| s_ X3 <| s_ Qa <| s_ Zd <| s_ X3 <| s_ Qa <| s_ Zd <| s_ X3 ?_
 rw [WK n (j := 8) (k := 256) (by omega) (by omega) rfl, WK n (j := 16) (k := 65536) (by omega) (by omega) rfl, WK n (j := 24) (k := 16777216) (by omega) (by omega) rfl, US n, US (n / 256), US (n / 65536), US (n / 16777216)]
 refine s_ J9 <| s_ Qc <| zC ?_
 refine zE ?_
 exact Le.refl _
def Ur (l : List UInt8) : Int := bOr .u32 (bOr .u32 (bOr .u32 (l.getD 0 0).toNat (Y1 .u32 (l.getD 1 0).toNat 8)) (Y1 .u32 (l.getD 2 0).toNat 16)) (Y1 .u32 (l.getD 3 0).toNat 24)
theorem I4 (x : UInt8) : IntKind.u32.wrap (x.toNat : Int) = (x.toNat : Int) := by
 have := x.toNat_lt
 simp [IntKind.wrap, IntKind.bits, IntKind.signed]
 omega
theorem YV (f : Bool) (l : List UInt8) (hl : 4 ≤ l.length) : FnP Tryz.prog 125 [.sl f (l.map eb)] (fun r => r = .v (.int .u32 (Ur l))) := by
 obtain ⟨a, b, c, d, r, rfl⟩ : ∃ a b c d r, l = a :: b :: c :: d :: r := by
  match l, hl with
  | a :: b :: c :: d :: r, _ => exact ⟨a, b, c, d, r, rfl⟩
 refine fe Tryz.func125 fun S0 w0 => ?_
 show Sim _ _ [(0, .sl f ((a :: b :: c :: d :: r).map eb))] _ _
 refine zC ?_
 refine cr <| s_ Qc <| zC ?_
 refine zC ?_
 refine ca [0, 1, 2, 3, 4, 5, 6, 7, 8, 9, 10, 11, 12, 13, 14, 15, 16, 17, 18, 19, 20, 21, 22] [] <| a_ (fun _ => Qa) ?_
 (first | refine a_ (fun _ => Xu hix) ?_ | refine a_ (fun _ => Xu hix2) ?_ | refine a_ (fun _ => Zz) ?_)
 refine a_ (fun _ => Qm) <| a_ (fun _ => X3) <| a_ (fun _ => Qa) ?_
 (first | refine a_ (fun _ => Xu hix) ?_ | refine a_ (fun _ => Xu hix2) ?_ | refine a_ (fun _ => Zz) ?_)
 refine a_ (fun _ => Qm) <| a_ (fun _ => X3) <| a_ (fun _ => J7) <| a_ (fun _ => UG) <| a_ (fun _ => Qa) ?_
 (first | refine a_ (fun _ => Xu hix) ?_ | refine a_ (fun _ => Xu hix2) ?_ | refine a_ (fun _ => Zz) ?_)
 refine a_ (fun _ => Qm) <| a_ (fun _ => X3) <| a_ (fun _ => J7) <| a_ (fun _ => UG) <| a_ (fun _ => Qa) ?_
 (first | refine a_ (fun _ => Xu hix) ?_ | refine a_ (fun _ => Xu hix2) ?_ | refine a_ (fun _ => Zz) ?_)
 refine a_ (fun _ => Qm) <| a_ (fun _ => X3) <| a_ (fun _ => J7) <| a_ (fun _ => UG) <| a_ (fun _ => Qc) ?_
 apply an
 refine zC ?_
 refine zE ?_
 exact Le.of_eq (by simp [XF, Ur, I4])
theorem JT {a : Int} (h0 : 0 ≤ a) (h1 : a < 4294967296) : IntKind.u32.wrap a = a := by
 simp [IntKind.wrap, IntKind.bits, IntKind.signed]
 omega
theorem Cg {a x i k : Nat} (hi : i ≤ 31) (hk : 2 ^ i = k) (ha : a < k) (hx : a + k * x < 4294967296) : bOr .u32 (a : Int) (Y1 .u32 (x : Int) (i : Int)) = ((a + k * x : Nat) : Int) := by
 have e2 : Y1 .u32 (x : Int) (i : Int) = ((k * x : Nat) : Int) := by
  unfold Y1
  rw [show min ((i : Int)).toNat IntKind.u32.bits = i by simp only [IntKind.bits]; omega]
  have : (x : Int) * 2 ^ i = ((k * x : Nat) : Int) := by rw [← hk]; push_cast; rw [Int.mul_comm]
  rw [this, JT (by omega) (by omega)]
 rw [e2]
 unfold bOr
 have e3 : (BitVec.ofInt IntKind.u32.bits (a : Int) ||| BitVec.ofInt IntKind.u32.bits ((k * x : Nat) : Int)).toNat = a + k * x := by
  rw [BitVec.toNat_or, BitVec.toNat_ofInt, BitVec.toNat_ofInt]
  show ((a : Int) % 4294967296).toNat ||| (((k * x : Nat) : Int) % 4294967296).toNat = _
  rw [show ((a : Int) % 4294967296).toNat = a by omega, show (((k * x : Nat) : Int) % 4294967296).toNat = k * x by omega, Nat.or_comm, ← hk, ← Nat.two_pow_add_eq_or_of_lt (by rw [hk]; exact ha) x]
  omega
 rw [e3]
 exact JT (by omega) (by omega)
theorem DO (a b c d : UInt8) (r : List UInt8) : Ur (a :: b :: c :: d :: r) = ((a.toNat + 256 * b.toNat + 65536 * c.toNat + 16777216 * d.toNat : Nat) : Int) := by
 have ha := a.toNat_lt
 have hb := b.toNat_lt
 have hc := c.toNat_lt
 have hd := d.toNat_lt
 unfold Ur
 show bOr .u32 (bOr .u32 (bOr .u32 (a.toNat : Int) (Y1 .u32 (b.toNat : Int) ((8 : Nat) : Int))) (Y1 .u32 (c.toNat : Int) ((16 : Nat) : Int))) (Y1 .u32 (d.toNat : Int) ((24 : Nat) : Int)) = _
 rw [Cg (i := 8) (k := 256) (by omega) rfl (by omega) (by omega), Cg (i := 16) (k := 65536) (by omega) rfl (by omega) (by omega), Cg (i := 24) (k := 16777216) (by omega) rfl (by omega) (by omega)]
theorem MV (l : List UInt8) (h : 4 ≤ l.length) : 0 ≤ Ur l ∧ Ur l < 4294967296 := by
 match l, h with
 | a :: b :: c :: d :: r, _ =>
  have ha := a.toNat_lt
  have hb := b.toNat_lt
  have hc := c.toNat_lt
  have hd := d.toNat_lt
  rw [DO]
  omega
theorem Vh {n : Int} (h0 : 0 ≤ n) (h1 : n < 4294967296) (r : List UInt8) : Ur (Ud n ++ r) = n := by
 obtain ⟨m, rfl⟩ := Int.eq_ofNat_of_zero_le h0
 show Ur (UInt8.ofNat (m % 256) :: UInt8.ofNat (m / 256 % 256) :: UInt8.ofNat (m / 65536 % 256) :: UInt8.ofNat (m / 16777216 % 256) :: r) = _
 rw [DO]
 simp only [UInt8.toNat_ofNat']
 omega
end Go.Proofs.YtjbokbikkcfjjaaGreat
