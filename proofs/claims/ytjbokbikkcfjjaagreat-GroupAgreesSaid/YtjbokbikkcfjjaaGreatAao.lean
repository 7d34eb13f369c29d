/-
  replica: a snapshot, laid by one that follows.
-/
import Derived.Test.YtjbokbikkcfjjaaGreatAan
set_option maxRecDepth 16000
set_option maxHeartbeats 8000000
set_option linter.all false
namespace Go.Proofs.YtjbokbikkcfjjaaGreat
open Go.Cap
attribute [local irreducible] POp Qf Pw EOp Sim FnH T.gp
def Uu (n : Nd) (m : Ms) : List En := if (m.index ≤ QT n ∧ n.base < m.index) ∧ termF n m.index = m.logTerm then n.log.drop (m.index - n.base).toNat else []
def J1 (n : Nd) (m : Ms) : Nd := { Q0 n with log := Uu n m, base := m.index, baseTerm := m.logTerm, baseConf := m.conf, snap := m.snap, commit := m.index }
def ZW (n : Nd) (m : Ms) : Nd × List Ms := if m.term < n.term then (n, [QG n m.frm (XY false 0)]) else
 if n.commit < m.index then (J1 n m, [QG (J1 n m) m.frm (XY true (max m.index n.commit))]) else (Q0 n, [QG (Q0 n) m.frm (XY true (max m.index n.commit))])
theorem N6 {H B : Qd} (h : Qi B []) : Qi (H ++ B) H := by
 induction H with
 | nil => exact h
 | cons p H ih => exact .keep _ _ _ _ _ (YJ.refl _) ih
theorem Ak {b : Nat} {n : Nd} {out : List Ms} {H : Qd} (m : Ms) (hn : Bd n) (hi0 : -50000000000 ≤ m.index) (hi1 : m.index ≤ 50000000000) (ho : out.length ≤ 900) (hw : WkH b n out H) :
  FnH Tryz.prog 137 [pW b, ms m] H (fun r H' => r = .tup [] ∧ WkH b (ZW n m).1 (out ++ (ZW n m).2) H') := by
 have hb0 := hn.base0
 have hb1 := hn.base1
 have hlog := hn.log
 have hL := JG (Q0 n) (by show n.log.length ≤ _; omega) (by show _ ≤ n.base; omega) (by show n.base ≤ _; omega)
 refine fe Tryz.func137 fun S0 w0 => ?_
 show Sim _ _ [(0, pW b), (1, T.agg (msC m (ZM m.entries)))] _ _
 refine zC ?_
 apply cr
 refine X1 fun b3 _ => ?_
 refine zC ?_
 refine Ze 3 (by simp [msC]) ?_
 refine zC ?_
 refine cr <| s_ Qa <| s_ Y7 ?_
 refine QN (WX m (by omega) hw) (fun r H' ⟨hr, hw⟩ => ?_)
 subst hr
 refine s_ Yr <| zC ?_
 refine ci ?_ ?_
 ·intro hc
  have hlt : m.term < n.term := Decidable.not_not.1 hc
  rw [if_pos hlt, if_pos hlt] at hw
  refine zR ?_
  refine rh kR ⟨rfl, ?_⟩ (Le.refl _)
  rw [ZW, if_pos hlt]
  exact hw
 intro hc
 have hlt : ¬ m.term < n.term := fun h => hc (fun h' => h' h)
 rw [if_neg hlt, if_neg hlt] at hw
 have hw1 := hw
 obtain ⟨vl, vo, Hl, Ho, h1, h2, rfl⟩ := hw
 obtain ⟨p, c, rfl⟩ := h1.len
 obtain ⟨q, d, rfl⟩ := h2.len
 have hqb : (Q0 n).base = n.base := rfl
 have hcap : (n.log.map een).length ≤ c := OSl.cap h1
 refine zC ?_
 refine cr <| s_ Qa <| s_ Qe <| s_ Qc <| s_ Qc <| s_ Qj <| s_ Qb <| zC ?_
 refine ca [0, 1, 2, 3, 4, 5, 6, 7] [] <| a_ (fun _ => Qu) <| a_ (fun _ => Qm) <| a_ (fun _ => Qa) <| a_ (fun _ => Qe) <| a_ (fun _ => Qc) <| a_ (fun _ => Qc) <| QL ?_
 refine a_ (fun _ => Ys) ?_
 apply an
 refine zC ?_
 refine ci ?_ ?_
 ·intro hgt
  refine zC ?_
  refine cr <| s_ Qa <| s_ Qe <| s_ Qc <| s_ Xc <| s_ (WA hL (Qg.cons (QB.agg (QY (Q0 n) (h1.lend (by intro p hp; simp [hp])))) Qg.nil)) ?_
  have hT := UZ (Q0 n) m.index (by show n.log.length ≤ _; omega) (by simp only [big]; show _ ≤ n.base; omega) (by simp only [big]; show n.base ≤ _; omega) (by simp only [big]; omega) (by simp only [big]; omega)
  refine s_ Qa <| s_ QD <| s_ QD <| s_ Qb <| s_ Qb <| zC ?_
  refine cr <| s_ Qb <| zC ?_
  refine ca [0, 1, 2, 3, 4, 5, 6, 7, 8, 9, 10, 11, 12, 13, 14, 15, 16, 17, 18, 19, 20, 21, 22, 23, 24] [] <| a_ (fun _ => Qu) <| a_ (fun _ => Qm) <| a_ (fun _ => Qa) <| a_ (fun _ => Cz) <| a_ (fun _ => Qa) <| QK (fun _ hg => Qu) ?_
  refine QK (fun _ hg => Qm (hx := u_ hg)) ?_
  refine QK (fun _ hg => Qa) ?_
  refine QK (fun _ hg => Qe (hx := u_ hg)) ?_
  refine QK (fun _ hg => Qc (hx := u_ hg)) ?_
  refine QK (fun _ hg => Qc (hx := u_ hg)) ?_
  refine ZP ?_
  refine QK (fun _ hg => Ys (hx := u_ hg) (hy := u_ hg)) ?_
  refine a_ (fun _ => Yh) <| a_ (fun _ => Qa) <| QK (fun _ hg => Qa) ?_
  refine QK (fun _ hg => Qe (hx := u_ hg)) ?_
  refine QK (fun _ hg => Qc (hx := u_ hg)) ?_
  refine QK (fun _ hg => Qu) ?_
  refine QK (fun _ hg => Qm (hx := u_ hg)) ?_
  refine Nw (G := (b, _) :: (Hl ++ (Ho ++ []))) (fun _ => hT) (fun _ => Qg.cons (VD (n := Q0 n) h1 (by intro p hp; simp [hp]) List.mem_cons_self) (Qg.cons (QB.le (Le.refl _)) Qg.nil)) ⟨[], VU⟩ ?_ (fun hg => by refine Q1 (u_ hg) (Q1 (u_ hg) XZ))
  refine QK (fun _ hg => Qu) ?_
  refine QK (fun _ hg => Qm (hx := u_ hg)) ?_
  refine QK (fun _ hg => Xi (hx := u_ hg) (hy := u_ hg)) ?_
  refine a_ (fun _ => Yh) ?_
  apply an
  refine zC ?_
  refine ci ?_ ?_
  ·intro hr
   have hr' : (m.index ≤ QT n ∧ n.base < m.index) ∧ termF n m.index = m.logTerm := hr
   have hrest : Uu n m = n.log.drop (m.index - n.base).toNat := by rw [Uu, if_pos hr']
   have hlf : QT n = n.base + n.log.length := rfl
   obtain ⟨lo, hlo⟩ : ∃ lo : Nat, (lo : Int) = m.index - n.base := ⟨(m.index - n.base).toNat, by omega⟩
   have hlol : lo ≤ n.log.length := by omega
   have hs5 := (h1.sle (G := (b, ⟨tW, wkC (Q0 n) (.slice p (n.log.map een).length c) (.slice q (out.map ms).length d), 23⟩) :: (Hl ++ (Ho ++ []))) (by intro p hp; simp [hp]))
   have hs5' := SlE.sub hs5 (lo := lo) (hi := n.log.length) hlol (Nat.le_refl _)
   rw [List.take_of_length_le (by simp [Q0])] at hs5'
   obtain ⟨p5, c5, e5, hc5, hl5⟩ := hs5'
   refine zC ?_
   refine ca [0, 1, 2, 3, 4, 5, 6, 7, 8, 9, 10, 11, 12, 13, 14] [] <| a_ (fun _ => Qa) <| a_ (fun _ => Qe) <| a_ (fun _ => Qc) <| a_ (fun _ => Qc) <| QL ?_
   refine a_ (fun _ => Qu) <| a_ (fun _ => Qm) <| a_ (fun _ => Qa) <| a_ (fun _ => Qe) <| a_ (fun _ => Qc) <| a_ (fun _ => Qc) <| QL ?_
   refine a_ (fun _ => ZF) ?_
   rw [hqb, ← hlo]
   refine a_ (fun _ => OD (v := .slice p5 (n.log.drop lo).length c5) hcap (by rw [List.length_map, Int.toNat_natCast]; exact e5)) <| a_ (fun _ => Qb) ?_
   apply an
   refine zC ?_
   have hrl : Uu n m = n.log.drop lo := by rw [hrest, ← hlo, Int.toNat_natCast]
   refine zC ?_
   refine cr <| s_ Qa <| s_ Qa ?_
   refine BA (ZN false (n.log.drop lo) (by first | (simp; done) | (simp; omega))) (Qg.cons ((e5 ▸ hl5)) Qg.nil) OE.of ?_
   rintro r H1 ⟨v, rfl, ho⟩
   obtain ⟨p8, c8, rfl⟩ := ho.len
   refine Qy (List.perm_middle) ?_
   refine s_ Qe <| s_ Qc <| s_ Qc <| Qz ?_
   refine zC ?_
   refine ca [0, 1, 2, 3, 4, 5, 6, 7, 8, 9, 10, 11, 12, 13, 14, 15, 16, 17, 18, 19, 20, 21, 22, 23, 24, 25, 26, 27, 28, 29, 30, 31, 32, 33, 34] [18, 22, 26, 30, 34] <| a_ (fun _ => Qa) <| a_ (fun _ => Qa) <| a_ (fun _ => Qa) <| a_ (fun _ => Qa) <| a_ (fun _ => Qa) <| a_ (fun _ => Qu) <| a_ (fun _ => Qm) <| a_ (fun _ => Qu) <| a_ (fun _ => Qm) <| a_ (fun _ => Qu) <| a_ (fun _ => Qm) <| a_ (fun _ => Qu) <| a_ (fun _ => Qm) <| a_ (fun _ => Qu) <| a_ (fun _ => Qm) <| a_ (fun _ => Qe) <| a_ (fun _ => Qc) <| a_ (fun _ => Qc) <| XU ?_
   refine a_ (fun _ => Qe) <| a_ (fun _ => Qc) <| a_ (fun _ => Qc) <| XU ?_
   refine a_ (fun _ => Qe) <| a_ (fun _ => Qc) <| a_ (fun _ => Qc) <| XU ?_
   refine a_ (fun _ => Qe) <| a_ (fun _ => Qc) <| a_ (fun _ => Qc) <| XU ?_
   refine a_ (fun _ => Qe) <| a_ (fun _ => Qc) <| a_ (fun _ => Qc) <| XU ?_
   apply an
   refine zC ?_
   refine cr <| s_ Qa <| s_ Qu <| s_ Qm <| s_ Qu <| s_ Qm <| s_ Qa <| s_ V1 ?_
   refine QV (Hs := (b, _) :: (H1 ++ (Ho ++ []))) (Hr := Hl) (FnH.of_le ?_ (ZQ m.frm true (max m.index n.commit) (by omega) (show WkH b (J1 n m) out ((b, ⟨tW, wkC (J1 n m) (.slice p8 _ c8) (.slice q (out.map ms).length d), 23⟩) :: (H1 ++ (Ho ++ []))) from ⟨_, _, H1, Ho, (by rw [show (J1 n m).log = n.log.drop lo from hrl]; exact ho), h2, rfl⟩))) ?_ (fun r H' ⟨hr, h3⟩ => ?_)
   ·exact zM
   ·refine .cons _ ?_
    show List.Perm _ ((H1 ++ (Ho ++ [])) ++ Hl)
    rw [List.append_assoc]
    refine .append_left _ ?_
    exact List.perm_append_comm
   ·subst hr
    refine zC ?_
    refine rhn (H' := H') (N6 kN) ⟨rfl, ?_⟩ (Le.refl _)
    have hgt' : n.commit < m.index := hgt
    rw [ZW, if_neg hlt, if_pos hgt']
    exact h3
  ·intro hr
   have hr' : ¬ ((m.index ≤ QT n ∧ n.base < m.index) ∧ termF n m.index = m.logTerm) := hr
   have hrl : Uu n m = [] := by rw [Uu, if_neg hr']
   refine zC ?_
   refine cr <| s_ Qa <| s_ Qa ?_
   refine BA (ZN false [] (by first | (simp; done) | (simp; omega))) (Qg.cons (QB.le (Le.nil _)) Qg.nil) OE.of ?_
   rintro r H1 ⟨v, rfl, ho⟩
   obtain ⟨p8, c8, rfl⟩ := ho.len
   refine Qy (List.perm_middle) ?_
   refine s_ Qe <| s_ Qc <| s_ Qc <| Qz ?_
   refine zC ?_
   refine ca [0, 1, 2, 3, 4, 5, 6, 7, 8, 9, 10, 11, 12, 13, 14, 15, 16, 17, 18, 19, 20, 21, 22, 23, 24, 25, 26, 27, 28, 29, 30, 31, 32, 33, 34] [18, 22, 26, 30, 34] <| a_ (fun _ => Qa) <| a_ (fun _ => Qa) <| a_ (fun _ => Qa) <| a_ (fun _ => Qa) <| a_ (fun _ => Qa) <| a_ (fun _ => Qu) <| a_ (fun _ => Qm) <| a_ (fun _ => Qu) <| a_ (fun _ => Qm) <| a_ (fun _ => Qu) <| a_ (fun _ => Qm) <| a_ (fun _ => Qu) <| a_ (fun _ => Qm) <| a_ (fun _ => Qu) <| a_ (fun _ => Qm) <| a_ (fun _ => Qe) <| a_ (fun _ => Qc) <| a_ (fun _ => Qc) <| XU ?_
   refine a_ (fun _ => Qe) <| a_ (fun _ => Qc) <| a_ (fun _ => Qc) <| XU ?_
   refine a_ (fun _ => Qe) <| a_ (fun _ => Qc) <| a_ (fun _ => Qc) <| XU ?_
   refine a_ (fun _ => Qe) <| a_ (fun _ => Qc) <| a_ (fun _ => Qc) <| XU ?_
   refine a_ (fun _ => Qe) <| a_ (fun _ => Qc) <| a_ (fun _ => Qc) <| XU ?_
   apply an
   refine zC ?_
   refine cr <| s_ Qa <| s_ Qu <| s_ Qm <| s_ Qu <| s_ Qm <| s_ Qa <| s_ V1 ?_
   refine QV (Hs := (b, _) :: (H1 ++ (Ho ++ []))) (Hr := Hl) (FnH.of_le ?_ (ZQ m.frm true (max m.index n.commit) (by omega) (show WkH b (J1 n m) out ((b, ⟨tW, wkC (J1 n m) (.slice p8 _ c8) (.slice q (out.map ms).length d), 23⟩) :: (H1 ++ (Ho ++ []))) from ⟨_, _, H1, Ho, (by rw [show (J1 n m).log = [] from hrl]; exact ho), h2, rfl⟩))) ?_ (fun r H' ⟨hr, h3⟩ => ?_)
   ·exact zM
   ·refine .cons _ ?_
    show List.Perm _ ((H1 ++ (Ho ++ [])) ++ Hl)
    rw [List.append_assoc]
    refine .append_left _ ?_
    exact List.perm_append_comm
   ·subst hr
    refine zC ?_
    refine rhn (H' := H') (N6 kN) ⟨rfl, ?_⟩ (Le.refl _)
    have hgt' : n.commit < m.index := hgt
    rw [ZW, if_neg hlt, if_pos hgt']
    exact h3
 ·intro hgt
  refine zC ?_
  refine cr <| s_ Qa <| s_ Qu <| s_ Qm <| s_ Qu <| s_ Qm <| s_ Qa <| s_ V1 ?_
  refine QN (FnH.of_le ?_ (ZQ m.frm true (max m.index n.commit) (by omega) hw1)) (fun r H' ⟨hr, h3⟩ => ?_)
  ·exact zM
  ·subst hr
   refine zC ?_
   refine rhn kR ⟨rfl, ?_⟩ (Le.refl _)
   have hgt' : ¬ n.commit < m.index := hgt
   rw [ZW, if_neg hlt, if_neg hgt']
   exact h3
def Xw (n : Nd) : Nd × List Ms := if n.role = 2 then (n, Yk n (Z5 n) 5) else if ¬ isF (Qx n).2 n.id = true then (n, []) else
 if 5 + 3 * n.id ≤ n.wait + 1 ∧ n.term < 1073741824 then Yn { n with wait := n.wait + 1 } else ({ n with wait := n.wait + 1 }, [])
theorem Yp (n : Nd) (h : Bd n) : n.log.length ≤ 1000000000 := by have := h.log; omega
theorem OI {n : Nd} (hn : Bd n) (hl : n.log.length < 100000000) : Bd (XF n) := (hn.lead hl).commit
theorem I1 {n : Nd} (hn : Bd n) (hl : n.log.length < 100000000) : Bd (Yn n).1 := by
 unfold Yn
 split
 ·exact OI hn.stand hl
 ·exact hn.stand
theorem tick_fn {n : Nd} (hn : Bd n) (hl : n.log.length < 100000000) (ht0 : 0 ≤ n.term) (ht1 : n.term ≤ 1000000000000) (hw0 : 0 ≤ n.wait) (hw1 : n.wait ≤ 1000000000) (hx : ∀ i, n.next.get i ≤ 100000000000) :
  FnP Tryz.prog 76 [nd n] (fun r => r = .tup [nd (Xw n).1, mss (Xw n).2]) := by
 have hC := Vx n (Yp n hn) (by have := hn.base0; omega) (by have := hn.base1; omega)
 have hI := C2 (Qx n).2 n.id hn.id0 hn.id5 hn.conf0 hn.conf1
 have hW := V6 n (Yp n hn)
 have hi0 := hn.id0
 have hi5 := hn.id5
 refine fe Tryz.func76 fun S0 w0 => ?_
 show Sim _ _ [(0, T.agg (Qs n (.sl false (n.log.map een))))] _ _
 refine zC ?_
 apply cr
 refine X1 fun b1 _ => ?_
 refine X2 fun b2 _ => ?_
 refine s_ Qb <| zC ?_
 refine XS (List.Perm.swap _ _ _) ?_
 refine Ze 1 (by simp [Qs]) ?_
 refine zC ?_
 refine cr <| s_ Y7 ?_
 refine QV (Hs := []) (Hr := [_]) hW (.refl _) (fun r H' ⟨b, hr, hw⟩ => ?_)
 subst hr
 have hw' := hw
 obtain ⟨vl, vo, Hl, Ho, h1, h2, rfl⟩ := hw
 obtain ⟨p, c, rfl⟩ := h1.len
 obtain ⟨q, d, rfl⟩ := h2.len
 refine s_ Qb <| zC ?_
 refine cr <| s_ Qa <| s_ Qe <| s_ Qc <| s_ Qc <| s_ Qj <| s_ Xi <| zC ?_
 refine ci ?_ ?_
 ·intro hr
  refine zC ?_
  refine cr <| s_ Qa <| s_ Qa <| s_ Vc ?_
  refine QV (OF hn hx (by simp) hw') (.refl _) (fun r H' ⟨hr, h3⟩ => ?_)
  subst hr
  refine zC ?_
  refine cr <| s_ Qa ?_
  refine QV (Yu (Yp n hn) h3) (.refl _) (fun r H' ⟨hr, hr2⟩ => ?_)
  subst hr hr2
  refine s_ QD <| s_ QD <| Qz ?_
  refine s_ Qb <| zC ?_
  refine zE ?_
  rw [Xw, if_pos hr]
  exact Le.refl _
 ·intro hr
  refine zC ?_
  refine ca [0, 1, 2, 3, 4, 5] [] <| a_ (fun _ => Y7) <| a_ (fun _ => QM (hC)) <| a_ (fun _ => Qu) <| a_ (fun _ => Qm) <| a_ (fun _ => QM (hI)) <| a_ (fun _ => Yr) ?_
  apply an
  refine zC ?_
  refine ci ?_ ?_
  ·intro hm
   refine zC ?_
   refine cr <| s_ Qa ?_
   refine QV (Yu (Yp n hn) hw') (.refl _) (fun r H' ⟨hr, hr2⟩ => ?_)
   subst hr hr2
   refine s_ QD <| s_ QD <| Qz ?_
   refine s_ Qb <| zC ?_
   refine zE ?_
   rw [Xw, if_neg hr, if_pos hm]
   exact Le.refl _
  ·intro hm
   have hn1 : Bd { n with wait := n.wait + 1 } := hn.of
   refine zC ?_
   refine cr <| s_ Qa <| s_ Qe <| s_ Qc <| s_ Qc <| s_ Qj <| s_ Q6 <| s_ Qe <| s_ Qc <| s_ Qc <| Qz ?_
   refine zC ?_
   refine ca [0, 1, 2, 3, 4, 5, 6, 7, 8, 9, 10, 11, 12, 13, 14, 15, 16, 17, 18, 19, 20] [] <| a_ (fun _ => Qa) <| a_ (fun _ => Qe) <| a_ (fun _ => Qc) <| a_ (fun _ => Qc) <| QL ?_
   refine a_ (fun _ => Qa) <| a_ (fun _ => Qe) <| a_ (fun _ => Qc) <| a_ (fun _ => Qc) <| QL ?_
   refine a_ (fun _ => T1) <| a_ (fun _ => Q6) <| a_ (fun _ => Vd) <| a_ (fun _ => Qa) <| QK (fun _ hg => Qa) ?_
   refine QK (fun _ hg => Qe (hx := u_ hg)) ?_
   refine QK (fun _ hg => Qc (hx := u_ hg)) ?_
   refine QK (fun _ hg => Qc (hx := u_ hg)) ?_
   refine ZP ?_
   refine QK (fun _ hg => Q2 (hx := u_ hg)) ?_
   refine a_ (fun _ => Yh) ?_
   apply an
   refine zC ?_
   refine ci ?_ ?_
   ·intro hs
    refine zC ?_
    refine cr <| s_ Qa ?_
    refine QV (I0 hn1 hl ht0 (by simp only; omega) (by simp) (show WkH b { n with wait := n.wait + 1 } [] _ from ⟨_, _, Hl, Ho, h1, h2, rfl⟩)) (.refl _) (fun r H' ⟨hr, h3⟩ => ?_)
    subst hr
    refine zC ?_
    refine cr <| s_ Qa ?_
    refine QV (Yu (Yp _ (I1 hn1 hl)) h3) (.refl _) (fun r H' ⟨hr, hr2⟩ => ?_)
    subst hr hr2
    refine s_ QD <| s_ QD <| Qz ?_
    refine s_ Qb <| zC ?_
    refine zE ?_
    have hs' : 5 + 3 * n.id ≤ n.wait + 1 ∧ n.term < 1073741824 := hs
    rw [Xw, if_neg hr, if_neg hm, if_pos hs']
    exact Le.refl _
   ·intro hs
    refine zC ?_
    refine cr <| s_ Qa ?_
    refine QV (Yu (Yp _ hn1) (show WkH b { n with wait := n.wait + 1 } [] _ from ⟨_, _, Hl, Ho, h1, h2, rfl⟩)) (.refl _) (fun r H' ⟨hr, hr2⟩ => ?_)
    subst hr hr2
    refine s_ QD <| s_ QD <| Qz ?_
    refine s_ Qb <| zC ?_
    refine zE ?_
    have hs' : ¬ (5 + 3 * n.id ≤ n.wait + 1 ∧ n.term < 1073741824) := hs
    rw [Xw, if_neg hr, if_neg hm, if_neg hs']
    exact Le.refl _
def G5 (n : Nd) (m : Ms) : Prop := (((m.frm < 0 ∨ 5 ≤ m.frm) ∨ m.frm = n.id) ∨ ¬ m.to = n.id) ∨ (((m.kind < 1 ∨ 5 < m.kind) ∨ m.term < 0) ∨ 1073741824 < m.term)
instance (n : Nd) (m : Ms) : Decidable (G5 n m) := by unfold G5; infer_instance
def upN (n : Nd) (m : Ms) : Nd := if n.term < m.term then { n with term := m.term, vote := -1, role := 0, votes := 0 } else n
def LJ (n : Nd) (m : Ms) : Nd × List Ms := if m.kind = 1 then (Yj n m, [QG (Yj n m) m.frm (YR (Lt n m))]) else if m.kind = 2 then Ym n m else if m.kind = 3 then Ud n m else
 if m.kind = 4 then X9 n m else ZW n m
def Xn (n : Nd) (m : Ms) : Nd × List Ms := if G5 n m then (n, []) else LJ (upN n m) m
def NA : Nd := ⟨0, 0, 0, 0, 0, 0, [], [], 0, 0, 0, 0, .all 0, .all 0⟩
structure MBd (n : Nd) (m : Ms) : Prop where
 i0 : -50000000000 ≤ m.index
 i1 : m.index ≤ 50000000000
 es : n.log.length + m.entries.length ≤ 100000000
structure NBd (n : Nd) : Prop where
 log : n.log.length < 100000000
 v0 : 0 ≤ n.votes
 v1 : n.votes ≤ 31
 x0 : ∀ i, -100000000000 ≤ n.next.get i
 x1 : ∀ i, n.next.get i ≤ 50000000000
 m0 : ∀ i, -100000000000 ≤ n.mtch.get i
 m1 : ∀ i, n.mtch.get i ≤ 50000000000
theorem MM (n : Nd) (m : Ms) : ∃ t v r w, upN n m = { n with term := t, vote := v, role := r, votes := w } ∧ (w = 0 ∨ w = n.votes) := by
 unfold upN
 split
 ·exact ⟨_, _, _, _, rfl, .inl rfl⟩
 ·exact ⟨_, _, _, _, rfl, .inr rfl⟩
theorem Bd.up {n : Nd} (m : Ms) (h : Bd n) : Bd (upN n m) := by
 obtain ⟨_, _, _, _, e, _⟩ := MM n m
 rw [e]; exact h.of
theorem NBd.up {n : Nd} (m : Ms) (h : NBd n) : NBd (upN n m) := by
 obtain ⟨_, _, _, _, e, hw⟩ := MM n m
 have h0 := h.v0
 have h1 := h.v1
 rw [e]; exact ⟨h.log, by simp only; omega, by simp only; omega, h.x0, h.x1, h.m0, h.m1⟩
theorem MBd.up {n : Nd} {m : Ms} (h : MBd n m) : MBd (upN n m) m := by
 obtain ⟨_, _, _, _, e, hw⟩ := MM n m
 rw [e]; exact ⟨h.i0, h.i1, h.es⟩
theorem Rh {n : Nd} (m : Ms) (hn : Bd n) (hl : n.log.length < 100000000) : Bd (Ym n m).1 := by
 unfold Ym
 split
 ·exact hn
 ·split
  ·exact OI hn.of hl
  ·exact hn.of
theorem IR {n : Nd} (m : Ms) (hn : Bd n) : Bd (Yj n m) := by
 unfold Yj
 split
 ·exact hn.of
 ·exact hn
theorem R7 {n : Nd} (m : Ms) (hn : Bd n) : Bd (X9 n m).1 := by
 unfold X9
 split
 ·exact hn
 ·split
  ·exact (hn.of (n' := Z9 n m)).commit
  ·split <;> exact hn.of
theorem B0 {n : Nd} {m : Ms} (hl : n.log.length + m.entries.length ≤ 100000000) : (Ud n m).1.log.length ≤ 100000000 := by
 unfold Ud
 split
 ·simp only; omega
 ·split
  ·simp only [Q0]; omega
  ·split
   ·simp only [Q0]; omega
   ·have := WN n m m.entries.length
    simp only [G8]; omega
theorem Rq {n : Nd} {m : Ms} (hl : n.log.length ≤ 100000000) : (ZW n m).1.log.length ≤ 100000000 := by
 unfold ZW
 split
 ·exact hl
 ·split
  ·simp only [J1, Uu]
   split
   ·simp; omega
   ·simp
  ·exact hl
theorem take_fn {n : Nd} {m : Ms} (hn : Bd n) (hN : NBd n) (hM : G5 n m ∨ MBd n m) : FnP Tryz.prog 100 [nd n, ms m] (fun r => r = .tup [nd (Xn n m).1, mss (Xn n m).2]) := by
 have hW := V6 n (Yp n hn)
 refine fe Tryz.func100 fun S0 w0 => ?_
 show Sim _ _ [(0, T.agg (Qs n (.sl false (n.log.map een)))), (1, T.agg (msC m (ZM m.entries)))] _ _
 refine zC ?_
 apply cr
 refine X1 fun b2 _ => ?_
 refine X1 fun b3 _ => ?_
 refine X2 fun b4 _ => ?_
 refine s_ Qb <| zC ?_
 refine XS (List.perm_append_comm (l₁ := [_])) ?_
 refine Ze 3 (by simp [msC]) ?_
 refine Ze 2 (by simp [Qs]) ?_
 refine zC ?_
 refine cr <| s_ Y7 ?_
 refine QV (Hs := []) (Hr := [_]) hW (.refl _) (fun r H' ⟨b, hr, hw⟩ => ?_)
 subst hr
 have hw' := hw
 obtain ⟨vl, vo, Hl, Ho, h1, h2, rfl⟩ := hw
 obtain ⟨p, c, rfl⟩ := h1.len
 obtain ⟨q, d, rfl⟩ := h2.len
 refine s_ Qb <| zC ?_
 refine ca [0, 1, 2, 3, 4, 5, 6, 7, 8, 9, 10, 11, 12, 13, 14, 15, 16, 17, 18, 19, 20, 21, 22, 23, 24, 25, 26, 27, 28] [] <| a_ (fun _ => Qu) <| a_ (fun _ => Qm) <| a_ (fun _ => Q2) <| a_ (fun _ => Qa) <| Xq (fun _ hg => Qu) ?_
 refine Xq (fun _ hg => Qm (hx := u_ hg)) ?_
 refine Xq (fun _ hg => Vd (hx := u_ hg)) ?_
 refine a_ (fun _ => YK) <| a_ (fun _ => Qa) <| Xq (fun _ hg => Qu) ?_
 refine Xq (fun _ hg => Qm (hx := u_ hg)) ?_
 refine Xq (fun _ hg => Qa) ?_
 refine Xq (fun _ hg => Qe (hx := u_ hg)) ?_
 refine Xq (fun _ hg => Qc (hx := u_ hg)) ?_
 refine Xq (fun _ hg => Qc (hx := u_ hg)) ?_
 refine VM ?_
 refine Xq (fun _ hg => Xi (hx := u_ hg) (hy := u_ hg)) ?_
 refine a_ (fun _ => YK) <| a_ (fun _ => Qa) <| Xq (fun _ hg => Qu) ?_
 refine Xq (fun _ hg => Qm (hx := u_ hg)) ?_
 refine Xq (fun _ hg => Qa) ?_
 refine Xq (fun _ hg => Qe (hx := u_ hg)) ?_
 refine Xq (fun _ hg => Qc (hx := u_ hg)) ?_
 refine Xq (fun _ hg => Qc (hx := u_ hg)) ?_
 refine VM ?_
 refine Xq (fun _ hg => Yg (hx := u_ hg) (hy := u_ hg)) ?_
 refine a_ (fun _ => YK) <| a_ (fun _ => Qb) ?_
 apply an
 refine zC ?_
 refine ci ?_ ?_
 ·intro hb
  refine zC ?_
  refine cr <| s_ Qa ?_
  refine QV (Yu (Yp n hn) hw') (.refl _) (fun r H' ⟨hr, hr2⟩ => ?_)
  subst hr hr2
  refine s_ QD <| s_ QD <| Qz ?_
  refine s_ Qb <| zC ?_
  refine zE ?_
  have hbad : G5 n m := .inl hb
  rw [Xn, if_pos hbad]
  exact Le.refl _
 intro hb
 refine zC ?_
 refine cr <| s_ Qu <| s_ Qm <| s_ Q2 <| s_ Qa <| gF (fun hg => Qu) ?_
 refine gF (fun hg => Qm (hx := u_ hg)) ?_
 refine gF (fun hg => Ys (hx := u_ hg)) ?_
 refine s_ YK <| s_ Qa <| gF (fun hg => Qu) ?_
 refine gF (fun hg => Qm (hx := u_ hg)) ?_
 refine gF (fun hg => Q2 (hx := u_ hg)) ?_
 refine s_ YK <| s_ Qa <| gF (fun hg => Qu) ?_
 refine gF (fun hg => Qm (hx := u_ hg)) ?_
 refine gF (fun hg => Ys (hx := u_ hg)) ?_
 refine s_ YK <| s_ Qb <| zC ?_
 refine ci ?_ ?_
 ·intro hb2
  refine zC ?_
  refine cr <| s_ Qa ?_
  refine QV (Yu (Yp n hn) hw') (.refl _) (fun r H' ⟨hr, hr2⟩ => ?_)
  subst hr hr2
  refine s_ QD <| s_ QD <| Qz ?_
  refine s_ Qb <| zC ?_
  refine zE ?_
  have hbad : G5 n m := .inr hb2
  rw [Xn, if_pos hbad]
  exact Le.refl _
 intro hb2
 have hbad : ¬ G5 n m := fun h => h.elim hb hb2
 have hM : MBd n m := hM.resolve_left hbad
 have hfr : 0 ≤ m.frm ∧ m.frm < 5 := by omega
 have hu := hn.up m
 have hNu := hN.up m
 have hMu := hM.up
 have hlu := hNu.log
 have hle := hMu.es
 have hi0 := hM.i0
 have hi1 := hM.i1
 have hv0 := hNu.v0
 have hv1 := hNu.v1
 have hx0 := hNu.x0
 have hx1 := hNu.x1
 have hm0 := hNu.m0
 have hm1 := hNu.m1
 refine zC ?_
 refine ca [0, 1, 2, 3, 4, 5, 6, 7] [] <| a_ (fun _ => Qu) <| a_ (fun _ => Qm) <| a_ (fun _ => Qa) <| a_ (fun _ => Qe) <| a_ (fun _ => Qc) <| a_ (fun _ => Qc) <| QL ?_
 refine a_ (fun _ => Ys) ?_
 apply an
 refine zC ?_
 show Sim _ _ _ _ (LQ _ _ _)
 refine Zh [(6, pW b), (3, .adr (.agg (msC m (ZM m.entries)))), (4, .v (.pointer (some ⟨b4, 0, none⟩)))] ((b, ⟨tW, wkC (upN n m) (.slice p (n.log.map een).length c) (.slice q (List.length ([].map ms)) d), 23⟩) :: (Hl ++ (Ho ++ [])) ++ [(b4, (⟨44, Qs NA (.v (.slice none 0 0)), 22⟩ : Blk))]) ?_ ?_
 ·refine ci ?_ ?_
  ·intro hgt
   refine zC ?_
   refine cr <| s_ Qa <| s_ Qa <| s_ Qa <| s_ Qa <| s_ Qu <| s_ Qm <| s_ Qe <| s_ Qc <| s_ Qc <| Qz ?_
   refine s_ Qe <| s_ Qc <| s_ Qc <| Qz ?_
   refine s_ Qe <| s_ Qc <| s_ Qc <| Qz ?_
   refine s_ Qe <| s_ Qc <| s_ Qc <| Qz ?_
   refine zC ?_
   have hgt' : n.term < m.term := hgt
   have e : upN n m = { n with term := m.term, vote := -1, role := 0, votes := 0 } := by rw [upN, if_pos hgt']
   rw [e]
   exact ⟨eL, kR⟩
  ·intro hgt
   refine zC ?_
   have hgt' : ¬ n.term < m.term := hgt
   have e : upN n m = n := by rw [upN, if_neg hgt']
   rw [e]
   exact ⟨eL, kR⟩
 have hlog : (upN n m).log = n.log := by
  obtain ⟨_, _, _, _, e, _⟩ := MM n m
  rw [e]
 have hw : WkH b (upN n m) [] ((b, ⟨tW, wkC (upN n m) (.slice p (n.log.map een).length c) (.slice q (List.length (([] : List Ms).map ms)) d), 23⟩) :: (Hl ++ (Ho ++ []))) := ⟨_, _, Hl, Ho, by rw [hlog]; exact h1, h2, rfl⟩
 refine zC ?_
 refine cr <| s_ Qu <| s_ Qm <| zC ?_
 refine cr <| s_ Xi <| s_ Qb <| zC ?_
 refine ci ?_ ?_
 ·intro hk1
  refine zC ?_
  refine cr <| s_ Qa <| s_ Y7 ?_
  refine QV (B9 m hu (by simp) hw) (.refl _) (fun r H' ⟨hr, h3⟩ => ?_)
  subst hr
  refine zC ?_
  refine zC ?_
  refine zC ?_
  refine cr <| s_ Qa ?_
  refine QV (Yu (Yp _ (IR m hu)) h3) (.refl _) (fun r H' ⟨hr, hr2⟩ => ?_)
  subst hr hr2
  refine s_ QD <| s_ QD <| Qz ?_
  refine s_ Qb <| zC ?_
  refine zE ?_
  rw [Xn, if_neg hbad, LJ, if_pos hk1]
  exact Le.refl _
 ·intro hk1
  refine zC ?_
  refine cr <| s_ Xi <| s_ Qb <| zC ?_
  refine ci ?_ ?_
  ·intro hk2
   refine zC ?_
   refine cr <| s_ Qa <| s_ Y7 ?_
   refine QV (IQ m hu hlu hv0 hv1 (by omega) (by omega) (by simp) hw) (.refl _) (fun r H' ⟨hr, h3⟩ => ?_)
   subst hr
   refine zC ?_
   refine zC ?_
   refine zC ?_
   refine cr <| s_ Qa ?_
   refine QV (Yu (Yp _ (Rh m hu hlu)) h3) (.refl _) (fun r H' ⟨hr, hr2⟩ => ?_)
   subst hr hr2
   refine s_ QD <| s_ QD <| Qz ?_
   refine s_ Qb <| zC ?_
   refine zE ?_
   rw [Xn, if_neg hbad, LJ, if_neg hk1, if_pos hk2]
   exact Le.refl _
  ·intro hk2
   refine zC ?_
   refine cr <| s_ Xi <| s_ Qb <| zC ?_
   refine ci ?_ ?_
   ·intro hk3
    refine zC ?_
    refine cr <| s_ Qa <| s_ Y7 ?_
    refine QV (Ny m hu hle hi0 hi1 (by simp) hw) (.refl _) (fun r H' ⟨hr, h3⟩ => ?_)
    subst hr
    refine zC ?_
    refine zC ?_
    refine zC ?_
    refine cr <| s_ Qa ?_
    refine QV (Yu (by have := B0 hle; omega) h3) (.refl _) (fun r H' ⟨hr, hr2⟩ => ?_)
    subst hr hr2
    refine s_ QD <| s_ QD <| Qz ?_
    refine s_ Qb <| zC ?_
    refine zE ?_
    rw [Xn, if_neg hbad, LJ, if_neg hk1, if_neg hk2, if_pos hk3]
    exact Le.refl _
   ·intro hk3
    refine zC ?_
    refine cr <| s_ Xi <| s_ Qb <| zC ?_
    refine ci ?_ ?_
    ·intro hk4
     refine zC ?_
     refine cr <| s_ Qa <| s_ Y7 ?_
     refine QV (C5 m hu (by omega) (by omega) (hx0 _) (hx1 _) (hm0 _) (hm1 _) (by omega) (by omega) (by simp) hw) (.refl _) (fun r H' ⟨hr, h3⟩ => ?_)
     subst hr
     refine zC ?_
     refine zC ?_
     refine zC ?_
     refine cr <| s_ Qa ?_
     refine QV (Yu (Yp _ (R7 m hu)) h3) (.refl _) (fun r H' ⟨hr, hr2⟩ => ?_)
     subst hr hr2
     refine s_ QD <| s_ QD <| Qz ?_
     refine s_ Qb <| zC ?_
     refine zE ?_
     rw [Xn, if_neg hbad, LJ, if_neg hk1, if_neg hk2, if_neg hk3, if_pos hk4]
     exact Le.refl _
    ·intro hk4
     refine zC ?_
     refine cr <| s_ Xi <| s_ Qb <| zC ?_
     refine ci ?_ ?_
     ·intro hk5
      refine zC ?_
      refine cr <| s_ Qa <| s_ Y7 ?_
      refine QV (Ak m hu (by omega) (by omega) (by simp) hw) (.refl _) (fun r H' ⟨hr, h3⟩ => ?_)
      subst hr
      refine zC ?_
      refine zC ?_
      refine zC ?_
      refine cr <| s_ Qa ?_
      refine QV (Yu (by have := Rq (n := upN n m) (m := m) hu.log; omega) h3) (.refl _) (fun r H' ⟨hr, hr2⟩ => ?_)
      subst hr hr2
      refine s_ QD <| s_ QD <| Qz ?_
      refine s_ Qb <| zC ?_
      refine zE ?_
      rw [Xn, if_neg hbad, LJ, if_neg hk1, if_neg hk2, if_neg hk3, if_neg hk4]
      exact Le.refl _
     ·intro hk5
      exfalso
      exact hb2 (by omega)
def Nm (e : En) : List Value := [.int .i64 e.term, .int .i64 e.conf, .string (bs e.cmd)]
theorem Lc {a b : En} : Nm a = Nm b ↔ a = b := by
 constructor
 ·intro h
  simp only [Nm, List.cons.injEq, Value.int.injEq, Value.string.injEq, true_and, and_true] at h
  cases a; cases b
  simp only at h
  rw [h.1, h.2.1, BQ h.2.2]
 ·intro h; rw [h]
theorem Bs (f f' : Bool) (l m : List En) (hl : l.length ≤ 1000000000) (hm : m.length ≤ 1000000000) : FnP Tryz.prog 160 [.sl f (l.map een), .sl f' (m.map een)] (fun r => r = .v (.bool (decide (l = m)))) := by
 refine fe Tryz.func160 fun S0 w0 => ?_
 show Sim _ _ [(0, T.sl f (l.map een)), (1, T.sl f' (m.map een))] _ _
 refine zC ?_
 refine cr <| s_ Qb <| zC ?_
 refine cr <| s_ Qa ?_
 (first | refine s_ QX ?_ | refine s_ QQ ?_)
 refine s_ Qa ?_
 (first | refine s_ QX ?_ | refine s_ QQ ?_)
 refine s_ Yg <| zC ?_
 refine ci ?_ ?_
 ·intro hne
  refine zC ?_
  refine cr <| s_ Qb <| zC ?_
  refine zE ?_
  refine Le.of_eq ?_
  rw [show decide (l = m) = false from decide_eq_false (fun h => hne (by rw [h]))]
  rfl
 intro hne
 have hlen : l.length = m.length := by simp only [List.length_map] at hne; omega
 refine zC ?_
 refine cr <| s_ Qa ?_
 (first | refine s_ QX ?_ | refine s_ QQ ?_)
 refine s_ Qa <| zC ?_
 apply Qp (σ := Nat) (ok := fun k => k ≤ l.length ∧ l.take k = m.take k) (env := fun k => [(13, ei (k : Nat)), (12, ei ((l.map een).length : Nat)), (0, T.sl f (l.map een)), (1, T.sl f' (m.map een))]) (heap := fun _ => []) (μ := fun k => l.length - k) (s0 := 0)
 ·exact ⟨Nat.zero_le _, by simp⟩
 ·exact eL
 ·exact kR
 rintro k ⟨hk, htk⟩
 refine zC ?_
 refine cr <| s_ Q2 <| zC ?_
 refine ci ?_ ?_
 ·intro hlt
  simp only [List.length_map] at hlt
  have hkl : k < l.length := by omega
  have hkm : k < m.length := by omega
  have hix := hkl
  have hix2 := hkm
  refine zC ?_
  refine cr <| s_ Qa <| s_ Qb <| zC ?_
  refine ca [0, 1, 2, 3, 4, 5, 6, 7, 8] [] <| a_ (fun _ => Qa) <| a_ (fun _ => Qa) ?_
  (first | refine a_ (fun _ => Xh hix) ?_ | refine a_ (fun _ => Xh hix2) ?_ | refine a_ (fun _ => YM) ?_ | refine a_ (fun _ => Y8) ?_)
  (first | refine a_ (fun _ => Y7) ?_ | refine YI ?_)
  refine a_ (fun _ => Qa) <| a_ (fun _ => Qa) ?_
  (first | refine a_ (fun _ => Xh hix) ?_ | refine a_ (fun _ => Xh hix2) ?_ | refine a_ (fun _ => YM) ?_ | refine a_ (fun _ => Y8) ?_)
  (first | refine a_ (fun _ => Y7) ?_ | refine YI ?_)
  refine a_ (fun _ => NN 2 [.int .i64, .int .i64, .str] Tryz.eqGuardType84) ?_
  apply an
  refine zC ?_
  refine ci ?_ ?_
  ·intro hd
   refine zC ?_
   refine cr <| s_ Qb <| zC ?_
   refine zE ?_
   refine Le.of_eq ?_
   rw [show decide (l = m) = false from decide_eq_false (fun h => hd (by subst h; rfl))]
   rfl
  ·intro hd
   have he : l[k] = m[k] := Lc.1 (Classical.not_not.1 hd)
   refine zC ?_
   refine cr <| s_ Q6 <| s_ Qa <| zC ?_
   refine ⟨k + 1, ⟨by omega, ?_⟩, by show l.length - (k + 1) < l.length - k; omega, ⟨Qh (by rfl) (Le.refl _), eL⟩, kR⟩
   rw [List.take_succ_eq_append_getElem hkl, List.take_succ_eq_append_getElem hkm, htk, he]
 ·intro hlt
  simp only [List.length_map] at hlt
  have hkl : k = l.length := by omega
  have he : l = m := by
   have := htk
   rwa [hkl, List.take_length, hlen, List.take_length] at this
  refine zC ?_
  refine cr <| s_ Qb <| zC ?_
  refine zE ?_
  refine Le.of_eq ?_
  rw [show decide (l = m) = true from decide_eq_true he]
  rfl
def AO (n : Nd) : List T := [ei n.id, ei n.term, ei n.vote, ei n.base, ei n.baseTerm, ei n.baseConf, ei n.commit, ei n.role, ei n.wait, ei n.votes] ++ (f5C n.next ++ f5C n.mtch)
theorem TG (n : Nd) : FnP Tryz.prog 159 [nd n] (fun r => r = .agg (AO n)) := by
 refine fe Tryz.func159 fun S0 w0 => ?_
 show Sim _ _ [(0, T.agg (Qs n (.sl false (n.log.map een))))] _ _
 refine zC ?_
 apply cr
 refine X1 fun b1 _ => ?_
 refine X2 fun b2 _ => ?_
 refine zC ?_
 refine XS (List.Perm.swap _ _ _) ?_
 refine Ze 1 (by simp [Qs]) ?_
 refine zC ?_
 refine cr <| s_ Qu <| s_ Qm <| s_ Qu <| s_ Qm <| s_ Qu <| s_ Qm <| s_ Qu <| s_ Qm <| s_ Qu <| s_ Qm <| s_ Qu <| s_ Qm <| s_ Qu <| s_ Qm <| s_ Qu <| s_ Qm <| s_ Qu <| s_ Qm <| s_ Qu <| s_ Qm <| s_ L5 <| s_ Y7 <| s_ L5 <| s_ Y7 <| s_ (NV 20) <| Qz ?_
 refine zC ?_
 refine zE ?_
 exact Le.refl _
theorem Cb (a b : Nd) : ((AO a).map (fun x => match x with | .v y => y | _ => undef) = (AO b).map (fun x => match x with | .v y => y | _ => undef) ∧ a.snap = b.snap) ∧ a.log = b.log ↔ a = b := by
 constructor
 ·rintro ⟨⟨h, h1⟩, h2⟩
  obtain ⟨_, _, _, _, _, _, _, _, _, _, _, _, ⟨_, _, _, _, _⟩, ⟨_, _, _, _, _⟩⟩ := a
  obtain ⟨_, _, _, _, _, _, _, _, _, _, _, _, ⟨_, _, _, _, _⟩, ⟨_, _, _, _, _⟩⟩ := b
  simp only [AO, f5C, ei, List.map_cons, List.map_nil, List.cons_append, List.nil_append, List.cons.injEq, Value.int.injEq, true_and, and_true] at h
  simp only at h1 h2
  simp only [Nd.mk.injEq, F5.mk.injEq]
  simp_all
 ·rintro rfl; simp
theorem Ap (a b : Nd) (ha : a.log.length ≤ 1000000000) (hb : b.log.length ≤ 1000000000) : FnP Tryz.prog 139 [nd a, nd b] (fun r => r = .v (.bool (decide (a = b)))) := by
 have h1 := TG a
 have h2 := TG b
 have he := Bs false false a.log b.log ha hb
 refine fe Tryz.func139 fun S0 w0 => ?_
 show Sim _ _ [(0, T.agg (Qs a (.sl false (a.log.map een)))), (1, T.agg (Qs b (.sl false (b.log.map een))))] _ _
 refine zC ?_
 apply cr
 refine X1 fun b2 _ => ?_
 refine X1 fun b3 _ => ?_
 refine s_ Qb <| zC ?_
 refine Ze 3 (by simp [Qs]) ?_
 refine Ze 2 (by simp [Qs]) ?_
 refine zC ?_
 refine ca [0, 1, 2, 3, 4, 5, 6, 7, 8, 9, 10, 11, 12, 13, 14, 15, 16, 17, 18, 19] [] <| a_ (fun _ => Y7) <| a_ (fun _ => QM (h1)) <| a_ (fun _ => Y7) <| a_ (fun _ => QM (h2)) <| a_ (fun _ => TD 3 [.int .i64, .int .i64, .int .i64, .int .i64, .int .i64, .int .i64, .int .i64, .int .i64, .int .i64, .int .i64, .int .i64, .int .i64, .int .i64, .int .i64, .int .i64, .int .i64, .int .i64, .int .i64, .int .i64, .int .i64] Tryz.eqGuardType200) <| a_ (fun _ => Qa) <| QK (fun _ hg => Qu) ?_
 refine QK (fun _ hg => Qm (hx := u_ hg)) ?_
 refine QK (fun _ hg => Qu) ?_
 refine QK (fun _ hg => Qm (hx := u_ hg)) ?_
 refine QK (fun _ hg => TC (hx := u_ hg) (hy := u_ hg)) ?_
 refine a_ (fun _ => Yh) <| a_ (fun _ => Qa) <| QK (fun _ hg => Qu) ?_
 refine QK (fun _ hg => Qm (hx := u_ hg)) ?_
 refine QK (fun _ hg => Qu) ?_
 refine QK (fun _ hg => Qm (hx := u_ hg)) ?_
 refine QK (fun _ hg => QM (he) (ha' := by apply Q1 (u_ hg); apply Q1 (u_ hg); exact XZ)) ?_
 refine a_ (fun _ => Yh) <| a_ (fun _ => Qb) ?_
 apply an
 refine zC ?_
 refine zE ?_
 refine Le.of_eq (congrArg (fun z => T.v (.bool z)) ?_)
 rw [decide_eq_decide]
 exact Cb a b
theorem Mz (f : Bool) (l : List En) (hl : l.length ≤ 1000000000) : FnP Tryz.prog 72 [.sl f (l.map een)] (fun r => r = ZM l) :=
 FnH.give (ZN f l hl) (by rintro r H ⟨v, rfl, ho⟩; exact ho.lend fun _ h => h)
def QA (n : Nd) : Nd := { n with role := 0, wait := 0, votes := 0, next := .all 0, mtch := .all 0 }
theorem ML (n : Nd) (hl : n.log.length ≤ 1000000000) : FnP Tryz.prog 68 [nd n] (fun r => r = nd (QA n)) := by
 have hc := Mz false n.log hl
 refine fe Tryz.func68 fun S0 w0 => ?_
 show Sim _ _ [(0, T.agg (Qs n (.sl false (n.log.map een))))] _ _
 refine zC ?_
 apply cr
 refine X1 fun b1 _ => ?_
 refine X2 fun b2 _ => ?_
 refine zC ?_
 refine XS (List.Perm.swap _ _ _) ?_
 refine Ze 1 (by simp [Qs]) ?_
 refine zC ?_
 refine ca [0, 1, 2, 3, 4, 5, 6, 7, 8, 9, 10, 11, 12, 13, 14, 15, 16, 17, 18, 19, 20] [20] <| a_ (fun _ => Qu) <| a_ (fun _ => Qm) <| a_ (fun _ => Qu) <| a_ (fun _ => Qm) <| a_ (fun _ => Qu) <| a_ (fun _ => Qm) <| a_ (fun _ => Qu) <| a_ (fun _ => Qm) <| a_ (fun _ => Qu) <| a_ (fun _ => Qm) <| a_ (fun _ => Qu) <| a_ (fun _ => Qm) <| a_ (fun _ => Qu) <| a_ (fun _ => Qm) <| a_ (fun _ => Qu) <| a_ (fun _ => Qm) <| a_ (fun _ => QM (hc)) <| a_ (fun _ => Qu) <| a_ (fun _ => Qm) <| a_ (fun _ => NV 22) <| XU ?_
 apply an
 refine zC ?_
 refine zE ?_
 exact Le.refl _
def XD (n : Nd) (cmd : List UInt8) : Nd × Int × Int := if ¬ n.role = 2 then (n, 0, 21) else if cmd = [] then (n, 0, 1) else (MV n ⟨0, 0, cmd⟩, n.base + (n.log.length + 1), 0)
theorem At {n : Nd} (cmd : List UInt8) (hn : Bd n) (hl : n.log.length < 100000000) : FnP Tryz.prog 71 [nd n, es cmd] (fun r => r = .tup [nd (XD n cmd).1, ei (XD n cmd).2.1, ei (XD n cmd).2.2]) := by
 have hW := V6 n (Yp n hn)
 refine fe Tryz.func71 fun S0 w0 => ?_
 show Sim _ _ [(0, T.agg (Qs n (.sl false (n.log.map een)))), (1, es cmd)] _ _
 refine zC ?_
 apply cr
 refine X1 fun b2 _ => ?_
 refine X2 fun b4 _ => ?_
 refine s_ Qb <| s_ Qb <| zC ?_
 refine XS (List.Perm.swap _ _ _) ?_
 refine Ze 2 (by simp [Qs]) ?_
 refine zC ?_
 refine cr <| s_ Y7 ?_
 refine QV (Hs := []) (Hr := [_]) hW (.refl _) (fun r H' ⟨b, hr, hw⟩ => ?_)
 subst hr
 have hw' := hw
 obtain ⟨vl, vo, Hl, Ho, h1, h2, rfl⟩ := hw
 obtain ⟨p, c, rfl⟩ := h1.len
 obtain ⟨q, d, rfl⟩ := h2.len
 refine s_ Qb <| zC ?_
 refine cr <| s_ Qa <| s_ Qe <| s_ Qc <| s_ Qc <| s_ Qj <| s_ Yg <| s_ Qb <| zC ?_
 refine ci ?_ ?_
 ·intro hr
  refine zC ?_
  refine cr <| s_ Qa <| s_ Qe <| s_ Qc <| s_ Xc ?_
  refine ZK (G := (b, _) :: (Hl ++ (Ho ++ []))) (H1 := [_]) 20 (nd n) (QB.agg (QY n (h1.lend (by intro p hp; simp [hp])))) ?_ (.refl _)
  refine Qz ?_
  refine s_ Qb <| s_ Qb <| zC ?_
  refine zC ?_
  refine zE ?_
  rw [XD, if_pos hr]
  exact Le.refl _
 intro hr
 refine zC ?_
 refine cr <| s_ Qa <| s_ TC <| s_ Qb <| zC ?_
 refine ci ?_ ?_
 ·intro hc
  refine zC ?_
  refine cr <| s_ Qa <| s_ Qe <| s_ Qc <| s_ Xc ?_
  refine ZK (G := (b, _) :: (Hl ++ (Ho ++ []))) (H1 := [_]) 27 (nd n) (QB.agg (QY n (h1.lend (by intro p hp; simp [hp])))) ?_ (.refl _)
  refine Qz ?_
  refine s_ Qb <| s_ Qb <| zC ?_
  refine zC ?_
  refine zE ?_
  rw [XD, if_neg hr, if_pos hc]
  exact Le.refl _
 intro hc
 refine zC ?_
 refine cr <| s_ Qa <| s_ Qa <| s_ (ZG 3 [_, _, _]) ?_
 refine QV (FnH.of_le ?_ (Cm ⟨0, 0, cmd⟩ hn hl (by simp) (by simp) hw')) (.refl _) (fun r H' ⟨hr1, hr2⟩ => ?_)
 ·exact zM
 subst hr1 hr2
 refine s_ QD <| s_ QD <| s_ QD <| Qz ?_
 refine s_ Qb <| s_ Qb <| zC ?_
 refine zE ?_
 rw [XD, if_neg hr, if_neg hc]
 exact Le.refl _
def Lu (a b : Int) : Int := (a.toNat ^^^ b.toNat : Nat)
theorem TO {x y : Int} (h0 : 0 ≤ x) (h1 : x ≤ 31) (h2 : 0 ≤ y) (h3 : y ≤ 31) : IntKind.u64.wrap (V4 .i64 x y) = Lu x y ∧ 0 ≤ Lu x y ∧ Lu x y ≤ 31 := by
 have key : ∀ i : Fin 32, ∀ j : Fin 32, IntKind.u64.wrap (V4 .i64 i.val j.val) = Lu i.val j.val ∧ 0 ≤ Lu i.val j.val ∧ Lu i.val j.val ≤ 31 := by decide +kernel
 obtain ⟨i, rfl⟩ := Mm h0 h1
 obtain ⟨j, rfl⟩ := Mm h2 h3
 exact key i j
def QS (n : Nd) (conf : Int) : Nd × Int × Int := if ¬ n.role = 2 then (n, 0, 21) else if (conf < 1 ∨ 31 < conf) ∨ ¬ Uq (Lu conf (Qx n).2) = 1 then (n, 0, 1) else
 if n.commit < (Qx n).1 ∨ ¬ termF n n.commit = n.term then (n, 0, 23) else (MV n ⟨0, conf, []⟩, n.base + (n.log.length + 1), 0)
theorem Iv {n : Nd} (conf : Int) (hn : Bd n) (hl : n.log.length < 100000000) (hc0 : -big ≤ n.commit) (hc1 : n.commit ≤ big) : FnP Tryz.prog 77 [nd n, ei conf] (fun r => r = .tup [nd (QS n conf).1, ei (QS n conf).2.1, ei (QS n conf).2.2]) := by
 have hW := V6 n (Yp n hn)
 have hb0 := hn.base0
 have hb1 := hn.base1
 have hC := Dw n (Yp n hn) (by omega) (by omega)
 have hT := UZ n n.commit (Yp n hn) (by simp only [big]; omega) (by simp only [big]; omega) hc0 hc1
 refine fe Tryz.func77 fun S0 w0 => ?_
 show Sim _ _ [(0, T.agg (Qs n (.sl false (n.log.map een)))), (1, ei conf)] _ _
 refine zC ?_
 apply cr
 refine X1 fun b2 _ => ?_
 refine X2 fun b4 _ => ?_
 refine s_ Qb <| s_ Qb <| zC ?_
 refine XS (List.Perm.swap _ _ _) ?_
 refine Ze 2 (by simp [Qs]) ?_
 refine zC ?_
 refine cr <| s_ Y7 ?_
 refine QV (Hs := []) (Hr := [_]) hW (.refl _) (fun r H' ⟨b, hr, hw⟩ => ?_)
 subst hr
 have hw' := hw
 obtain ⟨vl, vo, Hl, Ho, h1, h2, rfl⟩ := hw
 obtain ⟨p, c, rfl⟩ := h1.len
 obtain ⟨q, d, rfl⟩ := h2.len
 refine s_ Qb <| zC ?_
 refine cr <| s_ Qa <| s_ Qe <| s_ Qc <| s_ (AM (G := (b, _) :: (Hl ++ (Ho ++ []))) hC (Qg.cons (VD h1 (by intro p hp; simp [hp]) List.mem_cons_self) Qg.nil) ⟨[_], .refl _⟩) <| s_ Qa <| s_ QD <| s_ QD <| s_ Qb <| s_ Qb <| zC ?_
 refine cr <| s_ Qa <| s_ Qe <| s_ Qc <| s_ Qc <| s_ Qj <| s_ Yg <| s_ Qb <| zC ?_
 refine ci ?_ ?_
 ·intro hr
  refine zC ?_
  refine cr <| s_ Qa <| s_ Qe <| s_ Qc <| s_ Xc ?_
  refine ZK (G := (b, _) :: (Hl ++ (Ho ++ []))) (H1 := [_]) 29 (nd n) (QB.agg (QY n (h1.lend (by intro p hp; simp [hp])))) ?_ (.refl _)
  refine Qz ?_
  refine s_ Qb <| s_ Qb <| zC ?_
  refine zC ?_
  refine zE ?_
  rw [QS, if_pos hr]
  exact Le.refl _
 intro hr
 have hones : ¬ (conf < 1 ∨ 31 < conf) → FnP Tryz.prog 109 [.v (.int .u64 (IntKind.u64.wrap (V4 .i64 conf (Qx n).2)))] (fun r => r = ei (Uq (Lu conf (Qx n).2))) := by
  intro h
  have hx := TO (x := conf) (y := (Qx n).2) (by omega) (by omega) hn.conf0 hn.conf1
  rw [hx.1]
  exact M8 _ hx.2.1 hx.2.2
 refine zC ?_
 refine cr <| s_ Qa <| s_ Q2 <| s_ Qa <| gF (fun hg => Qa) ?_
 refine gF (fun hg => Ys (hx := u_ hg)) ?_
 refine s_ YK <| s_ Qa <| gF (fun hg => Qa) ?_
 refine gF (fun hg => Qa) ?_
 refine gF (fun hg => OC (hx := u_ hg) (hy := u_ hg)) ?_
 refine gF (fun hg => Yw (hx := u_ hg)) ?_
 refine gF (p := conf < 1 ∨ 31 < conf) (fun hg => QM (hones hg) (ha' := by refine Q1 (u_ hg) ?_; exact XZ)) ?_
 refine gF (fun hg => Yg (hx := u_ hg)) ?_
 refine s_ YK <| s_ Qb <| zC ?_
 refine ci ?_ ?_
 ·intro hc
  refine zC ?_
  refine cr <| s_ Qa <| s_ Qe <| s_ Qc <| s_ Xc ?_
  refine ZK (G := (b, _) :: (Hl ++ (Ho ++ []))) (H1 := [_]) 48 (nd n) (QB.agg (QY n (h1.lend (by intro p hp; simp [hp])))) ?_ (.refl _)
  refine Qz ?_
  refine s_ Qb <| s_ Qb <| zC ?_
  refine zC ?_
  refine zE ?_
  rw [QS, if_neg hr, if_pos hc]
  exact Le.refl _
 intro hc
 refine zC ?_
 refine ca [0, 1, 2, 3, 4, 5, 6, 7, 8, 9, 10, 11, 12, 13, 14, 15, 16, 17, 18, 19, 20, 21, 22, 23, 24] [] <| a_ (fun _ => Qa) <| a_ (fun _ => Qa) <| a_ (fun _ => Qe) <| a_ (fun _ => Qc) <| a_ (fun _ => Qc) <| QL ?_
 refine a_ (fun _ => Ys) <| a_ (fun _ => Qa) <| Xq (fun _ hg => Qa) ?_
 refine Xq (fun _ hg => Qe (hx := u_ hg)) ?_
 refine Xq (fun _ hg => Qc (hx := u_ hg)) ?_
 refine Xq (fun _ hg => Qa) ?_
 refine Xq (fun _ hg => Qe (hx := u_ hg)) ?_
 refine Xq (fun _ hg => Qc (hx := u_ hg)) ?_
 refine Xq (fun _ hg => Qc (hx := u_ hg)) ?_
 refine VM ?_
 refine BZ (G := (b, _) :: (Hl ++ (Ho ++ []))) (fun _ => hT) (fun _ => Qg.cons (VD h1 (by intro p hp; simp [hp]) List.mem_cons_self) (Qg.cons (QB.le (Le.refl _)) Qg.nil)) ⟨[_], .refl _⟩ ?_ (fun hg => by refine Q1 (u_ hg) (Q1 (u_ hg) XZ))
 refine Xq (fun _ hg => Qa) ?_
 refine Xq (fun _ hg => Qe (hx := u_ hg)) ?_
 refine Xq (fun _ hg => Qc (hx := u_ hg)) ?_
 refine Xq (fun _ hg => Qc (hx := u_ hg)) ?_
 refine VM ?_
 refine Xq (fun _ hg => Yg (hx := u_ hg) (hy := u_ hg)) ?_
 refine a_ (fun _ => YK) <| a_ (fun _ => Qb) ?_
 apply an
 refine zC ?_
 refine ci ?_ ?_
 ·intro he
  refine zC ?_
  refine cr <| s_ Qa <| s_ Qe <| s_ Qc <| s_ Xc ?_
  refine ZK (G := (b, _) :: (Hl ++ (Ho ++ []))) (H1 := [_]) 77 (nd n) (QB.agg (QY n (h1.lend (by intro p hp; simp [hp])))) ?_ (.refl _)
  refine Qz ?_
  refine s_ Qb <| s_ Qb <| zC ?_
  refine zC ?_
  refine zE ?_
  rw [QS, if_neg hr, if_neg hc, if_pos he]
  exact Le.refl _
 intro he
 refine zC ?_
 refine cr <| s_ Qa <| s_ Qa <| s_ (ZG 3 [_, _, _]) ?_
 refine QV (FnH.of_le ?_ (Cm ⟨0, conf, []⟩ hn hl (by simp only; omega) (by simp only; omega) hw')) (.refl _) (fun r H' ⟨hr1, hr2⟩ => ?_)
 ·exact zM
 subst hr1 hr2
 refine s_ QD <| s_ QD <| s_ QD <| Qz ?_
 refine s_ Qb <| s_ Qb <| zC ?_
 refine zE ?_
 rw [QS, if_neg hr, if_neg hc, if_neg he]
 exact Le.refl _

end Go.Proofs.YtjbokbikkcfjjaaGreat
namespace Go.Proofs.YtjbokbikkcfjjaaGreat
namespace Raft
variable {H : Xm}
theorem Ga {T : Int} {i : Nat} {l : List En} (F : Qo H) (hn : ∀ v, ¬ H.vote T v i) : XC 0 i H (H.stand T i l) := by
 refine ⟨Uf hn, fun j n l' hj h => h.ext F (Uf hn) ?_ ?_ (fun _ h _ => h) (fun _ _ h => .inl h) (fun _ _ _ => rfl), Nat.le_refl _⟩
 ·rintro T' c (h | ⟨_, h, _⟩)
  ·exact h
  ·exact absurd h hj
 ·rintro T' v (h | ⟨_, _, h⟩)
  ·exact ⟨v, h⟩
  ·exact absurd h hj
theorem Ia {T : Int} {i f : Nat} (F : Qo H) (hf : H.vote T f f) : XC 0 i H (H.give T i f) := by
 refine ⟨WV, fun j n l' hj h => h.ext F WV ?_ ?_ (fun _ h _ => h) (fun _ _ h => .inl h) (fun _ _ _ => rfl), Nat.le_refl _⟩
 ·rintro T' c (h | ⟨_, h, _⟩)
  ·exact h
  ·exact absurd h hj
 ·rintro T' v (h | ⟨h1, _, h⟩)
  ·exact ⟨v, h⟩
  ·exact ⟨f, by rw [h1, h]; exact hf⟩
theorem G4 {T : Int} {i : Nat} {e : En} (F : Qo H) (hn : ¬ H.led T) : XC 1 i H (H.begin T i e) := by
 refine ⟨Up hn, fun j n l' hj h => h.ext F (Up hn) (fun _ _ h => h) (fun _ v h => ⟨v, h⟩) ?_ (fun _ _ h => .inl h) (fun t h _ => if_neg (Vu hn h)), Nat.le_refl _⟩
 rintro T' (h | rfl) h2
 ·exact h
 ·exact absurd ((if_pos rfl).symm.trans h2).symm hj
theorem Cn {T : Int} {i : Nat} {e : En} (F : Qo H) (hi : H.ld T = i) : XC 1 i H (H.put T e) := by
 refine ⟨Wb, fun j n l' hj h => h.ext F Wb (fun _ _ h => h) (fun _ v h => ⟨v, h⟩) (fun _ h _ => h) (fun _ _ h => .inl h) (fun t h h2 => if_neg ?_), Nat.le_refl _⟩
 rintro rfl
 exact hj (h2.symm.trans hi)
theorem UV {T : Int} {i k : Nat} (F : Qo H) : XC 0 i H (H.agree T i k) := by
 refine ⟨Js, fun j n l' hj h => h.ext F Js (fun _ _ h => h) (fun _ v h => ⟨v, h⟩) (fun _ h _ => h) ?_ (fun _ _ _ => rfl), Nat.le_refl _⟩
 rintro S x (h | ⟨_, h, _⟩)
 ·exact .inl h
 ·exact absurd h hj
theorem Lf {T : Int} {k n : Nat} (F : Qo H) {j : Nat} {x : Nd} {l : List En} (h : NI H j x l) : NI (H.commit T k n) j x l :=
 h.ext F UO (fun _ _ h => h) (fun _ v h => ⟨v, h⟩) (fun _ h _ => h) (fun _ _ h => .inl h) (fun _ _ _ => rfl)
theorem ER {T : Int} {i k n : Nat} (F : Qo H) : XC 0 i H (H.commit T k n) := ⟨UO, fun _ _ _ _ h => Lf F h, Nat.le_refl _⟩
theorem Df (l : List En) : ∀ k, k ≤ l.length → match lc l k with
  | none => ∀ j, j < k → (l.getD j default).conf = 0
  | some (j, c) => j < k ∧ (l.getD j default).conf = c ∧ c ≠ 0 ∧ ∀ i, j < i → i < k → (l.getD i default).conf = 0
 | 0, _ => by simp [lc]
 | k + 1, hk => by
  have ih := Df l k (by omega)
  rw [lc]
  by_cases h : (l.getD k default).conf ≠ 0
  ·rw [if_pos h]
   exact ⟨by omega, rfl, h, fun i h1 h2 => by omega⟩
  ·rw [if_neg h]
   have h0 : (l.getD k default).conf = 0 := Decidable.not_not.1 h
   cases hc : lc l k with
   | none =>
    rw [hc] at ih
    intro j hj
    rcases Nat.lt_or_ge j k with h1 | h1
    ·exact ih j h1
    ·rw [show j = k by omega]; exact h0
   | some p =>
    obtain ⟨j, c⟩ := p
    rw [hc] at ih
    obtain ⟨h1, h2, h3, h4⟩ := ih
    refine ⟨by omega, h2, h3, fun i h5 h6 => ?_⟩
    rcases Nat.lt_or_ge i k with h7 | h7
    ·exact h4 i h5 h7
    ·rw [show i = k by omega]; exact h0
theorem Dm {l : List En} {j : Nat} {e : En} (h : l[j]? = some e) : l.getD j default = e := by simp [List.getD_eq_getElem?_getD, h]
theorem AU (l : List En) (c0 : Int) : QI c0 l = match lc l l.length with
  | none => c0
  | some (_, c) => c := by
 have h := Df l l.length (Nat.le_refl _)
 cases hc : lc l l.length with
 | none =>
  rw [hc] at h
  refine UN _ _ fun e he => ?_
  obtain ⟨j, hj⟩ := List.mem_iff_getElem?.1 he
  have := h j (List.getElem?_eq_some_iff.1 hj).1
  rw [Dm hj] at this; exact this
 | some p =>
  obtain ⟨j, c⟩ := p
  rw [hc] at h
  obtain ⟨h1, h2, h3, h4⟩ := h
  have hj : l[j]? = some l[j] := List.getElem?_eq_getElem h1
  rw [Dm hj] at h2
  rw [Un hj (by rw [h2]; exact h3) (fun i e hi he => by
   have := h4 i hi (List.getElem?_eq_some_iff.1 he).1
   rw [Dm he] at this; exact this)]
  exact h2
section
variable {i : Nat} {n : Nd} {l : List En}
theorem NI.last (h : NI H i n l) : QT n = (l.length : Nat) := by
 obtain ⟨b, h1, h2, h3, _⟩ := h.base
 rw [QT, h3, h1, List.length_drop]
 omega
theorem NI.bnat (h : NI H i n l) : ∃ b : Nat, n.base = b ∧ b ≤ l.length ∧ n.log = l.drop b ∧ n.log.length = l.length - b := by
 obtain ⟨b, h1, h2, h3, _⟩ := h.base
 exact ⟨b, h1, h2, h3, by rw [h3, List.length_drop]⟩
theorem NI.termF (h : NI H i n l) {k : Nat} (h1 : n.base ≤ k) (h2 : k ≤ l.length) : Go.Proofs.YtjbokbikkcfjjaaGreat.termF n k = tAt l k := by
 obtain ⟨b, hb, hbl, hlog, hbt, _⟩ := h.base
 have hlen : n.log.length = l.length - b := by rw [hlog, List.length_drop]
 unfold Go.Proofs.YtjbokbikkcfjjaaGreat.termF
 split
 ·rename_i hc
  obtain ⟨j, rfl⟩ : ∃ j, k = j + 1 := ⟨k - 1, by omega⟩
  have hx : ((j + 1 : Nat) : Int) - n.base - 1 = ((j - b : Nat) : Int) := by omega
  rw [hx, Int.toNat_natCast, hlog, tAt, List.getD_eq_getElem?_getD, List.getElem?_drop, show b + (j - b) = j by omega, ← List.getD_eq_getElem?_getD]
 ·rename_i hc
  have : k = b := by omega
  rw [this, hbt]
theorem NI.conf (h : NI H i n l) : (Qx n).2 = QI H.c0 l := by
 obtain ⟨b, hb, hbl, hlog, hbt, hbc⟩ := h.base
 rw [show QI H.c0 l = QI (QI H.c0 (l.take b)) (l.drop b) by rw [← VH, List.take_append_drop], ← hbc, ← hlog, AU]
 unfold Qx
 cases lc n.log n.log.length with
 | none => rfl
 | some p => rfl
theorem NI.confAt (h : NI H i n l) {j : Nat} {e : En} (he : l[j]? = some e) (hc : e.conf ≠ 0) : (j : Int) < (Qx n).1 := by
 obtain ⟨b, hb, hbl, hlog, hbt, hbc⟩ := h.base
 have hs := Df n.log n.log.length (Nat.le_refl _)
 have hjl : j < l.length := (List.getElem?_eq_some_iff.1 he).1
 have hlen : n.log.length = l.length - b := by rw [hlog, List.length_drop]
 unfold Qx
 rcases Nat.lt_or_ge j b with hj | hj
 ·cases lc n.log n.log.length with
  | none => show (j : Int) < n.base; omega
  | some p => show (j : Int) < n.base + p.1 + 1; omega
 ·have hg : n.log.getD (j - b) default = e := by
   rw [hlog, List.getD_eq_getElem?_getD, List.getElem?_drop, show b + (j - b) = j by omega, he]; rfl
  cases hcc : lc n.log n.log.length with
  | none =>
   rw [hcc] at hs
   exact absurd (by rw [← hg]; exact hs _ (by omega)) hc
  | some p =>
   obtain ⟨q, c⟩ := p
   rw [hcc] at hs
   obtain ⟨h1, h2, h3, h4⟩ := hs
   show (j : Int) < n.base + q + 1
   rcases Nat.lt_or_ge q (j - b) with h5 | h5
   ·exact absurd (by rw [← hg]; exact h4 _ h5 (by omega)) hc
   ·omega
theorem R4 (l : List En) : ZJ l = tAt l l.length := by
 unfold ZJ
 rw [List.getLast?_eq_getElem?]
 cases l with
 | nil => rfl
 | cons e l =>
  simp only [tAt, List.length_cons, Nat.add_sub_cancel, List.getD_eq_getElem?_getD]
  have h : (e :: l)[l.length]? = some (e :: l)[l.length] := List.getElem?_eq_getElem (by simp)
  rw [h]; rfl
theorem NI.lastTerm (h : NI H i n l) : Go.Proofs.YtjbokbikkcfjjaaGreat.termF n (QT n) = ZJ l := by
 obtain ⟨b, hb, hbl, _⟩ := h.bnat
 rw [h.last, h.termF (by omega) (Nat.le_refl _), R4]
theorem J7 (f : F5) {i j : Nat} (hi : i < 5) (hj : j < 5) (v : Int) : (f.set i v).get j = if j = i then v else f.get j := by
 rcases (by omega : i = 0 ∨ i = 1 ∨ i = 2 ∨ i = 3 ∨ i = 4) with rfl | rfl | rfl | rfl | rfl <;> rcases (by omega : j = 0 ∨ j = 1 ∨ j = 2 ∨ j = 3 ∨ j = 4) with rfl | rfl | rfl | rfl | rfl <;> rfl
theorem NI.still (h : NI H i n l) {w : Int} : NI H i { n with wait := w } l := ⟨h.id, h.t0, h.t1, h.base, h.com, h.cons, h.terms, h.votel, h.vote, h.stood, h.votes0, h.votes1, h.sz, h.cand, fun hr => by
 have := h.lead hr
 exact ⟨this.led, this.ld, this.log, this.mt, this.nx⟩, h.acks⟩
theorem NI.quiet (h : NI H i n l) {w : Int} : NI H i { n with role := 0, wait := w } l := ⟨h.id, h.t0, h.t1, h.base, h.com, h.cons, h.terms, h.votel, h.vote, h.stood, h.votes0, h.votes1, h.sz, (fun hr => by simp [QA] at hr), (fun hr => by simp [QA] at hr), h.acks⟩
theorem NI.wake (h : NI H i n l) : NI H i (QA n) l := ⟨h.id, h.t0, h.t1, h.base, h.com, h.cons, h.terms, h.votel, h.vote, h.stood, by simp [QA], by simp [QA], fun j hj => by
 have : (F5.all 0).get j = 0 := F5.get_all 0 j
 simp only [QA, this]; omega, (fun hr => by simp [QA] at hr), (fun hr => by simp [QA] at hr), h.acks⟩
theorem NI.up (h : NI H i n l) {m : Ms} (hm : m.term ≤ 1073741824) : NI H i (upN n m) l := by
 unfold upN
 split
 ·rename_i hlt
  refine ⟨h.id, by simp only; have := h.t0; omega, hm, h.base, ?_, h.cons, fun j e he => ?_, fun T c hc => ?_, fun c => ⟨fun hc => ?_, fun hc => ?_⟩, fun T v hc => ?_, by simp, by simp, h.sz, (fun hr => by simp [QA] at hr), (fun hr => by simp [QA] at hr), fun S k hk => ?_⟩
  ·obtain ⟨c, h1, h2, h3, h4⟩ := h.com
   exact ⟨c, h1, h2, h3, h4.up (by simp only; omega)⟩
  ·have := h.terms j e he; simp only; omega
  ·have := h.votel T c hc; simp only; omega
  ·have := h.votel _ c hc; simp only at this; omega
  ·simp only at hc; omega
  ·have := h.stood T v hc; simp only; omega
  ·obtain ⟨h1, h2⟩ := h.acks S k hk
   refine ⟨by simp only; omega, ?_⟩
   rcases h2 with h2 | ⟨t, h2, h3, h4⟩
   ·exact .inl h2
   ·exact .inr ⟨t, h2, by simp only; omega, h4⟩
 ·exact h
theorem Ab (n : Nd) (m : Ms) : (upN n m).term = max n.term m.term := by
 unfold upN
 split
 ·simp only; omega
 ·omega
end
end Raft
end Go.Proofs.YtjbokbikkcfjjaaGreat
