/-
  replica: Tick.
-/
import Derived.Test.YtjbokbikkcfjjaaGreatAam
set_option maxRecDepth 16000
set_option maxHeartbeats 8000000
set_option linter.all false
namespace Go.Proofs.YtjbokbikkcfjjaaGreat
open Go.Cap
attribute [local irreducible] POp Qf TO EOp Sim FnH T.gp
def Xh (n : Nd) : Nd × List Ms := if n.role = 2 then (n, XP n (Zq n) 5) else if ¬ isF (QD n).2 n.id = true then (n, []) else
 if 5 + 3 * n.id ≤ n.wait + 1 ∧ n.term < 1073741824 then XU { n with wait := n.wait + 1 } else ({ n with wait := n.wait + 1 }, [])
theorem YM (n : Nd) (h : Bd n) : n.log.length ≤ 1000000000 := by have := h.log; omega
theorem Gs {n : Nd} (hn : Bd n) (hl : n.log.length < 100000000) : Bd (Q5 n) := (hn.lead hl).commit
theorem RO {n : Nd} (hn : Bd n) (hl : n.log.length < 100000000) : Bd (XU n).1 := by
 unfold XU
 split
 ·exact Gs hn.stand hl
 ·exact hn.stand
theorem tick_fn {n : Nd} (hn : Bd n) (hl : n.log.length < 100000000) (ht0 : 0 ≤ n.term) (ht1 : n.term ≤ 1000000000000) (hw0 : 0 ≤ n.wait) (hw1 : n.wait ≤ 1000000000) (hx : ∀ i, n.next.get i ≤ 100000000000) :
  FnP Tryz.prog 76 [nd n] (fun r => r = .tup [nd (Xh n).1, mss (Xh n).2]) := by
 have hC := VE n (YM n hn) (by have := hn.base0; omega) (by have := hn.base1; omega)
 have hI := IF (QD n).2 n.id hn.id0 hn.id5 hn.conf0 hn.conf1
 have hW := LO n (YM n hn)
 have hi0 := hn.id0
 have hi5 := hn.id5
 refine fe Tryz.func76 fun S0 w0 => ?_
 show Sim _ _ [(0, T.agg (Qv n (.sl false (n.log.map een))))] _ _
 refine zC ?_
 apply cr
 refine X1 fun b1 _ => ?_
 refine Yd fun b2 _ => ?_
 refine s_ Qb <| zC ?_
 refine XV (List.Perm.swap _ _ _) ?_
 refine Zt 1 (by simp [Qv]) ?_
 refine zC ?_
 refine cr <| s_ Y6 ?_
 refine Q2 (Hs := []) (Hr := [_]) hW (.refl _) (fun r H' ⟨b, hr, hw⟩ => ?_)
 subst hr
 have hw' := hw
 obtain ⟨vl, vo, Hl, Ho, h1, h2, rfl⟩ := hw
 obtain ⟨p, c, rfl⟩ := h1.len
 obtain ⟨q, d, rfl⟩ := h2.len
 refine s_ Qb <| zC ?_
 refine cr <| s_ Qa <| s_ Qe <| s_ Qd <| s_ Qd <| s_ Ql <| s_ XF <| zC ?_
 refine ci ?_ ?_
 ·intro hr
  refine zC ?_
  refine cr <| s_ Qa <| s_ Qa <| s_ UE ?_
  refine Q2 (Gl hn hx (by simp) hw') (.refl _) (fun r H' ⟨hr, h3⟩ => ?_)
  subst hr
  refine zC ?_
  refine cr <| s_ Qa ?_
  refine Q2 (Yg (YM n hn) h3) (.refl _) (fun r H' ⟨hr, hr2⟩ => ?_)
  subst hr hr2
  refine s_ QH <| s_ QH <| Qz ?_
  refine s_ Qb <| zC ?_
  refine zE ?_
  rw [Xh, if_pos hr]
  exact Le.refl _
 ·intro hr
  refine zC ?_
  refine ca [0, 1, 2, 3, 4, 5] [] <| a_ (fun _ => Y6) <| a_ (fun _ => QQ (hC)) <| a_ (fun _ => Qu) <| a_ (fun _ => Qm) <| a_ (fun _ => QQ (hI)) <| a_ (fun _ => YA) ?_
  apply an
  refine zC ?_
  refine ci ?_ ?_
  ·intro hm
   refine zC ?_
   refine cr <| s_ Qa ?_
   refine Q2 (Yg (YM n hn) hw') (.refl _) (fun r H' ⟨hr, hr2⟩ => ?_)
   subst hr hr2
   refine s_ QH <| s_ QH <| Qz ?_
   refine s_ Qb <| zC ?_
   refine zE ?_
   rw [Xh, if_neg hr, if_pos hm]
   exact Le.refl _
  ·intro hm
   have hn1 : Bd { n with wait := n.wait + 1 } := hn.of
   refine zC ?_
   refine cr <| s_ Qa <| s_ Qe <| s_ Qd <| s_ Qd <| s_ Ql <| s_ QY <| s_ Qe <| s_ Qd <| s_ Qd <| Qz ?_
   refine zC ?_
   refine ca [0, 1, 2, 3, 4, 5, 6, 7, 8, 9, 10, 11, 12, 13, 14, 15, 16, 17, 18, 19, 20] [] <| a_ (fun _ => Qa) <| a_ (fun _ => Qe) <| a_ (fun _ => Qd) <| a_ (fun _ => Qd) <| QJ ?_
   refine a_ (fun _ => Qa) <| a_ (fun _ => Qe) <| a_ (fun _ => Qd) <| a_ (fun _ => Qd) <| QJ ?_
   refine a_ (fun _ => Aw) <| a_ (fun _ => QY) <| a_ (fun _ => Vo) <| a_ (fun _ => Qa) <| QF (fun _ hg => Qa) ?_
   refine QF (fun _ hg => Qe (hx := u_ hg)) ?_
   refine QF (fun _ hg => Qd (hx := u_ hg)) ?_
   refine QF (fun _ hg => Qd (hx := u_ hg)) ?_
   refine Zz ?_
   refine QF (fun _ hg => QU (hx := u_ hg)) ?_
   refine a_ (fun _ => XX) ?_
   apply an
   refine zC ?_
   refine ci ?_ ?_
   ·intro hs
    refine zC ?_
    refine cr <| s_ Qa ?_
    refine Q2 (RL hn1 hl ht0 (by simp only; omega) (by simp) (show WkH b { n with wait := n.wait + 1 } [] _ from ⟨_, _, Hl, Ho, h1, h2, rfl⟩)) (.refl _) (fun r H' ⟨hr, h3⟩ => ?_)
    subst hr
    refine zC ?_
    refine cr <| s_ Qa ?_
    refine Q2 (Yg (YM _ (RO hn1 hl)) h3) (.refl _) (fun r H' ⟨hr, hr2⟩ => ?_)
    subst hr hr2
    refine s_ QH <| s_ QH <| Qz ?_
    refine s_ Qb <| zC ?_
    refine zE ?_
    have hs' : 5 + 3 * n.id ≤ n.wait + 1 ∧ n.term < 1073741824 := hs
    rw [Xh, if_neg hr, if_neg hm, if_pos hs']
    exact Le.refl _
   ·intro hs
    refine zC ?_
    refine cr <| s_ Qa ?_
    refine Q2 (Yg (YM _ hn1) (show WkH b { n with wait := n.wait + 1 } [] _ from ⟨_, _, Hl, Ho, h1, h2, rfl⟩)) (.refl _) (fun r H' ⟨hr, hr2⟩ => ?_)
    subst hr hr2
    refine s_ QH <| s_ QH <| Qz ?_
    refine s_ Qb <| zC ?_
    refine zE ?_
    have hs' : ¬ (5 + 3 * n.id ≤ n.wait + 1 ∧ n.term < 1073741824) := hs
    rw [Xh, if_neg hr, if_neg hm, if_neg hs']
    exact Le.refl _
def WE (n : Nd) (m : Ms) : Prop := (((m.frm < 0 ∨ 5 ≤ m.frm) ∨ m.frm = n.id) ∨ ¬ m.to = n.id) ∨ (((m.kind < 1 ∨ 5 < m.kind) ∨ m.term < 0) ∨ 1073741824 < m.term)
instance (n : Nd) (m : Ms) : Decidable (WE n m) := by unfold WE; infer_instance
def upN (n : Nd) (m : Ms) : Nd := if n.term < m.term then { n with term := m.term, vote := -1, role := 0, votes := 0 } else n
def MG (n : Nd) (m : Ms) : Nd × List Ms := if m.kind = 1 then (X7 n m, [XA (X7 n m) m.frm (UT (Vl n m))]) else if m.kind = 2 then XR n m else if m.kind = 3 then Jv n m else
 if m.kind = 4 then XK n m else J1 n m
def Xa (n : Nd) (m : Ms) : Nd × List Ms := if WE n m then (n, []) else MG (upN n m) m
def A5 : Nd := ⟨0, 0, 0, 0, 0, 0, [], [], 0, 0, 0, 0, .all 0, .all 0⟩
structure MBd (n : Nd) (m : Ms) : Prop where
 i0 : -50000000000 ≤ m.index
 i1 : m.index ≤ 50000000000
 es : n.log.length + m.entries.length ≤ 100000000
structure NBd (n : Nd) : Prop where
 log : n.log.length < 100000000
 v0 : 0 ≤ n.votes
 v1 : n.votes ≤ 31
 x0 : ∀ i, -100000000000 ≤ n.next.get i
 x1 : ∀ i, n.next.get i ≤ 50000000000
 m0 : ∀ i, -100000000000 ≤ n.mtch.get i
 m1 : ∀ i, n.mtch.get i ≤ 50000000000
theorem LQ (n : Nd) (m : Ms) : ∃ t v r w, upN n m = { n with term := t, vote := v, role := r, votes := w } ∧ (w = 0 ∨ w = n.votes) := by
 unfold upN
 split
 ·exact ⟨_, _, _, _, rfl, .inl rfl⟩
 ·exact ⟨_, _, _, _, rfl, .inr rfl⟩
theorem Bd.up {n : Nd} (m : Ms) (h : Bd n) : Bd (upN n m) := by
 obtain ⟨_, _, _, _, e, _⟩ := LQ n m
 rw [e]; exact h.of
theorem NBd.up {n : Nd} (m : Ms) (h : NBd n) : NBd (upN n m) := by
 obtain ⟨_, _, _, _, e, hw⟩ := LQ n m
 have h0 := h.v0
 have h1 := h.v1
 rw [e]; exact ⟨h.log, by simp only; omega, by simp only; omega, h.x0, h.x1, h.m0, h.m1⟩
theorem MBd.up {n : Nd} {m : Ms} (h : MBd n m) : MBd (upN n m) m := by
 obtain ⟨_, _, _, _, e, hw⟩ := LQ n m
 rw [e]; exact ⟨h.i0, h.i1, h.es⟩
theorem G2 {n : Nd} (m : Ms) (hn : Bd n) (hl : n.log.length < 100000000) : Bd (XR n m).1 := by
 unfold XR
 split
 ·exact hn
 ·split
  ·exact Gs hn.of hl
  ·exact hn.of
theorem RA {n : Nd} (m : Ms) (hn : Bd n) : Bd (X7 n m) := by
 unfold X7
 split
 ·exact hn.of
 ·exact hn
theorem OT {n : Nd} (m : Ms) (hn : Bd n) : Bd (XK n m).1 := by
 unfold XK
 split
 ·exact hn
 ·split
  ·exact (hn.of (n' := JO n m)).commit
  ·split <;> exact hn.of
theorem Cy {n : Nd} {m : Ms} (hl : n.log.length + m.entries.length ≤ 100000000) : (Jv n m).1.log.length ≤ 100000000 := by
 unfold Jv
 split
 ·simp only; omega
 ·split
  ·simp only [Q3]; omega
  ·split
   ·simp only [Q3]; omega
   ·have := V9 n m m.entries.length
    simp only [EX]; omega
theorem Oa {n : Nd} {m : Ms} (hl : n.log.length ≤ 100000000) : (J1 n m).1.log.length ≤ 100000000 := by
 unfold J1
 split
 ·exact hl
 ·split
  ·simp only [Ut, VS]
   split
   ·simp; omega
   ·simp
  ·exact hl
theorem take_fn {n : Nd} {m : Ms} (hn : Bd n) (hN : NBd n) (hM : WE n m ∨ MBd n m) : FnP Tryz.prog 100 [nd n, ms m] (fun r => r = .tup [nd (Xa n m).1, mss (Xa n m).2]) := by
 have hW := LO n (YM n hn)
 refine fe Tryz.func100 fun S0 w0 => ?_
 show Sim _ _ [(0, T.agg (Qv n (.sl false (n.log.map een)))), (1, T.agg (msC m (ZG m.entries)))] _ _
 refine zC ?_
 apply cr
 refine X1 fun b2 _ => ?_
 refine X1 fun b3 _ => ?_
 refine Yd fun b4 _ => ?_
 refine s_ Qb <| zC ?_
 refine XV (List.perm_append_comm (l₁ := [_])) ?_
 refine Zt 3 (by simp [msC]) ?_
 refine Zt 2 (by simp [Qv]) ?_
 refine zC ?_
 refine cr <| s_ Y6 ?_
 refine Q2 (Hs := []) (Hr := [_]) hW (.refl _) (fun r H' ⟨b, hr, hw⟩ => ?_)
 subst hr
 have hw' := hw
 obtain ⟨vl, vo, Hl, Ho, h1, h2, rfl⟩ := hw
 obtain ⟨p, c, rfl⟩ := h1.len
 obtain ⟨q, d, rfl⟩ := h2.len
 refine s_ Qb <| zC ?_
 refine ca [0, 1, 2, 3, 4, 5, 6, 7, 8, 9, 10, 11, 12, 13, 14, 15, 16, 17, 18, 19, 20, 21, 22, 23, 24, 25, 26, 27, 28] [] <| a_ (fun _ => Qu) <| a_ (fun _ => Qm) <| a_ (fun _ => QU) <| a_ (fun _ => Qa) <| XH (fun _ hg => Qu) ?_
 refine XH (fun _ hg => Qm (hx := u_ hg)) ?_
 refine XH (fun _ hg => Vo (hx := u_ hg)) ?_
 refine a_ (fun _ => YW) <| a_ (fun _ => Qa) <| XH (fun _ hg => Qu) ?_
 refine XH (fun _ hg => Qm (hx := u_ hg)) ?_
 refine XH (fun _ hg => Qa) ?_
 refine XH (fun _ hg => Qe (hx := u_ hg)) ?_
 refine XH (fun _ hg => Qd (hx := u_ hg)) ?_
 refine XH (fun _ hg => Qd (hx := u_ hg)) ?_
 refine MF ?_
 refine XH (fun _ hg => XF (hx := u_ hg) (hy := u_ hg)) ?_
 refine a_ (fun _ => YW) <| a_ (fun _ => Qa) <| XH (fun _ hg => Qu) ?_
 refine XH (fun _ hg => Qm (hx := u_ hg)) ?_
 refine XH (fun _ hg => Qa) ?_
 refine XH (fun _ hg => Qe (hx := u_ hg)) ?_
 refine XH (fun _ hg => Qd (hx := u_ hg)) ?_
 refine XH (fun _ hg => Qd (hx := u_ hg)) ?_
 refine MF ?_
 refine XH (fun _ hg => Yq (hx := u_ hg) (hy := u_ hg)) ?_
 refine a_ (fun _ => YW) <| a_ (fun _ => Qb) ?_
 apply an
 refine zC ?_
 refine ci ?_ ?_
 ·intro hb
  refine zC ?_
  refine cr <| s_ Qa ?_
  refine Q2 (Yg (YM n hn) hw') (.refl _) (fun r H' ⟨hr, hr2⟩ => ?_)
  subst hr hr2
  refine s_ QH <| s_ QH <| Qz ?_
  refine s_ Qb <| zC ?_
  refine zE ?_
  have hbad : WE n m := .inl hb
  rw [Xa, if_pos hbad]
  exact Le.refl _
 intro hb
 refine zC ?_
 refine cr <| s_ Qu <| s_ Qm <| s_ QU <| s_ Qa <| gF (fun hg => Qu) ?_
 refine gF (fun hg => Qm (hx := u_ hg)) ?_
 refine gF (fun hg => Yu (hx := u_ hg)) ?_
 refine s_ YW <| s_ Qa <| gF (fun hg => Qu) ?_
 refine gF (fun hg => Qm (hx := u_ hg)) ?_
 refine gF (fun hg => QU (hx := u_ hg)) ?_
 refine s_ YW <| s_ Qa <| gF (fun hg => Qu) ?_
 refine gF (fun hg => Qm (hx := u_ hg)) ?_
 refine gF (fun hg => Yu (hx := u_ hg)) ?_
 refine s_ YW <| s_ Qb <| zC ?_
 refine ci ?_ ?_
 ·intro hb2
  refine zC ?_
  refine cr <| s_ Qa ?_
  refine Q2 (Yg (YM n hn) hw') (.refl _) (fun r H' ⟨hr, hr2⟩ => ?_)
  subst hr hr2
  refine s_ QH <| s_ QH <| Qz ?_
  refine s_ Qb <| zC ?_
  refine zE ?_
  have hbad : WE n m := .inr hb2
  rw [Xa, if_pos hbad]
  exact Le.refl _
 intro hb2
 have hbad : ¬ WE n m := fun h => h.elim hb hb2
 have hM : MBd n m := hM.resolve_left hbad
 have hfr : 0 ≤ m.frm ∧ m.frm < 5 := by omega
 have hu := hn.up m
 have hNu := hN.up m
 have hMu := hM.up
 have hlu := hNu.log
 have hle := hMu.es
 have hi0 := hM.i0
 have hi1 := hM.i1
 have hv0 := hNu.v0
 have hv1 := hNu.v1
 have hx0 := hNu.x0
 have hx1 := hNu.x1
 have hm0 := hNu.m0
 have hm1 := hNu.m1
 refine zC ?_
 refine ca [0, 1, 2, 3, 4, 5, 6, 7] [] <| a_ (fun _ => Qu) <| a_ (fun _ => Qm) <| a_ (fun _ => Qa) <| a_ (fun _ => Qe) <| a_ (fun _ => Qd) <| a_ (fun _ => Qd) <| QJ ?_
 refine a_ (fun _ => Yu) ?_
 apply an
 refine zC ?_
 show Sim _ _ _ _ (W4 _ _ _)
 refine JP [(6, pW b), (3, .adr (.agg (msC m (ZG m.entries)))), (4, .v (.pointer (some ⟨b4, 0, none⟩)))] ((b, ⟨tW, wkC (upN n m) (.slice p (n.log.map een).length c) (.slice q (List.length ([].map ms)) d), 23⟩) :: (Hl ++ (Ho ++ [])) ++ [(b4, (⟨44, Qv A5 (.v (.slice none 0 0)), 22⟩ : Blk))]) ?_ ?_
 ·refine ci ?_ ?_
  ·intro hgt
   refine zC ?_
   refine cr <| s_ Qa <| s_ Qa <| s_ Qa <| s_ Qa <| s_ Qu <| s_ Qm <| s_ Qe <| s_ Qd <| s_ Qd <| Qz ?_
   refine s_ Qe <| s_ Qd <| s_ Qd <| Qz ?_
   refine s_ Qe <| s_ Qd <| s_ Qd <| Qz ?_
   refine s_ Qe <| s_ Qd <| s_ Qd <| Qz ?_
   refine zC ?_
   have hgt' : n.term < m.term := hgt
   have e : upN n m = { n with term := m.term, vote := -1, role := 0, votes := 0 } := by rw [upN, if_pos hgt']
   rw [e]
   exact ⟨eL, kR⟩
  ·intro hgt
   refine zC ?_
   have hgt' : ¬ n.term < m.term := hgt
   have e : upN n m = n := by rw [upN, if_neg hgt']
   rw [e]
   exact ⟨eL, kR⟩
 have hlog : (upN n m).log = n.log := by
  obtain ⟨_, _, _, _, e, _⟩ := LQ n m
  rw [e]
 have hw : WkH b (upN n m) [] ((b, ⟨tW, wkC (upN n m) (.slice p (n.log.map een).length c) (.slice q (List.length (([] : List Ms).map ms)) d), 23⟩) :: (Hl ++ (Ho ++ []))) := ⟨_, _, Hl, Ho, by rw [hlog]; exact h1, h2, rfl⟩
 refine zC ?_
 refine cr <| s_ Qu <| s_ Qm <| zC ?_
 refine cr <| s_ XF <| s_ Qb <| zC ?_
 refine ci ?_ ?_
 ·intro hk1
  refine zC ?_
  refine cr <| s_ Qa <| s_ Y6 ?_
  refine Q2 (CG m hu (by simp) hw) (.refl _) (fun r H' ⟨hr, h3⟩ => ?_)
  subst hr
  refine zC ?_
  refine zC ?_
  refine zC ?_
  refine cr <| s_ Qa ?_
  refine Q2 (Yg (YM _ (RA m hu)) h3) (.refl _) (fun r H' ⟨hr, hr2⟩ => ?_)
  subst hr hr2
  refine s_ QH <| s_ QH <| Qz ?_
  refine s_ Qb <| zC ?_
  refine zE ?_
  rw [Xa, if_neg hbad, MG, if_pos hk1]
  exact Le.refl _
 ·intro hk1
  refine zC ?_
  refine cr <| s_ XF <| s_ Qb <| zC ?_
  refine ci ?_ ?_
  ·intro hk2
   refine zC ?_
   refine cr <| s_ Qa <| s_ Y6 ?_
   refine Q2 (Rz m hu hlu hv0 hv1 (by omega) (by omega) (by simp) hw) (.refl _) (fun r H' ⟨hr, h3⟩ => ?_)
   subst hr
   refine zC ?_
   refine zC ?_
   refine zC ?_
   refine cr <| s_ Qa ?_
   refine Q2 (Yg (YM _ (G2 m hu hlu)) h3) (.refl _) (fun r H' ⟨hr, hr2⟩ => ?_)
   subst hr hr2
   refine s_ QH <| s_ QH <| Qz ?_
   refine s_ Qb <| zC ?_
   refine zE ?_
   rw [Xa, if_neg hbad, MG, if_neg hk1, if_pos hk2]
   exact Le.refl _
  ·intro hk2
   refine zC ?_
   refine cr <| s_ XF <| s_ Qb <| zC ?_
   refine ci ?_ ?_
   ·intro hk3
    refine zC ?_
    refine cr <| s_ Qa <| s_ Y6 ?_
    refine Q2 (A2 m hu hle hi0 hi1 (by simp) hw) (.refl _) (fun r H' ⟨hr, h3⟩ => ?_)
    subst hr
    refine zC ?_
    refine zC ?_
    refine zC ?_
    refine cr <| s_ Qa ?_
    refine Q2 (Yg (by have := Cy hle; omega) h3) (.refl _) (fun r H' ⟨hr, hr2⟩ => ?_)
    subst hr hr2
    refine s_ QH <| s_ QH <| Qz ?_
    refine s_ Qb <| zC ?_
    refine zE ?_
    rw [Xa, if_neg hbad, MG, if_neg hk1, if_neg hk2, if_pos hk3]
    exact Le.refl _
   ·intro hk3
    refine zC ?_
    refine cr <| s_ XF <| s_ Qb <| zC ?_
    refine ci ?_ ?_
    ·intro hk4
     refine zC ?_
     refine cr <| s_ Qa <| s_ Y6 ?_
     refine Q2 (IG m hu (by omega) (by omega) (hx0 _) (hx1 _) (hm0 _) (hm1 _) (by omega) (by omega) (by simp) hw) (.refl _) (fun r H' ⟨hr, h3⟩ => ?_)
     subst hr
     refine zC ?_
     refine zC ?_
     refine zC ?_
     refine cr <| s_ Qa ?_
     refine Q2 (Yg (YM _ (OT m hu)) h3) (.refl _) (fun r H' ⟨hr, hr2⟩ => ?_)
     subst hr hr2
     refine s_ QH <| s_ QH <| Qz ?_
     refine s_ Qb <| zC ?_
     refine zE ?_
     rw [Xa, if_neg hbad, MG, if_neg hk1, if_neg hk2, if_neg hk3, if_pos hk4]
     exact Le.refl _
    ·intro hk4
     refine zC ?_
     refine cr <| s_ XF <| s_ Qb <| zC ?_
     refine ci ?_ ?_
     ·intro hk5
      refine zC ?_
      refine cr <| s_ Qa <| s_ Y6 ?_
      refine Q2 (CM m hu (by omega) (by omega) (by simp) hw) (.refl _) (fun r H' ⟨hr, h3⟩ => ?_)
      subst hr
      refine zC ?_
      refine zC ?_
      refine zC ?_
      refine cr <| s_ Qa ?_
      refine Q2 (Yg (by have := Oa (n := upN n m) (m := m) hu.log; omega) h3) (.refl _) (fun r H' ⟨hr, hr2⟩ => ?_)
      subst hr hr2
      refine s_ QH <| s_ QH <| Qz ?_
      refine s_ Qb <| zC ?_
      refine zE ?_
      rw [Xa, if_neg hbad, MG, if_neg hk1, if_neg hk2, if_neg hk3, if_neg hk4]
      exact Le.refl _
     ·intro hk5
      exfalso
      exact hb2 (by omega)
def AP (e : En) : List Value := [.int .i64 e.term, .int .i64 e.conf, .string (bs e.cmd)]
theorem Wx {a b : En} : AP a = AP b ↔ a = b := by
 constructor
 ·intro h
  simp only [AP, List.cons.injEq, Value.int.injEq, Value.string.injEq, true_and, and_true] at h
  cases a; cases b
  simp only at h
  rw [h.1, h.2.1, Cq h.2.2]
 ·intro h; rw [h]
theorem I5 (f f' : Bool) (l m : List En) (hl : l.length ≤ 1000000000) (hm : m.length ≤ 1000000000) : FnP Tryz.prog 160 [.sl f (l.map een), .sl f' (m.map een)] (fun r => r = .v (.bool (decide (l = m)))) := by
 refine fe Tryz.func160 fun S0 w0 => ?_
 show Sim _ _ [(0, T.sl f (l.map een)), (1, T.sl f' (m.map een))] _ _
 refine zC ?_
 refine cr <| s_ Qb <| zC ?_
 refine cr <| s_ Qa ?_
 (first | refine s_ QP ?_ | refine s_ QO ?_)
 refine s_ Qa ?_
 (first | refine s_ QP ?_ | refine s_ QO ?_)
 refine s_ Yq <| zC ?_
 refine ci ?_ ?_
 ·intro hne
  refine zC ?_
  refine cr <| s_ Qb <| zC ?_
  refine zE ?_
  refine Le.of_eq ?_
  rw [show decide (l = m) = false from decide_eq_false (fun h => hne (by rw [h]))]
  rfl
 intro hne
 have hlen : l.length = m.length := by simp only [List.length_map] at hne; omega
 refine zC ?_
 refine cr <| s_ Qa ?_
 (first | refine s_ QP ?_ | refine s_ QO ?_)
 refine s_ Qa <| zC ?_
 apply Qo (σ := Nat) (ok := fun k => k ≤ l.length ∧ l.take k = m.take k) (env := fun k => [(13, ei (k : Nat)), (12, ei ((l.map een).length : Nat)), (0, T.sl f (l.map een)), (1, T.sl f' (m.map een))]) (heap := fun _ => []) (μ := fun k => l.length - k) (s0 := 0)
 ·exact ⟨Nat.zero_le _, by simp⟩
 ·exact eL
 ·exact kR
 rintro k ⟨hk, htk⟩
 refine zC ?_
 refine cr <| s_ QU <| zC ?_
 refine ci ?_ ?_
 ·intro hlt
  simp only [List.length_map] at hlt
  have hkl : k < l.length := by omega
  have hkm : k < m.length := by omega
  have hix := hkl
  have hix2 := hkm
  refine zC ?_
  refine cr <| s_ Qa <| s_ Qb <| zC ?_
  refine ca [0, 1, 2, 3, 4, 5, 6, 7, 8] [] <| a_ (fun _ => Qa) <| a_ (fun _ => Qa) ?_
  (first | refine a_ (fun _ => Xd hix) ?_ | refine a_ (fun _ => Xd hix2) ?_ | refine a_ (fun _ => YE) ?_ | refine a_ (fun _ => ZE) ?_)
  (first | refine a_ (fun _ => Y6) ?_ | refine YC ?_)
  refine a_ (fun _ => Qa) <| a_ (fun _ => Qa) ?_
  (first | refine a_ (fun _ => Xd hix) ?_ | refine a_ (fun _ => Xd hix2) ?_ | refine a_ (fun _ => YE) ?_ | refine a_ (fun _ => ZE) ?_)
  (first | refine a_ (fun _ => Y6) ?_ | refine YC ?_)
  refine a_ (fun _ => Tc 2 [.int .i64, .int .i64, .str] Tryz.eqGuardType84) ?_
  apply an
  refine zC ?_
  refine ci ?_ ?_
  ·intro hd
   refine zC ?_
   refine cr <| s_ Qb <| zC ?_
   refine zE ?_
   refine Le.of_eq ?_
   rw [show decide (l = m) = false from decide_eq_false (fun h => hd (by subst h; rfl))]
   rfl
  ·intro hd
   have he : l[k] = m[k] := Wx.1 (Classical.not_not.1 hd)
   refine zC ?_
   refine cr <| s_ QY <| s_ Qa <| zC ?_
   refine ⟨k + 1, ⟨by omega, ?_⟩, by show l.length - (k + 1) < l.length - k; omega, ⟨Qi (by rfl) (Le.refl _), eL⟩, kR⟩
   rw [List.take_succ_eq_append_getElem hkl, List.take_succ_eq_append_getElem hkm, htk, he]
 ·intro hlt
  simp only [List.length_map] at hlt
  have hkl : k = l.length := by omega
  have he : l = m := by
   have := htk
   rwa [hkl, List.take_length, hlen, List.take_length] at this
  refine zC ?_
  refine cr <| s_ Qb <| zC ?_
  refine zE ?_
  refine Le.of_eq ?_
  rw [show decide (l = m) = true from decide_eq_true he]
  rfl
def Bf (n : Nd) : List T := [ei n.id, ei n.term, ei n.vote, ei n.base, ei n.baseTerm, ei n.baseConf, ei n.commit, ei n.role, ei n.wait, ei n.votes] ++ (f5C n.next ++ f5C n.mtch)
theorem Ab (n : Nd) : FnP Tryz.prog 159 [nd n] (fun r => r = .agg (Bf n)) := by
 refine fe Tryz.func159 fun S0 w0 => ?_
 show Sim _ _ [(0, T.agg (Qv n (.sl false (n.log.map een))))] _ _
 refine zC ?_
 apply cr
 refine X1 fun b1 _ => ?_
 refine Yd fun b2 _ => ?_
 refine zC ?_
 refine XV (List.Perm.swap _ _ _) ?_
 refine Zt 1 (by simp [Qv]) ?_
 refine zC ?_
 refine cr <| s_ Qu <| s_ Qm <| s_ Qu <| s_ Qm <| s_ Qu <| s_ Qm <| s_ Qu <| s_ Qm <| s_ Qu <| s_ Qm <| s_ Qu <| s_ Qm <| s_ Qu <| s_ Qm <| s_ Qu <| s_ Qm <| s_ Qu <| s_ Qm <| s_ Qu <| s_ Qm <| s_ Lh <| s_ Y6 <| s_ Lh <| s_ Y6 <| s_ (Tk 20) <| Qz ?_
 refine zC ?_
 refine zE ?_
 exact Le.refl _
theorem RW (a b : Nd) : ((Bf a).map (fun x => match x with | .v y => y | _ => undef) = (Bf b).map (fun x => match x with | .v y => y | _ => undef) ∧ a.snap = b.snap) ∧ a.log = b.log ↔ a = b := by
 constructor
 ·rintro ⟨⟨h, h1⟩, h2⟩
  obtain ⟨_, _, _, _, _, _, _, _, _, _, _, _, ⟨_, _, _, _, _⟩, ⟨_, _, _, _, _⟩⟩ := a
  obtain ⟨_, _, _, _, _, _, _, _, _, _, _, _, ⟨_, _, _, _, _⟩, ⟨_, _, _, _, _⟩⟩ := b
  simp only [Bf, f5C, ei, List.map_cons, List.map_nil, List.cons_append, List.nil_append, List.cons.injEq, Value.int.injEq, true_and, and_true] at h
  simp only at h1 h2
  simp only [Nd.mk.injEq, F5.mk.injEq]
  simp_all
 ·rintro rfl; simp
theorem CQ (a b : Nd) (ha : a.log.length ≤ 1000000000) (hb : b.log.length ≤ 1000000000) : FnP Tryz.prog 139 [nd a, nd b] (fun r => r = .v (.bool (decide (a = b)))) := by
 have h1 := Ab a
 have h2 := Ab b
 have he := I5 false false a.log b.log ha hb
 refine fe Tryz.func139 fun S0 w0 => ?_
 show Sim _ _ [(0, T.agg (Qv a (.sl false (a.log.map een)))), (1, T.agg (Qv b (.sl false (b.log.map een))))] _ _
 refine zC ?_
 apply cr
 refine X1 fun b2 _ => ?_
 refine X1 fun b3 _ => ?_
 refine s_ Qb <| zC ?_
 refine Zt 3 (by simp [Qv]) ?_
 refine Zt 2 (by simp [Qv]) ?_
 refine zC ?_
 refine ca [0, 1, 2, 3, 4, 5, 6, 7, 8, 9, 10, 11, 12, 13, 14, 15, 16, 17, 18, 19] [] <| a_ (fun _ => Y6) <| a_ (fun _ => QQ (h1)) <| a_ (fun _ => Y6) <| a_ (fun _ => QQ (h2)) <| a_ (fun _ => B8 3 [.int .i64, .int .i64, .int .i64, .int .i64, .int .i64, .int .i64, .int .i64, .int .i64, .int .i64, .int .i64, .int .i64, .int .i64, .int .i64, .int .i64, .int .i64, .int .i64, .int .i64, .int .i64, .int .i64, .int .i64] Tryz.eqGuardType200) <| a_ (fun _ => Qa) <| QF (fun _ hg => Qu) ?_
 refine QF (fun _ hg => Qm (hx := u_ hg)) ?_
 refine QF (fun _ hg => Qu) ?_
 refine QF (fun _ hg => Qm (hx := u_ hg)) ?_
 refine QF (fun _ hg => B7 (hx := u_ hg) (hy := u_ hg)) ?_
 refine a_ (fun _ => XX) <| a_ (fun _ => Qa) <| QF (fun _ hg => Qu) ?_
 refine QF (fun _ hg => Qm (hx := u_ hg)) ?_
 refine QF (fun _ hg => Qu) ?_
 refine QF (fun _ hg => Qm (hx := u_ hg)) ?_
 refine QF (fun _ hg => QQ (he) (ha' := by apply QK (u_ hg); apply QK (u_ hg); exact XE)) ?_
 refine a_ (fun _ => XX) <| a_ (fun _ => Qb) ?_
 apply an
 refine zC ?_
 refine zE ?_
 refine Le.of_eq (congrArg (fun z => T.v (.bool z)) ?_)
 rw [decide_eq_decide]
 exact RW a b
theorem LH (f : Bool) (l : List En) (hl : l.length ≤ 1000000000) : FnP Tryz.prog 72 [.sl f (l.map een)] (fun r => r = ZG l) :=
 FnH.give (Zw f l hl) (by rintro r H ⟨v, rfl, ho⟩; exact ho.lend fun _ h => h)
def Qp (n : Nd) : Nd := { n with role := 0, wait := 0, votes := 0, next := .all 0, mtch := .all 0 }
theorem LP (n : Nd) (hl : n.log.length ≤ 1000000000) : FnP Tryz.prog 68 [nd n] (fun r => r = nd (Qp n)) := by
 have hc := LH false n.log hl
 refine fe Tryz.func68 fun S0 w0 => ?_
 show Sim _ _ [(0, T.agg (Qv n (.sl false (n.log.map een))))] _ _
 refine zC ?_
 apply cr
 refine X1 fun b1 _ => ?_
 refine Yd fun b2 _ => ?_
 refine zC ?_
 refine XV (List.Perm.swap _ _ _) ?_
 refine Zt 1 (by simp [Qv]) ?_
 refine zC ?_
 refine ca [0, 1, 2, 3, 4, 5, 6, 7, 8, 9, 10, 11, 12, 13, 14, 15, 16, 17, 18, 19, 20] [20] <| a_ (fun _ => Qu) <| a_ (fun _ => Qm) <| a_ (fun _ => Qu) <| a_ (fun _ => Qm) <| a_ (fun _ => Qu) <| a_ (fun _ => Qm) <| a_ (fun _ => Qu) <| a_ (fun _ => Qm) <| a_ (fun _ => Qu) <| a_ (fun _ => Qm) <| a_ (fun _ => Qu) <| a_ (fun _ => Qm) <| a_ (fun _ => Qu) <| a_ (fun _ => Qm) <| a_ (fun _ => Qu) <| a_ (fun _ => Qm) <| a_ (fun _ => QQ (hc)) <| a_ (fun _ => Qu) <| a_ (fun _ => Qm) <| a_ (fun _ => Tk 22) <| XN ?_
 apply an
 refine zC ?_
 refine zE ?_
 exact Le.refl _
def QT (n : Nd) (cmd : List UInt8) : Nd × Int × Int := if ¬ n.role = 2 then (n, 0, 21) else if cmd = [] then (n, 0, 1) else (Om n ⟨0, 0, cmd⟩, n.base + (n.log.length + 1), 0)
theorem CT {n : Nd} (cmd : List UInt8) (hn : Bd n) (hl : n.log.length < 100000000) : FnP Tryz.prog 71 [nd n, es cmd] (fun r => r = .tup [nd (QT n cmd).1, ei (QT n cmd).2.1, ei (QT n cmd).2.2]) := by
 have hW := LO n (YM n hn)
 refine fe Tryz.func71 fun S0 w0 => ?_
 show Sim _ _ [(0, T.agg (Qv n (.sl false (n.log.map een)))), (1, es cmd)] _ _
 refine zC ?_
 apply cr
 refine X1 fun b2 _ => ?_
 refine Yd fun b4 _ => ?_
 refine s_ Qb <| s_ Qb <| zC ?_
 refine XV (List.Perm.swap _ _ _) ?_
 refine Zt 2 (by simp [Qv]) ?_
 refine zC ?_
 refine cr <| s_ Y6 ?_
 refine Q2 (Hs := []) (Hr := [_]) hW (.refl _) (fun r H' ⟨b, hr, hw⟩ => ?_)
 subst hr
 have hw' := hw
 obtain ⟨vl, vo, Hl, Ho, h1, h2, rfl⟩ := hw
 obtain ⟨p, c, rfl⟩ := h1.len
 obtain ⟨q, d, rfl⟩ := h2.len
 refine s_ Qb <| zC ?_
 refine cr <| s_ Qa <| s_ Qe <| s_ Qd <| s_ Qd <| s_ Ql <| s_ Yq <| s_ Qb <| zC ?_
 refine ci ?_ ?_
 ·intro hr
  refine zC ?_
  refine cr <| s_ Qa <| s_ Qe <| s_ Qd <| s_ Xf ?_
  refine Wk (G := (b, _) :: (Hl ++ (Ho ++ []))) (H1 := [_]) 20 (nd n) (Qx.agg (QX n (h1.lend (by intro p hp; simp [hp])))) ?_ (.refl _)
  refine Qz ?_
  refine s_ Qb <| s_ Qb <| zC ?_
  refine zC ?_
  refine zE ?_
  rw [QT, if_pos hr]
  exact Le.refl _
 intro hr
 refine zC ?_
 refine cr <| s_ Qa <| s_ B7 <| s_ Qb <| zC ?_
 refine ci ?_ ?_
 ·intro hc
  refine zC ?_
  refine cr <| s_ Qa <| s_ Qe <| s_ Qd <| s_ Xf ?_
  refine Wk (G := (b, _) :: (Hl ++ (Ho ++ []))) (H1 := [_]) 27 (nd n) (Qx.agg (QX n (h1.lend (by intro p hp; simp [hp])))) ?_ (.refl _)
  refine Qz ?_
  refine s_ Qb <| s_ Qb <| zC ?_
  refine zC ?_
  refine zE ?_
  rw [QT, if_neg hr, if_pos hc]
  exact Le.refl _
 intro hc
 refine zC ?_
 refine cr <| s_ Qa <| s_ Qa <| s_ (ZF 3 [_, _, _]) ?_
 refine Q2 (FnH.of_le ?_ (Ap ⟨0, 0, cmd⟩ hn hl (by simp) (by simp) hw')) (.refl _) (fun r H' ⟨hr1, hr2⟩ => ?_)
 ·exact zM
 subst hr1 hr2
 refine s_ QH <| s_ QH <| s_ QH <| Qz ?_
 refine s_ Qb <| s_ Qb <| zC ?_
 refine zE ?_
 rw [QT, if_neg hr, if_neg hc]
 exact Le.refl _
end Go.Proofs.YtjbokbikkcfjjaaGreat
namespace Go.Proofs.YtjbokbikkcfjjaaGreat
open Go.Cap
def shE (T : Int) (e : En) : En := { e with term := e.term + T }
structure Fr (pre : List En) (T : Int) : Prop where
 c : ∀ e ∈ pre, e.conf = 0
 t : Xe ⟨0, 0, 0, 0, 0, 7, [], pre, 0, 0, 0, 0, .all 0, .all 0⟩ pre.length = T
 t0 : 0 ≤ T
def MtR (p : Nat) (a b : Int) : Prop := 0 ≤ b ∧ (a = b + p ∨ b = 0 ∧ 0 ≤ a ∧ a ≤ p)
structure RN (pre : List En) (T : Int) (n r : Nd) : Prop where
 id : n.id = r.id
 id0 : 0 ≤ r.id
 id3 : r.id < 3
 term : n.term = r.term + T
 term0 : 0 ≤ r.term
 vote : n.vote = r.vote
 nb : n.base = 0
 nbt : n.baseTerm = 0
 nbc : n.baseConf = 7
 ns : n.snap = []
 rb : r.base = 0
 rbt : r.baseTerm = 0
 rbc : r.baseConf = 7
 rs : r.snap = []
 log : n.log = pre ++ r.log.map (shE T)
 conf : ∀ e ∈ r.log, e.conf = 0
 com : n.commit = r.commit + pre.length
 com0 : 0 ≤ r.commit
 role : n.role = r.role
 wait : n.wait = r.wait
 votes : r.role = 1 → n.votes = r.votes
 nxt : r.role = 2 → ∀ j : Nat, j < 3 → ¬ (j : Int) = r.id → n.next.get j = r.next.get j + pre.length
 mt : r.role = 2 → ∀ j : Nat, j < 5 → MtR pre.length (n.mtch.get j) (r.mtch.get j)
structure RM (pre : List En) (T : Int) (m q : Ms) : Prop where
 kind : m.kind = q.kind
 frm : m.frm = q.frm
 to : m.to = q.to
 term : m.term = q.term + T
 idx : q.kind = 1 ∨ q.kind = 3 ∨ q.kind = 4 → m.index = q.index + pre.length
 lt : q.kind = 1 ∨ q.kind = 3 → m.logTerm = q.logTerm + T
 com : q.kind = 3 → m.commit = q.commit + pre.length
 yes : m.yes = q.yes
 ents : m.entries = q.entries.map (shE T)
 conf : ∀ e ∈ q.entries, e.conf = 0
inductive Yr {α β : Type} (R : α → β → Prop) : List α → List β → Prop
 | nil : Yr R [] []
 | cons {a : α} {b : β} {xs : List α} {ys : List β} (h : R a b) (hs : Yr R xs ys) : Yr R (a :: xs) (b :: ys)
theorem Yr.append {α β : Type} {R : α → β → Prop} {xs xs' : List α} {ys ys' : List β} (h : Yr R xs ys) (h' : Yr R xs' ys') : Yr R (xs ++ xs') (ys ++ ys') := by
 induction h with
 | nil => exact h'
 | cons h _ ih => exact .cons h ih
theorem Yr.map {α β γ : Type} {R : α → β → Prop} {f : γ → α} {g : γ → β} : ∀ {l : List γ}, (∀ x ∈ l, R (f x) (g x)) → Yr R (l.map f) (l.map g)
 | [], _ => .nil
 | x :: l, h => .cons (h x List.mem_cons_self) (Yr.map fun y hy => h y (List.mem_cons_of_mem _ hy))
theorem Gt (l : List En) (h : ∀ e ∈ l, e.conf = 0) : ∀ k, k ≤ l.length → lc l k = none
 | 0, _ => rfl
 | k + 1, hk => by
  have : l.getD k default ∈ l := by
   rw [List.getD_eq_getElem?_getD, List.getElem?_eq_getElem (by omega), Option.getD_some]
   exact List.getElem_mem _
  rw [lc, if_neg (by simpa using h _ this)]
  exact Gt l h k (by omega)
theorem Ui {n : Nd} (h1 : n.baseConf = 7) (h2 : n.base = 0) (h : ∀ e ∈ n.log, e.conf = 0) : QD n = (0, 7) := by
 unfold QD
 rw [Gt n.log h _ (Nat.le_refl _), h1, h2]
section
variable {pre : List En} {T : Int} {n r : Nd} {m q : Ms}
theorem RN.len (h : RN pre T n r) : (n.log.length : Int) = r.log.length + pre.length := by
 rw [h.log, List.length_append, List.length_map]; omega
theorem RN.confs (h : RN pre T n r) (hF : Fr pre T) : ∀ e ∈ n.log, e.conf = 0 := by
 intro e he
 rw [h.log] at he
 rcases List.mem_append.1 he with he | he
 ·exact hF.c e he
 ·obtain ⟨e', h1, rfl⟩ := List.mem_map.1 he
  exact h.conf e' h1
theorem RN.cf (h : RN pre T n r) (hF : Fr pre T) : QD n = (0, 7) ∧ QD r = (0, 7) := ⟨Ui h.nbc h.nb (h.confs hF), Ui h.rbc h.rb h.conf⟩
theorem RN.at (h : RN pre T n r) {k : Nat} (hk : k < r.log.length) : n.log.getD (pre.length + k) default = shE T (r.log.getD k default) := by
 rw [h.log]
 simp only [List.getD_eq_getElem?_getD]
 rw [List.getElem?_append_right (by omega), Nat.add_sub_cancel_left, List.getElem?_map, List.getElem?_eq_getElem hk]
 rfl
theorem RN.trm (h : RN pre T n r) (hF : Fr pre T) {i : Int} (h0 : 0 ≤ i) (h1 : i ≤ r.log.length) : Xe n (i + pre.length) = Xe r i + T := by
 have hl := h.len
 unfold Xe
 rw [h.nb, h.rb, h.nbt, h.rbt]
 by_cases hi : i = 0
 ·subst hi
  rw [if_neg (show ¬ ((0 : Int) + 1 ≤ 0 ∧ (0 : Int) < 0 + 1 + r.log.length) by omega)]
  have ht := hF.t
  unfold Xe at ht
  simp only at ht
  by_cases hp : pre.length = 0
  ·rw [if_neg (by omega)] at ht
   rw [if_neg (by omega), ← ht]
   rfl
  ·rw [if_pos (by omega)] at ht
   rw [if_pos (by omega), ← ht, h.log]
   have e1 : ((0 : Int) + pre.length - 0 - 1).toNat = pre.length - 1 := by omega
   have e2 : ((pre.length : Int) - 0 - 1).toNat = pre.length - 1 := by omega
   rw [e1, e2]
   simp only [List.getD_eq_getElem?_getD]
   rw [List.getElem?_append_left (by omega)]
   omega
 ·rw [if_pos (by omega), if_pos (by omega)]
  have e1 : (i + pre.length - 0 - 1).toNat = pre.length + (i - 0 - 1).toNat := by omega
  rw [e1, h.at (by omega)]
  rfl
theorem RN.last (h : RN pre T n r) : Qs n = Qs r + pre.length := by
 unfold Qs
 rw [h.nb, h.rb, h.len]; omega
theorem AJ {i : Int} (h0 : 0 ≤ i) (h3 : i < 3) : isF 7 i = true := by
 have : i = 0 ∨ i = 1 ∨ i = 2 := by omega
 rcases this with rfl | rfl | rfl <;> rfl
theorem RN.is (h : RN pre T n r) (hF : Fr pre T) : isF (QD n).2 n.id = true ∧ isF (QD r).2 r.id = true := by
 rw [(h.cf hF).1, (h.cf hF).2, h.id]
 exact ⟨AJ h.id0 h.id3, AJ h.id0 h.id3⟩
theorem RN.mem (h : RN pre T n r) (hF : Fr pre T) : Mj n = Mj r := by
 funext i
 unfold Mj
 rw [(h.cf hF).1, (h.cf hF).2, h.id]
theorem RN.alls (h : RN pre T n r) (hF : Fr pre T) {F G : Int → Ms} (hg : ∀ i : Nat, i < 3 → ¬ (i : Int) = r.id → RM pre T (F i) (G i)) : Yr (RM pre T) (XP n F 5) (XP r G 5) := by
 unfold XP
 rw [h.mem hF]
 refine Yr.map fun i hi => ?_
 obtain ⟨h1, h2⟩ := List.mem_filter.1 hi
 have h1 := List.mem_range.1 h1
 unfold Mj at h2
 rw [(h.cf hF).2] at h2
 simp only [Bool.and_eq_true, decide_eq_true_eq] at h2
 refine hg i ?_ h2.1
 have : i = 0 ∨ i = 1 ∨ i = 2 ∨ i = 3 ∨ i = 4 := by omega
 rcases this with rfl | rfl | rfl | rfl | rfl
 ·omega
 ·omega
 ·omega
 ·exact absurd h2.2 (by decide)
 ·exact absurd h2.2 (by decide)
def V4 (r : Nd) (j : Nat) : Prop := 1 ≤ r.next.get j ∧ r.next.get j ≤ r.log.length + 1
instance (r : Nd) (j : Nat) : Decidable (V4 r j) := by unfold V4; infer_instance
theorem RN.owe (h : RN pre T n r) (hF : Fr pre T) (hr : r.role = 2) {j : Nat} (hj : j < 3) (hne : ¬ (j : Int) = r.id) (hn : V4 r j) : RM pre T (Zq n j) (Zq r j) := by
 obtain ⟨h1, h2⟩ := hn
 have hx := h.nxt hr j hj hne
 have hl := h.len
 unfold Zq
 rw [show ((j : Int)).toNat = j by omega, h.nb, h.rb, if_neg (by omega), if_neg (by omega), hx]
 have ht := h.trm hF (i := r.next.get j - 1) (by omega) (by omega)
 have e : r.next.get j + pre.length - 1 = r.next.get j - 1 + pre.length := by omega
 unfold XA
 refine ⟨rfl, h.id, rfl, h.term, fun _ => e, fun _ => by simp only; rw [e, ht], fun _ => h.com, rfl, ?_, ?_⟩
 ·simp only
  rw [h.log, show (min (r.next.get j + pre.length - 1 - 0) ((pre ++ r.log.map (shE T)).length : Int)).toNat = pre.length + (min (r.next.get j - 1 - 0) (r.log.length : Int)).toNat by
   rw [List.length_append, List.length_map]; omega]
  rw [List.drop_append, List.drop_eq_nil_of_le (by omega), List.nil_append, Nat.add_sub_cancel_left, List.map_take, List.map_drop]
 ·intro e he
  exact h.conf e (List.mem_of_mem_drop (List.mem_of_mem_take he))
end
section
variable {pre : List En} {T : Int} {n r : Nd} {m q : Ms}
theorem E8 {p : Nat} {f g : F5} (h : ∀ j : Nat, j < 5 → MtR p (f.get j) (g.get j)) {i : Int} (hi : 1 ≤ i) : ∀ k, k ≤ 5 → YT f (i + p) k = YT g i k
 | 0, _ => rfl
 | k + 1, hk => by
  obtain ⟨h0, h1⟩ := h k (by omega)
  unfold YT
  rw [E8 h hi k (by omega)]
  by_cases hc : i ≤ g.get k
  ·rw [if_pos hc, if_pos (by omega)]
  ·rw [if_neg hc, if_neg (by omega)]
theorem RN.cmt0 (h : RN pre T n r) : ∀ k, k ≤ pre.length → XL n 7 k = n.commit
 | 0, _ => rfl
 | k + 1, hk => by
  have h1 := h.com
  have h2 := h.com0
  have h3 := h.nb
  unfold XL
  rw [h.cmt0 k (by omega)]
  split
  ·exact Int.max_eq_left (by omega)
  ·rfl
theorem RN.cmt (h : RN pre T n r) (hr : r.role = 2) : ∀ k, k ≤ r.log.length → XL n 7 (pre.length + k) = XL r 7 k + pre.length
 | 0, _ => by rw [Nat.add_zero, h.cmt0 _ (Nat.le_refl _), h.com]; rfl
 | k + 1, hk => by
  rw [← Nat.add_assoc]
  unfold XL
  rw [h.cmt hr k (by omega), h.at (by omega), h.nb, h.rb]
  have e1 : ((0 : Int) + ((pre.length + k : Nat) : Int) + 1) = (0 + (k : Int) + 1) + pre.length := by omega
  rw [e1, E8 (h.mt hr) (by omega) 5 (Nat.le_refl _)]
  have ht := h.term
  have e2 : ((shE T (r.log.getD k default)).term = n.term) = ((r.log.getD k default).term = r.term) := by
   apply propext
   show (r.log.getD k default).term + T = n.term ↔ _
   omega
  simp only [e2]
  split <;> omega
theorem Cl (n : Nd) (c : Int) : ∀ k, n.commit ≤ XL n c k
 | 0 => Int.le_refl _
 | k + 1 => by
  have := Cl n c k
  unfold XL
  split <;> omega
theorem Uj (h1 : isF (QD n).2 n.id = true) : QW n = { n with commit := XL n (QD n).2 n.log.length } := by
 unfold QW
 rw [if_neg (fun h => h.1 h1)]
theorem RN.commit (h : RN pre T n r) (hF : Fr pre T) (hr : r.role = 2) : RN pre T (QW n) (QW r) := by
 obtain ⟨i1, i2⟩ := h.is hF
 obtain ⟨c1, c2⟩ := h.cf hF
 rw [Uj i1, Uj i2, c1, c2]
 have hl : n.log.length = pre.length + r.log.length := by rw [h.log, List.length_append, List.length_map]
 refine { h with com := ?_, com0 := ?_ }
 ·show XL n 7 n.log.length = XL r 7 r.log.length + pre.length
  rw [hl, h.cmt hr _ (Nat.le_refl _)]
 ·exact Int.le_trans h.com0 (Cl r 7 _)
theorem F5.get_set (f : F5) (i j : Nat) (v : Int) (hi : i < 5) (hj : j < 5) : (f.set i v).get j = if i = j then v else f.get j := by
 have a : i = 0 ∨ i = 1 ∨ i = 2 ∨ i = 3 ∨ i = 4 := by omega
 have b : j = 0 ∨ j = 1 ∨ j = 2 ∨ j = 3 ∨ j = 4 := by omega
 rcases a with rfl | rfl | rfl | rfl | rfl <;> rcases b with rfl | rfl | rfl | rfl | rfl <;> rfl
theorem RN.lead (h : RN pre T n r) (hF : Fr pre T) : RN pre T (Q5 n) (Q5 r) := by
 have hl := h.len
 refine RN.commit ?_ hF rfl
 unfold Yl
 have i0 := h.id0
 have i3 := h.id3
 refine { h with log := ?_, conf := ?_, role := rfl, votes := fun e => (by cases e), nxt := fun _ j hj hne => ?_, mt := fun _ j hj => ?_ }
 ·simp only
  rw [h.log, h.term]
  simp [shE]
 ·intro e he
  rcases List.mem_append.1 he with he | he
  ·exact h.conf e he
  ·rw [List.mem_singleton.1 he]
 ·simp only
  rw [F5.get_all, F5.get_all, h.nb, h.rb]; omega
 ·simp only
  rw [h.id, F5.get_set _ _ _ _ (by omega) hj, F5.get_set _ _ _ _ (by omega) hj, h.nb, h.rb]
  split
  ·exact ⟨by omega, .inl (by omega)⟩
  ·rw [F5.get_all]; exact ⟨by omega, .inr ⟨rfl, by omega, by omega⟩⟩
theorem ON (r : Nd) (h1 : isF (QD (Yl r)).2 (Yl r).id = true) : (Q5 r).role = 2 ∧ (Q5 r).id = r.id ∧ (Q5 r).log = (Yl r).log ∧ (Q5 r).next = (Yl r).next := by
 unfold Q5
 rw [Uj h1]
 exact ⟨rfl, rfl, rfl, rfl⟩
theorem RN.leadAll (h : RN pre T n r) (hF : Fr pre T) : Yr (RM pre T) (XP (Q5 n) (Zq (Q5 n)) 5) (XP (Q5 r) (Zq (Q5 r)) 5) := by
 have h1 := h.lead hF
 have hi : isF (QD (Yl r)).2 (Yl r).id = true := by
  have : QD (Yl r) = (0, 7) := Ui h.rbc h.rb (by
   intro e he
   rcases List.mem_append.1 (show e ∈ r.log ++ [⟨r.term, 0, []⟩] from he) with he | he
   ·exact h.conf e he
   ·rw [List.mem_singleton.1 he])
  rw [this]
  exact AJ h.id0 h.id3
 obtain ⟨a1, a2, a3, a4⟩ := ON r hi
 refine h1.alls hF fun i hi3 hne => h1.owe hF a1 hi3 hne ?_
 unfold V4
 rw [a3, a4]
 unfold Yl
 simp only
 rw [F5.get_all, h.rb, List.length_append]
 simp only [List.length_cons, List.length_nil]
 omega
theorem RN.stand (h : RN pre T n r) (hF : Fr pre T) : RN pre T (XU n).1 (XU r).1 ∧ Yr (RM pre T) (XU n).2 (XU r).2 := by
 obtain ⟨c1, c2⟩ := h.cf hF
 have hs : RN pre T (Q0 n) (Q0 r) := by
  unfold Q0
  refine { h with term := ?_, term0 := ?_, vote := h.id, role := rfl, wait := rfl, votes := fun _ => ?_, nxt := fun e => (by cases e), mt := fun e => (by cases e) }
  ·simp only; rw [h.term]; omega
  ·have := h.term0; simp only; omega
  ·simp only; rw [h.id]
 unfold XU
 rw [c1, c2, h.id]
 split
 ·exact ⟨hs.lead hF, hs.leadAll hF⟩
 ·refine ⟨hs, hs.alls hF (F := fun to => XA (Q0 n) to (DW (Qs n) (Xe n (Qs n)))) (G := fun to => XA (Q0 r) to (DW (Qs r) (Xe r (Qs r)))) fun i _ _ => ?_⟩
  have hl := h.last
  refine ⟨rfl, hs.id, rfl, hs.term, fun _ => hl, fun _ => ?_, fun e => (by cases e), rfl, rfl, by intro e he; cases he⟩
  show Xe n (Qs n) = Xe r (Qs r) + T
  rw [hl]
  exact h.trm hF (by unfold Qs; rw [h.rb]; omega) (by unfold Qs; rw [h.rb]; omega)
def okT (r : Nd) : Prop := r.role = 2 → ∀ j : Nat, j < 3 → ¬ (j : Int) = r.id → V4 r j
theorem RN.tick (h : RN pre T n r) (hF : Fr pre T) (ho : okT r) (ht : r.term + T < 1073741824) : RN pre T (Xh n).1 (Xh r).1 ∧ Yr (RM pre T) (Xh n).2 (Xh r).2 := by
 obtain ⟨i1, i2⟩ := h.is hF
 have h1 := h.term
 have h2 := h.term0
 have h3 := hF.t0
 unfold Xh
 have hr1 := h.role
 rw [i1, i2]
 by_cases hr : r.role = 2
 ·rw [if_pos (hr1.trans hr), if_pos hr]
  exact ⟨h, h.alls hF fun i hi hne => h.owe hF hr hi hne (ho hr i hi hne)⟩
 ·rw [if_neg (fun e => hr (hr1.symm.trans e)), if_neg hr, if_neg (show ¬ ¬ (true = true) from fun e => e rfl), if_neg (show ¬ ¬ (true = true) from fun e => e rfl)]
  have hw : RN pre T { n with wait := n.wait + 1 } { r with wait := r.wait + 1 } := { h with wait := (by simp only; rw [h.wait]) }
  have h4 := h.id
  have h5 := h.wait
  by_cases hc : 5 + 3 * r.id ≤ r.wait + 1 ∧ r.term < 1073741824
  ·rw [if_pos hc, if_pos (by omega)]
   exact hw.stand hF
  ·rw [if_neg hc, if_neg (by omega)]
   exact ⟨hw, .nil⟩
end
section
variable {pre : List En} {T : Int} {n r : Nd} {m q : Ms}
theorem RN.up (h : RN pre T n r) (hm : RM pre T m q) (h0 : 0 ≤ q.term) : RN pre T (upN n m) (upN r q) := by
 have h1 := h.term
 have h2 := hm.term
 unfold upN
 by_cases hc : r.term < q.term
 ·rw [if_pos hc, if_pos (by omega)]
  exact { h with term := h2, term0 := h0, vote := rfl, role := rfl, votes := fun e => (by cases e), nxt := fun e => (by cases e), mt := fun e => (by cases e) }
 ·rw [if_neg hc, if_neg (by omega)]
  exact h
theorem RN.lastT (h : RN pre T n r) (hF : Fr pre T) : Xe n (Qs n) = Xe r (Qs r) + T := by
 rw [h.last]
 exact h.trm hF (by unfold Qs; rw [h.rb]; omega) (by unfold Qs; rw [h.rb]; omega)
theorem RN.yes (h : RN pre T n r) (hF : Fr pre T) (hm : RM pre T m q) (hk : q.kind = 1) : Vl n m = Vl r q := by
 have h1 := h.lastT hF
 have h2 := h.last
 have h3 := hm.idx (.inl hk)
 have h4 := hm.lt (.inl hk)
 have h5 := h.term
 have h6 := hm.term
 unfold Vl
 rw [h.vote, hm.frm, h1, h2, h3, h4]
 apply decide_eq_decide.2
 constructor
 ·rintro ⟨⟨a, b⟩, c⟩
  exact ⟨⟨by omega, b⟩, by omega⟩
 ·rintro ⟨⟨a, b⟩, c⟩
  exact ⟨⟨by omega, b⟩, by omega⟩
theorem RN.votE (h : RN pre T n r) (hF : Fr pre T) (hm : RM pre T m q) (hk : q.kind = 1) :
  RN pre T (X7 n m) (X7 r q) ∧ Yr (RM pre T) [XA (X7 n m) m.frm (UT (Vl n m))] [XA (X7 r q) q.frm (UT (Vl r q))] := by
 have hv : RN pre T (X7 n m) (X7 r q) := by
  unfold X7
  rw [h.yes hF hm hk]
  split
  ·exact { h with vote := hm.frm, wait := rfl }
  ·exact h
 refine ⟨hv, .cons ⟨rfl, hv.id, hm.frm, hv.term, fun e => ?_, fun e => ?_, fun e => ?_, h.yes hF hm hk, rfl, by intro e he; cases he⟩ .nil⟩
 ·rcases e with e | e | e <;> cases e
 ·rcases e with e | e <;> cases e
 ·cases e
theorem RN.voted (h : RN pre T n r) (hF : Fr pre T) (hm : RM pre T m q) : RN pre T (XR n m).1 (XR r q).1 ∧ Yr (RM pre T) (XR n m).2 (XR r q).2 := by
 have h5 := h.term
 have h6 := hm.term
 obtain ⟨c1, c2⟩ := h.cf hF
 unfold XR
 rw [c1, c2]
 by_cases hc : (¬ q.term = r.term ∨ ¬ r.role = 1) ∨ ¬ q.yes = true
 ·have hc' : (¬ m.term = n.term ∨ ¬ n.role = 1) ∨ ¬ m.yes = true := by
   rw [h.role, hm.yes]
   rcases hc with (hc | hc) | hc
   ·exact .inl (.inl (by omega))
   ·exact .inl (.inr hc)
   ·exact .inr hc
  rw [if_pos hc, if_pos hc']
  exact ⟨h, .nil⟩
 ·have hc' : ¬ ((¬ m.term = n.term ∨ ¬ n.role = 1) ∨ ¬ m.yes = true) := by
   rw [h.role, hm.yes]
   intro e
   apply hc
   rcases e with (e | e) | e
   ·exact .inl (.inl (by omega))
   ·exact .inl (.inr e)
   ·exact .inr e
  have hr : r.role = 1 := Classical.not_not.1 fun e => hc (.inl (.inr e))
  have hn : RN pre T (Yb n m) (Yb r q) := { h with votes := fun _ => (by show orI n.votes _ = orI r.votes _; rw [h.votes hr, hm.frm]) }
  rw [if_neg hc, if_neg hc', h.votes hr, hm.frm]
  split
  ·exact ⟨hn.lead hF, hn.leadAll hF⟩
  ·exact ⟨hn, .nil⟩
theorem IR {l : List En} {i : Nat} (hi : i < l.length) : (l.map (shE T)).getD i default = shE T (l.getD i default) := by
 simp only [List.getD_eq_getElem?_getD]
 rw [List.getElem?_map, List.getElem?_eq_getElem hi]
 rfl
theorem Wj {l : List En} {i : Nat} (hi : i < l.length) : (pre ++ l.map (shE T)).getD (pre.length + i) default = shE T (l.getD i default) := by
 simp only [List.getD_eq_getElem?_getD]
 rw [List.getElem?_append_right (by omega), Nat.add_sub_cancel_left, List.getElem?_map, List.getElem?_eq_getElem hi]
 rfl
theorem RN.lay (h : RN pre T n r) (hm : RM pre T m q) (hk : q.kind = 3) (h0 : 0 ≤ q.index) : ∀ i, i ≤ q.entries.length → Xb n m i = pre ++ (Xb r q i).map (shE T) ∧ ∀ e ∈ Xb r q i, e.conf = 0
 | 0, _ => ⟨h.log, h.conf⟩
 | i + 1, hi => by
  obtain ⟨h1, h2⟩ := h.lay hm hk h0 i (by omega)
  have hx := hm.idx (.inr (.inl hk))
  have he : m.entries.getD i default = shE T (q.entries.getD i default) := by rw [hm.ents, IR (by omega)]
  have hec : (q.entries.getD i default).conf = 0 := by
   refine hm.conf _ ?_
   rw [List.getD_eq_getElem?_getD, List.getElem?_eq_getElem (by omega), Option.getD_some]
   exact List.getElem_mem _
  have e1 : (m.index - n.base + (i : Int)).toNat = pre.length + (q.index - r.base + (i : Int)).toNat := by
   have := h.nb
   have := h.rb
   omega
  have hlen : (Xb n m i).length = pre.length + (Xb r q i).length := by rw [h1, List.length_append, List.length_map]
  have hb1 := h.nb
  have hb2 := h.rb
  unfold Xb
  by_cases hc : q.index - r.base + (i : Int) < (Xb r q i).length ∧ ((Xb r q i).getD (q.index - r.base + (i : Int)).toNat default).term = (q.entries.getD i default).term
  ·have hc' : m.index - n.base + (i : Int) < (Xb n m i).length ∧ ((Xb n m i).getD (m.index - n.base + (i : Int)).toNat default).term = (m.entries.getD i default).term := by
    refine ⟨by rw [hlen]; omega, ?_⟩
    rw [e1, he, h1, Wj (by omega)]
    show _ + T = _ + T
    rw [hc.2]
   rw [if_pos hc, if_pos hc']
   exact ⟨h1, h2⟩
  ·have hc' : ¬ (m.index - n.base + (i : Int) < (Xb n m i).length ∧ ((Xb n m i).getD (m.index - n.base + (i : Int)).toNat default).term = (m.entries.getD i default).term) := by
    rintro ⟨a, b⟩
    apply hc
    have a' : q.index - r.base + (i : Int) < (Xb r q i).length := by rw [hlen] at a; omega
    refine ⟨a', ?_⟩
    rw [e1, he, h1, Wj (by omega)] at b
    have : ∀ x y : En, (shE T x).term = (shE T y).term → x.term = y.term := fun x y e => by
     have : x.term + T = y.term + T := e
     omega
    exact this _ _ b
   rw [if_neg hc, if_neg hc', he]
   refine ⟨?_, fun e he => ?_⟩
   ·rw [show (min (m.index - n.base + (i : Int)) ((Xb n m i).length : Int)).toNat = pre.length + (min (q.index - r.base + (i : Int)) ((Xb r q i).length : Int)).toNat by rw [hlen]; omega, h1,
     List.take_append, List.take_of_length_le (by omega), Nat.add_sub_cancel_left, List.map_append, List.map_take, List.append_assoc]
    rfl
   ·rcases List.mem_append.1 he with he | he
    ·exact h2 e (List.mem_of_mem_take he)
    ·rw [List.mem_singleton.1 he]; exact hec
theorem RN.quiet (h : RN pre T n r) : RN pre T (Q3 n) (Q3 r) := { h with role := rfl, wait := rfl, votes := fun e => (by cases e), nxt := fun e => (by cases e), mt := fun e => (by cases e) }
theorem RN.said (h : RN pre T n r) (hm : RM pre T m q) (yes : Bool) {a b : Int} (hab : a = b + pre.length) : Yr (RM pre T) [XA n m.frm (YN yes a)] [XA r q.frm (YN yes b)] :=
 .cons ⟨rfl, h.id, hm.frm, h.term, fun _ => hab, fun e => (by rcases e with e | e <;> cases e), fun e => (by cases e), rfl, rfl, by intro e he; cases he⟩ .nil
theorem RN.add (h : RN pre T n r) (hF : Fr pre T) (hm : RM pre T m q) (hk : q.kind = 3) (h0 : 0 ≤ q.index) (ht : r.term ≤ q.term) : RN pre T (Jv n m).1 (Jv r q).1 ∧ Yr (RM pre T) (Jv n m).2 (Jv r q).2 := by
 have hx := hm.idx (.inr (.inl hk))
 have h1 := h.term
 have h2 := hm.term
 have hb1 := h.nb
 have hb2 := h.rb
 have hl := h.last
 have hlt := hm.lt (.inr hk)
 have hlr : Qs r = r.log.length := by unfold Qs; omega
 unfold Jv
 rw [if_neg (show ¬ m.term < n.term by omega), if_neg (show ¬ q.term < r.term by omega), if_neg (show ¬ m.index < n.base by omega), if_neg (show ¬ q.index < r.base by omega)]
 by_cases hc : Qs r < q.index ∨ ¬ Xe r q.index = q.logTerm
 ·have hc' : Qs n < m.index ∨ ¬ Xe n m.index = m.logTerm := by
   by_cases hq : Qs r < q.index
   ·exact .inl (by omega)
   ·refine .inr ?_
    rw [hx, h.trm hF h0 (by omega), hlt]
    rcases hc with hc | hc
    ·exact absurd hc hq
    ·omega
  rw [if_pos hc, if_pos hc']
  exact ⟨h.quiet, h.quiet.said hm false (by omega)⟩
 ·have hq : ¬ Qs r < q.index := fun e => hc (.inl e)
  have hq2 : Xe r q.index = q.logTerm := Classical.not_not.1 fun e => hc (.inr e)
  have hc' : ¬ (Qs n < m.index ∨ ¬ Xe n m.index = m.logTerm) := by
   rintro (e | e)
   ·omega
   ·rw [hx, h.trm hF h0 (by omega), hlt] at e
    omega
  rw [if_neg hc, if_neg hc']
  obtain ⟨a1, a2⟩ := h.lay hm hk h0 _ (Nat.le_refl _)
  have hel : m.entries.length = q.entries.length := by rw [hm.ents, List.length_map]
  have hc0 := h.com0
  have hc1 := h.com
  have hc2 := hm.com hk
  have hn : RN pre T (EX n m) (EX r q) := { h.quiet with
   log := (by show Xb n m m.entries.length = _; rw [hel]; exact a1)
   conf := a2
   com := (by show max n.commit (min m.commit (m.index + m.entries.length)) = max r.commit (min q.commit (q.index + q.entries.length)) + pre.length; rw [hel]; omega)
   com0 := (by show 0 ≤ max r.commit (min q.commit (q.index + q.entries.length)); omega) }
  exact ⟨hn, hn.said hm true (by rw [hel]; omega)⟩
end
def okK (z : Bool) (r : Nd) (q : Ms) : Prop :=
 ((0 ≤ q.frm ∧ q.frm < 3) ∧ (¬ q.frm = r.id ∧ q.to = r.id)) ∧ ((1 ≤ q.kind ∧ q.kind ≤ 4) ∧ (0 ≤ q.term ∧ q.term ≤ 100000)) ∧ (q.kind = 3 → 0 ≤ q.index ∧ r.term ≤ q.term) ∧
 (q.kind = 4 → 0 ≤ q.index ∧ ((upN r q).role = 2 → q.yes = false → z = true ∨ 2 ≤ (upN r q).next.get q.frm.toNat))
instance (z : Bool) (r : Nd) (q : Ms) : Decidable (okK z r q) := by unfold okK; infer_instance
section
variable {pre : List En} {T : Int} {n r : Nd} {m q : Ms} {z : Bool}
theorem RN.heard (h : RN pre T n r) (hF : Fr pre T) (hm : RM pre T m q) (hz : z = true → pre = []) (hk : q.kind = 4) (h0 : 0 ≤ q.index) (f0 : 0 ≤ q.frm) (f3 : q.frm < 3) (hne : ¬ q.frm = r.id)
  (ho : r.role = 2 → q.yes = false → z = true ∨ 2 ≤ r.next.get q.frm.toNat) : RN pre T (XK n m).1 (XK r q).1 ∧ Yr (RM pre T) (XK n m).2 (XK r q).2 := by
 have hx := hm.idx (.inr (.inr hk))
 have h5 := h.term
 have h6 := hm.term
 have hy := hm.yes
 have hro := h.role
 have hfr := hm.frm
 have hid := h.id
 have hi0 := h.id0
 have hi3 := h.id3
 unfold XK
 by_cases hc : ¬ q.term = r.term ∨ ¬ r.role = 2
 ·rw [if_pos hc, if_pos (by rw [hro]; rcases hc with hc | hc; exact .inl (by omega); exact .inr hc)]
  exact ⟨h, .nil⟩
 ·have hr : r.role = 2 := Classical.not_not.1 fun e => hc (.inr e)
  have ht : q.term = r.term := Classical.not_not.1 fun e => hc (.inl e)
  rw [if_neg hc, if_neg (show ¬ (¬ m.term = n.term ∨ ¬ n.role = 2) by omega), hy]
  obtain ⟨m0, m1⟩ := h.mt hr q.frm.toNat (by omega)
  have hnx := h.nxt hr q.frm.toNat (by omega) (by omega)
  by_cases hyes : q.yes = true
  ·rw [if_pos hyes, if_pos hyes]
   refine ⟨RN.commit ?_ hF hr, .nil⟩
   unfold JO
   rw [hfr, hx]
   refine { h with nxt := fun _ j hj hjn => ?_, mt := fun _ j hj => ?_ }
   ·simp only
    rw [F5.get_set _ _ _ _ (by omega) (by omega), F5.get_set _ _ _ _ (by omega) (by omega)]
    split
    ·omega
    ·exact h.nxt hr j hj hjn
   ·simp only
    rw [F5.get_set _ _ _ _ (by omega) (by omega), F5.get_set _ _ _ _ (by omega) (by omega)]
    split
    ·exact ⟨by omega, .inl (by omega)⟩
    ·exact h.mt hr j hj
  ·have hno : q.yes = false := by simpa using hyes
   rw [if_neg hyes, if_neg hyes]
   have hp : z = true → pre.length = 0 := fun e => by rw [hz e]; rfl
   have key : max (max (min (n.next.get q.frm.toNat - 1) (m.index + 1)) 1) (n.mtch.get q.frm.toNat + 1) = max (max (min (r.next.get q.frm.toNat - 1) (q.index + 1)) 1) (r.mtch.get q.frm.toNat + 1) + pre.length := by
    rcases ho hr hno with e | e
    ·have := hp e
     omega
    ·omega
   have hb : RN pre T (XB n m) (XB r q) := by
    unfold XB
    rw [hfr, key]
    refine { h with nxt := fun _ j hj hjn => ?_ }
    simp only
    rw [F5.get_set _ _ _ _ (by omega) (by omega), F5.get_set _ _ _ _ (by omega) (by omega)]
    split
    ·rfl
    ·exact h.nxt hr j hj hjn
   have hbl := hb.last
   have hbx := hb.nxt hr q.frm.toNat (by omega) (by show ¬ ((q.frm.toNat : Nat) : Int) = r.id; omega)
   have hlr : Qs (XB r q) = r.log.length := by unfold Qs; show r.base + _ = _; rw [h.rb]; show (0 : Int) + r.log.length = _; omega
   have hb1 : 1 ≤ (XB r q).next.get q.frm.toNat := by
    unfold XB
    simp only
    rw [F5.get_set _ _ _ _ (by omega) (by omega), if_pos rfl]
    omega
   rw [hfr]
   by_cases hle : (XB r q).next.get q.frm.toNat ≤ Qs (XB r q)
   ·have e1 : Qs (XB r q) = Qs r := rfl
    have e2 : Qs (XB n m) = Qs n := rfl
    rw [if_pos (by omega), if_pos (by omega)]
    have hw := hb.owe hF hr (j := q.frm.toNat) (by omega) (by show ¬ ((q.frm.toNat : Nat) : Int) = r.id; omega) ⟨hb1, by show _ ≤ ((r.log.length : Nat) : Int) + 1; omega⟩
    rw [show ((q.frm.toNat : Nat) : Int) = q.frm by omega] at hw
    exact ⟨hb, .cons hw .nil⟩
   ·have e1 : Qs (XB r q) = Qs r := rfl
    have e2 : Qs (XB n m) = Qs n := rfl
    rw [if_neg (by omega), if_neg (by omega)]
    exact ⟨hb, .nil⟩
theorem RN.take (h : RN pre T n r) (hF : Fr pre T) (hm : RM pre T m q) (hz : z = true → pre = []) (ho : okK z r q) (ht : q.term + T ≤ 1073741824) : RN pre T (Xa n m).1 (Xa r q).1 ∧ Yr (RM pre T) (Xa n m).2 (Xa r q).2 := by
 obtain ⟨⟨⟨f0, f3⟩, hne, hto⟩, ⟨⟨k1, k4⟩, t0, t1⟩, o3, o4⟩ := ho
 have h6 := hm.term
 have hk := hm.kind
 have hfr := hm.frm
 have hto' := hm.to
 have hid := h.id
 have hT := hF.t0
 have b1 : ¬ WE n m := by unfold WE; omega
 have b2 : ¬ WE r q := by unfold WE; omega
 have hu := h.up hm t0
 have hur : (upN r q).id = r.id := by unfold upN; split <;> rfl
 have hut : (upN r q).term = max r.term q.term := by
  unfold upN
  split
  ·show q.term = _; omega
  ·omega
 unfold Xa
 rw [if_neg b1, if_neg b2]
 unfold MG
 rw [hk]
 have : q.kind = 1 ∨ q.kind = 2 ∨ q.kind = 3 ∨ q.kind = 4 := by omega
 rcases this with e | e | e | e
 ·rw [if_pos e, if_pos e]
  exact hu.votE hF hm e
 ·rw [if_neg (show ¬ q.kind = 1 by omega), if_neg (show ¬ q.kind = 1 by omega), if_pos e, if_pos e]
  exact hu.voted hF hm
 ·rw [if_neg (show ¬ q.kind = 1 by omega), if_neg (show ¬ q.kind = 1 by omega), if_neg (show ¬ q.kind = 2 by omega), if_neg (show ¬ q.kind = 2 by omega), if_pos e, if_pos e]
  exact hu.add hF hm e (o3 e).1 (by have := (o3 e).2; omega)
 ·rw [if_neg (show ¬ q.kind = 1 by omega), if_neg (show ¬ q.kind = 1 by omega), if_neg (show ¬ q.kind = 2 by omega), if_neg (show ¬ q.kind = 2 by omega), if_neg (show ¬ q.kind = 3 by omega), if_neg (show ¬ q.kind = 3 by omega), if_pos e, if_pos e]
  exact hu.heard hF hm hz e (o4 e).1 f0 f3 (by rw [hur]; exact hne) (o4 e).2
theorem RN.prop (h : RN pre T n r) (hF : Fr pre T) (cmd : List UInt8) : RN pre T (QT n cmd).1 (QT r cmd).1 ∧ (QT n cmd).2.2 = (QT r cmd).2.2 ∧ ((QT r cmd).2.2 = 0 → (QT n cmd).2.1 = (QT r cmd).2.1 + pre.length) := by
 have hl := h.len
 have hro := h.role
 have hi0 := h.id0
 have hi3 := h.id3
 unfold QT
 by_cases hr : r.role = 2
 ·rw [if_neg (show ¬ ¬ r.role = 2 from fun e => e hr), if_neg (show ¬ ¬ n.role = 2 from fun e => e (hro.trans hr))]
  by_cases hc : cmd = []
  ·rw [if_pos hc, if_pos hc]
   exact ⟨h, rfl, fun e => absurd (show (1 : Int) = 0 from e) (by decide)⟩
  ·rw [if_neg hc, if_neg hc]
   refine ⟨RN.commit ?_ hF hr, rfl, fun _ => by simp only; rw [h.nb, h.rb]; omega⟩
   unfold VU
   refine { h with log := ?_, conf := fun e he => ?_, mt := fun _ j hj => ?_ }
   ·simp only
    rw [h.log, h.term]
    simp [shE]
   ·rcases List.mem_append.1 he with he | he
    ·exact h.conf e he
    ·rw [List.mem_singleton.1 he]
   ·simp only
    rw [h.id, F5.get_set _ _ _ _ (by omega) hj, F5.get_set _ _ _ _ (by omega) hj, h.nb, h.rb]
    split
    ·exact ⟨by omega, .inl (by omega)⟩
    ·exact h.mt hr j hj
 ·rw [if_pos hr, if_pos (show ¬ n.role = 2 from fun e => hr (hro.symm.trans e))]
  exact ⟨h, rfl, fun e => absurd (show (21 : Int) = 0 from e) (by decide)⟩
theorem RN.wake (h : RN pre T n r) : RN pre T (Qp n) (Qp r) := { h with role := rfl, wait := rfl, votes := fun e => (by cases e), nxt := fun e => (by cases e), mt := fun e => (by cases e) }
theorem RN.same {n' r' : Nd} (h : RN pre T n r) (h' : RN pre T n' r') (e : Qp r = Qp r') : Qp n = Qp n' := by
 unfold Qp at e ⊢
 simp only [Nd.mk.injEq] at e ⊢
 obtain ⟨e1, e2, e3, e4, e5, e6, e7, e8, e9, _⟩ := e
 exact ⟨by rw [h.id, h'.id, e1], by rw [h.term, h'.term, e2], by rw [h.vote, h'.vote, e3], by rw [h.nb, h'.nb], by rw [h.nbt, h'.nbt], by rw [h.nbc, h'.nbc], by rw [h.ns, h'.ns], by rw [h.log, h'.log, e8], by rw [h.com, h'.com, e9], by simp⟩
end
instance (r : Nd) : Decidable (okT r) := by unfold okT; infer_instance
structure Rs where
 ns : List Nd
 way : List Ms
 dead : Bool
 pd : Nd
 ok : Bool
 deriving DecidableEq, Inhabited
def Rs.n (s : Rs) (i : Nat) : Nd := s.ns.getD i default
def thR (fi : Nat) (s : Rs) (i : Nat) : Bool := !(s.dead && decide (i = fi))
def WX (fi : Nat) (s : Rs) (i : Nat) (t : Nd) (out : List Ms) : List Rs :=
 if i = fi ∧ ¬ Qp (s.n i) = Qp t then [{ s with ns := s.ns.set i t, way := s.way ++ out }, { s with dead := true, pd := t }] else [{ s with ns := s.ns.set i t, way := s.way ++ out }]
def VJ (fi i : Nat) (s : Rs) : List Rs := if thR fi s i then WX fi { s with ok := s.ok && decide (okT (s.n i)) } i (Xh (s.n i)).1 (Xh (s.n i)).2 else [s]
def MM (z : Bool) (fi : Nat) (m : Ms) (s : Rs) : List Rs :=
 if thR fi s m.to.toNat then WX fi { s with ok := s.ok && decide ((0 ≤ m.to ∧ m.to < 3) ∧ okK z (s.n m.to.toNat) m) } m.to.toNat (Xa (s.n m.to.toNat) m).1 (Xa (s.n m.to.toNat) m).2
 else [{ s with ok := s.ok && decide (0 ≤ m.to ∧ m.to < 3) }]
def LS (z : Bool) (fi : Nat) : List Ms → Rs → List Rs
 | [], s => [s]
 | m :: ms, s => (MM z fi m s).flatMap (LS z fi ms)
def Jh (z : Bool) (fi : Nat) (s : Rs) : List Rs := (LS z fi s.way { s with way := [] }).flatMap fun s => (VJ fi 0 s).flatMap fun s => (VJ fi 1 s).flatMap (VJ fi 2)
def JN (z : Bool) (fi : Nat) : Nat → Rs → List Rs
 | 0, s => [s]
 | k + 1, s => (Jh z fi s).flatMap (JN z fi k)
def MO (n : Nd) (index term : Int) : Bool := decide (0 ≤ index - 1 ∧ index - 1 < n.log.length ∧ (n.log.getD (index - 1).toNat default).term = term)
def W3 (z : Bool) (fi i : Nat) (index term : Int) : Nat → Rs → List (Rs × Bool)
 | 0, s => [(s, decide (index ≤ (s.n i).commit) && MO (s.n i) index term)]
 | f + 1, s => if index ≤ (s.n i).commit then [(s, MO (s.n i) index term)] else (Jh z fi s).flatMap (W3 z fi i index term f)
def doR (z : Bool) (fi i : Nat) (cmd : List UInt8) (s : Rs) : List (Rs × Bool) :=
 if (s.n i).role = 2 then
  if thR fi s i then
   (WX fi s i (QT (s.n i) cmd).1 []).flatMap fun s1 => if s1.dead && decide (i = fi) then [(s1, false)] else W3 z fi i (QT (s.n i) cmd).2.1 (QT (s.n i) cmd).1.term 40 s1
  else [(s, false)]
 else [(s, false)]
def DG (z : Bool) (fi : Nat) : List Nat → Rs × Nat → List (Rs × Nat)
 | [], p => [p]
 | j :: js, p => (doR z fi j [99] p.1).flatMap fun x => DG z fi js (x.1, if x.2 then p.2 + 1 else p.2)
def Wz (fi : Nat) (s : Rs) : List Rs :=
 { s with ns := s.ns.set fi (Qp (s.n fi)), dead := false } :: (if s.dead then [{ s with ns := s.ns.set fi (Qp s.pd), dead := false }] else [])
def Xy (l : List En) : Nat := (l.filter fun e => !e.cmd.isEmpty).length
def U6 (d : Nat) (t : Int) (r : Nd) : Nd :=
 { r with term := r.term - t, log := (r.log.drop d).map (fun e => { e with term := e.term - t }), commit := r.commit - d, votes := (if r.role = 1 then r.votes else 0), next := (if r.role = 2 then F5.set ⟨r.next.a - d, r.next.b - d, r.next.c - d, 0, 0⟩ r.id.toNat 0 else .all 0), mtch := (if r.role = 2 then ⟨r.mtch.a - d, r.mtch.b - d, r.mtch.c - d, 0, 0⟩ else .all 0) }
def Rj (d : Nat) (t : Int) (m : Ms) : Ms := { m with term := m.term - t, index := m.index - d, logTerm := (if m.kind = 3 then m.logTerm - t else m.logTerm), commit := (if m.kind = 3 then m.commit - d else m.commit) }
def MC (s : Rs) : Rs :=
 let d := (s.n 0).log.length - 2
 let t := if d = 0 then 0 else ((s.n 0).log.getD (d - 1) default).term
 { s with ns := s.ns.map (U6 d t), way := s.way.map (Rj d t), pd := default }
def RK : Rs := ⟨[QV 0 7, QV 1 7, QV 2 7], [], false, default, true⟩
def EU : List Rs := JN true 9 30 RK
theorem BN : (EU.map fun s => (s.ok, (s.n 0).role)) = [(true, 2)] := by decide +kernel
end Go.Proofs.YtjbokbikkcfjjaaGreat
