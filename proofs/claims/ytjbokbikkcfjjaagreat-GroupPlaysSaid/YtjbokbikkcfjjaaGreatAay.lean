/-
  The document's replica: entries taken.
-/
import Derived.Test.YtjbokbikkcfjjaaGreatAax
set_option maxRecDepth 16000
set_option maxHeartbeats 8000000
set_option linter.all false
namespace Go.Proofs.YtjbokbikkcfjjaaGreat
open Go.Cap
attribute [local irreducible] POp Qi SO EOp Sim FnH T.gp
theorem Kr {e : TypeId} {l : List En} {p : Option Addr} {n c : Nat} {Hs : Qd} (h : OSl e 3 (l.map een) (.slice p n c) Hs) : ∃ bl, 0 < l.length → p = some ⟨bl, 0, none⟩ ∧ (bl, (⟨e, (l.map een).flatMap T.cells, c * 3⟩ : Blk)) ∈ Hs := by
 rcases h with ⟨h, _⟩ | ⟨bl, c', e, _, rfl⟩
 ·have : l = [] := by simpa using h
  exact ⟨0, fun h => by rw [this] at h; simp at h⟩
 ·cases e; exact ⟨bl, fun _ => ⟨rfl, List.mem_singleton.2 rfl⟩⟩
theorem Tq {e : TypeId} {l : List En} {p : Option Addr} {n c : Nat} {Hs : Qd} (h : OSl e 3 (l.map een) (.slice p n c) Hs) (j : Nat) : YV 3 p c 0 j = .slice p j c := by
 rcases h with ⟨_, ⟨q, e⟩, _⟩ | ⟨bl, c', e, _, _⟩
 ·cases e; cases p <;> rfl
 ·cases e
  unfold YV
  by_cases hc : c = 0 <;> simp [hc, Addr.add_mk]
theorem Pi {n : Nd} (m : Ms) (hn : Rd n) (hl : n.log.length + m.entries.length ≤ 100000000) (hi0 : -50000000000 ≤ m.index) (hi1 : m.index ≤ 50000000000) : FnP Tryz.prog 117 [nd n, ms m] (fun r => r = .tup [nd (Jt n m).1, mss (Jt n m).2]) := by
 have hsz := hn.sz
 have hb0 := hn.b0
 have hc0 := hn.c0
 have hla : Qq n = n.base + n.log.length := rfl
 have fL := Y2 (QU n) (show n.log.length ≤ _ from hsz.1) (show _ ≤ n.base by omega) (show n.base ≤ _ by omega)
 have fT := Zy (QU n) m.index (show n.log.length ≤ _ from hsz.1) (by simp only [big]; show _ ≤ n.base; omega) (by simp only [big]; show n.base ≤ _; omega) (by simp only [big]; omega) (by simp only [big]; omega)
 refine fe Tryz.func117 fun S0 w0 => ?_
 show Sim _ _ [(0, T.agg (Qg n (.sl false (n.log.map een)))), (1, T.agg (msC m (XZ m.entries)))] _ _
 refine zC ?_
 apply cr
 refine Xk fun b2 _ => ?_
 refine Xk fun b3 _ => ?_
 refine Xt fun b4 _ => ?_
 refine s_ Qb <| zC ?_
 refine Xr (List.Perm.swap _ _ _) ?_
 refine X4 3 (by simp [msC]) ?_
 refine zC ?_
 refine cr <| s_ Qc <| s_ Ql <| s_ Qj <| s_ Qf <| s_ Qc <| s_ Ql <| s_ (YH 11 [_, _, _, _, _, _, _, _, _, _, _]) ?_
 refine Xt fun b6 _ => ?_
 refine Qn ?_
 refine zC ?_
 refine cr <| s_ Qj <| s_ Qf <| s_ Qc <| s_ Ql <| s_ QN <| zC ?_
 refine ci ?_ ?_
 ·intro hlt
  refine zC ?_
  refine ca [0, 1, 2, 3, 4] [3] <| QR ?_
  refine QR ?_
  refine a_ (fun _ => XS) <| Q2 ?_
  refine a_ (fun _ => Qb) ?_
  apply an
  refine zC ?_
  refine zE ?_
  rw [Jt, if_pos hlt]
  exact Ug (n := n) rfl rfl rfl
 intro hlt
 refine zC ?_
 refine cr <| s_ Qc <| Qn ?_
 refine s_ Qc <| Qn ?_
 refine zC ?_
 refine cr <| s_ Qj <| s_ Qf <| s_ Qc <| s_ Ql <| s_ QN <| zC ?_
 refine ci ?_ ?_
 ·intro hlo
  refine zC ?_
  refine ca [0, 1, 2, 3, 4, 5] [3, 5] <| a_ (fun _ => Qc) <| Qv ?_
  refine a_ (fun _ => Qc) <| Q2 ?_
  refine a_ (fun _ => Qc) <| Q2 ?_
  apply an
  refine zC ?_
  refine ca [0, 1, 2, 3, 4] [3] <| QR ?_
  refine QR ?_
  refine a_ (fun _ => XS) <| Q2 ?_
  refine a_ (fun _ => Qb) ?_
  apply an
  refine zC ?_
  refine zE ?_
  have hlo' : m.index < n.base := hlo
  rw [Jt, if_neg hlt, if_pos hlo']
  exact Ug (n := QU n) rfl rfl rfl
 intro hlo
 have hlo' : ¬ m.index < n.base := hlo
 have hcond : (Qq n < m.index ∨ ¬ Xm (QU n) m.index = m.logTerm) ↔ (Qq n < m.index ∨ ¬ termF n m.index = m.logTerm) := by
  by_cases h : Qq n < m.index
  ·exact ⟨fun _ => .inl h, fun _ => .inl h⟩
  ·rw [show Xm (QU n) m.index = Xm n m.index from rfl, JS (by omega) (by omega)]
 refine zC ?_
 refine cr <| s_ Qw <| s_ (Qr (fL)) <| s_ Qa <| s_ Qt <| s_ Qt <| s_ Qb <| s_ Qb <| zC ?_
 refine ca [0, 1, 2, 3, 4, 5, 6, 7, 8, 9, 10, 11, 12] [] <| a_ (fun _ => Qj) <| a_ (fun _ => Qf) <| a_ (fun _ => Qa) <| a_ (fun _ => XX) <| a_ (fun _ => Qa) ?_
 refine Ca ?_
 refine Xw (fun _ hg => Qj) ?_
 refine Xw (fun _ hg => Qf (hx := u_ hg)) ?_
 refine Xw (fun _ hg => Qr (fT) (ha' := by apply Qu (u_ hg); apply Qu (u_ hg); exact Xh)) ?_
 refine Xw (fun _ hg => Qj) ?_
 refine Xw (fun _ hg => Qf (hx := u_ hg)) ?_
 refine Xw (fun _ hg => XE (hx := u_ hg) (hy := u_ hg)) ?_
 refine a_ (fun _ => XC) ?_
 apply an
 refine zC ?_
 refine ci ?_ ?_
 ·intro hno
  have hno' := hcond.1 hno
  refine zC ?_
  refine cr <| s_ Qa <| s_ Qj <| s_ Qf <| s_ Yr <| s_ WO <| s_ Qc <| Qn ?_
  refine zC ?_
  refine ca [0, 1, 2, 3, 4] [3] <| QR ?_
  refine QR ?_
  refine a_ (fun _ => XS) <| Q2 ?_
  refine a_ (fun _ => Qb) ?_
  apply an
  refine zC ?_
  refine zE ?_
  rw [Jt, if_neg hlt, if_neg hlo', if_pos hno']
  exact Ug (n := QU n) rfl rfl rfl
 intro hno
 have hno' := fun h => hno (hcond.2 h)
 obtain ⟨a, ha⟩ : ∃ a : Nat, m.index - n.base = (a : Nat) := ⟨(m.index - n.base).toNat, by omega⟩
 refine zC ?_
 refine LS (σ := Value × Qd) (ok := fun s => ∃ Hl, OSl rE 3 (n.log.map een) s.1 Hl ∧ s.2 = Hl ++ [(b6, ⟨rM, msC ⟨4, n.id, m.frm, n.term, 0, 0, 0, 0, false, [], []⟩ (.v (.slice none 0 0)), 11⟩), (b4, ⟨rN, Qg YK (.v (.slice none 0 0)), 22⟩), (b2, ⟨rN, Qg (QU n) (.sl false (n.log.map een)), 22⟩)])
  (env := fun s => [(9, .v s.1), (6, pN b6), (5, .v (.slice none 0 0)), (4, pN b4), (3, .adr (.agg (msC m (XZ m.entries)))), (2, pN b2)]) (heap := fun s => s.2) ?_ ?_
 ·by_cases hz : n.log = []
  ·refine zC ?_
   refine cr <| s_ XS <| s_ Qc <| s_ Ql <| s_ (GJ (hyl := Le.of_eq (by rw [hz]; rfl))) ?_
   refine Zj 71 fun q c' _ h2 => ?_
   have := h2 rfl
   subst this
   refine s_ Qb <| zC ?_
   exact ⟨(.slice q 0 0, _), ⟨[], by rw [hz]; exact J2, rfl⟩, eL, kR⟩
  ·have hzl : 0 < n.log.length := List.length_pos_iff.2 hz
   refine zC ?_
   refine cr <| s_ XS <| s_ Qc <| s_ Ql ?_
   refine St (e := rE) (k := 3) (fun v' Hl h1 => ?_)
   refine s_ Qb <| zC ?_
   exact ⟨(_, _), ⟨Hl, by simpa using h1, rfl⟩, eL, kR⟩
 rintro ⟨v0, H0⟩ ⟨Hl0, h0, hH0⟩
 simp only at h0 hH0
 subst hH0
 have hlay : ∀ i k : Nat, k = a + i → i < m.entries.length → Xf n m (i + 1) = if k < (Xf n m i).length ∧ ((Xf n m i).getD k default).term = (m.entries.getD i default).term then Xf n m i else (Xf n m i).take k ++ [m.entries.getD i default] := by
  intro i k hk hi
  have e : m.index - n.base + (i : Nat) = (k : Int) := by omega
  rw [Xf, e, Int.toNat_natCast]
  by_cases h : k < (Xf n m i).length ∧ ((Xf n m i).getD k default).term = (m.entries.getD i default).term
  ·rw [if_pos h, if_pos ⟨by omega, h.2⟩]
  ·rw [if_neg h, if_neg (fun h' => h ⟨by have := h'.1; omega, h'.2⟩)]
   congr 1
   rcases Nat.le_total k (Xf n m i).length with h1 | h1
   ·rw [show (min (k : Int) ((Xf n m i).length : Nat)).toNat = k by omega]
   ·rw [show (min (k : Int) ((Xf n m i).length : Nat)).toNat = (Xf n m i).length by omega, List.take_length, List.take_of_length_le h1]
 refine zC ?_
 refine cr <| s_ Qb <| zC ?_
 apply Qm (σ := Nat × Value × Qd) (ok := fun s => s.1 ≤ m.entries.length ∧ ∃ Hl, OSl rE 3 ((Xf n m s.1).map een) s.2.1 Hl ∧ s.2.2 = Hl ++ [(b6, ⟨rM, msC ⟨4, n.id, m.frm, n.term, 0, 0, 0, 0, false, [], []⟩ (.v (.slice none 0 0)), 11⟩), (b4, ⟨rN, Qg YK (.v (.slice none 0 0)), 22⟩), (b2, ⟨rN, Qg (QU n) (.sl false (n.log.map een)), 22⟩)])
  (env := fun s => [(10, ei (s.1 : Nat)), (9, .v s.2.1), (6, pN b6), (5, .v (.slice none 0 0)), (4, pN b4), (3, .adr (.agg (msC m (XZ m.entries)))), (2, pN b2)]) (heap := fun s => s.2.2) (μ := fun s => m.entries.length - s.1) (s0 := (0, v0, _))
 ·exact ⟨Nat.zero_le _, Hl0, h0, rfl⟩
 ·exact eL
 ·exact kR
 clear h0
 rintro ⟨i, v, H⟩ ⟨hi, Hl, h1, hH⟩
 simp only at hi h1 hH
 subst hH
 obtain ⟨p, c, rfl⟩ := OSl.len h1
 have hlk := Wj n m i
 refine zC ?_
 refine cr <| s_ Qa <| s_ Qj <| s_ Qf ?_
 (first | refine s_ QS ?_ | refine s_ QP ?_)
 refine s_ QN <| zC ?_
 refine ci ?_ ?_
 ·intro hlt2
  simp only [List.length_map] at hlt2
  have hix : i < m.entries.length := by omega
  have hge : m.entries.getD i default = m.entries[i] := by simp [hix]
  have hqb : (QU n).base = n.base := rfl
  refine zC ?_
  refine cr <| s_ Qj <| s_ Qf <| s_ Qc <| s_ Ql <| s_ Yr <| s_ Qa <| s_ QQ <| s_ Qb <| zC ?_
  rw [hqb]
  have hk : m.index - n.base + (i : Nat) = ((a + i : Nat) : Int) := by omega
  rw [hk]
  obtain ⟨bl, hbl⟩ := Kr h1
  have hstep := hlay i (a + i) rfl hix
  rw [hge] at hstep
  generalize hkk : a + i = k at hstep
  have hkl : (k : Int) < (((Xf n m i).map een).length : Nat) → k < (Xf n m i).length := fun h => by rw [List.length_map] at h; omega
  refine zC ?_
  refine ca [0, 1, 2, 3, 4, 5, 6, 7, 8, 9, 10, 11, 12, 13, 14, 15, 16, 17] [] <| a_ (fun _ => Qa) <| a_ (fun _ => Qa) ?_
  (first | refine a_ (fun _ => QS) ?_ | refine a_ (fun _ => QP) ?_)
  refine a_ (fun _ => QN) <| a_ (fun _ => Qa) <| QI (fun _ hg => Qa) ?_
  refine QI (fun _ hg => Qa) ?_
  refine QI (p := (k : Int) < (((Xf n m i).map een).length : Nat)) (fun _ hg => HP (hbl (by have := hkl hg; omega)).1 (hx := u_ hg) (hy := u_ hg)) ?_
  (first | refine QI (fun _ hg => Qj (hx := u_ hg)) ?_ | refine QI (fun _ hg => Qc (hx := u_ hg)) ?_)
  refine Cb (p := (k : Int) < (((Xf n m i).map een).length : Nat)) (b := bl) (fun hg => List.mem_append_left _ (hbl (by have := hkl hg; omega)).2) (fun hg => I1 (k := 3) (j := 0) (VM _) (EM _ (hkl hg)) (by decide) rfl) ?_
  refine QI (fun _ hg => Qj) ?_
  refine QI (fun _ hg => Qf (hx := u_ hg)) ?_
  refine QI (fun _ hg => Qa) ?_
  (first | refine QI (fun _ hg => Q4 hix (hx := u_ hg) (hy := u_ hg)) ?_ | refine QI (fun _ hg => Q4 hix2 (hx := u_ hg) (hy := u_ hg)) ?_ | refine QI (fun _ hg => Yd (hx := u_ hg) (hy := u_ hg)) ?_ | refine QI (fun _ hg => Ys (hx := u_ hg) (hy := u_ hg)) ?_)
  (first | refine QI (fun _ hg => Qj (hx := u_ hg)) ?_ | refine QI (fun _ hg => Qc (hx := u_ hg)) ?_)
  (first | refine QI (fun _ hg => Qf (hx := u_ hg)) ?_ | refine Zt ?_)
  refine QI (fun _ hg => XE (hx := u_ hg) (hy := u_ hg)) ?_
  refine a_ (fun _ => Xv) ?_
  apply an
  refine zC ?_
  refine ci ?_ ?_
  ·intro hc
   have hkl' := hkl hc.1
   have hs : Xf n m (i + 1) = (Xf n m i).take k ++ [m.entries[i]] := by
    rw [hstep, if_neg fun h => hc.2 h.2]
   have hcap : ((Xf n m i).map een).length ≤ c := OSl.cap h1
   refine zC ?_
   refine cr <| s_ Qa <| s_ Qa <| s_ (Di (v := .slice p k c) hcap (by rw [Int.toNat_natCast]; exact Tq h1 _)) <| s_ Qb <| zC ?_
   refine cr <| s_ Qa <| s_ Qa ?_
   (first | refine s_ QS ?_ | refine s_ QP ?_)
   refine s_ ZL <| zC ?_
   refine ci ?_ (fun h => absurd (Int.le_refl _) h)
   intro _
   refine zC ?_
   refine cr <| s_ Qa <| s_ Qj <| s_ Qf <| s_ Qa ?_
   (first | refine s_ (Q4 hix) ?_ | refine s_ (Q4 hix2) ?_ | refine s_ Yd ?_ | refine s_ Ys ?_)
   (first | refine s_ XN ?_ | refine s_ Qw ?_)
   refine s_ XS ?_
   refine Ss (ho := h1) (A := []) (B := [_, _, _]) (ys := [een m.entries[i]]) (VM _) k (fun v' Hl' h1' => ?_) (hx := ?_)
   ·have h1 : OSl rE 3 ((Xf n m (i + 1)).map een) v' Hl' := by rw [hs, List.map_append, List.map_take]; exact h1'
    clear h1'
    obtain ⟨p, c, rfl⟩ := OSl.len h1
    refine s_ Qb <| zC ?_
    refine cr <| s_ Qa <| s_ QQ <| s_ Qb <| zC ?_
    exact ⟨(i + 1, _, _), ⟨hix, Hl', h1, rfl⟩, by show m.entries.length - (i + 1) < m.entries.length - i; omega, ⟨Qh (by rfl) (Le.refl _), Qh (by (exact zG)) (Le.refl _), eL⟩, kR⟩
   ·refine Eq.trans (zl) ?_
    have e : min k ((Xf n m i).map een).length = k := by rw [List.length_map]; omega
    rw [e]
  ·intro hc
   refine zC ?_
   refine cr <| s_ Qa <| s_ Qa ?_
   (first | refine s_ QS ?_ | refine s_ QP ?_)
   refine s_ ZL <| zC ?_
   refine ci ?_ ?_
   ·intro hge2
    have hge3 : (Xf n m i).length ≤ k := by
     have h : (((Xf n m i).map een).length : Int) ≤ k := hge2
     rw [List.length_map] at h; omega
    have hs : Xf n m (i + 1) = Xf n m i ++ [m.entries[i]] := by
     rw [hstep, if_neg fun h => absurd h.1 (by omega), List.take_of_length_le hge3]
    refine zC ?_
    refine cr <| s_ Qa <| s_ Qj <| s_ Qf <| s_ Qa ?_
    (first | refine s_ (Q4 hix) ?_ | refine s_ (Q4 hix2) ?_ | refine s_ Yd ?_ | refine s_ Ys ?_)
    (first | refine s_ XN ?_ | refine s_ Qw ?_)
    refine s_ XS ?_
    refine Ot (ho := h1) (A := []) (B := [_, _, _]) (VM _) (fun v' Hl' h1' => ?_)
    have h1 : OSl rE 3 ((Xf n m (i + 1)).map een) v' Hl' := by rw [hs, List.map_append]; exact h1'
    clear h1'
    obtain ⟨p, c, rfl⟩ := OSl.len h1
    refine s_ Qb <| zC ?_
    refine cr <| s_ Qa <| s_ QQ <| s_ Qb <| zC ?_
    exact ⟨(i + 1, _, _), ⟨hix, Hl', h1, rfl⟩, by show m.entries.length - (i + 1) < m.entries.length - i; omega, ⟨Qh (by rfl) (Le.refl _), Qh (by (exact zG)) (Le.refl _), eL⟩, kR⟩
   ·intro hge2
    have hlt3 : (k : Int) < (((Xf n m i).map een).length : Nat) := Int.not_le.1 hge2
    have hs : Xf n m (i + 1) = Xf n m i := by
     rw [hstep, if_pos ⟨hkl hlt3, Classical.byContradiction fun h => hc ⟨hlt3, h⟩⟩]
    refine zC ?_
    refine cr <| s_ Qa <| s_ QQ <| s_ Qb <| zC ?_
    exact ⟨(i + 1, .slice p ((Xf n m i).map een).length c, _), ⟨hix, Hl, by simp only; rw [hs]; exact h1, rfl⟩, by show m.entries.length - (i + 1) < m.entries.length - i; omega, ⟨Qh (by rfl) (Le.refl _), eL⟩, kR⟩
 ·intro hlt2
  simp only [List.length_map] at hlt2
  have : i = m.entries.length := by omega
  subst this
  have hel : ((m.entries.map een).length : Int) = (m.entries.length : Int) := by simp
  refine zC ?_
  refine GQ (G := Hl) (H1 := [(b6, _), (b4, _), (b2, _)]) 9 (XZ (Xf n m m.entries.length)) (OSl.lend h1 (fun _ h => h) (VM _) (WV _)) (List.Perm.refl _) ?_
  refine zC ?_
  refine cr <| s_ Qa <| s_ Qc <| Qn ?_
  refine zC ?_
  refine cr <| s_ Qc <| s_ Ql <| s_ Qj <| s_ Qf <| s_ Qj <| s_ Qf <| s_ Qj <| s_ Qf ?_
  (first | refine s_ QS ?_ | refine s_ QP ?_)
  refine s_ QQ <| s_ WO <| s_ VG <| s_ Qc <| Qn ?_
  refine zC ?_
  refine ca [0, 1, 2, 3, 4, 5, 6, 7, 8, 9] [7, 9] <| a_ (fun _ => Qj) <| a_ (fun _ => Qf) <| a_ (fun _ => Qj) <| a_ (fun _ => Qf) ?_
  (first | refine a_ (fun _ => QS) ?_ | refine a_ (fun _ => QP) ?_)
  refine a_ (fun _ => QQ) <| a_ (fun _ => Qc) <| Q2 ?_
  refine a_ (fun _ => Qc) <| Q2 ?_
  apply an
  refine zC ?_
  refine ca [0, 1, 2, 3, 4] [3] <| QR ?_
  refine QR ?_
  refine a_ (fun _ => XS) <| Q2 ?_
  refine a_ (fun _ => Qb) ?_
  apply an
  refine zC ?_
  refine zE ?_
  rw [Jt, if_neg hlt, if_neg hlo', if_neg hno']
  rw [hel]
  exact OS (Le.refl _) rfl rfl
theorem Rd.up {n : Nd} (m : Ms) (h : Rd n) : Rd (upN n m) := by
 obtain ⟨_, _, _, _, e, _⟩ := WI n m
 rw [e]; exact h.of
theorem AZ {n : Nd} {m : Ms} (hn : Rd n) (hN : NBd n) (hM : Ln n m ∨ (MBd n m ∧ (m.kind = 5 → 0 ≤ m.logTerm))) : FnP Tryz.prog 82 [nd n, ms m] (fun r => r = .tup [nd (Xd n m).1, mss (Xd n m).2]) := by
 refine fe Tryz.func82 fun S0 w0 => ?_
 show Sim _ _ [(0, T.agg (Qg n (.sl false (n.log.map een)))), (1, T.agg (msC m (XZ m.entries)))] _ _
 refine zC ?_
 apply cr
 refine Xk fun b2 _ => ?_
 refine Xk fun b3 _ => ?_
 refine Xt fun b4 _ => ?_
 refine s_ Qb <| zC ?_
 refine Xr (List.Perm.swap _ _ _) ?_
 refine X4 3 (by simp [msC]) ?_
 refine zC ?_
 refine cr <| s_ Qj <| s_ Qf <| s_ QN <| s_ Qa <| gF (fun hg => Qj) ?_
 refine gF (fun hg => Qf (hx := u_ hg)) ?_
 refine gF (fun hg => ZL (hx := u_ hg)) ?_
 refine s_ XC <| s_ Qa <| gF (fun hg => Qj) ?_
 refine gF (fun hg => Qf (hx := u_ hg)) ?_
 refine gF (fun hg => Qc) ?_
 refine gF (fun hg => Ql (hx := u_ hg)) ?_
 refine gF (fun hg => Q5 (hx := u_ hg) (hy := u_ hg)) ?_
 refine s_ XC <| s_ Qa <| gF (fun hg => Qj) ?_
 refine gF (fun hg => Qf (hx := u_ hg)) ?_
 refine gF (fun hg => Qc) ?_
 refine gF (fun hg => Ql (hx := u_ hg)) ?_
 refine gF (fun hg => XE (hx := u_ hg) (hy := u_ hg)) ?_
 refine s_ XC <| s_ Qa <| gF (fun hg => Qj) ?_
 refine gF (fun hg => Qf (hx := u_ hg)) ?_
 refine gF (fun hg => QN (hx := u_ hg)) ?_
 refine s_ XC <| s_ Qa <| gF (fun hg => Qj) ?_
 refine gF (fun hg => Qf (hx := u_ hg)) ?_
 refine gF (fun hg => XX (hx := u_ hg)) ?_
 refine s_ XC <| s_ Qa <| gF (fun hg => Qj) ?_
 refine gF (fun hg => Qf (hx := u_ hg)) ?_
 refine gF (fun hg => QN (hx := u_ hg)) ?_
 refine s_ XC <| s_ Qa <| gF (fun hg => Qj) ?_
 refine gF (fun hg => Qf (hx := u_ hg)) ?_
 refine gF (fun hg => XX (hx := u_ hg)) ?_
 refine s_ XC <| zC ?_
 have hbi : (((((((m.frm < 0 ∨ 5 ≤ m.frm) ∨ m.frm = n.id) ∨ ¬ m.to = n.id) ∨ m.kind < 1) ∨ 5 < m.kind) ∨ m.term < 0) ∨ 1073741824 < m.term) ↔ Ln n m := by
  unfold Ln; simp only [or_assoc]
 refine ci ?_ ?_
 ·intro hb
  have hbad := hbi.1 hb
  refine zC ?_
  refine cr <| s_ Qw <| Qn ?_
  refine s_ Qb <| zC ?_
  refine zE ?_
  rw [Xd, if_pos hbad]
  exact JQ rfl
 intro hb
 have hbad : ¬ Ln n m := fun h => hb (hbi.2 h)
 obtain ⟨hM, hlt⟩ := hM.resolve_left hbad
 have hbb : ¬ ((m.frm < 0 ∨ 5 ≤ m.frm) ∨ (m.kind < 1 ∨ 5 < m.kind)) := fun h => hbad (by
  unfold Ln
  rcases h with h | h
  ·exact .inl (.inl (.inl h))
  ·exact .inr (.inl (.inl h)))
 have hfr : 0 ≤ m.frm ∧ m.frm < 5 := by omega
 have hk15 : 1 ≤ m.kind ∧ m.kind ≤ 5 := by omega
 have hu := hn.up m
 have hNu := hN.up m
 have hMu := hM.up
 have hlu := hNu.log
 have hle := hMu.es
 have hi0 := hM.i0
 have hi1 := hM.i1
 have hx0 := hNu.x0 m.frm.toNat
 have hx1 := hNu.x1 m.frm.toNat
 have hm0 := hNu.m0 m.frm.toNat
 have hm1 := hNu.m1 m.frm.toNat
 refine zC ?_
 refine cr <| s_ Qj <| s_ Qf <| s_ Qc <| s_ Ql <| s_ XX <| zC ?_
 show Sim _ _ _ _ (W4 _ _ _)
 refine Y8 [(5, .v (.slice none 0 0)), (4, pN b4), (3, .adr (.agg (msC m (XZ m.entries)))), (2, pN b2)] [(b4, ⟨rN, Qg YK (.v (.slice none 0 0)), 22⟩), (b2, ⟨rN, Qg (upN n m) (.sl false (n.log.map een)), 22⟩)] ?_ ?_
 ·refine ci ?_ ?_
  ·intro hgt
   refine zC ?_
   refine cr <| s_ Qj <| s_ Qf <| s_ Qc <| Qn ?_
   refine s_ Qc <| Qn ?_
   refine s_ Qc <| Qn ?_
   refine s_ Qc <| Qn ?_
   refine zC ?_
   have hgt' : n.term < m.term := hgt
   have e : upN n m = { n with term := m.term, vote := -1, role := 0, votes := 0 } := by rw [upN, if_pos hgt']
   rw [e]
   exact ⟨eL, kR⟩
  ·intro hgt
   refine zC ?_
   have hgt' : ¬ n.term < m.term := hgt
   have e : upN n m = n := by rw [upN, if_neg hgt']
   rw [e]
   exact ⟨eL, kR⟩
 have hlog : n.log = (upN n m).log := by
  obtain ⟨_, _, _, _, e, _⟩ := WI n m
  rw [e]
 rw [hlog]
 refine zC ?_
 refine cr <| s_ Qj <| s_ Qf <| zC ?_
 refine cr <| s_ Q5 <| s_ Qb <| zC ?_
 refine ci ?_ ?_
 ·intro hk1
  have hk1' : m.kind = 1 := hk1
  have f1 := AO (n := upN n m) m hu
  refine zC ?_
  refine cr <| s_ Qw <| s_ XN <| s_ (Qr (f1)) <| s_ Qt <| s_ Qt <| Qn ?_
  refine s_ Qb <| zC ?_
  refine zE ?_
  rw [Xd, if_neg hbad, WE, if_pos hk1']
  exact Le.refl _
 intro hk1
 have hk1' : ¬ m.kind = 1 := hk1
 refine zC ?_
 refine cr <| s_ Q5 <| s_ Qb <| zC ?_
 refine ci ?_ ?_
 ·intro hk2
  have hk2' : m.kind = 2 := hk2
  have f2 := CA (n := upN n m) m hu hlu hNu.v0 hNu.v1 hfr.1 hfr.2
  refine zC ?_
  refine cr <| s_ Qw <| s_ XN <| s_ (Qr (f2)) <| s_ Qt <| s_ Qt <| Qn ?_
  refine s_ Qb <| zC ?_
  refine zE ?_
  rw [Xd, if_neg hbad, WE, if_neg hk1', if_pos hk2']
  exact Le.refl _
 intro hk2
 have hk2' : ¬ m.kind = 2 := hk2
 refine zC ?_
 refine cr <| s_ Q5 <| s_ Qb <| zC ?_
 refine ci ?_ ?_
 ·intro hk3
  have hk3' : m.kind = 3 := hk3
  have f3 := Pi (n := upN n m) m hu hle hi0 hi1
  refine zC ?_
  refine cr <| s_ Qw <| s_ XN <| s_ (Qr (f3)) <| s_ Qt <| s_ Qt <| Qn ?_
  refine s_ Qb <| zC ?_
  refine zE ?_
  rw [Xd, if_neg hbad, WE, if_neg hk1', if_neg hk2', if_pos hk3']
  exact Le.refl _
 intro hk3
 have hk3' : ¬ m.kind = 3 := hk3
 refine zC ?_
 refine cr <| s_ Q5 <| s_ Qb <| zC ?_
 refine ci ?_ ?_
 ·intro hk4
  have hk4' : m.kind = 4 := hk4
  have f4 := CF (n := upN n m) m hu hfr.1 hfr.2 hx0 hx1 hm0 hm1 (by omega) (by omega)
  refine zC ?_
  refine cr <| s_ Qw <| s_ XN <| s_ (Qr (f4)) <| s_ Qt <| s_ Qt <| Qn ?_
  refine s_ Qb <| zC ?_
  refine zE ?_
  rw [Xd, if_neg hbad, WE, if_neg hk1', if_neg hk2', if_neg hk3', if_pos hk4']
  exact Le.refl _
 intro hk4
 have hk4' : ¬ m.kind = 4 := hk4
 have f5 := AQ (n := upN n m) m hu hi0 hi1 (hlt (by omega))
 refine zC ?_
 refine cr <| s_ Qw <| s_ XN <| s_ (Qr (f5)) <| s_ Qt <| s_ Qt <| Qn ?_
 refine s_ Qb <| zC ?_
 refine zE ?_
 rw [Xd, if_neg hbad, WE, if_neg hk1', if_neg hk2', if_neg hk3', if_neg hk4']
 exact Le.refl _
theorem A0 (a b : Nd) (ha : a.log.length ≤ 1000000000) (hb : b.log.length ≤ 1000000000) : FnP Tryz.prog 61 [nd a, nd b] (fun r => r = .v (.bool (decide (a = b)))) := by
 have fE := RD false false a.log b.log ha hb
 refine fe Tryz.func61 fun S0 w0 => ?_
 show Sim _ _ [(0, T.agg (Qg a (.sl false (a.log.map een)))), (1, T.agg (Qg b (.sl false (b.log.map een))))] _ _
 refine zC ?_
 apply cr
 refine Xk fun b2 _ => ?_
 refine Xk fun b3 _ => ?_
 refine s_ Qb <| zC ?_
 refine X4 3 (by simp [Qg]) ?_
 refine X4 2 (by simp [Qg]) ?_
 refine zC ?_
 refine cr <| s_ Qj <| s_ Qf <| s_ Qj <| s_ Qf <| s_ Q5 <| s_ Qa <| gT (fun hg => Qj) ?_
 refine gT (fun hg => Qf (hx := u_ hg)) ?_
 refine gT (fun hg => Qj) ?_
 refine gT (fun hg => Qf (hx := u_ hg)) ?_
 refine gT (fun hg => Q5 (hx := u_ hg) (hy := u_ hg)) ?_
 refine s_ Xv <| s_ Qa <| gT (fun hg => Qj) ?_
 refine gT (fun hg => Qf (hx := u_ hg)) ?_
 refine gT (fun hg => Qj) ?_
 refine gT (fun hg => Qf (hx := u_ hg)) ?_
 refine gT (fun hg => Q5 (hx := u_ hg) (hy := u_ hg)) ?_
 refine s_ Xv <| s_ Qa <| gT (fun hg => Qj) ?_
 refine gT (fun hg => Qf (hx := u_ hg)) ?_
 refine gT (fun hg => Qj) ?_
 refine gT (fun hg => Qf (hx := u_ hg)) ?_
 refine gT (fun hg => Q5 (hx := u_ hg) (hy := u_ hg)) ?_
 refine s_ Xv <| s_ Qa <| gT (fun hg => Qj) ?_
 refine gT (fun hg => Qf (hx := u_ hg)) ?_
 refine gT (fun hg => Qj) ?_
 refine gT (fun hg => Qf (hx := u_ hg)) ?_
 refine gT (fun hg => Q5 (hx := u_ hg) (hy := u_ hg)) ?_
 refine s_ Xv <| s_ Qa <| gT (fun hg => Qj) ?_
 refine gT (fun hg => Qf (hx := u_ hg)) ?_
 refine gT (fun hg => Qj) ?_
 refine gT (fun hg => Qf (hx := u_ hg)) ?_
 refine gT (fun hg => Q5 (hx := u_ hg) (hy := u_ hg)) ?_
 refine s_ Xv <| s_ Qa <| gT (fun hg => Qj) ?_
 refine gT (fun hg => Qf (hx := u_ hg)) ?_
 refine gT (fun hg => Qj) ?_
 refine gT (fun hg => Qf (hx := u_ hg)) ?_
 refine gT (fun hg => Iw (hx := u_ hg) (hy := u_ hg)) ?_
 refine s_ Xv <| s_ Qa <| gT (fun hg => Qj) ?_
 refine gT (fun hg => Qf (hx := u_ hg)) ?_
 refine gT (fun hg => Qj) ?_
 refine gT (fun hg => Qf (hx := u_ hg)) ?_
 refine gT (fun hg => Qr (fE) (ha' := by apply Qu (u_ hg); apply Qu (u_ hg); exact Xh)) ?_
 refine s_ Xv <| s_ Qa <| gT (fun hg => Qj) ?_
 refine gT (fun hg => Qf (hx := u_ hg)) ?_
 refine gT (fun hg => Qj) ?_
 refine gT (fun hg => Qf (hx := u_ hg)) ?_
 refine gT (fun hg => Q5 (hx := u_ hg) (hy := u_ hg)) ?_
 refine s_ Xv <| s_ Qa <| gT (fun hg => Qj) ?_
 refine gT (fun hg => Qf (hx := u_ hg)) ?_
 refine gT (fun hg => Qj) ?_
 refine gT (fun hg => Qf (hx := u_ hg)) ?_
 refine gT (fun hg => Q5 (hx := u_ hg) (hy := u_ hg)) ?_
 refine s_ Xv <| s_ Qa <| gT (fun hg => Qj) ?_
 refine gT (fun hg => Qf (hx := u_ hg)) ?_
 refine gT (fun hg => Qj) ?_
 refine gT (fun hg => Qf (hx := u_ hg)) ?_
 refine gT (fun hg => Q5 (hx := u_ hg) (hy := u_ hg)) ?_
 refine s_ Xv <| s_ Qa <| gT (fun hg => Qj) ?_
 refine gT (fun hg => Qf (hx := u_ hg)) ?_
 refine gT (fun hg => Qj) ?_
 refine gT (fun hg => Qf (hx := u_ hg)) ?_
 refine gT (fun hg => Q5 (hx := u_ hg) (hy := u_ hg)) ?_
 refine s_ Xv <| s_ Qa <| gT (fun hg => Uv) ?_
 refine gT (fun hg => XN (hx := u_ hg)) ?_
 refine gT (fun hg => Uv) ?_
 refine gT (fun hg => XN (hx := u_ hg)) ?_
 refine gT (fun hg => Iy 2 [.int .i64, .int .i64, .int .i64, .int .i64, .int .i64] Tryz.eqGuardType42 (hx := u_ hg) (hy := u_ hg)) ?_
 refine s_ Xv <| s_ Qa <| gT (fun hg => Uv) ?_
 refine gT (fun hg => XN (hx := u_ hg)) ?_
 refine gT (fun hg => Uv) ?_
 refine gT (fun hg => XN (hx := u_ hg)) ?_
 refine gT (fun hg => Iy 2 [.int .i64, .int .i64, .int .i64, .int .i64, .int .i64] Tryz.eqGuardType42 (hx := u_ hg) (hy := u_ hg)) ?_
 refine s_ Xv <| s_ Qb <| zC ?_
 refine zE ?_
 refine Le.of_eq (congrArg (fun z => T.v (.bool z)) ?_)
 rw [decide_eq_decide]
 constructor
 ·intro h
  obtain ⟨_, _, _, _, _, _, _, _, _, _, _, _, ⟨_, _, _, _, _⟩, ⟨_, _, _, _, _⟩⟩ := a
  obtain ⟨_, _, _, _, _, _, _, _, _, _, _, _, ⟨_, _, _, _, _⟩, ⟨_, _, _, _, _⟩⟩ := b
  simp only [List.cons.injEq, Value.int.injEq, true_and, and_true] at h
  simp only [Nd.mk.injEq, F5.mk.injEq]
  simp_all
 ·rintro rfl; simp
end Go.Proofs.YtjbokbikkcfjjaaGreat
namespace Go.Proofs.YtjbokbikkcfjjaaGreat
namespace Raft
def AG (l m : List En) (k : Nat) : Prop := k ≤ l.length ∧ k ≤ m.length ∧ l.take k = m.take k
theorem AG.symm {l m : List En} {k : Nat} (h : AG l m k) : AG m l k := ⟨h.2.1, h.1, h.2.2.symm⟩
theorem AG.trans {l m n : List En} {k : Nat} (h : AG l m k) (h' : AG m n k) : AG l n k := ⟨h.1, h'.2.1, h.2.2.trans h'.2.2⟩
theorem AG.le {l m : List En} {k j : Nat} (h : AG l m k) (hj : j ≤ k) : AG l m j := by
 refine ⟨Nat.le_trans hj h.1, Nat.le_trans hj h.2.1, ?_⟩
 have := congrArg (List.take j) h.2.2
 rwa [List.take_take, List.take_take, Nat.min_eq_left hj] at this
theorem AG.refl {l : List En} {k : Nat} (h : k ≤ l.length) : AG l l k := ⟨h, h, rfl⟩
theorem AG.zero (l m : List En) : AG l m 0 := ⟨Nat.zero_le _, Nat.zero_le _, by simp⟩
theorem AG.get {l m : List En} {k i : Nat} (h : AG l m k) (hi : i < k) : l[i]? = m[i]? := by
 have := congrArg (fun x => x[i]?) h.2.2
 simpa [List.getElem?_take, hi] using this
theorem NR (l m : List En) : ∃ a, AG l m a ∧ ∀ k, AG l m k → k ≤ a := by
 have key : ∀ n, ∃ a, AG l m a ∧ ∀ k, k ≤ n → AG l m k → k ≤ a := by
  intro n
  induction n with
  | zero => exact ⟨0, AG.zero _ _, fun k hk _ => hk⟩
  | succ n ih =>
   obtain ⟨a, ha, hm⟩ := ih
   by_cases h : AG l m (n + 1)
   ·exact ⟨n + 1, h, fun k hk _ => hk⟩
   ·refine ⟨a, ha, fun k hk hag => ?_⟩
    rcases Nat.lt_or_ge k (n + 1) with h' | h'
    ·exact hm k (by omega) hag
    ·have : k = n + 1 := by omega
     subst this; exact absurd hag h
 obtain ⟨a, ha, hm⟩ := key l.length
 exact ⟨a, ha, fun k hk => hm k hk.1 hk⟩
def Q0 (c0 : Int) (l : List En) : Int := l.foldl (fun c e => if e.conf = 0 then c else e.conf) c0
theorem WW (c0 : Int) (l m : List En) : Q0 c0 (l ++ m) = Q0 (Q0 c0 l) m := List.foldl_append
theorem VP : ∀ (m : List En) (c : Int), (∀ e ∈ m, e.conf = 0) → Q0 c m = c
 | [], _, _ => rfl
 | e :: m, c, h => by
  show Q0 (if e.conf = 0 then c else e.conf) m = c
  rw [if_pos (h e List.mem_cons_self)]
  exact VP m c fun x hx => h x (List.mem_cons_of_mem _ hx)
theorem XW {c0 : Int} {l : List En} {a : Nat} (h : ∀ j e, a ≤ j → l[j]? = some e → e.conf = 0) : Q0 c0 l = Q0 c0 (l.take a) := by
 conv => lhs; rw [← List.take_append_drop a l]
 rw [WW]
 refine VP _ _ fun e he => ?_
 obtain ⟨i, hi⟩ := List.mem_iff_getElem?.1 he
 rw [List.getElem?_drop] at hi
 exact h (a + i) e (by omega) hi
theorem Vm {c0 : Int} {l : List En} {j : Nat} {e : En} (he : l[j]? = some e) (hc : e.conf ≠ 0) (h : ∀ i e, j < i → l[i]? = some e → e.conf = 0) : Q0 c0 l = e.conf := by
 have hj : j < l.length := (List.getElem?_eq_some_iff.1 he).1
 rw [XW (a := j + 1) (fun i x hi hx => h i x hi hx), List.take_succ_eq_append_getElem hj, WW]
 have : l[j] = e := (List.getElem?_eq_some_iff.1 he).2
 rw [this]
 show (if e.conf = 0 then _ else e.conf) = _
 rw [if_neg hc]
def MX (c d : Int) : Prop := 0 ≤ c ∧ c ≤ 31 ∧ 0 ≤ d ∧ d ≤ 31 ∧ (c = d ∨ ∃ i : Nat, i < 5 ∧ d.toNat = c.toNat ^^^ 2 ^ i)
theorem MX.symm {c d : Int} (h : MX c d) : MX d c := by
 obtain ⟨h1, h2, h3, h4, h5⟩ := h
 refine ⟨h3, h4, h1, h2, h5.elim (fun e => .inl e.symm) fun ⟨i, hi, e⟩ => .inr ⟨i, hi, ?_⟩⟩
 rw [e, Nat.xor_assoc, Nat.xor_self, Nat.xor_zero]
theorem CZ : ∀ c s t : Fin 32, s.val &&& t.val = s.val → XK c.val s.val = true → XK c.val t.val = true := by decide +kernel
theorem Rg : ∀ c s : Fin 32, XK c.val s.val = true → XK c.val ((31 - s.val : Nat) : Int) = true → False := by decide +kernel
theorem GO : ∀ c s : Fin 32, ∀ i : Fin 5, XK c.val s.val = true → XK ((c.val ^^^ 2 ^ i.val : Nat) : Int) ((31 - s.val : Nat) : Int) = true → False := by decide +kernel
theorem Cp : ∀ s t : Fin 32, (∀ i : Fin 5, ¬ (s.val.testBit i.val = true ∧ t.val.testBit i.val = true)) → t.val &&& (31 - s.val) = t.val := by decide +kernel
theorem Sf {c d : Int} (h : MX c d) {s t : Nat} (hs : s < 32) (ht : t < 32) (h1 : XK c s = true) (h2 : XK d t = true) : ∃ i, i < 5 ∧ s.testBit i = true ∧ t.testBit i = true := by
 refine Classical.byContradiction fun hn => ?_
 have hsub := Cp ⟨s, hs⟩ ⟨t, ht⟩ fun i hi => hn ⟨i.val, i.isLt, hi.1, hi.2⟩
 dsimp only at hsub
 obtain ⟨hc0, hc1, hd0, hd1, h5⟩ := h
 obtain ⟨c, rfl⟩ : ∃ n : Nat, c = (n : Int) := ⟨c.toNat, by omega⟩
 obtain ⟨d, rfl⟩ : ∃ n : Nat, d = (n : Int) := ⟨d.toNat, by omega⟩
 have h3 := CZ ⟨d, by omega⟩ ⟨t, ht⟩ ⟨31 - s, by omega⟩ hsub h2
 rcases h5 with e | ⟨i, hi, e⟩
 ·have e' : c = d := by omega
  subst e'
  exact Rg ⟨c, by omega⟩ ⟨s, hs⟩ h1 h3
 ·simp only [Int.toNat_natCast] at e
  subst e
  exact GO ⟨c, by omega⟩ ⟨s, hs⟩ ⟨i, hi⟩ h1 h3
end Raft
namespace Raft
structure Yt where
 c0 : Int
 bd : Nat
 LL : Int → List En
 EL : Int → Nat
 led : Int → Prop
 ld : Int → Nat
 CL : Int → Nat → List En
 vote : Int → Nat → Nat → Prop
 late : Int → Nat → Nat → Prop
 ack : Int → Nat → Nat → Prop
 cmt : Int → Nat → Nat → Prop
variable (H : Yt)
def XD (l : List En) : Prop := ∀ (j : Nat) (e : En), l[j]? = some e → H.led e.term ∧ AG l (H.LL e.term) (j + 1)
def Jk (l : List En) : Int := match l.getLast? with
 | some e => e.term
 | none => 0
def N4 (v x : List En) : Prop := Jk v < Jk x ∨ (Jk v = Jk x ∧ v.length ≤ x.length)
def Uq (T : Int) (c : Nat) : Prop := ∃ s : Nat, s < 32 ∧ XK (Q0 H.c0 (H.CL T c)) s = true ∧ ∀ i, i < 5 → s.testBit i = true → H.vote T i c
structure QC : Prop where
 c00 : 0 ≤ H.c0
 c01 : H.c0 ≤ 31
 cr : ∀ t e, H.led t → e ∈ H.LL t → 0 ≤ e.conf ∧ e.conf ≤ 31
 ld5 : ∀ t, H.led t → H.ld t < 5
 lled : ∀ T v c, H.late T v c → H.led T
 vpos : ∀ T v c, H.vote T v c → 0 < T
 lbd : ∀ t, H.led t → (H.LL t).length ≤ H.bd
 ackl : ∀ S v k, H.ack S v k → H.led S ∧ k ≤ (H.LL S).length
 pos : ∀ t, H.led t → 0 < t
 cons : ∀ t, H.led t → XD H (H.LL t)
 len : ∀ t, H.led t → H.EL t ≤ (H.LL t).length
 old : ∀ t j e, H.led t → (H.LL t)[j]? = some e → j < H.EL t → e.term < t
 own : ∀ t j e, H.led t → (H.LL t)[j]? = some e → H.EL t ≤ j → e.term = t
 cl : ∀ t, H.led t → AG (H.CL t (H.ld t)) (H.LL t) (H.EL t) ∧ (H.CL t (H.ld t)).length = H.EL t
 win : ∀ t, H.led t → ∃ s : Nat, s < 32 ∧ XK (Q0 H.c0 (H.CL t (H.ld t))) s = true ∧ ∀ i, i < 5 → s.testBit i = true → H.vote t i (H.ld t) ∧ ¬ H.late t i (H.ld t)
 once : ∀ T v c c', H.vote T v c → H.vote T v c' → c = c'
 voted : ∀ T v c, H.vote T v c → XD H (H.CL T c) ∧ (∀ (j : Nat) (e : En), (H.CL T c)[j]? = some e → e.term < T) ∧ ∃ VL, XD H VL ∧ N4 VL (H.CL T c) ∧
  ∀ S k, S < T → H.ack S v k → AG (H.LL S) VL k ∨ ∃ t, S < t ∧ t ≤ T ∧ H.led t ∧ (t = T → H.late T v c) ∧ ¬ AG (H.LL S) (H.CL t (H.ld t)) k
 com : ∀ S k n, H.cmt S k n → H.led S ∧ H.EL S < k ∧ k ≤ n ∧ n ≤ (H.LL S).length ∧ ∃ s : Nat, s < 32 ∧ XK (Q0 H.c0 ((H.LL S).take n)) s = true ∧ ∀ i, i < 5 → s.testBit i = true → H.ack S i k
 chg : ∀ S j e, H.led S → (H.LL S)[j]? = some e → H.EL S ≤ j → e.conf ≠ 0 → MX (Q0 H.c0 ((H.LL S).take j)) e.conf ∧ ∃ c n, H.cmt S c n ∧ n ≤ j ∧ ∀ i e', i < j → (H.LL S)[i]? = some e' → e'.conf ≠ 0 → i < c
variable {H}
theorem DO : ∀ (l : List En) (c : Int), Q0 c l = c ∨ ∃ e ∈ l, Q0 c l = e.conf
 | [], _ => .inl rfl
 | e :: l, c => by
  have h : Q0 c (e :: l) = Q0 (if e.conf = 0 then c else e.conf) l := rfl
  rcases DO l (if e.conf = 0 then c else e.conf) with h1 | ⟨x, hx, h1⟩
  ·rw [h, h1]
   split
   ·exact .inl rfl
   ·exact .inr ⟨e, List.mem_cons_self, rfl⟩
  ·exact .inr ⟨x, List.mem_cons_of_mem _ hx, by rw [h, h1]⟩
theorem QC.conf (F : QC H) (l : List En) (hl : XD H l) : 0 ≤ Q0 H.c0 l ∧ Q0 H.c0 l ≤ 31 := by
 rcases DO l H.c0 with h | ⟨e, he, h⟩
 ·rw [h]; exact ⟨F.c00, F.c01⟩
 ·obtain ⟨j, hj⟩ := List.mem_iff_getElem?.1 he
  obtain ⟨h1, h2⟩ := hl j e hj
  rw [h]
  exact F.cr _ e h1 (List.mem_of_getElem? (by rw [← h2.get (Nat.lt_succ_self j)]; exact hj))
theorem XD.mono (F : QC H) {l : List En} (hc : XD H l) {i j : Nat} {a b : En} (hi : l[i]? = some a) (hj : l[j]? = some b) (hij : i ≤ j) : a.term ≤ b.term := by
 obtain ⟨h1, h2⟩ := hc j b hj
 have e := h2.get (i := i) (by omega)
 rw [hi] at e
 by_cases h : i < H.EL b.term
 ·have := F.old b.term i a h1 e.symm h; omega
 ·have := F.own b.term i a h1 e.symm (by omega); omega
theorem XD.own (F : QC H) {l : List En} (hc : XD H l) {j : Nat} {e : En} (hj : l[j]? = some e) : H.EL e.term ≤ j ∧ (H.LL e.term)[j]? = some e := by
 obtain ⟨h1, h2⟩ := hc j e hj
 have hg := h2.get (i := j) (by omega)
 rw [hj] at hg
 refine ⟨Nat.le_of_not_lt fun h => ?_, hg.symm⟩
 have := F.old e.term j e h1 hg.symm h; omega
theorem N3 (F : QC H) {v x : List En} (hv : XD H v) (hx : XD H x) (hu : N4 v x) {P : List En} {k : Nat} {S : Int} (hS : 0 < S) (hk : 0 < k) (hp : AG P v k) {e : En} (he : P[k - 1]? = some e) (hes : e.term = S)
  (hlate : ∀ t, S < t → (∃ (j : Nat) (e : En), x[j]? = some e ∧ e.term = t) → AG P (H.LL t) k ∧ k ≤ H.EL t) : AG P x k := by
 have hvl : k ≤ v.length := hp.2.1
 have hne : v ≠ [] := by intro h; rw [h] at hvl; simp at hvl; omega
 obtain ⟨ev, hev⟩ : ∃ ev, v[v.length - 1]? = some ev := ⟨v[v.length - 1]'(by omega), List.getElem?_eq_getElem _⟩
 have hlv : Jk v = ev.term := by unfold Jk; rw [List.getLast?_eq_getElem?, hev]
 have hvk : v[k - 1]? = some e := by rw [← hp.get (by omega)]; exact he
 have hSv : S ≤ ev.term := by have := XD.mono F hv hvk hev (by omega); omega
 have hxne : x ≠ [] := by
  intro h
  subst h
  rcases hu with h | ⟨_, h⟩
  ·rw [hlv, show Jk [] = 0 from rfl] at h; omega
  ·simp at h; exact hne h
 have hxl : 0 < x.length := List.length_pos_iff.2 hxne
 obtain ⟨ex, hex⟩ : ∃ ex, x[x.length - 1]? = some ex := ⟨x[x.length - 1]'(by omega), List.getElem?_eq_getElem _⟩
 have hlx : Jk x = ex.term := by unfold Jk; rw [List.getLast?_eq_getElem?, hex]
 obtain ⟨_, hcx⟩ := hx _ _ hex
 rw [show x.length - 1 + 1 = x.length by omega] at hcx
 rcases hu with h | ⟨h, hl⟩
 ·rw [hlv, hlx] at h
  obtain ⟨h1, h2⟩ := hlate ex.term (by omega) ⟨_, ex, hex, rfl⟩
  have h3 := (XD.own F hx hex).1
  exact h1.trans (hcx.symm.le (by omega))
 ·rw [hlv, hlx] at h
  obtain ⟨_, hcv⟩ := hv _ _ hev
  rw [show v.length - 1 + 1 = v.length by omega, h] at hcv
  exact hp.trans ((hcv.trans (hcx.symm.le hl)).le hvl)
def good (H : Yt) (T : Int) (c : Nat) : Prop := ∃ s : Nat, s < 32 ∧ XK (Q0 H.c0 (H.CL T c)) s = true ∧ ∀ i, i < 5 → s.testBit i = true → H.vote T i c ∧ (H.late T i c → H.led T → ∀ S k n, H.cmt S k n → S < T → AG (H.LL S) (H.CL T (H.ld T)) k)
theorem QC.wins (F : QC H) {t : Int} (h : H.led t) : Uq H t (H.ld t) := by
 obtain ⟨s, h1, h2, h3⟩ := F.win t h
 exact ⟨s, h1, h2, fun i hi hb => (h3 i hi hb).1⟩
theorem QC.good (F : QC H) {t : Int} (h : H.led t) : good H t (H.ld t) := by
 obtain ⟨s, h1, h2, h3⟩ := F.win t h
 exact ⟨s, h1, h2, fun i hi hb => ⟨(h3 i hi hb).1, fun hl => absurd hl (h3 i hi hb).2⟩⟩
theorem BD (F : QC H) {T : Int} {c : Nat} (hel : good H T c) (IH : ∀ t, t < T → H.led t → ∀ S k n, H.cmt S k n → S < t → AG (H.LL S) (H.CL t (H.ld t)) k) :
  ∀ (S : Int) (n : Nat), S < T → (∀ S' n', S' < S → S' < T → ∀ k, H.cmt S' k n' → AG (H.LL S') (H.CL T c) k) → (∀ n', n' < n → ∀ k, H.cmt S k n' → AG (H.LL S) (H.CL T c) k) → ∀ k, H.cmt S k n → AG (H.LL S) (H.CL T c) k := by
 intro S n hST IHS IHn k hk
 refine Classical.byContradiction fun hno => ?_
 obtain ⟨hled, hEk, hkn, hnl, s, hs32, hmost, hacks⟩ := F.com S k n hk
 obtain ⟨s', hs32', hmost', hvotes⟩ := hel
 have hvot : ∃ v, H.vote T v c := by
  refine Classical.byContradiction fun h => ?_
  have : s' = 0 := by
   refine Nat.eq_of_testBit_eq fun i => ?_
   rw [Nat.zero_testBit]
   by_cases hi : i < 5
   ·cases hb : s'.testBit i with
    | false => rfl
    | true => exact absurd ⟨i, (hvotes i hi hb).1⟩ h
   ·exact Nat.testBit_lt_two_pow (Nat.lt_of_lt_of_le hs32' (by
     have : 2 ^ 5 ≤ 2 ^ i := Nat.pow_le_pow_right (by decide) (by omega)
     simpa using this))
  rw [this] at hmost'
  have hz : ∀ c : Int, XK c ((0 : Nat) : Int) = false := by
   intro c
   have : (List.range 5).filter (Nat.testBit 0) = [] := by decide
   simp [XK, UB, J3, this]
  rw [hz] at hmost'
  cases hmost'
 obtain ⟨v0, hv0⟩ := hvot
 obtain ⟨hXc, hXT, _⟩ := F.voted T v0 c hv0
 generalize hX : H.CL T c = X at *
 obtain ⟨a, ha, hmax⟩ := NR (H.LL S) X
 have hak : a < k := by
  rcases Nat.lt_or_ge a k with h | h
  ·exact h
  ·exact absurd (ha.le h) hno
 have hLc := F.cons S hled
 have one1 : ∀ j1 j2 e1 e2, a ≤ j1 → j1 < j2 → j2 < n → (H.LL S)[j1]? = some e1 → (H.LL S)[j2]? = some e2 → e1.conf ≠ 0 → e2.conf ≠ 0 → False := by
  intro j1 j2 e1 e2 h1 h2 h3 g1 g2 c1 c2
  obtain ⟨hl2, hag2⟩ := hLc j2 e2 g2
  obtain ⟨hE2, hg2⟩ := XD.own F hLc g2
  obtain ⟨_, cc, nn, hcm, hnj, hcov⟩ := F.chg e2.term j2 e2 hl2 hg2 hE2 c2
  have hj1c : j1 < cc := hcov j1 e1 h2 (by rw [← hag2.get (by omega)]; exact g1) c1
  obtain ⟨_, _, hcn, _, _⟩ := F.com _ _ _ hcm
  have hle : e2.term ≤ S := by
   by_cases h : j2 < H.EL S
   ·have := F.old S j2 e2 hled g2 h; omega
   ·have := F.own S j2 e2 hled g2 (by omega); omega
  have hpre : AG (H.LL e2.term) X cc := by
   rcases Int.lt_or_eq_of_le hle with h | h
   ·exact IHS e2.term nn h (by omega) cc hcm
   ·rw [h] at hcm ⊢; exact IHn nn (by omega) cc hcm
  have := hmax cc ((hag2.le (by omega)).trans hpre)
  omega
 have one2 : ∀ j1 j2 e1 e2, a ≤ j1 → j1 < j2 → X[j1]? = some e1 → X[j2]? = some e2 → e1.conf ≠ 0 → e2.conf ≠ 0 → False := by
  intro j1 j2 e1 e2 h1 h2 g1 g2 c1 c2
  obtain ⟨hl2, hag2⟩ := hXc j2 e2 g2
  obtain ⟨hE2, hg2⟩ := XD.own F hXc g2
  have ht2 := hXT j2 e2 g2
  obtain ⟨_, cc, nn, hcm, hnj, hcov⟩ := F.chg e2.term j2 e2 hl2 hg2 hE2 c2
  have hj1c : j1 < cc := hcov j1 e1 h2 (by rw [← hag2.get (by omega)]; exact g1) c1
  obtain ⟨_, _, hcn, _, _⟩ := F.com _ _ _ hcm
  rcases Int.lt_trichotomy e2.term S with h | h | h
  ·have h5 := IH S hST hled e2.term cc nn hcm h
   have h6 := (F.cl S hled)
   have h7 : AG (H.LL e2.term) (H.LL S) cc := h5.trans (h6.1.le (by have := h5.2.1; omega))
   have := hmax cc (h7.symm.trans (hag2.symm.le (by omega)))
   omega
  ·rw [h] at hag2
   have := hmax (j2 + 1) hag2.symm
   omega
  ·have h5 := IH e2.term ht2 hl2 S k n hk h
   have h6 := (F.cl e2.term hl2)
   have hkE : k ≤ H.EL e2.term := by have := h5.2.1; omega
   have h7 : AG (H.LL S) (H.LL e2.term) k := h5.trans (h6.1.le hkE)
   exact hno (h7.trans (hag2.symm.le (by omega)))
 have notboth : ∀ j j' e e', a ≤ j → j < n → a ≤ j' → (H.LL S)[j]? = some e → X[j']? = some e' → e.conf ≠ 0 → e'.conf ≠ 0 → False := by
  intro j j' e e' h1 h2 h3 g g' cc cc'
  obtain ⟨hl, hag⟩ := hLc j e g
  obtain ⟨hE, hg⟩ := XD.own F hLc g
  obtain ⟨hl', hag'⟩ := hXc j' e' g'
  obtain ⟨hE', hg'⟩ := XD.own F hXc g'
  have ht' := hXT j' e' g'
  have hle : e.term ≤ S := by
   by_cases h : j < H.EL S
   ·have := F.old S j e hled g h; omega
   ·have := F.own S j e hled g (by omega); omega
  rcases Int.lt_trichotomy e.term e'.term with hlt | heq | hgt
  ·obtain ⟨_, c2, n2, hcm, hnj, _⟩ := F.chg e'.term j' e' hl' hg' hE' cc'
   obtain ⟨_, hE2, hcn, hn2, _⟩ := F.com _ _ _ hcm
   rcases Int.lt_trichotomy e'.term S with h | h | h
   ·have h5 := IH S hST hled e'.term c2 n2 hcm h
    have h6 := (F.cl S hled)
    have h7 : AG (H.LL e'.term) (H.LL S) c2 := h5.trans (h6.1.le (by have := h5.2.1; omega))
    obtain ⟨ec, hec⟩ : ∃ ec, (H.LL e'.term)[c2 - 1]? = some ec := ⟨(H.LL e'.term)[c2 - 1]'(by omega), List.getElem?_eq_getElem _⟩
    have hect := F.own e'.term (c2 - 1) ec hl' hec (by omega)
    have hecS : (H.LL S)[c2 - 1]? = some ec := by rw [← h7.get (by omega)]; exact hec
    have hjc : j < c2 - 1 := by
     rcases Nat.lt_or_ge j (c2 - 1) with h8 | h8
     ·exact h8
     ·have := XD.mono F hLc hecS g h8; omega
    have := hmax (j + 1) ((h7.symm.le (by omega)).trans (hag'.symm.le (by omega)))
    omega
   ·rw [h] at hag'
    have := hmax (j' + 1) hag'.symm
    omega
   ·have h5 := IH e'.term ht' hl' S k n hk h
    have h6 := (F.cl e'.term hl')
    have hkE : k ≤ H.EL e'.term := by have := h5.2.1; omega
    have h7 : AG (H.LL S) (H.LL e'.term) k := h5.trans (h6.1.le hkE)
    exact hno (h7.trans (hag'.symm.le (by omega)))
  ·rw [← heq] at hag'
   rcases Nat.le_total j j' with h | h
   ·have := hmax (j + 1) (hag.trans (hag'.symm.le (by omega)))
    omega
   ·have := hmax (j' + 1) ((hag.le (by omega)).trans hag'.symm)
    omega
  ·obtain ⟨_, c1, n1, hcm, hnj, _⟩ := F.chg e.term j e hl hg hE cc
   obtain ⟨_, hE1, hcn, hn1, _⟩ := F.com _ _ _ hcm
   obtain ⟨ec, hec⟩ : ∃ ec, (H.LL e.term)[c1 - 1]? = some ec := ⟨(H.LL e.term)[c1 - 1]'(by omega), List.getElem?_eq_getElem _⟩
   have hect := F.own e.term (c1 - 1) ec hl hec (by omega)
   have hecS : (H.LL S)[c1 - 1]? = some ec := by rw [hag.get (by omega)]; exact hec
   rcases Nat.lt_or_ge a c1 with h | h
   ·have hpre : AG (H.LL e.term) X c1 := by
     rcases Int.lt_or_eq_of_le hle with h8 | h8
     ·exact IHS e.term n1 h8 (by omega) c1 hcm
     ·rw [h8] at hcm ⊢; exact IHn n1 (by omega) c1 hcm
    have := hmax c1 ((hag.le (by omega)).trans hpre)
    omega
   ·have hecX : X[c1 - 1]? = some ec := by rw [← ha.get (by omega)]; exact hecS
    have := XD.mono F hXc hecX g' (by omega)
    omega
 have hnear : MX (Q0 H.c0 ((H.LL S).take n)) (Q0 H.c0 X) := by
  have htake : (H.LL S).take a = X.take a := ha.2.2
  by_cases g1 : ∃ j e, a ≤ j ∧ j < n ∧ (H.LL S)[j]? = some e ∧ e.conf ≠ 0
  ·obtain ⟨j, e, h1, h2, h3, h4⟩ := g1
   have hcX : Q0 H.c0 X = Q0 H.c0 (X.take a) := XW fun j' e' h5 h6 => Classical.byContradiction fun h7 => notboth j j' e e' h1 h2 h5 h3 h6 h4 h7
   have hcL : Q0 H.c0 ((H.LL S).take n) = e.conf := Vm (j := j) (by rw [List.getElem?_take, if_pos h2]; exact h3) h4 fun i e' h5 h6 => by
    rw [List.getElem?_take] at h6
    split at h6
    ·rename_i h7
     exact Classical.byContradiction fun h8 => one1 j i e e' h1 h5 h7 h3 h6 h4 h8
    ·cases h6
   obtain ⟨hl, hag⟩ := hLc j e h3
   obtain ⟨hE, hg⟩ := XD.own F hLc h3
   have hnr := (F.chg e.term j e hl hg hE h4).1
   have hcj : Q0 H.c0 ((H.LL S).take j) = Q0 H.c0 ((H.LL S).take a) := by
    rw [XW (l := (H.LL S).take j) (a := a) fun i e' h5 h6 => ?_, List.take_take, Nat.min_eq_left h1]
    rw [List.getElem?_take] at h6
    split at h6
    ·rename_i h7
     exact Classical.byContradiction fun h8 => one1 i j e' e h5 h7 h2 h6 h3 h8 h4
    ·cases h6
   rw [← (hag.le (show j ≤ j + 1 by omega)).2.2, hcj] at hnr
   rw [hcX, hcL, ← htake]
   exact hnr.symm
  ·have hcL : Q0 H.c0 ((H.LL S).take n) = Q0 H.c0 ((H.LL S).take a) := by
    rw [XW (l := (H.LL S).take n) (a := a) fun i e' h5 h6 => ?_, List.take_take, Nat.min_eq_left (by omega)]
    rw [List.getElem?_take] at h6
    split at h6
    ·rename_i h7
     exact Classical.byContradiction fun h8 => g1 ⟨i, e', h5, h7, h6, h8⟩
    ·cases h6
   by_cases g2 : ∃ j e, a ≤ j ∧ X[j]? = some e ∧ e.conf ≠ 0
   ·obtain ⟨j, e, h1, h3, h4⟩ := g2
    have hcX : Q0 H.c0 X = e.conf := Vm (j := j) h3 h4 fun i e' h5 h6 => Classical.byContradiction fun h8 => one2 j i e e' h1 h5 h3 h6 h4 h8
    obtain ⟨hl, hag⟩ := hXc j e h3
    obtain ⟨hE, hg⟩ := XD.own F hXc h3
    have hnr := (F.chg e.term j e hl hg hE h4).1
    have hcj : Q0 H.c0 (X.take j) = Q0 H.c0 (X.take a) := by
     rw [XW (l := X.take j) (a := a) fun i e' h5 h6 => ?_, List.take_take, Nat.min_eq_left h1]
     rw [List.getElem?_take] at h6
     split at h6
     ·exact Classical.byContradiction fun h8 => one2 i j e' e h5 (by assumption) h6 h3 h8 h4
     ·cases h6
    rw [← (hag.le (show j ≤ j + 1 by omega)).2.2, hcj] at hnr
    rw [hcX, hcL, htake]
    exact hnr
   ·have hcX : Q0 H.c0 X = Q0 H.c0 (X.take a) := XW fun j' e' h5 h6 => Classical.byContradiction fun h7 => g2 ⟨j', e', h5, h6, h7⟩
    have hb := F.conf X hXc
    rw [hcL, htake, ← hcX]
    exact ⟨hb.1, hb.2, hb.1, hb.2, .inl rfl⟩
 obtain ⟨i, hi5, hi1, hi2⟩ := Sf hnear hs32 hs32' hmost hmost'
 have hack := hacks i hi5 hi1
 have hvote := hvotes i hi5 hi2
 obtain ⟨_, _, VL, hVc, hVu, hVa⟩ := F.voted T i c hvote.1
 rw [hX] at hVu
 have hkE : 0 < k := by omega
 obtain ⟨ek, hek⟩ : ∃ ek, (H.LL S)[k - 1]? = some ek := ⟨(H.LL S)[k - 1]'(by omega), List.getElem?_eq_getElem _⟩
 have hekt := F.own S (k - 1) ek hled hek (by omega)
 rcases hVa S k hST hack with h | ⟨t, h1, h2, h3, hlt, h4⟩
 ·refine hno (N3 F hVc hXc hVu (F.pos S hled) hkE h hek hekt ?_)
  rintro t ht ⟨j, e, hj, rfl⟩
  have htT := hXT j e hj
  have hl := (hXc j e hj).1
  have h5 := IH e.term htT hl S k n hk ht
  have h6 := F.cl e.term hl
  have hkE : k ≤ H.EL e.term := by have := h5.2.1; omega
  exact ⟨h5.trans (h6.1.le hkE), hkE⟩
 ·rcases Int.lt_or_eq_of_le h2 with h2 | h2
  ·exact h4 (IH t h2 h3 S k n hk h1)
  ·subst h2
   exact h4 (hvote.2 (hlt rfl) h3 S k n hk hST)
theorem Oz (F : QC H) : ∀ (N : Nat) (T : Int), T.toNat < N → ∀ c, good H T c → ∀ S k n, H.cmt S k n → S < T → AG (H.LL S) (H.CL T c) k := by
 intro N
 induction N with
 | zero => intro T h; omega
 | succ N ihN =>
  intro T hT c hel
  have IH : ∀ t, t < T → H.led t → ∀ S k n, H.cmt S k n → S < t → AG (H.LL S) (H.CL t (H.ld t)) k := by
   intro t ht hl
   have := F.pos t hl
   exact ihN t (by omega) _ (F.good hl)
  have key : ∀ (M : Nat) (S : Int), S.toNat < M → S < T → ∀ n k, H.cmt S k n → AG (H.LL S) (H.CL T c) k := by
   intro M
   induction M with
   | zero => intro S h; omega
   | succ M ihM =>
    intro S hS hST n
    induction n using Nat.strongRecOn with
    | ind n ihn =>
     intro k hk
     refine BD F hel IH S n hST ?_ (fun n' hn' k' hk' => ihn n' hn' k' hk') k hk
     intro S' n' h1 h2 k' hk'
     have := F.pos S' (F.com S' k' n' hk').1
     exact ihM S' (by omega) h2 n' k' hk'
  intro S k n hk hST
  exact key (S.toNat + 1) S (by omega) hST n k hk
theorem Us (F : QC H) {T : Int} {c : Nat} (hel : Uq H T c) {S : Int} {k n : Nat} (hk : H.cmt S k n) (h : S < T) : AG (H.LL S) (H.CL T c) k := by
 obtain ⟨s, h1, h2, h3⟩ := hel
 exact Oz F (T.toNat + 1) T (by omega) c ⟨s, h1, h2, fun i hi hb => ⟨h3 i hi hb, fun _ hl S k n hk h => Oz F (T.toNat + 1) T (by omega) _ (F.good hl) S k n hk h⟩⟩ S k n hk h
theorem JW {T : Int} {c : Nat} (hel : Uq H T c) : ∃ v, H.vote T v c := by
 obtain ⟨s', hs32', hmost', hvotes⟩ := hel
 refine Classical.byContradiction fun h => ?_
 have : s' = 0 := by
  refine Nat.eq_of_testBit_eq fun i => ?_
  rw [Nat.zero_testBit]
  by_cases hi : i < 5
  ·cases hb : s'.testBit i with
   | false => rfl
   | true => exact absurd ⟨i, hvotes i hi hb⟩ h
  ·exact Nat.testBit_lt_two_pow (Nat.lt_of_lt_of_le hs32' (by
    have : 2 ^ 5 ≤ 2 ^ i := Nat.pow_le_pow_right (by decide) (by omega)
    simpa using this))
 rw [this] at hmost'
 have hz : ∀ c : Int, XK c ((0 : Nat) : Int) = false := by
  intro c
  have : (List.range 5).filter (Nat.testBit 0) = [] := by decide
  simp [XK, UB, J3, this]
 rw [hz] at hmost'
 cases hmost'
theorem Ke (F : QC H) {T : Int} {c c' : Nat} (hel : Uq H T c) (hel' : Uq H T c') : c = c' := by
 obtain ⟨v, hv⟩ := JW hel
 obtain ⟨v', hv'⟩ := JW hel'
 obtain ⟨hXc, hXT, _⟩ := F.voted T v c hv
 obtain ⟨hYc, hYT, _⟩ := F.voted T v' c' hv'
 have cX : ∀ S k n, H.cmt S k n → S < T → AG (H.LL S) (H.CL T c) k := fun S k n hk h => Us F hel hk h
 have cY : ∀ S k n, H.cmt S k n → S < T → AG (H.LL S) (H.CL T c') k := fun S k n hk h => Us F hel' hk h
 obtain ⟨s, hs, hm, hvs⟩ := hel
 obtain ⟨s', hs', hm', hvs'⟩ := hel'
 generalize H.CL T c = X at *
 generalize H.CL T c' = Y at *
 obtain ⟨a, ha, hmax⟩ := NR X Y
 have one : ∀ {X Y : List En} {a : Nat}, XD H X → (∀ (j : Nat) (e : En), X[j]? = some e → e.term < T) → (∀ S k n, H.cmt S k n → S < T → AG (H.LL S) Y k) → (∀ k, AG X Y k → k ≤ a) →
   ∀ j1 j2 e1 e2, a ≤ j1 → j1 < j2 → X[j1]? = some e1 → X[j2]? = some e2 → e1.conf ≠ 0 → e2.conf ≠ 0 → False := by
  intro X Y a hXc hXT cY hmax j1 j2 e1 e2 h1 h2 g1 g2 c1 c2
  obtain ⟨hl2, hag2⟩ := hXc j2 e2 g2
  obtain ⟨hE2, hg2⟩ := XD.own F hXc g2
  obtain ⟨_, cc, nn, hcm, hnj, hcov⟩ := F.chg e2.term j2 e2 hl2 hg2 hE2 c2
  have hj1c : j1 < cc := hcov j1 e1 h2 (by rw [← hag2.get (by omega)]; exact g1) c1
  obtain ⟨_, _, hcn, _, _⟩ := F.com _ _ _ hcm
  have := hmax cc ((hag2.le (by omega)).trans (cY e2.term cc nn hcm (hXT j2 e2 g2)))
  omega
 have oneX := one hXc hXT cY hmax
 have oneY := one hYc hYT cX (fun k hk => hmax k hk.symm)
 have lt : ∀ {X Y : List En} {a : Nat}, XD H X → XD H Y → (∀ (j : Nat) (e : En), Y[j]? = some e → e.term < T) → (∀ S k n, H.cmt S k n → S < T → AG (H.LL S) X k) → (∀ k, AG X Y k → k ≤ a) →
   ∀ j j' e e', a ≤ j → a ≤ j' → X[j]? = some e → Y[j']? = some e' → e'.conf ≠ 0 → e.term < e'.term → False := by
  intro X Y a hXc hYc hYT cX hmax j j' e e' h1 h2 g g' cc' hlt
  obtain ⟨hl', hag'⟩ := hYc j' e' g'
  obtain ⟨hE', hg'⟩ := XD.own F hYc g'
  obtain ⟨_, c2, n2, hcm, hnj, _⟩ := F.chg e'.term j' e' hl' hg' hE' cc'
  obtain ⟨_, hE2, hcn, hn2, _⟩ := F.com _ _ _ hcm
  have h7 := cX e'.term c2 n2 hcm (hYT j' e' g')
  obtain ⟨ec, hec⟩ : ∃ ec, (H.LL e'.term)[c2 - 1]? = some ec := ⟨(H.LL e'.term)[c2 - 1]'(by omega), List.getElem?_eq_getElem _⟩
  have hect := F.own e'.term (c2 - 1) ec hl' hec (by omega)
  have hecX : X[c2 - 1]? = some ec := by rw [← h7.get (by omega)]; exact hec
  have hjc : j < c2 - 1 := by
   rcases Nat.lt_or_ge j (c2 - 1) with h8 | h8
   ·exact h8
   ·have := XD.mono F hXc hecX g h8; omega
  have := hmax (j + 1) ((h7.symm.le (by omega)).trans (hag'.symm.le (by omega)))
  omega
 have notboth : ∀ j j' e e', a ≤ j → a ≤ j' → X[j]? = some e → Y[j']? = some e' → e.conf ≠ 0 → e'.conf ≠ 0 → False := by
  intro j j' e e' h1 h2 g g' cc cc'
  rcases Int.lt_trichotomy e.term e'.term with h | h | h
  ·exact lt hXc hYc hYT cX hmax j j' e e' h1 h2 g g' cc' h
  ·obtain ⟨_, hag⟩ := hXc j e g
   obtain ⟨_, hag'⟩ := hYc j' e' g'
   rw [← h] at hag'
   rcases Nat.le_total j j' with h | h
   ·have := hmax (j + 1) (hag.trans (hag'.symm.le (by omega)))
    omega
   ·have := hmax (j' + 1) ((hag.le (by omega)).trans hag'.symm)
    omega
  ·exact lt hYc hXc hXT cY (fun k hk => hmax k hk.symm) j' j e' e h2 h1 g' g cc h
 have half : ∀ {X Y : List En}, XD H X → AG X Y a → (∀ j1 j2 e1 e2, a ≤ j1 → j1 < j2 → X[j1]? = some e1 → X[j2]? = some e2 → e1.conf ≠ 0 → e2.conf ≠ 0 → False) → (∀ j j' e e', a ≤ j → a ≤ j' → X[j]? = some e → Y[j']? = some e' → e.conf ≠ 0 → e'.conf ≠ 0 → False) →
   ∀ j e, a ≤ j → X[j]? = some e → e.conf ≠ 0 → MX (Q0 H.c0 Y) (Q0 H.c0 X) := by
  intro X Y hXc ha one notboth j e h1 h3 h4
  have hcY : Q0 H.c0 Y = Q0 H.c0 (Y.take a) := XW fun j' e' h5 h6 => Classical.byContradiction fun h7 => notboth j j' e e' h1 h5 h3 h6 h4 h7
  have hcX : Q0 H.c0 X = e.conf := Vm (j := j) h3 h4 fun i e' h5 h6 => Classical.byContradiction fun h8 => one j i e e' h1 h5 h3 h6 h4 h8
  obtain ⟨hl, hag⟩ := hXc j e h3
  obtain ⟨hE, hg⟩ := XD.own F hXc h3
  have hnr := (F.chg e.term j e hl hg hE h4).1
  have hcj : Q0 H.c0 (X.take j) = Q0 H.c0 (X.take a) := by
   rw [XW (l := X.take j) (a := a) fun i e' h5 h6 => ?_, List.take_take, Nat.min_eq_left h1]
   rw [List.getElem?_take] at h6
   split at h6
   ·exact Classical.byContradiction fun h8 => one i j e' e h5 (by assumption) h6 h3 h8 h4
   ·cases h6
  rw [← (hag.le (show j ≤ j + 1 by omega)).2.2, hcj] at hnr
  rw [hcX, hcY, ← ha.2.2]
  exact hnr
 have hnear : MX (Q0 H.c0 X) (Q0 H.c0 Y) := by
  by_cases g1 : ∃ j e, a ≤ j ∧ X[j]? = some e ∧ e.conf ≠ 0
  ·obtain ⟨j, e, h1, h3, h4⟩ := g1
   exact (half hXc ha oneX notboth j e h1 h3 h4).symm
  ·by_cases g2 : ∃ j e, a ≤ j ∧ Y[j]? = some e ∧ e.conf ≠ 0
   ·obtain ⟨j, e, h1, h3, h4⟩ := g2
    exact half hYc ha.symm oneY (fun j j' e e' h1 h2 g g' cc cc' => notboth j' j e' e h2 h1 g' g cc' cc) j e h1 h3 h4
   ·have hcX : Q0 H.c0 X = Q0 H.c0 (X.take a) := XW fun j' e' h5 h6 => Classical.byContradiction fun h7 => g1 ⟨j', e', h5, h6, h7⟩
    have hcY : Q0 H.c0 Y = Q0 H.c0 (Y.take a) := XW fun j' e' h5 h6 => Classical.byContradiction fun h7 => g2 ⟨j', e', h5, h6, h7⟩
    have hb := F.conf X hXc
    rw [hcY, ← ha.2.2, ← hcX]
    exact ⟨hb.1, hb.2, hb.1, hb.2, .inl rfl⟩
 obtain ⟨i, hi5, hi1, hi2⟩ := Sf hnear hs hs' hm hm'
 exact F.once T i c c' (hvs i hi5 hi1) (hvs' i hi5 hi2)
end Raft
end Go.Proofs.YtjbokbikkcfjjaaGreat
