/-
  replica: one leads.
-/
import Derived.Test.YtjbokbikkcfjjaaGreatAal
set_option maxRecDepth 16000
set_option maxHeartbeats 8000000
set_option linter.all false
namespace Go.Proofs.YtjbokbikkcfjjaaGreat
open Go.Cap
attribute [local irreducible] POp Qf TO EOp Sim FnH T.gp
def Wq (f : F5) (v : Int) : Nat → F5
 | 0 => f
 | k + 1 => (Wq f v k).set k v
def Yl (n : Nd) : Nd := { n with role := 2, log := n.log ++ [⟨n.term, 0, []⟩], next := .all (n.base + (n.log.length + 1)), mtch := (F5.all 0).set n.id.toNat (n.base + (n.log.length + 1)) }
def Q5 (n : Nd) : Nd := QW (Yl n)
theorem Mn (l : List En) (e : En) : ∀ k, k ≤ l.length → lc (l ++ [e]) k = lc l k
 | 0, _ => rfl
 | k + 1, h => by
  have hk : k < l.length := by omega
  have : (l ++ [e]).getD k default = l.getD k default := by simp [List.getD_eq_getElem?_getD, List.getElem?_append_left hk]
  rw [lc, lc, this, Mn l e k (by omega)]
theorem Ck (n : Nd) (e : En) (he : e.conf = 0) (r : Int) (f g : F5) : QD { n with role := r, log := n.log ++ [e], next := f, mtch := g } = QD n := by
 have h1 : lc (n.log ++ [e]) (n.log ++ [e]).length = lc n.log n.log.length := by
  rw [List.length_append, List.length_singleton, lc]
  have : (n.log ++ [e]).getD n.log.length default = e := by simp [List.getD_eq_getElem?_getD]
  rw [this, if_neg (by simpa using he), Mn _ _ _ (Nat.le_refl _)]
 simp only [QD, h1]
theorem WA (n : Nd) : ∃ c r w, QW n = { n with commit := c, role := r, wait := w } := by
 unfold QW
 split <;> exact ⟨_, _, _, rfl⟩
theorem Bd.commit {n : Nd} (h : Bd n) : Bd (QW n) := by
 obtain ⟨c, r, w, e⟩ := WA n
 rw [e]
 exact ⟨h.id0, h.id5, h.log, h.base0, h.base1, h.conf0, h.conf1⟩
theorem Bd.lead {n : Nd} (h : Bd n) (hl : n.log.length < 100000000) : Bd (Yl n) := by
 have hc : QD (Yl n) = QD n := Ck n _ rfl _ _ _
 exact ⟨h.id0, h.id5, by simp [Yl]; omega, h.base0, h.base1, by rw [hc]; exact h.conf0, by rw [hc]; exact h.conf1⟩
theorem Zv (v : Int) : (ei v).cells.length = 1 := rfl
theorem Jd (n : Nd) (vl vo : Value) : (wkC n vl vo).length = 23 := rfl
theorem OO {n : Nd} {vl vo : Value} {k : Nat} (hk : k < 5) (v : Int) : lay (wkC n vl vo) (0 + 0 + 12 + (k : Int).toNat * 1) (T.v (.int .i64 v)).cells = wkC { n with next := n.next.set k v } vl vo := by
 rcases (by omega : k = 0 ∨ k = 1 ∨ k = 2 ∨ k = 3 ∨ k = 4) with rfl | rfl | rfl | rfl | rfl <;> rfl
theorem OP {n : Nd} {vl vo : Value} {k : Nat} (hk : k < 5) (v : Int) : lay (wkC n vl vo) (0 + 0 + 17 + (k : Int).toNat * 1) (T.v (.int .i64 v)).cells = wkC { n with mtch := n.mtch.set k v } vl vo := by
 rcases (by omega : k = 0 ∨ k = 1 ∨ k = 2 ∨ k = 3 ∨ k = 4) with rfl | rfl | rfl | rfl | rfl <;> rfl
theorem Gl {b : Nat} {n : Nd} {out : List Ms} {H : Qc} (hn : Bd n) (hx : ∀ i, n.next.get i ≤ 100000000000) (ho : out.length ≤ 900) (hw : WkH b n out H) :
  FnH Tryz.prog 104 [pW b, .clo 105 [pW b] []] H (fun r H' => r = .tup [] ∧ WkH b n (out ++ XP n (Zq n) 5) H') := by
 have hO := Li (Hc := []) (Zq n) 105 [pW b] [] (by rfl) hn ho hw (fun to out' H2 h0 h5 ho2 hw2 => by
  have := Ij to h0 h5 (by have := hn.log; omega) (by have := hn.base0; omega) (by have := hn.base1; omega) (hx _) (by omega) hw2
  have := this.mono (Φ' := fun _ H' => ∃ H1, H' = H1 ++ [] ∧ WkH b n (out' ++ [Zq n to]) H1) fun r H' h => ⟨H', by simp, h.2⟩
  rw [← List.append_nil H2] at this
  exact this)
 rw [List.append_nil] at hO
 exact hO.mono fun r H' ⟨h1, H1, h2, h3⟩ => ⟨h1, by rw [h2, List.append_nil]; exact h3⟩
theorem F5.get_all (v : Int) (i : Nat) : (F5.all v).get i = v := by
 unfold F5.get F5.all
 split <;> rfl
theorem Eu {n : Nd} {i : Nat} : (Q5 n).next.get i = n.base + (n.log.length + 1) := by
 obtain ⟨c, r, w, e⟩ := WA (Yl n)
 rw [Q5, e]
 exact F5.get_all _ _
theorem Gr {b : Nat} {n : Nd} {out : List Ms} {H : Qc} (hn : Bd n) (hl : n.log.length < 100000000) (ho : out.length ≤ 900) (hw : WkH b n out H) :
  FnH Tryz.prog 147 [pW b] H (fun r H' => r = .tup [] ∧ WkH b (Q5 n) (out ++ XP (Q5 n) (Zq (Q5 n)) 5) H') := by
 have hb0 := hn.base0
 have hb1 := hn.base1
 have hi0 := hn.id0
 have hi5 := hn.id5
 refine fe Tryz.func147 fun S0 w0 => ?_
 show Sim _ _ [(0, pW b)] _ _
 obtain ⟨vl, vo, Hl, Ho, h1, h2, rfl⟩ := hw
 obtain ⟨p, c, rfl⟩ := h1.len
 obtain ⟨q, d, rfl⟩ := h2.len
 refine zC ?_
 refine cr <| s_ Qa <| s_ Qe <| s_ Qd <| s_ Qd <| Qz ?_
 refine zC ?_
 refine zC ?_
 refine ca [0, 1, 2, 3, 4, 5, 6, 7, 8, 9, 10, 11, 12, 13, 14, 15, 16, 17] [13, 17] <| a_ (fun _ => Qa) <| a_ (fun _ => Qa) <| a_ (fun _ => Qe) <| a_ (fun _ => Qd) <| a_ (fun _ => Qd) <| QJ ?_
 refine a_ (fun _ => Qa) <| a_ (fun _ => Qe) <| a_ (fun _ => Qd) <| a_ (fun _ => Qd) <| QJ ?_
 refine a_ (fun _ => ZF 3 [_, _, _]) <| a_ (fun _ => JG) ?_
 refine A3 (ho := h1) (A := [_]) (B := Ho ++ []) (EN n.log) (fun v' Hl' h1' => ⟨zd, ?_⟩)
 refine zD ?_
 have h1 : OE (n.log ++ [⟨n.term, 0, []⟩]) v' Hl' := by unfold OE; rw [List.map_append]; exact h1'
 clear h1'
 obtain ⟨p, c, rfl⟩ := h1.len
 refine a_ (fun _ => Qe) <| a_ (fun _ => Qd) <| a_ (fun _ => Qd) <| XN ?_
 apply an
 refine zC ?_
 have hL := Jl { n with role := 2, log := n.log ++ [⟨n.term, 0, []⟩] } (by simp; omega) (by simp only; omega) (by simp only; omega)
 refine zC ?_
 refine cr <| s_ Qa <| s_ Qe <| s_ Qd <| s_ Xf <| s_ (VX hL (Qg.cons (Qx.agg (QX _ (h1.lend (by intro p hp; simp [hp])))) Qg.nil)) <| s_ Qa <| s_ QH <| s_ QH <| s_ Qb <| s_ Qb <| zC ?_
 refine cr <| s_ Qa <| zC ?_
 have hLF : Qs { n with role := 2, log := n.log ++ [⟨n.term, 0, []⟩] } = n.base + (n.log.length + 1) := by simp [Qs]
 rw [hLF]
 generalize hv : n.base + (n.log.length + 1) = v
 apply Qo (σ := Nat) (ok := fun k => k ≤ 5) (env := fun k => [(34, ei (k : Nat)), (2, ei v), (0, pW b)])
  (heap := fun k => (b, ⟨tW, wkC { n with role := 2, log := n.log ++ [⟨n.term, 0, []⟩], next := Wq n.next v k, mtch := Wq n.mtch 0 k } (.slice p ((n.log ++ [(⟨n.term, 0, []⟩ : En)]).map een).length c) (.slice q (out.map ms).length d), 23⟩) :: (Hl' ++ (Ho ++ []))) (μ := fun k => 5 - k) (s0 := 0)
 ·exact Nat.zero_le _
 ·exact eL
 ·exact kR
 ·intro k hk
  refine zC ?_
  refine cr <| s_ QU <| zC ?_
  refine ci ?_ ?_
  ·intro hlt
   have hk5 : k < 5 := by omega
   refine zC ?_
   refine cr <| s_ Qa <| s_ Qb <| zC ?_
   refine ca [0, 1, 2, 3, 4, 5, 6, 7, 8, 10, 11, 12, 9, 13, 14] [9, 14] <| a_ (fun _ => Qa) <| a_ (fun _ => Qa) <| a_ (fun _ => Qa) <| a_ (fun _ => Qa) <| a_ (fun _ => Qa) <| a_ (fun _ => Qe) <| a_ (fun _ => Qd) <| a_ (fun _ => Qd) <| a_ (fun _ => YX) <| a_ (fun _ => Qe) <| a_ (fun _ => Qd) <| a_ (fun _ => Qd) ?_
   refine EY ?_ ?_
   ·simp only [Jd, Zv]; omega
   refine a_ (fun _ => YX) ?_
   refine EY ?_ ?_
   ·simp only [Jd, Zv, Bo, Value.cells, T.cells, List.length_map]; simp; omega
   apply an
   refine zC ?_
   refine cr <| s_ QY <| s_ Qa <| zC ?_
   refine ⟨k + 1, by omega, by show 5 - (k + 1) < 5 - k; omega, ⟨Qi (by rfl) (Le.refl _), eL⟩, ?_⟩
   show Qh ((b, ⟨_, lay (lay _ _ (T.v (.int .i64 v)).cells) _ (T.v (.int .i64 0)).cells, _⟩) :: _) _
   rw [OO hk5, OP hk5]
   exact kR
  ·intro hlt
   have : k = 5 := by omega
   subst this
   refine zC ?_
   refine ca [0, 1, 2, 3, 4, 5, 6, 7, 8, 9, 10, 11] [11] <| a_ (fun _ => Qa) <| a_ (fun _ => Qa) <| a_ (fun _ => Qe) <| a_ (fun _ => Qd) <| a_ (fun _ => Qd) <| QJ ?_
   refine a_ (fun _ => Qa) <| a_ (fun _ => Qe) <| a_ (fun _ => Qd) <| a_ (fun _ => Qd) <| a_ (fun _ => YX) ?_
   refine EY ?_ ?_
   ·simp only [Jd, Zv]; omega
   apply an
   refine zC ?_
   have hm : lay (wkC { n with role := 2, log := n.log ++ [⟨n.term, 0, []⟩], next := Wq n.next v 5, mtch := Wq n.mtch 0 5 } (.slice p ((n.log ++ [(⟨n.term, 0, []⟩ : En)]).map een).length c) (.slice q (out.map ms).length d)) (0 + 0 + 17 + n.id.toNat * 1) (ei v).cells = wkC (Yl n) (.slice p ((n.log ++ [(⟨n.term, 0, []⟩ : En)]).map een).length c) (.slice q (out.map ms).length d) := by
    obtain ⟨i, hi⟩ : ∃ i : Nat, n.id = (i : Int) := ⟨n.id.toNat, by omega⟩
    rw [Yl, hv, hi]
    rcases (by omega : i = 0 ∨ i = 1 ∨ i = 2 ∨ i = 3 ∨ i = 4) with rfl | rfl | rfl | rfl | rfl <;> rfl
   have hw : WkH b (Yl n) out ((b, ⟨tW, lay (wkC { n with role := 2, log := n.log ++ [⟨n.term, 0, []⟩], next := Wq n.next v 5, mtch := Wq n.mtch 0 5 } (.slice p ((n.log ++ [(⟨n.term, 0, []⟩ : En)]).map een).length c) (.slice q (out.map ms).length d)) (0 + 0 + 17 + n.id.toNat * 1) (ei v).cells, 23⟩) :: (Hl' ++ (Ho ++ []))) := by
    rw [hm]
    exact ⟨_, _, Hl', Ho, h1, h2, rfl⟩
   have hnl := hn.lead hl
   have hnc := hnl.commit
   refine zC ?_
   refine cr <| s_ Qa ?_
   refine QI (U5 hnl hw) (fun r H' ⟨hr, hw'⟩ => ?_)
   subst hr
   refine zC ?_
   refine cr <| s_ Qa <| s_ Qa <| s_ UE ?_
   refine QI (Gl hnc (fun i => by have := Eu (n := n) (i := i); unfold Q5 at this; rw [this]; omega) ho hw') (fun r H' ⟨hr, hw''⟩ => ?_)
   subst hr
   refine zC ?_
   exact rhn kR ⟨rfl, hw''⟩ (Le.refl _)
def DW (idx term : Int) : Ms := ⟨1, 0, 0, 0, idx, term, 0, 0, false, [], []⟩
def Q0 (n : Nd) : Nd := { n with role := 1, vote := n.id, wait := 0, term := n.term + 1, votes := 2 ^ n.id.toNat }
def XU (n : Nd) : Nd × List Ms := if Vh (QD n).2 (2 ^ n.id.toNat) then (Q5 (Q0 n), XP (Q5 (Q0 n)) (Zq (Q5 (Q0 n))) 5)
 else (Q0 n, XP (Q0 n) (fun to => XA (Q0 n) to (DW (Qs n) (Xe n (Qs n)))) 5)
theorem AV {b b1 b2 b3 : Nat} {n : Nd} {out : List Ms} {H : Qc} (to idx term : Int) (hb : out.length ≤ 1000) (hw : WkH b n out H) :
  FnH Tryz.prog 148 ([] ++ [ei to] ++ [pW b1, pW b2, pW b3]) (H ++ [(b3, ⟨3, [ei term], 1⟩), (b2, ⟨3, [ei idx], 1⟩), (b1, ⟨164, [pW b], 1⟩)])
   (fun _ H' => ∃ H1, H' = H1 ++ [(b3, ⟨3, [ei term], 1⟩), (b2, ⟨3, [ei idx], 1⟩), (b1, ⟨164, [pW b], 1⟩)] ∧ WkH b n (out ++ [XA n to (DW idx term)]) H1) := by
 refine fe Tryz.func148 fun S0 w0 => ?_
 show Sim _ _ [(0, ei to), (1, pW b1), (2, pW b2), (3, pW b3)] _ _
 refine zC ?_
 refine cr <| s_ Ql <| s_ Qa <| s_ Ql <| s_ Ql <| s_ (ZF 11 [_, _, _, _, _, _, _, _, _, _, _]) ?_
 refine Q2 (FnH.of_le ?_ (JQ to (DW idx term) hb hw)) (.refl _) (fun r H' ⟨hr, h3⟩ => ?_)
 ·exact zM
 ·subst hr
  refine zC ?_
  exact rhn kR ⟨_, rfl, h3⟩ (Le.refl _)
theorem Bd.stand {n : Nd} (h : Bd n) : Bd (Q0 n) := ⟨h.id0, h.id5, h.log, h.base0, h.base1, h.conf0, h.conf1⟩
theorem RL {b : Nat} {n : Nd} {out : List Ms} {H : Qc} (hn : Bd n) (hl : n.log.length < 100000000) (ht0 : 0 ≤ n.term) (ht1 : n.term ≤ 1000000000000) (ho : out.length ≤ 900) (hw : WkH b n out H) :
  FnH Tryz.prog 108 [pW b] H (fun r H' => r = .tup [] ∧ WkH b (XU n).1 (out ++ (XU n).2) H') := by
 have hb0 := hn.base0
 have hb1 := hn.base1
 have hi0 := hn.id0
 have hi5 := hn.id5
 have hC := VE (Q0 n) (by show n.log.length ≤ _; omega) (by show _ ≤ n.base; omega) (by show n.base ≤ _; omega)
 have hL := Jl (Q0 n) (by show n.log.length ≤ _; omega) (by show _ ≤ n.base; omega) (by show n.base ≤ _; omega)
 have hsh : Zy .i64 1 (IntKind.u64.wrap n.id) = 2 ^ n.id.toNat ∧ 0 ≤ (2 : Int) ^ n.id.toNat ∧ (2 : Int) ^ n.id.toNat ≤ 31 := by
  rcases five hi0 hi5 with h | h | h | h | h <;> rw [h] <;> decide
 have hwi : IntKind.u64.wrap n.id = n.id := Jx hi0 (by omega)
 have hM := Mh (QD n).2 (2 ^ n.id.toNat) hsh.2.1 hsh.2.2 hn.conf0 hn.conf1
 refine fe Tryz.func108 fun S0 w0 => ?_
 show Sim _ _ [(0, pW b)] _ _
 obtain ⟨vl, vo, Hl, Ho, h1, h2, rfl⟩ := hw
 obtain ⟨p, c, rfl⟩ := h1.len
 obtain ⟨q, d, rfl⟩ := h2.len
 refine zC ?_
 apply cr
 refine Mx fun b1 _ => ?_
 refine zC ?_
 refine ca [0, 1, 2, 3, 4, 5, 6, 7, 8, 9, 10, 11, 12, 13, 14, 15, 16, 17, 18, 19] [11, 15, 19] <| QJ ?_
 refine QJ ?_
 refine QJ ?_
 refine QJ ?_
 refine a_ (fun _ => Qe) <| a_ (fun _ => Qd) <| a_ (fun _ => Qd) <| QJ ?_
 refine a_ (fun _ => Qe) <| a_ (fun _ => Qd) <| a_ (fun _ => Qd) <| XN ?_
 refine a_ (fun _ => Qe) <| a_ (fun _ => Qd) <| a_ (fun _ => Qd) <| XN ?_
 refine a_ (fun _ => Qe) <| a_ (fun _ => Qd) <| a_ (fun _ => Qd) <| XN ?_
 apply an
 refine zC ?_
 refine cr <| s_ Ql <| s_ Qe <| s_ Qd <| s_ Qd <| s_ Ql <| s_ QY <| s_ Qe <| s_ Qd <| s_ Qd <| Qz ?_
 refine zC ?_
 refine ca [0, 1, 2, 3, 4, 5, 6, 7, 8, 9, 10, 11] [11] <| QJ ?_
 refine QJ ?_
 refine a_ (fun _ => Qe) <| a_ (fun _ => Qd) <| a_ (fun _ => Qd) <| QJ ?_
 refine a_ (fun _ => Yv) <| a_ (fun _ => UD) <| a_ (fun _ => Qe) <| a_ (fun _ => Qd) <| a_ (fun _ => Qd) <| XN ?_
 apply an
 refine zC ?_
 rw [hsh.1]
 refine zC ?_
 refine ca [0, 1, 2, 3, 4, 5, 6, 7, 8, 9, 10] [] <| QJ ?_
 refine a_ (fun _ => Qe) <| a_ (fun _ => Qd) <| YC ?_
 refine A4 (G := (b, _) :: (Hl ++ (Ho ++ []))) hC (Qg.cons (Qx.agg (QX _ (h1.lend (by intro p hp; simp [hp])))) Qg.nil) ⟨[_], List.perm_append_comm (l₁ := [_])⟩ ?_
 refine QJ ?_
 refine a_ (fun _ => Qe) <| a_ (fun _ => Qd) <| a_ (fun _ => Qd) <| QJ ?_
 refine a_ (fun _ => QQ (hM)) ?_
 apply an
 refine zC ?_
 have hw : WkH b (Q0 n) out ((b, ⟨tW, wkC (Q0 n) (.slice p (n.log.map een).length c) (.slice q (out.map ms).length d), 23⟩) :: (Hl ++ (Ho ++ []))) := ⟨_, _, Hl, Ho, h1, h2, rfl⟩
 refine ci ?_ ?_
 ·intro hc
  refine zC ?_
  refine cr <| s_ Ql ?_
  refine Q2 (Hr := [_]) (Gr hn.stand hl ho hw) (List.perm_append_comm (l₁ := [_])) (fun r H' ⟨hr, h3⟩ => ?_)
  subst hr
  refine zC ?_
  refine zR ?_
  refine rhp (List.perm_append_comm (l₂ := [_])) (.skip _ _ _ kR) ⟨rfl, ?_⟩ (Le.refl _)
  have hm : Vh (QD n).2 (2 ^ n.id.toNat) = true := decide_eq_true hc
  rw [XU, if_pos hm]
  exact h3
 ·intro hc
  refine zC ?_
  refine cr <| s_ Ql <| s_ Qe <| s_ Qd <| s_ Xf <| s_ (Az (G := (b, _) :: (Hl ++ (Ho ++ []))) hL (Qg.cons (Qx.agg (QX _ (h1.lend (by intro p hp; simp [hp])))) Qg.nil) ⟨[_], List.perm_append_comm (l₁ := [_])⟩) <| s_ Qa <| s_ QH <| s_ QH ?_
  refine Yd fun b2 _ => ?_
  refine Yd fun b3 _ => ?_
  refine Qz ?_
  refine Qz ?_
  refine zC ?_
  refine cr <| s_ Ql <| s_ UE ?_
  have hO := Li (fun to => XA (Q0 n) to (DW (Qs (Q0 n)) (Xe (Q0 n) (Qs (Q0 n))))) 148 [] [pW b1, pW b2, pW b3] (by rfl) hn.stand ho hw (fun to out' H2 h0 h5 ho2 hw2 => AV (b1 := b1) (b2 := b2) (b3 := b3) to _ _ (by omega) hw2)
  refine Q2 (Hr := []) hO ?_ (fun r H' hh => ?_)
  ·exact List.Perm.trans (l₂ := (_ :: _) ++ (_ :: _ :: _ :: [])) (List.perm_append_comm (l₁ := _ :: _ :: _ :: [])) (List.Perm.of_eq (List.append_nil _).symm)
  obtain ⟨hr, H1, e, h3⟩ := hh
  subst hr
  subst e
  refine zC ?_
  rw [List.append_nil]
  refine rhn (kH (r' := []) kN) ⟨rfl, ?_⟩ (Le.refl _)
  have hm : ¬ Vh (QD n).2 (2 ^ n.id.toNat) = true := fun h => hc (of_decide_eq_true h)
  rw [XU, if_neg hm, List.append_nil]
  exact h3
theorem Bd.of {n n' : Nd} (h : Bd n) (h1 : n'.id = n.id := by rfl) (h2 : n'.log = n.log := by rfl) (h3 : n'.base = n.base := by rfl) (h4 : n'.baseConf = n.baseConf := by rfl) : Bd n' := by
 have hc : QD n' = QD n := by simp only [QD, h2, h3, h4]
 exact ⟨h1 ▸ h.id0, h1 ▸ h.id5, h2 ▸ h.log, h3 ▸ h.base0, h3 ▸ h.base1, hc ▸ h.conf0, hc ▸ h.conf1⟩
theorem Ip (m : Ms) : ms m = .agg [ei m.kind, ei m.frm, ei m.to, ei m.term, ei m.index, ei m.logTerm, ei m.commit, ei m.conf, .v (.bool (decide (m.yes = true))), ZG m.entries, es m.snap] := by
 simp [ms, msC, eB]
def UT (yes : Bool) : Ms := ⟨2, 0, 0, 0, 0, 0, 0, 0, yes, [], []⟩
def Vl (n : Nd) (m : Ms) : Bool := decide ((m.term = n.term ∧ (n.vote = -1 ∨ n.vote = m.frm)) ∧ (Xe n (Qs n) < m.logTerm ∨ m.logTerm = Xe n (Qs n) ∧ Qs n ≤ m.index))
def X7 (n : Nd) (m : Ms) : Nd := if Vl n m then { n with vote := m.frm, wait := 0 } else n
theorem CG {b : Nat} {n : Nd} {out : List Ms} {H : Qc} (m : Ms) (hn : Bd n) (ho : out.length ≤ 900) (hw : WkH b n out H) :
  FnH Tryz.prog 133 [pW b, ms m] H (fun r H' => r = .tup [] ∧ WkH b (X7 n m) (out ++ [XA (X7 n m) m.frm (UT (Vl n m))]) H') := by
 have hb0 := hn.base0
 have hb1 := hn.base1
 have hlog := hn.log
 have hL := Jl n (by omega) (by omega) (by omega)
 refine fe Tryz.func133 fun S0 w0 => ?_
 show Sim _ _ [(0, pW b), (1, T.agg (msC m (ZG m.entries)))] _ _
 obtain ⟨vl, vo, Hl, Ho, h1, h2, rfl⟩ := hw
 obtain ⟨p, c, rfl⟩ := h1.len
 obtain ⟨q, d, rfl⟩ := h2.len
 refine zC ?_
 apply cr
 refine X1 fun b3 _ => ?_
 refine zC ?_
 refine Zt 3 (by simp [msC]) ?_
 refine zC ?_
 refine cr <| s_ Qa <| s_ Qe <| s_ Qd <| s_ Xf <| s_ (VX hL (Qg.cons (Qx.agg (QX _ (h1.lend (by intro p hp; simp [hp])))) Qg.nil)) <| s_ Qa <| s_ QH <| s_ QH <| s_ Qb <| s_ Qb <| zC ?_
 refine ca [0, 1, 2, 3, 4, 5, 6, 7, 8, 9, 10, 11, 12, 13, 14, 15, 16, 17, 18, 19, 20, 21, 22, 23, 24, 25, 26, 27, 28, 29, 30, 31, 32, 33, 34, 35, 36, 37, 38, 39, 40, 41, 42, 43, 44] [] <| a_ (fun _ => Qu) <| a_ (fun _ => Qm) <| a_ (fun _ => Qa) <| a_ (fun _ => Qe) <| a_ (fun _ => Qd) <| a_ (fun _ => Qd) <| QJ ?_
 refine a_ (fun _ => XF) <| a_ (fun _ => Qa) <| QF (fun _ hg => Qa) ?_
 refine QF (fun _ hg => Qe (hx := u_ hg)) ?_
 refine QF (fun _ hg => Qd (hx := u_ hg)) ?_
 refine QF (fun _ hg => Qd (hx := u_ hg)) ?_
 refine Zz ?_
 refine QF (fun _ hg => XF (hx := u_ hg)) ?_
 refine QF (fun _ hg => Qa (hx := u_ hg)) ?_
 refine U8 (fun _ hg => Qa) ?_
 refine U8 (fun _ hg => Qe (hx := u_ hg)) ?_
 refine U8 (fun _ hg => Qd (hx := u_ hg)) ?_
 refine U8 (fun _ hg => Qd (hx := u_ hg)) ?_
 refine AZ ?_
 refine U8 (fun _ hg => Qu) ?_
 refine U8 (fun _ hg => Qm (hx := u_ hg)) ?_
 refine U8 (fun _ hg => XF (hx := u_ hg) (hy := u_ hg)) ?_
 refine QF (fun _ hg => B5 hg) ?_
 refine a_ (fun _ => XX) <| a_ (fun _ => Qa) <| QF (fun _ hg => Qu) ?_
 refine QF (fun _ hg => Qm (hx := u_ hg)) ?_
 refine QF (fun _ hg => Qa) ?_
 refine QF (fun _ hg => Yu (hx := u_ hg) (hy := u_ hg)) ?_
 refine QF (fun _ hg => Qa (hx := u_ hg)) ?_
 refine U8 (fun _ hg => Qu) ?_
 refine U8 (fun _ hg => Qm (hx := u_ hg)) ?_
 refine U8 (fun _ hg => Qa) ?_
 refine U8 (fun _ hg => XF (hx := u_ hg) (hy := u_ hg)) ?_
 refine U8 (fun _ hg => Qa (hx := u_ hg)) ?_
 refine BT (fun _ hg => Qu) ?_
 refine BT (fun _ hg => Qm (hx := u_ hg)) ?_
 refine BT (fun _ hg => Qa) ?_
 refine BT (fun _ hg => Vo (hx := u_ hg) (hy := u_ hg)) ?_
 refine U8 (fun _ hg => Aa hg) ?_
 refine QF (fun _ hg => B5 hg) ?_
 refine a_ (fun _ => XX) <| a_ (fun _ => Qb) ?_
 apply an
 refine zC ?_
 refine cr <| s_ Qa <| zC ?_
 refine ci ?_ ?_
 ·intro hc
  have hy : Vl n m = true := decide_eq_true hc
  have hv : X7 n m = { n with vote := m.frm, wait := 0 } := by rw [X7, if_pos hy]
  refine zC ?_
  refine cr <| s_ Qa <| s_ Qa <| s_ Qu <| s_ Qm <| s_ Qe <| s_ Qd <| s_ Qd <| Qz ?_
  refine s_ Qe <| s_ Qd <| s_ Qd <| Qz ?_
  refine zC ?_
  refine cr <| s_ Qa <| s_ Qu <| s_ Qm <| s_ Qa <| s_ (ZF 11 [_, _, _, _, _, _, _, _, _, _, _]) ?_
  refine QI (FnH.of_le ?_ (JQ m.frm (UT (Vl n m)) (by omega) (show WkH b { n with vote := m.frm, wait := 0 } out _ from ⟨_, _, Hl, Ho, h1, h2, rfl⟩))) (fun r H' ⟨hr, h3⟩ => ?_)
  ·exact zM
  ·subst hr
   refine zC ?_
   rw [hv]
   exact rhn kR ⟨rfl, h3⟩ (Le.refl _)
 ·intro hc
  have hy : ¬ Vl n m = true := fun h => hc (of_decide_eq_true h)
  have hv : X7 n m = n := by rw [X7, if_neg hy]
  refine zC ?_
  refine cr <| s_ Qa <| s_ Qu <| s_ Qm <| s_ Qa <| s_ (ZF 11 [_, _, _, _, _, _, _, _, _, _, _]) ?_
  refine QI (FnH.of_le ?_ (JQ m.frm (UT (Vl n m)) (by omega) (show WkH b n out _ from ⟨_, _, Hl, Ho, h1, h2, rfl⟩))) (fun r H' ⟨hr, h3⟩ => ?_)
  ·exact zM
  ·subst hr
   refine zC ?_
   rw [hv]
   exact rhn kR ⟨rfl, h3⟩ (Le.refl _)
def orI (a b : Int) : Int := (a.toNat ||| b.toNat : Nat)
theorem Tn {x y : Int} (h0 : 0 ≤ x) (h1 : x ≤ 31) (h2 : 0 ≤ y) (h3 : y < 5) : bOr .i64 x (Zy .i64 1 (IntKind.u64.wrap y)) = orI x (2 ^ y.toNat) ∧ 0 ≤ orI x (2 ^ y.toNat) ∧ orI x (2 ^ y.toNat) ≤ 31 := by
 have key : ∀ i : Fin 32, ∀ j : Fin 5, bOr .i64 i.val (Zy .i64 1 (IntKind.u64.wrap (j.val : Nat))) = orI i.val (2 ^ j.val) ∧ 0 ≤ orI i.val (2 ^ j.val) ∧ orI i.val (2 ^ j.val) ≤ 31 := by decide
 obtain ⟨i, rfl⟩ := GM h0 h1
 obtain ⟨j, rfl⟩ : ∃ j : Nat, y = (j : Int) := ⟨y.toNat, by omega⟩
 exact key i ⟨j, by omega⟩
def Yb (n : Nd) (m : Ms) : Nd := { n with votes := orI n.votes (2 ^ m.frm.toNat) }
def XR (n : Nd) (m : Ms) : Nd × List Ms := if (¬ m.term = n.term ∨ ¬ n.role = 1) ∨ ¬ m.yes = true then (n, []) else
 if Vh (QD n).2 (orI n.votes (2 ^ m.frm.toNat)) then (Q5 (Yb n m), XP (Q5 (Yb n m)) (Zq (Q5 (Yb n m))) 5) else (Yb n m, [])
theorem Rz {b : Nat} {n : Nd} {out : List Ms} {H : Qc} (m : Ms) (hn : Bd n) (hl : n.log.length < 100000000) (hv0 : 0 ≤ n.votes) (hv1 : n.votes ≤ 31) (hf0 : 0 ≤ m.frm) (hf5 : m.frm < 5) (ho : out.length ≤ 900) (hw : WkH b n out H) :
  FnH Tryz.prog 134 [pW b, ms m] H (fun r H' => r = .tup [] ∧ WkH b (XR n m).1 (out ++ (XR n m).2) H') := by
 have hb0 := hn.base0
 have hb1 := hn.base1
 have hlog := hn.log
 have hor := Tn hv0 hv1 hf0 hf5
 have hwf : IntKind.u64.wrap m.frm = m.frm := Jx hf0 (by omega)
 have hC := VE (Yb n m) (by show n.log.length ≤ _; omega) (by show _ ≤ n.base; omega) (by show n.base ≤ _; omega)
 have hM := Mh (QD n).2 (orI n.votes (2 ^ m.frm.toNat)) hor.2.1 hor.2.2 hn.conf0 hn.conf1
 rw [Ip]
 refine fe Tryz.func134 fun S0 w0 => ?_
 show Sim _ _ [(0, pW b), (1, T.agg [ei m.kind, ei m.frm, ei m.to, ei m.term, ei m.index, ei m.logTerm, ei m.commit, ei m.conf, .v (.bool (decide (m.yes = true))), ZG m.entries, es m.snap])] _ _
 obtain ⟨vl, vo, Hl, Ho, h1, h2, rfl⟩ := hw
 obtain ⟨p, c, rfl⟩ := h1.len
 obtain ⟨q, d, rfl⟩ := h2.len
 refine zC ?_
 apply cr
 refine X1 fun b3 _ => ?_
 refine zC ?_
 refine Zt 3 (by simp) ?_
 refine zC ?_
 refine ca [0, 1, 2, 3, 4, 5, 6, 7, 8, 9, 10, 11, 12, 13, 14, 15, 16, 17, 18, 19, 20] [] <| a_ (fun _ => Qu) <| a_ (fun _ => Qm) <| a_ (fun _ => Qa) <| a_ (fun _ => Qe) <| a_ (fun _ => Qd) <| a_ (fun _ => Qd) <| QJ ?_
 refine a_ (fun _ => Yq) <| a_ (fun _ => Qa) <| XH (fun _ hg => Qa) ?_
 refine XH (fun _ hg => Qe (hx := u_ hg)) ?_
 refine XH (fun _ hg => Qd (hx := u_ hg)) ?_
 refine XH (fun _ hg => Qd (hx := u_ hg)) ?_
 refine MF ?_
 refine XH (fun _ hg => Yq (hx := u_ hg)) ?_
 refine a_ (fun _ => YW) <| a_ (fun _ => Qa) <| XH (fun _ hg => Qu) ?_
 refine XH (fun _ hg => Qm (hx := u_ hg)) ?_
 refine XH (fun _ hg => YA (hx := u_ hg)) ?_
 refine a_ (fun _ => YW) ?_
 apply an
 refine zC ?_
 refine ci ?_ ?_
 ·intro hc
  refine zR ?_
  refine rh kR ⟨rfl, ?_⟩ (Le.refl _)
  rw [XR, if_pos hc, List.append_nil]
  exact ⟨_, _, Hl, Ho, h1, h2, rfl⟩
 ·intro hc
  refine zC ?_
  refine ca [0, 1, 2, 3, 4, 5, 6, 7, 8, 9, 10, 11, 12, 13] [13] <| a_ (fun _ => Qa) <| a_ (fun _ => Qe) <| a_ (fun _ => Qd) <| a_ (fun _ => Qd) <| QJ ?_
  refine a_ (fun _ => Qu) <| a_ (fun _ => Qm) <| a_ (fun _ => Yv) <| a_ (fun _ => UD) <| a_ (fun _ => Vg) <| a_ (fun _ => Qe) <| a_ (fun _ => Qd) <| a_ (fun _ => Qd) <| XN ?_
  apply an
  refine zC ?_
  rw [hor.1]
  have hw : WkH b (Yb n m) out ((b, ⟨tW, wkC (Yb n m) (.slice p (n.log.map een).length c) (.slice q (out.map ms).length d), 23⟩) :: (Hl ++ (Ho ++ []))) := ⟨_, _, Hl, Ho, h1, h2, rfl⟩
  refine zC ?_
  refine ca [0, 1, 2, 3, 4, 5, 6, 7, 8, 9, 10] [] <| a_ (fun _ => Qa) <| a_ (fun _ => Qe) <| a_ (fun _ => Qd) <| YC ?_
  refine A4 (G := (b, _) :: (Hl ++ (Ho ++ []))) hC (Qg.cons (Qx.agg (QX _ (h1.lend (by intro p hp; simp [hp])))) Qg.nil) ⟨[], Vf⟩ ?_
  refine a_ (fun _ => Qa) <| a_ (fun _ => Qe) <| a_ (fun _ => Qd) <| a_ (fun _ => Qd) <| QJ ?_
  refine a_ (fun _ => QQ (hM)) ?_
  apply an
  refine zC ?_
  refine ci ?_ ?_
  ·intro hm
   refine zC ?_
   refine cr <| s_ Qa ?_
   refine QI (Gr (hn.of (n' := Yb n m)) hl ho hw) (fun r H' ⟨hr, h3⟩ => ?_)
   subst hr
   refine zC ?_
   refine rhn kR ⟨rfl, ?_⟩ (Le.refl _)
   have hm' : Vh (QD n).2 (orI n.votes (2 ^ m.frm.toNat)) = true := decide_eq_true hm
   rw [XR, if_neg hc, if_pos hm']
   exact h3
  ·intro hm
   refine zC ?_
   refine rhn kR ⟨rfl, ?_⟩ (Le.refl _)
   have hm' : ¬ Vh (QD n).2 (orI n.votes (2 ^ m.frm.toNat)) = true := fun h => hm (of_decide_eq_true h)
   rw [XR, if_neg hc, if_neg hm', List.append_nil]
   exact hw
theorem Mg {n : Nd} {vl vo : Value} {to : Int} (h0 : 0 ≤ to) (h5 : to < 5) : (wkC n vl vo)[0 + 0 + 17 + to.toNat * 1]? = some (ei (n.mtch.get to.toNat)) := by
 rcases five h0 h5 with rfl | rfl | rfl | rfl | rfl <;> rfl
theorem Lp {n : Nd} {vl vo : Value} {i : Int} (h0 : 0 ≤ i) (h5 : i < 5) (v : Int) : lay (wkC n vl vo) (0 + 0 + 12 + i.toNat * 1) (T.v (.int .i64 v)).cells = wkC { n with next := n.next.set i.toNat v } vl vo := by
 rcases five h0 h5 with rfl | rfl | rfl | rfl | rfl <;> rfl
theorem Lq {n : Nd} {vl vo : Value} {i : Int} (h0 : 0 ≤ i) (h5 : i < 5) (v : Int) : lay (wkC n vl vo) (0 + 0 + 17 + i.toNat * 1) (T.v (.int .i64 v)).cells = wkC { n with mtch := n.mtch.set i.toNat v } vl vo := by
 rcases five h0 h5 with rfl | rfl | rfl | rfl | rfl <;> rfl
theorem get_set (f : F5) {i : Int} (h0 : 0 ≤ i) (h5 : i < 5) (v : Int) : (f.set i.toNat v).get i.toNat = v := by
 rcases five h0 h5 with rfl | rfl | rfl | rfl | rfl <;> rfl
def JO (n : Nd) (m : Ms) : Nd := { n with mtch := n.mtch.set m.frm.toNat (max (n.mtch.get m.frm.toNat) m.index), next := n.next.set m.frm.toNat (max (n.mtch.get m.frm.toNat) m.index + 1) }
def XB (n : Nd) (m : Ms) : Nd := { n with next := n.next.set m.frm.toNat (max (max (min (n.next.get m.frm.toNat - 1) (m.index + 1)) 1) (n.mtch.get m.frm.toNat + 1)) }
def XK (n : Nd) (m : Ms) : Nd × List Ms := if ¬ m.term = n.term ∨ ¬ n.role = 2 then (n, []) else if m.yes = true then (QW (JO n m), []) else
 if (XB n m).next.get m.frm.toNat ≤ Qs n then (XB n m, [Zq (XB n m) m.frm]) else (XB n m, [])
theorem IG {b : Nat} {n : Nd} {out : List Ms} {H : Qc} (m : Ms) (hn : Bd n) (hf0 : 0 ≤ m.frm) (hf5 : m.frm < 5) (hx0 : -100000000000 ≤ n.next.get m.frm.toNat) (hx1 : n.next.get m.frm.toNat ≤ 50000000000) (hm0 : -100000000000 ≤ n.mtch.get m.frm.toNat) (hm1 : n.mtch.get m.frm.toNat ≤ 50000000000) (hi0 : -100000000000 ≤ m.index) (hi1 : m.index ≤ 50000000000) (ho : out.length ≤ 900) (hw : WkH b n out H) :
  FnH Tryz.prog 136 [pW b, ms m] H (fun r H' => r = .tup [] ∧ WkH b (XK n m).1 (out ++ (XK n m).2) H') := by
 have hb0 := hn.base0
 have hb1 := hn.base1
 have hlog := hn.log
 have hL := Jl (XB n m) (by show n.log.length ≤ _; omega) (by show _ ≤ n.base; omega) (by show n.base ≤ _; omega)
 rw [Ip]
 refine fe Tryz.func136 fun S0 w0 => ?_
 show Sim _ _ [(0, pW b), (1, T.agg [ei m.kind, ei m.frm, ei m.to, ei m.term, ei m.index, ei m.logTerm, ei m.commit, ei m.conf, .v (.bool (decide (m.yes = true))), ZG m.entries, es m.snap])] _ _
 obtain ⟨vl, vo, Hl, Ho, h1, h2, rfl⟩ := hw
 obtain ⟨p, c, rfl⟩ := h1.len
 obtain ⟨q, d, rfl⟩ := h2.len
 refine zC ?_
 apply cr
 refine X1 fun b3 _ => ?_
 refine zC ?_
 refine Zt 3 (by simp) ?_
 refine zC ?_
 refine ca [0, 1, 2, 3, 4, 5, 6, 7, 8, 9, 10, 11, 12, 13, 14, 15] [] <| a_ (fun _ => Qu) <| a_ (fun _ => Qm) <| a_ (fun _ => Qa) <| a_ (fun _ => Qe) <| a_ (fun _ => Qd) <| a_ (fun _ => Qd) <| QJ ?_
 refine a_ (fun _ => Yq) <| a_ (fun _ => Qa) <| XH (fun _ hg => Qa) ?_
 refine XH (fun _ hg => Qe (hx := u_ hg)) ?_
 refine XH (fun _ hg => Qd (hx := u_ hg)) ?_
 refine XH (fun _ hg => Qd (hx := u_ hg)) ?_
 refine MF ?_
 refine XH (fun _ hg => Yq (hx := u_ hg)) ?_
 refine a_ (fun _ => YW) ?_
 apply an
 refine zC ?_
 refine ci ?_ ?_
 ·intro hc
  refine zR ?_
  refine rh kR ⟨rfl, ?_⟩ (Le.refl _)
  rw [XK, if_pos hc, List.append_nil]
  exact ⟨_, _, Hl, Ho, h1, h2, rfl⟩
 ·intro hc
  refine zC ?_
  refine cr <| s_ Qu <| s_ Qm <| zC ?_
  refine ci ?_ ?_
  ·intro hy
   refine zC ?_
   refine ca [0, 1, 2, 3, 4, 5, 6, 7, 8, 9, 10, 11, 12, 13, 14, 15, 16, 17, 18] [18] <| a_ (fun _ => Qa) <| a_ (fun _ => Qu) <| a_ (fun _ => Qm) <| a_ (fun _ => Qa) <| a_ (fun _ => Qu) <| a_ (fun _ => Qm) <| a_ (fun _ => Qe) <| a_ (fun _ => Qd) <| a_ (fun _ => Qd) <| a_ (fun _ => YX) <| QJ (hd := Mg hf0 hf5) ?_
   refine a_ (fun _ => Qu) <| a_ (fun _ => Qm) <| a_ (fun _ => VW) <| a_ (fun _ => Qe) <| a_ (fun _ => Qd) <| a_ (fun _ => Qd) <| a_ (fun _ => YX) ?_
   refine EY ?_ ?_
   ·simp only [Jd, Zv, T.cells, Value.cells]; simp; omega
   rw [Lq hf0 hf5]
   have hd2 : ∀ vl vo, (wkC { n with mtch := n.mtch.set m.frm.toNat (max (n.mtch.get m.frm.toNat) m.index) } vl vo)[0 + 0 + 17 + m.frm.toNat * 1]? = some (ei (max (n.mtch.get m.frm.toNat) m.index)) := fun _ _ => by rw [Mg hf0 hf5, get_set _ hf0 hf5]
   apply an
   refine zC ?_
   refine ca [0, 1, 2, 3, 4, 5, 6, 7, 8, 9, 10, 11, 12, 13, 14, 15, 16] [16] <| a_ (fun _ => Qa) <| a_ (fun _ => Qu) <| a_ (fun _ => Qm) <| a_ (fun _ => Qa) <| a_ (fun _ => Qu) <| a_ (fun _ => Qm) <| a_ (fun _ => Qe) <| a_ (fun _ => Qd) <| a_ (fun _ => Qd) <| a_ (fun _ => YX) <| QJ (hd := hd2 _ _) ?_
   refine a_ (fun _ => QY) <| a_ (fun _ => Qe) <| a_ (fun _ => Qd) <| a_ (fun _ => Qd) <| a_ (fun _ => YX) ?_
   refine EY ?_ ?_
   ·simp only [Jd, Zv, T.cells, Value.cells]; simp; omega
   rw [Lp hf0 hf5]
   apply an
   refine zC ?_
   refine cr <| s_ Qa ?_
   refine QI (U5 (hn.of (n' := JO n m)) ⟨_, _, Hl, Ho, h1, h2, rfl⟩) (fun r H' ⟨hr, h3⟩ => ?_)
   subst hr
   refine zC ?_
   refine zR ?_
   refine rh kR ⟨rfl, ?_⟩ (Le.refl _)
   rw [XK, if_neg hc, if_pos hy, List.append_nil]
   exact h3
  ·intro hy
   refine zC ?_
   refine ca [0, 1, 2, 3, 4, 5, 6, 7, 8, 9, 10, 11, 12, 13, 14, 15, 16, 17, 18, 19, 20, 21, 22, 23, 24, 25, 26, 27, 28, 29, 30] [30] <| a_ (fun _ => Qa) <| a_ (fun _ => Qu) <| a_ (fun _ => Qm) <| a_ (fun _ => Qa) <| a_ (fun _ => Qu) <| a_ (fun _ => Qm) <| a_ (fun _ => Qe) <| a_ (fun _ => Qd) <| a_ (fun _ => Qd) <| a_ (fun _ => YX) <| QJ (hd := Vw hf0 hf5) ?_
   refine a_ (fun _ => Zp) <| a_ (fun _ => Qu) <| a_ (fun _ => Qm) <| a_ (fun _ => QY) <| a_ (fun _ => WU) <| a_ (fun _ => Qa) <| a_ (fun _ => Qu) <| a_ (fun _ => Qm) <| a_ (fun _ => Qe) <| a_ (fun _ => Qd) <| a_ (fun _ => Qd) <| a_ (fun _ => YX) <| QJ (hd := Mg hf0 hf5) ?_
   refine a_ (fun _ => QY) <| a_ (fun _ => Tg) <| a_ (fun _ => Qe) <| a_ (fun _ => Qd) <| a_ (fun _ => Qd) <| a_ (fun _ => YX) ?_
   refine EY ?_ ?_
   ·simp only [Jd, Zv, T.cells, Value.cells]; simp; omega
   rw [Lp hf0 hf5]
   have hw : WkH b (XB n m) out ((b, ⟨tW, wkC (XB n m) (.slice p (n.log.map een).length c) (.slice q (out.map ms).length d), 23⟩) :: (Hl ++ (Ho ++ []))) := ⟨_, _, Hl, Ho, h1, h2, rfl⟩
   apply an
   refine zC ?_
   refine cr <| s_ Qa <| s_ Qe <| s_ Qd <| s_ Xf <| s_ (VX hL (Qg.cons (Qx.agg (QX (XB n m) (h1.lend (by intro p hp; simp [hp])))) Qg.nil)) <| s_ Qa <| s_ QH <| s_ QH <| s_ Qb <| s_ Qb <| zC ?_
   refine ca [0, 1, 2, 3, 4, 5, 6, 7, 8, 9] [] <| a_ (fun _ => Qa) <| a_ (fun _ => Qu) <| a_ (fun _ => Qm) <| a_ (fun _ => Qe) <| a_ (fun _ => Qd) <| a_ (fun _ => Qd) <| a_ (fun _ => YX) <| QJ (hd := Vw (n := XB n m) hf0 hf5) ?_
   refine a_ (fun _ => Qa) <| a_ (fun _ => Bb) ?_
   apply an
   refine zC ?_
   refine ci ?_ ?_
   ·intro hle
    refine zC ?_
    refine cr <| s_ Qa <| s_ Qu <| s_ Qm ?_
    refine QI (Ij m.frm hf0 hf5 (by show n.log.length ≤ _; omega) (by show _ ≤ n.base; omega) (by show n.base ≤ _; omega) ?_ (by omega) hw) (fun r H' ⟨hr, h3⟩ => ?_)
    ·have : (XB n m).next.get m.frm.toNat = max (max (min (n.next.get m.frm.toNat - 1) (m.index + 1)) 1) (n.mtch.get m.frm.toNat + 1) := get_set _ hf0 hf5 _
     rw [this]; omega
    subst hr
    refine zC ?_
    refine rhn kR ⟨rfl, ?_⟩ (Le.refl _)
    have hle' : (XB n m).next.get m.frm.toNat ≤ Qs n := hle
    rw [XK, if_neg hc, if_neg hy, if_pos hle']
    exact h3
   ·intro hle
    refine zC ?_
    refine rhn kR ⟨rfl, ?_⟩ (Le.refl _)
    have hle' : ¬ (XB n m).next.get m.frm.toNat ≤ Qs n := hle
    rw [XK, if_neg hc, if_neg hy, if_neg hle', List.append_nil]
    exact hw
def VU (n : Nd) (e : En) : Nd := { n with log := n.log ++ [⟨n.term, e.conf, e.cmd⟩], mtch := n.mtch.set n.id.toNat (n.base + (n.log.length + 1)) }
def Om (n : Nd) (e : En) : Nd := QW (VU n e)
theorem Bm (l : List En) (e : En) : lc (l ++ [e]) (l ++ [e]).length = if e.conf ≠ 0 then some (l.length, e.conf) else lc l l.length := by
 rw [List.length_append, List.length_singleton, lc]
 have : (l ++ [e]).getD l.length default = e := by simp [List.getD_eq_getElem?_getD]
 rw [this]
 split
 ·rfl
 ·exact Mn _ _ _ (Nat.le_refl _)
theorem Bd.put {n : Nd} {e : En} (h : Bd n) (hl : n.log.length < 100000000) (h0 : 0 ≤ e.conf) (h1 : e.conf ≤ 31) : Bd (VU n e) := by
 have hc : (QD (VU n e)).2 = if e.conf ≠ 0 then e.conf else (QD n).2 := by
  have := Bm n.log ⟨n.term, e.conf, e.cmd⟩
  by_cases hz : e.conf ≠ 0
  ·rw [if_pos hz] at this ⊢
   simp only [QD, VU, this]
  ·rw [if_neg hz] at this ⊢
   simp only [QD, VU, this]
 refine ⟨h.id0, h.id5, by simp [VU]; omega, h.base0, h.base1, ?_, ?_⟩ <;> rw [hc] <;> split
 ·exact h0
 ·exact h.conf0
 ·exact h1
 ·exact h.conf1
theorem Ap {b : Nat} {n : Nd} {out : List Ms} {H : Qc} (e : En) (hn : Bd n) (hl : n.log.length < 100000000) (hc0 : 0 ≤ e.conf) (hc1 : e.conf ≤ 31) (hw : WkH b n out H) :
  TN Tryz.prog 103 [pW b, een e] H (.tup [nd (Om n e), ei (n.base + (n.log.length + 1)), ei 0]) := by
 have hb0 := hn.base0
 have hb1 := hn.base1
 have hi0 := hn.id0
 have hi5 := hn.id5
 have hL := Jl { n with log := n.log ++ [⟨n.term, e.conf, e.cmd⟩] } (by simp; omega) (by simp only; omega) (by simp only; omega)
 refine fe Tryz.func103 fun S0 w0 => ?_
 show Sim _ _ [(0, pW b), (1, een e)] _ _
 obtain ⟨vl, vo, Hl, Ho, h1, h2, rfl⟩ := hw
 obtain ⟨p, c, rfl⟩ := h1.len
 obtain ⟨q, d, rfl⟩ := h2.len
 refine zC ?_
 apply cr
 refine X1 fun b3 _ => ?_
 refine Yd fun b4 _ => ?_
 refine s_ Qb <| s_ Qb <| zC ?_
 refine cr <| s_ Qa <| s_ Qe <| s_ Qd <| s_ Qd <| s_ Ql <| s_ Qd <| Qz ?_
 refine zC ?_
 refine zC ?_
 refine ca [0, 1, 2, 3, 4, 5, 6, 7, 8, 9, 10, 11, 12] [8, 12] <| a_ (fun _ => Qa) <| a_ (fun _ => Qa) <| a_ (fun _ => Qe) <| a_ (fun _ => Qd) <| a_ (fun _ => Qd) <| QJ ?_
 refine YC ?_
 refine a_ (fun _ => JG) ?_
 refine A3 (ho := h1) (A := [_, _, _]) (B := Ho ++ []) (EN n.log) (fun v' Hl' h1' => ⟨zd, ?_⟩)
 refine zD ?_
 have h1 : OE (n.log ++ [⟨n.term, e.conf, e.cmd⟩]) v' Hl' := by unfold OE; rw [List.map_append]; exact h1'
 clear h1'
 obtain ⟨p, c, rfl⟩ := h1.len
 refine a_ (fun _ => Qe) <| a_ (fun _ => Qd) <| a_ (fun _ => Qd) <| XN ?_
 apply an
 refine zC ?_
 refine cr <| s_ Qa <| s_ Qe <| s_ Qd <| s_ Xf <| s_ (Az (G := (b, _) :: (Hl' ++ (Ho ++ []))) hL (Qg.cons (Qx.agg (QX _ (h1.lend (by intro p hp; simp [hp])))) Qg.nil) ⟨[_, _], List.perm_append_comm (l₁ := _ :: _ :: [])⟩) ?_
 have hLF : Qs { n with log := n.log ++ [⟨n.term, e.conf, e.cmd⟩] } = n.base + (n.log.length + 1) := by simp [Qs]
 rw [hLF]
 refine s_ Qa <| s_ QH <| s_ QH <| s_ Qb <| s_ Qb <| zC ?_
 refine ca [0, 1, 2, 3, 4, 5, 6, 7, 8, 9, 10, 11] [11] <| a_ (fun _ => Qa) <| a_ (fun _ => Qa) <| a_ (fun _ => Qe) <| a_ (fun _ => Qd) <| a_ (fun _ => Qd) <| QJ ?_
 refine a_ (fun _ => Qa) <| a_ (fun _ => Qe) <| a_ (fun _ => Qd) <| a_ (fun _ => Qd) <| a_ (fun _ => YX) ?_
 refine EY ?_ ?_
 ·simp only [Jd, Zv, wkC, Qv]; simp; omega
 apply an
 refine zC ?_
 have hm : lay (wkC { n with log := n.log ++ [⟨n.term, e.conf, e.cmd⟩] } (.slice p ((n.log ++ [(⟨n.term, e.conf, e.cmd⟩ : En)]).map een).length c) (.slice q (out.map ms).length d)) (0 + 0 + 17 + n.id.toNat * 1) (ei (n.base + (n.log.length + 1))).cells = wkC (VU n e) (.slice p ((n.log ++ [(⟨n.term, e.conf, e.cmd⟩ : En)]).map een).length c) (.slice q (out.map ms).length d) := Lq hi0 hi5 _
 have hw : WkH b (VU n e) out ((b, ⟨tW, lay (wkC { n with log := n.log ++ [⟨n.term, e.conf, e.cmd⟩] } (.slice p ((n.log ++ [(⟨n.term, e.conf, e.cmd⟩ : En)]).map een).length c) (.slice q (out.map ms).length d)) (0 + 0 + 17 + n.id.toNat * 1) (ei (n.base + (n.log.length + 1))).cells, 23⟩) :: (Hl' ++ (Ho ++ []))) := by
  rw [hm]
  exact ⟨_, _, Hl', Ho, h1, h2, rfl⟩
 have hn' := hn.put hl hc0 hc1
 refine zC ?_
 refine cr <| s_ Qa ?_
 refine Q2 (Hr := _ :: _ :: []) (U5 hn' hw) (List.perm_append_comm (l₁ := _ :: _ :: [])) (fun r H' ⟨hr, h3⟩ => ?_)
 subst hr
 refine zC ?_
 refine cr <| s_ Qa ?_
 refine Q2 (Yg (by have := hn'.commit.log; omega) h3) (.refl _) (fun r H' ⟨hr, hr2⟩ => ?_)
 subst hr hr2
 refine s_ Qa <| s_ QH <| s_ QH ?_
 refine Yd fun b9 _ => ?_
 refine Qz ?_
 refine s_ Qb <| zC ?_
 refine cr <| s_ Xf <| s_ Qa <| Qz ?_
 refine s_ Qb <| s_ Qb <| zC ?_
 refine zR ?_
 exact rh kN ⟨rfl, rfl⟩ (Le.refl _)
def Q3 (n : Nd) : Nd := { n with role := 0, wait := 0 }
theorem Wl {b : Nat} {n : Nd} {out : List Ms} {H : Qc} (m : Ms) (hb : out.length ≤ 1000) (hw : WkH b n out H) :
  FnH Tryz.prog 157 [pW b, ms m] H (fun r H' => r = .v (.bool (decide (¬ m.term < n.term))) ∧ WkH b (if m.term < n.term then n else Q3 n) (if m.term < n.term then out ++ [XA n m.frm (YN false 0)] else out) H') :=
 (O1 m hb hw).mono fun r H' h => by
  by_cases hlt : m.term < n.term
  ·rw [if_pos hlt] at h
   rw [if_pos hlt, if_pos hlt]
   exact ⟨by rw [h.1]; simp [hlt, eB], h.2⟩
  ·rw [if_neg hlt] at h
   rw [if_neg hlt, if_neg hlt]
   exact ⟨by rw [h.1]; simp [hlt, eB], h.2⟩
def Xb (n : Nd) (m : Ms) : Nat → List En
 | 0 => n.log
 | i + 1 => if m.index - n.base + i < (Xb n m i).length ∧ ((Xb n m i).getD (m.index - n.base + i).toNat default).term = (m.entries.getD i default).term then Xb n m i
  else (Xb n m i).take (min (m.index - n.base + i) (Xb n m i).length).toNat ++ [m.entries.getD i default]
theorem V9 (n : Nd) (m : Ms) : ∀ i, (Xb n m i).length ≤ n.log.length + i
 | 0 => Nat.le_refl _
 | i + 1 => by
  have := V9 n m i
  rw [Xb]
  split
  ·omega
  ·simp; omega
def EX (n : Nd) (m : Ms) : Nd := { Q3 n with log := Xb n m m.entries.length, commit := max n.commit (min m.commit (m.index + m.entries.length)) }
def Jv (n : Nd) (m : Ms) : Nd × List Ms := if m.term < n.term then (n, [XA n m.frm (YN false 0)]) else
 if m.index < n.base then (Q3 n, [XA (Q3 n) m.frm (YN true n.base)]) else
 if Qs n < m.index ∨ ¬ Xe n m.index = m.logTerm then (Q3 n, [XA (Q3 n) m.frm (YN false (min (Qs n) (m.index - 1)))]) else
 (EX n m, [XA (EX n m) m.frm (YN true (m.index + m.entries.length))])
theorem BC {k : Nat} {xs : List T} {i j : Nat} {x d : T} (hk : ∀ y ∈ xs, y.cells.length = k) (h : xs[i]? = some x) (hj : j < k) (hd : x.cells[j]? = some d) : (xs.flatMap T.cells)[0 + i * k + j]? = some d := by
 have ⟨h1, h2⟩ := Wo hk h
 have h3 : (((xs.flatMap T.cells).drop (i * k)).take k)[j]? = some d := by rw [h1, hd]
 rw [List.getElem?_take, if_pos hj, List.getElem?_drop] at h3
 rw [Nat.zero_add]
 exact h3
theorem OE.at {l : List En} {p : Option Addr} {n c : Nat} {Hs : Qc} (h : OE l (.slice p n c) Hs) : ∃ bl, 0 < l.length → p = some ⟨bl, 0, none⟩ ∧ (bl, (⟨tE, (l.map een).flatMap T.cells, c * 3⟩ : Blk)) ∈ Hs := by
 rcases h with ⟨h, _⟩ | ⟨bl, c', e, _, rfl⟩
 ·have : l = [] := by simpa using h
  exact ⟨0, fun h => by rw [this] at h; simp at h⟩
 ·cases e; exact ⟨bl, fun _ => ⟨rfl, List.mem_singleton.2 rfl⟩⟩
theorem OE.sub0 {l : List En} {p : Option Addr} {n c : Nat} {Hs : Qc} (h : OE l (.slice p n c) Hs) (j : Nat) : JX 3 p c 0 j = .slice p j c := by
 rcases h with ⟨_, ⟨q, e⟩, _⟩ | ⟨bl, c', e, _, _⟩
 ·cases e; cases p <;> rfl
 ·cases e
  unfold JX
  by_cases hc : c = 0 <;> simp [hc, Addr.add_mk]
theorem A2 {b : Nat} {n : Nd} {out : List Ms} {H : Qc} (m : Ms) (hn : Bd n) (hl : n.log.length + m.entries.length ≤ 100000000) (hi0 : -50000000000 ≤ m.index) (hi1 : m.index ≤ 50000000000) (ho : out.length ≤ 900) (hw : WkH b n out H) :
  FnH Tryz.prog 135 [pW b, ms m] H (fun r H' => r = .tup [] ∧ WkH b (Jv n m).1 (out ++ (Jv n m).2) H') := by
 have hb0 := hn.base0
 have hb1 := hn.base1
 have hlog := hn.log
 have hL := Jl (Q3 n) (by show n.log.length ≤ _; omega) (by show _ ≤ n.base; omega) (by show n.base ≤ _; omega)
 refine fe Tryz.func135 fun S0 w0 => ?_
 show Sim _ _ [(0, pW b), (1, T.agg (msC m (ZG m.entries)))] _ _
 refine zC ?_
 apply cr
 refine X1 fun b3 _ => ?_
 refine zC ?_
 refine Zt 3 (by simp [msC]) ?_
 refine zC ?_
 refine cr <| s_ Qa <| s_ Y6 ?_
 refine QI (Wl m (by omega) hw) (fun r H' ⟨hr, hw⟩ => ?_)
 subst hr
 refine s_ YA <| zC ?_
 refine ci ?_ ?_
 ·intro hc
  have hlt : m.term < n.term := Decidable.not_not.1 hc
  rw [if_pos hlt, if_pos hlt] at hw
  refine zR ?_
  refine rh kR ⟨rfl, ?_⟩ (Le.refl _)
  rw [Jv, if_pos hlt]
  exact hw
 intro hc
 have hlt : ¬ m.term < n.term := fun h => hc (fun h' => h' h)
 rw [if_neg hlt, if_neg hlt] at hw
 have hw1 := hw
 obtain ⟨vl, vo, Hl, Ho, h1, h2, rfl⟩ := hw
 obtain ⟨p, c, rfl⟩ := h1.len
 obtain ⟨q, d, rfl⟩ := h2.len
 refine zC ?_
 refine cr <| s_ Qa <| s_ Qe <| s_ Qd <| s_ Xf <| s_ (VX hL (Qg.cons (Qx.agg (QX (Q3 n) (h1.lend (by intro p hp; simp [hp])))) Qg.nil)) <| s_ Qa <| s_ QH <| s_ QH <| s_ Qb <| s_ Qb <| zC ?_
 refine ca [0, 1, 2, 3, 4, 5, 6, 7, 8] [] <| a_ (fun _ => Qu) <| a_ (fun _ => Qm) <| a_ (fun _ => Qa) <| a_ (fun _ => Qe) <| a_ (fun _ => Qd) <| a_ (fun _ => Qd) <| QJ ?_
 refine a_ (fun _ => QU) <| a_ (fun _ => Qb) ?_
 apply an
 refine zC ?_
 refine ci ?_ ?_
 ·intro hlo
  refine zC ?_
  refine ca [0, 1, 2, 3, 4, 5, 6, 7, 8] [8] <| a_ (fun _ => Qa) <| a_ (fun _ => Qu) <| a_ (fun _ => Qm) <| a_ (fun _ => Qa) <| a_ (fun _ => Qe) <| a_ (fun _ => Qd) <| a_ (fun _ => Qd) <| QJ ?_
  refine CB (FnH.of_le ?_ (ZA m.frm true n.base (by omega) hw1)) (fun r H' ⟨hr, h3⟩ => ⟨zd, ?_⟩)
  ·exact zM
  ·refine zD ?_
   subst hr
   apply an
   refine zC ?_
   refine zR ?_
   refine rh kR ⟨rfl, ?_⟩ (Le.refl _)
   have hlo' : m.index < n.base := hlo
   rw [Jv, if_neg hlt, if_pos hlo']
   exact h3
 intro hlo
 have hlo' : ¬ m.index < n.base := hlo
 have hT := Vu (Q3 n) m.index (by show n.log.length ≤ _; omega) (by simp only [big]; show _ ≤ n.base; omega) (by simp only [big]; show n.base ≤ _; omega) (by simp only [big]; omega) (by simp only [big]; omega)
 refine zC ?_
 refine ca [0, 1, 2, 3, 4, 5, 6, 7, 8, 9, 10, 11, 12, 13, 14, 15] [] <| a_ (fun _ => Qu) <| a_ (fun _ => Qm) <| a_ (fun _ => Qa) <| a_ (fun _ => Yu) <| a_ (fun _ => Qa) <| XH (fun _ hg => Qa) ?_
 refine XH (fun _ hg => Qe (hx := u_ hg)) ?_
 refine XH (fun _ hg => Qd (hx := u_ hg)) ?_
 refine XH (fun _ hg => Qu) ?_
 refine XH (fun _ hg => Qm (hx := u_ hg)) ?_
 refine A1 (G := (b, _) :: (Hl ++ (Ho ++ []))) (fun _ => hT) (fun _ => Qg.cons (Mf (n := Q3 n) h1 (by intro p hp; simp [hp]) List.mem_cons_self) (Qg.cons (Qx.le (Le.refl _)) Qg.nil)) ⟨[], Vf⟩ ?_ (fun hg => by refine QK (u_ hg) (QK (u_ hg) XE))
 refine XH (fun _ hg => Qu) ?_
 refine XH (fun _ hg => Qm (hx := u_ hg)) ?_
 refine XH (fun _ hg => Yq (hx := u_ hg) (hy := u_ hg)) ?_
 refine a_ (fun _ => YW) <| a_ (fun _ => Qb) ?_
 apply an
 refine zC ?_
 refine ci ?_ ?_
 ·intro hno
  refine zC ?_
  refine cr <| s_ Qa <| s_ Qu <| s_ Qm <| s_ Qa <| s_ Qu <| s_ Qm <| s_ Zp <| s_ WU ?_
  refine QI (FnH.of_le ?_ (ZA m.frm false (min (Qs n) (m.index - 1)) (by omega) hw1)) (fun r H' ⟨hr, h3⟩ => ?_)
  ·exact zM
  ·subst hr
   refine zC ?_
   refine zR ?_
   refine rh kR ⟨rfl, ?_⟩ (Le.refl _)
   have hno' : Qs n < m.index ∨ ¬ Xe n m.index = m.logTerm := hno
   rw [Jv, if_neg hlt, if_neg hlo', if_pos hno']
   exact h3
 intro hno
 have hno' : ¬ (Qs n < m.index ∨ ¬ Xe n m.index = m.logTerm) := hno
 refine zC ?_
 refine cr <| s_ Qu <| s_ Qm ?_
 (first | refine s_ QP ?_ | refine s_ QO ?_)
 refine s_ Qa <| zC ?_
 apply Qo (σ := Nat × Qc) (ok := fun s => s.1 ≤ m.entries.length ∧ WkH b { Q3 n with log := Xb n m s.1 } out s.2) (env := fun s => [(68, ei (s.1 : Nat)), (67, ei ((m.entries.map een).length : Nat)), (66, ZG m.entries), (3, .adr (.agg (msC m (ZG m.entries)))), (0, pW b)])
  (heap := fun s => s.2) (μ := fun s => m.entries.length - s.1) (s0 := (0, (b, ⟨tW, wkC (Q3 n) (.slice p (n.log.map een).length c) (.slice q (out.map ms).length d), 23⟩) :: (Hl ++ (Ho ++ []))))
 ·exact ⟨Nat.zero_le _, hw1⟩
 ·exact eL
 ·exact kR
 rintro ⟨i, H⟩ ⟨hi, hw⟩
 simp only at hi hw
 clear h1 h2 hw1
 obtain ⟨vl, vo, Hl, Ho, h1, h2, rfl⟩ := hw
 simp only at h1
 obtain ⟨p, c, rfl⟩ := h1.len
 obtain ⟨q, d, rfl⟩ := h2.len
 have hlk := V9 n m i
 have hqb : (Q3 n).base = n.base := rfl
 refine zC ?_
 refine cr <| s_ QU <| zC ?_
 refine ci ?_ ?_
 ·intro hlt2
  simp only [List.length_map] at hlt2
  have hix : i < m.entries.length := by omega
  have hge : m.entries.getD i default = m.entries[i] := by simp [hix]
  refine zC ?_
  refine cr <| s_ Qa ?_
  (first | refine s_ (Xd hix) ?_ | refine s_ (Xd hix2) ?_ | refine s_ YE ?_ | refine s_ ZE ?_)
  (first | refine s_ Y6 ?_ | refine s_ Xf ?_)
  refine Yd fun b7 _ => ?_
  refine s_ Qb <| Qz ?_
  refine zC ?_
  refine ca [0, 1, 2, 3, 4, 5, 6, 7, 8, 9, 10] [] <| a_ (fun _ => Qu) <| a_ (fun _ => Qm) <| a_ (fun _ => Qa) <| a_ (fun _ => Qe) <| a_ (fun _ => Qd) <| a_ (fun _ => Qd) <| QJ ?_
  refine a_ (fun _ => Zp) <| a_ (fun _ => Qa) <| a_ (fun _ => QY) <| a_ (fun _ => Qb) ?_
  apply an
  refine zC ?_
  rw [hqb]
  generalize hk : m.index - n.base + (i : Nat) = k
  have hk0 : 0 ≤ k := by omega
  obtain ⟨bl, hbl⟩ := h1.at
  refine zC ?_
  refine ca [0, 1, 2, 3, 4, 5, 6, 7, 8, 9, 10, 11, 12, 13, 14, 15, 16, 17, 18, 19, 20, 21] [] <| a_ (fun _ => Qa) <| a_ (fun _ => Qa) <| a_ (fun _ => Qe) <| a_ (fun _ => Qd) <| a_ (fun _ => Qd) <| QJ ?_
  (first | refine a_ (fun _ => QP) ?_ | refine a_ (fun _ => QO) ?_)
  refine a_ (fun _ => QU) <| a_ (fun _ => Qa) <| QF (fun _ hg => Qa) ?_
  refine QF (fun _ hg => Qe (hx := u_ hg)) ?_
  refine QF (fun _ hg => Qd (hx := u_ hg)) ?_
  refine QF (fun _ hg => Qd (hx := u_ hg)) ?_
  refine Zz ?_
  refine QF (fun _ hg => Qa) ?_
  have hkl : k < (((Xb n m i).map een).length : Nat) → k.toNat < (Xb n m i).length := fun h => by rw [List.length_map] at h; omega
  refine QF (p := k < (((Xb n m i).map een).length : Nat)) (fun _ hg => Th (hbl (by have := hkl hg; omega)).1 (hx := u_ hg) (hy := u_ hg)) ?_
  refine QF (fun _ hg => Qd (hx := u_ hg)) ?_
  refine BU (p := k < (((Xb n m i).map een).length : Nat)) (b := bl) (fun hg => List.mem_cons_of_mem _ (List.mem_cons_of_mem _ (List.mem_append_left _ (hbl (by have := hkl hg; omega)).2))) (fun hg => BC (k := 3) (j := 0) (EN _) (GP _ (hkl hg)) (by decide) rfl) ?_
  refine QF (fun _ hg => Qd) ?_
  refine Zz ?_
  refine QF (fun _ hg => XF (hx := u_ hg) (hy := u_ hg)) ?_
  refine a_ (fun _ => XX) ?_
  apply an
  refine zC ?_
  refine ci ?_ ?_
  ·intro hsame
   have hs : Xb n m (i + 1) = Xb n m i := by rw [Xb, hk, hge, if_pos ⟨by have := hsame.1; rw [List.length_map] at this; exact this, hsame.2⟩]
   refine zC ?_
   refine cr <| s_ QY <| s_ Qa <| zC ?_
   refine ⟨(i + 1, _), ⟨hix, ?_⟩, by show m.entries.length - (i + 1) < m.entries.length - i; omega, ⟨Qi (by rfl) (Le.refl _), eL⟩, kS kR⟩
   simp only
   rw [hs]
   exact ⟨_, _, Hl, Ho, h1, h2, rfl⟩
  ·intro hdiff
   have hs : Xb n m (i + 1) = (Xb n m i).take (min k (Xb n m i).length).toNat ++ [m.entries[i]] := by
    rw [Xb, hk, hge, if_neg fun h => hdiff ⟨by rw [List.length_map]; exact h.1, h.2⟩]
   have hcap : ((Xb n m i).map een).length ≤ c := OSl.cap h1
   refine zC ?_
   refine ca [0, 1, 2, 3, 4, 5, 6, 7, 8, 9, 10, 11, 12, 13, 14, 15, 16, 17, 18, 19, 20, 21] [17, 21] <| a_ (fun _ => Qa) <| a_ (fun _ => Qa) <| a_ (fun _ => Qe) <| a_ (fun _ => Qd) <| a_ (fun _ => Qd) <| QJ ?_
   refine a_ (fun _ => Qa) <| a_ (fun _ => Qa) <| a_ (fun _ => Qe) <| a_ (fun _ => Qd) <| a_ (fun _ => Qd) <| QJ ?_
   (first | refine a_ (fun _ => QP) ?_ | refine a_ (fun _ => QO) ?_)
   refine a_ (fun _ => WU) <| a_ (fun _ => Gk (v := .slice p (min k (((Xb n m i).map een).length : Nat)).toNat c) hcap (by exact h1.sub0 _)) <| YC ?_
   refine a_ (fun _ => JG) ?_
   refine TJ (A := [_, _]) (B := Ho ++ []) (ys := [een m.entries[i]]) h1 (EN _) (min k ((Xb n m i).length : Nat)).toNat (fun v' Hl' h1' => ⟨zd, ?_⟩) (hx := ?_)
   ·refine zD ?_
    have h1 : OE ((Xb n m i).take (min k (Xb n m i).length).toNat ++ [m.entries[i]]) v' Hl' := by unfold OE; rw [List.map_append, List.map_take]; exact h1'
    clear h1'
    obtain ⟨p, c, rfl⟩ := h1.len
    refine a_ (fun _ => Qe) <| a_ (fun _ => Qd) <| a_ (fun _ => Qd) <| XN ?_
    apply an
    refine zC ?_
    refine cr <| s_ QY <| s_ Qa <| zC ?_
    refine ⟨(i + 1, _), ⟨hix, ?_⟩, by show m.entries.length - (i + 1) < m.entries.length - i; omega, ⟨Qi (by rfl) (Le.refl _), eL⟩, kS kR⟩
    simp only
    rw [hs]
    exact ⟨_, _, Hl', Ho, h1, h2, rfl⟩
   ·refine Eq.trans (zl) ?_
    have e : (min k (((Xb n m i).map een).length : Nat)).toNat = min (min k ((Xb n m i).length : Nat)).toNat ((Xb n m i).map een).length := by rw [List.length_map]; omega
    rw [e]
 ·intro hlt2
  simp only [List.length_map] at hlt2
  have : i = m.entries.length := by omega
  subst this
  have hel : ((m.entries.map een).length : Int) = (m.entries.length : Int) := by simp
  refine zC ?_
  refine cr <| s_ Qu <| s_ Qm <| s_ Qu <| s_ Qm ?_
  (first | refine s_ QP ?_ | refine s_ QO ?_)
  refine s_ QY <| s_ Qb <| zC ?_
  refine ca [0, 1, 2, 3, 4, 5, 6, 7, 8, 9, 10, 11, 12, 13, 14] [14] <| a_ (fun _ => Qa) <| a_ (fun _ => Qa) <| a_ (fun _ => Qe) <| a_ (fun _ => Qd) <| a_ (fun _ => Qd) <| QJ ?_
  refine a_ (fun _ => Qu) <| a_ (fun _ => Qm) <| a_ (fun _ => Qa) <| a_ (fun _ => WU) <| a_ (fun _ => VW) <| a_ (fun _ => Qe) <| a_ (fun _ => Qd) <| a_ (fun _ => Qd) <| XN ?_
  apply an
  refine zC ?_
  refine cr <| s_ Qa <| s_ Qu <| s_ Qm <| s_ Qa ?_
  rw [hel]
  refine QI (FnH.of_le ?_ (ZA m.frm true (m.index + m.entries.length) (by omega) (show WkH b (EX n m) out _ from ⟨_, _, Hl, Ho, h1, h2, rfl⟩))) (fun r H' ⟨hr, h3⟩ => ?_)
  ·exact zM
  ·subst hr
   refine zC ?_
   refine rhn kR ⟨rfl, ?_⟩ (Le.refl _)
   rw [Jv, if_neg hlt, if_neg hlo', if_neg hno']
   exact h3
def VS (n : Nd) (m : Ms) : List En := if (m.index ≤ Qs n ∧ n.base < m.index) ∧ Xe n m.index = m.logTerm then n.log.drop (m.index - n.base).toNat else []
def Ut (n : Nd) (m : Ms) : Nd := { Q3 n with log := VS n m, base := m.index, baseTerm := m.logTerm, baseConf := m.conf, snap := m.snap, commit := m.index }
def J1 (n : Nd) (m : Ms) : Nd × List Ms := if m.term < n.term then (n, [XA n m.frm (YN false 0)]) else
 if n.commit < m.index then (Ut n m, [XA (Ut n m) m.frm (YN true (max m.index n.commit))]) else (Q3 n, [XA (Q3 n) m.frm (YN true (max m.index n.commit))])
theorem Tt {H B : Qc} (h : Qh B []) : Qh (H ++ B) H := by
 induction H with
 | nil => exact h
 | cons p H ih => exact .keep _ _ _ _ _ (Yp.refl _) ih
theorem CM {b : Nat} {n : Nd} {out : List Ms} {H : Qc} (m : Ms) (hn : Bd n) (hi0 : -50000000000 ≤ m.index) (hi1 : m.index ≤ 50000000000) (ho : out.length ≤ 900) (hw : WkH b n out H) :
  FnH Tryz.prog 137 [pW b, ms m] H (fun r H' => r = .tup [] ∧ WkH b (J1 n m).1 (out ++ (J1 n m).2) H') := by
 have hb0 := hn.base0
 have hb1 := hn.base1
 have hlog := hn.log
 have hL := Jl (Q3 n) (by show n.log.length ≤ _; omega) (by show _ ≤ n.base; omega) (by show n.base ≤ _; omega)
 refine fe Tryz.func137 fun S0 w0 => ?_
 show Sim _ _ [(0, pW b), (1, T.agg (msC m (ZG m.entries)))] _ _
 refine zC ?_
 apply cr
 refine X1 fun b3 _ => ?_
 refine zC ?_
 refine Zt 3 (by simp [msC]) ?_
 refine zC ?_
 refine cr <| s_ Qa <| s_ Y6 ?_
 refine QI (Wl m (by omega) hw) (fun r H' ⟨hr, hw⟩ => ?_)
 subst hr
 refine s_ YA <| zC ?_
 refine ci ?_ ?_
 ·intro hc
  have hlt : m.term < n.term := Decidable.not_not.1 hc
  rw [if_pos hlt, if_pos hlt] at hw
  refine zR ?_
  refine rh kR ⟨rfl, ?_⟩ (Le.refl _)
  rw [J1, if_pos hlt]
  exact hw
 intro hc
 have hlt : ¬ m.term < n.term := fun h => hc (fun h' => h' h)
 rw [if_neg hlt, if_neg hlt] at hw
 have hw1 := hw
 obtain ⟨vl, vo, Hl, Ho, h1, h2, rfl⟩ := hw
 obtain ⟨p, c, rfl⟩ := h1.len
 obtain ⟨q, d, rfl⟩ := h2.len
 have hqb : (Q3 n).base = n.base := rfl
 have hcap : (n.log.map een).length ≤ c := OSl.cap h1
 refine zC ?_
 refine cr <| s_ Qa <| s_ Qe <| s_ Qd <| s_ Qd <| s_ Ql <| s_ Qb <| zC ?_
 refine ca [0, 1, 2, 3, 4, 5, 6, 7] [] <| a_ (fun _ => Qu) <| a_ (fun _ => Qm) <| a_ (fun _ => Qa) <| a_ (fun _ => Qe) <| a_ (fun _ => Qd) <| a_ (fun _ => Qd) <| QJ ?_
 refine a_ (fun _ => Yu) ?_
 apply an
 refine zC ?_
 refine ci ?_ ?_
 ·intro hgt
  refine zC ?_
  refine cr <| s_ Qa <| s_ Qe <| s_ Qd <| s_ Xf <| s_ (VX hL (Qg.cons (Qx.agg (QX (Q3 n) (h1.lend (by intro p hp; simp [hp])))) Qg.nil)) ?_
  have hT := Vu (Q3 n) m.index (by show n.log.length ≤ _; omega) (by simp only [big]; show _ ≤ n.base; omega) (by simp only [big]; show n.base ≤ _; omega) (by simp only [big]; omega) (by simp only [big]; omega)
  refine s_ Qa <| s_ QH <| s_ QH <| s_ Qb <| s_ Qb <| zC ?_
  refine cr <| s_ Qb <| zC ?_
  refine ca [0, 1, 2, 3, 4, 5, 6, 7, 8, 9, 10, 11, 12, 13, 14, 15, 16, 17, 18, 19, 20, 21, 22, 23, 24] [] <| a_ (fun _ => Qu) <| a_ (fun _ => Qm) <| a_ (fun _ => Qa) <| a_ (fun _ => Bb) <| a_ (fun _ => Qa) <| QF (fun _ hg => Qu) ?_
  refine QF (fun _ hg => Qm (hx := u_ hg)) ?_
  refine QF (fun _ hg => Qa) ?_
  refine QF (fun _ hg => Qe (hx := u_ hg)) ?_
  refine QF (fun _ hg => Qd (hx := u_ hg)) ?_
  refine QF (fun _ hg => Qd (hx := u_ hg)) ?_
  refine Zz ?_
  refine QF (fun _ hg => Yu (hx := u_ hg) (hy := u_ hg)) ?_
  refine a_ (fun _ => XX) <| a_ (fun _ => Qa) <| QF (fun _ hg => Qa) ?_
  refine QF (fun _ hg => Qe (hx := u_ hg)) ?_
  refine QF (fun _ hg => Qd (hx := u_ hg)) ?_
  refine QF (fun _ hg => Qu) ?_
  refine QF (fun _ hg => Qm (hx := u_ hg)) ?_
  refine A0 (G := (b, _) :: (Hl ++ (Ho ++ []))) (fun _ => hT) (fun _ => Qg.cons (Mf (n := Q3 n) h1 (by intro p hp; simp [hp]) List.mem_cons_self) (Qg.cons (Qx.le (Le.refl _)) Qg.nil)) ⟨[], Vf⟩ ?_ (fun hg => by refine QK (u_ hg) (QK (u_ hg) XE))
  refine QF (fun _ hg => Qu) ?_
  refine QF (fun _ hg => Qm (hx := u_ hg)) ?_
  refine QF (fun _ hg => XF (hx := u_ hg) (hy := u_ hg)) ?_
  refine a_ (fun _ => XX) ?_
  apply an
  refine zC ?_
  refine ci ?_ ?_
  ·intro hr
   have hr' : (m.index ≤ Qs n ∧ n.base < m.index) ∧ Xe n m.index = m.logTerm := hr
   have hrest : VS n m = n.log.drop (m.index - n.base).toNat := by rw [VS, if_pos hr']
   have hlf : Qs n = n.base + n.log.length := rfl
   obtain ⟨lo, hlo⟩ : ∃ lo : Nat, (lo : Int) = m.index - n.base := ⟨(m.index - n.base).toNat, by omega⟩
   have hlol : lo ≤ n.log.length := by omega
   have hs5 := (h1.sle (G := (b, ⟨tW, wkC (Q3 n) (.slice p (n.log.map een).length c) (.slice q (out.map ms).length d), 23⟩) :: (Hl ++ (Ho ++ []))) (by intro p hp; simp [hp]))
   have hs5' := SlE.sub hs5 (lo := lo) (hi := n.log.length) hlol (Nat.le_refl _)
   rw [List.take_of_length_le (by simp [Q3])] at hs5'
   obtain ⟨p5, c5, e5, hc5, hl5⟩ := hs5'
   refine zC ?_
   refine ca [0, 1, 2, 3, 4, 5, 6, 7, 8, 9, 10, 11, 12, 13, 14] [] <| a_ (fun _ => Qa) <| a_ (fun _ => Qe) <| a_ (fun _ => Qd) <| a_ (fun _ => Qd) <| QJ ?_
   refine a_ (fun _ => Qu) <| a_ (fun _ => Qm) <| a_ (fun _ => Qa) <| a_ (fun _ => Qe) <| a_ (fun _ => Qd) <| a_ (fun _ => Qd) <| QJ ?_
   refine a_ (fun _ => Zp) ?_
   rw [hqb, ← hlo]
   refine a_ (fun _ => Ii (v := .slice p5 (n.log.drop lo).length c5) hcap (by rw [List.length_map, Int.toNat_natCast]; exact e5)) <| a_ (fun _ => Qb) ?_
   apply an
   refine zC ?_
   have hrl : VS n m = n.log.drop lo := by rw [hrest, ← hlo, Int.toNat_natCast]
   refine zC ?_
   refine cr <| s_ Qa <| s_ Qa ?_
   refine Cd (Zw false (n.log.drop lo) (by first | (simp; done) | (simp; omega))) (Qg.cons ((e5 ▸ hl5)) Qg.nil) OE.of ?_
   rintro r H1 ⟨v, rfl, ho⟩
   obtain ⟨p8, c8, rfl⟩ := ho.len
   refine QA (List.perm_middle) ?_
   refine s_ Qe <| s_ Qd <| s_ Qd <| Qz ?_
   refine zC ?_
   refine ca [0, 1, 2, 3, 4, 5, 6, 7, 8, 9, 10, 11, 12, 13, 14, 15, 16, 17, 18, 19, 20, 21, 22, 23, 24, 25, 26, 27, 28, 29, 30, 31, 32, 33, 34] [18, 22, 26, 30, 34] <| a_ (fun _ => Qa) <| a_ (fun _ => Qa) <| a_ (fun _ => Qa) <| a_ (fun _ => Qa) <| a_ (fun _ => Qa) <| a_ (fun _ => Qu) <| a_ (fun _ => Qm) <| a_ (fun _ => Qu) <| a_ (fun _ => Qm) <| a_ (fun _ => Qu) <| a_ (fun _ => Qm) <| a_ (fun _ => Qu) <| a_ (fun _ => Qm) <| a_ (fun _ => Qu) <| a_ (fun _ => Qm) <| a_ (fun _ => Qe) <| a_ (fun _ => Qd) <| a_ (fun _ => Qd) <| XN ?_
   refine a_ (fun _ => Qe) <| a_ (fun _ => Qd) <| a_ (fun _ => Qd) <| XN ?_
   refine a_ (fun _ => Qe) <| a_ (fun _ => Qd) <| a_ (fun _ => Qd) <| XN ?_
   refine a_ (fun _ => Qe) <| a_ (fun _ => Qd) <| a_ (fun _ => Qd) <| XN ?_
   refine a_ (fun _ => Qe) <| a_ (fun _ => Qd) <| a_ (fun _ => Qd) <| XN ?_
   apply an
   refine zC ?_
   refine cr <| s_ Qa <| s_ Qu <| s_ Qm <| s_ Qu <| s_ Qm <| s_ Qa <| s_ VW ?_
   refine Q2 (Hs := (b, _) :: (H1 ++ (Ho ++ []))) (Hr := Hl) (FnH.of_le ?_ (ZA m.frm true (max m.index n.commit) (by omega) (show WkH b (Ut n m) out ((b, ⟨tW, wkC (Ut n m) (.slice p8 _ c8) (.slice q (out.map ms).length d), 23⟩) :: (H1 ++ (Ho ++ []))) from ⟨_, _, H1, Ho, (by rw [show (Ut n m).log = n.log.drop lo from hrl]; exact ho), h2, rfl⟩))) ?_ (fun r H' ⟨hr, h3⟩ => ?_)
   ·exact zM
   ·refine .cons _ ?_
    show List.Perm _ ((H1 ++ (Ho ++ [])) ++ Hl)
    rw [List.append_assoc]
    refine .append_left _ ?_
    exact List.perm_append_comm
   ·subst hr
    refine zC ?_
    refine rhn (H' := H') (Tt kN) ⟨rfl, ?_⟩ (Le.refl _)
    have hgt' : n.commit < m.index := hgt
    rw [J1, if_neg hlt, if_pos hgt']
    exact h3
  ·intro hr
   have hr' : ¬ ((m.index ≤ Qs n ∧ n.base < m.index) ∧ Xe n m.index = m.logTerm) := hr
   have hrl : VS n m = [] := by rw [VS, if_neg hr']
   refine zC ?_
   refine cr <| s_ Qa <| s_ Qa ?_
   refine Cd (Zw false [] (by first | (simp; done) | (simp; omega))) (Qg.cons (Qx.le (Le.nil _)) Qg.nil) OE.of ?_
   rintro r H1 ⟨v, rfl, ho⟩
   obtain ⟨p8, c8, rfl⟩ := ho.len
   refine QA (List.perm_middle) ?_
   refine s_ Qe <| s_ Qd <| s_ Qd <| Qz ?_
   refine zC ?_
   refine ca [0, 1, 2, 3, 4, 5, 6, 7, 8, 9, 10, 11, 12, 13, 14, 15, 16, 17, 18, 19, 20, 21, 22, 23, 24, 25, 26, 27, 28, 29, 30, 31, 32, 33, 34] [18, 22, 26, 30, 34] <| a_ (fun _ => Qa) <| a_ (fun _ => Qa) <| a_ (fun _ => Qa) <| a_ (fun _ => Qa) <| a_ (fun _ => Qa) <| a_ (fun _ => Qu) <| a_ (fun _ => Qm) <| a_ (fun _ => Qu) <| a_ (fun _ => Qm) <| a_ (fun _ => Qu) <| a_ (fun _ => Qm) <| a_ (fun _ => Qu) <| a_ (fun _ => Qm) <| a_ (fun _ => Qu) <| a_ (fun _ => Qm) <| a_ (fun _ => Qe) <| a_ (fun _ => Qd) <| a_ (fun _ => Qd) <| XN ?_
   refine a_ (fun _ => Qe) <| a_ (fun _ => Qd) <| a_ (fun _ => Qd) <| XN ?_
   refine a_ (fun _ => Qe) <| a_ (fun _ => Qd) <| a_ (fun _ => Qd) <| XN ?_
   refine a_ (fun _ => Qe) <| a_ (fun _ => Qd) <| a_ (fun _ => Qd) <| XN ?_
   refine a_ (fun _ => Qe) <| a_ (fun _ => Qd) <| a_ (fun _ => Qd) <| XN ?_
   apply an
   refine zC ?_
   refine cr <| s_ Qa <| s_ Qu <| s_ Qm <| s_ Qu <| s_ Qm <| s_ Qa <| s_ VW ?_
   refine Q2 (Hs := (b, _) :: (H1 ++ (Ho ++ []))) (Hr := Hl) (FnH.of_le ?_ (ZA m.frm true (max m.index n.commit) (by omega) (show WkH b (Ut n m) out ((b, ⟨tW, wkC (Ut n m) (.slice p8 _ c8) (.slice q (out.map ms).length d), 23⟩) :: (H1 ++ (Ho ++ []))) from ⟨_, _, H1, Ho, (by rw [show (Ut n m).log = [] from hrl]; exact ho), h2, rfl⟩))) ?_ (fun r H' ⟨hr, h3⟩ => ?_)
   ·exact zM
   ·refine .cons _ ?_
    show List.Perm _ ((H1 ++ (Ho ++ [])) ++ Hl)
    rw [List.append_assoc]
    refine .append_left _ ?_
    exact List.perm_append_comm
   ·subst hr
    refine zC ?_
    refine rhn (H' := H') (Tt kN) ⟨rfl, ?_⟩ (Le.refl _)
    have hgt' : n.commit < m.index := hgt
    rw [J1, if_neg hlt, if_pos hgt']
    exact h3
 ·intro hgt
  refine zC ?_
  refine cr <| s_ Qa <| s_ Qu <| s_ Qm <| s_ Qu <| s_ Qm <| s_ Qa <| s_ VW ?_
  refine QI (FnH.of_le ?_ (ZA m.frm true (max m.index n.commit) (by omega) hw1)) (fun r H' ⟨hr, h3⟩ => ?_)
  ·exact zM
  ·subst hr
   refine zC ?_
   refine rhn kR ⟨rfl, ?_⟩ (Le.refl _)
   have hgt' : ¬ n.commit < m.index := hgt
   rw [J1, if_neg hlt, if_neg hgt']
   exact h3
end Go.Proofs.YtjbokbikkcfjjaaGreat
