/-
  replica: what most members hold is committed.
-/
import Derived.Test.YtjbokbikkcfjjaaGreatAao
set_option maxRecDepth 16000
set_option maxHeartbeats 8000000
set_option linter.all false
namespace Go.Proofs.YtjbokbikkcfjjaaGreat
open Go.Cap
attribute [local irreducible] POp Qe AD EOp Sim FnH T.gp
def Zq (f : F5) (idx : Int) : Nat → Int
 | 0 => 0
 | k + 1 => Zq f idx k + (if idx ≤ f.get k then 2 ^ k else 0)
theorem W6 (f : F5) (idx : Int) : ∀ k, 0 ≤ Zq f idx k ∧ Zq f idx k < 2 ^ k
 | 0 => by simp [Zq]
 | k + 1 => by
  have := W6 f idx k
  rw [Zq, Int.pow_succ]
  split <;> omega
theorem Iw {x : Int} : ∀ {k : Nat}, k < 5 → 0 ≤ x → x < 2 ^ k → bOr .i64 x (Zh .i64 1 (IntKind.u64.wrap k)) = x + 2 ^ k := by
 have key : ∀ k : Fin 5, ∀ i : Fin 32, (i.val : Int) < 2 ^ k.val → bOr .i64 i.val (Zh .i64 1 (IntKind.u64.wrap (k.val : Nat))) = i.val + 2 ^ k.val := by decide
 intro k hk h0 h1
 have h2 : (2 : Int) ^ k ≤ 16 := by
  rcases (by omega : k = 0 ∨ k = 1 ∨ k = 2 ∨ k = 3 ∨ k = 4) with rfl | rfl | rfl | rfl | rfl <;> decide
 obtain ⟨i, rfl⟩ := EG h0 (by omega)
 exact key ⟨k, hk⟩ i h1
def f5C (f : F5) : List T := [ei f.a, ei f.b, ei f.c, ei f.d, ei f.e]
theorem Ae (f : F5) {k : Nat} (hk : k < 5) : (f5C f)[(k : Int).toNat]? = some (ei (f.get k)) := by
 rcases (by omega : k = 0 ∨ k = 1 ∨ k = 2 ∨ k = 3 ∨ k = 4) with rfl | rfl | rfl | rfl | rfl <;> rfl
def Yr (n : Nd) (conf : Int) : Nat → Int
 | 0 => n.commit
 | k + 1 => if (n.log.getD k default).term = n.term ∧ UV conf (Zq n.mtch (n.base + k + 1) 5) then max (Yr n conf k) (n.base + k + 1) else Yr n conf k
def Q4 (n : Nd) : Nd :=
 if ¬ isF (QM n).2 n.id ∧ (QM n).1 ≤ Yr n (QM n).2 n.log.length then { n with commit := Yr n (QM n).2 n.log.length, role := 0, wait := 0 } else { n with commit := Yr n (QM n).2 n.log.length }
theorem EI (l : List En) {k : Nat} (h : k < l.length) : (l.map een)[k]? = some (een (l.getD k default)) := by simp [h]
theorem Rr (conf id : Int) (h0 : 0 ≤ id) (h1 : id < 5) (h2 : 0 ≤ conf) (h3 : conf ≤ 31) : FnP Tryz.prog 107 [ei conf, ei id] (fun r => r = .v (.bool (decide (isF conf id = true)))) := by
 have := CU conf id h0 h1 h2 h3
 simpa [eB] using this
theorem UF {b : Nat} {n : Nd} {out : List Ms} {H : Qc} (hn : Bd n) (hw : WkH b n out H) :
  FnH Tryz.prog 144 [pW b] H (fun r H' => r = .tup [] ∧ WkH b (Q4 n) out H') := by
 have hC := EL n (by have := hn.log; omega) (by have := hn.base0; omega) (by have := hn.base1; omega)
 have hlog := hn.log
 have hb0 := hn.base0
 have hb1 := hn.base1
 refine fe Tryz.func144 fun S0 w0 => ?_
 show Sim _ _ [(0, pW b)] _ _
 obtain ⟨vl, vo, Hl, Ho, h1, h2, rfl⟩ := hw
 obtain ⟨p, c, rfl⟩ := h1.len
 obtain ⟨q, d, rfl⟩ := h2.len
 refine zC ?_
 refine cr <| s_ Qa <| s_ Qf <| s_ Qd <| s_ (Vt hC (Qg.cons (Lt h1 (by intro p hp; simp [hp]) List.mem_cons_self) Qg.nil)) <| s_ Qa <| s_ QC <| s_ QC <| s_ Qb <| s_ Qb <| zC ?_
 refine cr <| s_ Qa <| s_ Qf <| s_ Qd <| s_ Qd <| s_ Ql ?_
 (first | refine s_ QP ?_ | refine s_ QO ?_)
 refine s_ Qa <| zC ?_
 have hc0 := hn.conf0
 have hc1 := hn.conf1
 generalize hcf : (QM n).2 = conf at hc0 hc1 ⊢
 generalize hat : (QM n).1 = at_
 apply Qo (σ := Nat) (ok := fun k => k ≤ n.log.length) (env := fun k => [(23, ei (k : Nat)), (22, ei ((n.log.map een).length : Nat)), (21, .v (.slice p (n.log.map een).length c)), (2, ei at_), (3, ei conf), (0, pW b)])
  (heap := fun k => (b, ⟨tW, wkC { n with commit := Yr n conf k } (.slice p (n.log.map een).length c) (.slice q (out.map ms).length d), 23⟩) :: (Hl ++ (Ho ++ []))) (μ := fun k => n.log.length - k) (s0 := 0)
 ·exact Nat.zero_le _
 ·exact eL
 ·exact kR
 intro k hk
 refine zC ?_
 refine cr <| s_ QR <| zC ?_
 refine ci ?_ ?_
 ·intro hlt
  simp only [List.length_map] at hlt
  have hkl : k < n.log.length := by omega
  have hrow : ∃ bl, p = some ⟨bl, 0, none⟩ ∧ Hl = [(bl, (⟨tE, (n.log.map een).flatMap T.cells, c * 3⟩ : Blk))] := by
   rcases h1 with ⟨h, _⟩ | ⟨bl, c', e, _, rfl⟩
   ·have : n.log = [] := by simpa using h
    rw [this] at hkl; simp at hkl
   ·cases e; exact ⟨bl, rfl, rfl⟩
  obtain ⟨bl, rfl, rfl⟩ := hrow
  refine zC ?_
  refine cr <| s_ Qa ?_
  (first | refine s_ (Xg hix) ?_ | refine s_ (Xg hix2) ?_ | refine s_ YK ?_ | refine s_ ZK ?_)
  refine s_ (Q7 (hc := Xl.flat (DI n.log) (EI n.log hkl))) ?_
  refine XX fun b5 _ => ?_
  refine s_ Qb <| Qw ?_
  refine zC ?_
  refine cr <| s_ Qa <| s_ Qf <| s_ Qd <| s_ Qd <| s_ Ql <| s_ Qa <| s_ Q0 <| s_ Q0 <| s_ Qb <| s_ Qb <| zC ?_
  refine cr <| s_ Qa <| s_ Qf <| s_ Qd <| s_ Qd <| s_ Q7 <| s_ Qa <| zC ?_
  apply Qo (σ := Nat) (ok := fun j => j ≤ 5) (env := fun j => [(41, ei (j : Nat)), (40, .agg (f5C n.mtch)), (7, ei (Zq n.mtch (n.base + k + 1) j)), (6, ei (n.base + k + 1)), (5, .v (.pointer (some ⟨b5, 0, none⟩))), (23, ei (k : Nat)), (22, ei ((n.log.map een).length : Nat)), (21, .v (.slice (some ⟨bl, 0, none⟩) (n.log.map een).length c)), (2, ei at_), (3, ei conf), (0, pW b)])
   (heap := fun _ => (b5, ⟨tE, (een (n.log.getD k default)).cells, 3⟩) :: (b, ⟨tW, wkC { n with commit := Yr n conf k } (.slice (some ⟨bl, 0, none⟩) (n.log.map een).length c) (.slice q (out.map ms).length d), 23⟩) :: ([(bl, (⟨tE, (n.log.map een).flatMap T.cells, c * 3⟩ : Blk))] ++ (Ho ++ []))) (μ := fun j => 5 - j) (s0 := 0)
  ·exact Nat.zero_le _
  ·exact eL
  ·exact kR
  ·intro j hj
   refine zC ?_
   refine cr <| s_ QR <| zC ?_
   refine ci ?_ ?_
   ·intro hj5
    have hj5' : j < 5 := by omega
    have ix_a := Ae n.mtch hj5'
    have hbd := W6 n.mtch (n.base + k + 1) j
    have hwj := Jf (x := (j : Nat)) (by omega) (by omega)
    have hor := Iw hj5' hbd.1 hbd.2
    refine zC ?_
    refine cr <| s_ Qa <| s_ (AI (by first | exact ix_a | rfl)) <| s_ Qb <| s_ Qb <| zC ?_
    refine cr <| s_ Qa <| s_ Qa <| s_ U0 <| zC ?_
    refine ci ?_ ?_
    ·intro hge
     have hs : Zq n.mtch (n.base + k + 1) (j + 1) = bOr .i64 (Zq n.mtch (n.base + k + 1) j) (Zh .i64 1 (IntKind.u64.wrap j)) := by rw [hor, Zq, if_pos hge]
     refine zC ?_
     refine cr <| s_ Qa <| s_ Qa <| s_ Ya <| s_ Ue <| s_ UU <| s_ Qb <| zC ?_
     refine cr <| s_ Q0 <| s_ Qa <| zC ?_
     exact ⟨j + 1, by omega, by show 5 - (j + 1) < 5 - j; omega, ⟨Qi (by rfl) (Le.refl _), Qi (by (exact zG)) (Le.refl _), Qi (by (exact zG)) (Le.of_eq (by rw [hs]; rfl)), eL⟩, kR⟩
    ·intro hge
     have hs : Zq n.mtch (n.base + k + 1) (j + 1) = Zq n.mtch (n.base + k + 1) j := by rw [Zq, if_neg hge]; omega
     refine zC ?_
     refine cr <| s_ Q0 <| s_ Qa <| zC ?_
     exact ⟨j + 1, by omega, by show 5 - (j + 1) < 5 - j; omega, ⟨Qi (by rfl) (Le.refl _), Qi (by (exact zG)) (Le.refl _), Qi (by (exact zG)) (Le.of_eq (by rw [hs])), eL⟩, kR⟩
   ·intro hj5
    have : j = 5 := by omega
    subst this
    have hm5 := W6 n.mtch (n.base + k + 1) 5
    have hmost := Lw conf (Zq n.mtch (n.base + k + 1) 5) hm5.1 (by omega) hc0 hc1
    refine zC ?_
    refine ca [0, 1, 2, 3, 4, 5, 6, 7, 8, 9, 10, 11, 12] [] <| a_ (fun _ => Qd) <| QF ?_
    refine a_ (fun _ => Qa) <| a_ (fun _ => Qf) <| a_ (fun _ => Qd) <| a_ (fun _ => Qd) <| QF ?_
    refine a_ (fun _ => XB) <| a_ (fun _ => Qa) <| Qz (fun _ hg => Qa) ?_
    refine Qz (fun _ hg => Qa) ?_
    refine Qz (fun _ hg => QK (hmost) (ha' := by apply QQ (u_ hg); apply QQ (u_ hg); exact XS)) ?_
    refine a_ (fun _ => XW) ?_
    apply an
    refine zC ?_
    refine ci ?_ ?_
    ·intro hc
     refine zC ?_
     refine cr <| s_ Qa <| s_ Qa <| s_ Qf <| s_ Qd <| s_ Qd <| s_ Ql <| s_ Qa <| s_ Lp <| s_ Qf <| s_ Qd <| s_ Qd <| Qw ?_
     refine zC ?_
     refine cr <| s_ Q0 <| s_ Qa <| zC ?_
     refine ⟨k + 1, by omega, by show n.log.length - (k + 1) < n.log.length - k; omega, ⟨Qi (by rfl) (Le.refl _), eL⟩, ?_⟩
     have hs : Yr n conf (k + 1) = max (Yr n conf k) (n.base + k + 1) := by rw [Yr, if_pos ⟨hc.1, decide_eq_true hc.2⟩]
     dsimp only
     rw [hs]
     exact kS kR
    ·intro hc
     refine zC ?_
     refine cr <| s_ Q0 <| s_ Qa <| zC ?_
     refine ⟨k + 1, by omega, by show n.log.length - (k + 1) < n.log.length - k; omega, ⟨Qi (by rfl) (Le.refl _), eL⟩, ?_⟩
     have hs : Yr n conf (k + 1) = Yr n conf k := by rw [Yr, if_neg fun h => hc ⟨h.1, of_decide_eq_true h.2⟩]
     dsimp only
     rw [hs]
     exact kS kR
 ·intro hlt
  simp only [List.length_map] at hlt
  have : k = n.log.length := by omega
  subst this
  have hi := Rr conf n.id hn.id0 hn.id5 hc0 hc1
  refine zC ?_
  refine cr <| s_ Qa <| s_ Qa <| s_ Qf <| s_ Qd <| s_ Qd <| s_ Ql <| s_ (QK (hi)) <| s_ YE <| s_ Qa <| gT (fun hg => Qa) ?_
  refine gT (fun hg => Qa) ?_
  refine gT (fun hg => Qf (hx := u_ hg)) ?_
  refine gT (fun hg => Qd (hx := u_ hg)) ?_
  refine gT (fun hg => Qd (hx := u_ hg)) ?_
  refine gT (fun hg => Ql (hx := u_ hg)) ?_
  refine gT (fun hg => IX (hx := u_ hg) (hy := u_ hg)) ?_
  refine s_ XW <| zC ?_
  refine ci ?_ ?_
  ·intro hc
   refine zC ?_
   refine cr <| s_ Qa <| s_ Qa <| s_ Qf <| s_ Qd <| s_ Qd <| Qw ?_
   refine s_ Qf <| s_ Qd <| s_ Qd <| Qw ?_
   refine zC ?_
   refine rhn kR ⟨rfl, ?_⟩ (Le.refl _)
   have e : Q4 n = { n with commit := Yr n conf n.log.length, role := 0, wait := 0 } := by rw [Q4, hcf, hat, if_pos hc]
   rw [e]
   exact ⟨_, _, Hl, Ho, h1, h2, rfl⟩
  ·intro hc
   refine zC ?_
   refine rhn kR ⟨rfl, ?_⟩ (Le.refl _)
   have e : Q4 n = { n with commit := Yr n conf n.log.length } := by rw [Q4, hcf, hat, if_neg hc]
   rw [e]
   exact ⟨_, _, Hl, Ho, h1, h2, rfl⟩
def VP (f : F5) (v : Int) : Nat → F5
 | 0 => f
 | k + 1 => (VP f v k).set k v
def Jq (n : Nd) : Nd := { n with role := 2, log := n.log ++ [⟨n.term, 0, []⟩], next := .all (n.base + (n.log.length + 1)), mtch := (F5.all 0).set n.id.toNat (n.base + (n.log.length + 1)) }
def Xu (n : Nd) : Nd := Q4 (Jq n)
theorem LB (l : List En) (e : En) : ∀ k, k ≤ l.length → lc (l ++ [e]) k = lc l k
 | 0, _ => rfl
 | k + 1, h => by
  have hk : k < l.length := by omega
  have : (l ++ [e]).getD k default = l.getD k default := by simp [List.getD_eq_getElem?_getD, List.getElem?_append_left hk]
  rw [lc, lc, this, LB l e k (by omega)]
theorem R8 (n : Nd) (e : En) (he : e.conf = 0) (r : Int) (f g : F5) : QM { n with role := r, log := n.log ++ [e], next := f, mtch := g } = QM n := by
 have h1 : lc (n.log ++ [e]) (n.log ++ [e]).length = lc n.log n.log.length := by
  rw [List.length_append, List.length_singleton, lc]
  have : (n.log ++ [e]).getD n.log.length default = e := by simp [List.getD_eq_getElem?_getD]
  rw [this, if_neg (by simpa using he), LB _ _ _ (Nat.le_refl _)]
 simp only [QM, h1]
theorem VY (n : Nd) : ∃ c r w, Q4 n = { n with commit := c, role := r, wait := w } := by
 unfold Q4
 split <;> exact ⟨_, _, _, rfl⟩
theorem Bd.commit {n : Nd} (h : Bd n) : Bd (Q4 n) := by
 obtain ⟨c, r, w, e⟩ := VY n
 rw [e]
 exact ⟨h.id0, h.id5, h.log, h.base0, h.base1, h.conf0, h.conf1⟩
theorem Bd.lead {n : Nd} (h : Bd n) (hl : n.log.length < 100000000) : Bd (Jq n) := by
 have hc : QM (Jq n) = QM n := R8 n _ rfl _ _ _
 exact ⟨h.id0, h.id5, by simp [Jq]; omega, h.base0, h.base1, by rw [hc]; exact h.conf0, by rw [hc]; exact h.conf1⟩
theorem Ze (v : Int) : (ei v).cells.length = 1 := rfl
theorem ZU (n : Nd) (vl vo : Value) : (wkC n vl vo).length = 23 := rfl
theorem GC {n : Nd} {vl vo : Value} {k : Nat} (hk : k < 5) (v : Int) : lay (wkC n vl vo) (0 + 0 + 12 + (k : Int).toNat * 1) (T.v (.int .i64 v)).cells = wkC { n with next := n.next.set k v } vl vo := by
 rcases (by omega : k = 0 ∨ k = 1 ∨ k = 2 ∨ k = 3 ∨ k = 4) with rfl | rfl | rfl | rfl | rfl <;> rfl
theorem GD {n : Nd} {vl vo : Value} {k : Nat} (hk : k < 5) (v : Int) : lay (wkC n vl vo) (0 + 0 + 17 + (k : Int).toNat * 1) (T.v (.int .i64 v)).cells = wkC { n with mtch := n.mtch.set k v } vl vo := by
 rcases (by omega : k = 0 ∨ k = 1 ∨ k = 2 ∨ k = 3 ∨ k = 4) with rfl | rfl | rfl | rfl | rfl <;> rfl
theorem Eh {b : Nat} {n : Nd} {out : List Ms} {H : Qc} (hn : Bd n) (hx : ∀ i, n.next.get i ≤ 100000000000) (ho : out.length ≤ 900) (hw : WkH b n out H) :
  FnH Tryz.prog 104 [pW b, .clo 105 [pW b] []] H (fun r H' => r = .tup [] ∧ WkH b n (out ++ Yb n (Jc n) 5) H') := by
 have hO := WA (Hc := []) (Jc n) 105 [pW b] [] (by rfl) hn ho hw (fun to out' H2 h0 h5 ho2 hw2 => by
  have := O4 to h0 h5 (by have := hn.log; omega) (by have := hn.base0; omega) (by have := hn.base1; omega) (hx _) (by omega) hw2
  have := this.mono (Φ' := fun _ H' => ∃ H1, H' = H1 ++ [] ∧ WkH b n (out' ++ [Jc n to]) H1) fun r H' h => ⟨H', by simp, h.2⟩
  rw [← List.append_nil H2] at this
  exact this)
 rw [List.append_nil] at hO
 exact hO.mono fun r H' ⟨h1, H1, h2, h3⟩ => ⟨h1, by rw [h2, List.append_nil]; exact h3⟩
theorem F5.get_all (v : Int) (i : Nat) : (F5.all v).get i = v := by
 unfold F5.get F5.all
 split <;> rfl
theorem Dv {n : Nd} {i : Nat} : (Xu n).next.get i = n.base + (n.log.length + 1) := by
 obtain ⟨c, r, w, e⟩ := VY (Jq n)
 rw [Xu, e]
 exact F5.get_all _ _
theorem Em {b : Nat} {n : Nd} {out : List Ms} {H : Qc} (hn : Bd n) (hl : n.log.length < 100000000) (ho : out.length ≤ 900) (hw : WkH b n out H) :
  FnH Tryz.prog 147 [pW b] H (fun r H' => r = .tup [] ∧ WkH b (Xu n) (out ++ Yb (Xu n) (Jc (Xu n)) 5) H') := by
 have hb0 := hn.base0
 have hb1 := hn.base1
 have hi0 := hn.id0
 have hi5 := hn.id5
 refine fe Tryz.func147 fun S0 w0 => ?_
 show Sim _ _ [(0, pW b)] _ _
 obtain ⟨vl, vo, Hl, Ho, h1, h2, rfl⟩ := hw
 obtain ⟨p, c, rfl⟩ := h1.len
 obtain ⟨q, d, rfl⟩ := h2.len
 refine zC ?_
 refine cr <| s_ Qa <| s_ Qf <| s_ Qd <| s_ Qd <| Qw ?_
 refine zC ?_
 refine zC ?_
 refine ca [0, 1, 2, 3, 4, 5, 6, 7, 8, 9, 10, 11, 12, 13, 14, 15, 16, 17] [13, 17] <| a_ (fun _ => Qa) <| a_ (fun _ => Qa) <| a_ (fun _ => Qf) <| a_ (fun _ => Qd) <| a_ (fun _ => Qd) <| QF ?_
 refine a_ (fun _ => Qa) <| a_ (fun _ => Qf) <| a_ (fun _ => Qd) <| a_ (fun _ => Qd) <| QF ?_
 refine a_ (fun _ => Zv 3 [_, _, _]) <| a_ (fun _ => Z0) ?_
 refine BH (ho := h1) (A := [_]) (B := Ho ++ []) (DI n.log) (fun v' Hl' h1' => ⟨zd, ?_⟩)
 refine zD ?_
 have h1 : OE (n.log ++ [⟨n.term, 0, []⟩]) v' Hl' := by unfold OE; rw [List.map_append]; exact h1'
 clear h1'
 obtain ⟨p, c, rfl⟩ := h1.len
 refine a_ (fun _ => Qf) <| a_ (fun _ => Qd) <| a_ (fun _ => Qd) <| XH ?_
 apply an
 refine zC ?_
 have hL := Z3 { n with role := 2, log := n.log ++ [⟨n.term, 0, []⟩] } (by simp; omega) (by simp only; omega) (by simp only; omega)
 refine zC ?_
 refine cr <| s_ Qa <| s_ Qf <| s_ Qd <| s_ Q7 <| s_ (Vt hL (Qg.cons (Qu.agg (QS _ (h1.lend (by intro p hp; simp [hp])))) Qg.nil)) <| s_ Qa <| s_ QC <| s_ QC <| s_ Qb <| s_ Qb <| zC ?_
 refine cr <| s_ Qa <| zC ?_
 have hLF : QW { n with role := 2, log := n.log ++ [⟨n.term, 0, []⟩] } = n.base + (n.log.length + 1) := by simp [QW]
 rw [hLF]
 generalize hv : n.base + (n.log.length + 1) = v
 apply Qo (σ := Nat) (ok := fun k => k ≤ 5) (env := fun k => [(34, ei (k : Nat)), (2, ei v), (0, pW b)])
  (heap := fun k => (b, ⟨tW, wkC { n with role := 2, log := n.log ++ [⟨n.term, 0, []⟩], next := VP n.next v k, mtch := VP n.mtch 0 k } (.slice p ((n.log ++ [(⟨n.term, 0, []⟩ : En)]).map een).length c) (.slice q (out.map ms).length d), 23⟩) :: (Hl' ++ (Ho ++ []))) (μ := fun k => 5 - k) (s0 := 0)
 ·exact Nat.zero_le _
 ·exact eL
 ·exact kR
 ·intro k hk
  refine zC ?_
  refine cr <| s_ QR <| zC ?_
  refine ci ?_ ?_
  ·intro hlt
   have hk5 : k < 5 := by omega
   refine zC ?_
   refine cr <| s_ Qa <| s_ Qb <| zC ?_
   refine ca [0, 1, 2, 3, 4, 5, 6, 7, 8, 10, 11, 12, 9, 13, 14] [9, 14] <| a_ (fun _ => Qa) <| a_ (fun _ => Qa) <| a_ (fun _ => Qa) <| a_ (fun _ => Qa) <| a_ (fun _ => Qa) <| a_ (fun _ => Qf) <| a_ (fun _ => Qd) <| a_ (fun _ => Qd) <| a_ (fun _ => YQ) <| a_ (fun _ => Qf) <| a_ (fun _ => Qd) <| a_ (fun _ => Qd) ?_
   refine DU ?_ ?_
   ·simp only [ZU, Ze]; omega
   refine a_ (fun _ => YQ) ?_
   refine DU ?_ ?_
   ·simp only [ZU, Ze, I6, Value.cells, T.cells, List.length_map]; simp; omega
   apply an
   refine zC ?_
   refine cr <| s_ Q0 <| s_ Qa <| zC ?_
   refine ⟨k + 1, by omega, by show 5 - (k + 1) < 5 - k; omega, ⟨Qi (by rfl) (Le.refl _), eL⟩, ?_⟩
   show Qh ((b, ⟨_, lay (lay _ _ (T.v (.int .i64 v)).cells) _ (T.v (.int .i64 0)).cells, _⟩) :: _) _
   rw [GC hk5, GD hk5]
   exact kR
  ·intro hlt
   have : k = 5 := by omega
   subst this
   refine zC ?_
   refine ca [0, 1, 2, 3, 4, 5, 6, 7, 8, 9, 10, 11] [11] <| a_ (fun _ => Qa) <| a_ (fun _ => Qa) <| a_ (fun _ => Qf) <| a_ (fun _ => Qd) <| a_ (fun _ => Qd) <| QF ?_
   refine a_ (fun _ => Qa) <| a_ (fun _ => Qf) <| a_ (fun _ => Qd) <| a_ (fun _ => Qd) <| a_ (fun _ => YQ) ?_
   refine DU ?_ ?_
   ·simp only [ZU, Ze]; omega
   apply an
   refine zC ?_
   have hm : lay (wkC { n with role := 2, log := n.log ++ [⟨n.term, 0, []⟩], next := VP n.next v 5, mtch := VP n.mtch 0 5 } (.slice p ((n.log ++ [(⟨n.term, 0, []⟩ : En)]).map een).length c) (.slice q (out.map ms).length d)) (0 + 0 + 17 + n.id.toNat * 1) (ei v).cells = wkC (Jq n) (.slice p ((n.log ++ [(⟨n.term, 0, []⟩ : En)]).map een).length c) (.slice q (out.map ms).length d) := by
    obtain ⟨i, hi⟩ : ∃ i : Nat, n.id = (i : Int) := ⟨n.id.toNat, by omega⟩
    rw [Jq, hv, hi]
    rcases (by omega : i = 0 ∨ i = 1 ∨ i = 2 ∨ i = 3 ∨ i = 4) with rfl | rfl | rfl | rfl | rfl <;> rfl
   have hw : WkH b (Jq n) out ((b, ⟨tW, lay (wkC { n with role := 2, log := n.log ++ [⟨n.term, 0, []⟩], next := VP n.next v 5, mtch := VP n.mtch 0 5 } (.slice p ((n.log ++ [(⟨n.term, 0, []⟩ : En)]).map een).length c) (.slice q (out.map ms).length d)) (0 + 0 + 17 + n.id.toNat * 1) (ei v).cells, 23⟩) :: (Hl' ++ (Ho ++ []))) := by
    rw [hm]
    exact ⟨_, _, Hl', Ho, h1, h2, rfl⟩
   have hnl := hn.lead hl
   have hnc := hnl.commit
   refine zC ?_
   refine cr <| s_ Qa ?_
   refine QJ (UF hnl hw) (fun r H' ⟨hr, hw'⟩ => ?_)
   subst hr
   refine zC ?_
   refine cr <| s_ Qa <| s_ Qa <| s_ Uf ?_
   refine QJ (Eh hnc (fun i => by have := Dv (n := n) (i := i); unfold Xu at this; rw [this]; omega) ho hw') (fun r H' ⟨hr, hw''⟩ => ?_)
   subst hr
   refine zC ?_
   exact rhn kR ⟨rfl, hw''⟩ (Le.refl _)
def Oc (idx term : Int) : Ms := ⟨1, 0, 0, 0, idx, term, 0, 0, false, [], []⟩
def Q8 (n : Nd) : Nd := { n with role := 1, vote := n.id, wait := 0, term := n.term + 1, votes := 2 ^ n.id.toNat }
def YI (n : Nd) : Nd × List Ms := if UV (QM n).2 (2 ^ n.id.toNat) then (Xu (Q8 n), Yb (Xu (Q8 n)) (Jc (Xu (Q8 n))) 5)
 else (Q8 n, Yb (Q8 n) (fun to => X4 (Q8 n) to (Oc (QW n) (Yi n (QW n)))) 5)
theorem Bz {b b1 b2 b3 : Nat} {n : Nd} {out : List Ms} {H : Qc} (to idx term : Int) (hb : out.length ≤ 1000) (hw : WkH b n out H) :
  FnH Tryz.prog 148 ([] ++ [ei to] ++ [pW b1, pW b2, pW b3]) (H ++ [(b3, ⟨3, [ei term], 1⟩), (b2, ⟨3, [ei idx], 1⟩), (b1, ⟨164, [pW b], 1⟩)])
   (fun _ H' => ∃ H1, H' = H1 ++ [(b3, ⟨3, [ei term], 1⟩), (b2, ⟨3, [ei idx], 1⟩), (b1, ⟨164, [pW b], 1⟩)] ∧ WkH b n (out ++ [X4 n to (Oc idx term)]) H1) := by
 refine fe Tryz.func148 fun S0 w0 => ?_
 show Sim _ _ [(0, ei to), (1, pW b1), (2, pW b2), (3, pW b3)] _ _
 refine zC ?_
 refine cr <| s_ Ql <| s_ Qa <| s_ Ql <| s_ Ql <| s_ (Zv 11 [_, _, _, _, _, _, _, _, _, _, _]) ?_
 refine QU (FnH.of_le ?_ (Jv to (Oc idx term) hb hw)) (.refl _) (fun r H' ⟨hr, h3⟩ => ?_)
 ·exact zM
 ·subst hr
  refine zC ?_
  exact rhn kR ⟨_, rfl, h3⟩ (Le.refl _)
theorem Bd.stand {n : Nd} (h : Bd n) : Bd (Q8 n) := ⟨h.id0, h.id5, h.log, h.base0, h.base1, h.conf0, h.conf1⟩
theorem Ox {b : Nat} {n : Nd} {out : List Ms} {H : Qc} (hn : Bd n) (hl : n.log.length < 100000000) (ht0 : 0 ≤ n.term) (ht1 : n.term ≤ 1000000000000) (ho : out.length ≤ 900) (hw : WkH b n out H) :
  FnH Tryz.prog 108 [pW b] H (fun r H' => r = .tup [] ∧ WkH b (YI n).1 (out ++ (YI n).2) H') := by
 have hb0 := hn.base0
 have hb1 := hn.base1
 have hi0 := hn.id0
 have hi5 := hn.id5
 have hC := Vh (Q8 n) (by show n.log.length ≤ _; omega) (by show _ ≤ n.base; omega) (by show n.base ≤ _; omega)
 have hL := Z3 (Q8 n) (by show n.log.length ≤ _; omega) (by show _ ≤ n.base; omega) (by show n.base ≤ _; omega)
 have hsh : Zh .i64 1 (IntKind.u64.wrap n.id) = 2 ^ n.id.toNat ∧ 0 ≤ (2 : Int) ^ n.id.toNat ∧ (2 : Int) ^ n.id.toNat ≤ 31 := by
  rcases five hi0 hi5 with h | h | h | h | h <;> rw [h] <;> decide
 have hwi : IntKind.u64.wrap n.id = n.id := Jf hi0 (by omega)
 have hM := Lw (QM n).2 (2 ^ n.id.toNat) hsh.2.1 hsh.2.2 hn.conf0 hn.conf1
 refine fe Tryz.func108 fun S0 w0 => ?_
 show Sim _ _ [(0, pW b)] _ _
 obtain ⟨vl, vo, Hl, Ho, h1, h2, rfl⟩ := hw
 obtain ⟨p, c, rfl⟩ := h1.len
 obtain ⟨q, d, rfl⟩ := h2.len
 refine zC ?_
 apply cr
 refine LM fun b1 _ => ?_
 refine zC ?_
 refine ca [0, 1, 2, 3, 4, 5, 6, 7, 8, 9, 10, 11, 12, 13, 14, 15, 16, 17, 18, 19] [11, 15, 19] <| QF ?_
 refine QF ?_
 refine QF ?_
 refine QF ?_
 refine a_ (fun _ => Qf) <| a_ (fun _ => Qd) <| a_ (fun _ => Qd) <| QF ?_
 refine a_ (fun _ => Qf) <| a_ (fun _ => Qd) <| a_ (fun _ => Qd) <| XH ?_
 refine a_ (fun _ => Qf) <| a_ (fun _ => Qd) <| a_ (fun _ => Qd) <| XH ?_
 refine a_ (fun _ => Qf) <| a_ (fun _ => Qd) <| a_ (fun _ => Qd) <| XH ?_
 apply an
 refine zC ?_
 refine cr <| s_ Ql <| s_ Qf <| s_ Qd <| s_ Qd <| s_ Ql <| s_ Q0 <| s_ Qf <| s_ Qd <| s_ Qd <| Qw ?_
 refine zC ?_
 refine ca [0, 1, 2, 3, 4, 5, 6, 7, 8, 9, 10, 11] [11] <| QF ?_
 refine QF ?_
 refine a_ (fun _ => Qf) <| a_ (fun _ => Qd) <| a_ (fun _ => Qd) <| QF ?_
 refine a_ (fun _ => Ya) <| a_ (fun _ => Ue) <| a_ (fun _ => Qf) <| a_ (fun _ => Qd) <| a_ (fun _ => Qd) <| XH ?_
 apply an
 refine zC ?_
 rw [hsh.1]
 refine zC ?_
 refine ca [0, 1, 2, 3, 4, 5, 6, 7, 8, 9, 10] [] <| QF ?_
 refine a_ (fun _ => Qf) <| a_ (fun _ => Qd) <| Yk ?_
 refine BI (G := (b, _) :: (Hl ++ (Ho ++ []))) hC (Qg.cons (Qu.agg (QS _ (h1.lend (by intro p hp; simp [hp])))) Qg.nil) ⟨[_], List.perm_append_comm (l₁ := [_])⟩ ?_
 refine QF ?_
 refine a_ (fun _ => Qf) <| a_ (fun _ => Qd) <| a_ (fun _ => Qd) <| QF ?_
 refine a_ (fun _ => QK (hM)) ?_
 apply an
 refine zC ?_
 have hw : WkH b (Q8 n) out ((b, ⟨tW, wkC (Q8 n) (.slice p (n.log.map een).length c) (.slice q (out.map ms).length d), 23⟩) :: (Hl ++ (Ho ++ []))) := ⟨_, _, Hl, Ho, h1, h2, rfl⟩
 refine ci ?_ ?_
 ·intro hc
  refine zC ?_
  refine cr <| s_ Ql ?_
  refine QU (Hr := [_]) (Em hn.stand hl ho hw) (List.perm_append_comm (l₁ := [_])) (fun r H' ⟨hr, h3⟩ => ?_)
  subst hr
  refine zC ?_
  refine zR ?_
  refine rhp (List.perm_append_comm (l₂ := [_])) (.skip _ _ _ kR) ⟨rfl, ?_⟩ (Le.refl _)
  have hm : UV (QM n).2 (2 ^ n.id.toNat) = true := decide_eq_true hc
  rw [YI, if_pos hm]
  exact h3
 ·intro hc
  refine zC ?_
  refine cr <| s_ Ql <| s_ Qf <| s_ Qd <| s_ Q7 <| s_ (Be (G := (b, _) :: (Hl ++ (Ho ++ []))) hL (Qg.cons (Qu.agg (QS _ (h1.lend (by intro p hp; simp [hp])))) Qg.nil) ⟨[_], List.perm_append_comm (l₁ := [_])⟩) <| s_ Qa <| s_ QC <| s_ QC ?_
  refine XX fun b2 _ => ?_
  refine XX fun b3 _ => ?_
  refine Qw ?_
  refine Qw ?_
  refine zC ?_
  refine cr <| s_ Ql <| s_ Uf ?_
  have hO := WA (fun to => X4 (Q8 n) to (Oc (QW (Q8 n)) (Yi (Q8 n) (QW (Q8 n))))) 148 [] [pW b1, pW b2, pW b3] (by rfl) hn.stand ho hw (fun to out' H2 h0 h5 ho2 hw2 => Bz (b1 := b1) (b2 := b2) (b3 := b3) to _ _ (by omega) hw2)
  refine QU (Hr := []) hO ?_ (fun r H' hh => ?_)
  ·exact List.Perm.trans (l₂ := (_ :: _) ++ (_ :: _ :: _ :: [])) (List.perm_append_comm (l₁ := _ :: _ :: _ :: [])) (List.Perm.of_eq (List.append_nil _).symm)
  obtain ⟨hr, H1, e, h3⟩ := hh
  subst hr
  subst e
  refine zC ?_
  rw [List.append_nil]
  refine rhn (kH (r' := []) kN) ⟨rfl, ?_⟩ (Le.refl _)
  have hm : ¬ UV (QM n).2 (2 ^ n.id.toNat) = true := fun h => hc (of_decide_eq_true h)
  rw [YI, if_neg hm, List.append_nil]
  exact h3
theorem Bd.of {n n' : Nd} (h : Bd n) (h1 : n'.id = n.id := by rfl) (h2 : n'.log = n.log := by rfl) (h3 : n'.base = n.base := by rfl) (h4 : n'.baseConf = n.baseConf := by rfl) : Bd n' := by
 have hc : QM n' = QM n := by simp only [QM, h2, h3, h4]
 exact ⟨h1 ▸ h.id0, h1 ▸ h.id5, h2 ▸ h.log, h3 ▸ h.base0, h3 ▸ h.base1, hc ▸ h.conf0, hc ▸ h.conf1⟩
theorem Ra (m : Ms) : ms m = .agg [ei m.kind, ei m.frm, ei m.to, ei m.term, ei m.index, ei m.logTerm, ei m.commit, ei m.conf, .v (.bool (decide (m.yes = true))), Zn m.entries, es m.snap] := by
 simp [ms, msC, eB]
def W3 (yes : Bool) : Ms := ⟨2, 0, 0, 0, 0, 0, 0, 0, yes, [], []⟩
def M5 (n : Nd) (m : Ms) : Bool := decide ((m.term = n.term ∧ (n.vote = -1 ∨ n.vote = m.frm)) ∧ (Yi n (QW n) < m.logTerm ∨ m.logTerm = Yi n (QW n) ∧ QW n ≤ m.index))
def Y4 (n : Nd) (m : Ms) : Nd := if M5 n m then { n with vote := m.frm, wait := 0 } else n
theorem Ir {b : Nat} {n : Nd} {out : List Ms} {H : Qc} (m : Ms) (hn : Bd n) (ho : out.length ≤ 900) (hw : WkH b n out H) :
  FnH Tryz.prog 133 [pW b, ms m] H (fun r H' => r = .tup [] ∧ WkH b (Y4 n m) (out ++ [X4 (Y4 n m) m.frm (W3 (M5 n m))]) H') := by
 have hb0 := hn.base0
 have hb1 := hn.base1
 have hlog := hn.log
 have hL := Z3 n (by omega) (by omega) (by omega)
 refine fe Tryz.func133 fun S0 w0 => ?_
 show Sim _ _ [(0, pW b), (1, T.agg (msC m (Zn m.entries)))] _ _
 obtain ⟨vl, vo, Hl, Ho, h1, h2, rfl⟩ := hw
 obtain ⟨p, c, rfl⟩ := h1.len
 obtain ⟨q, d, rfl⟩ := h2.len
 refine zC ?_
 apply cr
 refine XN fun b3 _ => ?_
 refine zC ?_
 refine Zc 3 (by simp [msC]) ?_
 refine zC ?_
 refine cr <| s_ Qa <| s_ Qf <| s_ Qd <| s_ Q7 <| s_ (Vt hL (Qg.cons (Qu.agg (QS _ (h1.lend (by intro p hp; simp [hp])))) Qg.nil)) <| s_ Qa <| s_ QC <| s_ QC <| s_ Qb <| s_ Qb <| zC ?_
 refine ca [0, 1, 2, 3, 4, 5, 6, 7, 8, 9, 10, 11, 12, 13, 14, 15, 16, 17, 18, 19, 20, 21, 22, 23, 24, 25, 26, 27, 28, 29, 30, 31, 32, 33, 34, 35, 36, 37, 38, 39, 40, 41, 42, 43, 44] [] <| a_ (fun _ => Qr) <| a_ (fun _ => Qn) <| a_ (fun _ => Qa) <| a_ (fun _ => Qf) <| a_ (fun _ => Qd) <| a_ (fun _ => Qd) <| QF ?_
 refine a_ (fun _ => XB) <| a_ (fun _ => Qa) <| Qz (fun _ hg => Qa) ?_
 refine Qz (fun _ hg => Qf (hx := u_ hg)) ?_
 refine Qz (fun _ hg => Qd (hx := u_ hg)) ?_
 refine Qz (fun _ hg => Qd (hx := u_ hg)) ?_
 refine Zi ?_
 refine Qz (fun _ hg => XB (hx := u_ hg)) ?_
 refine Qz (fun _ hg => Qa (hx := u_ hg)) ?_
 refine UG (fun _ hg => Qa) ?_
 refine UG (fun _ hg => Qf (hx := u_ hg)) ?_
 refine UG (fun _ hg => Qd (hx := u_ hg)) ?_
 refine UG (fun _ hg => Qd (hx := u_ hg)) ?_
 refine BD ?_
 refine UG (fun _ hg => Qr) ?_
 refine UG (fun _ hg => Qn (hx := u_ hg)) ?_
 refine UG (fun _ hg => XB (hx := u_ hg) (hy := u_ hg)) ?_
 refine Qz (fun _ hg => CJ hg) ?_
 refine a_ (fun _ => XW) <| a_ (fun _ => Qa) <| Qz (fun _ hg => Qr) ?_
 refine Qz (fun _ hg => Qn (hx := u_ hg)) ?_
 refine Qz (fun _ hg => Qa) ?_
 refine Qz (fun _ hg => X0 (hx := u_ hg) (hy := u_ hg)) ?_
 refine Qz (fun _ hg => Qa (hx := u_ hg)) ?_
 refine UG (fun _ hg => Qr) ?_
 refine UG (fun _ hg => Qn (hx := u_ hg)) ?_
 refine UG (fun _ hg => Qa) ?_
 refine UG (fun _ hg => XB (hx := u_ hg) (hy := u_ hg)) ?_
 refine UG (fun _ hg => Qa (hx := u_ hg)) ?_
 refine Cx (fun _ hg => Qr) ?_
 refine Cx (fun _ hg => Qn (hx := u_ hg)) ?_
 refine Cx (fun _ hg => Qa) ?_
 refine Cx (fun _ hg => U0 (hx := u_ hg) (hy := u_ hg)) ?_
 refine UG (fun _ hg => CQ hg) ?_
 refine Qz (fun _ hg => CJ hg) ?_
 refine a_ (fun _ => XW) <| a_ (fun _ => Qb) ?_
 apply an
 refine zC ?_
 refine cr <| s_ Qa <| zC ?_
 refine ci ?_ ?_
 ·intro hc
  have hy : M5 n m = true := decide_eq_true hc
  have hv : Y4 n m = { n with vote := m.frm, wait := 0 } := by rw [Y4, if_pos hy]
  refine zC ?_
  refine cr <| s_ Qa <| s_ Qa <| s_ Qr <| s_ Qn <| s_ Qf <| s_ Qd <| s_ Qd <| Qw ?_
  refine s_ Qf <| s_ Qd <| s_ Qd <| Qw ?_
  refine zC ?_
  refine cr <| s_ Qa <| s_ Qr <| s_ Qn <| s_ Qa <| s_ (Zv 11 [_, _, _, _, _, _, _, _, _, _, _]) ?_
  refine QJ (FnH.of_le ?_ (Jv m.frm (W3 (M5 n m)) (by omega) (show WkH b { n with vote := m.frm, wait := 0 } out _ from ⟨_, _, Hl, Ho, h1, h2, rfl⟩))) (fun r H' ⟨hr, h3⟩ => ?_)
  ·exact zM
  ·subst hr
   refine zC ?_
   rw [hv]
   exact rhn kR ⟨rfl, h3⟩ (Le.refl _)
 ·intro hc
  have hy : ¬ M5 n m = true := fun h => hc (of_decide_eq_true h)
  have hv : Y4 n m = n := by rw [Y4, if_neg hy]
  refine zC ?_
  refine cr <| s_ Qa <| s_ Qr <| s_ Qn <| s_ Qa <| s_ (Zv 11 [_, _, _, _, _, _, _, _, _, _, _]) ?_
  refine QJ (FnH.of_le ?_ (Jv m.frm (W3 (M5 n m)) (by omega) (show WkH b n out _ from ⟨_, _, Hl, Ho, h1, h2, rfl⟩))) (fun r H' ⟨hr, h3⟩ => ?_)
  ·exact zM
  ·subst hr
   refine zC ?_
   rw [hv]
   exact rhn kR ⟨rfl, h3⟩ (Le.refl _)
def orI (a b : Int) : Int := (a.toNat ||| b.toNat : Nat)
theorem B2 {x y : Int} (h0 : 0 ≤ x) (h1 : x ≤ 31) (h2 : 0 ≤ y) (h3 : y < 5) : bOr .i64 x (Zh .i64 1 (IntKind.u64.wrap y)) = orI x (2 ^ y.toNat) ∧ 0 ≤ orI x (2 ^ y.toNat) ∧ orI x (2 ^ y.toNat) ≤ 31 := by
 have key : ∀ i : Fin 32, ∀ j : Fin 5, bOr .i64 i.val (Zh .i64 1 (IntKind.u64.wrap (j.val : Nat))) = orI i.val (2 ^ j.val) ∧ 0 ≤ orI i.val (2 ^ j.val) ∧ orI i.val (2 ^ j.val) ≤ 31 := by decide
 obtain ⟨i, rfl⟩ := EG h0 h1
 obtain ⟨j, rfl⟩ : ∃ j : Nat, y = (j : Int) := ⟨y.toNat, by omega⟩
 exact key i ⟨j, by omega⟩
def Yf (n : Nd) (m : Ms) : Nd := { n with votes := orI n.votes (2 ^ m.frm.toNat) }
def YH (n : Nd) (m : Ms) : Nd × List Ms := if (¬ m.term = n.term ∨ ¬ n.role = 1) ∨ ¬ m.yes = true then (n, []) else
 if UV (QM n).2 (orI n.votes (2 ^ m.frm.toNat)) then (Xu (Yf n m), Yb (Xu (Yf n m)) (Jc (Xu (Yf n m))) 5) else (Yf n m, [])
theorem Om {b : Nat} {n : Nd} {out : List Ms} {H : Qc} (m : Ms) (hn : Bd n) (hl : n.log.length < 100000000) (hv0 : 0 ≤ n.votes) (hv1 : n.votes ≤ 31) (hf0 : 0 ≤ m.frm) (hf5 : m.frm < 5) (ho : out.length ≤ 900) (hw : WkH b n out H) :
  FnH Tryz.prog 134 [pW b, ms m] H (fun r H' => r = .tup [] ∧ WkH b (YH n m).1 (out ++ (YH n m).2) H') := by
 have hb0 := hn.base0
 have hb1 := hn.base1
 have hlog := hn.log
 have hor := B2 hv0 hv1 hf0 hf5
 have hwf : IntKind.u64.wrap m.frm = m.frm := Jf hf0 (by omega)
 have hC := Vh (Yf n m) (by show n.log.length ≤ _; omega) (by show _ ≤ n.base; omega) (by show n.base ≤ _; omega)
 have hM := Lw (QM n).2 (orI n.votes (2 ^ m.frm.toNat)) hor.2.1 hor.2.2 hn.conf0 hn.conf1
 rw [Ra]
 refine fe Tryz.func134 fun S0 w0 => ?_
 show Sim _ _ [(0, pW b), (1, T.agg [ei m.kind, ei m.frm, ei m.to, ei m.term, ei m.index, ei m.logTerm, ei m.commit, ei m.conf, .v (.bool (decide (m.yes = true))), Zn m.entries, es m.snap])] _ _
 obtain ⟨vl, vo, Hl, Ho, h1, h2, rfl⟩ := hw
 obtain ⟨p, c, rfl⟩ := h1.len
 obtain ⟨q, d, rfl⟩ := h2.len
 refine zC ?_
 apply cr
 refine XN fun b3 _ => ?_
 refine zC ?_
 refine Zc 3 (by simp) ?_
 refine zC ?_
 refine ca [0, 1, 2, 3, 4, 5, 6, 7, 8, 9, 10, 11, 12, 13, 14, 15, 16, 17, 18, 19, 20] [] <| a_ (fun _ => Qr) <| a_ (fun _ => Qn) <| a_ (fun _ => Qa) <| a_ (fun _ => Qf) <| a_ (fun _ => Qd) <| a_ (fun _ => Qd) <| QF ?_
 refine a_ (fun _ => XR) <| a_ (fun _ => Qa) <| Xz (fun _ hg => Qa) ?_
 refine Xz (fun _ hg => Qf (hx := u_ hg)) ?_
 refine Xz (fun _ hg => Qd (hx := u_ hg)) ?_
 refine Xz (fun _ hg => Qd (hx := u_ hg)) ?_
 refine LT ?_
 refine Xz (fun _ hg => XR (hx := u_ hg)) ?_
 refine a_ (fun _ => YD) <| a_ (fun _ => Qa) <| Xz (fun _ hg => Qr) ?_
 refine Xz (fun _ hg => Qn (hx := u_ hg)) ?_
 refine Xz (fun _ hg => YE (hx := u_ hg)) ?_
 refine a_ (fun _ => YD) ?_
 apply an
 refine zC ?_
 refine ci ?_ ?_
 ·intro hc
  refine zR ?_
  refine rh kR ⟨rfl, ?_⟩ (Le.refl _)
  rw [YH, if_pos hc, List.append_nil]
  exact ⟨_, _, Hl, Ho, h1, h2, rfl⟩
 ·intro hc
  refine zC ?_
  refine ca [0, 1, 2, 3, 4, 5, 6, 7, 8, 9, 10, 11, 12, 13] [13] <| a_ (fun _ => Qa) <| a_ (fun _ => Qf) <| a_ (fun _ => Qd) <| a_ (fun _ => Qd) <| QF ?_
  refine a_ (fun _ => Qr) <| a_ (fun _ => Qn) <| a_ (fun _ => Ya) <| a_ (fun _ => Ue) <| a_ (fun _ => UU) <| a_ (fun _ => Qf) <| a_ (fun _ => Qd) <| a_ (fun _ => Qd) <| XH ?_
  apply an
  refine zC ?_
  rw [hor.1]
  have hw : WkH b (Yf n m) out ((b, ⟨tW, wkC (Yf n m) (.slice p (n.log.map een).length c) (.slice q (out.map ms).length d), 23⟩) :: (Hl ++ (Ho ++ []))) := ⟨_, _, Hl, Ho, h1, h2, rfl⟩
  refine zC ?_
  refine ca [0, 1, 2, 3, 4, 5, 6, 7, 8, 9, 10] [] <| a_ (fun _ => Qa) <| a_ (fun _ => Qf) <| a_ (fun _ => Qd) <| Yk ?_
  refine BI (G := (b, _) :: (Hl ++ (Ho ++ []))) hC (Qg.cons (Qu.agg (QS _ (h1.lend (by intro p hp; simp [hp])))) Qg.nil) ⟨[], UT⟩ ?_
  refine a_ (fun _ => Qa) <| a_ (fun _ => Qf) <| a_ (fun _ => Qd) <| a_ (fun _ => Qd) <| QF ?_
  refine a_ (fun _ => QK (hM)) ?_
  apply an
  refine zC ?_
  refine ci ?_ ?_
  ·intro hm
   refine zC ?_
   refine cr <| s_ Qa ?_
   refine QJ (Em (hn.of (n' := Yf n m)) hl ho hw) (fun r H' ⟨hr, h3⟩ => ?_)
   subst hr
   refine zC ?_
   refine rhn kR ⟨rfl, ?_⟩ (Le.refl _)
   have hm' : UV (QM n).2 (orI n.votes (2 ^ m.frm.toNat)) = true := decide_eq_true hm
   rw [YH, if_neg hc, if_pos hm']
   exact h3
  ·intro hm
   refine zC ?_
   refine rhn kR ⟨rfl, ?_⟩ (Le.refl _)
   have hm' : ¬ UV (QM n).2 (orI n.votes (2 ^ m.frm.toNat)) = true := fun h => hm (of_decide_eq_true h)
   rw [YH, if_neg hc, if_neg hm', List.append_nil]
   exact hw
theorem Lu {n : Nd} {vl vo : Value} {to : Int} (h0 : 0 ≤ to) (h5 : to < 5) : (wkC n vl vo)[0 + 0 + 17 + to.toNat * 1]? = some (ei (n.mtch.get to.toNat)) := by
 rcases five h0 h5 with rfl | rfl | rfl | rfl | rfl <;> rfl
theorem WF {n : Nd} {vl vo : Value} {i : Int} (h0 : 0 ≤ i) (h5 : i < 5) (v : Int) : lay (wkC n vl vo) (0 + 0 + 12 + i.toNat * 1) (T.v (.int .i64 v)).cells = wkC { n with next := n.next.set i.toNat v } vl vo := by
 rcases five h0 h5 with rfl | rfl | rfl | rfl | rfl <;> rfl
theorem WG {n : Nd} {vl vo : Value} {i : Int} (h0 : 0 ≤ i) (h5 : i < 5) (v : Int) : lay (wkC n vl vo) (0 + 0 + 17 + i.toNat * 1) (T.v (.int .i64 v)).cells = wkC { n with mtch := n.mtch.set i.toNat v } vl vo := by
 rcases five h0 h5 with rfl | rfl | rfl | rfl | rfl <;> rfl
theorem EB (f : F5) {i : Int} (h0 : 0 ≤ i) (h5 : i < 5) (v : Int) : (f.set i.toNat v).get i.toNat = v := by
 rcases five h0 h5 with rfl | rfl | rfl | rfl | rfl <;> rfl
def JZ (n : Nd) (m : Ms) : Nd := { n with mtch := n.mtch.set m.frm.toNat (max (n.mtch.get m.frm.toNat) m.index), next := n.next.set m.frm.toNat (max (n.mtch.get m.frm.toNat) m.index + 1) }
def Zu (n : Nd) (m : Ms) : Nd := { n with next := n.next.set m.frm.toNat (max (max (min (n.next.get m.frm.toNat - 1) (m.index + 1)) 1) (n.mtch.get m.frm.toNat + 1)) }
def Ym (n : Nd) (m : Ms) : Nd × List Ms := if ¬ m.term = n.term ∨ ¬ n.role = 2 then (n, []) else if m.yes = true then (Q4 (JZ n m), []) else
 if (Zu n m).next.get m.frm.toNat ≤ QW n then (Zu n m, [Jc (Zu n m) m.frm]) else (Zu n m, [])
theorem Rs {b : Nat} {n : Nd} {out : List Ms} {H : Qc} (m : Ms) (hn : Bd n) (hf0 : 0 ≤ m.frm) (hf5 : m.frm < 5) (hx0 : -100000000000 ≤ n.next.get m.frm.toNat) (hx1 : n.next.get m.frm.toNat ≤ 50000000000) (hm0 : -100000000000 ≤ n.mtch.get m.frm.toNat) (hm1 : n.mtch.get m.frm.toNat ≤ 50000000000) (hi0 : -100000000000 ≤ m.index) (hi1 : m.index ≤ 50000000000) (ho : out.length ≤ 900) (hw : WkH b n out H) :
  FnH Tryz.prog 136 [pW b, ms m] H (fun r H' => r = .tup [] ∧ WkH b (Ym n m).1 (out ++ (Ym n m).2) H') := by
 have hb0 := hn.base0
 have hb1 := hn.base1
 have hlog := hn.log
 have hL := Z3 (Zu n m) (by show n.log.length ≤ _; omega) (by show _ ≤ n.base; omega) (by show n.base ≤ _; omega)
 rw [Ra]
 refine fe Tryz.func136 fun S0 w0 => ?_
 show Sim _ _ [(0, pW b), (1, T.agg [ei m.kind, ei m.frm, ei m.to, ei m.term, ei m.index, ei m.logTerm, ei m.commit, ei m.conf, .v (.bool (decide (m.yes = true))), Zn m.entries, es m.snap])] _ _
 obtain ⟨vl, vo, Hl, Ho, h1, h2, rfl⟩ := hw
 obtain ⟨p, c, rfl⟩ := h1.len
 obtain ⟨q, d, rfl⟩ := h2.len
 refine zC ?_
 apply cr
 refine XN fun b3 _ => ?_
 refine zC ?_
 refine Zc 3 (by simp) ?_
 refine zC ?_
 refine ca [0, 1, 2, 3, 4, 5, 6, 7, 8, 9, 10, 11, 12, 13, 14, 15] [] <| a_ (fun _ => Qr) <| a_ (fun _ => Qn) <| a_ (fun _ => Qa) <| a_ (fun _ => Qf) <| a_ (fun _ => Qd) <| a_ (fun _ => Qd) <| QF ?_
 refine a_ (fun _ => XR) <| a_ (fun _ => Qa) <| Xz (fun _ hg => Qa) ?_
 refine Xz (fun _ hg => Qf (hx := u_ hg)) ?_
 refine Xz (fun _ hg => Qd (hx := u_ hg)) ?_
 refine Xz (fun _ hg => Qd (hx := u_ hg)) ?_
 refine LT ?_
 refine Xz (fun _ hg => XR (hx := u_ hg)) ?_
 refine a_ (fun _ => YD) ?_
 apply an
 refine zC ?_
 refine ci ?_ ?_
 ·intro hc
  refine zR ?_
  refine rh kR ⟨rfl, ?_⟩ (Le.refl _)
  rw [Ym, if_pos hc, List.append_nil]
  exact ⟨_, _, Hl, Ho, h1, h2, rfl⟩
 ·intro hc
  refine zC ?_
  refine cr <| s_ Qr <| s_ Qn <| zC ?_
  refine ci ?_ ?_
  ·intro hy
   refine zC ?_
   refine ca [0, 1, 2, 3, 4, 5, 6, 7, 8, 9, 10, 11, 12, 13, 14, 15, 16, 17, 18] [18] <| a_ (fun _ => Qa) <| a_ (fun _ => Qr) <| a_ (fun _ => Qn) <| a_ (fun _ => Qa) <| a_ (fun _ => Qr) <| a_ (fun _ => Qn) <| a_ (fun _ => Qf) <| a_ (fun _ => Qd) <| a_ (fun _ => Qd) <| a_ (fun _ => YQ) <| QF (hd := Lu hf0 hf5) ?_
   refine a_ (fun _ => Qr) <| a_ (fun _ => Qn) <| a_ (fun _ => Lp) <| a_ (fun _ => Qf) <| a_ (fun _ => Qd) <| a_ (fun _ => Qd) <| a_ (fun _ => YQ) ?_
   refine DU ?_ ?_
   ·simp only [ZU, Ze, T.cells, Value.cells]; simp; omega
   rw [WG hf0 hf5]
   have hd2 : ∀ vl vo, (wkC { n with mtch := n.mtch.set m.frm.toNat (max (n.mtch.get m.frm.toNat) m.index) } vl vo)[0 + 0 + 17 + m.frm.toNat * 1]? = some (ei (max (n.mtch.get m.frm.toNat) m.index)) := fun _ _ => by rw [Lu hf0 hf5, EB _ hf0 hf5]
   apply an
   refine zC ?_
   refine ca [0, 1, 2, 3, 4, 5, 6, 7, 8, 9, 10, 11, 12, 13, 14, 15, 16] [16] <| a_ (fun _ => Qa) <| a_ (fun _ => Qr) <| a_ (fun _ => Qn) <| a_ (fun _ => Qa) <| a_ (fun _ => Qr) <| a_ (fun _ => Qn) <| a_ (fun _ => Qf) <| a_ (fun _ => Qd) <| a_ (fun _ => Qd) <| a_ (fun _ => YQ) <| QF (hd := hd2 _ _) ?_
   refine a_ (fun _ => Q0) <| a_ (fun _ => Qf) <| a_ (fun _ => Qd) <| a_ (fun _ => Qd) <| a_ (fun _ => YQ) ?_
   refine DU ?_ ?_
   ·simp only [ZU, Ze, T.cells, Value.cells]; simp; omega
   rw [WF hf0 hf5]
   apply an
   refine zC ?_
   refine cr <| s_ Qa ?_
   refine QJ (UF (hn.of (n' := JZ n m)) ⟨_, _, Hl, Ho, h1, h2, rfl⟩) (fun r H' ⟨hr, h3⟩ => ?_)
   subst hr
   refine zC ?_
   refine zR ?_
   refine rh kR ⟨rfl, ?_⟩ (Le.refl _)
   rw [Ym, if_neg hc, if_pos hy, List.append_nil]
   exact h3
  ·intro hy
   refine zC ?_
   refine ca [0, 1, 2, 3, 4, 5, 6, 7, 8, 9, 10, 11, 12, 13, 14, 15, 16, 17, 18, 19, 20, 21, 22, 23, 24, 25, 26, 27, 28, 29, 30] [30] <| a_ (fun _ => Qa) <| a_ (fun _ => Qr) <| a_ (fun _ => Qn) <| a_ (fun _ => Qa) <| a_ (fun _ => Qr) <| a_ (fun _ => Qn) <| a_ (fun _ => Qf) <| a_ (fun _ => Qd) <| a_ (fun _ => Qd) <| a_ (fun _ => YQ) <| QF (hd := Va hf0 hf5) ?_
   refine a_ (fun _ => Y9) <| a_ (fun _ => Qr) <| a_ (fun _ => Qn) <| a_ (fun _ => Q0) <| a_ (fun _ => Wg) <| a_ (fun _ => Qa) <| a_ (fun _ => Qr) <| a_ (fun _ => Qn) <| a_ (fun _ => Qf) <| a_ (fun _ => Qd) <| a_ (fun _ => Qd) <| a_ (fun _ => YQ) <| QF (hd := Lu hf0 hf5) ?_
   refine a_ (fun _ => Q0) <| a_ (fun _ => BU) <| a_ (fun _ => Qf) <| a_ (fun _ => Qd) <| a_ (fun _ => Qd) <| a_ (fun _ => YQ) ?_
   refine DU ?_ ?_
   ·simp only [ZU, Ze, T.cells, Value.cells]; simp; omega
   rw [WF hf0 hf5]
   have hw : WkH b (Zu n m) out ((b, ⟨tW, wkC (Zu n m) (.slice p (n.log.map een).length c) (.slice q (out.map ms).length d), 23⟩) :: (Hl ++ (Ho ++ []))) := ⟨_, _, Hl, Ho, h1, h2, rfl⟩
   apply an
   refine zC ?_
   refine cr <| s_ Qa <| s_ Qf <| s_ Qd <| s_ Q7 <| s_ (Vt hL (Qg.cons (Qu.agg (QS (Zu n m) (h1.lend (by intro p hp; simp [hp])))) Qg.nil)) <| s_ Qa <| s_ QC <| s_ QC <| s_ Qb <| s_ Qb <| zC ?_
   refine ca [0, 1, 2, 3, 4, 5, 6, 7, 8, 9] [] <| a_ (fun _ => Qa) <| a_ (fun _ => Qr) <| a_ (fun _ => Qn) <| a_ (fun _ => Qf) <| a_ (fun _ => Qd) <| a_ (fun _ => Qd) <| a_ (fun _ => YQ) <| QF (hd := Va (n := Zu n m) hf0 hf5) ?_
   refine a_ (fun _ => Qa) <| a_ (fun _ => IX) ?_
   apply an
   refine zC ?_
   refine ci ?_ ?_
   ·intro hle
    refine zC ?_
    refine cr <| s_ Qa <| s_ Qr <| s_ Qn ?_
    refine QJ (O4 m.frm hf0 hf5 (by show n.log.length ≤ _; omega) (by show _ ≤ n.base; omega) (by show n.base ≤ _; omega) ?_ (by omega) hw) (fun r H' ⟨hr, h3⟩ => ?_)
    ·have : (Zu n m).next.get m.frm.toNat = max (max (min (n.next.get m.frm.toNat - 1) (m.index + 1)) 1) (n.mtch.get m.frm.toNat + 1) := EB _ hf0 hf5 _
     rw [this]; omega
    subst hr
    refine zC ?_
    refine rhn kR ⟨rfl, ?_⟩ (Le.refl _)
    have hle' : (Zu n m).next.get m.frm.toNat ≤ QW n := hle
    rw [Ym, if_neg hc, if_neg hy, if_pos hle']
    exact h3
   ·intro hle
    refine zC ?_
    refine rhn kR ⟨rfl, ?_⟩ (Le.refl _)
    have hle' : ¬ (Zu n m).next.get m.frm.toNat ≤ QW n := hle
    rw [Ym, if_neg hc, if_neg hy, if_neg hle', List.append_nil]
    exact hw
def Wa (n : Nd) (e : En) : Nd := { n with log := n.log ++ [⟨n.term, e.conf, e.cmd⟩], mtch := n.mtch.set n.id.toNat (n.base + (n.log.length + 1)) }
def Ga (n : Nd) (e : En) : Nd := Q4 (Wa n e)
theorem I4 (l : List En) (e : En) : lc (l ++ [e]) (l ++ [e]).length = if e.conf ≠ 0 then some (l.length, e.conf) else lc l l.length := by
 rw [List.length_append, List.length_singleton, lc]
 have : (l ++ [e]).getD l.length default = e := by simp [List.getD_eq_getElem?_getD]
 rw [this]
 split
 ·rfl
 ·exact LB _ _ _ (Nat.le_refl _)
theorem Bd.put {n : Nd} {e : En} (h : Bd n) (hl : n.log.length < 100000000) (h0 : 0 ≤ e.conf) (h1 : e.conf ≤ 31) : Bd (Wa n e) := by
 have hc : (QM (Wa n e)).2 = if e.conf ≠ 0 then e.conf else (QM n).2 := by
  have := I4 n.log ⟨n.term, e.conf, e.cmd⟩
  by_cases hz : e.conf ≠ 0
  ·rw [if_pos hz] at this ⊢
   simp only [QM, Wa, this]
  ·rw [if_neg hz] at this ⊢
   simp only [QM, Wa, this]
 refine ⟨h.id0, h.id5, by simp [Wa]; omega, h.base0, h.base1, ?_, ?_⟩ <;> rw [hc] <;> split
 ·exact h0
 ·exact h.conf0
 ·exact h1
 ·exact h.conf1
theorem C4 {b : Nat} {n : Nd} {out : List Ms} {H : Qc} (e : En) (hn : Bd n) (hl : n.log.length < 100000000) (hc0 : 0 ≤ e.conf) (hc1 : e.conf ≤ 31) (hw : WkH b n out H) :
  AC Tryz.prog 103 [pW b, een e] H (.tup [nd (Ga n e), ei (n.base + (n.log.length + 1)), ei 0]) := by
 have hb0 := hn.base0
 have hb1 := hn.base1
 have hi0 := hn.id0
 have hi5 := hn.id5
 have hL := Z3 { n with log := n.log ++ [⟨n.term, e.conf, e.cmd⟩] } (by simp; omega) (by simp only; omega) (by simp only; omega)
 refine fe Tryz.func103 fun S0 w0 => ?_
 show Sim _ _ [(0, pW b), (1, een e)] _ _
 obtain ⟨vl, vo, Hl, Ho, h1, h2, rfl⟩ := hw
 obtain ⟨p, c, rfl⟩ := h1.len
 obtain ⟨q, d, rfl⟩ := h2.len
 refine zC ?_
 apply cr
 refine XN fun b3 _ => ?_
 refine XX fun b4 _ => ?_
 refine s_ Qb <| s_ Qb <| zC ?_
 refine cr <| s_ Qa <| s_ Qf <| s_ Qd <| s_ Qd <| s_ Ql <| s_ Qd <| Qw ?_
 refine zC ?_
 refine zC ?_
 refine ca [0, 1, 2, 3, 4, 5, 6, 7, 8, 9, 10, 11, 12] [8, 12] <| a_ (fun _ => Qa) <| a_ (fun _ => Qa) <| a_ (fun _ => Qf) <| a_ (fun _ => Qd) <| a_ (fun _ => Qd) <| QF ?_
 refine Yk ?_
 refine a_ (fun _ => Z0) ?_
 refine BH (ho := h1) (A := [_, _, _]) (B := Ho ++ []) (DI n.log) (fun v' Hl' h1' => ⟨zd, ?_⟩)
 refine zD ?_
 have h1 : OE (n.log ++ [⟨n.term, e.conf, e.cmd⟩]) v' Hl' := by unfold OE; rw [List.map_append]; exact h1'
 clear h1'
 obtain ⟨p, c, rfl⟩ := h1.len
 refine a_ (fun _ => Qf) <| a_ (fun _ => Qd) <| a_ (fun _ => Qd) <| XH ?_
 apply an
 refine zC ?_
 refine cr <| s_ Qa <| s_ Qf <| s_ Qd <| s_ Q7 <| s_ (Be (G := (b, _) :: (Hl' ++ (Ho ++ []))) hL (Qg.cons (Qu.agg (QS _ (h1.lend (by intro p hp; simp [hp])))) Qg.nil) ⟨[_, _], List.perm_append_comm (l₁ := _ :: _ :: [])⟩) ?_
 have hLF : QW { n with log := n.log ++ [⟨n.term, e.conf, e.cmd⟩] } = n.base + (n.log.length + 1) := by simp [QW]
 rw [hLF]
 refine s_ Qa <| s_ QC <| s_ QC <| s_ Qb <| s_ Qb <| zC ?_
 refine ca [0, 1, 2, 3, 4, 5, 6, 7, 8, 9, 10, 11] [11] <| a_ (fun _ => Qa) <| a_ (fun _ => Qa) <| a_ (fun _ => Qf) <| a_ (fun _ => Qd) <| a_ (fun _ => Qd) <| QF ?_
 refine a_ (fun _ => Qa) <| a_ (fun _ => Qf) <| a_ (fun _ => Qd) <| a_ (fun _ => Qd) <| a_ (fun _ => YQ) ?_
 refine DU ?_ ?_
 ·simp only [ZU, Ze, wkC, Qt]; simp; omega
 apply an
 refine zC ?_
 have hm : lay (wkC { n with log := n.log ++ [⟨n.term, e.conf, e.cmd⟩] } (.slice p ((n.log ++ [(⟨n.term, e.conf, e.cmd⟩ : En)]).map een).length c) (.slice q (out.map ms).length d)) (0 + 0 + 17 + n.id.toNat * 1) (ei (n.base + (n.log.length + 1))).cells = wkC (Wa n e) (.slice p ((n.log ++ [(⟨n.term, e.conf, e.cmd⟩ : En)]).map een).length c) (.slice q (out.map ms).length d) := WG hi0 hi5 _
 have hw : WkH b (Wa n e) out ((b, ⟨tW, lay (wkC { n with log := n.log ++ [⟨n.term, e.conf, e.cmd⟩] } (.slice p ((n.log ++ [(⟨n.term, e.conf, e.cmd⟩ : En)]).map een).length c) (.slice q (out.map ms).length d)) (0 + 0 + 17 + n.id.toNat * 1) (ei (n.base + (n.log.length + 1))).cells, 23⟩) :: (Hl' ++ (Ho ++ []))) := by
  rw [hm]
  exact ⟨_, _, Hl', Ho, h1, h2, rfl⟩
 have hn' := hn.put hl hc0 hc1
 refine zC ?_
 refine cr <| s_ Qa ?_
 refine QU (Hr := _ :: _ :: []) (UF hn' hw) (List.perm_append_comm (l₁ := _ :: _ :: [])) (fun r H' ⟨hr, h3⟩ => ?_)
 subst hr
 refine zC ?_
 refine cr <| s_ Qa ?_
 refine QU (XY (by have := hn'.commit.log; omega) h3) (.refl _) (fun r H' ⟨hr, hr2⟩ => ?_)
 subst hr hr2
 refine s_ Qa <| s_ QC <| s_ QC ?_
 refine XX fun b9 _ => ?_
 refine Qw ?_
 refine s_ Qb <| zC ?_
 refine cr <| s_ Q7 <| s_ Qa <| Qw ?_
 refine s_ Qb <| s_ Qb <| zC ?_
 refine zR ?_
 exact rh kN ⟨rfl, rfl⟩ (Le.refl _)
def Q1 (n : Nd) : Nd := { n with role := 0, wait := 0 }
theorem VK {b : Nat} {n : Nd} {out : List Ms} {H : Qc} (m : Ms) (hb : out.length ≤ 1000) (hw : WkH b n out H) :
  FnH Tryz.prog 157 [pW b, ms m] H (fun r H' => r = .v (.bool (decide (¬ m.term < n.term))) ∧ WkH b (if m.term < n.term then n else Q1 n) (if m.term < n.term then out ++ [X4 n m.frm (Zk false 0)] else out) H') :=
 (GQ m hb hw).mono fun r H' h => by
  by_cases hlt : m.term < n.term
  ·rw [if_pos hlt] at h
   rw [if_pos hlt, if_pos hlt]
   exact ⟨by rw [h.1]; simp [hlt, eB], h.2⟩
  ·rw [if_neg hlt] at h
   rw [if_neg hlt, if_neg hlt]
   exact ⟨by rw [h.1]; simp [hlt, eB], h.2⟩
def XD (n : Nd) (m : Ms) : Nat → List En
 | 0 => n.log
 | i + 1 => if m.index - n.base + i < (XD n m i).length ∧ ((XD n m i).getD (m.index - n.base + i).toNat default).term = (m.entries.getD i default).term then XD n m i
  else (XD n m i).take (min (m.index - n.base + i) (XD n m i).length).toNat ++ [m.entries.getD i default]
theorem VC (n : Nd) (m : Ms) : ∀ i, (XD n m i).length ≤ n.log.length + i
 | 0 => Nat.le_refl _
 | i + 1 => by
  have := VC n m i
  rw [XD]
  split
  ·omega
  ·simp; omega
def Ii (n : Nd) (m : Ms) : Nd := { Q1 n with log := XD n m m.entries.length, commit := max n.commit (min m.commit (m.index + m.entries.length)) }
def UH (n : Nd) (m : Ms) : Nd × List Ms := if m.term < n.term then (n, [X4 n m.frm (Zk false 0)]) else
 if m.index < n.base then (Q1 n, [X4 (Q1 n) m.frm (Zk true n.base)]) else
 if QW n < m.index ∨ ¬ Yi n m.index = m.logTerm then (Q1 n, [X4 (Q1 n) m.frm (Zk false (min (QW n) (m.index - 1)))]) else
 (Ii n m, [X4 (Ii n m) m.frm (Zk true (m.index + m.entries.length))])
theorem Ci {k : Nat} {xs : List T} {i j : Nat} {x d : T} (hk : ∀ y ∈ xs, y.cells.length = k) (h : xs[i]? = some x) (hj : j < k) (hd : x.cells[j]? = some d) : (xs.flatMap T.cells)[0 + i * k + j]? = some d := by
 have ⟨h1, h2⟩ := VN hk h
 have h3 : (((xs.flatMap T.cells).drop (i * k)).take k)[j]? = some d := by rw [h1, hd]
 rw [List.getElem?_take, if_pos hj, List.getElem?_drop] at h3
 rw [Nat.zero_add]
 exact h3
theorem OE.at {l : List En} {p : Option Addr} {n c : Nat} {Hs : Qc} (h : OE l (.slice p n c) Hs) : ∃ bl, 0 < l.length → p = some ⟨bl, 0, none⟩ ∧ (bl, (⟨tE, (l.map een).flatMap T.cells, c * 3⟩ : Blk)) ∈ Hs := by
 rcases h with ⟨h, _⟩ | ⟨bl, c', e, _, rfl⟩
 ·have : l = [] := by simpa using h
  exact ⟨0, fun h => by rw [this] at h; simp at h⟩
 ·cases e; exact ⟨bl, fun _ => ⟨rfl, List.mem_singleton.2 rfl⟩⟩
theorem OE.sub0 {l : List En} {p : Option Addr} {n c : Nat} {Hs : Qc} (h : OE l (.slice p n c) Hs) (j : Nat) : JB 3 p c 0 j = .slice p j c := by
 rcases h with ⟨_, ⟨q, e⟩, _⟩ | ⟨bl, c', e, _, _⟩
 ·cases e; cases p <;> rfl
 ·cases e
  unfold JB
  by_cases hc : c = 0 <;> simp [hc, Addr.add_mk]
theorem BG {b : Nat} {n : Nd} {out : List Ms} {H : Qc} (m : Ms) (hn : Bd n) (hl : n.log.length + m.entries.length ≤ 100000000) (hi0 : -50000000000 ≤ m.index) (hi1 : m.index ≤ 50000000000) (ho : out.length ≤ 900) (hw : WkH b n out H) :
  FnH Tryz.prog 135 [pW b, ms m] H (fun r H' => r = .tup [] ∧ WkH b (UH n m).1 (out ++ (UH n m).2) H') := by
 have hb0 := hn.base0
 have hb1 := hn.base1
 have hlog := hn.log
 have hL := Z3 (Q1 n) (by show n.log.length ≤ _; omega) (by show _ ≤ n.base; omega) (by show n.base ≤ _; omega)
 refine fe Tryz.func135 fun S0 w0 => ?_
 show Sim _ _ [(0, pW b), (1, T.agg (msC m (Zn m.entries)))] _ _
 refine zC ?_
 apply cr
 refine XN fun b3 _ => ?_
 refine zC ?_
 refine Zc 3 (by simp [msC]) ?_
 refine zC ?_
 refine cr <| s_ Qa <| s_ YP ?_
 refine QJ (VK m (by omega) hw) (fun r H' ⟨hr, hw⟩ => ?_)
 subst hr
 refine s_ YE <| zC ?_
 refine ci ?_ ?_
 ·intro hc
  have hlt : m.term < n.term := Decidable.not_not.1 hc
  rw [if_pos hlt, if_pos hlt] at hw
  refine zR ?_
  refine rh kR ⟨rfl, ?_⟩ (Le.refl _)
  rw [UH, if_pos hlt]
  exact hw
 intro hc
 have hlt : ¬ m.term < n.term := fun h => hc (fun h' => h' h)
 rw [if_neg hlt, if_neg hlt] at hw
 have hw1 := hw
 obtain ⟨vl, vo, Hl, Ho, h1, h2, rfl⟩ := hw
 obtain ⟨p, c, rfl⟩ := h1.len
 obtain ⟨q, d, rfl⟩ := h2.len
 refine zC ?_
 refine cr <| s_ Qa <| s_ Qf <| s_ Qd <| s_ Q7 <| s_ (Vt hL (Qg.cons (Qu.agg (QS (Q1 n) (h1.lend (by intro p hp; simp [hp])))) Qg.nil)) <| s_ Qa <| s_ QC <| s_ QC <| s_ Qb <| s_ Qb <| zC ?_
 refine ca [0, 1, 2, 3, 4, 5, 6, 7, 8] [] <| a_ (fun _ => Qr) <| a_ (fun _ => Qn) <| a_ (fun _ => Qa) <| a_ (fun _ => Qf) <| a_ (fun _ => Qd) <| a_ (fun _ => Qd) <| QF ?_
 refine a_ (fun _ => QR) <| a_ (fun _ => Qb) ?_
 apply an
 refine zC ?_
 refine ci ?_ ?_
 ·intro hlo
  refine zC ?_
  refine ca [0, 1, 2, 3, 4, 5, 6, 7, 8] [8] <| a_ (fun _ => Qa) <| a_ (fun _ => Qr) <| a_ (fun _ => Qn) <| a_ (fun _ => Qa) <| a_ (fun _ => Qf) <| a_ (fun _ => Qd) <| a_ (fun _ => Qd) <| QF ?_
  refine Im (FnH.of_le ?_ (Zj m.frm true n.base (by omega) hw1)) (fun r H' ⟨hr, h3⟩ => ⟨zd, ?_⟩)
  ·exact zM
  ·refine zD ?_
   subst hr
   apply an
   refine zC ?_
   refine zR ?_
   refine rh kR ⟨rfl, ?_⟩ (Le.refl _)
   have hlo' : m.index < n.base := hlo
   rw [UH, if_neg hlt, if_pos hlo']
   exact h3
 intro hlo
 have hlo' : ¬ m.index < n.base := hlo
 have hT := U8 (Q1 n) m.index (by show n.log.length ≤ _; omega) (by simp only [big]; show _ ≤ n.base; omega) (by simp only [big]; show n.base ≤ _; omega) (by simp only [big]; omega) (by simp only [big]; omega)
 refine zC ?_
 refine ca [0, 1, 2, 3, 4, 5, 6, 7, 8, 9, 10, 11, 12, 13, 14, 15] [] <| a_ (fun _ => Qr) <| a_ (fun _ => Qn) <| a_ (fun _ => Qa) <| a_ (fun _ => X0) <| a_ (fun _ => Qa) <| Xz (fun _ hg => Qa) ?_
 refine Xz (fun _ hg => Qf (hx := u_ hg)) ?_
 refine Xz (fun _ hg => Qd (hx := u_ hg)) ?_
 refine Xz (fun _ hg => Qr) ?_
 refine Xz (fun _ hg => Qn (hx := u_ hg)) ?_
 refine BF (G := (b, _) :: (Hl ++ (Ho ++ []))) (fun _ => hT) (fun _ => Qg.cons (Lt (n := Q1 n) h1 (by intro p hp; simp [hp]) List.mem_cons_self) (Qg.cons (Qu.le (Le.refl _)) Qg.nil)) ⟨[], UT⟩ ?_ (fun hg => by refine QQ (u_ hg) (QQ (u_ hg) XS))
 refine Xz (fun _ hg => Qr) ?_
 refine Xz (fun _ hg => Qn (hx := u_ hg)) ?_
 refine Xz (fun _ hg => XR (hx := u_ hg) (hy := u_ hg)) ?_
 refine a_ (fun _ => YD) <| a_ (fun _ => Qb) ?_
 apply an
 refine zC ?_
 refine ci ?_ ?_
 ·intro hno
  refine zC ?_
  refine cr <| s_ Qa <| s_ Qr <| s_ Qn <| s_ Qa <| s_ Qr <| s_ Qn <| s_ Y9 <| s_ Wg ?_
  refine QJ (FnH.of_le ?_ (Zj m.frm false (min (QW n) (m.index - 1)) (by omega) hw1)) (fun r H' ⟨hr, h3⟩ => ?_)
  ·exact zM
  ·subst hr
   refine zC ?_
   refine zR ?_
   refine rh kR ⟨rfl, ?_⟩ (Le.refl _)
   have hno' : QW n < m.index ∨ ¬ Yi n m.index = m.logTerm := hno
   rw [UH, if_neg hlt, if_neg hlo', if_pos hno']
   exact h3
 intro hno
 have hno' : ¬ (QW n < m.index ∨ ¬ Yi n m.index = m.logTerm) := hno
 refine zC ?_
 refine cr <| s_ Qr <| s_ Qn ?_
 (first | refine s_ QP ?_ | refine s_ QO ?_)
 refine s_ Qa <| zC ?_
 apply Qo (σ := Nat × Qc) (ok := fun s => s.1 ≤ m.entries.length ∧ WkH b { Q1 n with log := XD n m s.1 } out s.2) (env := fun s => [(68, ei (s.1 : Nat)), (67, ei ((m.entries.map een).length : Nat)), (66, Zn m.entries), (3, .adr (.agg (msC m (Zn m.entries)))), (0, pW b)])
  (heap := fun s => s.2) (μ := fun s => m.entries.length - s.1) (s0 := (0, (b, ⟨tW, wkC (Q1 n) (.slice p (n.log.map een).length c) (.slice q (out.map ms).length d), 23⟩) :: (Hl ++ (Ho ++ []))))
 ·exact ⟨Nat.zero_le _, hw1⟩
 ·exact eL
 ·exact kR
 rintro ⟨i, H⟩ ⟨hi, hw⟩
 simp only at hi hw
 clear h1 h2 hw1
 obtain ⟨vl, vo, Hl, Ho, h1, h2, rfl⟩ := hw
 simp only at h1
 obtain ⟨p, c, rfl⟩ := h1.len
 obtain ⟨q, d, rfl⟩ := h2.len
 have hlk := VC n m i
 have hqb : (Q1 n).base = n.base := rfl
 refine zC ?_
 refine cr <| s_ QR <| zC ?_
 refine ci ?_ ?_
 ·intro hlt2
  simp only [List.length_map] at hlt2
  have hix : i < m.entries.length := by omega
  have hge : m.entries.getD i default = m.entries[i] := by simp [hix]
  refine zC ?_
  refine cr <| s_ Qa ?_
  (first | refine s_ (Xg hix) ?_ | refine s_ (Xg hix2) ?_ | refine s_ YK ?_ | refine s_ ZK ?_)
  (first | refine s_ YP ?_ | refine s_ Q7 ?_)
  refine XX fun b7 _ => ?_
  refine s_ Qb <| Qw ?_
  refine zC ?_
  refine ca [0, 1, 2, 3, 4, 5, 6, 7, 8, 9, 10] [] <| a_ (fun _ => Qr) <| a_ (fun _ => Qn) <| a_ (fun _ => Qa) <| a_ (fun _ => Qf) <| a_ (fun _ => Qd) <| a_ (fun _ => Qd) <| QF ?_
  refine a_ (fun _ => Y9) <| a_ (fun _ => Qa) <| a_ (fun _ => Q0) <| a_ (fun _ => Qb) ?_
  apply an
  refine zC ?_
  rw [hqb]
  generalize hk : m.index - n.base + (i : Nat) = k
  have hk0 : 0 ≤ k := by omega
  obtain ⟨bl, hbl⟩ := h1.at
  refine zC ?_
  refine ca [0, 1, 2, 3, 4, 5, 6, 7, 8, 9, 10, 11, 12, 13, 14, 15, 16, 17, 18, 19, 20, 21] [] <| a_ (fun _ => Qa) <| a_ (fun _ => Qa) <| a_ (fun _ => Qf) <| a_ (fun _ => Qd) <| a_ (fun _ => Qd) <| QF ?_
  (first | refine a_ (fun _ => QP) ?_ | refine a_ (fun _ => QO) ?_)
  refine a_ (fun _ => QR) <| a_ (fun _ => Qa) <| Qz (fun _ hg => Qa) ?_
  refine Qz (fun _ hg => Qf (hx := u_ hg)) ?_
  refine Qz (fun _ hg => Qd (hx := u_ hg)) ?_
  refine Qz (fun _ hg => Qd (hx := u_ hg)) ?_
  refine Zi ?_
  refine Qz (fun _ hg => Qa) ?_
  have hkl : k < (((XD n m i).map een).length : Nat) → k.toNat < (XD n m i).length := fun h => by rw [List.length_map] at h; omega
  refine Qz (p := k < (((XD n m i).map een).length : Nat)) (fun _ hg => BV (hbl (by have := hkl hg; omega)).1 (hx := u_ hg) (hy := u_ hg)) ?_
  refine Qz (fun _ hg => Qd (hx := u_ hg)) ?_
  refine Cy (p := k < (((XD n m i).map een).length : Nat)) (b := bl) (fun hg => List.mem_cons_of_mem _ (List.mem_cons_of_mem _ (List.mem_append_left _ (hbl (by have := hkl hg; omega)).2))) (fun hg => Ci (k := 3) (j := 0) (DI _) (EI _ (hkl hg)) (by decide) rfl) ?_
  refine Qz (fun _ hg => Qd) ?_
  refine Zi ?_
  refine Qz (fun _ hg => XB (hx := u_ hg) (hy := u_ hg)) ?_
  refine a_ (fun _ => XW) ?_
  apply an
  refine zC ?_
  refine ci ?_ ?_
  ·intro hsame
   have hs : XD n m (i + 1) = XD n m i := by rw [XD, hk, hge, if_pos ⟨by have := hsame.1; rw [List.length_map] at this; exact this, hsame.2⟩]
   refine zC ?_
   refine cr <| s_ Q0 <| s_ Qa <| zC ?_
   refine ⟨(i + 1, _), ⟨hix, ?_⟩, by show m.entries.length - (i + 1) < m.entries.length - i; omega, ⟨Qi (by rfl) (Le.refl _), eL⟩, kS kR⟩
   simp only
   rw [hs]
   exact ⟨_, _, Hl, Ho, h1, h2, rfl⟩
  ·intro hdiff
   have hs : XD n m (i + 1) = (XD n m i).take (min k (XD n m i).length).toNat ++ [m.entries[i]] := by
    rw [XD, hk, hge, if_neg fun h => hdiff ⟨by rw [List.length_map]; exact h.1, h.2⟩]
   have hcap : ((XD n m i).map een).length ≤ c := OSl.cap h1
   refine zC ?_
   refine ca [0, 1, 2, 3, 4, 5, 6, 7, 8, 9, 10, 11, 12, 13, 14, 15, 16, 17, 18, 19, 20, 21] [17, 21] <| a_ (fun _ => Qa) <| a_ (fun _ => Qa) <| a_ (fun _ => Qf) <| a_ (fun _ => Qd) <| a_ (fun _ => Qd) <| QF ?_
   refine a_ (fun _ => Qa) <| a_ (fun _ => Qa) <| a_ (fun _ => Qf) <| a_ (fun _ => Qd) <| a_ (fun _ => Qd) <| QF ?_
   (first | refine a_ (fun _ => QP) ?_ | refine a_ (fun _ => QO) ?_)
   refine a_ (fun _ => Wg) <| a_ (fun _ => Ef (v := .slice p (min k (((XD n m i).map een).length : Nat)).toNat c) hcap (by exact h1.sub0 _)) <| Yk ?_
   refine a_ (fun _ => Z0) ?_
   refine Ay (A := [_, _]) (B := Ho ++ []) (ys := [een m.entries[i]]) h1 (DI _) (min k ((XD n m i).length : Nat)).toNat (fun v' Hl' h1' => ⟨zd, ?_⟩) (hx := ?_)
   ·refine zD ?_
    have h1 : OE ((XD n m i).take (min k (XD n m i).length).toNat ++ [m.entries[i]]) v' Hl' := by unfold OE; rw [List.map_append, List.map_take]; exact h1'
    clear h1'
    obtain ⟨p, c, rfl⟩ := h1.len
    refine a_ (fun _ => Qf) <| a_ (fun _ => Qd) <| a_ (fun _ => Qd) <| XH ?_
    apply an
    refine zC ?_
    refine cr <| s_ Q0 <| s_ Qa <| zC ?_
    refine ⟨(i + 1, _), ⟨hix, ?_⟩, by show m.entries.length - (i + 1) < m.entries.length - i; omega, ⟨Qi (by rfl) (Le.refl _), eL⟩, kS kR⟩
    simp only
    rw [hs]
    exact ⟨_, _, Hl', Ho, h1, h2, rfl⟩
   ·refine Eq.trans (zl) ?_
    have e : (min k (((XD n m i).map een).length : Nat)).toNat = min (min k ((XD n m i).length : Nat)).toNat ((XD n m i).map een).length := by rw [List.length_map]; omega
    rw [e]
 ·intro hlt2
  simp only [List.length_map] at hlt2
  have : i = m.entries.length := by omega
  subst this
  have hel : ((m.entries.map een).length : Int) = (m.entries.length : Int) := by simp
  refine zC ?_
  refine cr <| s_ Qr <| s_ Qn <| s_ Qr <| s_ Qn ?_
  (first | refine s_ QP ?_ | refine s_ QO ?_)
  refine s_ Q0 <| s_ Qb <| zC ?_
  refine ca [0, 1, 2, 3, 4, 5, 6, 7, 8, 9, 10, 11, 12, 13, 14] [14] <| a_ (fun _ => Qa) <| a_ (fun _ => Qa) <| a_ (fun _ => Qf) <| a_ (fun _ => Qd) <| a_ (fun _ => Qd) <| QF ?_
  refine a_ (fun _ => Qr) <| a_ (fun _ => Qn) <| a_ (fun _ => Qa) <| a_ (fun _ => Wg) <| a_ (fun _ => Lp) <| a_ (fun _ => Qf) <| a_ (fun _ => Qd) <| a_ (fun _ => Qd) <| XH ?_
  apply an
  refine zC ?_
  refine cr <| s_ Qa <| s_ Qr <| s_ Qn <| s_ Qa ?_
  rw [hel]
  refine QJ (FnH.of_le ?_ (Zj m.frm true (m.index + m.entries.length) (by omega) (show WkH b (Ii n m) out _ from ⟨_, _, Hl, Ho, h1, h2, rfl⟩))) (fun r H' ⟨hr, h3⟩ => ?_)
  ·exact zM
  ·subst hr
   refine zC ?_
   refine rhn kR ⟨rfl, ?_⟩ (Le.refl _)
   rw [UH, if_neg hlt, if_neg hlo', if_neg hno']
   exact h3
end Go.Proofs.YtjbokbikkcfjjaaGreat
