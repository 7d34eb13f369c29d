/-
  replica: what most members hold is committed.
-/
import Derived.Test.YtjbokbikkcfjjaaGreatAao
set_option maxRecDepth 16000
set_option maxHeartbeats 8000000
set_option linter.all false
namespace Go.Proofs.YtjbokbikkcfjjaaGreat
open Go.Cap
attribute [local irreducible] POp Qf BW EOp Sim FnH T.gp
def Zj (f : F5) (idx : Int) : Nat → Int
 | 0 => 0
 | k + 1 => Zj f idx k + (if idx ≤ f.get k then 2 ^ k else 0)
theorem W0 (f : F5) (idx : Int) : ∀ k, 0 ≤ Zj f idx k ∧ Zj f idx k < 2 ^ k
 | 0 => by simp [Zj]
 | k + 1 => by
  have := W0 f idx k
  rw [Zj, Int.pow_succ]
  split <;> omega
theorem RX {x : Int} : ∀ {k : Nat}, k < 5 → 0 ≤ x → x < 2 ^ k → bOr .i64 x (Y8 .i64 1 (IntKind.u64.wrap k)) = x + 2 ^ k := by
 have key : ∀ k : Fin 5, ∀ i : Fin 32, (i.val : Int) < 2 ^ k.val → bOr .i64 i.val (Y8 .i64 1 (IntKind.u64.wrap (k.val : Nat))) = i.val + 2 ^ k.val := by decide
 intro k hk h0 h1
 have h2 : (2 : Int) ^ k ≤ 16 := by
  rcases (by omega : k = 0 ∨ k = 1 ∨ k = 2 ∨ k = 3 ∨ k = 4) with rfl | rfl | rfl | rfl | rfl <;> decide
 obtain ⟨i, rfl⟩ := Es h0 (by omega)
 exact key ⟨k, hk⟩ i h1
def f5C (f : F5) : List T := [ei f.a, ei f.b, ei f.c, ei f.d, ei f.e]
theorem BI (f : F5) {k : Nat} (hk : k < 5) : (f5C f)[(k : Int).toNat]? = some (ei (f.get k)) := by
 rcases (by omega : k = 0 ∨ k = 1 ∨ k = 2 ∨ k = 3 ∨ k = 4) with rfl | rfl | rfl | rfl | rfl <;> rfl
def Yq (n : Nd) (conf : Int) : Nat → Int
 | 0 => n.commit
 | k + 1 => if (n.log.getD k default).term = n.term ∧ UL conf (Zj n.mtch (n.base + k + 1) 5) then max (Yq n conf k) (n.base + k + 1) else Yq n conf k
def Q5 (n : Nd) : Nd :=
 if ¬ isF (QI n).2 n.id ∧ (QI n).1 ≤ Yq n (QI n).2 n.log.length then { n with commit := Yq n (QI n).2 n.log.length, role := 0, wait := 0 } else { n with commit := Yq n (QI n).2 n.log.length }
theorem Eu (l : List En) {k : Nat} (h : k < l.length) : (l.map een)[k]? = some (een (l.getD k default)) := by simp [h]
theorem O7 (conf id : Int) (h0 : 0 ≤ id) (h1 : id < 5) (h2 : 0 ≤ conf) (h3 : conf ≤ 31) : FnP Tryz.prog 107 [ei conf, ei id] (fun r => r = .v (.bool (decide (isF conf id = true)))) := by
 have := Cl conf id h0 h1 h2 h3
 simpa [eB] using this
theorem WN {b : Nat} {n : Nd} {out : List Ms} {H : Qb} (hn : Bd n) (hw : WkH b n out H) :
  FnH Tryz.prog 144 [pW b] H (fun r H' => r = .tup [] ∧ WkH b (Q5 n) out H') := by
 have hC := Ex n (by have := hn.log; omega) (by have := hn.base0; omega) (by have := hn.base1; omega)
 have hlog := hn.log
 have hb0 := hn.base0
 have hb1 := hn.base1
 refine fe Tryz.func144 fun S0 w0 => ?_
 show Sim _ _ [(0, pW b)] _ _
 obtain ⟨vl, vo, Hl, Ho, h1, h2, rfl⟩ := hw
 obtain ⟨p, c, rfl⟩ := h1.len
 obtain ⟨q, d, rfl⟩ := h2.len
 refine zC ?_
 refine cr <| s_ Qa <| s_ Qe <| s_ Qd <| s_ (Vi hC (Qg.cons (Ll h1 (by intro p hp; simp [hp]) List.mem_cons_self) Qg.nil)) <| s_ Qa <| s_ QL <| s_ QL <| s_ Qc <| s_ Qc <| zC ?_
 refine cr <| s_ Qa <| s_ Qe <| s_ Qd <| s_ Qd <| s_ Qn ?_
 (first | refine s_ QR ?_ | refine s_ QN ?_)
 refine s_ Qa <| zC ?_
 have hc0 := hn.conf0
 have hc1 := hn.conf1
 generalize hcf : (QI n).2 = conf at hc0 hc1 ⊢
 generalize hat : (QI n).1 = at_
 apply Qu (σ := Nat) (ok := fun k => k ≤ n.log.length) (env := fun k => [(23, ei (k : Nat)), (22, ei ((n.log.map een).length : Nat)), (21, .v (.slice p (n.log.map een).length c)), (2, ei at_), (3, ei conf), (0, pW b)])
  (heap := fun k => (b, ⟨tW, wkC { n with commit := Yq n conf k } (.slice p (n.log.map een).length c) (.slice q (out.map ms).length d), 23⟩) :: (Hl ++ (Ho ++ []))) (μ := fun k => n.log.length - k) (s0 := 0)
 ·exact Nat.zero_le _
 ·exact eL
 ·exact kR
 intro k hk
 refine zC ?_
 refine cr <| s_ QS <| zC ?_
 refine ci ?_ ?_
 ·intro hlt
  simp only [List.length_map] at hlt
  have hkl : k < n.log.length := by omega
  have hrow : ∃ bl, p = some ⟨bl, 0, none⟩ ∧ Hl = [(bl, (⟨tE, (n.log.map een).flatMap T.cells, c * 3⟩ : Blk))] := by
   rcases h1 with ⟨h, _⟩ | ⟨bl, c', e, _, rfl⟩
   ·have : n.log = [] := by simpa using h
    rw [this] at hkl; simp at hkl
   ·cases e; exact ⟨bl, rfl, rfl⟩
  obtain ⟨bl, rfl, rfl⟩ := hrow
  refine zC ?_
  refine cr <| s_ Qa ?_
  (first | refine s_ (Xt hix) ?_ | refine s_ (Xt hix2) ?_ | refine s_ Zg ?_ | refine s_ ZX ?_)
  refine s_ (Xf (hc := Xe.flat (GG n.log) (Eu n.log hkl))) ?_
  refine Yp fun b5 _ => ?_
  refine s_ Qc <| QC ?_
  refine zC ?_
  refine cr <| s_ Qa <| s_ Qe <| s_ Qd <| s_ Qd <| s_ Qn <| s_ Qa <| s_ QZ <| s_ QZ <| s_ Qc <| s_ Qc <| zC ?_
  refine cr <| s_ Qa <| s_ Qe <| s_ Qd <| s_ Qd <| s_ Xf <| s_ Qa <| zC ?_
  apply Qu (σ := Nat) (ok := fun j => j ≤ 5) (env := fun j => [(41, ei (j : Nat)), (40, .agg (f5C n.mtch)), (7, ei (Zj n.mtch (n.base + k + 1) j)), (6, ei (n.base + k + 1)), (5, .v (.pointer (some ⟨b5, 0, none⟩))), (23, ei (k : Nat)), (22, ei ((n.log.map een).length : Nat)), (21, .v (.slice (some ⟨bl, 0, none⟩) (n.log.map een).length c)), (2, ei at_), (3, ei conf), (0, pW b)])
   (heap := fun _ => (b5, ⟨tE, (een (n.log.getD k default)).cells, 3⟩) :: (b, ⟨tW, wkC { n with commit := Yq n conf k } (.slice (some ⟨bl, 0, none⟩) (n.log.map een).length c) (.slice q (out.map ms).length d), 23⟩) :: ([(bl, (⟨tE, (n.log.map een).flatMap T.cells, c * 3⟩ : Blk))] ++ (Ho ++ []))) (μ := fun j => 5 - j) (s0 := 0)
  ·exact Nat.zero_le _
  ·exact eL
  ·exact kR
  ·intro j hj
   refine zC ?_
   refine cr <| s_ QS <| zC ?_
   refine ci ?_ ?_
   ·intro hj5
    have hj5' : j < 5 := by omega
    have ix_a := BI n.mtch hj5'
    have hbd := W0 n.mtch (n.base + k + 1) j
    have hwj := Jb (x := (j : Nat)) (by omega) (by omega)
    have hor := RX hj5' hbd.1 hbd.2
    refine zC ?_
    refine cr <| s_ Qa <| s_ (B0 (by first | exact ix_a | rfl)) <| s_ Qc <| s_ Qc <| zC ?_
    refine cr <| s_ Qa <| s_ Qa <| s_ UR <| zC ?_
    refine ci ?_ ?_
    ·intro hge
     have hs : Zj n.mtch (n.base + k + 1) (j + 1) = bOr .i64 (Zj n.mtch (n.base + k + 1) j) (Y8 .i64 1 (IntKind.u64.wrap j)) := by rw [hor, Zj, if_pos hge]
     refine zC ?_
     refine cr <| s_ Qa <| s_ Qa <| s_ Yc <| s_ Uc <| s_ UK <| s_ Qc <| zC ?_
     refine cr <| s_ QZ <| s_ Qa <| zC ?_
     exact ⟨j + 1, by omega, by show 5 - (j + 1) < 5 - j; omega, ⟨Qj (by rfl) (Le.refl _), Qj (by (exact zG)) (Le.refl _), Qj (by (exact zG)) (Le.of_eq (by rw [hs]; rfl)), eL⟩, kR⟩
    ·intro hge
     have hs : Zj n.mtch (n.base + k + 1) (j + 1) = Zj n.mtch (n.base + k + 1) j := by rw [Zj, if_neg hge]; omega
     refine zC ?_
     refine cr <| s_ QZ <| s_ Qa <| zC ?_
     exact ⟨j + 1, by omega, by show 5 - (j + 1) < 5 - j; omega, ⟨Qj (by rfl) (Le.refl _), Qj (by (exact zG)) (Le.refl _), Qj (by (exact zG)) (Le.of_eq (by rw [hs])), eL⟩, kR⟩
   ·intro hj5
    have : j = 5 := by omega
    subst this
    have hm5 := W0 n.mtch (n.base + k + 1) 5
    have hmost := Ln conf (Zj n.mtch (n.base + k + 1) 5) hm5.1 (by omega) hc0 hc1
    refine zC ?_
    refine ca [0, 1, 2, 3, 4, 5, 6, 7, 8, 9, 10, 11, 12] [] <| a_ (fun _ => Qd) <| QG ?_
    refine a_ (fun _ => Qa) <| a_ (fun _ => Qe) <| a_ (fun _ => Qd) <| a_ (fun _ => Qd) <| QG ?_
    refine a_ (fun _ => XF) <| a_ (fun _ => Qa) <| QA (fun _ hg => Qa) ?_
    refine QA (fun _ hg => Qa) ?_
    refine QA (fun _ hg => QM (hmost) (ha' := by apply QK (u_ hg); apply QK (u_ hg); exact Xv)) ?_
    refine a_ (fun _ => XY) ?_
    apply an
    refine zC ?_
    refine ci ?_ ?_
    ·intro hc
     refine zC ?_
     refine cr <| s_ Qa <| s_ Qa <| s_ Qe <| s_ Qd <| s_ Qd <| s_ Qn <| s_ Qa <| s_ Mf <| s_ Qe <| s_ Qd <| s_ Qd <| QC ?_
     refine zC ?_
     refine cr <| s_ QZ <| s_ Qa <| zC ?_
     refine ⟨k + 1, by omega, by show n.log.length - (k + 1) < n.log.length - k; omega, ⟨Qj (by rfl) (Le.refl _), eL⟩, ?_⟩
     have hs : Yq n conf (k + 1) = max (Yq n conf k) (n.base + k + 1) := by rw [Yq, if_pos ⟨hc.1, decide_eq_true hc.2⟩]
     dsimp only
     rw [hs]
     exact kS kR
    ·intro hc
     refine zC ?_
     refine cr <| s_ QZ <| s_ Qa <| zC ?_
     refine ⟨k + 1, by omega, by show n.log.length - (k + 1) < n.log.length - k; omega, ⟨Qj (by rfl) (Le.refl _), eL⟩, ?_⟩
     have hs : Yq n conf (k + 1) = Yq n conf k := by rw [Yq, if_neg fun h => hc ⟨h.1, of_decide_eq_true h.2⟩]
     dsimp only
     rw [hs]
     exact kS kR
 ·intro hlt
  simp only [List.length_map] at hlt
  have : k = n.log.length := by omega
  subst this
  have hi := O7 conf n.id hn.id0 hn.id5 hc0 hc1
  refine zC ?_
  refine cr <| s_ Qa <| s_ Qa <| s_ Qe <| s_ Qd <| s_ Qd <| s_ Qn <| s_ (QM (hi)) <| s_ Ym <| s_ Qa <| gT (fun hg => Qa) ?_
  refine gT (fun hg => Qa) ?_
  refine gT (fun hg => Qe (hx := u_ hg)) ?_
  refine gT (fun hg => Qd (hx := u_ hg)) ?_
  refine gT (fun hg => Qd (hx := u_ hg)) ?_
  refine gT (fun hg => Qn (hx := u_ hg)) ?_
  refine gT (fun hg => Io (hx := u_ hg) (hy := u_ hg)) ?_
  refine s_ XY <| zC ?_
  refine ci ?_ ?_
  ·intro hc
   refine zC ?_
   refine cr <| s_ Qa <| s_ Qa <| s_ Qe <| s_ Qd <| s_ Qd <| QC ?_
   refine s_ Qe <| s_ Qd <| s_ Qd <| QC ?_
   refine zC ?_
   refine rhn kR ⟨rfl, ?_⟩ (Le.refl _)
   have e : Q5 n = { n with commit := Yq n conf n.log.length, role := 0, wait := 0 } := by rw [Q5, hcf, hat, if_pos hc]
   rw [e]
   exact ⟨_, _, Hl, Ho, h1, h2, rfl⟩
  ·intro hc
   refine zC ?_
   refine rhn kR ⟨rfl, ?_⟩ (Le.refl _)
   have e : Q5 n = { n with commit := Yq n conf n.log.length } := by rw [Q5, hcf, hat, if_neg hc]
   rw [e]
   exact ⟨_, _, Hl, Ho, h1, h2, rfl⟩
def VF (f : F5) (v : Int) : Nat → F5
 | 0 => f
 | k + 1 => (VF f v k).set k v
def Jm (n : Nd) : Nd := { n with role := 2, log := n.log ++ [⟨n.term, 0, []⟩], next := .all (n.base + (n.log.length + 1)), mtch := (F5.all 0).set n.id.toNat (n.base + (n.log.length + 1)) }
def Xs (n : Nd) : Nd := Q5 (Jm n)
theorem Ls (l : List En) (e : En) : ∀ k, k ≤ l.length → lc (l ++ [e]) k = lc l k
 | 0, _ => rfl
 | k + 1, h => by
  have hk : k < l.length := by omega
  have : (l ++ [e]).getD k default = l.getD k default := by simp [List.getD_eq_getElem?_getD, List.getElem?_append_left hk]
  rw [lc, lc, this, Ls l e k (by omega)]
theorem RB (n : Nd) (e : En) (he : e.conf = 0) (r : Int) (f g : F5) : QI { n with role := r, log := n.log ++ [e], next := f, mtch := g } = QI n := by
 have h1 : lc (n.log ++ [e]) (n.log ++ [e]).length = lc n.log n.log.length := by
  rw [List.length_append, List.length_singleton, lc]
  have : (n.log ++ [e]).getD n.log.length default = e := by simp [List.getD_eq_getElem?_getD]
  rw [this, if_neg (by simpa using he), Ls _ _ _ (Nat.le_refl _)]
 simp only [QI, h1]
theorem VP (n : Nd) : ∃ c r w, Q5 n = { n with commit := c, role := r, wait := w } := by
 unfold Q5
 split <;> exact ⟨_, _, _, rfl⟩
theorem Bd.commit {n : Nd} (h : Bd n) : Bd (Q5 n) := by
 obtain ⟨c, r, w, e⟩ := VP n
 rw [e]
 exact ⟨h.id0, h.id5, h.log, h.base0, h.base1, h.conf0, h.conf1⟩
theorem Bd.lead {n : Nd} (h : Bd n) (hl : n.log.length < 100000000) : Bd (Jm n) := by
 have hc : QI (Jm n) = QI n := RB n _ rfl _ _ _
 exact ⟨h.id0, h.id5, by simp [Jm]; omega, h.base0, h.base1, by rw [hc]; exact h.conf0, by rw [hc]; exact h.conf1⟩
theorem ZL (v : Int) : (ei v).cells.length = 1 := rfl
theorem Jp (n : Nd) (vl vo : Value) : (wkC n vl vo).length = 23 := rfl
theorem Gg {n : Nd} {vl vo : Value} {k : Nat} (hk : k < 5) (v : Int) : lay (wkC n vl vo) (0 + 0 + 12 + (k : Int).toNat * 1) (T.v (.int .i64 v)).cells = wkC { n with next := n.next.set k v } vl vo := by
 rcases (by omega : k = 0 ∨ k = 1 ∨ k = 2 ∨ k = 3 ∨ k = 4) with rfl | rfl | rfl | rfl | rfl <;> rfl
theorem Gi {n : Nd} {vl vo : Value} {k : Nat} (hk : k < 5) (v : Int) : lay (wkC n vl vo) (0 + 0 + 17 + (k : Int).toNat * 1) (T.v (.int .i64 v)).cells = wkC { n with mtch := n.mtch.set k v } vl vo := by
 rcases (by omega : k = 0 ∨ k = 1 ∨ k = 2 ∨ k = 3 ∨ k = 4) with rfl | rfl | rfl | rfl | rfl <;> rfl
theorem D5 {b : Nat} {n : Nd} {out : List Ms} {H : Qb} (hn : Bd n) (hx : ∀ i, n.next.get i ≤ 100000000000) (ho : out.length ≤ 900) (hw : WkH b n out H) :
  FnH Tryz.prog 104 [pW b, .clo 105 [pW b] []] H (fun r H' => r = .tup [] ∧ WkH b n (out ++ X6 n (Z9 n) 5) H') := by
 have hO := Wr (Hc := []) (Z9 n) 105 [pW b] [] (by rfl) hn ho hw (fun to out' H2 h0 h5 ho2 hw2 => by
  have := OL to h0 h5 (by have := hn.log; omega) (by have := hn.base0; omega) (by have := hn.base1; omega) (hx _) (by omega) hw2
  have := this.mono (Φ' := fun _ H' => ∃ H1, H' = H1 ++ [] ∧ WkH b n (out' ++ [Z9 n to]) H1) fun r H' h => ⟨H', by simp, h.2⟩
  rw [← List.append_nil H2] at this
  exact this)
 rw [List.append_nil] at hO
 exact hO.mono fun r H' ⟨h1, H1, h2, h3⟩ => ⟨h1, by rw [h2, List.append_nil]; exact h3⟩
theorem F5.get_all (v : Int) (i : Nat) : (F5.all v).get i = v := by
 unfold F5.get F5.all
 split <;> rfl
theorem Dm {n : Nd} {i : Nat} : (Xs n).next.get i = n.base + (n.log.length + 1) := by
 obtain ⟨c, r, w, e⟩ := VP (Jm n)
 rw [Xs, e]
 exact F5.get_all _ _
theorem D9 {b : Nat} {n : Nd} {out : List Ms} {H : Qb} (hn : Bd n) (hl : n.log.length < 100000000) (ho : out.length ≤ 900) (hw : WkH b n out H) :
  FnH Tryz.prog 147 [pW b] H (fun r H' => r = .tup [] ∧ WkH b (Xs n) (out ++ X6 (Xs n) (Z9 (Xs n)) 5) H') := by
 have hb0 := hn.base0
 have hb1 := hn.base1
 have hi0 := hn.id0
 have hi5 := hn.id5
 refine fe Tryz.func147 fun S0 w0 => ?_
 show Sim _ _ [(0, pW b)] _ _
 obtain ⟨vl, vo, Hl, Ho, h1, h2, rfl⟩ := hw
 obtain ⟨p, c, rfl⟩ := h1.len
 obtain ⟨q, d, rfl⟩ := h2.len
 refine zC ?_
 refine cr <| s_ Qa <| s_ Qe <| s_ Qd <| s_ Qd <| QC ?_
 refine zC ?_
 refine zC ?_
 refine ca [0, 1, 2, 3, 4, 5, 6, 7, 8, 9, 10, 11, 12, 13, 14, 15, 16, 17] [13, 17] <| a_ (fun _ => Qa) <| a_ (fun _ => Qa) <| a_ (fun _ => Qe) <| a_ (fun _ => Qd) <| a_ (fun _ => Qd) <| QG ?_
 refine a_ (fun _ => Qa) <| a_ (fun _ => Qe) <| a_ (fun _ => Qd) <| a_ (fun _ => Qd) <| QG ?_
 refine a_ (fun _ => ZH 3 [_, _, _]) <| a_ (fun _ => JN) ?_
 refine C5 (ho := h1) (A := [_]) (B := Ho ++ []) (GG n.log) (fun v' Hl' h1' => ⟨zd, ?_⟩)
 refine zD ?_
 have h1 : OE (n.log ++ [⟨n.term, 0, []⟩]) v' Hl' := by unfold OE; rw [List.map_append]; exact h1'
 clear h1'
 obtain ⟨p, c, rfl⟩ := h1.len
 refine a_ (fun _ => Qe) <| a_ (fun _ => Qd) <| a_ (fun _ => Qd) <| XH ?_
 apply an
 refine zC ?_
 have hL := Jt { n with role := 2, log := n.log ++ [⟨n.term, 0, []⟩] } (by simp; omega) (by simp only; omega) (by simp only; omega)
 refine zC ?_
 refine cr <| s_ Qa <| s_ Qe <| s_ Qd <| s_ Xf <| s_ (Vi hL (Qg.cons (QB.agg (Q9 _ (h1.lend (by intro p hp; simp [hp])))) Qg.nil)) <| s_ Qa <| s_ QL <| s_ QL <| s_ Qc <| s_ Qc <| zC ?_
 refine cr <| s_ Qa <| zC ?_
 have hLF : Q0 { n with role := 2, log := n.log ++ [⟨n.term, 0, []⟩] } = n.base + (n.log.length + 1) := by simp [Q0]
 rw [hLF]
 generalize hv : n.base + (n.log.length + 1) = v
 apply Qu (σ := Nat) (ok := fun k => k ≤ 5) (env := fun k => [(34, ei (k : Nat)), (2, ei v), (0, pW b)])
  (heap := fun k => (b, ⟨tW, wkC { n with role := 2, log := n.log ++ [⟨n.term, 0, []⟩], next := VF n.next v k, mtch := VF n.mtch 0 k } (.slice p ((n.log ++ [(⟨n.term, 0, []⟩ : En)]).map een).length c) (.slice q (out.map ms).length d), 23⟩) :: (Hl' ++ (Ho ++ []))) (μ := fun k => 5 - k) (s0 := 0)
 ·exact Nat.zero_le _
 ·exact eL
 ·exact kR
 ·intro k hk
  refine zC ?_
  refine cr <| s_ QS <| zC ?_
  refine ci ?_ ?_
  ·intro hlt
   have hk5 : k < 5 := by omega
   refine zC ?_
   refine cr <| s_ Qa <| s_ Qc <| zC ?_
   refine ca [0, 1, 2, 3, 4, 5, 6, 7, 8, 10, 11, 12, 9, 13, 14] [9, 14] <| a_ (fun _ => Qa) <| a_ (fun _ => Qa) <| a_ (fun _ => Qa) <| a_ (fun _ => Qa) <| a_ (fun _ => Qa) <| a_ (fun _ => Qe) <| a_ (fun _ => Qd) <| a_ (fun _ => Qd) <| a_ (fun _ => ZY) <| a_ (fun _ => Qe) <| a_ (fun _ => Qd) <| a_ (fun _ => Qd) ?_
   refine GU ?_ ?_
   ·simp only [Jp, ZL]; omega
   refine a_ (fun _ => ZY) ?_
   refine GU ?_ ?_
   ·simp only [Jp, ZL, Iz, Value.cells, T.cells, List.length_map]; simp; omega
   apply an
   refine zC ?_
   refine cr <| s_ QZ <| s_ Qa <| zC ?_
   refine ⟨k + 1, by omega, by show 5 - (k + 1) < 5 - k; omega, ⟨Qj (by rfl) (Le.refl _), eL⟩, ?_⟩
   show Qh ((b, ⟨_, lay (lay _ _ (T.v (.int .i64 v)).cells) _ (T.v (.int .i64 0)).cells, _⟩) :: _) _
   rw [Gg hk5, Gi hk5]
   exact kR
  ·intro hlt
   have : k = 5 := by omega
   subst this
   refine zC ?_
   refine ca [0, 1, 2, 3, 4, 5, 6, 7, 8, 9, 10, 11] [11] <| a_ (fun _ => Qa) <| a_ (fun _ => Qa) <| a_ (fun _ => Qe) <| a_ (fun _ => Qd) <| a_ (fun _ => Qd) <| QG ?_
   refine a_ (fun _ => Qa) <| a_ (fun _ => Qe) <| a_ (fun _ => Qd) <| a_ (fun _ => Qd) <| a_ (fun _ => ZY) ?_
   refine GU ?_ ?_
   ·simp only [Jp, ZL]; omega
   apply an
   refine zC ?_
   have hm : lay (wkC { n with role := 2, log := n.log ++ [⟨n.term, 0, []⟩], next := VF n.next v 5, mtch := VF n.mtch 0 5 } (.slice p ((n.log ++ [(⟨n.term, 0, []⟩ : En)]).map een).length c) (.slice q (out.map ms).length d)) (0 + 0 + 17 + n.id.toNat * 1) (ei v).cells = wkC (Jm n) (.slice p ((n.log ++ [(⟨n.term, 0, []⟩ : En)]).map een).length c) (.slice q (out.map ms).length d) := by
    obtain ⟨i, hi⟩ : ∃ i : Nat, n.id = (i : Int) := ⟨n.id.toNat, by omega⟩
    rw [Jm, hv, hi]
    rcases (by omega : i = 0 ∨ i = 1 ∨ i = 2 ∨ i = 3 ∨ i = 4) with rfl | rfl | rfl | rfl | rfl <;> rfl
   have hw : WkH b (Jm n) out ((b, ⟨tW, lay (wkC { n with role := 2, log := n.log ++ [⟨n.term, 0, []⟩], next := VF n.next v 5, mtch := VF n.mtch 0 5 } (.slice p ((n.log ++ [(⟨n.term, 0, []⟩ : En)]).map een).length c) (.slice q (out.map ms).length d)) (0 + 0 + 17 + n.id.toNat * 1) (ei v).cells, 23⟩) :: (Hl' ++ (Ho ++ []))) := by
    rw [hm]
    exact ⟨_, _, Hl', Ho, h1, h2, rfl⟩
   have hnl := hn.lead hl
   have hnc := hnl.commit
   refine zC ?_
   refine cr <| s_ Qa ?_
   refine QP (WN hnl hw) (fun r H' ⟨hr, hw'⟩ => ?_)
   subst hr
   refine zC ?_
   refine cr <| s_ Qa <| s_ Qa <| s_ Ud ?_
   refine QP (D5 hnc (fun i => by have := Dm (n := n) (i := i); unfold Xs at this; rw [this]; omega) ho hw') (fun r H' ⟨hr, hw''⟩ => ?_)
   subst hr
   refine zC ?_
   exact rhn kR ⟨rfl, hw''⟩ (Le.refl _)
def GS (idx term : Int) : Ms := ⟨1, 0, 0, 0, idx, term, 0, 0, false, [], []⟩
def Q8 (n : Nd) : Nd := { n with role := 1, vote := n.id, wait := 0, term := n.term + 1, votes := 2 ^ n.id.toNat }
def YF (n : Nd) : Nd × List Ms := if UL (QI n).2 (2 ^ n.id.toNat) then (Xs (Q8 n), X6 (Xs (Q8 n)) (Z9 (Xs (Q8 n))) 5)
 else (Q8 n, X6 (Q8 n) (fun to => X2 (Q8 n) to (GS (Q0 n) (Yj n (Q0 n)))) 5)
theorem CX {b b1 b2 b3 : Nat} {n : Nd} {out : List Ms} {H : Qb} (to idx term : Int) (hb : out.length ≤ 1000) (hw : WkH b n out H) :
  FnH Tryz.prog 148 ([] ++ [ei to] ++ [pW b1, pW b2, pW b3]) (H ++ [(b3, ⟨3, [ei term], 1⟩), (b2, ⟨3, [ei idx], 1⟩), (b1, ⟨164, [pW b], 1⟩)])
   (fun _ H' => ∃ H1, H' = H1 ++ [(b3, ⟨3, [ei term], 1⟩), (b2, ⟨3, [ei idx], 1⟩), (b1, ⟨164, [pW b], 1⟩)] ∧ WkH b n (out ++ [X2 n to (GS idx term)]) H1) := by
 refine fe Tryz.func148 fun S0 w0 => ?_
 show Sim _ _ [(0, ei to), (1, pW b1), (2, pW b2), (3, pW b3)] _ _
 refine zC ?_
 refine cr <| s_ Qn <| s_ Qa <| s_ Qn <| s_ Qn <| s_ (ZH 11 [_, _, _, _, _, _, _, _, _, _, _]) ?_
 refine Q4 (FnH.of_le ?_ (Jr to (GS idx term) hb hw)) (.refl _) (fun r H' ⟨hr, h3⟩ => ?_)
 ·exact zM
 ·subst hr
  refine zC ?_
  exact rhn kR ⟨_, rfl, h3⟩ (Le.refl _)
theorem Bd.stand {n : Nd} (h : Bd n) : Bd (Q8 n) := ⟨h.id0, h.id5, h.log, h.base0, h.base1, h.conf0, h.conf1⟩
theorem Oc {b : Nat} {n : Nd} {out : List Ms} {H : Qb} (hn : Bd n) (hl : n.log.length < 100000000) (ht0 : 0 ≤ n.term) (ht1 : n.term ≤ 1000000000000) (ho : out.length ≤ 900) (hw : WkH b n out H) :
  FnH Tryz.prog 108 [pW b] H (fun r H' => r = .tup [] ∧ WkH b (YF n).1 (out ++ (YF n).2) H') := by
 have hb0 := hn.base0
 have hb1 := hn.base1
 have hi0 := hn.id0
 have hi5 := hn.id5
 have hC := U7 (Q8 n) (by show n.log.length ≤ _; omega) (by show _ ≤ n.base; omega) (by show n.base ≤ _; omega)
 have hL := Jt (Q8 n) (by show n.log.length ≤ _; omega) (by show _ ≤ n.base; omega) (by show n.base ≤ _; omega)
 have hsh : Y8 .i64 1 (IntKind.u64.wrap n.id) = 2 ^ n.id.toNat ∧ 0 ≤ (2 : Int) ^ n.id.toNat ∧ (2 : Int) ^ n.id.toNat ≤ 31 := by
  rcases five hi0 hi5 with h | h | h | h | h <;> rw [h] <;> decide
 have hwi : IntKind.u64.wrap n.id = n.id := Jb hi0 (by omega)
 have hM := Ln (QI n).2 (2 ^ n.id.toNat) hsh.2.1 hsh.2.2 hn.conf0 hn.conf1
 refine fe Tryz.func108 fun S0 w0 => ?_
 show Sim _ _ [(0, pW b)] _ _
 obtain ⟨vl, vo, Hl, Ho, h1, h2, rfl⟩ := hw
 obtain ⟨p, c, rfl⟩ := h1.len
 obtain ⟨q, d, rfl⟩ := h2.len
 refine zC ?_
 apply cr
 refine LF fun b1 _ => ?_
 refine zC ?_
 refine ca [0, 1, 2, 3, 4, 5, 6, 7, 8, 9, 10, 11, 12, 13, 14, 15, 16, 17, 18, 19] [11, 15, 19] <| QG ?_
 refine QG ?_
 refine QG ?_
 refine QG ?_
 refine a_ (fun _ => Qe) <| a_ (fun _ => Qd) <| a_ (fun _ => Qd) <| QG ?_
 refine a_ (fun _ => Qe) <| a_ (fun _ => Qd) <| a_ (fun _ => Qd) <| XH ?_
 refine a_ (fun _ => Qe) <| a_ (fun _ => Qd) <| a_ (fun _ => Qd) <| XH ?_
 refine a_ (fun _ => Qe) <| a_ (fun _ => Qd) <| a_ (fun _ => Qd) <| XH ?_
 apply an
 refine zC ?_
 refine cr <| s_ Qn <| s_ Qe <| s_ Qd <| s_ Qd <| s_ Qn <| s_ QZ <| s_ Qe <| s_ Qd <| s_ Qd <| QC ?_
 refine zC ?_
 refine ca [0, 1, 2, 3, 4, 5, 6, 7, 8, 9, 10, 11] [11] <| QG ?_
 refine QG ?_
 refine a_ (fun _ => Qe) <| a_ (fun _ => Qd) <| a_ (fun _ => Qd) <| QG ?_
 refine a_ (fun _ => Yc) <| a_ (fun _ => Uc) <| a_ (fun _ => Qe) <| a_ (fun _ => Qd) <| a_ (fun _ => Qd) <| XH ?_
 apply an
 refine zC ?_
 rw [hsh.1]
 refine zC ?_
 refine ca [0, 1, 2, 3, 4, 5, 6, 7, 8, 9, 10] [] <| QG ?_
 refine a_ (fun _ => Qe) <| a_ (fun _ => Qd) <| YD ?_
 refine C6 (G := (b, _) :: (Hl ++ (Ho ++ []))) hC (Qg.cons (QB.agg (Q9 _ (h1.lend (by intro p hp; simp [hp])))) Qg.nil) ⟨[_], List.perm_append_comm (l₁ := [_])⟩ ?_
 refine QG ?_
 refine a_ (fun _ => Qe) <| a_ (fun _ => Qd) <| a_ (fun _ => Qd) <| QG ?_
 refine a_ (fun _ => QM (hM)) ?_
 apply an
 refine zC ?_
 have hw : WkH b (Q8 n) out ((b, ⟨tW, wkC (Q8 n) (.slice p (n.log.map een).length c) (.slice q (out.map ms).length d), 23⟩) :: (Hl ++ (Ho ++ []))) := ⟨_, _, Hl, Ho, h1, h2, rfl⟩
 refine ci ?_ ?_
 ·intro hc
  refine zC ?_
  refine cr <| s_ Qn ?_
  refine Q4 (Hr := [_]) (D9 hn.stand hl ho hw) (List.perm_append_comm (l₁ := [_])) (fun r H' ⟨hr, h3⟩ => ?_)
  subst hr
  refine zC ?_
  refine zR ?_
  refine rhp (List.perm_append_comm (l₂ := [_])) (.skip _ _ _ kR) ⟨rfl, ?_⟩ (Le.refl _)
  have hm : UL (QI n).2 (2 ^ n.id.toNat) = true := decide_eq_true hc
  rw [YF, if_pos hm]
  exact h3
 ·intro hc
  refine zC ?_
  refine cr <| s_ Qn <| s_ Qe <| s_ Qd <| s_ Xf <| s_ (Bt (G := (b, _) :: (Hl ++ (Ho ++ []))) hL (Qg.cons (QB.agg (Q9 _ (h1.lend (by intro p hp; simp [hp])))) Qg.nil) ⟨[_], List.perm_append_comm (l₁ := [_])⟩) <| s_ Qa <| s_ QL <| s_ QL ?_
  refine Yp fun b2 _ => ?_
  refine Yp fun b3 _ => ?_
  refine QC ?_
  refine QC ?_
  refine zC ?_
  refine cr <| s_ Qn <| s_ Ud ?_
  have hO := Wr (fun to => X2 (Q8 n) to (GS (Q0 (Q8 n)) (Yj (Q8 n) (Q0 (Q8 n))))) 148 [] [pW b1, pW b2, pW b3] (by rfl) hn.stand ho hw (fun to out' H2 h0 h5 ho2 hw2 => CX (b1 := b1) (b2 := b2) (b3 := b3) to _ _ (by omega) hw2)
  refine Q4 (Hr := []) hO ?_ (fun r H' hh => ?_)
  ·exact List.Perm.trans (l₂ := (_ :: _) ++ (_ :: _ :: _ :: [])) (List.perm_append_comm (l₁ := _ :: _ :: _ :: [])) (List.Perm.of_eq (List.append_nil _).symm)
  obtain ⟨hr, H1, e, h3⟩ := hh
  subst hr
  subst e
  refine zC ?_
  rw [List.append_nil]
  refine rhn (kH (r' := []) kN) ⟨rfl, ?_⟩ (Le.refl _)
  have hm : ¬ UL (QI n).2 (2 ^ n.id.toNat) = true := fun h => hc (of_decide_eq_true h)
  rw [YF, if_neg hm, List.append_nil]
  exact h3
theorem Bd.of {n n' : Nd} (h : Bd n) (h1 : n'.id = n.id := by rfl) (h2 : n'.log = n.log := by rfl) (h3 : n'.base = n.base := by rfl) (h4 : n'.baseConf = n.baseConf := by rfl) : Bd n' := by
 have hc : QI n' = QI n := by simp only [QI, h2, h3, h4]
 exact ⟨h1 ▸ h.id0, h1 ▸ h.id5, h2 ▸ h.log, h3 ▸ h.base0, h3 ▸ h.base1, hc ▸ h.conf0, hc ▸ h.conf1⟩
theorem OR (m : Ms) : ms m = .agg [ei m.kind, ei m.frm, ei m.to, ei m.term, ei m.index, ei m.logTerm, ei m.commit, ei m.conf, .v (.bool (decide (m.yes = true))), Y5 m.entries, es m.snap] := by
 simp [ms, msC, eB]
def WX (yes : Bool) : Ms := ⟨2, 0, 0, 0, 0, 0, 0, 0, yes, [], []⟩
def MZ (n : Nd) (m : Ms) : Bool := decide ((m.term = n.term ∧ (n.vote = -1 ∨ n.vote = m.frm)) ∧ (Yj n (Q0 n) < m.logTerm ∨ m.logTerm = Yj n (Q0 n) ∧ Q0 n ≤ m.index))
def Y0 (n : Nd) (m : Ms) : Nd := if MZ n m then { n with vote := m.frm, wait := 0 } else n
theorem RT {b : Nat} {n : Nd} {out : List Ms} {H : Qb} (m : Ms) (hn : Bd n) (ho : out.length ≤ 900) (hw : WkH b n out H) :
  FnH Tryz.prog 133 [pW b, ms m] H (fun r H' => r = .tup [] ∧ WkH b (Y0 n m) (out ++ [X2 (Y0 n m) m.frm (WX (MZ n m))]) H') := by
 have hb0 := hn.base0
 have hb1 := hn.base1
 have hlog := hn.log
 have hL := Jt n (by omega) (by omega) (by omega)
 refine fe Tryz.func133 fun S0 w0 => ?_
 show Sim _ _ [(0, pW b), (1, T.agg (msC m (Y5 m.entries)))] _ _
 obtain ⟨vl, vo, Hl, Ho, h1, h2, rfl⟩ := hw
 obtain ⟨p, c, rfl⟩ := h1.len
 obtain ⟨q, d, rfl⟩ := h2.len
 refine zC ?_
 apply cr
 refine XW fun b3 _ => ?_
 refine zC ?_
 refine Zo 3 (by simp [msC]) ?_
 refine zC ?_
 refine cr <| s_ Qa <| s_ Qe <| s_ Qd <| s_ Xf <| s_ (Vi hL (Qg.cons (QB.agg (Q9 _ (h1.lend (by intro p hp; simp [hp])))) Qg.nil)) <| s_ Qa <| s_ QL <| s_ QL <| s_ Qc <| s_ Qc <| zC ?_
 refine ca [0, 1, 2, 3, 4, 5, 6, 7, 8, 9, 10, 11, 12, 13, 14, 15, 16, 17, 18, 19, 20, 21, 22, 23, 24, 25, 26, 27, 28, 29, 30, 31, 32, 33, 34, 35, 36, 37, 38, 39, 40, 41, 42, 43, 44] [] <| a_ (fun _ => Qt) <| a_ (fun _ => Qm) <| a_ (fun _ => Qa) <| a_ (fun _ => Qe) <| a_ (fun _ => Qd) <| a_ (fun _ => Qd) <| QG ?_
 refine a_ (fun _ => XF) <| a_ (fun _ => Qa) <| QA (fun _ hg => Qa) ?_
 refine QA (fun _ hg => Qe (hx := u_ hg)) ?_
 refine QA (fun _ hg => Qd (hx := u_ hg)) ?_
 refine QA (fun _ hg => Qd (hx := u_ hg)) ?_
 refine Y9 ?_
 refine QA (fun _ hg => XF (hx := u_ hg)) ?_
 refine QA (fun _ hg => Qa (hx := u_ hg)) ?_
 refine Ux (fun _ hg => Qa) ?_
 refine Ux (fun _ hg => Qe (hx := u_ hg)) ?_
 refine Ux (fun _ hg => Qd (hx := u_ hg)) ?_
 refine Ux (fun _ hg => Qd (hx := u_ hg)) ?_
 refine C1 ?_
 refine Ux (fun _ hg => Qt) ?_
 refine Ux (fun _ hg => Qm (hx := u_ hg)) ?_
 refine Ux (fun _ hg => XF (hx := u_ hg) (hy := u_ hg)) ?_
 refine QA (fun _ hg => Ce hg) ?_
 refine a_ (fun _ => XY) <| a_ (fun _ => Qa) <| QA (fun _ hg => Qt) ?_
 refine QA (fun _ hg => Qm (hx := u_ hg)) ?_
 refine QA (fun _ hg => Qa) ?_
 refine QA (fun _ hg => Yb (hx := u_ hg) (hy := u_ hg)) ?_
 refine QA (fun _ hg => Qa (hx := u_ hg)) ?_
 refine Ux (fun _ hg => Qt) ?_
 refine Ux (fun _ hg => Qm (hx := u_ hg)) ?_
 refine Ux (fun _ hg => Qa) ?_
 refine Ux (fun _ hg => XF (hx := u_ hg) (hy := u_ hg)) ?_
 refine Ux (fun _ hg => Qa (hx := u_ hg)) ?_
 refine I2 (fun _ hg => Qt) ?_
 refine I2 (fun _ hg => Qm (hx := u_ hg)) ?_
 refine I2 (fun _ hg => Qa) ?_
 refine I2 (fun _ hg => UR (hx := u_ hg) (hy := u_ hg)) ?_
 refine Ux (fun _ hg => Ch hg) ?_
 refine QA (fun _ hg => Ce hg) ?_
 refine a_ (fun _ => XY) <| a_ (fun _ => Qc) ?_
 apply an
 refine zC ?_
 refine cr <| s_ Qa <| zC ?_
 refine ci ?_ ?_
 ·intro hc
  have hy : MZ n m = true := decide_eq_true hc
  have hv : Y0 n m = { n with vote := m.frm, wait := 0 } := by rw [Y0, if_pos hy]
  refine zC ?_
  refine cr <| s_ Qa <| s_ Qa <| s_ Qt <| s_ Qm <| s_ Qe <| s_ Qd <| s_ Qd <| QC ?_
  refine s_ Qe <| s_ Qd <| s_ Qd <| QC ?_
  refine zC ?_
  refine cr <| s_ Qa <| s_ Qt <| s_ Qm <| s_ Qa <| s_ (ZH 11 [_, _, _, _, _, _, _, _, _, _, _]) ?_
  refine QP (FnH.of_le ?_ (Jr m.frm (WX (MZ n m)) (by omega) (show WkH b { n with vote := m.frm, wait := 0 } out _ from ⟨_, _, Hl, Ho, h1, h2, rfl⟩))) (fun r H' ⟨hr, h3⟩ => ?_)
  ·exact zM
  ·subst hr
   refine zC ?_
   rw [hv]
   exact rhn kR ⟨rfl, h3⟩ (Le.refl _)
 ·intro hc
  have hy : ¬ MZ n m = true := fun h => hc (of_decide_eq_true h)
  have hv : Y0 n m = n := by rw [Y0, if_neg hy]
  refine zC ?_
  refine cr <| s_ Qa <| s_ Qt <| s_ Qm <| s_ Qa <| s_ (ZH 11 [_, _, _, _, _, _, _, _, _, _, _]) ?_
  refine QP (FnH.of_le ?_ (Jr m.frm (WX (MZ n m)) (by omega) (show WkH b n out _ from ⟨_, _, Hl, Ho, h1, h2, rfl⟩))) (fun r H' ⟨hr, h3⟩ => ?_)
  ·exact zM
  ·subst hr
   refine zC ?_
   rw [hv]
   exact rhn kR ⟨rfl, h3⟩ (Le.refl _)
def orI (a b : Int) : Int := (a.toNat ||| b.toNat : Nat)
theorem Bw {x y : Int} (h0 : 0 ≤ x) (h1 : x ≤ 31) (h2 : 0 ≤ y) (h3 : y < 5) : bOr .i64 x (Y8 .i64 1 (IntKind.u64.wrap y)) = orI x (2 ^ y.toNat) ∧ 0 ≤ orI x (2 ^ y.toNat) ∧ orI x (2 ^ y.toNat) ≤ 31 := by
 have key : ∀ i : Fin 32, ∀ j : Fin 5, bOr .i64 i.val (Y8 .i64 1 (IntKind.u64.wrap (j.val : Nat))) = orI i.val (2 ^ j.val) ∧ 0 ≤ orI i.val (2 ^ j.val) ∧ orI i.val (2 ^ j.val) ≤ 31 := by decide
 obtain ⟨i, rfl⟩ := Es h0 h1
 obtain ⟨j, rfl⟩ : ∃ j : Nat, y = (j : Int) := ⟨y.toNat, by omega⟩
 exact key i ⟨j, by omega⟩
def Yg (n : Nd) (m : Ms) : Nd := { n with votes := orI n.votes (2 ^ m.frm.toNat) }
def YE (n : Nd) (m : Ms) : Nd × List Ms := if (¬ m.term = n.term ∨ ¬ n.role = 1) ∨ ¬ m.yes = true then (n, []) else
 if UL (QI n).2 (orI n.votes (2 ^ m.frm.toNat)) then (Xs (Yg n m), X6 (Xs (Yg n m)) (Z9 (Xs (Yg n m))) 5) else (Yg n m, [])
theorem G3 {b : Nat} {n : Nd} {out : List Ms} {H : Qb} (m : Ms) (hn : Bd n) (hl : n.log.length < 100000000) (hv0 : 0 ≤ n.votes) (hv1 : n.votes ≤ 31) (hf0 : 0 ≤ m.frm) (hf5 : m.frm < 5) (ho : out.length ≤ 900) (hw : WkH b n out H) :
  FnH Tryz.prog 134 [pW b, ms m] H (fun r H' => r = .tup [] ∧ WkH b (YE n m).1 (out ++ (YE n m).2) H') := by
 have hb0 := hn.base0
 have hb1 := hn.base1
 have hlog := hn.log
 have hor := Bw hv0 hv1 hf0 hf5
 have hwf : IntKind.u64.wrap m.frm = m.frm := Jb hf0 (by omega)
 have hC := U7 (Yg n m) (by show n.log.length ≤ _; omega) (by show _ ≤ n.base; omega) (by show n.base ≤ _; omega)
 have hM := Ln (QI n).2 (orI n.votes (2 ^ m.frm.toNat)) hor.2.1 hor.2.2 hn.conf0 hn.conf1
 rw [OR]
 refine fe Tryz.func134 fun S0 w0 => ?_
 show Sim _ _ [(0, pW b), (1, T.agg [ei m.kind, ei m.frm, ei m.to, ei m.term, ei m.index, ei m.logTerm, ei m.commit, ei m.conf, .v (.bool (decide (m.yes = true))), Y5 m.entries, es m.snap])] _ _
 obtain ⟨vl, vo, Hl, Ho, h1, h2, rfl⟩ := hw
 obtain ⟨p, c, rfl⟩ := h1.len
 obtain ⟨q, d, rfl⟩ := h2.len
 refine zC ?_
 apply cr
 refine XW fun b3 _ => ?_
 refine zC ?_
 refine Zo 3 (by simp) ?_
 refine zC ?_
 refine ca [0, 1, 2, 3, 4, 5, 6, 7, 8, 9, 10, 11, 12, 13, 14, 15, 16, 17, 18, 19, 20] [] <| a_ (fun _ => Qt) <| a_ (fun _ => Qm) <| a_ (fun _ => Qa) <| a_ (fun _ => Qe) <| a_ (fun _ => Qd) <| a_ (fun _ => Qd) <| QG ?_
 refine a_ (fun _ => YL) <| a_ (fun _ => Qa) <| Xz (fun _ hg => Qa) ?_
 refine Xz (fun _ hg => Qe (hx := u_ hg)) ?_
 refine Xz (fun _ hg => Qd (hx := u_ hg)) ?_
 refine Xz (fun _ hg => Qd (hx := u_ hg)) ?_
 refine LL ?_
 refine Xz (fun _ hg => YL (hx := u_ hg)) ?_
 refine a_ (fun _ => Ya) <| a_ (fun _ => Qa) <| Xz (fun _ hg => Qt) ?_
 refine Xz (fun _ hg => Qm (hx := u_ hg)) ?_
 refine Xz (fun _ hg => Ym (hx := u_ hg)) ?_
 refine a_ (fun _ => Ya) ?_
 apply an
 refine zC ?_
 refine ci ?_ ?_
 ·intro hc
  refine zR ?_
  refine rh kR ⟨rfl, ?_⟩ (Le.refl _)
  rw [YE, if_pos hc, List.append_nil]
  exact ⟨_, _, Hl, Ho, h1, h2, rfl⟩
 ·intro hc
  refine zC ?_
  refine ca [0, 1, 2, 3, 4, 5, 6, 7, 8, 9, 10, 11, 12, 13] [13] <| a_ (fun _ => Qa) <| a_ (fun _ => Qe) <| a_ (fun _ => Qd) <| a_ (fun _ => Qd) <| QG ?_
  refine a_ (fun _ => Qt) <| a_ (fun _ => Qm) <| a_ (fun _ => Yc) <| a_ (fun _ => Uc) <| a_ (fun _ => UK) <| a_ (fun _ => Qe) <| a_ (fun _ => Qd) <| a_ (fun _ => Qd) <| XH ?_
  apply an
  refine zC ?_
  rw [hor.1]
  have hw : WkH b (Yg n m) out ((b, ⟨tW, wkC (Yg n m) (.slice p (n.log.map een).length c) (.slice q (out.map ms).length d), 23⟩) :: (Hl ++ (Ho ++ []))) := ⟨_, _, Hl, Ho, h1, h2, rfl⟩
  refine zC ?_
  refine ca [0, 1, 2, 3, 4, 5, 6, 7, 8, 9, 10] [] <| a_ (fun _ => Qa) <| a_ (fun _ => Qe) <| a_ (fun _ => Qd) <| YD ?_
  refine C6 (G := (b, _) :: (Hl ++ (Ho ++ []))) hC (Qg.cons (QB.agg (Q9 _ (h1.lend (by intro p hp; simp [hp])))) Qg.nil) ⟨[], UJ⟩ ?_
  refine a_ (fun _ => Qa) <| a_ (fun _ => Qe) <| a_ (fun _ => Qd) <| a_ (fun _ => Qd) <| QG ?_
  refine a_ (fun _ => QM (hM)) ?_
  apply an
  refine zC ?_
  refine ci ?_ ?_
  ·intro hm
   refine zC ?_
   refine cr <| s_ Qa ?_
   refine QP (D9 (hn.of (n' := Yg n m)) hl ho hw) (fun r H' ⟨hr, h3⟩ => ?_)
   subst hr
   refine zC ?_
   refine rhn kR ⟨rfl, ?_⟩ (Le.refl _)
   have hm' : UL (QI n).2 (orI n.votes (2 ^ m.frm.toNat)) = true := decide_eq_true hm
   rw [YE, if_neg hc, if_pos hm']
   exact h3
  ·intro hm
   refine zC ?_
   refine rhn kR ⟨rfl, ?_⟩ (Le.refl _)
   have hm' : ¬ UL (QI n).2 (orI n.votes (2 ^ m.frm.toNat)) = true := fun h => hm (of_decide_eq_true h)
   rw [YE, if_neg hc, if_neg hm', List.append_nil]
   exact hw
theorem Lm {n : Nd} {vl vo : Value} {to : Int} (h0 : 0 ≤ to) (h5 : to < 5) : (wkC n vl vo)[0 + 0 + 17 + to.toNat * 1]? = some (ei (n.mtch.get to.toNat)) := by
 rcases five h0 h5 with rfl | rfl | rfl | rfl | rfl <;> rfl
theorem Wy {n : Nd} {vl vo : Value} {i : Int} (h0 : 0 ≤ i) (h5 : i < 5) (v : Int) : lay (wkC n vl vo) (0 + 0 + 12 + i.toNat * 1) (T.v (.int .i64 v)).cells = wkC { n with next := n.next.set i.toNat v } vl vo := by
 rcases five h0 h5 with rfl | rfl | rfl | rfl | rfl <;> rfl
theorem Gh {n : Nd} {vl vo : Value} {i : Int} (h0 : 0 ≤ i) (h5 : i < 5) (v : Int) : lay (wkC n vl vo) (0 + 0 + 17 + i.toNat * 1) (T.v (.int .i64 v)).cells = wkC { n with mtch := n.mtch.set i.toNat v } vl vo := by
 rcases five h0 h5 with rfl | rfl | rfl | rfl | rfl <;> rfl
theorem Em (f : F5) {i : Int} (h0 : 0 ≤ i) (h5 : i < 5) (v : Int) : (f.set i.toNat v).get i.toNat = v := by
 rcases five h0 h5 with rfl | rfl | rfl | rfl | rfl <;> rfl
def JX (n : Nd) (m : Ms) : Nd := { n with mtch := n.mtch.set m.frm.toNat (max (n.mtch.get m.frm.toNat) m.index), next := n.next.set m.frm.toNat (max (n.mtch.get m.frm.toNat) m.index + 1) }
def Zp (n : Nd) (m : Ms) : Nd := { n with next := n.next.set m.frm.toNat (max (max (min (n.next.get m.frm.toNat - 1) (m.index + 1)) 1) (n.mtch.get m.frm.toNat + 1)) }
def Yn (n : Nd) (m : Ms) : Nd × List Ms := if ¬ m.term = n.term ∨ ¬ n.role = 2 then (n, []) else if m.yes = true then (Q5 (JX n m), []) else
 if (Zp n m).next.get m.frm.toNat ≤ Q0 n then (Zp n m, [Z9 (Zp n m) m.frm]) else (Zp n m, [])
theorem O8 {b : Nat} {n : Nd} {out : List Ms} {H : Qb} (m : Ms) (hn : Bd n) (hf0 : 0 ≤ m.frm) (hf5 : m.frm < 5) (hx0 : -100000000000 ≤ n.next.get m.frm.toNat) (hx1 : n.next.get m.frm.toNat ≤ 50000000000) (hm0 : -100000000000 ≤ n.mtch.get m.frm.toNat) (hm1 : n.mtch.get m.frm.toNat ≤ 50000000000) (hi0 : -100000000000 ≤ m.index) (hi1 : m.index ≤ 50000000000) (ho : out.length ≤ 900) (hw : WkH b n out H) :
  FnH Tryz.prog 136 [pW b, ms m] H (fun r H' => r = .tup [] ∧ WkH b (Yn n m).1 (out ++ (Yn n m).2) H') := by
 have hb0 := hn.base0
 have hb1 := hn.base1
 have hlog := hn.log
 have hL := Jt (Zp n m) (by show n.log.length ≤ _; omega) (by show _ ≤ n.base; omega) (by show n.base ≤ _; omega)
 rw [OR]
 refine fe Tryz.func136 fun S0 w0 => ?_
 show Sim _ _ [(0, pW b), (1, T.agg [ei m.kind, ei m.frm, ei m.to, ei m.term, ei m.index, ei m.logTerm, ei m.commit, ei m.conf, .v (.bool (decide (m.yes = true))), Y5 m.entries, es m.snap])] _ _
 obtain ⟨vl, vo, Hl, Ho, h1, h2, rfl⟩ := hw
 obtain ⟨p, c, rfl⟩ := h1.len
 obtain ⟨q, d, rfl⟩ := h2.len
 refine zC ?_
 apply cr
 refine XW fun b3 _ => ?_
 refine zC ?_
 refine Zo 3 (by simp) ?_
 refine zC ?_
 refine ca [0, 1, 2, 3, 4, 5, 6, 7, 8, 9, 10, 11, 12, 13, 14, 15] [] <| a_ (fun _ => Qt) <| a_ (fun _ => Qm) <| a_ (fun _ => Qa) <| a_ (fun _ => Qe) <| a_ (fun _ => Qd) <| a_ (fun _ => Qd) <| QG ?_
 refine a_ (fun _ => YL) <| a_ (fun _ => Qa) <| Xz (fun _ hg => Qa) ?_
 refine Xz (fun _ hg => Qe (hx := u_ hg)) ?_
 refine Xz (fun _ hg => Qd (hx := u_ hg)) ?_
 refine Xz (fun _ hg => Qd (hx := u_ hg)) ?_
 refine LL ?_
 refine Xz (fun _ hg => YL (hx := u_ hg)) ?_
 refine a_ (fun _ => Ya) ?_
 apply an
 refine zC ?_
 refine ci ?_ ?_
 ·intro hc
  refine zR ?_
  refine rh kR ⟨rfl, ?_⟩ (Le.refl _)
  rw [Yn, if_pos hc, List.append_nil]
  exact ⟨_, _, Hl, Ho, h1, h2, rfl⟩
 ·intro hc
  refine zC ?_
  refine cr <| s_ Qt <| s_ Qm <| zC ?_
  refine ci ?_ ?_
  ·intro hy
   refine zC ?_
   refine ca [0, 1, 2, 3, 4, 5, 6, 7, 8, 9, 10, 11, 12, 13, 14, 15, 16, 17, 18] [18] <| a_ (fun _ => Qa) <| a_ (fun _ => Qt) <| a_ (fun _ => Qm) <| a_ (fun _ => Qa) <| a_ (fun _ => Qt) <| a_ (fun _ => Qm) <| a_ (fun _ => Qe) <| a_ (fun _ => Qd) <| a_ (fun _ => Qd) <| a_ (fun _ => ZY) <| QG (hd := Lm hf0 hf5) ?_
   refine a_ (fun _ => Qt) <| a_ (fun _ => Qm) <| a_ (fun _ => Mf) <| a_ (fun _ => Qe) <| a_ (fun _ => Qd) <| a_ (fun _ => Qd) <| a_ (fun _ => ZY) ?_
   refine GU ?_ ?_
   ·simp only [Jp, ZL, T.cells, Value.cells]; simp; omega
   rw [Gh hf0 hf5]
   have hd2 : ∀ vl vo, (wkC { n with mtch := n.mtch.set m.frm.toNat (max (n.mtch.get m.frm.toNat) m.index) } vl vo)[0 + 0 + 17 + m.frm.toNat * 1]? = some (ei (max (n.mtch.get m.frm.toNat) m.index)) := fun _ _ => by rw [Lm hf0 hf5, Em _ hf0 hf5]
   apply an
   refine zC ?_
   refine ca [0, 1, 2, 3, 4, 5, 6, 7, 8, 9, 10, 11, 12, 13, 14, 15, 16] [16] <| a_ (fun _ => Qa) <| a_ (fun _ => Qt) <| a_ (fun _ => Qm) <| a_ (fun _ => Qa) <| a_ (fun _ => Qt) <| a_ (fun _ => Qm) <| a_ (fun _ => Qe) <| a_ (fun _ => Qd) <| a_ (fun _ => Qd) <| a_ (fun _ => ZY) <| QG (hd := hd2 _ _) ?_
   refine a_ (fun _ => QZ) <| a_ (fun _ => Qe) <| a_ (fun _ => Qd) <| a_ (fun _ => Qd) <| a_ (fun _ => ZY) ?_
   refine GU ?_ ?_
   ·simp only [Jp, ZL, T.cells, Value.cells]; simp; omega
   rw [Wy hf0 hf5]
   apply an
   refine zC ?_
   refine cr <| s_ Qa ?_
   refine QP (WN (hn.of (n' := JX n m)) ⟨_, _, Hl, Ho, h1, h2, rfl⟩) (fun r H' ⟨hr, h3⟩ => ?_)
   subst hr
   refine zC ?_
   refine zR ?_
   refine rh kR ⟨rfl, ?_⟩ (Le.refl _)
   rw [Yn, if_neg hc, if_pos hy, List.append_nil]
   exact h3
  ·intro hy
   refine zC ?_
   refine ca [0, 1, 2, 3, 4, 5, 6, 7, 8, 9, 10, 11, 12, 13, 14, 15, 16, 17, 18, 19, 20, 21, 22, 23, 24, 25, 26, 27, 28, 29, 30] [30] <| a_ (fun _ => Qa) <| a_ (fun _ => Qt) <| a_ (fun _ => Qm) <| a_ (fun _ => Qa) <| a_ (fun _ => Qt) <| a_ (fun _ => Qm) <| a_ (fun _ => Qe) <| a_ (fun _ => Qd) <| a_ (fun _ => Qd) <| a_ (fun _ => ZY) <| QG (hd := U0 hf0 hf5) ?_
   refine a_ (fun _ => Ze) <| a_ (fun _ => Qt) <| a_ (fun _ => Qm) <| a_ (fun _ => QZ) <| a_ (fun _ => Lh) <| a_ (fun _ => Qa) <| a_ (fun _ => Qt) <| a_ (fun _ => Qm) <| a_ (fun _ => Qe) <| a_ (fun _ => Qd) <| a_ (fun _ => Qd) <| a_ (fun _ => ZY) <| QG (hd := Lm hf0 hf5) ?_
   refine a_ (fun _ => QZ) <| a_ (fun _ => Bn) <| a_ (fun _ => Qe) <| a_ (fun _ => Qd) <| a_ (fun _ => Qd) <| a_ (fun _ => ZY) ?_
   refine GU ?_ ?_
   ·simp only [Jp, ZL, T.cells, Value.cells]; simp; omega
   rw [Wy hf0 hf5]
   have hw : WkH b (Zp n m) out ((b, ⟨tW, wkC (Zp n m) (.slice p (n.log.map een).length c) (.slice q (out.map ms).length d), 23⟩) :: (Hl ++ (Ho ++ []))) := ⟨_, _, Hl, Ho, h1, h2, rfl⟩
   apply an
   refine zC ?_
   refine cr <| s_ Qa <| s_ Qe <| s_ Qd <| s_ Xf <| s_ (Vi hL (Qg.cons (QB.agg (Q9 (Zp n m) (h1.lend (by intro p hp; simp [hp])))) Qg.nil)) <| s_ Qa <| s_ QL <| s_ QL <| s_ Qc <| s_ Qc <| zC ?_
   refine ca [0, 1, 2, 3, 4, 5, 6, 7, 8, 9] [] <| a_ (fun _ => Qa) <| a_ (fun _ => Qt) <| a_ (fun _ => Qm) <| a_ (fun _ => Qe) <| a_ (fun _ => Qd) <| a_ (fun _ => Qd) <| a_ (fun _ => ZY) <| QG (hd := U0 (n := Zp n m) hf0 hf5) ?_
   refine a_ (fun _ => Qa) <| a_ (fun _ => Io) ?_
   apply an
   refine zC ?_
   refine ci ?_ ?_
   ·intro hle
    refine zC ?_
    refine cr <| s_ Qa <| s_ Qt <| s_ Qm ?_
    refine QP (OL m.frm hf0 hf5 (by show n.log.length ≤ _; omega) (by show _ ≤ n.base; omega) (by show n.base ≤ _; omega) ?_ (by omega) hw) (fun r H' ⟨hr, h3⟩ => ?_)
    ·have : (Zp n m).next.get m.frm.toNat = max (max (min (n.next.get m.frm.toNat - 1) (m.index + 1)) 1) (n.mtch.get m.frm.toNat + 1) := Em _ hf0 hf5 _
     rw [this]; omega
    subst hr
    refine zC ?_
    refine rhn kR ⟨rfl, ?_⟩ (Le.refl _)
    have hle' : (Zp n m).next.get m.frm.toNat ≤ Q0 n := hle
    rw [Yn, if_neg hc, if_neg hy, if_pos hle']
    exact h3
   ·intro hle
    refine zC ?_
    refine rhn kR ⟨rfl, ?_⟩ (Le.refl _)
    have hle' : ¬ (Zp n m).next.get m.frm.toNat ≤ Q0 n := hle
    rw [Yn, if_neg hc, if_neg hy, if_neg hle', List.append_nil]
    exact hw
def L1 (n : Nd) (e : En) : Nd := { n with log := n.log ++ [⟨n.term, e.conf, e.cmd⟩], mtch := n.mtch.set n.id.toNat (n.base + (n.log.length + 1)) }
def R6 (n : Nd) (e : En) : Nd := Q5 (L1 n e)
theorem Iw (l : List En) (e : En) : lc (l ++ [e]) (l ++ [e]).length = if e.conf ≠ 0 then some (l.length, e.conf) else lc l l.length := by
 rw [List.length_append, List.length_singleton, lc]
 have : (l ++ [e]).getD l.length default = e := by simp [List.getD_eq_getElem?_getD]
 rw [this]
 split
 ·rfl
 ·exact Ls _ _ _ (Nat.le_refl _)
theorem Bd.put {n : Nd} {e : En} (h : Bd n) (hl : n.log.length < 100000000) (h0 : 0 ≤ e.conf) (h1 : e.conf ≤ 31) : Bd (L1 n e) := by
 have hc : (QI (L1 n e)).2 = if e.conf ≠ 0 then e.conf else (QI n).2 := by
  have := Iw n.log ⟨n.term, e.conf, e.cmd⟩
  by_cases hz : e.conf ≠ 0
  ·rw [if_pos hz] at this ⊢
   simp only [QI, L1, this]
  ·rw [if_neg hz] at this ⊢
   simp only [QI, L1, this]
 refine ⟨h.id0, h.id5, by simp [L1]; omega, h.base0, h.base1, ?_, ?_⟩ <;> rw [hc] <;> split
 ·exact h0
 ·exact h.conf0
 ·exact h1
 ·exact h.conf1
def Q1 (n : Nd) : Nd := { n with role := 0, wait := 0 }
theorem VA {b : Nat} {n : Nd} {out : List Ms} {H : Qb} (m : Ms) (hb : out.length ≤ 1000) (hw : WkH b n out H) :
  FnH Tryz.prog 157 [pW b, ms m] H (fun r H' => r = .v (.bool (decide (¬ m.term < n.term))) ∧ WkH b (if m.term < n.term then n else Q1 n) (if m.term < n.term then out ++ [X2 n m.frm (Zb false 0)] else out) H') :=
 (Gv m hb hw).mono fun r H' h => by
  by_cases hlt : m.term < n.term
  ·rw [if_pos hlt] at h
   rw [if_pos hlt, if_pos hlt]
   exact ⟨by rw [h.1]; simp [hlt, eB], h.2⟩
  ·rw [if_neg hlt] at h
   rw [if_neg hlt, if_neg hlt]
   exact ⟨by rw [h.1]; simp [hlt, eB], h.2⟩
def XD (n : Nd) (m : Ms) : Nat → List En
 | 0 => n.log
 | i + 1 => if m.index - n.base + i < (XD n m i).length ∧ ((XD n m i).getD (m.index - n.base + i).toNat default).term = (m.entries.getD i default).term then XD n m i
  else (XD n m i).take (min (m.index - n.base + i) (XD n m i).length).toNat ++ [m.entries.getD i default]
theorem Vt (n : Nd) (m : Ms) : ∀ i, (XD n m i).length ≤ n.log.length + i
 | 0 => Nat.le_refl _
 | i + 1 => by
  have := Vt n m i
  rw [XD]
  split
  ·omega
  ·simp; omega
def RN (n : Nd) (m : Ms) : Nd := { Q1 n with log := XD n m m.entries.length, commit := max n.commit (min m.commit (m.index + m.entries.length)) }
def Uy (n : Nd) (m : Ms) : Nd × List Ms := if m.term < n.term then (n, [X2 n m.frm (Zb false 0)]) else
 if m.index < n.base then (Q1 n, [X2 (Q1 n) m.frm (Zb true n.base)]) else
 if Q0 n < m.index ∨ ¬ Yj n m.index = m.logTerm then (Q1 n, [X2 (Q1 n) m.frm (Zb false (min (Q0 n) (m.index - 1)))]) else
 (RN n m, [X2 (RN n m) m.frm (Zb true (m.index + m.entries.length))])
theorem IL {k : Nat} {xs : List T} {i j : Nat} {x d : T} (hk : ∀ y ∈ xs, y.cells.length = k) (h : xs[i]? = some x) (hj : j < k) (hd : x.cells[j]? = some d) : (xs.flatMap T.cells)[0 + i * k + j]? = some d := by
 have ⟨h1, h2⟩ := VD hk h
 have h3 : (((xs.flatMap T.cells).drop (i * k)).take k)[j]? = some d := by rw [h1, hd]
 rw [List.getElem?_take, if_pos hj, List.getElem?_drop] at h3
 rw [Nat.zero_add]
 exact h3
theorem OE.at {l : List En} {p : Option Addr} {n c : Nat} {Hs : Qb} (h : OE l (.slice p n c) Hs) : ∃ bl, 0 < l.length → p = some ⟨bl, 0, none⟩ ∧ (bl, (⟨tE, (l.map een).flatMap T.cells, c * 3⟩ : Blk)) ∈ Hs := by
 rcases h with ⟨h, _⟩ | ⟨bl, c', e, _, rfl⟩
 ·have : l = [] := by simpa using h
  exact ⟨0, fun h => by rw [this] at h; simp at h⟩
 ·cases e; exact ⟨bl, fun _ => ⟨rfl, List.mem_singleton.2 rfl⟩⟩
theorem OE.sub0 {l : List En} {p : Option Addr} {n c : Nat} {Hs : Qb} (h : OE l (.slice p n c) Hs) (j : Nat) : XU 3 p c 0 j = .slice p j c := by
 rcases h with ⟨_, ⟨q, e⟩, _⟩ | ⟨bl, c', e, _, _⟩
 ·cases e; cases p <;> rfl
 ·cases e
  unfold XU
  by_cases hc : c = 0 <;> simp [hc, Addr.add_mk]
theorem C4 {b : Nat} {n : Nd} {out : List Ms} {H : Qb} (m : Ms) (hn : Bd n) (hl : n.log.length + m.entries.length ≤ 100000000) (hi0 : -50000000000 ≤ m.index) (hi1 : m.index ≤ 50000000000) (ho : out.length ≤ 900) (hw : WkH b n out H) :
  FnH Tryz.prog 135 [pW b, ms m] H (fun r H' => r = .tup [] ∧ WkH b (Uy n m).1 (out ++ (Uy n m).2) H') := by
 have hb0 := hn.base0
 have hb1 := hn.base1
 have hlog := hn.log
 have hL := Jt (Q1 n) (by show n.log.length ≤ _; omega) (by show _ ≤ n.base; omega) (by show n.base ≤ _; omega)
 refine fe Tryz.func135 fun S0 w0 => ?_
 show Sim _ _ [(0, pW b), (1, T.agg (msC m (Y5 m.entries)))] _ _
 refine zC ?_
 apply cr
 refine XW fun b3 _ => ?_
 refine zC ?_
 refine Zo 3 (by simp [msC]) ?_
 refine zC ?_
 refine cr <| s_ Qa <| s_ Zf ?_
 refine QP (VA m (by omega) hw) (fun r H' ⟨hr, hw⟩ => ?_)
 subst hr
 refine s_ Ym <| zC ?_
 refine ci ?_ ?_
 ·intro hc
  have hlt : m.term < n.term := Decidable.not_not.1 hc
  rw [if_pos hlt, if_pos hlt] at hw
  refine zR ?_
  refine rh kR ⟨rfl, ?_⟩ (Le.refl _)
  rw [Uy, if_pos hlt]
  exact hw
 intro hc
 have hlt : ¬ m.term < n.term := fun h => hc (fun h' => h' h)
 rw [if_neg hlt, if_neg hlt] at hw
 have hw1 := hw
 obtain ⟨vl, vo, Hl, Ho, h1, h2, rfl⟩ := hw
 obtain ⟨p, c, rfl⟩ := h1.len
 obtain ⟨q, d, rfl⟩ := h2.len
 refine zC ?_
 refine cr <| s_ Qa <| s_ Qe <| s_ Qd <| s_ Xf <| s_ (Vi hL (Qg.cons (QB.agg (Q9 (Q1 n) (h1.lend (by intro p hp; simp [hp])))) Qg.nil)) <| s_ Qa <| s_ QL <| s_ QL <| s_ Qc <| s_ Qc <| zC ?_
 refine ca [0, 1, 2, 3, 4, 5, 6, 7, 8] [] <| a_ (fun _ => Qt) <| a_ (fun _ => Qm) <| a_ (fun _ => Qa) <| a_ (fun _ => Qe) <| a_ (fun _ => Qd) <| a_ (fun _ => Qd) <| QG ?_
 refine a_ (fun _ => QS) <| a_ (fun _ => Qc) ?_
 apply an
 refine zC ?_
 refine ci ?_ ?_
 ·intro hlo
  refine zC ?_
  refine ca [0, 1, 2, 3, 4, 5, 6, 7, 8] [8] <| a_ (fun _ => Qa) <| a_ (fun _ => Qt) <| a_ (fun _ => Qm) <| a_ (fun _ => Qa) <| a_ (fun _ => Qe) <| a_ (fun _ => Qd) <| a_ (fun _ => Qd) <| QG ?_
  refine I4 (FnH.of_le ?_ (Za m.frm true n.base (by omega) hw1)) (fun r H' ⟨hr, h3⟩ => ⟨zd, ?_⟩)
  ·exact zM
  ·refine zD ?_
   subst hr
   apply an
   refine zC ?_
   refine zR ?_
   refine rh kR ⟨rfl, ?_⟩ (Le.refl _)
   have hlo' : m.index < n.base := hlo
   rw [Uy, if_neg hlt, if_pos hlo']
   exact h3
 intro hlo
 have hlo' : ¬ m.index < n.base := hlo
 have hT := UX (Q1 n) m.index (by show n.log.length ≤ _; omega) (by simp only [big]; show _ ≤ n.base; omega) (by simp only [big]; show n.base ≤ _; omega) (by simp only [big]; omega) (by simp only [big]; omega)
 refine zC ?_
 refine ca [0, 1, 2, 3, 4, 5, 6, 7, 8, 9, 10, 11, 12, 13, 14, 15] [] <| a_ (fun _ => Qt) <| a_ (fun _ => Qm) <| a_ (fun _ => Qa) <| a_ (fun _ => Yb) <| a_ (fun _ => Qa) <| Xz (fun _ hg => Qa) ?_
 refine Xz (fun _ hg => Qe (hx := u_ hg)) ?_
 refine Xz (fun _ hg => Qd (hx := u_ hg)) ?_
 refine Xz (fun _ hg => Qt) ?_
 refine Xz (fun _ hg => Qm (hx := u_ hg)) ?_
 refine C3 (G := (b, _) :: (Hl ++ (Ho ++ []))) (fun _ => hT) (fun _ => Qg.cons (Ll (n := Q1 n) h1 (by intro p hp; simp [hp]) List.mem_cons_self) (Qg.cons (QB.le (Le.refl _)) Qg.nil)) ⟨[], UJ⟩ ?_ (fun hg => by refine QK (u_ hg) (QK (u_ hg) Xv))
 refine Xz (fun _ hg => Qt) ?_
 refine Xz (fun _ hg => Qm (hx := u_ hg)) ?_
 refine Xz (fun _ hg => YL (hx := u_ hg) (hy := u_ hg)) ?_
 refine a_ (fun _ => Ya) <| a_ (fun _ => Qc) ?_
 apply an
 refine zC ?_
 refine ci ?_ ?_
 ·intro hno
  refine zC ?_
  refine cr <| s_ Qa <| s_ Qt <| s_ Qm <| s_ Qa <| s_ Qt <| s_ Qm <| s_ Ze <| s_ Lh ?_
  refine QP (FnH.of_le ?_ (Za m.frm false (min (Q0 n) (m.index - 1)) (by omega) hw1)) (fun r H' ⟨hr, h3⟩ => ?_)
  ·exact zM
  ·subst hr
   refine zC ?_
   refine zR ?_
   refine rh kR ⟨rfl, ?_⟩ (Le.refl _)
   have hno' : Q0 n < m.index ∨ ¬ Yj n m.index = m.logTerm := hno
   rw [Uy, if_neg hlt, if_neg hlo', if_pos hno']
   exact h3
 intro hno
 have hno' : ¬ (Q0 n < m.index ∨ ¬ Yj n m.index = m.logTerm) := hno
 refine zC ?_
 refine cr <| s_ Qt <| s_ Qm ?_
 (first | refine s_ QR ?_ | refine s_ QN ?_)
 refine s_ Qa <| zC ?_
 apply Qu (σ := Nat × Qb) (ok := fun s => s.1 ≤ m.entries.length ∧ WkH b { Q1 n with log := XD n m s.1 } out s.2) (env := fun s => [(68, ei (s.1 : Nat)), (67, ei ((m.entries.map een).length : Nat)), (66, Y5 m.entries), (3, .adr (.agg (msC m (Y5 m.entries)))), (0, pW b)])
  (heap := fun s => s.2) (μ := fun s => m.entries.length - s.1) (s0 := (0, (b, ⟨tW, wkC (Q1 n) (.slice p (n.log.map een).length c) (.slice q (out.map ms).length d), 23⟩) :: (Hl ++ (Ho ++ []))))
 ·exact ⟨Nat.zero_le _, hw1⟩
 ·exact eL
 ·exact kR
 rintro ⟨i, H⟩ ⟨hi, hw⟩
 simp only at hi hw
 clear h1 h2 hw1
 obtain ⟨vl, vo, Hl, Ho, h1, h2, rfl⟩ := hw
 simp only at h1
 obtain ⟨p, c, rfl⟩ := h1.len
 obtain ⟨q, d, rfl⟩ := h2.len
 have hlk := Vt n m i
 have hqb : (Q1 n).base = n.base := rfl
 refine zC ?_
 refine cr <| s_ QS <| zC ?_
 refine ci ?_ ?_
 ·intro hlt2
  simp only [List.length_map] at hlt2
  have hix : i < m.entries.length := by omega
  have hge : m.entries.getD i default = m.entries[i] := by simp [hix]
  refine zC ?_
  refine cr <| s_ Qa ?_
  (first | refine s_ (Xt hix) ?_ | refine s_ (Xt hix2) ?_ | refine s_ Zg ?_ | refine s_ ZX ?_)
  (first | refine s_ Zf ?_ | refine s_ Xf ?_)
  refine Yp fun b7 _ => ?_
  refine s_ Qc <| QC ?_
  refine zC ?_
  refine ca [0, 1, 2, 3, 4, 5, 6, 7, 8, 9, 10] [] <| a_ (fun _ => Qt) <| a_ (fun _ => Qm) <| a_ (fun _ => Qa) <| a_ (fun _ => Qe) <| a_ (fun _ => Qd) <| a_ (fun _ => Qd) <| QG ?_
  refine a_ (fun _ => Ze) <| a_ (fun _ => Qa) <| a_ (fun _ => QZ) <| a_ (fun _ => Qc) ?_
  apply an
  refine zC ?_
  rw [hqb]
  generalize hk : m.index - n.base + (i : Nat) = k
  have hk0 : 0 ≤ k := by omega
  obtain ⟨bl, hbl⟩ := h1.at
  refine zC ?_
  refine ca [0, 1, 2, 3, 4, 5, 6, 7, 8, 9, 10, 11, 12, 13, 14, 15, 16, 17, 18, 19, 20, 21] [] <| a_ (fun _ => Qa) <| a_ (fun _ => Qa) <| a_ (fun _ => Qe) <| a_ (fun _ => Qd) <| a_ (fun _ => Qd) <| QG ?_
  (first | refine a_ (fun _ => QR) ?_ | refine a_ (fun _ => QN) ?_)
  refine a_ (fun _ => QS) <| a_ (fun _ => Qa) <| QA (fun _ hg => Qa) ?_
  refine QA (fun _ hg => Qe (hx := u_ hg)) ?_
  refine QA (fun _ hg => Qd (hx := u_ hg)) ?_
  refine QA (fun _ hg => Qd (hx := u_ hg)) ?_
  refine Y9 ?_
  refine QA (fun _ hg => Qa) ?_
  have hkl : k < (((XD n m i).map een).length : Nat) → k.toNat < (XD n m i).length := fun h => by rw [List.length_map] at h; omega
  refine QA (p := k < (((XD n m i).map een).length : Nat)) (fun _ hg => Bo (hbl (by have := hkl hg; omega)).1 (hx := u_ hg) (hy := u_ hg)) ?_
  refine QA (fun _ hg => Qd (hx := u_ hg)) ?_
  refine I3 (p := k < (((XD n m i).map een).length : Nat)) (b := bl) (fun hg => List.mem_cons_of_mem _ (List.mem_cons_of_mem _ (List.mem_append_left _ (hbl (by have := hkl hg; omega)).2))) (fun hg => IL (k := 3) (j := 0) (GG _) (Eu _ (hkl hg)) (by decide) rfl) ?_
  refine QA (fun _ hg => Qd) ?_
  refine Y9 ?_
  refine QA (fun _ hg => XF (hx := u_ hg) (hy := u_ hg)) ?_
  refine a_ (fun _ => XY) ?_
  apply an
  refine zC ?_
  refine ci ?_ ?_
  ·intro hsame
   have hs : XD n m (i + 1) = XD n m i := by rw [XD, hk, hge, if_pos ⟨by have := hsame.1; rw [List.length_map] at this; exact this, hsame.2⟩]
   refine zC ?_
   refine cr <| s_ QZ <| s_ Qa <| zC ?_
   refine ⟨(i + 1, _), ⟨hix, ?_⟩, by show m.entries.length - (i + 1) < m.entries.length - i; omega, ⟨Qj (by rfl) (Le.refl _), eL⟩, kS kR⟩
   simp only
   rw [hs]
   exact ⟨_, _, Hl, Ho, h1, h2, rfl⟩
  ·intro hdiff
   have hs : XD n m (i + 1) = (XD n m i).take (min k (XD n m i).length).toNat ++ [m.entries[i]] := by
    rw [XD, hk, hge, if_neg fun h => hdiff ⟨by rw [List.length_map]; exact h.1, h.2⟩]
   have hcap : ((XD n m i).map een).length ≤ c := OSl.cap h1
   refine zC ?_
   refine ca [0, 1, 2, 3, 4, 5, 6, 7, 8, 9, 10, 11, 12, 13, 14, 15, 16, 17, 18, 19, 20, 21] [17, 21] <| a_ (fun _ => Qa) <| a_ (fun _ => Qa) <| a_ (fun _ => Qe) <| a_ (fun _ => Qd) <| a_ (fun _ => Qd) <| QG ?_
   refine a_ (fun _ => Qa) <| a_ (fun _ => Qa) <| a_ (fun _ => Qe) <| a_ (fun _ => Qd) <| a_ (fun _ => Qd) <| QG ?_
   (first | refine a_ (fun _ => QR) ?_ | refine a_ (fun _ => QN) ?_)
   refine a_ (fun _ => Lh) <| a_ (fun _ => Me (v := .slice p (min k (((XD n m i).map een).length : Nat)).toNat c) hcap (by exact h1.sub0 _)) <| YD ?_
   refine a_ (fun _ => JN) ?_
   refine BS (A := [_, _]) (B := Ho ++ []) (ys := [een m.entries[i]]) h1 (GG _) (min k ((XD n m i).length : Nat)).toNat (fun v' Hl' h1' => ⟨zd, ?_⟩) (hx := ?_)
   ·refine zD ?_
    have h1 : OE ((XD n m i).take (min k (XD n m i).length).toNat ++ [m.entries[i]]) v' Hl' := by unfold OE; rw [List.map_append, List.map_take]; exact h1'
    clear h1'
    obtain ⟨p, c, rfl⟩ := h1.len
    refine a_ (fun _ => Qe) <| a_ (fun _ => Qd) <| a_ (fun _ => Qd) <| XH ?_
    apply an
    refine zC ?_
    refine cr <| s_ QZ <| s_ Qa <| zC ?_
    refine ⟨(i + 1, _), ⟨hix, ?_⟩, by show m.entries.length - (i + 1) < m.entries.length - i; omega, ⟨Qj (by rfl) (Le.refl _), eL⟩, kS kR⟩
    simp only
    rw [hs]
    exact ⟨_, _, Hl', Ho, h1, h2, rfl⟩
   ·refine Eq.trans (zl) ?_
    have e : (min k (((XD n m i).map een).length : Nat)).toNat = min (min k ((XD n m i).length : Nat)).toNat ((XD n m i).map een).length := by rw [List.length_map]; omega
    rw [e]
 ·intro hlt2
  simp only [List.length_map] at hlt2
  have : i = m.entries.length := by omega
  subst this
  have hel : ((m.entries.map een).length : Int) = (m.entries.length : Int) := by simp
  refine zC ?_
  refine cr <| s_ Qt <| s_ Qm <| s_ Qt <| s_ Qm ?_
  (first | refine s_ QR ?_ | refine s_ QN ?_)
  refine s_ QZ <| s_ Qc <| zC ?_
  refine ca [0, 1, 2, 3, 4, 5, 6, 7, 8, 9, 10, 11, 12, 13, 14] [14] <| a_ (fun _ => Qa) <| a_ (fun _ => Qa) <| a_ (fun _ => Qe) <| a_ (fun _ => Qd) <| a_ (fun _ => Qd) <| QG ?_
  refine a_ (fun _ => Qt) <| a_ (fun _ => Qm) <| a_ (fun _ => Qa) <| a_ (fun _ => Lh) <| a_ (fun _ => Mf) <| a_ (fun _ => Qe) <| a_ (fun _ => Qd) <| a_ (fun _ => Qd) <| XH ?_
  apply an
  refine zC ?_
  refine cr <| s_ Qa <| s_ Qt <| s_ Qm <| s_ Qa ?_
  rw [hel]
  refine QP (FnH.of_le ?_ (Za m.frm true (m.index + m.entries.length) (by omega) (show WkH b (RN n m) out _ from ⟨_, _, Hl, Ho, h1, h2, rfl⟩))) (fun r H' ⟨hr, h3⟩ => ?_)
  ·exact zM
  ·subst hr
   refine zC ?_
   refine rhn kR ⟨rfl, ?_⟩ (Le.refl _)
   rw [Uy, if_neg hlt, if_neg hlo', if_neg hno']
   exact h3
end Go.Proofs.YtjbokbikkcfjjaaGreat
