/-
  replica: what most members hold is committed.
-/
import Derived.Test.YtjbokbikkcfjjaaGreatAam
set_option maxRecDepth 16000
set_option maxHeartbeats 8000000
set_option linter.all false
namespace Go.Proofs.YtjbokbikkcfjjaaGreat
open Go.Cap
attribute [local irreducible] POp Qf Pw EOp Sim FnH T.gp
def YD (f : F5) (idx : Int) : Nat → Int
 | 0 => 0
 | k + 1 => YD f idx k + (if idx ≤ f.get k then 2 ^ k else 0)
theorem V8 (f : F5) (idx : Int) : ∀ k, 0 ≤ YD f idx k ∧ YD f idx k < 2 ^ k
 | 0 => by simp [YD]
 | k + 1 => by
  have := V8 f idx k
  rw [YD, Int.pow_succ]
  split <;> omega
theorem Ai {x : Int} : ∀ {k : Nat}, k < 5 → 0 ≤ x → x < 2 ^ k → bOr .i64 x (Zo .i64 1 (IntKind.u64.wrap k)) = x + 2 ^ k := by
 have key : ∀ k : Fin 5, ∀ i : Fin 32, (i.val : Int) < 2 ^ k.val → bOr .i64 i.val (Zo .i64 1 (IntKind.u64.wrap (k.val : Nat))) = i.val + 2 ^ k.val := by decide
 intro k hk h0 h1
 have h2 : (2 : Int) ^ k ≤ 16 := by
  rcases (by omega : k = 0 ∨ k = 1 ∨ k = 2 ∨ k = 3 ∨ k = 4) with rfl | rfl | rfl | rfl | rfl <;> decide
 obtain ⟨i, rfl⟩ := Mm h0 (by omega)
 exact key ⟨k, hk⟩ i h1
def f5C (f : F5) : List T := [ei f.a, ei f.b, ei f.c, ei f.d, ei f.e]
theorem Pc (f : F5) {k : Nat} (hk : k < 5) : (f5C f)[(k : Int).toNat]? = some (ei (f.get k)) := by
 rcases (by omega : k = 0 ∨ k = 1 ∨ k = 2 ∨ k = 3 ∨ k = 4) with rfl | rfl | rfl | rfl | rfl <;> rfl
def XN (n : Nd) (conf : Int) : Nat → Int
 | 0 => n.commit
 | k + 1 => if (n.log.getD k default).term = n.term ∧ XE conf (YD n.mtch (n.base + k + 1) 5) then max (XN n conf k) (n.base + k + 1) else XN n conf k
def QU (n : Nd) : Nd :=
 if ¬ isF (Qx n).2 n.id ∧ (Qx n).1 ≤ XN n (Qx n).2 n.log.length then { n with commit := XN n (Qx n).2 n.log.length, role := 0, wait := 0 } else { n with commit := XN n (Qx n).2 n.log.length }
theorem O2 (l : List En) {k : Nat} (h : k < l.length) : (l.map een)[k]? = some (een (l.getD k default)) := by simp [h]
theorem C2 (conf id : Int) (h0 : 0 ≤ id) (h1 : id < 5) (h2 : 0 ≤ conf) (h3 : conf ≤ 31) : FnP Tryz.prog 107 [ei conf, ei id] (fun r => r = .v (.bool (decide (isF conf id = true)))) := by
 have := TJ conf id h0 h1 h2 h3
 simpa [eB] using this
theorem VJ {b : Nat} {n : Nd} {out : List Ms} {H : Qd} (hn : Bd n) (hw : WkH b n out H) :
  FnH Tryz.prog 144 [pW b] H (fun r H' => r = .tup [] ∧ WkH b (QU n) out H') := by
 have hC := Dw n (by have := hn.log; omega) (by have := hn.base0; omega) (by have := hn.base1; omega)
 have hlog := hn.log
 have hb0 := hn.base0
 have hb1 := hn.base1
 refine fe Tryz.func144 fun S0 w0 => ?_
 show Sim _ _ [(0, pW b)] _ _
 obtain ⟨vl, vo, Hl, Ho, h1, h2, rfl⟩ := hw
 obtain ⟨p, c, rfl⟩ := h1.len
 obtain ⟨q, d, rfl⟩ := h2.len
 refine zC ?_
 refine cr <| s_ Qa <| s_ Qe <| s_ Qc <| s_ (WA hC (Qg.cons (VD h1 (by intro p hp; simp [hp]) List.mem_cons_self) Qg.nil)) <| s_ Qa <| s_ QD <| s_ QD <| s_ Qb <| s_ Qb <| zC ?_
 refine cr <| s_ Qa <| s_ Qe <| s_ Qc <| s_ Qc <| s_ Qj ?_
 (first | refine s_ QX ?_ | refine s_ QQ ?_)
 refine s_ Qa <| zC ?_
 have hc0 := hn.conf0
 have hc1 := hn.conf1
 generalize hcf : (Qx n).2 = conf at hc0 hc1 ⊢
 generalize hat : (Qx n).1 = at_
 apply Qp (σ := Nat) (ok := fun k => k ≤ n.log.length) (env := fun k => [(23, ei (k : Nat)), (22, ei ((n.log.map een).length : Nat)), (21, .v (.slice p (n.log.map een).length c)), (2, ei at_), (3, ei conf), (0, pW b)])
  (heap := fun k => (b, ⟨tW, wkC { n with commit := XN n conf k } (.slice p (n.log.map een).length c) (.slice q (out.map ms).length d), 23⟩) :: (Hl ++ (Ho ++ []))) (μ := fun k => n.log.length - k) (s0 := 0)
 ·exact Nat.zero_le _
 ·exact eL
 ·exact kR
 intro k hk
 refine zC ?_
 refine cr <| s_ Q2 <| zC ?_
 refine ci ?_ ?_
 ·intro hlt
  simp only [List.length_map] at hlt
  have hkl : k < n.log.length := by omega
  have hrow : ∃ bl, p = some ⟨bl, 0, none⟩ ∧ Hl = [(bl, (⟨tE, (n.log.map een).flatMap T.cells, c * 3⟩ : Blk))] := by
   rcases h1 with ⟨h, _⟩ | ⟨bl, c', e, _, rfl⟩
   ·have : n.log = [] := by simpa using h
    rw [this] at hkl; simp at hkl
   ·cases e; exact ⟨bl, rfl, rfl⟩
  obtain ⟨bl, rfl, rfl⟩ := hrow
  refine zC ?_
  refine cr <| s_ Qa ?_
  (first | refine s_ (Xh hix) ?_ | refine s_ (Xh hix2) ?_ | refine s_ YM ?_ | refine s_ Y8 ?_)
  refine s_ (Xc (hc := Xv.flat (GU n.log) (O2 n.log hkl))) ?_
  refine X2 fun b5 _ => ?_
  refine s_ Qb <| Qz ?_
  refine zC ?_
  refine cr <| s_ Qa <| s_ Qe <| s_ Qc <| s_ Qc <| s_ Qj <| s_ Qa <| s_ Q6 <| s_ Q6 <| s_ Qb <| s_ Qb <| zC ?_
  refine cr <| s_ Qa <| s_ Qe <| s_ Qc <| s_ Qc <| s_ Xc <| s_ Qa <| zC ?_
  apply Qp (σ := Nat) (ok := fun j => j ≤ 5) (env := fun j => [(41, ei (j : Nat)), (40, .agg (f5C n.mtch)), (7, ei (YD n.mtch (n.base + k + 1) j)), (6, ei (n.base + k + 1)), (5, .v (.pointer (some ⟨b5, 0, none⟩))), (23, ei (k : Nat)), (22, ei ((n.log.map een).length : Nat)), (21, .v (.slice (some ⟨bl, 0, none⟩) (n.log.map een).length c)), (2, ei at_), (3, ei conf), (0, pW b)])
   (heap := fun _ => (b5, ⟨tE, (een (n.log.getD k default)).cells, 3⟩) :: (b, ⟨tW, wkC { n with commit := XN n conf k } (.slice (some ⟨bl, 0, none⟩) (n.log.map een).length c) (.slice q (out.map ms).length d), 23⟩) :: ([(bl, (⟨tE, (n.log.map een).flatMap T.cells, c * 3⟩ : Blk))] ++ (Ho ++ []))) (μ := fun j => 5 - j) (s0 := 0)
  ·exact Nat.zero_le _
  ·exact eL
  ·exact kR
  ·intro j hj
   refine zC ?_
   refine cr <| s_ Q2 <| zC ?_
   refine ci ?_ ?_
   ·intro hj5
    have hj5' : j < 5 := by omega
    have ix_a := Pc n.mtch hj5'
    have hbd := V8 n.mtch (n.base + k + 1) j
    have hwj := JU (x := (j : Nat)) (by omega) (by omega)
    have hor := Ai hj5' hbd.1 hbd.2
    refine zC ?_
    refine cr <| s_ Qa <| s_ (PB (by first | exact ix_a | rfl)) <| s_ Qb <| s_ Qb <| zC ?_
    refine cr <| s_ Qa <| s_ Qa <| s_ Vd <| zC ?_
    refine ci ?_ ?_
    ·intro hge
     have hs : YD n.mtch (n.base + k + 1) (j + 1) = bOr .i64 (YD n.mtch (n.base + k + 1) j) (Zo .i64 1 (IntKind.u64.wrap j)) := by rw [hor, YD, if_pos hge]
     refine zC ?_
     refine cr <| s_ Qa <| s_ Qa <| s_ Yw <| s_ Uw <| s_ VV <| s_ Qb <| zC ?_
     refine cr <| s_ Q6 <| s_ Qa <| zC ?_
     exact ⟨j + 1, by omega, by show 5 - (j + 1) < 5 - j; omega, ⟨Qh (by rfl) (Le.refl _), Qh (by (exact zG)) (Le.refl _), Qh (by (exact zG)) (Le.of_eq (by rw [hs]; rfl)), eL⟩, kR⟩
    ·intro hge
     have hs : YD n.mtch (n.base + k + 1) (j + 1) = YD n.mtch (n.base + k + 1) j := by rw [YD, if_neg hge]; omega
     refine zC ?_
     refine cr <| s_ Q6 <| s_ Qa <| zC ?_
     exact ⟨j + 1, by omega, by show 5 - (j + 1) < 5 - j; omega, ⟨Qh (by rfl) (Le.refl _), Qh (by (exact zG)) (Le.refl _), Qh (by (exact zG)) (Le.of_eq (by rw [hs])), eL⟩, kR⟩
   ·intro hj5
    have : j = 5 := by omega
    subst this
    have hm5 := V8 n.mtch (n.base + k + 1) 5
    have hmost := Db conf (YD n.mtch (n.base + k + 1) 5) hm5.1 (by omega) hc0 hc1
    refine zC ?_
    refine ca [0, 1, 2, 3, 4, 5, 6, 7, 8, 9, 10, 11, 12] [] <| a_ (fun _ => Qc) <| QL ?_
    refine a_ (fun _ => Qa) <| a_ (fun _ => Qe) <| a_ (fun _ => Qc) <| a_ (fun _ => Qc) <| QL ?_
    refine a_ (fun _ => Xi) <| a_ (fun _ => Qa) <| QK (fun _ hg => Qa) ?_
    refine QK (fun _ hg => Qa) ?_
    refine QK (fun _ hg => QM (hmost) (ha' := by apply Q1 (u_ hg); apply Q1 (u_ hg); exact XZ)) ?_
    refine a_ (fun _ => Yh) ?_
    apply an
    refine zC ?_
    refine ci ?_ ?_
    ·intro hc
     refine zC ?_
     refine cr <| s_ Qa <| s_ Qa <| s_ Qe <| s_ Qc <| s_ Qc <| s_ Qj <| s_ Qa <| s_ V1 <| s_ Qe <| s_ Qc <| s_ Qc <| Qz ?_
     refine zC ?_
     refine cr <| s_ Q6 <| s_ Qa <| zC ?_
     refine ⟨k + 1, by omega, by show n.log.length - (k + 1) < n.log.length - k; omega, ⟨Qh (by rfl) (Le.refl _), eL⟩, ?_⟩
     have hs : XN n conf (k + 1) = max (XN n conf k) (n.base + k + 1) := by rw [XN, if_pos ⟨hc.1, decide_eq_true hc.2⟩]
     dsimp only
     rw [hs]
     exact kS kR
    ·intro hc
     refine zC ?_
     refine cr <| s_ Q6 <| s_ Qa <| zC ?_
     refine ⟨k + 1, by omega, by show n.log.length - (k + 1) < n.log.length - k; omega, ⟨Qh (by rfl) (Le.refl _), eL⟩, ?_⟩
     have hs : XN n conf (k + 1) = XN n conf k := by rw [XN, if_neg fun h => hc ⟨h.1, of_decide_eq_true h.2⟩]
     dsimp only
     rw [hs]
     exact kS kR
 ·intro hlt
  simp only [List.length_map] at hlt
  have : k = n.log.length := by omega
  subst this
  have hi := C2 conf n.id hn.id0 hn.id5 hc0 hc1
  refine zC ?_
  refine cr <| s_ Qa <| s_ Qa <| s_ Qe <| s_ Qc <| s_ Qc <| s_ Qj <| s_ (QM (hi)) <| s_ Yr <| s_ Qa <| gT (fun hg => Qa) ?_
  refine gT (fun hg => Qa) ?_
  refine gT (fun hg => Qe (hx := u_ hg)) ?_
  refine gT (fun hg => Qc (hx := u_ hg)) ?_
  refine gT (fun hg => Qc (hx := u_ hg)) ?_
  refine gT (fun hg => Qj (hx := u_ hg)) ?_
  refine gT (fun hg => Cz (hx := u_ hg) (hy := u_ hg)) ?_
  refine s_ Yh <| zC ?_
  refine ci ?_ ?_
  ·intro hc
   refine zC ?_
   refine cr <| s_ Qa <| s_ Qa <| s_ Qe <| s_ Qc <| s_ Qc <| Qz ?_
   refine s_ Qe <| s_ Qc <| s_ Qc <| Qz ?_
   refine zC ?_
   refine rhn kR ⟨rfl, ?_⟩ (Le.refl _)
   have e : QU n = { n with commit := XN n conf n.log.length, role := 0, wait := 0 } := by rw [QU, hcf, hat, if_pos hc]
   rw [e]
   exact ⟨_, _, Hl, Ho, h1, h2, rfl⟩
  ·intro hc
   refine zC ?_
   refine rhn kR ⟨rfl, ?_⟩ (Le.refl _)
   have e : QU n = { n with commit := XN n conf n.log.length } := by rw [QU, hcf, hat, if_neg hc]
   rw [e]
   exact ⟨_, _, Hl, Ho, h1, h2, rfl⟩
def W3 (f : F5) (v : Int) : Nat → F5
 | 0 => f
 | k + 1 => (W3 f v k).set k v
def Yt (n : Nd) : Nd := { n with role := 2, log := n.log ++ [⟨n.term, 0, []⟩], next := .all (n.base + (n.log.length + 1)), mtch := (F5.all 0).set n.id.toNat (n.base + (n.log.length + 1)) }
def XF (n : Nd) : Nd := QU (Yt n)
theorem Dh (l : List En) (e : En) : ∀ k, k ≤ l.length → lc (l ++ [e]) k = lc l k
 | 0, _ => rfl
 | k + 1, h => by
  have hk : k < l.length := by omega
  have : (l ++ [e]).getD k default = l.getD k default := by simp [List.getD_eq_getElem?_getD, List.getElem?_append_left hk]
  rw [lc, lc, this, Dh l e k (by omega)]
theorem BL (n : Nd) (e : En) (he : e.conf = 0) (r : Int) (f g : F5) : Qx { n with role := r, log := n.log ++ [e], next := f, mtch := g } = Qx n := by
 have h1 : lc (n.log ++ [e]) (n.log ++ [e]).length = lc n.log n.log.length := by
  rw [List.length_append, List.length_singleton, lc]
  have : (n.log ++ [e]).getD n.log.length default = e := by simp [List.getD_eq_getElem?_getD]
  rw [this, if_neg (by simpa using he), Dh _ _ _ (Nat.le_refl _)]
 simp only [Qx, h1]
theorem UQ (n : Nd) : ∃ c r w, QU n = { n with commit := c, role := r, wait := w } := by
 unfold QU
 split <;> exact ⟨_, _, _, rfl⟩
theorem Bd.commit {n : Nd} (h : Bd n) : Bd (QU n) := by
 obtain ⟨c, r, w, e⟩ := UQ n
 rw [e]
 exact ⟨h.id0, h.id5, h.log, h.base0, h.base1, h.conf0, h.conf1⟩
theorem Bd.lead {n : Nd} (h : Bd n) (hl : n.log.length < 100000000) : Bd (Yt n) := by
 have hc : Qx (Yt n) = Qx n := BL n _ rfl _ _ _
 exact ⟨h.id0, h.id5, by simp [Yt]; omega, h.base0, h.base1, by rw [hc]; exact h.conf0, by rw [hc]; exact h.conf1⟩
theorem ZL (v : Int) : (ei v).cells.length = 1 := rfl
theorem Jz (n : Nd) (vl vo : Value) : (wkC n vl vo).length = 23 := rfl
theorem R0 {n : Nd} {vl vo : Value} {k : Nat} (hk : k < 5) (v : Int) : lay (wkC n vl vo) (0 + 0 + 12 + (k : Int).toNat * 1) (T.v (.int .i64 v)).cells = wkC { n with next := n.next.set k v } vl vo := by
 rcases (by omega : k = 0 ∨ k = 1 ∨ k = 2 ∨ k = 3 ∨ k = 4) with rfl | rfl | rfl | rfl | rfl <;> rfl
theorem R2 {n : Nd} {vl vo : Value} {k : Nat} (hk : k < 5) (v : Int) : lay (wkC n vl vo) (0 + 0 + 17 + (k : Int).toNat * 1) (T.v (.int .i64 v)).cells = wkC { n with mtch := n.mtch.set k v } vl vo := by
 rcases (by omega : k = 0 ∨ k = 1 ∨ k = 2 ∨ k = 3 ∨ k = 4) with rfl | rfl | rfl | rfl | rfl <;> rfl
theorem OF {b : Nat} {n : Nd} {out : List Ms} {H : Qd} (hn : Bd n) (hx : ∀ i, n.next.get i ≤ 100000000000) (ho : out.length ≤ 900) (hw : WkH b n out H) :
  FnH Tryz.prog 104 [pW b, .clo 105 [pW b] []] H (fun r H' => r = .tup [] ∧ WkH b n (out ++ Yk n (Z5 n) 5) H') := by
 have hO := L6 (Hc := []) (Z5 n) 105 [pW b] [] (by rfl) hn ho hw (fun to out' H2 h0 h5 ho2 hw2 => by
  have := CB to h0 h5 (by have := hn.log; omega) (by have := hn.base0; omega) (by have := hn.base1; omega) (hx _) (by omega) hw2
  have := this.mono (Φ' := fun _ H' => ∃ H1, H' = H1 ++ [] ∧ WkH b n (out' ++ [Z5 n to]) H1) fun r H' h => ⟨H', by simp, h.2⟩
  rw [← List.append_nil H2] at this
  exact this)
 rw [List.append_nil] at hO
 exact hO.mono fun r H' ⟨h1, H1, h2, h3⟩ => ⟨h1, by rw [h2, List.append_nil]; exact h3⟩
theorem F5.get_all (v : Int) (i : Nat) : (F5.all v).get i = v := by
 unfold F5.get F5.all
 split <;> rfl
theorem Gz {n : Nd} {i : Nat} : (XF n).next.get i = n.base + (n.log.length + 1) := by
 obtain ⟨c, r, w, e⟩ := UQ (Yt n)
 rw [XF, e]
 exact F5.get_all _ _
theorem OH {b : Nat} {n : Nd} {out : List Ms} {H : Qd} (hn : Bd n) (hl : n.log.length < 100000000) (ho : out.length ≤ 900) (hw : WkH b n out H) :
  FnH Tryz.prog 147 [pW b] H (fun r H' => r = .tup [] ∧ WkH b (XF n) (out ++ Yk (XF n) (Z5 (XF n)) 5) H') := by
 have hb0 := hn.base0
 have hb1 := hn.base1
 have hi0 := hn.id0
 have hi5 := hn.id5
 refine fe Tryz.func147 fun S0 w0 => ?_
 show Sim _ _ [(0, pW b)] _ _
 obtain ⟨vl, vo, Hl, Ho, h1, h2, rfl⟩ := hw
 obtain ⟨p, c, rfl⟩ := h1.len
 obtain ⟨q, d, rfl⟩ := h2.len
 refine zC ?_
 refine cr <| s_ Qa <| s_ Qe <| s_ Qc <| s_ Qc <| Qz ?_
 refine zC ?_
 refine zC ?_
 refine ca [0, 1, 2, 3, 4, 5, 6, 7, 8, 9, 10, 11, 12, 13, 14, 15, 16, 17] [13, 17] <| a_ (fun _ => Qa) <| a_ (fun _ => Qa) <| a_ (fun _ => Qe) <| a_ (fun _ => Qc) <| a_ (fun _ => Qc) <| QL ?_
 refine a_ (fun _ => Qa) <| a_ (fun _ => Qe) <| a_ (fun _ => Qc) <| a_ (fun _ => Qc) <| QL ?_
 refine a_ (fun _ => ZG 3 [_, _, _]) <| a_ (fun _ => JT) ?_
 refine Tp (ho := h1) (A := [_]) (B := Ho ++ []) (GU n.log) (fun v' Hl' h1' => ⟨zd, ?_⟩)
 refine zD ?_
 have h1 : OE (n.log ++ [⟨n.term, 0, []⟩]) v' Hl' := by unfold OE; rw [List.map_append]; exact h1'
 clear h1'
 obtain ⟨p, c, rfl⟩ := h1.len
 refine a_ (fun _ => Qe) <| a_ (fun _ => Qc) <| a_ (fun _ => Qc) <| XU ?_
 apply an
 refine zC ?_
 have hL := JG { n with role := 2, log := n.log ++ [⟨n.term, 0, []⟩] } (by simp; omega) (by simp only; omega) (by simp only; omega)
 refine zC ?_
 refine cr <| s_ Qa <| s_ Qe <| s_ Qc <| s_ Xc <| s_ (WA hL (Qg.cons (QB.agg (QY _ (h1.lend (by intro p hp; simp [hp])))) Qg.nil)) <| s_ Qa <| s_ QD <| s_ QD <| s_ Qb <| s_ Qb <| zC ?_
 refine cr <| s_ Qa <| zC ?_
 have hLF : QT { n with role := 2, log := n.log ++ [⟨n.term, 0, []⟩] } = n.base + (n.log.length + 1) := by simp [QT]
 rw [hLF]
 generalize hv : n.base + (n.log.length + 1) = v
 apply Qp (σ := Nat) (ok := fun k => k ≤ 5) (env := fun k => [(34, ei (k : Nat)), (2, ei v), (0, pW b)])
  (heap := fun k => (b, ⟨tW, wkC { n with role := 2, log := n.log ++ [⟨n.term, 0, []⟩], next := W3 n.next v k, mtch := W3 n.mtch 0 k } (.slice p ((n.log ++ [(⟨n.term, 0, []⟩ : En)]).map een).length c) (.slice q (out.map ms).length d), 23⟩) :: (Hl' ++ (Ho ++ []))) (μ := fun k => 5 - k) (s0 := 0)
 ·exact Nat.zero_le _
 ·exact eL
 ·exact kR
 ·intro k hk
  refine zC ?_
  refine cr <| s_ Q2 <| zC ?_
  refine ci ?_ ?_
  ·intro hlt
   have hk5 : k < 5 := by omega
   refine zC ?_
   refine cr <| s_ Qa <| s_ Qb <| zC ?_
   refine ca [0, 1, 2, 3, 4, 5, 6, 7, 8, 10, 11, 12, 9, 13, 14] [9, 14] <| a_ (fun _ => Qa) <| a_ (fun _ => Qa) <| a_ (fun _ => Qa) <| a_ (fun _ => Qa) <| a_ (fun _ => Qa) <| a_ (fun _ => Qe) <| a_ (fun _ => Qc) <| a_ (fun _ => Qc) <| a_ (fun _ => Yx) <| a_ (fun _ => Qe) <| a_ (fun _ => Qc) <| a_ (fun _ => Qc) ?_
   refine G9 ?_ ?_
   ·simp only [Jz, ZL]; omega
   refine a_ (fun _ => Yx) ?_
   refine G9 ?_ ?_
   ·simp only [Jz, ZL, AX, Value.cells, T.cells, List.length_map]; simp; omega
   apply an
   refine zC ?_
   refine cr <| s_ Q6 <| s_ Qa <| zC ?_
   refine ⟨k + 1, by omega, by show 5 - (k + 1) < 5 - k; omega, ⟨Qh (by rfl) (Le.refl _), eL⟩, ?_⟩
   show Qi ((b, ⟨_, lay (lay _ _ (T.v (.int .i64 v)).cells) _ (T.v (.int .i64 0)).cells, _⟩) :: _) _
   rw [R0 hk5, R2 hk5]
   exact kR
  ·intro hlt
   have : k = 5 := by omega
   subst this
   refine zC ?_
   refine ca [0, 1, 2, 3, 4, 5, 6, 7, 8, 9, 10, 11] [11] <| a_ (fun _ => Qa) <| a_ (fun _ => Qa) <| a_ (fun _ => Qe) <| a_ (fun _ => Qc) <| a_ (fun _ => Qc) <| QL ?_
   refine a_ (fun _ => Qa) <| a_ (fun _ => Qe) <| a_ (fun _ => Qc) <| a_ (fun _ => Qc) <| a_ (fun _ => Yx) ?_
   refine G9 ?_ ?_
   ·simp only [Jz, ZL]; omega
   apply an
   refine zC ?_
   have hm : lay (wkC { n with role := 2, log := n.log ++ [⟨n.term, 0, []⟩], next := W3 n.next v 5, mtch := W3 n.mtch 0 5 } (.slice p ((n.log ++ [(⟨n.term, 0, []⟩ : En)]).map een).length c) (.slice q (out.map ms).length d)) (0 + 0 + 17 + n.id.toNat * 1) (ei v).cells = wkC (Yt n) (.slice p ((n.log ++ [(⟨n.term, 0, []⟩ : En)]).map een).length c) (.slice q (out.map ms).length d) := by
    obtain ⟨i, hi⟩ : ∃ i : Nat, n.id = (i : Int) := ⟨n.id.toNat, by omega⟩
    rw [Yt, hv, hi]
    rcases (by omega : i = 0 ∨ i = 1 ∨ i = 2 ∨ i = 3 ∨ i = 4) with rfl | rfl | rfl | rfl | rfl <;> rfl
   have hw : WkH b (Yt n) out ((b, ⟨tW, lay (wkC { n with role := 2, log := n.log ++ [⟨n.term, 0, []⟩], next := W3 n.next v 5, mtch := W3 n.mtch 0 5 } (.slice p ((n.log ++ [(⟨n.term, 0, []⟩ : En)]).map een).length c) (.slice q (out.map ms).length d)) (0 + 0 + 17 + n.id.toNat * 1) (ei v).cells, 23⟩) :: (Hl' ++ (Ho ++ []))) := by
    rw [hm]
    exact ⟨_, _, Hl', Ho, h1, h2, rfl⟩
   have hnl := hn.lead hl
   have hnc := hnl.commit
   refine zC ?_
   refine cr <| s_ Qa ?_
   refine QN (VJ hnl hw) (fun r H' ⟨hr, hw'⟩ => ?_)
   subst hr
   refine zC ?_
   refine cr <| s_ Qa <| s_ Qa <| s_ Vc ?_
   refine QN (OF hnc (fun i => by have := Gz (n := n) (i := i); unfold XF at this; rw [this]; omega) ho hw') (fun r H' ⟨hr, hw''⟩ => ?_)
   subst hr
   refine zC ?_
   exact rhn kR ⟨rfl, hw''⟩ (Le.refl _)
def UT (idx term : Int) : Ms := ⟨1, 0, 0, 0, idx, term, 0, 0, false, [], []⟩
def QC (n : Nd) : Nd := { n with role := 1, vote := n.id, wait := 0, term := n.term + 1, votes := 2 ^ n.id.toNat }
def Yn (n : Nd) : Nd × List Ms := if XE (Qx n).2 (2 ^ n.id.toNat) then (XF (QC n), Yk (XF (QC n)) (Z5 (XF (QC n))) 5)
 else (QC n, Yk (QC n) (fun to => QG (QC n) to (UT (QT n) (termF n (QT n)))) 5)
theorem Nr {b b1 b2 b3 : Nat} {n : Nd} {out : List Ms} {H : Qd} (to idx term : Int) (hb : out.length ≤ 1000) (hw : WkH b n out H) :
  FnH Tryz.prog 148 ([] ++ [ei to] ++ [pW b1, pW b2, pW b3]) (H ++ [(b3, ⟨3, [ei term], 1⟩), (b2, ⟨3, [ei idx], 1⟩), (b1, ⟨164, [pW b], 1⟩)])
   (fun _ H' => ∃ H1, H' = H1 ++ [(b3, ⟨3, [ei term], 1⟩), (b2, ⟨3, [ei idx], 1⟩), (b1, ⟨164, [pW b], 1⟩)] ∧ WkH b n (out ++ [QG n to (UT idx term)]) H1) := by
 refine fe Tryz.func148 fun S0 w0 => ?_
 show Sim _ _ [(0, ei to), (1, pW b1), (2, pW b2), (3, pW b3)] _ _
 refine zC ?_
 refine cr <| s_ Qj <| s_ Qa <| s_ Qj <| s_ Qj <| s_ (ZG 11 [_, _, _, _, _, _, _, _, _, _, _]) ?_
 refine QV (FnH.of_le ?_ (Ug to (UT idx term) hb hw)) (.refl _) (fun r H' ⟨hr, h3⟩ => ?_)
 ·exact zM
 ·subst hr
  refine zC ?_
  exact rhn kR ⟨_, rfl, h3⟩ (Le.refl _)
theorem Bd.stand {n : Nd} (h : Bd n) : Bd (QC n) := ⟨h.id0, h.id5, h.log, h.base0, h.base1, h.conf0, h.conf1⟩
theorem I0 {b : Nat} {n : Nd} {out : List Ms} {H : Qd} (hn : Bd n) (hl : n.log.length < 100000000) (ht0 : 0 ≤ n.term) (ht1 : n.term ≤ 1000000000000) (ho : out.length ≤ 900) (hw : WkH b n out H) :
  FnH Tryz.prog 108 [pW b] H (fun r H' => r = .tup [] ∧ WkH b (Yn n).1 (out ++ (Yn n).2) H') := by
 have hb0 := hn.base0
 have hb1 := hn.base1
 have hi0 := hn.id0
 have hi5 := hn.id5
 have hC := Vx (QC n) (by show n.log.length ≤ _; omega) (by show _ ≤ n.base; omega) (by show n.base ≤ _; omega)
 have hL := JG (QC n) (by show n.log.length ≤ _; omega) (by show _ ≤ n.base; omega) (by show n.base ≤ _; omega)
 have hsh : Zo .i64 1 (IntKind.u64.wrap n.id) = 2 ^ n.id.toNat ∧ 0 ≤ (2 : Int) ^ n.id.toNat ∧ (2 : Int) ^ n.id.toNat ≤ 31 := by
  rcases five hi0 hi5 with h | h | h | h | h <;> rw [h] <;> decide
 have hwi : IntKind.u64.wrap n.id = n.id := JU hi0 (by omega)
 have hM := Db (Qx n).2 (2 ^ n.id.toNat) hsh.2.1 hsh.2.2 hn.conf0 hn.conf1
 refine fe Tryz.func108 fun S0 w0 => ?_
 show Sim _ _ [(0, pW b)] _ _
 obtain ⟨vl, vo, Hl, Ho, h1, h2, rfl⟩ := hw
 obtain ⟨p, c, rfl⟩ := h1.len
 obtain ⟨q, d, rfl⟩ := h2.len
 refine zC ?_
 apply cr
 refine Du fun b1 _ => ?_
 refine zC ?_
 refine ca [0, 1, 2, 3, 4, 5, 6, 7, 8, 9, 10, 11, 12, 13, 14, 15, 16, 17, 18, 19] [11, 15, 19] <| QL ?_
 refine QL ?_
 refine QL ?_
 refine QL ?_
 refine a_ (fun _ => Qe) <| a_ (fun _ => Qc) <| a_ (fun _ => Qc) <| QL ?_
 refine a_ (fun _ => Qe) <| a_ (fun _ => Qc) <| a_ (fun _ => Qc) <| XU ?_
 refine a_ (fun _ => Qe) <| a_ (fun _ => Qc) <| a_ (fun _ => Qc) <| XU ?_
 refine a_ (fun _ => Qe) <| a_ (fun _ => Qc) <| a_ (fun _ => Qc) <| XU ?_
 apply an
 refine zC ?_
 refine cr <| s_ Qj <| s_ Qe <| s_ Qc <| s_ Qc <| s_ Qj <| s_ Q6 <| s_ Qe <| s_ Qc <| s_ Qc <| Qz ?_
 refine zC ?_
 refine ca [0, 1, 2, 3, 4, 5, 6, 7, 8, 9, 10, 11] [11] <| QL ?_
 refine QL ?_
 refine a_ (fun _ => Qe) <| a_ (fun _ => Qc) <| a_ (fun _ => Qc) <| QL ?_
 refine a_ (fun _ => Yw) <| a_ (fun _ => Uw) <| a_ (fun _ => Qe) <| a_ (fun _ => Qc) <| a_ (fun _ => Qc) <| XU ?_
 apply an
 refine zC ?_
 rw [hsh.1]
 refine zC ?_
 refine ca [0, 1, 2, 3, 4, 5, 6, 7, 8, 9, 10] [] <| QL ?_
 refine a_ (fun _ => Qe) <| a_ (fun _ => Qc) <| YI ?_
 refine Nz (G := (b, _) :: (Hl ++ (Ho ++ []))) hC (Qg.cons (QB.agg (QY _ (h1.lend (by intro p hp; simp [hp])))) Qg.nil) ⟨[_], List.perm_append_comm (l₁ := [_])⟩ ?_
 refine QL ?_
 refine a_ (fun _ => Qe) <| a_ (fun _ => Qc) <| a_ (fun _ => Qc) <| QL ?_
 refine a_ (fun _ => QM (hM)) ?_
 apply an
 refine zC ?_
 have hw : WkH b (QC n) out ((b, ⟨tW, wkC (QC n) (.slice p (n.log.map een).length c) (.slice q (out.map ms).length d), 23⟩) :: (Hl ++ (Ho ++ []))) := ⟨_, _, Hl, Ho, h1, h2, rfl⟩
 refine ci ?_ ?_
 ·intro hc
  refine zC ?_
  refine cr <| s_ Qj ?_
  refine QV (Hr := [_]) (OH hn.stand hl ho hw) (List.perm_append_comm (l₁ := [_])) (fun r H' ⟨hr, h3⟩ => ?_)
  subst hr
  refine zC ?_
  refine zR ?_
  refine rhp (List.perm_append_comm (l₂ := [_])) (.skip _ _ _ kR) ⟨rfl, ?_⟩ (Le.refl _)
  have hm : XE (Qx n).2 (2 ^ n.id.toNat) = true := decide_eq_true hc
  rw [Yn, if_pos hm]
  exact h3
 ·intro hc
  refine zC ?_
  refine cr <| s_ Qj <| s_ Qe <| s_ Qc <| s_ Xc <| s_ (AM (G := (b, _) :: (Hl ++ (Ho ++ []))) hL (Qg.cons (QB.agg (QY _ (h1.lend (by intro p hp; simp [hp])))) Qg.nil) ⟨[_], List.perm_append_comm (l₁ := [_])⟩) <| s_ Qa <| s_ QD <| s_ QD ?_
  refine X2 fun b2 _ => ?_
  refine X2 fun b3 _ => ?_
  refine Qz ?_
  refine Qz ?_
  refine zC ?_
  refine cr <| s_ Qj <| s_ Vc ?_
  have hO := L6 (fun to => QG (QC n) to (UT (QT (QC n)) (termF (QC n) (QT (QC n))))) 148 [] [pW b1, pW b2, pW b3] (by rfl) hn.stand ho hw (fun to out' H2 h0 h5 ho2 hw2 => Nr (b1 := b1) (b2 := b2) (b3 := b3) to _ _ (by omega) hw2)
  refine QV (Hr := []) hO ?_ (fun r H' hh => ?_)
  ·exact List.Perm.trans (l₂ := (_ :: _) ++ (_ :: _ :: _ :: [])) (List.perm_append_comm (l₁ := _ :: _ :: _ :: [])) (List.Perm.of_eq (List.append_nil _).symm)
  obtain ⟨hr, H1, e, h3⟩ := hh
  subst hr
  subst e
  refine zC ?_
  rw [List.append_nil]
  refine rhn (kH (r' := []) kN) ⟨rfl, ?_⟩ (Le.refl _)
  have hm : ¬ XE (Qx n).2 (2 ^ n.id.toNat) = true := fun h => hc (of_decide_eq_true h)
  rw [Yn, if_neg hm, List.append_nil]
  exact h3
theorem Bd.of {n n' : Nd} (h : Bd n) (h1 : n'.id = n.id := by rfl) (h2 : n'.log = n.log := by rfl) (h3 : n'.base = n.base := by rfl) (h4 : n'.baseConf = n.baseConf := by rfl) : Bd n' := by
 have hc : Qx n' = Qx n := by simp only [Qx, h2, h3, h4]
 exact ⟨h1 ▸ h.id0, h1 ▸ h.id5, h2 ▸ h.log, h3 ▸ h.base0, h3 ▸ h.base1, hc ▸ h.conf0, hc ▸ h.conf1⟩
theorem CI (m : Ms) : ms m = .agg [ei m.kind, ei m.frm, ei m.to, ei m.term, ei m.index, ei m.logTerm, ei m.commit, ei m.conf, .v (.bool (decide (m.yes = true))), ZM m.entries, es m.snap] := by
 simp [ms, msC, eB]
def YR (yes : Bool) : Ms := ⟨2, 0, 0, 0, 0, 0, 0, 0, yes, [], []⟩
def Lt (n : Nd) (m : Ms) : Bool := decide ((m.term = n.term ∧ (n.vote = -1 ∨ n.vote = m.frm)) ∧ (termF n (QT n) < m.logTerm ∨ m.logTerm = termF n (QT n) ∧ QT n ≤ m.index))
def Yj (n : Nd) (m : Ms) : Nd := if Lt n m then { n with vote := m.frm, wait := 0 } else n
theorem B9 {b : Nat} {n : Nd} {out : List Ms} {H : Qd} (m : Ms) (hn : Bd n) (ho : out.length ≤ 900) (hw : WkH b n out H) :
  FnH Tryz.prog 133 [pW b, ms m] H (fun r H' => r = .tup [] ∧ WkH b (Yj n m) (out ++ [QG (Yj n m) m.frm (YR (Lt n m))]) H') := by
 have hb0 := hn.base0
 have hb1 := hn.base1
 have hlog := hn.log
 have hL := JG n (by omega) (by omega) (by omega)
 refine fe Tryz.func133 fun S0 w0 => ?_
 show Sim _ _ [(0, pW b), (1, T.agg (msC m (ZM m.entries)))] _ _
 obtain ⟨vl, vo, Hl, Ho, h1, h2, rfl⟩ := hw
 obtain ⟨p, c, rfl⟩ := h1.len
 obtain ⟨q, d, rfl⟩ := h2.len
 refine zC ?_
 apply cr
 refine X1 fun b3 _ => ?_
 refine zC ?_
 refine Ze 3 (by simp [msC]) ?_
 refine zC ?_
 refine cr <| s_ Qa <| s_ Qe <| s_ Qc <| s_ Xc <| s_ (WA hL (Qg.cons (QB.agg (QY _ (h1.lend (by intro p hp; simp [hp])))) Qg.nil)) <| s_ Qa <| s_ QD <| s_ QD <| s_ Qb <| s_ Qb <| zC ?_
 refine ca [0, 1, 2, 3, 4, 5, 6, 7, 8, 9, 10, 11, 12, 13, 14, 15, 16, 17, 18, 19, 20, 21, 22, 23, 24, 25, 26, 27, 28, 29, 30, 31, 32, 33, 34, 35, 36, 37, 38, 39, 40, 41, 42, 43, 44] [] <| a_ (fun _ => Qu) <| a_ (fun _ => Qm) <| a_ (fun _ => Qa) <| a_ (fun _ => Qe) <| a_ (fun _ => Qc) <| a_ (fun _ => Qc) <| QL ?_
 refine a_ (fun _ => Xi) <| a_ (fun _ => Qa) <| QK (fun _ hg => Qa) ?_
 refine QK (fun _ hg => Qe (hx := u_ hg)) ?_
 refine QK (fun _ hg => Qc (hx := u_ hg)) ?_
 refine QK (fun _ hg => Qc (hx := u_ hg)) ?_
 refine ZP ?_
 refine QK (fun _ hg => Xi (hx := u_ hg)) ?_
 refine QK (fun _ hg => Qa (hx := u_ hg)) ?_
 refine VK (fun _ hg => Qa) ?_
 refine VK (fun _ hg => Qe (hx := u_ hg)) ?_
 refine VK (fun _ hg => Qc (hx := u_ hg)) ?_
 refine VK (fun _ hg => Qc (hx := u_ hg)) ?_
 refine Nv ?_
 refine VK (fun _ hg => Qu) ?_
 refine VK (fun _ hg => Qm (hx := u_ hg)) ?_
 refine VK (fun _ hg => Xi (hx := u_ hg) (hy := u_ hg)) ?_
 refine QK (fun _ hg => Tz hg) ?_
 refine a_ (fun _ => Yh) <| a_ (fun _ => Qa) <| QK (fun _ hg => Qu) ?_
 refine QK (fun _ hg => Qm (hx := u_ hg)) ?_
 refine QK (fun _ hg => Qa) ?_
 refine QK (fun _ hg => Ys (hx := u_ hg) (hy := u_ hg)) ?_
 refine QK (fun _ hg => Qa (hx := u_ hg)) ?_
 refine VK (fun _ hg => Qu) ?_
 refine VK (fun _ hg => Qm (hx := u_ hg)) ?_
 refine VK (fun _ hg => Qa) ?_
 refine VK (fun _ hg => Xi (hx := u_ hg) (hy := u_ hg)) ?_
 refine VK (fun _ hg => Qa (hx := u_ hg)) ?_
 refine Tn (fun _ hg => Qu) ?_
 refine Tn (fun _ hg => Qm (hx := u_ hg)) ?_
 refine Tn (fun _ hg => Qa) ?_
 refine Tn (fun _ hg => Vd (hx := u_ hg) (hy := u_ hg)) ?_
 refine VK (fun _ hg => TF hg) ?_
 refine QK (fun _ hg => Tz hg) ?_
 refine a_ (fun _ => Yh) <| a_ (fun _ => Qb) ?_
 apply an
 refine zC ?_
 refine cr <| s_ Qa <| zC ?_
 refine ci ?_ ?_
 ·intro hc
  have hy : Lt n m = true := decide_eq_true hc
  have hv : Yj n m = { n with vote := m.frm, wait := 0 } := by rw [Yj, if_pos hy]
  refine zC ?_
  refine cr <| s_ Qa <| s_ Qa <| s_ Qu <| s_ Qm <| s_ Qe <| s_ Qc <| s_ Qc <| Qz ?_
  refine s_ Qe <| s_ Qc <| s_ Qc <| Qz ?_
  refine zC ?_
  refine cr <| s_ Qa <| s_ Qu <| s_ Qm <| s_ Qa <| s_ (ZG 11 [_, _, _, _, _, _, _, _, _, _, _]) ?_
  refine QN (FnH.of_le ?_ (Ug m.frm (YR (Lt n m)) (by omega) (show WkH b { n with vote := m.frm, wait := 0 } out _ from ⟨_, _, Hl, Ho, h1, h2, rfl⟩))) (fun r H' ⟨hr, h3⟩ => ?_)
  ·exact zM
  ·subst hr
   refine zC ?_
   rw [hv]
   exact rhn kR ⟨rfl, h3⟩ (Le.refl _)
 ·intro hc
  have hy : ¬ Lt n m = true := fun h => hc (of_decide_eq_true h)
  have hv : Yj n m = n := by rw [Yj, if_neg hy]
  refine zC ?_
  refine cr <| s_ Qa <| s_ Qu <| s_ Qm <| s_ Qa <| s_ (ZG 11 [_, _, _, _, _, _, _, _, _, _, _]) ?_
  refine QN (FnH.of_le ?_ (Ug m.frm (YR (Lt n m)) (by omega) (show WkH b n out _ from ⟨_, _, Hl, Ho, h1, h2, rfl⟩))) (fun r H' ⟨hr, h3⟩ => ?_)
  ·exact zM
  ·subst hr
   refine zC ?_
   rw [hv]
   exact rhn kR ⟨rfl, h3⟩ (Le.refl _)
def orI (a b : Int) : Int := (a.toNat ||| b.toNat : Nat)
theorem NY {x y : Int} (h0 : 0 ≤ x) (h1 : x ≤ 31) (h2 : 0 ≤ y) (h3 : y < 5) : bOr .i64 x (Zo .i64 1 (IntKind.u64.wrap y)) = orI x (2 ^ y.toNat) ∧ 0 ≤ orI x (2 ^ y.toNat) ∧ orI x (2 ^ y.toNat) ≤ 31 := by
 have key : ∀ i : Fin 32, ∀ j : Fin 5, bOr .i64 i.val (Zo .i64 1 (IntKind.u64.wrap (j.val : Nat))) = orI i.val (2 ^ j.val) ∧ 0 ≤ orI i.val (2 ^ j.val) ∧ orI i.val (2 ^ j.val) ≤ 31 := by decide
 obtain ⟨i, rfl⟩ := Mm h0 h1
 obtain ⟨j, rfl⟩ : ∃ j : Nat, y = (j : Int) := ⟨y.toNat, by omega⟩
 exact key i ⟨j, by omega⟩
def XP (n : Nd) (m : Ms) : Nd := { n with votes := orI n.votes (2 ^ m.frm.toNat) }
def Ym (n : Nd) (m : Ms) : Nd × List Ms := if (¬ m.term = n.term ∨ ¬ n.role = 1) ∨ ¬ m.yes = true then (n, []) else
 if XE (Qx n).2 (orI n.votes (2 ^ m.frm.toNat)) then (XF (XP n m), Yk (XF (XP n m)) (Z5 (XF (XP n m))) 5) else (XP n m, [])
theorem IQ {b : Nat} {n : Nd} {out : List Ms} {H : Qd} (m : Ms) (hn : Bd n) (hl : n.log.length < 100000000) (hv0 : 0 ≤ n.votes) (hv1 : n.votes ≤ 31) (hf0 : 0 ≤ m.frm) (hf5 : m.frm < 5) (ho : out.length ≤ 900) (hw : WkH b n out H) :
  FnH Tryz.prog 134 [pW b, ms m] H (fun r H' => r = .tup [] ∧ WkH b (Ym n m).1 (out ++ (Ym n m).2) H') := by
 have hb0 := hn.base0
 have hb1 := hn.base1
 have hlog := hn.log
 have hor := NY hv0 hv1 hf0 hf5
 have hwf : IntKind.u64.wrap m.frm = m.frm := JU hf0 (by omega)
 have hC := Vx (XP n m) (by show n.log.length ≤ _; omega) (by show _ ≤ n.base; omega) (by show n.base ≤ _; omega)
 have hM := Db (Qx n).2 (orI n.votes (2 ^ m.frm.toNat)) hor.2.1 hor.2.2 hn.conf0 hn.conf1
 rw [CI]
 refine fe Tryz.func134 fun S0 w0 => ?_
 show Sim _ _ [(0, pW b), (1, T.agg [ei m.kind, ei m.frm, ei m.to, ei m.term, ei m.index, ei m.logTerm, ei m.commit, ei m.conf, .v (.bool (decide (m.yes = true))), ZM m.entries, es m.snap])] _ _
 obtain ⟨vl, vo, Hl, Ho, h1, h2, rfl⟩ := hw
 obtain ⟨p, c, rfl⟩ := h1.len
 obtain ⟨q, d, rfl⟩ := h2.len
 refine zC ?_
 apply cr
 refine X1 fun b3 _ => ?_
 refine zC ?_
 refine Ze 3 (by simp) ?_
 refine zC ?_
 refine ca [0, 1, 2, 3, 4, 5, 6, 7, 8, 9, 10, 11, 12, 13, 14, 15, 16, 17, 18, 19, 20] [] <| a_ (fun _ => Qu) <| a_ (fun _ => Qm) <| a_ (fun _ => Qa) <| a_ (fun _ => Qe) <| a_ (fun _ => Qc) <| a_ (fun _ => Qc) <| QL ?_
 refine a_ (fun _ => Yg) <| a_ (fun _ => Qa) <| Xq (fun _ hg => Qa) ?_
 refine Xq (fun _ hg => Qe (hx := u_ hg)) ?_
 refine Xq (fun _ hg => Qc (hx := u_ hg)) ?_
 refine Xq (fun _ hg => Qc (hx := u_ hg)) ?_
 refine VM ?_
 refine Xq (fun _ hg => Yg (hx := u_ hg)) ?_
 refine a_ (fun _ => YK) <| a_ (fun _ => Qa) <| Xq (fun _ hg => Qu) ?_
 refine Xq (fun _ hg => Qm (hx := u_ hg)) ?_
 refine Xq (fun _ hg => Yr (hx := u_ hg)) ?_
 refine a_ (fun _ => YK) ?_
 apply an
 refine zC ?_
 refine ci ?_ ?_
 ·intro hc
  refine zR ?_
  refine rh kR ⟨rfl, ?_⟩ (Le.refl _)
  rw [Ym, if_pos hc, List.append_nil]
  exact ⟨_, _, Hl, Ho, h1, h2, rfl⟩
 ·intro hc
  refine zC ?_
  refine ca [0, 1, 2, 3, 4, 5, 6, 7, 8, 9, 10, 11, 12, 13] [13] <| a_ (fun _ => Qa) <| a_ (fun _ => Qe) <| a_ (fun _ => Qc) <| a_ (fun _ => Qc) <| QL ?_
  refine a_ (fun _ => Qu) <| a_ (fun _ => Qm) <| a_ (fun _ => Yw) <| a_ (fun _ => Uw) <| a_ (fun _ => VV) <| a_ (fun _ => Qe) <| a_ (fun _ => Qc) <| a_ (fun _ => Qc) <| XU ?_
  apply an
  refine zC ?_
  rw [hor.1]
  have hw : WkH b (XP n m) out ((b, ⟨tW, wkC (XP n m) (.slice p (n.log.map een).length c) (.slice q (out.map ms).length d), 23⟩) :: (Hl ++ (Ho ++ []))) := ⟨_, _, Hl, Ho, h1, h2, rfl⟩
  refine zC ?_
  refine ca [0, 1, 2, 3, 4, 5, 6, 7, 8, 9, 10] [] <| a_ (fun _ => Qa) <| a_ (fun _ => Qe) <| a_ (fun _ => Qc) <| YI ?_
  refine Nz (G := (b, _) :: (Hl ++ (Ho ++ []))) hC (Qg.cons (QB.agg (QY _ (h1.lend (by intro p hp; simp [hp])))) Qg.nil) ⟨[], VU⟩ ?_
  refine a_ (fun _ => Qa) <| a_ (fun _ => Qe) <| a_ (fun _ => Qc) <| a_ (fun _ => Qc) <| QL ?_
  refine a_ (fun _ => QM (hM)) ?_
  apply an
  refine zC ?_
  refine ci ?_ ?_
  ·intro hm
   refine zC ?_
   refine cr <| s_ Qa ?_
   refine QN (OH (hn.of (n' := XP n m)) hl ho hw) (fun r H' ⟨hr, h3⟩ => ?_)
   subst hr
   refine zC ?_
   refine rhn kR ⟨rfl, ?_⟩ (Le.refl _)
   have hm' : XE (Qx n).2 (orI n.votes (2 ^ m.frm.toNat)) = true := decide_eq_true hm
   rw [Ym, if_neg hc, if_pos hm']
   exact h3
  ·intro hm
   refine zC ?_
   refine rhn kR ⟨rfl, ?_⟩ (Le.refl _)
   have hm' : ¬ XE (Qx n).2 (orI n.votes (2 ^ m.frm.toNat)) = true := fun h => hm (of_decide_eq_true h)
   rw [Ym, if_neg hc, if_neg hm', List.append_nil]
   exact hw
theorem Da {n : Nd} {vl vo : Value} {to : Int} (h0 : 0 ≤ to) (h5 : to < 5) : (wkC n vl vo)[0 + 0 + 17 + to.toNat * 1]? = some (ei (n.mtch.get to.toNat)) := by
 rcases five h0 h5 with rfl | rfl | rfl | rfl | rfl <;> rfl
theorem Md {n : Nd} {vl vo : Value} {i : Int} (h0 : 0 ≤ i) (h5 : i < 5) (v : Int) : lay (wkC n vl vo) (0 + 0 + 12 + i.toNat * 1) (T.v (.int .i64 v)).cells = wkC { n with next := n.next.set i.toNat v } vl vo := by
 rcases five h0 h5 with rfl | rfl | rfl | rfl | rfl <;> rfl
theorem Me {n : Nd} {vl vo : Value} {i : Int} (h0 : 0 ≤ i) (h5 : i < 5) (v : Int) : lay (wkC n vl vo) (0 + 0 + 17 + i.toNat * 1) (T.v (.int .i64 v)).cells = wkC { n with mtch := n.mtch.set i.toNat v } vl vo := by
 rcases five h0 h5 with rfl | rfl | rfl | rfl | rfl <;> rfl
theorem OX (f : F5) {i : Int} (h0 : 0 ≤ i) (h5 : i < 5) (v : Int) : (f.set i.toNat v).get i.toNat = v := by
 rcases five h0 h5 with rfl | rfl | rfl | rfl | rfl <;> rfl
def Z9 (n : Nd) (m : Ms) : Nd := { n with mtch := n.mtch.set m.frm.toNat (max (n.mtch.get m.frm.toNat) m.index), next := n.next.set m.frm.toNat (max (n.mtch.get m.frm.toNat) m.index + 1) }
def Zf (n : Nd) (m : Ms) : Nd := { n with next := n.next.set m.frm.toNat (max (max (min (n.next.get m.frm.toNat - 1) (m.index + 1)) 1) (n.mtch.get m.frm.toNat + 1)) }
def X9 (n : Nd) (m : Ms) : Nd × List Ms := if ¬ m.term = n.term ∨ ¬ n.role = 2 then (n, []) else if m.yes = true then (QU (Z9 n m), []) else
 if (Zf n m).next.get m.frm.toNat ≤ QT n then (Zf n m, [Z5 (Zf n m) m.frm]) else (Zf n m, [])
theorem C5 {b : Nat} {n : Nd} {out : List Ms} {H : Qd} (m : Ms) (hn : Bd n) (hf0 : 0 ≤ m.frm) (hf5 : m.frm < 5) (hx0 : -100000000000 ≤ n.next.get m.frm.toNat) (hx1 : n.next.get m.frm.toNat ≤ 50000000000) (hm0 : -100000000000 ≤ n.mtch.get m.frm.toNat) (hm1 : n.mtch.get m.frm.toNat ≤ 50000000000) (hi0 : -100000000000 ≤ m.index) (hi1 : m.index ≤ 50000000000) (ho : out.length ≤ 900) (hw : WkH b n out H) :
  FnH Tryz.prog 136 [pW b, ms m] H (fun r H' => r = .tup [] ∧ WkH b (X9 n m).1 (out ++ (X9 n m).2) H') := by
 have hb0 := hn.base0
 have hb1 := hn.base1
 have hlog := hn.log
 have hL := JG (Zf n m) (by show n.log.length ≤ _; omega) (by show _ ≤ n.base; omega) (by show n.base ≤ _; omega)
 rw [CI]
 refine fe Tryz.func136 fun S0 w0 => ?_
 show Sim _ _ [(0, pW b), (1, T.agg [ei m.kind, ei m.frm, ei m.to, ei m.term, ei m.index, ei m.logTerm, ei m.commit, ei m.conf, .v (.bool (decide (m.yes = true))), ZM m.entries, es m.snap])] _ _
 obtain ⟨vl, vo, Hl, Ho, h1, h2, rfl⟩ := hw
 obtain ⟨p, c, rfl⟩ := h1.len
 obtain ⟨q, d, rfl⟩ := h2.len
 refine zC ?_
 apply cr
 refine X1 fun b3 _ => ?_
 refine zC ?_
 refine Ze 3 (by simp) ?_
 refine zC ?_
 refine ca [0, 1, 2, 3, 4, 5, 6, 7, 8, 9, 10, 11, 12, 13, 14, 15] [] <| a_ (fun _ => Qu) <| a_ (fun _ => Qm) <| a_ (fun _ => Qa) <| a_ (fun _ => Qe) <| a_ (fun _ => Qc) <| a_ (fun _ => Qc) <| QL ?_
 refine a_ (fun _ => Yg) <| a_ (fun _ => Qa) <| Xq (fun _ hg => Qa) ?_
 refine Xq (fun _ hg => Qe (hx := u_ hg)) ?_
 refine Xq (fun _ hg => Qc (hx := u_ hg)) ?_
 refine Xq (fun _ hg => Qc (hx := u_ hg)) ?_
 refine VM ?_
 refine Xq (fun _ hg => Yg (hx := u_ hg)) ?_
 refine a_ (fun _ => YK) ?_
 apply an
 refine zC ?_
 refine ci ?_ ?_
 ·intro hc
  refine zR ?_
  refine rh kR ⟨rfl, ?_⟩ (Le.refl _)
  rw [X9, if_pos hc, List.append_nil]
  exact ⟨_, _, Hl, Ho, h1, h2, rfl⟩
 ·intro hc
  refine zC ?_
  refine cr <| s_ Qu <| s_ Qm <| zC ?_
  refine ci ?_ ?_
  ·intro hy
   refine zC ?_
   refine ca [0, 1, 2, 3, 4, 5, 6, 7, 8, 9, 10, 11, 12, 13, 14, 15, 16, 17, 18] [18] <| a_ (fun _ => Qa) <| a_ (fun _ => Qu) <| a_ (fun _ => Qm) <| a_ (fun _ => Qa) <| a_ (fun _ => Qu) <| a_ (fun _ => Qm) <| a_ (fun _ => Qe) <| a_ (fun _ => Qc) <| a_ (fun _ => Qc) <| a_ (fun _ => Yx) <| QL (hd := Da hf0 hf5) ?_
   refine a_ (fun _ => Qu) <| a_ (fun _ => Qm) <| a_ (fun _ => V1) <| a_ (fun _ => Qe) <| a_ (fun _ => Qc) <| a_ (fun _ => Qc) <| a_ (fun _ => Yx) ?_
   refine G9 ?_ ?_
   ·simp only [Jz, ZL, T.cells, Value.cells]; simp; omega
   rw [Me hf0 hf5]
   have hd2 : ∀ vl vo, (wkC { n with mtch := n.mtch.set m.frm.toNat (max (n.mtch.get m.frm.toNat) m.index) } vl vo)[0 + 0 + 17 + m.frm.toNat * 1]? = some (ei (max (n.mtch.get m.frm.toNat) m.index)) := fun _ _ => by rw [Da hf0 hf5, OX _ hf0 hf5]
   apply an
   refine zC ?_
   refine ca [0, 1, 2, 3, 4, 5, 6, 7, 8, 9, 10, 11, 12, 13, 14, 15, 16] [16] <| a_ (fun _ => Qa) <| a_ (fun _ => Qu) <| a_ (fun _ => Qm) <| a_ (fun _ => Qa) <| a_ (fun _ => Qu) <| a_ (fun _ => Qm) <| a_ (fun _ => Qe) <| a_ (fun _ => Qc) <| a_ (fun _ => Qc) <| a_ (fun _ => Yx) <| QL (hd := hd2 _ _) ?_
   refine a_ (fun _ => Q6) <| a_ (fun _ => Qe) <| a_ (fun _ => Qc) <| a_ (fun _ => Qc) <| a_ (fun _ => Yx) ?_
   refine G9 ?_ ?_
   ·simp only [Jz, ZL, T.cells, Value.cells]; simp; omega
   rw [Md hf0 hf5]
   apply an
   refine zC ?_
   refine cr <| s_ Qa ?_
   refine QN (VJ (hn.of (n' := Z9 n m)) ⟨_, _, Hl, Ho, h1, h2, rfl⟩) (fun r H' ⟨hr, h3⟩ => ?_)
   subst hr
   refine zC ?_
   refine zR ?_
   refine rh kR ⟨rfl, ?_⟩ (Le.refl _)
   rw [X9, if_neg hc, if_pos hy, List.append_nil]
   exact h3
  ·intro hy
   refine zC ?_
   refine ca [0, 1, 2, 3, 4, 5, 6, 7, 8, 9, 10, 11, 12, 13, 14, 15, 16, 17, 18, 19, 20, 21, 22, 23, 24, 25, 26, 27, 28, 29, 30] [30] <| a_ (fun _ => Qa) <| a_ (fun _ => Qu) <| a_ (fun _ => Qm) <| a_ (fun _ => Qa) <| a_ (fun _ => Qu) <| a_ (fun _ => Qm) <| a_ (fun _ => Qe) <| a_ (fun _ => Qc) <| a_ (fun _ => Qc) <| a_ (fun _ => Yx) <| QL (hd := We hf0 hf5) ?_
   refine a_ (fun _ => ZF) <| a_ (fun _ => Qu) <| a_ (fun _ => Qm) <| a_ (fun _ => Q6) <| a_ (fun _ => LD) <| a_ (fun _ => Qa) <| a_ (fun _ => Qu) <| a_ (fun _ => Qm) <| a_ (fun _ => Qe) <| a_ (fun _ => Qc) <| a_ (fun _ => Qc) <| a_ (fun _ => Yx) <| QL (hd := Da hf0 hf5) ?_
   refine a_ (fun _ => Q6) <| a_ (fun _ => NQ) <| a_ (fun _ => Qe) <| a_ (fun _ => Qc) <| a_ (fun _ => Qc) <| a_ (fun _ => Yx) ?_
   refine G9 ?_ ?_
   ·simp only [Jz, ZL, T.cells, Value.cells]; simp; omega
   rw [Md hf0 hf5]
   have hw : WkH b (Zf n m) out ((b, ⟨tW, wkC (Zf n m) (.slice p (n.log.map een).length c) (.slice q (out.map ms).length d), 23⟩) :: (Hl ++ (Ho ++ []))) := ⟨_, _, Hl, Ho, h1, h2, rfl⟩
   apply an
   refine zC ?_
   refine cr <| s_ Qa <| s_ Qe <| s_ Qc <| s_ Xc <| s_ (WA hL (Qg.cons (QB.agg (QY (Zf n m) (h1.lend (by intro p hp; simp [hp])))) Qg.nil)) <| s_ Qa <| s_ QD <| s_ QD <| s_ Qb <| s_ Qb <| zC ?_
   refine ca [0, 1, 2, 3, 4, 5, 6, 7, 8, 9] [] <| a_ (fun _ => Qa) <| a_ (fun _ => Qu) <| a_ (fun _ => Qm) <| a_ (fun _ => Qe) <| a_ (fun _ => Qc) <| a_ (fun _ => Qc) <| a_ (fun _ => Yx) <| QL (hd := We (n := Zf n m) hf0 hf5) ?_
   refine a_ (fun _ => Qa) <| a_ (fun _ => Cz) ?_
   apply an
   refine zC ?_
   refine ci ?_ ?_
   ·intro hle
    refine zC ?_
    refine cr <| s_ Qa <| s_ Qu <| s_ Qm ?_
    refine QN (CB m.frm hf0 hf5 (by show n.log.length ≤ _; omega) (by show _ ≤ n.base; omega) (by show n.base ≤ _; omega) ?_ (by omega) hw) (fun r H' ⟨hr, h3⟩ => ?_)
    ·have : (Zf n m).next.get m.frm.toNat = max (max (min (n.next.get m.frm.toNat - 1) (m.index + 1)) 1) (n.mtch.get m.frm.toNat + 1) := OX _ hf0 hf5 _
     rw [this]; omega
    subst hr
    refine zC ?_
    refine rhn kR ⟨rfl, ?_⟩ (Le.refl _)
    have hle' : (Zf n m).next.get m.frm.toNat ≤ QT n := hle
    rw [X9, if_neg hc, if_neg hy, if_pos hle']
    exact h3
   ·intro hle
    refine zC ?_
    refine rhn kR ⟨rfl, ?_⟩ (Le.refl _)
    have hle' : ¬ (Zf n m).next.get m.frm.toNat ≤ QT n := hle
    rw [X9, if_neg hc, if_neg hy, if_neg hle', List.append_nil]
    exact hw
def Z4 (n : Nd) (e : En) : Nd := { n with log := n.log ++ [⟨n.term, e.conf, e.cmd⟩], mtch := n.mtch.set n.id.toNat (n.base + (n.log.length + 1)) }
def MV (n : Nd) (e : En) : Nd := QU (Z4 n e)
theorem AV (l : List En) (e : En) : lc (l ++ [e]) (l ++ [e]).length = if e.conf ≠ 0 then some (l.length, e.conf) else lc l l.length := by
 rw [List.length_append, List.length_singleton, lc]
 have : (l ++ [e]).getD l.length default = e := by simp [List.getD_eq_getElem?_getD]
 rw [this]
 split
 ·rfl
 ·exact Dh _ _ _ (Nat.le_refl _)
theorem Bd.put {n : Nd} {e : En} (h : Bd n) (hl : n.log.length < 100000000) (h0 : 0 ≤ e.conf) (h1 : e.conf ≤ 31) : Bd (Z4 n e) := by
 have hc : (Qx (Z4 n e)).2 = if e.conf ≠ 0 then e.conf else (Qx n).2 := by
  have := AV n.log ⟨n.term, e.conf, e.cmd⟩
  by_cases hz : e.conf ≠ 0
  ·rw [if_pos hz] at this ⊢
   simp only [Qx, Z4, this]
  ·rw [if_neg hz] at this ⊢
   simp only [Qx, Z4, this]
 refine ⟨h.id0, h.id5, by simp [Z4]; omega, h.base0, h.base1, ?_, ?_⟩ <;> rw [hc] <;> split
 ·exact h0
 ·exact h.conf0
 ·exact h1
 ·exact h.conf1
theorem Cm {b : Nat} {n : Nd} {out : List Ms} {H : Qd} (e : En) (hn : Bd n) (hl : n.log.length < 100000000) (hc0 : 0 ≤ e.conf) (hc1 : e.conf ≤ 31) (hw : WkH b n out H) :
  Pu Tryz.prog 103 [pW b, een e] H (.tup [nd (MV n e), ei (n.base + (n.log.length + 1)), ei 0]) := by
 have hb0 := hn.base0
 have hb1 := hn.base1
 have hi0 := hn.id0
 have hi5 := hn.id5
 have hL := JG { n with log := n.log ++ [⟨n.term, e.conf, e.cmd⟩] } (by simp; omega) (by simp only; omega) (by simp only; omega)
 refine fe Tryz.func103 fun S0 w0 => ?_
 show Sim _ _ [(0, pW b), (1, een e)] _ _
 obtain ⟨vl, vo, Hl, Ho, h1, h2, rfl⟩ := hw
 obtain ⟨p, c, rfl⟩ := h1.len
 obtain ⟨q, d, rfl⟩ := h2.len
 refine zC ?_
 apply cr
 refine X1 fun b3 _ => ?_
 refine X2 fun b4 _ => ?_
 refine s_ Qb <| s_ Qb <| zC ?_
 refine cr <| s_ Qa <| s_ Qe <| s_ Qc <| s_ Qc <| s_ Qj <| s_ Qc <| Qz ?_
 refine zC ?_
 refine zC ?_
 refine ca [0, 1, 2, 3, 4, 5, 6, 7, 8, 9, 10, 11, 12] [8, 12] <| a_ (fun _ => Qa) <| a_ (fun _ => Qa) <| a_ (fun _ => Qe) <| a_ (fun _ => Qc) <| a_ (fun _ => Qc) <| QL ?_
 refine YI ?_
 refine a_ (fun _ => JT) ?_
 refine Tp (ho := h1) (A := [_, _, _]) (B := Ho ++ []) (GU n.log) (fun v' Hl' h1' => ⟨zd, ?_⟩)
 refine zD ?_
 have h1 : OE (n.log ++ [⟨n.term, e.conf, e.cmd⟩]) v' Hl' := by unfold OE; rw [List.map_append]; exact h1'
 clear h1'
 obtain ⟨p, c, rfl⟩ := h1.len
 refine a_ (fun _ => Qe) <| a_ (fun _ => Qc) <| a_ (fun _ => Qc) <| XU ?_
 apply an
 refine zC ?_
 refine cr <| s_ Qa <| s_ Qe <| s_ Qc <| s_ Xc <| s_ (AM (G := (b, _) :: (Hl' ++ (Ho ++ []))) hL (Qg.cons (QB.agg (QY _ (h1.lend (by intro p hp; simp [hp])))) Qg.nil) ⟨[_, _], List.perm_append_comm (l₁ := _ :: _ :: [])⟩) ?_
 have hLF : QT { n with log := n.log ++ [⟨n.term, e.conf, e.cmd⟩] } = n.base + (n.log.length + 1) := by simp [QT]
 rw [hLF]
 refine s_ Qa <| s_ QD <| s_ QD <| s_ Qb <| s_ Qb <| zC ?_
 refine ca [0, 1, 2, 3, 4, 5, 6, 7, 8, 9, 10, 11] [11] <| a_ (fun _ => Qa) <| a_ (fun _ => Qa) <| a_ (fun _ => Qe) <| a_ (fun _ => Qc) <| a_ (fun _ => Qc) <| QL ?_
 refine a_ (fun _ => Qa) <| a_ (fun _ => Qe) <| a_ (fun _ => Qc) <| a_ (fun _ => Qc) <| a_ (fun _ => Yx) ?_
 refine G9 ?_ ?_
 ·simp only [Jz, ZL, wkC, Qs]; simp; omega
 apply an
 refine zC ?_
 have hm : lay (wkC { n with log := n.log ++ [⟨n.term, e.conf, e.cmd⟩] } (.slice p ((n.log ++ [(⟨n.term, e.conf, e.cmd⟩ : En)]).map een).length c) (.slice q (out.map ms).length d)) (0 + 0 + 17 + n.id.toNat * 1) (ei (n.base + (n.log.length + 1))).cells = wkC (Z4 n e) (.slice p ((n.log ++ [(⟨n.term, e.conf, e.cmd⟩ : En)]).map een).length c) (.slice q (out.map ms).length d) := Me hi0 hi5 _
 have hw : WkH b (Z4 n e) out ((b, ⟨tW, lay (wkC { n with log := n.log ++ [⟨n.term, e.conf, e.cmd⟩] } (.slice p ((n.log ++ [(⟨n.term, e.conf, e.cmd⟩ : En)]).map een).length c) (.slice q (out.map ms).length d)) (0 + 0 + 17 + n.id.toNat * 1) (ei (n.base + (n.log.length + 1))).cells, 23⟩) :: (Hl' ++ (Ho ++ []))) := by
  rw [hm]
  exact ⟨_, _, Hl', Ho, h1, h2, rfl⟩
 have hn' := hn.put hl hc0 hc1
 refine zC ?_
 refine cr <| s_ Qa ?_
 refine QV (Hr := _ :: _ :: []) (VJ hn' hw) (List.perm_append_comm (l₁ := _ :: _ :: [])) (fun r H' ⟨hr, h3⟩ => ?_)
 subst hr
 refine zC ?_
 refine cr <| s_ Qa ?_
 refine QV (Yu (by have := hn'.commit.log; omega) h3) (.refl _) (fun r H' ⟨hr, hr2⟩ => ?_)
 subst hr hr2
 refine s_ Qa <| s_ QD <| s_ QD ?_
 refine X2 fun b9 _ => ?_
 refine Qz ?_
 refine s_ Qb <| zC ?_
 refine cr <| s_ Xc <| s_ Qa <| Qz ?_
 refine s_ Qb <| s_ Qb <| zC ?_
 refine zR ?_
 exact rh kN ⟨rfl, rfl⟩ (Le.refl _)
def Q0 (n : Nd) : Nd := { n with role := 0, wait := 0 }
theorem WX {b : Nat} {n : Nd} {out : List Ms} {H : Qd} (m : Ms) (hb : out.length ≤ 1000) (hw : WkH b n out H) :
  FnH Tryz.prog 157 [pW b, ms m] H (fun r H' => r = .v (.bool (decide (¬ m.term < n.term))) ∧ WkH b (if m.term < n.term then n else Q0 n) (if m.term < n.term then out ++ [QG n m.frm (XY false 0)] else out) H') :=
 (Ig m hb hw).mono fun r H' h => by
  by_cases hlt : m.term < n.term
  ·rw [if_pos hlt] at h
   rw [if_pos hlt, if_pos hlt]
   exact ⟨by rw [h.1]; simp [hlt, eB], h.2⟩
  ·rw [if_neg hlt] at h
   rw [if_neg hlt, if_neg hlt]
   exact ⟨by rw [h.1]; simp [hlt, eB], h.2⟩
def XO (n : Nd) (m : Ms) : Nat → List En
 | 0 => n.log
 | i + 1 => if m.index - n.base + i < (XO n m i).length ∧ ((XO n m i).getD (m.index - n.base + i).toNat default).term = (m.entries.getD i default).term then XO n m i
  else (XO n m i).take (min (m.index - n.base + i) (XO n m i).length).toNat ++ [m.entries.getD i default]
theorem WN (n : Nd) (m : Ms) : ∀ i, (XO n m i).length ≤ n.log.length + i
 | 0 => Nat.le_refl _
 | i + 1 => by
  have := WN n m i
  rw [XO]
  split
  ·omega
  ·simp; omega
def G8 (n : Nd) (m : Ms) : Nd := { Q0 n with log := XO n m m.entries.length, commit := max n.commit (min m.commit (m.index + m.entries.length)) }
def Ud (n : Nd) (m : Ms) : Nd × List Ms := if m.term < n.term then (n, [QG n m.frm (XY false 0)]) else
 if m.index < n.base then (Q0 n, [QG (Q0 n) m.frm (XY true n.base)]) else
 if QT n < m.index ∨ ¬ termF n m.index = m.logTerm then (Q0 n, [QG (Q0 n) m.frm (XY false (min (QT n) (m.index - 1)))]) else
 (G8 n m, [QG (G8 n m) m.frm (XY true (m.index + m.entries.length))])
theorem A8 {k : Nat} {xs : List T} {i j : Nat} {x d : T} (hk : ∀ y ∈ xs, y.cells.length = k) (h : xs[i]? = some x) (hj : j < k) (hd : x.cells[j]? = some d) : (xs.flatMap T.cells)[0 + i * k + j]? = some d := by
 have ⟨h1, h2⟩ := W0 hk h
 have h3 : (((xs.flatMap T.cells).drop (i * k)).take k)[j]? = some d := by rw [h1, hd]
 rw [List.getElem?_take, if_pos hj, List.getElem?_drop] at h3
 rw [Nat.zero_add]
 exact h3
theorem OE.at {l : List En} {p : Option Addr} {n c : Nat} {Hs : Qd} (h : OE l (.slice p n c) Hs) : ∃ bl, 0 < l.length → p = some ⟨bl, 0, none⟩ ∧ (bl, (⟨tE, (l.map een).flatMap T.cells, c * 3⟩ : Blk)) ∈ Hs := by
 rcases h with ⟨h, _⟩ | ⟨bl, c', e, _, rfl⟩
 ·have : l = [] := by simpa using h
  exact ⟨0, fun h => by rw [this] at h; simp at h⟩
 ·cases e; exact ⟨bl, fun _ => ⟨rfl, List.mem_singleton.2 rfl⟩⟩
theorem OE.sub0 {l : List En} {p : Option Addr} {n c : Nat} {Hs : Qd} (h : OE l (.slice p n c) Hs) (j : Nat) : Yq 3 p c 0 j = .slice p j c := by
 rcases h with ⟨_, ⟨q, e⟩, _⟩ | ⟨bl, c', e, _, _⟩
 ·cases e; cases p <;> rfl
 ·cases e
  unfold Yq
  by_cases hc : c = 0 <;> simp [hc, Addr.add_mk]
theorem Ny {b : Nat} {n : Nd} {out : List Ms} {H : Qd} (m : Ms) (hn : Bd n) (hl : n.log.length + m.entries.length ≤ 100000000) (hi0 : -50000000000 ≤ m.index) (hi1 : m.index ≤ 50000000000) (ho : out.length ≤ 900) (hw : WkH b n out H) :
  FnH Tryz.prog 135 [pW b, ms m] H (fun r H' => r = .tup [] ∧ WkH b (Ud n m).1 (out ++ (Ud n m).2) H') := by
 have hb0 := hn.base0
 have hb1 := hn.base1
 have hlog := hn.log
 have hL := JG (Q0 n) (by show n.log.length ≤ _; omega) (by show _ ≤ n.base; omega) (by show n.base ≤ _; omega)
 refine fe Tryz.func135 fun S0 w0 => ?_
 show Sim _ _ [(0, pW b), (1, T.agg (msC m (ZM m.entries)))] _ _
 refine zC ?_
 apply cr
 refine X1 fun b3 _ => ?_
 refine zC ?_
 refine Ze 3 (by simp [msC]) ?_
 refine zC ?_
 refine cr <| s_ Qa <| s_ Y7 ?_
 refine QN (WX m (by omega) hw) (fun r H' ⟨hr, hw⟩ => ?_)
 subst hr
 refine s_ Yr <| zC ?_
 refine ci ?_ ?_
 ·intro hc
  have hlt : m.term < n.term := Decidable.not_not.1 hc
  rw [if_pos hlt, if_pos hlt] at hw
  refine zR ?_
  refine rh kR ⟨rfl, ?_⟩ (Le.refl _)
  rw [Ud, if_pos hlt]
  exact hw
 intro hc
 have hlt : ¬ m.term < n.term := fun h => hc (fun h' => h' h)
 rw [if_neg hlt, if_neg hlt] at hw
 have hw1 := hw
 obtain ⟨vl, vo, Hl, Ho, h1, h2, rfl⟩ := hw
 obtain ⟨p, c, rfl⟩ := h1.len
 obtain ⟨q, d, rfl⟩ := h2.len
 refine zC ?_
 refine cr <| s_ Qa <| s_ Qe <| s_ Qc <| s_ Xc <| s_ (WA hL (Qg.cons (QB.agg (QY (Q0 n) (h1.lend (by intro p hp; simp [hp])))) Qg.nil)) <| s_ Qa <| s_ QD <| s_ QD <| s_ Qb <| s_ Qb <| zC ?_
 refine ca [0, 1, 2, 3, 4, 5, 6, 7, 8] [] <| a_ (fun _ => Qu) <| a_ (fun _ => Qm) <| a_ (fun _ => Qa) <| a_ (fun _ => Qe) <| a_ (fun _ => Qc) <| a_ (fun _ => Qc) <| QL ?_
 refine a_ (fun _ => Q2) <| a_ (fun _ => Qb) ?_
 apply an
 refine zC ?_
 refine ci ?_ ?_
 ·intro hlo
  refine zC ?_
  refine ca [0, 1, 2, 3, 4, 5, 6, 7, 8] [8] <| a_ (fun _ => Qa) <| a_ (fun _ => Qu) <| a_ (fun _ => Qm) <| a_ (fun _ => Qa) <| a_ (fun _ => Qe) <| a_ (fun _ => Qc) <| a_ (fun _ => Qc) <| QL ?_
  refine IF (FnH.of_le ?_ (ZQ m.frm true n.base (by omega) hw1)) (fun r H' ⟨hr, h3⟩ => ⟨zd, ?_⟩)
  ·exact zM
  ·refine zD ?_
   subst hr
   apply an
   refine zC ?_
   refine zR ?_
   refine rh kR ⟨rfl, ?_⟩ (Le.refl _)
   have hlo' : m.index < n.base := hlo
   rw [Ud, if_neg hlt, if_pos hlo']
   exact h3
 intro hlo
 have hlo' : ¬ m.index < n.base := hlo
 have hT := UZ (Q0 n) m.index (by show n.log.length ≤ _; omega) (by simp only [big]; show _ ≤ n.base; omega) (by simp only [big]; show n.base ≤ _; omega) (by simp only [big]; omega) (by simp only [big]; omega)
 refine zC ?_
 refine ca [0, 1, 2, 3, 4, 5, 6, 7, 8, 9, 10, 11, 12, 13, 14, 15] [] <| a_ (fun _ => Qu) <| a_ (fun _ => Qm) <| a_ (fun _ => Qa) <| a_ (fun _ => Ys) <| a_ (fun _ => Qa) <| Xq (fun _ hg => Qa) ?_
 refine Xq (fun _ hg => Qe (hx := u_ hg)) ?_
 refine Xq (fun _ hg => Qc (hx := u_ hg)) ?_
 refine Xq (fun _ hg => Qu) ?_
 refine Xq (fun _ hg => Qm (hx := u_ hg)) ?_
 refine BZ (G := (b, _) :: (Hl ++ (Ho ++ []))) (fun _ => hT) (fun _ => Qg.cons (VD (n := Q0 n) h1 (by intro p hp; simp [hp]) List.mem_cons_self) (Qg.cons (QB.le (Le.refl _)) Qg.nil)) ⟨[], VU⟩ ?_ (fun hg => by refine Q1 (u_ hg) (Q1 (u_ hg) XZ))
 refine Xq (fun _ hg => Qu) ?_
 refine Xq (fun _ hg => Qm (hx := u_ hg)) ?_
 refine Xq (fun _ hg => Yg (hx := u_ hg) (hy := u_ hg)) ?_
 refine a_ (fun _ => YK) <| a_ (fun _ => Qb) ?_
 apply an
 refine zC ?_
 refine ci ?_ ?_
 ·intro hno
  refine zC ?_
  refine cr <| s_ Qa <| s_ Qu <| s_ Qm <| s_ Qa <| s_ Qu <| s_ Qm <| s_ ZF <| s_ LD ?_
  refine QN (FnH.of_le ?_ (ZQ m.frm false (min (QT n) (m.index - 1)) (by omega) hw1)) (fun r H' ⟨hr, h3⟩ => ?_)
  ·exact zM
  ·subst hr
   refine zC ?_
   refine zR ?_
   refine rh kR ⟨rfl, ?_⟩ (Le.refl _)
   have hno' : QT n < m.index ∨ ¬ termF n m.index = m.logTerm := hno
   rw [Ud, if_neg hlt, if_neg hlo', if_pos hno']
   exact h3
 intro hno
 have hno' : ¬ (QT n < m.index ∨ ¬ termF n m.index = m.logTerm) := hno
 refine zC ?_
 refine cr <| s_ Qu <| s_ Qm ?_
 (first | refine s_ QX ?_ | refine s_ QQ ?_)
 refine s_ Qa <| zC ?_
 apply Qp (σ := Nat × Qd) (ok := fun s => s.1 ≤ m.entries.length ∧ WkH b { Q0 n with log := XO n m s.1 } out s.2) (env := fun s => [(68, ei (s.1 : Nat)), (67, ei ((m.entries.map een).length : Nat)), (66, ZM m.entries), (3, .adr (.agg (msC m (ZM m.entries)))), (0, pW b)])
  (heap := fun s => s.2) (μ := fun s => m.entries.length - s.1) (s0 := (0, (b, ⟨tW, wkC (Q0 n) (.slice p (n.log.map een).length c) (.slice q (out.map ms).length d), 23⟩) :: (Hl ++ (Ho ++ []))))
 ·exact ⟨Nat.zero_le _, hw1⟩
 ·exact eL
 ·exact kR
 rintro ⟨i, H⟩ ⟨hi, hw⟩
 simp only at hi hw
 clear h1 h2 hw1
 obtain ⟨vl, vo, Hl, Ho, h1, h2, rfl⟩ := hw
 simp only at h1
 obtain ⟨p, c, rfl⟩ := h1.len
 obtain ⟨q, d, rfl⟩ := h2.len
 have hlk := WN n m i
 have hqb : (Q0 n).base = n.base := rfl
 refine zC ?_
 refine cr <| s_ Q2 <| zC ?_
 refine ci ?_ ?_
 ·intro hlt2
  simp only [List.length_map] at hlt2
  have hix : i < m.entries.length := by omega
  have hge : m.entries.getD i default = m.entries[i] := by simp [hix]
  refine zC ?_
  refine cr <| s_ Qa ?_
  (first | refine s_ (Xh hix) ?_ | refine s_ (Xh hix2) ?_ | refine s_ YM ?_ | refine s_ Y8 ?_)
  (first | refine s_ Y7 ?_ | refine s_ Xc ?_)
  refine X2 fun b7 _ => ?_
  refine s_ Qb <| Qz ?_
  refine zC ?_
  refine ca [0, 1, 2, 3, 4, 5, 6, 7, 8, 9, 10] [] <| a_ (fun _ => Qu) <| a_ (fun _ => Qm) <| a_ (fun _ => Qa) <| a_ (fun _ => Qe) <| a_ (fun _ => Qc) <| a_ (fun _ => Qc) <| QL ?_
  refine a_ (fun _ => ZF) <| a_ (fun _ => Qa) <| a_ (fun _ => Q6) <| a_ (fun _ => Qb) ?_
  apply an
  refine zC ?_
  rw [hqb]
  generalize hk : m.index - n.base + (i : Nat) = k
  have hk0 : 0 ≤ k := by omega
  obtain ⟨bl, hbl⟩ := h1.at
  refine zC ?_
  refine ca [0, 1, 2, 3, 4, 5, 6, 7, 8, 9, 10, 11, 12, 13, 14, 15, 16, 17, 18, 19, 20, 21] [] <| a_ (fun _ => Qa) <| a_ (fun _ => Qa) <| a_ (fun _ => Qe) <| a_ (fun _ => Qc) <| a_ (fun _ => Qc) <| QL ?_
  (first | refine a_ (fun _ => QX) ?_ | refine a_ (fun _ => QQ) ?_)
  refine a_ (fun _ => Q2) <| a_ (fun _ => Qa) <| QK (fun _ hg => Qa) ?_
  refine QK (fun _ hg => Qe (hx := u_ hg)) ?_
  refine QK (fun _ hg => Qc (hx := u_ hg)) ?_
  refine QK (fun _ hg => Qc (hx := u_ hg)) ?_
  refine ZP ?_
  refine QK (fun _ hg => Qa) ?_
  have hkl : k < (((XO n m i).map een).length : Nat) → k.toNat < (XO n m i).length := fun h => by rw [List.length_map] at h; omega
  refine QK (p := k < (((XO n m i).map een).length : Nat)) (fun _ hg => NR (hbl (by have := hkl hg; omega)).1 (hx := u_ hg) (hy := u_ hg)) ?_
  refine QK (fun _ hg => Qc (hx := u_ hg)) ?_
  refine To (p := k < (((XO n m i).map een).length : Nat)) (b := bl) (fun hg => List.mem_cons_of_mem _ (List.mem_cons_of_mem _ (List.mem_append_left _ (hbl (by have := hkl hg; omega)).2))) (fun hg => A8 (k := 3) (j := 0) (GU _) (O2 _ (hkl hg)) (by decide) rfl) ?_
  refine QK (fun _ hg => Qc) ?_
  refine ZP ?_
  refine QK (fun _ hg => Xi (hx := u_ hg) (hy := u_ hg)) ?_
  refine a_ (fun _ => Yh) ?_
  apply an
  refine zC ?_
  refine ci ?_ ?_
  ·intro hsame
   have hs : XO n m (i + 1) = XO n m i := by rw [XO, hk, hge, if_pos ⟨by have := hsame.1; rw [List.length_map] at this; exact this, hsame.2⟩]
   refine zC ?_
   refine cr <| s_ Q6 <| s_ Qa <| zC ?_
   refine ⟨(i + 1, _), ⟨hix, ?_⟩, by show m.entries.length - (i + 1) < m.entries.length - i; omega, ⟨Qh (by rfl) (Le.refl _), eL⟩, kS kR⟩
   simp only
   rw [hs]
   exact ⟨_, _, Hl, Ho, h1, h2, rfl⟩
  ·intro hdiff
   have hs : XO n m (i + 1) = (XO n m i).take (min k (XO n m i).length).toNat ++ [m.entries[i]] := by
    rw [XO, hk, hge, if_neg fun h => hdiff ⟨by rw [List.length_map]; exact h.1, h.2⟩]
   have hcap : ((XO n m i).map een).length ≤ c := OSl.cap h1
   refine zC ?_
   refine ca [0, 1, 2, 3, 4, 5, 6, 7, 8, 9, 10, 11, 12, 13, 14, 15, 16, 17, 18, 19, 20, 21] [17, 21] <| a_ (fun _ => Qa) <| a_ (fun _ => Qa) <| a_ (fun _ => Qe) <| a_ (fun _ => Qc) <| a_ (fun _ => Qc) <| QL ?_
   refine a_ (fun _ => Qa) <| a_ (fun _ => Qa) <| a_ (fun _ => Qe) <| a_ (fun _ => Qc) <| a_ (fun _ => Qc) <| QL ?_
   (first | refine a_ (fun _ => QX) ?_ | refine a_ (fun _ => QQ) ?_)
   refine a_ (fun _ => LD) <| a_ (fun _ => D7 (v := .slice p (min k (((XO n m i).map een).length : Nat)).toNat c) hcap (by exact h1.sub0 _)) <| YI ?_
   refine a_ (fun _ => JT) ?_
   refine Pq (A := [_, _]) (B := Ho ++ []) (ys := [een m.entries[i]]) h1 (GU _) (min k ((XO n m i).length : Nat)).toNat (fun v' Hl' h1' => ⟨zd, ?_⟩) (hx := ?_)
   ·refine zD ?_
    have h1 : OE ((XO n m i).take (min k (XO n m i).length).toNat ++ [m.entries[i]]) v' Hl' := by unfold OE; rw [List.map_append, List.map_take]; exact h1'
    clear h1'
    obtain ⟨p, c, rfl⟩ := h1.len
    refine a_ (fun _ => Qe) <| a_ (fun _ => Qc) <| a_ (fun _ => Qc) <| XU ?_
    apply an
    refine zC ?_
    refine cr <| s_ Q6 <| s_ Qa <| zC ?_
    refine ⟨(i + 1, _), ⟨hix, ?_⟩, by show m.entries.length - (i + 1) < m.entries.length - i; omega, ⟨Qh (by rfl) (Le.refl _), eL⟩, kS kR⟩
    simp only
    rw [hs]
    exact ⟨_, _, Hl', Ho, h1, h2, rfl⟩
   ·refine Eq.trans (zl) ?_
    have e : (min k (((XO n m i).map een).length : Nat)).toNat = min (min k ((XO n m i).length : Nat)).toNat ((XO n m i).map een).length := by rw [List.length_map]; omega
    rw [e]
 ·intro hlt2
  simp only [List.length_map] at hlt2
  have : i = m.entries.length := by omega
  subst this
  have hel : ((m.entries.map een).length : Int) = (m.entries.length : Int) := by simp
  refine zC ?_
  refine cr <| s_ Qu <| s_ Qm <| s_ Qu <| s_ Qm ?_
  (first | refine s_ QX ?_ | refine s_ QQ ?_)
  refine s_ Q6 <| s_ Qb <| zC ?_
  refine ca [0, 1, 2, 3, 4, 5, 6, 7, 8, 9, 10, 11, 12, 13, 14] [14] <| a_ (fun _ => Qa) <| a_ (fun _ => Qa) <| a_ (fun _ => Qe) <| a_ (fun _ => Qc) <| a_ (fun _ => Qc) <| QL ?_
  refine a_ (fun _ => Qu) <| a_ (fun _ => Qm) <| a_ (fun _ => Qa) <| a_ (fun _ => LD) <| a_ (fun _ => V1) <| a_ (fun _ => Qe) <| a_ (fun _ => Qc) <| a_ (fun _ => Qc) <| XU ?_
  apply an
  refine zC ?_
  refine cr <| s_ Qa <| s_ Qu <| s_ Qm <| s_ Qa ?_
  rw [hel]
  refine QN (FnH.of_le ?_ (ZQ m.frm true (m.index + m.entries.length) (by omega) (show WkH b (G8 n m) out _ from ⟨_, _, Hl, Ho, h1, h2, rfl⟩))) (fun r H' ⟨hr, h3⟩ => ?_)
  ·exact zM
  ·subst hr
   refine zC ?_
   refine rhn kR ⟨rfl, ?_⟩ (Le.refl _)
   rw [Ud, if_neg hlt, if_neg hlo', if_neg hno']
   exact h3
end Go.Proofs.YtjbokbikkcfjjaaGreat
