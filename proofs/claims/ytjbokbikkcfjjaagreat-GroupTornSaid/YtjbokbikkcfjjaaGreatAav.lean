/-
  group: wait, asked, Do, Change.
-/
import Derived.Test.YtjbokbikkcfjjaaGreatAau
set_option maxRecDepth 16000
set_option maxHeartbeats 8000000
set_option linter.all false
namespace Go.Proofs.YtjbokbikkcfjjaaGreat
open Go.Cap
attribute [local irreducible] POp Qf TO EOp Sim FnH T.gp
theorem GB.waits {P : Nat → En → Prop} {g : Gp} {τ l u : Nat} (hP : PO P) (h : GB P g τ l u) (hu : u + 5 ≤ 25000) : ∃ τ' l', GB P (XJ g) τ' l' (u + 5) := by
 have := h.tau
 obtain ⟨l', h1, _⟩ := h.round hP (by omega)
 exact ⟨_, l', h1⟩
theorem JH {bg : Nat} {g : Gp} {a : Nat → Ad} {bm : Nat} {es : List (Value × T × Nat)} {clk : Nat} {W : Qc} {wv : Value} {i : Nat} (hi : i < 5) (hl : (g.k i).N.log.length ≤ 1000000000) :
  FnH Tryz.prog 23 [pW (a i).bk] (gH bg g.conf a bm es clk W wv g.k) (fun r H' => r = nd (g.k i).N ∧ H' = gH bg g.conf a bm es clk W wv g.k) := by
 have hk := IA (a i).bk (a i).bj (a i).bd (g.k i) hl
 have hperm := UB (x := (bg, ⟨tG, gC g.conf a bm wv, 13⟩)) (y := (bm, ⟨.map es clk, [], 0⟩)) (W := W) (Vj a g.k hi)
 exact FnH.framed hk hperm (fun r H1 ⟨h1, h2⟩ => ⟨_, by rw [h2]; exact hperm.symm, h1, rfl⟩)
theorem OU (bg : Nat) (H : Qc) (i index e : Int) (he : ¬ e = 0) : FnH Tryz.prog 40 [pW bg, ei i, ei index, ei e] H (fun r H' => r = ei e ∧ H' = H) := by
 refine fe Tryz.func40 fun S0 w0 => ?_
 show Sim _ _ [(0, pW bg), (1, ei i), (2, ei index), (3, ei e)] H _
 refine zC ?_
 refine cr <| s_ Qb <| zC ?_
 refine cr <| s_ Qa <| s_ Yq <| zC ?_
 refine ci ?_ ?_
 ·intro _
  refine zC ?_
  refine cr <| s_ Qa <| s_ Qb <| zC ?_
  refine zR ?_
  exact rh kR ⟨rfl, rfl⟩ (Le.refl _)
 ·intro h; exact absurd he h
theorem Cc {n : Nd} {k : Nat} (hk : k < n.log.length) : n.log[k].term = (n.log.getD k default).term := by
 rw [List.getD_eq_getElem?_getD, List.getElem?_eq_getElem hk]; rfl
theorem IH {P : Nat → En → Prop} {τ l u : Nat} (hP : PK P) (bg : Nat) (g : Gp) (H : Qc) (i index : Int) (hi : isI i) (h : GB P g τ l u) (hu : u + 200 ≤ 25000) (hx0 : 0 ≤ index) (hx1 : index ≤ 1000000) (hG : IsG bg g H) :
  FnH Tryz.prog 40 [pW bg, ei i, ei index, ei 0] H (fun r H' => r = ei (YB i.toNat index (g.k i.toNat).N.term 40 g).2 ∧ IsG bg (YB i.toNat index (g.k i.toNat).N.term 40 g).1 H') := by
 have hp5 : 0 ≤ i ∧ i < 5 := hi
 obtain ⟨h5, _⟩ := XC hi
 have hlenB : ∀ {g' : Gp} {τ' l' u' : Nat}, GB P g' τ' l' u' → u' ≤ 25000 → (g'.k i.toNat).N.log.length ≤ 5000 := fun hb hu' => by have := (hb.nb _ h5).len; have := hb.five; omega
 obtain ⟨term, hterm⟩ : ∃ term, term = (g.k i.toNat).N.term := ⟨_, rfl⟩
 rw [← hterm]
 obtain ⟨a, bm, es, clk, W, wv, hA, hO, rfl⟩ := hG
 have hno := JH (bg := bg) (g := g) (a := a) (bm := bm) (es := es) (clk := clk) (W := W) (wv := wv) h5 (by have := hlenB h (by omega); omega)
 have hck := EF (conf := g.conf) (a := a) (bm := bm) (wv := wv) hi
 refine fe Tryz.func40 fun S0 w0 => ?_
 show Sim _ _ [(0, pW bg), (1, ei i), (2, ei index), (3, ei 0)] ((bg, ⟨tG, gC g.conf a bm wv, 13⟩) :: (bm, ⟨.map es clk, [], 0⟩) :: (W ++ gM a g.k)) _
 refine zC ?_
 refine cr <| s_ Qb <| zC ?_
 refine cr <| s_ Qa <| s_ Yq <| zC ?_
 refine ci (p := ¬ (0 : Int) = 0) (fun h => absurd rfl h) (fun _ => ?_)
 refine zC ?_
 refine cr <| s_ Qa <| s_ Qa <| s_ Qe <| s_ Qd <| s_ YX <| s_ Qd <| s_ (Ql (hd := by first | rfl | assumption)) ?_
 refine QI hno (fun r H' ⟨hr1, hr2⟩ => ?_)
 subst hr1 hr2
 refine s_ Ax <| s_ Qb <| zC ?_
 refine cr <| s_ Qb <| zC ?_
 apply Qo (σ := Nat × Gp × Qc) (ok := fun s => s.1 ≤ 40 ∧ (∃ τ' l', GB P s.2.1 τ' l' (u + 5 * s.1)) ∧ IsG bg s.2.1 s.2.2 ∧ YB i.toNat index term 40 g = YB i.toNat index term (40 - s.1) s.2.1) (env := fun s => [(10, ei s.1), (9, ei term), (0, pW bg), (1, ei i), (2, ei index)]) (heap := fun s => s.2.2) (μ := fun s => 40 - s.1) (s0 := (0, g, gH bg g.conf a bm es clk W wv g.k))
 ·exact ⟨Nat.zero_le _, ⟨τ, l, h⟩, ⟨a, bm, es, clk, W, wv, hA, hO, rfl⟩, rfl⟩
 ·refine ⟨?_, ?_, eL⟩
  ·apply Qi; (exact zG)
   exact Le.refl _
  ·apply Qi; (exact zG)
   exact Le.of_eq (by rw [hterm])
 ·exact kR
 clear hA hO hno hck
 rintro ⟨k, g1, H⟩ ⟨hk, ⟨τ1, l1, hb⟩, hG, hW⟩
 simp only at hk hb hG hW
 have hlen := hlenB hb (by omega)
 obtain ⟨a, bm, es, clk, W, wv, hA, hO, rfl⟩ := hG
 have hno := JH (bg := bg) (g := g1) (a := a) (bm := bm) (es := es) (clk := clk) (W := W) (wv := wv) h5 (by omega)
 have hck := EF (conf := g1.conf) (a := a) (bm := bm) (wv := wv) hi
 obtain ⟨n, hn⟩ : ∃ n, n = (g1.k i.toNat).N := ⟨_, rfl⟩
 have hnb := hb.nb _ h5
 rw [← hn] at hno hlen hnb
 have hbase := hnb.base
 show Sim _ _ [(10, ei k), (9, ei term), (0, pW bg), (1, ei i), (2, ei index)] ((bg, ⟨tG, gC g1.conf a bm wv, 13⟩) :: (bm, ⟨.map es clk, [], 0⟩) :: (W ++ gM a g1.k)) _
 refine zC ?_
 refine cr <| s_ Qa <| s_ Qa <| s_ Qe <| s_ Qd <| s_ YX <| s_ Qd <| s_ (Ql (hd := by first | rfl | assumption)) ?_
 refine QI hno (fun r H' ⟨hr1, hr2⟩ => ?_)
 subst hr1 hr2
 show Qf _ _ _ _ _ ((bg, ⟨tG, gC g1.conf a bm wv, 13⟩) :: (bm, ⟨.map es clk, [], 0⟩) :: (W ++ gM a g1.k)) _
 refine Yd fun b11 _ => ?_
 refine Qz ?_
 refine zC ?_
 refine cr <| s_ Qa <| s_ Qd <| s_ Ql <| s_ Zp <| s_ Zp <| s_ Qb <| zC ?_
 refine cr <| s_ Qd <| s_ Ql <| s_ Qa <| s_ Vo <| zC ?_
 refine ci ?_ ?_
 ·intro hc
  have hc' : index ≤ (g1.k i.toNat).N.commit := by rw [← hn]; exact hc
  have hw1 : YB i.toNat index term (40 - k) g1 = (g1, Up n index term) := by
   rw [hn]
   cases 40 - k with
   | zero => unfold YB; rw [if_pos hc']
   | succ f => unfold YB; rw [if_pos hc']
  rw [hW, hw1]
  obtain ⟨v, hv⟩ : ∃ v, v = index - n.base - 1 := ⟨_, rfl⟩
  by_cases hr : 0 ≤ v ∧ v < n.log.length
  ·have hix : v.toNat < n.log.length := by omega
   have hr' : 0 ≤ v ∧ v < ((n.log.map een).length : Nat) := by rw [List.length_map]; exact hr
   rw [← hv]
   refine zC ?_
   refine cr <| s_ Qa <| s_ Vo <| s_ Qa <| gT (fun hg => Qa) ?_
   refine gT (fun hg => Qd) ?_
   refine gT (fun hg => Ql (hx := u_ hg)) ?_
   (first | refine gT (fun hg => QP (hx := u_ hg)) ?_ | refine gT (fun hg => QO (hx := u_ hg)) ?_)
   refine gT (fun hg => QU (hx := u_ hg) (hy := u_ hg)) ?_
   refine s_ XX <| s_ Qa <| gT (fun hg => Qd) ?_
   refine gT (fun hg => Ql (hx := u_ hg)) ?_
   refine gT (fun hg => Qa) ?_
   (first | refine gT (fun hg => Xd hix (hx := u_ hg) (hy := u_ hg)) ?_ | refine gT (fun hg => Xd hix2 (hx := u_ hg) (hy := u_ hg)) ?_ | refine gT (fun hg => YE (hx := u_ hg) (hy := u_ hg)) ?_ | refine gT (fun hg => ZE (hx := u_ hg) (hy := u_ hg)) ?_)
   (first | refine gT (fun hg => Qu (hx := u_ hg)) ?_ | refine gT (fun hg => Qd (hx := u_ hg)) ?_)
   (first | refine gT (fun hg => Qm (hx := u_ hg)) ?_ | refine gT (fun hg => Ql (hx := u_ hg)) ?_)
   refine gT (fun hg => Qa) ?_
   refine gT (fun hg => XF (hx := u_ hg) (hy := u_ hg)) ?_
   refine s_ XX <| zC ?_
   refine ci ?_ ?_
   ·intro ht
    refine zC ?_
    refine cr <| s_ Qb <| zC ?_
    refine zR ?_
    refine rh (.skip _ _ _ kR) ⟨rfl, a, bm, es, clk, W, wv, hA, hO, rfl⟩ ?_
    refine Le.of_eq (congrArg ei ?_)
    unfold Up
    rw [← hv, if_pos ⟨hr.1, hr.2, by rw [← Cc hix]; exact ht.2⟩]
   ·intro ht
    refine zC ?_
    refine cr <| s_ Qb <| zC ?_
    refine zR ?_
    refine rh (.skip _ _ _ kR) ⟨rfl, a, bm, es, clk, W, wv, hA, hO, rfl⟩ ?_
    refine Le.of_eq (congrArg ei ?_)
    unfold Up
    rw [← hv, if_neg (fun h1 => ht ⟨hr', by rw [Cc hix]; exact h1.2.2⟩)]
  ·have hno' : ¬ (0 ≤ v ∧ v < ((n.log.map een).length : Nat)) := by rw [List.length_map]; exact hr
   rw [← hv]
   refine zC ?_
   refine cr <| s_ Qa <| s_ Vo <| s_ Qa <| gT (fun hg => Qa) ?_
   refine gT (fun hg => Qd) ?_
   refine gT (fun hg => Ql (hx := u_ hg)) ?_
   (first | refine gT (fun hg => QP (hx := u_ hg)) ?_ | refine gT (fun hg => QO (hx := u_ hg)) ?_)
   refine gT (fun hg => QU (hx := u_ hg) (hy := u_ hg)) ?_
   refine s_ XX <| s_ Qa ?_
   (repeat (refine gT (p := 0 ≤ v ∧ v < ((n.log.map een).length : Nat)) (d := .v (.bool (decide False))) (fun hg => absurd hg hno') ?_))
   refine s_ XX <| zC ?_
   refine ci (p := (0 ≤ v ∧ v < ((n.log.map een).length : Nat)) ∧ False) (fun h => h.2.elim) (fun _ => ?_)
   refine zC ?_
   refine cr <| s_ Qb <| zC ?_
   refine zR ?_
   refine rh (.skip _ _ _ kR) ⟨rfl, a, bm, es, clk, W, wv, hA, hO, rfl⟩ ?_
   refine Le.of_eq (congrArg ei ?_)
   unfold Up
   rw [← hv, if_neg (fun h1 => hr ⟨h1.1, h1.2.1⟩)]
 intro hc
 have hc' : ¬ index ≤ (g1.k i.toNat).N.commit := by rw [← hn]; exact hc
 refine zC ?_
 refine cr <| s_ Qa <| s_ XF <| zC ?_
 refine ci ?_ ?_
 ·intro h40
  have hk40 : k = 40 := by omega
  subst hk40
  have hw1 : YB i.toNat index term (40 - 40) g1 = (g1, 22) := by
   show YB i.toNat index term 0 g1 = _
   unfold YB; rw [if_neg hc']
  rw [hW, hw1]
  refine zC ?_
  refine cr <| s_ Qb <| zC ?_
  refine zR ?_
  exact rh (.skip _ _ _ kR) ⟨rfl, a, bm, es, clk, W, wv, hA, hO, rfl⟩ (Le.refl _)
 ·intro h40
  have hk40 : k < 40 := by omega
  have hcm := UJ hP bg g1 _ 1 1 (by omega) hb (by omega) ⟨a, bm, es, clk, W, wv, hA, hO, rfl⟩
  obtain ⟨τ2, l2, hb2⟩ := hb.waits hP.toPO (by omega)
  have hw1 : YB i.toNat index term (40 - k) g1 = YB i.toNat index term (40 - (k + 1)) (XJ g1) := by
   obtain ⟨f, hf⟩ : ∃ f, 40 - k = f + 1 := ⟨40 - k - 1, by omega⟩
   rw [hf, show 40 - (k + 1) = f by omega]
   conv => lhs; unfold YB
   rw [if_neg hc']
  refine zC ?_
  refine cr <| s_ Qa ?_
  refine Q2 (Hr := [_]) hcm (List.perm_append_comm (l₁ := [_])) (fun r H' ⟨hr1, hr2⟩ => ?_)
  subst hr1
  refine QA (List.perm_append_comm (l₂ := [_])) ?_
  refine zC ?_
  refine cr <| s_ Qa <| s_ QY <| s_ Qb <| zC ?_
  refine ⟨(k + 1, XJ g1, H'), ⟨by simp only; omega, ⟨τ2, l2, ?_⟩, hr2, ?_⟩, (by simp only []; omega), ⟨?_, eL⟩, .skip _ _ _ kR⟩
  ·simp only
   have e : u + 5 * k + 5 = u + 5 * (k + 1) := by omega
   rw [← e]; exact hb2
  ·simp only
   rw [hW, hw1]
  ·apply Qi; (exact zG)
   exact Le.refl _
theorem Lu (bg : Nat) (g : Gp) (H : Qc) (i : Int) (hG : IsG bg g H) : FnH Tryz.prog 38 [pW bg, ei i] H (fun r H' => r = ei (XM g i) ∧ H' = H) := by
 have hI := JI bg g H i hG
 have hT := U3 bg g H i hG
 obtain ⟨q, iq, hq⟩ := Cg (b := Q9 g i)
 rw [hq] at hT
 refine fe Tryz.func38 fun S0 w0 => ?_
 show Sim _ _ [(0, pW bg), (1, ei i)] H _
 refine zC ?_
 refine cr <| s_ Qb <| zC ?_
 refine cr <| s_ Qa <| s_ Qa ?_
 refine QI hI (fun r H' ⟨hr1, hr2⟩ => ?_)
 subst hr1 hr2
 refine s_ YA <| s_ Qb <| zC ?_
 refine ci (p := ¬ isI i) ?_ ?_
 ·intro hn
  refine zC ?_
  refine cr <| s_ Qb <| zC ?_
  refine zR ?_
  refine rh kR ⟨rfl, rfl⟩ ?_
  exact Le.of_eq (congrArg ei (by unfold XM; rw [if_pos hn]))
 intro hn
 refine zC ?_
 refine cr <| s_ Qa <| s_ Qa ?_
 refine QI hT (fun r H' ⟨hr1, hr2⟩ => ?_)
 subst hr1 hr2
 refine s_ YA <| s_ Qb <| zC ?_
 refine ci (p := ¬ q) ?_ ?_
 ·intro hnq
  refine zC ?_
  refine cr <| s_ Qb <| zC ?_
  refine zR ?_
  refine rh kR ⟨rfl, rfl⟩ ?_
  exact Le.of_eq (congrArg ei (by unfold XM; rw [if_neg hn, if_pos (by rw [hq]; simpa using hnq)]))
 ·intro hnq
  refine zC ?_
  refine cr <| s_ Qb <| zC ?_
  refine zR ?_
  refine rh kR ⟨rfl, rfl⟩ ?_
  exact Le.of_eq (congrArg ei (by unfold XM; rw [if_neg hn, if_neg (by rw [hq]; simpa using hnq)]))
def LM (P : Nat → En → Prop) (N t : Nd) (e : Int) : Prop := (¬ e = 0 ∧ t = N) ∨ (e = 0 ∧ N.role = 2 ∧ ∃ en, t = Om N en ∧ P N.log.length ⟨N.term, en.conf, en.cmd⟩)
theorem Ge {P : Nat → En → Prop} {N : Nd} {cmd : List UInt8} (h : P N.log.length ⟨N.term, 0, cmd⟩) : LM P N (QT N cmd).1 (QT N cmd).2.2 := by
 unfold QT
 split
 ·exact .inl ⟨by simp only; omega, rfl⟩
 ·rename_i hr
  split
  ·exact .inl ⟨by simp only; omega, rfl⟩
  ·exact .inr ⟨rfl, Classical.not_not.1 hr, _, rfl, h⟩
section
variable {P : Nat → En → Prop} {g : Gp} {τ l u : Nat}
theorem LM.nb {N t : Nd} {e : Int} (h : NB P N τ l) (hb : LM P N t e) : NB P t τ (l + 1) ∧ Go.Proofs.YtjbokbikkcfjjaaGreat.pot t ≤ Go.Proofs.YtjbokbikkcfjjaaGreat.pot N := by
 rcases hb with ⟨_, rfl⟩ | ⟨_, hr, en, rfl, hp⟩
 ·exact ⟨h.le (Nat.le_refl _) (by omega), Nat.le_refl _⟩
 ·exact h.put hr hp
theorem LM.id {N t : Nd} {e : Int} (hb : LM P N t e) : t.id = N.id := by
 rcases hb with ⟨_, rfl⟩ | ⟨_, hr, en, rfl, hp⟩
 ·rfl
 ·exact Uk (VU N en)
theorem CS (g : Gp) (i : Nat) (t : Nd) (e : Int) : Vm g i t e = { g with ks := g.ks.set i (Qw (g.k i) t e).1, way := g.way ++ [] } := by unfold Vm; rw [List.append_nil]
theorem GB.put (h : GB P g τ l u) {i : Nat} (hi : i < 5) {t : Nd} {e : Int} (hb : LM P (g.k i).N t e) : ∃ l', GB P (Vm g i t e) τ l' (u + 5) ∧ l ≤ l' := by
 obtain ⟨h1, h2⟩ := Gy (h.ki i hi) t e
 have hn := h.nb i hi
 obtain ⟨n1, n2⟩ := hb.nb hn
 have hg : (Qw (g.k i) t e).1.N = t ∨ (Qw (g.k i) t e).1.N = (g.k i).N := by
  split at h2
  ·exact .inl h2
  ·exact .inr h2
 have hil : i < g.ks.length := by rw [h.ks]; exact hi
 have hk : g.ks[i] = g.k i := by unfold Gp.k; rw [List.getD_eq_getElem?_getD, List.getElem?_eq_getElem hil, Option.getD_some]
 rw [CS]
 refine ⟨l + 1, ⟨by simp [h.ks], h.aw, fun j hj => ?_, fun j hj => ?_, fun j hj => ?_, fun m hm => ?_, ?_, ?_, by have := h.tau; omega⟩, by omega⟩
 ·rw [Gp.k_set (by rw [h.ks]; exact hj)]; split
  ·exact h1
  ·exact h.ki j hj
 ·rw [Gp.k_set (by rw [h.ks]; exact hj)]; split
  ·rename_i e0; subst e0
   rcases hg with e1 | e1
   ·rw [e1, hb.id]; exact h.id i hi
   ·rw [e1]; exact h.id i hi
  ·exact h.id j hj
 ·rw [Gp.k_set (by rw [h.ks]; exact hj)]; split
  ·rcases hg with e1 | e1
   ·rw [e1]; exact n1
   ·rw [e1]; exact hn.le (Nat.le_refl _) (by omega)
  ·exact (h.nb j hj).le (Nat.le_refl _) (by omega)
 ·rw [List.append_nil] at hm
  exact (h.way m hm).le (Nat.le_refl _) (by omega)
 ·have := h.many; simp only [List.append_nil]; omega
 ·have := LV (fun K => Go.Proofs.YtjbokbikkcfjjaaGreat.pot K.N) g.ks i (Qw (g.k i) t e).1 hil
  rw [hk] at this
  have hf := h.fuel
  have hpn : Go.Proofs.YtjbokbikkcfjjaaGreat.pot (Qw (g.k i) t e).1.N ≤ Go.Proofs.YtjbokbikkcfjjaaGreat.pot (g.k i).N := by
   rcases hg with e1 | e1
   ·rw [e1]; exact n2
   ·rw [e1]; exact Nat.le_refl _
  simp only at this ⊢
  omega
end
theorem Bt {bg : Nat} {g : Gp} {a : Nat → Ad} {bm : Nat} {es : List (Value × T × Nat)} {clk : Nat} {W : Qc} {wv : Value} {i : Nat} {t : Nd} {e : Int} (hks : g.ks.length = 5) (hA : D1 g.aw es) (hO : OM g.way wv W) : IsG bg (Vm g i t e) (gH bg g.conf a bm es clk W wv (upA g.k i (Qw (g.k i) t e).1)) := by
 refine ⟨a, bm, es, clk, W, wv, hA, hO, ?_⟩
 show _ = gH bg g.conf a bm es clk W wv (Vm g i t e).k
 unfold gH
 rw [Dw a (upA g.k i (Qw (g.k i) t e).1) (Vm g i t e).k (fun j hj => ?_)]
 have := Gp.k_set (g := g) (i := i) (j := j) (K := (Qw (g.k i) t e).1) (w := g.way) (by rw [hks]; exact hj)
 show Gp.k { g with ks := g.ks.set i (Qw (g.k i) t e).1 } j = _
 rw [this]
 unfold upA
 by_cases hij : i = j
 ·subst hij; simp
 ·rw [if_neg hij, if_neg (fun e => hij e.symm)]
theorem AL {P : Nat → En → Prop} {τ l u : Nat} (hP : PK P) (bg : Nat) (g : Gp) (H : Qc) (i : Int) (cmd : List UInt8) (h : GB P g τ l u) (hu : u + 205 ≤ 25000) (hC : P (g.k i.toNat).N.log.length ⟨(g.k i.toNat).N.term, 0, cmd⟩) (hG : IsG bg g H) : FnH Tryz.prog 17 [pW bg, ei i, es cmd] H (fun r H' => r = ei (doG g i cmd).2 ∧ IsG bg (doG g i cmd).1 H') := by
 have hAsk := Lu bg g H i hG
 by_cases hask : ¬ XM g i = 0
 ·refine fe Tryz.func17 fun S0 w0 => ?_
  show Sim _ _ [(0, pW bg), (1, ei i), (2, es cmd)] H _
  refine zC ?_
  refine cr <| s_ Qb <| zC ?_
  refine cr <| s_ Qa <| s_ Qa ?_
  refine QI hAsk (fun r H' ⟨hr1, hr2⟩ => ?_)
  subst hr1 hr2
  refine s_ Qb <| zC ?_
  refine cr <| s_ Qa <| s_ Yq <| zC ?_
  refine ci (p := ¬ XM g i = 0) (fun _ => ?_) (fun h => absurd hask h)
  refine zC ?_
  refine cr <| s_ Qa <| s_ Qb <| zC ?_
  refine zR ?_
  refine rh kR ⟨rfl, ?_⟩ ?_
  ·unfold doG; rw [if_pos hask]; exact hG
  ·exact Le.of_eq (congrArg ei (by unfold doG; rw [if_pos hask]))
 have hth : Q9 g i = true := by
  unfold XM at hask
  split at hask
  ·exact absurd (by omega) hask
  ·split at hask
   ·exact absurd (by omega) hask
   ·rename_i h1; exact Classical.not_not.1 h1
 have hi := YD hth
 obtain ⟨h5, hin⟩ := XC hi
 have hb := Ge (P := P) (N := (g.k i.toNat).N) (cmd := cmd) hC
 have hspec : doG g i cmd = BQ g i (QT (g.k i.toNat).N cmd).1 (QT (g.k i.toNat).N cmd).2.1 (QT (g.k i.toNat).N cmd).2.2 := by unfold doG; rw [if_neg hask]
 rw [hspec]
 have hnb := h.nb _ h5
 have hfive := h.five
 have hlen := hnb.len
 have hcnf := hnb.cnf hP.toPO
 obtain ⟨n1, n2⟩ := hb.nb hnb
 have hpot := h.pot h5
 have hidx : 0 ≤ (QT (g.k i.toNat).N cmd).2.1 ∧ (QT (g.k i.toNat).N cmd).2.1 ≤ 100000 := by
  have hbs := hnb.base
  unfold QT
  repeat' split
  all_goals simp only; omega
 have hsz := n1.sz hP (by have := h.tau; omega) (by omega)
 have hrc := n1.rec_ hP (by omega)
 obtain ⟨l', hgb, _⟩ := h.put h5 hb
 have hok := h.ok hP (by omega) h5
 have hcall := fun bk bj bd => Iz bk bj bd (g.k i.toNat) cmd (CT cmd (hnb.bd hP.toPO (by omega)) (by omega)) hok hsz (by omega)
 obtain ⟨⟨K', e'⟩, hke⟩ : ∃ x, Qw (g.k i.toNat) (QT (g.k i.toNat).N cmd).1 (QT (g.k i.toNat).N cmd).2.2 = x := ⟨_, rfl⟩
 unfold BQ
 unfold A7 at hcall
 have hput := fun bm em clk W wv a hA hO => Bt (bg := bg) (g := g) (a := a) (bm := bm) (es := em) (clk := clk) (W := W) (wv := wv) (i := i.toNat) (t := (QT (g.k i.toNat).N cmd).1) (e := (QT (g.k i.toNat).N cmd).2.2) h.ks hA hO
 obtain ⟨g1, hg1⟩ : ∃ g1, g1 = Vm g i.toNat (QT (g.k i.toNat).N cmd).1 (QT (g.k i.toNat).N cmd).2.2 := ⟨_, rfl⟩
 rw [← hg1] at hgb hput ⊢
 rw [hke] at hcall hput ⊢
 simp only at hcall hput ⊢
 generalize (QT (g.k i.toNat).N cmd).2.1 = index at hidx hcall ⊢
 obtain ⟨a, bm, em, clk, W, wv, hA, hO, rfl⟩ := hG
 have hput := hput bm em clk W wv a hA hO
 have hcall := hcall (a i.toNat).bk (a i.toNat).bj (a i.toNat).bd
 have hck := EF (conf := g.conf) (a := a) (bm := bm) (wv := wv) hi
 have hp5 : 0 ≤ i ∧ i < 5 := hi
 have hperm := UB (x := (bg, ⟨tG, gC g.conf a bm wv, 13⟩)) (y := (bm, ⟨.map em clk, [], 0⟩)) (W := W) (Vj a g.k h5)
 have hperm2 : ((bg, ⟨tG, gC g.conf a bm wv, 13⟩) :: (bm, ⟨.map em clk, [], 0⟩) :: (W ++ gM a (upA g.k i.toNat K'))).Perm (mH (a i.toNat) K' ++ ((bg, ⟨tG, gC g.conf a bm wv, 13⟩) :: (bm, ⟨.map em clk, [], 0⟩) :: (W ++ gO a g.k i.toNat))) := by
  refine UB ?_
  have := (Dv a a g.k (upA g.k i.toNat K') h5 (fun j _ hj => ⟨rfl, by unfold upA; rw [if_neg hj]⟩)).symm
  simpa [upA] using this
 have hask0 : XM g i = 0 := Classical.not_not.1 hask
 refine fe Tryz.func17 fun S0 w0 => ?_
 show Sim _ _ [(0, pW bg), (1, ei i), (2, es cmd)] ((bg, ⟨tG, gC g.conf a bm wv, 13⟩) :: (bm, ⟨.map em clk, [], 0⟩) :: (W ++ gM a g.k)) _
 refine zC ?_
 refine cr <| s_ Qb <| zC ?_
 refine cr <| s_ Qa <| s_ Qa ?_
 refine QI hAsk (fun r H' ⟨hr1, hr2⟩ => ?_)
 subst hr1 hr2
 refine s_ Qb <| zC ?_
 refine cr <| s_ Qa <| s_ Yq <| zC ?_
 refine ci (p := ¬ XM g i = 0) (fun h => absurd hask0 h) (fun _ => ?_)
 refine zC ?_
 refine cr <| s_ Qa <| s_ Qa <| s_ Qe <| s_ Qd <| s_ YX <| s_ Qd <| s_ (Ql (hd := by first | rfl | assumption)) <| s_ Qa ?_
 refine Q2 hcall hperm (fun r H' ⟨hr1, hr2⟩ => ?_)
 subst hr1 hr2
 refine QA hperm2.symm ?_
 refine s_ Qa <| s_ QH <| s_ QH <| s_ Qb <| s_ Qb <| zC ?_
 by_cases he' : e' = 0
 ·have hw := IH hP bg g1 _ i index hi hgb (by omega) hidx.1 (by omega) hput
  simp only [if_pos he']
  rw [if_neg (show ¬ ¬ e' = 0 from fun h => h he')]
  rw [he']
  refine zC ?_
  refine cr <| s_ Qa <| s_ Qa <| s_ Qa <| s_ Qa ?_
  refine QI hw (fun r H' ⟨hr1, hr2⟩ => ?_)
  subst hr1
  refine s_ Qb <| zC ?_
  refine zR ?_
  exact rh kR ⟨rfl, hr2⟩ (Le.refl _)
 ·have hw := OU bg (gH bg g.conf a bm em clk W wv (upA g.k i.toNat K')) i (if e' = 0 then index else 0) e' he'
  rw [if_pos (show ¬ e' = 0 from he')]
  refine zC ?_
  refine cr <| s_ Qa <| s_ Qa <| s_ Qa <| s_ Qa ?_
  refine QI hw (fun r H' ⟨hr1, hr2⟩ => ?_)
  subst hr1 hr2
  refine s_ Qb <| zC ?_
  refine zR ?_
  exact rh kR ⟨rfl, hput⟩ (Le.refl _)
end Go.Proofs.YtjbokbikkcfjjaaGreat
namespace Go.Proofs.YtjbokbikkcfjjaaGreat
open Go.Cap
section
variable {P : Nat → En → Prop} {g : Gp} {τ l u : Nat} {conf : Int}
theorem R6 {g : Gp} {i : Nat} (hi : i < g.ks.length) : { g with ks := g.ks.set i (g.k i) } = g := by
 have : g.ks.set i (g.k i) = g.ks := by
  unfold Gp.k
  rw [List.getD_eq_getElem?_getD, List.getElem?_eq_getElem hi, Option.getD_some, List.set_getElem_self]
 rw [this]
end
end Go.Proofs.YtjbokbikkcfjjaaGreat
namespace Go.Proofs.YtjbokbikkcfjjaaGreat
open Go.Cap
attribute [local irreducible] POp Qf TO EOp Sim FnH T.gp
def d0 : Dk := ⟨0, 0, false, [], 0, [], 1048576⟩
theorem AD {id conf : Int} (h0 : 0 ≤ id) (h1 : id < 5) (h2 : 0 ≤ conf) (h3 : conf ≤ 31) : Sz (QV id conf) ∧ (Qq (QV id conf) 0).length ≤ 524100 := by
 have hk := AE h0 h1 h2 h3
 exact ⟨hk.sz (by omega), by have := hk.rec_; omega⟩
theorem IN (bd : Nat) (id conf : Int) (h0 : 0 ≤ id) (h1 : id < 5) (h2 : 0 ≤ conf) (h3 : conf ≤ 31) :
  FnH Tryz.prog 34 [pW bd, ei id, ei conf] (DkH bd d0) (fun r H => ∃ bk bj K2, r = .tup [pW bk, ei 0] ∧ H = mH ⟨bd, bk, bj⟩ K2 ∧ J5 (QV id conf) K2 ∧ K2.N = QV id conf) := by
 obtain ⟨s1, s2⟩ := AD h0 h1 h2 h3
 have hl := In (n0 := QV id conf) (R := 524100) 1048576 rfl s1 s2 (by omega) (by omega)
 refine FnH.mono (OA bd id conf hl rfl (Io id conf h0 h1 h2 h3) rfl (by simp [QV]) (by omega) s1 s2) ?_
 rintro r H ⟨bk, bj, K2, e1, e2, e3, e4, e5⟩
 exact ⟨bk, bj, K2, e1, e2, ⟨e3, by rw [e5], by rw [e5]⟩, e4⟩
def gN (conf : Int) (a : Nat → Ad) (n : Nat) (bm : Nat) : List T :=
 let p := fun (j : Nat) (x : Nat) => if j < n then pW x else .v (.pointer none)
 [ei conf, p 0 (a 0).bd, p 0 (a 0).bk, p 1 (a 1).bd, p 1 (a 1).bk, p 2 (a 2).bd, p 2 (a 2).bk, p 3 (a 3).bd, p 3 (a 3).bk, p 4 (a 4).bd, p 4 (a 4).bk, .v (.map (some bm)), .v (.slice none 0 0)]
theorem Tx (conf : Int) (a : Nat → Ad) {n : Nat} (hn : n < 5) (bm : Nat) (x : Ad) : ZB (gN conf a n bm) (0 + 1 + ((n : Nat) : Int).toNat * 2) [pW x.bd, pW x.bk] (gN conf (upA a n x) (n + 1) bm) := by
 have h : ∀ n : Fin 5, ZB (gN conf a n.val bm) (0 + 1 + ((n.val : Nat) : Int).toNat * 2) [pW x.bd, pW x.bk] (gN conf (upA a n.val x) (n.val + 1) bm) := by
  intro n
  match n with
  | 0 => show ZB _ 1 _ _; unfold gN upA; exact zy
  | 1 => show ZB _ 3 _ _; unfold gN upA; exact zy
  | 2 => show ZB _ 5 _ _; unfold gN upA; exact zy
  | 3 => show ZB _ 7 _ _; unfold gN upA; exact zy
  | 4 => show ZB _ 9 _ _; unfold gN upA; exact zy
 exact h ⟨n, hn⟩
def gMk (a : Nat → Ad) (k : Nat → Kp) (n : Nat) : Qc := (List.range n).flatMap fun j => mH (a j) (k j)
theorem IT (a : Nat → Ad) (k : Nat → Kp) (n : Nat) (x : Ad) (K : Kp) : gMk (upA a n x) (upA k n K) (n + 1) = gMk a k n ++ mH x K := by
 unfold gMk
 rw [List.range_succ, List.flatMap_append, List.flatMap_cons, List.flatMap_nil, List.append_nil]
 congr 1
 ·have h : ∀ l : List Nat, (∀ j ∈ l, j < n) → (l.flatMap fun j => mH (upA a n x j) (upA k n K j)) = l.flatMap fun j => mH (a j) (k j) := by
   intro l
   induction l with
   | nil => intro _; rfl
   | cons j l ih =>
    intro hl
    have hj := hl j List.mem_cons_self
    rw [List.flatMap_cons, List.flatMap_cons, ih fun y hy => hl y (List.mem_cons_of_mem _ hy)]
    unfold upA
    rw [if_neg (by omega), if_neg (by omega)]
  exact h _ fun j hj => List.mem_range.1 hj
 ·simp [upA]
def U0 (conf : Int) (k : Nat → Kp) : Gp := ⟨conf, (List.range 5).map k, [false, false, false, false, false], []⟩
theorem AG (conf : Int) (k : Nat → Kp) {i : Nat} (hi : i < 5) : (U0 conf k).k i = k i := by
 unfold U0 Gp.k
 simp only [List.getD_eq_getElem?_getD, List.getElem?_map, List.getElem?_range hi, Option.map_some, Option.getD_some]
theorem GG (P : Nat → En → Prop) (conf : Int) (h1 : 1 ≤ conf) (h2 : conf ≤ 31) : FnH Tryz.prog 10 [ei conf] [] (fun r H => ∃ bg g, r = .tup [pW bg, ei 0] ∧ IsG bg g H ∧ GB P g 0 0 0 ∧ GL conf g ∧ prG g = Bh conf ∧ g.conf = conf) := by
 refine fe Tryz.func10 fun S0 w0 => ?_
 show Sim _ _ [(0, ei conf)] [] _
 refine zC ?_
 refine cr <| s_ Qb <| s_ Qb <| zC ?_
 refine cr <| s_ Qa <| s_ QU <| s_ Qa <| gF (fun hg => Qa) ?_
 refine gF (fun hg => Yu (hx := u_ hg)) ?_
 refine s_ YW <| zC ?_
 refine ci ?_ ?_
 ·intro hc; omega
 intro _
 refine zC ?_
 refine cr <| s_ Qa ?_
 refine TD fun b17 _ => ?_
 refine s_ (ZF 13 [_, _, _, _, _, _, _, _, _, _, _, _, _]) ?_
 refine X1 fun b19 _ => ?_
 refine s_ Qb <| zC ?_
 refine cr <| s_ Qa <| zC ?_
 apply Qo (σ := Nat × (Nat → Ad) × (Nat → Kp)) (ok := fun s => s.1 ≤ 5 ∧ ∀ j : Nat, j < s.1 → J5 (QV j conf) (s.2.2 j) ∧ (s.2.2 j).N = QV j conf) (env := fun s => [(20, ei s.1), (4, pW b19), (0, ei conf)]) (heap := fun s => (b19, ⟨tG, gN conf s.2.1 s.1 b17, 13⟩) :: (b17, ⟨.map [] 0, [], 0⟩) :: gMk s.2.1 s.2.2 s.1) (μ := fun s => 5 - s.1) (s0 := (0, fun _ => ⟨0, 0, 0⟩, fun _ => default))
 ·exact ⟨Nat.zero_le _, fun j hj => absurd hj (Nat.not_lt_zero j)⟩
 ·exact eL
 ·exact kR
 rintro ⟨n, a, k⟩ ⟨hn, hk⟩
 simp only at hn hk
 show Sim _ _ [(20, ei n), (4, pW b19), (0, ei conf)] ((b19, ⟨tG, gN conf a n b17, 13⟩) :: (b17, ⟨.map [] 0, [], 0⟩) :: gMk a k n) _
 refine zC ?_
 refine cr <| s_ QU <| zC ?_
 refine ci ?_ ?_
 ·intro hlt
  have hn5 : n < 5 := by omega
  have hD := Bi 1048576 (by omega) (by omega)
  refine zC ?_
  refine cr <| s_ Qa <| s_ Qb <| zC ?_
  apply cr
  refine Q2 (Hs := []) hD (List.Perm.refl _) (fun r H' ⟨bd, hr1, hr2⟩ => ?_)
  subst hr1 hr2
  have hO := IN bd n conf (by omega) (by omega) (by omega) h2
  refine s_ Qa <| s_ QH <| s_ QH <| s_ Qb <| s_ Qb <| zC ?_
  refine cr <| s_ Qa <| s_ Qa <| s_ Qa ?_
  refine Q2 hO (List.Perm.refl _) (fun r H' ⟨bk, bj, K2, hr1, hr2, hL, hN⟩ => ?_)
  subst hr1 hr2
  refine QA (H' := (b19, ⟨tG, gN conf a n b17, 13⟩) :: (b17, ⟨.map [] 0, [], 0⟩) :: (gMk a k n ++ mH ⟨bd, bk, bj⟩ K2)) ?_ ?_
  ·have := (List.perm_append_comm (l₁ := mH ⟨bd, bk, bj⟩ K2) (l₂ := (b19, ⟨tG, gN conf a n b17, 13⟩) :: (b17, ⟨.map [] 0, [], 0⟩) :: gMk a k n))
   exact this
  have hlay := Tx conf a hn5 b17 ⟨bd, bk, bj⟩
  refine s_ Qa <| s_ QH <| s_ QH <| s_ Qb <| s_ Qb <| zC ?_
  refine cr <| s_ Qa <| s_ Qa <| s_ Qa <| s_ Qa <| s_ (ZF 2 [_, _]) <| s_ Qe <| s_ Qd <| s_ YX <| Qz (hc := hlay) ?_
  refine zC ?_
  refine cr <| s_ QY <| s_ Qa <| zC ?_
  refine ⟨(n + 1, upA a n ⟨bd, bk, bj⟩, upA k n K2), ⟨by simp only; omega, fun j hj => ?_⟩, (by simp only []; omega), ⟨?_, eL⟩, ?_⟩
  ·simp only
   unfold upA
   by_cases hjn : j = n
   ·subst hjn; rw [if_pos rfl]; exact ⟨hL, hN⟩
   ·rw [if_neg hjn]; exact hk j (by simp only at hj; omega)
  ·apply Qi; (exact zG)
   exact Le.refl _
  ·simp only
   rw [IT]
   exact kR
 ·intro hge
  have hn5 : n = 5 := by omega
  subst hn5
  refine zC ?_
  refine cr <| s_ Qa <| s_ Qb <| s_ Qb <| zC ?_
  refine zR ?_
  have hke : ∀ i : Nat, i < 5 → (U0 conf k).k i = k i := fun i hi => AG conf k hi
  refine rh kR ⟨b19, U0 conf k, rfl, ⟨a, b17, [], 0, [], .slice none 0 0, ⟨Yj.nil _, fun i hi => ?_⟩, Y7, ?_⟩, ?_, ?_, ?_, rfl⟩ (Le.refl _)
  ·have h : ∀ i : Fin 5, (U0 conf k).aw.getD i.val false = false := by
    intro i
    match i with
    | 0 | 1 | 2 | 3 | 4 => rfl
   rw [h ⟨i, hi⟩]; rfl
  ·show _ = gH b19 conf a b17 [] 0 [] (.slice none 0 0) (U0 conf k).k
   unfold gH
   rw [Dw a k (U0 conf k).k hke]
   rfl
  ·refine ⟨by simp [U0], rfl, fun i hi => ?_, fun i hi => ?_, fun i hi => ?_, by simp [U0], by simp [U0], ?_, Nat.le_refl _⟩
   ·rw [hke i hi]
    have hl := (hk i hi).1.live
    obtain ⟨so, rs, hc, hnn⟩ := hl.cont
    exact ⟨hl.dk, by omega, by have := hc.len; omega⟩
   ·rw [hke i hi, (hk i hi).2]; rfl
   ·rw [hke i hi, (hk i hi).2]; exact AF (by omega) (by omega) (by omega) h2
   ·have : ((U0 conf k).ks.map fun K => Go.Proofs.YtjbokbikkcfjjaaGreat.pot K.N) = (List.range 5).map fun i => 0 := by
     unfold U0
     rw [List.map_map]
     refine List.map_congr_left fun i hi => ?_
     have hi5 := List.mem_range.1 hi
     show Go.Proofs.YtjbokbikkcfjjaaGreat.pot (k i).N = 0
     rw [(hk i hi5).2]; rfl
    rw [this]; decide
  ·intro i hi
   rw [hke i hi]; exact (hk i hi).1
  ·unfold prG Bh U0
   simp only [Gn.mk.injEq, and_true]
   rw [List.map_map]
   refine List.map_congr_left fun i hi => ?_
   exact (hk i (List.mem_range.1 hi)).2
def tSs : TypeId := 9
theorem es1 (l : List (List UInt8)) : ∀ x ∈ l.map es, x.cells.length = 1 := fun x hx => by
 obtain ⟨s, _, rfl⟩ := List.mem_map.1 hx; rfl
theorem I3 (l : List (List UInt8)) : ∀ x ∈ l.map es, x.solid := fun x hx => by
 obtain ⟨s, _, rfl⟩ := List.mem_map.1 hx; exact .inl rfl
theorem Of (l : List (List UInt8)) (hl : l.length ≤ 1000000000) : FnP Tryz.prog 42 [.sl false (l.map es)] (fun r => r = .sl false (l.map es)) := by
 have hk := es1 l
 refine fe Tryz.func42 fun S0 w0 => ?_
 show Sim _ _ [(0, T.sl false (l.map es))] _ _
 refine zC ?_
 refine cr <| s_ Qb <| zC ?_
 refine cr <| s_ Qa ?_
 refine Zh 3 fun p c h1 _ => ?_
 refine s_ Ay <| zC ?_
 refine ci ?_ ?_
 ·intro hp
  have := h1 hp
  have : l = [] := by simpa using this
  subst this
  refine zC ?_
  refine cr <| s_ Qb <| zC ?_
  refine zE ?_
  exact Le.nil _
 ·intro hp
  refine zC ?_
  refine cr <| s_ JG <| s_ Qa <| s_ (Tm (d := .v (.string .empty)) (xs := []) (ys := l.map es) (hky := hk)) <| s_ Qb <| zC ?_
  refine zE ?_
  exact Le.refl _
def ZO (l : List En) : List (List UInt8) := (l.map (·.cmd)).filter (fun c => !c.isEmpty)
theorem Rf {l : List En} {k : Nat} (hk : k < l.length) : ZO (l.take (k + 1)) = ZO (l.take k) ++ (if l[k].cmd = [] then [] else [l[k].cmd]) := by
 unfold ZO
 rw [List.take_succ_eq_append_getElem hk, List.map_append, List.filter_append]
 congr 1
 by_cases h : l[k].cmd = []
 ·simp [h]
 ·rw [if_neg h]; simp [h]
theorem WC (l : List En) : (ZO l).length ≤ l.length := by
 unfold ZO
 exact Nat.le_trans (List.length_filter_le _ _) (by simp)
theorem IS (bg : Nat) (g : Gp) (H : Qc) (i : Int) (hi : isI i) (hl : (g.k i.toNat).N.log.length ≤ 1000000) (hb : (g.k i.toNat).N.base = 0) (hc0 : 0 ≤ (g.k i.toNat).N.commit) (hc1 : (g.k i.toNat).N.commit ≤ 1000000) (hG : IsG bg g H) : FnH Tryz.prog 19 [pW bg, ei i] H (fun r H' => r = .sl false ((Ye (g.k i.toNat).N).map es) ∧ H' = H) := by
 obtain ⟨h5, _⟩ := XC hi
 have hT := JI bg g H i hG
 obtain ⟨a, bm, em, clk, W, wv, hA, hO, rfl⟩ := hG
 have hno := JH (bg := bg) (g := g) (a := a) (bm := bm) (es := em) (clk := clk) (W := W) (wv := wv) h5 (by omega)
 have hck := EF (conf := g.conf) (a := a) (bm := bm) (wv := wv) hi
 have hp5 : 0 ≤ i ∧ i < 5 := hi
 obtain ⟨n, hn⟩ : ∃ n, n = (g.k i.toNat).N := ⟨_, rfl⟩
 rw [← hn] at hno hl hb hc0 hc1 ⊢
 refine fe Tryz.func19 fun S0 w0 => ?_
 show Sim _ _ [(0, pW bg), (1, ei i)] ((bg, ⟨tG, gC g.conf a bm wv, 13⟩) :: (bm, ⟨.map em clk, [], 0⟩) :: (W ++ gM a g.k)) _
 refine zC ?_
 refine cr <| s_ Qb <| zC ?_
 refine cr <| s_ Qa <| s_ Qa ?_
 refine QI hT (fun r H' ⟨hr1, hr2⟩ => ?_)
 subst hr1 hr2
 refine s_ YA <| zC ?_
 refine ci (p := ¬ isI i) (fun h => absurd hi h) (fun _ => ?_)
 show Sim _ _ _ ((bg, ⟨tG, gC g.conf a bm wv, 13⟩) :: (bm, ⟨.map em clk, [], 0⟩) :: (W ++ gM a g.k)) _
 refine zC ?_
 refine cr <| s_ Qb <| zC ?_
 refine cr <| s_ Qa <| s_ Qa <| s_ Qe <| s_ Qd <| s_ YX <| s_ Qd <| s_ (Ql (hd := by first | rfl | assumption)) ?_
 refine QI hno (fun r H' ⟨hr1, hr2⟩ => ?_)
 subst hr1 hr2
 show Qf _ _ _ _ _ ((bg, ⟨tG, gC g.conf a bm wv, 13⟩) :: (bm, ⟨.map em clk, [], 0⟩) :: (W ++ gM a g.k)) _
 refine Yd fun b6 _ => ?_
 refine Qz ?_
 refine zC ?_
 obtain ⟨j, hj⟩ : ∃ j, j = max (min (n.commit - n.base) (n.log.length : Int)) 0 := ⟨_, rfl⟩
 have hj0 : 0 ≤ j ∧ j ≤ n.log.length := by omega
 refine zC ?_
 refine cr <| s_ Qd <| s_ Ql <| s_ Qd <| s_ Ql <| s_ Qd <| s_ Ql <| s_ Zp <| s_ Qd <| s_ Ql ?_
 (first | refine s_ QP ?_ | refine s_ QO ?_)
 refine s_ WU <| s_ VW ?_
 rw [show max (min (n.commit - n.base) (((n.log.map een).length : Nat) : Int)) 0 = j by rw [List.length_map]; exact hj.symm]
 refine s_ B4 ?_
 have hdone : Ye n = ZO (n.log.take j.toNat) := by unfold Ye ZO; rw [← hj]
 rw [hdone]
 obtain ⟨l, hle⟩ : ∃ l, l = n.log.take j.toNat := ⟨_, rfl⟩
 have hll : l.length ≤ 1000000 := by rw [hle, List.length_take]; omega
 rw [← List.map_take, ← hle]
 (first | refine s_ QP ?_ | refine s_ QO ?_)
 refine s_ Qa <| zC ?_
 apply Qo (σ := Nat × Value × Qc) (ok := fun s => s.1 ≤ l.length ∧ OSl tSs 1 ((ZO (l.take s.1)).map es) s.2.1 s.2.2) (env := fun s => [(35, ei s.1), (34, ei l.length), (33, T.sl false (l.map een)), (5, .v s.2.1), (0, pW bg), (1, ei i)]) (heap := fun s => s.2.2 ++ gH bg g.conf a bm em clk W wv g.k) (μ := fun s => l.length - s.1) (s0 := (0, .slice none 0 0, []))
 ·exact ⟨Nat.zero_le _, Y7⟩
 ·refine ⟨?_, ?_, eL⟩
  ·apply Qi; (exact zG)
   exact Le.refl _
  ·apply Qi; (exact zG)
   exact Le.of_eq (by rw [List.length_map]; rfl)
 ·exact .skip _ _ _ kR
 rintro ⟨k, v, Hs⟩ ⟨hk, ho⟩
 simp only at hk ho
 show Sim _ _ [(35, ei k), (34, ei l.length), (33, T.sl false (l.map een)), (5, .v v), (0, pW bg), (1, ei i)] (Hs ++ gH bg g.conf a bm em clk W wv g.k) _
 obtain ⟨p, c, rfl⟩ := OSl.len ho
 refine zC ?_
 refine cr <| s_ QU <| zC ?_
 refine ci ?_ ?_
 ·intro hlt
  have hix : k < l.length := by omega
  have hnx := Rf hix
  have hcl := WC (l.take k)
  have htl : (l.take k).length ≤ 1000000 := by rw [List.length_take]; omega
  apply ck
  apply cq
  refine VP (σ := Value × Qc) (ok := fun s => OSl tSs 1 ((ZO (l.take (k + 1))).map es) s.1 s.2) (env := fun s => [(35, ei k), (34, ei l.length), (33, T.sl false (l.map een)), (5, .v s.1), (0, pW bg), (1, ei i)]) (heap := fun s => s.2 ++ gH bg g.conf a bm em clk W wv g.k) ?_ (fun s hs => ?_)
  ·refine zC ?_
   apply cr
   (first | refine s_ (Xd hix) ?_ | refine s_ (Xd hix2) ?_ | refine s_ YE ?_)
   refine s_ Y6 ?_
   refine Yd fun b8 _ => ?_
   refine Qz ?_
   refine zC ?_
   refine cr <| s_ Qd <| s_ Ql <| s_ B6 <| zC ?_
   refine ci ?_ ?_
   ·intro hne
    have hne' : ¬ l[k].cmd = [] := hne
    rw [if_neg hne'] at hnx
    refine zC ?_
    refine cr <| s_ Qa <| s_ Qd <| s_ Ql <| s_ JG ?_
    refine LE (ho := ho) (A := [_]) (B := gH bg g.conf a bm em clk W wv g.k) (ys := [es l[k].cmd]) (f := true) (es1 _) (fun v' Hs' ho' => ?_) (hb := by simp only [List.length_map, List.length_cons, List.length_nil]; omega) (hm := by simp only [List.length_map, List.length_cons, List.length_nil]; omega)
    refine s_ Qb <| zC ?_
    exact ⟨(v', Hs'), _, (by rw [hnx, List.map_append]; exact ho'), eL, .refl _, .skip _ _ _ kR⟩
   ·intro hne
    have hne' : l[k].cmd = [] := Classical.not_not.1 hne
    rw [if_pos hne', List.append_nil] at hnx
    refine zC ?_
    exact ⟨(_, Hs), _, (by rw [hnx]; exact ho), eL, .refl _, .skip _ _ _ kR⟩
  obtain ⟨v', Hs'⟩ := s
  simp only at hs
  show Sim _ _ [(35, ei k), (34, ei l.length), (33, T.sl false (l.map een)), (5, .v v'), (0, pW bg), (1, ei i)] (Hs' ++ gH bg g.conf a bm em clk W wv g.k) _
  refine zC ?_
  refine cr <| s_ QY <| s_ Qa <| zC ?_
  refine ⟨(k + 1, v', Hs'), ⟨by simp only; omega, hs⟩, (by simp only []; omega), ⟨?_, eL⟩, kR⟩
  apply Qi; (exact zG)
  exact Le.refl _
 ·intro hge
  have hke : k = l.length := by omega
  subst hke
  rw [List.take_length] at ho
  have hcl := Of (ZO l) (by have := WC l; omega)
  have hlend : Qx Hs (.v (.slice p ((ZO (l.take l.length)).map es).length c)) (.sl false ((ZO l).map es)) := by
   rw [List.take_length]
   exact OSl.lend ho (fun _ h => h) (es1 _) (I3 _)
  refine zC ?_
  refine Z2 (G := Hs) (H1 := gH bg g.conf a bm em clk W wv g.k) [(5, .sl false ((ZO l).map es))] (.refl _) ⟨hlend, trivial⟩ ?_
  refine zC ?_
  refine cr <| s_ Qa <| s_ (QQ (hcl)) <| s_ Qb <| zC ?_
  refine zR ?_
  exact rh kR ⟨rfl, rfl⟩ (Le.refl _)
end Go.Proofs.YtjbokbikkcfjjaaGreat
namespace Go.Proofs.YtjbokbikkcfjjaaGreat
open Go.Cap
def PS (_ : Nat) (e : En) : Prop := Ek e 100000
theorem Xx : PK PS where
 conf := fun _ _ h => ⟨h.c0, h.c1⟩
 own := fun _ t h0 h1 => ⟨h0, by simp only; omega, Int.le_refl _, by simp only; omega, by simp⟩
 sz := fun _ e h => ⟨⟨by have := h.t0; omega, by have := h.t1; omega⟩, ⟨by have := h.c0; omega, by have := h.c1; omega⟩, by have := h.cmd; omega⟩
 rec_ := fun l hl h => by
  have : ∀ e ∈ l, Ek e 100000 := fun e he => by
   obtain ⟨i, hi⟩ := List.mem_iff_getElem?.1 he
   exact h i e hi
  have := Uf l this
  omega
end Go.Proofs.YtjbokbikkcfjjaaGreat
namespace Go.Proofs.YtjbokbikkcfjjaaGreat
open Go.Cap
attribute [local irreducible] POp Qf TO EOp Sim FnH T.gp
section
variable {g : Gp} {τ l' u : Nat} {l : List UInt8}
theorem R8 (hB : GB PS g τ l' u) (hu : u + 205 ≤ 25000) (i : Int) (cmd : List UInt8) (hc : cmd.length ≤ 61) (hi : isI i) : PS (g.k i.toNat).N.log.length ⟨(g.k i.toNat).N.term, 0, cmd⟩ := by
 have h := hB.nb i.toNat (XC hi).1
 have h1 := h.term0
 have h2 := h.term1
 have h3 := hB.tau
 exact ⟨h1, by simp only; omega, Int.le_refl _, by simp only; omega, hc⟩
end
theorem Bv {g : Gp} {τ l u : Nat} (bg : Nat) (H : Qc) (i : Int) (cmd : List UInt8) (hB : GB PS g τ l u) (hu : u + 205 ≤ 25000) (hc : cmd.length ≤ 61) (hG : IsG bg g H) : FnH Tryz.prog 17 [pW bg, ei i, es cmd] H (fun r H' => r = ei (doG g i cmd).2 ∧ IsG bg (doG g i cmd).1 H') := by
 by_cases hi : isI i
 ·exact AL Xx bg g H i cmd hB hu (R8 hB hu i cmd hc hi) hG
 ·have ha : XM g i = 2 := by unfold XM; rw [if_pos hi]
  have hd : doG g i cmd = (g, 2) := by unfold doG; rw [ha, if_pos (by omega)]
  rw [hd]
  have := Lu bg g H i hG
  refine fe Tryz.func17 fun S0 w0 => ?_
  show Sim _ _ [(0, pW bg), (1, ei i), (2, es cmd)] H _
  rw [ha] at this
  refine zC ?_
  refine cr <| s_ Qb <| zC ?_
  refine cr <| s_ Qa <| s_ Qa ?_
  refine QI this (fun r H' ⟨hr1, hr2⟩ => ?_)
  subst hr1 hr2
  refine s_ Qb <| zC ?_
  refine cr <| s_ Qa <| s_ Yq <| zC ?_
  refine ci (p := ¬ (2 : Int) = 0) (fun _ => ?_) (fun h => absurd (by omega) h)
  refine zC ?_
  refine cr <| s_ Qa <| s_ Qb <| zC ?_
  refine zR ?_
  exact rh kR ⟨rfl, hG⟩ (Le.refl _)
theorem RE (l : List (List UInt8)) (hl : l.length ≤ 1000000000) : FnP Tryz.prog 18 [.sl false (l.map es), .sl false (l.map es)] (fun r => r = .v (.bool true)) := by
 have hk := es1 l
 refine fe Tryz.func18 fun S0 w0 => ?_
 show Sim _ _ [(0, T.sl false (l.map es)), (1, T.sl false (l.map es))] _ _
 refine zC ?_
 refine cr <| s_ Qb <| zC ?_
 refine cr <| s_ Qa ?_
 (first | refine s_ QP ?_ | refine s_ QO ?_)
 refine s_ Qa ?_
 (first | refine s_ QP ?_ | refine s_ QO ?_)
 refine s_ Yq <| zC ?_
 refine ci (fun hne => absurd rfl hne) (fun _ => ?_)
 refine zC ?_
 refine cr <| s_ Qb <| zC ?_
 apply Qo (σ := Nat) (ok := fun k => k ≤ l.length) (env := fun k => [(5, ei (k : Nat)), (0, T.sl false (l.map es)), (1, T.sl false (l.map es))]) (heap := fun _ => []) (μ := fun k => l.length - k) (s0 := 0)
 ·exact Nat.zero_le _
 ·exact eL
 ·exact kR
 rintro k hk1
 refine zC ?_
 refine cr <| s_ Qa <| s_ Qa ?_
 (first | refine s_ QP ?_ | refine s_ QO ?_)
 refine s_ QU <| zC ?_
 refine ci ?_ ?_
 ·intro hlt
  simp only [List.length_map] at hlt
  have hix : k < l.length := by omega
  apply ck
  apply cq
  refine zC ?_
  refine ca [0, 1, 2, 3, 4, 5, 6, 7, 8] [] <| a_ (fun _ => Qa) <| a_ (fun _ => Qa) ?_
  (first | refine a_ (fun _ => Xd hix) ?_ | refine a_ (fun _ => Xd hix2) ?_ | refine a_ (fun _ => YE) ?_ | refine a_ (fun _ => ZE) ?_)
  (first | refine a_ (fun _ => Qm) ?_ | refine QJ ?_)
  refine a_ (fun _ => Qa) <| a_ (fun _ => Qa) ?_
  (first | refine a_ (fun _ => Xd hix) ?_ | refine a_ (fun _ => Xd hix2) ?_ | refine a_ (fun _ => YE) ?_ | refine a_ (fun _ => ZE) ?_)
  (first | refine a_ (fun _ => Qm) ?_ | refine QJ ?_)
  refine a_ (fun _ => B6) ?_
  apply an
  refine zC ?_
  refine ci (fun h => absurd rfl h) (fun _ => ?_)
  refine zC ?_
  refine cr <| s_ Qa <| s_ QY <| s_ Qb <| zC ?_
  exact ⟨k + 1, by omega, by show l.length - (k + 1) < l.length - k; omega, ⟨Qi (by rfl) (Le.refl _), eL⟩, kR⟩
 ·intro hlt
  refine zC ?_
  refine cr <| s_ Qb <| zC ?_
  refine zE ?_
  exact Le.refl _
theorem R0 {n0 : Nd} {R : Nat} {d : Dk} {so : Option Nd} {rs : List (Nd × Nat)} {tl : List UInt8} {N : Nd} (bd : Nat) (id conf : Int) (hc : ZU n0 R d so rs tl N) (hdk : DkR d) (hdead : d.dead = false) (h0 : d.left = 0) (hsy : d.synced = d.log.length)
  (hid : N.id = n0.id) (hn0 : FnP Tryz.prog 66 [ei id, ei conf] (fun r => r = nd n0)) (hw : Qp n0 = n0) (hl0 : n0.log.length ≤ 10000) (hR : R ≤ 4000000)
  (hszw : Sz (Qp N)) (hrw : (Qq (Qp N) 0).length ≤ R) :
  FnH Tryz.prog 34 [pW bd, ei id, ei conf] (DkH bd d) (fun r H => ∃ bk bj K2, r = .tup [pW bk, ei 0] ∧ H = KpH bk bj bd K2 ∧ Y1 n0 R K2 ∧ K2.N = Qp N ∧ K2.d.left = 0 ∧ K2.d.room = d.room) := by
 have ho := Dm bd d id conf n0 so rs tl hn0 hl0 hdk.ok hdead h0 hc.snap hc.log hc.stop (fun m hm => ⟨(hc.szs m hm).1, by have := (hc.szs m hm).2; omega⟩)
  (fun p hp => ⟨(hc.szr p hp).1, (hc.szr p hp).2.1, by have := (hc.szr p hp).2.2; omega⟩) (fun k => hc.lay k)
 refine FnH.mono ho ?_
 rintro r H ⟨bk, bj, rfl, rfl⟩
 have hN2 : Lj n0 so rs = Qp N := by
  unfold Lj
  split
  ·rename_i hnn
   obtain ⟨rfl, rfl⟩ := hnn
   rw [hc.same]
   exact hw.symm
  ·exact hc.same.symm
 have hfit := hdk.fit
 have hlg := hc.log
 obtain ⟨d2, hd2⟩ : ∃ d2, d2 = ZN d (rs.map ZP) tl := ⟨_, rfl⟩
 rw [← hd2]
 have hlog2 : d2.log = (rs.map ZP).flatMap Qt := by
  rw [hd2]; unfold ZN
  split
  ·rename_i ht; rw [hlg, ht, List.append_nil]
  ·rfl
 have hs2 : d2.snap = d.snap ∧ d2.dead = d.dead ∧ d2.left = d.left ∧ d2.room = d.room := by
  rw [hd2]; unfold ZN
  split <;> exact ⟨rfl, rfl, rfl, rfl⟩
 have hsy2 : d2.synced = d2.log.length := by
  rw [hd2]; unfold ZN
  split
  ·exact hsy
  ·rfl
 obtain ⟨q1, q2, q3, q4⟩ := hs2
 have hlen : d2.log.length ≤ d.log.length := by rw [hlog2, hlg, List.length_append]; omega
 refine ⟨bk, bj, ⟨rs.length, Qp N, d2⟩, rfl, by rw [hN2], ⟨⟨so, rs, ?_, rfl⟩, hsy2, q2.trans hdead, ?_, hid, hszw, hrw⟩, rfl, q3.trans h0, q4⟩
 ·exact ⟨q1.trans hc.snap, by rw [List.append_nil]; exact hlog2, ZY, hc.len, hc.szs, hc.szr, hc.lay, hc.same⟩
 ·exact ⟨by rw [show (⟨rs.length, Qp N, d2⟩ : Kp).d = d2 from rfl, q3]; exact hdk.l0, by rw [show (⟨rs.length, Qp N, d2⟩ : Kp).d = d2 from rfl, q3]; exact hdk.l1, by rw [show (⟨rs.length, Qp N, d2⟩ : Kp).d = d2 from rfl, q4]; exact hdk.r0, by rw [show (⟨rs.length, Qp N, d2⟩ : Kp).d = d2 from rfl, q4]; exact hdk.r1, by
   show ((d2.log.length + d2.snap.length : Nat) : Int) ≤ d2.room
   rw [q4, q1]; omega⟩
theorem G7 {n0 : Nd} {R : Nat} {K : Kp} (n : Int) (h : Y1 n0 R K) (hn : n ≤ 1000000000) : Y1 n0 R { K with d := XT K.d n } := by
 obtain ⟨⟨so, rs, hc, hk⟩, hsy, hdead, hdk, hNid, hNsz, hNr⟩ := h
 refine ⟨⟨so, rs, ⟨hc.snap, hc.log, hc.stop, hc.len, hc.szs, hc.szr, hc.lay, hc.same⟩, hk⟩, hsy, hdead, ⟨?_, ?_, hdk.r0, hdk.r1, hdk.fit⟩, hNid, hNsz, hNr⟩
 ·show 0 ≤ max n 0; omega
 ·show max n 0 ≤ 1000000000; omega
def D2 (n0 : Nd) (R : Nat) (K : Kp) (y : Nd) : Prop := (Y1 n0 R K ∧ y = K.N) ∨ Rt n0 R K.d K.N y
theorem Cj {d : Dk} (pick : Int) (h : DkR d) : DkR (Jo (XT d 0) pick) := by
 refine ⟨Int.le_refl _, by show (0 : Int) ≤ _; omega, h.r0, h.r1, ?_⟩
 have := h.fit
 show (((d.log.take _).length + d.snap.length : Nat) : Int) ≤ d.room
 rw [List.length_take]
 omega
theorem DX {n0 : Nd} {R : Nat} {K : Kp} {y : Nd} (pick : Int) (h : D2 n0 R K y) : DkR K.d ∧ 0 ≤ K.d.synced ∧ K.d.synced ≤ K.d.log.length ∧ ∃ so rs tl, ZU n0 R (Jo (XT K.d 0) pick) so rs tl K.N ∨ ZU n0 R (Jo (XT K.d 0) pick) so rs tl y := by
 rcases h with ⟨hl, rfl⟩ | hg
 ·obtain ⟨⟨so, rs, hc, hk⟩, hsy, hdead, hdk, hNid, hNsz, hNr⟩ := hl
  refine ⟨hdk, by omega, by omega, so, rs, [], .inl ⟨hc.snap, ?_, hc.stop, hc.len, hc.szs, hc.szr, hc.lay, hc.same⟩⟩
  have hr := ZI (XT K.d 0) pick (by show 0 ≤ K.d.synced; omega) (by show K.d.synced ≤ _; exact Int.le_of_eq hsy)
  have hlog := hc.log
  show K.d.log.take _ = _
  rw [← hlog]
  refine List.take_of_length_le ?_
  show K.d.log.length ≤ (K.d.synced + Zm (XT K.d 0) pick).toNat
  omega
 ·obtain ⟨so, rs, tl, h⟩ := hg.cont pick
  exact ⟨hg.dk, hg.s0, hg.s1, so, rs, tl, h⟩
end Go.Proofs.YtjbokbikkcfjjaaGreat
namespace Go.Proofs.YtjbokbikkcfjjaaGreat
open Go.Cap
theorem JR {α β : Type} {oa : α → Bool} {ob : β → Bool} {l : List α} {h : α → List β} {P : α → Prop} {Q : β → Prop} (h1 : ∃ a ∈ l, oa a = true → P a) (h2 : ∀ a, P a → ∃ b ∈ h a, ob b = true → Q b) (h3 : ∀ a, oa a = false → ∃ b ∈ h a, ob b = false) :
  ∃ b ∈ l.flatMap h, ob b = true → Q b := by
 obtain ⟨a, ha, hp⟩ := h1
 by_cases ho : oa a = true
 ·obtain ⟨b, hb, hq⟩ := h2 a (hp ho)
  exact ⟨b, List.mem_flatMap.2 ⟨a, ha, hb⟩, hq⟩
 ·obtain ⟨b, hb, hq⟩ := h3 a (by simpa using ho)
  exact ⟨b, List.mem_flatMap.2 ⟨a, ha, hb⟩, fun e => by rw [hq] at e; cases e⟩
theorem X2 {α β : Type} {oa : α → Bool} {ob : β → Bool} {l : List α} {h : α → List β} (h1 : ∃ a ∈ l, oa a = false) (h3 : ∀ a, oa a = false → ∃ b ∈ h a, ob b = false) : ∃ b ∈ l.flatMap h, ob b = false := by
 obtain ⟨a, ha, hp⟩ := h1
 obtain ⟨b, hb, hq⟩ := h3 a hp
 exact ⟨b, List.mem_flatMap.2 ⟨a, ha, hb⟩, hq⟩
section
variable {z : Bool} {fi : Nat}
theorem YJ (fi : Nat) (s : Rs) (i : Nat) (t : Nd) (out : List Ms) : { s with ns := s.ns.set i t, way := s.way ++ out } ∈ WX fi s i t out := by
 unfold WX
 split
 ·exact List.mem_cons_self
 ·exact List.mem_cons_self
theorem Ys (i : Nat) (s : Rs) (h : s.ok = false) : ∃ s' ∈ VJ fi i s, s'.ok = false := by
 unfold VJ
 split
 ·exact ⟨_, YJ _ _ _ _ _, by show (s.ok && _) = false; rw [h]; rfl⟩
 ·exact ⟨s, List.mem_cons_self, h⟩
theorem RI (m : Ms) (s : Rs) (h : s.ok = false) : ∃ s' ∈ MM z fi m s, s'.ok = false := by
 unfold MM
 split
 ·exact ⟨_, YJ _ _ _ _ _, by show (s.ok && _) = false; rw [h]; rfl⟩
 ·exact ⟨_, List.mem_cons_self, by show (s.ok && _) = false; rw [h]; rfl⟩
theorem UV : ∀ (ms : List Ms) (s : Rs), s.ok = false → ∃ s' ∈ LS z fi ms s, s'.ok = false
 | [], s, h => ⟨s, List.mem_cons_self, h⟩
 | m :: ms, s, h => X2 (oa := Rs.ok) (ob := Rs.ok) (RI m s h) (UV ms)
theorem W9 (s : Rs) (h : s.ok = false) : ∃ s' ∈ Jh z fi s, s'.ok = false :=
 X2 (oa := Rs.ok) (ob := Rs.ok) (UV s.way _ h) fun s h => X2 (oa := Rs.ok) (ob := Rs.ok) (Ys 0 s h) fun s h => X2 (oa := Rs.ok) (ob := Rs.ok) (Ys 1 s h) (Ys 2)
theorem DQ : ∀ (k : Nat) (s : Rs), s.ok = false → ∃ s' ∈ JN z fi k s, s'.ok = false
 | 0, s, h => ⟨s, List.mem_cons_self, h⟩
 | k + 1, s, h => X2 (oa := Rs.ok) (ob := Rs.ok) (W9 s h) (DQ k)
theorem VF (i : Nat) (ix t : Int) : ∀ (f : Nat) (s : Rs), s.ok = false → ∃ x ∈ W3 z fi i ix t f s, x.1.ok = false
 | 0, s, h => ⟨_, List.mem_cons_self, h⟩
 | f + 1, s, h => by
  unfold W3
  split
  ·exact ⟨_, List.mem_cons_self, h⟩
  ·exact X2 (oa := Rs.ok) (ob := fun x : Rs × Bool => x.1.ok) (W9 s h) (VF i ix t f)
theorem AR (i : Nat) (cmd : List UInt8) (s : Rs) (h : s.ok = false) : ∃ x ∈ doR z fi i cmd s, x.1.ok = false := by
 unfold doR
 split
 ·split
  ·refine X2 (oa := Rs.ok) (ob := fun x : Rs × Bool => x.1.ok) ⟨_, YJ _ _ _ _ _, h⟩ fun s1 h1 => ?_
   split
   ·exact ⟨_, List.mem_cons_self, h1⟩
   ·exact VF _ _ _ 40 s1 h1
  ·exact ⟨_, List.mem_cons_self, h⟩
 ·exact ⟨_, List.mem_cons_self, h⟩
theorem GQ : ∀ (js : List Nat) (p : Rs × Nat), p.1.ok = false → ∃ x ∈ DG z fi js p, x.1.ok = false
 | [], p, h => ⟨p, List.mem_cons_self, h⟩
 | j :: js, p, h => X2 (oa := fun x : Rs × Bool => x.1.ok) (ob := fun x : Rs × Nat => x.1.ok) (AR j [99] p.1 h) fun x hx => GQ js _ hx
end
theorem Rs.n_set {s : Rs} {i j : Nat} {r : Nd} {w : List Ms} (hj : j < s.ns.length) : Rs.n { s with ns := s.ns.set i r, way := w } j = if i = j then r else s.n j := by
 unfold Rs.n
 simp only [List.getD_eq_getElem?_getD, List.getElem?_set]
 by_cases h : i = j
 ·subst h; simp [hj]
 ·simp [h]
theorem Yz.up {n n' : Nd} {τ l τ' l' c b : Nat} (h : Yz PS n n' [] τ l c b) (ht : τ ≤ τ') (hl : l ≤ l') : Yz PS n n' [] τ' l' c b := by
 obtain ⟨d, h1, h2, _, _⟩ := h
 exact ⟨d, h1.le ht (by omega), h2, by simp, by simp⟩
theorem Yz.none {n n' : Nd} {out : List Ms} {τ l c c' b : Nat} (h : Yz PS n n' out τ l c b) (hc : c ≤ c') : Yz PS n n' [] τ l c' 0 := by
 obtain ⟨d, h1, h2, _, _⟩ := h
 exact ⟨d, h1, by omega, by simp, by simp⟩
structure Sg (fi : Nat) (pre : List En) (T : Int) (g : Gp) (s : Rs) (τ l u : Nat) : Prop where
 f : fi < 3 ∨ fi = 9
 F : Fr pre T
 cf : g.conf = 7
 gb : GB PS g τ l u
 sl : s.ns.length = 3
 rn : ∀ i, i < 3 → RN pre T (g.k i).N (s.n i)
 nn : ∀ i : Nat, 3 ≤ i → i < 5 → (g.k i).N = QV i 7
 rm : Yr (RM pre T) g.way s.way
 aw : ∀ i, i < 5 → g.aw.getD i false = false
 lv : ∀ i : Nat, i < 5 → ¬ i = fi → J5 (QV i 7) (g.k i)
 al : fi < 3 → s.dead = false → Y1 (QV fi 7) 524100 (g.k fi)
 gn : fi < 3 → s.dead = true → ∃ y, Rt (QV fi 7) 524100 (g.k fi).d (g.k fi).N y ∧ RN pre T y s.pd ∧ y.id = fi ∧ Yz PS (g.k fi).N y [] τ l 6 0
 ro : fi < 3 → (g.k fi).d.room = 1048576
section
variable {z : Bool} {fi : Nat} {pre : List En} {T : Int} {g : Gp} {s : Rs} {τ l u : Nat}
theorem Sg.there (h : Sg fi pre T g s τ l u) {i : Nat} (hi : i < 3) : Q9 g (i : Int) = thR fi s i := by
 have h0 : isI (i : Int) := ⟨by omega, by omega⟩
 unfold Q9 thR
 rw [Int.toNat_natCast, h.aw i (by omega), decide_eq_true h0]
 by_cases hf : i = fi
 ·subst hf
  rw [decide_eq_true rfl]
  cases hd : s.dead with
  | false => rw [(h.al hi hd).dead]; rfl
  | true =>
   obtain ⟨y, hg, _⟩ := h.gn hi hd
   rw [hg.dead]; rfl
 ·rw [decide_eq_false hf, (h.lv i (by omega) hf).live.dead]
  simp
theorem Sg.okb (h : Sg fi pre T g s τ l u) (b : Bool) : Sg fi pre T g { s with ok := b } τ l u := ⟨h.f, h.F, h.cf, h.gb, h.sl, h.rn, h.nn, h.rm, h.aw, h.lv, h.al, h.gn, h.ro⟩
theorem Sg.up (h : Sg fi pre T g s τ l u) {τ' l' u' : Nat} (hg : GB PS g τ' l' u') (ht : τ ≤ τ') (hl : l ≤ l') : Sg fi pre T g s τ' l' u' :=
 { h with gb := hg, gn := fun a b => (h.gn a b).elim fun y hy => ⟨y, hy.1, hy.2.1, hy.2.2.1, hy.2.2.2.up ht hl⟩ }
theorem Sg.first (h : Sg fi pre T g s τ l u) {i : Nat} (hi : i < 3) {K' : Kp} {r : Nd} {out outR : List Ms} {τ' l' u' : Nat} (hg : GB PS { g with ks := g.ks.set i K', way := g.way ++ out } τ' l' u') (ht : τ ≤ τ') (hl : l ≤ l')
  (hr : RN pre T K'.N r) (ho : Yr (RM pre T) out outR) (hlv : ¬ i = fi → J5 (QV i 7) K') (hal : i = fi → s.dead = false ∧ Y1 (QV i 7) 524100 K' ∧ K'.d.room = 1048576) :
  Sg fi pre T { g with ks := g.ks.set i K', way := g.way ++ out } { s with ns := s.ns.set i r, way := s.way ++ outR } τ' l' u' := by
 have hks : ∀ j, j < 5 → Gp.k { g with ks := g.ks.set i K', way := g.way ++ out } j = if i = j then K' else g.k j := fun j hj => Gp.k_set (by rw [h.gb.ks]; exact hj)
 refine ⟨h.f, h.F, h.cf, hg, by rw [List.length_set]; exact h.sl, fun j hj => ?_, fun j h3 hj => ?_, h.rm.append ho, h.aw, fun j hj hf => ?_, fun hf hd => ?_, fun hf hd => ?_, fun hf => ?_⟩
 ·rw [hks j (by omega), Rs.n_set (by rw [h.sl]; exact hj)]
  split
  ·exact hr
  ·exact h.rn j hj
 ·rw [hks j hj, if_neg (by omega)]
  exact h.nn j h3 hj
 ·rw [hks j hj]
  split
  ·rename_i e; subst e; exact hlv hf
  ·exact h.lv j hj hf
 ·rw [hks fi (by omega)]
  split
  ·rename_i e; subst e; exact (hal rfl).2.1
  ·exact h.al hf hd
 ·have hne : ¬ i = fi := fun e => by
   have : s.dead = false := (hal e).1
   have hd : s.dead = true := hd
   rw [this] at hd; cases hd
  rw [hks fi (by omega), if_neg hne]
  obtain ⟨y, h1, h2, h3, h4⟩ := h.gn hf hd
  exact ⟨y, h1, h2, h3, h4.up ht hl⟩
 ·rw [hks fi (by omega)]
  split
  ·rename_i e; exact (hal e).2.2
  ·exact h.ro hf
theorem Sg.did (h : Sg fi pre T g s τ l u) {i : Nat} (hi : i < 3) (hth : thR fi s i = true) {t r : Nd} {out outR : List Ms} (hr : RN pre T t r) (ho : Yr (RM pre T) out outR) {τ' e b : Nat} (hτ : τ ≤ τ') (he : τ' ≤ τ + e) (he6 : e ≤ 6) (hid : t.id = (g.k i).N.id)
  (hw : Yz PS (g.k i).N t out τ' l e b) (hb : g.way.length + b ≤ 5 * (u + l) + 5 * e) (hu : u + e ≤ 25000) :
  ∃ l', ∃ s' ∈ WX fi s i r outR, Sg fi pre T (didG g i t out) s' τ' l' (u + e) ∧ l ≤ l' ∧ (didG g i t out).way.length + 5 * l ≤ g.way.length + 5 * l' + b ∧ s'.ok = s.ok ∧
   (((Qw (g.k i) t 0).2 = 0 ∧ s'.dead = s.dead ∧ ((didG g i t out).k i).N = t) ∨ ((Qw (g.k i) t 0).2 = 20 ∧ s'.dead = true ∧ i = fi)) := by
 have hi5 : i < 5 := by omega
 obtain ⟨l', g1, g2, g3⟩ := h.gb.didG hi5 (t := t) (out := out) (hid.trans (h.gb.id i hi5)) hτ he hw hb
 have hpot := h.gb.pot hi5
 have htau := h.gb.tau
 obtain ⟨hsz, hrc⟩ := hw.sz Xx (by omega) (by omega)
 obtain ⟨⟨K', e'⟩, hke⟩ : ∃ v, Qw (g.k i) t 0 = v := ⟨_, rfl⟩
 have hdid : didG g i t out = { g with ks := g.ks.set i K', way := g.way ++ (if e' = 0 then out else []) } := by unfold didG; rw [hke]
 have hki : ∀ w, Gp.k { g with ks := g.ks.set i K', way := w } i = K' := fun w => by rw [Gp.k_set (by rw [h.gb.ks]; exact hi5), if_pos rfl]
 rw [hdid] at g1 g3 ⊢
 rw [hke]
 have fin : e' = 0 → K'.N = t → (¬ i = fi → J5 (QV i 7) K') → (i = fi → s.dead = false ∧ Y1 (QV i 7) 524100 K' ∧ K'.d.room = 1048576) → ∃ s' ∈ WX fi s i r outR, Sg fi pre T { g with ks := g.ks.set i K', way := g.way ++ (if e' = 0 then out else []) } s' τ' l' (u + e) ∧ s'.ok = s.ok ∧ (((K', e').2 = 0 ∧ s'.dead = s.dead ∧ (Gp.k { g with ks := g.ks.set i K', way := g.way ++ (if e' = 0 then out else []) } i).N = t) ∨ ((K', e').2 = 20 ∧ s'.dead = true ∧ i = fi)) := by
  intro a0 a1 a2 a3
  subst a0
  rw [if_pos rfl] at g1 ⊢
  exact ⟨_, YJ _ _ _ _ _, h.first hi g1 hτ g2 (by rw [a1]; exact hr) ho a2 a3, rfl, .inl ⟨rfl, rfl, by rw [hki, a1]⟩⟩
 have wrap : (∃ s' ∈ WX fi s i r outR, Sg fi pre T { g with ks := g.ks.set i K', way := g.way ++ (if e' = 0 then out else []) } s' τ' l' (u + e) ∧ s'.ok = s.ok ∧ (((K', e').2 = 0 ∧ s'.dead = s.dead ∧ (Gp.k { g with ks := g.ks.set i K', way := g.way ++ (if e' = 0 then out else []) } i).N = t) ∨ ((K', e').2 = 20 ∧ s'.dead = true ∧ i = fi))) →
   ∃ l', ∃ s' ∈ WX fi s i r outR, Sg fi pre T { g with ks := g.ks.set i K', way := g.way ++ (if e' = 0 then out else []) } s' τ' l' (u + e) ∧ l ≤ l' ∧ (Gp.way { g with ks := g.ks.set i K', way := g.way ++ (if e' = 0 then out else []) }).length + 5 * l ≤ g.way.length + 5 * l' + b ∧ s'.ok = s.ok ∧ (((K', e').2 = 0 ∧ s'.dead = s.dead ∧ (Gp.k { g with ks := g.ks.set i K', way := g.way ++ (if e' = 0 then out else []) } i).N = t) ∨ ((K', e').2 = 20 ∧ s'.dead = true ∧ i = fi)) := fun ⟨s', a1, a2, a3, a4⟩ => ⟨l', s', a1, a2, g2, g3, a3, a4⟩
 apply wrap
 by_cases hf : i = fi
 ·subst hf
  have hd : s.dead = false := by
   unfold thR at hth
   simpa using hth
  have hlv := h.al hi hd
  have hrm := h.ro hi
  have hk := Wb hlv (t := t) (hid.trans hlv.id) hsz hrc (by omega)
  by_cases hsame : Qp (s.n i) = Qp r
  ·have hs2 := (h.rn i hi).same hr hsame
   have hk2 : Qw (g.k i) t 0 = ({ g.k i with N := t }, 0) := by unfold Qw; rw [if_neg (by simp), if_pos hs2]
   rw [hk2] at hk hke
   cases hke
   cases hk with
   | ok _ h' hN hl hr' => exact fin rfl rfl (fun e => absurd rfl e) fun _ => ⟨hd, h', hrm⟩
  ·rw [hke] at hk
   cases hk with
   | ok _ h' hN hl hr' => exact fin rfl hN (fun e => absurd rfl e) fun _ => ⟨hd, h', hr'.trans hrm⟩
   | full _ h' hN hl hr' hfu => exact absurd hfu (by omega)
   | dead _ hN hl h' hr' =>
    rw [if_neg (by omega), List.append_nil] at g1 ⊢
    refine ⟨{ s with dead := true, pd := r }, ?_, ?_, rfl, .inr ⟨rfl, rfl, rfl⟩⟩
    ·unfold WX
     rw [if_pos ⟨rfl, hsame⟩]
     exact List.mem_cons_of_mem _ List.mem_cons_self
    ·have hks : ∀ j, j < 5 → Gp.k { g with ks := g.ks.set i K', way := g.way } j = if i = j then K' else g.k j := fun j hj => Gp.k_set (by rw [h.gb.ks]; exact hj)
     refine ⟨h.f, h.F, h.cf, g1, h.sl, fun j hj => ?_, fun j h3 hj => ?_, h.rm, h.aw, fun j hj hf => ?_, fun _ hd => (by cases hd), fun _ _ => ?_, fun _ => ?_⟩
     ·rw [hks j (by omega)]
      split
      ·rename_i e; subst e; rw [hN]; exact h.rn i hi
      ·exact h.rn j hj
     ·rw [hks j hj, if_neg (by omega)]
      exact h.nn j h3 hj
     ·rw [hks j hj, if_neg (fun e => hf e.symm)]
      exact h.lv j hj hf
     ·rw [hki]
      refine ⟨t, by rw [hN]; exact h', hr, hid.trans (h.gb.id i hi5), ?_⟩
      rw [hN]
      exact (hw.none he6).up (Nat.le_refl _) g2
     ·rw [hki, hr']; exact hrm
 ·obtain ⟨a1, a2, a3⟩ := (h.lv i hi5 hf).keep (t := t) (hid.trans ((h.gb.id i hi5).trans rfl)) hsz hrc
  rw [hke] at a1 a2 a3
  exact fin a1 a3 (fun _ => a2) fun e => absurd e hf
end
end Go.Proofs.YtjbokbikkcfjjaaGreat
