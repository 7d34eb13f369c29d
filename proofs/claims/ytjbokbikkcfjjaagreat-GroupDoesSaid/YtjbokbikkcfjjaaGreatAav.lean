/-
  group: wait, asked, Do, Change.
-/
import Derived.Test.YtjbokbikkcfjjaaGreatAau
set_option maxRecDepth 16000
set_option maxHeartbeats 8000000
set_option linter.all false
namespace Go.Proofs.YtjbokbikkcfjjaaGreat
open Go.Cap
attribute [local irreducible] POp Qe AD EOp Sim FnH T.gp
theorem GB.waits {P : Nat → En → Prop} {g : Gp} {τ l u : Nat} (hP : PO P) (h : GB P g τ l u) (hu : u + 5 ≤ 25000) : ∃ τ' l', GB P (YJ g) τ' l' (u + 5) := by
 have := h.tau
 obtain ⟨l', h1, _⟩ := h.round hP (by omega)
 exact ⟨_, l', h1⟩
theorem Ui {bg : Nat} {g : Gp} {a : Nat → Ad} {bm : Nat} {es : List (Value × T × Nat)} {clk : Nat} {W : Qc} {wv : Value} {i : Nat} (hi : i < 5) (hl : (g.k i).N.log.length ≤ 1000000000) :
  FnH Tryz.prog 23 [pW (a i).bk] (gH bg g.conf a bm es clk W wv g.k) (fun r H' => r = nd (g.k i).N ∧ H' = gH bg g.conf a bm es clk W wv g.k) := by
 have hk := Rm (a i).bk (a i).bj (a i).bd (g.k i) hl
 have hperm := US (x := (bg, ⟨tG, gC g.conf a bm wv, 13⟩)) (y := (bm, ⟨.map es clk, [], 0⟩)) (W := W) (WK a g.k hi)
 exact FnH.framed hk hperm (fun r H1 ⟨h1, h2⟩ => ⟨_, by rw [h2]; exact hperm.symm, h1, rfl⟩)
theorem GI (bg : Nat) (H : Qc) (i index e : Int) (he : ¬ e = 0) : FnH Tryz.prog 40 [pW bg, ei i, ei index, ei e] H (fun r H' => r = ei e ∧ H' = H) := by
 refine fe Tryz.func40 fun S0 w0 => ?_
 show Sim _ _ [(0, pW bg), (1, ei i), (2, ei index), (3, ei e)] H _
 refine zC ?_
 refine cr <| s_ Qb <| zC ?_
 refine cr <| s_ Qa <| s_ XR <| zC ?_
 refine ci ?_ ?_
 ·intro _
  refine zC ?_
  refine cr <| s_ Qa <| s_ Qb <| zC ?_
  refine zR ?_
  exact rh kR ⟨rfl, rfl⟩ (Le.refl _)
 ·intro h; exact absurd he h
theorem RZ {n : Nd} {k : Nat} (hk : k < n.log.length) : n.log[k].term = (n.log.getD k default).term := by
 rw [List.getD_eq_getElem?_getD, List.getElem?_eq_getElem hk]; rfl
theorem Rt {P : Nat → En → Prop} {τ l u : Nat} (hP : PK P) (bg : Nat) (g : Gp) (H : Qc) (i index : Int) (hi : isI i) (h : GB P g τ l u) (hu : u + 200 ≤ 25000) (hx0 : 0 ≤ index) (hx1 : index ≤ 1000000) (hG : IsG bg g H) :
  FnH Tryz.prog 40 [pW bg, ei i, ei index, ei 0] H (fun r H' => r = ei (XI i.toNat index (g.k i.toNat).N.term 40 g).2 ∧ IsG bg (XI i.toNat index (g.k i.toNat).N.term 40 g).1 H') := by
 have hp5 : 0 ≤ i ∧ i < 5 := hi
 obtain ⟨h5, _⟩ := Xr hi
 have hlenB : ∀ {g' : Gp} {τ' l' u' : Nat}, GB P g' τ' l' u' → u' ≤ 25000 → (g'.k i.toNat).N.log.length ≤ 5000 := fun hb hu' => by have := (hb.nb _ h5).len; have := hb.five; omega
 obtain ⟨term, hterm⟩ : ∃ term, term = (g.k i.toNat).N.term := ⟨_, rfl⟩
 rw [← hterm]
 obtain ⟨a, bm, es, clk, W, wv, hA, hO, rfl⟩ := hG
 have hno := Ui (bg := bg) (g := g) (a := a) (bm := bm) (es := es) (clk := clk) (W := W) (wv := wv) h5 (by have := hlenB h (by omega); omega)
 have hck := DA (conf := g.conf) (a := a) (bm := bm) (wv := wv) hi
 refine fe Tryz.func40 fun S0 w0 => ?_
 show Sim _ _ [(0, pW bg), (1, ei i), (2, ei index), (3, ei 0)] ((bg, ⟨tG, gC g.conf a bm wv, 13⟩) :: (bm, ⟨.map es clk, [], 0⟩) :: (W ++ gM a g.k)) _
 refine zC ?_
 refine cr <| s_ Qb <| zC ?_
 refine cr <| s_ Qa <| s_ XR <| zC ?_
 refine ci (p := ¬ (0 : Int) = 0) (fun h => absurd rfl h) (fun _ => ?_)
 refine zC ?_
 refine cr <| s_ Qa <| s_ Qa <| s_ Qf <| s_ Qd <| s_ YQ <| s_ Qd <| s_ (Ql (hd := by first | rfl | assumption)) ?_
 refine QJ hno (fun r H' ⟨hr1, hr2⟩ => ?_)
 subst hr1 hr2
 refine s_ BW <| s_ Qb <| zC ?_
 refine cr <| s_ Qb <| zC ?_
 apply Qo (σ := Nat × Gp × Qc) (ok := fun s => s.1 ≤ 40 ∧ (∃ τ' l', GB P s.2.1 τ' l' (u + 5 * s.1)) ∧ IsG bg s.2.1 s.2.2 ∧ XI i.toNat index term 40 g = XI i.toNat index term (40 - s.1) s.2.1) (env := fun s => [(10, ei s.1), (9, ei term), (0, pW bg), (1, ei i), (2, ei index)]) (heap := fun s => s.2.2) (μ := fun s => 40 - s.1) (s0 := (0, g, gH bg g.conf a bm es clk W wv g.k))
 ·exact ⟨Nat.zero_le _, ⟨τ, l, h⟩, ⟨a, bm, es, clk, W, wv, hA, hO, rfl⟩, rfl⟩
 ·refine ⟨?_, ?_, eL⟩
  ·apply Qi; (exact zG)
   exact Le.refl _
  ·apply Qi; (exact zG)
   exact Le.of_eq (by rw [hterm])
 ·exact kR
 clear hA hO hno hck
 rintro ⟨k, g1, H⟩ ⟨hk, ⟨τ1, l1, hb⟩, hG, hW⟩
 simp only at hk hb hG hW
 have hlen := hlenB hb (by omega)
 obtain ⟨a, bm, es, clk, W, wv, hA, hO, rfl⟩ := hG
 have hno := Ui (bg := bg) (g := g1) (a := a) (bm := bm) (es := es) (clk := clk) (W := W) (wv := wv) h5 (by omega)
 have hck := DA (conf := g1.conf) (a := a) (bm := bm) (wv := wv) hi
 obtain ⟨n, hn⟩ : ∃ n, n = (g1.k i.toNat).N := ⟨_, rfl⟩
 have hnb := hb.nb _ h5
 rw [← hn] at hno hlen hnb
 have hbase := hnb.base
 show Sim _ _ [(10, ei k), (9, ei term), (0, pW bg), (1, ei i), (2, ei index)] ((bg, ⟨tG, gC g1.conf a bm wv, 13⟩) :: (bm, ⟨.map es clk, [], 0⟩) :: (W ++ gM a g1.k)) _
 refine zC ?_
 refine cr <| s_ Qa <| s_ Qa <| s_ Qf <| s_ Qd <| s_ YQ <| s_ Qd <| s_ (Ql (hd := by first | rfl | assumption)) ?_
 refine QJ hno (fun r H' ⟨hr1, hr2⟩ => ?_)
 subst hr1 hr2
 show Qe _ _ _ _ _ ((bg, ⟨tG, gC g1.conf a bm wv, 13⟩) :: (bm, ⟨.map es clk, [], 0⟩) :: (W ++ gM a g1.k)) _
 refine XX fun b11 _ => ?_
 refine Qw ?_
 refine zC ?_
 refine cr <| s_ Qa <| s_ Qd <| s_ Ql <| s_ Y9 <| s_ Y9 <| s_ Qb <| zC ?_
 refine cr <| s_ Qd <| s_ Ql <| s_ Qa <| s_ U0 <| zC ?_
 refine ci ?_ ?_
 ·intro hc
  have hc' : index ≤ (g1.k i.toNat).N.commit := by rw [← hn]; exact hc
  have hw1 : XI i.toNat index term (40 - k) g1 = (g1, UL n index term) := by
   rw [hn]
   cases 40 - k with
   | zero => unfold XI; rw [if_pos hc']
   | succ f => unfold XI; rw [if_pos hc']
  rw [hW, hw1]
  obtain ⟨v, hv⟩ : ∃ v, v = index - n.base - 1 := ⟨_, rfl⟩
  by_cases hr : 0 ≤ v ∧ v < n.log.length
  ·have hix : v.toNat < n.log.length := by omega
   have hr' : 0 ≤ v ∧ v < ((n.log.map een).length : Nat) := by rw [List.length_map]; exact hr
   rw [← hv]
   refine zC ?_
   refine cr <| s_ Qa <| s_ U0 <| s_ Qa <| gT (fun hg => Qa) ?_
   refine gT (fun hg => Qd) ?_
   refine gT (fun hg => Ql (hx := u_ hg)) ?_
   (first | refine gT (fun hg => QP (hx := u_ hg)) ?_ | refine gT (fun hg => QO (hx := u_ hg)) ?_)
   refine gT (fun hg => QR (hx := u_ hg) (hy := u_ hg)) ?_
   refine s_ XW <| s_ Qa <| gT (fun hg => Qd) ?_
   refine gT (fun hg => Ql (hx := u_ hg)) ?_
   refine gT (fun hg => Qa) ?_
   (first | refine gT (fun hg => Xg hix (hx := u_ hg) (hy := u_ hg)) ?_ | refine gT (fun hg => Xg hix2 (hx := u_ hg) (hy := u_ hg)) ?_ | refine gT (fun hg => YK (hx := u_ hg) (hy := u_ hg)) ?_ | refine gT (fun hg => ZK (hx := u_ hg) (hy := u_ hg)) ?_)
   (first | refine gT (fun hg => Qr (hx := u_ hg)) ?_ | refine gT (fun hg => Qd (hx := u_ hg)) ?_)
   (first | refine gT (fun hg => Qn (hx := u_ hg)) ?_ | refine gT (fun hg => Ql (hx := u_ hg)) ?_)
   refine gT (fun hg => Qa) ?_
   refine gT (fun hg => XB (hx := u_ hg) (hy := u_ hg)) ?_
   refine s_ XW <| zC ?_
   refine ci ?_ ?_
   ·intro ht
    refine zC ?_
    refine cr <| s_ Qb <| zC ?_
    refine zR ?_
    refine rh (.skip _ _ _ kR) ⟨rfl, a, bm, es, clk, W, wv, hA, hO, rfl⟩ ?_
    refine Le.of_eq (congrArg ei ?_)
    unfold UL
    rw [← hv, if_pos ⟨hr.1, hr.2, by rw [← RZ hix]; exact ht.2⟩]
   ·intro ht
    refine zC ?_
    refine cr <| s_ Qb <| zC ?_
    refine zR ?_
    refine rh (.skip _ _ _ kR) ⟨rfl, a, bm, es, clk, W, wv, hA, hO, rfl⟩ ?_
    refine Le.of_eq (congrArg ei ?_)
    unfold UL
    rw [← hv, if_neg (fun h1 => ht ⟨hr', by rw [RZ hix]; exact h1.2.2⟩)]
  ·have hno' : ¬ (0 ≤ v ∧ v < ((n.log.map een).length : Nat)) := by rw [List.length_map]; exact hr
   rw [← hv]
   refine zC ?_
   refine cr <| s_ Qa <| s_ U0 <| s_ Qa <| gT (fun hg => Qa) ?_
   refine gT (fun hg => Qd) ?_
   refine gT (fun hg => Ql (hx := u_ hg)) ?_
   (first | refine gT (fun hg => QP (hx := u_ hg)) ?_ | refine gT (fun hg => QO (hx := u_ hg)) ?_)
   refine gT (fun hg => QR (hx := u_ hg) (hy := u_ hg)) ?_
   refine s_ XW <| s_ Qa ?_
   (repeat (refine gT (p := 0 ≤ v ∧ v < ((n.log.map een).length : Nat)) (d := .v (.bool (decide False))) (fun hg => absurd hg hno') ?_))
   refine s_ XW <| zC ?_
   refine ci (p := (0 ≤ v ∧ v < ((n.log.map een).length : Nat)) ∧ False) (fun h => h.2.elim) (fun _ => ?_)
   refine zC ?_
   refine cr <| s_ Qb <| zC ?_
   refine zR ?_
   refine rh (.skip _ _ _ kR) ⟨rfl, a, bm, es, clk, W, wv, hA, hO, rfl⟩ ?_
   refine Le.of_eq (congrArg ei ?_)
   unfold UL
   rw [← hv, if_neg (fun h1 => hr ⟨h1.1, h1.2.1⟩)]
 intro hc
 have hc' : ¬ index ≤ (g1.k i.toNat).N.commit := by rw [← hn]; exact hc
 refine zC ?_
 refine cr <| s_ Qa <| s_ XB <| zC ?_
 refine ci ?_ ?_
 ·intro h40
  have hk40 : k = 40 := by omega
  subst hk40
  have hw1 : XI i.toNat index term (40 - 40) g1 = (g1, 22) := by
   show XI i.toNat index term 0 g1 = _
   unfold XI; rw [if_neg hc']
  rw [hW, hw1]
  refine zC ?_
  refine cr <| s_ Qb <| zC ?_
  refine zR ?_
  exact rh (.skip _ _ _ kR) ⟨rfl, a, bm, es, clk, W, wv, hA, hO, rfl⟩ (Le.refl _)
 ·intro h40
  have hk40 : k < 40 := by omega
  have hcm := Uj hP bg g1 _ 1 1 (by omega) hb (by omega) ⟨a, bm, es, clk, W, wv, hA, hO, rfl⟩
  obtain ⟨τ2, l2, hb2⟩ := hb.waits hP.toPO (by omega)
  have hw1 : XI i.toNat index term (40 - k) g1 = XI i.toNat index term (40 - (k + 1)) (YJ g1) := by
   obtain ⟨f, hf⟩ : ∃ f, 40 - k = f + 1 := ⟨40 - k - 1, by omega⟩
   rw [hf, show 40 - (k + 1) = f by omega]
   conv => lhs; unfold XI
   rw [if_neg hc']
  refine zC ?_
  refine cr <| s_ Qa ?_
  refine QU (Hr := [_]) hcm (List.perm_append_comm (l₁ := [_])) (fun r H' ⟨hr1, hr2⟩ => ?_)
  subst hr1
  refine QG (List.perm_append_comm (l₂ := [_])) ?_
  refine zC ?_
  refine cr <| s_ Qa <| s_ Q0 <| s_ Qb <| zC ?_
  refine ⟨(k + 1, YJ g1, H'), ⟨by simp only; omega, ⟨τ2, l2, ?_⟩, hr2, ?_⟩, (by simp only []; omega), ⟨?_, eL⟩, .skip _ _ _ kR⟩
  ·simp only
   have e : u + 5 * k + 5 = u + 5 * (k + 1) := by omega
   rw [← e]; exact hb2
  ·simp only
   rw [hW, hw1]
  ·apply Qi; (exact zG)
   exact Le.refl _
theorem WJ (bg : Nat) (g : Gp) (H : Qc) (i : Int) (hG : IsG bg g H) : FnH Tryz.prog 38 [pW bg, ei i] H (fun r H' => r = ei (XO g i) ∧ H' = H) := by
 have hI := JS bg g H i hG
 have hT := UE bg g H i hG
 obtain ⟨q, iq, hq⟩ := R6 (b := Q5 g i)
 rw [hq] at hT
 refine fe Tryz.func38 fun S0 w0 => ?_
 show Sim _ _ [(0, pW bg), (1, ei i)] H _
 refine zC ?_
 refine cr <| s_ Qb <| zC ?_
 refine cr <| s_ Qa <| s_ Qa ?_
 refine QJ hI (fun r H' ⟨hr1, hr2⟩ => ?_)
 subst hr1 hr2
 refine s_ YE <| s_ Qb <| zC ?_
 refine ci (p := ¬ isI i) ?_ ?_
 ·intro hn
  refine zC ?_
  refine cr <| s_ Qb <| zC ?_
  refine zR ?_
  refine rh kR ⟨rfl, rfl⟩ ?_
  exact Le.of_eq (congrArg ei (by unfold XO; rw [if_pos hn]))
 intro hn
 refine zC ?_
 refine cr <| s_ Qa <| s_ Qa ?_
 refine QJ hT (fun r H' ⟨hr1, hr2⟩ => ?_)
 subst hr1 hr2
 refine s_ YE <| s_ Qb <| zC ?_
 refine ci (p := ¬ q) ?_ ?_
 ·intro hnq
  refine zC ?_
  refine cr <| s_ Qb <| zC ?_
  refine zR ?_
  refine rh kR ⟨rfl, rfl⟩ ?_
  exact Le.of_eq (congrArg ei (by unfold XO; rw [if_neg hn, if_pos (by rw [hq]; simpa using hnq)]))
 ·intro hnq
  refine zC ?_
  refine cr <| s_ Qb <| zC ?_
  refine zR ?_
  refine rh kR ⟨rfl, rfl⟩ ?_
  exact Le.of_eq (congrArg ei (by unfold XO; rw [if_neg hn, if_neg (by rw [hq]; simpa using hnq)]))
def UX (P : Nat → En → Prop) (N t : Nd) (e : Int) : Prop := (¬ e = 0 ∧ t = N) ∨ (e = 0 ∧ N.role = 2 ∧ ∃ en, t = Ga N en ∧ P N.log.length ⟨N.term, en.conf, en.cmd⟩)
theorem Ea {P : Nat → En → Prop} {N : Nd} {cmd : List UInt8} (h : P N.log.length ⟨N.term, 0, cmd⟩) : UX P N (Xa N cmd).1 (Xa N cmd).2.2 := by
 unfold Xa
 split
 ·exact .inl ⟨by simp only; omega, rfl⟩
 ·rename_i hr
  split
  ·exact .inl ⟨by simp only; omega, rfl⟩
  ·exact .inr ⟨rfl, Classical.not_not.1 hr, _, rfl, h⟩
section
variable {P : Nat → En → Prop} {g : Gp} {τ l u : Nat}
theorem UX.nb {N t : Nd} {e : Int} (h : NB P N τ l) (hb : UX P N t e) : NB P t τ (l + 1) ∧ Go.Proofs.YtjbokbikkcfjjaaGreat.pot t ≤ Go.Proofs.YtjbokbikkcfjjaaGreat.pot N := by
 rcases hb with ⟨_, rfl⟩ | ⟨_, hr, en, rfl, hp⟩
 ·exact ⟨h.le (Nat.le_refl _) (by omega), Nat.le_refl _⟩
 ·exact h.put hr hp
theorem UX.id {N t : Nd} {e : Int} (hb : UX P N t e) : t.id = N.id := by
 rcases hb with ⟨_, rfl⟩ | ⟨_, hr, en, rfl, hp⟩
 ·rfl
 ·exact JX (Wa N en)
theorem Lg (g : Gp) (i : Nat) (t : Nd) (e : Int) : Jp g i t e = { g with ks := g.ks.set i (QA (g.k i) t e).1, way := g.way ++ [] } := by unfold Jp; rw [List.append_nil]
theorem GB.put (h : GB P g τ l u) {i : Nat} (hi : i < 5) {t : Nd} {e : Int} (hb : UX P (g.k i).N t e) : ∃ l', GB P (Jp g i t e) τ l' (u + 5) ∧ l ≤ l' := by
 obtain ⟨h1, h2⟩ := Et (h.ki i hi) t e
 have hn := h.nb i hi
 obtain ⟨n1, n2⟩ := hb.nb hn
 have hg : (QA (g.k i) t e).1.N = t ∨ (QA (g.k i) t e).1.N = (g.k i).N := by
  split at h2
  ·exact .inl h2
  ·exact .inr h2
 have hil : i < g.ks.length := by rw [h.ks]; exact hi
 have hk : g.ks[i] = g.k i := by unfold Gp.k; rw [List.getD_eq_getElem?_getD, List.getElem?_eq_getElem hil, Option.getD_some]
 rw [Lg]
 refine ⟨l + 1, ⟨by simp [h.ks], h.aw, fun j hj => ?_, fun j hj => ?_, fun j hj => ?_, fun m hm => ?_, ?_, ?_, by have := h.tau; omega⟩, by omega⟩
 ·rw [Gp.k_set (by rw [h.ks]; exact hj)]; split
  ·exact h1
  ·exact h.ki j hj
 ·rw [Gp.k_set (by rw [h.ks]; exact hj)]; split
  ·rename_i e0; subst e0
   rcases hg with e1 | e1
   ·rw [e1, hb.id]; exact h.id i hi
   ·rw [e1]; exact h.id i hi
  ·exact h.id j hj
 ·rw [Gp.k_set (by rw [h.ks]; exact hj)]; split
  ·rcases hg with e1 | e1
   ·rw [e1]; exact n1
   ·rw [e1]; exact hn.le (Nat.le_refl _) (by omega)
  ·exact (h.nb j hj).le (Nat.le_refl _) (by omega)
 ·rw [List.append_nil] at hm
  exact (h.way m hm).le (Nat.le_refl _) (by omega)
 ·have := h.many; simp only [List.append_nil]; omega
 ·have := W8 (fun K => Go.Proofs.YtjbokbikkcfjjaaGreat.pot K.N) g.ks i (QA (g.k i) t e).1 hil
  rw [hk] at this
  have hf := h.fuel
  have hpn : Go.Proofs.YtjbokbikkcfjjaaGreat.pot (QA (g.k i) t e).1.N ≤ Go.Proofs.YtjbokbikkcfjjaaGreat.pot (g.k i).N := by
   rcases hg with e1 | e1
   ·rw [e1]; exact n2
   ·rw [e1]; exact Nat.le_refl _
  simp only at this ⊢
  omega
end
theorem Cb {bg : Nat} {g : Gp} {a : Nat → Ad} {bm : Nat} {es : List (Value × T × Nat)} {clk : Nat} {W : Qc} {wv : Value} {i : Nat} {t : Nd} {e : Int} (hks : g.ks.length = 5) (hA : M4 g.aw es) (hO : OM g.way wv W) : IsG bg (Jp g i t e) (gH bg g.conf a bm es clk W wv (upA g.k i (QA (g.k i) t e).1)) := by
 refine ⟨a, bm, es, clk, W, wv, hA, hO, ?_⟩
 show _ = gH bg g.conf a bm es clk W wv (Jp g i t e).k
 unfold gH
 rw [RI a (upA g.k i (QA (g.k i) t e).1) (Jp g i t e).k (fun j hj => ?_)]
 have := Gp.k_set (g := g) (i := i) (j := j) (K := (QA (g.k i) t e).1) (w := g.way) (by rw [hks]; exact hj)
 show Gp.k { g with ks := g.ks.set i (QA (g.k i) t e).1 } j = _
 rw [this]
 unfold upA
 by_cases hij : i = j
 ·subst hij; simp
 ·rw [if_neg hij, if_neg (fun e => hij e.symm)]
theorem Bp {P : Nat → En → Prop} {τ l u : Nat} (hP : PK P) (bg : Nat) (g : Gp) (H : Qc) (i : Int) (cmd : List UInt8) (h : GB P g τ l u) (hu : u + 205 ≤ 25000) (hC : P (g.k i.toNat).N.log.length ⟨(g.k i.toNat).N.term, 0, cmd⟩) (hG : IsG bg g H) : FnH Tryz.prog 17 [pW bg, ei i, es cmd] H (fun r H' => r = ei (doG g i cmd).2 ∧ IsG bg (doG g i cmd).1 H') := by
 have hAsk := WJ bg g H i hG
 by_cases hask : ¬ XO g i = 0
 ·refine fe Tryz.func17 fun S0 w0 => ?_
  show Sim _ _ [(0, pW bg), (1, ei i), (2, es cmd)] H _
  refine zC ?_
  refine cr <| s_ Qb <| zC ?_
  refine cr <| s_ Qa <| s_ Qa ?_
  refine QJ hAsk (fun r H' ⟨hr1, hr2⟩ => ?_)
  subst hr1 hr2
  refine s_ Qb <| zC ?_
  refine cr <| s_ Qa <| s_ XR <| zC ?_
  refine ci (p := ¬ XO g i = 0) (fun _ => ?_) (fun h => absurd hask h)
  refine zC ?_
  refine cr <| s_ Qa <| s_ Qb <| zC ?_
  refine zR ?_
  refine rh kR ⟨rfl, ?_⟩ ?_
  ·unfold doG; rw [if_pos hask]; exact hG
  ·exact Le.of_eq (congrArg ei (by unfold doG; rw [if_pos hask]))
 have hth : Q5 g i = true := by
  unfold XO at hask
  split at hask
  ·exact absurd (by omega) hask
  ·split at hask
   ·exact absurd (by omega) hask
   ·rename_i h1; exact Classical.not_not.1 h1
 have hi := Yl hth
 obtain ⟨h5, hin⟩ := Xr hi
 have hb := Ea (P := P) (N := (g.k i.toNat).N) (cmd := cmd) hC
 have hspec : doG g i cmd = Wl g i (Xa (g.k i.toNat).N cmd).1 (Xa (g.k i.toNat).N cmd).2.1 (Xa (g.k i.toNat).N cmd).2.2 := by unfold doG; rw [if_neg hask]
 rw [hspec]
 have hnb := h.nb _ h5
 have hfive := h.five
 have hlen := hnb.len
 have hcnf := hnb.cnf hP.toPO
 obtain ⟨n1, n2⟩ := hb.nb hnb
 have hpot := h.pot h5
 have hidx : 0 ≤ (Xa (g.k i.toNat).N cmd).2.1 ∧ (Xa (g.k i.toNat).N cmd).2.1 ≤ 100000 := by
  have hbs := hnb.base
  unfold Xa
  repeat' split
  all_goals simp only; omega
 have hsz := n1.sz hP (by have := h.tau; omega) (by omega)
 have hrc := n1.rec_ hP (by omega)
 obtain ⟨l', hgb, _⟩ := h.put h5 hb
 have hok := h.ok hP (by omega) h5
 have hcall := fun bk bj bd => Rk bk bj bd (g.k i.toNat) cmd (IE cmd (hnb.bd hP.toPO (by omega)) (by omega)) hok hsz (by omega)
 obtain ⟨⟨K', e'⟩, hke⟩ : ∃ x, QA (g.k i.toNat) (Xa (g.k i.toNat).N cmd).1 (Xa (g.k i.toNat).N cmd).2.2 = x := ⟨_, rfl⟩
 unfold Wl
 unfold BO at hcall
 have hput := fun bm em clk W wv a hA hO => Cb (bg := bg) (g := g) (a := a) (bm := bm) (es := em) (clk := clk) (W := W) (wv := wv) (i := i.toNat) (t := (Xa (g.k i.toNat).N cmd).1) (e := (Xa (g.k i.toNat).N cmd).2.2) h.ks hA hO
 obtain ⟨g1, hg1⟩ : ∃ g1, g1 = Jp g i.toNat (Xa (g.k i.toNat).N cmd).1 (Xa (g.k i.toNat).N cmd).2.2 := ⟨_, rfl⟩
 rw [← hg1] at hgb hput ⊢
 rw [hke] at hcall hput ⊢
 simp only at hcall hput ⊢
 generalize (Xa (g.k i.toNat).N cmd).2.1 = index at hidx hcall ⊢
 obtain ⟨a, bm, em, clk, W, wv, hA, hO, rfl⟩ := hG
 have hput := hput bm em clk W wv a hA hO
 have hcall := hcall (a i.toNat).bk (a i.toNat).bj (a i.toNat).bd
 have hck := DA (conf := g.conf) (a := a) (bm := bm) (wv := wv) hi
 have hp5 : 0 ≤ i ∧ i < 5 := hi
 have hperm := US (x := (bg, ⟨tG, gC g.conf a bm wv, 13⟩)) (y := (bm, ⟨.map em clk, [], 0⟩)) (W := W) (WK a g.k h5)
 have hperm2 : ((bg, ⟨tG, gC g.conf a bm wv, 13⟩) :: (bm, ⟨.map em clk, [], 0⟩) :: (W ++ gM a (upA g.k i.toNat K'))).Perm (mH (a i.toNat) K' ++ ((bg, ⟨tG, gC g.conf a bm wv, 13⟩) :: (bm, ⟨.map em clk, [], 0⟩) :: (W ++ gO a g.k i.toNat))) := by
  refine US ?_
  have := (RH a a g.k (upA g.k i.toNat K') h5 (fun j _ hj => ⟨rfl, by unfold upA; rw [if_neg hj]⟩)).symm
  simpa [upA] using this
 have hask0 : XO g i = 0 := Classical.not_not.1 hask
 refine fe Tryz.func17 fun S0 w0 => ?_
 show Sim _ _ [(0, pW bg), (1, ei i), (2, es cmd)] ((bg, ⟨tG, gC g.conf a bm wv, 13⟩) :: (bm, ⟨.map em clk, [], 0⟩) :: (W ++ gM a g.k)) _
 refine zC ?_
 refine cr <| s_ Qb <| zC ?_
 refine cr <| s_ Qa <| s_ Qa ?_
 refine QJ hAsk (fun r H' ⟨hr1, hr2⟩ => ?_)
 subst hr1 hr2
 refine s_ Qb <| zC ?_
 refine cr <| s_ Qa <| s_ XR <| zC ?_
 refine ci (p := ¬ XO g i = 0) (fun h => absurd hask0 h) (fun _ => ?_)
 refine zC ?_
 refine cr <| s_ Qa <| s_ Qa <| s_ Qf <| s_ Qd <| s_ YQ <| s_ Qd <| s_ (Ql (hd := by first | rfl | assumption)) <| s_ Qa ?_
 refine QU hcall hperm (fun r H' ⟨hr1, hr2⟩ => ?_)
 subst hr1 hr2
 refine QG hperm2.symm ?_
 refine s_ Qa <| s_ QC <| s_ QC <| s_ Qb <| s_ Qb <| zC ?_
 by_cases he' : e' = 0
 ·have hw := Rt hP bg g1 _ i index hi hgb (by omega) hidx.1 (by omega) hput
  simp only [if_pos he']
  rw [if_neg (show ¬ ¬ e' = 0 from fun h => h he')]
  rw [he']
  refine zC ?_
  refine cr <| s_ Qa <| s_ Qa <| s_ Qa <| s_ Qa ?_
  refine QJ hw (fun r H' ⟨hr1, hr2⟩ => ?_)
  subst hr1
  refine s_ Qb <| zC ?_
  refine zR ?_
  exact rh kR ⟨rfl, hr2⟩ (Le.refl _)
 ·have hw := GI bg (gH bg g.conf a bm em clk W wv (upA g.k i.toNat K')) i (if e' = 0 then index else 0) e' he'
  rw [if_pos (show ¬ e' = 0 from he')]
  refine zC ?_
  refine cr <| s_ Qa <| s_ Qa <| s_ Qa <| s_ Qa ?_
  refine QJ hw (fun r H' ⟨hr1, hr2⟩ => ?_)
  subst hr1 hr2
  refine s_ Qb <| zC ?_
  refine zR ?_
  exact rh kR ⟨rfl, hput⟩ (Le.refl _)
end Go.Proofs.YtjbokbikkcfjjaaGreat
namespace Go.Proofs.YtjbokbikkcfjjaaGreat
open Go.Cap
structure Gn where
 ns : List Nd
 aw : List Bool
 way : List Ms
def Gn.n (g : Gn) (i : Nat) : Nd := g.ns.getD i default
def thN (g : Gn) (i : Int) : Bool := decide (isI i) && !(g.aw.getD i.toNat false)
def Cp (g : Gn) (i : Nat) (t : Nd) (l : List Ms) : Gn := { g with ns := g.ns.set i t, way := g.way ++ l }
def D1 (g : Gn) (i : Int) : Gn := if thN g i then Cp g i.toNat (Xw (g.n i.toNat)).1 (Xw (g.n i.toNat)).2 else g
def D3 (g : Gn) (m : Ms) : Gn := if thN g m.to then Cp g m.to.toNat (Xs (g.n m.to.toNat) m).1 (Xs (g.n m.to.toNat) m).2 else g
def Vj (g : Gn) (k : Nat) : Gn := (List.range k).foldl (fun g (i : Nat) => D1 g (i : Int)) g
def Lf (g : Gn) : Gn := Vj (g.way.foldl D3 { g with way := [] }) 5
def Ut (g : Gn) : Nat → Gn
 | 0 => g
 | n + 1 => Lf (Ut g n)
def Uv (i : Nat) (index term : Int) : Nat → Gn → Gn × Int
 | 0, g => (g, if index ≤ (g.n i).commit then UL (g.n i) index term else 22)
 | f + 1, g => if index ≤ (g.n i).commit then (g, UL (g.n i) index term) else Uv i index term f (Lf g)
def DR (g : Gn) (i : Int) (t : Nd) (index e : Int) : Gn × Int :=
 if ¬ e = 0 then (g, e) else Uv i.toNat index t.term 40 { g with ns := g.ns.set i.toNat t }
def Jt (g : Gn) (i : Int) : Int := if ¬ isI i then 2 else if ¬ thN g i = true then 22 else 0
def doN (g : Gn) (i : Int) (cmd : List UInt8) : Gn × Int :=
 if ¬ Jt g i = 0 then (g, Jt g i) else DR g i (Xa (g.n i.toNat) cmd).1 (Xa (g.n i.toNat) cmd).2.1 (Xa (g.n i.toNat) cmd).2.2
def O9 (conf : Int) : Gn := ⟨(List.range 5).map fun (i : Nat) => XC (i : Int) conf, [false, false, false, false, false], []⟩
def prG (g : Gp) : Gn := ⟨g.ks.map (·.N), g.aw, g.way⟩
structure V5 (n0 : Nd) (K : Kp) : Prop where
 live : U6 n0 524100 K
 left : K.d.left = 0
 room : K.d.room = 1048576
def GL (conf : Int) (g : Gp) : Prop := ∀ i : Nat, i < 5 → V5 (XC i conf) (g.k i)
section
variable {P : Nat → En → Prop} {g : Gp} {τ l u : Nat} {conf : Int}
theorem Vr (g : Gp) (i : Nat) (hi : i < g.ks.length) : (prG g).n i = (g.k i).N := by
 unfold Gn.n prG Gp.k
 simp [List.getD_eq_getElem?_getD, hi]
theorem GL.there (h : GL conf g) (i : Int) : Q5 g i = thN (prG g) i := by
 unfold Q5 thN
 by_cases hi : isI i
 ·have := (h _ (Xr hi).1).live.dead
  rw [this]; simp [prG]
 ·simp [hi]
theorem V5.keep {n0 : Nd} {K : Kp} (h : V5 n0 K) {t : Nd} (hid : t.id = n0.id) (hsz : Sz t) (hr : (Qp t 0).length ≤ 524100) : (QA K t 0).2 = 0 ∧ V5 n0 (QA K t 0).1 ∧ (QA K t 0).1.N = t := by
 obtain ⟨K', h1, h2, h3, h4, h5⟩ := Gy h.live h.left (by rw [h.room]; omega) hid hsz hr (by omega)
 rw [h1]
 exact ⟨rfl, ⟨h2, h4, by rw [h5]; exact h.room⟩, h3⟩
theorem GL.set (h : GL conf g) (hks : g.ks.length = 5) {i : Nat} {K : Kp} (w : List Ms) (hK : V5 (XC i conf) K) : GL conf { g with ks := g.ks.set i K, way := w } := by
 intro j hj
 rw [Gp.k_set (by rw [hks]; exact hj)]
 split
 ·rename_i e; subst e; exact hK
 ·exact h j hj
theorem GL.did (h : GL conf g) (hks : g.ks.length = 5) {i : Nat} (hi : i < 5) {t : Nd} {out : List Ms} (hid : t.id = i) (hsz : Sz t) (hr : (Qp t 0).length ≤ 524100) : GL conf (didG g i t out) ∧ prG (didG g i t out) = Cp (prG g) i t out := by
 obtain ⟨h1, h2, h3⟩ := (h i hi).keep (t := t) (by rw [hid]; rfl) hsz hr
 unfold didG
 rw [if_pos h1]
 refine ⟨h.set hks _ h2, ?_⟩
 unfold prG Cp
 simp only [List.map_set, h3]
theorem GL.tick (hP : PK P) (h : GL conf g) (hb : GB P g τ l u) (hu : u + 1 ≤ 25000) (i : Int) : GL conf (Ji g i) ∧ prG (Ji g i) = D1 (prG g) i := by
 unfold Ji D1
 rw [h.there]
 split
 ·rename_i hth
  have hth' : Q5 g i = true := by rw [h.there]; exact hth
  obtain ⟨h5, _⟩ := Xr (Yl hth')
  have hw := (hb.nb _ h5).tick hP.toPO (by have := hb.tau; omega)
  obtain ⟨hsz, hrc⟩ := hw.sz hP (by have := hb.pot h5; omega) (by have := hb.tau; omega)
  rw [Vr g _ (by rw [hb.ks]; exact h5)]
  exact h.did hb.ks h5 ((LZ _).trans (hb.id _ h5)) hsz hrc
 ·exact ⟨h, rfl⟩
theorem GL.take (hP : PK P) (h : GL conf g) (hb : GB P g τ l u) (hu : u ≤ 25000) {m : Ms} (hm : MB P m τ l) : GL conf (Yj g m) ∧ prG (Yj g m) = D3 (prG g) m := by
 unfold Yj D3
 rw [h.there]
 split
 ·rename_i hth
  have hth' : Q5 g m.to = true := by rw [h.there]; exact hth
  obtain ⟨h5, _⟩ := Xr (Yl hth')
  have hw := (hb.nb _ h5).take hP.toPO hm (by have := hb.tau; omega)
  obtain ⟨hsz, hrc⟩ := hw.sz hP (by have := hb.pot h5; omega) (by have := hb.tau; omega)
  rw [Vr g _ (by rw [hb.ks]; exact h5)]
  exact h.did hb.ks h5 ((L0 _ _).trans (hb.id _ h5)) hsz hrc
 ·exact ⟨h, rfl⟩
theorem GL.takes (hP : PK P) (hu : u ≤ 25000) : ∀ (ms : List Ms) {g : Gp} {l : Nat}, GL conf g → GB P g τ l u → (∀ m ∈ ms, MB P m τ l) → g.way.length + ms.length ≤ 5 * (u + l) → GL conf (ms.foldl Yj g) ∧ prG (ms.foldl Yj g) = ms.foldl D3 (prG g)
 | [], g, l, h, _, _, _ => ⟨h, rfl⟩
 | m :: ms, g, l, h, hb, hm, hw => by
  rw [List.length_cons] at hw
  have ht := hb.tau
  obtain ⟨h1, h2⟩ := h.take hP hb hu (hm m List.mem_cons_self)
  obtain ⟨l1, h3, h4, h5⟩ := hb.take hP.toPO (by omega) (hm m List.mem_cons_self) (by omega)
  obtain ⟨h6, h7⟩ := GL.takes hP hu ms h1 h3 (fun x hx => (hm x (List.mem_cons_of_mem _ hx)).le (Nat.le_refl _) h4) (by omega)
  exact ⟨h6, by rw [List.foldl_cons, h7, h2, List.foldl_cons]⟩
theorem LY (g : Gn) (k : Nat) : Vj g (k + 1) = D1 (Vj g k) (k : Int) := by
 unfold Vj
 rw [List.range_succ, List.foldl_append]
 rfl
theorem GL.ticks (hP : PK P) (h : GL conf g) (hb : GB P g τ l u) : ∀ k : Nat, u + k ≤ 25000 → GL conf (ZV g k) ∧ prG (ZV g k) = Vj (prG g) k
 | 0, _ => ⟨h, rfl⟩
 | k + 1, hu => by
  have ht := hb.tau
  obtain ⟨h1, h2⟩ := GL.ticks hP h hb k (by omega)
  obtain ⟨l1, h3, _⟩ := hb.ticks hP.toPO k (by omega)
  obtain ⟨h4, h5⟩ := h1.tick hP h3 (by omega) (k : Int)
  rw [JL, LY, h5, h2]
  exact ⟨h4, rfl⟩
theorem GL.out (h : GL conf g) (w : List Ms) : GL conf { g with way := w } := h
theorem GL.round (hP : PK P) (h : GL conf g) (hb : GB P g τ l u) (hu : u + 5 ≤ 25000) : GL conf (YJ g) ∧ prG (YJ g) = Lf (prG g) := by
 have ht := hb.tau
 have hb0 := hb.out (w := []) (by simp) (by simp)
 obtain ⟨h1, h2⟩ := GL.takes hP (by omega) g.way (h.out []) hb0 hb.way (by simpa using hb.many)
 obtain ⟨l1, h3, _⟩ := GB.takes hP.toPO (by omega) g.way hb0 hb.way (by simpa using hb.many)
 obtain ⟨h4, h5⟩ := h1.ticks hP h3 5 (by omega)
 unfold YJ Lf
 exact ⟨h4, by rw [h5, h2]; rfl⟩
theorem GL.calm (hP : PK P) (h : GL conf g) (hb : GB P g τ l u) : ∀ k : Nat, u + 5 * k ≤ 25000 → GL conf (ZO g k) ∧ prG (ZO g k) = Ut (prG g) k
 | 0, _ => ⟨h, rfl⟩
 | k + 1, hu => by
  have ht := hb.tau
  obtain ⟨h1, h2⟩ := GL.calm hP h hb k (by omega)
  obtain ⟨l1, h3, _⟩ := hb.calm hP.toPO k (by omega)
  obtain ⟨h4, h5⟩ := h1.round hP h3 (by omega)
  exact ⟨h4, by show prG (YJ (ZO g k)) = _; rw [h5, h2]; rfl⟩
end
theorem I8 : ((Ut (O9 7) 30).n 0).role = 2 := by decide +kernel
end Go.Proofs.YtjbokbikkcfjjaaGreat
namespace Go.Proofs.YtjbokbikkcfjjaaGreat
open Go.Cap
attribute [local irreducible] POp Qe AD EOp Sim FnH T.gp
def d0 : Dk := ⟨0, 0, false, [], 0, [], 1048576⟩
theorem Bi {id conf : Int} (h0 : 0 ≤ id) (h1 : id < 5) (h2 : 0 ≤ conf) (h3 : conf ≤ 31) : Sz (XC id conf) ∧ (Qp (XC id conf) 0).length ≤ 524100 := by
 have hk := Bj h0 h1 h2 h3
 exact ⟨hk.sz (by omega), by have := hk.rec_; omega⟩
theorem Ry (bd : Nat) (id conf : Int) (h0 : 0 ≤ id) (h1 : id < 5) (h2 : 0 ≤ conf) (h3 : conf ≤ 31) :
  FnH Tryz.prog 34 [pW bd, ei id, ei conf] (DkH bd d0) (fun r H => ∃ bk bj K2, r = .tup [pW bk, ei 0] ∧ H = mH ⟨bd, bk, bj⟩ K2 ∧ V5 (XC id conf) K2 ∧ K2.N = XC id conf) := by
 obtain ⟨s1, s2⟩ := Bi h0 h1 h2 h3
 have hl := O8 (n0 := XC id conf) (R := 524100) 1048576 rfl s1 s2 (by omega) (by omega)
 refine FnH.mono (Gq bd id conf hl rfl (Bl id conf h0 h1 h2 h3) rfl (by simp [XC]) (by omega) s1 s2) ?_
 rintro r H ⟨bk, bj, K2, e1, e2, e3, e4, e5⟩
 exact ⟨bk, bj, K2, e1, e2, ⟨e3, by rw [e5], by rw [e5]⟩, e4⟩
def gN (conf : Int) (a : Nat → Ad) (n : Nat) (bm : Nat) : List T :=
 let p := fun (j : Nat) (x : Nat) => if j < n then pW x else .v (.pointer none)
 [ei conf, p 0 (a 0).bd, p 0 (a 0).bk, p 1 (a 1).bd, p 1 (a 1).bk, p 2 (a 2).bd, p 2 (a 2).bk, p 3 (a 3).bd, p 3 (a 3).bk, p 4 (a 4).bd, p 4 (a 4).bk, .v (.map (some bm)), .v (.slice none 0 0)]
theorem Ac (conf : Int) (a : Nat → Ad) {n : Nat} (hn : n < 5) (bm : Nat) (x : Ad) : ZA (gN conf a n bm) (0 + 1 + ((n : Nat) : Int).toNat * 2) [pW x.bd, pW x.bk] (gN conf (upA a n x) (n + 1) bm) := by
 have h : ∀ n : Fin 5, ZA (gN conf a n.val bm) (0 + 1 + ((n.val : Nat) : Int).toNat * 2) [pW x.bd, pW x.bk] (gN conf (upA a n.val x) (n.val + 1) bm) := by
  intro n
  match n with
  | 0 => show ZA _ 1 _ _; unfold gN upA; exact zy
  | 1 => show ZA _ 3 _ _; unfold gN upA; exact zy
  | 2 => show ZA _ 5 _ _; unfold gN upA; exact zy
  | 3 => show ZA _ 7 _ _; unfold gN upA; exact zy
  | 4 => show ZA _ 9 _ _; unfold gN upA; exact zy
 exact h ⟨n, hn⟩
def gMk (a : Nat → Ad) (k : Nat → Kp) (n : Nat) : Qc := (List.range n).flatMap fun j => mH (a j) (k j)
theorem RG (a : Nat → Ad) (k : Nat → Kp) (n : Nat) (x : Ad) (K : Kp) : gMk (upA a n x) (upA k n K) (n + 1) = gMk a k n ++ mH x K := by
 unfold gMk
 rw [List.range_succ, List.flatMap_append, List.flatMap_cons, List.flatMap_nil, List.append_nil]
 congr 1
 ·have h : ∀ l : List Nat, (∀ j ∈ l, j < n) → (l.flatMap fun j => mH (upA a n x j) (upA k n K j)) = l.flatMap fun j => mH (a j) (k j) := by
   intro l
   induction l with
   | nil => intro _; rfl
   | cons j l ih =>
    intro hl
    have hj := hl j List.mem_cons_self
    rw [List.flatMap_cons, List.flatMap_cons, ih fun y hy => hl y (List.mem_cons_of_mem _ hy)]
    unfold upA
    rw [if_neg (by omega), if_neg (by omega)]
  exact h _ fun j hj => List.mem_range.1 hj
 ·simp [upA]
def UC (conf : Int) (k : Nat → Kp) : Gp := ⟨conf, (List.range 5).map k, [false, false, false, false, false], []⟩
theorem Bm (conf : Int) (k : Nat → Kp) {i : Nat} (hi : i < 5) : (UC conf k).k i = k i := by
 unfold UC Gp.k
 simp only [List.getD_eq_getElem?_getD, List.getElem?_map, List.getElem?_range hi, Option.map_some, Option.getD_some]
theorem EA (P : Nat → En → Prop) (conf : Int) (h1 : 1 ≤ conf) (h2 : conf ≤ 31) : FnH Tryz.prog 10 [ei conf] [] (fun r H => ∃ bg g, r = .tup [pW bg, ei 0] ∧ IsG bg g H ∧ GB P g 0 0 0 ∧ GL conf g ∧ prG g = O9 conf ∧ g.conf = conf) := by
 refine fe Tryz.func10 fun S0 w0 => ?_
 show Sim _ _ [(0, ei conf)] [] _
 refine zC ?_
 refine cr <| s_ Qb <| s_ Qb <| zC ?_
 refine cr <| s_ Qa <| s_ QR <| s_ Qa <| gF (fun hg => Qa) ?_
 refine gF (fun hg => X0 (hx := u_ hg)) ?_
 refine s_ YD <| zC ?_
 refine ci ?_ ?_
 ·intro hc; omega
 intro _
 refine zC ?_
 refine cr <| s_ Qa ?_
 refine Ai fun b17 _ => ?_
 refine s_ (Zv 13 [_, _, _, _, _, _, _, _, _, _, _, _, _]) ?_
 refine XN fun b19 _ => ?_
 refine s_ Qb <| zC ?_
 refine cr <| s_ Qa <| zC ?_
 apply Qo (σ := Nat × (Nat → Ad) × (Nat → Kp)) (ok := fun s => s.1 ≤ 5 ∧ ∀ j : Nat, j < s.1 → V5 (XC j conf) (s.2.2 j) ∧ (s.2.2 j).N = XC j conf) (env := fun s => [(20, ei s.1), (4, pW b19), (0, ei conf)]) (heap := fun s => (b19, ⟨tG, gN conf s.2.1 s.1 b17, 13⟩) :: (b17, ⟨.map [] 0, [], 0⟩) :: gMk s.2.1 s.2.2 s.1) (μ := fun s => 5 - s.1) (s0 := (0, fun _ => ⟨0, 0, 0⟩, fun _ => default))
 ·exact ⟨Nat.zero_le _, fun j hj => absurd hj (Nat.not_lt_zero j)⟩
 ·exact eL
 ·exact kR
 rintro ⟨n, a, k⟩ ⟨hn, hk⟩
 simp only at hn hk
 show Sim _ _ [(20, ei n), (4, pW b19), (0, ei conf)] ((b19, ⟨tG, gN conf a n b17, 13⟩) :: (b17, ⟨.map [] 0, [], 0⟩) :: gMk a k n) _
 refine zC ?_
 refine cr <| s_ QR <| zC ?_
 refine ci ?_ ?_
 ·intro hlt
  have hn5 : n < 5 := by omega
  have hD := I1 1048576 (by omega) (by omega)
  refine zC ?_
  refine cr <| s_ Qa <| s_ Qb <| zC ?_
  apply cr
  refine QU (Hs := []) hD (List.Perm.refl _) (fun r H' ⟨bd, hr1, hr2⟩ => ?_)
  subst hr1 hr2
  have hO := Ry bd n conf (by omega) (by omega) (by omega) h2
  refine s_ Qa <| s_ QC <| s_ QC <| s_ Qb <| s_ Qb <| zC ?_
  refine cr <| s_ Qa <| s_ Qa <| s_ Qa ?_
  refine QU hO (List.Perm.refl _) (fun r H' ⟨bk, bj, K2, hr1, hr2, hL, hN⟩ => ?_)
  subst hr1 hr2
  refine QG (H' := (b19, ⟨tG, gN conf a n b17, 13⟩) :: (b17, ⟨.map [] 0, [], 0⟩) :: (gMk a k n ++ mH ⟨bd, bk, bj⟩ K2)) ?_ ?_
  ·have := (List.perm_append_comm (l₁ := mH ⟨bd, bk, bj⟩ K2) (l₂ := (b19, ⟨tG, gN conf a n b17, 13⟩) :: (b17, ⟨.map [] 0, [], 0⟩) :: gMk a k n))
   exact this
  have hlay := Ac conf a hn5 b17 ⟨bd, bk, bj⟩
  refine s_ Qa <| s_ QC <| s_ QC <| s_ Qb <| s_ Qb <| zC ?_
  refine cr <| s_ Qa <| s_ Qa <| s_ Qa <| s_ Qa <| s_ (Zv 2 [_, _]) <| s_ Qf <| s_ Qd <| s_ YQ <| Qw (hc := hlay) ?_
  refine zC ?_
  refine cr <| s_ Q0 <| s_ Qa <| zC ?_
  refine ⟨(n + 1, upA a n ⟨bd, bk, bj⟩, upA k n K2), ⟨by simp only; omega, fun j hj => ?_⟩, (by simp only []; omega), ⟨?_, eL⟩, ?_⟩
  ·simp only
   unfold upA
   by_cases hjn : j = n
   ·subst hjn; rw [if_pos rfl]; exact ⟨hL, hN⟩
   ·rw [if_neg hjn]; exact hk j (by simp only at hj; omega)
  ·apply Qi; (exact zG)
   exact Le.refl _
  ·simp only
   rw [RG]
   exact kR
 ·intro hge
  have hn5 : n = 5 := by omega
  subst hn5
  refine zC ?_
  refine cr <| s_ Qa <| s_ Qb <| s_ Qb <| zC ?_
  refine zR ?_
  have hke : ∀ i : Nat, i < 5 → (UC conf k).k i = k i := fun i hi => Bm conf k hi
  refine rh kR ⟨b19, UC conf k, rfl, ⟨a, b17, [], 0, [], .slice none 0 0, ⟨Yh.nil _, fun i hi => ?_⟩, Yy, ?_⟩, ?_, ?_, ?_, rfl⟩ (Le.refl _)
  ·have h : ∀ i : Fin 5, (UC conf k).aw.getD i.val false = false := by
    intro i
    match i with
    | 0 | 1 | 2 | 3 | 4 => rfl
   rw [h ⟨i, hi⟩]; rfl
  ·show _ = gH b19 conf a b17 [] 0 [] (.slice none 0 0) (UC conf k).k
   unfold gH
   rw [RI a k (UC conf k).k hke]
   rfl
  ·refine ⟨by simp [UC], rfl, fun i hi => ?_, fun i hi => ?_, fun i hi => ?_, by simp [UC], by simp [UC], ?_, Nat.le_refl _⟩
   ·rw [hke i hi]
    have hl := (hk i hi).1.live
    obtain ⟨so, rs, hc, hnn⟩ := hl.cont
    exact ⟨hl.dk, by omega, by have := hc.len; omega⟩
   ·rw [hke i hi, (hk i hi).2]; rfl
   ·rw [hke i hi, (hk i hi).2]; exact Bk (by omega) (by omega) (by omega) h2
   ·have : ((UC conf k).ks.map fun K => Go.Proofs.YtjbokbikkcfjjaaGreat.pot K.N) = (List.range 5).map fun i => 0 := by
     unfold UC
     rw [List.map_map]
     refine List.map_congr_left fun i hi => ?_
     have hi5 := List.mem_range.1 hi
     show Go.Proofs.YtjbokbikkcfjjaaGreat.pot (k i).N = 0
     rw [(hk i hi5).2]; rfl
    rw [this]; decide
  ·intro i hi
   rw [hke i hi]; exact (hk i hi).1
  ·unfold prG O9 UC
   simp only [Gn.mk.injEq, and_true]
   rw [List.map_map]
   refine List.map_congr_left fun i hi => ?_
   exact (hk i (List.mem_range.1 hi)).2
end Go.Proofs.YtjbokbikkcfjjaaGreat
namespace Go.Proofs.YtjbokbikkcfjjaaGreat
open Go.Cap
def PS (_ : Nat) (e : En) : Prop := Ek e 100000
theorem Xx : PK PS where
 conf := fun _ _ h => ⟨h.c0, h.c1⟩
 own := fun _ t h0 h1 => ⟨h0, by simp only; omega, Int.le_refl _, by simp only; omega, by simp⟩
 sz := fun _ e h => ⟨⟨by have := h.t0; omega, by have := h.t1; omega⟩, ⟨by have := h.c0; omega, by have := h.c1; omega⟩, by have := h.cmd; omega⟩
 rec_ := fun l hl h => by
  have : ∀ e ∈ l, Ek e 100000 := fun e he => by
   obtain ⟨i, hi⟩ := List.mem_iff_getElem?.1 he
   exact h i e hi
  have := JU l this
  omega
end Go.Proofs.YtjbokbikkcfjjaaGreat
namespace Go.Cap
section
variable {P : Program} {t : Env} {H : Qc} {dst : Option Tmp} {tp : TypeId} {pos : String} {aft : Array Edge} {g : Option (Nat × Bool)} {ty ty' : TypeId} {x : Operand}
theorem Lc {e : TypeId} (w : World) {ty : TypeId} (hu : P.underlying ty = some (.pointer e)) (d : Nat) : (Op.equalIn (d + 1) ty (.pointer none) (.pointer none)).run P w = .ok true w := by
 simp [Op.equalIn, run_underlying hu]
theorem L3 {e : TypeId} (w : World) {ty : TypeId} (hu : P.underlying ty = some (.pointer e)) : (Op.equal ty (.pointer none) (.pointer none)).run P w = .ok true w := Lc w hu 9999
theorem BS {e : TypeId} (hx : t.ev x = .v (.pointer none) := by exact zl) (hu : P.underlying ty = some (.pointer e) := by rfl) : POp P t H ⟨dst, .binOp .neq ty x (.const (.pointer none)) ty', tp, pos, aft, g⟩ (.v (.bool (decide False))) :=
 Q3 hx rfl fun w => by
  have := L3 w hu
  simp [eqGuard, binOp, this]
end
end Go.Cap
namespace Go.Proofs.YtjbokbikkcfjjaaGreat
open Go.Cap
attribute [local irreducible] POp Qe AD EOp Sim FnH T.gp
theorem Oq (a : Int) {k : Int} (hk : 0 < k) : -k < a.tmod k ∧ a.tmod k < k := ⟨Int.lt_tmod_of_pos a hk, Int.tmod_lt_of_pos a hk⟩
theorem Oo (a : Int) {k : Int} (hk : 0 < k) : (if a.tmod k < 0 then a.tmod k + k else a.tmod k) = a % k := by
 have h := LX a k hk
 split
 ·rename_i h1; exact h.1 h1
 ·rename_i h1; exact h.2 h1
theorem UK (a k : Int) (hk : 0 < k) (hk1 : k ≤ 4611686018427387904) : FnP Tryz.prog 13 [ei a, ei k] (fun r => r = ei (a % k)) := by
 have hb := Oq a hk
 have hf := Oo a hk
 refine fe Tryz.func13 fun S0 w0 => ?_
 show Sim _ _ [(0, ei a), (1, ei k)] _ _
 refine zC ?_
 refine cr <| s_ Qb <| zC ?_
 refine cr <| s_ Qa <| s_ Qa <| s_ Gl <| s_ Qb <| zC ?_
 refine cr <| s_ Qa <| s_ QR <| zC ?_
 refine ci ?_ ?_
 ·intro hn
  rw [if_pos hn] at hf
  refine zC ?_
  refine cr <| s_ Qa <| s_ Qa <| s_ Q0 <| s_ Qb <| zC ?_
  refine cr <| s_ Qa <| s_ Qb <| zC ?_
  refine zE ?_
  rw [hf]
  exact Le.refl _
 ·intro hn
  rw [if_neg hn] at hf
  refine zC ?_
  refine cr <| s_ Qa <| s_ Qb <| zC ?_
  refine zE ?_
  rw [hf]
  exact Le.refl _
theorem Dw : FnP Tryz.prog 9 [] (fun r => r = .v (.bool true)) := by
 have hN := EA PS 7 (by omega) (by omega)
 refine fe Tryz.func9 fun S0 w0 => ?_
 show Sim _ _ [] _ _
 refine zC ?_
 refine cr <| s_ Qb <| zC ?_
 apply cr
 refine QU (Hs := []) (Hr := []) hN (.refl _) (fun r H ⟨bg, g, hr, hG, hB, hL, hpr, hcf⟩ => ?_)
 subst hr
 rw [List.append_nil]
 refine s_ Qa <| s_ QC <| s_ QC <| s_ Qb <| s_ Qb <| zC ?_
 refine cr <| s_ Qa <| s_ XR <| s_ Qa <| gF (fun hg => Qa) ?_
 refine gF (p := ¬ (0 : Int) = 0) (fun hg => BX (hx := u_ hg)) ?_
 refine s_ YD <| zC ?_
 refine ci ?_ ?_
 ·rintro (h | h)
  ·exact absurd rfl h
  ·exact h.elim
 intro _
 have hC := Uj Xx bg g H 30 30 (by omega) hB (by omega) hG
 obtain ⟨l1, hB1, _⟩ := hB.calm Xx.toPO 30 (by omega)
 obtain ⟨hL1, hpr1⟩ := hL.calm Xx hB 30 (by omega)
 obtain ⟨g1, hg1⟩ : ∃ g1, g1 = ZO g 30 := ⟨_, rfl⟩
 rw [← hg1] at hC hB1 hL1 hpr1
 rw [hpr] at hpr1
 refine zC ?_
 refine cr <| s_ Qa ?_
 refine QJ hC (fun r H' ⟨hr1, hG1⟩ => ?_)
 subst hr1
 have h0 : isI 0 := ⟨by omega, by omega⟩
 have h5 : ¬ isI 5 := fun h => absurd h.2 (by omega)
 have hK5 := Rz bg g1 H' 5 h5 hG1
 obtain ⟨a, bm, em, clk, W, wv, hA, hO, rfl⟩ := hG1
 have hK0 := GJ bg g1 0 h0 (a := a) (bm := bm) (clk := clk) hA hO
 have hlen := (hB1.nb 0 (by omega)).len
 have hfv := hB1.five
 have hNo := Ui (bg := bg) (g := g1) (a := a) (bm := bm) (es := em) (clk := clk) (W := W) (wv := wv) (i := 0) (by omega) (by omega)
 have hrole : (g1.k 0).N.role = 2 := by
  rw [← Vr g1 0 (by rw [hB1.ks]; omega), hpr1]
  exact I8
 refine zC ?_
 refine cr <| s_ Qa ?_
 refine QJ hK0 (fun r H' ⟨hr1, hr2⟩ => ?_)
 subst hr1 hr2
 refine s_ BX <| s_ Qa <| gF (fun hg => Qa) ?_
 refine RJ (p := False) (Hr := []) (fun h => h) hK5 (by rw [List.append_nil]) (fun r H' ⟨hr1, hr2⟩ => ?_) (ha' := QQ (u_ (fun h => h)) (QQ JT XS))
 subst hr1 hr2
 rw [List.append_nil]
 refine gF (p := False) (fun hg => BS) ?_
 refine s_ YD <| zC ?_
 refine ci ?_ ?_
 ·rintro (h | h)
  ·exact h.elim
  ·exact h.elim
 intro _
 refine zC ?_
 refine cr <| s_ Qa ?_
 refine QJ hK0 (fun r H' ⟨hr1, hr2⟩ => ?_)
 subst hr1 hr2
 refine QJ hNo (fun r H' ⟨hr1, hr2⟩ => ?_)
 subst hr1 hr2
 refine s_ BW <| s_ XB <| s_ Qb <| zC ?_
 refine zE ?_
 exact Le.of_eq (by show T.v (.bool (decide ((g1.k 0).N.role = 2))) = _; rw [decide_eq_true hrole])
end Go.Proofs.YtjbokbikkcfjjaaGreat
namespace Go.Proofs.YtjbokbikkcfjjaaGreat
open Go.Cap
section
variable {P : Nat → En → Prop} {g : Gp} {τ l u : Nat} {conf : Int}
theorem GB.wait (hP : PO P) (i : Nat) (index term : Int) : ∀ (f : Nat) {g : Gp} {τ l u : Nat}, GB P g τ l u → u + 5 * f ≤ 25000 → ∃ τ' l', GB P (XI i index term f g).1 τ' l' (u + 5 * f)
 | 0, g, τ, l, u, h, _ => by
  unfold XI
  exact ⟨τ, l, h⟩
 | f + 1, g, τ, l, u, h, hu => by
  unfold XI
  split
  ·exact ⟨τ, l, h.le (by omega)⟩
  ·obtain ⟨τ1, l1, h1⟩ := h.waits hP (by omega)
   obtain ⟨τ2, l2, h2⟩ := GB.wait hP i index term f h1 (by omega)
   exact ⟨τ2, l2, by rw [show u + 5 * (f + 1) = u + 5 + 5 * f by omega]; exact h2⟩
theorem GL.wait (hP : PK P) {i : Nat} (hi : i < 5) (index term : Int) : ∀ (f : Nat) {g : Gp} {τ l u : Nat}, GL conf g → GB P g τ l u → u + 5 * f ≤ 25000 →
  GL conf (XI i index term f g).1 ∧ prG (XI i index term f g).1 = (Uv i index term f (prG g)).1 ∧ (XI i index term f g).2 = (Uv i index term f (prG g)).2
 | 0, g, τ, l, u, h, hb, _ => by
  unfold XI Uv
  rw [Vr g i (by rw [hb.ks]; exact hi)]
  exact ⟨h, rfl, rfl⟩
 | f + 1, g, τ, l, u, h, hb, hu => by
  unfold XI Uv
  rw [Vr g i (by rw [hb.ks]; exact hi)]
  split
  ·exact ⟨h, rfl, rfl⟩
  ·obtain ⟨h1, h2⟩ := h.round hP hb (by omega)
   obtain ⟨τ1, l1, hb1⟩ := hb.waits hP.toPO (by omega)
   obtain ⟨h3, h4, h5⟩ := GL.wait hP hi index term f h1 hb1 (by omega)
   rw [h2] at h4 h5
   exact ⟨h3, h4, h5⟩
theorem Mz {K : Kp} {t : Nd} {e : Int} (he : ¬ e = 0) : QA K t e = (K, e) := by unfold QA; rw [if_pos he]
theorem OT {g : Gp} {i : Nat} (hi : i < g.ks.length) : { g with ks := g.ks.set i (g.k i) } = g := by
 have : g.ks.set i (g.k i) = g.ks := by
  unfold Gp.k
  rw [List.getD_eq_getElem?_getD, List.getElem?_eq_getElem hi, Option.getD_some, List.set_getElem_self]
 rw [this]
theorem GB.ask (hP : PK P) (h : GB P g τ l u) (hu : u + 205 ≤ 25000) {i : Int} (hi : isI i) {t : Nd} {index e : Int} (hb : UX P (g.k i.toNat).N t e) : ∃ τ' l', GB P (Wl g i t index e).1 τ' l' (u + 205) := by
 obtain ⟨h5, _⟩ := Xr hi
 obtain ⟨l', hg, _⟩ := h.put h5 hb
 unfold Wl
 split
 ·exact ⟨τ, l', hg.le (by omega)⟩
 ·obtain ⟨τ2, l2, h2⟩ := GB.wait hP.toPO i.toNat index ((Jp g i.toNat t e).k i.toNat).N.term 40 hg (by omega)
  exact ⟨τ2, l2, by rw [show u + 205 = u + 5 + 5 * 40 by omega]; exact h2⟩
theorem GL.ask (hP : PK P) (h : GL conf g) (hb : GB P g τ l u) (hu : u + 205 ≤ 25000) {i : Int} (hi : isI i) {t : Nd} {index e : Int} (hp : UX P (g.k i.toNat).N t e) :
  GL conf (Wl g i t index e).1 ∧ prG (Wl g i t index e).1 = (DR (prG g) i t index e).1 ∧ (Wl g i t index e).2 = (DR (prG g) i t index e).2 := by
 obtain ⟨h5, _⟩ := Xr hi
 have hil : i.toNat < g.ks.length := by rw [hb.ks]; exact h5
 obtain ⟨l', hg, _⟩ := hb.put h5 hp
 by_cases he : e = 0
 ·subst he
  obtain ⟨n1, n2⟩ := hp.nb (hb.nb _ h5)
  have hfv := hb.five
  have hpt := hb.pot h5
  have htau := hb.tau
  obtain ⟨k1, k2, k3⟩ := (h _ h5).keep (t := t) (by rw [hp.id, hb.id _ h5]; rfl) (n1.sz hP (by omega) (by omega)) (n1.rec_ hP (by omega))
  have hLp : GL conf (Jp g i.toNat t 0) := by
   rw [Lg]; exact h.set hb.ks _ k2
  have hpr : prG (Jp g i.toNat t 0) = { prG g with ns := (prG g).ns.set i.toNat t } := by
   unfold Jp prG
   simp only [List.map_set, k3]
  have hterm : ((Jp g i.toNat t 0).k i.toNat).N.term = t.term := by
   rw [Lg, Gp.k_set hil, if_pos rfl, k3]
  unfold Wl DR
  rw [k1, if_neg (show ¬ ¬ (0 : Int) = 0 from fun h => h rfl), if_neg (show ¬ ¬ (0 : Int) = 0 from fun h => h rfl), hterm, ← hpr]
  exact GL.wait hP h5 index t.term 40 hLp hg (by omega)
 ·unfold Wl DR
  rw [Mz he, if_pos (show ¬ (g.k i.toNat, e).2 = 0 from he), if_pos (show ¬ e = 0 from he)]
  have : Jp g i.toNat t e = g := by unfold Jp; rw [Mz he]; exact OT hil
  rw [this]
  exact ⟨h, rfl, rfl⟩
theorem GL.asked (h : GL conf g) (i : Int) : XO g i = Jt (prG g) i := by
 unfold XO Jt; rw [h.there]
theorem GL.do_ (hP : PK P) (h : GL conf g) (hb : GB P g τ l u) (hu : u + 205 ≤ 25000) (i : Int) (cmd : List UInt8) (hC : isI i → P (g.k i.toNat).N.log.length ⟨(g.k i.toNat).N.term, 0, cmd⟩) :
  GL conf (doG g i cmd).1 ∧ prG (doG g i cmd).1 = (doN (prG g) i cmd).1 ∧ (doG g i cmd).2 = (doN (prG g) i cmd).2 ∧ ∃ τ' l', GB P (doG g i cmd).1 τ' l' (u + 205) := by
 unfold doG doN
 rw [h.asked]
 split
 ·exact ⟨h, rfl, rfl, τ, l, hb.le (by omega)⟩
 ·rename_i ha
  have hi : isI i := by
   refine Classical.byContradiction fun hn => ha ?_
   unfold Jt; rw [if_pos hn]; omega
  obtain ⟨h5, _⟩ := Xr hi
  rw [Vr g _ (by rw [hb.ks]; exact h5)]
  have hp := Ea (hC hi)
  obtain ⟨h1, h2, h3⟩ := h.ask hP hb hu hi (index := (Xa (g.k i.toNat).N cmd).2.1) hp
  exact ⟨h1, h2, h3, hb.ask hP hu hi hp⟩
end
def stN (l : List UInt8) : Gn := l.foldl (fun g c => (doN g 0 [c]).1) (Ut (O9 7) 30)
theorem Oz (l : List UInt8) (c : UInt8) : stN (l ++ [c]) = (doN (stN l) 0 [c]).1 := by unfold stN; rw [List.foldl_append]; rfl
def OO (g : Gn) : List Int := g.ns.map (·.role)
def Xt (l : List UInt8) : List (List UInt8) := l.map fun x => [x]
def Yq (m : Nat) : Prop := ∀ f : Nat → UInt8, OO (stN ((List.range m).map f)) = [2, 0, 0, 0, 0] ∧ (stN ((List.range m).map f)).aw = [false, false, false, false, false] ∧
 (∀ c : UInt8, (doN (stN ((List.range m).map f)) 0 [c]).2 = 0) ∧ (Ut (stN ((List.range m).map f)) 10).ns.map Us = [Xt ((List.range m).map f), Xt ((List.range m).map f), Xt ((List.range m).map f), [], []] ∧ (Ut (stN ((List.range m).map f)) 10).aw = [false, false, false, false, false]
theorem Au : Yq 0 := fun f => ⟨by kernel_rfl, by kernel_rfl, fun c => by kernel_rfl, by kernel_rfl, by kernel_rfl⟩
theorem At : Yq 1 := fun f => ⟨by kernel_rfl, by kernel_rfl, fun c => by kernel_rfl, by kernel_rfl, by kernel_rfl⟩
theorem As : Yq 2 := fun f => ⟨by kernel_rfl, by kernel_rfl, fun c => by kernel_rfl, by kernel_rfl, by kernel_rfl⟩
theorem Ar : Yq 3 := fun f => ⟨by kernel_rfl, by kernel_rfl, fun c => by kernel_rfl, by kernel_rfl, by kernel_rfl⟩
theorem Aq : Yq 4 := fun f => ⟨by kernel_rfl, by kernel_rfl, fun c => by kernel_rfl, by kernel_rfl, by kernel_rfl⟩
theorem Ap : Yq 5 := fun f => ⟨by kernel_rfl, by kernel_rfl, fun c => by kernel_rfl, by kernel_rfl, by kernel_rfl⟩
theorem Ao : Yq 6 := fun f => ⟨by kernel_rfl, by kernel_rfl, fun c => by kernel_rfl, by kernel_rfl, by kernel_rfl⟩
theorem An : Yq 7 := fun f => ⟨by kernel_rfl, by kernel_rfl, fun c => by kernel_rfl, by kernel_rfl, by kernel_rfl⟩
theorem Am : Yq 8 := fun f => ⟨by kernel_rfl, by kernel_rfl, fun c => by kernel_rfl, by kernel_rfl, by kernel_rfl⟩
theorem Al : Yq 9 := fun f => ⟨by kernel_rfl, by kernel_rfl, fun c => by kernel_rfl, by kernel_rfl, by kernel_rfl⟩
theorem Bv : Yq 10 := fun f => ⟨by kernel_rfl, by kernel_rfl, fun c => by kernel_rfl, by kernel_rfl, by kernel_rfl⟩
theorem Bu : Yq 11 := fun f => ⟨by kernel_rfl, by kernel_rfl, fun c => by kernel_rfl, by kernel_rfl, by kernel_rfl⟩
theorem R5 (m : Nat) (hm : m ≤ 11) : Yq m := by
 match m, hm with
 | 0, _ => exact Au
 | 1, _ => exact At
 | 2, _ => exact As
 | 3, _ => exact Ar
 | 4, _ => exact Aq
 | 5, _ => exact Ap
 | 6, _ => exact Ao
 | 7, _ => exact An
 | 8, _ => exact Am
 | 9, _ => exact Al
 | 10, _ => exact Bv
 | 11, _ => exact Bu
theorem E9 (l : List UInt8) : (List.range l.length).map (fun i => l.getD i 0) = l := by
 refine List.ext_getElem (by simp) fun i h1 h2 => ?_
 simp [List.getD_eq_getElem?_getD, h2]
theorem DK (l : List UInt8) (hl : l.length ≤ 11) : OO (stN l) = [2, 0, 0, 0, 0] ∧ (stN l).aw = [false, false, false, false, false] ∧ (∀ c : UInt8, (doN (stN l) 0 [c]).2 = 0) ∧ (Ut (stN l) 10).ns.map Us = [Xt l, Xt l, Xt l, [], []] ∧ (Ut (stN l) 10).aw = [false, false, false, false, false] := by
 have h := R5 l.length hl (fun i => l.getD i 0)
 rw [E9 l] at h
 exact h
end Go.Proofs.YtjbokbikkcfjjaaGreat
namespace Go.Proofs.YtjbokbikkcfjjaaGreat
open Go.Cap
attribute [local irreducible] POp Qe AD EOp Sim FnH T.gp
def tSs : TypeId := 9
theorem es1 (l : List (List UInt8)) : ∀ x ∈ l.map es, x.cells.length = 1 := fun x hx => by
 obtain ⟨s, _, rfl⟩ := List.mem_map.1 hx; rfl
theorem MM (l : List (List UInt8)) : ∀ x ∈ l.map es, x.solid := fun x hx => by
 obtain ⟨s, _, rfl⟩ := List.mem_map.1 hx; exact .inl rfl
theorem E3 (l : List (List UInt8)) (hl : l.length ≤ 1000000000) : FnP Tryz.prog 42 [.sl false (l.map es)] (fun r => r = .sl false (l.map es)) := by
 have hk := es1 l
 refine fe Tryz.func42 fun S0 w0 => ?_
 show Sim _ _ [(0, T.sl false (l.map es))] _ _
 refine zC ?_
 refine cr <| s_ Qb <| zC ?_
 refine cr <| s_ Qa ?_
 refine Y0 3 fun p c h1 _ => ?_
 refine s_ Bc <| zC ?_
 refine ci ?_ ?_
 ·intro hp
  have := h1 hp
  have : l = [] := by simpa using this
  subst this
  refine zC ?_
  refine cr <| s_ Qb <| zC ?_
  refine zE ?_
  exact Le.nil _
 ·intro hp
  refine zC ?_
  refine cr <| s_ Z0 <| s_ Qa <| s_ (B1 (d := .v (.string .empty)) (xs := []) (ys := l.map es) (hky := hk)) <| s_ Qb <| zC ?_
  refine zE ?_
  exact Le.refl _
theorem GM (bg : Nat) (g : Gp) (H : Qc) (i : Int) (hi : ¬ isI i) (hG : IsG bg g H) : FnH Tryz.prog 19 [pW bg, ei i] H (fun r H' => r = .v (.slice none 0 0) ∧ H' = H) := by
 have hT := JS bg g H i hG
 refine fe Tryz.func19 fun S0 w0 => ?_
 show Sim _ _ [(0, pW bg), (1, ei i)] H _
 refine zC ?_
 refine cr <| s_ Qb <| zC ?_
 refine cr <| s_ Qa <| s_ Qa ?_
 refine QJ hT (fun r H' ⟨hr1, hr2⟩ => ?_)
 subst hr1 hr2
 refine s_ YE <| zC ?_
 refine ci (p := ¬ isI i) (fun _ => ?_) (fun h => absurd hi h)
 refine zC ?_
 refine cr <| s_ Qb <| zC ?_
 refine zR ?_
 exact rh kR ⟨rfl, rfl⟩ (Le.refl _)
def ZN (l : List En) : List (List UInt8) := (l.map (·.cmd)).filter (fun c => !c.isEmpty)
theorem G5 {l : List En} {k : Nat} (hk : k < l.length) : ZN (l.take (k + 1)) = ZN (l.take k) ++ (if l[k].cmd = [] then [] else [l[k].cmd]) := by
 unfold ZN
 rw [List.take_succ_eq_append_getElem hk, List.map_append, List.filter_append]
 congr 1
 by_cases h : l[k].cmd = []
 ·simp [h]
 ·rw [if_neg h]; simp [h]
theorem MW (l : List En) : (ZN l).length ≤ l.length := by
 unfold ZN
 exact Nat.le_trans (List.length_filter_le _ _) (by simp)
theorem RB (bg : Nat) (g : Gp) (H : Qc) (i : Int) (hi : isI i) (hl : (g.k i.toNat).N.log.length ≤ 1000000) (hb : (g.k i.toNat).N.base = 0) (hc0 : 0 ≤ (g.k i.toNat).N.commit) (hc1 : (g.k i.toNat).N.commit ≤ 1000000) (hG : IsG bg g H) : FnH Tryz.prog 19 [pW bg, ei i] H (fun r H' => r = .sl false ((Us (g.k i.toNat).N).map es) ∧ H' = H) := by
 obtain ⟨h5, _⟩ := Xr hi
 have hT := JS bg g H i hG
 obtain ⟨a, bm, em, clk, W, wv, hA, hO, rfl⟩ := hG
 have hno := Ui (bg := bg) (g := g) (a := a) (bm := bm) (es := em) (clk := clk) (W := W) (wv := wv) h5 (by omega)
 have hck := DA (conf := g.conf) (a := a) (bm := bm) (wv := wv) hi
 have hp5 : 0 ≤ i ∧ i < 5 := hi
 obtain ⟨n, hn⟩ : ∃ n, n = (g.k i.toNat).N := ⟨_, rfl⟩
 rw [← hn] at hno hl hb hc0 hc1 ⊢
 refine fe Tryz.func19 fun S0 w0 => ?_
 show Sim _ _ [(0, pW bg), (1, ei i)] ((bg, ⟨tG, gC g.conf a bm wv, 13⟩) :: (bm, ⟨.map em clk, [], 0⟩) :: (W ++ gM a g.k)) _
 refine zC ?_
 refine cr <| s_ Qb <| zC ?_
 refine cr <| s_ Qa <| s_ Qa ?_
 refine QJ hT (fun r H' ⟨hr1, hr2⟩ => ?_)
 subst hr1 hr2
 refine s_ YE <| zC ?_
 refine ci (p := ¬ isI i) (fun h => absurd hi h) (fun _ => ?_)
 show Sim _ _ _ ((bg, ⟨tG, gC g.conf a bm wv, 13⟩) :: (bm, ⟨.map em clk, [], 0⟩) :: (W ++ gM a g.k)) _
 refine zC ?_
 refine cr <| s_ Qb <| zC ?_
 refine cr <| s_ Qa <| s_ Qa <| s_ Qf <| s_ Qd <| s_ YQ <| s_ Qd <| s_ (Ql (hd := by first | rfl | assumption)) ?_
 refine QJ hno (fun r H' ⟨hr1, hr2⟩ => ?_)
 subst hr1 hr2
 show Qe _ _ _ _ _ ((bg, ⟨tG, gC g.conf a bm wv, 13⟩) :: (bm, ⟨.map em clk, [], 0⟩) :: (W ++ gM a g.k)) _
 refine XX fun b6 _ => ?_
 refine Qw ?_
 refine zC ?_
 obtain ⟨j, hj⟩ : ∃ j, j = max (min (n.commit - n.base) (n.log.length : Int)) 0 := ⟨_, rfl⟩
 have hj0 : 0 ≤ j ∧ j ≤ n.log.length := by omega
 refine zC ?_
 refine cr <| s_ Qd <| s_ Ql <| s_ Qd <| s_ Ql <| s_ Qd <| s_ Ql <| s_ Y9 <| s_ Qd <| s_ Ql ?_
 (first | refine s_ QP ?_ | refine s_ QO ?_)
 refine s_ Wg <| s_ Lp ?_
 rw [show max (min (n.commit - n.base) (((n.log.map een).length : Nat) : Int)) 0 = j by rw [List.length_map]; exact hj.symm]
 refine s_ CI ?_
 have hdone : Us n = ZN (n.log.take j.toNat) := by unfold Us ZN; rw [← hj]
 rw [hdone]
 obtain ⟨l, hle⟩ : ∃ l, l = n.log.take j.toNat := ⟨_, rfl⟩
 have hll : l.length ≤ 1000000 := by rw [hle, List.length_take]; omega
 rw [← List.map_take, ← hle]
 (first | refine s_ QP ?_ | refine s_ QO ?_)
 refine s_ Qa <| zC ?_
 apply Qo (σ := Nat × Value × Qc) (ok := fun s => s.1 ≤ l.length ∧ OSl tSs 1 ((ZN (l.take s.1)).map es) s.2.1 s.2.2) (env := fun s => [(35, ei s.1), (34, ei l.length), (33, T.sl false (l.map een)), (5, .v s.2.1), (0, pW bg), (1, ei i)]) (heap := fun s => s.2.2 ++ gH bg g.conf a bm em clk W wv g.k) (μ := fun s => l.length - s.1) (s0 := (0, .slice none 0 0, []))
 ·exact ⟨Nat.zero_le _, Yy⟩
 ·refine ⟨?_, ?_, eL⟩
  ·apply Qi; (exact zG)
   exact Le.refl _
  ·apply Qi; (exact zG)
   exact Le.of_eq (by rw [List.length_map]; rfl)
 ·exact .skip _ _ _ kR
 rintro ⟨k, v, Hs⟩ ⟨hk, ho⟩
 simp only at hk ho
 show Sim _ _ [(35, ei k), (34, ei l.length), (33, T.sl false (l.map een)), (5, .v v), (0, pW bg), (1, ei i)] (Hs ++ gH bg g.conf a bm em clk W wv g.k) _
 obtain ⟨p, c, rfl⟩ := OSl.len ho
 refine zC ?_
 refine cr <| s_ QR <| zC ?_
 refine ci ?_ ?_
 ·intro hlt
  have hix : k < l.length := by omega
  have hnx := G5 hix
  have hcl := MW (l.take k)
  have htl : (l.take k).length ≤ 1000000 := by rw [List.length_take]; omega
  apply ck
  apply cq
  refine L2 (σ := Value × Qc) (ok := fun s => OSl tSs 1 ((ZN (l.take (k + 1))).map es) s.1 s.2) (env := fun s => [(35, ei k), (34, ei l.length), (33, T.sl false (l.map een)), (5, .v s.1), (0, pW bg), (1, ei i)]) (heap := fun s => s.2 ++ gH bg g.conf a bm em clk W wv g.k) ?_ (fun s hs => ?_)
  ·refine zC ?_
   apply cr
   (first | refine s_ (Xg hix) ?_ | refine s_ (Xg hix2) ?_ | refine s_ YK ?_)
   refine s_ YP ?_
   refine XX fun b8 _ => ?_
   refine Qw ?_
   refine zC ?_
   refine cr <| s_ Qd <| s_ Ql <| s_ CM <| zC ?_
   refine ci ?_ ?_
   ·intro hne
    have hne' : ¬ l[k].cmd = [] := hne
    rw [if_neg hne'] at hnx
    refine zC ?_
    refine cr <| s_ Qa <| s_ Qd <| s_ Ql <| s_ Z0 ?_
    refine VW (ho := ho) (A := [_]) (B := gH bg g.conf a bm em clk W wv g.k) (ys := [es l[k].cmd]) (f := true) (es1 _) (fun v' Hs' ho' => ?_) (hb := by simp only [List.length_map, List.length_cons, List.length_nil]; omega) (hm := by simp only [List.length_map, List.length_cons, List.length_nil]; omega)
    refine s_ Qb <| zC ?_
    exact ⟨(v', Hs'), _, (by rw [hnx, List.map_append]; exact ho'), eL, .refl _, .skip _ _ _ kR⟩
   ·intro hne
    have hne' : l[k].cmd = [] := Classical.not_not.1 hne
    rw [if_pos hne', List.append_nil] at hnx
    refine zC ?_
    exact ⟨(_, Hs), _, (by rw [hnx]; exact ho), eL, .refl _, .skip _ _ _ kR⟩
  obtain ⟨v', Hs'⟩ := s
  simp only at hs
  show Sim _ _ [(35, ei k), (34, ei l.length), (33, T.sl false (l.map een)), (5, .v v'), (0, pW bg), (1, ei i)] (Hs' ++ gH bg g.conf a bm em clk W wv g.k) _
  refine zC ?_
  refine cr <| s_ Q0 <| s_ Qa <| zC ?_
  refine ⟨(k + 1, v', Hs'), ⟨by simp only; omega, hs⟩, (by simp only []; omega), ⟨?_, eL⟩, kR⟩
  apply Qi; (exact zG)
  exact Le.refl _
 ·intro hge
  have hke : k = l.length := by omega
  subst hke
  rw [List.take_length] at ho
  have hcl := E3 (ZN l) (by have := MW l; omega)
  have hlend : Qu Hs (.v (.slice p ((ZN (l.take l.length)).map es).length c)) (.sl false ((ZN l).map es)) := by
   rw [List.take_length]
   exact OSl.lend ho (fun _ h => h) (es1 _) (MM _)
  refine zC ?_
  refine Y6 (G := Hs) (H1 := gH bg g.conf a bm em clk W wv g.k) [(5, .sl false ((ZN l).map es))] (.refl _) ⟨hlend, trivial⟩ ?_
  refine zC ?_
  refine cr <| s_ Qa <| s_ (QK (hcl)) <| s_ Qb <| zC ?_
  refine zR ?_
  exact rh kR ⟨rfl, rfl⟩ (Le.refl _)
end Go.Proofs.YtjbokbikkcfjjaaGreat
