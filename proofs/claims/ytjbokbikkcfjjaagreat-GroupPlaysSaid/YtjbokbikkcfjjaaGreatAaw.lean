/-
  group: asked, Do, Change.
-/
import Derived.Test.YtjbokbikkcfjjaaGreatAav
set_option maxRecDepth 16000
set_option maxHeartbeats 8000000
set_option linter.all false
namespace Go.Proofs.YtjbokbikkcfjjaaGreat
open Go.Cap
attribute [local irreducible] POp Qi SO EOp Sim FnH T.gp
theorem Vh (bg : Nat) (g : Gp) (H : Qd) (i : Int) (hG : IsG bg g H) : FnH Tryz.prog 38 [pW bg, ei i] H (fun r H' => r = ei (XT g i) ∧ H' = H) := by
 have hI := Un bg g H i hG
 have hT := WU bg g H i hG
 obtain ⟨q, iq, hq⟩ := EP (b := XM g i)
 rw [hq] at hT
 refine fe Tryz.func38 fun S0 w0 => ?_
 show Sim _ _ [(0, pW bg), (1, ei i)] H _
 refine zC ?_
 refine cr <| s_ Qb <| zC ?_
 refine cr <| s_ Qa <| s_ Qa ?_
 refine QY hI (fun r H' ⟨hr1, hr2⟩ => ?_)
 subst hr1 hr2
 refine s_ Yb <| s_ Qb <| zC ?_
 refine ci (p := ¬ isI i) ?_ ?_
 ·intro hn
  refine zC ?_
  refine cr <| s_ Qb <| zC ?_
  refine zR ?_
  refine rh kR ⟨rfl, rfl⟩ ?_
  exact Le.of_eq (congrArg ei (by unfold XT; rw [if_pos hn]))
 intro hn
 refine zC ?_
 refine cr <| s_ Qa <| s_ Qa ?_
 refine QY hT (fun r H' ⟨hr1, hr2⟩ => ?_)
 subst hr1 hr2
 refine s_ Yb <| s_ Qb <| zC ?_
 refine ci (p := ¬ q) ?_ ?_
 ·intro hnq
  refine zC ?_
  refine cr <| s_ Qb <| zC ?_
  refine zR ?_
  refine rh kR ⟨rfl, rfl⟩ ?_
  exact Le.of_eq (congrArg ei (by unfold XT; rw [if_neg hn, if_pos (by rw [hq]; simpa using hnq)]))
 ·intro hnq
  refine zC ?_
  refine cr <| s_ Qb <| zC ?_
  refine zR ?_
  refine rh kR ⟨rfl, rfl⟩ ?_
  exact Le.of_eq (congrArg ei (by unfold XT; rw [if_neg hn, if_neg (by rw [hq]; simpa using hnq)]))
def VA (P : Nat → En → Prop) (N t : Nd) (e : Int) : Prop := (¬ e = 0 ∧ t = N) ∨ (e = 0 ∧ N.role = 2 ∧ ∃ en, t = UA N en ∧ P N.log.length ⟨N.term, en.conf, en.cmd⟩)
theorem Ea {P : Nat → En → Prop} {N : Nd} {cmd : List UInt8} (h : P N.log.length ⟨N.term, 0, cmd⟩) : VA P N (Xn N cmd).1 (Xn N cmd).2.2 := by
 unfold Xn
 split
 ·exact .inl ⟨by simp only; omega, rfl⟩
 ·rename_i hr
  split
  ·exact .inl ⟨by simp only; omega, rfl⟩
  ·exact .inr ⟨rfl, Classical.not_not.1 hr, _, rfl, h⟩
theorem WZ {P : Nat → En → Prop} {N : Nd} {conf : Int} (h : 1 ≤ conf → conf ≤ 31 → P N.log.length ⟨N.term, conf, []⟩) : VA P N (QG N conf).1 (QG N conf).2.2 := by
 unfold QG
 split
 ·exact .inl ⟨by simp only; omega, rfl⟩
 ·rename_i hr
  split
  ·exact .inl ⟨by simp only; omega, rfl⟩
  ·rename_i hc
   split
   ·exact .inl ⟨by simp only; omega, rfl⟩
   ·exact .inr ⟨rfl, Classical.not_not.1 hr, _, rfl, h (by omega) (by omega)⟩
section
variable {P : Nat → En → Prop} {g : Gp} {τ l u : Nat}
theorem VA.nb {N t : Nd} {e : Int} (h : NB P N τ l) (hb : VA P N t e) : NB P t τ (l + 1) ∧ Go.Proofs.YtjbokbikkcfjjaaGreat.pot t ≤ Go.Proofs.YtjbokbikkcfjjaaGreat.pot N := by
 rcases hb with ⟨_, rfl⟩ | ⟨_, hr, en, rfl, hp⟩
 ·exact ⟨h.le (Nat.le_refl _) (by omega), Nat.le_refl _⟩
 ·exact h.put hr hp
theorem VA.id {N t : Nd} {e : Int} (hb : VA P N t e) : t.id = N.id := by
 rcases hb with ⟨_, rfl⟩ | ⟨_, hr, en, rfl, hp⟩
 ·rfl
 ·exact VR (JG N en)
theorem D9 (g : Gp) (i : Nat) (t : Nd) (e : Int) : Uz g i t e = { g with ks := g.ks.set i (QZ (g.k i) t e).1, way := g.way ++ [] } := by unfold Uz; rw [List.append_nil]
theorem GB.put (h : GB P g τ l u) {i : Nat} (hi : i < 5) {t : Nd} {e : Int} (hb : VA P (g.k i).N t e) : ∃ l', GB P (Uz g i t e) τ l' (u + 5) ∧ l ≤ l' := by
 obtain ⟨h1, h2⟩ := IM (h.ki i hi) t e
 have hn := h.nb i hi
 obtain ⟨n1, n2⟩ := hb.nb hn
 have hg : (QZ (g.k i) t e).1.N = t ∨ (QZ (g.k i) t e).1.N = (g.k i).N := by
  split at h2
  ·exact .inl h2
  ·exact .inr h2
 have hil : i < g.ks.length := by rw [h.ks]; exact hi
 have hk : g.ks[i] = g.k i := by unfold Gp.k; rw [List.getD_eq_getElem?_getD, List.getElem?_eq_getElem hil, Option.getD_some]
 rw [D9]
 refine ⟨l + 1, ⟨by simp [h.ks], h.aw, fun j hj => ?_, fun j hj => ?_, fun j hj => ?_, fun m hm => ?_, ?_, ?_, by have := h.tau; omega⟩, by omega⟩
 ·rw [Gp.k_set (by rw [h.ks]; exact hj)]; split
  ·exact h1
  ·exact h.ki j hj
 ·rw [Gp.k_set (by rw [h.ks]; exact hj)]; split
  ·rename_i e0; subst e0
   rcases hg with e1 | e1
   ·rw [e1, hb.id]; exact h.id i hi
   ·rw [e1]; exact h.id i hi
  ·exact h.id j hj
 ·rw [Gp.k_set (by rw [h.ks]; exact hj)]; split
  ·rcases hg with e1 | e1
   ·rw [e1]; exact n1
   ·rw [e1]; exact hn.le (Nat.le_refl _) (by omega)
  ·exact (h.nb j hj).le (Nat.le_refl _) (by omega)
 ·rw [List.append_nil] at hm
  exact (h.way m hm).le (Nat.le_refl _) (by omega)
 ·have := h.many; simp only [List.append_nil]; omega
 ·have := Lt (fun K => Go.Proofs.YtjbokbikkcfjjaaGreat.pot K.N) g.ks i (QZ (g.k i) t e).1 hil
  rw [hk] at this
  have hf := h.fuel
  have hpn : Go.Proofs.YtjbokbikkcfjjaaGreat.pot (QZ (g.k i) t e).1.N ≤ Go.Proofs.YtjbokbikkcfjjaaGreat.pot (g.k i).N := by
   rcases hg with e1 | e1
   ·rw [e1]; exact n2
   ·rw [e1]; exact Nat.le_refl _
  simp only at this ⊢
  omega
end
theorem IV {bg : Nat} {g : Gp} {a : Nat → Ad} {bm : Nat} {es : List (Value × T × Nat)} {clk : Nat} {W : Qd} {wv : Value} {i : Nat} {t : Nd} {e : Int} (hks : g.ks.length = 5) (hA : OP g.aw es) (hO : OM g.way wv W) : IsG bg (Uz g i t e) (gH bg g.conf a bm es clk W wv (upA g.k i (QZ (g.k i) t e).1)) := by
 refine ⟨a, bm, es, clk, W, wv, hA, hO, ?_⟩
 show _ = gH bg g.conf a bm es clk W wv (Uz g i t e).k
 unfold gH
 rw [IX a (upA g.k i (QZ (g.k i) t e).1) (Uz g i t e).k (fun j hj => ?_)]
 have := Gp.k_set (g := g) (i := i) (j := j) (K := (QZ (g.k i) t e).1) (w := g.way) (by rw [hks]; exact hj)
 show Gp.k { g with ks := g.ks.set i (QZ (g.k i) t e).1 } j = _
 rw [this]
 unfold upA
 by_cases hij : i = j
 ·subst hij; simp
 ·rw [if_neg hij, if_neg (fun e => hij e.symm)]
theorem KE {P : Nat → En → Prop} {τ l u : Nat} (hP : PK P) (bg : Nat) (g : Gp) (H : Qd) (i : Int) (cmd : List UInt8) (h : GB P g τ l u) (hu : u + 205 ≤ 25000) (hC : P (g.k i.toNat).N.log.length ⟨(g.k i.toNat).N.term, 0, cmd⟩) (hG : IsG bg g H) : FnH Tryz.prog 17 [pW bg, ei i, es cmd] H (fun r H' => r = ei (doG g i cmd).2 ∧ IsG bg (doG g i cmd).1 H') := by
 have hAsk := Vh bg g H i hG
 by_cases hask : ¬ XT g i = 0
 ·refine fe Tryz.func17 fun S0 w0 => ?_
  show Sim _ _ [(0, pW bg), (1, ei i), (2, es cmd)] H _
  refine zC ?_
  refine cr <| s_ Qb <| zC ?_
  refine cr <| s_ Qa <| s_ Qa ?_
  refine QY hAsk (fun r H' ⟨hr1, hr2⟩ => ?_)
  subst hr1 hr2
  refine s_ Qb <| zC ?_
  refine cr <| s_ Qa <| s_ XE <| zC ?_
  refine ci (p := ¬ XT g i = 0) (fun _ => ?_) (fun h => absurd hask h)
  refine zC ?_
  refine cr <| s_ Qa <| s_ Qb <| zC ?_
  refine zR ?_
  refine rh kR ⟨rfl, ?_⟩ ?_
  ·unfold doG; rw [if_pos hask]; exact hG
  ·exact Le.of_eq (congrArg ei (by unfold doG; rw [if_pos hask]))
 have hth : XM g i = true := by
  unfold XT at hask
  split at hask
  ·exact absurd (by omega) hask
  ·split at hask
   ·exact absurd (by omega) hask
   ·rename_i h1; exact Classical.not_not.1 h1
 have hi := Zd hth
 obtain ⟨h5, hin⟩ := Q7 hi
 have hb := Ea (P := P) (N := (g.k i.toNat).N) (cmd := cmd) hC
 have hspec : doG g i cmd = VS g i (Xn (g.k i.toNat).N cmd).1 (Xn (g.k i.toNat).N cmd).2.1 (Xn (g.k i.toNat).N cmd).2.2 := by unfold doG; rw [if_neg hask]
 rw [hspec]
 have hnb := h.nb _ h5
 have hfive := h.five
 have hlen := hnb.len
 have hcnf := hnb.cnf hP.toPO
 obtain ⟨n1, n2⟩ := hb.nb hnb
 have hpot := h.pot h5
 have hidx : 0 ≤ (Xn (g.k i.toNat).N cmd).2.1 ∧ (Xn (g.k i.toNat).N cmd).2.1 ≤ 100000 := by
  have hbs := hnb.base
  unfold Xn
  repeat' split
  all_goals simp only; omega
 have hsz := n1.sz hP (by have := h.tau; omega) (by omega)
 have hrc := n1.rec_ hP (by omega)
 obtain ⟨l', hgb, _⟩ := h.put h5 hb
 have hok := h.ok hP (by omega) h5
 have hcall := fun bk bj bd => TI bk bj bd (g.k i.toNat) cmd (Po cmd (hnb.bd hP.toPO (by omega)) (by omega)) hok hsz (by omega)
 obtain ⟨⟨K', e'⟩, hke⟩ : ∃ x, QZ (g.k i.toNat) (Xn (g.k i.toNat).N cmd).1 (Xn (g.k i.toNat).N cmd).2.2 = x := ⟨_, rfl⟩
 unfold VS
 unfold Pj at hcall
 have hput := fun bm em clk W wv a hA hO => IV (bg := bg) (g := g) (a := a) (bm := bm) (es := em) (clk := clk) (W := W) (wv := wv) (i := i.toNat) (t := (Xn (g.k i.toNat).N cmd).1) (e := (Xn (g.k i.toNat).N cmd).2.2) h.ks hA hO
 obtain ⟨g1, hg1⟩ : ∃ g1, g1 = Uz g i.toNat (Xn (g.k i.toNat).N cmd).1 (Xn (g.k i.toNat).N cmd).2.2 := ⟨_, rfl⟩
 rw [← hg1] at hgb hput ⊢
 rw [hke] at hcall hput ⊢
 simp only at hcall hput ⊢
 generalize (Xn (g.k i.toNat).N cmd).2.1 = index at hidx hcall ⊢
 obtain ⟨a, bm, em, clk, W, wv, hA, hO, rfl⟩ := hG
 have hput := hput bm em clk W wv a hA hO
 have hcall := hcall (a i.toNat).bk (a i.toNat).bj (a i.toNat).bd
 have hck := Oh (conf := g.conf) (a := a) (bm := bm) (wv := wv) hi
 have hp5 : 0 ≤ i ∧ i < 5 := hi
 have hperm := UO (x := (bg, ⟨tG, gC g.conf a bm wv, 13⟩)) (y := (bm, ⟨.map em clk, [], 0⟩)) (W := W) (Lc a g.k h5)
 have hperm2 : ((bg, ⟨tG, gC g.conf a bm wv, 13⟩) :: (bm, ⟨.map em clk, [], 0⟩) :: (W ++ gM a (upA g.k i.toNat K'))).Perm (mH (a i.toNat) K' ++ ((bg, ⟨tG, gC g.conf a bm wv, 13⟩) :: (bm, ⟨.map em clk, [], 0⟩) :: (W ++ gO a g.k i.toNat))) := by
  refine UO ?_
  have := (Og a a g.k (upA g.k i.toNat K') h5 (fun j _ hj => ⟨rfl, by unfold upA; rw [if_neg hj]⟩)).symm
  simpa [upA] using this
 have hask0 : XT g i = 0 := Classical.not_not.1 hask
 refine fe Tryz.func17 fun S0 w0 => ?_
 show Sim _ _ [(0, pW bg), (1, ei i), (2, es cmd)] ((bg, ⟨tG, gC g.conf a bm wv, 13⟩) :: (bm, ⟨.map em clk, [], 0⟩) :: (W ++ gM a g.k)) _
 refine zC ?_
 refine cr <| s_ Qb <| zC ?_
 refine cr <| s_ Qa <| s_ Qa ?_
 refine QY hAsk (fun r H' ⟨hr1, hr2⟩ => ?_)
 subst hr1 hr2
 refine s_ Qb <| zC ?_
 refine cr <| s_ Qa <| s_ XE <| zC ?_
 refine ci (p := ¬ XT g i = 0) (fun h => absurd hask0 h) (fun _ => ?_)
 refine zC ?_
 refine cr <| s_ Qa <| s_ Qa <| s_ Qe <| s_ Qc <| s_ Xp <| s_ Qc <| s_ (Ql (hd := by first | rfl | assumption)) <| s_ Qa ?_
 refine Q1 hcall hperm (fun r H' ⟨hr1, hr2⟩ => ?_)
 subst hr1 hr2
 refine QV hperm2.symm ?_
 refine s_ Qa <| s_ Qt <| s_ Qt <| s_ Qb <| s_ Qb <| zC ?_
 by_cases he' : e' = 0
 ·have hw := G6 hP bg g1 _ i index hi hgb (by omega) hidx.1 (by omega) hput
  simp only [if_pos he']
  rw [if_neg (show ¬ ¬ e' = 0 from fun h => h he')]
  rw [he']
  refine zC ?_
  refine cr <| s_ Qa <| s_ Qa <| s_ Qa <| s_ Qa ?_
  refine QY hw (fun r H' ⟨hr1, hr2⟩ => ?_)
  subst hr1
  refine s_ Qb <| zC ?_
  refine zR ?_
  exact rh kR ⟨rfl, hr2⟩ (Le.refl _)
 ·have hw := Dx bg (gH bg g.conf a bm em clk W wv (upA g.k i.toNat K')) i (if e' = 0 then index else 0) e' he'
  rw [if_pos (show ¬ e' = 0 from he')]
  refine zC ?_
  refine cr <| s_ Qa <| s_ Qa <| s_ Qa <| s_ Qa ?_
  refine QY hw (fun r H' ⟨hr1, hr2⟩ => ?_)
  subst hr1 hr2
  refine s_ Qb <| zC ?_
  refine zR ?_
  exact rh kR ⟨rfl, hput⟩ (Le.refl _)
theorem Rw {P : Nat → En → Prop} {τ l u : Nat} (hP : PK P) (bg : Nat) (g : Gp) (H : Qd) (i : Int) (conf : Int) (h : GB P g τ l u) (hu : u + 205 ≤ 25000) (hC : 1 ≤ conf → conf ≤ 31 → P (g.k i.toNat).N.log.length ⟨(g.k i.toNat).N.term, conf, []⟩) (hG : IsG bg g H) : FnH Tryz.prog 27 [pW bg, ei i, ei conf] H (fun r H' => r = ei (XL g i conf).2 ∧ IsG bg (XL g i conf).1 H') := by
 have hAsk := Vh bg g H i hG
 by_cases hask : ¬ XT g i = 0
 ·refine fe Tryz.func27 fun S0 w0 => ?_
  show Sim _ _ [(0, pW bg), (1, ei i), (2, ei conf)] H _
  refine zC ?_
  refine cr <| s_ Qb <| zC ?_
  refine cr <| s_ Qa <| s_ Qa ?_
  refine QY hAsk (fun r H' ⟨hr1, hr2⟩ => ?_)
  subst hr1 hr2
  refine s_ Qb <| zC ?_
  refine cr <| s_ Qa <| s_ XE <| zC ?_
  refine ci (p := ¬ XT g i = 0) (fun _ => ?_) (fun h => absurd hask h)
  refine zC ?_
  refine cr <| s_ Qa <| s_ Qb <| zC ?_
  refine zR ?_
  refine rh kR ⟨rfl, ?_⟩ ?_
  ·unfold XL; rw [if_pos hask]; exact hG
  ·exact Le.of_eq (congrArg ei (by unfold XL; rw [if_pos hask]))
 have hth : XM g i = true := by
  unfold XT at hask
  split at hask
  ·exact absurd (by omega) hask
  ·split at hask
   ·exact absurd (by omega) hask
   ·rename_i h1; exact Classical.not_not.1 h1
 have hi := Zd hth
 obtain ⟨h5, hin⟩ := Q7 hi
 have hb := WZ (P := P) (N := (g.k i.toNat).N) (conf := conf) hC
 have hspec : XL g i conf = VS g i (QG (g.k i.toNat).N conf).1 (QG (g.k i.toNat).N conf).2.1 (QG (g.k i.toNat).N conf).2.2 := by unfold XL; rw [if_neg hask]
 rw [hspec]
 have hnb := h.nb _ h5
 have hfive := h.five
 have hlen := hnb.len
 have hcnf := hnb.cnf hP.toPO
 obtain ⟨n1, n2⟩ := hb.nb hnb
 have hpot := h.pot h5
 have hidx : 0 ≤ (QG (g.k i.toNat).N conf).2.1 ∧ (QG (g.k i.toNat).N conf).2.1 ≤ 100000 := by
  have hbs := hnb.base
  unfold QG
  repeat' split
  all_goals simp only; omega
 have hsz := n1.sz hP (by have := h.tau; omega) (by omega)
 have hrc := n1.rec_ hP (by omega)
 obtain ⟨l', hgb, _⟩ := h.put h5 hb
 have hok := h.ok hP (by omega) h5
 have hcall := fun bk bj bd => Rr bk bj bd (g.k i.toNat) conf (BG conf (hnb.bd hP.toPO (by omega)) (by omega) (by unfold big; have := hnb.com0; omega) (by unfold big; have := hnb.com1; omega)) hok hsz (by omega)
 obtain ⟨⟨K', e'⟩, hke⟩ : ∃ x, QZ (g.k i.toNat) (QG (g.k i.toNat).N conf).1 (QG (g.k i.toNat).N conf).2.2 = x := ⟨_, rfl⟩
 unfold VS
 unfold Pj at hcall
 have hput := fun bm em clk W wv a hA hO => IV (bg := bg) (g := g) (a := a) (bm := bm) (es := em) (clk := clk) (W := W) (wv := wv) (i := i.toNat) (t := (QG (g.k i.toNat).N conf).1) (e := (QG (g.k i.toNat).N conf).2.2) h.ks hA hO
 obtain ⟨g1, hg1⟩ : ∃ g1, g1 = Uz g i.toNat (QG (g.k i.toNat).N conf).1 (QG (g.k i.toNat).N conf).2.2 := ⟨_, rfl⟩
 rw [← hg1] at hgb hput ⊢
 rw [hke] at hcall hput ⊢
 simp only at hcall hput ⊢
 generalize (QG (g.k i.toNat).N conf).2.1 = index at hidx hcall ⊢
 obtain ⟨a, bm, em, clk, W, wv, hA, hO, rfl⟩ := hG
 have hput := hput bm em clk W wv a hA hO
 have hcall := hcall (a i.toNat).bk (a i.toNat).bj (a i.toNat).bd
 have hck := Oh (conf := g.conf) (a := a) (bm := bm) (wv := wv) hi
 have hp5 : 0 ≤ i ∧ i < 5 := hi
 have hperm := UO (x := (bg, ⟨tG, gC g.conf a bm wv, 13⟩)) (y := (bm, ⟨.map em clk, [], 0⟩)) (W := W) (Lc a g.k h5)
 have hperm2 : ((bg, ⟨tG, gC g.conf a bm wv, 13⟩) :: (bm, ⟨.map em clk, [], 0⟩) :: (W ++ gM a (upA g.k i.toNat K'))).Perm (mH (a i.toNat) K' ++ ((bg, ⟨tG, gC g.conf a bm wv, 13⟩) :: (bm, ⟨.map em clk, [], 0⟩) :: (W ++ gO a g.k i.toNat))) := by
  refine UO ?_
  have := (Og a a g.k (upA g.k i.toNat K') h5 (fun j _ hj => ⟨rfl, by unfold upA; rw [if_neg hj]⟩)).symm
  simpa [upA] using this
 have hask0 : XT g i = 0 := Classical.not_not.1 hask
 refine fe Tryz.func27 fun S0 w0 => ?_
 show Sim _ _ [(0, pW bg), (1, ei i), (2, ei conf)] ((bg, ⟨tG, gC g.conf a bm wv, 13⟩) :: (bm, ⟨.map em clk, [], 0⟩) :: (W ++ gM a g.k)) _
 refine zC ?_
 refine cr <| s_ Qb <| zC ?_
 refine cr <| s_ Qa <| s_ Qa ?_
 refine QY hAsk (fun r H' ⟨hr1, hr2⟩ => ?_)
 subst hr1 hr2
 refine s_ Qb <| zC ?_
 refine cr <| s_ Qa <| s_ XE <| zC ?_
 refine ci (p := ¬ XT g i = 0) (fun h => absurd hask0 h) (fun _ => ?_)
 refine zC ?_
 refine cr <| s_ Qa <| s_ Qa <| s_ Qe <| s_ Qc <| s_ Xp <| s_ Qc <| s_ (Ql (hd := by first | rfl | assumption)) <| s_ Qa ?_
 refine Q1 hcall hperm (fun r H' ⟨hr1, hr2⟩ => ?_)
 subst hr1 hr2
 refine QV hperm2.symm ?_
 refine s_ Qa <| s_ Qt <| s_ Qt <| s_ Qb <| s_ Qb <| zC ?_
 by_cases he' : e' = 0
 ·have hw := G6 hP bg g1 _ i index hi hgb (by omega) hidx.1 (by omega) hput
  simp only [if_pos he']
  rw [if_neg (show ¬ ¬ e' = 0 from fun h => h he')]
  rw [he']
  refine zC ?_
  refine cr <| s_ Qa <| s_ Qa <| s_ Qa <| s_ Qa ?_
  refine QY hw (fun r H' ⟨hr1, hr2⟩ => ?_)
  subst hr1
  refine s_ Qb <| zC ?_
  refine zR ?_
  exact rh kR ⟨rfl, hr2⟩ (Le.refl _)
 ·have hw := Dx bg (gH bg g.conf a bm em clk W wv (upA g.k i.toNat K')) i (if e' = 0 then index else 0) e' he'
  rw [if_pos (show ¬ e' = 0 from he')]
  refine zC ?_
  refine cr <| s_ Qa <| s_ Qa <| s_ Qa <| s_ Qa ?_
  refine QY hw (fun r H' ⟨hr1, hr2⟩ => ?_)
  subst hr1 hr2
  refine s_ Qb <| zC ?_
  refine zR ?_
  exact rh kR ⟨rfl, hput⟩ (Le.refl _)
end Go.Proofs.YtjbokbikkcfjjaaGreat
namespace Go.Proofs.YtjbokbikkcfjjaaGreat
open Go.Cap
section
variable {P : Nat → En → Prop} {g : Gp} {τ l u : Nat} {conf : Int}
theorem GB.wait (hP : PO P) (i : Nat) (index term : Int) : ∀ (f : Nat) {g : Gp} {τ l u : Nat}, GB P g τ l u → u + 5 * f ≤ 25000 → ∃ τ' l', GB P (Yx i index term f g).1 τ' l' (u + 5 * f)
 | 0, g, τ, l, u, h, _ => by
  unfold Yx
  exact ⟨τ, l, h⟩
 | f + 1, g, τ, l, u, h, hu => by
  unfold Yx
  split
  ·exact ⟨τ, l, h.le (by omega)⟩
  ·obtain ⟨τ1, l1, h1⟩ := h.waits hP (by omega)
   obtain ⟨τ2, l2, h2⟩ := GB.wait hP i index term f h1 (by omega)
   exact ⟨τ2, l2, by rw [show u + 5 * (f + 1) = u + 5 + 5 * f by omega]; exact h2⟩
theorem GL.wait (hP : PK P) {i : Nat} (hi : i < 5) (index term : Int) : ∀ (f : Nat) {g : Gp} {τ l u : Nat}, GL conf g → GB P g τ l u → u + 5 * f ≤ 25000 →
  GL conf (Yx i index term f g).1 ∧ prG (Yx i index term f g).1 = (Yh i index term f (prG g)).1 ∧ (Yx i index term f g).2 = (Yh i index term f (prG g)).2
 | 0, g, τ, l, u, h, hb, _ => by
  unfold Yx Yh
  rw [UL g i (by rw [hb.ks]; exact hi)]
  exact ⟨h, rfl, rfl⟩
 | f + 1, g, τ, l, u, h, hb, hu => by
  unfold Yx Yh
  rw [UL g i (by rw [hb.ks]; exact hi)]
  split
  ·exact ⟨h, rfl, rfl⟩
  ·obtain ⟨h1, h2⟩ := h.round hP hb (by omega)
   obtain ⟨τ1, l1, hb1⟩ := hb.waits hP.toPO (by omega)
   obtain ⟨h3, h4, h5⟩ := GL.wait hP hi index term f h1 hb1 (by omega)
   rw [h2] at h4 h5
   exact ⟨h3, h4, h5⟩
theorem G1 {K : Kp} {t : Nd} {e : Int} (he : ¬ e = 0) : QZ K t e = (K, e) := by unfold QZ; rw [if_pos he]
theorem A2 {g : Gp} {i : Nat} (hi : i < g.ks.length) : { g with ks := g.ks.set i (g.k i) } = g := by
 have : g.ks.set i (g.k i) = g.ks := by
  unfold Gp.k
  rw [List.getD_eq_getElem?_getD, List.getElem?_eq_getElem hi, Option.getD_some, List.set_getElem_self]
 rw [this]
theorem GB.ask (hP : PK P) (h : GB P g τ l u) (hu : u + 205 ≤ 25000) {i : Int} (hi : isI i) {t : Nd} {index e : Int} (hb : VA P (g.k i.toNat).N t e) : ∃ τ' l', GB P (VS g i t index e).1 τ' l' (u + 205) := by
 obtain ⟨h5, _⟩ := Q7 hi
 obtain ⟨l', hg, _⟩ := h.put h5 hb
 unfold VS
 split
 ·exact ⟨τ, l', hg.le (by omega)⟩
 ·obtain ⟨τ2, l2, h2⟩ := GB.wait hP.toPO i.toNat index ((Uz g i.toNat t e).k i.toNat).N.term 40 hg (by omega)
  exact ⟨τ2, l2, by rw [show u + 205 = u + 5 + 5 * 40 by omega]; exact h2⟩
theorem GL.ask (hP : PK P) (h : GL conf g) (hb : GB P g τ l u) (hu : u + 205 ≤ 25000) {i : Int} (hi : isI i) {t : Nd} {index e : Int} (hp : VA P (g.k i.toNat).N t e) :
  GL conf (VS g i t index e).1 ∧ prG (VS g i t index e).1 = (Vs (prG g) i t index e).1 ∧ (VS g i t index e).2 = (Vs (prG g) i t index e).2 := by
 obtain ⟨h5, _⟩ := Q7 hi
 have hil : i.toNat < g.ks.length := by rw [hb.ks]; exact h5
 obtain ⟨l', hg, _⟩ := hb.put h5 hp
 by_cases he : e = 0
 ·subst he
  obtain ⟨n1, n2⟩ := hp.nb (hb.nb _ h5)
  have hfv := hb.five
  have hpt := hb.pot h5
  have htau := hb.tau
  obtain ⟨k1, k2, k3⟩ := (h _ h5).keep (t := t) (by rw [hp.id, hb.id _ h5]; rfl) (n1.sz hP (by omega) (by omega)) (n1.rec_ hP (by omega))
  have hLp : GL conf (Uz g i.toNat t 0) := by
   rw [D9]; exact h.set hb.ks _ k2
  have hpr : prG (Uz g i.toNat t 0) = { prG g with ns := (prG g).ns.set i.toNat t } := by
   unfold Uz prG
   simp only [List.map_set, k3]
  have hterm : ((Uz g i.toNat t 0).k i.toNat).N.term = t.term := by
   rw [D9, Gp.k_set hil, if_pos rfl, k3]
  unfold VS Vs
  rw [k1, if_neg (show ¬ ¬ (0 : Int) = 0 from fun h => h rfl), if_neg (show ¬ ¬ (0 : Int) = 0 from fun h => h rfl), hterm, ← hpr]
  exact GL.wait hP h5 index t.term 40 hLp hg (by omega)
 ·unfold VS Vs
  rw [G1 he, if_pos (show ¬ (g.k i.toNat, e).2 = 0 from he), if_pos (show ¬ e = 0 from he)]
  have : Uz g i.toNat t e = g := by unfold Uz; rw [G1 he]; exact A2 hil
  rw [this]
  exact ⟨h, rfl, rfl⟩
theorem GL.asked (h : GL conf g) (i : Int) : XT g i = YC (prG g) i := by
 unfold XT YC; rw [h.there]
theorem GL.do_ (hP : PK P) (h : GL conf g) (hb : GB P g τ l u) (hu : u + 205 ≤ 25000) (i : Int) (cmd : List UInt8) (hC : isI i → P (g.k i.toNat).N.log.length ⟨(g.k i.toNat).N.term, 0, cmd⟩) :
  GL conf (doG g i cmd).1 ∧ prG (doG g i cmd).1 = (doN (prG g) i cmd).1 ∧ (doG g i cmd).2 = (doN (prG g) i cmd).2 ∧ ∃ τ' l', GB P (doG g i cmd).1 τ' l' (u + 205) := by
 unfold doG doN
 rw [h.asked]
 split
 ·exact ⟨h, rfl, rfl, τ, l, hb.le (by omega)⟩
 ·rename_i ha
  have hi : isI i := by
   refine Classical.byContradiction fun hn => ha ?_
   unfold YC; rw [if_pos hn]; omega
  obtain ⟨h5, _⟩ := Q7 hi
  rw [UL g _ (by rw [hb.ks]; exact h5)]
  have hp := Ea (hC hi)
  obtain ⟨h1, h2, h3⟩ := h.ask hP hb hu hi (index := (Xn (g.k i.toNat).N cmd).2.1) hp
  exact ⟨h1, h2, h3, hb.ask hP hu hi hp⟩
theorem GL.change_ (hP : PK P) (h : GL conf g) (hb : GB P g τ l u) (hu : u + 205 ≤ 25000) (i c : Int) (hC : isI i → 1 ≤ c → c ≤ 31 → P (g.k i.toNat).N.log.length ⟨(g.k i.toNat).N.term, c, []⟩) :
  GL conf (XL g i c).1 ∧ prG (XL g i c).1 = (YQ (prG g) i c).1 ∧ (XL g i c).2 = (YQ (prG g) i c).2 ∧ ∃ τ' l', GB P (XL g i c).1 τ' l' (u + 205) := by
 unfold XL YQ
 rw [h.asked]
 split
 ·exact ⟨h, rfl, rfl, τ, l, hb.le (by omega)⟩
 ·rename_i ha
  have hi : isI i := by
   refine Classical.byContradiction fun hn => ha ?_
   unfold YC; rw [if_pos hn]; omega
  obtain ⟨h5, _⟩ := Q7 hi
  rw [UL g _ (by rw [hb.ks]; exact h5)]
  have hp := WZ (hC hi)
  obtain ⟨h1, h2, h3⟩ := h.ask hP hb hu hi (index := (QG (g.k i.toNat).N c).2.1) hp
  exact ⟨h1, h2, h3, hb.ask hP hu hi hp⟩
end
end Go.Proofs.YtjbokbikkcfjjaaGreat
namespace Go.Proofs.YtjbokbikkcfjjaaGreat
open Go.Cap
attribute [local irreducible] POp Qi SO EOp Sim FnH T.gp
def bcK (n : Nd) : Nat → Int
 | 0 => n.baseConf
 | k + 1 => if ¬ (n.log.getD k default).conf = 0 then (n.log.getD k default).conf else bcK n k
theorem Tv (n : Nd) : LeL (Qg n (.v (.slice none 0 0))) (Qg n (.sl false (([] : List En).map een))) := by
 unfold Qg
 repeat (first | exact LeL.nil | (refine LeL.cons (Le.refl _) ?_) | (refine LeL.cons (Le.nil _) ?_))
theorem N5 (a : Int) {k : Int} (hk : 0 < k) : -k < a.tmod k ∧ a.tmod k < k := by
 have h1 := Int.tmod_lt_of_pos a hk
 have h2 := Int.lt_tmod_of_pos a hk
 exact ⟨h2, h1⟩
theorem Cm (a : Int) {k : Int} (hk : 0 < k) : (if a.tmod k < 0 then a.tmod k + k else a.tmod k) = a % k := by
 rw [Int.tmod_eq_emod]
 have h0 := Int.emod_nonneg a (Int.ne_of_gt hk)
 have h1 := Int.emod_lt_of_pos a hk
 split <;> rename_i h
 ·rw [if_neg (by omega)]; omega
 ·have h2 : (k.natAbs : Int) = k := by omega
  rw [h2]
  rw [if_pos (by omega)]; omega
def La (x : Int) : Nat → Int
 | 0 => 0
 | k + 1 => La x k + Vr .i64 (Vq .i64 x (IntKind.u64.wrap k)) 1
theorem Tt {x : Int} (h0 : 0 ≤ x) (h1 : x ≤ 31) : La x 5 = J3 x ∧ ∀ k ≤ 5, 0 ≤ La x k ∧ La x k ≤ k ∧ 0 ≤ Vr .i64 (Vq .i64 x (IntKind.u64.wrap k)) 1 ∧ Vr .i64 (Vq .i64 x (IntKind.u64.wrap k)) 1 ≤ 1 := by
 have key : ∀ i : Fin 32, La i.val 5 = J3 i.val ∧ ∀ k : Fin 6, 0 ≤ La i.val k.val ∧ La i.val k.val ≤ k.val ∧ 0 ≤ Vr .i64 (Vq .i64 i.val (IntKind.u64.wrap (k.val : Nat))) 1 ∧ Vr .i64 (Vq .i64 i.val (IntKind.u64.wrap (k.val : Nat))) 1 ≤ 1 := by decide +kernel
 obtain ⟨i, rfl⟩ := Wp h0 h1
 exact ⟨(key i).1, fun k hk => (key i).2 ⟨k, by omega⟩⟩
def KW (n : Nd) (k : Int) : Nd := { n with wait := k }
def cand : Nd := Qy (KW (XG 0 31) 5)
def ch (k : Nat) : List UInt8 := [UInt8.ofNat (97 + k)]
def pN (b : Nat) : T := .v (.pointer (some ⟨b, 0, none⟩))
theorem Y2 (n : Nd) (hl : n.log.length ≤ 1000000000) (hb1 : -100000000000 ≤ n.base) (hb2 : n.base ≤ 100000000000) : FnP Tryz.prog 86 [nd n] (fun r => r = .tup [ei (Qq n), ei (termF n (Qq n))]) := by
 refine fe Tryz.func86 fun S0 w0 => ?_
 show Sim _ _ [(0, T.agg (Qg n (.sl false (n.log.map een))))] _ _
 refine zC ?_
 apply cr
 refine Xk fun b1 _ => ?_
 refine s_ Qb <| s_ Qb <| zC ?_
 refine X4 1 (by simp [Qg]) ?_
 refine zC ?_
 refine cr <| s_ Qj <| s_ Qf ?_
 (first | refine s_ QS ?_ | refine s_ QP ?_)
 refine s_ Q5 <| zC ?_
 refine ci ?_ ?_
 ·intro hc
  simp only [List.length_map] at hc
  refine zC ?_
  refine ca [0, 1, 2, 3, 4, 5] [] <| a_ (fun _ => Qj) <| a_ (fun _ => Qf) <| a_ (fun _ => Qj) <| a_ (fun _ => Qf) <| a_ (fun _ => Qb) <| a_ (fun _ => Qb) ?_
  apply an
  refine zC ?_
  refine zE ?_
  have h1 : Qq n = n.base := by simp only [Qq]; omega
  rw [h1, termF, if_neg (by omega)]
  exact Le.refl _
 ·intro hc
  simp only [List.length_map] at hc
  refine zC ?_
  refine ca [0, 1, 2, 3, 4, 5, 6, 7, 8, 9, 10, 11, 12, 13, 14, 15, 16] [] <| a_ (fun _ => Qj) <| a_ (fun _ => Qf) <| a_ (fun _ => Qj) <| a_ (fun _ => Qf) ?_
  (first | refine a_ (fun _ => QS) ?_ | refine a_ (fun _ => QP) ?_)
  refine a_ (fun _ => QQ) <| a_ (fun _ => Qj) <| a_ (fun _ => Qf) <| a_ (fun _ => Qj) <| a_ (fun _ => Qf) ?_
  (first | refine a_ (fun _ => QS) ?_ | refine a_ (fun _ => QP) ?_)
  refine a_ (fun _ => Yr) ?_
  (first | refine a_ (fun _ => Q4 hix) ?_ | refine a_ (fun _ => Q4 hix2) ?_ | refine a_ (fun _ => Yd) ?_ | refine a_ (fun _ => Ys) ?_)
  (first | refine a_ (fun _ => Qj) ?_ | refine a_ (fun _ => Qc) ?_)
  (first | refine a_ (fun _ => Qf) ?_ | refine Qv ?_)
  refine a_ (fun _ => Qb) <| a_ (fun _ => Qb) ?_
  apply an
  refine zC ?_
  refine zE ?_
  rw [termF, if_pos (by simp only [Qq]; omega)]
  refine Le.of_eq ?_
  have h1 : (Qq n - n.base - 1).toNat = (((n.log.map een).length : Nat) - 1 : Int).toNat := by simp only [Qq, List.length_map]; omega
  have h2 : Qq n = n.base + ((n.log.map een).length : Nat) := by simp only [Qq, List.length_map]
  rw [h1, h2]
  rfl
theorem Vb (conf id : Int) (h0 : 0 ≤ id) (h1 : id < 5) (h2 : 0 ≤ conf) (h3 : conf ≤ 31) : FnP Tryz.prog 112 [ei conf, ei id] (fun r => r = .v (.bool (decide (isF conf id = true)))) := by
 refine fe Tryz.func112 fun S0 w0 => ?_
 show Sim _ _ [(0, ei conf), (1, ei id)] _ _
 have hw := Zn h0 (by omega)
 refine zC ?_
 refine cr <| s_ Qb <| zC ?_
 refine cr <| s_ Qa <| s_ Qa <| s_ YG <| s_ ZR <| s_ J1 <| s_ Q5 <| s_ Qb <| zC ?_
 refine zE ?_
 rw [Zn h0 (by omega), HX h2 h3 h0 h1]
 exact Le.of_eq (congrArg (fun z => T.v (.bool z)) (by simp))
theorem WK (x : Int) (h0 : 0 ≤ x) (h1 : x ≤ 31) : FnP Tryz.prog 123 [ei x] (fun r => r = ei (J3 x)) := by
 have ho := Tt h0 h1
 refine fe Tryz.func123 fun S0 w0 => ?_
 show Sim _ _ [(0, ei x)] _ _
 refine zC ?_
 refine cr <| s_ Qb <| zC ?_
 refine cr <| s_ Qb <| zC ?_
 refine cr <| s_ Qb <| zC ?_
 apply Qm (σ := Nat) (ok := fun k => k ≤ 5) (env := fun k => [(4, ei (k : Nat)), (3, ei (La x k)), (0, ei x)]) (heap := fun _ => []) (μ := fun k => 5 - k) (s0 := 0)
 ·exact Nat.zero_le _
 ·exact eL
 ·exact kR
 intro k hk
 refine zC ?_
 refine cr <| s_ Qa <| s_ QN <| zC ?_
 refine ci ?_ ?_
 ·intro hlt
  have hk5 : k < 5 := by omega
  have hb := ho.2 k hk
  have hwk : IntKind.u64.wrap (k : Nat) = k := Zn (by omega) (by omega)
  refine zC ?_
  refine cr <| s_ Qa <| s_ Qa <| s_ Qa <| s_ YG <| s_ ZR <| s_ J1 <| s_ QQ <| s_ Qb <| zC ?_
  refine cr <| s_ Qa <| s_ QQ <| s_ Qb <| zC ?_
  exact ⟨k + 1, hk5, by show 5 - (k + 1) < 5 - k; omega, ⟨Qh (by rfl) (Le.refl _), Qh (by (exact zG)) (Le.refl _), eL⟩, kR⟩
 ·intro hlt
  have : k = 5 := by omega
  subst this
  refine zC ?_
  refine cr <| s_ Qa <| s_ Qb <| zC ?_
  refine zE ?_
  rw [ho.1]
  exact Le.refl _
theorem RW {x y : Int} : UB x y = UB y x := by unfold UB; rw [Nat.and_comm]
theorem LV (some conf : Int) (h0 : 0 ≤ some) (h1 : some ≤ 31) (h2 : 0 ≤ conf) (h3 : conf ≤ 31) : FnP Tryz.prog 113 [ei some, ei conf] (fun r => r = .v (.bool (decide (XK conf some = true)))) := by
 have hb := NM h0 h1 h2 h3
 have o1 := WK (UB some conf) hb.2.1 hb.2.2
 have o2 := WK conf h2 h3
 have l1 := IB hb.2.1 hb.2.2
 rw [← hb.1] at o1 l1
 refine fe Tryz.func113 fun S0 w0 => ?_
 show Sim _ _ [(0, ei some), (1, ei conf)] _ _
 refine zC ?_
 refine cr <| s_ Qb <| zC ?_
 refine cr <| s_ Qa <| s_ Qa <| s_ J1 <| s_ (Qr (o1)) <| s_ Tl <| s_ Qa <| s_ (Qr (o2)) <| s_ XX <| s_ Qb <| zC ?_
 refine zE ?_
 refine Le.of_eq (congrArg (fun z => T.v (.bool z)) ?_)
 rw [decide_eq_decide, XK, decide_eq_true_iff, hb.1, RW]
def Xm (n : Nd) (i : Int) : Int := if i = n.base then n.baseTerm else if i < n.base ∨ n.base + n.log.length < i then -1 else (n.log.getD (i - n.base - 1).toNat default).term
theorem Zy (n : Nd) (i : Int) (hl : n.log.length ≤ 1000000000) (hb1 : -big ≤ n.base) (hb2 : n.base ≤ big) (hi1 : -big ≤ i) (hi2 : i ≤ big) : FnP Tryz.prog 121 [nd n, ei i] (fun r => r = ei (Xm n i)) := by
 refine fe Tryz.func121 fun S0 w0 => ?_
 show Sim _ _ [(0, T.agg (Qg n (.sl false (n.log.map een)))), (1, ei i)] _ _
 simp only [big] at hb1 hb2 hi1 hi2
 refine zC ?_
 apply cr
 refine Xk fun b2 _ => ?_
 refine s_ Qb <| zC ?_
 refine X4 2 (by simp [Qg]) ?_
 refine zC ?_
 refine cr <| s_ Qa <| s_ Qj <| s_ Qf <| s_ Q5 <| s_ Qb <| zC ?_
 refine ci ?_ ?_
 ·intro hc
  refine zC ?_
  refine cr <| s_ Qj <| s_ Qf <| s_ Qb <| zC ?_
  refine zE ?_
  rw [Xm, if_pos hc]
  exact Le.refl _
 intro hc
 refine zC ?_
 refine cr <| s_ Qa <| s_ Qj <| s_ Qf <| s_ QN <| s_ Qa <| gF (fun hg => Qa) ?_
 refine gF (fun hg => Qj) ?_
 refine gF (fun hg => Qf (hx := u_ hg)) ?_
 refine gF (fun hg => Qj) ?_
 refine gF (fun hg => Qf (hx := u_ hg)) ?_
 (first | refine gF (fun hg => QS (hx := u_ hg)) ?_ | refine gF (fun hg => QP (hx := u_ hg)) ?_)
 refine gF (fun hg => QQ (hx := u_ hg) (hy := u_ hg)) ?_
 refine gF (fun hg => XX (hx := u_ hg) (hy := u_ hg)) ?_
 refine s_ XC <| s_ Qb <| zC ?_
 refine ci ?_ ?_
 ·intro hd
  simp only [List.length_map] at hd
  refine zC ?_
  refine cr <| s_ Qb <| zC ?_
  refine zE ?_
  rw [Xm, if_neg hc, if_pos hd]
  exact Le.refl _
 ·intro hd
  simp only [List.length_map] at hd
  refine zC ?_
  refine cr <| s_ Qj <| s_ Qf <| s_ Qa <| s_ Qj <| s_ Qf <| s_ Yr <| s_ Yr ?_
  (first | refine s_ (Q4 hix) ?_ | refine s_ (Q4 hix2) ?_ | refine s_ Yd ?_ | refine s_ Ys ?_)
  (first | refine s_ Qj ?_ | refine s_ Qc ?_)
  (first | refine s_ Qf ?_ | refine s_ Ql ?_)
  refine s_ Qb <| zC ?_
  refine zE ?_
  rw [Xm, if_neg hc, if_neg hd]
  exact Le.refl _
theorem JS {n : Nd} {i : Int} (h1 : n.base ≤ i) (h2 : i ≤ Qq n) : Xm n i = termF n i := by
 unfold Xm termF Qq at *
 by_cases h : i = n.base
 ·rw [if_pos h, if_neg (by omega)]
 ·rw [if_neg h, if_neg (by omega), if_pos (by omega)]
def Y0 (n : Nd) : Nat → Int
 | 0 => 0
 | k + 1 => if ¬ (n.log.getD k default).conf = 0 then n.base + k + 1 else Y0 n k
def Zp (n : Nd) (upto : Int) : Nat := min n.log.length (upto - n.base).toNat
theorem Z4 (n : Nd) : ∀ k, Y0 n k = match lc n.log k with
  | none => 0
  | some (j, _) => n.base + j + 1
 | 0 => rfl
 | k + 1 => by
  rw [Y0, lc]
  by_cases h : (n.log.getD k default).conf = 0
  ·rw [if_neg (fun h' => h' h), if_neg (fun h' => h' h)]
   exact Z4 n k
  ·rw [if_pos h, if_pos h]
theorem RU (n : Nd) : ∀ k, bcK n k = match lc n.log k with
  | none => n.baseConf
  | some (_, c) => c
 | 0 => rfl
 | k + 1 => by
  rw [bcK, lc]
  by_cases h : (n.log.getD k default).conf = 0
  ·rw [if_neg (fun h' => h' h), if_neg (fun h' => h' h)]
   exact RU n k
  ·rw [if_pos h, if_pos h]
theorem O3 (l : List En) : ∀ k j c, lc l k = some (j, c) → j < k ∧ (l.getD j default).conf = c
 | 0, _, _, h => by cases h
 | k + 1, j, c, h => by
  rw [lc] at h
  split at h
  ·cases h; exact ⟨by omega, rfl⟩
  ·have := O3 l k j c h; exact ⟨by omega, this.2⟩
theorem Tg {n : Nd} (hb1 : 0 ≤ n.base) {k : Nat} : 0 ≤ Y0 n k ∧ Y0 n k ≤ n.base + k := by
 rw [Z4]
 cases h : lc n.log k with
 | none => exact ⟨Int.le_refl _, by simp only; omega⟩
 | some p =>
  have := (O3 _ _ p.1 p.2 h).1
  simp only; omega
theorem LY (n : Nd) (upto : Int) (hl : n.log.length ≤ 1000000000) (hb1 : 0 ≤ n.base) (hb2 : n.base ≤ 1000000000000) : FnP Tryz.prog 122 [nd n, ei upto] (fun r => r = ei (Y0 n (Zp n upto))) := by
 refine fe Tryz.func122 fun S0 w0 => ?_
 show Sim _ _ [(0, T.agg (Qg n (.sl false (n.log.map een)))), (1, ei upto)] _ _
 refine zC ?_
 apply cr
 refine Xk fun b2 _ => ?_
 refine s_ Qb <| zC ?_
 refine X4 2 (by simp [Qg]) ?_
 refine zC ?_
 refine cr <| s_ Qb <| zC ?_
 refine cr <| s_ Qb <| zC ?_
 apply Qm (σ := Nat) (ok := fun k => k ≤ Zp n upto) (env := fun k => [(6, ei (k : Nat)), (5, ei (Y0 n k)), (2, .adr (.agg (Qg n (.sl false (n.log.map een))))), (1, ei upto)]) (heap := fun _ => []) (μ := fun k => n.log.length - k) (s0 := 0)
 ·exact Nat.zero_le _
 ·exact eL
 ·exact kR
 intro k hk
 have hkl : k ≤ n.log.length := Nat.le_trans hk (Nat.min_le_left _ _)
 refine zC ?_
 refine cr <| s_ Qa <| s_ Qj <| s_ Qf ?_
 (first | refine s_ QS ?_ | refine s_ QP ?_)
 refine s_ QN <| s_ Qa <| gT (fun hg => Qj) ?_
 refine gT (fun hg => Qf (hx := u_ hg)) ?_
 refine gT (fun hg => Qa) ?_
 refine gT (fun hg => QQ (hx := u_ hg) (hy := u_ hg)) ?_
 refine gT (fun hg => QQ (hx := u_ hg)) ?_
 refine gT (fun hg => Qa) ?_
 refine gT (fun hg => Ej (hx := u_ hg) (hy := u_ hg)) ?_
 refine s_ Xv <| zC ?_
 refine ci ?_ ?_
 ·intro hc
  have hc1 : k < n.log.length := by have := hc.1; simp only [List.length_map] at this; omega
  have hc2 : n.base + k + 1 ≤ upto := hc.2
  have hk1 : k + 1 ≤ Zp n upto := by unfold Zp; omega
  have hix := hc1
  have hg : n.log.getD k default = n.log[k] := by simp [hc1]
  refine zC ?_
  refine cr <| s_ Qj <| s_ Qf <| s_ Qa ?_
  (first | refine s_ (Q4 hix) ?_ | refine s_ (Q4 hix2) ?_ | refine s_ Yd ?_ | refine s_ Ys ?_)
  (first | refine s_ Qj ?_ | refine s_ Qc ?_)
  (first | refine s_ Qf ?_ | refine s_ Ql ?_)
  refine s_ XE <| zC ?_
  refine ci ?_ ?_
  ·intro hd
   refine zC ?_
   refine cr <| s_ Qj <| s_ Qf <| s_ Qa <| s_ QQ <| s_ QQ <| s_ Qb <| zC ?_
   refine cr <| s_ Qa <| s_ QQ <| s_ Qb <| zC ?_
   refine ⟨k + 1, hk1, by show n.log.length - (k + 1) < n.log.length - k; omega, ⟨Qh (by rfl) (Le.refl _), Qh (by (exact zG)) (Le.of_eq ?_), eL⟩, kR⟩
   rw [Y0, hg, if_pos hd]
   rfl
  ·intro hd
   refine zC ?_
   refine cr <| s_ Qa <| s_ QQ <| s_ Qb <| zC ?_
   refine ⟨k + 1, hk1, by show n.log.length - (k + 1) < n.log.length - k; omega, ⟨Qh (by rfl) (Le.refl _), Qh (by (exact zG)) (Le.of_eq ?_), eL⟩, kR⟩
   rw [Y0, hg, if_neg hd]
 ·intro hc
  have : k = Zp n upto := by
   unfold Zp at hk ⊢
   by_cases h : k < n.log.length
   ·have h2 : ¬ n.base + k + 1 ≤ upto := fun h2 => hc ⟨by simp only [List.length_map]; omega, h2⟩
    omega
   ·omega
  subst this
  refine zC ?_
  refine cr <| s_ Qa <| s_ Qb <| zC ?_
  refine zE ?_
  exact Le.refl _
theorem BC (n : Nd) (upto : Int) (hl : n.log.length ≤ 1000000000) (hb1 : 0 ≤ n.base) (hb2 : n.base ≤ 1000000000000) : FnP Tryz.prog 87 [nd n, ei upto] (fun r => r = ei (bcK n (Zp n upto))) := by
 have hp := LY n upto hl hb1 hb2
 have hpb := Tg (n := n) (k := Zp n upto) hb1
 have hlk : Zp n upto ≤ n.log.length := Nat.min_le_left _ _
 refine fe Tryz.func87 fun S0 w0 => ?_
 show Sim _ _ [(0, T.agg (Qg n (.sl false (n.log.map een)))), (1, ei upto)] _ _
 refine zC ?_
 apply cr
 refine Xk fun b2 _ => ?_
 refine s_ Qb <| zC ?_
 refine X4 2 (by simp [Qg]) ?_
 refine zC ?_
 refine cr <| s_ XN <| s_ Qa <| s_ (Qr (hp)) <| s_ Qb <| zC ?_
 refine cr <| s_ Qa <| s_ Q5 <| zC ?_
 have hcases : (Y0 n (Zp n upto) = 0 ∧ bcK n (Zp n upto) = n.baseConf) ∨ ∃ j : Nat, j < n.log.length ∧ Y0 n (Zp n upto) = n.base + j + 1 ∧ bcK n (Zp n upto) = (n.log.getD j default).conf := by
  rw [Z4, RU]
  cases h : lc n.log (Zp n upto) with
  | none => exact .inl ⟨rfl, rfl⟩
  | some p =>
   have hj := O3 _ _ p.1 p.2 h
   exact .inr ⟨p.1, by omega, rfl, hj.2.symm⟩
 rcases hcases with ⟨h1, h2⟩ | ⟨j, hj, h1, h2⟩
 ·rw [h1, h2]
  refine ci (fun _ => ?_) (fun hc => absurd rfl hc)
  refine zC ?_
  refine cr <| s_ Qj <| s_ Qf <| s_ Qb <| zC ?_
  refine zE ?_
  exact Le.refl _
 ·rw [h1, h2]
  refine ci (fun hc => ?_) (fun hc => ?_)
  ·exfalso
   have hc' : n.base + j + 1 = 0 := hc
   omega
  ·have hix := hj
   refine zC ?_
   refine cr <| s_ Qj <| s_ Qf <| s_ Qa <| s_ Qj <| s_ Qf <| s_ Yr <| s_ Yr ?_
   have e : n.base + j + 1 - n.base - 1 = ((j : Nat) : Int) := by omega
   rw [e]
   (first | refine s_ (Q4 hix) ?_ | refine s_ (Q4 hix2) ?_ | refine s_ Yd ?_ | refine s_ Ys ?_)
   (first | refine s_ Qj ?_ | refine s_ Qc ?_)
   (first | refine s_ Qf ?_ | refine s_ Ql ?_)
   refine s_ Qb <| zC ?_
   refine zE ?_
   have hg : n.log.getD j default = n.log[j] := by simp [hix]
   rw [hg]
   exact Le.refl _
theorem LM (n : Nd) : Zp n (Qq n) = n.log.length := by unfold Zp Qq; omega
theorem BR (n : Nd) : bcK n n.log.length = (QA n).2 := by
 rw [RU]
 unfold QA
 cases lc n.log n.log.length with
 | none => rfl
 | some p => rfl
theorem Jf (n : Nd) (hl : n.log.length ≤ 1000000000) (hb1 : 0 ≤ n.base) (hb2 : n.base ≤ 100000000000) : FnP Tryz.prog 59 [nd n] (fun r => r = ei (QA n).2) := by
 have hL := Y2 n hl (by omega) hb2
 have hC := BC n (Qq n) hl hb1 (by omega)
 rw [LM, BR] at hC
 refine fe Tryz.func59 fun S0 w0 => ?_
 show Sim _ _ [(0, T.agg (Qg n (.sl false (n.log.map een))))] _ _
 refine zC ?_
 apply cr
 refine Xk fun b1 _ => ?_
 refine s_ Qb <| zC ?_
 refine X4 1 (by simp [Qg]) ?_
 refine zC ?_
 refine cr <| s_ XN <| s_ (Qr (hL)) <| s_ Qa <| s_ Qt <| s_ Qt <| s_ Qb <| s_ Qb <| zC ?_
 refine cr <| s_ XN <| s_ Qa <| s_ (Qr (hC)) <| s_ Qb <| zC ?_
 refine zE ?_
 exact Le.refl _
theorem AX (n : Nd) (hl : n.log.length ≤ 1000000000) : FnP Tryz.prog 83 [nd n] (fun r => r = nd (QK n)) := by
 refine fe Tryz.func83 fun S0 w0 => ?_
 show Sim _ _ [(0, T.agg (Qg n (.sl false (n.log.map een))))] _ _
 refine zC ?_
 apply cr
 refine Xk fun b1 _ => ?_
 refine Xt fun b2 _ => ?_
 refine zC ?_
 refine Xr (List.Perm.swap _ _ _) ?_
 refine X4 1 (by simp [Qg]) ?_
 refine zC ?_
 refine ca [0, 1, 2, 3, 4, 5, 6, 7, 8, 9, 10, 11, 12, 13, 14, 15, 16, 17, 18, 19, 20, 21] [21] <| a_ (fun _ => Qj) <| a_ (fun _ => Qf) <| a_ (fun _ => Qj) <| a_ (fun _ => Qf) <| a_ (fun _ => Qj) <| a_ (fun _ => Qf) <| a_ (fun _ => Qj) <| a_ (fun _ => Qf) <| a_ (fun _ => Qj) <| a_ (fun _ => Qf) <| a_ (fun _ => Qj) <| a_ (fun _ => Qf) <| a_ (fun _ => Qj) <| a_ (fun _ => Qf) <| a_ (fun _ => XS) <| a_ (fun _ => Qj) <| a_ (fun _ => Qf) <| a_ (fun _ => CU) <| a_ (fun _ => Qj) <| a_ (fun _ => Qf) <| a_ (fun _ => PI 22) <| Q2 ?_
 apply an
 refine zC ?_
 refine zE ?_
 exact Le.refl _
theorem RD (f f' : Bool) (l m : List En) (hl : l.length ≤ 1000000000) (hm : m.length ≤ 1000000000) : FnP Tryz.prog 89 [.sl f (l.map een), .sl f' (m.map een)] (fun r => r = .v (.bool (decide (l = m)))) := by
 refine fe Tryz.func89 fun S0 w0 => ?_
 show Sim _ _ [(0, T.sl f (l.map een)), (1, T.sl f' (m.map een))] _ _
 refine zC ?_
 refine cr <| s_ Qb <| zC ?_
 refine cr <| s_ Qa ?_
 (first | refine s_ QS ?_ | refine s_ QP ?_)
 refine s_ Qa ?_
 (first | refine s_ QS ?_ | refine s_ QP ?_)
 refine s_ XE <| zC ?_
 refine ci ?_ ?_
 ·intro hne
  refine zC ?_
  refine cr <| s_ Qb <| zC ?_
  refine zE ?_
  refine Le.of_eq ?_
  rw [show decide (l = m) = false from decide_eq_false (fun h => hne (by rw [h]))]
  rfl
 intro hne
 have hlen : l.length = m.length := by simp only [List.length_map] at hne; omega
 refine zC ?_
 refine cr <| s_ Qb <| zC ?_
 apply Qm (σ := Nat) (ok := fun k => k ≤ l.length ∧ l.take k = m.take k) (env := fun k => [(5, ei (k : Nat)), (0, T.sl f (l.map een)), (1, T.sl f' (m.map een))]) (heap := fun _ => []) (μ := fun k => l.length - k) (s0 := 0)
 ·exact ⟨Nat.zero_le _, by simp⟩
 ·exact eL
 ·exact kR
 rintro k ⟨hk, htk⟩
 refine zC ?_
 refine cr <| s_ Qa <| s_ Qa ?_
 (first | refine s_ QS ?_ | refine s_ QP ?_)
 refine s_ QN <| zC ?_
 refine ci ?_ ?_
 ·intro hlt
  simp only [List.length_map] at hlt
  have hkl : k < l.length := by omega
  have hkm : k < m.length := by omega
  have hix := hkl
  have hix2 := hkm
  refine zC ?_
  refine ca [0, 1, 2, 3, 4, 5, 6, 7, 8] [] <| a_ (fun _ => Qa) <| a_ (fun _ => Qa) ?_
  (first | refine a_ (fun _ => Q4 hix) ?_ | refine a_ (fun _ => Q4 hix2) ?_ | refine a_ (fun _ => Yd) ?_ | refine a_ (fun _ => Ys) ?_)
  (first | refine a_ (fun _ => XN) ?_ | refine QR ?_)
  refine a_ (fun _ => Qa) <| a_ (fun _ => Qa) ?_
  (first | refine a_ (fun _ => Q4 hix) ?_ | refine a_ (fun _ => Q4 hix2) ?_ | refine a_ (fun _ => Yd) ?_ | refine a_ (fun _ => Ys) ?_)
  (first | refine a_ (fun _ => XN) ?_ | refine QR ?_)
  refine a_ (fun _ => HN 2 [.int .i64, .int .i64, .str] Tryz.eqGuardType146) ?_
  apply an
  refine zC ?_
  refine ci ?_ ?_
  ·intro hd
   refine zC ?_
   refine cr <| s_ Qb <| zC ?_
   refine zE ?_
   refine Le.of_eq ?_
   rw [show decide (l = m) = false from decide_eq_false (fun h => hd (by subst h; rfl))]
   rfl
  ·intro hd
   have he : l[k] = m[k] := Wu.1 (Classical.not_not.1 hd)
   refine zC ?_
   refine cr <| s_ Qa <| s_ QQ <| s_ Qb <| zC ?_
   refine ⟨k + 1, ⟨by omega, ?_⟩, by show l.length - (k + 1) < l.length - k; omega, ⟨Qh (by rfl) (Le.refl _), eL⟩, kR⟩
   rw [List.take_succ_eq_append_getElem hkl, List.take_succ_eq_append_getElem hkm, htk, he]
 ·intro hlt
  simp only [List.length_map] at hlt
  have hkl : k = l.length := by omega
  have he : l = m := by
   have := htk
   rwa [hkl, List.take_length, hlen, List.take_length] at this
  refine zC ?_
  refine cr <| s_ Qb <| zC ?_
  refine zE ?_
  refine Le.of_eq ?_
  rw [show decide (l = m) = true from decide_eq_true he]
  rfl
def rE : TypeId := 146
def rM : TypeId := 136
def rN : TypeId := 104
theorem Er {n : Nd} {lg : T} {to : Int} (h0 : 0 ≤ to) (h5 : to < 5) : (Qg n lg)[0 + 0 + 12 + to.toNat * 1]? = some (ei (n.next.get to.toNat)) := by
 rcases five h0 h5 with rfl | rfl | rfl | rfl | rfl <;> rfl
theorem We {n : Nd} {lg : T} {to : Int} (h0 : 0 ≤ to) (h5 : to < 5) : (Qg n lg)[0 + 0 + 17 + to.toNat * 1]? = some (ei (n.mtch.get to.toNat)) := by
 rcases five h0 h5 with rfl | rfl | rfl | rfl | rfl <;> rfl
theorem Tz {G : Qd} (m : Ms) {x y : T} (h : QJ G x y) : Qk G (msC m x) (msC m y) := by
 unfold msC
 repeat (first | exact Qk.nil | (refine Qk.cons h ?_) | (refine Qk.cons (QJ.le (Le.refl _)) ?_))
theorem GK (n : Nd) (to : Int) (h0 : 0 ≤ to) (h5 : to < 5) (hl : n.log.length ≤ 1000000000) (hb1 : 0 ≤ n.base) (hb2 : n.base ≤ 10000000000) (hx : n.next.get to.toNat ≤ Qq n + 1) : FnP Tryz.prog 151 [nd n, ei to] (fun r => r = ms (Y4 n to)) := by
 refine fe Tryz.func151 fun S0 w0 => ?_
 show Sim _ _ [(0, T.agg (Qg n (.sl false (n.log.map een)))), (1, ei to)] _ _
 refine zC ?_
 apply cr
 refine Xk fun b2 _ => ?_
 refine Xt fun b4 _ => ?_
 refine zC ?_
 refine cr <| s_ Qc <| s_ Ql <| s_ Qa <| s_ Qc <| s_ Ql <| s_ (YH 11 [_, _, _, _, _, _, _, _, _, _, _]) ?_
 refine Xt fun b5 _ => ?_
 refine Qn ?_
 refine zC ?_
 refine cr <| s_ Qa <| s_ Qc <| s_ Xp <| s_ (Ql (hd := Er h0 h5)) <| s_ Qb <| zC ?_
 refine cr <| s_ Qa <| s_ Qc <| s_ Ql <| s_ Ej <| zC ?_
 refine ci ?_ ?_
 ·intro hc
  refine zC ?_
  refine ca [0, 1, 2, 3, 4, 5, 6, 7, 8, 9, 10, 11, 12, 13, 14, 15, 16, 17] [9, 11, 13, 15, 17] <| a_ (fun _ => Qc) <| Qv ?_
  refine a_ (fun _ => Qc) <| Qv ?_
  refine a_ (fun _ => Qc) <| Qv ?_
  refine a_ (fun _ => Qc) <| Qv ?_
  refine a_ (fun _ => Qc) <| Q2 ?_
  refine a_ (fun _ => Qc) <| Q2 ?_
  refine a_ (fun _ => Qc) <| Q2 ?_
  refine a_ (fun _ => Qc) <| Q2 ?_
  refine a_ (fun _ => Qc) <| Q2 ?_
  apply an
  refine zC ?_
  refine cr <| s_ Qw <| Qn ?_
  refine zC ?_
  refine zE ?_
  rw [Y4, if_pos hc]
  refine Le.agg ?_
  repeat (first | exact LeL.nil | (refine LeL.cons (Le.refl _) ?_) | (refine LeL.cons (Le.nil _) ?_))
 ·intro hc
  have hla : Qq n = n.base + n.log.length := rfl
  have hT := Zy n (n.next.get to.toNat - 1) hl (by simp only [big]; omega) (by simp only [big]; omega) (by simp only [big]; omega) (by simp only [big]; omega)
  rw [JS (by omega) (by omega)] at hT
  refine zC ?_
  refine ca [0, 1, 2, 3, 4, 5, 6, 7, 8, 9, 10, 11, 12, 13, 14, 15] [9, 11, 13, 15] <| a_ (fun _ => Qa) <| a_ (fun _ => Yr) <| QR ?_
  refine a_ (fun _ => Qa) <| a_ (fun _ => Yr) <| a_ (fun _ => Qr (hT)) <| a_ (fun _ => Qc) <| Qv ?_
  refine a_ (fun _ => Qc) <| Q2 ?_
  refine a_ (fun _ => Qc) <| Q2 ?_
  refine a_ (fun _ => Qc) <| Q2 ?_
  refine a_ (fun _ => Qc) <| Q2 ?_
  apply an
  refine zC ?_
  refine cr <| s_ Qa <| s_ Qc <| s_ Ql <| s_ Yr <| s_ Yr <| s_ Qb <| zC ?_
  obtain ⟨a, ha⟩ : ∃ a : Nat, n.next.get to.toNat - n.base - 1 = (a : Nat) := ⟨(n.next.get to.toNat - n.base - 1).toNat, by omega⟩
  rw [ha]
  have hal : a ≤ n.log.length := by omega
  apply Qm (σ := Nat × Qd) (ok := fun s => s.1 ≤ 8 ∧ a + s.1 ≤ n.log.length ∧ ∃ v Hl, OSl rE 3 (((n.log.drop a).take s.1).map een) v Hl ∧ s.2 = (b5, ⟨rM, msC ⟨3, n.id, to, n.term, n.next.get to.toNat - 1, termF n (n.next.get to.toNat - 1), n.commit, 0, false, [], []⟩ (.v v), 11⟩) :: (Hl ++ [(b4, ⟨rM, msC Nn (.v (.slice none 0 0)), 11⟩), (b2, ⟨rN, Qg n (.sl false (n.log.map een)), 22⟩)]))
   (env := fun s => [(7, ei ((a + s.1 : Nat) : Int)), (5, pN b5), (4, pN b4), (2, pN b2)]) (heap := fun s => s.2) (μ := fun s => n.log.length - (a + s.1)) (s0 := (0, _))
  ·exact ⟨Nat.zero_le _, hal, _, [], by simpa using YE, rfl⟩
  ·exact eL
  ·exact kR
  rintro ⟨k, H⟩ ⟨hk8, hkl, v, Hl, h1, hH⟩
  simp only at hk8 hkl h1 hH
  subst hH
  have hlk : (((n.log.drop a).take k).map een).length = k := by simp; omega
  obtain ⟨p, c, hv⟩ := OSl.len h1
  rw [hlk] at hv
  subst hv
  refine zC ?_
  refine cr <| s_ Qa <| s_ Qc <| s_ Ql ?_
  (first | refine s_ QS ?_ | refine s_ QP ?_)
  refine s_ QN <| s_ Qa <| gT (fun hg => Qc) ?_
  refine gT (fun hg => Ql (hx := u_ hg)) ?_
  (first | refine gT (fun hg => QS (hx := u_ hg)) ?_ | refine gT (fun hg => QP (hx := u_ hg)) ?_)
  refine gT (fun hg => QN (hx := u_ hg)) ?_
  refine s_ Xv <| zC ?_
  refine ci ?_ ?_
  ·intro hc2
   have hlt : a + k < n.log.length := by have := hc2.1; simp only [List.length_map] at this; omega
   have hk8' : k < 8 := by omega
   have hix := hlt
   refine zC ?_
   refine ca [0, 1, 2, 3, 4, 5, 6, 7, 8, 9, 10] [8, 10] <| a_ (fun _ => Qc) <| Qv ?_
   refine a_ (fun _ => Qc) <| Qv ?_
   refine a_ (fun _ => Qa) ?_
   (first | refine a_ (fun _ => Q4 hix) ?_ | refine a_ (fun _ => Q4 hix2) ?_ | refine a_ (fun _ => Yd) ?_ | refine a_ (fun _ => Ys) ?_)
   (first | refine a_ (fun _ => XN) ?_ | refine QR ?_)
   refine a_ (fun _ => XS) ?_
   refine BV (ho := h1) (A := [_]) (B := [_, _]) (VM _) (fun v' Hl' h1' => ⟨zd, ?_⟩)
   refine zD ?_
   have h1 : OSl rE 3 (((n.log.drop a).take (k + 1)).map een) v' Hl' := by
    have e : (n.log.drop a).take (k + 1) = (n.log.drop a).take k ++ [n.log[a + k]] := by
     rw [List.take_succ_eq_append_getElem (by simp; omega), List.getElem_drop]
    rw [e, List.map_append]; exact h1'
   clear h1'
   obtain ⟨p, c, rfl⟩ := OSl.len h1
   refine a_ (fun _ => Qc) <| Q2 ?_
   apply an
   refine zC ?_
   refine cr <| s_ Qa <| s_ QQ <| s_ Qb <| zC ?_
   refine ⟨(k + 1, _), ⟨by simp only; omega, by simp only; omega, _, Hl', h1, rfl⟩, by show n.log.length - (a + (k + 1)) < n.log.length - (a + k); omega, ⟨Qh (by rfl) (Le.of_eq (by first | (congr 2; done) | (congr 2; omega) | (congr 2; simp only; omega))), eL⟩, kR⟩
  ·intro hc2
   refine zC ?_
   refine GQ (G := (b5, _) :: Hl) (H1 := [(b4, _), (b2, _)]) 5 (.adr (.agg (msC ⟨3, n.id, to, n.term, n.next.get to.toNat - 1, termF n (n.next.get to.toNat - 1), n.commit, 0, false, [], []⟩ (XZ ((n.log.drop a).take k))))) (QJ.ptr List.mem_cons_self (.inr ⟨_, rfl⟩) (Tz _ (OSl.lend h1 (by intro p hp; simp [hp]) (VM _) (WV _))) (by simp [T.cells, msC]) (by simp [T.cells, msC])) (List.Perm.of_eq rfl) ?_
   refine zC ?_
   refine cr <| s_ XN <| Qn ?_
   refine zC ?_
   refine zE ?_
   have hkk : (n.log.drop a).take k = (n.log.drop (min (n.next.get to.toNat - 1 - n.base) (n.log.length : Int)).toNat).take 8 := by
    have e : (min (n.next.get to.toNat - 1 - n.base) (n.log.length : Int)).toNat = a := by omega
    rw [e, List.take_eq_take_iff, List.length_drop]
    have : ¬ (a + k < n.log.length ∧ k < 8) := fun h => hc2 ⟨by simp only [List.length_map]; omega, by omega⟩
    omega
   rw [Y4, if_neg hc, ← hkk]
   exact Le.refl _
structure Rd (n : Nd) : Prop where
 bd : Bd n
 b0 : 0 ≤ n.base
 c0 : n.base ≤ n.commit
 c1 : n.commit ≤ Qq n
theorem Rd.sz {n : Nd} (h : Rd n) : n.log.length ≤ 1000000000 ∧ n.base ≤ 10000000000 ∧ n.commit ≤ 100000000000 := by
 have h1 := h.bd.log
 have h2 := h.bd.base1
 have h3 := h.c1
 simp only [Qq] at h3
 omega
theorem Wi (n : Nd) (k : Nat) : Mc n k = true ↔ ¬ (k : Int) = n.id ∧ isF (QA n).2 k = true := by simp [Mc]
theorem Gc {n : Nd} (hn : Rd n) (hx : ∀ to, to < 5 → n.next.get to ≤ Qq n + 1) : FnP Tryz.prog 111 [nd n] (fun r => r = mss (XJ n (Y4 n) 5)) := by
 have hsz := hn.sz
 have hb0 := hn.b0
 have hC := Jf n hsz.1 hn.b0 (by omega)
 refine fe Tryz.func111 fun S0 w0 => ?_
 show Sim _ _ [(0, T.agg (Qg n (.sl false (n.log.map een))))] _ _
 refine zC ?_
 apply cr
 refine Xk fun b1 _ => ?_
 refine s_ Qb <| zC ?_
 refine X4 1 (by simp [Qg]) ?_
 refine zC ?_
 refine cr <| s_ Qb <| zC ?_
 refine cr <| s_ Qb <| zC ?_
 apply Qm (σ := Nat × Value × Qd) (ok := fun s => s.1 ≤ 5 ∧ OSl rM 11 ((XJ n (Y4 n) s.1).map ms) s.2.1 s.2.2) (env := fun s => [(4, ei (s.1 : Nat)), (3, .v s.2.1), (1, .adr (.agg (Qg n (.sl false (n.log.map een)))))]) (heap := fun s => s.2.2) (μ := fun s => 5 - s.1) (s0 := (0, .slice none 0 0, []))
 ·exact ⟨Nat.zero_le _, YE⟩
 ·exact eL
 ·exact kR
 rintro ⟨k, v, H⟩ ⟨hk, h1⟩
 simp only at hk h1
 obtain ⟨p, c, rfl⟩ := OSl.len h1
 refine zC ?_
 refine cr <| s_ Qa <| s_ QN <| zC ?_
 refine ci ?_ ?_
 ·intro hlt
  have hk5 : k < 5 := by omega
  have hM := Vb (QA n).2 (k : Nat) (by omega) (by omega) hn.bd.conf0 hn.bd.conf1
  have hO := GK n (k : Nat) (by omega) (by omega) hsz.1 hn.b0 hsz.2.1 (by rw [Int.toNat_natCast]; exact hx k hk5)
  refine zC ?_
  refine cr <| s_ Qa <| s_ Qj <| s_ Qf <| s_ XE <| s_ Qa <| gT (fun hg => XN) ?_
  refine gT (fun hg => Qr (hC) (ha' := by apply Qu (u_ hg); exact Xh)) ?_
  refine gT (fun hg => Qa) ?_
  refine gT (fun hg => Qr (hM) (ha' := by apply Qu (u_ hg); apply Qu (u_ hg); exact Xh)) ?_
  refine s_ Xv <| zC ?_
  refine ci ?_ ?_
  ·intro hc
   have hm : Mc n k = true := (Wi n k).2 hc
   have hlen := JR n (Y4 n) k
   refine zC ?_
   refine cr <| s_ Qa <| s_ XN <| s_ Qa <| s_ (Qr (hO)) <| s_ XS ?_
   refine Ot (ho := h1) (A := []) (B := []) (ZX _) (fun v' H' h1' => ?_) (hH := by simp)
   have h1 : OSl rM 11 ((XJ n (Y4 n) (k + 1)).map ms) v' H' := by
    rw [Zx, if_pos hm, List.map_append]; exact h1'
   clear h1'
   obtain ⟨p, c, rfl⟩ := OSl.len h1
   refine s_ Qb <| zC ?_
   refine cr <| s_ Qa <| s_ QQ <| s_ Qb <| zC ?_
   exact ⟨(k + 1, _, H'), ⟨by simp only; omega, h1⟩, by show 5 - (k + 1) < 5 - k; omega, ⟨Qh (by rfl) (Le.refl _), Qh (by (exact zG)) (Le.refl _), eL⟩, by simpa using kR⟩
  ·intro hc
   have hm : ¬ Mc n k = true := fun h => hc ((Wi n k).1 h)
   refine zC ?_
   refine cr <| s_ Qa <| s_ QQ <| s_ Qb <| zC ?_
   exact ⟨(k + 1, .slice p ((XJ n (Y4 n) k).map ms).length c, H), ⟨by simp only; omega, by simp only; rw [Zx, if_neg hm, List.append_nil]; exact h1⟩, by show 5 - (k + 1) < 5 - k; omega, ⟨Qh (by rfl) (Le.refl _), eL⟩, kR⟩
 ·intro hlt
  have hk5 : k = 5 := by omega
  subst hk5
  refine zC ?_
  refine PT 3 (mss (XJ n (Y4 n) 5)) (OSl.lend h1 (fun _ h => h) (ZX _) (ID _)) ?_
  refine zC ?_
  refine cr <| s_ Qa <| s_ Qb <| zC ?_
  refine zE ?_
  exact Le.refl _
end Go.Proofs.YtjbokbikkcfjjaaGreat
