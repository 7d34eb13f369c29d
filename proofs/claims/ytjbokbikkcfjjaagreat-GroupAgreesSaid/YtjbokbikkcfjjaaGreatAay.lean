/-
  group: asked, Do, Change.
-/
import Derived.Test.YtjbokbikkcfjjaaGreatAax
set_option maxRecDepth 16000
set_option maxHeartbeats 8000000
set_option linter.all false
namespace Go.Proofs.YtjbokbikkcfjjaaGreat
open Go.Cap
attribute [local irreducible] POp Qf Pw EOp Sim FnH T.gp
theorem VG (bg : Nat) (g : Gp) (H : Qd) (i : Int) (hG : IsG bg g H) : FnH Tryz.prog 38 [pW bg, ei i] H (fun r H' => r = ei (XH g i) ∧ H' = H) := by
 have hI := J6 bg g H i hG
 have hT := VF bg g H i hG
 obtain ⟨q, iq, hq⟩ := BH (b := Q9 g i)
 rw [hq] at hT
 refine fe Tryz.func38 fun S0 w0 => ?_
 show Sim _ _ [(0, pW bg), (1, ei i)] H _
 refine zC ?_
 refine cr <| s_ Qb <| zC ?_
 refine cr <| s_ Qa <| s_ Qa ?_
 refine QN hI (fun r H' ⟨hr1, hr2⟩ => ?_)
 subst hr1 hr2
 refine s_ Yr <| s_ Qb <| zC ?_
 refine ci (p := ¬ isI i) ?_ ?_
 ·intro hn
  refine zC ?_
  refine cr <| s_ Qb <| zC ?_
  refine zR ?_
  refine rh kR ⟨rfl, rfl⟩ ?_
  exact Le.of_eq (congrArg ei (by unfold XH; rw [if_pos hn]))
 intro hn
 refine zC ?_
 refine cr <| s_ Qa <| s_ Qa ?_
 refine QN hT (fun r H' ⟨hr1, hr2⟩ => ?_)
 subst hr1 hr2
 refine s_ Yr <| s_ Qb <| zC ?_
 refine ci (p := ¬ q) ?_ ?_
 ·intro hnq
  refine zC ?_
  refine cr <| s_ Qb <| zC ?_
  refine zR ?_
  refine rh kR ⟨rfl, rfl⟩ ?_
  exact Le.of_eq (congrArg ei (by unfold XH; rw [if_neg hn, if_pos (by rw [hq]; simpa using hnq)]))
 ·intro hnq
  refine zC ?_
  refine cr <| s_ Qb <| zC ?_
  refine zR ?_
  refine rh kR ⟨rfl, rfl⟩ ?_
  exact Le.of_eq (congrArg ei (by unfold XH; rw [if_neg hn, if_neg (by rw [hq]; simpa using hnq)]))
def VY (P : Nat → En → Prop) (N t : Nd) (e : Int) : Prop := (¬ e = 0 ∧ t = N) ∨ (e = 0 ∧ N.role = 2 ∧ ∃ en, t = MV N en ∧ P N.log.length ⟨N.term, en.conf, en.cmd⟩)
theorem Wc {P : Nat → En → Prop} {N : Nd} {cmd : List UInt8} (h : P N.log.length ⟨N.term, 0, cmd⟩) : VY P N (XD N cmd).1 (XD N cmd).2.2 := by
 unfold XD
 split
 ·exact .inl ⟨by simp only; omega, rfl⟩
 ·rename_i hr
  split
  ·exact .inl ⟨by simp only; omega, rfl⟩
  ·exact .inr ⟨rfl, Classical.not_not.1 hr, _, rfl, h⟩
theorem Uo {P : Nat → En → Prop} {N : Nd} {conf : Int} (h : 1 ≤ conf → conf ≤ 31 → P N.log.length ⟨N.term, conf, []⟩) : VY P N (QS N conf).1 (QS N conf).2.2 := by
 unfold QS
 split
 ·exact .inl ⟨by simp only; omega, rfl⟩
 ·rename_i hr
  split
  ·exact .inl ⟨by simp only; omega, rfl⟩
  ·rename_i hc
   split
   ·exact .inl ⟨by simp only; omega, rfl⟩
   ·exact .inr ⟨rfl, Classical.not_not.1 hr, _, rfl, h (by omega) (by omega)⟩
section
variable {P : Nat → En → Prop} {g : Gp} {τ l u : Nat}
theorem VY.nb {N t : Nd} {e : Int} (h : NB P N τ l) (hb : VY P N t e) : NB P t τ (l + 1) ∧ Go.Proofs.YtjbokbikkcfjjaaGreat.pot t ≤ Go.Proofs.YtjbokbikkcfjjaaGreat.pot N := by
 rcases hb with ⟨_, rfl⟩ | ⟨_, hr, en, rfl, hp⟩
 ·exact ⟨h.le (Nat.le_refl _) (by omega), Nat.le_refl _⟩
 ·exact h.put hr hp
theorem VY.id {N t : Nd} {e : Int} (hb : VY P N t e) : t.id = N.id := by
 rcases hb with ⟨_, rfl⟩ | ⟨_, hr, en, rfl, hp⟩
 ·rfl
 ·exact UP (Z4 N en)
theorem As (g : Gp) (i : Nat) (t : Nd) (e : Int) : JS g i t e = { g with ks := g.ks.set i (QH (g.k i) t e).1, way := g.way ++ [] } := by unfold JS; rw [List.append_nil]
theorem GB.put (h : GB P g τ l u) {i : Nat} (hi : i < 5) {t : Nd} {e : Int} (hb : VY P (g.k i).N t e) : ∃ l', GB P (JS g i t e) τ l' (u + 5) ∧ l ≤ l' := by
 obtain ⟨h1, h2⟩ := OO (h.ki i hi) t e
 have hn := h.nb i hi
 obtain ⟨n1, n2⟩ := hb.nb hn
 have hg : (QH (g.k i) t e).1.N = t ∨ (QH (g.k i) t e).1.N = (g.k i).N := by
  split at h2
  ·exact .inl h2
  ·exact .inr h2
 have hil : i < g.ks.length := by rw [h.ks]; exact hi
 have hk : g.ks[i] = g.k i := by unfold Gp.k; rw [List.getD_eq_getElem?_getD, List.getElem?_eq_getElem hil, Option.getD_some]
 rw [As]
 refine ⟨l + 1, ⟨by simp [h.ks], h.aw, fun j hj => ?_, fun j hj => ?_, fun j hj => ?_, fun m hm => ?_, ?_, ?_, by have := h.tau; omega⟩, by omega⟩
 ·rw [Gp.k_set (by rw [h.ks]; exact hj)]; split
  ·exact h1
  ·exact h.ki j hj
 ·rw [Gp.k_set (by rw [h.ks]; exact hj)]; split
  ·rename_i e0; subst e0
   rcases hg with e1 | e1
   ·rw [e1, hb.id]; exact h.id i hi
   ·rw [e1]; exact h.id i hi
  ·exact h.id j hj
 ·rw [Gp.k_set (by rw [h.ks]; exact hj)]; split
  ·rcases hg with e1 | e1
   ·rw [e1]; exact n1
   ·rw [e1]; exact hn.le (Nat.le_refl _) (by omega)
  ·exact (h.nb j hj).le (Nat.le_refl _) (by omega)
 ·rw [List.append_nil] at hm
  exact (h.way m hm).le (Nat.le_refl _) (by omega)
 ·have := h.many; simp only [List.append_nil]; omega
 ·have := V9 (fun K => Go.Proofs.YtjbokbikkcfjjaaGreat.pot K.N) g.ks i (QH (g.k i) t e).1 hil
  rw [hk] at this
  have hf := h.fuel
  have hpn : Go.Proofs.YtjbokbikkcfjjaaGreat.pot (QH (g.k i) t e).1.N ≤ Go.Proofs.YtjbokbikkcfjjaaGreat.pot (g.k i).N := by
   rcases hg with e1 | e1
   ·rw [e1]; exact n2
   ·rw [e1]; exact Nat.le_refl _
  simp only at this ⊢
  omega
end
theorem OV {bg : Nat} {g : Gp} {a : Nat → Ad} {bm : Nat} {es : List (Value × T × Nat)} {clk : Nat} {W : Qd} {wv : Value} {i : Nat} {t : Nd} {e : Int} (hks : g.ks.length = 5) (hA : E4 g.aw es) (hO : OM g.way wv W) : IsG bg (JS g i t e) (gH bg g.conf a bm es clk W wv (upA g.k i (QH (g.k i) t e).1)) := by
 refine ⟨a, bm, es, clk, W, wv, hA, hO, ?_⟩
 show _ = gH bg g.conf a bm es clk W wv (JS g i t e).k
 unfold gH
 rw [EB a (upA g.k i (QH (g.k i) t e).1) (JS g i t e).k (fun j hj => ?_)]
 have := Gp.k_set (g := g) (i := i) (j := j) (K := (QH (g.k i) t e).1) (w := g.way) (by rw [hks]; exact hj)
 show Gp.k { g with ks := g.ks.set i (QH (g.k i) t e).1 } j = _
 rw [this]
 unfold upA
 by_cases hij : i = j
 ·subst hij; simp
 ·rw [if_neg hij, if_neg (fun e => hij e.symm)]
theorem Nh {P : Nat → En → Prop} {τ l u : Nat} (hP : PK P) (bg : Nat) (g : Gp) (H : Qd) (i : Int) (cmd : List UInt8) (h : GB P g τ l u) (hu : u + 205 ≤ 25000) (hC : P (g.k i.toNat).N.log.length ⟨(g.k i.toNat).N.term, 0, cmd⟩) (hG : IsG bg g H) : FnH Tryz.prog 17 [pW bg, ei i, es cmd] H (fun r H' => r = ei (doG g i cmd).2 ∧ IsG bg (doG g i cmd).1 H') := by
 have hAsk := VG bg g H i hG
 by_cases hask : ¬ XH g i = 0
 ·refine fe Tryz.func17 fun S0 w0 => ?_
  show Sim _ _ [(0, pW bg), (1, ei i), (2, es cmd)] H _
  refine zC ?_
  refine cr <| s_ Qb <| zC ?_
  refine cr <| s_ Qa <| s_ Qa ?_
  refine QN hAsk (fun r H' ⟨hr1, hr2⟩ => ?_)
  subst hr1 hr2
  refine s_ Qb <| zC ?_
  refine cr <| s_ Qa <| s_ Yg <| zC ?_
  refine ci (p := ¬ XH g i = 0) (fun _ => ?_) (fun h => absurd hask h)
  refine zC ?_
  refine cr <| s_ Qa <| s_ Qb <| zC ?_
  refine zR ?_
  refine rh kR ⟨rfl, ?_⟩ ?_
  ·unfold doG; rw [if_pos hask]; exact hG
  ·exact Le.of_eq (congrArg ei (by unfold doG; rw [if_pos hask]))
 have hth : Q9 g i = true := by
  unfold XH at hask
  split at hask
  ·exact absurd (by omega) hask
  ·split at hask
   ·exact absurd (by omega) hask
   ·rename_i h1; exact Classical.not_not.1 h1
 have hi := Xk hth
 obtain ⟨h5, hin⟩ := Q3 hi
 have hb := Wc (P := P) (N := (g.k i.toNat).N) (cmd := cmd) hC
 have hspec : doG g i cmd = EY g i (XD (g.k i.toNat).N cmd).1 (XD (g.k i.toNat).N cmd).2.1 (XD (g.k i.toNat).N cmd).2.2 := by unfold doG; rw [if_neg hask]
 rw [hspec]
 have hnb := h.nb _ h5
 have hfive := h.five
 have hlen := hnb.len
 have hcnf := hnb.cnf hP.toPO
 obtain ⟨n1, n2⟩ := hb.nb hnb
 have hpot := h.pot h5
 have hidx : 0 ≤ (XD (g.k i.toNat).N cmd).2.1 ∧ (XD (g.k i.toNat).N cmd).2.1 ≤ 100000 := by
  have hbs := hnb.base
  unfold XD
  repeat' split
  all_goals simp only; omega
 have hsz := n1.sz hP (by have := h.tau; omega) (by omega)
 have hrc := n1.rec_ hP (by omega)
 obtain ⟨l', hgb, _⟩ := h.put h5 hb
 have hok := h.ok hP (by omega) h5
 have hcall := fun bk bj bd => CW bk bj bd (g.k i.toNat) cmd (At cmd (hnb.bd hP.toPO (by omega)) (by omega)) hok hsz (by omega)
 obtain ⟨⟨K', e'⟩, hke⟩ : ∃ x, QH (g.k i.toNat) (XD (g.k i.toNat).N cmd).1 (XD (g.k i.toNat).N cmd).2.2 = x := ⟨_, rfl⟩
 unfold EY
 unfold Ar at hcall
 have hput := fun bm em clk W wv a hA hO => OV (bg := bg) (g := g) (a := a) (bm := bm) (es := em) (clk := clk) (W := W) (wv := wv) (i := i.toNat) (t := (XD (g.k i.toNat).N cmd).1) (e := (XD (g.k i.toNat).N cmd).2.2) h.ks hA hO
 obtain ⟨g1, hg1⟩ : ∃ g1, g1 = JS g i.toNat (XD (g.k i.toNat).N cmd).1 (XD (g.k i.toNat).N cmd).2.2 := ⟨_, rfl⟩
 rw [← hg1] at hgb hput ⊢
 rw [hke] at hcall hput ⊢
 simp only at hcall hput ⊢
 generalize (XD (g.k i.toNat).N cmd).2.1 = index at hidx hcall ⊢
 obtain ⟨a, bm, em, clk, W, wv, hA, hO, rfl⟩ := hG
 have hput := hput bm em clk W wv a hA hO
 have hcall := hcall (a i.toNat).bk (a i.toNat).bj (a i.toNat).bd
 have hck := EC (conf := g.conf) (a := a) (bm := bm) (wv := wv) hi
 have hp5 : 0 ≤ i ∧ i < 5 := hi
 have hperm := J4 (x := (bg, ⟨tG, gC g.conf a bm wv, 13⟩)) (y := (bm, ⟨.map em clk, [], 0⟩)) (W := W) (Vi a g.k h5)
 have hperm2 : ((bg, ⟨tG, gC g.conf a bm wv, 13⟩) :: (bm, ⟨.map em clk, [], 0⟩) :: (W ++ gM a (upA g.k i.toNat K'))).Perm (mH (a i.toNat) K' ++ ((bg, ⟨tG, gC g.conf a bm wv, 13⟩) :: (bm, ⟨.map em clk, [], 0⟩) :: (W ++ gO a g.k i.toNat))) := by
  refine J4 ?_
  have := (Mi a a g.k (upA g.k i.toNat K') h5 (fun j _ hj => ⟨rfl, by unfold upA; rw [if_neg hj]⟩)).symm
  simpa [upA] using this
 have hask0 : XH g i = 0 := Classical.not_not.1 hask
 refine fe Tryz.func17 fun S0 w0 => ?_
 show Sim _ _ [(0, pW bg), (1, ei i), (2, es cmd)] ((bg, ⟨tG, gC g.conf a bm wv, 13⟩) :: (bm, ⟨.map em clk, [], 0⟩) :: (W ++ gM a g.k)) _
 refine zC ?_
 refine cr <| s_ Qb <| zC ?_
 refine cr <| s_ Qa <| s_ Qa ?_
 refine QN hAsk (fun r H' ⟨hr1, hr2⟩ => ?_)
 subst hr1 hr2
 refine s_ Qb <| zC ?_
 refine cr <| s_ Qa <| s_ Yg <| zC ?_
 refine ci (p := ¬ XH g i = 0) (fun h => absurd hask0 h) (fun _ => ?_)
 refine zC ?_
 refine cr <| s_ Qa <| s_ Qa <| s_ Qe <| s_ Qc <| s_ Yx <| s_ Qc <| s_ (Qj (hd := by first | rfl | assumption)) <| s_ Qa ?_
 refine QV hcall hperm (fun r H' ⟨hr1, hr2⟩ => ?_)
 subst hr1 hr2
 refine Qy hperm2.symm ?_
 refine s_ Qa <| s_ QD <| s_ QD <| s_ Qb <| s_ Qb <| zC ?_
 by_cases he' : e' = 0
 ·have hw := Es hP bg g1 _ i index hi hgb (by omega) hidx.1 (by omega) hput
  simp only [if_pos he']
  rw [if_neg (show ¬ ¬ e' = 0 from fun h => h he')]
  rw [he']
  refine zC ?_
  refine cr <| s_ Qa <| s_ Qa <| s_ Qa <| s_ Qa ?_
  refine QN hw (fun r H' ⟨hr1, hr2⟩ => ?_)
  subst hr1
  refine s_ Qb <| zC ?_
  refine zR ?_
  exact rh kR ⟨rfl, hr2⟩ (Le.refl _)
 ·have hw := Mg bg (gH bg g.conf a bm em clk W wv (upA g.k i.toNat K')) i (if e' = 0 then index else 0) e' he'
  rw [if_pos (show ¬ e' = 0 from he')]
  refine zC ?_
  refine cr <| s_ Qa <| s_ Qa <| s_ Qa <| s_ Qa ?_
  refine QN hw (fun r H' ⟨hr1, hr2⟩ => ?_)
  subst hr1 hr2
  refine s_ Qb <| zC ?_
  refine zR ?_
  exact rh kR ⟨rfl, hput⟩ (Le.refl _)
theorem GH {P : Nat → En → Prop} {τ l u : Nat} (hP : PK P) (bg : Nat) (g : Gp) (H : Qd) (i : Int) (conf : Int) (h : GB P g τ l u) (hu : u + 205 ≤ 25000) (hC : 1 ≤ conf → conf ≤ 31 → P (g.k i.toNat).N.log.length ⟨(g.k i.toNat).N.term, conf, []⟩) (hG : IsG bg g H) : FnH Tryz.prog 27 [pW bg, ei i, ei conf] H (fun r H' => r = ei (Y0 g i conf).2 ∧ IsG bg (Y0 g i conf).1 H') := by
 have hAsk := VG bg g H i hG
 by_cases hask : ¬ XH g i = 0
 ·refine fe Tryz.func27 fun S0 w0 => ?_
  show Sim _ _ [(0, pW bg), (1, ei i), (2, ei conf)] H _
  refine zC ?_
  refine cr <| s_ Qb <| zC ?_
  refine cr <| s_ Qa <| s_ Qa ?_
  refine QN hAsk (fun r H' ⟨hr1, hr2⟩ => ?_)
  subst hr1 hr2
  refine s_ Qb <| zC ?_
  refine cr <| s_ Qa <| s_ Yg <| zC ?_
  refine ci (p := ¬ XH g i = 0) (fun _ => ?_) (fun h => absurd hask h)
  refine zC ?_
  refine cr <| s_ Qa <| s_ Qb <| zC ?_
  refine zR ?_
  refine rh kR ⟨rfl, ?_⟩ ?_
  ·unfold Y0; rw [if_pos hask]; exact hG
  ·exact Le.of_eq (congrArg ei (by unfold Y0; rw [if_pos hask]))
 have hth : Q9 g i = true := by
  unfold XH at hask
  split at hask
  ·exact absurd (by omega) hask
  ·split at hask
   ·exact absurd (by omega) hask
   ·rename_i h1; exact Classical.not_not.1 h1
 have hi := Xk hth
 obtain ⟨h5, hin⟩ := Q3 hi
 have hb := Uo (P := P) (N := (g.k i.toNat).N) (conf := conf) hC
 have hspec : Y0 g i conf = EY g i (QS (g.k i.toNat).N conf).1 (QS (g.k i.toNat).N conf).2.1 (QS (g.k i.toNat).N conf).2.2 := by unfold Y0; rw [if_neg hask]
 rw [hspec]
 have hnb := h.nb _ h5
 have hfive := h.five
 have hlen := hnb.len
 have hcnf := hnb.cnf hP.toPO
 obtain ⟨n1, n2⟩ := hb.nb hnb
 have hpot := h.pot h5
 have hidx : 0 ≤ (QS (g.k i.toNat).N conf).2.1 ∧ (QS (g.k i.toNat).N conf).2.1 ≤ 100000 := by
  have hbs := hnb.base
  unfold QS
  repeat' split
  all_goals simp only; omega
 have hsz := n1.sz hP (by have := h.tau; omega) (by omega)
 have hrc := n1.rec_ hP (by omega)
 obtain ⟨l', hgb, _⟩ := h.put h5 hb
 have hok := h.ok hP (by omega) h5
 have hcall := fun bk bj bd => GC bk bj bd (g.k i.toNat) conf (Iv conf (hnb.bd hP.toPO (by omega)) (by omega) (by unfold big; have := hnb.com0; omega) (by unfold big; have := hnb.com1; omega)) hok hsz (by omega)
 obtain ⟨⟨K', e'⟩, hke⟩ : ∃ x, QH (g.k i.toNat) (QS (g.k i.toNat).N conf).1 (QS (g.k i.toNat).N conf).2.2 = x := ⟨_, rfl⟩
 unfold EY
 unfold Ar at hcall
 have hput := fun bm em clk W wv a hA hO => OV (bg := bg) (g := g) (a := a) (bm := bm) (es := em) (clk := clk) (W := W) (wv := wv) (i := i.toNat) (t := (QS (g.k i.toNat).N conf).1) (e := (QS (g.k i.toNat).N conf).2.2) h.ks hA hO
 obtain ⟨g1, hg1⟩ : ∃ g1, g1 = JS g i.toNat (QS (g.k i.toNat).N conf).1 (QS (g.k i.toNat).N conf).2.2 := ⟨_, rfl⟩
 rw [← hg1] at hgb hput ⊢
 rw [hke] at hcall hput ⊢
 simp only at hcall hput ⊢
 generalize (QS (g.k i.toNat).N conf).2.1 = index at hidx hcall ⊢
 obtain ⟨a, bm, em, clk, W, wv, hA, hO, rfl⟩ := hG
 have hput := hput bm em clk W wv a hA hO
 have hcall := hcall (a i.toNat).bk (a i.toNat).bj (a i.toNat).bd
 have hck := EC (conf := g.conf) (a := a) (bm := bm) (wv := wv) hi
 have hp5 : 0 ≤ i ∧ i < 5 := hi
 have hperm := J4 (x := (bg, ⟨tG, gC g.conf a bm wv, 13⟩)) (y := (bm, ⟨.map em clk, [], 0⟩)) (W := W) (Vi a g.k h5)
 have hperm2 : ((bg, ⟨tG, gC g.conf a bm wv, 13⟩) :: (bm, ⟨.map em clk, [], 0⟩) :: (W ++ gM a (upA g.k i.toNat K'))).Perm (mH (a i.toNat) K' ++ ((bg, ⟨tG, gC g.conf a bm wv, 13⟩) :: (bm, ⟨.map em clk, [], 0⟩) :: (W ++ gO a g.k i.toNat))) := by
  refine J4 ?_
  have := (Mi a a g.k (upA g.k i.toNat K') h5 (fun j _ hj => ⟨rfl, by unfold upA; rw [if_neg hj]⟩)).symm
  simpa [upA] using this
 have hask0 : XH g i = 0 := Classical.not_not.1 hask
 refine fe Tryz.func27 fun S0 w0 => ?_
 show Sim _ _ [(0, pW bg), (1, ei i), (2, ei conf)] ((bg, ⟨tG, gC g.conf a bm wv, 13⟩) :: (bm, ⟨.map em clk, [], 0⟩) :: (W ++ gM a g.k)) _
 refine zC ?_
 refine cr <| s_ Qb <| zC ?_
 refine cr <| s_ Qa <| s_ Qa ?_
 refine QN hAsk (fun r H' ⟨hr1, hr2⟩ => ?_)
 subst hr1 hr2
 refine s_ Qb <| zC ?_
 refine cr <| s_ Qa <| s_ Yg <| zC ?_
 refine ci (p := ¬ XH g i = 0) (fun h => absurd hask0 h) (fun _ => ?_)
 refine zC ?_
 refine cr <| s_ Qa <| s_ Qa <| s_ Qe <| s_ Qc <| s_ Yx <| s_ Qc <| s_ (Qj (hd := by first | rfl | assumption)) <| s_ Qa ?_
 refine QV hcall hperm (fun r H' ⟨hr1, hr2⟩ => ?_)
 subst hr1 hr2
 refine Qy hperm2.symm ?_
 refine s_ Qa <| s_ QD <| s_ QD <| s_ Qb <| s_ Qb <| zC ?_
 by_cases he' : e' = 0
 ·have hw := Es hP bg g1 _ i index hi hgb (by omega) hidx.1 (by omega) hput
  simp only [if_pos he']
  rw [if_neg (show ¬ ¬ e' = 0 from fun h => h he')]
  rw [he']
  refine zC ?_
  refine cr <| s_ Qa <| s_ Qa <| s_ Qa <| s_ Qa ?_
  refine QN hw (fun r H' ⟨hr1, hr2⟩ => ?_)
  subst hr1
  refine s_ Qb <| zC ?_
  refine zR ?_
  exact rh kR ⟨rfl, hr2⟩ (Le.refl _)
 ·have hw := Mg bg (gH bg g.conf a bm em clk W wv (upA g.k i.toNat K')) i (if e' = 0 then index else 0) e' he'
  rw [if_pos (show ¬ e' = 0 from he')]
  refine zC ?_
  refine cr <| s_ Qa <| s_ Qa <| s_ Qa <| s_ Qa ?_
  refine QN hw (fun r H' ⟨hr1, hr2⟩ => ?_)
  subst hr1 hr2
  refine s_ Qb <| zC ?_
  refine zR ?_
  exact rh kR ⟨rfl, hput⟩ (Le.refl _)
end Go.Proofs.YtjbokbikkcfjjaaGreat
namespace Go.Proofs.YtjbokbikkcfjjaaGreat
open Go.Cap
section
variable {P : Nat → En → Prop} {g : Gp} {τ l u : Nat} {conf : Int}
theorem CT {K : Kp} {t : Nd} {e : Int} (he : ¬ e = 0) : QH K t e = (K, e) := by unfold QH; rw [if_pos he]
theorem Ck {g : Gp} {i : Nat} (hi : i < g.ks.length) : { g with ks := g.ks.set i (g.k i) } = g := by
 have : g.ks.set i (g.k i) = g.ks := by
  unfold Gp.k
  rw [List.getD_eq_getElem?_getD, List.getElem?_eq_getElem hi, Option.getD_some, List.set_getElem_self]
 rw [this]
end
end Go.Proofs.YtjbokbikkcfjjaaGreat
namespace Go.Proofs.YtjbokbikkcfjjaaGreat
open Go.Cap
attribute [local irreducible] POp Qf Pw EOp Sim FnH T.gp
def NC (n : Nd) (k : Int) : Nd := { n with wait := k }
def cand : Nd := QC (NC (Xl 0 31) 5)
def ch (k : Nat) : List UInt8 := [UInt8.ofNat (97 + k)]
def pN (b : Nat) : T := .v (.pointer (some ⟨b, 0, none⟩))

structure Rd (n : Nd) : Prop where
 bd : Bd n
 b0 : 0 ≤ n.base
 c0 : n.base ≤ n.commit
 c1 : n.commit ≤ QT n
def PM (n : Nd) (conf : Int) (j : Nat) : Prop := (n.log.getD j default).term = n.term ∧ XE conf (YD n.mtch (n.base + j + 1) 5) = true
theorem O7 (n : Nd) (conf : Int) : ∀ k, n.commit ≤ XN n conf k
 | 0 => Int.le_refl _
 | k + 1 => by
  have := O7 n conf k
  rw [XN]
  split <;> omega
theorem BM {n : Nd} {conf x : Int} (hx : n.commit ≤ x) : ∀ k, (∀ j, j < k → PM n conf j → n.base + j + 1 ≤ x) → XN n conf k ≤ x
 | 0, _ => hx
 | k + 1, h => by
  have := BM hx k (fun j hj hc => h j (by omega) hc)
  rw [XN]
  split
  ·rename_i hc
   have := h k (by omega) hc
   omega
  ·exact this
theorem Dy (n : Nd) (h : n.commit ≤ QT n) : (QU n).commit ≤ QT n ∧ n.commit ≤ (QU n).commit := by
 have h1 := BM (conf := (Qx n).2) h n.log.length (fun j hj _ => by simp only [QT]; omega)
 have h2 := O7 n (Qx n).2 n.log.length
 unfold QU
 split <;> exact ⟨h1, h2⟩
theorem Rd.commit {n : Nd} (h : Rd n) : Rd (QU n) := by
 have h1 := Dy n h.c1
 have h2 := h.bd.commit
 obtain ⟨c, r, w, e⟩ := UQ n
 have h0 := h.c0
 have hb := h.b0
 rw [e] at h1 h2 ⊢
 exact ⟨h2, hb, by simp only at h1 ⊢; omega, h1.1⟩
theorem Rd.put {n : Nd} {e : En} (h : Rd n) (hl : n.log.length < 100000000) (h0 : 0 ≤ e.conf) (h1 : e.conf ≤ 31) : Rd (Z4 n e) :=
 ⟨h.bd.put hl h0 h1, h.b0, h.c0, by have := h.c1; simp only [QT, Z4, List.length_append, List.length_singleton] at *; omega⟩





end Go.Proofs.YtjbokbikkcfjjaaGreat
namespace Go.Cap
section
variable {K : Ctx} {P : Program} {t : Env} {H : Qd} {N : Env → Qd → Prop} {ty ty' tp : TypeId} {pos : String} {aft : Array Edge} {g : Option (Nat × Bool)} {ops : Array Oper} {i : Nat} {l : List Oper} {kd : Tmp} {eff : List Nat} {pend : List Xb} {al : List (Nat × Oper)} {dst : Option Tmp}
def OSo (e : TypeId) (k : Nat) (xs : List T) (v : Value) (Hs : Qd) : Prop :=
 (xs = [] ∧ (∃ p, v = .slice p 0 0) ∧ Hs = []) ∨ ∃ b c pre, v = .slice (some ⟨b, List.length pre, none⟩) xs.length c ∧ xs.length ≤ c ∧ Hs = [(b, ⟨e, pre ++ xs.flatMap T.cells, pre.length + c * k⟩)]
theorem OSo.len {e : TypeId} {k : Nat} {xs : List T} {v : Value} {Hs : Qd} (h : OSo e k xs v Hs) : ∃ p c, v = .slice p xs.length c := by
 rcases h with ⟨rfl, ⟨p, rfl⟩, _⟩ | ⟨b, c, pre, rfl, _⟩
 ·exact ⟨_, _, rfl⟩
 ·exact ⟨_, _, rfl⟩
end
end Go.Cap
namespace Go.Proofs.YtjbokbikkcfjjaaGreat
open Go.Cap
attribute [local irreducible] POp Qf Pw EOp Sim FnH T.gp



def A0 (x : Gn) (k : Int) : Prop := 0 ≤ k ∧ k < x.way.length
instance (x : Gn) (k : Int) : Decidable (A0 x k) := by unfold A0; infer_instance
def PE (x : Gn) (k : Int) : Gn := { x with way := x.way.eraseIdx k.toNat }
def TN (x : Gn) (k : Int) : Gn := if A0 x k then PE x k else x

end Go.Proofs.YtjbokbikkcfjjaaGreat
namespace Go.Proofs.YtjbokbikkcfjjaaGreat
open Go.Cap
structure XB (P : Nat → En → Prop) (x : Gn) (τ l u : Nat) : Prop where
 ks : x.ns.length = 5
 id : ∀ i : Nat, i < 5 → (x.n i).id = i
 nb : ∀ i, i < 5 → NB P (x.n i) τ l
 way : ∀ m ∈ x.way, MB P m τ l
 many : x.way.length ≤ 5 * (u + l)
 fuel : 5 * l + (x.ns.map fun n => pot n).sum ≤ u
 tau : τ ≤ u
section
variable {P : Nat → En → Prop} {x : Gn} {τ l u : Nat}
theorem XB.le {u' : Nat} (h : XB P x τ l u) (hu : u ≤ u') : XB P x τ l u' := { h with fuel := Nat.le_trans h.fuel hu, tau := Nat.le_trans h.tau hu, many := by have := h.many; omega }
theorem XB.did (h : XB P x τ l u) {i : Nat} (hi : i < 5) {t : Nd} {out : List Ms} {τ' c : Nat} (hid : t.id = i) (hτ : τ ≤ τ') (hc : τ' ≤ τ + c)
  {b : Nat} (hw : Ue P (x.n i) t out τ' l c b) (hb : x.way.length + b ≤ 5 * (u + l) + 5 * c) : ∃ l', XB P (GW x i t out) τ' l' (u + c) ∧ l ≤ l' ∧ (GW x i t out).way.length + 5 * l ≤ x.way.length + 5 * l' + b := by
 obtain ⟨d, h1, h2, h3, h4⟩ := hw
 have hil : i < x.ns.length := by rw [h.ks]; exact hi
 rw [O3]
 refine ⟨l + d, ⟨by show (x.ns.set i t).length = 5; rw [List.length_set]; exact h.ks, fun j hj => ?_, fun j hj => ?_, fun m hm => ?_, ?_, ?_, by have := h.tau; omega⟩, by omega, ?_⟩
 ·rw [MP (by rw [h.ks]; exact hj)]; split
  ·rename_i e; rw [hid, e]
  ·exact h.id j hj
 ·rw [MP (by rw [h.ks]; exact hj)]; split
  ·exact h1
  ·exact (h.nb j hj).le hτ (by omega)
 ·rcases List.mem_append.1 hm with hm | hm
  ·exact (h.way m hm).le hτ (by omega)
  ·exact h3 m hm
 ·show (x.way ++ out).length ≤ _
  rw [List.length_append]; omega
 ·have := V9 (fun n => pot n) x.ns i t hil
  have hk : x.ns[i] = x.n i := by unfold Gn.n; rw [List.getD_eq_getElem?_getD, List.getElem?_eq_getElem hil, Option.getD_some]
  rw [hk] at this
  have hf := h.fuel
  show 5 * (l + d) + ((x.ns.set i t).map fun n => pot n).sum ≤ u + c
  omega
 ·show (x.way ++ out).length + 5 * l ≤ _
  rw [List.length_append]; omega
theorem XB.take (hP : PO P) (h : XB P x τ l u) (ht : τ ≤ 100000) {m : Ms} (hm : MB P m τ l) (hb : x.way.length + 1 ≤ 5 * (u + l)) : ∃ l', XB P (U0 x m) τ l' u ∧ l ≤ l' ∧ (U0 x m).way.length + 5 * l ≤ x.way.length + 5 * l' + 1 := by
 unfold U0
 split
 ·rename_i hth
  obtain ⟨h5, _⟩ := IU hth
  exact h.did h5 ((Je _ _).trans (h.id _ h5)) (Nat.le_refl _) (Nat.le_refl _) ((h.nb _ h5).take hP hm ht) (by omega)
 ·exact ⟨l, h, Nat.le_refl _, by omega⟩
theorem XB.out (h : XB P x τ l u) {w : List Ms} (hw : ∀ m ∈ w, MB P m τ l) (hb : w.length ≤ 5 * (u + l)) : XB P { x with way := w } τ l u := { h with way := hw, many := hb }
end
def PS (_ : Nat) (e : En) : Prop := Ek e 100000
theorem Q8 : PK PS where
 conf := fun _ _ h => ⟨h.c0, h.c1⟩
 own := fun _ t h0 h1 => ⟨h0, by simp only; omega, Int.le_refl _, by simp only; omega, by simp⟩
 sz := fun _ e h => ⟨⟨by have := h.t0; omega, by have := h.t1; omega⟩, ⟨by have := h.c0; omega, by have := h.c1; omega⟩, by have := h.cmd; omega⟩
 rec_ := fun l hl h => by
  have : ∀ e ∈ l, Ek e 100000 := fun e he => by
   obtain ⟨i, hi⟩ := List.mem_iff_getElem?.1 he
   exact h i e hi
  have := UK l this
  omega
end Go.Proofs.YtjbokbikkcfjjaaGreat
namespace Go.Proofs.YtjbokbikkcfjjaaGreat
open Go.Cap Raft
attribute [local irreducible] POp Qf Pw EOp Sim FnH T.gp
section
variable {x : Gn} {τ l u : Nat} {E : List Ms}
theorem GI.to {m : Ms} (hI : GI x E) (hm : m ∈ x.way ∨ m ∈ E) : isI m.to := by
 obtain ⟨_, _, H, L, hF, hN, hM⟩ := hI
 obtain ⟨f, hf, e⟩ := (hM m hm).to
 unfold isI; omega
end
section
variable {b : Nat} {x : Gn} {τ u : Nat} {H : Qd}
end
section
variable {b : Nat} {x : Gn} {τ u : Nat} {H : Qd}
end
end Go.Proofs.YtjbokbikkcfjjaaGreat
namespace Go.Proofs.YtjbokbikkcfjjaaGreat
open Go.Cap
attribute [local irreducible] POp Qf Pw EOp Sim FnH T.gp
def d0 : Dk := ⟨0, 0, false, [], 0, [], 1048576⟩
theorem T7 {id conf : Int} (h0 : 0 ≤ id) (h1 : id < 5) (h2 : 0 ≤ conf) (h3 : conf ≤ 31) : Sz (Xl id conf) ∧ (Qq (Xl id conf) 0).length ≤ 524100 := by
 have hk := T8 h0 h1 h2 h3
 exact ⟨hk.sz (by omega), by have := hk.rec_; omega⟩
theorem C9 (bd : Nat) (id conf : Int) (h0 : 0 ≤ id) (h1 : id < 5) (h2 : 0 ≤ conf) (h3 : conf ≤ 31) :
  FnH Tryz.prog 34 [pW bd, ei id, ei conf] (DkH bd d0) (fun r H => ∃ bk bj K2, r = .tup [pW bk, ei 0] ∧ H = mH ⟨bd, bk, bj⟩ K2 ∧ Lq (Xl id conf) K2 ∧ K2.N = Xl id conf) := by
 obtain ⟨s1, s2⟩ := T7 h0 h1 h2 h3
 have hl := CF (n0 := Xl id conf) (R := 524100) 1048576 rfl s1 s2 (by omega) (by omega)
 refine FnH.mono (RP bd id conf hl rfl (CG id conf h0 h1 h2 h3) rfl (by simp [Xl]) (by omega) s1 s2) ?_
 rintro r H ⟨bk, bj, K2, e1, e2, e3, e4, e5⟩
 exact ⟨bk, bj, K2, e1, e2, ⟨e3, by rw [e5], by rw [e5]⟩, e4⟩
def gN (conf : Int) (a : Nat → Ad) (n : Nat) (bm : Nat) : List T :=
 let p := fun (j : Nat) (x : Nat) => if j < n then pW x else .v (.pointer none)
 [ei conf, p 0 (a 0).bd, p 0 (a 0).bk, p 1 (a 1).bd, p 1 (a 1).bk, p 2 (a 2).bd, p 2 (a 2).bk, p 3 (a 3).bd, p 3 (a 3).bk, p 4 (a 4).bd, p 4 (a 4).bk, .v (.map (some bm)), .v (.slice none 0 0)]
theorem Pa (conf : Int) (a : Nat → Ad) {n : Nat} (hn : n < 5) (bm : Nat) (x : Ad) : Zc (gN conf a n bm) (0 + 1 + ((n : Nat) : Int).toNat * 2) [pW x.bd, pW x.bk] (gN conf (upA a n x) (n + 1) bm) := by
 have h : ∀ n : Fin 5, Zc (gN conf a n.val bm) (0 + 1 + ((n.val : Nat) : Int).toNat * 2) [pW x.bd, pW x.bk] (gN conf (upA a n.val x) (n.val + 1) bm) := by
  intro n
  match n with
  | 0 => show Zc _ 1 _ _; unfold gN upA; exact zy
  | 1 => show Zc _ 3 _ _; unfold gN upA; exact zy
  | 2 => show Zc _ 5 _ _; unfold gN upA; exact zy
  | 3 => show Zc _ 7 _ _; unfold gN upA; exact zy
  | 4 => show Zc _ 9 _ _; unfold gN upA; exact zy
 exact h ⟨n, hn⟩
def gMk (a : Nat → Ad) (k : Nat → Kp) (n : Nat) : Qd := (List.range n).flatMap fun j => mH (a j) (k j)
theorem Bg (a : Nat → Ad) (k : Nat → Kp) (n : Nat) (x : Ad) (K : Kp) : gMk (upA a n x) (upA k n K) (n + 1) = gMk a k n ++ mH x K := by
 unfold gMk
 rw [List.range_succ, List.flatMap_append, List.flatMap_cons, List.flatMap_nil, List.append_nil]
 congr 1
 ·have h : ∀ l : List Nat, (∀ j ∈ l, j < n) → (l.flatMap fun j => mH (upA a n x j) (upA k n K j)) = l.flatMap fun j => mH (a j) (k j) := by
   intro l
   induction l with
   | nil => intro _; rfl
   | cons j l ih =>
    intro hl
    have hj := hl j List.mem_cons_self
    rw [List.flatMap_cons, List.flatMap_cons, ih fun y hy => hl y (List.mem_cons_of_mem _ hy)]
    unfold upA
    rw [if_neg (by omega), if_neg (by omega)]
  exact h _ fun j hj => List.mem_range.1 hj
 ·simp [upA]
def VC (conf : Int) (k : Nat → Kp) : Gp := ⟨conf, (List.range 5).map k, [false, false, false, false, false], []⟩
theorem Nb (conf : Int) (k : Nat → Kp) {i : Nat} (hi : i < 5) : (VC conf k).k i = k i := by
 unfold VC Gp.k
 simp only [List.getD_eq_getElem?_getD, List.getElem?_map, List.getElem?_range hi, Option.map_some, Option.getD_some]
theorem OW (P : Nat → En → Prop) (conf : Int) (h1 : 1 ≤ conf) (h2 : conf ≤ 31) : FnH Tryz.prog 10 [ei conf] [] (fun r H => ∃ bg g, r = .tup [pW bg, ei 0] ∧ IsG bg g H ∧ GB P g 0 0 0 ∧ GL conf g ∧ prG g = CH conf ∧ g.conf = conf) := by
 refine fe Tryz.func10 fun S0 w0 => ?_
 show Sim _ _ [(0, ei conf)] [] _
 refine zC ?_
 refine cr <| s_ Qb <| s_ Qb <| zC ?_
 refine cr <| s_ Qa <| s_ Q2 <| s_ Qa <| gF (fun hg => Qa) ?_
 refine gF (fun hg => Ys (hx := u_ hg)) ?_
 refine s_ YK <| zC ?_
 refine ci ?_ ?_
 ·intro hc; omega
 intro _
 refine zC ?_
 refine cr <| s_ Qa ?_
 refine Pg fun b17 _ => ?_
 refine s_ (ZG 13 [_, _, _, _, _, _, _, _, _, _, _, _, _]) ?_
 refine X1 fun b19 _ => ?_
 refine s_ Qb <| zC ?_
 refine cr <| s_ Qa <| zC ?_
 apply Qp (σ := Nat × (Nat → Ad) × (Nat → Kp)) (ok := fun s => s.1 ≤ 5 ∧ ∀ j : Nat, j < s.1 → Lq (Xl j conf) (s.2.2 j) ∧ (s.2.2 j).N = Xl j conf) (env := fun s => [(20, ei s.1), (4, pW b19), (0, ei conf)]) (heap := fun s => (b19, ⟨tG, gN conf s.2.1 s.1 b17, 13⟩) :: (b17, ⟨.map [] 0, [], 0⟩) :: gMk s.2.1 s.2.2 s.1) (μ := fun s => 5 - s.1) (s0 := (0, fun _ => ⟨0, 0, 0⟩, fun _ => default))
 ·exact ⟨Nat.zero_le _, fun j hj => absurd hj (Nat.not_lt_zero j)⟩
 ·exact eL
 ·exact kR
 rintro ⟨n, a, k⟩ ⟨hn, hk⟩
 simp only at hn hk
 show Sim _ _ [(20, ei n), (4, pW b19), (0, ei conf)] ((b19, ⟨tG, gN conf a n b17, 13⟩) :: (b17, ⟨.map [] 0, [], 0⟩) :: gMk a k n) _
 refine zC ?_
 refine cr <| s_ Q2 <| zC ?_
 refine ci ?_ ?_
 ·intro hlt
  have hn5 : n < 5 := by omega
  have hD := AQ 1048576 (by omega) (by omega)
  refine zC ?_
  refine cr <| s_ Qa <| s_ Qb <| zC ?_
  apply cr
  refine QV (Hs := []) hD (List.Perm.refl _) (fun r H' ⟨bd, hr1, hr2⟩ => ?_)
  subst hr1 hr2
  have hO := C9 bd n conf (by omega) (by omega) (by omega) h2
  refine s_ Qa <| s_ QD <| s_ QD <| s_ Qb <| s_ Qb <| zC ?_
  refine cr <| s_ Qa <| s_ Qa <| s_ Qa ?_
  refine QV hO (List.Perm.refl _) (fun r H' ⟨bk, bj, K2, hr1, hr2, hL, hN⟩ => ?_)
  subst hr1 hr2
  refine Qy (H' := (b19, ⟨tG, gN conf a n b17, 13⟩) :: (b17, ⟨.map [] 0, [], 0⟩) :: (gMk a k n ++ mH ⟨bd, bk, bj⟩ K2)) ?_ ?_
  ·have := (List.perm_append_comm (l₁ := mH ⟨bd, bk, bj⟩ K2) (l₂ := (b19, ⟨tG, gN conf a n b17, 13⟩) :: (b17, ⟨.map [] 0, [], 0⟩) :: gMk a k n))
   exact this
  have hlay := Pa conf a hn5 b17 ⟨bd, bk, bj⟩
  refine s_ Qa <| s_ QD <| s_ QD <| s_ Qb <| s_ Qb <| zC ?_
  refine cr <| s_ Qa <| s_ Qa <| s_ Qa <| s_ Qa <| s_ (ZG 2 [_, _]) <| s_ Qe <| s_ Qc <| s_ Yx <| Qz (hc := hlay) ?_
  refine zC ?_
  refine cr <| s_ Q6 <| s_ Qa <| zC ?_
  refine ⟨(n + 1, upA a n ⟨bd, bk, bj⟩, upA k n K2), ⟨by simp only; omega, fun j hj => ?_⟩, (by simp only []; omega), ⟨?_, eL⟩, ?_⟩
  ·simp only
   unfold upA
   by_cases hjn : j = n
   ·subst hjn; rw [if_pos rfl]; exact ⟨hL, hN⟩
   ·rw [if_neg hjn]; exact hk j (by simp only at hj; omega)
  ·apply Qh; (exact zG)
   exact Le.refl _
  ·simp only
   rw [Bg]
   exact kR
 ·intro hge
  have hn5 : n = 5 := by omega
  subst hn5
  refine zC ?_
  refine cr <| s_ Qa <| s_ Qb <| s_ Qb <| zC ?_
  refine zR ?_
  have hke : ∀ i : Nat, i < 5 → (VC conf k).k i = k i := fun i hi => Nb conf k hi
  refine rh kR ⟨b19, VC conf k, rfl, ⟨a, b17, [], 0, [], .slice none 0 0, ⟨YQ.nil _, fun i hi => ?_⟩, Zk, ?_⟩, ?_, ?_, ?_, rfl⟩ (Le.refl _)
  ·have h : ∀ i : Fin 5, (VC conf k).aw.getD i.val false = false := by
    intro i
    match i with
    | 0 | 1 | 2 | 3 | 4 => rfl
   rw [h ⟨i, hi⟩]; rfl
  ·show _ = gH b19 conf a b17 [] 0 [] (.slice none 0 0) (VC conf k).k
   unfold gH
   rw [EB a k (VC conf k).k hke]
   rfl
  ·refine ⟨by simp [VC], rfl, fun i hi => ?_, fun i hi => ?_, fun i hi => ?_, by simp [VC], by simp [VC], ?_, Nat.le_refl _⟩
   ·rw [hke i hi]
    have hl := (hk i hi).1.live
    obtain ⟨so, rs, hc, hnn⟩ := hl.cont
    exact ⟨hl.dk, by omega, by have := hc.len; omega⟩
   ·rw [hke i hi, (hk i hi).2]; rfl
   ·rw [hke i hi, (hk i hi).2]; exact T9 (by omega) (by omega) (by omega) h2
   ·have : ((VC conf k).ks.map fun K => Go.Proofs.YtjbokbikkcfjjaaGreat.pot K.N) = (List.range 5).map fun i => 0 := by
     unfold VC
     rw [List.map_map]
     refine List.map_congr_left fun i hi => ?_
     have hi5 := List.mem_range.1 hi
     show Go.Proofs.YtjbokbikkcfjjaaGreat.pot (k i).N = 0
     rw [(hk i hi5).2]; rfl
    rw [this]; decide
  ·intro i hi
   rw [hke i hi]; exact (hk i hi).1
  ·unfold prG CH VC
   simp only [Gn.mk.injEq, and_true]
   rw [List.map_map]
   refine List.map_congr_left fun i hi => ?_
   exact (hk i (List.mem_range.1 hi)).2
end Go.Proofs.YtjbokbikkcfjjaaGreat
namespace Go.Cap
section
variable {P : Program} {t : Env} {H : Qd} {dst : Option Tmp} {tp : TypeId} {pos : String} {aft : Array Edge} {g : Option (Nat × Bool)} {ty ty' : TypeId} {x : Operand}
theorem MT {e : TypeId} (w : World) {ty : TypeId} (hu : P.underlying ty = some (.pointer e)) (d : Nat) : (Op.equalIn (d + 1) ty (.pointer none) (.pointer none)).run P w = .ok true w := by
 simp [Op.equalIn, run_underlying hu]
theorem DK {e : TypeId} (w : World) {ty : TypeId} (hu : P.underlying ty = some (.pointer e)) : (Op.equal ty (.pointer none) (.pointer none)).run P w = .ok true w := MT w hu 9999
theorem NO {e : TypeId} (hx : t.ev x = .v (.pointer none) := by exact zl) (hu : P.underlying ty = some (.pointer e) := by rfl) : POp P t H ⟨dst, .binOp .neq ty x (.const (.pointer none)) ty', tp, pos, aft, g⟩ (.v (.bool (decide False))) :=
 Xg hx rfl fun w => by
  have := DK w hu
  simp [eqGuard, binOp, this]
end
end Go.Cap
namespace Go.Proofs.YtjbokbikkcfjjaaGreat
open Go.Cap
attribute [local irreducible] POp Qf Pw EOp Sim FnH T.gp
theorem IT (a : Int) {k : Int} (hk : 0 < k) : -k < a.tmod k ∧ a.tmod k < k := ⟨Int.lt_tmod_of_pos a hk, Int.tmod_lt_of_pos a hk⟩
theorem IS (a : Int) {k : Int} (hk : 0 < k) : (if a.tmod k < 0 then a.tmod k + k else a.tmod k) = a % k := by
 have h := Wn a k hk
 split
 ·rename_i h1; exact h.1 h1
 ·rename_i h1; exact h.2 h1
theorem XQ (a k : Int) (hk : 0 < k) (hk1 : k ≤ 4611686018427387904) : FnP Tryz.prog 13 [ei a, ei k] (fun r => r = ei (a % k)) := by
 have hb := IT a hk
 have hf := IS a hk
 refine fe Tryz.func13 fun S0 w0 => ?_
 show Sim _ _ [(0, ei a), (1, ei k)] _ _
 refine zC ?_
 refine cr <| s_ Qb <| zC ?_
 refine cr <| s_ Qa <| s_ Qa <| s_ Wz <| s_ Qb <| zC ?_
 refine cr <| s_ Qa <| s_ Q2 <| zC ?_
 refine ci ?_ ?_
 ·intro hn
  rw [if_pos hn] at hf
  refine zC ?_
  refine cr <| s_ Qa <| s_ Qa <| s_ Q6 <| s_ Qb <| zC ?_
  refine cr <| s_ Qa <| s_ Qb <| zC ?_
  refine zE ?_
  rw [hf]
  exact Le.refl _
 ·intro hn
  rw [if_neg hn] at hf
  refine zC ?_
  refine cr <| s_ Qa <| s_ Qb <| zC ?_
  refine zE ?_
  rw [hf]
  exact Le.refl _
theorem GA : FnP Tryz.prog 9 [] (fun r => r = .v (.bool true)) := by
 have hN := OW PS 7 (by omega) (by omega)
 refine fe Tryz.func9 fun S0 w0 => ?_
 show Sim _ _ [] _ _
 refine zC ?_
 refine cr <| s_ Qb <| zC ?_
 apply cr
 refine QV (Hs := []) (Hr := []) hN (.refl _) (fun r H ⟨bg, g, hr, hG, hB, hL, hpr, hcf⟩ => ?_)
 subst hr
 rw [List.append_nil]
 refine s_ Qa <| s_ QD <| s_ QD <| s_ Qb <| s_ Qb <| zC ?_
 refine cr <| s_ Qa <| s_ Yg <| s_ Qa <| gF (fun hg => Qa) ?_
 refine gF (p := ¬ (0 : Int) = 0) (fun hg => NT (hx := u_ hg)) ?_
 refine s_ YK <| zC ?_
 refine ci ?_ ?_
 ·rintro (h | h)
  ·exact absurd rfl h
  ·exact h.elim
 intro _
 have hC := WW Q8 bg g H 30 30 (by omega) hB (by omega) hG
 obtain ⟨l1, hB1, _⟩ := hB.calm Q8.toPO 30 (by omega)
 obtain ⟨hL1, hpr1⟩ := hL.calm Q8 hB 30 (by omega)
 obtain ⟨g1, hg1⟩ : ∃ g1, g1 = JQ g 30 := ⟨_, rfl⟩
 rw [← hg1] at hC hB1 hL1 hpr1
 rw [hpr] at hpr1
 refine zC ?_
 refine cr <| s_ Qa ?_
 refine QN hC (fun r H' ⟨hr1, hG1⟩ => ?_)
 subst hr1
 have h0 : isI 0 := ⟨by omega, by omega⟩
 have h5 : ¬ isI 5 := fun h => absurd h.2 (by omega)
 have hK5 := Ba bg g1 H' 5 h5 hG1
 obtain ⟨a, bm, em, clk, W, wv, hA, hO, rfl⟩ := hG1
 have hK0 := Mh bg g1 0 h0 (a := a) (bm := bm) (clk := clk) hA hO
 have hlen := (hB1.nb 0 (by omega)).len
 have hfv := hB1.five
 have hNo := J5 (bg := bg) (g := g1) (a := a) (bm := bm) (es := em) (clk := clk) (W := W) (wv := wv) (i := 0) (by omega) (by omega)
 have hrole : (g1.k 0).N.role = 2 := by
  rw [← Wx g1 0 (by rw [hB1.ks]; omega), hpr1]
  exact AY
 refine zC ?_
 refine cr <| s_ Qa ?_
 refine QN hK0 (fun r H' ⟨hr1, hr2⟩ => ?_)
 subst hr1 hr2
 refine s_ NT <| s_ Qa <| gF (fun hg => Qa) ?_
 refine Bh (p := False) (Hr := []) (fun h => h) hK5 (by rw [List.append_nil]) (fun r H' ⟨hr1, hr2⟩ => ?_) (ha' := Q1 (u_ (fun h => h)) (Q1 W5 XZ))
 subst hr1 hr2
 rw [List.append_nil]
 refine gF (p := False) (fun hg => NO) ?_
 refine s_ YK <| zC ?_
 refine ci ?_ ?_
 ·rintro (h | h)
  ·exact h.elim
  ·exact h.elim
 intro _
 refine zC ?_
 refine cr <| s_ Qa ?_
 refine QN hK0 (fun r H' ⟨hr1, hr2⟩ => ?_)
 subst hr1 hr2
 refine QN hNo (fun r H' ⟨hr1, hr2⟩ => ?_)
 subst hr1 hr2
 refine s_ NS <| s_ Xi <| s_ Qb <| zC ?_
 refine zE ?_
 exact Le.of_eq (by show T.v (.bool (decide ((g1.k 0).N.role = 2))) = _; rw [decide_eq_true hrole])
section
variable {P : Nat → En → Prop} {g : Gp} {τ l u : Nat}
theorem MK {g : Gp} {k : Int} (h : YN g k) : g.way.getD k.toNat default ∈ g.way := by
 have hk := (US h).1
 rw [List.getD_eq_getElem?_getD, List.getElem?_eq_getElem hk]; exact List.getElem_mem _
theorem GB.drop (h : GB P g τ l u) (k : Int) : GB P (Ua g k) τ l u ∧ (Ua g k).way.length = g.way.length - (if YN g k then 1 else 0) := by
 unfold Ua
 split
 ·rename_i hk
  obtain ⟨h1, _⟩ := US hk
  have hl : (M7 g k).way.length = g.way.length - 1 := by show (g.way.eraseIdx k.toNat).length = _; rw [List.length_eraseIdx, if_pos h1]
  exact ⟨h.out (fun x hx => h.way x (List.mem_of_mem_eraseIdx hx)) (by show (M7 g k).way.length ≤ _; have := h.many; omega), hl⟩
 ·exact ⟨h, rfl⟩
theorem GB.twice (h : GB P g τ l u) (k : Int) : GB P (JX g k) τ l (u + 1) ∧ (JX g k).way.length = g.way.length + (if YN g k ∧ g.way.length < 300 then 1 else 0) := by
 unfold JX
 split
 ·rename_i hk
  refine ⟨(h.le (u' := u + 1) (by omega)).out (fun x hx => ?_) (by have := h.many; simp only [List.length_append, List.length_singleton]; omega), by simp⟩
  rcases List.mem_append.1 hx with hx | hx
  ·exact h.way x hx
  ·rw [List.mem_singleton.1 hx]; exact h.way _ (MK hk.1)
 ·exact ⟨h.le (by omega), rfl⟩
end
end Go.Proofs.YtjbokbikkcfjjaaGreat
namespace Go.Proofs.YtjbokbikkcfjjaaGreat
open Go.Cap
section
variable {P : Nat → En → Prop} {g : Gp} {τ l u : Nat} {conf : Int}
theorem GL.drop (h : GL conf g) (k : Int) : GL conf (Ua g k) ∧ prG (Ua g k) = TN (prG g) k := by
 have e : A0 (prG g) k ↔ YN g k := Iff.rfl
 unfold Ua TN
 by_cases hk : YN g k
 ·rw [if_pos hk, if_pos (e.2 hk)]
  exact ⟨h.out _, rfl⟩
 ·rw [if_neg hk, if_neg (fun h => hk (e.1 h))]
  exact ⟨h, rfl⟩
theorem GB.away (h : GB P g τ l u) (i : Int) (b : Bool) : GB P (Ll g i b) τ l u := by
 unfold Ll
 split
 ·exact ⟨h.ks, by rw [List.length_set]; exact h.aw, h.ki, h.id, h.nb, h.way, h.many, h.fuel, h.tau⟩
 ·exact h
end
end Go.Proofs.YtjbokbikkcfjjaaGreat
namespace Go.Proofs.YtjbokbikkcfjjaaGreat
open Go.Cap
attribute [local irreducible] POp Qf Pw EOp Sim FnH T.gp
theorem Cf {n0 : Nd} {R : Nat} {d : Dk} {so : Option Nd} {rs : List (Nd × Nat)} {tl : List UInt8} {N : Nd} (bd : Nat) (id conf : Int) (hc : Jb n0 R d so rs tl N) (hdk : DkR d) (hdead : d.dead = false) (h0 : d.left = 0) (hsy : d.synced = d.log.length)
  (hid : N.id = n0.id) (hn0 : FnP Tryz.prog 66 [ei id, ei conf] (fun r => r = nd n0)) (hw : QA n0 = n0) (hl0 : n0.log.length ≤ 10000) (hR : R ≤ 4000000)
  (hszw : Sz (QA N)) (hrw : (Qq (QA N) 0).length ≤ R) :
  FnH Tryz.prog 34 [pW bd, ei id, ei conf] (DkH bd d) (fun r H => ∃ bk bj K2, r = .tup [pW bk, ei 0] ∧ H = KpH bk bj bd K2 ∧ Ju n0 R K2 ∧ K2.N = QA N ∧ K2.d.left = 0 ∧ K2.d.room = d.room) := by
 have ho := El bd d id conf n0 so rs tl hn0 hl0 hdk.ok hdead h0 hc.snap hc.log hc.stop (fun m hm => ⟨(hc.szs m hm).1, by have := (hc.szs m hm).2; omega⟩)
  (fun p hp => ⟨(hc.szr p hp).1, (hc.szr p hp).2.1, by have := (hc.szr p hp).2.2; omega⟩) (fun k => hc.lay k)
 refine FnH.mono ho ?_
 rintro r H ⟨bk, bj, rfl, rfl⟩
 have hN2 : L7 n0 so rs = QA N := by
  unfold L7
  split
  ·rename_i hnn
   obtain ⟨rfl, rfl⟩ := hnn
   rw [hc.same]
   exact hw.symm
  ·exact hc.same.symm
 have hfit := hdk.fit
 have hlg := hc.log
 obtain ⟨d2, hd2⟩ : ∃ d2, d2 = Z0 d (rs.map Z3) tl := ⟨_, rfl⟩
 rw [← hd2]
 have hlog2 : d2.log = (rs.map Z3).flatMap Qv := by
  rw [hd2]; unfold Z0
  split
  ·rename_i ht; rw [hlg, ht, List.append_nil]
  ·rfl
 have hs2 : d2.snap = d.snap ∧ d2.dead = d.dead ∧ d2.left = d.left ∧ d2.room = d.room := by
  rw [hd2]; unfold Z0
  split <;> exact ⟨rfl, rfl, rfl, rfl⟩
 have hsy2 : d2.synced = d2.log.length := by
  rw [hd2]; unfold Z0
  split
  ·exact hsy
  ·rfl
 obtain ⟨q1, q2, q3, q4⟩ := hs2
 have hlen : d2.log.length ≤ d.log.length := by rw [hlog2, hlg, List.length_append]; omega
 refine ⟨bk, bj, ⟨rs.length, QA N, d2⟩, rfl, by rw [hN2], ⟨⟨so, rs, ?_, rfl⟩, hsy2, q2.trans hdead, ?_, hid, hszw, hrw⟩, rfl, q3.trans h0, q4⟩
 ·exact ⟨q1.trans hc.snap, by rw [List.append_nil]; exact hlog2, Jg, hc.len, hc.szs, hc.szr, hc.lay, hc.same⟩
 ·exact ⟨by rw [show (⟨rs.length, QA N, d2⟩ : Kp).d = d2 from rfl, q3]; exact hdk.l0, by rw [show (⟨rs.length, QA N, d2⟩ : Kp).d = d2 from rfl, q3]; exact hdk.l1, by rw [show (⟨rs.length, QA N, d2⟩ : Kp).d = d2 from rfl, q4]; exact hdk.r0, by rw [show (⟨rs.length, QA N, d2⟩ : Kp).d = d2 from rfl, q4]; exact hdk.r1, by
   show ((d2.log.length + d2.snap.length : Nat) : Int) ≤ d2.room
   rw [q4, q1]; omega⟩
theorem Rn {n0 : Nd} {R : Nat} {K : Kp} (n : Int) (h : Ju n0 R K) (hn : n ≤ 1000000000) : Ju n0 R { K with d := X4 K.d n } := by
 obtain ⟨⟨so, rs, hc, hk⟩, hsy, hdead, hdk, hNid, hNsz, hNr⟩ := h
 refine ⟨⟨so, rs, ⟨hc.snap, hc.log, hc.stop, hc.len, hc.szs, hc.szr, hc.lay, hc.same⟩, hk⟩, hsy, hdead, ⟨?_, ?_, hdk.r0, hdk.r1, hdk.fit⟩, hNid, hNsz, hNr⟩
 ·show 0 ≤ max n 0; omega
 ·show max n 0 ≤ 1000000000; omega
def Ls (n0 : Nd) (R : Nat) (K : Kp) (y : Nd) : Prop := (Ju n0 R K ∧ y = K.N) ∨ B5 n0 R K.d K.N y
theorem BK {d : Dk} (pick : Int) (h : DkR d) : DkR (JK (X4 d 0) pick) := by
 refine ⟨Int.le_refl _, by show (0 : Int) ≤ _; omega, h.r0, h.r1, ?_⟩
 have := h.fit
 show (((d.log.take _).length + d.snap.length : Nat) : Int) ≤ d.room
 rw [List.length_take]
 omega
theorem EZ {n0 : Nd} {R : Nat} {K : Kp} {y : Nd} (pick : Int) (h : Ls n0 R K y) : DkR K.d ∧ 0 ≤ K.d.synced ∧ K.d.synced ≤ K.d.log.length ∧ ∃ so rs tl, Jb n0 R (JK (X4 K.d 0) pick) so rs tl K.N ∨ Jb n0 R (JK (X4 K.d 0) pick) so rs tl y := by
 rcases h with ⟨hl, rfl⟩ | hg
 ·obtain ⟨⟨so, rs, hc, hk⟩, hsy, hdead, hdk, hNid, hNsz, hNr⟩ := hl
  refine ⟨hdk, by omega, by omega, so, rs, [], .inl ⟨hc.snap, ?_, hc.stop, hc.len, hc.szs, hc.szr, hc.lay, hc.same⟩⟩
  have hr := ZU (X4 K.d 0) pick (by show 0 ≤ K.d.synced; omega) (by show K.d.synced ≤ _; exact Int.le_of_eq hsy)
  have hlog := hc.log
  show K.d.log.take _ = _
  rw [← hlog]
  refine List.take_of_length_le ?_
  show K.d.log.length ≤ (K.d.synced + ZD (X4 K.d 0) pick).toNat
  omega
 ·obtain ⟨so, rs, tl, h⟩ := hg.cont pick
  exact ⟨hg.dk, hg.s0, hg.s1, so, rs, tl, h⟩
theorem Pb (conf : Int) (a : Nat → Ad) (bm : Nat) (wv : Value) {i : Int} (h : isI i) (bk bj : Nat) : Zc (gC conf a bm wv) (0 + 1 + i.toNat * 2 + 1) [pW bk] (gC conf (upA a i.toNat ⟨(a i.toNat).bd, bk, bj⟩) bm wv) := by
 rcases five h.1 h.2 with rfl | rfl | rfl | rfl | rfl
 all_goals show Zc _ _ _ _; unfold gC upA; exact zy
theorem Cy {x y p q : Nat × Blk} {W O M G : Qd} (h : (M ++ O).Perm G) : ((x :: y :: (W ++ (p :: q :: O))) ++ M).Perm (p :: q :: x :: y :: (W ++ G)) := by
 have h1 : (W ++ (p :: q :: O)).Perm (p :: q :: (W ++ O)) := (List.perm_middle (l₁ := W)).trans ((List.perm_middle (l₁ := W)).cons p)
 have h2 : ((x :: y :: (W ++ (p :: q :: O))) ++ M).Perm ((x :: y :: p :: q :: (W ++ O)) ++ M) := ((h1.cons y).cons x).append_right M
 refine h2.trans ?_
 have h3 : (x :: y :: p :: q :: (W ++ O ++ M)).Perm (p :: q :: x :: y :: (W ++ O ++ M)) := List.perm_append_comm_assoc [x, y] [p, q] (W ++ O ++ M)
 refine h3.trans ?_
 have h4 : (W ++ O ++ M).Perm (W ++ G) := by
  rw [List.append_assoc]
  exact (List.perm_append_comm.trans h).append_left W
 exact (((h4.cons y).cons x).cons q).cons p
theorem M4 {x y : Nat × Blk} {W M A B : Qd} (h : M.Perm (A ++ B)) : (x :: y :: (W ++ M)).Perm (A ++ (x :: y :: (W ++ B))) := J4 h
theorem Ic (bg : Nat) (g : Gp) (H : Qd) (i pick : Int) (y : Nd) (hi : isI i) (hks : g.ks.length = 5) (hc0 : 0 ≤ g.conf) (hc31 : g.conf ≤ 31) (hA : Ls (Xl i g.conf) 524100 (g.k i.toNat) y) (hid : (g.k i.toNat).N.id = i) (hidy : y.id = i)
  (hz1 : Sz (QA (g.k i.toNat).N)) (hq1 : (Qq (QA (g.k i.toNat).N) 0).length ≤ 524100) (hz2 : Sz (QA y)) (hq2 : (Qq (QA y) 0).length ≤ 524100) (hG : IsG bg g H) :
  FnH Tryz.prog 24 [pW bg, ei i, ei pick] H (fun r H' => r = .v (.bool (decide (isI i))) ∧ ∃ K2, IsG bg { g with ks := g.ks.set i.toNat K2 } H' ∧ Ju (Xl i g.conf) 524100 K2 ∧ (K2.N = QA (g.k i.toNat).N ∨ K2.N = QA y) ∧ K2.d.left = 0 ∧ K2.d.room = (g.k i.toNat).d.room) := by
 have hI := J6 bg g H i hG
 rw [decide_eq_true hi]
 obtain ⟨h5, hin⟩ := Q3 hi
 have hi5 : 0 ≤ i ∧ i < 5 := hi
 obtain ⟨a, bm, em, clk, W, wv, hAw, hO, rfl⟩ := hG
 obtain ⟨hdk, hs0, hs1, so, rs, tl, hcont⟩ := EZ pick hA
 obtain ⟨K, hK⟩ : ∃ K, K = g.k i.toNat := ⟨_, rfl⟩
 have hgk : ∀ K2 : Kp, ∀ j, j < 5 → Gp.k { g with ks := g.ks.set i.toNat K2 } j = upA g.k i.toNat K2 j := fun K2 j hj => by
  have := Gp.k_set (g := g) (i := i.toNat) (j := j) (K := K2) (w := g.way) (by rw [hks]; exact hj)
  rw [show Gp.k { g with ks := g.ks.set i.toNat K2 } j = _ from this]
  unfold upA
  by_cases hij : i.toNat = j
  ·rw [if_pos hij, if_pos hij.symm]
  ·rw [if_neg hij, if_neg (fun e => hij e.symm)]
 obtain ⟨bk, hbk⟩ : ∃ bk, bk = (a i.toNat).bk := ⟨_, rfl⟩
 obtain ⟨bj, hbj⟩ : ∃ bj, bj = (a i.toNat).bj := ⟨_, rfl⟩
 obtain ⟨bd, hbd⟩ : ∃ bd, bd = (a i.toNat).bd := ⟨_, rfl⟩
 have hcd := Ni (conf := g.conf) (a := a) (bm := bm) (wv := wv) hi
 have hst := fun bk' bj' => Pb g.conf a bm wv hi bk' bj'
 have hMat : (gM a g.k).Perm (DkH bd K.d ++ ((bk, ⟨tK, pW bj :: Qs K.N (.sl false (K.N.log.map een)), 23⟩) :: (bj, ⟨tJ, [pW bd, ei K.n], 2⟩) :: gO a g.k i.toNat)) := by
  have h1 := Vi a g.k h5
  have h2 : mH (a i.toNat) (g.k i.toNat) = [(bk, ⟨tK, pW bj :: Qs K.N (.sl false (K.N.log.map een)), 23⟩), (bj, ⟨tJ, [pW bd, ei K.n], 2⟩)] ++ DkH bd K.d := by rw [hbk, hbj, hbd, hK]; rfl
  rw [h2] at h1
  refine h1.trans ?_
  rw [List.append_assoc]
  exact (List.perm_append_comm_assoc _ _ _)
 have hp0 := M4 (x := (bg, ⟨tG, gC g.conf a bm wv, 13⟩)) (y := (bm, ⟨.map em clk, [], 0⟩)) (W := W) hMat
 have hpU := fun bk' bj' (K2 : Kp) => (Mi a (upA a i.toNat ⟨bd, bk', bj'⟩) g.k (upA g.k i.toNat K2) h5 (fun j _ hj => ⟨by unfold upA; rw [if_neg hj], by unfold upA; rw [if_neg hj]⟩))
 rw [← hbd] at hcd hst
 rw [← hK] at hcont hdk hs0 hs1 hid hz1 hq1 ⊢
 have hSt := Ok bd K.d 0
 have hdk0 : UW (X4 K.d 0) := ⟨Int.le_refl _, by show max (0 : Int) 0 ≤ _; omega, hdk.r0, hdk.r1, hdk.ok.used⟩
 have hCr := BJ bd (X4 K.d 0) pick hdk0 hs0 hs1
 have hcrd := BK pick hdk
 obtain ⟨d2, hd2⟩ : ∃ d2, d2 = JK (X4 K.d 0) pick := ⟨_, rfl⟩
 have hd2a : d2.dead = false ∧ d2.left = 0 ∧ d2.synced = d2.log.length ∧ d2.room = K.d.room := by rw [hd2]; exact ⟨rfl, rfl, rfl, rfl⟩
 rw [← hd2] at hcrd hcont hCr
 obtain ⟨z1, z2, z3, z4⟩ := hd2a
 have hNew := CG i g.conf hi5.1 hi5.2 hc0 hc31
 have hOp : FnH Tryz.prog 34 [pW bd, ei i, ei g.conf] (DkH bd d2) (fun r H => ∃ bk bj K2, r = .tup [pW bk, ei 0] ∧ H = KpH bk bj bd K2 ∧ Ju (Xl i g.conf) 524100 K2 ∧ (K2.N = QA K.N ∨ K2.N = QA y) ∧ K2.d.left = 0 ∧ K2.d.room = d2.room) := by
  rcases hcont with hc | hc
  ·exact FnH.mono (Cf bd i g.conf hc hcrd z1 z2 z3 (by rw [hid]; rfl) hNew rfl (by simp [Xl]) (by omega) hz1 hq1) (by
    rintro r H ⟨a, b, c, e1, e2, e3, e4, e5, e6⟩
    exact ⟨a, b, c, e1, e2, e3, .inl e4, e5, e6⟩)
  ·exact FnH.mono (Cf bd i g.conf hc hcrd z1 z2 z3 (by rw [hidy]; rfl) hNew rfl (by simp [Xl]) (by omega) hz2 hq2) (by
    rintro r H ⟨a, b, c, e1, e2, e3, e4, e5, e6⟩
    exact ⟨a, b, c, e1, e2, e3, .inr e4, e5, e6⟩)
 refine fe Tryz.func24 fun S0 w0 => ?_
 show Sim _ _ [(0, pW bg), (1, ei i), (2, ei pick)] ((bg, ⟨tG, gC g.conf a bm wv, 13⟩) :: (bm, ⟨.map em clk, [], 0⟩) :: (W ++ gM a g.k)) _
 refine zC ?_
 refine cr <| s_ Qb <| zC ?_
 refine cr <| s_ Qa <| s_ Qa ?_
 refine QN hI (fun r H' ⟨hr1, hr2⟩ => ?_)
 subst hr1 hr2
 refine s_ Yr <| zC ?_
 refine ci (p := ¬ isI i) (fun h => absurd hi h) (fun _ => ?_)
 show Sim _ _ _ ((bg, ⟨tG, gC g.conf a bm wv, 13⟩) :: (bm, ⟨.map em clk, [], 0⟩) :: (W ++ gM a g.k)) _
 refine zC ?_
 refine cr <| s_ Qa <| s_ Qa <| s_ Qe <| s_ Qc <| s_ Yx <| s_ Qb <| zC ?_
 refine cr <| s_ Qa <| s_ Qe <| s_ Qc <| s_ (Qj (hd := hcd)) <| s_ Qe ?_
 (first | refine s_ L5 ?_ | refine s_ Qc ?_)
 refine QV hSt hp0 (fun r H' ⟨hr1, hr2⟩ => ?_)
 subst hr1 hr2
 refine Qy List.perm_append_comm ?_
 refine zC ?_
 refine cr <| s_ Qa <| s_ Qe <| s_ Qc <| s_ (Qj (hd := hcd)) <| s_ Qa ?_
 refine QV hCr List.perm_append_comm (fun r H' ⟨hr1, hr2⟩ => ?_)
 subst hr1 hr2
 refine Qy List.perm_append_comm ?_
 refine zC ?_
 refine cm [9] (.yields 0 (.yields 1 (.yields 2 (.yields 3 (.yields 4 (.yields 5 (.yields 6 (.yields 7 (.yields 8 (.alt 9 (.yields 10 (.yields 11 (.yields 12 (.yields 13 (.yields 14 .done))))) .stop)))))))))) <| m_ (fun _ => Qa) <| m_ (fun _ => Qe) <| m_ (fun _ => Qc) <| Gs (hd := hcd) ?_
 refine m_ (fun _ => Qa) <| m_ (fun _ => Qa) <| m_ (fun _ => Qe) <| m_ (fun _ => Qc) <| Gs ?_
 refine ⟨?_, trivial⟩
 refine LR hOp List.perm_append_comm (fun r H' ⟨bk', bj', K2, hr1, hr2, hL2, hN2, hlf, hrm⟩ => ⟨?_, ?_⟩)
 ·subst hr1 hr2; exact zd
 subst hr1 hr2
 refine m_ (fun _ => Qa) <| m_ (fun _ => QD) <| m_ (fun _ => QD) <| m_ (fun _ => Qb) <| m_ (fun _ => Qb) <| zC ?_
 refine XS List.perm_append_comm ?_
 refine zC ?_
 refine cr <| s_ Qa <| s_ Xi <| zC ?_
 refine ci ?_ ?_
 rotate_left
 ·intro h; exact absurd rfl h
 intro _
 refine zC ?_
 refine cr <| s_ Qa <| s_ Qa <| s_ Qe <| s_ Qc <| Qz (hc := hst bk' bj') ?_
 refine zC ?_
 refine cr <| s_ Qb <| zC ?_
 refine zR ?_
 refine rhp (Cy (G := gM (upA a i.toNat ⟨bd, bk', bj'⟩) (upA g.k i.toNat K2)) ?_) (.skip _ _ _ (.skip _ _ _ kR)) ⟨rfl, K2, ⟨upA a i.toNat ⟨bd, bk', bj'⟩, bm, em, clk, W, wv, hAw, hO, ?_⟩, hL2, hN2, hlf, hrm.trans z4⟩ (Le.refl _)
 ·have := hpU bk' bj' K2
  unfold upA at this ⊢
  simp only [if_pos] at this
  exact this
 ·show _ = gH bg g.conf _ bm em clk W wv (Gp.k { g with ks := g.ks.set i.toNat K2 })
  unfold gH
  rw [EB _ (upA g.k i.toNat K2) _ (fun j hj => hgk K2 j hj)]
def tSs : TypeId := 9
theorem es1 (l : List (List UInt8)) : ∀ x ∈ l.map es, x.cells.length = 1 := fun x hx => by
 obtain ⟨s, _, rfl⟩ := List.mem_map.1 hx; rfl
theorem Bq (l : List (List UInt8)) : ∀ x ∈ l.map es, x.solid := fun x hx => by
 obtain ⟨s, _, rfl⟩ := List.mem_map.1 hx; exact .inl rfl
theorem Rw (l : List (List UInt8)) (hl : l.length ≤ 1000000000) : FnP Tryz.prog 42 [.sl false (l.map es)] (fun r => r = .sl false (l.map es)) := by
 have hk := es1 l
 refine fe Tryz.func42 fun S0 w0 => ?_
 show Sim _ _ [(0, T.sl false (l.map es))] _ _
 refine zC ?_
 refine cr <| s_ Qb <| zC ?_
 refine cr <| s_ Qa ?_
 refine Zx 3 fun p c h1 _ => ?_
 refine s_ T2 <| zC ?_
 refine ci ?_ ?_
 ·intro hp
  have := h1 hp
  have : l = [] := by simpa using this
  subst this
  refine zC ?_
  refine cr <| s_ Qb <| zC ?_
  refine zE ?_
  exact Le.nil _
 ·intro hp
  refine zC ?_
  refine cr <| s_ JT <| s_ Qa <| s_ (NX (d := .v (.string .empty)) (xs := []) (ys := l.map es) (hky := hk)) <| s_ Qb <| zC ?_
  refine zE ?_
  exact Le.refl _
def YF (l : List En) : List (List UInt8) := (l.map (·.cmd)).filter (fun c => !c.isEmpty)
theorem Iu {l : List En} {k : Nat} (hk : k < l.length) : YF (l.take (k + 1)) = YF (l.take k) ++ (if l[k].cmd = [] then [] else [l[k].cmd]) := by
 unfold YF
 rw [List.take_succ_eq_append_getElem hk, List.map_append, List.filter_append]
 congr 1
 by_cases h : l[k].cmd = []
 ·simp [h]
 ·rw [if_neg h]; simp [h]
theorem Lh (l : List En) : (YF l).length ≤ l.length := by
 unfold YF
 exact Nat.le_trans (List.length_filter_le _ _) (by simp)
theorem Be (bg : Nat) (g : Gp) (H : Qd) (i : Int) (hi : isI i) (hl : (g.k i.toNat).N.log.length ≤ 1000000) (hb : (g.k i.toNat).N.base = 0) (hc0 : 0 ≤ (g.k i.toNat).N.commit) (hc1 : (g.k i.toNat).N.commit ≤ 1000000) (hG : IsG bg g H) : FnH Tryz.prog 19 [pW bg, ei i] H (fun r H' => r = .sl false ((Mu (g.k i.toNat).N).map es) ∧ H' = H) := by
 obtain ⟨h5, _⟩ := Q3 hi
 have hT := J6 bg g H i hG
 obtain ⟨a, bm, em, clk, W, wv, hA, hO, rfl⟩ := hG
 have hno := J5 (bg := bg) (g := g) (a := a) (bm := bm) (es := em) (clk := clk) (W := W) (wv := wv) h5 (by omega)
 have hck := EC (conf := g.conf) (a := a) (bm := bm) (wv := wv) hi
 have hp5 : 0 ≤ i ∧ i < 5 := hi
 obtain ⟨n, hn⟩ : ∃ n, n = (g.k i.toNat).N := ⟨_, rfl⟩
 rw [← hn] at hno hl hb hc0 hc1 ⊢
 refine fe Tryz.func19 fun S0 w0 => ?_
 show Sim _ _ [(0, pW bg), (1, ei i)] ((bg, ⟨tG, gC g.conf a bm wv, 13⟩) :: (bm, ⟨.map em clk, [], 0⟩) :: (W ++ gM a g.k)) _
 refine zC ?_
 refine cr <| s_ Qb <| zC ?_
 refine cr <| s_ Qa <| s_ Qa ?_
 refine QN hT (fun r H' ⟨hr1, hr2⟩ => ?_)
 subst hr1 hr2
 refine s_ Yr <| zC ?_
 refine ci (p := ¬ isI i) (fun h => absurd hi h) (fun _ => ?_)
 show Sim _ _ _ ((bg, ⟨tG, gC g.conf a bm wv, 13⟩) :: (bm, ⟨.map em clk, [], 0⟩) :: (W ++ gM a g.k)) _
 refine zC ?_
 refine cr <| s_ Qb <| zC ?_
 refine cr <| s_ Qa <| s_ Qa <| s_ Qe <| s_ Qc <| s_ Yx <| s_ Qc <| s_ (Qj (hd := by first | rfl | assumption)) ?_
 refine QN hno (fun r H' ⟨hr1, hr2⟩ => ?_)
 subst hr1 hr2
 show Qf _ _ _ _ _ ((bg, ⟨tG, gC g.conf a bm wv, 13⟩) :: (bm, ⟨.map em clk, [], 0⟩) :: (W ++ gM a g.k)) _
 refine X2 fun b6 _ => ?_
 refine Qz ?_
 refine zC ?_
 obtain ⟨j, hj⟩ : ∃ j, j = max (min (n.commit - n.base) (n.log.length : Int)) 0 := ⟨_, rfl⟩
 have hj0 : 0 ≤ j ∧ j ≤ n.log.length := by omega
 refine zC ?_
 refine cr <| s_ Qc <| s_ Qj <| s_ Qc <| s_ Qj <| s_ Qc <| s_ Qj <| s_ ZF <| s_ Qc <| s_ Qj ?_
 (first | refine s_ QX ?_ | refine s_ QQ ?_)
 refine s_ LD <| s_ V1 ?_
 rw [show max (min (n.commit - n.base) (((n.log.map een).length : Nat) : Int)) 0 = j by rw [List.length_map]; exact hj.symm]
 refine s_ Tx ?_
 have hdone : Mu n = YF (n.log.take j.toNat) := by unfold Mu YF; rw [← hj]
 rw [hdone]
 obtain ⟨l, hle⟩ : ∃ l, l = n.log.take j.toNat := ⟨_, rfl⟩
 have hll : l.length ≤ 1000000 := by rw [hle, List.length_take]; omega
 rw [← List.map_take, ← hle]
 (first | refine s_ QX ?_ | refine s_ QQ ?_)
 refine s_ Qa <| zC ?_
 apply Qp (σ := Nat × Value × Qd) (ok := fun s => s.1 ≤ l.length ∧ OSl tSs 1 ((YF (l.take s.1)).map es) s.2.1 s.2.2) (env := fun s => [(35, ei s.1), (34, ei l.length), (33, T.sl false (l.map een)), (5, .v s.2.1), (0, pW bg), (1, ei i)]) (heap := fun s => s.2.2 ++ gH bg g.conf a bm em clk W wv g.k) (μ := fun s => l.length - s.1) (s0 := (0, .slice none 0 0, []))
 ·exact ⟨Nat.zero_le _, Zk⟩
 ·refine ⟨?_, ?_, eL⟩
  ·apply Qh; (exact zG)
   exact Le.refl _
  ·apply Qh; (exact zG)
   exact Le.of_eq (by rw [List.length_map]; rfl)
 ·exact .skip _ _ _ kR
 rintro ⟨k, v, Hs⟩ ⟨hk, ho⟩
 simp only at hk ho
 show Sim _ _ [(35, ei k), (34, ei l.length), (33, T.sl false (l.map een)), (5, .v v), (0, pW bg), (1, ei i)] (Hs ++ gH bg g.conf a bm em clk W wv g.k) _
 obtain ⟨p, c, rfl⟩ := OSl.len ho
 refine zC ?_
 refine cr <| s_ Q2 <| zC ?_
 refine ci ?_ ?_
 ·intro hlt
  have hix : k < l.length := by omega
  have hnx := Iu hix
  have hcl := Lh (l.take k)
  have htl : (l.take k).length ≤ 1000000 := by rw [List.length_take]; omega
  apply ck
  apply cq
  refine U3 (σ := Value × Qd) (ok := fun s => OSl tSs 1 ((YF (l.take (k + 1))).map es) s.1 s.2) (env := fun s => [(35, ei k), (34, ei l.length), (33, T.sl false (l.map een)), (5, .v s.1), (0, pW bg), (1, ei i)]) (heap := fun s => s.2 ++ gH bg g.conf a bm em clk W wv g.k) ?_ (fun s hs => ?_)
  ·refine zC ?_
   apply cr
   (first | refine s_ (Xh hix) ?_ | refine s_ (Xh hix2) ?_ | refine s_ YM ?_)
   refine s_ Y7 ?_
   refine X2 fun b8 _ => ?_
   refine Qz ?_
   refine zC ?_
   refine cr <| s_ Qc <| s_ Qj <| s_ TB <| zC ?_
   refine ci ?_ ?_
   ·intro hne
    have hne' : ¬ l[k].cmd = [] := hne
    rw [if_neg hne'] at hnx
    refine zC ?_
    refine cr <| s_ Qa <| s_ Qc <| s_ Qj <| s_ JT ?_
    refine Mt (ho := ho) (A := [_]) (B := gH bg g.conf a bm em clk W wv g.k) (ys := [es l[k].cmd]) (f := true) (es1 _) (fun v' Hs' ho' => ?_) (hb := by simp only [List.length_map, List.length_cons, List.length_nil]; omega) (hm := by simp only [List.length_map, List.length_cons, List.length_nil]; omega)
    refine s_ Qb <| zC ?_
    exact ⟨(v', Hs'), _, (by rw [hnx, List.map_append]; exact ho'), eL, .refl _, .skip _ _ _ kR⟩
   ·intro hne
    have hne' : l[k].cmd = [] := Classical.not_not.1 hne
    rw [if_pos hne', List.append_nil] at hnx
    refine zC ?_
    exact ⟨(_, Hs), _, (by rw [hnx]; exact ho), eL, .refl _, .skip _ _ _ kR⟩
  obtain ⟨v', Hs'⟩ := s
  simp only at hs
  show Sim _ _ [(35, ei k), (34, ei l.length), (33, T.sl false (l.map een)), (5, .v v'), (0, pW bg), (1, ei i)] (Hs' ++ gH bg g.conf a bm em clk W wv g.k) _
  refine zC ?_
  refine cr <| s_ Q6 <| s_ Qa <| zC ?_
  refine ⟨(k + 1, v', Hs'), ⟨by simp only; omega, hs⟩, (by simp only []; omega), ⟨?_, eL⟩, kR⟩
  apply Qh; (exact zG)
  exact Le.refl _
 ·intro hge
  have hke : k = l.length := by omega
  subst hke
  rw [List.take_length] at ho
  have hcl := Rw (YF l) (by have := Lh l; omega)
  have hlend : QB Hs (.v (.slice p ((YF (l.take l.length)).map es).length c)) (.sl false ((YF l).map es)) := by
   rw [List.take_length]
   exact OSl.lend ho (fun _ h => h) (es1 _) (Bq _)
  refine zC ?_
  refine Jl (G := Hs) (H1 := gH bg g.conf a bm em clk W wv g.k) [(5, .sl false ((YF l).map es))] (.refl _) ⟨hlend, trivial⟩ ?_
  refine zC ?_
  refine cr <| s_ Qa <| s_ (QM (hcl)) <| s_ Qb <| zC ?_
  refine zR ?_
  exact rh kR ⟨rfl, rfl⟩ (Le.refl _)
section
variable {g : Gp} {τ l' u : Nat} {l : List UInt8}
theorem Cp (hB : GB PS g τ l' u) (hu : u + 205 ≤ 25000) (i : Int) (cmd : List UInt8) (hc : cmd.length ≤ 61) (hi : isI i) : PS (g.k i.toNat).N.log.length ⟨(g.k i.toNat).N.term, 0, cmd⟩ := by
 have h := hB.nb i.toNat (Q3 hi).1
 have h1 := h.term0
 have h2 := h.term1
 have h3 := hB.tau
 exact ⟨h1, by simp only; omega, Int.le_refl _, by simp only; omega, hc⟩
end
theorem A1 {g : Gp} {τ l u : Nat} (bg : Nat) (H : Qd) (i : Int) (cmd : List UInt8) (hB : GB PS g τ l u) (hu : u + 205 ≤ 25000) (hc : cmd.length ≤ 61) (hG : IsG bg g H) : FnH Tryz.prog 17 [pW bg, ei i, es cmd] H (fun r H' => r = ei (doG g i cmd).2 ∧ IsG bg (doG g i cmd).1 H') := by
 by_cases hi : isI i
 ·exact Nh Q8 bg g H i cmd hB hu (Cp hB hu i cmd hc hi) hG
 ·have ha : XH g i = 2 := by unfold XH; rw [if_pos hi]
  have hd : doG g i cmd = (g, 2) := by unfold doG; rw [ha, if_pos (by omega)]
  rw [hd]
  have := VG bg g H i hG
  refine fe Tryz.func17 fun S0 w0 => ?_
  show Sim _ _ [(0, pW bg), (1, ei i), (2, es cmd)] H _
  rw [ha] at this
  refine zC ?_
  refine cr <| s_ Qb <| zC ?_
  refine cr <| s_ Qa <| s_ Qa ?_
  refine QN this (fun r H' ⟨hr1, hr2⟩ => ?_)
  subst hr1 hr2
  refine s_ Qb <| zC ?_
  refine cr <| s_ Qa <| s_ Yg <| zC ?_
  refine ci (p := ¬ (2 : Int) = 0) (fun _ => ?_) (fun h => absurd (by omega) h)
  refine zC ?_
  refine cr <| s_ Qa <| s_ Qb <| zC ?_
  refine zR ?_
  exact rh kR ⟨rfl, hG⟩ (Le.refl _)
end Go.Proofs.YtjbokbikkcfjjaaGreat
