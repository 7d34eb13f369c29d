/-
  group: asked, Do, Change.
  Chapter 20 in plain words: a committee whose disks are whole, as nodes alone.
  group: New.
  Chapter 20: the entries of a committee that is asked for short commands.
  Chapter 20's laws: within, known.
  Chapter 20 in plain words: a committee whose disks are whole is asked for commands.
-/
import Derived.Test.YtjbokbikkcfjjaaGreatAbb
import Derived.Test.YtjbokbikkcfjjaaGreatAax
import Derived.Test.YtjbokbikkcfjjaaGreatAaz
section
set_option maxRecDepth 16000
namespace Go.Proofs.YtjbokbikkcfjjaaGreat
open Go.Cap
set_option linter.unusedSimpArgs false
set_option linter.unusedVariables false
attribute [local irreducible] POp SimFrom DrawFrom EOp Sim FnH T.gp
theorem gasked_fn (bg : Nat) (g : Gp) (H : Heap) (i : Int) (hG : IsG bg g H) : FnH Tryz.prog 38 [pW bg, ei i] H (fun r H' => r = ei (askedF g i) ∧ H' = H) := by
  have hI := gis_fn bg g H i hG
  have hT := gthere_fn bg g H i hG
  obtain ⟨q, iq, hq⟩ := decB (b := thereG g i)
  rw [hq] at hT
  refine fn_enter Tryz.func38 (by rfl) (by rfl) ?_
  intro S0 w0
  show Sim _ _ [(0, pW bg), (1, ei i)] H _
  refine zC ?_
  apply cr
  refine s_ p_as ?_
  refine zC ?_
  apply cr
  refine s_ p_mv ?_
  refine s_ p_mv ?_
  refine e_cHA hI (fun r H' ⟨hr1, hr2⟩ => ?_)
  subst hr1 hr2
  refine s_ p_no ?_
  refine s_ p_as ?_
  refine zC ?_
  refine ci (p := ¬ isI i) ?_ ?_
  · intro hn
    refine zC ?_
    apply cr
    refine s_ p_as ?_
    refine zC ?_
    refine zR ?_
    refine rh kR ⟨rfl, rfl⟩ ?_
    exact Le.of_eq (congrArg ei (by unfold askedF; rw [if_pos hn]))
  intro hn
  refine zC ?_
  apply cr
  refine s_ p_mv ?_
  refine s_ p_mv ?_
  refine e_cHA hT (fun r H' ⟨hr1, hr2⟩ => ?_)
  subst hr1 hr2
  refine s_ p_no ?_
  refine s_ p_as ?_
  refine zC ?_
  refine ci (p := ¬ q) ?_ ?_
  · intro hnq
    refine zC ?_
    apply cr
    refine s_ p_as ?_
    refine zC ?_
    refine zR ?_
    refine rh kR ⟨rfl, rfl⟩ ?_
    exact Le.of_eq (congrArg ei (by unfold askedF; rw [if_neg hn, if_pos (by rw [hq]; simpa using hnq)]))
  · intro hnq
    refine zC ?_
    apply cr
    refine s_ p_as ?_
    refine zC ?_
    refine zR ?_
    refine rh kR ⟨rfl, rfl⟩ ?_
    exact Le.of_eq (congrArg ei (by unfold askedF; rw [if_neg hn, if_neg (by rw [hq]; simpa using hnq)]))
def PutBy (P : Nat → En → Prop) (N t : Nd) (e : Int) : Prop := (¬ e = 0 ∧ t = N) ∨ (e = 0 ∧ N.role = 2 ∧ ∃ en, t = putF N en ∧ P N.log.length ⟨N.term, en.conf, en.cmd⟩)
theorem prop_by {P : Nat → En → Prop} {N : Nd} {cmd : List UInt8} (h : P N.log.length ⟨N.term, 0, cmd⟩) : PutBy P N (propF N cmd).1 (propF N cmd).2.2 := by
  unfold propF
  split
  · exact .inl ⟨by simp only; omega, rfl⟩
  · rename_i hr
    split
    · exact .inl ⟨by simp only; omega, rfl⟩
    · exact .inr ⟨rfl, Classical.not_not.1 hr, _, rfl, h⟩
section
variable {P : Nat → En → Prop} {g : Gp} {τ l u : Nat}
theorem PutBy.nb {N t : Nd} {e : Int} (h : NB P N τ l) (hb : PutBy P N t e) : NB P t τ (l + 1) ∧ Go.Proofs.YtjbokbikkcfjjaaGreat.pot t ≤ Go.Proofs.YtjbokbikkcfjjaaGreat.pot N := by
  rcases hb with ⟨_, rfl⟩ | ⟨_, hr, en, rfl, hp⟩
  · exact ⟨h.le (Nat.le_refl _) (by omega), Nat.le_refl _⟩
  · exact h.put hr hp
theorem PutBy.id {N t : Nd} {e : Int} (hb : PutBy P N t e) : t.id = N.id := by
  rcases hb with ⟨_, rfl⟩ | ⟨_, hr, en, rfl, hp⟩
  · rfl
  · exact commitF_id (putN N en)
theorem putG_eq (g : Gp) (i : Nat) (t : Nd) (e : Int) : putG g i t e = { g with ks := g.ks.set i (keepF (g.k i) t e).1, way := g.way ++ [] } := by unfold putG; rw [List.append_nil]
theorem GB.put (h : GB P g τ l u) {i : Nat} (hi : i < 5) {t : Nd} {e : Int} (hb : PutBy P (g.k i).N t e) : ∃ l', GB P (putG g i t e) τ l' (u + 5) ∧ l ≤ l' := by
  obtain ⟨h1, h2⟩ := keep_ki (h.ki i hi) t e
  have hn := h.nb i hi
  obtain ⟨n1, n2⟩ := hb.nb hn
  have hg : (keepF (g.k i) t e).1.N = t ∨ (keepF (g.k i) t e).1.N = (g.k i).N := by
    split at h2
    · exact .inl h2
    · exact .inr h2
  have hil : i < g.ks.length := by rw [h.ks]; exact hi
  have hk : g.ks[i] = g.k i := by unfold Gp.k; rw [List.getD_eq_getElem?_getD, List.getElem?_eq_getElem hil, Option.getD_some]
  rw [putG_eq]
  refine ⟨l + 1, ⟨by simp [h.ks], h.aw, fun j hj => ?_, fun j hj => ?_, fun j hj => ?_, fun m hm => ?_, ?_, ?_, by have := h.tau; omega⟩, by omega⟩
  · rw [Gp.k_set (by rw [h.ks]; exact hj)]; split
    · exact h1
    · exact h.ki j hj
  · rw [Gp.k_set (by rw [h.ks]; exact hj)]; split
    · rename_i e0; subst e0
      rcases hg with e1 | e1
      · rw [e1, hb.id]; exact h.id i hi
      · rw [e1]; exact h.id i hi
    · exact h.id j hj
  · rw [Gp.k_set (by rw [h.ks]; exact hj)]; split
    · rcases hg with e1 | e1
      · rw [e1]; exact n1
      · rw [e1]; exact hn.le (Nat.le_refl _) (by omega)
    · exact (h.nb j hj).le (Nat.le_refl _) (by omega)
  · rw [List.append_nil] at hm
    exact (h.way m hm).le (Nat.le_refl _) (by omega)
  · have := h.many; simp only [List.append_nil]; omega
  · have := set_sum (fun K => Go.Proofs.YtjbokbikkcfjjaaGreat.pot K.N) g.ks i (keepF (g.k i) t e).1 hil
    rw [hk] at this
    have hf := h.fuel
    have hpn : Go.Proofs.YtjbokbikkcfjjaaGreat.pot (keepF (g.k i) t e).1.N ≤ Go.Proofs.YtjbokbikkcfjjaaGreat.pot (g.k i).N := by
      rcases hg with e1 | e1
      · rw [e1]; exact n2
      · rw [e1]; exact Nat.le_refl _
    simp only at this ⊢
    omega
end
theorem gput_is {bg : Nat} {g : Gp} {a : Nat → Ad} {bm : Nat} {es : List (Value × T × Nat)} {clk : Nat} {W : Heap} {wv : Value} {i : Nat} {t : Nd} {e : Int} (hks : g.ks.length = 5) (hA : AwOk g.aw es) (hO : OM g.way wv W) : IsG bg (putG g i t e) (gH bg g.conf a bm es clk W wv (upA g.k i (keepF (g.k i) t e).1)) := by
  refine ⟨a, bm, es, clk, W, wv, hA, hO, ?_⟩
  show _ = gH bg g.conf a bm es clk W wv (putG g i t e).k
  unfold gH
  rw [gM_eq a (upA g.k i (keepF (g.k i) t e).1) (putG g i t e).k (fun j hj => ?_)]
  have := Gp.k_set (g := g) (i := i) (j := j) (K := (keepF (g.k i) t e).1) (w := g.way) (by rw [hks]; exact hj)
  show Gp.k { g with ks := g.ks.set i (keepF (g.k i) t e).1 } j = _
  rw [this]
  unfold upA
  by_cases hij : i = j
  · subst hij; simp
  · rw [if_neg hij, if_neg (fun e => hij e.symm)]
set_option maxHeartbeats 4000000 in
theorem gdo_fn {P : Nat → En → Prop} {τ l u : Nat} (hP : PK P) (bg : Nat) (g : Gp) (H : Heap) (i : Int) (cmd : List UInt8) (h : GB P g τ l u) (hu : u + 205 ≤ 25000) (hC : P (g.k i.toNat).N.log.length ⟨(g.k i.toNat).N.term, 0, cmd⟩) (hG : IsG bg g H) : FnH Tryz.prog 17 [pW bg, ei i, es cmd] H (fun r H' => r = ei (doG g i cmd).2 ∧ IsG bg (doG g i cmd).1 H') := by
  have hAsk := gasked_fn bg g H i hG
  by_cases hask : ¬ askedF g i = 0
  · refine fn_enter Tryz.func17 (by rfl) (by rfl) ?_
    intro S0 w0
    show Sim _ _ [(0, pW bg), (1, ei i), (2, es cmd)] H _
    refine zC ?_
    apply cr
    refine s_ p_as ?_
    refine zC ?_
    apply cr
    refine s_ p_mv ?_
    refine s_ p_mv ?_
    refine e_cHA hAsk (fun r H' ⟨hr1, hr2⟩ => ?_)
    subst hr1 hr2
    refine s_ p_as ?_
    refine zC ?_
    apply cr
    refine s_ p_mv ?_
    refine s_ p_ne ?_
    refine zC ?_
    refine ci (p := ¬ askedF g i = 0) (fun _ => ?_) (fun h => absurd hask h)
    refine zC ?_
    apply cr
    refine s_ p_mv ?_
    refine s_ p_as ?_
    refine zC ?_
    refine zR ?_
    refine rh kR ⟨rfl, ?_⟩ ?_
    · unfold doG; rw [if_pos hask]; exact hG
    · exact Le.of_eq (congrArg ei (by unfold doG; rw [if_pos hask]))
  have hth : thereG g i = true := by
    unfold askedF at hask
    split at hask
    · exact absurd (by omega) hask
    · split at hask
      · exact absurd (by omega) hask
      · rename_i h1; exact Classical.not_not.1 h1
  have hi := thereG_is hth
  obtain ⟨h5, hin⟩ := isI_nat hi
  have hb := prop_by (P := P) (N := (g.k i.toNat).N) (cmd := cmd) hC
  have hspec : doG g i cmd = askG g i (propF (g.k i.toNat).N cmd).1 (propF (g.k i.toNat).N cmd).2.1 (propF (g.k i.toNat).N cmd).2.2 := by unfold doG; rw [if_neg hask]
  rw [hspec]
  have hnb := h.nb _ h5
  have hfive := h.five
  have hlen := hnb.len
  have hcnf := hnb.cnf hP.toPO
  obtain ⟨n1, n2⟩ := hb.nb hnb
  have hpot := h.pot h5
  have hidx : 0 ≤ (propF (g.k i.toNat).N cmd).2.1 ∧ (propF (g.k i.toNat).N cmd).2.1 ≤ 100000 := by
    have hbs := hnb.base
    unfold propF
    repeat' split
    all_goals simp only; omega
  have hsz := n1.sz hP (by have := h.tau; omega) (by omega)
  have hrc := n1.rec_ hP (by omega)
  obtain ⟨l', hgb, _⟩ := h.put h5 hb
  have hok := h.ok hP (by omega) h5
  have hcall := fun bk bj bd => kProp_fn bk bj bd (g.k i.toNat) cmd (prop_fn cmd (hnb.bd hP.toPO (by omega)) (by omega)) hok hsz (by omega)
  obtain ⟨⟨K', e'⟩, hke⟩ : ∃ x, keepF (g.k i.toNat) (propF (g.k i.toNat).N cmd).1 (propF (g.k i.toNat).N cmd).2.2 = x := ⟨_, rfl⟩
  unfold askG
  unfold putT at hcall
  have hput := fun bm em clk W wv a hA hO => gput_is (bg := bg) (g := g) (a := a) (bm := bm) (es := em) (clk := clk) (W := W) (wv := wv) (i := i.toNat) (t := (propF (g.k i.toNat).N cmd).1) (e := (propF (g.k i.toNat).N cmd).2.2) h.ks hA hO
  obtain ⟨g1, hg1⟩ : ∃ g1, g1 = putG g i.toNat (propF (g.k i.toNat).N cmd).1 (propF (g.k i.toNat).N cmd).2.2 := ⟨_, rfl⟩
  rw [← hg1] at hgb hput ⊢
  rw [hke] at hcall hput ⊢
  simp only at hcall hput ⊢
  generalize (propF (g.k i.toNat).N cmd).2.1 = index at hidx hcall ⊢
  obtain ⟨a, bm, em, clk, W, wv, hA, hO, rfl⟩ := hG
  have hput := hput bm em clk W wv a hA hO
  have hcall := hcall (a i.toNat).bk (a i.toNat).bj (a i.toNat).bd
  have hck := gC_k (conf := g.conf) (a := a) (bm := bm) (wv := wv) hi
  have hp5 : 0 ≤ i ∧ i < 5 := hi
  have hperm := perm3 (x := (bg, ⟨tG, gC g.conf a bm wv, 13⟩)) (y := (bm, ⟨.map em clk, [], 0⟩)) (W := W) (gM_at a g.k h5)
  have hperm2 : ((bg, ⟨tG, gC g.conf a bm wv, 13⟩) :: (bm, ⟨.map em clk, [], 0⟩) :: (W ++ gM a (upA g.k i.toNat K'))).Perm (mH (a i.toNat) K' ++ ((bg, ⟨tG, gC g.conf a bm wv, 13⟩) :: (bm, ⟨.map em clk, [], 0⟩) :: (W ++ gO a g.k i.toNat))) := by
    refine perm3 ?_
    have := (gM_up a a g.k (upA g.k i.toNat K') h5 (fun j _ hj => ⟨rfl, by unfold upA; rw [if_neg hj]⟩)).symm
    simpa [upA] using this
  have hask0 : askedF g i = 0 := Classical.not_not.1 hask
  refine fn_enter Tryz.func17 (by rfl) (by rfl) ?_
  intro S0 w0
  show Sim _ _ [(0, pW bg), (1, ei i), (2, es cmd)] ((bg, ⟨tG, gC g.conf a bm wv, 13⟩) :: (bm, ⟨.map em clk, [], 0⟩) :: (W ++ gM a g.k)) _
  refine zC ?_
  apply cr
  refine s_ p_as ?_
  refine zC ?_
  apply cr
  refine s_ p_mv ?_
  refine s_ p_mv ?_
  refine e_cHA hAsk (fun r H' ⟨hr1, hr2⟩ => ?_)
  subst hr1 hr2
  refine s_ p_as ?_
  refine zC ?_
  apply cr
  refine s_ p_mv ?_
  refine s_ p_ne ?_
  refine zC ?_
  refine ci (p := ¬ askedF g i = 0) (fun h => absurd hask0 h) (fun _ => ?_)
  refine zC ?_
  apply cr
  refine s_ p_mv ?_
  refine s_ p_mv ?_
  refine s_ p_nc ?_
  refine s_ p_fr ?_
  refine s_ p_ar ?_
  refine s_ p_fr ?_
  refine s_ (p_lo (hd := by first | rfl | assumption)) ?_
  refine s_ p_mv ?_
  refine e_cH hcall hperm (fun r H' ⟨hr1, hr2⟩ => ?_)
  subst hr1 hr2
  refine from_perm hperm2.symm ?_
  refine s_ p_mv ?_
  refine s_ p_ex ?_
  refine s_ p_ex ?_
  refine s_ p_as ?_
  refine s_ p_as ?_
  refine zC ?_
  by_cases he' : e' = 0
  · have hw := gwait_fn hP bg g1 _ i index hi hgb (by omega) hidx.1 (by omega) hput
    simp only [if_pos he']
    rw [if_neg (show ¬ ¬ e' = 0 from fun h => h he')]
    rw [he']
    refine zC ?_
    apply cr
    refine s_ p_mv ?_
    refine s_ p_mv ?_
    refine s_ p_mv ?_
    refine s_ p_mv ?_
    refine e_cHA hw (fun r H' ⟨hr1, hr2⟩ => ?_)
    subst hr1
    refine s_ p_as ?_
    refine zC ?_
    refine zR ?_
    exact rh kR ⟨rfl, hr2⟩ (Le.refl _)
  · have hw := gwaitE_fn bg (gH bg g.conf a bm em clk W wv (upA g.k i.toNat K')) i (if e' = 0 then index else 0) e' he'
    rw [if_pos (show ¬ e' = 0 from he')]
    refine zC ?_
    apply cr
    refine s_ p_mv ?_
    refine s_ p_mv ?_
    refine s_ p_mv ?_
    refine s_ p_mv ?_
    refine e_cHA hw (fun r H' ⟨hr1, hr2⟩ => ?_)
    subst hr1 hr2
    refine s_ p_as ?_
    refine zC ?_
    refine zR ?_
    exact rh kR ⟨rfl, hput⟩ (Le.refl _)
end Go.Proofs.YtjbokbikkcfjjaaGreat
end
section
set_option maxRecDepth 16000
namespace Go.Proofs.YtjbokbikkcfjjaaGreat
open Go.Cap
structure Gn where
  ns : List Nd
  aw : List Bool
  way : List Ms
def Gn.n (g : Gn) (i : Nat) : Nd := g.ns.getD i default
def thN (g : Gn) (i : Int) : Bool := decide (isI i) && !(g.aw.getD i.toNat false)
def didN (g : Gn) (i : Nat) (t : Nd) (l : List Ms) : Gn := { g with ns := g.ns.set i t, way := g.way ++ l }
def tickN (g : Gn) (i : Int) : Gn := if thN g i then didN g i.toNat (tickF (g.n i.toNat)).1 (tickF (g.n i.toNat)).2 else g
def takeN (g : Gn) (m : Ms) : Gn := if thN g m.to then didN g m.to.toNat (takeF (g.n m.to.toNat) m).1 (takeF (g.n m.to.toNat) m).2 else g
def ticksN (g : Gn) (k : Nat) : Gn := (List.range k).foldl (fun g (i : Nat) => tickN g (i : Int)) g
def roundN (g : Gn) : Gn := ticksN (g.way.foldl takeN { g with way := [] }) 5
def calmN (g : Gn) : Nat → Gn
  | 0 => g
  | n + 1 => roundN (calmN g n)
def waitN' (i : Nat) (index term : Int) : Nat → Gn → Gn × Int
  | 0, g => (g, if index ≤ (g.n i).commit then sureF (g.n i) index term else 22)
  | f + 1, g => if index ≤ (g.n i).commit then (g, sureF (g.n i) index term) else waitN' i index term f (roundN g)
def askN (g : Gn) (i : Int) (t : Nd) (index e : Int) : Gn × Int :=
  if ¬ e = 0 then (g, e) else waitN' i.toNat index t.term 40 { g with ns := g.ns.set i.toNat t }
def askedN (g : Gn) (i : Int) : Int := if ¬ isI i then 2 else if ¬ thN g i = true then 22 else 0
def doN (g : Gn) (i : Int) (cmd : List UInt8) : Gn × Int :=
  if ¬ askedN g i = 0 then (g, askedN g i) else askN g i (propF (g.n i.toNat) cmd).1 (propF (g.n i.toNat) cmd).2.1 (propF (g.n i.toNat) cmd).2.2
def newN (conf : Int) : Gn := ⟨(List.range 5).map fun (i : Nat) => newF (i : Int) conf, [false, false, false, false, false], []⟩
def prG (g : Gp) : Gn := ⟨g.ks.map (·.N), g.aw, g.way⟩
structure LiveK (n0 : Nd) (K : Kp) : Prop where
  live : Live n0 524100 K
  left : K.d.left = 0
  room : K.d.room = 1048576
def GL (conf : Int) (g : Gp) : Prop := ∀ i : Nat, i < 5 → LiveK (newF i conf) (g.k i)
section
variable {P : Nat → En → Prop} {g : Gp} {τ l u : Nat} {conf : Int}
theorem prG_n (g : Gp) (i : Nat) (hi : i < g.ks.length) : (prG g).n i = (g.k i).N := by
  unfold Gn.n prG Gp.k
  simp [List.getD_eq_getElem?_getD, hi]
theorem GL.there (h : GL conf g) (i : Int) : thereG g i = thN (prG g) i := by
  unfold thereG thN
  by_cases hi : isI i
  · have := (h _ (isI_nat hi).1).live.dead
    rw [this]; simp [prG]
  · simp [hi]
theorem LiveK.keep {n0 : Nd} {K : Kp} (h : LiveK n0 K) {t : Nd} (hid : t.id = n0.id) (hsz : Sz t) (hr : (recB t 0).length ≤ 524100) : (keepF K t 0).2 = 0 ∧ LiveK n0 (keepF K t 0).1 ∧ (keepF K t 0).1.N = t := by
  obtain ⟨K', h1, h2, h3, h4, h5⟩ := live_step h.live h.left (by rw [h.room]; omega) hid hsz hr (by omega)
  rw [h1]
  exact ⟨rfl, ⟨h2, h4, by rw [h5]; exact h.room⟩, h3⟩
theorem GL.set (h : GL conf g) (hks : g.ks.length = 5) {i : Nat} {K : Kp} (w : List Ms) (hK : LiveK (newF i conf) K) : GL conf { g with ks := g.ks.set i K, way := w } := by
  intro j hj
  rw [Gp.k_set (by rw [hks]; exact hj)]
  split
  · rename_i e; subst e; exact hK
  · exact h j hj
theorem GL.did (h : GL conf g) (hks : g.ks.length = 5) {i : Nat} (hi : i < 5) {t : Nd} {out : List Ms} (hid : t.id = i) (hsz : Sz t) (hr : (recB t 0).length ≤ 524100) : GL conf (didG g i t out) ∧ prG (didG g i t out) = didN (prG g) i t out := by
  obtain ⟨h1, h2, h3⟩ := (h i hi).keep (t := t) (by rw [hid]; rfl) hsz hr
  unfold didG
  rw [if_pos h1]
  refine ⟨h.set hks _ h2, ?_⟩
  unfold prG didN
  simp only [List.map_set, h3]
theorem GL.tick (hP : PK P) (h : GL conf g) (hb : GB P g τ l u) (hu : u + 1 ≤ 25000) (i : Int) : GL conf (tickG g i) ∧ prG (tickG g i) = tickN (prG g) i := by
  unfold tickG tickN
  rw [h.there]
  split
  · rename_i hth
    have hth' : thereG g i = true := by rw [h.there]; exact hth
    obtain ⟨h5, _⟩ := isI_nat (thereG_is hth')
    have hw := (hb.nb _ h5).tick hP.toPO (by have := hb.tau; omega)
    obtain ⟨hsz, hrc⟩ := hw.sz hP (by have := hb.pot h5; omega) (by have := hb.tau; omega)
    rw [prG_n g _ (by rw [hb.ks]; exact h5)]
    exact h.did hb.ks h5 ((tickF_id _).trans (hb.id _ h5)) hsz hrc
  · exact ⟨h, rfl⟩
theorem GL.take (hP : PK P) (h : GL conf g) (hb : GB P g τ l u) (hu : u ≤ 25000) {m : Ms} (hm : MB P m τ l) : GL conf (takeG g m) ∧ prG (takeG g m) = takeN (prG g) m := by
  unfold takeG takeN
  rw [h.there]
  split
  · rename_i hth
    have hth' : thereG g m.to = true := by rw [h.there]; exact hth
    obtain ⟨h5, _⟩ := isI_nat (thereG_is hth')
    have hw := (hb.nb _ h5).take hP.toPO hm (by have := hb.tau; omega)
    obtain ⟨hsz, hrc⟩ := hw.sz hP (by have := hb.pot h5; omega) (by have := hb.tau; omega)
    rw [prG_n g _ (by rw [hb.ks]; exact h5)]
    exact h.did hb.ks h5 ((takeF_id _ _).trans (hb.id _ h5)) hsz hrc
  · exact ⟨h, rfl⟩
theorem GL.takes (hP : PK P) (hu : u ≤ 25000) : ∀ (ms : List Ms) {g : Gp} {l : Nat}, GL conf g → GB P g τ l u → (∀ m ∈ ms, MB P m τ l) → g.way.length + ms.length ≤ 5 * (u + l) → GL conf (ms.foldl takeG g) ∧ prG (ms.foldl takeG g) = ms.foldl takeN (prG g)
  | [], g, l, h, _, _, _ => ⟨h, rfl⟩
  | m :: ms, g, l, h, hb, hm, hw => by
    rw [List.length_cons] at hw
    have ht := hb.tau
    obtain ⟨h1, h2⟩ := h.take hP hb hu (hm m List.mem_cons_self)
    obtain ⟨l1, h3, h4, h5⟩ := hb.take hP.toPO (by omega) (hm m List.mem_cons_self) (by omega)
    obtain ⟨h6, h7⟩ := GL.takes hP hu ms h1 h3 (fun x hx => (hm x (List.mem_cons_of_mem _ hx)).le (Nat.le_refl _) h4) (by omega)
    exact ⟨h6, by rw [List.foldl_cons, h7, h2, List.foldl_cons]⟩
theorem ticksN_succ (g : Gn) (k : Nat) : ticksN g (k + 1) = tickN (ticksN g k) (k : Int) := by
  unfold ticksN
  rw [List.range_succ, List.foldl_append]
  rfl
theorem GL.ticks (hP : PK P) (h : GL conf g) (hb : GB P g τ l u) : ∀ k : Nat, u + k ≤ 25000 → GL conf (ticksG g k) ∧ prG (ticksG g k) = ticksN (prG g) k
  | 0, _ => ⟨h, rfl⟩
  | k + 1, hu => by
    have ht := hb.tau
    obtain ⟨h1, h2⟩ := GL.ticks hP h hb k (by omega)
    obtain ⟨l1, h3, _⟩ := hb.ticks hP.toPO k (by omega)
    obtain ⟨h4, h5⟩ := h1.tick hP h3 (by omega) (k : Int)
    rw [ticks_succ, ticksN_succ, h5, h2]
    exact ⟨h4, rfl⟩
theorem GL.out (h : GL conf g) (w : List Ms) : GL conf { g with way := w } := h
theorem GL.round (hP : PK P) (h : GL conf g) (hb : GB P g τ l u) (hu : u + 5 ≤ 25000) : GL conf (roundG g) ∧ prG (roundG g) = roundN (prG g) := by
  have ht := hb.tau
  have hb0 := hb.out (w := []) (by simp) (by simp)
  obtain ⟨h1, h2⟩ := GL.takes hP (by omega) g.way (h.out []) hb0 hb.way (by simpa using hb.many)
  obtain ⟨l1, h3, _⟩ := GB.takes hP.toPO (by omega) g.way hb0 hb.way (by simpa using hb.many)
  obtain ⟨h4, h5⟩ := h1.ticks hP h3 5 (by omega)
  unfold roundG roundN
  exact ⟨h4, by rw [h5, h2]; rfl⟩
theorem GL.calm (hP : PK P) (h : GL conf g) (hb : GB P g τ l u) : ∀ k : Nat, u + 5 * k ≤ 25000 → GL conf (calmG g k) ∧ prG (calmG g k) = calmN (prG g) k
  | 0, _ => ⟨h, rfl⟩
  | k + 1, hu => by
    have ht := hb.tau
    obtain ⟨h1, h2⟩ := GL.calm hP h hb k (by omega)
    obtain ⟨l1, h3, _⟩ := hb.calm hP.toPO k (by omega)
    obtain ⟨h4, h5⟩ := h1.round hP h3 (by omega)
    exact ⟨h4, by show prG (roundG (calmG g k)) = _; rw [h5, h2]; rfl⟩
end
theorem known30 : ((calmN (newN 7) 30).n 0).role = 2 := by decide +kernel
end Go.Proofs.YtjbokbikkcfjjaaGreat
end
section
set_option maxRecDepth 16000
namespace Go.Proofs.YtjbokbikkcfjjaaGreat
open Go.Cap
set_option linter.unusedSimpArgs false
set_option linter.unusedVariables false
attribute [local irreducible] POp SimFrom DrawFrom EOp Sim FnH T.gp
def d0 : Dk := ⟨0, 0, false, [], 0, [], 1048576⟩
theorem new_sz {id conf : Int} (h0 : 0 ≤ id) (h1 : id < 5) (h2 : 0 ≤ conf) (h3 : conf ≤ 31) : Sz (newF id conf) ∧ (recB (newF id conf) 0).length ≤ 524100 := by
  have hk := new_nk h0 h1 h2 h3
  exact ⟨hk.sz (by omega), by have := hk.rec_; omega⟩
theorem gopen_fn (bd : Nat) (id conf : Int) (h0 : 0 ≤ id) (h1 : id < 5) (h2 : 0 ≤ conf) (h3 : conf ≤ 31) :
    FnH Tryz.prog 34 [pW bd, ei id, ei conf] (DkH bd d0) (fun r H => ∃ bk bj K2, r = .tup [pW bk, ei 0] ∧ H = mH ⟨bd, bk, bj⟩ K2 ∧ LiveK (newF id conf) K2 ∧ K2.N = newF id conf) := by
  obtain ⟨s1, s2⟩ := new_sz h0 h1 h2 h3
  have hl := new_live (n0 := newF id conf) (R := 524100) 1048576 rfl s1 s2 (by omega) (by omega)
  refine FnH.mono (open_live bd id conf hl rfl (new_fn id conf h0 h1 h2 h3) rfl (by simp [newF]) (by omega) s1 s2) ?_
  rintro r H ⟨bk, bj, K2, e1, e2, e3, e4, e5⟩
  exact ⟨bk, bj, K2, e1, e2, ⟨e3, by rw [e5], by rw [e5]⟩, e4⟩
def gN (conf : Int) (a : Nat → Ad) (n : Nat) (bm : Nat) : List T :=
  let p := fun (j : Nat) (x : Nat) => if j < n then pW x else .v (.pointer none)
  [ei conf, p 0 (a 0).bd, p 0 (a 0).bk, p 1 (a 1).bd, p 1 (a 1).bk, p 2 (a 2).bd, p 2 (a 2).bk, p 3 (a 3).bd, p 3 (a 3).bk, p 4 (a 4).bd, p 4 (a 4).bk, .v (.map (some bm)), .v (.slice none 0 0)]
theorem gN_up (conf : Int) (a : Nat → Ad) {n : Nat} (hn : n < 5) (bm : Nat) (x : Ad) : LayR (gN conf a n bm) (0 + 1 + ((n : Nat) : Int).toNat * 2) [pW x.bd, pW x.bk] (gN conf (upA a n x) (n + 1) bm) := by
  have h : ∀ n : Fin 5, LayR (gN conf a n.val bm) (0 + 1 + ((n.val : Nat) : Int).toNat * 2) [pW x.bd, pW x.bk] (gN conf (upA a n.val x) (n.val + 1) bm) := by
    intro n
    match n with
    | 0 => show LayR _ 1 _ _; unfold gN upA; ((repeat (apply LayR.skip)); (repeat (apply LayR.cons)); exact LayR.nil _)
    | 1 => show LayR _ 3 _ _; unfold gN upA; ((repeat (apply LayR.skip)); (repeat (apply LayR.cons)); exact LayR.nil _)
    | 2 => show LayR _ 5 _ _; unfold gN upA; ((repeat (apply LayR.skip)); (repeat (apply LayR.cons)); exact LayR.nil _)
    | 3 => show LayR _ 7 _ _; unfold gN upA; ((repeat (apply LayR.skip)); (repeat (apply LayR.cons)); exact LayR.nil _)
    | 4 => show LayR _ 9 _ _; unfold gN upA; ((repeat (apply LayR.skip)); (repeat (apply LayR.cons)); exact LayR.nil _)
  exact h ⟨n, hn⟩
def gMk (a : Nat → Ad) (k : Nat → Kp) (n : Nat) : Heap := (List.range n).flatMap fun j => mH (a j) (k j)
theorem gMk_succ (a : Nat → Ad) (k : Nat → Kp) (n : Nat) (x : Ad) (K : Kp) : gMk (upA a n x) (upA k n K) (n + 1) = gMk a k n ++ mH x K := by
  unfold gMk
  rw [List.range_succ, List.flatMap_append, List.flatMap_cons, List.flatMap_nil, List.append_nil]
  congr 1
  · have h : ∀ l : List Nat, (∀ j ∈ l, j < n) → (l.flatMap fun j => mH (upA a n x j) (upA k n K j)) = l.flatMap fun j => mH (a j) (k j) := by
      intro l
      induction l with
      | nil => intro _; rfl
      | cons j l ih =>
        intro hl
        have hj := hl j List.mem_cons_self
        rw [List.flatMap_cons, List.flatMap_cons, ih fun y hy => hl y (List.mem_cons_of_mem _ hy)]
        unfold upA
        rw [if_neg (by omega), if_neg (by omega)]
    exact h _ fun j hj => List.mem_range.1 hj
  · simp [upA]
def newG (conf : Int) (k : Nat → Kp) : Gp := ⟨conf, (List.range 5).map k, [false, false, false, false, false], []⟩
theorem newG_k (conf : Int) (k : Nat → Kp) {i : Nat} (hi : i < 5) : (newG conf k).k i = k i := by
  unfold newG Gp.k
  simp only [List.getD_eq_getElem?_getD, List.getElem?_map, List.getElem?_range hi, Option.map_some, Option.getD_some]
set_option maxHeartbeats 4000000 in
theorem gnew_fn (P : Nat → En → Prop) (conf : Int) (h1 : 1 ≤ conf) (h2 : conf ≤ 31) : FnH Tryz.prog 10 [ei conf] [] (fun r H => ∃ bg g, r = .tup [pW bg, ei 0] ∧ IsG bg g H ∧ GB P g 0 0 0 ∧ GL conf g ∧ prG g = newN conf ∧ g.conf = conf) := by
  refine fn_enter Tryz.func10 (by rfl) (by rfl) ?_
  intro S0 w0
  show Sim _ _ [(0, ei conf)] [] _
  refine zC ?_
  apply cr
  refine s_ p_as ?_
  refine s_ p_as ?_
  refine zC ?_
  apply cr
  refine s_ p_mv ?_
  refine s_ p_lt ?_
  refine s_ p_mv ?_
  refine gF (fun hg => p_mv) ?_
  refine gF (fun hg => p_gt (hx := u_ hg)) ?_
  refine s_ p_or ?_
  refine zC ?_
  refine ci ?_ ?_
  · intro hc; omega
  intro _
  refine zC ?_
  apply cr
  refine s_ p_mv ?_
  refine e_mkm fun b17 _ => ?_
  refine s_ (p_bd 13 [_, _, _, _, _, _, _, _, _, _, _, _, _]) ?_
  refine e_bx fun b19 _ => ?_
  refine s_ p_as ?_
  refine zC ?_
  apply cr
  refine s_ p_mv ?_
  refine zC ?_
  apply sim_loopL (σ := Nat × (Nat → Ad) × (Nat → Kp)) (ok := fun s => s.1 ≤ 5 ∧ ∀ j : Nat, j < s.1 → LiveK (newF j conf) (s.2.2 j) ∧ (s.2.2 j).N = newF j conf) (env := fun s => [(20, ei s.1), (4, pW b19), (0, ei conf)]) (heap := fun s => (b19, ⟨tG, gN conf s.2.1 s.1 b17, 13⟩) :: (b17, ⟨.map [] 0, [], 0⟩) :: gMk s.2.1 s.2.2 s.1) (μ := fun s => 5 - s.1) (s0 := (0, fun _ => ⟨0, 0, 0⟩, fun _ => default))
  · exact ⟨Nat.zero_le _, fun j hj => absurd hj (Nat.not_lt_zero j)⟩
  · exact eL
  · exact kR
  rintro ⟨n, a, k⟩ ⟨hn, hk⟩
  simp only at hn hk
  show Sim _ _ [(20, ei n), (4, pW b19), (0, ei conf)] ((b19, ⟨tG, gN conf a n b17, 13⟩) :: (b17, ⟨.map [] 0, [], 0⟩) :: gMk a k n) _
  refine zC ?_
  apply cr
  refine s_ p_lt ?_
  refine zC ?_
  refine ci ?_ ?_
  · intro hlt
    have hn5 : n < 5 := by omega
    have hD := newD_fn 1048576 (by omega) (by omega)
    refine zC ?_
    apply cr
    refine s_ p_mv ?_
    refine s_ p_as ?_
    refine zC ?_
    apply cr
    refine e_cH (Hs := []) hD (List.Perm.refl _) (fun r H' ⟨bd, hr1, hr2⟩ => ?_)
    subst hr1 hr2
    have hO := gopen_fn bd n conf (by omega) (by omega) (by omega) h2
    refine s_ p_mv ?_
    refine s_ p_ex ?_
    refine s_ p_ex ?_
    refine s_ p_as ?_
    refine s_ p_as ?_
    refine zC ?_
    apply cr
    refine s_ p_mv ?_
    refine s_ p_mv ?_
    refine s_ p_mv ?_
    refine e_cH hO (List.Perm.refl _) (fun r H' ⟨bk, bj, K2, hr1, hr2, hL, hN⟩ => ?_)
    subst hr1 hr2
    refine from_perm (H' := (b19, ⟨tG, gN conf a n b17, 13⟩) :: (b17, ⟨.map [] 0, [], 0⟩) :: (gMk a k n ++ mH ⟨bd, bk, bj⟩ K2)) ?_ ?_
    · have := (List.perm_append_comm (l₁ := mH ⟨bd, bk, bj⟩ K2) (l₂ := (b19, ⟨tG, gN conf a n b17, 13⟩) :: (b17, ⟨.map [] 0, [], 0⟩) :: gMk a k n))
      exact this
    have hlay := gN_up conf a hn5 b17 ⟨bd, bk, bj⟩
    refine s_ p_mv ?_
    refine s_ p_ex ?_
    refine s_ p_ex ?_
    refine s_ p_as ?_
    refine s_ p_as ?_
    refine zC ?_
    apply cr
    refine s_ p_mv ?_
    refine s_ p_mv ?_
    refine s_ p_mv ?_
    refine s_ p_mv ?_
    refine s_ (p_bd 2 [_, _]) ?_
    refine s_ p_nc ?_
    refine s_ p_fr ?_
    refine s_ p_ar ?_
    refine e_st (hc := hlay) ?_
    
    refine zC ?_
    apply cr
    refine s_ p_ad ?_
    refine s_ p_mv ?_
    refine zC ?_
    refine ⟨(n + 1, upA a n ⟨bd, bk, bj⟩, upA k n K2), ⟨by simp only; omega, fun j hj => ?_⟩, (by simp only []; omega), ⟨?_, eL⟩, ?_⟩
    · simp only
      unfold upA
      by_cases hjn : j = n
      · subst hjn; rw [if_pos rfl]; exact ⟨hL, hN⟩
      · rw [if_neg hjn]; exact hk j (by simp only at hj; omega)
    · apply le_get; ((repeat (apply gS; rfl)); exact gZ)
      exact Le.refl _
    · simp only
      rw [gMk_succ]
      exact kR
  · intro hge
    have hn5 : n = 5 := by omega
    subst hn5
    refine zC ?_
    apply cr
    refine s_ p_mv ?_
    refine s_ p_as ?_
    refine s_ p_as ?_
    refine zC ?_
    refine zR ?_
    have hke : ∀ i : Nat, i < 5 → (newG conf k).k i = k i := fun i hi => newG_k conf k hi
    refine rh kR ⟨b19, newG conf k, rfl, ⟨a, b17, [], 0, [], .slice none 0 0, ⟨KeysOk.nil _, fun i hi => ?_⟩, osl_nil, ?_⟩, ?_, ?_, ?_, rfl⟩ (Le.refl _)
    · have h : ∀ i : Fin 5, (newG conf k).aw.getD i.val false = false := by
        intro i
        match i with
        | 0 | 1 | 2 | 3 | 4 => rfl
      rw [h ⟨i, hi⟩]; rfl
    · show _ = gH b19 conf a b17 [] 0 [] (.slice none 0 0) (newG conf k).k
      unfold gH
      rw [gM_eq a k (newG conf k).k hke]
      rfl
    · refine ⟨by simp [newG], rfl, fun i hi => ?_, fun i hi => ?_, fun i hi => ?_, by simp [newG], by simp [newG], ?_, Nat.le_refl _⟩
      · rw [hke i hi]
        have hl := (hk i hi).1.live
        obtain ⟨so, rs, hc, hnn⟩ := hl.cont
        exact ⟨hl.dk, by omega, by have := hc.len; omega⟩
      · rw [hke i hi, (hk i hi).2]; rfl
      · rw [hke i hi, (hk i hi).2]; exact new_nb (by omega) (by omega) (by omega) h2
      · have : ((newG conf k).ks.map fun K => Go.Proofs.YtjbokbikkcfjjaaGreat.pot K.N) = (List.range 5).map fun i => 0 := by
          unfold newG
          rw [List.map_map]
          refine List.map_congr_left fun i hi => ?_
          have hi5 := List.mem_range.1 hi
          show Go.Proofs.YtjbokbikkcfjjaaGreat.pot (k i).N = 0
          rw [(hk i hi5).2]; rfl
        rw [this]; decide
    · intro i hi
      rw [hke i hi]; exact (hk i hi).1
    · unfold prG newN newG
      simp only [Gn.mk.injEq, and_true]
      rw [List.map_map]
      refine List.map_congr_left fun i hi => ?_
      exact (hk i (List.mem_range.1 hi)).2
end Go.Proofs.YtjbokbikkcfjjaaGreat
end
section
set_option maxRecDepth 16000
namespace Go.Proofs.YtjbokbikkcfjjaaGreat
open Go.Cap
def PS (_ : Nat) (e : En) : Prop := Ek e 100000
theorem pk_short : PK PS where
  conf := fun _ _ h => ⟨h.c0, h.c1⟩
  own := fun _ t h0 h1 => ⟨h0, by simp only; omega, Int.le_refl _, by simp only; omega, by simp⟩
  sz := fun _ e h => ⟨⟨by have := h.t0; omega, by have := h.t1; omega⟩, ⟨by have := h.c0; omega, by have := h.c1; omega⟩, by have := h.cmd; omega⟩
  rec_ := fun l hl h => by
    have : ∀ e ∈ l, Ek e 100000 := fun e he => by
      obtain ⟨i, hi⟩ := List.mem_iff_getElem?.1 he
      exact h i e hi
    have := ents_small l this
    omega
end Go.Proofs.YtjbokbikkcfjjaaGreat
end
section
set_option maxRecDepth 16000
namespace Go.Cap
section
variable {P : Program} {t : Env} {H : Heap} {dst : Option Tmp} {tp : TypeId} {pos : String} {aft : Array Edge} {g : Option (Nat × Bool)} {ty ty' : TypeId} {x : Operand}
theorem run_eq_ptr00 {e : TypeId} (w : World) {ty : TypeId} (hu : P.underlying ty = some (.pointer e)) (d : Nat) : (Op.equalIn (d + 1) ty (.pointer none) (.pointer none)).run P w = .ok true w := by
  simp [Op.equalIn, run_underlying hu]
theorem run_eq_ptrN {e : TypeId} (w : World) {ty : TypeId} (hu : P.underlying ty = some (.pointer e)) : (Op.equal ty (.pointer none) (.pointer none)).run P w = .ok true w := run_eq_ptr00 w hu 9999
theorem p_nP0 {e : TypeId} (hx : autoParam (t.ev x = .v (.pointer none)) zl._auto_1) (hu : P.underlying ty = some (.pointer e) := by rfl) : POp P t H ⟨dst, .binOp .neq ty x (.const (.pointer none)) ty', tp, pos, aft, g⟩ (.v (.bool (decide False))) :=
  pop_bin hx rfl fun w => by
    have := run_eq_ptrN w hu
    simp [eqGuard, binOp, this]
end
end Go.Cap
namespace Go.Proofs.YtjbokbikkcfjjaaGreat
open Go.Cap
set_option linter.unusedSimpArgs false
set_option linter.unusedVariables false
attribute [local irreducible] POp SimFrom DrawFrom EOp Sim FnH T.gp
theorem tmod_bd0 (a : Int) {k : Int} (hk : 0 < k) : -k < a.tmod k ∧ a.tmod k < k := ⟨Int.lt_tmod_of_pos a hk, Int.tmod_lt_of_pos a hk⟩
theorem tmod_up0 (a : Int) {k : Int} (hk : 0 < k) : (if a.tmod k < 0 then a.tmod k + k else a.tmod k) = a % k := by
  have h := tmod_fix a k hk
  split
  · rename_i h1; exact h.1 h1
  · rename_i h1; exact h.2 h1
theorem within20_fn (a k : Int) (hk : 0 < k) (hk1 : k ≤ 4611686018427387904) : FnP Tryz.prog 13 [ei a, ei k] (fun r => r = ei (a % k)) := by
  have hb := tmod_bd0 a hk
  have hf := tmod_up0 a hk
  refine fn_enter Tryz.func13 (by rfl) (by rfl) ?_
  intro S0 w0
  show Sim _ _ [(0, ei a), (1, ei k)] _ _
  refine zC ?_
  apply cr
  refine s_ p_as ?_
  refine zC ?_
  apply cr
  refine s_ p_mv ?_
  refine s_ p_mv ?_
  refine s_ p_re ?_
  refine s_ p_as ?_
  refine zC ?_
  apply cr
  refine s_ p_mv ?_
  refine s_ p_lt ?_
  refine zC ?_
  refine ci ?_ ?_
  · intro hn
    rw [if_pos hn] at hf
    refine zC ?_
    apply cr
    refine s_ p_mv ?_
    refine s_ p_mv ?_
    refine s_ p_ad ?_
    refine s_ p_as ?_
    refine zC ?_
    apply cr
    refine s_ p_mv ?_
    refine s_ p_as ?_
    refine zC ?_
    refine zE ?_
    rw [hf]
    exact Le.refl _
  · intro hn
    rw [if_neg hn] at hf
    refine zC ?_
    apply cr
    refine s_ p_mv ?_
    refine s_ p_as ?_
    refine zC ?_
    refine zE ?_
    rw [hf]
    exact Le.refl _
set_option maxHeartbeats 2000000 in
theorem known20_fn : FnP Tryz.prog 9 [] (fun r => r = .v (.bool true)) := by
  have hN := gnew_fn PS 7 (by omega) (by omega)
  refine fn_enter Tryz.func9 (by rfl) (by rfl) ?_
  intro S0 w0
  show Sim _ _ [] _ _
  refine zC ?_
  apply cr
  refine s_ p_as ?_
  refine zC ?_
  apply cr
  refine e_cH (Hs := []) (Hr := []) hN (.refl _) (fun r H ⟨bg, g, hr, hG, hB, hL, hpr, hcf⟩ => ?_)
  subst hr
  rw [List.append_nil]
  refine s_ p_mv ?_
  refine s_ p_ex ?_
  refine s_ p_ex ?_
  refine s_ p_as ?_
  refine s_ p_as ?_
  refine zC ?_
  apply cr
  refine s_ p_mv ?_
  refine s_ p_ne ?_
  refine s_ p_mv ?_
  refine gF (fun hg => p_mv) ?_
  refine gF (p := ¬ (0 : Int) = 0) (fun hg => p_eP (hx := u_ hg)) ?_
  refine s_ p_or ?_
  refine zC ?_
  refine ci ?_ ?_
  · rintro (h | h)
    · exact absurd rfl h
    · exact h.elim
  intro _
  have hC := gcalm_fn pk_short bg g H 30 30 (by omega) hB (by omega) hG
  obtain ⟨l1, hB1, _⟩ := hB.calm pk_short.toPO 30 (by omega)
  obtain ⟨hL1, hpr1⟩ := hL.calm pk_short hB 30 (by omega)
  obtain ⟨g1, hg1⟩ : ∃ g1, g1 = calmG g 30 := ⟨_, rfl⟩
  rw [← hg1] at hC hB1 hL1 hpr1
  rw [hpr] at hpr1
  refine zC ?_
  apply cr
  refine s_ p_mv ?_
  refine e_cHA hC (fun r H' ⟨hr1, hG1⟩ => ?_)
  subst hr1
  have h0 : isI 0 := ⟨by omega, by omega⟩
  have h5 : ¬ isI 5 := fun h => absurd h.2 (by omega)
  have hK5 := gkeep_fn bg g1 H' 5 h5 hG1
  obtain ⟨a, bm, em, clk, W, wv, hA, hO, rfl⟩ := hG1
  have hK0 := gkeepY_fn bg g1 0 h0 (a := a) (bm := bm) (clk := clk) hA hO
  have hlen := (hB1.nb 0 (by omega)).len
  have hfv := hB1.five
  have hNo := gnode_fn (bg := bg) (g := g1) (a := a) (bm := bm) (es := em) (clk := clk) (W := W) (wv := wv) (i := 0) (by omega) (by omega)
  have hrole : (g1.k 0).N.role = 2 := by
    rw [← prG_n g1 0 (by rw [hB1.ks]; omega), hpr1]
    exact known30
  
  refine zC ?_
  apply cr
  refine s_ p_mv ?_
  refine e_cHA hK0 (fun r H' ⟨hr1, hr2⟩ => ?_)
  subst hr1 hr2
  refine s_ p_eP ?_
  refine s_ p_mv ?_
  refine gF (fun hg => p_mv) ?_
  refine gF_cH (p := False) (Hr := []) (fun h => h) hK5 (by rw [List.append_nil]) (fun r H' ⟨hr1, hr2⟩ => ?_) (ha' := evl_cons (u_ (fun h => h)) (evl_cons ev_int evl_nil))
  subst hr1 hr2
  rw [List.append_nil]
  refine gF (p := False) (fun hg => p_nP0) ?_
  refine s_ p_or ?_
  refine zC ?_
  refine ci ?_ ?_
  · rintro (h | h)
    · exact h.elim
    · exact h.elim
  intro _
  refine zC ?_
  apply cr
  refine s_ p_mv ?_
  refine e_cHA hK0 (fun r H' ⟨hr1, hr2⟩ => ?_)
  subst hr1 hr2
  refine e_cHA hNo (fun r H' ⟨hr1, hr2⟩ => ?_)
  subst hr1 hr2
  refine s_ p_fd ?_
  refine s_ p_eq ?_
  refine s_ p_as ?_
  refine zC ?_
  refine zE ?_
  exact Le.of_eq (by show T.v (.bool (decide ((g1.k 0).N.role = 2))) = _; rw [decide_eq_true hrole])
end Go.Proofs.YtjbokbikkcfjjaaGreat
end
section
set_option maxRecDepth 16000
namespace Go.Proofs.YtjbokbikkcfjjaaGreat
open Go.Cap
section
variable {P : Nat → En → Prop} {g : Gp} {τ l u : Nat} {conf : Int}
theorem GB.wait (hP : PO P) (i : Nat) (index term : Int) : ∀ (f : Nat) {g : Gp} {τ l u : Nat}, GB P g τ l u → u + 5 * f ≤ 25000 → ∃ τ' l', GB P (waitG i index term f g).1 τ' l' (u + 5 * f)
  | 0, g, τ, l, u, h, _ => by
    unfold waitG
    exact ⟨τ, l, h⟩
  | f + 1, g, τ, l, u, h, hu => by
    unfold waitG
    split
    · exact ⟨τ, l, h.le (by omega)⟩
    · obtain ⟨τ1, l1, h1⟩ := h.waits hP (by omega)
      obtain ⟨τ2, l2, h2⟩ := GB.wait hP i index term f h1 (by omega)
      exact ⟨τ2, l2, by rw [show u + 5 * (f + 1) = u + 5 + 5 * f by omega]; exact h2⟩
theorem GL.wait (hP : PK P) {i : Nat} (hi : i < 5) (index term : Int) : ∀ (f : Nat) {g : Gp} {τ l u : Nat}, GL conf g → GB P g τ l u → u + 5 * f ≤ 25000 →
    GL conf (waitG i index term f g).1 ∧ prG (waitG i index term f g).1 = (waitN' i index term f (prG g)).1 ∧ (waitG i index term f g).2 = (waitN' i index term f (prG g)).2
  | 0, g, τ, l, u, h, hb, _ => by
    unfold waitG waitN'
    rw [prG_n g i (by rw [hb.ks]; exact hi)]
    exact ⟨h, rfl, rfl⟩
  | f + 1, g, τ, l, u, h, hb, hu => by
    unfold waitG waitN'
    rw [prG_n g i (by rw [hb.ks]; exact hi)]
    split
    · exact ⟨h, rfl, rfl⟩
    · obtain ⟨h1, h2⟩ := h.round hP hb (by omega)
      obtain ⟨τ1, l1, hb1⟩ := hb.waits hP.toPO (by omega)
      obtain ⟨h3, h4, h5⟩ := GL.wait hP hi index term f h1 hb1 (by omega)
      rw [h2] at h4 h5
      exact ⟨h3, h4, h5⟩
theorem keep_err {K : Kp} {t : Nd} {e : Int} (he : ¬ e = 0) : keepF K t e = (K, e) := by unfold keepF; rw [if_pos he]
theorem put_self {g : Gp} {i : Nat} (hi : i < g.ks.length) : { g with ks := g.ks.set i (g.k i) } = g := by
  have : g.ks.set i (g.k i) = g.ks := by
    unfold Gp.k
    rw [List.getD_eq_getElem?_getD, List.getElem?_eq_getElem hi, Option.getD_some, List.set_getElem_self]
  rw [this]
theorem GB.ask (hP : PK P) (h : GB P g τ l u) (hu : u + 205 ≤ 25000) {i : Int} (hi : isI i) {t : Nd} {index e : Int} (hb : PutBy P (g.k i.toNat).N t e) : ∃ τ' l', GB P (askG g i t index e).1 τ' l' (u + 205) := by
  obtain ⟨h5, _⟩ := isI_nat hi
  obtain ⟨l', hg, _⟩ := h.put h5 hb
  unfold askG
  split
  · exact ⟨τ, l', hg.le (by omega)⟩
  · obtain ⟨τ2, l2, h2⟩ := GB.wait hP.toPO i.toNat index ((putG g i.toNat t e).k i.toNat).N.term 40 hg (by omega)
    exact ⟨τ2, l2, by rw [show u + 205 = u + 5 + 5 * 40 by omega]; exact h2⟩
theorem GL.ask (hP : PK P) (h : GL conf g) (hb : GB P g τ l u) (hu : u + 205 ≤ 25000) {i : Int} (hi : isI i) {t : Nd} {index e : Int} (hp : PutBy P (g.k i.toNat).N t e) :
    GL conf (askG g i t index e).1 ∧ prG (askG g i t index e).1 = (askN (prG g) i t index e).1 ∧ (askG g i t index e).2 = (askN (prG g) i t index e).2 := by
  obtain ⟨h5, _⟩ := isI_nat hi
  have hil : i.toNat < g.ks.length := by rw [hb.ks]; exact h5
  obtain ⟨l', hg, _⟩ := hb.put h5 hp
  by_cases he : e = 0
  · subst he
    obtain ⟨n1, n2⟩ := hp.nb (hb.nb _ h5)
    have hfv := hb.five
    have hpt := hb.pot h5
    have htau := hb.tau
    obtain ⟨k1, k2, k3⟩ := (h _ h5).keep (t := t) (by rw [hp.id, hb.id _ h5]; rfl) (n1.sz hP (by omega) (by omega)) (n1.rec_ hP (by omega))
    have hLp : GL conf (putG g i.toNat t 0) := by
      rw [putG_eq]; exact h.set hb.ks _ k2
    have hpr : prG (putG g i.toNat t 0) = { prG g with ns := (prG g).ns.set i.toNat t } := by
      unfold putG prG
      simp only [List.map_set, k3]
    have hterm : ((putG g i.toNat t 0).k i.toNat).N.term = t.term := by
      rw [putG_eq, Gp.k_set hil, if_pos rfl, k3]
    unfold askG askN
    rw [k1, if_neg (show ¬ ¬ (0 : Int) = 0 from fun h => h rfl), if_neg (show ¬ ¬ (0 : Int) = 0 from fun h => h rfl), hterm, ← hpr]
    exact GL.wait hP h5 index t.term 40 hLp hg (by omega)
  · unfold askG askN
    rw [keep_err he, if_pos (show ¬ (g.k i.toNat, e).2 = 0 from he), if_pos (show ¬ e = 0 from he)]
    have : putG g i.toNat t e = g := by unfold putG; rw [keep_err he]; exact put_self hil
    rw [this]
    exact ⟨h, rfl, rfl⟩
theorem GL.asked (h : GL conf g) (i : Int) : askedF g i = askedN (prG g) i := by
  unfold askedF askedN; rw [h.there]
theorem GL.do_ (hP : PK P) (h : GL conf g) (hb : GB P g τ l u) (hu : u + 205 ≤ 25000) (i : Int) (cmd : List UInt8) (hC : isI i → P (g.k i.toNat).N.log.length ⟨(g.k i.toNat).N.term, 0, cmd⟩) :
    GL conf (doG g i cmd).1 ∧ prG (doG g i cmd).1 = (doN (prG g) i cmd).1 ∧ (doG g i cmd).2 = (doN (prG g) i cmd).2 ∧ ∃ τ' l', GB P (doG g i cmd).1 τ' l' (u + 205) := by
  unfold doG doN
  rw [h.asked]
  split
  · exact ⟨h, rfl, rfl, τ, l, hb.le (by omega)⟩
  · rename_i ha
    have hi : isI i := by
      refine Classical.byContradiction fun hn => ha ?_
      unfold askedN; rw [if_pos hn]; omega
    obtain ⟨h5, _⟩ := isI_nat hi
    rw [prG_n g _ (by rw [hb.ks]; exact h5)]
    have hp := prop_by (hC hi)
    obtain ⟨h1, h2, h3⟩ := h.ask hP hb hu hi (index := (propF (g.k i.toNat).N cmd).2.1) hp
    exact ⟨h1, h2, h3, hb.ask hP hu hi hp⟩
end
def stN (l : List UInt8) : Gn := l.foldl (fun g c => (doN g 0 [c]).1) (calmN (newN 7) 30)
theorem stN_snoc (l : List UInt8) (c : UInt8) : stN (l ++ [c]) = (doN (stN l) 0 [c]).1 := by unfold stN; rw [List.foldl_append]; rfl
def rolesN (g : Gn) : List Int := g.ns.map (·.role)
def ones1 (l : List UInt8) : List (List UInt8) := l.map fun x => [x]
def doesOk (m : Nat) : Prop := ∀ f : Nat → UInt8, rolesN (stN ((List.range m).map f)) = [2, 0, 0, 0, 0] ∧ (stN ((List.range m).map f)).aw = [false, false, false, false, false] ∧
  (∀ c : UInt8, (doN (stN ((List.range m).map f)) 0 [c]).2 = 0) ∧ (calmN (stN ((List.range m).map f)) 10).ns.map doneF = [ones1 ((List.range m).map f), ones1 ((List.range m).map f), ones1 ((List.range m).map f), [], []] ∧ (calmN (stN ((List.range m).map f)) 10).aw = [false, false, false, false, false]
theorem does0 : doesOk 0 := fun f => ⟨by kernel_rfl, by kernel_rfl, fun c => by kernel_rfl, by kernel_rfl, by kernel_rfl⟩
theorem does1 : doesOk 1 := fun f => ⟨by kernel_rfl, by kernel_rfl, fun c => by kernel_rfl, by kernel_rfl, by kernel_rfl⟩
theorem does2 : doesOk 2 := fun f => ⟨by kernel_rfl, by kernel_rfl, fun c => by kernel_rfl, by kernel_rfl, by kernel_rfl⟩
theorem does3 : doesOk 3 := fun f => ⟨by kernel_rfl, by kernel_rfl, fun c => by kernel_rfl, by kernel_rfl, by kernel_rfl⟩
theorem does4 : doesOk 4 := fun f => ⟨by kernel_rfl, by kernel_rfl, fun c => by kernel_rfl, by kernel_rfl, by kernel_rfl⟩
theorem does5 : doesOk 5 := fun f => ⟨by kernel_rfl, by kernel_rfl, fun c => by kernel_rfl, by kernel_rfl, by kernel_rfl⟩
theorem does6 : doesOk 6 := fun f => ⟨by kernel_rfl, by kernel_rfl, fun c => by kernel_rfl, by kernel_rfl, by kernel_rfl⟩
theorem does7 : doesOk 7 := fun f => ⟨by kernel_rfl, by kernel_rfl, fun c => by kernel_rfl, by kernel_rfl, by kernel_rfl⟩
theorem does8 : doesOk 8 := fun f => ⟨by kernel_rfl, by kernel_rfl, fun c => by kernel_rfl, by kernel_rfl, by kernel_rfl⟩
theorem does9 : doesOk 9 := fun f => ⟨by kernel_rfl, by kernel_rfl, fun c => by kernel_rfl, by kernel_rfl, by kernel_rfl⟩
theorem does10 : doesOk 10 := fun f => ⟨by kernel_rfl, by kernel_rfl, fun c => by kernel_rfl, by kernel_rfl, by kernel_rfl⟩
theorem does11 : doesOk 11 := fun f => ⟨by kernel_rfl, by kernel_rfl, fun c => by kernel_rfl, by kernel_rfl, by kernel_rfl⟩
theorem does_all (m : Nat) (hm : m ≤ 11) : doesOk m := by
  match m, hm with
  | 0, _ => exact does0
  | 1, _ => exact does1
  | 2, _ => exact does2
  | 3, _ => exact does3
  | 4, _ => exact does4
  | 5, _ => exact does5
  | 6, _ => exact does6
  | 7, _ => exact does7
  | 8, _ => exact does8
  | 9, _ => exact does9
  | 10, _ => exact does10
  | 11, _ => exact does11
theorem range_get (l : List UInt8) : (List.range l.length).map (fun i => l.getD i 0) = l := by
  refine List.ext_getElem (by simp) fun i h1 h2 => ?_
  simp [List.getD_eq_getElem?_getD, h2]
theorem does_l (l : List UInt8) (hl : l.length ≤ 11) : rolesN (stN l) = [2, 0, 0, 0, 0] ∧ (stN l).aw = [false, false, false, false, false] ∧ (∀ c : UInt8, (doN (stN l) 0 [c]).2 = 0) ∧ (calmN (stN l) 10).ns.map doneF = [ones1 l, ones1 l, ones1 l, [], []] ∧ (calmN (stN l) 10).aw = [false, false, false, false, false] := by
  have h := does_all l.length hl (fun i => l.getD i 0)
  rw [range_get l] at h
  exact h
end Go.Proofs.YtjbokbikkcfjjaaGreat
end
