/-
  Chapter 20 in plain words: a committee whose members' power may go within a write; what is known of its nodes all the same.
-/
import Derived.Test.YtjbokbikkcfjjaaGreatAay
set_option maxRecDepth 16000
set_option maxHeartbeats 8000000
set_option linter.all false
namespace Go.Proofs.YtjbokbikkcfjjaaGreat
open Raft Go.Cap
theorem UI {H : Xm} (F : Qo H) {T T' : Int} {l l' : List En} {k k' : Nat} (h : XL H T l k) (h' : XL H T' l' k') {j : Nat} (hj : j ≤ k) (hj' : j ≤ k') : AG l l' j := by
 rcases Nat.eq_zero_or_pos j with rfl | hj0
 ·exact AG.zero _ _
 rcases h with h | ⟨S, c, n, h1, h2, h3, h4⟩
 ·omega
 rcases h' with h' | ⟨S', c', n', h1', h2', h3', h4'⟩
 ·omega
 have key : ∀ {S S' : Int} {c c' n n' : Nat}, H.cmt S c n → H.cmt S' c' n' → S < S' → AG (H.LL S) (H.LL S') c := by
  intro S S' c c' n n' a a' hlt
  have hl := (F.com _ _ _ a').1
  have h5 := Zn F (F.wins hl) a hlt
  have h6 := F.cl S' hl
  exact h5.trans (h6.1.le (by have := h5.2.1; omega))
 rcases Int.lt_trichotomy S S' with hlt | rfl | hlt
 ·exact ((h4.le hj).symm.trans ((key h1 h1' hlt).le (by omega))).trans (h4'.le hj')
 ·exact (h4.le hj).symm.trans (h4'.le hj')
 ·exact ((h4.le hj).symm.trans ((key h1' h1 hlt).le (by omega)).symm).trans (h4'.le hj')
theorem NI.all {H : Xm} {i : Nat} {n : Nd} {l : List En} (h : NI H i n l) (hb : n.base = 0) : n.log = l := by
 obtain ⟨b, h1, h2, h3, _⟩ := h.bnat
 have : b = 0 := by omega
 rw [h3, this, List.drop_zero]
theorem NI.knows {H : Xm} {i : Nat} {n : Nd} {l : List En} (h : NI H i n l) (hb : n.base = 0) : ∃ c : Nat, n.commit = c ∧ c ≤ n.log.length ∧ XL H n.term n.log c := by
 obtain ⟨c, h1, h2, h3, h4⟩ := h.com
 rw [NI.all h hb]
 exact ⟨c, h1, h3, h4⟩
theorem G1 (n : Nd) (conf : Int) : ∀ k, n.commit ≤ XN n conf k
 | 0 => Int.le_refl _
 | k + 1 => by
  unfold XN
  have := G1 n conf k
  split
  ·omega
  ·exact this
theorem Jq (n : Nd) : n.commit ≤ (QU n).commit := by
 unfold QU
 split
 ·exact G1 n _ _
 ·exact G1 n _ _
theorem Oe (n : Nd) : n.commit ≤ (Xw n).1.commit := by
 unfold Xw
 split
 ·exact Int.le_refl _
 split
 ·exact Int.le_refl _
 split
 ·unfold Yn
  split
  ·exact Jq (Yt (QC { n with wait := n.wait + 1 }))
  ·exact Int.le_refl _
 ·exact Int.le_refl _
theorem Oh (n : Nd) (m : Ms) : n.commit ≤ (Xn n m).1.commit := by
 unfold Xn
 split
 ·exact Int.le_refl _
 have hu : (upN n m).commit = n.commit := by unfold upN; split <;> rfl
 rw [← hu]
 generalize upN n m = n
 unfold LJ
 split
 ·unfold Yj
  split <;> exact Int.le_refl _
 split
 ·unfold Ym
  split
  ·exact Int.le_refl _
  ·split
   ·exact Jq (Yt (XP n m))
   ·exact Int.le_refl _
 split
 ·unfold Ud
  split
  ·exact Int.le_refl _
  split
  ·exact Int.le_refl _
  split
  ·exact Int.le_refl _
  ·exact Int.le_max_left _ _
 split
 ·unfold X9
  split
  ·exact Int.le_refl _
  split
  ·exact Jq (Z9 n m)
  split <;> exact Int.le_refl _
 ·unfold ZW
  split
  ·exact Int.le_refl _
  split
  ·rename_i h; exact Int.le_of_lt h
  ·exact Int.le_refl _
theorem Ot (n : Nd) (cmd : List UInt8) : n.commit ≤ (XD n cmd).1.commit := by
 unfold XD
 split
 ·exact Int.le_refl _
 split
 ·exact Int.le_refl _
 ·exact Jq (Z4 n _)
theorem MC (n : Nd) (c : Int) : n.commit ≤ (QS n c).1.commit := by
 unfold QS
 split
 ·exact Int.le_refl _
 split
 ·exact Int.le_refl _
 split
 ·exact Int.le_refl _
 ·exact Jq (Z4 n _)
def JM (Q : Xm → Prop) : Prop := ∀ H H', Qo H → Ext H H' → Q H → Q H'
structure GQ (Q : Xm → Prop) (g : Gn) (E : List Ms) : Prop where
 ns : g.ns.length = 5
 aw : g.aw.length = 5
 h : ∃ (H : Xm) (L : Nat → List En), Qo H ∧ (∀ i, i < 5 → NI H i (g.n i) (L i)) ∧ (∀ m, m ∈ g.way ∨ m ∈ E → MI H m) ∧ Q H
theorem GQ.go {Q : Xm → Prop} (hQ : JM Q) {g : Gn} {E E' : List Ms} (h : GQ Q g E) {i : Nat} (hi : i < 5) {x : Nd} {out w : List Ms}
  (hg : ∀ H l, Qo H → NI H i (g.n i) l → (∀ m, m ∈ g.way ∨ m ∈ E → MI H m) → V5 1 i H x out) (hw : ∀ m, m ∈ w ∨ m ∈ E' → (m ∈ g.way ∨ m ∈ E) ∨ m ∈ out) : GQ Q (Wt g i x w) E' := by
 obtain ⟨h1, h2, H, L, hF, hN, hM, hq⟩ := h
 obtain ⟨H', l', hD, hF', hN', hO⟩ := hg H (L i) hF (hN i hi) hM
 refine ⟨by show (g.ns.set i x).length = 5; rw [List.length_set]; exact h1, h2, H', fun j => if j = i then l' else L j, hF', ?_, ?_, hQ _ _ hF hD.ext hq⟩
 ·intro j hj
  rw [MP (by rw [h1]; exact hj)]
  by_cases hij : i = j
  ·subst hij
   simp only [if_true]
   exact hN'
  ·simp only [if_neg hij, if_neg (fun e : j = i => hij e.symm)]
   exact hD.oth j _ _ (fun e => hij e.symm) (hN j hj)
 ·intro m hm
  rcases hw m hm with h | h
  ·exact (hM m h).ext hF hD.ext
  ·exact hO m h
theorem GQ.less {Q : Xm → Prop} {g : Gn} {E E' : List Ms} (h : GQ Q g E) {w : List Ms} {aw : List Bool} (ha : aw.length = 5) (hw : ∀ m, m ∈ w ∨ m ∈ E' → m ∈ g.way ∨ m ∈ E) : GQ Q { g with way := w, aw := aw } E' := by
 obtain ⟨h1, h2, H, L, hF, hN, hM, hq⟩ := h
 exact ⟨h1, ha, H, L, hF, hN, fun m hm => hM m (hw m hm), hq⟩
theorem Ui {H : Xm} {i : Nat} {n : Nd} {l : List En} (F : Qo H) (h : NI H i n l) : V5 1 i H n [] := ⟨H, l, (XC.refl i H).le (by decide), F, h, fun x hx => by cases hx⟩
def Xb (E : List Ms) (n y : Nd) : Prop := y = n ∨ y = (Xw n).1 ∨ (∃ m ∈ E, y = (Xn n m).1) ∨ (∃ cmd : List UInt8, cmd.length ≤ 61 ∧ y = (XD n cmd).1) ∨ ∃ c, y = (QS n c).1
structure SG (conf : Int) (Q : Xm → Prop) (c : Nat → Int) (g : Gp) (E : List Ms) (ys : Nat → Nd) (τ l u : Nat) : Prop where
 cf : g.conf = conf
 gb : GB PS g τ l u
 gq : GQ Q (prG g) E
 af : ∀ i : Nat, i < 5 → Ls (Xl i conf) 524100 (g.k i) (ys i)
 rm : ∀ i : Nat, i < 5 → (g.k i).d.room = 1048576
 pe : ∀ i : Nat, i < 5 → Xb E (g.k i).N (ys i)
 mb : ∀ m ∈ E, MB PS m τ l
 cm : ∀ i : Nat, i < 5 → c i ≤ (g.k i).N.commit
theorem Ou (g : Gp) (i : Nat) (K : Kp) (w : List Ms) : prG { g with ks := g.ks.set i K, way := w } = Wt (prG g) i K.N w := by unfold prG Wt; simp only [List.map_set]
section
variable {conf : Int} {Q : Xm → Prop} {c : Nat → Int} {g : Gp} {E : List Ms} {ys : Nat → Nd} {τ l u : Nat}
theorem SG.did (hQ : JM Q) (h : SG conf Q c g E ys τ l u) {i : Nat} (hi : i < 5) (hd : (g.k i).d.dead = false) {t : Nd} {out : List Ms} {τ' e b : Nat} (hid : t.id = (g.k i).N.id) (hτ : τ ≤ τ') (he : τ' ≤ τ + e)
  (hw : Ue PS (g.k i).N t out τ' l e b) (hb : g.way.length + b ≤ 5 * (u + l) + 5 * e) (hu : u + e ≤ 25000)
  (hgo : ∀ H x, Qo H → NI H i (g.k i).N x → (∀ m, m ∈ E → MI H m) → V5 1 i H t out) (hp : Xb E (g.k i).N t) (hc : (g.k i).N.commit ≤ t.commit) :
  ∃ l' ys', SG conf Q c (didG g i t out) E ys' τ' l' (u + e) ∧ l ≤ l' ∧ (didG g i t out).way.length + 5 * l ≤ g.way.length + 5 * l' + b := by
 obtain ⟨l', g1, g2, g3⟩ := h.gb.didG hi (t := t) (out := out) (hid.trans (h.gb.id i hi)) hτ he hw hb
 have hlv : Ju (Xl i conf) 524100 (g.k i) := by
  rcases h.af i hi with ⟨a, _⟩ | a
  ·exact a
  ·rw [a.dead] at hd; cases hd
 have hpot := h.gb.pot hi
 have htau := h.gb.tau
 obtain ⟨hsz, hrc⟩ := hw.sz Q8 (by omega) (by omega)
 have hrm := h.rm i hi
 have hk := WP hlv (t := t) (hid.trans hlv.id) hsz hrc (by omega)
 have hn : (prG g).n i = (g.k i).N := Wx g i (by rw [h.gb.ks]; exact hi)
 obtain ⟨⟨K', e'⟩, hke⟩ : ∃ v, QH (g.k i) t 0 = v := ⟨_, rfl⟩
 rw [hke] at hk
 have hdid : didG g i t out = { g with ks := g.ks.set i K', way := g.way ++ (if e' = 0 then out else []) } := by unfold didG; rw [hke]
 rw [hdid] at g1 g3 ⊢
 refine ⟨l', upA ys i t, ?_, g2, g3⟩
 have hks : ∀ w j, j < 5 → Gp.k { g with ks := g.ks.set i K', way := w } j = if i = j then K' else g.k j := fun w j hj => Gp.k_set (by rw [h.gb.ks]; exact hj)
 have hys : ∀ j, upA ys i t j = if i = j then t else ys j := fun j => by
  unfold upA
  by_cases hij : i = j
  ·rw [if_pos hij, if_pos hij.symm]
  ·rw [if_neg hij, if_neg (fun e => hij e.symm)]
 have fin : ∀ w, GB PS { g with ks := g.ks.set i K', way := w } τ' l' (u + e) → GQ Q (Wt (prG g) i K'.N w) E → Ls (Xl i conf) 524100 K' t → K'.d.room = (g.k i).d.room → Xb E K'.N t → (g.k i).N.commit ≤ K'.N.commit → SG conf Q c { g with ks := g.ks.set i K', way := w } E (upA ys i t) τ' l' (u + e) := by
  intro w a1 a2 a3 a4 a5 a6
  refine ⟨h.cf, a1, by rw [Ou]; exact a2, fun j hj => ?_, fun j hj => ?_, fun j hj => ?_, fun m hm => (h.mb m hm).le hτ g2, fun j hj => ?_⟩
  ·rw [hks w j hj, hys]
   split
   ·rename_i hij; subst hij; exact a3
   ·exact h.af j hj
  ·rw [hks w j hj]
   split
   ·rw [a4]; exact hrm
   ·exact h.rm j hj
  ·rw [hks w j hj, hys]
   split
   ·exact a5
   ·exact h.pe j hj
  ·rw [hks w j hj]
   split
   ·rename_i hij; subst hij; exact Int.le_trans (h.cm _ hj) a6
   ·exact h.cm j hj
 cases hk with
 | ok _ h' hN hl hr' =>
  rw [if_pos rfl] at g1 ⊢
  refine fin _ g1 ?_ (.inl ⟨h', hN.symm⟩) hr' (.inl hN.symm) (by rw [hN]; exact hc)
  rw [hN]
  refine h.gq.go hQ hi (out := out) (fun H x hF hNI hM => hgo H x hF (by rw [← hn]; exact hNI) fun m hm => hM m (.inr hm)) fun m hm => ?_
  rcases hm with hm | hm
  ·rcases List.mem_append.1 hm with hm | hm
   ·exact .inl (.inl hm)
   ·exact .inr hm
  ·exact .inl (.inr hm)
 | full _ h' hN hl hr' hf => exact absurd hf (by omega)
 | dead _ hN hl h' hr' =>
  rw [if_neg (by omega), List.append_nil] at g1 ⊢
  refine fin _ g1 ?_ (.inr (by rw [hN]; exact h')) hr' (by rw [hN]; exact hp) (by rw [hN]; exact Int.le_refl _)
  rw [hN, ← hn]
  exact h.gq.go hQ hi (out := []) (fun H x hF hNI _ => Ui hF hNI) fun m hm => .inl hm
theorem UB {i : Int} (h : Q9 g i = true) : (g.k i.toNat).d.dead = false := by
 unfold Q9 at h
 simp only [Bool.and_eq_true, decide_eq_true_eq, Bool.not_eq_true'] at h
 exact h.2.2
theorem SG.tick (hQ : JM Q) (h : SG conf Q c g E ys τ l u) (hu : u + 1 ≤ 25000) (i : Int) : ∃ l' ys', SG conf Q c (ZC g i) E ys' (τ + 1) l' (u + 1) ∧ l ≤ l' := by
 have ht := h.gb.tau
 by_cases hth : Q9 g i = true
 ·obtain ⟨h5, _⟩ := Q3 (Xk hth)
  unfold ZC
  rw [if_pos hth]
  obtain ⟨l', ys', h1, h2, _⟩ := h.did hQ h5 (UB hth) (JY _) (by omega) (Nat.le_refl _) ((h.gb.nb _ h5).tick Q8.toPO (by omega)) (by have := h.gb.many; omega) hu (fun H x hF hN _ => DG hF hN h5) (.inr (.inl rfl)) (Oe _)
  exact ⟨l', ys', h1, h2⟩
 ·obtain ⟨l', g1, g2⟩ := h.gb.tick Q8.toPO (by omega) i
  unfold ZC at g1 ⊢
  rw [if_neg hth] at g1 ⊢
  exact ⟨l', ys, { h with gb := g1, mb := fun m hm => (h.mb m hm).le (by omega) g2 }, g2⟩
theorem SG.take (hQ : JM Q) (h : SG conf Q c g E ys τ l u) (hu : u ≤ 25000) {m : Ms} (hm : m ∈ E) (hb : g.way.length + 1 ≤ 5 * (u + l)) : ∃ l' ys', SG conf Q c (X3 g m) E ys' τ l' u ∧ l ≤ l' ∧ (X3 g m).way.length + 5 * l ≤ g.way.length + 5 * l' + 1 := by
 have ht := h.gb.tau
 unfold X3
 split
 ·rename_i hth
  obtain ⟨h5, _⟩ := Q3 (Xk hth)
  exact h.did hQ h5 (UB hth) (Je _ _) (Nat.le_refl _) (Nat.le_refl _) ((h.gb.nb _ h5).take Q8.toPO (h.mb m hm) (by omega)) hb hu (fun H x hF hN hM => Wp hF hN h5 (hM m hm)) (.inr (.inr (.inl ⟨m, hm, rfl⟩))) (Oh _ _)
 ·exact ⟨l, ys, h, Nat.le_refl _, by omega⟩
theorem SG.takes (hQ : JM Q) (hu : u ≤ 25000) : ∀ (ms : List Ms) {g : Gp} {ys : Nat → Nd} {l : Nat}, SG conf Q c g E ys τ l u → (∀ m ∈ ms, m ∈ E) → g.way.length + ms.length ≤ 5 * (u + l) → ∃ l' ys', SG conf Q c (ms.foldl X3 g) E ys' τ l' u ∧ l ≤ l'
 | [], g, ys, l, h, _, _ => ⟨l, ys, h, Nat.le_refl _⟩
 | m :: ms, g, ys, l, h, hm, hb => by
  rw [List.length_cons] at hb
  obtain ⟨l1, y1, h1, h2, h3⟩ := h.take hQ hu (hm m List.mem_cons_self) (by omega)
  obtain ⟨l2, y2, h4, h5⟩ := SG.takes hQ hu ms h1 (fun x hx => hm x (List.mem_cons_of_mem _ hx)) (by omega)
  exact ⟨l2, y2, h4, by omega⟩
theorem SG.ticks (hQ : JM Q) (h : SG conf Q c g E ys τ l u) : ∀ k : Nat, u + k ≤ 25000 → ∃ l' ys', SG conf Q c (Z2 g k) E ys' (τ + k) l' (u + k)
 | 0, _ => ⟨l, ys, h⟩
 | k + 1, hu => by
  obtain ⟨l1, y1, h1⟩ := SG.ticks hQ h k (by omega)
  rw [JA]
  obtain ⟨l2, y2, h3, _⟩ := h1.tick hQ (by omega) (k : Int)
  exact ⟨l2, y2, h3⟩
end
def SGe (conf : Int) (Q : Xm → Prop) (c : Nat → Int) (g : Gp) (u : Nat) : Prop := ∃ E ys τ l, SG conf Q c g E ys τ l u
section
variable {conf : Int} {Q : Xm → Prop} {c : Nat → Int} {g : Gp} {u : Nat}
theorem SGe.le {u' : Nat} (h : SGe conf Q c g u) (hu : u ≤ u') : SGe conf Q c g u' := by
 obtain ⟨E, ys, τ, l, h⟩ := h
 exact ⟨E, ys, τ, l, { h with gb := h.gb.le hu }⟩
theorem SGe.tick (hQ : JM Q) (h : SGe conf Q c g u) (hu : u + 1 ≤ 25000) (i : Int) : SGe conf Q c (ZC g i) (u + 1) := by
 obtain ⟨E, ys, τ, l, h⟩ := h
 obtain ⟨l', ys', h1, _⟩ := h.tick hQ hu i
 exact ⟨E, ys', _, l', h1⟩
theorem SG.beside {E : List Ms} {ys : Nat → Nd} {τ l : Nat} (h : SG conf Q c g E ys τ l u) {w : List Ms} (hw : ∀ m ∈ w, m ∈ g.way) (hl : w.length ≤ g.way.length) : SG conf Q c { g with way := w } (g.way ++ E) ys τ l u := by
 have hsub : ∀ m, m ∈ w ∨ m ∈ g.way ++ E → m ∈ g.way ∨ m ∈ E := fun m hm => by
  rcases hm with hm | hm
  ·exact .inl (hw m hm)
  ·exact List.mem_append.1 hm
 refine ⟨h.cf, h.gb.out (fun m hm => h.gb.way m (hw m hm)) (Nat.le_trans hl h.gb.many), h.gq.less (g := prG g) (aw := g.aw) h.gq.aw hsub, h.af, h.rm, fun i hi => ?_, fun m hm => ?_, h.cm⟩
 ·rcases h.pe i hi with a | a | ⟨m, hm, a⟩ | a | a
  ·exact .inl a
  ·exact .inr (.inl a)
  ·exact .inr (.inr (.inl ⟨m, List.mem_append_right _ hm, a⟩))
  ·exact .inr (.inr (.inr (.inl a)))
  ·exact .inr (.inr (.inr (.inr a)))
 ·rcases List.mem_append.1 hm with hm | hm
  ·exact h.gb.way m hm
  ·exact h.mb m hm
theorem SGe.round (hQ : JM Q) (h : SGe conf Q c g u) (hu : u + 5 ≤ 25000) : SGe conf Q c (YT g) (u + 5) := by
 obtain ⟨E, ys, τ, l, h⟩ := h
 have hb := h.gb.many
 have h1 := h.beside (w := []) (fun m hm => by cases hm) (Nat.zero_le _)
 obtain ⟨l2, y2, h2, _⟩ := SG.takes hQ (by omega) g.way h1 (fun m hm => List.mem_append_left _ hm) (by simpa using hb)
 obtain ⟨l3, y3, h3⟩ := h2.ticks hQ 5 (by omega)
 exact ⟨_, y3, _, l3, h3⟩
theorem SGe.calm (hQ : JM Q) (h : SGe conf Q c g u) : ∀ k : Nat, u + 5 * k ≤ 25000 → SGe conf Q c (JQ g k) (u + 5 * k)
 | 0, _ => h
 | k + 1, hu => (SGe.calm hQ h k (by omega)).round hQ (by omega)
theorem SGe.deliver (hQ : JM Q) (h : SGe conf Q c g u) (hu : u ≤ 25000) (k : Int) : SGe conf Q c (Ub g k) u := by
 unfold Ub
 split
 ·rename_i hk
  obtain ⟨E, ys, τ, l, h⟩ := h
  obtain ⟨h1, _⟩ := US hk
  have hl : (M7 g k).way.length = g.way.length - 1 := by show (g.way.eraseIdx k.toNat).length = _; rw [List.length_eraseIdx, if_pos h1]
  have h2 : SG conf Q c (M7 g k) (g.way ++ E) ys τ l u := h.beside (w := g.way.eraseIdx k.toNat) (fun m hm => List.mem_of_mem_eraseIdx hm) (by show (M7 g k).way.length ≤ _; omega)
  obtain ⟨l', ys', h3, _⟩ := h2.take hQ hu (m := g.way.getD k.toNat default) (List.mem_append_left _ (MK hk)) (by have := h.gb.many; omega)
  exact ⟨_, ys', _, l', h3⟩
 ·exact h
theorem SGe.drop (h : SGe conf Q c g u) (k : Int) : SGe conf Q c (Ua g k) u := by
 unfold Ua
 split
 ·obtain ⟨E, ys, τ, l, h⟩ := h
  exact ⟨_, ys, _, l, h.beside (w := g.way.eraseIdx k.toNat) (fun m hm => List.mem_of_mem_eraseIdx hm) (List.length_eraseIdx_le _ _)⟩
 ·exact h
theorem SGe.twice (h : SGe conf Q c g u) (k : Int) : SGe conf Q c (JX g k) (u + 1) := by
 have hle := h.le (u' := u + 1) (by omega)
 obtain ⟨E, ys, τ, l, h⟩ := h
 have hg := (h.gb.twice k).1
 unfold JX at hg ⊢
 split
 ·rename_i hk
  rw [if_pos hk] at hg
  refine ⟨E, ys, τ, l, h.cf, hg, h.gq.less (g := prG g) (aw := g.aw) (w := g.way ++ [g.way.getD k.toNat default]) h.gq.aw (fun m hm => hm.imp_left fun hm => ?_), h.af, h.rm, h.pe, h.mb, h.cm⟩
  rcases List.mem_append.1 hm with hm | hm
  ·exact hm
  ·rw [List.mem_singleton.1 hm]; exact MK hk.1
 ·exact hle
theorem SGe.away (h : SGe conf Q c g u) (i : Int) (b : Bool) : SGe conf Q c (Ll g i b) u := by
 obtain ⟨E, ys, τ, l, h⟩ := h
 have hg := h.gb.away i b
 unfold Ll at hg ⊢
 split
 ·rename_i hi
  rw [if_pos hi] at hg
  exact ⟨E, ys, τ, l, h.cf, hg, h.gq.less (g := prG g) (w := g.way) (aw := g.aw.set i.toNat b) (by rw [List.length_set]; exact h.gq.aw) (fun m hm => hm), h.af, h.rm, h.pe, h.mb, h.cm⟩
 ·exact ⟨E, ys, τ, l, h⟩
theorem SGe.wait (hQ : JM Q) (i : Nat) (index term : Int) : ∀ (f : Nat) {g : Gp} {u : Nat}, SGe conf Q c g u → u + 5 * f ≤ 25000 → SGe conf Q c (Y3 i index term f g).1 (u + 5 * f)
 | 0, g, u, h, _ => h
 | f + 1, g, u, h, hu => by
  unfold Y3
  split
  ·exact h.le (by omega)
  ·have := SGe.wait hQ i index term f (h.round hQ (by omega)) (by omega)
   rw [show u + 5 * (f + 1) = u + 5 + 5 * f by omega]
   exact this
theorem SG.put (hQ : JM Q) {E : List Ms} {ys : Nat → Nd} {τ l : Nat} (h : SG conf Q c g E ys τ l u) (hu : u + 5 ≤ 25000) {i : Int} (hth : Q9 g i = true) {t : Nd} {e : Int} (hb : VY PS (g.k i.toNat).N t e)
  (hgo : ∀ H x, Qo H → NI H i.toNat (g.k i.toNat).N x → V5 1 i.toNat H t []) (hp : Xb E (g.k i.toNat).N t) (hc : (g.k i.toNat).N.commit ≤ t.commit) : SGe conf Q c (JS g i.toNat t e) (u + 5) := by
 obtain ⟨h5, _⟩ := Q3 (Xk hth)
 have hil : i.toNat < g.ks.length := by rw [h.gb.ks]; exact h5
 by_cases he : e = 0
 ·subst he
  have hnb := h.gb.nb _ h5
  obtain ⟨n1, n2⟩ := hb.nb hnb
  obtain ⟨l', ys', h1, _⟩ := h.did hQ h5 (UB hth) (t := t) (out := []) (τ' := τ) (e := 5) (b := 0) hb.id (Nat.le_refl _) (by omega) ⟨1, n1, by omega, by simp, by simp⟩ (by have := h.gb.many; omega) hu (fun H x hF hN _ => hgo H x hF hN) hp hc
  have e1 : didG g i.toNat t [] = JS g i.toNat t 0 := by unfold didG JS; simp
  rw [e1] at h1
  exact ⟨E, ys', τ, l', h1⟩
 ·have : JS g i.toNat t e = g := by unfold JS; rw [CT he]; exact Ck hil
  rw [this]
  exact ⟨E, ys, τ, l, { h with gb := h.gb.le (by omega) }⟩
theorem SGe.ask (hQ : JM Q) {i : Int} {t : Nd} {index e : Int} (h : SGe conf Q c (JS g i.toNat t e) (u + 5)) (hu : u + 205 ≤ 25000) : SGe conf Q c (EY g i t index e).1 (u + 205) := by
 unfold EY
 split
 ·exact h.le (by omega)
 ·have := SGe.wait hQ i.toNat index ((JS g i.toNat t e).k i.toNat).N.term 40 h (by omega)
  rw [show u + 205 = u + 5 + 5 * 40 by omega]
  exact this
theorem VX {i : Int} (h : ¬ ¬ XH g i = 0) : Q9 g i = true := by
 unfold XH at h
 split at h
 ·exact absurd (by omega) h
 ·split at h
  ·exact absurd (by omega) h
  ·rename_i h1; exact Classical.not_not.1 h1
theorem SGe.do_ (hQ : JM Q) (h : SGe conf Q c g u) (hu : u + 205 ≤ 25000) (i : Int) (cmd : List UInt8) (hcm : cmd.length ≤ 61) : SGe conf Q c (doG g i cmd).1 (u + 205) := by
 unfold doG
 split
 ·exact h.le (by omega)
 ·rename_i ha
  have hth := VX ha
  obtain ⟨E, ys, τ, l, h⟩ := h
  refine SGe.ask hQ (h.put hQ (by omega) hth (Wc (Cp h.gb hu i cmd hcm (Xk hth))) (fun H x hF hN => DR hF hN (Q3 (Xk hth)).1 cmd) (.inr (.inr (.inr (.inl ⟨cmd, hcm, rfl⟩)))) (Ot _ _)) hu
theorem Or {τ l : Nat} (hB : GB PS g τ l u) (hu : u + 205 ≤ 25000) (i cf : Int) (hi : isI i) (h0 : 1 ≤ cf) (h31 : cf ≤ 31) : PS (g.k i.toNat).N.log.length ⟨(g.k i.toNat).N.term, cf, []⟩ := by
 have h := hB.nb i.toNat (Q3 hi).1
 have h1 := h.term0
 have h2 := h.term1
 have h3 := hB.tau
 exact ⟨h1, by simp only; omega, by simp only; omega, by simp only; omega, by simp⟩
theorem SGe.change (hQ : JM Q) (h : SGe conf Q c g u) (hu : u + 205 ≤ 25000) (i cf : Int) : SGe conf Q c (Y0 g i cf).1 (u + 205) := by
 unfold Y0
 split
 ·exact h.le (by omega)
 ·rename_i ha
  have hth := VX ha
  obtain ⟨E, ys, τ, l, h⟩ := h
  refine SGe.ask hQ (h.put hQ (by omega) hth (Uo (Or h.gb hu i cf (Xk hth))) (fun H x hF hN => Li hF hN (Q3 (Xk hth)).1 cf) (.inr (.inr (.inr (.inr ⟨cf, rfl⟩)))) (MC _ _)) hu
def DH (g : Gp) (i : Nat) (n : Int) : Gp := { g with ks := g.ks.set i { g.k i with d := X4 (g.k i).d n } }
theorem SG.with_ {E : List Ms} {ys : Nat → Nd} {τ l : Nat} (h : SG conf Q c g E ys τ l u) {i : Nat} (hi : i < 5) {K : Kp} {y : Nd} {τ' l' u' : Nat} (hgb : GB PS { g with ks := g.ks.set i K } τ' l' u') (hq : GQ Q (Wt (prG g) i K.N g.way) E) (ha : Ls (Xl i conf) 524100 K y) (hr : K.d.room = (g.k i).d.room) (hp : Xb E K.N y) (hc : (g.k i).N.commit ≤ K.N.commit) (hτ : τ ≤ τ') (hl : l ≤ l') :
  SG conf Q c { g with ks := g.ks.set i K } E (upA ys i y) τ' l' u' := by
 have hks : ∀ j, j < 5 → Gp.k { g with ks := g.ks.set i K } j = if i = j then K else g.k j := fun j hj => Gp.k_set (w := g.way) (by rw [h.gb.ks]; exact hj)
 have hys : ∀ j, upA ys i y j = if i = j then y else ys j := fun j => by
  unfold upA
  by_cases hij : i = j
  ·rw [if_pos hij, if_pos hij.symm]
  ·rw [if_neg hij, if_neg (fun e => hij e.symm)]
 refine ⟨h.cf, hgb, by rw [show prG { g with ks := g.ks.set i K } = Wt (prG g) i K.N g.way from Ou g i K g.way]; exact hq, fun j hj => ?_, fun j hj => ?_, fun j hj => ?_, fun m hm => (h.mb m hm).le hτ hl, fun j hj => ?_⟩
 ·rw [hks j hj, hys]
  split
  ·rename_i hij; subst hij; exact ha
  ·exact h.af j hj
 ·rw [hks j hj]
  split
  ·rw [hr]; exact h.rm i hi
  ·exact h.rm j hj
 ·rw [hks j hj, hys]
  split
  ·exact hp
  ·exact h.pe j hj
 ·rw [hks j hj]
  split
  ·rename_i hij; subst hij; exact Int.le_trans (h.cm _ hj) hc
  ·exact h.cm j hj
theorem E9 {n0 : Nd} {R : Nat} {K : Kp} {y : Nd} (n : Int) (hn : n ≤ 1000000000) (h : Ls n0 R K y) : Ls n0 R { K with d := X4 K.d n } y := by
 rcases h with ⟨h, e⟩ | h
 ·exact .inl ⟨Rn n h hn, e⟩
 ·refine .inr ⟨h.dead, ⟨?_, ?_, h.dk.r0, h.dk.r1, h.dk.fit⟩, h.s0, h.s1, h.cont⟩
  ·show 0 ≤ max n 0; omega
  ·show max n 0 ≤ 1000000000; omega
theorem SGe.stop (hQ : JM Q) (h : SGe conf Q c g u) {i : Nat} (hi : i < 5) (n : Int) (hn : n ≤ 1000000000) : SGe conf Q c (DH g i n) u := by
 obtain ⟨E, ys, τ, l, h⟩ := h
 have ha := E9 n hn (h.af i hi)
 have hki := h.gb.ki i hi
 have hdk : DkR (X4 (g.k i).d n) := ⟨by show 0 ≤ max n 0; omega, by show max n 0 ≤ 1000000000; omega, hki.d.r0, hki.d.r1, hki.d.fit⟩
 obtain ⟨l', g1, g2, _⟩ := h.gb.did hi (K' := { g.k i with d := X4 (g.k i).d n }) (out := []) (τ' := τ) (c := 0) (b := 0) ⟨hdk, hki.n0, hki.n1⟩ (h.gb.id i hi) (Nat.le_refl _) (Nat.le_refl _) ⟨0, h.gb.nb i hi, by simp only; omega, by simp, by simp⟩ (by have := h.gb.many; omega)
 simp only [List.append_nil] at g1
 have hn : (prG g).n i = (g.k i).N := Wx g i (by rw [h.gb.ks]; exact hi)
 refine ⟨E, _, τ, l', h.with_ hi g1 ?_ ha rfl (h.pe i hi) (Int.le_refl _) (Nat.le_refl _) g2⟩
 show GQ Q (Wt (prG g) i (g.k i).N g.way) E
 rw [← hn]
 exact h.gq.go hQ hi (w := g.way) (out := []) (fun H x hF hNI _ => Ui hF hNI) fun m hm => .inl hm
theorem SGe.crash (hQ : JM Q) {E : List Ms} {ys : Nat → Nd} {τ l : Nat} (h : SG conf Q c g E ys τ l u) (hu : u + 6 ≤ 25000) {i : Nat} (hi : i < 5) {K2 : Kp} (hl : Ju (Xl i conf) 524100 K2) (hN : K2.N = QA (g.k i).N ∨ K2.N = QA (ys i)) (hr : K2.d.room = (g.k i).d.room) :
  SGe conf Q c { g with ks := g.ks.set i K2 } (u + 6) := by
 have hki2 : KI K2 := by
  obtain ⟨so, rs, hc, hnn⟩ := hl.cont
  exact ⟨hl.dk, by omega, by have := hc.len; omega⟩
 have hki := h.gb.ki i hi
 have hil : i < g.ks.length := by rw [h.gb.ks]; exact hi
 have hn : (prG g).n i = (g.k i).N := Wx g i hil
 have hnb := h.gb.nb i hi
 have htau := h.gb.tau
 have hmany := h.gb.many
 have hpe := h.pe i hi
 have go : ∀ (y : Nd) (τ' e b : Nat), y.id = (g.k i).N.id → τ ≤ τ' → τ' ≤ τ + e → e ≤ 6 → Ue PS (g.k i).N y [] τ' l e 0 → (∀ H x, Qo H → NI H i (g.k i).N x → (∀ m, m ∈ E → MI H m) → ∃ out, V5 1 i H y out) → (g.k i).N.commit ≤ y.commit → K2.N = QA y → SGe conf Q c { g with ks := g.ks.set i K2 } (u + 6) := by
  intro y τ' e b hyid hτ hτ' he hw hgo hcm hK2
  obtain ⟨l1, a1, a2, _⟩ := h.gb.did hi (K' := { g.k i with N := y }) (out := []) ⟨hki.d, hki.n0, hki.n1⟩ (hyid.trans (h.gb.id i hi)) hτ hτ' hw (by omega)
  simp only [List.append_nil] at a1
  have hk1 : Gp.k { g with ks := g.ks.set i { g.k i with N := y } } i = { g.k i with N := y } := by
   have := Gp.k_set (g := g) (i := i) (j := i) (K := { g.k i with N := y }) (w := g.way) hil
   rw [if_pos rfl] at this
   exact this
  have hnb1 := a1.nb i hi
  rw [hk1] at hnb1
  obtain ⟨l2, b1, b2, _⟩ := a1.did hi (K' := K2) (out := []) (τ' := τ') (c := 0) (b := 0) hki2 (by rw [hK2]; exact hyid.trans (h.gb.id i hi)) (Nat.le_refl _) (Nat.le_refl _) ⟨0, by rw [hK2]; exact hnb1.wake, by rw [hK2, hk1]; have := Cr (n := y); omega, by simp, by simp⟩ (by have := a1.many; omega)
  simp only [List.append_nil, List.set_set] at b1
  refine ⟨E, _, τ', l2, h.with_ hi (b1.le (by omega)) ?_ (.inl ⟨hl, rfl⟩) hr (.inl rfl) ?_ hτ (by omega)⟩
  ·rw [hK2]
   refine h.gq.go hQ hi (w := g.way) (out := []) (fun H x hF hNI hM => ?_) fun m hm => .inl hm
   rw [hn] at hNI
   obtain ⟨out, H', x', hD, hF', hN', _⟩ := hgo H x hF hNI fun m hm => hM m (.inr hm)
   exact ⟨H', x', hD, hF', hN'.wake, fun m hm => by cases hm⟩
  ·rw [hK2]; exact hcm
 rcases hN with hN | hN
 ·exact go _ τ 0 0 rfl (Nat.le_refl _) (Nat.le_refl _) (by omega) ⟨0, hnb, by omega, by simp, by simp⟩ (fun H x hF hNI _ => ⟨[], Ui hF hNI⟩) (Int.le_refl _) hN
 have cut : ∀ {y : Nd} {out : List Ms} {τ' e b : Nat}, Ue PS (g.k i).N y out τ' l e b → Ue PS (g.k i).N y [] τ' l e 0 := fun ⟨d, w1, w2, _, _⟩ => ⟨d, w1, w2, by simp, by simp⟩
 rcases hpe with hy | hy | ⟨m, hm, hy⟩ | ⟨cmd, hcl, hy⟩ | ⟨cf, hy⟩
 ·exact go _ τ 0 0 rfl (Nat.le_refl _) (Nat.le_refl _) (by omega) ⟨0, hnb, by omega, by simp, by simp⟩ (fun H x hF hNI _ => ⟨[], Ui hF hNI⟩) (Int.le_refl _) (by rw [hN, hy])
 ·exact go _ (τ + 1) 1 0 (JY _) (by omega) (Nat.le_refl _) (by omega) (cut (hnb.tick Q8.toPO (by omega))) (fun H x hF hNI _ => ⟨_, DG hF hNI hi⟩) (Oe _) (by rw [hN, hy])
 ·exact go _ τ 0 0 (Je _ m) (Nat.le_refl _) (Nat.le_refl _) (by omega) (cut (hnb.take Q8.toPO (h.mb m hm) (by omega))) (fun H x hF hNI hM => ⟨_, Wp hF hNI hi (hM m hm)⟩) (Oh _ _) (by rw [hN, hy])
 ·have hps : PS (g.k i).N.log.length ⟨(g.k i).N.term, 0, cmd⟩ := ⟨hnb.term0, by have := hnb.term1; simp only; omega, Int.le_refl _, by simp only; omega, hcl⟩
  have hb := Wc hps
  obtain ⟨n1, n2⟩ := hb.nb hnb
  exact go _ τ 5 0 hb.id (Nat.le_refl _) (by omega) (by omega) ⟨1, n1, by omega, by simp, by simp⟩ (fun H x hF hNI _ => ⟨_, DR hF hNI hi cmd⟩) (Ot _ _) (by rw [hN, hy])
 ·have hb := Uo (P := PS) (N := (g.k i).N) (conf := cf) (fun a b => ⟨hnb.term0, by have := hnb.term1; simp only; omega, by simp only; omega, by simp only; omega, by simp⟩)
  obtain ⟨n1, n2⟩ := hb.nb hnb
  exact go _ τ 5 0 hb.id (Nat.le_refl _) (by omega) (by omega) ⟨1, n1, by omega, by simp, by simp⟩ (fun H x hF hNI _ => ⟨_, Li hF hNI hi cf⟩) (MC _ _) (by rw [hN, hy])
end
end Go.Proofs.YtjbokbikkcfjjaaGreat
namespace Go.Proofs.YtjbokbikkcfjjaaGreat
open Go.Cap Raft
attribute [local irreducible] POp Qf Pw EOp Sim FnH T.gp
section
variable {conf : Int} {Q : Xm → Prop} {c : Nat → Int} {g : Gp} {u : Nat}
theorem EA {τ l : Nat} (bg : Nat) (H : Qd) (i cf : Int) (hi : isI i) (hB : GB PS g τ l u) (hu : u + 205 ≤ 25000) (hG : IsG bg g H) : FnH Tryz.prog 27 [pW bg, ei i, ei cf] H (fun r H' => r = ei (Y0 g i cf).2 ∧ IsG bg (Y0 g i cf).1 H') :=
 GH Q8 bg g H i cf hB hu (Or hB hu i cf hi) hG
theorem C6 (bg : Nat) (H : Qd) (i n : Int) (hi : isI i) (hks : g.ks.length = 5) (hG : IsG bg g H) : FnH Tryz.prog 21 [pW bg, ei i, ei n] H (fun r H' => r = .v (.bool true) ∧ IsG bg (DH g i.toNat n) H') := by
 have hI := J6 bg g H i hG
 obtain ⟨h5, hin⟩ := Q3 hi
 obtain ⟨a, bm, em, clk, W, wv, hAw, hO, rfl⟩ := hG
 obtain ⟨K, hK⟩ : ∃ K, K = g.k i.toNat := ⟨_, rfl⟩
 obtain ⟨bk, hbk⟩ : ∃ bk, bk = (a i.toNat).bk := ⟨_, rfl⟩
 obtain ⟨bj, hbj⟩ : ∃ bj, bj = (a i.toNat).bj := ⟨_, rfl⟩
 obtain ⟨bd, hbd⟩ : ∃ bd, bd = (a i.toNat).bd := ⟨_, rfl⟩
 have hcd := Ni (conf := g.conf) (a := a) (bm := bm) (wv := wv) hi
 rw [← hbd] at hcd
 have hsplit : ∀ d : Dk, ([(bk, (⟨tK, pW bj :: Qs K.N (.sl false (K.N.log.map een)), 23⟩ : Blk)), (bj, ⟨tJ, [pW bd, ei K.n], 2⟩)] ++ DkH bd d) = mH (a i.toNat) { K with d := d } := fun d => by rw [hbk, hbj, hbd]; rfl
 have hMat : (gM a g.k).Perm (DkH bd K.d ++ ((bk, ⟨tK, pW bj :: Qs K.N (.sl false (K.N.log.map een)), 23⟩) :: (bj, ⟨tJ, [pW bd, ei K.n], 2⟩) :: gO a g.k i.toNat)) := by
  have h1 := Vi a g.k h5
  have h2 : mH (a i.toNat) (g.k i.toNat) = [(bk, ⟨tK, pW bj :: Qs K.N (.sl false (K.N.log.map een)), 23⟩), (bj, ⟨tJ, [pW bd, ei K.n], 2⟩)] ++ DkH bd K.d := by rw [hsplit, hK]
  rw [h2] at h1
  refine h1.trans ?_
  rw [List.append_assoc]
  exact (List.perm_append_comm_assoc _ _ _)
 have hp0 := M4 (x := (bg, ⟨tG, gC g.conf a bm wv, 13⟩)) (y := (bm, ⟨.map em clk, [], 0⟩)) (W := W) hMat
 have hgk : ∀ j, j < 5 → (DH g i.toNat n).k j = upA g.k i.toNat { K with d := X4 K.d n } j := fun j hj => by
  have := Gp.k_set (g := g) (i := i.toNat) (j := j) (K := { K with d := X4 K.d n }) (w := g.way) (by rw [hks]; exact hj)
  unfold DH
  rw [← hK]
  rw [show Gp.k { g with ks := g.ks.set i.toNat { K with d := X4 K.d n } } j = _ from this]
  unfold upA
  by_cases hij : i.toNat = j
  ·rw [if_pos hij, if_pos hij.symm]
  ·rw [if_neg hij, if_neg (fun e => hij e.symm)]
 have hpU : (DkH bd (X4 K.d n) ++ ((bk, ⟨tK, pW bj :: Qs K.N (.sl false (K.N.log.map een)), 23⟩) :: (bj, ⟨tJ, [pW bd, ei K.n], 2⟩) :: gO a g.k i.toNat)).Perm (gM a (upA g.k i.toNat { K with d := X4 K.d n })) := by
  have h1 := Mi a a g.k (upA g.k i.toNat { K with d := X4 K.d n }) h5 (fun j _ hj => ⟨rfl, by unfold upA; rw [if_neg hj]⟩)
  have h2 : upA g.k i.toNat { K with d := X4 K.d n } i.toNat = { K with d := X4 K.d n } := if_pos rfl
  rw [h2, ← hsplit, List.append_assoc] at h1
  exact (List.perm_append_comm_assoc _ _ _).trans h1
 have hpE := (M4 (x := (bg, ⟨tG, gC g.conf a bm wv, 13⟩)) (y := (bm, ⟨.map em clk, [], 0⟩)) (W := W) hpU.symm).symm
 have hSt := Ok bd K.d n
 refine fe Tryz.func21 fun S0 w0 => ?_
 show Sim _ _ [(0, pW bg), (1, ei i), (2, ei n)] ((bg, ⟨tG, gC g.conf a bm wv, 13⟩) :: (bm, ⟨.map em clk, [], 0⟩) :: (W ++ gM a g.k)) _
 refine zC ?_
 refine cr <| s_ Qb <| zC ?_
 refine cr <| s_ Qa <| s_ Qa ?_
 refine QN hI (fun r H' ⟨hr1, hr2⟩ => ?_)
 subst hr1 hr2
 refine s_ Yr <| zC ?_
 refine ci (p := ¬ isI i) (fun h => absurd hi h) (fun _ => ?_)
 show Sim _ _ _ ((bg, ⟨tG, gC g.conf a bm wv, 13⟩) :: (bm, ⟨.map em clk, [], 0⟩) :: (W ++ gM a g.k)) _
 refine zC ?_
 refine cr <| s_ Qa <| s_ Qa <| s_ Qe <| s_ Qc <| s_ Yx <| s_ Qc <| s_ (Qj (hd := hcd)) <| s_ Qe ?_
 (first | refine s_ L5 ?_ | refine s_ Qc ?_)
 refine s_ Qa ?_
 refine QV hSt hp0 (fun r H' ⟨hr1, hr2⟩ => ?_)
 subst hr1 hr2
 refine Qy hpE ?_
 refine zC ?_
 refine cr <| s_ Qb <| zC ?_
 refine zR ?_
 refine rh kR ⟨rfl, a, bm, em, clk, W, wv, hAw, hO, ?_⟩ (Le.refl _)
 show _ = gH bg g.conf a bm em clk W wv (DH g i.toNat n).k
 unfold gH
 rw [EB _ (upA g.k i.toNat { K with d := X4 K.d n }) _ (fun j hj => hgk j hj)]
theorem SG.pend_nb {E : List Ms} {ys : Nat → Nd} {τ l : Nat} (h : SG conf Q c g E ys τ l u) (hu : u + 6 ≤ 25000) {i : Nat} (hi : i < 5) : ∃ τ' l', NB PS (ys i) τ' l' ∧ τ' ≤ 100000 ∧ l' ≤ 5000 ∧ (ys i).id = (g.k i).N.id := by
 have hnb := h.gb.nb i hi
 have hpot := h.gb.pot hi
 have ht := h.gb.tau
 rcases h.pe i hi with hy | hy | ⟨m, hm, hy⟩ | ⟨cmd, hcl, hy⟩ | ⟨cf, hy⟩
 ·rw [hy]; exact ⟨τ, l, hnb, by omega, by omega, rfl⟩
 ·obtain ⟨d, w1, w2, _, _⟩ := hnb.tick Q8.toPO (by omega)
  rw [hy]; exact ⟨_, _, w1, by omega, by omega, JY _⟩
 ·obtain ⟨d, w1, w2, _, _⟩ := hnb.take Q8.toPO (h.mb m hm) (by omega)
  rw [hy]; exact ⟨_, _, w1, by omega, by omega, Je _ _⟩
 ·have hb := Wc (P := PS) (N := (g.k i).N) (cmd := cmd) ⟨hnb.term0, by have := hnb.term1; simp only; omega, Int.le_refl _, by simp only; omega, hcl⟩
  obtain ⟨n1, n2⟩ := hb.nb hnb
  rw [hy]; exact ⟨_, _, n1, by omega, by omega, hb.id⟩
 ·have hb := Uo (P := PS) (N := (g.k i).N) (conf := cf) (fun a b => ⟨hnb.term0, by have := hnb.term1; simp only; omega, by simp only; omega, by simp only; omega, by simp⟩)
  obtain ⟨n1, n2⟩ := hb.nb hnb
  rw [hy]; exact ⟨_, _, n1, by omega, by omega, hb.id⟩
theorem GG (hQ : JM Q) (bg : Nat) (H : Qd) (i pick : Int) (hi : isI i) (h0 : 0 ≤ conf) (h31 : conf ≤ 31) (hS : SGe conf Q c g u) (hu : u + 6 ≤ 25000) (hG : IsG bg g H) : FnH Tryz.prog 24 [pW bg, ei i, ei pick] H (fun r H' => ∃ g', IsG bg g' H' ∧ SGe conf Q c g' (u + 6)) := by
 obtain ⟨E, ys, τ, l, h⟩ := hS
 obtain ⟨h5, hin⟩ := Q3 hi
 obtain ⟨τ', l', hny, ht', hl', hyid⟩ := h.pend_nb hu h5
 have hnb := h.gb.nb _ h5
 have hf := h.gb.five
 have ht := h.gb.tau
 have ha := h.af _ h5
 rw [hin] at ha
 have hcf := h.cf
 have hid := (h.gb.id _ h5).trans hin
 refine (Ic bg g H i pick (ys i.toNat) hi h.gb.ks (by omega) (by omega) (by rw [hcf]; exact ha) hid (hyid.trans hid) (hnb.wake.sz Q8 (by omega) (by omega)) (hnb.wake.rec_ Q8 (by omega)) (hny.wake.sz Q8 ht' hl') (hny.wake.rec_ Q8 hl') hG).mono ?_
 rintro r H' ⟨h1, K2, h2, h3, h4, _, h6⟩
 rw [hcf] at h3
 exact ⟨_, h2, SGe.crash hQ h hu h5 (by rw [hin]; exact h3) h4 h6⟩
end
theorem EE (f f' : Bool) (a b : List (List UInt8)) (ha : a.length ≤ 1000000000) (hb : b.length ≤ 1000000000) (h : a <+: b ∨ b <+: a) : FnP Tryz.prog 33 [.sl f (a.map es), .sl f' (b.map es)] (fun r => r = .v (.bool true)) := by
 have hget : ∀ k (h1 : k < a.length) (h2 : k < b.length), a[k] = b[k] := fun k h1 h2 => by
  rcases h with ⟨c, rfl⟩ | ⟨c, rfl⟩
  ·simp [List.getElem_append_left h1]
  ·simp [List.getElem_append_left h2]
 refine fe Tryz.func33 fun S0 w0 => ?_
 show Sim _ _ [(0, T.sl f (a.map es)), (1, T.sl f' (b.map es))] _ _
 refine zC ?_
 refine cr <| s_ Qb <| zC ?_
 refine cr <| s_ Qb <| zC ?_
 apply Qp (σ := Nat) (ok := fun k => k ≤ a.length) (env := fun k => [(5, ei (k : Nat)), (0, T.sl f (a.map es)), (1, T.sl f' (b.map es))]) (heap := fun _ => []) (μ := fun k => a.length - k) (s0 := 0)
 ·exact Nat.zero_le _
 ·exact eL
 ·exact kR
 rintro k hk1
 refine zC ?_
 refine cr <| s_ Qa <| s_ Qa ?_
 (first | refine s_ QX ?_ | refine s_ QQ ?_)
 refine s_ Q2 <| s_ Qa <| gT (fun hg => Qa) ?_
 refine gT (fun hg => Qa) ?_
 (first | refine gT (fun hg => QX (hx := u_ hg)) ?_ | refine gT (fun hg => QQ (hx := u_ hg)) ?_)
 refine gT (fun hg => Q2 (hx := u_ hg) (hy := u_ hg)) ?_
 refine s_ Yh <| zC ?_
 refine ci ?_ ?_
 ·rintro ⟨hlt, hlt2⟩
  simp only [List.length_map] at hlt hlt2
  have hix : k < a.length := by omega
  have hix2 : k < b.length := by omega
  have he := hget k hix hix2
  refine zC ?_
  refine ca [0, 1, 2, 3, 4, 5, 6, 7, 8] [] <| a_ (fun _ => Qa) <| a_ (fun _ => Qa) ?_
  (first | refine a_ (fun _ => Xh hix) ?_ | refine a_ (fun _ => Xh hix2) ?_ | refine a_ (fun _ => YM) ?_ | refine a_ (fun _ => Y8) ?_)
  refine a_ (fun _ => Qm) <| a_ (fun _ => Qa) <| a_ (fun _ => Qa) ?_
  (first | refine a_ (fun _ => Xh hix) ?_ | refine a_ (fun _ => Xh hix2) ?_ | refine a_ (fun _ => YM) ?_ | refine a_ (fun _ => Y8) ?_)
  refine a_ (fun _ => Qm) <| a_ (fun _ => TB) ?_
  apply an
  refine zC ?_
  refine ci (fun h => absurd he h) (fun _ => ?_)
  refine zC ?_
  refine cr <| s_ Qa <| s_ Q6 <| s_ Qb <| zC ?_
  exact ⟨k + 1, by omega, by show a.length - (k + 1) < a.length - k; omega, ⟨Qh (by rfl) (Le.refl _), eL⟩, kR⟩
 ·intro hlt
  refine zC ?_
  refine cr <| s_ Qb <| zC ?_
  refine zE ?_
  exact Le.refl _
end Go.Proofs.YtjbokbikkcfjjaaGreat
namespace Go.Proofs.YtjbokbikkcfjjaaGreat
open Go.Cap
attribute [local irreducible] POp Qf Pw EOp Sim FnH T.gp
structure Ag where
 kind : Int
 i : Int
 n : Int
 cmd : List UInt8
def agT (a : Ag) : T := .agg [ei a.kind, ei a.i, ei a.n, es a.cmd]
def Pv (l : List Ag) : Prop := (∀ j (hj : j < l.length), l[j].cmd.length ≤ 60) ∧ l.length ≤ 100
theorem IC (l : List UInt8) : (bs l).size = l.length := by simp [bs, ByteArray.size]
theorem Bm (f : Bool) (l : List Ag) (hl : l.length ≤ 9223372036854775807) : FnP Tryz.prog 28 [.sl f (l.map agT)] (fun r => ∃ b : Bool, r = .v (.bool b) ∧ (b = true → Pv l)) := by
 refine fe Tryz.func28 fun S0 w0 => ?_
 show Sim _ _ [(0, .sl f (l.map agT))] _ _
 refine zC ?_
 refine cr <| s_ Qb <| zC ?_
 refine cr <| s_ Qb <| zC ?_
 apply Qp (σ := Nat) (ok := fun k => k ≤ l.length ∧ ∀ j (hj : j < l.length), j < k → l[j].cmd.length ≤ 60) (env := fun k => [(3, ei k), (0, .sl f (l.map agT))]) (heap := fun _ => []) (μ := fun k => l.length - k) (s0 := 0)
 ·exact ⟨Nat.zero_le _, fun j _ h => by omega⟩
 ·exact eL
 ·exact kR
 rintro k ⟨hk, hg⟩
 refine zC ?_
 refine cr <| s_ Qa <| s_ Qa ?_
 (first | refine s_ QX ?_ | refine s_ QQ ?_)
 refine s_ Q2 <| zC ?_
 refine ci ?_ ?_
 ·intro hlt
  have hix : k < l.length := by simp only [List.length_map] at hlt; omega
  refine zC ?_
  refine cr <| s_ Qa <| s_ Qa ?_
  (first | refine s_ (Xh hix) ?_ | refine s_ (Xh hix2) ?_ | refine s_ YM ?_ | refine s_ Y8 ?_)
  (first | refine s_ Qu ?_ | refine s_ Qc ?_)
  refine s_ Qm <| s_ Pz <| s_ Ys <| zC ?_
  refine ci ?_ ?_
  ·intro _
   refine zC ?_
   refine cr <| s_ Qb <| zC ?_
   apply Yf; (try simp only [Yc, YC, Zt, Vs, Vt])
   exact re (Le.refl _) ⟨false, rfl, fun h => by cases h⟩
  intro hc
  refine zC ?_
  refine cr <| s_ Qa <| s_ Q6 <| s_ Qb <| zC ?_
  refine ⟨k + 1, ⟨hix, ?_⟩, (by simp only []; omega), ⟨?_, eL⟩, kR⟩
  ·intro j hj hjk
   by_cases hje : j = k
   ·subst hje
    rw [IC] at hc
    omega
   ·exact hg j hj (by omega)
  ·apply Qh; (exact zG)
   exact Le.refl _
 ·intro hge
  have hke : k = l.length := by simp only [List.length_map] at hge; omega
  subst hke
  refine zC ?_
  refine cr <| s_ Qa ?_
  (first | refine s_ QX ?_ | refine s_ QQ ?_)
  refine s_ Cz <| s_ Qb <| zC ?_
  apply Yf; (try simp only [Yc, YC, Zt, Vs, Vt])
  refine re (Le.refl _) ⟨decide _, rfl, fun h => ?_⟩
  have := of_decide_eq_true h
  simp only [List.length_map] at this
  exact ⟨fun j hj => hg j hj hj, by omega⟩
end Go.Proofs.YtjbokbikkcfjjaaGreat
