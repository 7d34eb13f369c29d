/-
  group: Drop, Twice, Away, Keep.
-/
import Derived.Test.YtjbokbikkcfjjaaGreatAau
set_option maxRecDepth 16000
set_option maxHeartbeats 8000000
set_option linter.all false
namespace Go.Cap
theorem OS {es : List (Value × T × Nat)} {k : Value} (x : T) (hg : XZ es k ≠ none) (k' : Value) : XZ (Vo es k x) k' = if keq k k' = true then some x else XZ es k' := by
 induction es with
 | nil => exact absurd rfl hg
 | cons e es ih =>
  rw [Vo]
  by_cases h : keq e.1 k = true
  ·rw [if_pos h, XZ, XZ, JQ h]
   split <;> rfl
  ·rw [if_neg h]
   rw [XZ, if_neg h] at hg
   rw [XZ, XZ, ih hg]
   by_cases h2 : keq k k' = true
   ·have := JQ h2
    subst this
    rw [if_neg h, if_pos h2, if_pos h2]
   ·rw [if_neg h2, if_neg h2]
theorem E8 {es : List (Value × T × Nat)} {k : Value} (x : T) (n : Nat) (hg : XZ es k = none) (k' : Value) : XZ (es ++ [(k, x, n)]) k' = if keq k k' = true then some x else XZ es k' := by
 induction es with
 | nil => rfl
 | cons e es ih =>
  rw [XZ] at hg
  split at hg
  ·cases hg
  ·rename_i h
   rw [List.cons_append, XZ, XZ, ih hg]
   by_cases h2 : keq k k' = true
   ·have := JQ h2
    subst this
    rw [if_neg h, if_pos h2, if_pos h2]
   ·rw [if_neg h2, if_neg h2]
end Go.Cap
namespace Go.Proofs.YtjbokbikkcfjjaaGreat
open Go.Cap
attribute [local irreducible] POp Qf BW EOp Sim FnH T.gp
theorem DL.set {aw : List Bool} {es : List (Value × T × Nat)} (h : DL aw es) (clk : Nat) {i : Int} (hi : isI i) (b : Bool) (hl : aw.length = 5) : ∃ es' clk', Mg es clk (.int .i64 i) (eB b) = .map es' clk' ∧ DL (aw.set i.toNat b) es' := by
 have hI : MapKept.IsKey (.int .i64) (.int .i64 i) := rfl
 have hget : ∀ es', (∀ k', XZ es' k' = if keq (.int .i64 i) k' = true then some (eB b) else XZ es k') → ∀ j : Nat, j < 5 → (XZ es' (.int .i64 (j : Int))).getD (.v (.bool false)) = eB ((aw.set i.toNat b).getD j false) := by
  intro es' he j hj
  rw [he, List.getD_eq_getElem?_getD, List.getElem?_set]
  by_cases hij : i.toNat = j
  ·have : keq (.int .i64 i) (.int .i64 (j : Int)) = true := by simp [keq]; have := hi.1; omega
   rw [if_pos this, if_pos hij, if_pos (by omega)]; rfl
  ·have : ¬ keq (.int .i64 i) (.int .i64 (j : Int)) = true := by simp [keq]; have := hi.1; omega
   rw [if_neg this, if_neg hij, h.get j hj, List.getD_eq_getElem?_getD]
 unfold Mg
 cases hg : XZ es (.int .i64 i) with
 | some y => exact ⟨_, _, rfl, h.keys.set _ _, hget _ (OS _ (by rw [hg]; simp))⟩
 | none => exact ⟨_, _, rfl, h.keys.push hI hg _ _, hget _ (E8 _ _ hg)⟩
theorem Mz {P : Nat → En → Prop} {τ l u : Nat} (bg : Nat) (g : Gp) (H : Qb) (k : Int) (h : GB P g τ l u) (hu : u ≤ 25000) (hG : IsG bg g H) : FnH Tryz.prog 14 [pW bg, ei k] H (fun r H' => r = eB (decide (Xk g k)) ∧ IsG bg (JH g k) H') := by
 have hT := Lx bg g H k hG
 obtain ⟨a, bm, es, clk, W, wv, hA, hO, rfl⟩ := hG
 obtain ⟨p, c, rfl⟩ := hO.len
 refine fe Tryz.func14 fun S0 w0 => ?_
 show Sim _ _ [(0, pW bg), (1, ei k)] ((bg, ⟨tG, gC g.conf a bm _, 13⟩) :: (bm, ⟨.map es clk, [], 0⟩) :: (W ++ gM a g.k)) _
 refine zC ?_
 refine cr <| s_ Qc <| zC ?_
 refine cr <| s_ Qa <| s_ Qa ?_
 refine QP hT (fun r H' ⟨hr1, hr2⟩ => ?_)
 subst hr1 hr2
 refine s_ Ym <| zC ?_
 refine ci ?_ ?_
 ·intro hn
  have hno : ¬ Xk g k := hn
  refine zC ?_
  refine cr <| s_ Qc <| zC ?_
  refine zR ?_
  refine rh kR ⟨rfl, ?_⟩ ?_
  ·unfold JH; rw [if_neg hno]
   exact ⟨a, bm, es, clk, W, _, hA, hO, rfl⟩
  ·exact Le.of_eq (by show T.v (.bool false) = T.v (.bool (decide (Xk g k))); rw [decide_eq_false hno])
 ·intro hn
  have hyes : Xk g k := Classical.not_not.1 hn
  obtain ⟨hkl, hkn, hget⟩ := JV hyes
  have hmany := h.many
  have hfive := h.five
  have hk0 := hyes.1
  have hk1 := hyes.2
  have hdel := Rz g.way k.toNat hkl (by omega) hO
  rw [hkn] at hdel
  refine zC ?_
  refine cr <| s_ Qa <| s_ Qa <| s_ Qe <| s_ Qd <| s_ Qn <| s_ Qa <| s_ Qa <| s_ QZ ?_
  refine Q4 hdel D2 (fun r H' ⟨v', hr1, hO'⟩ => ?_)
  subst hr1
  refine QF D2.symm ?_
  obtain ⟨p', c', rfl⟩ := hO'.len
  refine s_ Qe <| s_ Qd <| QC ?_
  refine zC ?_
  refine cr <| s_ Qc <| zC ?_
  refine zR ?_
  refine rh kR ⟨rfl, ?_⟩ ?_
  ·unfold JH; rw [if_pos hyes]; exact IsG.out (a := a) (bm := bm) (clk := clk) hA hO'
  ·exact Le.of_eq (by show T.v (.bool true) = T.v (.bool (decide (Xk g k))); rw [decide_eq_true hyes])
theorem BF {P : Nat → En → Prop} {τ l u : Nat} (bg : Nat) (g : Gp) (H : Qb) (i : Int) (b : Bool) (h : GB P g τ l u) (hG : IsG bg g H) : FnH Tryz.prog 20 [pW bg, ei i, eB b] H (fun r H' => r = eB (decide (isI i)) ∧ IsG bg (RH g i b) H') := by
 have hT := Lw bg g H i hG
 obtain ⟨a, bm, es, clk, W, wv, hA, hO, rfl⟩ := hG
 refine fe Tryz.func20 fun S0 w0 => ?_
 show Sim _ _ [(0, pW bg), (1, ei i), (2, eB b)] ((bg, ⟨tG, gC g.conf a bm wv, 13⟩) :: (bm, ⟨.map es clk, [], 0⟩) :: (W ++ gM a g.k)) _
 have hkeys := hA.keys
 refine zC ?_
 refine cr <| s_ Qc <| zC ?_
 refine cr <| s_ Qa <| s_ Qa ?_
 refine QP hT (fun r H' ⟨hr1, hr2⟩ => ?_)
 subst hr1 hr2
 refine s_ Ym <| zC ?_
 refine ci ?_ ?_
 ·intro hn
  have hno : ¬ isI i := hn
  refine zC ?_
  refine cr <| s_ Qc <| zC ?_
  refine zR ?_
  refine rh kR ⟨rfl, ?_⟩ ?_
  ·unfold RH; rw [if_neg hno]
   exact ⟨a, bm, es, clk, W, _, hA, hO, rfl⟩
  ·exact Le.of_eq (by show T.v (.bool false) = T.v (.bool (decide (isI i))); rw [decide_eq_false hno])
 ·intro hn
  have hyes : isI i := Classical.not_not.1 hn
  obtain ⟨es', clk', hput, hA'⟩ := hA.set clk hyes b h.aw
  refine zC ?_
  refine cr <| s_ Qa <| s_ Qe <| s_ Qd <| s_ Qn <| s_ Qa <| s_ Qa ?_
  refine B8 hkeys ?_
  refine zC ?_
  refine cr <| s_ Qc <| zC ?_
  rw [hput]
  refine zR ?_
  refine rh kR ⟨rfl, ?_⟩ ?_
  ·unfold RH; rw [if_pos hyes]; exact ⟨a, bm, es', clk', W, wv, hA', hO, rfl⟩
  ·exact Le.of_eq (by show T.v (.bool true) = T.v (.bool (decide (isI i))); rw [decide_eq_true hyes])
theorem Re (bg : Nat) (g : Gp) (H : Qb) (i : Int) (hi : ¬ isI i) (hG : IsG bg g H) : FnH Tryz.prog 22 [pW bg, ei i] H (fun r H' => r = .v (.pointer none) ∧ H' = H) := by
 have hT := Lw bg g H i hG
 obtain ⟨a, bm, es, clk, W, wv, hA, hO, rfl⟩ := hG
 refine fe Tryz.func22 fun S0 w0 => ?_
 show Sim _ _ [(0, pW bg), (1, ei i)] ((bg, ⟨tG, gC g.conf a bm wv, 13⟩) :: (bm, ⟨.map es clk, [], 0⟩) :: (W ++ gM a g.k)) _
 refine zC ?_
 refine cr <| s_ Qc <| zC ?_
 refine cr <| s_ Qa <| s_ Qa ?_
 refine QP hT (fun r H' ⟨hr1, hr2⟩ => ?_)
 subst hr1 hr2
 refine s_ Ym <| zC ?_
 refine ci (p := ¬ isI i) ?_ ?_
 ·intro _
  refine zC ?_
  refine cr <| s_ Qc <| zC ?_
  refine zR ?_
  exact rh kR ⟨rfl, rfl⟩ (Le.refl _)
 ·intro h; exact absurd hi h
theorem Gr (bg : Nat) (g : Gp) (i : Int) (hi : isI i) {a : Nat → Ad} {bm : Nat} {es : List (Value × T × Nat)} {clk : Nat} {W : Qb} {wv : Value} (hA : DL g.aw es) (hO : OM g.way wv W) : FnH Tryz.prog 22 [pW bg, ei i] (gH bg g.conf a bm es clk W wv g.k) (fun r H' => r = pW (a i.toNat).bk ∧ H' = gH bg g.conf a bm es clk W wv g.k) := by
 have hT := Lw bg g _ i ⟨a, bm, es, clk, W, wv, hA, hO, rfl⟩
 refine fe Tryz.func22 fun S0 w0 => ?_
 show Sim _ _ [(0, pW bg), (1, ei i)] ((bg, ⟨tG, gC g.conf a bm wv, 13⟩) :: (bm, ⟨.map es clk, [], 0⟩) :: (W ++ gM a g.k)) _
 have hck := CQ (conf := g.conf) (a := a) (bm := bm) (wv := wv) hi
 have hp : 0 ≤ i ∧ i < 5 := hi
 refine zC ?_
 refine cr <| s_ Qc <| zC ?_
 refine cr <| s_ Qa <| s_ Qa ?_
 refine QP hT (fun r H' ⟨hr1, hr2⟩ => ?_)
 subst hr1 hr2
 refine s_ Ym <| zC ?_
 refine ci (p := ¬ isI i) ?_ ?_
 ·intro h; exact absurd hi h
 ·intro _
  refine zC ?_
  refine cr <| s_ Qa <| s_ Qa <| s_ Qe <| s_ Qd <| s_ ZY <| s_ Qd <| s_ (Qn (hd := by first | rfl | assumption)) <| s_ Qc <| zC ?_
  refine zR ?_
  exact rh kR ⟨rfl, rfl⟩ (Le.refl _)
theorem Gq {P : Nat → En → Prop} {τ l u : Nat} (bg : Nat) (g : Gp) (H : Qb) (k : Int) (h : GB P g τ l u) (hu : u ≤ 25000) (hG : IsG bg g H) : FnH Tryz.prog 15 [pW bg, ei k] H (fun r H' => r = eB (decide (Xk g k ∧ g.way.length < 300)) ∧ IsG bg (Zs g k) H') := by
 have hT := Lx bg g H k hG
 obtain ⟨a, bm, es, clk, W, wv, hA, hO, rfl⟩ := hG
 obtain ⟨p, c, rfl⟩ := hO.len
 have hml : (g.way.map ms).length = g.way.length := List.length_map _
 refine fe Tryz.func15 fun S0 w0 => ?_
 show Sim _ _ [(0, pW bg), (1, ei k)] ((bg, ⟨tG, gC g.conf a bm _, 13⟩) :: (bm, ⟨.map es clk, [], 0⟩) :: (W ++ gM a g.k)) _
 refine zC ?_
 refine cr <| s_ Qc <| zC ?_
 refine cr <| s_ Qa <| s_ Qa ?_
 refine QP hT (fun r H' ⟨hr1, hr2⟩ => ?_)
 subst hr1 hr2
 refine s_ Ym <| s_ Qa <| gF (fun hg => Qa) ?_
 refine gF (fun hg => Qe (hx := u_ hg)) ?_
 refine gF (fun hg => Qd (hx := u_ hg)) ?_
 refine gF (fun hg => Qn (hx := u_ hg)) ?_
 refine gF (fun hg => QN (hx := u_ hg)) ?_
 refine gF (fun hg => UR (hx := u_ hg)) ?_
 refine s_ Ya <| zC ?_
 refine ci ?_ ?_
 ·intro hn
  have hno : ¬ (Xk g k ∧ g.way.length < 300) := by
   rintro ⟨h1, h2⟩
   rcases hn with h3 | h3
   ·exact h3 h1
   ·rw [hml] at h3; omega
  refine zC ?_
  refine cr <| s_ Qc <| zC ?_
  refine zR ?_
  refine rh kR ⟨rfl, ?_⟩ ?_
  ·unfold Zs; rw [if_neg hno]
   exact ⟨a, bm, es, clk, W, _, hA, hO, rfl⟩
  ·exact Le.of_eq (by show T.v (.bool false) = T.v (.bool (decide (Xk g k ∧ g.way.length < 300))); rw [decide_eq_false hno])
 ·intro hn
  have hyes : Xk g k ∧ g.way.length < 300 := by
   refine ⟨Classical.not_not.1 fun h1 => hn (.inl h1), ?_⟩
   have : ¬ (300 : Int) ≤ ((g.way.map ms).length : Nat) := fun h1 => hn (.inr h1)
   rw [hml] at this; omega
  obtain ⟨hkl, hkn, hget⟩ := JV hyes.1
  have hk0 := hyes.1.1
  have hk1 := hyes.1.2
  have hlt := hyes.2
  obtain ⟨bw, rfl, _, rfl⟩ := WV hO (by omega)
  obtain ⟨m, hm⟩ : ∃ m, m = g.way.getD k.toNat default := ⟨_, rfl⟩
  rw [← hm] at hget
  refine zC ?_
  refine ca [0, 1, 2, 3, 4, 5, 6, 7, 8, 9, 10, 11, 12, 13, 14, 15, 16] [13, 16] <| a_ (fun _ => Qa) <| a_ (fun _ => Qa) <| a_ (fun _ => Qe) <| a_ (fun _ => Qd) <| QG ?_
  refine a_ (fun _ => Qa) <| a_ (fun _ => Qe) <| a_ (fun _ => Qd) <| QG ?_
  refine a_ (fun _ => Qa) <| a_ (fun _ => ZX) <| YD (hc := Xe.flat (Vp g.way) hget) ?_
  refine a_ (fun _ => JN) ?_
  refine C5 (ho := hO) (A := [_, _]) (B := gM a g.k) (ys := [ms m]) (f := true) (Vp g.way) (fun v' Hs' h3 => ⟨zd, ?_⟩)
  refine zD ?_
  obtain ⟨q', d', rfl⟩ := h3.len
  refine a_ (fun _ => Qe) <| a_ (fun _ => Qd) <| XH ?_
  apply an
  refine zC ?_
  refine cr <| s_ Qc <| zC ?_
  refine zR ?_
  refine rh kR ⟨rfl, ?_⟩ ?_
  ·unfold Zs; rw [if_pos hyes, ← hm]; exact IsG.out (a := a) (bm := bm) (clk := clk) hA (by unfold OM; rw [List.map_append]; exact h3)
  ·exact Le.of_eq (by show T.v (.bool true) = T.v (.bool (decide (Xk g k ∧ g.way.length < 300))); rw [decide_eq_true hyes])
theorem WD : ∀ (A : Qb) {H : Qb}, Qh (A ++ H) H
 | [], H => kR
 | p :: A, H => .skip p _ _ (WD A)
theorem GN (g : Gp) (n : Nat) : Z7 g (n + 1) = Jl (Z7 g n) := rfl
def JK (g : Gp) (k : Nat) : Gp := (g.way.take k).foldl XT { g with way := [] }
theorem M1 (g : Gp) {k : Nat} (hk : k < g.way.length) : JK g (k + 1) = XT (JK g k) (g.way.getD k default) := by
 unfold JK
 rw [List.take_succ_eq_append_getElem hk, List.foldl_append, List.getD_eq_getElem?_getD, List.getElem?_eq_getElem hk]
 rfl
theorem EJ (g : Gp) : JK g g.way.length = g.way.foldl XT { g with way := [] } := by unfold JK; rw [List.take_length]
theorem MA {P : Nat → En → Prop} {τ l u : Nat} (hP : PK P) (bg : Nat) (g : Gp) (H : Qb) (r : Int) (n : Nat) (hn : min (max r 0) 200 = (n : Int)) (h : GB P g τ l u) (hu : u + 5 * n ≤ 25000) (hG : IsG bg g H) : FnH Tryz.prog 11 [pW bg, ei r] H (fun r H' => r = .tup [] ∧ IsG bg (Z7 g n) H') := by
 refine fe Tryz.func11 fun S0 w0 => ?_
 show Sim _ _ [(0, pW bg), (1, ei r)] H _
 refine zC ?_
 refine cr <| s_ Qa <| s_ Mf <| s_ Lh <| s_ Qa <| zC ?_
 rw [hn]
 apply Qu (σ := Nat × Qb) (ok := fun s => s.1 ≤ n ∧ IsG bg (Z7 g s.1) s.2) (env := fun s => [(11, ei s.1), (10, ei n), (0, pW bg)]) (heap := fun s => s.2) (μ := fun s => n - s.1) (s0 := (0, H))
 ·exact ⟨Nat.zero_le _, hG⟩
 ·exact eL
 ·exact kR
 rintro ⟨j, H⟩ ⟨hj, hG⟩
 simp only at hj hG
 show Sim _ _ [(11, ei j), (10, ei n), (0, pW bg)] H _
 obtain ⟨l0, hgb, _⟩ := h.calm hP.toPO j (by have := h.tau; omega)
 obtain ⟨g0, hg0⟩ : ∃ g0, g0 = Z7 g j := ⟨_, rfl⟩
 rw [← hg0] at hG hgb
 have hu0 : u + 5 * j + 5 ≤ 25000 ∨ j = n := by omega
 have ht0 := hgb.tau
 refine zC ?_
 refine cr <| s_ QS <| zC ?_
 refine ci ?_ ?_
 ·intro hlt
  have hjn : j < n := by omega
  have hu1 : u + 5 * j + 5 ≤ 25000 := by omega
  obtain ⟨a, bm, es, clk, W, wv, hA, hO, rfl⟩ := hG
  obtain ⟨p, c, rfl⟩ := hO.len
  have hml : (g0.way.map ms).length = g0.way.length := List.length_map _
  show Sim _ _ _ ((bg, ⟨tG, gC g0.conf a bm _, 13⟩) :: (bm, ⟨.map es clk, [], 0⟩) :: (W ++ gM a g0.k)) _
  refine zC ?_
  refine cr <| s_ Qa <| s_ Qe <| s_ Qd <| s_ Qn <| s_ Qc <| zC ?_
  refine cr <| s_ Qa <| s_ Qe <| s_ Qd <| QC ?_
  refine zC ?_
  refine cr <| s_ Qa <| s_ QN <| s_ Qa <| zC ?_
  refine X9 (H' := W ++ gH bg g0.conf a bm es clk [] (.slice none 0 0) g0.k) ?_ ?_
  ·exact D2
  apply Qu (σ := Nat × Qb) (ok := fun s => s.1 ≤ g0.way.length ∧ IsG bg (JK g0 s.1) s.2) (env := fun s => [(22, ei s.1), (21, ei g0.way.length), (20, .v (.slice p (g0.way.map ms).length c)), (11, ei j), (10, ei n), (0, pW bg)]) (heap := fun s => W ++ s.2) (μ := fun s => g0.way.length - s.1) (s0 := (0, gH bg g0.conf a bm es clk [] (.slice none 0 0) g0.k))
  ·exact ⟨Nat.zero_le _, IsG.out (a := a) (bm := bm) (clk := clk) (w := []) hA Zn⟩
  ·refine ⟨?_, ?_, eL⟩
   ·apply Qj; (exact zG)
    exact Le.refl _
   ·apply Qj; (exact zG)
    exact Le.of_eq (by rw [hml]; rfl)
  ·exact kR
  ·rintro ⟨k, H⟩ ⟨hk, hG⟩
   simp only at hk hG
   show Sim _ _ [(22, ei k), (21, ei g0.way.length), (20, .v (.slice p (g0.way.map ms).length c)), (11, ei j), (10, ei n), (0, pW bg)] (W ++ H) _
   refine zC ?_
   refine cr <| s_ QS <| zC ?_
   refine ci ?_ ?_
   ·intro hlt2
    have hkl : k < g0.way.length := by omega
    have hmany := hgb.many
    have hfive := hgb.five
    have hhas : Xk g0 (k : Int) := ⟨by omega, by omega⟩
    obtain ⟨_, hkn, hget⟩ := JV hhas
    obtain ⟨bw, rfl, _, rfl⟩ := WV hO (by omega)
    obtain ⟨m, hm⟩ : ∃ m, m = g0.way.getD k default := ⟨_, rfl⟩
    have hmem : g0.way.getD k default ∈ g0.way := by
     rw [List.getD_eq_getElem?_getD, List.getElem?_eq_getElem hkl]; exact List.getElem_mem _
    obtain ⟨lk, hgk, hlk⟩ := GB.takes hP.toPO (by omega) (g0.way.take k) (hgb.out (w := []) (by simp) (by simp)) (fun x hx => hgb.way x (List.mem_of_mem_take hx)) (by have := hgb.many; rw [List.length_take]; simp only [List.length_nil]; omega)
    have hmb := (hgb.way _ hmem).le (Nat.le_refl _) hlk
    have htk := Mu hP bg (JK g0 k) H m (by rw [hm]; exact hmb) hgk (by omega) hG
    rw [show ((k : Int).toNat) = k by omega, ← hm] at hget
    show Sim _ _ _ ((bw, ⟨tM, (g0.way.map ms).flatMap T.cells, c * 11⟩) :: H) _
    refine zC ?_
    refine cr <| s_ ZX <| s_ (Xf (hc := Xe.flat (Vp g0.way) hget)) ?_
    refine Yp fun b6 _ => ?_
    refine QC ?_
    refine zC ?_
    refine cr <| s_ Qa <| s_ Xf ?_
    refine Q4 (Hr := [_, _]) htk (List.perm_append_comm (l₁ := [_, _])) (fun r H' ⟨hr1, hr2⟩ => ?_)
    subst hr1
    refine QF (List.perm_append_comm (l₂ := [_, _])) ?_
    refine zC ?_
    refine cr <| s_ QZ <| s_ Qa <| zC ?_
    refine ⟨(k + 1, H'), ⟨by simp only; omega, ?_⟩, (by simp only []; omega), ⟨?_, eL⟩, ?_⟩
    ·simp only
     rw [M1 _ hkl, ← hm]; exact hr2
    ·apply Qj; (exact zG)
     exact Le.refl _
    ·exact .skip _ _ _ kR
   ·intro hge
    have hke : k = g0.way.length := by omega
    subst hke
    rw [EJ] at hG
    obtain ⟨l1, hg1, hl1⟩ := GB.takes hP.toPO (by omega) g0.way (hgb.out (w := []) (by simp) (by simp)) hgb.way (by simpa using hgb.many)
    obtain ⟨g1, hg1e⟩ : ∃ g1, g1 = g0.way.foldl XT { g0 with way := [] } := ⟨_, rfl⟩
    rw [← hg1e] at hG hg1
    refine zC ?_
    refine cr <| s_ Qa <| zC ?_
    apply Qu (σ := Nat × Qb) (ok := fun s => s.1 ≤ 5 ∧ IsG bg (ZS g1 s.1) s.2) (env := fun s => [(30, ei s.1), (11, ei j), (10, ei n), (0, pW bg)]) (heap := fun s => s.2) (μ := fun s => 5 - s.1) (s0 := (0, H))
    ·exact ⟨Nat.zero_le _, hG⟩
    ·exact eL
    ·exact WD W
    ·rintro ⟨q, H⟩ ⟨hq, hG⟩
     simp only at hq hG
     show Sim _ _ [(30, ei q), (11, ei j), (10, ei n), (0, pW bg)] H _
     refine zC ?_
     refine cr <| s_ QS <| zC ?_
     refine ci ?_ ?_
     ·intro hlt3
      have hq5 : q < 5 := by omega
      obtain ⟨lq, hgq, _⟩ := hg1.ticks hP.toPO q (by omega)
      have htk := O9 hP bg (ZS g1 q) H q hgq (by omega) hG
      refine zC ?_
      refine cr <| s_ Qa <| s_ Qc <| zC ?_
      refine cr <| s_ Qa <| s_ Qa ?_
      refine QP htk (fun r H' ⟨hr1, hr2⟩ => ?_)
      subst hr1
      refine zC ?_
      refine cr <| s_ QZ <| s_ Qa <| zC ?_
      refine ⟨(q + 1, H'), ⟨by simp only; omega, ?_⟩, (by simp only []; omega), ⟨?_, eL⟩, kR⟩
      ·simp only
       rw [JJ]; exact hr2
      ·apply Qj; (exact zG)
       exact Le.refl _
     ·intro hge3
      have hq5 : q = 5 := by omega
      subst hq5
      refine zC ?_
      refine cr <| s_ QZ <| s_ Qa <| zC ?_
      refine ⟨(j + 1, H), ⟨by simp only; omega, ?_⟩, (by simp only []; omega), ⟨?_, eL⟩, kR⟩
      ·simp only
       rw [GN, ← hg0]
       unfold Jl
       rw [← hg1e]; exact hG
      ·apply Qj; (exact zG)
       exact Le.refl _
 ·intro hge
  have hje : j = n := by omega
  subst hje
  refine zC ?_
  refine rhn kR ⟨rfl, ?_⟩ (Le.refl _)
  rw [← hg0]; exact hG
end Go.Proofs.YtjbokbikkcfjjaaGreat
namespace Go.Cap
theorem FnH.framed {P : Program} {f : FuncId} {args : List T} {H Hs Hr : Qb} {Φ Ψ : T → Qb → Prop} (hf : FnH P f args Hs Φ) (hp : H.Perm (Hs ++ Hr)) (hΦ : ∀ r H1, Φ r H1 → ∃ H', (H1 ++ Hr).Perm H' ∧ Ψ r H') : FnH P f args H Ψ := by
 intro S w vs hw ho hr
 have hoP := ho.perm hp
 refine (hf S w vs hw hoP.left hr).mono ?_
 rintro e w' ⟨u, S', r, H1, rfl, hΦ', hrel, hown, hst, hkeys⟩
 obtain ⟨H', hP, hΨ⟩ := hΦ r H1 hΦ'
 have hsS : ∀ b ∈ keys Hs, ¬ S b := hoP.left.apart
 have hm := hst.mono hw hsS
 have hownA : Own S' w' (H1 ++ Hr) := by
  refine ⟨?_, ?_, ?_⟩
  ·rw [Qk]
   refine List.nodup_append.2 ⟨hown.nodup, hoP.right.nodup, fun b hb c hc' e => ?_⟩
   subst e
   rcases hkeys b hb with h1 | h1
   ·exact hoP.disj b h1 hc'
   ·have := hoP.right.lt b hc'; omega
  ·intro b hb hS
   rw [Qk] at hb
   rcases List.mem_append.1 hb with hb | hb
   ·exact hown.apart b hb hS
   ·rcases hst.new b hS with h1 | h1 | h1
    ·exact hoP.right.apart b hb h1
    ·have := hoP.right.lt b hb; omega
    ·exact hoP.disj b h1 hb
  ·intro p hp'
   rcases List.mem_append.1 hp' with hp' | hp'
   ·exact hown.has p hp'
   ·have hk' : p.1 ∈ keys Hr := List.mem_map.2 ⟨p, hp', rfl⟩
    have h1 := hoP.right.has p hp'
    exact h1.mono (hst.keep _ h1.lt (fun h => hoP.disj _ h hk')) hm
 have hkp : ∀ b, b ∈ keys H ↔ b ∈ keys (Hs ++ Hr) := fun b => (YT hp).mem_iff
 refine ⟨u, S', r, H', rfl, hΨ, hrel, hownA.perm hP, hst.weaken fun b hb => .inl ((hkp b).2 (by rw [Qk]; exact List.mem_append_left _ hb)), fun b hb => ?_⟩
 have hb' : b ∈ keys (H1 ++ Hr) := (YT hP).mem_iff.2 hb
 rw [Qk] at hb'
 rcases List.mem_append.1 hb' with h | h
 ·rcases hkeys b h with h1 | h1
  ·exact .inl ((hkp b).2 (by rw [Qk]; exact List.mem_append_left _ h1))
  ·exact .inr h1
 ·exact .inl ((hkp b).2 (by rw [Qk]; exact List.mem_append_right _ h))
end Go.Cap
namespace Go.Proofs.YtjbokbikkcfjjaaGreat
open Go.Cap
attribute [local irreducible] POp Qf BW EOp Sim FnH T.gp
theorem Rd {bg : Nat} {g : Gp} {a : Nat → Ad} {bm : Nat} {es : List (Value × T × Nat)} {clk : Nat} {W : Qb} {wv : Value} {i : Nat} (hi : i < 5) (hl : (g.k i).N.log.length ≤ 1000000000) :
  FnH Tryz.prog 23 [pW (a i).bk] (gH bg g.conf a bm es clk W wv g.k) (fun r H' => r = nd (g.k i).N ∧ H' = gH bg g.conf a bm es clk W wv g.k) := by
 have hk := O2 (a i).bk (a i).bj (a i).bd (g.k i) hl
 have hperm := Wq (x := (bg, ⟨tG, gC g.conf a bm wv, 13⟩)) (y := (bm, ⟨.map es clk, [], 0⟩)) (W := W) (MC a g.k hi)
 exact FnH.framed hk hperm (fun r H1 ⟨h1, h2⟩ => ⟨_, by rw [h2]; exact hperm.symm, h1, rfl⟩)
def MX (P : Nat → En → Prop) (N t : Nd) (e : Int) : Prop := (¬ e = 0 ∧ t = N) ∨ (e = 0 ∧ N.role = 2 ∧ ∃ en, t = R6 N en ∧ P N.log.length ⟨N.term, en.conf, en.cmd⟩)
section
variable {P : Nat → En → Prop} {g : Gp} {τ l u : Nat}
theorem MX.nb {N t : Nd} {e : Int} (h : NB P N τ l) (hb : MX P N t e) : NB P t τ (l + 1) ∧ Go.Proofs.YtjbokbikkcfjjaaGreat.pot t ≤ Go.Proofs.YtjbokbikkcfjjaaGreat.pot N := by
 rcases hb with ⟨_, rfl⟩ | ⟨_, hr, en, rfl, hp⟩
 ·exact ⟨h.le (Nat.le_refl _) (by omega), Nat.le_refl _⟩
 ·exact h.put hr hp
theorem MX.id {N t : Nd} {e : Int} (hb : MX P N t e) : t.id = N.id := by
 rcases hb with ⟨_, rfl⟩ | ⟨_, hr, en, rfl, hp⟩
 ·rfl
 ·exact JU (L1 N en)
theorem R5 (g : Gp) (i : Nat) (t : Nd) (e : Int) : Cx g i t e = { g with ks := g.ks.set i (QQ (g.k i) t e).1, way := g.way ++ [] } := by unfold Cx; rw [List.append_nil]
theorem GB.put (h : GB P g τ l u) {i : Nat} (hi : i < 5) {t : Nd} {e : Int} (hb : MX P (g.k i).N t e) : ∃ l', GB P (Cx g i t e) τ l' (u + 5) ∧ l ≤ l' := by
 obtain ⟨h1, h2⟩ := Ee (h.ki i hi) t e
 have hn := h.nb i hi
 obtain ⟨n1, n2⟩ := hb.nb hn
 have hg : (QQ (g.k i) t e).1.N = t ∨ (QQ (g.k i) t e).1.N = (g.k i).N := by
  split at h2
  ·exact .inl h2
  ·exact .inr h2
 have hil : i < g.ks.length := by rw [h.ks]; exact hi
 have hk : g.ks[i] = g.k i := by unfold Gp.k; rw [List.getD_eq_getElem?_getD, List.getElem?_eq_getElem hil, Option.getD_some]
 rw [R5]
 refine ⟨l + 1, ⟨by simp [h.ks], h.aw, fun j hj => ?_, fun j hj => ?_, fun j hj => ?_, fun m hm => ?_, ?_, ?_, by have := h.tau; omega⟩, by omega⟩
 ·rw [Gp.k_set (by rw [h.ks]; exact hj)]; split
  ·exact h1
  ·exact h.ki j hj
 ·rw [Gp.k_set (by rw [h.ks]; exact hj)]; split
  ·rename_i e0; subst e0
   rcases hg with e1 | e1
   ·rw [e1, hb.id]; exact h.id i hi
   ·rw [e1]; exact h.id i hi
  ·exact h.id j hj
 ·rw [Gp.k_set (by rw [h.ks]; exact hj)]; split
  ·rcases hg with e1 | e1
   ·rw [e1]; exact n1
   ·rw [e1]; exact hn.le (Nat.le_refl _) (by omega)
  ·exact (h.nb j hj).le (Nat.le_refl _) (by omega)
 ·rw [List.append_nil] at hm
  exact (h.way m hm).le (Nat.le_refl _) (by omega)
 ·have := h.many; simp only [List.append_nil]; omega
 ·have := W3 (fun K => Go.Proofs.YtjbokbikkcfjjaaGreat.pot K.N) g.ks i (QQ (g.k i) t e).1 hil
  rw [hk] at this
  have hf := h.fuel
  have hpn : Go.Proofs.YtjbokbikkcfjjaaGreat.pot (QQ (g.k i) t e).1.N ≤ Go.Proofs.YtjbokbikkcfjjaaGreat.pot (g.k i).N := by
   rcases hg with e1 | e1
   ·rw [e1]; exact n2
   ·rw [e1]; exact Nat.le_refl _
  simp only at this ⊢
  omega
end
end Go.Proofs.YtjbokbikkcfjjaaGreat
namespace Go.Proofs.YtjbokbikkcfjjaaGreat
open Go.Cap
structure Gn where
 ns : List Nd
 aw : List Bool
 way : List Ms
def Gn.n (g : Gn) (i : Nat) : Nd := g.ns.getD i default
def thN (g : Gn) (i : Int) : Bool := decide (isI i) && !(g.aw.getD i.toNat false)
def IT (g : Gn) (i : Nat) (t : Nd) (l : List Ms) : Gn := { g with ns := g.ns.set i t, way := g.way ++ l }
def DP (g : Gn) (i : Int) : Gn := if thN g i then IT g i.toNat (Xx (g.n i.toNat)).1 (Xx (g.n i.toNat)).2 else g
def DR (g : Gn) (m : Ms) : Gn := if thN g m.to then IT g m.to.toNat (Xr (g.n m.to.toNat) m).1 (Xr (g.n m.to.toNat) m).2 else g
def U9 (g : Gn) (k : Nat) : Gn := (List.range k).foldl (fun g (i : Nat) => DP g (i : Int)) g
def M8 (g : Gn) : Gn := U9 (g.way.foldl DR { g with way := [] }) 5
def Ez (g : Gn) : Nat → Gn
 | 0 => g
 | n + 1 => M8 (Ez g n)
def Is (conf : Int) : Gn := ⟨(List.range 5).map fun (i : Nat) => XC (i : Int) conf, [false, false, false, false, false], []⟩
def prG (g : Gp) : Gn := ⟨g.ks.map (·.N), g.aw, g.way⟩
structure VW (n0 : Nd) (K : Kp) : Prop where
 live : Up n0 524100 K
 left : K.d.left = 0
 room : K.d.room = 1048576
def GL (conf : Int) (g : Gp) : Prop := ∀ i : Nat, i < 5 → VW (XC i conf) (g.k i)
section
variable {P : Nat → En → Prop} {g : Gp} {τ l u : Nat} {conf : Int}
theorem Oy (g : Gp) (i : Nat) (hi : i < g.ks.length) : (prG g).n i = (g.k i).N := by
 unfold Gn.n prG Gp.k
 simp [List.getD_eq_getElem?_getD, hi]
theorem GL.there (h : GL conf g) (i : Int) : Xq g i = thN (prG g) i := by
 unfold Xq thN
 by_cases hi : isI i
 ·have := (h _ (YM hi).1).live.dead
  rw [this]; simp [prG]
 ·simp [hi]
theorem VW.keep {n0 : Nd} {K : Kp} (h : VW n0 K) {t : Nd} (hid : t.id = n0.id) (hsz : Sz t) (hr : (Qo t 0).length ≤ 524100) : (QQ K t 0).2 = 0 ∧ VW n0 (QQ K t 0).1 ∧ (QQ K t 0).1.N = t := by
 obtain ⟨K', h1, h2, h3, h4, h5⟩ := Gd h.live h.left (by rw [h.room]; omega) hid hsz hr (by omega)
 rw [h1]
 exact ⟨rfl, ⟨h2, h4, by rw [h5]; exact h.room⟩, h3⟩
theorem GL.set (h : GL conf g) (hks : g.ks.length = 5) {i : Nat} {K : Kp} (w : List Ms) (hK : VW (XC i conf) K) : GL conf { g with ks := g.ks.set i K, way := w } := by
 intro j hj
 rw [Gp.k_set (by rw [hks]; exact hj)]
 split
 ·rename_i e; subst e; exact hK
 ·exact h j hj
theorem GL.did (h : GL conf g) (hks : g.ks.length = 5) {i : Nat} (hi : i < 5) {t : Nd} {out : List Ms} (hid : t.id = i) (hsz : Sz t) (hr : (Qo t 0).length ≤ 524100) : GL conf (didG g i t out) ∧ prG (didG g i t out) = IT (prG g) i t out := by
 obtain ⟨h1, h2, h3⟩ := (h i hi).keep (t := t) (by rw [hid]; rfl) hsz hr
 unfold didG
 rw [if_pos h1]
 refine ⟨h.set hks _ h2, ?_⟩
 unfold prG IT
 simp only [List.map_set, h3]
theorem GL.tick (hP : PK P) (h : GL conf g) (hb : GB P g τ l u) (hu : u + 1 ≤ 25000) (i : Int) : GL conf (Je g i) ∧ prG (Je g i) = DP (prG g) i := by
 unfold Je DP
 rw [h.there]
 split
 ·rename_i hth
  have hth' : Xq g i = true := by rw [h.there]; exact hth
  obtain ⟨h5, _⟩ := YM (YQ hth')
  have hw := (hb.nb _ h5).tick hP.toPO (by have := hb.tau; omega)
  obtain ⟨hsz, hrc⟩ := hw.sz hP (by have := hb.pot h5; omega) (by have := hb.tau; omega)
  rw [Oy g _ (by rw [hb.ks]; exact h5)]
  exact h.did hb.ks h5 ((LR _).trans (hb.id _ h5)) hsz hrc
 ·exact ⟨h, rfl⟩
theorem GL.take (hP : PK P) (h : GL conf g) (hb : GB P g τ l u) (hu : u ≤ 25000) {m : Ms} (hm : MB P m τ l) : GL conf (XT g m) ∧ prG (XT g m) = DR (prG g) m := by
 unfold XT DR
 rw [h.there]
 split
 ·rename_i hth
  have hth' : Xq g m.to = true := by rw [h.there]; exact hth
  obtain ⟨h5, _⟩ := YM (YQ hth')
  have hw := (hb.nb _ h5).take hP.toPO hm (by have := hb.tau; omega)
  obtain ⟨hsz, hrc⟩ := hw.sz hP (by have := hb.pot h5; omega) (by have := hb.tau; omega)
  rw [Oy g _ (by rw [hb.ks]; exact h5)]
  exact h.did hb.ks h5 ((LS _ _).trans (hb.id _ h5)) hsz hrc
 ·exact ⟨h, rfl⟩
theorem GL.takes (hP : PK P) (hu : u ≤ 25000) : ∀ (ms : List Ms) {g : Gp} {l : Nat}, GL conf g → GB P g τ l u → (∀ m ∈ ms, MB P m τ l) → g.way.length + ms.length ≤ 5 * (u + l) → GL conf (ms.foldl XT g) ∧ prG (ms.foldl XT g) = ms.foldl DR (prG g)
 | [], g, l, h, _, _, _ => ⟨h, rfl⟩
 | m :: ms, g, l, h, hb, hm, hw => by
  rw [List.length_cons] at hw
  have ht := hb.tau
  obtain ⟨h1, h2⟩ := h.take hP hb hu (hm m List.mem_cons_self)
  obtain ⟨l1, h3, h4, h5⟩ := hb.take hP.toPO (by omega) (hm m List.mem_cons_self) (by omega)
  obtain ⟨h6, h7⟩ := GL.takes hP hu ms h1 h3 (fun x hx => (hm x (List.mem_cons_of_mem _ hx)).le (Nat.le_refl _) h4) (by omega)
  exact ⟨h6, by rw [List.foldl_cons, h7, h2, List.foldl_cons]⟩
theorem LQ (g : Gn) (k : Nat) : U9 g (k + 1) = DP (U9 g k) (k : Int) := by
 unfold U9
 rw [List.range_succ, List.foldl_append]
 rfl
theorem GL.ticks (hP : PK P) (h : GL conf g) (hb : GB P g τ l u) : ∀ k : Nat, u + k ≤ 25000 → GL conf (ZS g k) ∧ prG (ZS g k) = U9 (prG g) k
 | 0, _ => ⟨h, rfl⟩
 | k + 1, hu => by
  have ht := hb.tau
  obtain ⟨h1, h2⟩ := GL.ticks hP h hb k (by omega)
  obtain ⟨l1, h3, _⟩ := hb.ticks hP.toPO k (by omega)
  obtain ⟨h4, h5⟩ := h1.tick hP h3 (by omega) (k : Int)
  rw [JJ, LQ, h5, h2]
  exact ⟨h4, rfl⟩
theorem GL.out (h : GL conf g) (w : List Ms) : GL conf { g with way := w } := h
theorem GL.round (hP : PK P) (h : GL conf g) (hb : GB P g τ l u) (hu : u + 5 ≤ 25000) : GL conf (Jl g) ∧ prG (Jl g) = M8 (prG g) := by
 have ht := hb.tau
 have hb0 := hb.out (w := []) (by simp) (by simp)
 obtain ⟨h1, h2⟩ := GL.takes hP (by omega) g.way (h.out []) hb0 hb.way (by simpa using hb.many)
 obtain ⟨l1, h3, _⟩ := GB.takes hP.toPO (by omega) g.way hb0 hb.way (by simpa using hb.many)
 obtain ⟨h4, h5⟩ := h1.ticks hP h3 5 (by omega)
 unfold Jl M8
 exact ⟨h4, by rw [h5, h2]; rfl⟩
theorem GL.calm (hP : PK P) (h : GL conf g) (hb : GB P g τ l u) : ∀ k : Nat, u + 5 * k ≤ 25000 → GL conf (Z7 g k) ∧ prG (Z7 g k) = Ez (prG g) k
 | 0, _ => ⟨h, rfl⟩
 | k + 1, hu => by
  have ht := hb.tau
  obtain ⟨h1, h2⟩ := GL.calm hP h hb k (by omega)
  obtain ⟨l1, h3, _⟩ := hb.calm hP.toPO k (by omega)
  obtain ⟨h4, h5⟩ := h1.round hP h3 (by omega)
  exact ⟨h4, by show prG (Jl (Z7 g k)) = _; rw [h5, h2]; rfl⟩
end
theorem IA : ((Ez (Is 7) 30).n 0).role = 2 := by decide +kernel
theorem IB : (Ez (Is 7) 12).way.length ≤ 20 := by decide +kernel
end Go.Proofs.YtjbokbikkcfjjaaGreat
namespace Go.Proofs.YtjbokbikkcfjjaaGreat
open Go.Cap
attribute [local irreducible] POp Qf BW EOp Sim FnH T.gp
def d0 : Dk := ⟨0, 0, false, [], 0, [], 1048576⟩
theorem CI {id conf : Int} (h0 : 0 ≤ id) (h1 : id < 5) (h2 : 0 ≤ conf) (h3 : conf ≤ 31) : Sz (XC id conf) ∧ (Qo (XC id conf) 0).length ≤ 524100 := by
 have hk := CJ h0 h1 h2 h3
 exact ⟨hk.sz (by omega), by have := hk.rec_; omega⟩
theorem Rc (bd : Nat) (id conf : Int) (h0 : 0 ≤ id) (h1 : id < 5) (h2 : 0 ≤ conf) (h3 : conf ≤ 31) :
  FnH Tryz.prog 34 [pW bd, ei id, ei conf] (DkH bd d0) (fun r H => ∃ bk bj K2, r = .tup [pW bk, ei 0] ∧ H = mH ⟨bd, bk, bj⟩ K2 ∧ VW (XC id conf) K2 ∧ K2.N = XC id conf) := by
 obtain ⟨s1, s2⟩ := CI h0 h1 h2 h3
 have hl := OQ (n0 := XC id conf) (R := 524100) 1048576 rfl s1 s2 (by omega) (by omega)
 refine FnH.mono (E6 bd id conf hl rfl (CM id conf h0 h1 h2 h3) rfl (by simp [XC]) (by omega) s1 s2) ?_
 rintro r H ⟨bk, bj, K2, e1, e2, e3, e4, e5⟩
 exact ⟨bk, bj, K2, e1, e2, ⟨e3, by rw [e5], by rw [e5]⟩, e4⟩
def gN (conf : Int) (a : Nat → Ad) (n : Nat) (bm : Nat) : List T :=
 let p := fun (j : Nat) (x : Nat) => if j < n then pW x else .v (.pointer none)
 [ei conf, p 0 (a 0).bd, p 0 (a 0).bk, p 1 (a 1).bd, p 1 (a 1).bk, p 2 (a 2).bd, p 2 (a 2).bk, p 3 (a 3).bd, p 3 (a 3).bk, p 4 (a 4).bd, p 4 (a 4).bk, .v (.map (some bm)), .v (.slice none 0 0)]
theorem BH (conf : Int) (a : Nat → Ad) {n : Nat} (hn : n < 5) (bm : Nat) (x : Ad) : Zx (gN conf a n bm) (0 + 1 + ((n : Nat) : Int).toNat * 2) [pW x.bd, pW x.bk] (gN conf (upA a n x) (n + 1) bm) := by
 have h : ∀ n : Fin 5, Zx (gN conf a n.val bm) (0 + 1 + ((n.val : Nat) : Int).toNat * 2) [pW x.bd, pW x.bk] (gN conf (upA a n.val x) (n.val + 1) bm) := by
  intro n
  match n with
  | 0 => show Zx _ 1 _ _; unfold gN upA; exact zy
  | 1 => show Zx _ 3 _ _; unfold gN upA; exact zy
  | 2 => show Zx _ 5 _ _; unfold gN upA; exact zy
  | 3 => show Zx _ 7 _ _; unfold gN upA; exact zy
  | 4 => show Zx _ 9 _ _; unfold gN upA; exact zy
 exact h ⟨n, hn⟩
def gMk (a : Nat → Ad) (k : Nat → Kp) (n : Nat) : Qb := (List.range n).flatMap fun j => mH (a j) (k j)
theorem Rg (a : Nat → Ad) (k : Nat → Kp) (n : Nat) (x : Ad) (K : Kp) : gMk (upA a n x) (upA k n K) (n + 1) = gMk a k n ++ mH x K := by
 unfold gMk
 rw [List.range_succ, List.flatMap_append, List.flatMap_cons, List.flatMap_nil, List.append_nil]
 congr 1
 ·have h : ∀ l : List Nat, (∀ j ∈ l, j < n) → (l.flatMap fun j => mH (upA a n x j) (upA k n K j)) = l.flatMap fun j => mH (a j) (k j) := by
   intro l
   induction l with
   | nil => intro _; rfl
   | cons j l ih =>
    intro hl
    have hj := hl j List.mem_cons_self
    rw [List.flatMap_cons, List.flatMap_cons, ih fun y hy => hl y (List.mem_cons_of_mem _ hy)]
    unfold upA
    rw [if_neg (by omega), if_neg (by omega)]
  exact h _ fun j hj => List.mem_range.1 hj
 ·simp [upA]
def Uu (conf : Int) (k : Nat → Kp) : Gp := ⟨conf, (List.range 5).map k, [false, false, false, false, false], []⟩
theorem CN (conf : Int) (k : Nat → Kp) {i : Nat} (hi : i < 5) : (Uu conf k).k i = k i := by
 unfold Uu Gp.k
 simp only [List.getD_eq_getElem?_getD, List.getElem?_map, List.getElem?_range hi, Option.map_some, Option.getD_some]
theorem El (P : Nat → En → Prop) (conf : Int) (h1 : 1 ≤ conf) (h2 : conf ≤ 31) : FnH Tryz.prog 10 [ei conf] [] (fun r H => ∃ bg g, r = .tup [pW bg, ei 0] ∧ IsG bg g H ∧ GB P g 0 0 0 ∧ GL conf g ∧ prG g = Is conf ∧ g.conf = conf) := by
 refine fe Tryz.func10 fun S0 w0 => ?_
 show Sim _ _ [(0, ei conf)] [] _
 refine zC ?_
 refine cr <| s_ Qc <| s_ Qc <| zC ?_
 refine cr <| s_ Qa <| s_ QS <| s_ Qa <| gF (fun hg => Qa) ?_
 refine gF (fun hg => Yb (hx := u_ hg)) ?_
 refine s_ Ya <| zC ?_
 refine ci ?_ ?_
 ·intro hc; omega
 intro _
 refine zC ?_
 refine cr <| s_ Qa ?_
 refine BM fun b17 _ => ?_
 refine s_ (ZH 13 [_, _, _, _, _, _, _, _, _, _, _, _, _]) ?_
 refine XW fun b19 _ => ?_
 refine s_ Qc <| zC ?_
 refine cr <| s_ Qa <| zC ?_
 apply Qu (σ := Nat × (Nat → Ad) × (Nat → Kp)) (ok := fun s => s.1 ≤ 5 ∧ ∀ j : Nat, j < s.1 → VW (XC j conf) (s.2.2 j) ∧ (s.2.2 j).N = XC j conf) (env := fun s => [(20, ei s.1), (4, pW b19), (0, ei conf)]) (heap := fun s => (b19, ⟨tG, gN conf s.2.1 s.1 b17, 13⟩) :: (b17, ⟨.map [] 0, [], 0⟩) :: gMk s.2.1 s.2.2 s.1) (μ := fun s => 5 - s.1) (s0 := (0, fun _ => ⟨0, 0, 0⟩, fun _ => default))
 ·exact ⟨Nat.zero_le _, fun j hj => absurd hj (Nat.not_lt_zero j)⟩
 ·exact eL
 ·exact kR
 rintro ⟨n, a, k⟩ ⟨hn, hk⟩
 simp only at hn hk
 show Sim _ _ [(20, ei n), (4, pW b19), (0, ei conf)] ((b19, ⟨tG, gN conf a n b17, 13⟩) :: (b17, ⟨.map [] 0, [], 0⟩) :: gMk a k n) _
 refine zC ?_
 refine cr <| s_ QS <| zC ?_
 refine ci ?_ ?_
 ·intro hlt
  have hn5 : n < 5 := by omega
  have hD := It 1048576 (by omega) (by omega)
  refine zC ?_
  refine cr <| s_ Qa <| s_ Qc <| zC ?_
  apply cr
  refine Q4 (Hs := []) hD (List.Perm.refl _) (fun r H' ⟨bd, hr1, hr2⟩ => ?_)
  subst hr1 hr2
  have hO := Rc bd n conf (by omega) (by omega) (by omega) h2
  refine s_ Qa <| s_ QL <| s_ QL <| s_ Qc <| s_ Qc <| zC ?_
  refine cr <| s_ Qa <| s_ Qa <| s_ Qa ?_
  refine Q4 hO (List.Perm.refl _) (fun r H' ⟨bk, bj, K2, hr1, hr2, hL, hN⟩ => ?_)
  subst hr1 hr2
  refine QF (H' := (b19, ⟨tG, gN conf a n b17, 13⟩) :: (b17, ⟨.map [] 0, [], 0⟩) :: (gMk a k n ++ mH ⟨bd, bk, bj⟩ K2)) ?_ ?_
  ·have := (List.perm_append_comm (l₁ := mH ⟨bd, bk, bj⟩ K2) (l₂ := (b19, ⟨tG, gN conf a n b17, 13⟩) :: (b17, ⟨.map [] 0, [], 0⟩) :: gMk a k n))
   exact this
  have hlay := BH conf a hn5 b17 ⟨bd, bk, bj⟩
  refine s_ Qa <| s_ QL <| s_ QL <| s_ Qc <| s_ Qc <| zC ?_
  refine cr <| s_ Qa <| s_ Qa <| s_ Qa <| s_ Qa <| s_ (ZH 2 [_, _]) <| s_ Qe <| s_ Qd <| s_ ZY <| QC (hc := hlay) ?_
  refine zC ?_
  refine cr <| s_ QZ <| s_ Qa <| zC ?_
  refine ⟨(n + 1, upA a n ⟨bd, bk, bj⟩, upA k n K2), ⟨by simp only; omega, fun j hj => ?_⟩, (by simp only []; omega), ⟨?_, eL⟩, ?_⟩
  ·simp only
   unfold upA
   by_cases hjn : j = n
   ·subst hjn; rw [if_pos rfl]; exact ⟨hL, hN⟩
   ·rw [if_neg hjn]; exact hk j (by simp only at hj; omega)
  ·apply Qj; (exact zG)
   exact Le.refl _
  ·simp only
   rw [Rg]
   exact kR
 ·intro hge
  have hn5 : n = 5 := by omega
  subst hn5
  refine zC ?_
  refine cr <| s_ Qa <| s_ Qc <| s_ Qc <| zC ?_
  refine zR ?_
  have hke : ∀ i : Nat, i < 5 → (Uu conf k).k i = k i := fun i hi => CN conf k hi
  refine rh kR ⟨b19, Uu conf k, rfl, ⟨a, b17, [], 0, [], .slice none 0 0, ⟨Yi.nil _, fun i hi => ?_⟩, Zn, ?_⟩, ?_, ?_, ?_, rfl⟩ (Le.refl _)
  ·have h : ∀ i : Fin 5, (Uu conf k).aw.getD i.val false = false := by
    intro i
    match i with
    | 0 | 1 | 2 | 3 | 4 => rfl
   rw [h ⟨i, hi⟩]; rfl
  ·show _ = gH b19 conf a b17 [] 0 [] (.slice none 0 0) (Uu conf k).k
   unfold gH
   rw [Cp a k (Uu conf k).k hke]
   rfl
  ·refine ⟨by simp [Uu], rfl, fun i hi => ?_, fun i hi => ?_, fun i hi => ?_, by simp [Uu], by simp [Uu], ?_, Nat.le_refl _⟩
   ·rw [hke i hi]
    have hl := (hk i hi).1.live
    obtain ⟨so, rs, hc, hnn⟩ := hl.cont
    exact ⟨hl.dk, by omega, by have := hc.len; omega⟩
   ·rw [hke i hi, (hk i hi).2]; rfl
   ·rw [hke i hi, (hk i hi).2]; exact CL (by omega) (by omega) (by omega) h2
   ·have : ((Uu conf k).ks.map fun K => Go.Proofs.YtjbokbikkcfjjaaGreat.pot K.N) = (List.range 5).map fun i => 0 := by
     unfold Uu
     rw [List.map_map]
     refine List.map_congr_left fun i hi => ?_
     have hi5 := List.mem_range.1 hi
     show Go.Proofs.YtjbokbikkcfjjaaGreat.pot (k i).N = 0
     rw [(hk i hi5).2]; rfl
    rw [this]; decide
  ·intro i hi
   rw [hke i hi]; exact (hk i hi).1
  ·unfold prG Is Uu
   simp only [Gn.mk.injEq, and_true]
   rw [List.map_map]
   refine List.map_congr_left fun i hi => ?_
   exact (hk i (List.mem_range.1 hi)).2
end Go.Proofs.YtjbokbikkcfjjaaGreat
namespace Go.Proofs.YtjbokbikkcfjjaaGreat
open Go.Cap
def PS (_ : Nat) (e : En) : Prop := Ek e 100000
theorem XV : PK PS where
 conf := fun _ _ h => ⟨h.c0, h.c1⟩
 own := fun _ t h0 h1 => ⟨h0, by simp only; omega, Int.le_refl _, by simp only; omega, by simp⟩
 sz := fun _ e h => ⟨⟨by have := h.t0; omega, by have := h.t1; omega⟩, ⟨by have := h.c0; omega, by have := h.c1; omega⟩, by have := h.cmd; omega⟩
 rec_ := fun l hl h => by
  have : ∀ e ∈ l, Ek e 100000 := fun e he => by
   obtain ⟨i, hi⟩ := List.mem_iff_getElem?.1 he
   exact h i e hi
  have := JR l this
  omega
end Go.Proofs.YtjbokbikkcfjjaaGreat
namespace Go.Cap
section
variable {P : Program} {t : Env} {H : Qb} {dst : Option Tmp} {tp : TypeId} {pos : String} {aft : Array Edge} {g : Option (Nat × Bool)} {ty ty' : TypeId} {x : Operand}
theorem W6 {e : TypeId} (w : World) {ty : TypeId} (hu : P.underlying ty = some (.pointer e)) (d : Nat) : (Op.equalIn (d + 1) ty (.pointer none) (.pointer none)).run P w = .ok true w := by
 simp [Op.equalIn, run_underlying hu]
theorem LU {e : TypeId} (w : World) {ty : TypeId} (hu : P.underlying ty = some (.pointer e)) : (Op.equal ty (.pointer none) (.pointer none)).run P w = .ok true w := W6 w hu 9999
theorem Bl {e : TypeId} (hx : t.ev x = .v (.pointer none) := by exact zl) (hu : P.underlying ty = some (.pointer e) := by rfl) : POp P t H ⟨dst, .binOp .neq ty x (.const (.pointer none)) ty', tp, pos, aft, g⟩ (.v (.bool (decide False))) :=
 Q3 hx rfl fun w => by
  have := LU w hu
  simp [eqGuard, binOp, this]
end
end Go.Cap
namespace Go.Proofs.YtjbokbikkcfjjaaGreat
open Go.Cap
attribute [local irreducible] POp Qf BW EOp Sim FnH T.gp
theorem G6 (a : Int) {k : Int} (hk : 0 < k) : -k < a.tmod k ∧ a.tmod k < k := ⟨Int.lt_tmod_of_pos a hk, Int.tmod_lt_of_pos a hk⟩
theorem G5 (a : Int) {k : Int} (hk : 0 < k) : (if a.tmod k < 0 then a.tmod k + k else a.tmod k) = a % k := by
 have h := LP a k hk
 split
 ·rename_i h1; exact h.1 h1
 ·rename_i h1; exact h.2 h1
theorem UB (a k : Int) (hk : 0 < k) (hk1 : k ≤ 4611686018427387904) : FnP Tryz.prog 13 [ei a, ei k] (fun r => r = ei (a % k)) := by
 have hb := G6 a hk
 have hf := G5 a hk
 refine fe Tryz.func13 fun S0 w0 => ?_
 show Sim _ _ [(0, ei a), (1, ei k)] _ _
 refine zC ?_
 refine cr <| s_ Qc <| zC ?_
 refine cr <| s_ Qa <| s_ Qa <| s_ E4 <| s_ Qc <| zC ?_
 refine cr <| s_ Qa <| s_ QS <| zC ?_
 refine ci ?_ ?_
 ·intro hn
  rw [if_pos hn] at hf
  refine zC ?_
  refine cr <| s_ Qa <| s_ Qa <| s_ QZ <| s_ Qc <| zC ?_
  refine cr <| s_ Qa <| s_ Qc <| zC ?_
  refine zE ?_
  rw [hf]
  exact Le.refl _
 ·intro hn
  rw [if_neg hn] at hf
  refine zC ?_
  refine cr <| s_ Qa <| s_ Qc <| zC ?_
  refine zE ?_
  rw [hf]
  exact Le.refl _
theorem Dn : FnP Tryz.prog 9 [] (fun r => r = .v (.bool true)) := by
 have hN := El PS 7 (by omega) (by omega)
 refine fe Tryz.func9 fun S0 w0 => ?_
 show Sim _ _ [] _ _
 refine zC ?_
 refine cr <| s_ Qc <| zC ?_
 apply cr
 refine Q4 (Hs := []) (Hr := []) hN (.refl _) (fun r H ⟨bg, g, hr, hG, hB, hL, hpr, hcf⟩ => ?_)
 subst hr
 rw [List.append_nil]
 refine s_ Qa <| s_ QL <| s_ QL <| s_ Qc <| s_ Qc <| zC ?_
 refine cr <| s_ Qa <| s_ YL <| s_ Qa <| gF (fun hg => Qa) ?_
 refine gF (p := ¬ (0 : Int) = 0) (fun hg => Br (hx := u_ hg)) ?_
 refine s_ Ya <| zC ?_
 refine ci ?_ ?_
 ·rintro (h | h)
  ·exact absurd rfl h
  ·exact h.elim
 intro _
 have hC := MA XV bg g H 30 30 (by omega) hB (by omega) hG
 obtain ⟨l1, hB1, _⟩ := hB.calm XV.toPO 30 (by omega)
 obtain ⟨hL1, hpr1⟩ := hL.calm XV hB 30 (by omega)
 obtain ⟨g1, hg1⟩ : ∃ g1, g1 = Z7 g 30 := ⟨_, rfl⟩
 rw [← hg1] at hC hB1 hL1 hpr1
 rw [hpr] at hpr1
 refine zC ?_
 refine cr <| s_ Qa ?_
 refine QP hC (fun r H' ⟨hr1, hG1⟩ => ?_)
 subst hr1
 have h0 : isI 0 := ⟨by omega, by omega⟩
 have h5 : ¬ isI 5 := fun h => absurd h.2 (by omega)
 have hK5 := Re bg g1 H' 5 h5 hG1
 obtain ⟨a, bm, em, clk, W, wv, hA, hO, rfl⟩ := hG1
 have hK0 := Gr bg g1 0 h0 (a := a) (bm := bm) (clk := clk) hA hO
 have hlen := (hB1.nb 0 (by omega)).len
 have hfv := hB1.five
 have hNo := Rd (bg := bg) (g := g1) (a := a) (bm := bm) (es := em) (clk := clk) (W := W) (wv := wv) (i := 0) (by omega) (by omega)
 have hrole : (g1.k 0).N.role = 2 := by
  rw [← Oy g1 0 (by rw [hB1.ks]; omega), hpr1]
  exact IA
 refine zC ?_
 refine cr <| s_ Qa ?_
 refine QP hK0 (fun r H' ⟨hr1, hr2⟩ => ?_)
 subst hr1 hr2
 refine s_ Br <| s_ Qa <| gF (fun hg => Qa) ?_
 refine WC (p := False) (Hr := []) (fun h => h) hK5 (by rw [List.append_nil]) (fun r H' ⟨hr1, hr2⟩ => ?_) (ha' := QK (u_ (fun h => h)) (QK Uw Xv))
 subst hr1 hr2
 rw [List.append_nil]
 refine gF (p := False) (fun hg => Bl) ?_
 refine s_ Ya <| zC ?_
 refine ci ?_ ?_
 ·rintro (h | h)
  ·exact h.elim
  ·exact h.elim
 intro _
 refine zC ?_
 refine cr <| s_ Qa ?_
 refine QP hK0 (fun r H' ⟨hr1, hr2⟩ => ?_)
 subst hr1 hr2
 refine QP hNo (fun r H' ⟨hr1, hr2⟩ => ?_)
 subst hr1 hr2
 refine s_ B1 <| s_ XF <| s_ Qc <| zC ?_
 refine zE ?_
 exact Le.of_eq (by show T.v (.bool (decide ((g1.k 0).N.role = 2))) = _; rw [decide_eq_true hrole])
section
variable {P : Nat → En → Prop} {g : Gp} {τ l u : Nat}
theorem DO {g : Gp} {k : Int} (h : Xk g k) : g.way.getD k.toNat default ∈ g.way := by
 have hk := (JV h).1
 rw [List.getD_eq_getElem?_getD, List.getElem?_eq_getElem hk]; exact List.getElem_mem _
theorem GB.drop (h : GB P g τ l u) (k : Int) : GB P (JH g k) τ l u ∧ (JH g k).way.length = g.way.length - (if Xk g k then 1 else 0) := by
 unfold JH
 split
 ·rename_i hk
  obtain ⟨h1, _⟩ := JV hk
  have hl : (V5 g k).way.length = g.way.length - 1 := by show (g.way.eraseIdx k.toNat).length = _; rw [List.length_eraseIdx, if_pos h1]
  exact ⟨h.out (fun x hx => h.way x (List.mem_of_mem_eraseIdx hx)) (by show (V5 g k).way.length ≤ _; have := h.many; omega), hl⟩
 ·exact ⟨h, rfl⟩
theorem GB.twice (h : GB P g τ l u) (k : Int) : GB P (Zs g k) τ l (u + 1) ∧ (Zs g k).way.length = g.way.length + (if Xk g k ∧ g.way.length < 300 then 1 else 0) := by
 unfold Zs
 split
 ·rename_i hk
  refine ⟨(h.le (u' := u + 1) (by omega)).out (fun x hx => ?_) (by have := h.many; simp only [List.length_append, List.length_singleton]; omega), by simp⟩
  rcases List.mem_append.1 hx with hx | hx
  ·exact h.way x hx
  ·rw [List.mem_singleton.1 hx]; exact h.way _ (DO hk.1)
 ·exact ⟨h.le (by omega), rfl⟩
theorem G9 (g : Gp) (m : Ms) : g.way.length ≤ (XT g m).way.length := by
 unfold XT
 split
 ·unfold didG
  simp only [List.length_append]; omega
 ·exact Nat.le_refl _
theorem GB.deliver (hP : PO P) (h : GB P g τ l u) (ht : τ ≤ 100000) (k : Int) : ∃ l', GB P (Xp g k) τ l' u ∧ l ≤ l' ∧ (Xp g k).way.length + 5 * l ≤ g.way.length + 5 * l' ∧ g.way.length ≤ (Xp g k).way.length + 1 := by
 unfold Xp
 split
 ·rename_i hk
  obtain ⟨h1, _⟩ := JV hk
  have hl : (V5 g k).way.length = g.way.length - 1 := by show (g.way.eraseIdx k.toNat).length = _; rw [List.length_eraseIdx, if_pos h1]
  have hb : GB P (V5 g k) τ l u := h.out (fun x hx => h.way x (List.mem_of_mem_eraseIdx hx)) (by show (V5 g k).way.length ≤ _; have := h.many; omega)
  obtain ⟨l', h2, h3, h4⟩ := hb.take hP ht (h.way _ (DO hk)) (by have := h.many; omega)
  have := G9 (V5 g k) (g.way.getD k.toNat default)
  exact ⟨l', h2, h3, by omega, by omega⟩
 ·exact ⟨l, h, Nat.le_refl _, by omega, by omega⟩
end
structure MY (bg : Nat) (i : Nat) (g : Gp) (H : Qb) : Prop where
 is : IsG bg g H
 gb : ∃ τ l, GB PS g τ l (60 + i) ∧ g.way.length ≤ 20 + i + 5 * l
theorem MY.few {bg i : Nat} {g : Gp} {H : Qb} (h : MY bg i g H) (hi : i ≤ 30) : g.way.length < 300 := by
 obtain ⟨τ, l, h1, h2⟩ := h.gb
 have := h1.five
 omega
theorem IE (ks ats : List Int) (h1 : ks.length ≤ 9223372036854775807) (h2 : ats.length ≤ 9223372036854775807) : FnP Tryz.prog 3 [.sl false (ks.map ei), .sl false (ats.map ei)] (fun r => r = .v (.bool true)) := by
 have hK := Dn
 have hN := El PS 7 (by omega) (by omega)
 refine fe Tryz.func3 fun S0 w0 => ?_
 show Sim _ _ [(0, T.sl false (ks.map ei)), (1, T.sl false (ats.map ei))] _ _
 refine zC ?_
 refine cr <| s_ Qc <| zC ?_
 refine cr <| s_ (QM (hK)) <| s_ Bi <| zC ?_
 refine ci (p := False) (fun h => h.elim) (fun _ => ?_)
 refine zC ?_
 apply cr
 refine Q4 (Hs := []) (Hr := []) hN (.refl _) (fun r H ⟨bg, g, hr, hG, hB, hL, hpr, hcf⟩ => ?_)
 subst hr
 rw [List.append_nil]
 have hC := MA XV bg g H 12 12 (by omega) hB (by omega) hG
 obtain ⟨l1, hB1, _⟩ := hB.calm XV.toPO 12 (by omega)
 obtain ⟨hL1, hpr1⟩ := hL.calm XV hB 12 (by omega)
 obtain ⟨g1, hg1⟩ : ∃ g1, g1 = Z7 g 12 := ⟨_, rfl⟩
 rw [← hg1] at hC hB1 hL1 hpr1
 rw [hpr] at hpr1
 have hway : g1.way.length ≤ 20 := by
  have : g1.way = (prG g1).way := rfl
  rw [this, hpr1]; exact IB
 clear hL hpr hL1 hpr1 hg1
 refine s_ Qa <| s_ QL <| s_ QL <| s_ Qc <| s_ Qc <| zC ?_
 refine cr <| s_ Qa ?_
 refine QP hC (fun r H' ⟨hr1, hG1⟩ => ?_)
 subst hr1
 refine zC ?_
 refine cr <| s_ Qc <| zC ?_
 apply Qu (σ := Nat × Gp × Qb) (ok := fun s => s.1 ≤ 30 ∧ s.1 ≤ ks.length ∧ s.1 ≤ ats.length ∧ MY bg s.1 s.2.1 s.2.2) (env := fun s => [(7, ei s.1), (5, pW bg), (0, T.sl false (ks.map ei)), (1, T.sl false (ats.map ei))]) (heap := fun s => s.2.2) (μ := fun s => 30 - s.1) (s0 := (0, g1, H'))
 ·exact ⟨Nat.zero_le _, Nat.zero_le _, Nat.zero_le _, hG1, _, l1, hB1, by simp only; omega⟩
 ·exact eL
 ·exact kR
 clear hG1 hC hB1
 rintro ⟨i, g2, H2⟩ ⟨hi, hik, hia, hok⟩
 simp only at hi hik hia hok
 show Sim _ _ [(7, ei i), (5, pW bg), (0, T.sl false (ks.map ei)), (1, T.sl false (ats.map ei))] H2 _
 refine zC ?_
 refine cr <| s_ Qa <| s_ Qa ?_
 (first | refine s_ QR ?_ | refine s_ QN ?_)
 refine s_ QS <| s_ Qa <| gT (fun hg => Qa) ?_
 refine gT (fun hg => Qa) ?_
 (first | refine gT (fun hg => QR (hx := u_ hg)) ?_ | refine gT (fun hg => QN (hx := u_ hg)) ?_)
 refine gT (fun hg => QS (hx := u_ hg) (hy := u_ hg)) ?_
 refine s_ XY <| s_ Qa <| gT (fun hg => Qa) ?_
 refine gT (fun hg => QS (hx := u_ hg)) ?_
 refine s_ XY <| zC ?_
 refine ci ?_ ?_
 ·rintro ⟨⟨hlt1, hlt2⟩, hlt3⟩
  rw [List.length_map] at hlt1 hlt2
  have hix : i < ats.length := by omega
  have hix2 : i < ks.length := by omega
  apply ck
  apply cq
  refine Ok (σ := Gp × Qb) (ok := fun s => MY bg (i + 1) s.1 s.2) (env := fun _ => [(7, ei i), (5, pW bg), (0, T.sl false (ks.map ei)), (1, T.sl false (ats.map ei))]) (heap := fun s => s.2) ?_ (fun s hs => ?_)
  ·have hi30 : i < 30 := by omega
   obtain ⟨hG2, τ2, l2, hB2, hw2⟩ := hok
   have hfew : g2.way.length < 300 := MY.few ⟨hG2, τ2, l2, hB2, hw2⟩ hi
   have ht2 := hB2.tau
   have hUn := Ju bg g2 H2 hG2
   refine zC ?_
   refine cr <| s_ Qa ?_
   refine QP hUn (fun r H3 ⟨hr1, hr2⟩ => ?_)
   subst hr1 hr2
   obtain ⟨n, hn⟩ : ∃ n, n = g2.way.length := ⟨_, rfl⟩
   rw [← hn]
   have hw1 := UB ats[i] ((n : Int) + 3) (by omega) (by omega)
   have hm0 := Int.emod_nonneg ats[i] (show ((n : Int) + 3) ≠ 0 by omega)
   have hm1 := Int.emod_lt_of_pos ats[i] (show 0 < ((n : Int) + 3) by omega)
   refine s_ Qc <| zC ?_
   refine cr <| s_ Qa <| s_ Qa ?_
   (first | refine s_ (Xt hix) ?_ | refine s_ (Xt hix2) ?_ | refine s_ Zg ?_ | refine s_ ZX ?_)
   (first | refine s_ Qm ?_ | refine s_ Qn ?_)
   refine s_ Qa <| s_ QZ <| s_ (QM (hw1)) <| s_ Ze <| s_ Qc <| zC ?_
   obtain ⟨k, hk⟩ : ∃ k, k = ats[i] % ((n : Int) + 3) - 1 := ⟨_, rfl⟩
   rw [← hk]
   have hk0 : -1 ≤ k := by omega
   have hk1 : k ≤ n + 1 := by omega
   have hw3 := UB ks[i] 3 (by omega) (by omega)
   have hq0 := Int.emod_nonneg ks[i] (show (3 : Int) ≠ 0 by omega)
   have hq1 := Int.emod_lt_of_pos ks[i] (show 0 < (3 : Int) by omega)
   obtain ⟨q, hq⟩ : ∃ q, q = ks[i] % 3 := ⟨_, rfl⟩
   rw [← hq] at hw3 hq0 hq1
   have hhas : Xk g2 k ↔ (0 ≤ k ∧ k < (n : Int)) := by rw [hn]; exact Iff.rfl
   obtain ⟨one, hone⟩ : ∃ one : Int, one = if 0 ≤ k ∧ k < (n : Int) then 1 else 0 := ⟨_, rfl⟩
   have hone2 : (0 ≤ one ∧ one ≤ 1) := by rw [hone]; split <;> omega
   refine zC ?_
   refine cr <| s_ Qa <| s_ UR <| s_ Qa <| gT (fun hg => Qa) ?_
   refine gT (fun hg => Qa) ?_
   refine gT (fun hg => QS (hx := u_ hg) (hy := u_ hg)) ?_
   refine s_ XY <| s_ Qc <| zC ?_
   refine cr <| s_ Qc <| zC ?_
   refine cr <| s_ Qa <| zC ?_
   refine Jq [(11, ei one), (10, .v (.bool (decide (0 ≤ k ∧ k < (n : Int))))), (9, ei k), (8, ei n), (7, ei i), (5, pW bg), (0, T.sl false (ks.map ei)), (1, T.sl false (ats.map ei))] H3 ?_ ?_
   ·refine ci ?_ ?_
    ·intro h
     rw [if_pos h] at hone
     subst hone
     refine zC ?_
     refine cr <| s_ Qc <| zC ?_
     exact ⟨eL, kR⟩
    ·intro h
     rw [if_neg h] at hone
     subst hone
     refine zC ?_
     exact ⟨eL, kR⟩
   refine zC ?_
   refine cr <| s_ Qa <| s_ Qa ?_
   (first | refine s_ (Xt hix) ?_ | refine s_ (Xt hix2) ?_ | refine s_ Zg ?_)
   refine s_ Qm <| s_ (QM (hw3)) <| zC ?_
   refine zC ?_
   refine cr <| s_ XF <| s_ Qc <| zC ?_
   refine ci ?_ ?_
   ·intro hq0'
    have hD := Mz bg g2 H3 k hB2 (by omega) hG2
    obtain ⟨hB3, hw4⟩ := hB2.drop k
    refine zC ?_
    refine cr <| s_ Qa <| s_ Qa ?_
    refine QP hD (fun r H4 ⟨hr1, hG4⟩ => ?_)
    subst hr1
    have hU4 := Ju bg (JH g2 k) H4 hG4
    have hno : ¬ ¬ (Xk g2 k ↔ (0 ≤ k ∧ k < (n : Int))) := fun h => h hhas
    have hn4 : ((JH g2 k).way.length : Int) = n - one := by
     rw [hw4, hone, ← hn]
     by_cases h : 0 ≤ k ∧ k < (n : Int)
     ·rw [if_pos h, if_pos (hhas.2 h)]; omega
     ·rw [if_neg h, if_neg (fun h' => h (hhas.1 h'))]; omega
    refine s_ Qa <| s_ OK <| s_ Qa <| gF (fun hg => Qa) ?_
    refine WC (p := ¬ (Xk g2 k ↔ (0 ≤ k ∧ k < (n : Int)))) (Hr := []) hno hU4 (by rw [List.append_nil]) (fun r H5 ⟨hr1, hr2⟩ => ?_) (ha' := QK (u_ hno) Xv)
    subst hr1 hr2
    rw [List.append_nil]
    refine gF (fun hg => Qa) ?_
    refine gF (fun hg => Qa) ?_
    refine gF (fun hg => Ze (hx := u_ hg) (hy := u_ hg)) ?_
    refine gF (p := ¬ (Xk g2 k ↔ (0 ≤ k ∧ k < (n : Int)))) (fun hg => YL (hy := u_ hg)) ?_
    refine s_ Ya <| zC ?_
    refine ci ?_ ?_
    ·rintro (h | h)
     ·exact absurd h hno
     ·exact absurd hn4 h
    ·intro _
     refine zC ?_
     exact ⟨(JH g2 k, H5), _, ⟨hG4, τ2, l2, hB3.le (by omega), by show (JH g2 k).way.length ≤ _; rw [hw4]; split <;> omega⟩, eL, .refl _, kR⟩
   intro hq0'
   refine zC ?_
   refine cr <| s_ XF <| s_ Qc <| zC ?_
   refine ci ?_ ?_
   ·intro hq1'
    have hD := Gq bg g2 H3 k hB2 (by omega) hG2
    obtain ⟨hB3, hw4⟩ := hB2.twice k
    refine zC ?_
    refine cr <| s_ Qa <| s_ Qa ?_
    refine QP hD (fun r H4 ⟨hr1, hG4⟩ => ?_)
    subst hr1
    have hU4 := Ju bg (Zs g2 k) H4 hG4
    have hno : ¬ ¬ (Xk g2 k ∧ g2.way.length < 300 ↔ (0 ≤ k ∧ k < (n : Int))) := fun h => h ⟨fun h1 => hhas.1 h1.1, fun h1 => ⟨hhas.2 h1, hfew⟩⟩
    have hn4 : ((Zs g2 k).way.length : Int) = n + one := by
     rw [hw4, hone, ← hn]
     by_cases h : 0 ≤ k ∧ k < (n : Int)
     ·rw [if_pos h, if_pos ⟨hhas.2 h, by omega⟩]; omega
     ·rw [if_neg h, if_neg (fun h' => h (hhas.1 h'.1))]; omega
    refine s_ Qa <| s_ OK <| s_ Qa <| gF (fun hg => Qa) ?_
    refine WC (p := ¬ (Xk g2 k ∧ g2.way.length < 300 ↔ (0 ≤ k ∧ k < (n : Int)))) (Hr := []) hno hU4 (by rw [List.append_nil]) (fun r H5 ⟨hr1, hr2⟩ => ?_) (ha' := QK (u_ hno) Xv)
    subst hr1 hr2
    rw [List.append_nil]
    refine gF (fun hg => Qa) ?_
    refine gF (fun hg => Qa) ?_
    refine gF (fun hg => QZ (hx := u_ hg) (hy := u_ hg)) ?_
    refine gF (p := ¬ (Xk g2 k ∧ g2.way.length < 300 ↔ (0 ≤ k ∧ k < (n : Int)))) (fun hg => YL (hy := u_ hg)) ?_
    refine s_ Ya <| zC ?_
    refine ci ?_ ?_
    ·rintro (h | h)
     ·exact absurd h hno
     ·exact absurd hn4 h
    ·intro _
     refine zC ?_
     exact ⟨(Zs g2 k, H5), _, ⟨hG4, τ2, l2, by rw [show 60 + (i + 1) = 60 + i + 1 by omega]; exact hB3, by show (Zs g2 k).way.length ≤ _; rw [hw4]; split <;> omega⟩, eL, .refl _, kR⟩
   intro hq1'
   refine zC ?_
   refine cr <| s_ XF <| s_ Qc <| zC ?_
   refine ci ?_ ?_
   ·intro hq2'
    have hD := UN XV bg g2 H3 k hB2 (by omega) hG2
    obtain ⟨l3, hB3, hl3, hw4, hw5⟩ := hB2.deliver XV.toPO (by omega) k
    refine zC ?_
    refine cr <| s_ Qa <| s_ Qa ?_
    refine QP hD (fun r H4 ⟨hr1, hG4⟩ => ?_)
    subst hr1
    have hU4 := Ju bg (Xp g2 k) H4 hG4
    have hno : ¬ ¬ (Xk g2 k ↔ (0 ≤ k ∧ k < (n : Int))) := fun h => h hhas
    refine s_ Qa <| s_ OK <| s_ Qa <| gF (fun hg => Qa) ?_
    refine WC (p := ¬ (Xk g2 k ↔ (0 ≤ k ∧ k < (n : Int)))) (Hr := []) hno hU4 (by rw [List.append_nil]) (fun r H5 ⟨hr1, hr2⟩ => ?_) (ha' := QK (u_ hno) Xv)
    subst hr1 hr2
    rw [List.append_nil]
    refine gF (fun hg => Qa) ?_
    refine gF (fun hg => Ze (hx := u_ hg)) ?_
    refine gF (p := ¬ (Xk g2 k ↔ (0 ≤ k ∧ k < (n : Int)))) (fun hg => QS (hy := u_ hg)) ?_
    refine s_ Ya <| zC ?_
    refine ci ?_ ?_
    ·rintro (h | h)
     ·exact absurd h hno
     ·exact absurd h (by omega)
    ·intro _
     refine zC ?_
     exact ⟨(Xp g2 k, H5), _, ⟨hG4, τ2, l3, hB3.le (by omega), by show (Xp g2 k).way.length ≤ _; omega⟩, eL, .refl _, kR⟩
   ·intro hq2'
    have hq3 : q = 0 ∨ q = 1 ∨ q = 2 := by omega
    rcases hq3 with h | h | h
    ·exact absurd h hq0'
    ·exact absurd h hq1'
    ·exact absurd h hq2'
  obtain ⟨g5, H5⟩ := s
  simp only at hs
  show Sim _ _ [(7, ei i), (5, pW bg), (0, T.sl false (ks.map ei)), (1, T.sl false (ats.map ei))] H5 _
  refine zC ?_
  refine cr <| s_ Qa <| s_ QZ <| s_ Qc <| zC ?_
  refine ⟨(i + 1, g5, H5), ⟨by simp only; omega, by simp only; omega, by simp only; omega, hs⟩, (by simp only []; omega), ⟨?_, eL⟩, kR⟩
  apply Qj; (exact zG)
  exact Le.refl _
 ·intro hge
  obtain ⟨hG2, τ2, l2, hB2, hw2⟩ := hok
  have hD := UN XV bg g2 H2 (-1) hB2 (by omega) hG2
  obtain ⟨l3, hB3, hl3, hw4, hw5⟩ := hB2.deliver XV.toPO (by have := hB2.tau; omega) (-1)
  have hn1 : ¬ Xk g2 (-1) := fun h => absurd h.1 (by omega)
  refine zC ?_
  refine cr <| s_ Qa ?_
  refine QP hD (fun r H4 ⟨hr1, hG4⟩ => ?_)
  subst hr1
  have hf3 := hB3.five
  have hn2 : ¬ Xk (Xp g2 (-1)) 1099511627776 := fun h => absurd h.2 (by omega)
  have hD4 := Mz bg (Xp g2 (-1)) H4 1099511627776 hB3 (by omega) hG4
  have hyes : ¬ Xk g2 (-1) := hn1
  refine s_ Ym <| s_ Qa <| gT (fun hg => Qa) ?_
  refine Cn (p := ¬ Xk g2 (-1)) (Hr := []) hyes hD4 (by rw [List.append_nil]) (fun r H5 ⟨hr1, hG5⟩ => ?_) (ha' := QK (u_ hyes) (QK Uw Xv))
  subst hr1
  rw [List.append_nil]
  refine gT (p := ¬ Xk g2 (-1)) (fun hg => Ym (p := Xk (Xp g2 (-1)) 1099511627776)) ?_
  refine s_ XY <| s_ Qc <| zC ?_
  refine zE ?_
  exact Le.of_eq (by show T.v (.bool (decide (¬ Xk g2 (-1) ∧ ¬ Xk (Xp g2 (-1)) 1099511627776))) = _; rw [decide_eq_true ⟨hn1, hn2⟩])
end Go.Proofs.YtjbokbikkcfjjaaGreat
namespace Go.Cap
open Go.ChangeShapes Go.WideShapes Go.ChangeAt Go.RowKit
theorem QH.below {S S' : Nat → Prop} {w w' : World} (h : QH [] S w S' w') : Below w.heap.size w w' := ⟨h.os, h.tape, h.output, h.size, fun k hk => h.keep k hk (by simp)⟩
theorem DD {P : Program} {f : FuncId} {args : List T} (h : FnP P f args (fun r => r = .v (.bool true))) {w : World} {vs : List Value} (hr : Qp (fun b => b < w.heap.size) w args vs) :
  Calls P f vs.toArray w fun e w' => e = .returned (.bool true) ∧ Below w.heap.size w w' := by
 refine (h (fun b => b < w.heap.size) w vs (fun b hb => hb) (Own.nil _ _) hr).mono ?_
 rintro e w' ⟨u, S', r, H', rfl, ⟨_, rfl⟩, hrel, _, hst, _⟩
 exact ⟨by rw [hrel.v_eq], hst.below⟩
section
variable {H : Type} {enc : TypeId × Value → H} {P : Program}
theorem JB (hl : laidOutB P = true) {W W' : World} (hb : Below W.heap.size W W') : ∀ (ts : List TypeId) (vs : List Value) (ds : List (DataW H)) (ps : List MemPlace),
  (∀ t ∈ ts, P.readableRec t = true ∧ t < P.types.size) → DataW.TrodAll enc P W 0 (fun _ => true) true ts vs ds ps → (∀ x ∈ ps, x.block < W.heap.size) →
  DataW.TrodAll enc P W' 0 (fun b => decide (b < W.heap.size)) true ts vs ds ps
 | [], _, _, _, _, h, _ => by
  obtain ⟨rfl, rfl, rfl⟩ := trodAll_nil h
  exact h
 | t :: ts, _, _, _, ht, h, hp => by
  obtain ⟨v, vs1, d, ds1, a, b, rfl, rfl, rfl, h1, h2⟩ := trodAll_cons h
  refine ⟨a, b, Below.trod hl (ht t List.mem_cons_self).1 (ht t List.mem_cons_self).2 h1 hb (fun x hx => hp x (List.mem_append_left _ hx)), ?_, rfl⟩
  exact JB hl hb ts vs1 ds1 b (fun y hy => ht y (List.mem_cons_of_mem _ hy)) h2 (fun x hx => hp x (List.mem_append_right _ hx))
theorem EU {f : Func} {s : ChangeSpec} {W W' : World} {args : Array Value} {ds gs : List (DataW H)} {before : List MemPlace} {tb : TypeId} (hl : laidOutB P = true) (hvs : s.vars = [])
  (hW : DataW.Whole enc P f.params.toList s.vars false W args.toList ds gs before) (hb : Below W.heap.size W W') (hts : (f.params.toList.all fun t => P.readableRec t && Nat.blt t P.types.size) = true)
  (hres : (s.fn H (ds ++ gs)).results = [.lit (.bool true)]) (harg : (s.fn H (ds ++ gs)).args = ds) (hvar : (s.fn H (ds ++ gs)).vars = []) (hr : f.resultTypes = #[tb]) (htb : P.underlying tb = some .bool) :
  s.post enc P f false true false false W args (.bool true) W' := by
 have hts' : ∀ t ∈ f.params.toList, P.readableRec t = true ∧ t < P.types.size := fun t ht => by
  have := List.all_eq_true.1 hts t ht
  simp only [Bool.and_eq_true] at this
  exact ⟨this.1, by simpa using this.2⟩
 have hW' := hW
 obtain ⟨p, q, hA, hV, rfl, hfz, hnd⟩ := hW
 rw [hvs] at hV
 obtain ⟨rfl, rfl⟩ := trodVars_none hV
 refine ⟨ds, [], p ++ [], [], p, [], hW', ?_, ?_, ?_, hb.frame _, fun h => by cases h⟩
 ·rw [hres, hr]
  exact trodAll_mk1 (shut_bool htb true)
 ·rw [harg]
  exact JB hl hb _ _ _ _ hts' hA (fun x hx => hW'.lt x (by simpa using hx))
 ·rw [hvs, hvar]; rfl
end
end Go.Cap
