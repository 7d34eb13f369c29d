/-
  group: there, Keep, has, Under, sent.
-/
import Derived.Test.YtjbokbikkcfjjaaGreatAav
import Derived.Test.YtjbokbikkcfjjaaGreatAap
set_option maxRecDepth 16000
set_option maxHeartbeats 8000000
set_option linter.all false
namespace Go.Proofs.YtjbokbikkcfjjaaGreat
open Go.Cap
attribute [local irreducible] POp Qf Pw EOp Sim FnH T.gp
theorem J4 {x y : Nat × Blk} {W M A B : Qd} (h : M.Perm (A ++ B)) : (x :: y :: (W ++ M)).Perm (A ++ (x :: y :: (W ++ B))) := by
 have h1 : (W ++ M).Perm (A ++ (W ++ B)) := (h.append_left W).trans (by rw [← List.append_assoc, ← List.append_assoc]; exact List.perm_append_comm.append_right B)
 have h2 : (x :: y :: (W ++ M)).Perm (x :: y :: (A ++ (W ++ B))) := (h1.cons y).cons x
 exact h2.trans (((List.perm_middle (a := y) (l₁ := A) (l₂ := W ++ B)).symm.cons x).trans (List.perm_middle (a := x) (l₁ := A) (l₂ := y :: (W ++ B))).symm)
def kB (a : Ad) (K : Kp) : Qd := [(a.bk, ⟨tK, pW a.bj :: Qs K.N (.sl false (K.N.log.map een)), 23⟩), (a.bj, ⟨tJ, [pW a.bd, ei K.n], 2⟩)]
theorem AT (a : Ad) (K : Kp) (B : Qd) : (mH a K ++ B).Perm (DkH a.bd K.d ++ (kB a K ++ B)) := by
 show (kB a K ++ (DkH a.bd K.d ++ B)).Perm _
 rw [← List.append_assoc, ← List.append_assoc]
 exact List.perm_append_comm.append_right B
theorem A2 (a : Nat → Ad) (k : Nat → Kp) {i : Nat} (hi : i < 5) : (gM a k).Perm (DkH (a i).bd (k i).d ++ (kB (a i) (k i) ++ gO a k i)) := (Vi a k hi).trans (AT _ _ _)
theorem IsG.nat {i : Int} (h : isI i) : (((i.toNat : Nat) : Int)) = i := by have := h.1; omega
theorem VF (bg : Nat) (g : Gp) (H : Qd) (i : Int) (hG : IsG bg g H) : FnH Tryz.prog 46 [pW bg, ei i] H (fun r H' => r = eB (Q9 g i) ∧ H' = H) := by
 have hI := J6 bg g H i hG
 obtain ⟨a, bm, es, clk, W, wv, hA, hO, rfl⟩ := hG
 refine fe Tryz.func46 fun S0 w0 => ?_
 show Sim _ _ [(0, pW bg), (1, ei i)] ((bg, ⟨tG, gC g.conf a bm wv, 13⟩) :: (bm, ⟨.map es clk, [], 0⟩) :: (W ++ gM a g.k)) _
 have hkeys := hA.keys
 refine zC ?_
 refine cr <| s_ Qb <| zC ?_
 refine cr <| s_ Qa <| s_ Qa ?_
 refine QN hI (fun r H' ⟨hr1, hr2⟩ => ?_)
 subst hr1 hr2
 by_cases hi : isI i
 ·have hl := hA.get i.toNat (Q3 hi).1
  rw [IsG.nat hi] at hl
  obtain ⟨q, iq, hq⟩ := BH (b := g.aw.getD i.toNat false)
  rw [hq] at hl
  refine s_ Qa <| gT (fun hg => Qa) ?_
  refine gT (fun hg => Qe (hx := u_ hg)) ?_
  refine gT (fun hg => Qc (hx := u_ hg)) ?_
  refine gT (fun hg => Qj (hx := u_ hg)) ?_
  refine gT (fun hg => Qa) ?_
  refine gT (d := .v (.bool (decide q))) (fun hg => by show POp _ _ _ _ (eB (decide q)); rw [← hl]; exact PA hkeys (hx := u_ hg) (hy := u_ hg)) ?_
  refine gT (fun hg => Yr (hx := u_ hg)) ?_
  refine s_ Yh <| s_ Qa ?_
  by_cases hq' : q
  ·have hno : ¬ (isI i ∧ ¬ q) := fun h => h.2 hq'
   (repeat (refine gT (p := isI i ∧ ¬ q) (d := .v (.bool (decide False))) (fun hg => absurd hg hno) ?_))
   refine s_ Yh <| s_ Qb <| zC ?_
   refine zR ?_
   refine rh kR ⟨rfl, rfl⟩ ?_
   exact Le.of_eq (by show T.v (.bool (decide _)) = T.v (.bool (Q9 g i)); unfold Q9; rw [hq]; simp [hq'])
  ·have hyes : isI i ∧ ¬ q := ⟨hi, hq'⟩
   have hd := O6 (a i.toNat).bd (g.k i.toNat).d
   have hcd := Ni (conf := g.conf) (a := a) (bm := bm) (wv := wv) hi
   have hp : 0 ≤ i ∧ i < 5 := hi
   have hperm := J4 (x := (bg, ⟨tG, gC g.conf a bm wv, 13⟩)) (y := (bm, ⟨.map es clk, [], 0⟩)) (W := W) (A2 a g.k (Q3 hi).1)
   refine gT (fun hg => Qa) ?_
   refine gT (fun hg => Qa) ?_
   refine gT (fun hg => Qe (hx := u_ hg)) ?_
   refine gT (fun hg => Qc (hx := u_ hg)) ?_
   refine gT (fun hg => Yx (hx := u_ hg) (hy := u_ hg)) ?_
   refine gT (fun hg => Qc (hx := u_ hg)) ?_
   refine gT (fun hg => Qj (hx := u_ hg) (hd := by first | rfl | assumption)) ?_
   refine gT (fun hg => Qe (hx := u_ hg)) ?_
   (first | refine gT (fun hg => L5 (hx := u_ hg)) ?_ | refine gT (fun hg => Qc (hx := u_ hg)) ?_)
   refine N8 (p := isI i ∧ ¬ q) hyes hd hperm (fun r H' ⟨hr1, hr2⟩ => ?_) (ha' := Q1 (u_ hyes) XZ)
   subst hr1 hr2
   obtain ⟨q2, iq2, hq2⟩ := BH (b := (g.k i.toNat).d.dead)
   rw [hq2]
   refine gT (p := isI i ∧ ¬ q) (fun hg => Yr (p := q2)) ?_
   refine s_ Yh <| s_ Qb <| zC ?_
   refine zR ?_
   refine rhp hperm.symm kR ⟨rfl, rfl⟩ ?_
   exact Le.of_eq (by show T.v (.bool (decide _)) = T.v (.bool (Q9 g i)); unfold Q9; rw [hq, hq2]; simp [hi, hq'])
 ·refine s_ Qa ?_
  (repeat (refine gT (p := isI i) (d := .v (.bool (decide False))) (fun hg => absurd hg hi) ?_))
  refine s_ Yh <| s_ Qa ?_
  have hno : ¬ (isI i ∧ False) := fun h => h.2
  (repeat (refine gT (p := isI i ∧ False) (d := .v (.bool (decide False))) (fun hg => absurd hg hno) ?_))
  refine s_ Yh <| s_ Qb <| zC ?_
  refine zR ?_
  refine rh kR ⟨rfl, rfl⟩ ?_
  exact Le.of_eq (by show T.v (.bool (decide _)) = T.v (.bool (Q9 g i)); unfold Q9; simp [hi])
theorem Dl (bg : Nat) (g : Gp) (H : Qd) (k : Int) (hG : IsG bg g H) : FnH Tryz.prog 36 [pW bg, ei k] H (fun r H' => r = .v (.bool (decide (YN g k))) ∧ H' = H) := by
 obtain ⟨a, bm, es, clk, W, wv, hA, hO, rfl⟩ := hG
 obtain ⟨p, c, rfl⟩ := hO.len
 refine fe Tryz.func36 fun S0 w0 => ?_
 show Sim _ _ [(0, pW bg), (1, ei k)] ((bg, ⟨tG, gC g.conf a bm _, 13⟩) :: (bm, ⟨.map es clk, [], 0⟩) :: (W ++ gM a g.k)) _
 refine zC ?_
 refine cr <| s_ Qb <| zC ?_
 refine cr <| s_ Qa <| s_ Vd <| s_ Qa <| gT (fun hg => Qa) ?_
 refine gT (fun hg => Qa) ?_
 refine gT (fun hg => Qe (hx := u_ hg)) ?_
 refine gT (fun hg => Qc (hx := u_ hg)) ?_
 refine gT (fun hg => Qj (hx := u_ hg)) ?_
 (first | refine gT (fun hg => QX (hx := u_ hg)) ?_ | refine gT (fun hg => QQ (hx := u_ hg)) ?_)
 refine gT (fun hg => Q2 (hx := u_ hg) (hy := u_ hg)) ?_
 refine s_ Yh <| s_ Qb <| zC ?_
 refine zR ?_
 refine rh kR ⟨rfl, rfl⟩ ?_
 exact Le.of_eq (by show T.v (.bool (decide (0 ≤ k ∧ k < ((g.way.map ms).length : Nat)))) = _; congr 2; exact decide_eq_decide.2 (by unfold YN; rw [List.length_map]))
theorem R8 (bg : Nat) (g : Gp) (H : Qd) (hG : IsG bg g H) : FnH Tryz.prog 12 [pW bg] H (fun r H' => r = ei g.way.length ∧ H' = H) := by
 obtain ⟨a, bm, es, clk, W, wv, hA, hO, rfl⟩ := hG
 obtain ⟨p, c, rfl⟩ := hO.len
 refine fe Tryz.func12 fun S0 w0 => ?_
 show Sim _ _ [(0, pW bg)] ((bg, ⟨tG, gC g.conf a bm _, 13⟩) :: (bm, ⟨.map es clk, [], 0⟩) :: (W ++ gM a g.k)) _
 refine zC ?_
 refine cr <| s_ Qb <| zC ?_
 refine cr <| s_ Qa <| s_ Qe <| s_ Qc <| s_ Qj ?_
 (first | refine s_ QX ?_ | refine s_ QQ ?_)
 refine s_ Qb <| zC ?_
 refine zR ?_
 refine rh kR ⟨rfl, rfl⟩ ?_
 exact Le.of_eq (by show ei ((g.way.map ms).length : Nat) = _; rw [List.length_map])
theorem Ev (bg : Nat) (g : Gp) (H : Qd) (e : Int) (l : List Ms) (hl : g.way.length + l.length ≤ 1000000) (hG : IsG bg g H) : FnH Tryz.prog 48 [pW bg, ei e, mss l] H (fun r H' => r = .tup [] ∧ IsG bg { g with way := g.way ++ (if e = 0 then l else []) } H') := by
 obtain ⟨a, bm, es, clk, W, wv, hA, hO, rfl⟩ := hG
 obtain ⟨p, c, rfl⟩ := hO.len
 refine fe Tryz.func48 fun S0 w0 => ?_
 show Sim _ _ [(0, pW bg), (1, ei e), (2, mss l)] ((bg, ⟨tG, gC g.conf a bm _, 13⟩) :: (bm, ⟨.map es clk, [], 0⟩) :: (W ++ gM a g.k)) _
 refine zC ?_
 refine cr <| s_ Qa <| s_ Xi <| zC ?_
 refine ci ?_ ?_
 ·intro he
  have he' : e = 0 := he
  rw [if_pos he']
  refine zC ?_
  refine cr <| s_ Qa <| s_ Qa <| s_ Qe <| s_ Qc <| s_ Qj <| s_ Qa ?_
  refine Mt (ho := hO) (A := [_, _]) (B := gM a g.k) (WI _) (fun v' Hs' ho' => ?_)
  obtain ⟨q, d, rfl⟩ := ho'.len
  refine s_ Qe <| s_ Qc <| Qz ?_
  refine zC ?_
  refine rhn kR ⟨rfl, a, bm, es, clk, Hs', _, hA, (by unfold OM; rw [List.map_append]; exact ho'), rfl⟩ (Le.refl _)
 ·intro he
  have he' : ¬ e = 0 := he
  rw [if_neg he']
  refine zC ?_
  refine rhn kR ⟨rfl, a, bm, es, clk, W, _, hA, (by rw [List.append_nil]; exact hO), rfl⟩ (Le.refl _)
end Go.Proofs.YtjbokbikkcfjjaaGreat
namespace Go.Cap
section
variable {K : Ctx} {ops : Array Oper} {eff : List Nat} {N : Env → Qd → Prop} {Q : Exit → Act → World → Prop}
inductive LN where
 | done
 | yields (i : Nat) (p : LN)
 | alt (i : Nat) (p r : LN)
 | stop
def Run (K : Ctx) (ops : Array Oper) (eff : List Nat) (N : Env → Qd → Prop) : LN → Env → Qd → List Xb → Prop
 | .done => fun t H _ => N t H
 | .yields i p => fun t H pend => match ops[i]? with
  | some o => QO K ops eff i o (Run K ops eff N p) t H pend
  | none => False
 | .alt i p r => fun t H pend => (match ops[i]? with
  | some o => QO K ops eff i o (Run K ops eff N p) t H pend
  | none => False) ∧ Run K ops eff N r t H pend
 | .stop => fun _ _ _ => True
def Uz (ops : Array Oper) (pre : List Nat) (i : Nat) : Bool := match ops[i]? with
 | some o => o.after.all fun e => !Region.binds .any e || QZ pre e.on
 | none => false
def Yv (ops : Array Oper) (eff : List Nat) : LN → List Nat → List Nat → Bool
 | .done, pre, seen => seen.isEmpty && (List.range ops.size).all fun j => QZ pre j
 | .yields i p, pre, seen => seen.isEmpty && !QZ eff i && !QZ pre i && Uz ops pre i && Yv ops eff p (i :: pre) []
 | .alt i p r, pre, seen => QZ eff i && !QZ pre i && Uz ops pre i && Yv ops eff p (i :: pre) [] && Yv ops eff r pre (i :: seen)
 | .stop, pre, seen => !seen.isEmpty && (List.range ops.size).all fun j => QZ pre j || QZ seen j || !Uz ops pre j
theorem If {pre : List Nat} {i : Nat} {o : Oper} (ho : ops[i]? = some o) (h : Uz ops pre i = true) : ∀ e ∈ o.after, Region.binds .any e = true → e.on ∈ pre := by
 intro e he hb
 simp only [Uz, ho] at h
 have h1 := Array.all_eq_true_iff_forall_mem.1 h e he
 rw [hb] at h1
 exact QJ.1 (by simpa using h1)
theorem Iq {pre : List Nat} {i : Nat} {o : Oper} (ho : ops[i]? = some o) (h : ∀ e ∈ o.after, Region.binds .any e = true → e.on ∈ pre) : Uz ops pre i = true := by
 simp only [Uz, ho]
 refine Array.all_eq_true_iff_forall_mem.2 fun e he => ?_
 cases hb : Region.binds .any e with
 | false => rfl
 | true => simpa using QJ.2 (h e he hb)
theorem Dn {pre : List Nat} {i : Nat} (h : Uz ops pre i = true) : ∃ o, ops[i]? = some o := by
 cases ho : ops[i]? with
 | none => simp [Uz, ho] at h
 | some o => exact ⟨o, rfl⟩
theorem Dc {l : List Nat} {i : Nat} (h : QZ l i = false) : i ∉ l := fun hm => by rw [QJ.2 hm] at h; cases h
theorem BU {t : Env} {H : Qd} {pend : List Xb} {pre : List Nat} {i : Nat} (hi : i < ops.size) (hp : i ∉ pre) (hf : Uz ops pre i = true) : ∀ (pl : LN) (seen : List Nat), Yv ops eff pl pre seen = true → Run K ops eff N pl t H pend → (seen = [] → ∀ j p, pl ≠ .yields j p) →
  i ∈ seen ∨ ∃ p o, ops[i]? = some o ∧ i ∈ eff ∧ Yv ops eff p (i :: pre) [] = true ∧ QO K ops eff i o (Run K ops eff N p) t H pend
 | .done, seen, h, _, _ => by
  simp only [Yv, Bool.and_eq_true] at h
  exact absurd (QJ.1 ((List.all_eq_true.1 h.2) i (List.mem_range.2 hi))) hp
 | .yields j p, seen, h, _, hn => by
  simp only [Yv, Bool.and_eq_true] at h
  exact absurd rfl (hn (by simpa using h.1.1.1.1) j p)
 | .alt j p r, seen, h, hr, _ => by
  simp only [Yv, Bool.and_eq_true] at h
  obtain ⟨⟨⟨⟨h1, h2⟩, h3⟩, h4⟩, h5⟩ := h
  obtain ⟨hr1, hr2⟩ := hr
  by_cases hij : i = j
  ·subst hij
   obtain ⟨o, ho⟩ := Dn h3
   rw [ho] at hr1
   exact .inr ⟨p, o, ho, QJ.1 h1, h4, hr1⟩
  ·rcases BU hi hp hf r (j :: seen) h5 hr2 (fun e => by cases e) with h | h
   ·rcases List.mem_cons.1 h with h | h
    ·exact absurd h hij
    ·exact .inl h
   ·exact .inr h
 | .stop, seen, h, _, _ => by
  simp only [Yv, Bool.and_eq_true] at h
  have := (List.all_eq_true.1 h.2) i (List.mem_range.2 hi)
  rw [hf] at this
  simp only [Bool.not_true, Bool.or_false, Bool.or_eq_true] at this
  rcases this with h | h
  ·exact absurd (QJ.1 h) hp
  ·exact .inl (QJ.1 h)
structure Oa (K : Ctx) (ops : Array Oper) (eff : List Nat) (N : Env → Qd → Prop) (pre : List Nat) (pl : LN) (t : Env) (H : Qd) (pend : List Xb) (listed : Array Bool) : Prop where
 top : ∀ i ∈ pre, ∀ o, ops[i]? = some o → ∀ e ∈ o.after, Region.binds .any e = true → e.on ∈ pre
 todo : ∀ i, i < ops.size → i ∉ pre → listed.getD i true = false
 done : ∀ i ∈ pre, i ∈ eff → listed.getD i false = true
 has : ∀ i ∈ pre, i ∉ eff → listed.getD i true = false → ∃ p ∈ pend, p.i = i
 pis : ∀ p ∈ pend, p.i ∈ pre ∧ p.i ∉ eff ∧ ops[p.i]? = some p.o
 gop : ∀ p ∈ pend, listed.getD p.i true = false → (∀ H', p.F H' → GOp K.P ops t H' p.o p.d) ∧ ∀ k, p.o.dst = some k → t.get k = p.d
 now : ∀ p ∈ pend, listed.getD p.i true = false → p.F H
 closed : ∀ i o, ops[i]? = some o → listed.getD i true = true → ∀ e ∈ o.after, Region.binds .any e = true → listed.getD e.on true = true
 ok : Yv ops eff pl pre [] = true
 go : Run K ops eff N pl t H pend
theorem Oa.pass (hc : Jc ops K.n eff) {H : Qd} {listed : Array Bool} {tx : Env} : ∀ (pl : LN) {pre : List Nat} {t : Env} {pend : List Xb}, Oa K ops eff N pre pl t H pend listed → (∀ x, (∀ p ∈ pend, listed.getD p.i true = false → p.o.dst ≠ some x) → tx.get x = t.get x) →
  ∃ pre' pl' t' pend', Oa K ops eff N pre' pl' t' H pend' listed ∧ (∀ x, (∀ p ∈ pend', listed.getD p.i true = false → p.o.dst ≠ some x) → tx.get x = t'.get x) ∧ ∀ j p, pl' ≠ .yields j p
 | .done, pre, t, pend, h, hx => ⟨pre, .done, t, pend, h, hx, fun _ _ e => by cases e⟩
 | .alt i p r, pre, t, pend, h, hx => ⟨pre, .alt i p r, t, pend, h, hx, fun _ _ e => by cases e⟩
 | .stop, pre, t, pend, h, hx => ⟨pre, .stop, t, pend, h, hx, fun _ _ e => by cases e⟩
 | .yields i p, pre, t, pend, h, hx => by
  have hok := h.ok
  simp only [Yv, Bool.and_eq_true] at hok
  obtain ⟨⟨⟨⟨_, k1⟩, k2⟩, k3⟩, k4⟩ := hok
  have he : i ∉ eff := Dc (by simpa using k1)
  have hip : i ∉ pre := Dc (by simpa using k2)
  have hem : QZ eff i = false := by simpa using k1
  obtain ⟨o, ho⟩ := Dn k3
  have hgo := h.go
  simp only [Run, ho, QO, hem, cond_false] at hgo
  obtain ⟨d, F, hg, hF, hgo⟩ := hgo
  have hlt : i < ops.size := (Array.getElem?_eq_some_iff.1 ho).1
  have hed := If ho k3
  refine Oa.pass hc p (pre := i :: pre) (t := t.put o.dst d) (pend := ⟨i, o, d, F⟩ :: pend) ⟨?_, ?_, ?_, ?_, ?_, ?_, ?_, h.closed, k4, hgo⟩ ?_
  ·intro j hj q hq e hee hb
   rcases List.mem_cons.1 hj with rfl | hj
   ·rw [ho] at hq; cases hq
    exact List.mem_cons_of_mem _ (hed e hee hb)
   ·exact List.mem_cons_of_mem _ (h.top j hj q hq e hee hb)
  ·intro j hj hn
   exact h.todo j hj fun hm => hn (List.mem_cons_of_mem _ hm)
  ·intro j hj hje
   rcases List.mem_cons.1 hj with rfl | hj
   ·exact absurd hje he
   ·exact h.done j hj hje
  ·intro j hj hje hl
   rcases List.mem_cons.1 hj with rfl | hj
   ·exact ⟨_, List.mem_cons_self, rfl⟩
   ·obtain ⟨q, hq, hqi⟩ := h.has j hj hje hl
    exact ⟨q, List.mem_cons_of_mem _ hq, hqi⟩
  ·intro q hq
   rcases List.mem_cons.1 hq with rfl | hq
   ·exact ⟨List.mem_cons_self, he, ho⟩
   ·obtain ⟨a, b, c⟩ := h.pis q hq
    exact ⟨List.mem_cons_of_mem _ a, b, c⟩
  ·intro q hq hl
   rcases List.mem_cons.1 hq with rfl | hq
   ·refine ⟨fun H' hF' => GOp.congr (hg H' hF') fun x hx' => ?_, fun k hk => ?_⟩
    ·simp only at hx'
     cases hd : o.dst with
     | none => rfl
     | some k => exact (Env.get_put_ne t d (fun e => (hc.dst i o k ho hd).2.1 (by rw [e]; exact hx'))).symm
    ·simp only at hk ⊢; rw [hk]; exact Env.get_put_self _ _ _
   ·obtain ⟨a, b, c⟩ := h.pis q hq
    exact ⟨fun H' hF' => Uh hc ho hip h.top a c (fun h5 _ => he h5) ((h.gop q hq hl).1 H' hF'), fun k hk => Uj hc ho hip a c hk ((h.gop q hq hl).2 k hk)⟩
  ·intro q hq hl
   rcases List.mem_cons.1 hq with rfl | hq
   ·exact hF
   ·exact h.now q hq hl
  ·intro x hxx
   have hne : o.dst ≠ some x := hxx ⟨i, o, d, F⟩ List.mem_cons_self (h.todo i hlt hip)
   rw [hx x fun p hp => hxx p (List.mem_cons_of_mem _ hp)]
   cases hd : o.dst with
   | none => rfl
   | some k => exact (Env.get_put_ne t d (fun e => hne (by rw [hd, e]))).symm
theorem Tm (hc : Jc ops K.n eff) (hq : ∀ t' H' a' w', N t' H' → R K t' H' a' w' → Q .normal a' w') :
  ∀ (fuel : Nat) (pre : List Nat) (pl : LN) (t : Env) (H : Qd) (pend : List Xb) (listed : Array Bool) (tx : Env) (a : Act) (w : World), listed.size = ops.size → unl listed ops.size = fuel →
   Oa K ops eff N pre pl t H pend listed → (∀ x, (∀ p ∈ pend, listed.getD p.i true = false → p.o.dst ≠ some x) → tx.get x = t.get x) → R K tx H a w → wpAnyIn (RF K.rd) 0 K.P .any ops Q fuel listed a w := by
 intro fuel
 induction fuel with
 | zero =>
  intro pre pl t H pend listed tx a w hs hf hw hx hr
  have hall : ∀ j, j < ops.size → listed.getD j true = true := fun j hj => by
   have h0 := List.length_eq_zero_iff.1 hf
   have h1 := (List.filter_eq_nil_iff.1 h0) j (List.mem_range.2 hj)
   simpa using h1
  have hlt : ∀ j o, ops[j]? = some o → j < ops.size := fun j o h => (Array.getElem?_eq_some_iff.1 h).1
  refine ⟨?_, ?_⟩
  ·refine List.eq_nil_iff_forall_not_mem.2 fun j hj => ?_
   obtain ⟨h0, o, ho, _⟩ := mem_ready.1 hj
   rw [hall j (hlt j o ho)] at h0; cases h0
  ·obtain ⟨pre, pl, t, pend, hw, hx, hnp⟩ := Oa.pass hc pl hw hx
   have hin : ∀ j, j < ops.size → j ∈ pre := fun j hj => Classical.byContradiction fun hn => by
    have := hw.todo j hj hn
    rw [hall j hj] at this; cases this
   cases pl with
   | done =>
    refine hq t H a w hw.go (hr.env fun x => hx x fun p hp hl => ?_)
    rw [hall _ (hlt _ _ (hw.pis p hp).2.2)] at hl; cases hl
   | yields i p => exact absurd rfl (hnp i p)
   | alt i p r =>
    have h := hw.ok
    simp only [Yv, Bool.and_eq_true] at h
    obtain ⟨o, ho⟩ := Dn h.1.1.2
    exact absurd (hin i (hlt _ _ ho)) (Dc (by simpa using h.1.1.1.2))
   | stop =>
    have h := hw.ok
    simp [Yv] at h
 | succ fuel ih =>
  intro pre pl t H pend listed tx a w hs hf hw hx hr
  have hlt : ∀ j o, ops[j]? = some o → j < ops.size := fun j o h => (Array.getElem?_eq_some_iff.1 h).1
  obtain ⟨pre, pl, t, pend, hw, hx, hnp⟩ := Oa.pass hc pl hw hx
  have hex : ∃ i, i < ops.size ∧ listed.getD i true = false := by
   refine Classical.byContradiction fun hne => ?_
   have : unl listed ops.size = 0 := by
    unfold unl
    rw [List.length_eq_zero_iff, List.filter_eq_nil_iff]
    intro j hj
    have hj' := List.mem_range.1 hj
    cases hv : listed.getD j true with
    | false => exact absurd ⟨j, hj', hv⟩ hne
    | true => simp
   omega
  have hmin : ∃ i, i < ops.size ∧ listed.getD i true = false ∧ ∀ j, j < i → listed.getD j true = true := by
   obtain ⟨i, hi1, hi2⟩ := hex
   induction i using Nat.strongRecOn with
   | _ i ihm =>
    by_cases h : ∀ j, j < i → listed.getD j true = true
    ·exact ⟨i, hi1, hi2, h⟩
    ·obtain ⟨j, hj⟩ := Classical.not_forall.1 h
     obtain ⟨hj1, hj2⟩ := Classical.not_imp.1 hj
     exact ihm j hj1 (by omega) (by simpa using hj2)
  obtain ⟨i0, hi0, hu0, hl0⟩ := hmin
  have hr0 : i0 ∈ Region.ready .any ops listed := mem_ready.2 ⟨hu0, ops[i0], by simp [hi0], fun e he hb => by
   have := hc.back i0 _ (by simp [hi0]) e he hb
   rw [lst (by omega)]; exact hl0 _ this⟩
  refine ⟨fun hn => (by rw [hn] at hr0; cases hr0), fun i hir => ?_⟩
  obtain ⟨hu, o, ho, hall⟩ := mem_ready.1 hir
  have hisz : i < ops.size := hlt i o ho
  have hbnd : ∀ j, j < ops.size → YH o j = true → listed.getD j true = true := fun j hj hb => by
   obtain ⟨e, he, h1, h2⟩ := Jr.1 hb
   have := hall e he h1
   rw [h2, lst (by omega)] at this; exact this
  have hlook : ∀ x ∈ o.looksAt ops, tx.get x = t.get x := fun x hxo => hx x fun p hp hl he => by
   have hpi := (hw.pis p hp).2.2
   by_cases hne : i = p.i
   ·rw [← hne, ho] at hpi
    have e := Option.some.inj hpi
    exact (hc.dst i o x ho (e ▸ he)).2.1 hxo
   ·have := hbnd _ (hlt _ _ hpi) ((((hc.dst p.i p.o x hpi he).2.2 i o ho hne).2 hxo).resolve_right fun h => (hw.pis p hp).2.1 h.1)
    rw [this] at hl; cases hl
  have hopr : ∀ x ∈ o.op.operands, tx.ev x = t.ev x := by
   intro x hx'
   cases x with
   | tmp k' => exact hlook k' (List.mem_append_left _ (List.mem_filterMap.2 ⟨.tmp k', by simpa using hx', rfl⟩))
   | _ => rfl
  have hun := MN hs hisz hu
  have hfu : unl (listed.setIfInBounds i true) ops.size = fuel := by omega
  have hset : ∀ j, ¬ i = j → ∀ d, (listed.setIfInBounds i true).getD j d = listed.getD j d := fun j hj d => getD_set_ne d hj
  have hcl' : ∀ i' o', ops[i']? = some o' → (listed.setIfInBounds i true).getD i' true = true → ∀ e ∈ o'.after, Region.binds .any e = true → (listed.setIfInBounds i true).getD e.on true = true := fun i' o' ho' hl e he hb => by
   by_cases hie : i = e.on
   ·rw [← hie]; exact Xd (by omega) _
   ·rw [hset _ hie]
    by_cases hii : i = i'
    ·subst hii; rw [ho] at ho'; cases ho'
     exact RW (hall e he hb)
    ·rw [hset _ hii] at hl; exact hw.closed i' o' ho' hl e he hb
  have hbr : ∀ j, Yo ops 12 o j = true → listed.getD j true = true := Zi hw.closed 12 o fun e he hb => RW (hall e he hb)
  by_cases hpre : i ∈ pre
  ·
   have hne : i ∉ eff := fun he => by
    have := hw.done i hpre he
    rw [lst (by omega)] at this
    rw [this] at hu; cases hu
   obtain ⟨p, hp, hpi⟩ := hw.has i hpre hne hu
   have hpo : p.o = o := by
    have := (hw.pis p hp).2.2
    rw [hpi, ho] at this
    exact (Option.some.inj this).symm
   obtain ⟨k, hk⟩ : ∃ k, o.dst = some k := by
    cases hd : o.dst with
    | none => exact absurd (hc.pur i o ho hd) hne
    | some k => exact ⟨k, rfl⟩
   have hF := hw.now p hp (by rw [hpi]; exact hu)
   have hg := (hw.gop p hp (by rw [hpi]; exact hu)).1 H hF
   have hgk := (hw.gop p hp (by rw [hpi]; exact hu)).2 k (by rw [hpo]; exact hk)
   rw [hpo] at hg
   obtain ⟨hkn, hself, hoth⟩ := hc.dst i o k ho hk
   have next : ∀ (S S' : Nat → Prop) (w' : World) (v : Value), R1 K tx H a w S → QW [] S w S' w' → Rel S' w' p.d v → wpAnyIn (RF K.rd) 0 K.P .any ops Q fuel (listed.setIfInBounds i true) (a.put o.dst v) w' := by
    intro S S' w' v hr1 hst hrv
    refine ih pre pl t H pend _ (tx.put o.dst p.d) _ w' (by simpa using hs) hfu ⟨hw.top, fun q hq hqn => ?_, fun j hj he => ?_, fun j hj he hlj => hw.has j hj he (by
     by_cases hij : i = j
     ·subst hij; exact hu
     ·rw [hset _ hij] at hlj; exact hlj), hw.pis, (fun q hq hl => hw.gop q hq (by
     by_cases hqi : i = q.i
     ·rw [← hqi]; exact hu
     ·rw [hset _ hqi] at hl; exact hl)), fun q hq hl => ?_, hcl', hw.ok, hw.go⟩ ?_ ⟨S', hr1.pure hst (by rw [hk]; simpa [Xx] using hkn) hrv⟩
    ·have h1 := hw.todo q hq hqn
     by_cases hqi : i = q
     ·exact absurd (hqi ▸ hpre) hqn
     ·rw [hset _ hqi]; exact h1
    ·by_cases hij : i = j
     ·subst hij; exact Xd (by omega) _
     ·rw [hset _ hij]; exact hw.done j hj he
    ·by_cases hqi : i = q.i
     ·rw [← hqi, Xd (by omega)] at hl; cases hl
     ·rw [hset _ hqi] at hl; exact hw.now q hq hl
    ·intro x hxx
     rw [hk]
     by_cases hkx : k = x
     ·subst hkx; rw [Env.get_put_self, hgk]
     ·rw [Env.get_put_ne _ _ hkx]
      refine hx x fun q hq hl he => ?_
      by_cases hqi : i = q.i
      ·have := (hw.pis q hq).2.2
       rw [← hqi, ho] at this
       cases this
       rw [hk] at he; cases he
       exact hkx rfl
      ·exact hxx q hq (by rw [hset _ hqi]; exact hl) he
   obtain ⟨S, hr1⟩ := hr
   have hop : ∀ x ∈ o.op.operands, Rel S w (t.ev x) (a.eval x) := fun x hx' => hopr x hx' ▸ hr1.env.ev x
   unfold wpOpIn
   simp only [ho]
   unfold GOp at hg
   cases hgu : o.guard with
   | none =>
    rw [hgu] at hg
    simp only [Xe hgu a, if_true]
    exact Y6 (hg S w a hr1.wf hr1.own hop) fun S' w' v hst hrv => next S S' w' v hr1 hst hrv
   | some jw =>
    obtain ⟨j, want⟩ := jw
    rw [hgu] at hg
    obtain ⟨k', b, hj, hb, hyes, hno⟩ := hg
    have hv : a.tmps.getD k' undef = b := by
     have := hr1.env k'
     rw [hlook k' (by unfold Oper.looksAt; rw [hgu]; simp [hj]), hb] at this
     exact this.v_eq
    by_cases hwb : b = .bool want
    ·simp only [(XJ hgu hj hv).1 hwb, if_true]
     exact Y6 (hyes hwb S w a hr1.wf hr1.own hop) fun S' w' v hst hrv => next S S' w' v hr1 hst hrv
    ·simp only [(XJ hgu hj hv).2 hwb, Bool.false_eq_true, if_false]
     exact ⟨fun _ _ => trivial, next S S w undef hr1 (QW.refl _ hr1.wf) (by rw [hno hwb]; exact .v _)⟩
  ·
   have hedge : ∀ e ∈ o.after, Region.binds .any e = true → e.on ∈ pre := fun e he hb => by
    have h1 := hall e he hb
    have h2 := hc.back i o ho e he hb
    refine Classical.byContradiction fun hn => ?_
    have h3 := hw.todo e.on (by omega) hn
    rw [← lst (by omega), h1] at h3; cases h3
   obtain ⟨p', o', ho', hpe, hpok, hgo⟩ := (BU hisz hpre (Iq ho hedge) pl [] hw.ok hw.go fun _ => hnp).resolve_left (by simp)
   rw [ho] at ho'; cases ho'
   simp only [QO, QJ.2 hpe, cond_true] at hgo
   have hgu := hc.grd i o ho hpe
   unfold wpOpIn
   simp only [ho, Xe hgu a, if_true]
   refine hgo tx hopr a w hr _ Q ?_
   rintro t' H' a' w' ⟨d, pend', rfl, hpk, hdrop, hgo'⟩ hr'
   refine ih (i :: pre) p' (t.put o.dst d) H' pend' _ (tx.put o.dst d) a' w' (by simpa using hs) hfu ⟨?_, ?_, ?_, ?_, ?_, ?_, ?_, hcl', hpok, hgo'⟩ ?_ hr'
   ·intro j hj q hq e hee hb
    rcases List.mem_cons.1 hj with rfl | hj
    ·rw [ho] at hq; cases hq
     exact List.mem_cons_of_mem _ (hedge e hee hb)
    ·exact List.mem_cons_of_mem _ (hw.top j hj q hq e hee hb)
   ·intro j hj hn
    have hij : ¬ i = j := fun e => hn (e ▸ List.mem_cons_self)
    rw [hset _ hij]
    exact hw.todo j hj fun hm => hn (List.mem_cons_of_mem _ hm)
   ·intro j hj he
    by_cases hij : i = j
    ·subst hij; exact Xd (by omega) _
    ·rw [hset _ hij]
     rcases List.mem_cons.1 hj with h | h
     ·exact absurd h.symm hij
     ·exact hw.done j h he
   ·intro j hj he hlj
    rcases List.mem_cons.1 hj with rfl | hj
    ·exact absurd hpe he
    ·have hij : ¬ i = j := fun e => by subst e; rw [Xd (by omega)] at hlj; cases hlj
     rw [hset _ hij] at hlj
     obtain ⟨q, hq, hqj⟩ := hw.has j hj he hlj
     rcases hdrop.has q hq with h | h
     ·exact ⟨q, h, hqj⟩
     ·rw [← hqj, hbr q.i h] at hlj; cases hlj
   ·intro q hq
    obtain ⟨a1, a2, a3⟩ := hw.pis q (hdrop.sub q hq)
    exact ⟨List.mem_cons_of_mem _ a1, a2, a3⟩
   ·intro q hq hl
    replace hq := hdrop.sub q hq
    obtain ⟨a1, a2, a3⟩ := hw.pis q hq
    have hl' : listed.getD q.i true = false := by
     by_cases hqi : i = q.i
     ·rw [← hqi, Xd (by omega)] at hl; cases hl
     ·rw [hset _ hqi] at hl; exact hl
    have hnb : i ∈ eff → YH o q.i = true → False := fun _ hb => by
     have := hbnd q.i (hlt _ _ a3) hb
     rw [this] at hl'; cases hl'
    exact ⟨fun H' hF' => Uh hc ho hpre hw.top a1 a3 hnb ((hw.gop q hq hl').1 H' hF'), fun k hk => Uj hc ho hpre a1 a3 hk ((hw.gop q hq hl').2 k hk)⟩
   ·intro q hq hl
    replace hq := hdrop.sub q hq
    by_cases hqi : i = q.i
    ·rw [← hqi, Xd (by omega)] at hl; cases hl
    ·rw [hset _ hqi] at hl
     refine hpk.get q hq ?_
     cases hb : Yo ops 12 o q.i with
     | false => rfl
     | true =>
      rw [hbr q.i hb] at hl; cases hl
   ·intro x hxx
    replace hxx : ∀ q ∈ pend, (listed.setIfInBounds i true).getD q.i true = false → q.o.dst ≠ some x := fun q hq hl => by
     rcases hdrop.has q hq with h | h
     ·exact hxx q h hl
     ·have h2 := hbr q.i h
      by_cases hqi : i = q.i
      ·rw [← hqi, Xd (by omega)] at hl; cases hl
      ·rw [hset _ hqi, h2] at hl; cases hl
    cases hd : o.dst with
    | none =>
     show tx.get x = t.get x
     refine hx x fun q hq hl he => ?_
     by_cases hqi : i = q.i
     ·exact absurd (hqi ▸ (hw.pis q hq).2.1) (fun h => h hpe)
     ·exact hxx q hq (by rw [hset _ hqi]; exact hl) he
    | some k =>
     by_cases hkx : k = x
     ·subst hkx; rw [Env.get_put_self, Env.get_put_self]
     ·rw [Env.get_put_ne _ _ hkx, Env.get_put_ne _ _ hkx]
      refine hx x fun q hq hl he => ?_
      by_cases hqi : i = q.i
      ·exact absurd (hqi ▸ (hw.pis q hq).2.1) (fun h => h hpe)
      ·exact hxx q hq (by rw [hset _ hqi]; exact hl) he
theorem I6 {t : Env} {H : Qd} {id : Nat} {Ψ : Exit → Env → Qd → Prop} (eff : List Nat) (pl : LN) (hmix : K.P.follows .mixedOrders = true) (hc : (Dv ops K.n eff && Yv ops eff pl [] []) = true)
  (h : Run K ops eff (Ψ .normal) pl t H []) : Sim K (.region id ops true) t H Ψ := by
 intro a w ⟨S, hr⟩
 refine wpIn_region_any hmix ?_
 rw [Bool.and_eq_true] at hc
 have hA := Jc.of hc.1
 have hst : QW [] S w S { w with drawn := w.drawn + 1 } := ⟨rfl, rfl, rfl, Nat.le_refl _, fun _ _ _ => rfl, fun _ h => h, fun _ h => .inl h, hr.wf⟩
 have hfalse : ∀ (d : Bool) (j : Nat), j < ops.size → (Array.replicate ops.size false).getD j d = false := fun d j hj => by simp [Array.getD_eq_getD_getElem?, hj]
 have hlt : ∀ j o, ops[j]? = some o → j < ops.size := fun j o h => (Array.getElem?_eq_some_iff.1 h).1
 refine Tm hA (fun t' H' a' w' hn hr' => ⟨t', H', hn, hr'⟩) ops.size [] pl t H [] _ t a _ (by simp) ?_
  ⟨by simp, fun i hi _ => hfalse _ i hi, by simp, by simp, by simp, by simp, by simp, fun i o ho hl => ?_, hc.2, h⟩ (fun x _ => rfl)
  ⟨S, hr.size, hr.defers.step (hst.mono hr.wf (by simp)) hst.objs0 hst.size, hr.step.trans hst (by simp), hr.own.step hst hr.wf (by simp) (by simp), hr.mine, hr.env.mono (hst.mono hr.wf (by simp))⟩
 ·unfold unl
  rw [List.filter_eq_self.2]
  ·simp
  ·intro j hj
   have := List.mem_range.1 hj
   simp [Array.getD_eq_getD_getElem?, this]
 ·rw [hfalse _ i (hlt _ _ ho)] at hl; cases hl
section
variable {t : Env} {H : Qd} {kd i : Nat} {op : Op} {ty tp : TypeId} {pos : String} {aft : Array Edge} {pend : List Xb} {d : T} {x y : Operand} {rest : Env → Qd → List Xb → Prop}
theorem cm {id : Nat} {Ψ : Exit → Env → Qd → Prop} (eff : List Nat) (pl : LN) (h : Run K ops eff (Ψ .normal) pl t H []) (hmix : K.P.follows .mixedOrders = true := by kernel_rfl) (hc : (Dv ops K.n eff && Yv ops eff pl [] []) = true := by kernel_rfl) : Sim K (.region id ops true) t H Ψ := I6 eff pl hmix hc h
theorem m_F {F : Qd → Prop} (hp : ∀ H', F H' → POp K.P t H' ⟨some kd, op, tp, pos, aft, none⟩ d) (hF : F H) (h : rest ((kd, d) :: t) H (⟨i, ⟨some kd, op, tp, pos, aft, none⟩, d, F⟩ :: pend)) (he : QZ eff i = false := by rfl) : QO K ops eff i ⟨some kd, op, tp, pos, aft, none⟩ rest t H pend := by
 unfold QO
 rw [he, cond_false]
 exact ⟨d, F, fun H' h' => hp H' h', hF, h⟩
theorem m_ (hp : ∀ H', POp K.P t H' ⟨some kd, op, tp, pos, aft, none⟩ d) (h : rest ((kd, d) :: t) H (⟨i, ⟨some kd, op, tp, pos, aft, none⟩, d, fun _ => True⟩ :: pend)) (he : QZ eff i = false := by rfl) : QO K ops eff i ⟨some kd, op, tp, pos, aft, none⟩ rest t H pend := m_F (fun H' _ => hp H') trivial h he
theorem Gs {b o m : Nat} {ty0 : TypeId} {cells : List T} (h : rest ((kd, d) :: t) H (⟨i, ⟨some kd, .load ty x, tp, pos, aft, none⟩, d, fun H => (b, (⟨ty0, cells, m⟩ : Blk)) ∈ H⟩ :: pend)) (hx : t.ev x = .v (.pointer (some ⟨b, o, none⟩)) := by exact zl) (hm : (b, (⟨ty0, cells, m⟩ : Blk)) ∈ H := by exact zm) (hd : cells[o]? = some d := by rfl)
  (hk : QP K.P ty = true := by rfl) (he : QZ eff i = false := by rfl) : QO K ops eff i ⟨some kd, .load ty x, tp, pos, aft, none⟩ rest t H pend := m_F (F := fun H => (b, (⟨ty0, cells, m⟩ : Blk)) ∈ H) (fun _ h' => Qj hx h' hd hk) hm h he
theorem N3 {b o n m : Nat} {ty0 : TypeId} {cells cs : List T} [hk : VN K.P ty n] (h : rest ((kd, .agg cs) :: t) H (⟨i, ⟨some kd, .load ty x, tp, pos, aft, none⟩, .agg cs, fun H => (b, (⟨ty0, cells, m⟩ : Blk)) ∈ H⟩ :: pend)) (hx : t.ev x = .v (.pointer (some ⟨b, o, none⟩)) := by exact zl) (hm : (b, (⟨ty0, cells, m⟩ : Blk)) ∈ H := by exact zm) (hc : Xv cells o n cs := by exact zt)
  (he : QZ eff i = false := by rfl) : QO K ops eff i ⟨some kd, .load ty x, tp, pos, aft, none⟩ rest t H pend := m_F (F := fun H => (b, (⟨ty0, cells, m⟩ : Blk)) ∈ H) (fun _ h' => Xc hx h' hc) hm h he
theorem LR {Hs Hr : Qd} {f : FuncId} {xs : Array Operand} {ats : Array TypeId} {args : List T} {Φ : T → Qd → Prop} (hf : FnH K.P f args Hs Φ) (hp : H.Perm (Hs ++ Hr))
  (hn : ∀ r H', Φ r H' → XR ops ⟨some kd, .call ⟨.value (.func f), xs, ats⟩, tp, pos, aft, none⟩ (H' ++ Hr) pend ∧ rest ((kd, r) :: t) (H' ++ Hr) pend) (hc : QE K.P f = true := by rfl) (ha' : EvL t xs.toList args := by exact ze) (hd : Nat.blt kd K.n = true := by rfl) (he : QZ eff i = true := by rfl) :
  QO K ops eff i ⟨some kd, .call ⟨.value (.func f), xs, ats⟩, tp, pos, aft, none⟩ rest t H pend :=
 IX (fun _ h1 => YU (Hr := Hr) hf hp hc (ha'.trans fun x hx => h1 x (by simp [Op.operands, Call.operands]; exact .inr (by simpa using hx))) (by simpa [Xx] using hd) fun r H' hr' => ⟨_, rfl, hn r H' hr'⟩) he
end
end
end Go.Cap
namespace Go.Proofs.YtjbokbikkcfjjaaGreat
open Go.Cap
attribute [local irreducible] POp Qf Pw EOp Sim FnH T.gp
section
variable {P : Nat → En → Prop} {g : Gp} {τ l u : Nat}
theorem GB.five (h : GB P g τ l u) : 5 * l ≤ u := by have := h.fuel; omega
theorem Oj {α : Type} (f : α → Nat) : ∀ (l : List α) (i : Nat) (h : i < l.length), f l[i] ≤ (l.map f).sum
 | a :: l, 0, _ => by simp
 | a :: l, i + 1, h => by
  have := Oj f l i (by simpa using h)
  simp only [List.map_cons, List.sum_cons, List.getElem_cons_succ]; omega
theorem GB.pot (h : GB P g τ l u) {i : Nat} (hi : i < 5) : 5 * l + Go.Proofs.YtjbokbikkcfjjaaGreat.pot (g.k i).N ≤ u := by
 have hil : i < g.ks.length := by rw [h.ks]; exact hi
 have := Oj (fun K => Go.Proofs.YtjbokbikkcfjjaaGreat.pot K.N) g.ks i hil
 have hk : g.ks[i] = g.k i := by unfold Gp.k; rw [List.getD_eq_getElem?_getD, List.getElem?_eq_getElem hil, Option.getD_some]
 rw [hk] at this
 have hf := h.fuel
 omega
theorem GB.ok (hP : PK P) (h : GB P g τ l u) (hu : u ≤ 25000) {i : Nat} (hi : i < 5) : E3 (g.k i) := by
 have h5 := h.five
 have ht := h.tau
 have hk := h.ki i hi
 have hn := h.nb i hi
 exact ⟨hk.d, hn.sz hP (by omega) (by omega), by have := hn.rec_ hP (by omega); omega, hk.n0, by have := hk.n1; omega⟩
theorem Ue.sz (hP : PK P) {n n' : Nd} {out : List Ms} {τ' c b : Nat} (h : Ue P n n' out τ' l c b) (hl : 5 * l + Go.Proofs.YtjbokbikkcfjjaaGreat.pot n + c ≤ 25000) (ht : τ' ≤ 100000) : Sz n' ∧ (Qq n' 0).length ≤ 524100 := by
 obtain ⟨d, h1, h2, _⟩ := h
 exact ⟨h1.sz hP ht (by omega), h1.rec_ hP (by omega)⟩
theorem GB.tick_fn (hP : PK P) (h : GB P g τ l u) (hu : u + 1 ≤ 25000) {i : Nat} (hi : i < 5) : FnP Tryz.prog 76 [nd (g.k i).N] (fun r => r = .tup [nd (Xw (g.k i).N).1, mss (Xw (g.k i).N).2]) := by
 have h5 := h.five
 have ht := h.tau
 have hn := h.nb i hi
 have hp := h.pot hi
 have hlen := hn.len
 unfold Go.Proofs.YtjbokbikkcfjjaaGreat.pot at hp
 exact Go.Proofs.YtjbokbikkcfjjaaGreat.tick_fn (hn.bd hP.toPO (by omega)) (by omega) hn.term0 (by have := hn.term1; omega) hn.wait0 (by have := hn.wait0; omega) (fun i => by have := hn.next1 i; omega)
theorem GB.take_fn (hP : PK P) (h : GB P g τ l u) (hu : u ≤ 25000) {i : Nat} (hi : i < 5) {m : Ms} (hm : MB P m τ l) : FnP Tryz.prog 100 [nd (g.k i).N, ms m] (fun r => r = .tup [nd (Xn (g.k i).N m).1, mss (Xn (g.k i).N m).2]) := by
 have h5 := h.five
 have hn := h.nb i hi
 have hlen := hn.len
 have h1 := hm.idx0
 have h2 := hm.idx1
 have h3 := hm.len
 exact Go.Proofs.YtjbokbikkcfjjaaGreat.take_fn (hn.bd hP.toPO (by omega)) (hn.nbd (by omega)) (.inr ⟨by omega, by omega, by omega⟩)
end
theorem OY {bg : Nat} {g : Gp} {a : Nat → Ad} {bm : Nat} {es : List (Value × T × Nat)} {clk : Nat} {W : Qd} {wv : Value} {i : Nat} {t : Nd} {l : List Ms} (hi : i < 5) (hks : g.ks.length = 5) (hA : E4 g.aw es) (hO : OM g.way wv W) (hl : g.way.length + l.length ≤ 1000000) :
  FnH Tryz.prog 48 [pW bg, ei (QH (g.k i) t 0).2, if (QH (g.k i) t 0).2 = 0 then mss l else .sl true []] (gH bg g.conf a bm es clk W wv (upA g.k i (QH (g.k i) t 0).1)) (fun r H' => r = .tup [] ∧ IsG bg (didG g i t l) H') := by
 obtain ⟨⟨K', e⟩, hk⟩ : ∃ x, QH (g.k i) t 0 = x := ⟨_, rfl⟩
 have hG1 : IsG bg { g with ks := g.ks.set i K' } (gH bg g.conf a bm es clk W wv (upA g.k i K')) := by
  refine ⟨a, bm, es, clk, W, wv, hA, hO, ?_⟩
  unfold gH
  rw [EB a (upA g.k i K') (Gp.k { g with ks := g.ks.set i K' }) (fun j hj => ?_)]
  have := Gp.k_set (g := g) (i := i) (j := j) (K := K') (w := g.way) (by rw [hks]; exact hj)
  rw [this]
  unfold upA
  by_cases hij : i = j
  ·subst hij; simp
  ·rw [if_neg hij, if_neg (fun e => hij e.symm)]
 rw [hk]
 simp only
 by_cases he : e = 0
 ·have hs := Ev bg _ _ e l (by simpa using hl) hG1
  rw [if_pos he] at hs ⊢
  refine hs.mono fun r H' h => ?_
  unfold didG
  rw [hk]
  simp only
  rw [if_pos he]
  exact h
 ·have hs := Ev bg _ _ e [] (by simp; omega) hG1
  rw [if_neg he] at hs ⊢
  refine (FnH.args hs (LeL.cons (Le.refl _) (LeL.cons (Le.refl _) (LeL.cons (Le.full _ _) LeL.nil)))).mono fun r H' h => ?_
  unfold didG
  rw [hk]
  simp only
  rw [if_neg he]
  exact h
theorem Et {P : Nat → En → Prop} {τ l u : Nat} (hP : PK P) (bg : Nat) (g : Gp) (H : Qd) (i : Int) (h : GB P g τ l u) (hu : u + 1 ≤ 25000) (hG : IsG bg g H) : FnH Tryz.prog 25 [pW bg, ei i] H (fun r H' => r = .tup [] ∧ IsG bg (ZC g i) H') := by
 have hT := VF bg g H i hG
 obtain ⟨a, bm, es, clk, W, wv, hA, hO, rfl⟩ := hG
 obtain ⟨q, iq, hq⟩ := BH (b := Q9 g i)
 rw [hq] at hT
 refine fe Tryz.func25 fun S0 w0 => ?_
 show Sim _ _ [(0, pW bg), (1, ei i)] ((bg, ⟨tG, gC g.conf a bm wv, 13⟩) :: (bm, ⟨.map es clk, [], 0⟩) :: (W ++ gM a g.k)) _
 refine zC ?_
 refine cr <| s_ Qa <| s_ Qa ?_
 refine QN hT (fun r H' ⟨hr1, hr2⟩ => ?_)
 subst hr1 hr2
 refine zC ?_
 refine ci (p := q) ?_ ?_
 ·intro hq'
  have hth : Q9 g i = true := by rw [hq]; exact decide_eq_true hq'
  have hi := Xk hth
  obtain ⟨h5, hc⟩ := Q3 hi
  have hw := (h.nb _ h5).tick hP.toPO (by have := h.tau; omega)
  obtain ⟨hsz, hrc⟩ := hw.sz hP (by have := h.pot h5; omega) (by have := h.tau; omega)
  have hk := CU (a i.toNat).bk (a i.toNat).bj (a i.toNat).bd (g.k i.toNat) (h.tick_fn hP hu h5) (h.ok hP (by omega) h5) hsz (by omega)
  have hck := EC (conf := g.conf) (a := a) (bm := bm) (wv := wv) hi
  have hperm := J4 (x := (bg, ⟨tG, gC g.conf a bm wv, 13⟩)) (y := (bm, ⟨.map es clk, [], 0⟩)) (W := W) (Vi a g.k h5)
  have hout : (Xw (g.k i.toNat).N).2.length ≤ 100000 := by
   obtain ⟨d, _, h2, _, h4⟩ := hw.go
   have := h.pot h5; omega
  have hs := OY (bg := bg) (a := a) (bm := bm) (clk := clk) (t := (Xw (g.k i.toNat).N).1) (l := (Xw (g.k i.toNat).N).2) h5 h.ks hA hO (by have := h.many; have := h.five; omega)
  rw [show ZC g i = didG g i.toNat (Xw (g.k i.toNat).N).1 (Xw (g.k i.toNat).N).2 by unfold ZC; rw [if_pos hth]]
  refine zC ?_
  refine cr <| s_ Qa <| s_ Qa <| s_ Qe <| s_ Qc <| s_ Yx <| s_ Qc <| s_ (Qj (hd := by first | rfl | assumption)) ?_
  refine QV hk hperm (fun r H' ⟨hr1, hr2⟩ => ?_)
  subst hr1 hr2
  refine Qy (J4 (x := (bg, ⟨tG, gC g.conf a bm wv, 13⟩)) (y := (bm, ⟨.map es clk, [], 0⟩)) (W := W) (M := gM a (upA g.k i.toNat (QH (g.k i.toNat) (Xw (g.k i.toNat).N).1 0).1)) (A := mH (a i.toNat) (QH (g.k i.toNat) (Xw (g.k i.toNat).N).1 0).1) (B := gO a g.k i.toNat) ?_).symm ?_
  ·have := (Mi a a g.k (upA g.k i.toNat (QH (g.k i.toNat) (Xw (g.k i.toNat).N).1 0).1) h5 (fun j _ hj => ⟨rfl, by unfold upA; rw [if_neg hj]⟩)).symm
   simpa [upA] using this
  refine s_ Qa <| s_ QD <| s_ QD <| s_ Qb <| s_ Qb <| zC ?_
  refine cr <| s_ Qa <| s_ Qa <| s_ Qa ?_
  refine QN hs (fun r H' ⟨hr1, hr2⟩ => ?_)
  subst hr1
  refine zC ?_
  exact rhn kR ⟨rfl, hr2⟩ (Le.refl _)
 ·intro hq'
  have hth : ¬ Q9 g i = true := by rw [hq]; simpa using hq'
  refine zC ?_
  refine rhn kR ⟨rfl, ?_⟩ (Le.refl _)
  unfold ZC
  rw [if_neg hth]
  exact ⟨a, bm, es, clk, W, wv, hA, hO, rfl⟩
theorem Tv {z x y : Nat × Blk} {W M A B : Qd} (h : M.Perm (A ++ B)) : (z :: x :: y :: (W ++ M)).Perm (A ++ (z :: x :: y :: (W ++ B))) :=
 ((J4 (x := x) (y := y) (W := W) h).cons z).trans (List.perm_middle (a := z) (l₁ := A)).symm
theorem Eu {P : Nat → En → Prop} {τ l u : Nat} (hP : PK P) (bg : Nat) (g : Gp) (H : Qd) (m : Ms) (hm : MB P m τ l) (h : GB P g τ l u) (hu : u ≤ 25000) (hG : IsG bg g H) : FnH Tryz.prog 35 [pW bg, ms m] H (fun r H' => r = .tup [] ∧ IsG bg (X3 g m) H') := by
 have hT := VF bg g H m.to hG
 obtain ⟨a, bm, es, clk, W, wv, hA, hO, rfl⟩ := hG
 obtain ⟨q, iq, hq⟩ := BH (b := Q9 g m.to)
 rw [hq] at hT
 refine fe Tryz.func35 fun S0 w0 => ?_
 show Sim _ _ [(0, pW bg), (1, T.agg (msC m (ZM m.entries)))] ((bg, ⟨tG, gC g.conf a bm wv, 13⟩) :: (bm, ⟨.map es clk, [], 0⟩) :: (W ++ gM a g.k)) _
 refine zC ?_
 apply cr
 refine X1 fun b3 _ => ?_
 refine zC ?_
 refine cr <| s_ Qa <| s_ Qc <| s_ Qj ?_
 refine QV (Hr := [_]) hT (List.perm_append_comm (l₁ := [_])) (fun r H' ⟨hr1, hr2⟩ => ?_)
 subst hr1 hr2
 refine Qy (List.perm_append_comm (l₂ := [_])) ?_
 show Qf _ _ _ _ _ ((b3, ⟨tM, msC m (ZM m.entries), 11⟩) :: (bg, ⟨tG, gC g.conf a bm wv, 13⟩) :: (bm, ⟨.map es clk, [], 0⟩) :: (W ++ gM a g.k)) _
 refine zC ?_
 refine ci (p := q) ?_ ?_
 ·intro hq'
  have hth : Q9 g m.to = true := by rw [hq]; exact decide_eq_true hq'
  have hi := Xk hth
  obtain ⟨h5, hc⟩ := Q3 hi
  have hp : 0 ≤ m.to ∧ m.to < 5 := hi
  have hw := (h.nb _ h5).take hP.toPO hm (by have := h.tau; omega)
  obtain ⟨hsz, hrc⟩ := hw.sz hP (by have := h.pot h5; omega) (by have := h.tau; omega)
  have hk := CV (a m.to.toNat).bk (a m.to.toNat).bj (a m.to.toNat).bd (g.k m.to.toNat) m (h.take_fn hP hu h5 hm) (h.ok hP (by omega) h5) hsz (by omega)
  have hck := EC (conf := g.conf) (a := a) (bm := bm) (wv := wv) hi
  have hperm := Tv (z := (b3, ⟨tM, msC m (ZM m.entries), 11⟩)) (x := (bg, ⟨tG, gC g.conf a bm wv, 13⟩)) (y := (bm, ⟨.map es clk, [], 0⟩)) (W := W) (Vi a g.k h5)
  have hout : (Xn (g.k m.to.toNat).N m).2.length ≤ 100000 := by
   obtain ⟨d, _, h2, _, h4⟩ := hw.go
   have := h.pot h5; omega
  have hs := OY (bg := bg) (a := a) (bm := bm) (clk := clk) (t := (Xn (g.k m.to.toNat).N m).1) (l := (Xn (g.k m.to.toNat).N m).2) h5 h.ks hA hO (by have := h.many; have := h.five; omega)
  rw [show X3 g m = didG g m.to.toNat (Xn (g.k m.to.toNat).N m).1 (Xn (g.k m.to.toNat).N m).2 by unfold X3; rw [if_pos hth]]
  refine zC ?_
  refine cm [9] (.yields 0 (.yields 1 (.yields 2 (.yields 3 (.yields 4 (.yields 5 (.yields 6 (.yields 7 (.yields 8 (.alt 9 (.yields 10 (.yields 11 (.yields 12 (.yields 13 (.yields 14 .done))))) .stop)))))))))) <| m_ (fun _ => Qa) <| m_ (fun _ => Qc) <| Gs ?_
  refine m_ (fun _ => Qe) <| m_ (fun _ => Qc) <| m_ (fun _ => Yx) <| m_ (fun _ => Qc) <| Gs (hd := by first | rfl | assumption) ?_
  refine N3 ?_
  refine ⟨?_, trivial⟩
  refine LR hk hperm (fun r H' ⟨hr1, hr2⟩ => ⟨?_, ?_⟩)
  ·subst hr1 hr2; exact zd
  subst hr1 hr2
  refine m_ (fun _ => Qa) <| m_ (fun _ => QD) <| m_ (fun _ => QD) <| m_ (fun _ => Qb) <| m_ (fun _ => Qb) <| zC ?_
  refine XS (Tv (z := (b3, ⟨tM, msC m (ZM m.entries), 11⟩)) (x := (bg, ⟨tG, gC g.conf a bm wv, 13⟩)) (y := (bm, ⟨.map es clk, [], 0⟩)) (W := W) (M := gM a (upA g.k m.to.toNat (QH (g.k m.to.toNat) (Xn (g.k m.to.toNat).N m).1 0).1)) (A := mH (a m.to.toNat) (QH (g.k m.to.toNat) (Xn (g.k m.to.toNat).N m).1 0).1) (B := gO a g.k m.to.toNat) ?_).symm ?_
  ·have := (Mi a a g.k (upA g.k m.to.toNat (QH (g.k m.to.toNat) (Xn (g.k m.to.toNat).N m).1 0).1) h5 (fun j _ hj => ⟨rfl, by unfold upA; rw [if_neg hj]⟩)).symm
   simpa [upA] using this
  refine zC ?_
  refine cr <| s_ Qa <| s_ Qa <| s_ Qa ?_
  refine QV (Hr := [_]) hs (List.perm_append_comm (l₁ := [_])) (fun r H' ⟨hr1, hr2⟩ => ?_)
  subst hr1
  refine zC ?_
  exact Py (List.perm_append_comm (l₂ := [_])) (.skip _ _ _ kR) ⟨rfl, hr2⟩ (Le.refl _)
 ·intro hq'
  have hth : ¬ Q9 g m.to = true := by rw [hq]; simpa using hq'
  refine zC ?_
  refine rhn (.skip _ _ _ kR) ⟨rfl, ?_⟩ (Le.refl _)
  unfold X3
  rw [if_neg hth]
  exact ⟨a, bm, es, clk, W, wv, hA, hO, rfl⟩
end Go.Proofs.YtjbokbikkcfjjaaGreat
namespace Go.Proofs.YtjbokbikkcfjjaaGreat
open Go.Cap
structure Gn where
 ns : List Nd
 aw : List Bool
 way : List Ms
def Gn.n (g : Gn) (i : Nat) : Nd := g.ns.getD i default
def thN (g : Gn) (i : Int) : Bool := decide (isI i) && !(g.aw.getD i.toNat false)
def GW (g : Gn) (i : Nat) (t : Nd) (l : List Ms) : Gn := { g with ns := g.ns.set i t, way := g.way ++ l }
def Of (g : Gn) (i : Int) : Gn := if thN g i then GW g i.toNat (Xw (g.n i.toNat)).1 (Xw (g.n i.toNat)).2 else g
def U0 (g : Gn) (m : Ms) : Gn := if thN g m.to then GW g m.to.toNat (Xn (g.n m.to.toNat) m).1 (Xn (g.n m.to.toNat) m).2 else g
def Wo (g : Gn) (k : Nat) : Gn := (List.range k).foldl (fun g (i : Nat) => Of g (i : Int)) g
def Gf (g : Gn) : Gn := Wo (g.way.foldl U0 { g with way := [] }) 5
def BP (g : Gn) : Nat → Gn
 | 0 => g
 | n + 1 => Gf (BP g n)
def CH (conf : Int) : Gn := ⟨(List.range 5).map fun (i : Nat) => Xl (i : Int) conf, [false, false, false, false, false], []⟩
def prG (g : Gp) : Gn := ⟨g.ks.map (·.N), g.aw, g.way⟩
structure Lq (n0 : Nd) (K : Kp) : Prop where
 live : Ju n0 524100 K
 left : K.d.left = 0
 room : K.d.room = 1048576
def GL (conf : Int) (g : Gp) : Prop := ∀ i : Nat, i < 5 → Lq (Xl i conf) (g.k i)
section
variable {P : Nat → En → Prop} {g : Gp} {τ l u : Nat} {conf : Int}
theorem Wx (g : Gp) (i : Nat) (hi : i < g.ks.length) : (prG g).n i = (g.k i).N := by
 unfold Gn.n prG Gp.k
 simp [List.getD_eq_getElem?_getD, hi]
theorem GL.there (h : GL conf g) (i : Int) : Q9 g i = thN (prG g) i := by
 unfold Q9 thN
 by_cases hi : isI i
 ·have := (h _ (Q3 hi).1).live.dead
  rw [this]; simp [prG]
 ·simp [hi]
theorem Lq.keep {n0 : Nd} {K : Kp} (h : Lq n0 K) {t : Nd} (hid : t.id = n0.id) (hsz : Sz t) (hr : (Qq t 0).length ≤ 524100) : (QH K t 0).2 = 0 ∧ Lq n0 (QH K t 0).1 ∧ (QH K t 0).1.N = t := by
 obtain ⟨K', h1, h2, h3, h4, h5⟩ := RX h.live h.left (by rw [h.room]; omega) hid hsz hr (by omega)
 rw [h1]
 exact ⟨rfl, ⟨h2, h4, by rw [h5]; exact h.room⟩, h3⟩
theorem GL.set (h : GL conf g) (hks : g.ks.length = 5) {i : Nat} {K : Kp} (w : List Ms) (hK : Lq (Xl i conf) K) : GL conf { g with ks := g.ks.set i K, way := w } := by
 intro j hj
 rw [Gp.k_set (by rw [hks]; exact hj)]
 split
 ·rename_i e; subst e; exact hK
 ·exact h j hj
theorem GL.did (h : GL conf g) (hks : g.ks.length = 5) {i : Nat} (hi : i < 5) {t : Nd} {out : List Ms} (hid : t.id = i) (hsz : Sz t) (hr : (Qq t 0).length ≤ 524100) : GL conf (didG g i t out) ∧ prG (didG g i t out) = GW (prG g) i t out := by
 obtain ⟨h1, h2, h3⟩ := (h i hi).keep (t := t) (by rw [hid]; rfl) hsz hr
 unfold didG
 rw [if_pos h1]
 refine ⟨h.set hks _ h2, ?_⟩
 unfold prG GW
 simp only [List.map_set, h3]
theorem GL.tick (hP : PK P) (h : GL conf g) (hb : GB P g τ l u) (hu : u + 1 ≤ 25000) (i : Int) : GL conf (ZC g i) ∧ prG (ZC g i) = Of (prG g) i := by
 unfold ZC Of
 rw [h.there]
 split
 ·rename_i hth
  have hth' : Q9 g i = true := by rw [h.there]; exact hth
  obtain ⟨h5, _⟩ := Q3 (Xk hth')
  have hw := (hb.nb _ h5).tick hP.toPO (by have := hb.tau; omega)
  obtain ⟨hsz, hrc⟩ := hw.sz hP (by have := hb.pot h5; omega) (by have := hb.tau; omega)
  rw [Wx g _ (by rw [hb.ks]; exact h5)]
  exact h.did hb.ks h5 ((JY _).trans (hb.id _ h5)) hsz hrc
 ·exact ⟨h, rfl⟩
theorem GL.take (hP : PK P) (h : GL conf g) (hb : GB P g τ l u) (hu : u ≤ 25000) {m : Ms} (hm : MB P m τ l) : GL conf (X3 g m) ∧ prG (X3 g m) = U0 (prG g) m := by
 unfold X3 U0
 rw [h.there]
 split
 ·rename_i hth
  have hth' : Q9 g m.to = true := by rw [h.there]; exact hth
  obtain ⟨h5, _⟩ := Q3 (Xk hth')
  have hw := (hb.nb _ h5).take hP.toPO hm (by have := hb.tau; omega)
  obtain ⟨hsz, hrc⟩ := hw.sz hP (by have := hb.pot h5; omega) (by have := hb.tau; omega)
  rw [Wx g _ (by rw [hb.ks]; exact h5)]
  exact h.did hb.ks h5 ((Je _ _).trans (hb.id _ h5)) hsz hrc
 ·exact ⟨h, rfl⟩
theorem GL.takes (hP : PK P) (hu : u ≤ 25000) : ∀ (ms : List Ms) {g : Gp} {l : Nat}, GL conf g → GB P g τ l u → (∀ m ∈ ms, MB P m τ l) → g.way.length + ms.length ≤ 5 * (u + l) → GL conf (ms.foldl X3 g) ∧ prG (ms.foldl X3 g) = ms.foldl U0 (prG g)
 | [], g, l, h, _, _, _ => ⟨h, rfl⟩
 | m :: ms, g, l, h, hb, hm, hw => by
  rw [List.length_cons] at hw
  have ht := hb.tau
  obtain ⟨h1, h2⟩ := h.take hP hb hu (hm m List.mem_cons_self)
  obtain ⟨l1, h3, h4, h5⟩ := hb.take hP.toPO (by omega) (hm m List.mem_cons_self) (by omega)
  obtain ⟨h6, h7⟩ := GL.takes hP hu ms h1 h3 (fun x hx => (hm x (List.mem_cons_of_mem _ hx)).le (Nat.le_refl _) h4) (by omega)
  exact ⟨h6, by rw [List.foldl_cons, h7, h2, List.foldl_cons]⟩
theorem DF (g : Gn) (k : Nat) : Wo g (k + 1) = Of (Wo g k) (k : Int) := by
 unfold Wo
 rw [List.range_succ, List.foldl_append]
 rfl
theorem GL.ticks (hP : PK P) (h : GL conf g) (hb : GB P g τ l u) : ∀ k : Nat, u + k ≤ 25000 → GL conf (Z2 g k) ∧ prG (Z2 g k) = Wo (prG g) k
 | 0, _ => ⟨h, rfl⟩
 | k + 1, hu => by
  have ht := hb.tau
  obtain ⟨h1, h2⟩ := GL.ticks hP h hb k (by omega)
  obtain ⟨l1, h3, _⟩ := hb.ticks hP.toPO k (by omega)
  obtain ⟨h4, h5⟩ := h1.tick hP h3 (by omega) (k : Int)
  rw [JA, DF, h5, h2]
  exact ⟨h4, rfl⟩
theorem GL.out (h : GL conf g) (w : List Ms) : GL conf { g with way := w } := h
theorem GL.round (hP : PK P) (h : GL conf g) (hb : GB P g τ l u) (hu : u + 5 ≤ 25000) : GL conf (YT g) ∧ prG (YT g) = Gf (prG g) := by
 have ht := hb.tau
 have hb0 := hb.out (w := []) (by simp) (by simp)
 obtain ⟨h1, h2⟩ := GL.takes hP (by omega) g.way (h.out []) hb0 hb.way (by simpa using hb.many)
 obtain ⟨l1, h3, _⟩ := GB.takes hP.toPO (by omega) g.way hb0 hb.way (by simpa using hb.many)
 obtain ⟨h4, h5⟩ := h1.ticks hP h3 5 (by omega)
 unfold YT Gf
 exact ⟨h4, by rw [h5, h2]; rfl⟩
theorem GL.calm (hP : PK P) (h : GL conf g) (hb : GB P g τ l u) : ∀ k : Nat, u + 5 * k ≤ 25000 → GL conf (JQ g k) ∧ prG (JQ g k) = BP (prG g) k
 | 0, _ => ⟨h, rfl⟩
 | k + 1, hu => by
  have ht := hb.tau
  obtain ⟨h1, h2⟩ := GL.calm hP h hb k (by omega)
  obtain ⟨l1, h3, _⟩ := hb.calm hP.toPO k (by omega)
  obtain ⟨h4, h5⟩ := h1.round hP h3 (by omega)
  exact ⟨h4, by show prG (YT (JQ g k)) = _; rw [h5, h2]; rfl⟩
end
theorem AY : ((BP (CH 7) 30).n 0).role = 2 := by decide +kernel
end Go.Proofs.YtjbokbikkcfjjaaGreat
namespace Go.Proofs.YtjbokbikkcfjjaaGreat
open Raft Go.Cap
structure GI (g : Gn) (E : List Ms) : Prop where
 ns : g.ns.length = 5
 aw : g.aw.length = 5
 h : ∃ (H : Xm) (L : Nat → List En), Qo H ∧ (∀ i, i < 5 → NI H i (g.n i) (L i)) ∧ ∀ m, m ∈ g.way ∨ m ∈ E → MI H m
def Wt (g : Gn) (i : Nat) (x : Nd) (w : List Ms) : Gn := { g with ns := g.ns.set i x, way := w }
theorem MP {g : Gn} {i j : Nat} {x : Nd} {w : List Ms} (hj : j < g.ns.length) : (Wt g i x w).n j = if i = j then x else g.n j := by
 unfold Wt Gn.n
 simp only [List.getD_eq_getElem?_getD, List.getElem?_set]
 by_cases h : i = j
 ·subst h; simp [hj]
 ·simp [h]
theorem GI.go {g : Gn} {E E' : List Ms} (h : GI g E) {i : Nat} (hi : i < 5) {x : Nd} {out w : List Ms}
  (hg : ∀ H l, Qo H → NI H i (g.n i) l → (∀ m, m ∈ g.way ∨ m ∈ E → MI H m) → V5 1 i H x out) (hw : ∀ m, m ∈ w ∨ m ∈ E' → (m ∈ g.way ∨ m ∈ E) ∨ m ∈ out) : GI (Wt g i x w) E' := by
 obtain ⟨h1, h2, H, L, hF, hN, hM⟩ := h
 obtain ⟨H', l', hD, hF', hN', hO⟩ := hg H (L i) hF (hN i hi) hM
 refine ⟨by show (g.ns.set i x).length = 5; rw [List.length_set]; exact h1, h2, H', fun j => if j = i then l' else L j, hF', ?_, ?_⟩
 ·intro j hj
  rw [MP (by rw [h1]; exact hj)]
  by_cases hij : i = j
  ·subst hij
   simp only [if_true]
   exact hN'
  ·simp only [if_neg hij, if_neg (fun e : j = i => hij e.symm)]
   exact hD.oth j _ _ (fun e => hij e.symm) (hN j hj)
 ·intro m hm
  rcases hw m hm with h | h
  ·exact (hM m h).ext hF hD.ext
  ·exact hO m h
theorem IU {g : Gn} {i : Int} (h : thN g i = true) : i.toNat < 5 ∧ isI i := by
 unfold thN at h
 rw [Bool.and_eq_true, decide_eq_true_eq] at h
 exact ⟨(Q3 h.1).1, h.1⟩
theorem O3 (g : Gn) (i : Nat) (t : Nd) (l : List Ms) : GW g i t l = Wt g i t (g.way ++ l) := rfl
theorem GI.take {g : Gn} {E : List Ms} (h : GI g E) {m : Ms} (hm : m ∈ g.way ∨ m ∈ E) : GI (U0 g m) E := by
 unfold U0
 split
 ·rename_i ht
  obtain ⟨h5, _⟩ := IU ht
  rw [O3]
  refine h.go h5 (out := (Xn (g.n m.to.toNat) m).2) (fun H l hF hN hM => Wp hF hN h5 (hM m hm)) ?_
  intro x hx
  rcases hx with hx | hx
  ·rcases List.mem_append.1 hx with h | h
   ·exact .inl (.inl h)
   ·exact .inr h
  ·exact .inl (.inr hx)
 ·exact h
def Er (c0 : Int) : Xm := ⟨c0, 0, fun _ => [], fun _ => 0, fun _ => False, fun _ => 0, fun _ _ => [], fun _ _ _ => False, fun _ _ _ => False, fun _ _ _ => False, fun _ _ _ => False⟩
theorem Na (c0 : Int) {i : Nat} (hi : i < 5) : (CH c0).n i = Xl (i : Int) c0 := by
 match i, hi with
 | 0, _ => rfl
 | 1, _ => rfl
 | 2, _ => rfl
 | 3, _ => rfl
 | 4, _ => rfl
theorem Ep {c0 : Int} (h0 : 0 ≤ c0) (h1 : c0 ≤ 31) : Qo (Er c0) :=
 { c00 := h0, c01 := h1, cr := fun _ _ h => h.elim, ld5 := fun _ h => h.elim, lled := fun _ _ _ h => h.elim, vpos := fun _ _ _ h => h.elim, lbd := fun _ h => h.elim, ackl := fun _ _ _ h => h.elim, pos := fun _ h => h.elim, cons := fun _ h => h.elim, len := fun _ h => h.elim,
     old := fun _ _ _ h => h.elim, own := fun _ _ _ h => h.elim, cl := fun _ h => h.elim, win := fun _ h => h.elim, once := fun _ _ _ _ h => h.elim, voted := fun _ _ _ h => h.elim, com := fun _ _ _ h => h.elim, chg := fun _ _ _ h => h.elim }
theorem C3 (c0 : Int) (i : Nat) : NI (Er c0) i (Xl (i : Int) c0) [] := by
  refine { id := rfl, t0 := Int.le_refl _, t1 := by simp [Xl], base := ⟨0, rfl, Nat.le_refl _, rfl, rfl, rfl⟩, com := ⟨0, rfl, Int.le_refl _, Nat.le_refl _, .inl rfl⟩, cons := fun j e h => by simp at h, terms := fun j e h => by simp at h, votel := fun _ _ h => h.elim, vote := fun c => ⟨fun h => h.elim, fun h => ?_⟩, stood := fun _ _ h => h.elim, votes0 := Int.le_refl _, votes1 := by simp [Xl], sz := fun j _ => ?_, cand := fun h => by simp [Xl] at h, lead := fun h => by simp [Xl] at h, acks := fun _ _ h => h.elim }
  ·have h' : (-1 : Int) = (c : Nat) := h
   omega
  ·have : (F5.all 0).get j = 0 := F5.get_all 0 j
   simp only [Xl, this, Er]; omega
end Go.Proofs.YtjbokbikkcfjjaaGreat
