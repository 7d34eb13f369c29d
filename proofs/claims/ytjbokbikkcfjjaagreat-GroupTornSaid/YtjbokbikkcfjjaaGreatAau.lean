/-
  A region in whatever order its edges allow: those that only yield are walked as soon as they may be; among those that do something every order is walked, by a plan.
-/
import Derived.Test.YtjbokbikkcfjjaaGreatAat
set_option maxRecDepth 16000
set_option maxHeartbeats 8000000
set_option linter.all false
namespace Go.Cap
section
variable {K : Ctx} {ops : Array Oper} {eff : List Nat} {N : Env → Qc → Prop} {Q : Exit → Act → World → Prop}
inductive W0 where
 | done
 | yields (i : Nat) (p : W0)
 | alt (i : Nat) (p r : W0)
 | stop
def Run (K : Ctx) (ops : Array Oper) (eff : List Nat) (N : Env → Qc → Prop) : W0 → Env → Qc → List Xg → Prop
 | .done => fun t H _ => N t H
 | .yields i p => fun t H pend => match ops[i]? with
  | some o => QM K ops eff i o (Run K ops eff N p) t H pend
  | none => False
 | .alt i p r => fun t H pend => (match ops[i]? with
  | some o => QM K ops eff i o (Run K ops eff N p) t H pend
  | none => False) ∧ Run K ops eff N r t H pend
 | .stop => fun _ _ _ => True
def J4 (ops : Array Oper) (pre : List Nat) (i : Nat) : Bool := match ops[i]? with
 | some o => o.after.all fun e => !Region.binds .any e || QS pre e.on
 | none => false
def Yh (ops : Array Oper) (eff : List Nat) : W0 → List Nat → List Nat → Bool
 | .done, pre, seen => seen.isEmpty && (List.range ops.size).all fun j => QS pre j
 | .yields i p, pre, seen => seen.isEmpty && !QS eff i && !QS pre i && J4 ops pre i && Yh ops eff p (i :: pre) []
 | .alt i p r, pre, seen => QS eff i && !QS pre i && J4 ops pre i && Yh ops eff p (i :: pre) [] && Yh ops eff r pre (i :: seen)
 | .stop, pre, seen => !seen.isEmpty && (List.range ops.size).all fun j => QS pre j || QS seen j || !J4 ops pre j
theorem O0 {pre : List Nat} {i : Nat} {o : Oper} (ho : ops[i]? = some o) (h : J4 ops pre i = true) : ∀ e ∈ o.after, Region.binds .any e = true → e.on ∈ pre := by
 intro e he hb
 simp only [J4, ho] at h
 have h1 := Array.all_eq_true_iff_forall_mem.1 h e he
 rw [hb] at h1
 exact QB.1 (by simpa using h1)
theorem Rb {pre : List Nat} {i : Nat} {o : Oper} (ho : ops[i]? = some o) (h : ∀ e ∈ o.after, Region.binds .any e = true → e.on ∈ pre) : J4 ops pre i = true := by
 simp only [J4, ho]
 refine Array.all_eq_true_iff_forall_mem.2 fun e he => ?_
 cases hb : Region.binds .any e with
 | false => rfl
 | true => simpa using QB.2 (h e he hb)
theorem Mq {pre : List Nat} {i : Nat} (h : J4 ops pre i = true) : ∃ o, ops[i]? = some o := by
 cases ho : ops[i]? with
 | none => simp [J4, ho] at h
 | some o => exact ⟨o, rfl⟩
theorem Mi {l : List Nat} {i : Nat} (h : QS l i = false) : i ∉ l := fun hm => by rw [QB.2 hm] at h; cases h
theorem Cv {t : Env} {H : Qc} {pend : List Xg} {pre : List Nat} {i : Nat} (hi : i < ops.size) (hp : i ∉ pre) (hf : J4 ops pre i = true) : ∀ (pl : W0) (seen : List Nat), Yh ops eff pl pre seen = true → Run K ops eff N pl t H pend → (seen = [] → ∀ j p, pl ≠ .yields j p) →
  i ∈ seen ∨ ∃ p o, ops[i]? = some o ∧ i ∈ eff ∧ Yh ops eff p (i :: pre) [] = true ∧ QM K ops eff i o (Run K ops eff N p) t H pend
 | .done, seen, h, _, _ => by
  simp only [Yh, Bool.and_eq_true] at h
  exact absurd (QB.1 ((List.all_eq_true.1 h.2) i (List.mem_range.2 hi))) hp
 | .yields j p, seen, h, _, hn => by
  simp only [Yh, Bool.and_eq_true] at h
  exact absurd rfl (hn (by simpa using h.1.1.1.1) j p)
 | .alt j p r, seen, h, hr, _ => by
  simp only [Yh, Bool.and_eq_true] at h
  obtain ⟨⟨⟨⟨h1, h2⟩, h3⟩, h4⟩, h5⟩ := h
  obtain ⟨hr1, hr2⟩ := hr
  by_cases hij : i = j
  ·subst hij
   obtain ⟨o, ho⟩ := Mq h3
   rw [ho] at hr1
   exact .inr ⟨p, o, ho, QB.1 h1, h4, hr1⟩
  ·rcases Cv hi hp hf r (j :: seen) h5 hr2 (fun e => by cases e) with h | h
   ·rcases List.mem_cons.1 h with h | h
    ·exact absurd h hij
    ·exact .inl h
   ·exact .inr h
 | .stop, seen, h, _, _ => by
  simp only [Yh, Bool.and_eq_true] at h
  have := (List.all_eq_true.1 h.2) i (List.mem_range.2 hi)
  rw [hf] at this
  simp only [Bool.not_true, Bool.or_false, Bool.or_eq_true] at this
  rcases this with h | h
  ·exact absurd (QB.1 h) hp
  ·exact .inl (QB.1 h)
structure EZ (K : Ctx) (ops : Array Oper) (eff : List Nat) (N : Env → Qc → Prop) (pre : List Nat) (pl : W0) (t : Env) (H : Qc) (pend : List Xg) (listed : Array Bool) : Prop where
 top : ∀ i ∈ pre, ∀ o, ops[i]? = some o → ∀ e ∈ o.after, Region.binds .any e = true → e.on ∈ pre
 todo : ∀ i, i < ops.size → i ∉ pre → listed.getD i true = false
 done : ∀ i ∈ pre, i ∈ eff → listed.getD i false = true
 has : ∀ i ∈ pre, i ∉ eff → listed.getD i true = false → ∃ p ∈ pend, p.i = i
 pis : ∀ p ∈ pend, p.i ∈ pre ∧ p.i ∉ eff ∧ ops[p.i]? = some p.o
 gop : ∀ p ∈ pend, listed.getD p.i true = false → (∀ H', p.F H' → GOp K.P ops t H' p.o p.d) ∧ ∀ k, p.o.dst = some k → t.get k = p.d
 now : ∀ p ∈ pend, listed.getD p.i true = false → p.F H
 closed : ∀ i o, ops[i]? = some o → listed.getD i true = true → ∀ e ∈ o.after, Region.binds .any e = true → listed.getD e.on true = true
 ok : Yh ops eff pl pre [] = true
 go : Run K ops eff N pl t H pend
theorem EZ.pass (hc : ZV ops K.n eff) {H : Qc} {listed : Array Bool} {tx : Env} : ∀ (pl : W0) {pre : List Nat} {t : Env} {pend : List Xg}, EZ K ops eff N pre pl t H pend listed → (∀ x, (∀ p ∈ pend, listed.getD p.i true = false → p.o.dst ≠ some x) → tx.get x = t.get x) →
  ∃ pre' pl' t' pend', EZ K ops eff N pre' pl' t' H pend' listed ∧ (∀ x, (∀ p ∈ pend', listed.getD p.i true = false → p.o.dst ≠ some x) → tx.get x = t'.get x) ∧ ∀ j p, pl' ≠ .yields j p
 | .done, pre, t, pend, h, hx => ⟨pre, .done, t, pend, h, hx, fun _ _ e => by cases e⟩
 | .alt i p r, pre, t, pend, h, hx => ⟨pre, .alt i p r, t, pend, h, hx, fun _ _ e => by cases e⟩
 | .stop, pre, t, pend, h, hx => ⟨pre, .stop, t, pend, h, hx, fun _ _ e => by cases e⟩
 | .yields i p, pre, t, pend, h, hx => by
  have hok := h.ok
  simp only [Yh, Bool.and_eq_true] at hok
  obtain ⟨⟨⟨⟨_, k1⟩, k2⟩, k3⟩, k4⟩ := hok
  have he : i ∉ eff := Mi (by simpa using k1)
  have hip : i ∉ pre := Mi (by simpa using k2)
  have hem : QS eff i = false := by simpa using k1
  obtain ⟨o, ho⟩ := Mq k3
  have hgo := h.go
  simp only [Run, ho, QM, hem, cond_false] at hgo
  obtain ⟨d, F, hg, hF, hgo⟩ := hgo
  have hlt : i < ops.size := (Array.getElem?_eq_some_iff.1 ho).1
  have hed := O0 ho k3
  refine EZ.pass hc p (pre := i :: pre) (t := t.put o.dst d) (pend := ⟨i, o, d, F⟩ :: pend) ⟨?_, ?_, ?_, ?_, ?_, ?_, ?_, h.closed, k4, hgo⟩ ?_
  ·intro j hj q hq e hee hb
   rcases List.mem_cons.1 hj with rfl | hj
   ·rw [ho] at hq; cases hq
    exact List.mem_cons_of_mem _ (hed e hee hb)
   ·exact List.mem_cons_of_mem _ (h.top j hj q hq e hee hb)
  ·intro j hj hn
   exact h.todo j hj fun hm => hn (List.mem_cons_of_mem _ hm)
  ·intro j hj hje
   rcases List.mem_cons.1 hj with rfl | hj
   ·exact absurd hje he
   ·exact h.done j hj hje
  ·intro j hj hje hl
   rcases List.mem_cons.1 hj with rfl | hj
   ·exact ⟨_, List.mem_cons_self, rfl⟩
   ·obtain ⟨q, hq, hqi⟩ := h.has j hj hje hl
    exact ⟨q, List.mem_cons_of_mem _ hq, hqi⟩
  ·intro q hq
   rcases List.mem_cons.1 hq with rfl | hq
   ·exact ⟨List.mem_cons_self, he, ho⟩
   ·obtain ⟨a, b, c⟩ := h.pis q hq
    exact ⟨List.mem_cons_of_mem _ a, b, c⟩
  ·intro q hq hl
   rcases List.mem_cons.1 hq with rfl | hq
   ·refine ⟨fun H' hF' => GOp.congr (hg H' hF') fun x hx' => ?_, fun k hk => ?_⟩
    ·simp only at hx'
     cases hd : o.dst with
     | none => rfl
     | some k => exact (Env.get_put_ne t d (fun e => (hc.dst i o k ho hd).2.1 (by rw [e]; exact hx'))).symm
    ·simp only at hk ⊢; rw [hk]; exact Env.get_put_self _ _ _
   ·obtain ⟨a, b, c⟩ := h.pis q hq
    exact ⟨fun H' hF' => JT hc ho hip h.top a c (fun h5 _ => he h5) ((h.gop q hq hl).1 H' hF'), fun k hk => JU hc ho hip a c hk ((h.gop q hq hl).2 k hk)⟩
  ·intro q hq hl
   rcases List.mem_cons.1 hq with rfl | hq
   ·exact hF
   ·exact h.now q hq hl
  ·intro x hxx
   have hne : o.dst ≠ some x := hxx ⟨i, o, d, F⟩ List.mem_cons_self (h.todo i hlt hip)
   rw [hx x fun p hp => hxx p (List.mem_cons_of_mem _ hp)]
   cases hd : o.dst with
   | none => rfl
   | some k => exact (Env.get_put_ne t d (fun e => hne (by rw [hd, e]))).symm
theorem BS (hc : ZV ops K.n eff) (hq : ∀ t' H' a' w', N t' H' → R K t' H' a' w' → Q .normal a' w') :
  ∀ (fuel : Nat) (pre : List Nat) (pl : W0) (t : Env) (H : Qc) (pend : List Xg) (listed : Array Bool) (tx : Env) (a : Act) (w : World), listed.size = ops.size → unl listed ops.size = fuel →
   EZ K ops eff N pre pl t H pend listed → (∀ x, (∀ p ∈ pend, listed.getD p.i true = false → p.o.dst ≠ some x) → tx.get x = t.get x) → R K tx H a w → wpAnyIn (RF K.rd) 0 K.P .any ops Q fuel listed a w := by
 intro fuel
 induction fuel with
 | zero =>
  intro pre pl t H pend listed tx a w hs hf hw hx hr
  have hall : ∀ j, j < ops.size → listed.getD j true = true := fun j hj => by
   have h0 := List.length_eq_zero_iff.1 hf
   have h1 := (List.filter_eq_nil_iff.1 h0) j (List.mem_range.2 hj)
   simpa using h1
  have hlt : ∀ j o, ops[j]? = some o → j < ops.size := fun j o h => (Array.getElem?_eq_some_iff.1 h).1
  refine ⟨?_, ?_⟩
  ·refine List.eq_nil_iff_forall_not_mem.2 fun j hj => ?_
   obtain ⟨h0, o, ho, _⟩ := mem_ready.1 hj
   rw [hall j (hlt j o ho)] at h0; cases h0
  ·obtain ⟨pre, pl, t, pend, hw, hx, hnp⟩ := EZ.pass hc pl hw hx
   have hin : ∀ j, j < ops.size → j ∈ pre := fun j hj => Classical.byContradiction fun hn => by
    have := hw.todo j hj hn
    rw [hall j hj] at this; cases this
   cases pl with
   | done =>
    refine hq t H a w hw.go (hr.env fun x => hx x fun p hp hl => ?_)
    rw [hall _ (hlt _ _ (hw.pis p hp).2.2)] at hl; cases hl
   | yields i p => exact absurd rfl (hnp i p)
   | alt i p r =>
    have h := hw.ok
    simp only [Yh, Bool.and_eq_true] at h
    obtain ⟨o, ho⟩ := Mq h.1.1.2
    exact absurd (hin i (hlt _ _ ho)) (Mi (by simpa using h.1.1.1.2))
   | stop =>
    have h := hw.ok
    simp [Yh] at h
 | succ fuel ih =>
  intro pre pl t H pend listed tx a w hs hf hw hx hr
  have hlt : ∀ j o, ops[j]? = some o → j < ops.size := fun j o h => (Array.getElem?_eq_some_iff.1 h).1
  obtain ⟨pre, pl, t, pend, hw, hx, hnp⟩ := EZ.pass hc pl hw hx
  have hex : ∃ i, i < ops.size ∧ listed.getD i true = false := by
   refine Classical.byContradiction fun hne => ?_
   have : unl listed ops.size = 0 := by
    unfold unl
    rw [List.length_eq_zero_iff, List.filter_eq_nil_iff]
    intro j hj
    have hj' := List.mem_range.1 hj
    cases hv : listed.getD j true with
    | false => exact absurd ⟨j, hj', hv⟩ hne
    | true => simp
   omega
  have hmin : ∃ i, i < ops.size ∧ listed.getD i true = false ∧ ∀ j, j < i → listed.getD j true = true := by
   obtain ⟨i, hi1, hi2⟩ := hex
   induction i using Nat.strongRecOn with
   | _ i ihm =>
    by_cases h : ∀ j, j < i → listed.getD j true = true
    ·exact ⟨i, hi1, hi2, h⟩
    ·obtain ⟨j, hj⟩ := Classical.not_forall.1 h
     obtain ⟨hj1, hj2⟩ := Classical.not_imp.1 hj
     exact ihm j hj1 (by omega) (by simpa using hj2)
  obtain ⟨i0, hi0, hu0, hl0⟩ := hmin
  have hr0 : i0 ∈ Region.ready .any ops listed := mem_ready.2 ⟨hu0, ops[i0], by simp [hi0], fun e he hb => by
   have := hc.back i0 _ (by simp [hi0]) e he hb
   rw [lst (by omega)]; exact hl0 _ this⟩
  refine ⟨fun hn => (by rw [hn] at hr0; cases hr0), fun i hir => ?_⟩
  obtain ⟨hu, o, ho, hall⟩ := mem_ready.1 hir
  have hisz : i < ops.size := hlt i o ho
  have hbnd : ∀ j, j < ops.size → Yo o j = true → listed.getD j true = true := fun j hj hb => by
   obtain ⟨e, he, h1, h2⟩ := Z8.1 hb
   have := hall e he h1
   rw [h2, lst (by omega)] at this; exact this
  have hlook : ∀ x ∈ o.looksAt ops, tx.get x = t.get x := fun x hxo => hx x fun p hp hl he => by
   have hpi := (hw.pis p hp).2.2
   by_cases hne : i = p.i
   ·rw [← hne, ho] at hpi
    have e := Option.some.inj hpi
    exact (hc.dst i o x ho (e ▸ he)).2.1 hxo
   ·have := hbnd _ (hlt _ _ hpi) ((((hc.dst p.i p.o x hpi he).2.2 i o ho hne).2 hxo).resolve_right fun h => (hw.pis p hp).2.1 h.1)
    rw [this] at hl; cases hl
  have hopr : ∀ x ∈ o.op.operands, tx.ev x = t.ev x := by
   intro x hx'
   cases x with
   | tmp k' => exact hlook k' (List.mem_append_left _ (List.mem_filterMap.2 ⟨.tmp k', by simpa using hx', rfl⟩))
   | _ => rfl
  have hun := LR hs hisz hu
  have hfu : unl (listed.setIfInBounds i true) ops.size = fuel := by omega
  have hset : ∀ j, ¬ i = j → ∀ d, (listed.setIfInBounds i true).getD j d = listed.getD j d := fun j hj d => getD_set_ne d hj
  have hcl' : ∀ i' o', ops[i']? = some o' → (listed.setIfInBounds i true).getD i' true = true → ∀ e ∈ o'.after, Region.binds .any e = true → (listed.setIfInBounds i true).getD e.on true = true := fun i' o' ho' hl e he hb => by
   by_cases hie : i = e.on
   ·rw [← hie]; exact Q4 (by omega) _
   ·rw [hset _ hie]
    by_cases hii : i = i'
    ·subst hii; rw [ho] at ho'; cases ho'
     exact OI (hall e he hb)
    ·rw [hset _ hii] at hl; exact hw.closed i' o' ho' hl e he hb
  have hbr : ∀ j, X9 ops 12 o j = true → listed.getD j true = true := Y4 hw.closed 12 o fun e he hb => OI (hall e he hb)
  by_cases hpre : i ∈ pre
  ·
   have hne : i ∉ eff := fun he => by
    have := hw.done i hpre he
    rw [lst (by omega)] at this
    rw [this] at hu; cases hu
   obtain ⟨p, hp, hpi⟩ := hw.has i hpre hne hu
   have hpo : p.o = o := by
    have := (hw.pis p hp).2.2
    rw [hpi, ho] at this
    exact (Option.some.inj this).symm
   obtain ⟨k, hk⟩ : ∃ k, o.dst = some k := by
    cases hd : o.dst with
    | none => exact absurd (hc.pur i o ho hd) hne
    | some k => exact ⟨k, rfl⟩
   have hF := hw.now p hp (by rw [hpi]; exact hu)
   have hg := (hw.gop p hp (by rw [hpi]; exact hu)).1 H hF
   have hgk := (hw.gop p hp (by rw [hpi]; exact hu)).2 k (by rw [hpo]; exact hk)
   rw [hpo] at hg
   obtain ⟨hkn, hself, hoth⟩ := hc.dst i o k ho hk
   have next : ∀ (S S' : Nat → Prop) (w' : World) (v : Value), R1 K tx H a w S → QN [] S w S' w' → Rel S' w' p.d v → wpAnyIn (RF K.rd) 0 K.P .any ops Q fuel (listed.setIfInBounds i true) (a.put o.dst v) w' := by
    intro S S' w' v hr1 hst hrv
    refine ih pre pl t H pend _ (tx.put o.dst p.d) _ w' (by simpa using hs) hfu ⟨hw.top, fun q hq hqn => ?_, fun j hj he => ?_, fun j hj he hlj => hw.has j hj he (by
     by_cases hij : i = j
     ·subst hij; exact hu
     ·rw [hset _ hij] at hlj; exact hlj), hw.pis, (fun q hq hl => hw.gop q hq (by
     by_cases hqi : i = q.i
     ·rw [← hqi]; exact hu
     ·rw [hset _ hqi] at hl; exact hl)), fun q hq hl => ?_, hcl', hw.ok, hw.go⟩ ?_ ⟨S', hr1.pure hst (by rw [hk]; simpa [Xo] using hkn) hrv⟩
    ·have h1 := hw.todo q hq hqn
     by_cases hqi : i = q
     ·exact absurd (hqi ▸ hpre) hqn
     ·rw [hset _ hqi]; exact h1
    ·by_cases hij : i = j
     ·subst hij; exact Q4 (by omega) _
     ·rw [hset _ hij]; exact hw.done j hj he
    ·by_cases hqi : i = q.i
     ·rw [← hqi, Q4 (by omega)] at hl; cases hl
     ·rw [hset _ hqi] at hl; exact hw.now q hq hl
    ·intro x hxx
     rw [hk]
     by_cases hkx : k = x
     ·subst hkx; rw [Env.get_put_self, hgk]
     ·rw [Env.get_put_ne _ _ hkx]
      refine hx x fun q hq hl he => ?_
      by_cases hqi : i = q.i
      ·have := (hw.pis q hq).2.2
       rw [← hqi, ho] at this
       cases this
       rw [hk] at he; cases he
       exact hkx rfl
      ·exact hxx q hq (by rw [hset _ hqi]; exact hl) he
   obtain ⟨S, hr1⟩ := hr
   have hop : ∀ x ∈ o.op.operands, Rel S w (t.ev x) (a.eval x) := fun x hx' => hopr x hx' ▸ hr1.env.ev x
   unfold wpOpIn
   simp only [ho]
   unfold GOp at hg
   cases hgu : o.guard with
   | none =>
    rw [hgu] at hg
    simp only [Q7 hgu a, if_true]
    exact YV (hg S w a hr1.wf hr1.own hop) fun S' w' v hst hrv => next S S' w' v hr1 hst hrv
   | some jw =>
    obtain ⟨j, want⟩ := jw
    rw [hgu] at hg
    obtain ⟨k', b, hj, hb, hyes, hno⟩ := hg
    have hv : a.tmps.getD k' undef = b := by
     have := hr1.env k'
     rw [hlook k' (by unfold Oper.looksAt; rw [hgu]; simp [hj]), hb] at this
     exact this.v_eq
    by_cases hwb : b = .bool want
    ·simp only [(Xv hgu hj hv).1 hwb, if_true]
     exact YV (hyes hwb S w a hr1.wf hr1.own hop) fun S' w' v hst hrv => next S S' w' v hr1 hst hrv
    ·simp only [(Xv hgu hj hv).2 hwb, Bool.false_eq_true, if_false]
     exact ⟨fun _ _ => trivial, next S S w undef hr1 (QN.refl _ hr1.wf) (by rw [hno hwb]; exact .v _)⟩
  ·
   have hedge : ∀ e ∈ o.after, Region.binds .any e = true → e.on ∈ pre := fun e he hb => by
    have h1 := hall e he hb
    have h2 := hc.back i o ho e he hb
    refine Classical.byContradiction fun hn => ?_
    have h3 := hw.todo e.on (by omega) hn
    rw [← lst (by omega), h1] at h3; cases h3
   obtain ⟨p', o', ho', hpe, hpok, hgo⟩ := (Cv hisz hpre (Rb ho hedge) pl [] hw.ok hw.go fun _ => hnp).resolve_left (by simp)
   rw [ho] at ho'; cases ho'
   simp only [QM, QB.2 hpe, cond_true] at hgo
   have hgu := hc.grd i o ho hpe
   unfold wpOpIn
   simp only [ho, Q7 hgu a, if_true]
   refine hgo tx hopr a w hr _ Q ?_
   rintro t' H' a' w' ⟨d, pend', rfl, hpk, hdrop, hgo'⟩ hr'
   refine ih (i :: pre) p' (t.put o.dst d) H' pend' _ (tx.put o.dst d) a' w' (by simpa using hs) hfu ⟨?_, ?_, ?_, ?_, ?_, ?_, ?_, hcl', hpok, hgo'⟩ ?_ hr'
   ·intro j hj q hq e hee hb
    rcases List.mem_cons.1 hj with rfl | hj
    ·rw [ho] at hq; cases hq
     exact List.mem_cons_of_mem _ (hedge e hee hb)
    ·exact List.mem_cons_of_mem _ (hw.top j hj q hq e hee hb)
   ·intro j hj hn
    have hij : ¬ i = j := fun e => hn (e ▸ List.mem_cons_self)
    rw [hset _ hij]
    exact hw.todo j hj fun hm => hn (List.mem_cons_of_mem _ hm)
   ·intro j hj he
    by_cases hij : i = j
    ·subst hij; exact Q4 (by omega) _
    ·rw [hset _ hij]
     rcases List.mem_cons.1 hj with h | h
     ·exact absurd h.symm hij
     ·exact hw.done j h he
   ·intro j hj he hlj
    rcases List.mem_cons.1 hj with rfl | hj
    ·exact absurd hpe he
    ·have hij : ¬ i = j := fun e => by subst e; rw [Q4 (by omega)] at hlj; cases hlj
     rw [hset _ hij] at hlj
     obtain ⟨q, hq, hqj⟩ := hw.has j hj he hlj
     rcases hdrop.has q hq with h | h
     ·exact ⟨q, h, hqj⟩
     ·rw [← hqj, hbr q.i h] at hlj; cases hlj
   ·intro q hq
    obtain ⟨a1, a2, a3⟩ := hw.pis q (hdrop.sub q hq)
    exact ⟨List.mem_cons_of_mem _ a1, a2, a3⟩
   ·intro q hq hl
    replace hq := hdrop.sub q hq
    obtain ⟨a1, a2, a3⟩ := hw.pis q hq
    have hl' : listed.getD q.i true = false := by
     by_cases hqi : i = q.i
     ·rw [← hqi, Q4 (by omega)] at hl; cases hl
     ·rw [hset _ hqi] at hl; exact hl
    have hnb : i ∈ eff → Yo o q.i = true → False := fun _ hb => by
     have := hbnd q.i (hlt _ _ a3) hb
     rw [this] at hl'; cases hl'
    exact ⟨fun H' hF' => JT hc ho hpre hw.top a1 a3 hnb ((hw.gop q hq hl').1 H' hF'), fun k hk => JU hc ho hpre a1 a3 hk ((hw.gop q hq hl').2 k hk)⟩
   ·intro q hq hl
    replace hq := hdrop.sub q hq
    by_cases hqi : i = q.i
    ·rw [← hqi, Q4 (by omega)] at hl; cases hl
    ·rw [hset _ hqi] at hl
     refine hpk.get q hq ?_
     cases hb : X9 ops 12 o q.i with
     | false => rfl
     | true =>
      rw [hbr q.i hb] at hl; cases hl
   ·intro x hxx
    replace hxx : ∀ q ∈ pend, (listed.setIfInBounds i true).getD q.i true = false → q.o.dst ≠ some x := fun q hq hl => by
     rcases hdrop.has q hq with h | h
     ·exact hxx q h hl
     ·have h2 := hbr q.i h
      by_cases hqi : i = q.i
      ·rw [← hqi, Q4 (by omega)] at hl; cases hl
      ·rw [hset _ hqi, h2] at hl; cases hl
    cases hd : o.dst with
    | none =>
     show tx.get x = t.get x
     refine hx x fun q hq hl he => ?_
     by_cases hqi : i = q.i
     ·exact absurd (hqi ▸ (hw.pis q hq).2.1) (fun h => h hpe)
     ·exact hxx q hq (by rw [hset _ hqi]; exact hl) he
    | some k =>
     by_cases hkx : k = x
     ·subst hkx; rw [Env.get_put_self, Env.get_put_self]
     ·rw [Env.get_put_ne _ _ hkx, Env.get_put_ne _ _ hkx]
      refine hx x fun q hq hl he => ?_
      by_cases hqi : i = q.i
      ·exact absurd (hqi ▸ (hw.pis q hq).2.1) (fun h => h hpe)
      ·exact hxx q hq (by rw [hset _ hqi]; exact hl) he
theorem RS {t : Env} {H : Qc} {id : Nat} {Ψ : Exit → Env → Qc → Prop} (eff : List Nat) (pl : W0) (hmix : K.P.follows .mixedOrders = true) (hc : (My ops K.n eff && Yh ops eff pl [] []) = true)
  (h : Run K ops eff (Ψ .normal) pl t H []) : Sim K (.region id ops true) t H Ψ := by
 intro a w ⟨S, hr⟩
 refine wpIn_region_any hmix ?_
 rw [Bool.and_eq_true] at hc
 have hA := ZV.of hc.1
 have hst : QN [] S w S { w with drawn := w.drawn + 1 } := ⟨rfl, rfl, rfl, Nat.le_refl _, fun _ _ _ => rfl, fun _ h => h, fun _ h => .inl h, hr.wf⟩
 have hfalse : ∀ (d : Bool) (j : Nat), j < ops.size → (Array.replicate ops.size false).getD j d = false := fun d j hj => by simp [Array.getD_eq_getD_getElem?, hj]
 have hlt : ∀ j o, ops[j]? = some o → j < ops.size := fun j o h => (Array.getElem?_eq_some_iff.1 h).1
 refine BS hA (fun t' H' a' w' hn hr' => ⟨t', H', hn, hr'⟩) ops.size [] pl t H [] _ t a _ (by simp) ?_
  ⟨by simp, fun i hi _ => hfalse _ i hi, by simp, by simp, by simp, by simp, by simp, fun i o ho hl => ?_, hc.2, h⟩ (fun x _ => rfl)
  ⟨S, hr.size, hr.defers.step (hst.mono hr.wf (by simp)) hst.objs0 hst.size, hr.step.trans hst (by simp), hr.own.step hst hr.wf (by simp) (by simp), hr.mine, hr.env.mono (hst.mono hr.wf (by simp))⟩
 ·unfold unl
  rw [List.filter_eq_self.2]
  ·simp
  ·intro j hj
   have := List.mem_range.1 hj
   simp [Array.getD_eq_getD_getElem?, this]
 ·rw [hfalse _ i (hlt _ _ ho)] at hl; cases hl
section
variable {t : Env} {H : Qc} {kd i : Nat} {op : Op} {ty tp : TypeId} {pos : String} {aft : Array Edge} {pend : List Xg} {d : T} {x y : Operand} {rest : Env → Qc → List Xg → Prop}
theorem cm {id : Nat} {Ψ : Exit → Env → Qc → Prop} (eff : List Nat) (pl : W0) (h : Run K ops eff (Ψ .normal) pl t H []) (hmix : K.P.follows .mixedOrders = true := by kernel_rfl) (hc : (My ops K.n eff && Yh ops eff pl [] []) = true := by kernel_rfl) : Sim K (.region id ops true) t H Ψ := RS eff pl hmix hc h
theorem m_F {F : Qc → Prop} (hp : ∀ H', F H' → POp K.P t H' ⟨some kd, op, tp, pos, aft, none⟩ d) (hF : F H) (h : rest ((kd, d) :: t) H (⟨i, ⟨some kd, op, tp, pos, aft, none⟩, d, F⟩ :: pend)) (he : QS eff i = false := by rfl) : QM K ops eff i ⟨some kd, op, tp, pos, aft, none⟩ rest t H pend := by
 unfold QM
 rw [he, cond_false]
 exact ⟨d, F, fun H' h' => hp H' h', hF, h⟩
theorem m_ (hp : ∀ H', POp K.P t H' ⟨some kd, op, tp, pos, aft, none⟩ d) (h : rest ((kd, d) :: t) H (⟨i, ⟨some kd, op, tp, pos, aft, none⟩, d, fun _ => True⟩ :: pend)) (he : QS eff i = false := by rfl) : QM K ops eff i ⟨some kd, op, tp, pos, aft, none⟩ rest t H pend := m_F (fun H' _ => hp H') trivial h he
theorem Bk {b o m : Nat} {ty0 : TypeId} {cells : List T} (h : rest ((kd, d) :: t) H (⟨i, ⟨some kd, .load ty x, tp, pos, aft, none⟩, d, fun H => (b, (⟨ty0, cells, m⟩ : Blk)) ∈ H⟩ :: pend)) (hx : t.ev x = .v (.pointer (some ⟨b, o, none⟩)) := by exact zl) (hm : (b, (⟨ty0, cells, m⟩ : Blk)) ∈ H := by exact zm) (hd : cells[o]? = some d := by rfl)
  (hk : QC K.P ty = true := by rfl) (he : QS eff i = false := by rfl) : QM K ops eff i ⟨some kd, .load ty x, tp, pos, aft, none⟩ rest t H pend := m_F (F := fun H => (b, (⟨ty0, cells, m⟩ : Blk)) ∈ H) (fun _ h' => Ql hx h' hd hk) hm h he
theorem Tq {b o n m : Nat} {ty0 : TypeId} {cells cs : List T} [hk : U9 K.P ty n] (h : rest ((kd, .agg cs) :: t) H (⟨i, ⟨some kd, .load ty x, tp, pos, aft, none⟩, .agg cs, fun H => (b, (⟨ty0, cells, m⟩ : Blk)) ∈ H⟩ :: pend)) (hx : t.ev x = .v (.pointer (some ⟨b, o, none⟩)) := by exact zl) (hm : (b, (⟨ty0, cells, m⟩ : Blk)) ∈ H := by exact zm) (hc : Xs cells o n cs := by exact zt)
  (he : QS eff i = false := by rfl) : QM K ops eff i ⟨some kd, .load ty x, tp, pos, aft, none⟩ rest t H pend := m_F (F := fun H => (b, (⟨ty0, cells, m⟩ : Blk)) ∈ H) (fun _ h' => Xf hx h' hc) hm h he
theorem BZ {Hs Hr : Qc} {f : FuncId} {xs : Array Operand} {ats : Array TypeId} {args : List T} {Φ : T → Qc → Prop} (hf : FnH K.P f args Hs Φ) (hp : H.Perm (Hs ++ Hr))
  (hn : ∀ r H', Φ r H' → XO ops ⟨some kd, .call ⟨.value (.func f), xs, ats⟩, tp, pos, aft, none⟩ (H' ++ Hr) pend ∧ rest ((kd, r) :: t) (H' ++ Hr) pend) (hc : QE K.P f = true := by rfl) (ha' : EvL t xs.toList args := by exact ze) (hd : Nat.blt kd K.n = true := by rfl) (he : QS eff i = true := by rfl) :
  QM K ops eff i ⟨some kd, .call ⟨.value (.func f), xs, ats⟩, tp, pos, aft, none⟩ rest t H pend :=
 BY (fun _ h1 => YH (Hr := Hr) hf hp hc (ha'.trans fun x hx => h1 x (by simp [Op.operands, Call.operands]; exact .inr (by simpa using hx))) (by simpa [Xo] using hd) fun r H' hr' => ⟨_, rfl, hn r H' hr'⟩) he
end
end
end Go.Cap
namespace Go.Proofs.YtjbokbikkcfjjaaGreat
open Go.Cap
attribute [local irreducible] POp Qf TO EOp Sim FnH T.gp
section
variable {P : Nat → En → Prop} {g : Gp} {τ l u : Nat}
theorem GB.five (h : GB P g τ l u) : 5 * l ≤ u := by have := h.fuel; omega
theorem E6 {α : Type} (f : α → Nat) : ∀ (l : List α) (i : Nat) (h : i < l.length), f l[i] ≤ (l.map f).sum
 | a :: l, 0, _ => by simp
 | a :: l, i + 1, h => by
  have := E6 f l i (by simpa using h)
  simp only [List.map_cons, List.sum_cons, List.getElem_cons_succ]; omega
theorem GB.pot (h : GB P g τ l u) {i : Nat} (hi : i < 5) : 5 * l + Go.Proofs.YtjbokbikkcfjjaaGreat.pot (g.k i).N ≤ u := by
 have hil : i < g.ks.length := by rw [h.ks]; exact hi
 have := E6 (fun K => Go.Proofs.YtjbokbikkcfjjaaGreat.pot K.N) g.ks i hil
 have hk : g.ks[i] = g.k i := by unfold Gp.k; rw [List.getD_eq_getElem?_getD, List.getElem?_eq_getElem hil, Option.getD_some]
 rw [hk] at this
 have hf := h.fuel
 omega
theorem GB.ok (hP : PK P) (h : GB P g τ l u) (hu : u ≤ 25000) {i : Nat} (hi : i < 5) : D0 (g.k i) := by
 have h5 := h.five
 have ht := h.tau
 have hk := h.ki i hi
 have hn := h.nb i hi
 exact ⟨hk.d, hn.sz hP (by omega) (by omega), by have := hn.rec_ hP (by omega); omega, hk.n0, by have := hk.n1; omega⟩
theorem Yz.sz (hP : PK P) {n n' : Nd} {out : List Ms} {τ' c b : Nat} (h : Yz P n n' out τ' l c b) (hl : 5 * l + Go.Proofs.YtjbokbikkcfjjaaGreat.pot n + c ≤ 25000) (ht : τ' ≤ 100000) : Sz n' ∧ (Qq n' 0).length ≤ 524100 := by
 obtain ⟨d, h1, h2, _⟩ := h
 exact ⟨h1.sz hP ht (by omega), h1.rec_ hP (by omega)⟩
theorem GB.tick_fn (hP : PK P) (h : GB P g τ l u) (hu : u + 1 ≤ 25000) {i : Nat} (hi : i < 5) : FnP Tryz.prog 76 [nd (g.k i).N] (fun r => r = .tup [nd (Xh (g.k i).N).1, mss (Xh (g.k i).N).2]) := by
 have h5 := h.five
 have ht := h.tau
 have hn := h.nb i hi
 have hp := h.pot hi
 have hlen := hn.len
 unfold Go.Proofs.YtjbokbikkcfjjaaGreat.pot at hp
 exact Go.Proofs.YtjbokbikkcfjjaaGreat.tick_fn (hn.bd hP.toPO (by omega)) (by omega) hn.term0 (by have := hn.term1; omega) hn.wait0 (by have := hn.wait0; omega) (fun i => by have := hn.next1 i; omega)
theorem GB.take_fn (hP : PK P) (h : GB P g τ l u) (hu : u ≤ 25000) {i : Nat} (hi : i < 5) {m : Ms} (hm : MB P m τ l) : FnP Tryz.prog 100 [nd (g.k i).N, ms m] (fun r => r = .tup [nd (Xa (g.k i).N m).1, mss (Xa (g.k i).N m).2]) := by
 have h5 := h.five
 have hn := h.nb i hi
 have hlen := hn.len
 have h1 := hm.idx0
 have h2 := hm.idx1
 have h3 := hm.len
 exact Go.Proofs.YtjbokbikkcfjjaaGreat.take_fn (hn.bd hP.toPO (by omega)) (hn.nbd (by omega)) (.inr ⟨by omega, by omega, by omega⟩)
end
theorem GH {bg : Nat} {g : Gp} {a : Nat → Ad} {bm : Nat} {es : List (Value × T × Nat)} {clk : Nat} {W : Qc} {wv : Value} {i : Nat} {t : Nd} {l : List Ms} (hi : i < 5) (hks : g.ks.length = 5) (hA : D1 g.aw es) (hO : OM g.way wv W) (hl : g.way.length + l.length ≤ 1000000) :
  FnH Tryz.prog 48 [pW bg, ei (Qw (g.k i) t 0).2, if (Qw (g.k i) t 0).2 = 0 then mss l else .sl true []] (gH bg g.conf a bm es clk W wv (upA g.k i (Qw (g.k i) t 0).1)) (fun r H' => r = .tup [] ∧ IsG bg (didG g i t l) H') := by
 obtain ⟨⟨K', e⟩, hk⟩ : ∃ x, Qw (g.k i) t 0 = x := ⟨_, rfl⟩
 have hG1 : IsG bg { g with ks := g.ks.set i K' } (gH bg g.conf a bm es clk W wv (upA g.k i K')) := by
  refine ⟨a, bm, es, clk, W, wv, hA, hO, ?_⟩
  unfold gH
  rw [Dw a (upA g.k i K') (Gp.k { g with ks := g.ks.set i K' }) (fun j hj => ?_)]
  have := Gp.k_set (g := g) (i := i) (j := j) (K := K') (w := g.way) (by rw [hks]; exact hj)
  rw [this]
  unfold upA
  by_cases hij : i = j
  ·subst hij; simp
  ·rw [if_neg hij, if_neg (fun e => hij e.symm)]
 rw [hk]
 simp only
 by_cases he : e = 0
 ·have hs := Dq bg _ _ e l (by simpa using hl) hG1
  rw [if_pos he] at hs ⊢
  refine hs.mono fun r H' h => ?_
  unfold didG
  rw [hk]
  simp only
  rw [if_pos he]
  exact h
 ·have hs := Dq bg _ _ e [] (by simp; omega) hG1
  rw [if_neg he] at hs ⊢
  refine (FnH.args hs (LeL.cons (Le.refl _) (LeL.cons (Le.refl _) (LeL.cons (Le.full _ _) LeL.nil)))).mono fun r H' h => ?_
  unfold didG
  rw [hk]
  simp only
  rw [if_neg he]
  exact h
theorem IJ {P : Nat → En → Prop} {τ l u : Nat} (hP : PK P) (bg : Nat) (g : Gp) (H : Qc) (i : Int) (h : GB P g τ l u) (hu : u + 1 ≤ 25000) (hG : IsG bg g H) : FnH Tryz.prog 25 [pW bg, ei i] H (fun r H' => r = .tup [] ∧ IsG bg (X8 g i) H') := by
 have hT := U3 bg g H i hG
 obtain ⟨a, bm, es, clk, W, wv, hA, hO, rfl⟩ := hG
 obtain ⟨q, iq, hq⟩ := Cg (b := Q9 g i)
 rw [hq] at hT
 refine fe Tryz.func25 fun S0 w0 => ?_
 show Sim _ _ [(0, pW bg), (1, ei i)] ((bg, ⟨tG, gC g.conf a bm wv, 13⟩) :: (bm, ⟨.map es clk, [], 0⟩) :: (W ++ gM a g.k)) _
 refine zC ?_
 refine cr <| s_ Qa <| s_ Qa ?_
 refine QI hT (fun r H' ⟨hr1, hr2⟩ => ?_)
 subst hr1 hr2
 refine zC ?_
 refine ci (p := q) ?_ ?_
 ·intro hq'
  have hth : Q9 g i = true := by rw [hq]; exact decide_eq_true hq'
  have hi := YD hth
  obtain ⟨h5, hc⟩ := XC hi
  have hw := (h.nb _ h5).tick hP.toPO (by have := h.tau; omega)
  obtain ⟨hsz, hrc⟩ := hw.sz hP (by have := h.pot h5; omega) (by have := h.tau; omega)
  have hk := Iw (a i.toNat).bk (a i.toNat).bj (a i.toNat).bd (g.k i.toNat) (h.tick_fn hP hu h5) (h.ok hP (by omega) h5) hsz (by omega)
  have hck := EF (conf := g.conf) (a := a) (bm := bm) (wv := wv) hi
  have hperm := UB (x := (bg, ⟨tG, gC g.conf a bm wv, 13⟩)) (y := (bm, ⟨.map es clk, [], 0⟩)) (W := W) (Vj a g.k h5)
  have hout : (Xh (g.k i.toNat).N).2.length ≤ 100000 := by
   obtain ⟨d, _, h2, _, h4⟩ := hw.go
   have := h.pot h5; omega
  have hs := GH (bg := bg) (a := a) (bm := bm) (clk := clk) (t := (Xh (g.k i.toNat).N).1) (l := (Xh (g.k i.toNat).N).2) h5 h.ks hA hO (by have := h.many; have := h.five; omega)
  rw [show X8 g i = didG g i.toNat (Xh (g.k i.toNat).N).1 (Xh (g.k i.toNat).N).2 by unfold X8; rw [if_pos hth]]
  refine zC ?_
  refine cr <| s_ Qa <| s_ Qa <| s_ Qe <| s_ Qd <| s_ YX <| s_ Qd <| s_ (Ql (hd := by first | rfl | assumption)) ?_
  refine Q2 hk hperm (fun r H' ⟨hr1, hr2⟩ => ?_)
  subst hr1 hr2
  refine QA (UB (x := (bg, ⟨tG, gC g.conf a bm wv, 13⟩)) (y := (bm, ⟨.map es clk, [], 0⟩)) (W := W) (M := gM a (upA g.k i.toNat (Qw (g.k i.toNat) (Xh (g.k i.toNat).N).1 0).1)) (A := mH (a i.toNat) (Qw (g.k i.toNat) (Xh (g.k i.toNat).N).1 0).1) (B := gO a g.k i.toNat) ?_).symm ?_
  ·have := (Dv a a g.k (upA g.k i.toNat (Qw (g.k i.toNat) (Xh (g.k i.toNat).N).1 0).1) h5 (fun j _ hj => ⟨rfl, by unfold upA; rw [if_neg hj]⟩)).symm
   simpa [upA] using this
  refine s_ Qa <| s_ QH <| s_ QH <| s_ Qb <| s_ Qb <| zC ?_
  refine cr <| s_ Qa <| s_ Qa <| s_ Qa ?_
  refine QI hs (fun r H' ⟨hr1, hr2⟩ => ?_)
  subst hr1
  refine zC ?_
  exact rhn kR ⟨rfl, hr2⟩ (Le.refl _)
 ·intro hq'
  have hth : ¬ Q9 g i = true := by rw [hq]; simpa using hq'
  refine zC ?_
  refine rhn kR ⟨rfl, ?_⟩ (Le.refl _)
  unfold X8
  rw [if_neg hth]
  exact ⟨a, bm, es, clk, W, wv, hA, hO, rfl⟩
theorem B1 {z x y : Nat × Blk} {W M A B : Qc} (h : M.Perm (A ++ B)) : (z :: x :: y :: (W ++ M)).Perm (A ++ (z :: x :: y :: (W ++ B))) :=
 ((UB (x := x) (y := y) (W := W) h).cons z).trans (List.perm_middle (a := z) (l₁ := A)).symm
theorem IK {P : Nat → En → Prop} {τ l u : Nat} (hP : PK P) (bg : Nat) (g : Gp) (H : Qc) (m : Ms) (hm : MB P m τ l) (h : GB P g τ l u) (hu : u ≤ 25000) (hG : IsG bg g H) : FnH Tryz.prog 35 [pW bg, ms m] H (fun r H' => r = .tup [] ∧ IsG bg (XS g m) H') := by
 have hT := U3 bg g H m.to hG
 obtain ⟨a, bm, es, clk, W, wv, hA, hO, rfl⟩ := hG
 obtain ⟨q, iq, hq⟩ := Cg (b := Q9 g m.to)
 rw [hq] at hT
 refine fe Tryz.func35 fun S0 w0 => ?_
 show Sim _ _ [(0, pW bg), (1, T.agg (msC m (ZG m.entries)))] ((bg, ⟨tG, gC g.conf a bm wv, 13⟩) :: (bm, ⟨.map es clk, [], 0⟩) :: (W ++ gM a g.k)) _
 refine zC ?_
 apply cr
 refine X1 fun b3 _ => ?_
 refine zC ?_
 refine cr <| s_ Qa <| s_ Qd <| s_ Ql ?_
 refine Q2 (Hr := [_]) hT (List.perm_append_comm (l₁ := [_])) (fun r H' ⟨hr1, hr2⟩ => ?_)
 subst hr1 hr2
 refine QA (List.perm_append_comm (l₂ := [_])) ?_
 show Qf _ _ _ _ _ ((b3, ⟨tM, msC m (ZG m.entries), 11⟩) :: (bg, ⟨tG, gC g.conf a bm wv, 13⟩) :: (bm, ⟨.map es clk, [], 0⟩) :: (W ++ gM a g.k)) _
 refine zC ?_
 refine ci (p := q) ?_ ?_
 ·intro hq'
  have hth : Q9 g m.to = true := by rw [hq]; exact decide_eq_true hq'
  have hi := YD hth
  obtain ⟨h5, hc⟩ := XC hi
  have hp : 0 ≤ m.to ∧ m.to < 5 := hi
  have hw := (h.nb _ h5).take hP.toPO hm (by have := h.tau; omega)
  obtain ⟨hsz, hrc⟩ := hw.sz hP (by have := h.pot h5; omega) (by have := h.tau; omega)
  have hk := Iy (a m.to.toNat).bk (a m.to.toNat).bj (a m.to.toNat).bd (g.k m.to.toNat) m (h.take_fn hP hu h5 hm) (h.ok hP (by omega) h5) hsz (by omega)
  have hck := EF (conf := g.conf) (a := a) (bm := bm) (wv := wv) hi
  have hperm := B1 (z := (b3, ⟨tM, msC m (ZG m.entries), 11⟩)) (x := (bg, ⟨tG, gC g.conf a bm wv, 13⟩)) (y := (bm, ⟨.map es clk, [], 0⟩)) (W := W) (Vj a g.k h5)
  have hout : (Xa (g.k m.to.toNat).N m).2.length ≤ 100000 := by
   obtain ⟨d, _, h2, _, h4⟩ := hw.go
   have := h.pot h5; omega
  have hs := GH (bg := bg) (a := a) (bm := bm) (clk := clk) (t := (Xa (g.k m.to.toNat).N m).1) (l := (Xa (g.k m.to.toNat).N m).2) h5 h.ks hA hO (by have := h.many; have := h.five; omega)
  rw [show XS g m = didG g m.to.toNat (Xa (g.k m.to.toNat).N m).1 (Xa (g.k m.to.toNat).N m).2 by unfold XS; rw [if_pos hth]]
  refine zC ?_
  refine cm [9] (.yields 0 (.yields 1 (.yields 2 (.yields 3 (.yields 4 (.yields 5 (.yields 6 (.yields 7 (.yields 8 (.alt 9 (.yields 10 (.yields 11 (.yields 12 (.yields 13 (.yields 14 .done))))) .stop)))))))))) <| m_ (fun _ => Qa) <| m_ (fun _ => Qd) <| Bk ?_
  refine m_ (fun _ => Qe) <| m_ (fun _ => Qd) <| m_ (fun _ => YX) <| m_ (fun _ => Qd) <| Bk (hd := by first | rfl | assumption) ?_
  refine Tq ?_
  refine ⟨?_, trivial⟩
  refine BZ hk hperm (fun r H' ⟨hr1, hr2⟩ => ⟨?_, ?_⟩)
  ·subst hr1 hr2; exact zd
  subst hr1 hr2
  refine m_ (fun _ => Qa) <| m_ (fun _ => QH) <| m_ (fun _ => QH) <| m_ (fun _ => Qb) <| m_ (fun _ => Qb) <| zC ?_
  refine XV (B1 (z := (b3, ⟨tM, msC m (ZG m.entries), 11⟩)) (x := (bg, ⟨tG, gC g.conf a bm wv, 13⟩)) (y := (bm, ⟨.map es clk, [], 0⟩)) (W := W) (M := gM a (upA g.k m.to.toNat (Qw (g.k m.to.toNat) (Xa (g.k m.to.toNat).N m).1 0).1)) (A := mH (a m.to.toNat) (Qw (g.k m.to.toNat) (Xa (g.k m.to.toNat).N m).1 0).1) (B := gO a g.k m.to.toNat) ?_).symm ?_
  ·have := (Dv a a g.k (upA g.k m.to.toNat (Qw (g.k m.to.toNat) (Xa (g.k m.to.toNat).N m).1 0).1) h5 (fun j _ hj => ⟨rfl, by unfold upA; rw [if_neg hj]⟩)).symm
   simpa [upA] using this
  refine zC ?_
  refine cr <| s_ Qa <| s_ Qa <| s_ Qa ?_
  refine Q2 (Hr := [_]) hs (List.perm_append_comm (l₁ := [_])) (fun r H' ⟨hr1, hr2⟩ => ?_)
  subst hr1
  refine zC ?_
  exact TR (List.perm_append_comm (l₂ := [_])) (.skip _ _ _ kR) ⟨rfl, hr2⟩ (Le.refl _)
 ·intro hq'
  have hth : ¬ Q9 g m.to = true := by rw [hq]; simpa using hq'
  refine zC ?_
  refine rhn (.skip _ _ _ kR) ⟨rfl, ?_⟩ (Le.refl _)
  unfold XS
  rw [if_neg hth]
  exact ⟨a, bm, es, clk, W, wv, hA, hO, rfl⟩
end Go.Proofs.YtjbokbikkcfjjaaGreat
namespace Go.Proofs.YtjbokbikkcfjjaaGreat
open Go.Cap
structure Gn where
 ns : List Nd
 aw : List Bool
 way : List Ms
def Gn.n (g : Gn) (i : Nat) : Nd := g.ns.getD i default
def thN (g : Gn) (i : Int) : Bool := decide (isI i) && !(g.aw.getD i.toNat false)
def BI (g : Gn) (i : Nat) (t : Nd) (l : List Ms) : Gn := { g with ns := g.ns.set i t, way := g.way ++ l }
def E3 (g : Gn) (i : Int) : Gn := if thN g i then BI g i.toNat (Xh (g.n i.toNat)).1 (Xh (g.n i.toNat)).2 else g
def E5 (g : Gn) (m : Ms) : Gn := if thN g m.to then BI g m.to.toNat (Xa (g.n m.to.toNat) m).1 (Xa (g.n m.to.toNat) m).2 else g
def VI (g : Gn) (k : Nat) : Gn := (List.range k).foldl (fun g (i : Nat) => E3 g (i : Int)) g
def Eb (g : Gn) : Gn := VI (g.way.foldl E5 { g with way := [] }) 5
def Cp (g : Gn) : Nat → Gn
 | 0 => g
 | n + 1 => Eb (Cp g n)
def Bh (conf : Int) : Gn := ⟨(List.range 5).map fun (i : Nat) => QV (i : Int) conf, [false, false, false, false, false], []⟩
def prG (g : Gp) : Gn := ⟨g.ks.map (·.N), g.aw, g.way⟩
structure J5 (n0 : Nd) (K : Kp) : Prop where
 live : Y1 n0 524100 K
 left : K.d.left = 0
 room : K.d.room = 1048576
def GL (conf : Int) (g : Gp) : Prop := ∀ i : Nat, i < 5 → J5 (QV i conf) (g.k i)
section
variable {P : Nat → En → Prop} {g : Gp} {τ l u : Nat} {conf : Int}
theorem Gf (g : Gp) (i : Nat) (hi : i < g.ks.length) : (prG g).n i = (g.k i).N := by
 unfold Gn.n prG Gp.k
 simp [List.getD_eq_getElem?_getD, hi]
theorem GL.there (h : GL conf g) (i : Int) : Q9 g i = thN (prG g) i := by
 unfold Q9 thN
 by_cases hi : isI i
 ·have := (h _ (XC hi).1).live.dead
  rw [this]; simp [prG]
 ·simp [hi]
theorem J5.keep {n0 : Nd} {K : Kp} (h : J5 n0 K) {t : Nd} (hid : t.id = n0.id) (hsz : Sz t) (hr : (Qq t 0).length ≤ 524100) : (Qw K t 0).2 = 0 ∧ J5 n0 (Qw K t 0).1 ∧ (Qw K t 0).1.N = t := by
 obtain ⟨K', h1, h2, h3, h4, h5⟩ := OJ h.live h.left (by rw [h.room]; omega) hid hsz hr (by omega)
 rw [h1]
 exact ⟨rfl, ⟨h2, h4, by rw [h5]; exact h.room⟩, h3⟩
theorem GL.set (h : GL conf g) (hks : g.ks.length = 5) {i : Nat} {K : Kp} (w : List Ms) (hK : J5 (QV i conf) K) : GL conf { g with ks := g.ks.set i K, way := w } := by
 intro j hj
 rw [Gp.k_set (by rw [hks]; exact hj)]
 split
 ·rename_i e; subst e; exact hK
 ·exact h j hj
theorem GL.did (h : GL conf g) (hks : g.ks.length = 5) {i : Nat} (hi : i < 5) {t : Nd} {out : List Ms} (hid : t.id = i) (hsz : Sz t) (hr : (Qq t 0).length ≤ 524100) : GL conf (didG g i t out) ∧ prG (didG g i t out) = BI (prG g) i t out := by
 obtain ⟨h1, h2, h3⟩ := (h i hi).keep (t := t) (by rw [hid]; rfl) hsz hr
 unfold didG
 rw [if_pos h1]
 refine ⟨h.set hks _ h2, ?_⟩
 unfold prG BI
 simp only [List.map_set, h3]
theorem GL.tick (hP : PK P) (h : GL conf g) (hb : GB P g τ l u) (hu : u + 1 ≤ 25000) (i : Int) : GL conf (X8 g i) ∧ prG (X8 g i) = E3 (prG g) i := by
 unfold X8 E3
 rw [h.there]
 split
 ·rename_i hth
  have hth' : Q9 g i = true := by rw [h.there]; exact hth
  obtain ⟨h5, _⟩ := XC (YD hth')
  have hw := (hb.nb _ h5).tick hP.toPO (by have := hb.tau; omega)
  obtain ⟨hsz, hrc⟩ := hw.sz hP (by have := hb.pot h5; omega) (by have := hb.tau; omega)
  rw [Gf g _ (by rw [hb.ks]; exact h5)]
  exact h.did hb.ks h5 ((VK _).trans (hb.id _ h5)) hsz hrc
 ·exact ⟨h, rfl⟩
theorem GL.take (hP : PK P) (h : GL conf g) (hb : GB P g τ l u) (hu : u ≤ 25000) {m : Ms} (hm : MB P m τ l) : GL conf (XS g m) ∧ prG (XS g m) = E5 (prG g) m := by
 unfold XS E5
 rw [h.there]
 split
 ·rename_i hth
  have hth' : Q9 g m.to = true := by rw [h.there]; exact hth
  obtain ⟨h5, _⟩ := XC (YD hth')
  have hw := (hb.nb _ h5).take hP.toPO hm (by have := hb.tau; omega)
  obtain ⟨hsz, hrc⟩ := hw.sz hP (by have := hb.pot h5; omega) (by have := hb.tau; omega)
  rw [Gf g _ (by rw [hb.ks]; exact h5)]
  exact h.did hb.ks h5 ((VL _ _).trans (hb.id _ h5)) hsz hrc
 ·exact ⟨h, rfl⟩
theorem GL.takes (hP : PK P) (hu : u ≤ 25000) : ∀ (ms : List Ms) {g : Gp} {l : Nat}, GL conf g → GB P g τ l u → (∀ m ∈ ms, MB P m τ l) → g.way.length + ms.length ≤ 5 * (u + l) → GL conf (ms.foldl XS g) ∧ prG (ms.foldl XS g) = ms.foldl E5 (prG g)
 | [], g, l, h, _, _, _ => ⟨h, rfl⟩
 | m :: ms, g, l, h, hb, hm, hw => by
  rw [List.length_cons] at hw
  have ht := hb.tau
  obtain ⟨h1, h2⟩ := h.take hP hb hu (hm m List.mem_cons_self)
  obtain ⟨l1, h3, h4, h5⟩ := hb.take hP.toPO (by omega) (hm m List.mem_cons_self) (by omega)
  obtain ⟨h6, h7⟩ := GL.takes hP hu ms h1 h3 (fun x hx => (hm x (List.mem_cons_of_mem _ hx)).le (Nat.le_refl _) h4) (by omega)
  exact ⟨h6, by rw [List.foldl_cons, h7, h2, List.foldl_cons]⟩
theorem ML (g : Gn) (k : Nat) : VI g (k + 1) = E3 (VI g k) (k : Int) := by
 unfold VI
 rw [List.range_succ, List.foldl_append]
 rfl
theorem GL.ticks (hP : PK P) (h : GL conf g) (hb : GB P g τ l u) : ∀ k : Nat, u + k ≤ 25000 → GL conf (Je g k) ∧ prG (Je g k) = VI (prG g) k
 | 0, _ => ⟨h, rfl⟩
 | k + 1, hu => by
  have ht := hb.tau
  obtain ⟨h1, h2⟩ := GL.ticks hP h hb k (by omega)
  obtain ⟨l1, h3, _⟩ := hb.ticks hP.toPO k (by omega)
  obtain ⟨h4, h5⟩ := h1.tick hP h3 (by omega) (k : Int)
  rw [J7, ML, h5, h2]
  exact ⟨h4, rfl⟩
theorem GL.out (h : GL conf g) (w : List Ms) : GL conf { g with way := w } := h
theorem GL.round (hP : PK P) (h : GL conf g) (hb : GB P g τ l u) (hu : u + 5 ≤ 25000) : GL conf (XJ g) ∧ prG (XJ g) = Eb (prG g) := by
 have ht := hb.tau
 have hb0 := hb.out (w := []) (by simp) (by simp)
 obtain ⟨h1, h2⟩ := GL.takes hP (by omega) g.way (h.out []) hb0 hb.way (by simpa using hb.many)
 obtain ⟨l1, h3, _⟩ := GB.takes hP.toPO (by omega) g.way hb0 hb.way (by simpa using hb.many)
 obtain ⟨h4, h5⟩ := h1.ticks hP h3 5 (by omega)
 unfold XJ Eb
 exact ⟨h4, by rw [h5, h2]; rfl⟩
theorem GL.calm (hP : PK P) (h : GL conf g) (hb : GB P g τ l u) : ∀ k : Nat, u + 5 * k ≤ 25000 → GL conf (Yf g k) ∧ prG (Yf g k) = Cp (prG g) k
 | 0, _ => ⟨h, rfl⟩
 | k + 1, hu => by
  have ht := hb.tau
  obtain ⟨h1, h2⟩ := GL.calm hP h hb k (by omega)
  obtain ⟨l1, h3, _⟩ := hb.calm hP.toPO k (by omega)
  obtain ⟨h4, h5⟩ := h1.round hP h3 (by omega)
  exact ⟨h4, by show prG (XJ (Yf g k)) = _; rw [h5, h2]; rfl⟩
end
theorem Bq : ((Cp (Bh 7) 30).n 0).role = 2 := by decide +kernel
end Go.Proofs.YtjbokbikkcfjjaaGreat
namespace Go.Cap
section
variable {K : Ctx} {P : Program} {t : Env} {H : Qc} {dst : Option Tmp} {tp : TypeId} {pos : String} {aft : Array Edge} {g : Option (Nat × Bool)} {N : Env → Qc → Prop}
variable {S : Nat → Prop} {w : World} {ty ty' : TypeId}
theorem Xr.set {i b : Nat} {k k' : Blk} (hi : i < H.length) (hl : Yp k k') (hn : (keys (H.set i (b, k))).Nodup) : Xr (H.set i (b, k)) (H.set i (b, k')) := by
 refine ⟨?_, fun p hp => ?_⟩
 ·have e : keys (H.set i (b, k')) = keys (H.set i (b, k)) := by unfold keys; rw [List.map_set, List.map_set]
  rw [e]; exact hn
 ·obtain ⟨j, hj⟩ := List.mem_iff_getElem?.1 hp
  rw [List.getElem?_set] at hj
  by_cases hij : i = j
  ·subst hij
   rw [if_pos rfl, if_pos hi] at hj
   cases hj
   exact ⟨k, List.mem_iff_getElem?.2 ⟨i, by rw [List.getElem?_set, if_pos rfl, if_pos hi]⟩, hl⟩
  ·rw [if_neg hij] at hj
   exact ⟨p.2, List.mem_iff_getElem?.2 ⟨j, by rw [List.getElem?_set, if_neg hij]; exact hj⟩, Yp.refl _⟩
theorem R.heap {H' : Qc} {a : Act} {w : World} (h : R K t H a w) (hH : (keys H).Nodup → Xr H H') : R K t H' a w := by
 obtain ⟨S, h⟩ := h
 have hle := hH h.own.nodup
 exact ⟨S, h.size, h.defers, h.step, h.own.le hle, fun b hb => h.mine b (hle.sub b hb), h.env⟩
end
end Go.Cap
namespace Go.Proofs.YtjbokbikkcfjjaaGreat
open Go.Cap
attribute [local irreducible] POp Qf TO EOp Sim FnH T.gp

theorem AU {g : Gp} {k : Int} (h : Bs g k) : k.toNat < g.way.length ∧ ((k.toNat : Nat) : Int) = k ∧ (g.way.map ms)[k.toNat]? = some (ms (g.way.getD k.toNat default)) := by
 obtain ⟨h0, h1⟩ := h
 have hk : k.toNat < g.way.length := by omega
 refine ⟨hk, by omega, ?_⟩
 rw [List.getElem?_map, List.getD_eq_getElem?_getD, List.getElem?_eq_getElem hk]
 rfl
theorem CF {l : List Ms} {p : Option Addr} {n c : Nat} {W : Qc} (hO : OM l (.slice p n c) W) (hl : 0 < l.length) : ∃ b, p = some ⟨b, 0, none⟩ ∧ n = l.length ∧ W = [(b, ⟨tM, (l.map ms).flatMap T.cells, c * 11⟩)] := by
 rcases hO with ⟨h, _⟩ | ⟨b, c', e, hc, rfl⟩
 ·have : l = [] := by simpa using h
  rw [this] at hl; simp at hl
 ·cases e
  exact ⟨b, rfl, List.length_map _, rfl⟩
theorem IsG.out {bg : Nat} {g : Gp} {a : Nat → Ad} {bm : Nat} {es : List (Value × T × Nat)} {clk : Nat} {W : Qc} {wv : Value} {w : List Ms} (hA : D1 g.aw es) (hO : OM w wv W) : IsG bg { g with way := w } (gH bg g.conf a bm es clk W wv g.k) := ⟨a, bm, es, clk, W, wv, hA, hO, rfl⟩
theorem A8 {x y : Nat × Blk} {W M : Qc} : (x :: y :: (W ++ M)).Perm (W ++ (x :: y :: M)) := by
 have := UB (x := x) (y := y) (W := []) (M := W ++ M) (A := W) (B := M) (List.Perm.refl _)
 simpa using this
end Go.Proofs.YtjbokbikkcfjjaaGreat
namespace Go.Cap
theorem Iq {es : List (Value × T × Nat)} {k : Value} (x : T) (hg : Yc es k ≠ none) (k' : Value) : Yc (V5 es k x) k' = if keq k k' = true then some x else Yc es k' := by
 induction es with
 | nil => exact absurd rfl hg
 | cons e es ih =>
  rw [V5]
  by_cases h : keq e.1 k = true
  ·rw [if_pos h, Yc, Yc, Ud h]
   split <;> rfl
  ·rw [if_neg h]
   rw [Yc, if_neg h] at hg
   rw [Yc, Yc, ih hg]
   by_cases h2 : keq k k' = true
   ·have := Ud h2
    subst this
    rw [if_neg h, if_pos h2, if_pos h2]
   ·rw [if_neg h2, if_neg h2]
theorem OD {es : List (Value × T × Nat)} {k : Value} (x : T) (n : Nat) (hg : Yc es k = none) (k' : Value) : Yc (es ++ [(k, x, n)]) k' = if keq k k' = true then some x else Yc es k' := by
 induction es with
 | nil => rfl
 | cons e es ih =>
  rw [Yc] at hg
  split at hg
  ·cases hg
  ·rename_i h
   rw [List.cons_append, Yc, Yc, ih hg]
   by_cases h2 : keq k k' = true
   ·have := Ud h2
    subst this
    rw [if_neg h, if_pos h2, if_pos h2]
   ·rw [if_neg h2, if_neg h2]
end Go.Cap
namespace Go.Proofs.YtjbokbikkcfjjaaGreat
open Go.Cap
attribute [local irreducible] POp Qf TO EOp Sim FnH T.gp
theorem D1.set {aw : List Bool} {es : List (Value × T × Nat)} (h : D1 aw es) (clk : Nat) {i : Int} (hi : isI i) (b : Bool) (hl : aw.length = 5) : ∃ es' clk', Db es clk (.int .i64 i) (eB b) = .map es' clk' ∧ D1 (aw.set i.toNat b) es' := by
 have hI : IsK (.int .i64) (.int .i64 i) := rfl
 have hget : ∀ es', (∀ k', Yc es' k' = if keq (.int .i64 i) k' = true then some (eB b) else Yc es k') → ∀ j : Nat, j < 5 → (Yc es' (.int .i64 (j : Int))).getD (.v (.bool false)) = eB ((aw.set i.toNat b).getD j false) := by
  intro es' he j hj
  rw [he, List.getD_eq_getElem?_getD, List.getElem?_set]
  by_cases hij : i.toNat = j
  ·have : keq (.int .i64 i) (.int .i64 (j : Int)) = true := by simp [keq]; have := hi.1; omega
   rw [if_pos this, if_pos hij, if_pos (by omega)]; rfl
  ·have : ¬ keq (.int .i64 i) (.int .i64 (j : Int)) = true := by simp [keq]; have := hi.1; omega
   rw [if_neg this, if_neg hij, h.get j hj, List.getD_eq_getElem?_getD]
 unfold Db
 cases hg : Yc es (.int .i64 i) with
 | some y => exact ⟨_, _, rfl, h.keys.set _ _, hget _ (Iq _ (by rw [hg]; simp))⟩
 | none => exact ⟨_, _, rfl, h.keys.push hI hg _ _, hget _ (OD _ _ hg)⟩
theorem Tv {P : Nat → En → Prop} {τ l u : Nat} (bg : Nat) (g : Gp) (H : Qc) (i : Int) (b : Bool) (h : GB P g τ l u) (hG : IsG bg g H) : FnH Tryz.prog 20 [pW bg, ei i, eB b] H (fun r H' => r = eB (decide (isI i)) ∧ IsG bg (Cs g i b) H') := by
 have hT := JI bg g H i hG
 obtain ⟨a, bm, es, clk, W, wv, hA, hO, rfl⟩ := hG
 refine fe Tryz.func20 fun S0 w0 => ?_
 show Sim _ _ [(0, pW bg), (1, ei i), (2, eB b)] ((bg, ⟨tG, gC g.conf a bm wv, 13⟩) :: (bm, ⟨.map es clk, [], 0⟩) :: (W ++ gM a g.k)) _
 have hkeys := hA.keys
 refine zC ?_
 refine cr <| s_ Qb <| zC ?_
 refine cr <| s_ Qa <| s_ Qa ?_
 refine QI hT (fun r H' ⟨hr1, hr2⟩ => ?_)
 subst hr1 hr2
 refine s_ YA <| zC ?_
 refine ci ?_ ?_
 ·intro hn
  have hno : ¬ isI i := hn
  refine zC ?_
  refine cr <| s_ Qb <| zC ?_
  refine zR ?_
  refine rh kR ⟨rfl, ?_⟩ ?_
  ·unfold Cs; rw [if_neg hno]
   exact ⟨a, bm, es, clk, W, _, hA, hO, rfl⟩
  ·exact Le.of_eq (by show T.v (.bool false) = T.v (.bool (decide (isI i))); rw [decide_eq_false hno])
 ·intro hn
  have hyes : isI i := Classical.not_not.1 hn
  obtain ⟨es', clk', hput, hA'⟩ := hA.set clk hyes b h.aw
  refine zC ?_
  refine cr <| s_ Qa <| s_ Qe <| s_ Qd <| s_ Ql <| s_ Qa <| s_ Qa ?_
  refine TY hkeys ?_
  refine zC ?_
  refine cr <| s_ Qb <| zC ?_
  rw [hput]
  refine zR ?_
  refine rh kR ⟨rfl, ?_⟩ ?_
  ·unfold Cs; rw [if_pos hyes]; exact ⟨a, bm, es', clk', W, wv, hA', hO, rfl⟩
  ·exact Le.of_eq (by show T.v (.bool true) = T.v (.bool (decide (isI i))); rw [decide_eq_true hyes])
theorem IP (bg : Nat) (g : Gp) (H : Qc) (i : Int) (hi : ¬ isI i) (hG : IsG bg g H) : FnH Tryz.prog 22 [pW bg, ei i] H (fun r H' => r = .v (.pointer none) ∧ H' = H) := by
 have hT := JI bg g H i hG
 obtain ⟨a, bm, es, clk, W, wv, hA, hO, rfl⟩ := hG
 refine fe Tryz.func22 fun S0 w0 => ?_
 show Sim _ _ [(0, pW bg), (1, ei i)] ((bg, ⟨tG, gC g.conf a bm wv, 13⟩) :: (bm, ⟨.map es clk, [], 0⟩) :: (W ++ gM a g.k)) _
 refine zC ?_
 refine cr <| s_ Qb <| zC ?_
 refine cr <| s_ Qa <| s_ Qa ?_
 refine QI hT (fun r H' ⟨hr1, hr2⟩ => ?_)
 subst hr1 hr2
 refine s_ YA <| zC ?_
 refine ci (p := ¬ isI i) ?_ ?_
 ·intro _
  refine zC ?_
  refine cr <| s_ Qb <| zC ?_
  refine zR ?_
  exact rh kR ⟨rfl, rfl⟩ (Le.refl _)
 ·intro h; exact absurd hi h
theorem Lt (bg : Nat) (g : Gp) (i : Int) (hi : isI i) {a : Nat → Ad} {bm : Nat} {es : List (Value × T × Nat)} {clk : Nat} {W : Qc} {wv : Value} (hA : D1 g.aw es) (hO : OM g.way wv W) : FnH Tryz.prog 22 [pW bg, ei i] (gH bg g.conf a bm es clk W wv g.k) (fun r H' => r = pW (a i.toNat).bk ∧ H' = gH bg g.conf a bm es clk W wv g.k) := by
 have hT := JI bg g _ i ⟨a, bm, es, clk, W, wv, hA, hO, rfl⟩
 refine fe Tryz.func22 fun S0 w0 => ?_
 show Sim _ _ [(0, pW bg), (1, ei i)] ((bg, ⟨tG, gC g.conf a bm wv, 13⟩) :: (bm, ⟨.map es clk, [], 0⟩) :: (W ++ gM a g.k)) _
 have hck := EF (conf := g.conf) (a := a) (bm := bm) (wv := wv) hi
 have hp : 0 ≤ i ∧ i < 5 := hi
 refine zC ?_
 refine cr <| s_ Qb <| zC ?_
 refine cr <| s_ Qa <| s_ Qa ?_
 refine QI hT (fun r H' ⟨hr1, hr2⟩ => ?_)
 subst hr1 hr2
 refine s_ YA <| zC ?_
 refine ci (p := ¬ isI i) ?_ ?_
 ·intro h; exact absurd hi h
 ·intro _
  refine zC ?_
  refine cr <| s_ Qa <| s_ Qa <| s_ Qe <| s_ Qd <| s_ YX <| s_ Qd <| s_ (Ql (hd := by first | rfl | assumption)) <| s_ Qb <| zC ?_
  refine zR ?_
  exact rh kR ⟨rfl, rfl⟩ (Le.refl _)
theorem Lw : ∀ (A : Qc) {H : Qc}, Qh (A ++ H) H
 | [], H => kR
 | p :: A, H => .skip p _ _ (Lw A)
theorem Rk (g : Gp) (n : Nat) : Yf g (n + 1) = XJ (Yf g n) := rfl
def J8 (g : Gp) (k : Nat) : Gp := (g.way.take k).foldl XS { g with way := [] }
theorem D4 (g : Gp) {k : Nat} (hk : k < g.way.length) : J8 g (k + 1) = XS (J8 g k) (g.way.getD k default) := by
 unfold J8
 rw [List.take_succ_eq_append_getElem hk, List.foldl_append, List.getD_eq_getElem?_getD, List.getElem?_eq_getElem hk]
 rfl
theorem G6 (g : Gp) : J8 g g.way.length = g.way.foldl XS { g with way := [] } := by unfold J8; rw [List.take_length]
theorem UJ {P : Nat → En → Prop} {τ l u : Nat} (hP : PK P) (bg : Nat) (g : Gp) (H : Qc) (r : Int) (n : Nat) (hn : min (max r 0) 200 = (n : Int)) (h : GB P g τ l u) (hu : u + 5 * n ≤ 25000) (hG : IsG bg g H) : FnH Tryz.prog 11 [pW bg, ei r] H (fun r H' => r = .tup [] ∧ IsG bg (Yf g n) H') := by
 refine fe Tryz.func11 fun S0 w0 => ?_
 show Sim _ _ [(0, pW bg), (1, ei r)] H _
 refine zC ?_
 refine cr <| s_ Qa <| s_ VW <| s_ WU <| s_ Qa <| zC ?_
 rw [hn]
 apply Qo (σ := Nat × Qc) (ok := fun s => s.1 ≤ n ∧ IsG bg (Yf g s.1) s.2) (env := fun s => [(11, ei s.1), (10, ei n), (0, pW bg)]) (heap := fun s => s.2) (μ := fun s => n - s.1) (s0 := (0, H))
 ·exact ⟨Nat.zero_le _, hG⟩
 ·exact eL
 ·exact kR
 rintro ⟨j, H⟩ ⟨hj, hG⟩
 simp only at hj hG
 show Sim _ _ [(11, ei j), (10, ei n), (0, pW bg)] H _
 obtain ⟨l0, hgb, _⟩ := h.calm hP.toPO j (by have := h.tau; omega)
 obtain ⟨g0, hg0⟩ : ∃ g0, g0 = Yf g j := ⟨_, rfl⟩
 rw [← hg0] at hG hgb
 have hu0 : u + 5 * j + 5 ≤ 25000 ∨ j = n := by omega
 have ht0 := hgb.tau
 refine zC ?_
 refine cr <| s_ QU <| zC ?_
 refine ci ?_ ?_
 ·intro hlt
  have hjn : j < n := by omega
  have hu1 : u + 5 * j + 5 ≤ 25000 := by omega
  obtain ⟨a, bm, es, clk, W, wv, hA, hO, rfl⟩ := hG
  obtain ⟨p, c, rfl⟩ := hO.len
  have hml : (g0.way.map ms).length = g0.way.length := List.length_map _
  show Sim _ _ _ ((bg, ⟨tG, gC g0.conf a bm _, 13⟩) :: (bm, ⟨.map es clk, [], 0⟩) :: (W ++ gM a g0.k)) _
  refine zC ?_
  refine cr <| s_ Qa <| s_ Qe <| s_ Qd <| s_ Ql <| s_ Qb <| zC ?_
  refine cr <| s_ Qa <| s_ Qe <| s_ Qd <| Qz ?_
  refine zC ?_
  refine cr <| s_ Qa <| s_ QO <| s_ Qa <| zC ?_
  refine XV (H' := W ++ gH bg g0.conf a bm es clk [] (.slice none 0 0) g0.k) ?_ ?_
  ·exact A8
  apply Qo (σ := Nat × Qc) (ok := fun s => s.1 ≤ g0.way.length ∧ IsG bg (J8 g0 s.1) s.2) (env := fun s => [(22, ei s.1), (21, ei g0.way.length), (20, .v (.slice p (g0.way.map ms).length c)), (11, ei j), (10, ei n), (0, pW bg)]) (heap := fun s => W ++ s.2) (μ := fun s => g0.way.length - s.1) (s0 := (0, gH bg g0.conf a bm es clk [] (.slice none 0 0) g0.k))
  ·exact ⟨Nat.zero_le _, IsG.out (a := a) (bm := bm) (clk := clk) (w := []) hA Y7⟩
  ·refine ⟨?_, ?_, eL⟩
   ·apply Qi; (exact zG)
    exact Le.refl _
   ·apply Qi; (exact zG)
    exact Le.of_eq (by rw [hml]; rfl)
  ·exact kR
  ·rintro ⟨k, H⟩ ⟨hk, hG⟩
   simp only at hk hG
   show Sim _ _ [(22, ei k), (21, ei g0.way.length), (20, .v (.slice p (g0.way.map ms).length c)), (11, ei j), (10, ei n), (0, pW bg)] (W ++ H) _
   refine zC ?_
   refine cr <| s_ QU <| zC ?_
   refine ci ?_ ?_
   ·intro hlt2
    have hkl : k < g0.way.length := by omega
    have hmany := hgb.many
    have hfive := hgb.five
    have hhas : Bs g0 (k : Int) := ⟨by omega, by omega⟩
    obtain ⟨_, hkn, hget⟩ := AU hhas
    obtain ⟨bw, rfl, _, rfl⟩ := CF hO (by omega)
    obtain ⟨m, hm⟩ : ∃ m, m = g0.way.getD k default := ⟨_, rfl⟩
    have hmem : g0.way.getD k default ∈ g0.way := by
     rw [List.getD_eq_getElem?_getD, List.getElem?_eq_getElem hkl]; exact List.getElem_mem _
    obtain ⟨lk, hgk, hlk⟩ := GB.takes hP.toPO (by omega) (g0.way.take k) (hgb.out (w := []) (by simp) (by simp)) (fun x hx => hgb.way x (List.mem_of_mem_take hx)) (by have := hgb.many; rw [List.length_take]; simp only [List.length_nil]; omega)
    have hmb := (hgb.way _ hmem).le (Nat.le_refl _) hlk
    have htk := IK hP bg (J8 g0 k) H m (by rw [hm]; exact hmb) hgk (by omega) hG
    rw [show ((k : Int).toNat) = k by omega, ← hm] at hget
    show Sim _ _ _ ((bw, ⟨tM, (g0.way.map ms).flatMap T.cells, c * 11⟩) :: H) _
    refine zC ?_
    refine cr <| s_ ZE <| s_ (Xf (hc := Xs.flat (Bj g0.way) hget)) ?_
    refine Yd fun b6 _ => ?_
    refine Qz ?_
    refine zC ?_
    refine cr <| s_ Qa <| s_ Xf ?_
    refine Q2 (Hr := [_, _]) htk (List.perm_append_comm (l₁ := [_, _])) (fun r H' ⟨hr1, hr2⟩ => ?_)
    subst hr1
    refine QA (List.perm_append_comm (l₂ := [_, _])) ?_
    refine zC ?_
    refine cr <| s_ QY <| s_ Qa <| zC ?_
    refine ⟨(k + 1, H'), ⟨by simp only; omega, ?_⟩, (by simp only []; omega), ⟨?_, eL⟩, ?_⟩
    ·simp only
     rw [D4 _ hkl, ← hm]; exact hr2
    ·apply Qi; (exact zG)
     exact Le.refl _
    ·exact .skip _ _ _ kR
   ·intro hge
    have hke : k = g0.way.length := by omega
    subst hke
    rw [G6] at hG
    obtain ⟨l1, hg1, hl1⟩ := GB.takes hP.toPO (by omega) g0.way (hgb.out (w := []) (by simp) (by simp)) hgb.way (by simpa using hgb.many)
    obtain ⟨g1, hg1e⟩ : ∃ g1, g1 = g0.way.foldl XS { g0 with way := [] } := ⟨_, rfl⟩
    rw [← hg1e] at hG hg1
    refine zC ?_
    refine cr <| s_ Qa <| zC ?_
    apply Qo (σ := Nat × Qc) (ok := fun s => s.1 ≤ 5 ∧ IsG bg (Je g1 s.1) s.2) (env := fun s => [(30, ei s.1), (11, ei j), (10, ei n), (0, pW bg)]) (heap := fun s => s.2) (μ := fun s => 5 - s.1) (s0 := (0, H))
    ·exact ⟨Nat.zero_le _, hG⟩
    ·exact eL
    ·exact Lw W
    ·rintro ⟨q, H⟩ ⟨hq, hG⟩
     simp only at hq hG
     show Sim _ _ [(30, ei q), (11, ei j), (10, ei n), (0, pW bg)] H _
     refine zC ?_
     refine cr <| s_ QU <| zC ?_
     refine ci ?_ ?_
     ·intro hlt3
      have hq5 : q < 5 := by omega
      obtain ⟨lq, hgq, _⟩ := hg1.ticks hP.toPO q (by omega)
      have htk := IJ hP bg (Je g1 q) H q hgq (by omega) hG
      refine zC ?_
      refine cr <| s_ Qa <| s_ Qb <| zC ?_
      refine cr <| s_ Qa <| s_ Qa ?_
      refine QI htk (fun r H' ⟨hr1, hr2⟩ => ?_)
      subst hr1
      refine zC ?_
      refine cr <| s_ QY <| s_ Qa <| zC ?_
      refine ⟨(q + 1, H'), ⟨by simp only; omega, ?_⟩, (by simp only []; omega), ⟨?_, eL⟩, kR⟩
      ·simp only
       rw [J7]; exact hr2
      ·apply Qi; (exact zG)
       exact Le.refl _
     ·intro hge3
      have hq5 : q = 5 := by omega
      subst hq5
      refine zC ?_
      refine cr <| s_ QY <| s_ Qa <| zC ?_
      refine ⟨(j + 1, H), ⟨by simp only; omega, ?_⟩, (by simp only []; omega), ⟨?_, eL⟩, kR⟩
      ·simp only
       rw [Rk, ← hg0]
       unfold XJ
       rw [← hg1e]; exact hG
      ·apply Qi; (exact zG)
       exact Le.refl _
 ·intro hge
  have hje : j = n := by omega
  subst hje
  refine zC ?_
  refine rhn kR ⟨rfl, ?_⟩ (Le.refl _)
  rw [← hg0]; exact hG
end Go.Proofs.YtjbokbikkcfjjaaGreat
namespace Go.Cap
theorem FnH.framed {P : Program} {f : FuncId} {args : List T} {H Hs Hr : Qc} {Φ Ψ : T → Qc → Prop} (hf : FnH P f args Hs Φ) (hp : H.Perm (Hs ++ Hr)) (hΦ : ∀ r H1, Φ r H1 → ∃ H', (H1 ++ Hr).Perm H' ∧ Ψ r H') : FnH P f args H Ψ := by
 intro S w vs hw ho hr
 have hoP := ho.perm hp
 refine (hf S w vs hw hoP.left hr).mono ?_
 rintro e w' ⟨u, S', r, H1, rfl, hΦ', hrel, hown, hst, hkeys⟩
 obtain ⟨H', hP, hΨ⟩ := hΦ r H1 hΦ'
 have hsS : ∀ b ∈ keys Hs, ¬ S b := hoP.left.apart
 have hm := hst.mono hw hsS
 have hownA : Own S' w' (H1 ++ Hr) := by
  refine ⟨?_, ?_, ?_⟩
  ·rw [Qk]
   refine List.nodup_append.2 ⟨hown.nodup, hoP.right.nodup, fun b hb c hc' e => ?_⟩
   subst e
   rcases hkeys b hb with h1 | h1
   ·exact hoP.disj b h1 hc'
   ·have := hoP.right.lt b hc'; omega
  ·intro b hb hS
   rw [Qk] at hb
   rcases List.mem_append.1 hb with hb | hb
   ·exact hown.apart b hb hS
   ·rcases hst.new b hS with h1 | h1 | h1
    ·exact hoP.right.apart b hb h1
    ·have := hoP.right.lt b hb; omega
    ·exact hoP.disj b h1 hb
  ·intro p hp'
   rcases List.mem_append.1 hp' with hp' | hp'
   ·exact hown.has p hp'
   ·have hk' : p.1 ∈ keys Hr := List.mem_map.2 ⟨p, hp', rfl⟩
    have h1 := hoP.right.has p hp'
    exact h1.mono (hst.keep _ h1.lt (fun h => hoP.disj _ h hk')) hm
 have hkp : ∀ b, b ∈ keys H ↔ b ∈ keys (Hs ++ Hr) := fun b => (Ze hp).mem_iff
 refine ⟨u, S', r, H', rfl, hΨ, hrel, hownA.perm hP, hst.weaken fun b hb => .inl ((hkp b).2 (by rw [Qk]; exact List.mem_append_left _ hb)), fun b hb => ?_⟩
 have hb' : b ∈ keys (H1 ++ Hr) := (Ze hP).mem_iff.2 hb
 rw [Qk] at hb'
 rcases List.mem_append.1 hb' with h | h
 ·rcases hkeys b h with h1 | h1
  ·exact .inl ((hkp b).2 (by rw [Qk]; exact List.mem_append_left _ h1))
  ·exact .inr h1
 ·exact .inl ((hkp b).2 (by rw [Qk]; exact List.mem_append_right _ h))
end Go.Cap
