/-
  A region in whatever order its edges allow: those that only yield are walked as soon as they may be; among those that do something every order is walked, by a plan.
-/
import Derived.Test.YtjbokbikkcfjjaaGreatAat
set_option maxRecDepth 16000
set_option maxHeartbeats 8000000
set_option linter.all false
namespace Go.Cap
section
variable {K : Ctx} {ops : Array Oper} {eff : List Nat} {N : Env → Qb → Prop} {Q : Exit → Act → World → Prop}
inductive Wa where
 | done
 | yields (i : Nat) (p : Wa)
 | alt (i : Nat) (p r : Wa)
 | stop
def Run (K : Ctx) (ops : Array Oper) (eff : List Nat) (N : Env → Qb → Prop) : Wa → Env → Qb → List Q7 → Prop
 | .done => fun t H _ => N t H
 | .yields i p => fun t H pend => match ops[i]? with
  | some o => QD K ops eff i o (Run K ops eff N p) t H pend
  | none => False
 | .alt i p r => fun t H pend => (match ops[i]? with
  | some o => QD K ops eff i o (Run K ops eff N p) t H pend
  | none => False) ∧ Run K ops eff N r t H pend
 | .stop => fun _ _ _ => True
def JG (ops : Array Oper) (pre : List Nat) (i : Nat) : Bool := match ops[i]? with
 | some o => o.after.all fun e => !Region.binds .any e || QJ pre e.on
 | none => false
def XX (ops : Array Oper) (eff : List Nat) : Wa → List Nat → List Nat → Bool
 | .done, pre, seen => seen.isEmpty && (List.range ops.size).all fun j => QJ pre j
 | .yields i p, pre, seen => seen.isEmpty && !QJ eff i && !QJ pre i && JG ops pre i && XX ops eff p (i :: pre) []
 | .alt i p r, pre, seen => QJ eff i && !QJ pre i && JG ops pre i && XX ops eff p (i :: pre) [] && XX ops eff r pre (i :: seen)
 | .stop, pre, seen => !seen.isEmpty && (List.range ops.size).all fun j => QJ pre j || QJ seen j || !JG ops pre j
theorem Gu {pre : List Nat} {i : Nat} {o : Oper} (ho : ops[i]? = some o) (h : JG ops pre i = true) : ∀ e ∈ o.after, Region.binds .any e = true → e.on ∈ pre := by
 intro e he hb
 simp only [JG, ho] at h
 have h1 := Array.all_eq_true_iff_forall_mem.1 h e he
 rw [hb] at h1
 exact Qx.1 (by simpa using h1)
theorem GH {pre : List Nat} {i : Nat} {o : Oper} (ho : ops[i]? = some o) (h : ∀ e ∈ o.after, Region.binds .any e = true → e.on ∈ pre) : JG ops pre i = true := by
 simp only [JG, ho]
 refine Array.all_eq_true_iff_forall_mem.2 fun e he => ?_
 cases hb : Region.binds .any e with
 | false => rfl
 | true => simpa using Qx.2 (h e he hb)
theorem Ly {pre : List Nat} {i : Nat} (h : JG ops pre i = true) : ∃ o, ops[i]? = some o := by
 cases ho : ops[i]? with
 | none => simp [JG, ho] at h
 | some o => exact ⟨o, rfl⟩
theorem Lo {l : List Nat} {i : Nat} (h : QJ l i = false) : i ∉ l := fun hm => by rw [Qx.2 hm] at h; cases h
theorem RK {t : Env} {H : Qb} {pend : List Q7} {pre : List Nat} {i : Nat} (hi : i < ops.size) (hp : i ∉ pre) (hf : JG ops pre i = true) : ∀ (pl : Wa) (seen : List Nat), XX ops eff pl pre seen = true → Run K ops eff N pl t H pend → (seen = [] → ∀ j p, pl ≠ .yields j p) →
  i ∈ seen ∨ ∃ p o, ops[i]? = some o ∧ i ∈ eff ∧ XX ops eff p (i :: pre) [] = true ∧ QD K ops eff i o (Run K ops eff N p) t H pend
 | .done, seen, h, _, _ => by
  simp only [XX, Bool.and_eq_true] at h
  exact absurd (Qx.1 ((List.all_eq_true.1 h.2) i (List.mem_range.2 hi))) hp
 | .yields j p, seen, h, _, hn => by
  simp only [XX, Bool.and_eq_true] at h
  exact absurd rfl (hn (by simpa using h.1.1.1.1) j p)
 | .alt j p r, seen, h, hr, _ => by
  simp only [XX, Bool.and_eq_true] at h
  obtain ⟨⟨⟨⟨h1, h2⟩, h3⟩, h4⟩, h5⟩ := h
  obtain ⟨hr1, hr2⟩ := hr
  by_cases hij : i = j
  ·subst hij
   obtain ⟨o, ho⟩ := Ly h3
   rw [ho] at hr1
   exact .inr ⟨p, o, ho, Qx.1 h1, h4, hr1⟩
  ·rcases RK hi hp hf r (j :: seen) h5 hr2 (fun e => by cases e) with h | h
   ·rcases List.mem_cons.1 h with h | h
    ·exact absurd h hij
    ·exact .inl h
   ·exact .inr h
 | .stop, seen, h, _, _ => by
  simp only [XX, Bool.and_eq_true] at h
  have := (List.all_eq_true.1 h.2) i (List.mem_range.2 hi)
  rw [hf] at this
  simp only [Bool.not_true, Bool.or_false, Bool.or_eq_true] at this
  rcases this with h | h
  ·exact absurd (Qx.1 h) hp
  ·exact .inl (Qx.1 h)
structure DI (K : Ctx) (ops : Array Oper) (eff : List Nat) (N : Env → Qb → Prop) (pre : List Nat) (pl : Wa) (t : Env) (H : Qb) (pend : List Q7) (listed : Array Bool) : Prop where
 top : ∀ i ∈ pre, ∀ o, ops[i]? = some o → ∀ e ∈ o.after, Region.binds .any e = true → e.on ∈ pre
 todo : ∀ i, i < ops.size → i ∉ pre → listed.getD i true = false
 done : ∀ i ∈ pre, i ∈ eff → listed.getD i false = true
 has : ∀ i ∈ pre, i ∉ eff → listed.getD i true = false → ∃ p ∈ pend, p.i = i
 pis : ∀ p ∈ pend, p.i ∈ pre ∧ p.i ∉ eff ∧ ops[p.i]? = some p.o
 gop : ∀ p ∈ pend, listed.getD p.i true = false → (∀ H', p.F H' → GOp K.P ops t H' p.o p.d) ∧ ∀ k, p.o.dst = some k → t.get k = p.d
 now : ∀ p ∈ pend, listed.getD p.i true = false → p.F H
 closed : ∀ i o, ops[i]? = some o → listed.getD i true = true → ∀ e ∈ o.after, Region.binds .any e = true → listed.getD e.on true = true
 ok : XX ops eff pl pre [] = true
 go : Run K ops eff N pl t H pend
theorem DI.pass (hc : Zy ops K.n eff) {H : Qb} {listed : Array Bool} {tx : Env} : ∀ (pl : Wa) {pre : List Nat} {t : Env} {pend : List Q7}, DI K ops eff N pre pl t H pend listed → (∀ x, (∀ p ∈ pend, listed.getD p.i true = false → p.o.dst ≠ some x) → tx.get x = t.get x) →
  ∃ pre' pl' t' pend', DI K ops eff N pre' pl' t' H pend' listed ∧ (∀ x, (∀ p ∈ pend', listed.getD p.i true = false → p.o.dst ≠ some x) → tx.get x = t'.get x) ∧ ∀ j p, pl' ≠ .yields j p
 | .done, pre, t, pend, h, hx => ⟨pre, .done, t, pend, h, hx, fun _ _ e => by cases e⟩
 | .alt i p r, pre, t, pend, h, hx => ⟨pre, .alt i p r, t, pend, h, hx, fun _ _ e => by cases e⟩
 | .stop, pre, t, pend, h, hx => ⟨pre, .stop, t, pend, h, hx, fun _ _ e => by cases e⟩
 | .yields i p, pre, t, pend, h, hx => by
  have hok := h.ok
  simp only [XX, Bool.and_eq_true] at hok
  obtain ⟨⟨⟨⟨_, k1⟩, k2⟩, k3⟩, k4⟩ := hok
  have he : i ∉ eff := Lo (by simpa using k1)
  have hip : i ∉ pre := Lo (by simpa using k2)
  have hem : QJ eff i = false := by simpa using k1
  obtain ⟨o, ho⟩ := Ly k3
  have hgo := h.go
  simp only [Run, ho, QD, hem, cond_false] at hgo
  obtain ⟨d, F, hg, hF, hgo⟩ := hgo
  have hlt : i < ops.size := (Array.getElem?_eq_some_iff.1 ho).1
  have hed := Gu ho k3
  refine DI.pass hc p (pre := i :: pre) (t := t.put o.dst d) (pend := ⟨i, o, d, F⟩ :: pend) ⟨?_, ?_, ?_, ?_, ?_, ?_, ?_, h.closed, k4, hgo⟩ ?_
  ·intro j hj q hq e hee hb
   rcases List.mem_cons.1 hj with rfl | hj
   ·rw [ho] at hq; cases hq
    exact List.mem_cons_of_mem _ (hed e hee hb)
   ·exact List.mem_cons_of_mem _ (h.top j hj q hq e hee hb)
  ·intro j hj hn
   exact h.todo j hj fun hm => hn (List.mem_cons_of_mem _ hm)
  ·intro j hj hje
   rcases List.mem_cons.1 hj with rfl | hj
   ·exact absurd hje he
   ·exact h.done j hj hje
  ·intro j hj hje hl
   rcases List.mem_cons.1 hj with rfl | hj
   ·exact ⟨_, List.mem_cons_self, rfl⟩
   ·obtain ⟨q, hq, hqi⟩ := h.has j hj hje hl
    exact ⟨q, List.mem_cons_of_mem _ hq, hqi⟩
  ·intro q hq
   rcases List.mem_cons.1 hq with rfl | hq
   ·exact ⟨List.mem_cons_self, he, ho⟩
   ·obtain ⟨a, b, c⟩ := h.pis q hq
    exact ⟨List.mem_cons_of_mem _ a, b, c⟩
  ·intro q hq hl
   rcases List.mem_cons.1 hq with rfl | hq
   ·refine ⟨fun H' hF' => GOp.congr (hg H' hF') fun x hx' => ?_, fun k hk => ?_⟩
    ·simp only at hx'
     cases hd : o.dst with
     | none => rfl
     | some k => exact (Env.get_put_ne t d (fun e => (hc.dst i o k ho hd).2.1 (by rw [e]; exact hx'))).symm
    ·simp only at hk ⊢; rw [hk]; exact Env.get_put_self _ _ _
   ·obtain ⟨a, b, c⟩ := h.pis q hq
    exact ⟨fun H' hF' => Jv hc ho hip h.top a c (fun h5 _ => he h5) ((h.gop q hq hl).1 H' hF'), fun k hk => Jw hc ho hip a c hk ((h.gop q hq hl).2 k hk)⟩
  ·intro q hq hl
   rcases List.mem_cons.1 hq with rfl | hq
   ·exact hF
   ·exact h.now q hq hl
  ·intro x hxx
   have hne : o.dst ≠ some x := hxx ⟨i, o, d, F⟩ List.mem_cons_self (h.todo i hlt hip)
   rw [hx x fun p hp => hxx p (List.mem_cons_of_mem _ hp)]
   cases hd : o.dst with
   | none => rfl
   | some k => exact (Env.get_put_ne t d (fun e => hne (by rw [hd, e]))).symm
theorem I1 (hc : Zy ops K.n eff) (hq : ∀ t' H' a' w', N t' H' → R K t' H' a' w' → Q .normal a' w') :
  ∀ (fuel : Nat) (pre : List Nat) (pl : Wa) (t : Env) (H : Qb) (pend : List Q7) (listed : Array Bool) (tx : Env) (a : Act) (w : World), listed.size = ops.size → unl listed ops.size = fuel →
   DI K ops eff N pre pl t H pend listed → (∀ x, (∀ p ∈ pend, listed.getD p.i true = false → p.o.dst ≠ some x) → tx.get x = t.get x) → R K tx H a w → wpAnyIn (RF K.rd) 0 K.P .any ops Q fuel listed a w := by
 intro fuel
 induction fuel with
 | zero =>
  intro pre pl t H pend listed tx a w hs hf hw hx hr
  have hall : ∀ j, j < ops.size → listed.getD j true = true := fun j hj => by
   have h0 := List.length_eq_zero_iff.1 hf
   have h1 := (List.filter_eq_nil_iff.1 h0) j (List.mem_range.2 hj)
   simpa using h1
  have hlt : ∀ j o, ops[j]? = some o → j < ops.size := fun j o h => (Array.getElem?_eq_some_iff.1 h).1
  refine ⟨?_, ?_⟩
  ·refine List.eq_nil_iff_forall_not_mem.2 fun j hj => ?_
   obtain ⟨h0, o, ho, _⟩ := mem_ready.1 hj
   rw [hall j (hlt j o ho)] at h0; cases h0
  ·obtain ⟨pre, pl, t, pend, hw, hx, hnp⟩ := DI.pass hc pl hw hx
   have hin : ∀ j, j < ops.size → j ∈ pre := fun j hj => Classical.byContradiction fun hn => by
    have := hw.todo j hj hn
    rw [hall j hj] at this; cases this
   cases pl with
   | done =>
    refine hq t H a w hw.go (hr.env fun x => hx x fun p hp hl => ?_)
    rw [hall _ (hlt _ _ (hw.pis p hp).2.2)] at hl; cases hl
   | yields i p => exact absurd rfl (hnp i p)
   | alt i p r =>
    have h := hw.ok
    simp only [XX, Bool.and_eq_true] at h
    obtain ⟨o, ho⟩ := Ly h.1.1.2
    exact absurd (hin i (hlt _ _ ho)) (Lo (by simpa using h.1.1.1.2))
   | stop =>
    have h := hw.ok
    simp [XX] at h
 | succ fuel ih =>
  intro pre pl t H pend listed tx a w hs hf hw hx hr
  have hlt : ∀ j o, ops[j]? = some o → j < ops.size := fun j o h => (Array.getElem?_eq_some_iff.1 h).1
  obtain ⟨pre, pl, t, pend, hw, hx, hnp⟩ := DI.pass hc pl hw hx
  have hex : ∃ i, i < ops.size ∧ listed.getD i true = false := by
   refine Classical.byContradiction fun hne => ?_
   have : unl listed ops.size = 0 := by
    unfold unl
    rw [List.length_eq_zero_iff, List.filter_eq_nil_iff]
    intro j hj
    have hj' := List.mem_range.1 hj
    cases hv : listed.getD j true with
    | false => exact absurd ⟨j, hj', hv⟩ hne
    | true => simp
   omega
  have hmin : ∃ i, i < ops.size ∧ listed.getD i true = false ∧ ∀ j, j < i → listed.getD j true = true := by
   obtain ⟨i, hi1, hi2⟩ := hex
   induction i using Nat.strongRecOn with
   | _ i ihm =>
    by_cases h : ∀ j, j < i → listed.getD j true = true
    ·exact ⟨i, hi1, hi2, h⟩
    ·obtain ⟨j, hj⟩ := Classical.not_forall.1 h
     obtain ⟨hj1, hj2⟩ := Classical.not_imp.1 hj
     exact ihm j hj1 (by omega) (by simpa using hj2)
  obtain ⟨i0, hi0, hu0, hl0⟩ := hmin
  have hr0 : i0 ∈ Region.ready .any ops listed := mem_ready.2 ⟨hu0, ops[i0], by simp [hi0], fun e he hb => by
   have := hc.back i0 _ (by simp [hi0]) e he hb
   rw [lst (by omega)]; exact hl0 _ this⟩
  refine ⟨fun hn => (by rw [hn] at hr0; cases hr0), fun i hir => ?_⟩
  obtain ⟨hu, o, ho, hall⟩ := mem_ready.1 hir
  have hisz : i < ops.size := hlt i o ho
  have hbnd : ∀ j, j < ops.size → X4 o j = true → listed.getD j true = true := fun j hj hb => by
   obtain ⟨e, he, h1, h2⟩ := ZM.1 hb
   have := hall e he h1
   rw [h2, lst (by omega)] at this; exact this
  have hlook : ∀ x ∈ o.looksAt ops, tx.get x = t.get x := fun x hxo => hx x fun p hp hl he => by
   have hpi := (hw.pis p hp).2.2
   by_cases hne : i = p.i
   ·rw [← hne, ho] at hpi
    have e := Option.some.inj hpi
    exact (hc.dst i o x ho (e ▸ he)).2.1 hxo
   ·have := hbnd _ (hlt _ _ hpi) ((((hc.dst p.i p.o x hpi he).2.2 i o ho hne).2 hxo).resolve_right fun h => (hw.pis p hp).2.1 h.1)
    rw [this] at hl; cases hl
  have hopr : ∀ x ∈ o.op.operands, tx.ev x = t.ev x := by
   intro x hx'
   cases x with
   | tmp k' => exact hlook k' (List.mem_append_left _ (List.mem_filterMap.2 ⟨.tmp k', by simpa using hx', rfl⟩))
   | _ => rfl
  have hun := WZ hs hisz hu
  have hfu : unl (listed.setIfInBounds i true) ops.size = fuel := by omega
  have hset : ∀ j, ¬ i = j → ∀ d, (listed.setIfInBounds i true).getD j d = listed.getD j d := fun j hj d => getD_set_ne d hj
  have hcl' : ∀ i' o', ops[i']? = some o' → (listed.setIfInBounds i true).getD i' true = true → ∀ e ∈ o'.after, Region.binds .any e = true → (listed.setIfInBounds i true).getD e.on true = true := fun i' o' ho' hl e he hb => by
   by_cases hie : i = e.on
   ·rw [← hie]; exact QU (by omega) _
   ·rw [hset _ hie]
    by_cases hii : i = i'
    ·subst hii; rw [ho] at ho'; cases ho'
     exact Gc (hall e he hb)
    ·rw [hset _ hii] at hl; exact hw.closed i' o' ho' hl e he hb
  have hbr : ∀ j, XS ops 12 o j = true → listed.getD j true = true := YJ hw.closed 12 o fun e he hb => Gc (hall e he hb)
  by_cases hpre : i ∈ pre
  ·
   have hne : i ∉ eff := fun he => by
    have := hw.done i hpre he
    rw [lst (by omega)] at this
    rw [this] at hu; cases hu
   obtain ⟨p, hp, hpi⟩ := hw.has i hpre hne hu
   have hpo : p.o = o := by
    have := (hw.pis p hp).2.2
    rw [hpi, ho] at this
    exact (Option.some.inj this).symm
   obtain ⟨k, hk⟩ : ∃ k, o.dst = some k := by
    cases hd : o.dst with
    | none => exact absurd (hc.pur i o ho hd) hne
    | some k => exact ⟨k, rfl⟩
   have hF := hw.now p hp (by rw [hpi]; exact hu)
   have hg := (hw.gop p hp (by rw [hpi]; exact hu)).1 H hF
   have hgk := (hw.gop p hp (by rw [hpi]; exact hu)).2 k (by rw [hpo]; exact hk)
   rw [hpo] at hg
   obtain ⟨hkn, hself, hoth⟩ := hc.dst i o k ho hk
   have next : ∀ (S S' : Nat → Prop) (w' : World) (v : Value), R1 K tx H a w S → QH [] S w S' w' → Rel S' w' p.d v → wpAnyIn (RF K.rd) 0 K.P .any ops Q fuel (listed.setIfInBounds i true) (a.put o.dst v) w' := by
    intro S S' w' v hr1 hst hrv
    refine ih pre pl t H pend _ (tx.put o.dst p.d) _ w' (by simpa using hs) hfu ⟨hw.top, fun q hq hqn => ?_, fun j hj he => ?_, fun j hj he hlj => hw.has j hj he (by
     by_cases hij : i = j
     ·subst hij; exact hu
     ·rw [hset _ hij] at hlj; exact hlj), hw.pis, (fun q hq hl => hw.gop q hq (by
     by_cases hqi : i = q.i
     ·rw [← hqi]; exact hu
     ·rw [hset _ hqi] at hl; exact hl)), fun q hq hl => ?_, hcl', hw.ok, hw.go⟩ ?_ ⟨S', hr1.pure hst (by rw [hk]; simpa [Xg] using hkn) hrv⟩
    ·have h1 := hw.todo q hq hqn
     by_cases hqi : i = q
     ·exact absurd (hqi ▸ hpre) hqn
     ·rw [hset _ hqi]; exact h1
    ·by_cases hij : i = j
     ·subst hij; exact QU (by omega) _
     ·rw [hset _ hij]; exact hw.done j hj he
    ·by_cases hqi : i = q.i
     ·rw [← hqi, QU (by omega)] at hl; cases hl
     ·rw [hset _ hqi] at hl; exact hw.now q hq hl
    ·intro x hxx
     rw [hk]
     by_cases hkx : k = x
     ·subst hkx; rw [Env.get_put_self, hgk]
     ·rw [Env.get_put_ne _ _ hkx]
      refine hx x fun q hq hl he => ?_
      by_cases hqi : i = q.i
      ·have := (hw.pis q hq).2.2
       rw [← hqi, ho] at this
       cases this
       rw [hk] at he; cases he
       exact hkx rfl
      ·exact hxx q hq (by rw [hset _ hqi]; exact hl) he
   obtain ⟨S, hr1⟩ := hr
   have hop : ∀ x ∈ o.op.operands, Rel S w (t.ev x) (a.eval x) := fun x hx' => hopr x hx' ▸ hr1.env.ev x
   unfold wpOpIn
   simp only [ho]
   unfold GOp at hg
   cases hgu : o.guard with
   | none =>
    rw [hgu] at hg
    simp only [QX hgu a, if_true]
    exact Yz (hg S w a hr1.wf hr1.own hop) fun S' w' v hst hrv => next S S' w' v hr1 hst hrv
   | some jw =>
    obtain ⟨j, want⟩ := jw
    rw [hgu] at hg
    obtain ⟨k', b, hj, hb, hyes, hno⟩ := hg
    have hv : a.tmps.getD k' undef = b := by
     have := hr1.env k'
     rw [hlook k' (by unfold Oper.looksAt; rw [hgu]; simp [hj]), hb] at this
     exact this.v_eq
    by_cases hwb : b = .bool want
    ·simp only [(Xn hgu hj hv).1 hwb, if_true]
     exact Yz (hyes hwb S w a hr1.wf hr1.own hop) fun S' w' v hst hrv => next S S' w' v hr1 hst hrv
    ·simp only [(Xn hgu hj hv).2 hwb, Bool.false_eq_true, if_false]
     exact ⟨fun _ _ => trivial, next S S w undef hr1 (QH.refl _ hr1.wf) (by rw [hno hwb]; exact .v _)⟩
  ·
   have hedge : ∀ e ∈ o.after, Region.binds .any e = true → e.on ∈ pre := fun e he hb => by
    have h1 := hall e he hb
    have h2 := hc.back i o ho e he hb
    refine Classical.byContradiction fun hn => ?_
    have h3 := hw.todo e.on (by omega) hn
    rw [← lst (by omega), h1] at h3; cases h3
   obtain ⟨p', o', ho', hpe, hpok, hgo⟩ := (RK hisz hpre (GH ho hedge) pl [] hw.ok hw.go fun _ => hnp).resolve_left (by simp)
   rw [ho] at ho'; cases ho'
   simp only [QD, Qx.2 hpe, cond_true] at hgo
   have hgu := hc.grd i o ho hpe
   unfold wpOpIn
   simp only [ho, QX hgu a, if_true]
   refine hgo tx hopr a w hr _ Q ?_
   rintro t' H' a' w' ⟨d, pend', rfl, hpk, hdrop, hgo'⟩ hr'
   refine ih (i :: pre) p' (t.put o.dst d) H' pend' _ (tx.put o.dst d) a' w' (by simpa using hs) hfu ⟨?_, ?_, ?_, ?_, ?_, ?_, ?_, hcl', hpok, hgo'⟩ ?_ hr'
   ·intro j hj q hq e hee hb
    rcases List.mem_cons.1 hj with rfl | hj
    ·rw [ho] at hq; cases hq
     exact List.mem_cons_of_mem _ (hedge e hee hb)
    ·exact List.mem_cons_of_mem _ (hw.top j hj q hq e hee hb)
   ·intro j hj hn
    have hij : ¬ i = j := fun e => hn (e ▸ List.mem_cons_self)
    rw [hset _ hij]
    exact hw.todo j hj fun hm => hn (List.mem_cons_of_mem _ hm)
   ·intro j hj he
    by_cases hij : i = j
    ·subst hij; exact QU (by omega) _
    ·rw [hset _ hij]
     rcases List.mem_cons.1 hj with h | h
     ·exact absurd h.symm hij
     ·exact hw.done j h he
   ·intro j hj he hlj
    rcases List.mem_cons.1 hj with rfl | hj
    ·exact absurd hpe he
    ·have hij : ¬ i = j := fun e => by subst e; rw [QU (by omega)] at hlj; cases hlj
     rw [hset _ hij] at hlj
     obtain ⟨q, hq, hqj⟩ := hw.has j hj he hlj
     rcases hdrop.has q hq with h | h
     ·exact ⟨q, h, hqj⟩
     ·rw [← hqj, hbr q.i h] at hlj; cases hlj
   ·intro q hq
    obtain ⟨a1, a2, a3⟩ := hw.pis q (hdrop.sub q hq)
    exact ⟨List.mem_cons_of_mem _ a1, a2, a3⟩
   ·intro q hq hl
    replace hq := hdrop.sub q hq
    obtain ⟨a1, a2, a3⟩ := hw.pis q hq
    have hl' : listed.getD q.i true = false := by
     by_cases hqi : i = q.i
     ·rw [← hqi, QU (by omega)] at hl; cases hl
     ·rw [hset _ hqi] at hl; exact hl
    have hnb : i ∈ eff → X4 o q.i = true → False := fun _ hb => by
     have := hbnd q.i (hlt _ _ a3) hb
     rw [this] at hl'; cases hl'
    exact ⟨fun H' hF' => Jv hc ho hpre hw.top a1 a3 hnb ((hw.gop q hq hl').1 H' hF'), fun k hk => Jw hc ho hpre a1 a3 hk ((hw.gop q hq hl').2 k hk)⟩
   ·intro q hq hl
    replace hq := hdrop.sub q hq
    by_cases hqi : i = q.i
    ·rw [← hqi, QU (by omega)] at hl; cases hl
    ·rw [hset _ hqi] at hl
     refine hpk.get q hq ?_
     cases hb : XS ops 12 o q.i with
     | false => rfl
     | true =>
      rw [hbr q.i hb] at hl; cases hl
   ·intro x hxx
    replace hxx : ∀ q ∈ pend, (listed.setIfInBounds i true).getD q.i true = false → q.o.dst ≠ some x := fun q hq hl => by
     rcases hdrop.has q hq with h | h
     ·exact hxx q h hl
     ·have h2 := hbr q.i h
      by_cases hqi : i = q.i
      ·rw [← hqi, QU (by omega)] at hl; cases hl
      ·rw [hset _ hqi, h2] at hl; cases hl
    cases hd : o.dst with
    | none =>
     show tx.get x = t.get x
     refine hx x fun q hq hl he => ?_
     by_cases hqi : i = q.i
     ·exact absurd (hqi ▸ (hw.pis q hq).2.1) (fun h => h hpe)
     ·exact hxx q hq (by rw [hset _ hqi]; exact hl) he
    | some k =>
     by_cases hkx : k = x
     ·subst hkx; rw [Env.get_put_self, Env.get_put_self]
     ·rw [Env.get_put_ne _ _ hkx, Env.get_put_ne _ _ hkx]
      refine hx x fun q hq hl he => ?_
      by_cases hqi : i = q.i
      ·exact absurd (hqi ▸ (hw.pis q hq).2.1) (fun h => h hpe)
      ·exact hxx q hq (by rw [hset _ hqi]; exact hl) he
theorem Oh {t : Env} {H : Qb} {id : Nat} {Ψ : Exit → Env → Qb → Prop} (eff : List Nat) (pl : Wa) (hmix : K.P.follows .mixedOrders = true) (hc : (LG ops K.n eff && XX ops eff pl [] []) = true)
  (h : Run K ops eff (Ψ .normal) pl t H []) : Sim K (.region id ops true) t H Ψ := by
 intro a w ⟨S, hr⟩
 refine wpIn_region_any hmix ?_
 rw [Bool.and_eq_true] at hc
 have hA := Zy.of hc.1
 have hst : QH [] S w S { w with drawn := w.drawn + 1 } := ⟨rfl, rfl, rfl, Nat.le_refl _, fun _ _ _ => rfl, fun _ h => h, fun _ h => .inl h, hr.wf⟩
 have hfalse : ∀ (d : Bool) (j : Nat), j < ops.size → (Array.replicate ops.size false).getD j d = false := fun d j hj => by simp [Array.getD_eq_getD_getElem?, hj]
 have hlt : ∀ j o, ops[j]? = some o → j < ops.size := fun j o h => (Array.getElem?_eq_some_iff.1 h).1
 refine I1 hA (fun t' H' a' w' hn hr' => ⟨t', H', hn, hr'⟩) ops.size [] pl t H [] _ t a _ (by simp) ?_
  ⟨by simp, fun i hi _ => hfalse _ i hi, by simp, by simp, by simp, by simp, by simp, fun i o ho hl => ?_, hc.2, h⟩ (fun x _ => rfl)
  ⟨S, hr.size, hr.defers.step (hst.mono hr.wf (by simp)) hst.objs0 hst.size, hr.step.trans hst (by simp), hr.own.step hst hr.wf (by simp) (by simp), hr.mine, hr.env.mono (hst.mono hr.wf (by simp))⟩
 ·unfold unl
  rw [List.filter_eq_self.2]
  ·simp
  ·intro j hj
   have := List.mem_range.1 hj
   simp [Array.getD_eq_getD_getElem?, this]
 ·rw [hfalse _ i (hlt _ _ ho)] at hl; cases hl
section
variable {t : Env} {H : Qb} {kd i : Nat} {op : Op} {ty tp : TypeId} {pos : String} {aft : Array Edge} {pend : List Q7} {d : T} {x y : Operand} {rest : Env → Qb → List Q7 → Prop}
theorem cm {id : Nat} {Ψ : Exit → Env → Qb → Prop} (eff : List Nat) (pl : Wa) (h : Run K ops eff (Ψ .normal) pl t H []) (hmix : K.P.follows .mixedOrders = true := by kernel_rfl) (hc : (LG ops K.n eff && XX ops eff pl [] []) = true := by kernel_rfl) : Sim K (.region id ops true) t H Ψ := Oh eff pl hmix hc h
theorem m_F {F : Qb → Prop} (hp : ∀ H', F H' → POp K.P t H' ⟨some kd, op, tp, pos, aft, none⟩ d) (hF : F H) (h : rest ((kd, d) :: t) H (⟨i, ⟨some kd, op, tp, pos, aft, none⟩, d, F⟩ :: pend)) (he : QJ eff i = false := by rfl) : QD K ops eff i ⟨some kd, op, tp, pos, aft, none⟩ rest t H pend := by
 unfold QD
 rw [he, cond_false]
 exact ⟨d, F, fun H' h' => hp H' h', hF, h⟩
theorem m_ (hp : ∀ H', POp K.P t H' ⟨some kd, op, tp, pos, aft, none⟩ d) (h : rest ((kd, d) :: t) H (⟨i, ⟨some kd, op, tp, pos, aft, none⟩, d, fun _ => True⟩ :: pend)) (he : QJ eff i = false := by rfl) : QD K ops eff i ⟨some kd, op, tp, pos, aft, none⟩ rest t H pend := m_F (fun H' _ => hp H') trivial h he
theorem BA {b o m : Nat} {ty0 : TypeId} {cells : List T} (h : rest ((kd, d) :: t) H (⟨i, ⟨some kd, .load ty x, tp, pos, aft, none⟩, d, fun H => (b, (⟨ty0, cells, m⟩ : Blk)) ∈ H⟩ :: pend)) (hx : t.ev x = .v (.pointer (some ⟨b, o, none⟩)) := by exact zl) (hm : (b, (⟨ty0, cells, m⟩ : Blk)) ∈ H := by exact zm) (hd : cells[o]? = some d := by rfl)
  (hk : Qy K.P ty = true := by rfl) (he : QJ eff i = false := by rfl) : QD K ops eff i ⟨some kd, .load ty x, tp, pos, aft, none⟩ rest t H pend := m_F (F := fun H => (b, (⟨ty0, cells, m⟩ : Blk)) ∈ H) (fun _ h' => Qn hx h' hd hk) hm h he
theorem Bz {b o n m : Nat} {ty0 : TypeId} {cells cs : List T} [hk : UA K.P ty n] (h : rest ((kd, .agg cs) :: t) H (⟨i, ⟨some kd, .load ty x, tp, pos, aft, none⟩, .agg cs, fun H => (b, (⟨ty0, cells, m⟩ : Blk)) ∈ H⟩ :: pend)) (hx : t.ev x = .v (.pointer (some ⟨b, o, none⟩)) := by exact zl) (hm : (b, (⟨ty0, cells, m⟩ : Blk)) ∈ H := by exact zm) (hc : Xe cells o n cs := by exact zt)
  (he : QJ eff i = false := by rfl) : QD K ops eff i ⟨some kd, .load ty x, tp, pos, aft, none⟩ rest t H pend := m_F (F := fun H => (b, (⟨ty0, cells, m⟩ : Blk)) ∈ H) (fun _ h' => Xf hx h' hc) hm h he
theorem Bb {Hs Hr : Qb} {f : FuncId} {xs : Array Operand} {ats : Array TypeId} {args : List T} {Φ : T → Qb → Prop} (hf : FnH K.P f args Hs Φ) (hp : H.Perm (Hs ++ Hr))
  (hn : ∀ r H', Φ r H' → Xw ops ⟨some kd, .call ⟨.value (.func f), xs, ats⟩, tp, pos, aft, none⟩ (H' ++ Hr) pend ∧ rest ((kd, r) :: t) (H' ++ Hr) pend) (hc : Qz K.P f = true := by rfl) (ha' : EvL t xs.toList args := by exact ze) (hd : Nat.blt kd K.n = true := by rfl) (he : QJ eff i = true := by rfl) :
  QD K ops eff i ⟨some kd, .call ⟨.value (.func f), xs, ats⟩, tp, pos, aft, none⟩ rest t H pend :=
 Oa (fun _ h1 => Yo (Hr := Hr) hf hp hc (ha'.trans fun x hx => h1 x (by simp [Op.operands, Call.operands]; exact .inr (by simpa using hx))) (by simpa [Xg] using hd) fun r H' hr' => ⟨_, rfl, hn r H' hr'⟩) he
end
end
end Go.Cap
namespace Go.Proofs.YtjbokbikkcfjjaaGreat
open Go.Cap
attribute [local irreducible] POp Qf BW EOp Sim FnH T.gp
section
variable {P : Nat → En → Prop} {g : Gp} {τ l u : Nat}
theorem GB.five (h : GB P g τ l u) : 5 * l ≤ u := by have := h.fuel; omega
theorem DS {α : Type} (f : α → Nat) : ∀ (l : List α) (i : Nat) (h : i < l.length), f l[i] ≤ (l.map f).sum
 | a :: l, 0, _ => by simp
 | a :: l, i + 1, h => by
  have := DS f l i (by simpa using h)
  simp only [List.map_cons, List.sum_cons, List.getElem_cons_succ]; omega
theorem GB.pot (h : GB P g τ l u) {i : Nat} (hi : i < 5) : 5 * l + Go.Proofs.YtjbokbikkcfjjaaGreat.pot (g.k i).N ≤ u := by
 have hil : i < g.ks.length := by rw [h.ks]; exact hi
 have := DS (fun K => Go.Proofs.YtjbokbikkcfjjaaGreat.pot K.N) g.ks i hil
 have hk : g.ks[i] = g.k i := by unfold Gp.k; rw [List.getD_eq_getElem?_getD, List.getElem?_eq_getElem hil, Option.getD_some]
 rw [hk] at this
 have hf := h.fuel
 omega
theorem GB.ok (hP : PK P) (h : GB P g τ l u) (hu : u ≤ 25000) {i : Nat} (hi : i < 5) : GW (g.k i) := by
 have h5 := h.five
 have ht := h.tau
 have hk := h.ki i hi
 have hn := h.nb i hi
 exact ⟨hk.d, hn.sz hP (by omega) (by omega), by have := hn.rec_ hP (by omega); omega, hk.n0, by have := hk.n1; omega⟩
theorem UV.sz (hP : PK P) {n n' : Nd} {out : List Ms} {τ' c b : Nat} (h : UV P n n' out τ' l c b) (hl : 5 * l + Go.Proofs.YtjbokbikkcfjjaaGreat.pot n + c ≤ 25000) (ht : τ' ≤ 100000) : Sz n' ∧ (Qo n' 0).length ≤ 524100 := by
 obtain ⟨d, h1, h2, _⟩ := h
 exact ⟨h1.sz hP ht (by omega), h1.rec_ hP (by omega)⟩
theorem GB.tick_fn (hP : PK P) (h : GB P g τ l u) (hu : u + 1 ≤ 25000) {i : Nat} (hi : i < 5) : FnP Tryz.prog 76 [nd (g.k i).N] (fun r => r = .tup [nd (Xx (g.k i).N).1, mss (Xx (g.k i).N).2]) := by
 have h5 := h.five
 have ht := h.tau
 have hn := h.nb i hi
 have hp := h.pot hi
 have hlen := hn.len
 unfold Go.Proofs.YtjbokbikkcfjjaaGreat.pot at hp
 exact Go.Proofs.YtjbokbikkcfjjaaGreat.tick_fn (hn.bd hP.toPO (by omega)) (by omega) hn.term0 (by have := hn.term1; omega) hn.wait0 (by have := hn.wait0; omega) (fun i => by have := hn.next1 i; omega)
theorem GB.take_fn (hP : PK P) (h : GB P g τ l u) (hu : u ≤ 25000) {i : Nat} (hi : i < 5) {m : Ms} (hm : MB P m τ l) : FnP Tryz.prog 100 [nd (g.k i).N, ms m] (fun r => r = .tup [nd (Xr (g.k i).N m).1, mss (Xr (g.k i).N m).2]) := by
 have h5 := h.five
 have hn := h.nb i hi
 have hlen := hn.len
 have h1 := hm.idx0
 have h2 := hm.idx1
 have h3 := hm.len
 exact Go.Proofs.YtjbokbikkcfjjaaGreat.take_fn (hn.bd hP.toPO (by omega)) (hn.nbd (by omega)) (.inr ⟨by omega, by omega, by omega⟩)
end
theorem Eo {bg : Nat} {g : Gp} {a : Nat → Ad} {bm : Nat} {es : List (Value × T × Nat)} {clk : Nat} {W : Qb} {wv : Value} {i : Nat} {t : Nd} {l : List Ms} (hi : i < 5) (hks : g.ks.length = 5) (hA : DL g.aw es) (hO : OM g.way wv W) (hl : g.way.length + l.length ≤ 1000000) :
  FnH Tryz.prog 48 [pW bg, ei (QQ (g.k i) t 0).2, if (QQ (g.k i) t 0).2 = 0 then mss l else .sl true []] (gH bg g.conf a bm es clk W wv (upA g.k i (QQ (g.k i) t 0).1)) (fun r H' => r = .tup [] ∧ IsG bg (didG g i t l) H') := by
 obtain ⟨⟨K', e⟩, hk⟩ : ∃ x, QQ (g.k i) t 0 = x := ⟨_, rfl⟩
 have hG1 : IsG bg { g with ks := g.ks.set i K' } (gH bg g.conf a bm es clk W wv (upA g.k i K')) := by
  refine ⟨a, bm, es, clk, W, wv, hA, hO, ?_⟩
  unfold gH
  rw [Cp a (upA g.k i K') (Gp.k { g with ks := g.ks.set i K' }) (fun j hj => ?_)]
  have := Gp.k_set (g := g) (i := i) (j := j) (K := K') (w := g.way) (by rw [hks]; exact hj)
  rw [this]
  unfold upA
  by_cases hij : i = j
  ·subst hij; simp
  ·rw [if_neg hij, if_neg (fun e => hij e.symm)]
 rw [hk]
 simp only
 by_cases he : e = 0
 ·have hs := Mv bg _ _ e l (by simpa using hl) hG1
  rw [if_pos he] at hs ⊢
  refine hs.mono fun r H' h => ?_
  unfold didG
  rw [hk]
  simp only
  rw [if_pos he]
  exact h
 ·have hs := Mv bg _ _ e [] (by simp; omega) hG1
  rw [if_neg he] at hs ⊢
  refine (FnH.args hs (LeL.cons (Le.refl _) (LeL.cons (Le.refl _) (LeL.cons (Le.full _ _) LeL.nil)))).mono fun r H' h => ?_
  unfold didG
  rw [hk]
  simp only
  rw [if_neg he]
  exact h
theorem O9 {P : Nat → En → Prop} {τ l u : Nat} (hP : PK P) (bg : Nat) (g : Gp) (H : Qb) (i : Int) (h : GB P g τ l u) (hu : u + 1 ≤ 25000) (hG : IsG bg g H) : FnH Tryz.prog 25 [pW bg, ei i] H (fun r H' => r = .tup [] ∧ IsG bg (Je g i) H') := by
 have hT := WB bg g H i hG
 obtain ⟨a, bm, es, clk, W, wv, hA, hO, rfl⟩ := hG
 obtain ⟨q, iq, hq⟩ := IV (b := Xq g i)
 rw [hq] at hT
 refine fe Tryz.func25 fun S0 w0 => ?_
 show Sim _ _ [(0, pW bg), (1, ei i)] ((bg, ⟨tG, gC g.conf a bm wv, 13⟩) :: (bm, ⟨.map es clk, [], 0⟩) :: (W ++ gM a g.k)) _
 refine zC ?_
 refine cr <| s_ Qa <| s_ Qa ?_
 refine QP hT (fun r H' ⟨hr1, hr2⟩ => ?_)
 subst hr1 hr2
 refine zC ?_
 refine ci (p := q) ?_ ?_
 ·intro hq'
  have hth : Xq g i = true := by rw [hq]; exact decide_eq_true hq'
  have hi := YQ hth
  obtain ⟨h5, hc⟩ := YM hi
  have hw := (h.nb _ h5).tick hP.toPO (by have := h.tau; omega)
  obtain ⟨hsz, hrc⟩ := hw.sz hP (by have := h.pot h5; omega) (by have := h.tau; omega)
  have hk := OZ (a i.toNat).bk (a i.toNat).bj (a i.toNat).bd (g.k i.toNat) (h.tick_fn hP hu h5) (h.ok hP (by omega) h5) hsz (by omega)
  have hck := CQ (conf := g.conf) (a := a) (bm := bm) (wv := wv) hi
  have hperm := Wq (x := (bg, ⟨tG, gC g.conf a bm wv, 13⟩)) (y := (bm, ⟨.map es clk, [], 0⟩)) (W := W) (MC a g.k h5)
  have hout : (Xx (g.k i.toNat).N).2.length ≤ 100000 := by
   obtain ⟨d, _, h2, _, h4⟩ := hw.go
   have := h.pot h5; omega
  have hs := Eo (bg := bg) (a := a) (bm := bm) (clk := clk) (t := (Xx (g.k i.toNat).N).1) (l := (Xx (g.k i.toNat).N).2) h5 h.ks hA hO (by have := h.many; have := h.five; omega)
  rw [show Je g i = didG g i.toNat (Xx (g.k i.toNat).N).1 (Xx (g.k i.toNat).N).2 by unfold Je; rw [if_pos hth]]
  refine zC ?_
  refine cr <| s_ Qa <| s_ Qa <| s_ Qe <| s_ Qd <| s_ ZY <| s_ Qd <| s_ (Qn (hd := by first | rfl | assumption)) ?_
  refine Q4 hk hperm (fun r H' ⟨hr1, hr2⟩ => ?_)
  subst hr1 hr2
  refine QF (Wq (x := (bg, ⟨tG, gC g.conf a bm wv, 13⟩)) (y := (bm, ⟨.map es clk, [], 0⟩)) (W := W) (M := gM a (upA g.k i.toNat (QQ (g.k i.toNat) (Xx (g.k i.toNat).N).1 0).1)) (A := mH (a i.toNat) (QQ (g.k i.toNat) (Xx (g.k i.toNat).N).1 0).1) (B := gO a g.k i.toNat) ?_).symm ?_
  ·have := (Co a a g.k (upA g.k i.toNat (QQ (g.k i.toNat) (Xx (g.k i.toNat).N).1 0).1) h5 (fun j _ hj => ⟨rfl, by unfold upA; rw [if_neg hj]⟩)).symm
   simpa [upA] using this
  refine s_ Qa <| s_ QL <| s_ QL <| s_ Qc <| s_ Qc <| zC ?_
  refine cr <| s_ Qa <| s_ Qa <| s_ Qa ?_
  refine QP hs (fun r H' ⟨hr1, hr2⟩ => ?_)
  subst hr1
  refine zC ?_
  exact rhn kR ⟨rfl, hr2⟩ (Le.refl _)
 ·intro hq'
  have hth : ¬ Xq g i = true := by rw [hq]; simpa using hq'
  refine zC ?_
  refine rhn kR ⟨rfl, ?_⟩ (Le.refl _)
  unfold Je
  rw [if_neg hth]
  exact ⟨a, bm, es, clk, W, wv, hA, hO, rfl⟩
theorem Cb {z x y : Nat × Blk} {W M A B : Qb} (h : M.Perm (A ++ B)) : (z :: x :: y :: (W ++ M)).Perm (A ++ (z :: x :: y :: (W ++ B))) :=
 ((Wq (x := x) (y := y) (W := W) h).cons z).trans (List.perm_middle (a := z) (l₁ := A)).symm
theorem Mu {P : Nat → En → Prop} {τ l u : Nat} (hP : PK P) (bg : Nat) (g : Gp) (H : Qb) (m : Ms) (hm : MB P m τ l) (h : GB P g τ l u) (hu : u ≤ 25000) (hG : IsG bg g H) : FnH Tryz.prog 35 [pW bg, ms m] H (fun r H' => r = .tup [] ∧ IsG bg (XT g m) H') := by
 have hT := WB bg g H m.to hG
 obtain ⟨a, bm, es, clk, W, wv, hA, hO, rfl⟩ := hG
 obtain ⟨q, iq, hq⟩ := IV (b := Xq g m.to)
 rw [hq] at hT
 refine fe Tryz.func35 fun S0 w0 => ?_
 show Sim _ _ [(0, pW bg), (1, T.agg (msC m (Y5 m.entries)))] ((bg, ⟨tG, gC g.conf a bm wv, 13⟩) :: (bm, ⟨.map es clk, [], 0⟩) :: (W ++ gM a g.k)) _
 refine zC ?_
 apply cr
 refine XW fun b3 _ => ?_
 refine zC ?_
 refine cr <| s_ Qa <| s_ Qd <| s_ Qn ?_
 refine Q4 (Hr := [_]) hT (List.perm_append_comm (l₁ := [_])) (fun r H' ⟨hr1, hr2⟩ => ?_)
 subst hr1 hr2
 refine QF (List.perm_append_comm (l₂ := [_])) ?_
 show Qf _ _ _ _ _ ((b3, ⟨tM, msC m (Y5 m.entries), 11⟩) :: (bg, ⟨tG, gC g.conf a bm wv, 13⟩) :: (bm, ⟨.map es clk, [], 0⟩) :: (W ++ gM a g.k)) _
 refine zC ?_
 refine ci (p := q) ?_ ?_
 ·intro hq'
  have hth : Xq g m.to = true := by rw [hq]; exact decide_eq_true hq'
  have hi := YQ hth
  obtain ⟨h5, hc⟩ := YM hi
  have hp : 0 ≤ m.to ∧ m.to < 5 := hi
  have hw := (h.nb _ h5).take hP.toPO hm (by have := h.tau; omega)
  obtain ⟨hsz, hrc⟩ := hw.sz hP (by have := h.pot h5; omega) (by have := h.tau; omega)
  have hk := O0 (a m.to.toNat).bk (a m.to.toNat).bj (a m.to.toNat).bd (g.k m.to.toNat) m (h.take_fn hP hu h5 hm) (h.ok hP (by omega) h5) hsz (by omega)
  have hck := CQ (conf := g.conf) (a := a) (bm := bm) (wv := wv) hi
  have hperm := Cb (z := (b3, ⟨tM, msC m (Y5 m.entries), 11⟩)) (x := (bg, ⟨tG, gC g.conf a bm wv, 13⟩)) (y := (bm, ⟨.map es clk, [], 0⟩)) (W := W) (MC a g.k h5)
  have hout : (Xr (g.k m.to.toNat).N m).2.length ≤ 100000 := by
   obtain ⟨d, _, h2, _, h4⟩ := hw.go
   have := h.pot h5; omega
  have hs := Eo (bg := bg) (a := a) (bm := bm) (clk := clk) (t := (Xr (g.k m.to.toNat).N m).1) (l := (Xr (g.k m.to.toNat).N m).2) h5 h.ks hA hO (by have := h.many; have := h.five; omega)
  rw [show XT g m = didG g m.to.toNat (Xr (g.k m.to.toNat).N m).1 (Xr (g.k m.to.toNat).N m).2 by unfold XT; rw [if_pos hth]]
  refine zC ?_
  refine cm [9] (.yields 0 (.yields 1 (.yields 2 (.yields 3 (.yields 4 (.yields 5 (.yields 6 (.yields 7 (.yields 8 (.alt 9 (.yields 10 (.yields 11 (.yields 12 (.yields 13 (.yields 14 .done))))) .stop)))))))))) <| m_ (fun _ => Qa) <| m_ (fun _ => Qd) <| BA ?_
  refine m_ (fun _ => Qe) <| m_ (fun _ => Qd) <| m_ (fun _ => ZY) <| m_ (fun _ => Qd) <| BA (hd := by first | rfl | assumption) ?_
  refine Bz ?_
  refine ⟨?_, trivial⟩
  refine Bb hk hperm (fun r H' ⟨hr1, hr2⟩ => ⟨?_, ?_⟩)
  ·subst hr1 hr2; exact zd
  subst hr1 hr2
  refine m_ (fun _ => Qa) <| m_ (fun _ => QL) <| m_ (fun _ => QL) <| m_ (fun _ => Qc) <| m_ (fun _ => Qc) <| zC ?_
  refine X9 (Cb (z := (b3, ⟨tM, msC m (Y5 m.entries), 11⟩)) (x := (bg, ⟨tG, gC g.conf a bm wv, 13⟩)) (y := (bm, ⟨.map es clk, [], 0⟩)) (W := W) (M := gM a (upA g.k m.to.toNat (QQ (g.k m.to.toNat) (Xr (g.k m.to.toNat).N m).1 0).1)) (A := mH (a m.to.toNat) (QQ (g.k m.to.toNat) (Xr (g.k m.to.toNat).N m).1 0).1) (B := gO a g.k m.to.toNat) ?_).symm ?_
  ·have := (Co a a g.k (upA g.k m.to.toNat (QQ (g.k m.to.toNat) (Xr (g.k m.to.toNat).N m).1 0).1) h5 (fun j _ hj => ⟨rfl, by unfold upA; rw [if_neg hj]⟩)).symm
   simpa [upA] using this
  refine zC ?_
  refine cr <| s_ Qa <| s_ Qa <| s_ Qa ?_
  refine Q4 (Hr := [_]) hs (List.perm_append_comm (l₁ := [_])) (fun r H' ⟨hr1, hr2⟩ => ?_)
  subst hr1
  refine zC ?_
  exact BY (List.perm_append_comm (l₂ := [_])) (.skip _ _ _ kR) ⟨rfl, hr2⟩ (Le.refl _)
 ·intro hq'
  have hth : ¬ Xq g m.to = true := by rw [hq]; simpa using hq'
  refine zC ?_
  refine rhn (.skip _ _ _ kR) ⟨rfl, ?_⟩ (Le.refl _)
  unfold XT
  rw [if_neg hth]
  exact ⟨a, bm, es, clk, W, wv, hA, hO, rfl⟩
end Go.Proofs.YtjbokbikkcfjjaaGreat
namespace Go.Cap
section
variable {K : Ctx} {P : Program} {t : Env} {H : Qb} {dst : Option Tmp} {tp : TypeId} {pos : String} {aft : Array Edge} {g : Option (Nat × Bool)} {N : Env → Qb → Prop}
variable {S : Nat → Prop} {w : World} {ty ty' : TypeId}
theorem Xj.set {i b : Nat} {k k' : Blk} (hi : i < H.length) (hl : X5 k k') (hn : (keys (H.set i (b, k))).Nodup) : Xj (H.set i (b, k)) (H.set i (b, k')) := by
 refine ⟨?_, fun p hp => ?_⟩
 ·have e : keys (H.set i (b, k')) = keys (H.set i (b, k)) := by unfold keys; rw [List.map_set, List.map_set]
  rw [e]; exact hn
 ·obtain ⟨j, hj⟩ := List.mem_iff_getElem?.1 hp
  rw [List.getElem?_set] at hj
  by_cases hij : i = j
  ·subst hij
   rw [if_pos rfl, if_pos hi] at hj
   cases hj
   exact ⟨k, List.mem_iff_getElem?.2 ⟨i, by rw [List.getElem?_set, if_pos rfl, if_pos hi]⟩, hl⟩
  ·rw [if_neg hij] at hj
   exact ⟨p.2, List.mem_iff_getElem?.2 ⟨j, by rw [List.getElem?_set, if_neg hij]; exact hj⟩, X5.refl _⟩
theorem R.heap {H' : Qb} {a : Act} {w : World} (h : R K t H a w) (hH : (keys H).Nodup → Xj H H') : R K t H' a w := by
 obtain ⟨S, h⟩ := h
 have hle := hH h.own.nodup
 exact ⟨S, h.size, h.defers, h.step, h.own.le hle, fun b hb => h.mine b (hle.sub b hb), h.env⟩
theorem Om {i : Nat} {p : Nat × Blk} (h : H[i]? = some p) : H.set i p = H := by
 refine List.ext_getElem? fun j => ?_
 rw [List.getElem?_set]
 split
 ·rename_i e; subst e; rw [h, if_pos (List.getElem?_eq_some_iff.1 h).1]
 ·rfl
theorem WS {e : BTy} {cs r : List T} {n : Nat} : X5 ⟨e, cs ++ r, n⟩ ⟨e, cs, n⟩ := ⟨rfl, rfl, by simp, by simp only; rw [List.take_left]; exact LeL.refl _⟩
theorem CB {x l h m : Operand} {p : Option Addr} {n c : Nat} {k k' k2 : IntKind} {i j q : Int} {d : T} {by_ : Nat} [hz : Qv P ty d by_] (h0 : 0 ≤ i) (h1 : i ≤ j) (h2 : j ≤ q) (h3 : q ≤ c) (hx : t.ev x = .v (.slice p n c) := by exact zl) (hl : t.ev l = .v (.int k i) := by exact zl) (hh : t.ev h = .v (.int k' j) := by exact zl) (hm : t.ev m = .v (.int k2 q) := by exact zl) :
  POp P t H ⟨dst, .slice ty x (some l) (some h) (some m), tp, pos, aft, g⟩ .any :=
 POp.still fun S w a _ _ hr => by
  have e1 := hr x (by simp [Op.operands]); rw [hx] at e1
  have e2 := hr l (by simp [Op.operands]); rw [hl] at e2
  have e3 := hr h (by simp [Op.operands]); rw [hh] at e3
  have e4 := hr m (by simp [Op.operands]); rw [hm] at e4
  obtain ⟨e, inf, hu, hinf, hs, hp⟩ := XQ (P := P) (ty := ty) (d := d) (by_ := by_)
  have hb1 : (Instr.sliceBounds true n c (some (a.eval l)) (some (a.eval h)) (some (a.eval m))).run P w = .ok (i.toNat, j.toNat, q.toNat) w := by
   rw [e2.v_eq, e3.v_eq, e4.v_eq]
   simp [Instr.sliceBounds, QO (P := P) (show 0 ≤ q by omega) (show q ≤ (c : Nat) by omega), QO (P := P) (show 0 ≤ j by omega) (show j ≤ (q.toNat : Nat) by omega), QO (P := P) h0 (show i ≤ (j.toNat : Nat) by omega)]
  refine ⟨.slice (if q.toNat = i.toNat then p else p.map (·.add (i.toNat * inf.size))) (j.toNat - i.toNat) (q.toNat - i.toNat), ?_, .any _⟩
  cases p with
  | none => simp [execOp, e1.v_eq, Instr.sliceAt, Instr.slice, run_underlying hu, hb1, Qr hinf]
  | some a =>
   by_cases hq : q.toNat = i.toNat
   ·simp [execOp, e1.v_eq, Instr.sliceAt, Instr.slice, run_underlying hu, hb1, Qr hinf, hq]
   ·simp [execOp, e1.v_eq, Instr.sliceAt, Instr.slice, run_underlying hu, hb1, Qr hinf, hq]
theorem Bg {v : Value} {x l h : Operand} {p : Option Addr} {n c : Nat} {k k' : IntKind} {i j : Int} {d : T} {by_ : Nat} [hz : Qv P ty d by_] (he : XU d.cells.length p c i.toNat (j.toNat - i.toNat) = v) (h0 : 0 ≤ i) (h1 : i ≤ j) (h2 : j ≤ c) (hx : t.ev x = .v (.slice p n c) := by exact zl) (hl : t.ev l = .v (.int k i) := by exact zl) (hh : t.ev h = .v (.int k' j) := by exact zl) :
  POp P t H ⟨dst, .slice ty x (some l) (some h) none, tp, pos, aft, g⟩ (.v v) :=
 POp.still fun S w a _ _ hr => by
  have e1 := hr x (by simp [Op.operands]); rw [hx] at e1
  have e2 := hr l (by simp [Op.operands]); rw [hl] at e2
  have e3 := hr h (by simp [Op.operands]); rw [hh] at e3
  obtain ⟨e, inf, hu, hinf, hs, hp⟩ := XQ (P := P) (ty := ty) (d := d) (by_ := by_)
  have := UY (P := P) (w := w) (p := p) (n := n) (c := c) (lo := i.toNat) (hi := j.toNat) (ol := some (a.eval l)) (oh := some (a.eval h)) (om := none) hu hinf (by
   rw [e2.v_eq, e3.v_eq]
   simp [Instr.sliceBounds, QO (P := P) (show 0 ≤ j by omega) (show j ≤ (c : Nat) by omega), QO (P := P) h0 (show i ≤ (j.toNat : Nat) by omega)])
  rw [hs, he] at this
  exact ⟨_, by simp [execOp, e1.v_eq, this], .v _⟩
theorem VM {x y : Operand} {b n c i j kk : Nat} {e : TypeId} {cells : List T} {d : T} {by_ : Nat} {kd : Tmp} [hz : Qv K.P ty d by_] (hkd : d.cells.length = kk) (hx : t.ev x = .v (.slice (some ⟨b, 0, none⟩) i c)) (hy : t.ev y = .v (XU kk (some ⟨b, 0, none⟩) c j (n - j)))
  {H' : Qb} (hrp : ZO H (b, ⟨e, cells, c * kk⟩) (b, ⟨e, cells.take (i * kk) ++ cells.drop (j * kk), c * kk⟩) H') (hl : cells.length = n * kk) (hn : n ≤ c) (hij : i ≤ j) (hj : j ≤ n) (hleaf : Qq cells = true) (hs : QE K.P ty' = true) (hd : Nat.blt kd K.n = true)
  (h : N ((kd, .v (.slice (some ⟨b, 0, none⟩) (i + (n - j)) c)) :: t) H') :
  EOp K t H ⟨some kd, .call ⟨.builtin .append, #[x, y], #[ty, ty']⟩, tp, pos, aft, g⟩ N := by
 subst hkd
 obtain ⟨i0, hi0, rfl⟩ := hrp
 refine EOp.of_w (fun c e => by cases e) ?_
 intro a w ⟨S, hr⟩ Kc Q hk
 have h1 := hr.env.ev x; rw [hx] at h1
 have h2 := hr.env.ev y; rw [hy] at h2
 obtain ⟨el, inf, z, hu, hinf, hzz, hsz, hp, rfl, hby⟩ := XN hz.h
 obtain ⟨e', _, hu', _⟩ := X7 hs
 have hlv := QY z
 generalize hkk : (T.ofVal z).cells.length = kk at *
 have hk0 : 0 < kk := by omega
 have hinfs : inf.size = kk := by omega
 obtain ⟨cs, hbk, hcs, hcl, hrl⟩ := (hr.own.at hi0).row rfl
 simp only at hcs hcl hrl
 have hcsl : cs.toList.length = c * kk := by rw [Array.length_toList]; exact hcs
 have hnk : n * kk ≤ c * kk := Nat.mul_le_mul_right _ hn
 have hjk : j * kk ≤ n * kk := Nat.mul_le_mul_right _ hj
 have hik : i * kk ≤ j * kk := Nat.mul_le_mul_right _ hij
 have hsub : (n - j) * kk = n * kk - j * kk := Nat.sub_mul _ _ _
 have hread : Qp S w (cells.drop (j * kk)) ((cs.toList.drop (j * kk)).take ((n - j) * kk)) := by
  have := hrl.drop (j * kk)
  rw [hl, List.drop_take] at this
  rw [hsub]; exact this
 generalize hus : (cs.toList.drop (j * kk)).take ((n - j) * kk) = us at hread
 have hul : us.length = (n - j) * kk := by rw [← hus, List.length_take, List.length_drop]; omega
 have hfc : (Builtin.firstCells inf.size (n - j) (XU kk (some ⟨b, 0, none⟩) c j (n - j))).run K.P w = .ok us.toArray w := by
  rw [hinfs]
  unfold XU
  simp only [Option.map_some, Builtin.firstCells]
  by_cases hcj : c = j
  ·have h0 : n - j = 0 := by omega
   rw [if_pos hcj, h0]
   rw [h0] at hul
   have : us = [] := List.length_eq_zero_iff.1 (by omega)
   rw [this]
   exact Yl (b := b) (o := 0) (n := 0 * kk) hbk [] (by simp) (by simp)
  ·rw [if_neg hcj, Addr.add_mk]
   exact Yl (b := b) (o := 0 + j * kk) hbk us hul (by rw [Nat.zero_add]; exact hus)
 have hlen : (Builtin.lenOf (XU kk (some ⟨b, 0, none⟩) c j (n - j))).run K.P w = .ok (n - j) w := by simp [XU, Builtin.lenOf]
 have hleaf' : Qq (cells.drop (j * kk)) = true := by
  unfold Qq at hleaf ⊢
  rw [List.all_eq_true] at hleaf ⊢
  exact fun q hq => hleaf q (List.mem_of_mem_drop hq)
 have hst := XI (P := K.P) (o := 0 + i * inf.size) hbk us (by rw [hinfs, hul]; omega) (ZG hread hleaf')
 have e1 : (execOp a.eval ⟨some kd, .call ⟨.builtin .append, #[x, y], #[ty, ty']⟩, tp, pos, aft, g⟩).run K.P w = ((Builtin.append_ #[ty, ty'] tp #[a.eval x, a.eval y]).run K.P w).andThen fun v w' => .ok (.value v) w' := by
  simp [execOp, resolve, invoke, builtin]
 unfold Oper.wp
 rw [e1, h1.v_eq, h2.v_eq, UE (tp := tp) hu hu' hinf hlen (by omega) hfc hst]
 obtain ⟨s1, s2, s3, s4, s5, s6⟩ := Yy (cs' := (lay cs.toList (0 + i * inf.size) us).toArray) hbk
 have hon : 0 + i * inf.size = i * kk := by rw [hinfs, Nat.zero_add]
 have hdl : (cells.drop (j * kk)).length = (n - j) * kk := by rw [List.length_drop, hl, hsub]
 have hw := hr.write (ty1 := e) rfl (xs := cells.drop (j * kk)) (us := us) (o := i * kk) hi0 (by simp only; omega) (by simp only; rw [hdl]; omega) s4 s5 s6 s3 s2 s1 (fun cs2 h2 => by rw [hbk] at h2; cases h2; rw [hon]) hread
 have hlay : lay cells (i * kk) (cells.drop (j * kk)) = (cells.take (i * kk) ++ cells.drop (j * kk)) ++ cells.drop (i * kk + (cells.drop (j * kk)).length) := rfl
 simp only at hw
 rw [hlay] at hw
 have hil : i0 < H.length := (List.getElem?_eq_some_iff.1 hi0).1
 have hw2 := R.heap ⟨S, hw⟩ (fun hnd => Xj.set hil WS hnd)
 obtain ⟨S2, hw2⟩ := hw2
 refine hk _ _ _ _ h ⟨S2, ?_⟩
 exact ⟨by simp [hw2.size], hw2.defers.put (dst := some kd) hd, hw2.step, hw2.own, hw2.mine, hw2.env.put (dst := some kd) (by rw [hw2.size]; exact hd) (.v _)⟩
theorem Ba {ops : Array Oper} {eff : List Nat} {q : Nat} {rest : Env → Qb → List Q7 → Prop} {pend : List Q7} {x y : Operand} {b n c i j kk : Nat} {e : TypeId} {cells cells' : List T} {d : T} {by_ : Nat} {kd : Tmp} {H' : Qb} [hz : Qv K.P ty d by_] (hl : cells.length = n * kk) (hn : n ≤ c) (hij : i ≤ j) (hj : j ≤ n) (hleaf : Qq cells = true)
  (hcs : cells.take (i * kk) ++ cells.drop (j * kk) = cells')
  (h : Xw ops ⟨some kd, .call ⟨.builtin .append, #[x, y], #[ty, ty']⟩, tp, pos, aft, none⟩ H' pend ∧ rest ((kd, .v (.slice (some ⟨b, 0, none⟩) (i + (n - j)) c)) :: t) H' pend)
  (hx : t.ev x = .v (.slice (some ⟨b, 0, none⟩) i c) := by exact zl) (hy : t.ev y = .v (XU kk (some ⟨b, 0, none⟩) c j (n - j)) := by exact zl) (hkd : d.cells.length = kk := by rfl) (hr : ZO H (b, ⟨e, cells, c * kk⟩) (b, ⟨e, cells', c * kk⟩) H' := by exact zr) (hs : QE K.P ty' = true := by rfl) (hd : Nat.blt kd K.n = true := by rfl) (he : QJ eff q = true := by rfl) :
  QD K ops eff q ⟨some kd, .call ⟨.builtin .append, #[x, y], #[ty, ty']⟩, tp, pos, aft, none⟩ rest t H pend := by
 subst hcs
 exact Oa (fun t0 h1 => VM hkd ((h1 x (by simp [Op.operands, Call.operands])).trans hx) ((h1 y (by simp [Op.operands, Call.operands])).trans hy) hr hl hn hij hj hleaf hs hd ⟨_, rfl, h⟩) he
theorem VI {x : Operand} {b n c m kk : Nat} {e : TypeId} {cells : List T} {d : T} {by_ : Nat} [hz : Qv K.P ty d by_] (hkd : d.cells.length = kk) (hx : t.ev x = .v (XU kk (some ⟨b, 0, none⟩) c m (n - m)))
  (hm : (b, (⟨e, cells, c * kk⟩ : Blk)) ∈ H) (hl : cells.length = m * kk) (hmn : m ≤ n) (hn : n ≤ c) (hleaf : Qq d.cells = true) (h : N t H) : EOp K t H ⟨none, .call ⟨.builtin .clear, #[x], #[ty]⟩, tp, pos, aft, g⟩ N := by
 subst hkd
 obtain ⟨i0, hi0⟩ := List.mem_iff_getElem?.1 hm
 refine EOp.of_w (fun c e => by cases e) ?_
 intro a w ⟨S, hr⟩ Kc Q hk
 have h1 := hr.env.ev x; rw [hx] at h1
 obtain ⟨el, inf, z, hu, hinf, hzz, hsz, hp, rfl, hby⟩ := XN hz.h
 have hlv := QY z
 have e1 : (execOp a.eval ⟨none, .call ⟨.builtin .clear, #[x], #[ty]⟩, tp, pos, aft, g⟩).run K.P w = ((Builtin.clear_ #[ty] tp #[a.eval x]).run K.P w).andThen fun v w' => .ok (.value v) w' := by
  simp [execOp, resolve, invoke, builtin]
 unfold Oper.wp
 rw [e1, h1.v_eq]
 by_cases h0 : n - m = 0
 ·have : (Builtin.clear_ #[ty] tp #[XU (T.ofVal z).cells.length (some ⟨b, 0, none⟩) c m (n - m)]).run K.P w = .ok (.tuple #[]) w := by
   rw [h0]; simp [Builtin.clear_, XU, run_underlying hu]
  rw [this]
  exact hk _ _ _ _ h ⟨S, hr⟩
 ·generalize hkk : (T.ofVal z).cells.length = kk at *
  have hk0 : 0 < kk := by omega
  obtain ⟨cs, hbk, hcs, hcl, hrl⟩ := (hr.own.at hi0).row rfl
  simp only at hcs hcl hrl
  have hcsl : cs.toList.length = c * kk := by rw [Array.length_toList]; exact hcs
  have hnk : n * kk ≤ c * kk := Nat.mul_le_mul_right _ hn
  have hmk : m * kk ≤ n * kk := Nat.mul_le_mul_right _ hmn
  have hsub : (n - m) * kk = n * kk - m * kk := Nat.sub_mul _ _ _
  have hzr : Qp S w (T.ofVal z).cells z.cells.toList := (Rel.ofVal z).cells (by omega)
  have hrel := Wl hzr (n - m)
  have hzl : (Builtin.zeroCells z.cells (n - m)).toList = (List.replicate (n - m) z.cells.toList).flatten := by
   unfold Builtin.zeroCells; exact Vq z.cells (n - m)
  rw [← hzl] at hrel
  have hxl : ((List.replicate (n - m) (T.ofVal z).cells).flatten).length = (n - m) * kk := by rw [YA, hkk]
  have hul := hrel.length
  have hlf : Qq ((List.replicate (n - m) (T.ofVal z).cells).flatten) = true := by
   unfold Qq at hleaf ⊢
   rw [List.all_eq_true] at hleaf ⊢
   intro q hq
   obtain ⟨r, h5, h6⟩ := List.mem_flatten.1 hq
   rw [List.eq_of_mem_replicate h5] at h6
   exact hleaf q h6
  have hst := XI (P := K.P) (o := 0 + m * kk) hbk (Builtin.zeroCells z.cells (n - m)).toList (by rw [hul, hxl]; omega) (ZG hrel hlf)
  obtain ⟨n', hn'⟩ : ∃ n', n - m = n' + 1 := ⟨n - m - 1, by omega⟩
  have hzv : ∀ w : World, (zeroValue el).run K.P w = .ok z w := fun w => by simp [zeroValue, typeInfo, hinf, hzz]
  have hrun : (Builtin.clear_ #[ty] tp #[XU kk (some ⟨b, 0, none⟩) c m (n - m)]).run K.P w = .ok (.tuple #[]) (w.setRow b (lay cs.toList (0 + m * kk) (Builtin.zeroCells z.cells (n - m)).toList).toArray) := by
   have hcm : ¬ c = m := by omega
   have e2 : XU kk (some ⟨b, 0, none⟩) c m (n - m) = .slice (some ⟨b, 0 + m * kk, none⟩) (n - m) (c - m) := by
    unfold XU; simp only [Option.map_some, if_neg hcm, Addr.add_mk]
   rw [e2]
   generalize hq : n - m = q at hst hn' ⊢
   subst hn'
   simp only [Nat.zero_add] at hst
   simp [Builtin.clear_, run_underlying hu, hzv, hst]
  rw [hrun]
  obtain ⟨s1, s2, s3, s4, s5, s6⟩ := Yy (cs' := (lay cs.toList (0 + m * kk) (Builtin.zeroCells z.cells (n - m)).toList).toArray) hbk
  have hw := hr.write (ty1 := e) rfl (xs := (List.replicate (n - m) (T.ofVal z).cells).flatten) (us := (Builtin.zeroCells z.cells (n - m)).toList) (o := m * kk) hi0 (by simp only; omega) (by simp only; rw [hxl]; omega) s4 s5 s6 s3 s2 s1 (fun cs2 h2 => by rw [hbk] at h2; cases h2; rw [Nat.zero_add]) hrel
  have hlay : lay cells (m * kk) ((List.replicate (n - m) (T.ofVal z).cells).flatten) = cells ++ (List.replicate (n - m) (T.ofVal z).cells).flatten := by
   unfold lay
   rw [← hl, List.take_length, List.drop_of_length_le (by omega), List.append_nil]
  simp only at hw
  rw [hlay] at hw
  have hil : i0 < H.length := (List.getElem?_eq_some_iff.1 hi0).1
  have hw2 := R.heap ⟨S, hw⟩ (fun hnd => Xj.set hil WS hnd)
  rw [Om hi0] at hw2
  exact hk _ _ _ _ h hw2
end
end Go.Cap
namespace Go.Proofs.YtjbokbikkcfjjaaGreat
open Go.Cap
attribute [local irreducible] POp Qf BW EOp Sim FnH T.gp
theorem Iu (l : List Ms) : Qq ((l.map ms).flatMap T.cells) = true := by
 unfold Qq
 rw [List.all_eq_true]
 intro q hq
 obtain ⟨x, h1, h2⟩ := List.mem_flatMap.1 hq
 obtain ⟨m, _, rfl⟩ := List.mem_map.1 h1
 have h2' : q ∈ msC m (Y5 m.entries) := h2
 simp only [msC, List.mem_cons, List.not_mem_nil, or_false] at h2'
 rcases h2' with rfl | rfl | rfl | rfl | rfl | rfl | rfl | rfl | rfl | rfl | rfl <;> rfl
theorem Dt (l : List Ms) (i : Nat) : ((l.map ms).flatMap T.cells).take (i * 11) ++ ((l.map ms).flatMap T.cells).drop ((i + 1) * 11) = ((l.eraseIdx i).map ms).flatMap T.cells := by
 have h : ∀ (xs : List T) (k n : Nat), (∀ x ∈ xs, x.cells.length = n) → (xs.flatMap T.cells).take (k * n) = (xs.take k).flatMap T.cells ∧ (xs.flatMap T.cells).drop (k * n) = (xs.drop k).flatMap T.cells := by
  intro xs
  induction xs with
  | nil => intro k n _; simp
  | cons x xs ih =>
   intro k n hx
   have hxn := hx x List.mem_cons_self
   cases k with
   | zero => simp
   | succ k =>
    obtain ⟨h1, h2⟩ := ih k n fun y hy => hx y (List.mem_cons_of_mem _ hy)
    have e : (k + 1) * n = x.cells.length + k * n := by rw [Nat.succ_mul, hxn]; omega
    refine ⟨?_, ?_⟩
    ·rw [List.flatMap_cons, e, List.take_length_add_append, h1, List.take_succ_cons, List.flatMap_cons]
    ·rw [List.flatMap_cons, e, List.drop_length_add_append, h2, List.drop_succ_cons]
 rw [(h _ i 11 (Vp l)).1, (h _ (i + 1) 11 (Vp l)).2, ← List.flatMap_append, ← List.map_take, ← List.map_drop, ← List.map_append, List.eraseIdx_eq_take_drop_succ]
theorem Rz (l : List Ms) (i : Nat) (hi : i < l.length) (hl : l.length ≤ 1000000000) {v : Value} {Hs : Qb} (ho : OM l v Hs) : FnH Tryz.prog 37 [.v v, ei (i : Nat), ei ((i : Int) + 1)] Hs (fun r H => ∃ v', r = .v v' ∧ OM (l.eraseIdx i) v' H) := by
 rcases ho with ⟨h, _⟩ | ⟨b, c, rfl, hc, rfl⟩
 ·have : l = [] := by simpa using h
  rw [this] at hi; simp at hi
 have hml : (l.map ms).length = l.length := List.length_map _
 rw [hml] at hc
 have hlen : ((l.map ms).flatMap T.cells).length = l.length * 11 := by rw [XB _ (Vp l), hml]
 have hel : (l.eraseIdx i).length = l.length - 1 := by rw [List.length_eraseIdx, if_pos hi]
 rw [hml]
 refine fe Tryz.func37 fun S0 w0 => ?_
 show Sim _ _ [(0, .v (.slice (some ⟨b, 0, none⟩) l.length c)), (1, ei (i : Nat)), (2, ei ((i : Int) + 1))] [(b, ⟨tM, (l.map ms).flatMap T.cells, c * 11⟩)] _
 refine zC ?_
 refine cr <| s_ Qc <| zC ?_
 refine cr <| s_ Qa <| s_ Qa <| s_ Qa <| s_ Qa <| s_ QN <| s_ (CB (c := c) (i := (i : Int)) (j := (i : Int) + 1) (q := (l.length : Int)) (by omega) (by omega) (by omega) (by omega)) <| zC ?_
 refine cr <| s_ Qa <| s_ Qa <| s_ XF <| zC ?_
 refine ci (p := (i : Int) = (i : Int) + 1) (fun h => absurd h (by omega)) (fun _ => ?_)
 refine zC ?_
 refine cr <| s_ Qa <| s_ QN <| s_ Qc <| zC ?_
 refine zC ?_
 refine ct [0, 1, 2, 3, 4, 5] [6, 7] <| t_ (fun _ => Qa) <| t_ (fun _ => Qa) <| t_ (fun _ => Me (p := some ⟨b, 0, none⟩) (n := l.length) (c := c) (j := (i : Int)) (v := .slice (some ⟨b, 0, none⟩) i c) hc (by unfold XU; simp [Addr.add])) <| t_ (fun _ => Qa) <| t_ (fun _ => Qa) <| t_ (fun _ => D3 (p := some ⟨b, 0, none⟩) (n := l.length) (c := c) (i := (i : Int) + 1) (v := XU 11 (some ⟨b, 0, none⟩) c (i + 1) (l.length - (i + 1))) hc (by rfl)) ?_
 intro p hp hr
 rcases List.mem_cons.1 hp with rfl | hp
 ·clear hp hr
  refine Ba (n := l.length) (c := c) (i := i) (j := i + 1) (cells := (l.map ms).flatMap T.cells) (cells' := ((l.eraseIdx i).map ms).flatMap T.cells) hlen hc (by omega) (by omega) (Iu l) (Dt l i) ⟨zd, ?_⟩
  intro p hp hr
  rcases List.mem_cons.1 hp with rfl | hp
  ·clear hp hr
   refine Be ⟨zd, ?_⟩
   refine C9 ?_
   have hnl : i + (l.length - (i + 1)) = (l.eraseIdx i).length := by omega
   rw [hnl]
   refine zC ?_
   refine cr <| s_ Qa <| s_ Qa <| s_ QN <| s_ Qa <| s_ (Bg (p := some ⟨b, 0, none⟩) (n := (l.eraseIdx i).length) (c := c) (i := (((l.eraseIdx i).length : Nat) : Int)) (j := ((l.length : Nat) : Int)) (v := XU 11 (some ⟨b, 0, none⟩) c (l.eraseIdx i).length (l.length - (l.eraseIdx i).length)) (by rfl) (by omega) (by omega) (by omega)) ?_
   refine Yd (VI (n := l.length) (m := (l.eraseIdx i).length) (c := c) (kk := 11) (b := b) (e := tM) (cells := ((l.eraseIdx i).map ms).flatMap T.cells) (by rfl) zl (by simp) (by rw [XB _ (Vp _), List.length_map]) (by omega) hc (by rfl) ?_)
   refine zC ?_
   refine cr <| s_ Qa <| s_ Qc <| zC ?_
   refine zR ?_
   exact rh kR ⟨_, rfl, .inr ⟨b, c, by rw [List.length_map], by rw [List.length_map]; omega, rfl⟩⟩ (Le.refl _)
  ·exact (List.not_mem_nil hp).elim
 ·rcases List.mem_cons.1 hp with rfl | hp
  ·exact tno hr
  ·exact (List.not_mem_nil hp).elim
theorem JV {g : Gp} {k : Int} (h : Xk g k) : k.toNat < g.way.length ∧ ((k.toNat : Nat) : Int) = k ∧ (g.way.map ms)[k.toNat]? = some (ms (g.way.getD k.toNat default)) := by
 obtain ⟨h0, h1⟩ := h
 have hk : k.toNat < g.way.length := by omega
 refine ⟨hk, by omega, ?_⟩
 rw [List.getElem?_map, List.getD_eq_getElem?_getD, List.getElem?_eq_getElem hk]
 rfl
theorem WV {l : List Ms} {p : Option Addr} {n c : Nat} {W : Qb} (hO : OM l (.slice p n c) W) (hl : 0 < l.length) : ∃ b, p = some ⟨b, 0, none⟩ ∧ n = l.length ∧ W = [(b, ⟨tM, (l.map ms).flatMap T.cells, c * 11⟩)] := by
 rcases hO with ⟨h, _⟩ | ⟨b, c', e, hc, rfl⟩
 ·have : l = [] := by simpa using h
  rw [this] at hl; simp at hl
 ·cases e
  exact ⟨b, rfl, List.length_map _, rfl⟩
theorem IsG.out {bg : Nat} {g : Gp} {a : Nat → Ad} {bm : Nat} {es : List (Value × T × Nat)} {clk : Nat} {W : Qb} {wv : Value} {w : List Ms} (hA : DL g.aw es) (hO : OM w wv W) : IsG bg { g with way := w } (gH bg g.conf a bm es clk W wv g.k) := ⟨a, bm, es, clk, W, wv, hA, hO, rfl⟩
theorem D2 {x y : Nat × Blk} {W M : Qb} : (x :: y :: (W ++ M)).Perm (W ++ (x :: y :: M)) := by
 have := Wq (x := x) (y := y) (W := []) (M := W ++ M) (A := W) (B := M) (List.Perm.refl _)
 simpa using this
theorem Ca {z x y : Nat × Blk} {W M : Qb} : (z :: x :: y :: (W ++ M)).Perm (W ++ (z :: x :: y :: M)) :=
 (D2.cons z).trans (List.perm_middle (a := z) (l₁ := W)).symm
theorem UN {P : Nat → En → Prop} {τ l u : Nat} (hP : PK P) (bg : Nat) (g : Gp) (H : Qb) (k : Int) (h : GB P g τ l u) (hu : u ≤ 25000) (hG : IsG bg g H) : FnH Tryz.prog 16 [pW bg, ei k] H (fun r H' => r = eB (decide (Xk g k)) ∧ IsG bg (Xp g k) H') := by
 have hT := Lx bg g H k hG
 obtain ⟨a, bm, es, clk, W, wv, hA, hO, rfl⟩ := hG
 obtain ⟨p, c, rfl⟩ := hO.len
 refine fe Tryz.func16 fun S0 w0 => ?_
 show Sim _ _ [(0, pW bg), (1, ei k)] ((bg, ⟨tG, gC g.conf a bm _, 13⟩) :: (bm, ⟨.map es clk, [], 0⟩) :: (W ++ gM a g.k)) _
 refine zC ?_
 refine cr <| s_ Qc <| zC ?_
 refine cr <| s_ Qa <| s_ Qa ?_
 refine QP hT (fun r H' ⟨hr1, hr2⟩ => ?_)
 subst hr1 hr2
 refine s_ Ym <| zC ?_
 refine ci ?_ ?_
 ·intro hn
  have hno : ¬ Xk g k := hn
  refine zC ?_
  refine cr <| s_ Qc <| zC ?_
  refine zR ?_
  refine rh kR ⟨rfl, ?_⟩ ?_
  ·unfold Xp; rw [if_neg hno]
   exact ⟨a, bm, es, clk, W, _, hA, hO, rfl⟩
  ·exact Le.of_eq (by show T.v (.bool false) = T.v (.bool (decide (Xk g k))); rw [decide_eq_false hno])
 ·intro hn
  have hyes : Xk g k := Classical.not_not.1 hn
  obtain ⟨hkl, hkn, hget⟩ := JV hyes
  have hml : (g.way.map ms).length = g.way.length := List.length_map _
  have hmany := h.many
  have hfive := h.five
  have hk0 := hyes.1
  have hk1 := hyes.2
  obtain ⟨bw, rfl, _, rfl⟩ := WV hO (by omega)
  have hmem : g.way.getD k.toNat default ∈ g.way := by
   rw [List.getD_eq_getElem?_getD, List.getElem?_eq_getElem hkl]; exact List.getElem_mem _
  have hmb := h.way _ hmem
  obtain ⟨m, hm⟩ : ∃ m, m = g.way.getD k.toNat default := ⟨_, rfl⟩
  rw [← hm] at hget hmb
  have hdel := Rz g.way k.toNat hkl (by omega) hO
  rw [hkn] at hdel
  refine zC ?_
  refine cr <| s_ Qa <| s_ Qe <| s_ Qd <| s_ Qn <| s_ Qa <| s_ ZX <| s_ (Xf (hc := Xe.flat (Vp g.way) hget)) ?_
  refine Yp fun b5 _ => ?_
  refine QC ?_
  refine zC ?_
  refine cr <| s_ Qa <| s_ Qa <| s_ Qe <| s_ Qd <| s_ Qn <| s_ Qa <| s_ Qa <| s_ QZ ?_
  refine Q4 hdel Ca (fun r H' ⟨v', hr1, hO'⟩ => ?_)
  subst hr1
  refine QF Ca.symm ?_
  obtain ⟨p', c', rfl⟩ := hO'.len
  refine s_ Qe <| s_ Qd <| QC ?_
  refine zC ?_
  refine cr <| s_ Qa <| s_ Xf ?_
  have hgb : GB P (V5 g k) τ l u := h.out (fun x hx => h.way x (List.mem_of_mem_eraseIdx hx)) (by rw [List.length_eraseIdx, if_pos hkl]; omega)
  have htk := Mu hP bg (V5 g k) _ m hmb hgb hu (IsG.out (a := a) (bm := bm) (clk := clk) hA hO')
  refine Q4 (Hr := [_]) htk (List.perm_append_comm (l₁ := [_])) (fun r H' ⟨hr1, hr2⟩ => ?_)
  subst hr1
  refine zC ?_
  refine cr <| s_ Qc <| zC ?_
  refine zR ?_
  refine rhp (List.perm_append_comm (l₂ := [_])) (.skip _ _ _ kR) ⟨rfl, ?_⟩ ?_
  ·unfold Xp; rw [if_pos hyes, ← hm]; exact hr2
  ·exact Le.of_eq (by show T.v (.bool true) = T.v (.bool (decide (Xk g k))); rw [decide_eq_true hyes])
end Go.Proofs.YtjbokbikkcfjjaaGreat
