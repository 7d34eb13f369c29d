/-
  As Mix, where operations that do something may lie under a guard.
-/
import Derived.Test.YtjbokbikkcfjjaaGreatAbd
set_option maxRecDepth 16000
set_option maxHeartbeats 8000000
set_option linter.all false
namespace Go.Cap
section
variable {K : Ctx} {ops : Array Oper} {eff : List Nat} {N : Env → Qd → Prop} {Q : Exit → Act → World → Prop}
def LJ (ops : Array Oper) (t : Env) (o : Oper) : Prop := match o.guard with
 | none => True
 | some (j, want) => ∃ k, (ops[j]?).bind (·.dst) = some k ∧ t.get k = .v (.bool want)
def EY (K : Ctx) (ops : Array Oper) (eff : List Nat) (N : Env → Qd → Prop) : U2 → Env → Qd → List Xs → Prop
 | .done => fun t H _ => N t H
 | .yields i p => fun t H pend => match ops[i]? with
  | some o => QO K ops eff i o (EY K ops eff N p) t H pend
  | none => False
 | .alt i p r => fun t H pend => (match ops[i]? with
  | some o => LJ ops t o ∧ QO K ops eff i o (EY K ops eff N p) t H pend
  | none => False) ∧ EY K ops eff N r t H pend
 | .stop => fun _ _ _ => True
def RG (ops : Array Oper) (n : Nat) (eff : List Nat) : Bool :=
 (List.range ops.size).all fun i => match ops[i]? with
  | none => false
  | some o => (o.after.all fun e => !Region.binds .any e || Nat.blt e.on i) && match o.dst with
   | none => Q3 eff i
   | some k => Nat.blt k n && !Q3 (o.looksAt ops) k && (List.range ops.size).all fun j => Nat.beq j i || match ops[j]? with
     | none => false
     | some p => (match p.dst with | some q => !Nat.beq q k | none => true) && (!Q3 (p.looksAt ops) k || (Yq p i || (Q3 eff i && Yq o j)))
structure VW (ops : Array Oper) (n : Nat) (eff : List Nat) : Prop where
 back : ∀ (i : Nat) (o : Oper), ops[i]? = some o → ∀ e ∈ o.after, Region.binds .any e = true → e.on < i
 pur : ∀ (i : Nat) (o : Oper), ops[i]? = some o → o.dst = none → i ∈ eff
 dst : ∀ (i : Nat) (o : Oper) (k : Nat), ops[i]? = some o → o.dst = some k → k < n ∧ k ∉ o.looksAt ops ∧ ∀ j p, ops[j]? = some p → j ≠ i → p.dst ≠ some k ∧ (k ∈ p.looksAt ops → Yq p i = true ∨ (i ∈ eff ∧ Yq o j = true))
theorem VW.of {ops : Array Oper} {n : Nat} {eff : List Nat} (h : RG ops n eff = true) : VW ops n eff := by
 have key : ∀ i o, ops[i]? = some o → _ := fun i o ho => by
  have hi : i < ops.size := (Array.getElem?_eq_some_iff.1 ho).1
  have := (List.all_eq_true.1 h) i (List.mem_range.2 hi)
  simp only [ho, Bool.and_eq_true] at this
  exact this
 refine ⟨fun i o ho e he hb => ?_, fun i o ho hd => ?_, fun i o k ho hk => ?_⟩
 ·have h1 := Array.all_eq_true_iff_forall_mem.1 (key i o ho).1 e he
  rw [hb] at h1
  simpa using h1
 ·have := (key i o ho).2
  rw [hd] at this
  exact QH.1 this
 ·have h1 := (key i o ho).2
  simp only [hk, Bool.and_eq_true] at h1
  obtain ⟨⟨h2, h3⟩, h4⟩ := h1
  refine ⟨by simpa using h2, fun hm => ?_, fun j p hp hne => ?_⟩
  ·rw [QH.2 hm] at h3; cases h3
  ·have hj : j < ops.size := (Array.getElem?_eq_some_iff.1 hp).1
   have h5 := (List.all_eq_true.1 h4) j (List.mem_range.2 hj)
   have hb : Nat.beq j i = false := Js hne
   simp only [hb, Bool.false_or, hp, Bool.and_eq_true, Bool.or_eq_true] at h5
   refine ⟨fun e => ?_, fun hm => ?_⟩
   ·rw [e] at h5
    simp [Nat.beq_refl] at h5
   ·rcases h5.2 with h6 | h6 | h6
    ·rw [QH.2 hm] at h6; cases h6
    ·exact .inl h6
    ·exact .inr ⟨QH.1 h6.1, h6.2⟩
theorem Dy {K : Ctx} {ops : Array Oper} {eff : List Nat} (hc : VW ops K.n eff) {pre : List Nat} {t : Env} {H' : Qd} {i : Nat} {o : Oper} {d : T} (ho : ops[i]? = some o) (hi : i ∉ pre)
  (htop : ∀ j ∈ pre, ∀ q, ops[j]? = some q → ∀ e ∈ q.after, Region.binds .any e = true → e.on ∈ pre) {p : Xs} (hp : p.i ∈ pre) (hpo : ops[p.i]? = some p.o) (hx : i ∈ eff → Yq o p.i = true → False) (h : GOp K.P ops t H' p.o p.d) : GOp K.P ops (t.put o.dst d) H' p.o p.d := by
 refine GOp.congr h fun x hxx => ?_
 cases hd : o.dst with
 | none => rfl
 | some k =>
  by_cases hk : k = x
  ·subst hk
   have hne : p.i ≠ i := fun e => hi (e ▸ hp)
   rcases ((hc.dst i o k ho hd).2.2 p.i p.o hpo hne).2 hxx with hb | hb
   ·obtain ⟨e, he, h1, h2⟩ := ZD.1 hb
    exact absurd (h2 ▸ htop p.i hp p.o hpo e he h1) hi
   ·exact (hx hb.1 hb.2).elim
  ·exact (Env.get_put_ne t d hk).symm
theorem DA {K : Ctx} {ops : Array Oper} {eff : List Nat} (hc : VW ops K.n eff) {pre : List Nat} {t : Env} {i : Nat} {o : Oper} {d : T} (ho : ops[i]? = some o) (hi : i ∉ pre) {p : Xs} (hp : p.i ∈ pre) (hpo : ops[p.i]? = some p.o)
  {k : Nat} (hk : p.o.dst = some k) (h : t.get k = p.d) : (t.put o.dst d).get k = p.d := by
 cases hd : o.dst with
 | none => exact h
 | some j =>
  by_cases hj : j = k
  ·subst hj
   have hne : p.i ≠ i := fun e => hi (e ▸ hp)
   exact absurd hk ((hc.dst i o j ho hd).2.2 p.i p.o hpo hne).1
  ·show Env.get (t.put (some j) d) k = _
   rw [Env.get_put_ne t d hj]; exact h
theorem I9 {t : Env} {H : Qd} {pend : List Xs} {pre : List Nat} {i : Nat} (hi : i < ops.size) (hp : i ∉ pre) (hf : UR ops pre i = true) : ∀ (pl : U2) (seen : List Nat), XF ops eff pl pre seen = true → EY K ops eff N pl t H pend → (seen = [] → ∀ j p, pl ≠ .yields j p) →
  i ∈ seen ∨ ∃ p o, ops[i]? = some o ∧ i ∈ eff ∧ XF ops eff p (i :: pre) [] = true ∧ LJ ops t o ∧ QO K ops eff i o (EY K ops eff N p) t H pend
 | .done, seen, h, _, _ => by
  simp only [XF, Bool.and_eq_true] at h
  exact absurd (QH.1 ((List.all_eq_true.1 h.2) i (List.mem_range.2 hi))) hp
 | .yields j p, seen, h, _, hn => by
  simp only [XF, Bool.and_eq_true] at h
  exact absurd rfl (hn (by simpa using h.1.1.1.1) j p)
 | .alt j p r, seen, h, hr, _ => by
  simp only [XF, Bool.and_eq_true] at h
  obtain ⟨⟨⟨⟨h1, h2⟩, h3⟩, h4⟩, h5⟩ := h
  obtain ⟨hr1, hr2⟩ := hr
  by_cases hij : i = j
  ·subst hij
   obtain ⟨o, ho⟩ := Vi h3
   rw [ho] at hr1
   exact .inr ⟨p, o, ho, QH.1 h1, h4, hr1⟩
  ·rcases I9 hi hp hf r (j :: seen) h5 hr2 (fun e => by cases e) with h | h
   ·rcases List.mem_cons.1 h with h | h
    ·exact absurd h hij
    ·exact .inl h
   ·exact .inr h
 | .stop, seen, h, _, _ => by
  simp only [XF, Bool.and_eq_true] at h
  have := (List.all_eq_true.1 h.2) i (List.mem_range.2 hi)
  rw [hf] at this
  simp only [Bool.not_true, Bool.or_false, Bool.or_eq_true] at this
  rcases this with h | h
  ·exact absurd (QH.1 h) hp
  ·exact .inl (QH.1 h)
structure R0 (K : Ctx) (ops : Array Oper) (eff : List Nat) (N : Env → Qd → Prop) (pre : List Nat) (pl : U2) (t : Env) (H : Qd) (pend : List Xs) (listed : Array Bool) : Prop where
 top : ∀ i ∈ pre, ∀ o, ops[i]? = some o → ∀ e ∈ o.after, Region.binds .any e = true → e.on ∈ pre
 todo : ∀ i, i < ops.size → i ∉ pre → listed.getD i true = false
 done : ∀ i ∈ pre, i ∈ eff → listed.getD i false = true
 has : ∀ i ∈ pre, i ∉ eff → listed.getD i true = false → ∃ p ∈ pend, p.i = i
 pis : ∀ p ∈ pend, p.i ∈ pre ∧ p.i ∉ eff ∧ ops[p.i]? = some p.o
 gop : ∀ p ∈ pend, listed.getD p.i true = false → (∀ H', p.F H' → GOp K.P ops t H' p.o p.d) ∧ ∀ k, p.o.dst = some k → t.get k = p.d
 now : ∀ p ∈ pend, listed.getD p.i true = false → p.F H
 closed : ∀ i o, ops[i]? = some o → listed.getD i true = true → ∀ e ∈ o.after, Region.binds .any e = true → listed.getD e.on true = true
 ok : XF ops eff pl pre [] = true
 go : EY K ops eff N pl t H pend
theorem R0.pass (hc : VW ops K.n eff) {H : Qd} {listed : Array Bool} {tx : Env} : ∀ (pl : U2) {pre : List Nat} {t : Env} {pend : List Xs}, R0 K ops eff N pre pl t H pend listed → (∀ x, (∀ p ∈ pend, listed.getD p.i true = false → p.o.dst ≠ some x) → tx.get x = t.get x) →
  ∃ pre' pl' t' pend', R0 K ops eff N pre' pl' t' H pend' listed ∧ (∀ x, (∀ p ∈ pend', listed.getD p.i true = false → p.o.dst ≠ some x) → tx.get x = t'.get x) ∧ ∀ j p, pl' ≠ .yields j p
 | .done, pre, t, pend, h, hx => ⟨pre, .done, t, pend, h, hx, fun _ _ e => by cases e⟩
 | .alt i p r, pre, t, pend, h, hx => ⟨pre, .alt i p r, t, pend, h, hx, fun _ _ e => by cases e⟩
 | .stop, pre, t, pend, h, hx => ⟨pre, .stop, t, pend, h, hx, fun _ _ e => by cases e⟩
 | .yields i p, pre, t, pend, h, hx => by
  have hok := h.ok
  simp only [XF, Bool.and_eq_true] at hok
  obtain ⟨⟨⟨⟨_, k1⟩, k2⟩, k3⟩, k4⟩ := hok
  have he : i ∉ eff := Vc (by simpa using k1)
  have hip : i ∉ pre := Vc (by simpa using k2)
  have hem : Q3 eff i = false := by simpa using k1
  obtain ⟨o, ho⟩ := Vi k3
  have hgo := h.go
  simp only [EY, ho, QO, hem, cond_false] at hgo
  obtain ⟨d, F, hg, hF, hgo⟩ := hgo
  have hlt : i < ops.size := (Array.getElem?_eq_some_iff.1 ho).1
  have hed := DD ho k3
  refine R0.pass hc p (pre := i :: pre) (t := t.put o.dst d) (pend := ⟨i, o, d, F⟩ :: pend) ⟨?_, ?_, ?_, ?_, ?_, ?_, ?_, h.closed, k4, hgo⟩ ?_
  ·intro j hj q hq e hee hb
   rcases List.mem_cons.1 hj with rfl | hj
   ·rw [ho] at hq; cases hq
    exact List.mem_cons_of_mem _ (hed e hee hb)
   ·exact List.mem_cons_of_mem _ (h.top j hj q hq e hee hb)
  ·intro j hj hn
   exact h.todo j hj fun hm => hn (List.mem_cons_of_mem _ hm)
  ·intro j hj hje
   rcases List.mem_cons.1 hj with rfl | hj
   ·exact absurd hje he
   ·exact h.done j hj hje
  ·intro j hj hje hl
   rcases List.mem_cons.1 hj with rfl | hj
   ·exact ⟨_, List.mem_cons_self, rfl⟩
   ·obtain ⟨q, hq, hqi⟩ := h.has j hj hje hl
    exact ⟨q, List.mem_cons_of_mem _ hq, hqi⟩
  ·intro q hq
   rcases List.mem_cons.1 hq with rfl | hq
   ·exact ⟨List.mem_cons_self, he, ho⟩
   ·obtain ⟨a, b, c⟩ := h.pis q hq
    exact ⟨List.mem_cons_of_mem _ a, b, c⟩
  ·intro q hq hl
   rcases List.mem_cons.1 hq with rfl | hq
   ·refine ⟨fun H' hF' => GOp.congr (hg H' hF') fun x hx' => ?_, fun k hk => ?_⟩
    ·simp only at hx'
     cases hd : o.dst with
     | none => rfl
     | some k => exact (Env.get_put_ne t d (fun e => (hc.dst i o k ho hd).2.1 (by rw [e]; exact hx'))).symm
    ·simp only at hk ⊢; rw [hk]; exact Env.get_put_self _ _ _
   ·obtain ⟨a, b, c⟩ := h.pis q hq
    exact ⟨fun H' hF' => Dy hc ho hip h.top a c (fun h5 _ => he h5) ((h.gop q hq hl).1 H' hF'), fun k hk => DA hc ho hip a c hk ((h.gop q hq hl).2 k hk)⟩
  ·intro q hq hl
   rcases List.mem_cons.1 hq with rfl | hq
   ·exact hF
   ·exact h.now q hq hl
  ·intro x hxx
   have hne : o.dst ≠ some x := hxx ⟨i, o, d, F⟩ List.mem_cons_self (h.todo i hlt hip)
   rw [hx x fun p hp => hxx p (List.mem_cons_of_mem _ hp)]
   cases hd : o.dst with
   | none => rfl
   | some k => exact (Env.get_put_ne t d (fun e => hne (by rw [hd, e]))).symm
theorem HA (hc : VW ops K.n eff) (hq : ∀ t' H' a' w', N t' H' → R K t' H' a' w' → Q .normal a' w') :
  ∀ (fuel : Nat) (pre : List Nat) (pl : U2) (t : Env) (H : Qd) (pend : List Xs) (listed : Array Bool) (tx : Env) (a : Act) (w : World), listed.size = ops.size → unl listed ops.size = fuel →
   R0 K ops eff N pre pl t H pend listed → (∀ x, (∀ p ∈ pend, listed.getD p.i true = false → p.o.dst ≠ some x) → tx.get x = t.get x) → R K tx H a w → wpAnyIn (RF K.rd) 0 K.P .any ops Q fuel listed a w := by
 intro fuel
 induction fuel with
 | zero =>
  intro pre pl t H pend listed tx a w hs hf hw hx hr
  have hall : ∀ j, j < ops.size → listed.getD j true = true := fun j hj => by
   have h0 := List.length_eq_zero_iff.1 hf
   have h1 := (List.filter_eq_nil_iff.1 h0) j (List.mem_range.2 hj)
   simpa using h1
  have hlt : ∀ j o, ops[j]? = some o → j < ops.size := fun j o h => (Array.getElem?_eq_some_iff.1 h).1
  refine ⟨?_, ?_⟩
  ·refine List.eq_nil_iff_forall_not_mem.2 fun j hj => ?_
   obtain ⟨h0, o, ho, _⟩ := mem_ready.1 hj
   rw [hall j (hlt j o ho)] at h0; cases h0
  ·obtain ⟨pre, pl, t, pend, hw, hx, hnp⟩ := R0.pass hc pl hw hx
   have hin : ∀ j, j < ops.size → j ∈ pre := fun j hj => Classical.byContradiction fun hn => by
    have := hw.todo j hj hn
    rw [hall j hj] at this; cases this
   cases pl with
   | done =>
    refine hq t H a w hw.go (hr.env fun x => hx x fun p hp hl => ?_)
    rw [hall _ (hlt _ _ (hw.pis p hp).2.2)] at hl; cases hl
   | yields i p => exact absurd rfl (hnp i p)
   | alt i p r =>
    have h := hw.ok
    simp only [XF, Bool.and_eq_true] at h
    obtain ⟨o, ho⟩ := Vi h.1.1.2
    exact absurd (hin i (hlt _ _ ho)) (Vc (by simpa using h.1.1.1.2))
   | stop =>
    have h := hw.ok
    simp [XF] at h
 | succ fuel ih =>
  intro pre pl t H pend listed tx a w hs hf hw hx hr
  have hlt : ∀ j o, ops[j]? = some o → j < ops.size := fun j o h => (Array.getElem?_eq_some_iff.1 h).1
  obtain ⟨pre, pl, t, pend, hw, hx, hnp⟩ := R0.pass hc pl hw hx
  have hex : ∃ i, i < ops.size ∧ listed.getD i true = false := by
   refine Classical.byContradiction fun hne => ?_
   have : unl listed ops.size = 0 := by
    unfold unl
    rw [List.length_eq_zero_iff, List.filter_eq_nil_iff]
    intro j hj
    have hj' := List.mem_range.1 hj
    cases hv : listed.getD j true with
    | false => exact absurd ⟨j, hj', hv⟩ hne
    | true => simp
   omega
  have hmin : ∃ i, i < ops.size ∧ listed.getD i true = false ∧ ∀ j, j < i → listed.getD j true = true := by
   obtain ⟨i, hi1, hi2⟩ := hex
   induction i using Nat.strongRecOn with
   | _ i ihm =>
    by_cases h : ∀ j, j < i → listed.getD j true = true
    ·exact ⟨i, hi1, hi2, h⟩
    ·obtain ⟨j, hj⟩ := Classical.not_forall.1 h
     obtain ⟨hj1, hj2⟩ := Classical.not_imp.1 hj
     exact ihm j hj1 (by omega) (by simpa using hj2)
  obtain ⟨i0, hi0, hu0, hl0⟩ := hmin
  have hr0 : i0 ∈ Region.ready .any ops listed := mem_ready.2 ⟨hu0, ops[i0], by simp [hi0], fun e he hb => by
   have := hc.back i0 _ (by simp [hi0]) e he hb
   rw [lst (by omega)]; exact hl0 _ this⟩
  refine ⟨fun hn => (by rw [hn] at hr0; cases hr0), fun i hir => ?_⟩
  obtain ⟨hu, o, ho, hall⟩ := mem_ready.1 hir
  have hisz : i < ops.size := hlt i o ho
  have hbnd : ∀ j, j < ops.size → Yq o j = true → listed.getD j true = true := fun j hj hb => by
   obtain ⟨e, he, h1, h2⟩ := ZD.1 hb
   have := hall e he h1
   rw [h2, lst (by omega)] at this; exact this
  have hlook : ∀ x ∈ o.looksAt ops, tx.get x = t.get x := fun x hxo => hx x fun p hp hl he => by
   have hpi := (hw.pis p hp).2.2
   by_cases hne : i = p.i
   ·rw [← hne, ho] at hpi
    have e := Option.some.inj hpi
    exact (hc.dst i o x ho (e ▸ he)).2.1 hxo
   ·have := hbnd _ (hlt _ _ hpi) ((((hc.dst p.i p.o x hpi he).2.2 i o ho hne).2 hxo).resolve_right fun h => (hw.pis p hp).2.1 h.1)
    rw [this] at hl; cases hl
  have hopr : ∀ x ∈ o.op.operands, tx.ev x = t.ev x := by
   intro x hx'
   cases x with
   | tmp k' => exact hlook k' (List.mem_append_left _ (List.mem_filterMap.2 ⟨.tmp k', by simpa using hx', rfl⟩))
   | _ => rfl
  have hun := Lq hs hisz hu
  have hfu : unl (listed.setIfInBounds i true) ops.size = fuel := by omega
  have hset : ∀ j, ¬ i = j → ∀ d, (listed.setIfInBounds i true).getD j d = listed.getD j d := fun j hj d => getD_set_ne d hj
  have hcl' : ∀ i' o', ops[i']? = some o' → (listed.setIfInBounds i true).getD i' true = true → ∀ e ∈ o'.after, Region.binds .any e = true → (listed.setIfInBounds i true).getD e.on true = true := fun i' o' ho' hl e he hb => by
   by_cases hie : i = e.on
   ·rw [← hie]; exact Xb (by omega) _
   ·rw [hset _ hie]
    by_cases hii : i = i'
    ·subst hii; rw [ho] at ho'; cases ho'
     exact GP (hall e he hb)
    ·rw [hset _ hii] at hl; exact hw.closed i' o' ho' hl e he hb
  have hbr : ∀ j, YB ops 12 o j = true → listed.getD j true = true := Zr hw.closed 12 o fun e he hb => GP (hall e he hb)
  by_cases hpre : i ∈ pre
  ·
   have hne : i ∉ eff := fun he => by
    have := hw.done i hpre he
    rw [lst (by omega)] at this
    rw [this] at hu; cases hu
   obtain ⟨p, hp, hpi⟩ := hw.has i hpre hne hu
   have hpo : p.o = o := by
    have := (hw.pis p hp).2.2
    rw [hpi, ho] at this
    exact (Option.some.inj this).symm
   obtain ⟨k, hk⟩ : ∃ k, o.dst = some k := by
    cases hd : o.dst with
    | none => exact absurd (hc.pur i o ho hd) hne
    | some k => exact ⟨k, rfl⟩
   have hF := hw.now p hp (by rw [hpi]; exact hu)
   have hg := (hw.gop p hp (by rw [hpi]; exact hu)).1 H hF
   have hgk := (hw.gop p hp (by rw [hpi]; exact hu)).2 k (by rw [hpo]; exact hk)
   rw [hpo] at hg
   obtain ⟨hkn, hself, hoth⟩ := hc.dst i o k ho hk
   have next : ∀ (S S' : Nat → Prop) (w' : World) (v : Value), R1 K tx H a w S → Q9 [] S w S' w' → Rel S' w' p.d v → wpAnyIn (RF K.rd) 0 K.P .any ops Q fuel (listed.setIfInBounds i true) (a.put o.dst v) w' := by
    intro S S' w' v hr1 hst hrv
    refine ih pre pl t H pend _ (tx.put o.dst p.d) _ w' (by simpa using hs) hfu ⟨hw.top, fun q hq hqn => ?_, fun j hj he => ?_, fun j hj he hlj => hw.has j hj he (by
     by_cases hij : i = j
     ·subst hij; exact hu
     ·rw [hset _ hij] at hlj; exact hlj), hw.pis, (fun q hq hl => hw.gop q hq (by
     by_cases hqi : i = q.i
     ·rw [← hqi]; exact hu
     ·rw [hset _ hqi] at hl; exact hl)), fun q hq hl => ?_, hcl', hw.ok, hw.go⟩ ?_ ⟨S', hr1.pure hst (by rw [hk]; simpa [XO] using hkn) hrv⟩
    ·have h1 := hw.todo q hq hqn
     by_cases hqi : i = q
     ·exact absurd (hqi ▸ hpre) hqn
     ·rw [hset _ hqi]; exact h1
    ·by_cases hij : i = j
     ·subst hij; exact Xb (by omega) _
     ·rw [hset _ hij]; exact hw.done j hj he
    ·by_cases hqi : i = q.i
     ·rw [← hqi, Xb (by omega)] at hl; cases hl
     ·rw [hset _ hqi] at hl; exact hw.now q hq hl
    ·intro x hxx
     rw [hk]
     by_cases hkx : k = x
     ·subst hkx; rw [Env.get_put_self, hgk]
     ·rw [Env.get_put_ne _ _ hkx]
      refine hx x fun q hq hl he => ?_
      by_cases hqi : i = q.i
      ·have := (hw.pis q hq).2.2
       rw [← hqi, ho] at this
       cases this
       rw [hk] at he; cases he
       exact hkx rfl
      ·exact hxx q hq (by rw [hset _ hqi]; exact hl) he
   obtain ⟨S, hr1⟩ := hr
   have hop : ∀ x ∈ o.op.operands, Rel S w (t.ev x) (a.eval x) := fun x hx' => hopr x hx' ▸ hr1.env.ev x
   unfold wpOpIn
   simp only [ho]
   unfold GOp at hg
   cases hgu : o.guard with
   | none =>
    rw [hgu] at hg
    simp only [Xl hgu a, if_true]
    exact Y3 (hg S w a hr1.wf hr1.own hop) fun S' w' v hst hrv => next S S' w' v hr1 hst hrv
   | some jw =>
    obtain ⟨j, want⟩ := jw
    rw [hgu] at hg
    obtain ⟨k', b, hj, hb, hyes, hno⟩ := hg
    have hv : a.tmps.getD k' undef = b := by
     have := hr1.env k'
     rw [hlook k' (by unfold Oper.looksAt; rw [hgu]; simp [hj]), hb] at this
     exact this.v_eq
    by_cases hwb : b = .bool want
    ·simp only [(XA hgu hj hv).1 hwb, if_true]
     exact Y3 (hyes hwb S w a hr1.wf hr1.own hop) fun S' w' v hst hrv => next S S' w' v hr1 hst hrv
    ·simp only [(XA hgu hj hv).2 hwb, Bool.false_eq_true, if_false]
     exact ⟨fun _ _ => trivial, next S S w undef hr1 (Q9.refl _ hr1.wf) (by rw [hno hwb]; exact .v _)⟩
  ·
   have hedge : ∀ e ∈ o.after, Region.binds .any e = true → e.on ∈ pre := fun e he hb => by
    have h1 := hall e he hb
    have h2 := hc.back i o ho e he hb
    refine Classical.byContradiction fun hn => ?_
    have h3 := hw.todo e.on (by omega) hn
    rw [← lst (by omega), h1] at h3; cases h3
   obtain ⟨p', o', ho', hpe, hpok, hgok, hgo⟩ := (I9 hisz hpre (DM ho hedge) pl [] hw.ok hw.go fun _ => hnp).resolve_left (by simp)
   rw [ho] at ho'; cases ho'
   simp only [QO, QH.2 hpe, cond_true] at hgo
   have hwant : Region.wanted o (yielded ops a.tmps) = true := by
    cases hgu : o.guard with
    | none => exact Xl hgu a
    | some jw =>
     obtain ⟨j, want⟩ := jw
     simp only [LJ, hgu] at hgok
     obtain ⟨k', hj, hb⟩ := hgok
     obtain ⟨S, hr1⟩ := hr
     have hv : a.tmps.getD k' undef = .bool want := by
      have := hr1.env k'
      rw [hlook k' (by unfold Oper.looksAt; rw [hgu]; simp [hj]), hb] at this
      exact this.v_eq
     exact (XA hgu hj hv).1 rfl
   unfold wpOpIn
   simp only [ho, hwant, if_true]
   refine hgo tx hopr a w hr _ Q ?_
   rintro t' H' a' w' ⟨d, pend', rfl, hpk, hdrop, hgo'⟩ hr'
   refine ih (i :: pre) p' (t.put o.dst d) H' pend' _ (tx.put o.dst d) a' w' (by simpa using hs) hfu ⟨?_, ?_, ?_, ?_, ?_, ?_, ?_, hcl', hpok, hgo'⟩ ?_ hr'
   ·intro j hj q hq e hee hb
    rcases List.mem_cons.1 hj with rfl | hj
    ·rw [ho] at hq; cases hq
     exact List.mem_cons_of_mem _ (hedge e hee hb)
    ·exact List.mem_cons_of_mem _ (hw.top j hj q hq e hee hb)
   ·intro j hj hn
    have hij : ¬ i = j := fun e => hn (e ▸ List.mem_cons_self)
    rw [hset _ hij]
    exact hw.todo j hj fun hm => hn (List.mem_cons_of_mem _ hm)
   ·intro j hj he
    by_cases hij : i = j
    ·subst hij; exact Xb (by omega) _
    ·rw [hset _ hij]
     rcases List.mem_cons.1 hj with h | h
     ·exact absurd h.symm hij
     ·exact hw.done j h he
   ·intro j hj he hlj
    rcases List.mem_cons.1 hj with rfl | hj
    ·exact absurd hpe he
    ·have hij : ¬ i = j := fun e => by subst e; rw [Xb (by omega)] at hlj; cases hlj
     rw [hset _ hij] at hlj
     obtain ⟨q, hq, hqj⟩ := hw.has j hj he hlj
     rcases hdrop.has q hq with h | h
     ·exact ⟨q, h, hqj⟩
     ·rw [← hqj, hbr q.i h] at hlj; cases hlj
   ·intro q hq
    obtain ⟨a1, a2, a3⟩ := hw.pis q (hdrop.sub q hq)
    exact ⟨List.mem_cons_of_mem _ a1, a2, a3⟩
   ·intro q hq hl
    replace hq := hdrop.sub q hq
    obtain ⟨a1, a2, a3⟩ := hw.pis q hq
    have hl' : listed.getD q.i true = false := by
     by_cases hqi : i = q.i
     ·rw [← hqi, Xb (by omega)] at hl; cases hl
     ·rw [hset _ hqi] at hl; exact hl
    have hnb : i ∈ eff → Yq o q.i = true → False := fun _ hb => by
     have := hbnd q.i (hlt _ _ a3) hb
     rw [this] at hl'; cases hl'
    exact ⟨fun H' hF' => Dy hc ho hpre hw.top a1 a3 hnb ((hw.gop q hq hl').1 H' hF'), fun k hk => DA hc ho hpre a1 a3 hk ((hw.gop q hq hl').2 k hk)⟩
   ·intro q hq hl
    replace hq := hdrop.sub q hq
    by_cases hqi : i = q.i
    ·rw [← hqi, Xb (by omega)] at hl; cases hl
    ·rw [hset _ hqi] at hl
     refine hpk.get q hq ?_
     cases hb : YB ops 12 o q.i with
     | false => rfl
     | true =>
      rw [hbr q.i hb] at hl; cases hl
   ·intro x hxx
    replace hxx : ∀ q ∈ pend, (listed.setIfInBounds i true).getD q.i true = false → q.o.dst ≠ some x := fun q hq hl => by
     rcases hdrop.has q hq with h | h
     ·exact hxx q h hl
     ·have h2 := hbr q.i h
      by_cases hqi : i = q.i
      ·rw [← hqi, Xb (by omega)] at hl; cases hl
      ·rw [hset _ hqi, h2] at hl; cases hl
    cases hd : o.dst with
    | none =>
     show tx.get x = t.get x
     refine hx x fun q hq hl he => ?_
     by_cases hqi : i = q.i
     ·exact absurd (hqi ▸ (hw.pis q hq).2.1) (fun h => h hpe)
     ·exact hxx q hq (by rw [hset _ hqi]; exact hl) he
    | some k =>
     by_cases hkx : k = x
     ·subst hkx; rw [Env.get_put_self, Env.get_put_self]
     ·rw [Env.get_put_ne _ _ hkx, Env.get_put_ne _ _ hkx]
      refine hx x fun q hq hl he => ?_
      by_cases hqi : i = q.i
      ·exact absurd (hqi ▸ (hw.pis q hq).2.1) (fun h => h hpe)
      ·exact hxx q hq (by rw [hset _ hqi]; exact hl) he
theorem Cu {t : Env} {H : Qd} {id : Nat} {Ψ : Exit → Env → Qd → Prop} (eff : List Nat) (pl : U2) (hmix : K.P.follows .mixedOrders = true) (hc : (RG ops K.n eff && XF ops eff pl [] []) = true)
  (h : EY K ops eff (Ψ .normal) pl t H []) : Sim K (.region id ops true) t H Ψ := by
 intro a w ⟨S, hr⟩
 refine wpIn_region_any hmix ?_
 rw [Bool.and_eq_true] at hc
 have hA := VW.of hc.1
 have hst : Q9 [] S w S { w with drawn := w.drawn + 1 } := ⟨rfl, rfl, rfl, Nat.le_refl _, fun _ _ _ => rfl, fun _ h => h, fun _ h => .inl h, hr.wf⟩
 have hfalse : ∀ (d : Bool) (j : Nat), j < ops.size → (Array.replicate ops.size false).getD j d = false := fun d j hj => by simp [Array.getD_eq_getD_getElem?, hj]
 have hlt : ∀ j o, ops[j]? = some o → j < ops.size := fun j o h => (Array.getElem?_eq_some_iff.1 h).1
 refine HA hA (fun t' H' a' w' hn hr' => ⟨t', H', hn, hr'⟩) ops.size [] pl t H [] _ t a _ (by simp) ?_
  ⟨by simp, fun i hi _ => hfalse _ i hi, by simp, by simp, by simp, by simp, by simp, fun i o ho hl => ?_, hc.2, h⟩ (fun x _ => rfl)
  ⟨S, hr.size, hr.defers.step (hst.mono hr.wf (by simp)) hst.objs0 hst.size, hr.step.trans hst (by simp), hr.own.step hst hr.wf (by simp) (by simp), hr.mine, hr.env.mono (hst.mono hr.wf (by simp))⟩
 ·unfold unl
  rw [List.filter_eq_self.2]
  ·simp
  ·intro j hj
   have := List.mem_range.1 hj
   simp [Array.getD_eq_getD_getElem?, this]
 ·rw [hfalse _ i (hlt _ _ ho)] at hl; cases hl
section
variable {t : Env} {H : Qd} {kd i : Nat} {op : Op} {ty tp : TypeId} {pos : String} {aft : Array Edge} {pend : List Xs} {d : T} {x y : Operand} {rest : Env → Qd → List Xs → Prop}
theorem cmg {id : Nat} {Ψ : Exit → Env → Qd → Prop} (eff : List Nat) (pl : U2) (h : EY K ops eff (Ψ .normal) pl t H []) (hmix : K.P.follows .mixedOrders = true := by kernel_rfl) (hc : (RG ops K.n eff && XF ops eff pl [] []) = true := by kernel_rfl) : Sim K (.region id ops true) t H Ψ := Cu eff pl hmix hc h
theorem SX {p : Prop} [ip : Decidable p] {want : Bool} {j kg : Nat} {F : Qd → Prop} (hp : ∀ H', F H' → p → POp K.P t H' ⟨some kd, op, tp, pos, aft, some (j, want)⟩ d) (hF : F H) (h : rest ((kd, T.gp p ip d) :: t) H (⟨i, ⟨some kd, op, tp, pos, aft, some (j, want)⟩, T.gp p ip d, F⟩ :: pend))
  (hb : ∃ b, t.get kg = .v (.bool b) ∧ (b = want ↔ p)) (hj : (ops[j]?).bind (·.dst) = some kg := by rfl) (he : Q3 eff i = false := by rfl) : QO K ops eff i ⟨some kd, op, tp, pos, aft, some (j, want)⟩ rest t H pend := by
 obtain ⟨b, hb, hbp⟩ := hb
 unfold QO
 rw [he, cond_false]
 exact ⟨T.gp p ip d, F, fun H' h' => ⟨kg, _, hj, hb, fun e => by cases e; rw [Yo (hbp.1 rfl)]; exact hp H' h' (hbp.1 rfl), fun e => YP fun h => e (by rw [hbp.2 h])⟩, hF, h⟩
theorem C2 {p : Prop} [ip : Decidable p] {j kg : Nat} (hp : ∀ H' : Qd, ¬ p → POp K.P t H' ⟨some kd, op, tp, pos, aft, some (j, false)⟩ d) (h : rest ((kd, T.gp (¬ p) inferInstance d) :: t) H (⟨i, ⟨some kd, op, tp, pos, aft, some (j, false)⟩, T.gp (¬ p) inferInstance d, fun _ => True⟩ :: pend))
  (hj : (ops[j]?).bind (·.dst) = some kg := by rfl) (hb : t.get kg = .v (.bool (decide p)) := by exact zG) (he : Q3 eff i = false := by rfl) : QO K ops eff i ⟨some kd, op, tp, pos, aft, some (j, false)⟩ rest t H pend :=
 SX (F := fun _ => True) (fun H' _ => hp H') trivial h ⟨_, hb, by simp⟩ hj he
theorem G7 {p : Prop} [ip : Decidable p] {dst : Option Tmp} {j kg : Nat} (hn : ¬ p) (hj : (ops[j]?).bind (·.dst) = some kg := by rfl) (hb : t.get kg = .v (.bool (decide p)) := by exact zG) : LJ ops t ⟨dst, op, tp, pos, aft, some (j, false)⟩ :=
 ⟨kg, hj, by rw [hb, decide_eq_false hn]⟩
theorem Ax {g : Option (Nat × Bool)} {Hs Hr : Qd} {f : FuncId} {xs : Array Operand} {ats : Array TypeId} {args : List T} {Φ : T → Qd → Prop} (hf : FnH K.P f args Hs Φ) (hp : H.Perm (Hs ++ Hr))
  (hn : ∀ r H', Φ r H' → XU ops ⟨some kd, .call ⟨.value (.func f), xs, ats⟩, tp, pos, aft, g⟩ (H' ++ Hr) pend ∧ rest ((kd, r) :: t) (H' ++ Hr) pend) (hc : QT K.P f = true := by rfl) (ha' : EvL t xs.toList args := by exact ze) (hd : Nat.blt kd K.n = true := by rfl) (he : Q3 eff i = true := by rfl) :
  QO K ops eff i ⟨some kd, .call ⟨.value (.func f), xs, ats⟩, tp, pos, aft, g⟩ rest t H pend :=
 Id (fun _ h1 => Zk (Hr := Hr) hf hp hc (ha'.trans fun x hx => h1 x (by simp [Op.operands, Call.operands]; exact .inr (by simpa using hx))) (by simpa [XO] using hd) fun r H' hr' => ⟨_, rfl, hn r H' hr'⟩) he
end
end
end Go.Cap
namespace Go.Proofs.YtjbokbikkcfjjaaGreat
open Go.Cap Raft
attribute [local irreducible] POp Qi SO EOp Sim FnH T.gp
theorem CY (n : Nd) (hl : n.log.length ≤ 1000000000) : FnP Tryz.prog 62 [nd n] (fun r => r = nd n) := by
 refine fe Tryz.func62 fun S0 w0 => ?_
 show Sim _ _ [(0, T.agg (Qg n (.sl false (n.log.map een))))] _ _
 refine zC ?_
 apply cr
 refine Xk fun b1 _ => ?_
 refine Xt fun b2 _ => ?_
 refine zC ?_
 refine Xr (List.Perm.swap _ _ _) ?_
 refine X4 1 (by simp [Qg]) ?_
 refine zC ?_
 refine cr <| s_ Qj <| s_ Qf <| s_ Qj <| s_ Qf <| s_ Qj <| s_ Qf <| s_ Qj <| s_ Qf <| s_ Qj <| s_ Qf <| s_ Qj <| s_ Qf <| s_ Qj <| s_ Qf <| s_ Qj <| s_ Qf <| s_ Qj <| s_ Qf <| s_ Qj <| s_ Qf <| s_ Qj <| s_ Qf <| s_ Uv <| s_ XN <| s_ Uv <| s_ XN <| s_ (PI 22) ?_
 refine Xt fun b3 _ => ?_
 refine Qn ?_
 refine zC ?_
 refine cr <| s_ Qb <| zC ?_
 apply Qm (σ := Nat × Qd) (ok := fun s => s.1 ≤ n.log.length ∧ ∃ v Hl, OSl rE 3 ((n.log.take s.1).map een) v Hl ∧ s.2 = (b3, ⟨rN, Qg n (.v v), 22⟩) :: (Hl ++ [(b2, ⟨rN, Qg YK (.v (.slice none 0 0)), 22⟩)]))
  (env := fun s => [(4, ei (s.1 : Nat)), (3, pN b3), (2, pN b2), (1, .adr (.agg (Qg n (.sl false (n.log.map een)))))]) (heap := fun s => s.2) (μ := fun s => n.log.length - s.1) (s0 := (0, _))
 ·exact ⟨Nat.zero_le _, _, [], YE, rfl⟩
 ·exact eL
 ·exact kR
 rintro ⟨k, H⟩ ⟨hk, v, Hl, h1, hH⟩
 simp only at hk h1 hH
 subst hH
 have hlk : ((n.log.take k).map een).length = k := by simp; omega
 obtain ⟨p, c, hv⟩ := OSl.len h1
 rw [hlk] at hv
 subst hv
 refine zC ?_
 refine cr <| s_ Qa <| s_ Qj <| s_ Qf ?_
 (first | refine s_ QS ?_ | refine s_ QP ?_)
 refine s_ QN <| zC ?_
 refine ci ?_ ?_
 ·intro hlt
  have hix : k < n.log.length := by simp only [List.length_map] at hlt; omega
  refine zC ?_
  refine ca [0, 1, 2, 3, 4, 5, 6, 7, 8, 9, 10, 11, 12, 13, 14, 15, 16, 17, 18, 19, 20, 21, 22, 23, 24] [22, 24] <| a_ (fun _ => Qc) <| Qv ?_
  refine a_ (fun _ => Qj) <| a_ (fun _ => Qf) <| a_ (fun _ => Qa) ?_
  (first | refine a_ (fun _ => Q4 hix) ?_ | refine a_ (fun _ => Q4 hix2) ?_ | refine a_ (fun _ => Yd) ?_ | refine a_ (fun _ => Ys) ?_)
  (first | refine a_ (fun _ => Qj) ?_ | refine a_ (fun _ => Qc) ?_)
  (first | refine a_ (fun _ => Qf) ?_ | refine Qv ?_)
  refine a_ (fun _ => Qj) <| a_ (fun _ => Qf) <| a_ (fun _ => Qa) ?_
  (first | refine a_ (fun _ => Q4 hix) ?_ | refine a_ (fun _ => Q4 hix2) ?_ | refine a_ (fun _ => Yd) ?_ | refine a_ (fun _ => Ys) ?_)
  (first | refine a_ (fun _ => Qj) ?_ | refine a_ (fun _ => Qc) ?_)
  (first | refine a_ (fun _ => Qf) ?_ | refine Qv ?_)
  refine a_ (fun _ => Qj) <| a_ (fun _ => Qf) <| a_ (fun _ => Qa) ?_
  (first | refine a_ (fun _ => Q4 hix) ?_ | refine a_ (fun _ => Q4 hix2) ?_ | refine a_ (fun _ => Yd) ?_ | refine a_ (fun _ => Ys) ?_)
  (first | refine a_ (fun _ => Qj) ?_ | refine a_ (fun _ => Qc) ?_)
  (first | refine a_ (fun _ => Qf) ?_ | refine Qv ?_)
  refine a_ (fun _ => YH 3 [_, _, _]) <| a_ (fun _ => XS) ?_
  refine BV (ho := h1) (A := [_]) (B := [_]) (VM _) (fun v' Hl' h1' => ⟨zd, ?_⟩)
  refine zD ?_
  have h1 : OSl rE 3 ((n.log.take (k + 1)).map een) v' Hl' := by
   rw [List.take_succ_eq_append_getElem hix, List.map_append]; exact h1'
  clear h1'
  obtain ⟨p, c, rfl⟩ := OSl.len h1
  refine a_ (fun _ => Qc) <| Q2 ?_
  apply an
  refine zC ?_
  refine cr <| s_ Qa <| s_ QQ <| s_ Qb <| zC ?_
  exact ⟨(k + 1, _), ⟨by simp only; omega, _, Hl', h1, rfl⟩, by show n.log.length - (k + 1) < n.log.length - k; omega, ⟨Qh (by rfl) (Le.refl _), eL⟩, kR⟩
 ·intro hlt
  have hkl : k = n.log.length := by simp only [List.length_map] at hlt; omega
  subst hkl
  rw [List.take_length] at h1
  refine zC ?_
  refine GQ (G := (b3, _) :: Hl) (H1 := [(b2, _)]) 3 (.adr (nd n)) (QJ.ptr List.mem_cons_self (.inr ⟨_, rfl⟩) (Xa n (OSl.lend h1 (by intro p hp; simp [hp]) (VM _) (WV _))) (by simp [nd, T.cells, Qg]) (by simp [nd, T.cells, Qg])) (List.Perm.refl _) ?_
  refine zC ?_
  refine cr <| s_ XN <| Qn ?_
  refine zC ?_
  refine zE ?_
  exact Le.refl _
theorem TS {bg bx : Nat} {conf : Int} {g : Gp} {u : Nat} {H1 H2 : Qd} (hu : u ≤ 25000) (hB : Ub bg bx conf g u H1 H2) :
  FnH Tryz.prog 31 [pW bg, pW bx] (H1 ++ H2) (fun r H' => r = .v (.bool true) ∧ H' = H1 ++ H2) := by
 have hG := hB.is
 obtain ⟨τ, l, hb⟩ := hB.gb
 obtain ⟨τx, hX⟩ := hB.x
 have hUn := Bi bg g H1 hG
 have hXs := hX.is
 obtain ⟨v, Hm, hos, hH2⟩ := hX.is.mem
 obtain ⟨p, c, hv⟩ := OSo.len hos
 rw [List.length_map] at hv
 subst hv
 clear hos
 obtain ⟨n, hn⟩ : ∃ n, n = g.way.length := ⟨_, rfl⟩
 have hn' : (prG g).way.length = n := hn.symm
 rw [hn'] at hH2
 subst hH2
 rw [← hn] at hUn
 refine fe Tryz.func31 fun S0 w0 => ?_
 show Sim _ _ [(0, pW bg), (1, pW bx)] (H1 ++ ((bx, ⟨tX, xvC (prG g).n (fun i => (prG g).aw.getD i false) (.v (.slice p n c)), 116⟩) :: (Hm ++ []))) _
 refine zC ?_
 refine cr <| s_ Qb <| zC ?_
 refine V4 (σ := Unit) (ok := fun _ => True) (env := fun _ => [(13, .v (.bool (decide (¬ (n : Int) = n)))), (0, pW bg), (1, pW bx)]) (heap := fun _ => H1 ++ ((bx, ⟨tX, xvC (prG g).n (fun i => (prG g).aw.getD i false) (.v (.slice p n c)), 116⟩) :: (Hm ++ []))) ?_ (fun _ _ => ?_)
 ·refine zC ?_
  refine ca [0, 2, 3, 4, 5, 6, 1, 7] [1] <| a_ (fun _ => Qa) <| a_ (fun _ => Qa) <| a_ (fun _ => Qe) <| a_ (fun _ => Qc) <| Qv ?_
  (first | refine a_ (fun _ => QS) ?_ | refine a_ (fun _ => QP) ?_)
  refine Lg hUn (.refl _) (fun r H' ⟨hr1, hr2⟩ => ⟨?_, ?_⟩)
  ·subst hr1 hr2; exact zd
  subst hr1 hr2
  refine zD ?_
  refine a_ (fun _ => XE) ?_
  apply an
  refine zC ?_
  exact ⟨(), _, trivial, eL, .refl _, kR⟩
 refine ci (fun h => absurd rfl h) (fun _ => ?_)
 refine zC ?_
 refine cr <| s_ Qb <| zC ?_
 apply Qm (σ := Nat) (ok := fun k => k ≤ 5) (env := fun k => [(5, ei (k : Nat)), (0, pW bg), (1, pW bx)]) (heap := fun _ => H1 ++ ((bx, ⟨tX, xvC (prG g).n (fun i => (prG g).aw.getD i false) (.v (.slice p n c)), 116⟩) :: (Hm ++ []))) (μ := fun k => 5 - k) (s0 := 0)
 ·exact Nat.zero_le _
 ·exact eL
 ·exact kR
 rintro k hk5
 refine zC ?_
 refine cr <| s_ Qa <| s_ QN <| zC ?_
 refine ci ?_ ?_
 ·intro hlt
  have hk : k < 5 := by omega
  have hi : isI (k : Int) := ⟨by omega, by omega⟩
  have hnb := hb.nb k hk
  have hlen := hnb.len
  have hbase := hnb.base
  have hc0 := hnb.com0
  have hc1 := hnb.com1
  have hfive := hb.five
  have hpn : (prG g).n k = (g.k k).N := UL g k (by rw [hb.ks]; exact hk)
  have hDg := T1 bg g H1 (k : Int) hi (by rw [Int.toNat_natCast]; omega) (by rw [Int.toNat_natCast]; exact hbase) (by rw [Int.toNat_natCast]; exact hc0) (by rw [Int.toNat_natCast]; omega) hG
  have hDx := Ac (k : Int) hi (by rw [Int.toNat_natCast, hpn]; exact hbase) (by rw [Int.toNat_natCast, hpn]; omega) (by rw [Int.toNat_natCast, hpn]; omega) hXs
  have htk := ZT (N := (prG g).n) (o := fun i => (prG g).aw.getD i false) (v := .v (.slice p n c)) (i := (k : Int)) hi.1 hi.2
  rw [Int.toNat_natCast] at hDg hDx htk
  rw [hpn] at hDx htk
  obtain ⟨a, bm, es', clk, W, wv, hAw, hO, hH1⟩ := hG
  have hKp := Dz bg g (k : Int) hi (a := a) (bm := bm) (es := es') (clk := clk) hAw hO
  have hNo := UP (bg := bg) (g := g) (a := a) (bm := bm) (es := es') (clk := clk) (W := W) (wv := wv) (i := k) hk (by omega)
  rw [Int.toNat_natCast] at hKp
  rw [← hH1] at hKp hNo
  obtain ⟨N, hN⟩ : ∃ N, N = (g.k k).N := ⟨_, rfl⟩
  rw [← hN] at hNo hDg hDx htk hlen
  have hNd := CY N (by omega)
  have hSa := A0 N N (by omega) (by omega)
  have hTx := Ar (Ld N) (by
   have := Wz (N.log.take (max (min (N.commit - N.base) N.log.length) 0).toNat)
   have e : Ld N = Zs (N.log.take (max (min (N.commit - N.base) N.log.length) 0).toNat) := rfl
   rw [e]
   rw [List.length_take] at this
   omega)
  have hno : ¬ ¬ N = N := fun h => h rfl
  apply ck
  apply cq
  apply cb
  apply cq
  refine V4 (σ := Unit) (ok := fun _ => True) (env := fun _ => [(40, .v (.bool (decide (¬ N = N ∨ ¬ True)))), (5, ei (k : Nat)), (0, pW bg), (1, pW bx)]) (heap := fun _ => H1 ++ ((bx, ⟨tX, xvC (prG g).n (fun i => (prG g).aw.getD i false) (.v (.slice p n c)), 116⟩) :: (Hm ++ []))) ?_ (fun _ _ => ?_)
  ·refine cmg [2, 3, 16, 19] (.yields 0 (.yields 1 (.yields 5 (.yields 6 (.yields 7 (.yields 8 (.yields 9 (.yields 10 (.alt 2 (.alt 3 (.yields 4 (.yields 11 (.yields 12 (.yields 13 (.yields 14 (.yields 15 (.yields 17 (.yields 18 (.alt 16 (.alt 19 (.yields 20 (.yields 21 (.yields 22 .done))) .stop) .stop))))))))) .stop) .stop))))))))) ?_
   refine m_ (fun _ => Qa) <| m_ (fun _ => Qa) <| m_ (fun _ => Qa) <| m_ (fun _ => Qa) <| m_ (fun _ => Qe) <| m_ (fun _ => Qc) <| m_ (fun _ => Xp) <| HT (hc := htk) (hm := List.mem_append_right _ List.mem_cons_self) ?_
   refine ⟨⟨trivial, ?_⟩, trivial⟩
   refine Ie hKp (.refl _) (fun r H' ⟨hr1, hr2⟩ => ⟨?_, ?_⟩)
   ·subst hr1 hr2; exact zd
   subst hr1 hr2
   refine ⟨⟨trivial, ?_⟩, trivial⟩
   refine Ie hNo (.refl _) (fun r H' ⟨hr1, hr2⟩ => ⟨?_, ?_⟩)
   ·subst hr1 hr2; exact zd
   subst hr1 hr2
   refine m_ (fun _ => Qr hNd) <| m_ (fun _ => Qr hSa) <| m_ (fun _ => Yb) <| m_ (fun _ => Qa) <| C2 (fun _ hg => Qa) ?_
   refine C2 (fun _ hg => Qa) ?_
   refine C2 (fun _ hg => Qa) ?_
   refine C2 (fun _ hg => Qa) ?_
   refine ⟨⟨G7 hno, ?_⟩, trivial⟩
   refine Ax hDg (.refl _) (fun r H' ⟨hr1, hr2⟩ => ⟨?_, ?_⟩) (ha' := Qu (u_ hno) (Qu (u_ hno) Xh))
   ·subst hr1 hr2; exact zd
   subst hr1 hr2
   refine ⟨⟨G7 hno, ?_⟩, trivial⟩
   refine Ax hDx List.perm_append_comm (fun r H' ⟨hr1, hr2⟩ => ⟨?_, ?_⟩) (ha' := Qu (u_ hno) (Qu (u_ hno) Xh))
   ·subst hr1 hr2; exact zd
   subst hr1 hr2
   refine C2 (fun _ hg => Qr hTx) ?_
   refine C2 (fun _ hg => Yb (p := True) (hx := u_ hg)) ?_
   refine m_ (fun _ => XC) ?_
   exact ⟨(), _, trivial, eL, List.perm_append_comm, kR⟩
  refine ci (p := ¬ N = N ∨ ¬ True) (fun h => absurd h (by simp)) (fun _ => ?_)
  refine zC ?_
  refine cr <| s_ Qa <| s_ QQ <| s_ Qb <| zC ?_
  exact ⟨k + 1, by omega, by show 5 - (k + 1) < 5 - k; omega, ⟨Qh (by rfl) (Le.refl _), eL⟩, kR⟩
 ·intro hlt
  refine zC ?_
  refine cr <| s_ Qb <| zC ?_
  refine zR ?_
  exact rh kR ⟨rfl, rfl⟩ (Le.refl _)
theorem TX (conf : Int) : FnH Tryz.prog 10 [ei conf] [] (fun r H => ∃ p, r = .tup [.v (.pointer p), ei (if 1 ≤ conf ∧ conf ≤ 31 then 0 else 1)]) := by
 by_cases h : 1 ≤ conf ∧ conf ≤ 31
 ·rw [if_pos h]
  exact (EC PS conf h.1 h.2).mono fun r H ⟨bg, g, hr, _⟩ => ⟨_, hr⟩
 ·rw [if_neg h]
  exact (TW conf h).mono fun r H ⟨hr, _⟩ => ⟨_, hr⟩
theorem Aa (conf : Int) : FnH Tryz.prog 29 [ei conf] [] (fun r H => ∃ p, r = .tup [.v (.pointer p), ei (if 1 ≤ conf ∧ conf ≤ 31 then 0 else 1)]) := by
 by_cases h : 1 ≤ conf ∧ conf ≤ 31
 ·rw [if_pos h]
  exact (E0 conf h.1 h.2).mono fun r H ⟨bg, hr, _⟩ => ⟨_, hr⟩
 ·rw [if_neg h]
  exact (B9 conf h).mono fun r H ⟨hr, _⟩ => ⟨_, hr⟩
theorem NG {bg bx : Nat} {conf : Int} {g : Gp} {H1 H2 : Qd} (h1 : 1 ≤ conf) (h2 : conf ≤ 31) (hG : IsG bg g H1) (hB : GB PS g 0 0 0) (hL : GL conf g) (hpr : prG g = GM conf) (hcf : g.conf = conf) (hX : IsX bx (GM conf) H2) : Ub bg bx conf g 0 H1 H2 := by
 have hxb := hB.xb
 refine ⟨h1, h2, hG, ⟨0, 0, hB⟩, hL, hcf, 0, ?_⟩
 rw [hpr] at hxb ⊢
 exact ⟨hX, GI.new (by omega) h2, 0, hxb⟩
theorem Bk (conf0 : Int) (l : List Ag) (hl : l.length ≤ 9223372036854775807) : FnP Tryz.prog 7 [ei conf0, .sl false (l.map agT)] (fun r => r = .v (.bool true)) := by
 have hK := Rp
 have hF := T9 false l hl
 have hA1 := TX conf0
 have hA2 := Aa conf0
 have w31 := Yu conf0 31 (by omega) (by omega)
 refine fe Tryz.func7 fun S0 w0 => ?_
 show Sim _ _ [(0, ei conf0), (1, T.sl false (l.map agT))] _ _
 refine zC ?_
 refine cr <| s_ Qb <| zC ?_
 refine cr <| s_ (Qr (hK)) <| s_ HM <| zC ?_
 refine ci (p := False) (fun h => h.elim) (fun _ => ?_)
 refine zC ?_
 refine cr <| s_ Qa ?_
 refine S6 hF (fun r ⟨b, hr, hF⟩ => ?_)
 subst hr
 refine s_ HM <| zC ?_
 cases b with
 | false =>
  refine ci (p := True) (fun _ => ?_) (fun h => absurd trivial h)
  refine zC ?_
  refine cr <| s_ Qb <| zC ?_
  refine zE ?_
  exact Le.refl _
 | true =>
 refine ci (p := False) (fun h => h.elim) (fun _ => ?_)
 obtain ⟨hcmd, hl100⟩ := hF rfl
 clear hF hK
 refine zC ?_
 refine cr <| s_ Qa ?_
 refine Q1 (Hs := []) (Hr := []) hA1 (.refl _) (fun r H ⟨p, hr⟩ => ?_)
 subst hr
 rw [List.append_nil]
 refine s_ Qa <| s_ Qt <| s_ Qt <| s_ Qb <| s_ Qb <| zC ?_
 refine cr <| s_ Qa ?_
 refine Q1 (Hs := []) (Hr := H) hA2 (.refl _) (fun r H' ⟨p', hr⟩ => ?_)
 subst hr
 refine s_ Qa <| s_ Qt <| s_ Qt <| s_ Qb <| s_ Qb <| zC ?_
 refine cr <| s_ Qa <| s_ Qa <| s_ XE <| zC ?_
 refine ci (fun h => absurd rfl h) (fun _ => ?_)
 obtain ⟨conf, hcf⟩ : ∃ conf, conf = 1 + conf0 % 31 := ⟨_, rfl⟩
 have hc1 : 1 ≤ conf ∧ conf ≤ 31 := by omega
 refine zC ?_
 refine cr <| s_ Qa <| s_ (Qr (w31)) <| s_ QQ <| s_ Qb <| zC ?_
 rw [← hcf]
 clear hcf w31 hA1 hA2
 have hN := EC PS conf hc1.1 hc1.2
 have hX := E0 conf hc1.1 hc1.2
 refine zC ?_
 refine cr <| s_ Qa ?_
 refine Q1 (Hs := []) (Hr := H' ++ H) hN (.refl _) (fun r H1 ⟨bg, g, hr, hG, hB, hL, hpr, hcf⟩ => ?_)
 subst hr
 refine s_ Qa <| s_ Qt <| s_ Qt <| s_ Qb <| s_ Qb <| zC ?_
 refine cr <| s_ Qa ?_
 refine Q1 (Hs := []) (Hr := H1 ++ (H' ++ H)) hX (.refl _) (fun r H2 ⟨bx, hr, hXs⟩ => ?_)
 subst hr
 have hBo := NG hc1.1 hc1.2 hG hB hL hpr hcf hXs
 clear hG hB hL hpr hcf hXs hN hX
 refine s_ Qa <| s_ Qt <| s_ Qt <| s_ Qb <| s_ Qb <| zC ?_
 refine cr <| s_ Qb <| zC ?_
 refine Xr (H' := (H1 ++ H2) ++ (H' ++ H)) (by rw [← List.append_assoc]; exact List.perm_append_comm.append_right _) ?_
 apply Qm (σ := Nat × Gp × Qd × Qd) (ok := fun s => s.1 ≤ l.length ∧ Ub bg bx conf s.2.1 (205 * s.1) s.2.2.1 s.2.2.2) (env := fun s => [(13, ei s.1), (11, pW bx), (9, pW bg), (1, T.sl false (l.map agT))]) (heap := fun s => s.2.2.1 ++ s.2.2.2) (μ := fun s => l.length - s.1) (s0 := (0, g, H1, H2))
 ·exact ⟨Nat.zero_le _, hBo⟩
 ·exact eL
 ·have h := kH (A := H1 ++ H2) (Qp.nil (H' ++ H))
  rw [List.append_nil] at h
  exact h
 clear hBo
 rintro ⟨k, g, H1, H2⟩ ⟨hk, hB⟩
 simp only at hk hB
 show Sim _ _ [(13, ei k), (11, pW bx), (9, pW bg), (1, T.sl false (l.map agT))] (H1 ++ H2) _
 refine zC ?_
 refine cr <| s_ Qa <| s_ Qa ?_
 (first | refine s_ QS ?_ | refine s_ QP ?_)
 refine s_ QN <| zC ?_
 refine ci ?_ ?_
 ·intro hlt
  have hix : k < l.length := by simp only [List.length_map] at hlt; omega
  have hAct := P1 l[k] (by have := hcmd k hix; omega) (by omega) hB
  refine zC ?_
  refine cr <| s_ Qa <| s_ Qa ?_
  (first | refine s_ (Q4 hix) ?_ | refine s_ (Q4 hix2) ?_ | refine s_ Yd ?_ | refine s_ Ys ?_)
  refine s_ XN <| s_ Qa <| s_ Qa ?_
  refine QY hAct (fun r H' ⟨hr1, g', H1', H2', hB', hr2⟩ => ?_)
  subst hr1 hr2
  have hSm := TS (by omega) hB'
  refine s_ (Yb (p := True)) <| s_ Qa <| gF (fun hg => Qa) ?_
  refine gF (fun hg => Qa) ?_
  have hno : ¬ ¬ True := fun h => h trivial
  refine IY (p := ¬ True) (Hr := []) hno hSm (by rw [List.append_nil]) (fun r H5 ⟨hr1, hr2⟩ => ?_) (ha' := Qu (u_ hno) (Qu (u_ hno) Xh))
  subst hr1 hr2
  rw [List.append_nil]
  refine gF (p := ¬ True) (fun hg => Yb (p := True)) ?_
  refine s_ XC <| zC ?_
  refine ci (p := ¬ True ∨ ¬ True) (fun h => absurd h (by simp)) (fun _ => ?_)
  refine zC ?_
  refine cr <| s_ Qa <| s_ QQ <| s_ Qb <| zC ?_
  refine ⟨(k + 1, g', H1', H2'), ⟨hix, by simp only; rw [Nat.mul_add]; exact hB'⟩, (by simp only []; omega), ⟨?_, eL⟩, kR⟩
  apply Qh; (exact zG)
  exact Le.refl _
 ·intro hge
  refine zC ?_
  refine cr <| s_ Qb <| zC ?_
  refine zE ?_
  exact Le.refl _
end Go.Proofs.YtjbokbikkcfjjaaGreat
namespace Go.Cap
open Go.ChangeShapes Go.WideShapes Go.ChangeAt Go.RowKit
theorem Q9.below {S S' : Nat → Prop} {w w' : World} (h : Q9 [] S w S' w') : Below w.heap.size w w' := ⟨h.os, h.tape, h.output, h.size, fun k hk => h.keep k hk (by simp)⟩
theorem RP {P : Program} {f : FuncId} {args : List T} (h : FnP P f args (fun r => r = .v (.bool true))) {w : World} {vs : List Value} (hr : QF (fun b => b < w.heap.size) w args vs) :
  Calls P f vs.toArray w fun e w' => e = .returned (.bool true) ∧ Below w.heap.size w w' := by
 refine (h (fun b => b < w.heap.size) w vs (fun b hb => hb) (Own.nil _ _) hr).mono ?_
 rintro e w' ⟨u, S', r, H', rfl, ⟨_, rfl⟩, hrel, _, hst, _⟩
 exact ⟨by rw [hrel.v_eq], hst.below⟩
section
variable {H : Type} {enc : TypeId × Value → H} {P : Program}
theorem Vv (hl : laidOutB P = true) {W W' : World} (hb : Below W.heap.size W W') : ∀ (ts : List TypeId) (vs : List Value) (ds : List (DataW H)) (ps : List MemPlace),
  (∀ t ∈ ts, P.readableRec t = true ∧ t < P.types.size) → DataW.TrodAll enc P W 0 (fun _ => true) true ts vs ds ps → (∀ x ∈ ps, x.block < W.heap.size) →
  DataW.TrodAll enc P W' 0 (fun b => decide (b < W.heap.size)) true ts vs ds ps
 | [], _, _, _, _, h, _ => by
  obtain ⟨rfl, rfl, rfl⟩ := trodAll_nil h
  exact h
 | t :: ts, _, _, _, ht, h, hp => by
  obtain ⟨v, vs1, d, ds1, a, b, rfl, rfl, rfl, h1, h2⟩ := trodAll_cons h
  refine ⟨a, b, Below.trod hl (ht t List.mem_cons_self).1 (ht t List.mem_cons_self).2 h1 hb (fun x hx => hp x (List.mem_append_left _ hx)), ?_, rfl⟩
  exact Vv hl hb ts vs1 ds1 b (fun y hy => ht y (List.mem_cons_of_mem _ hy)) h2 (fun x hx => hp x (List.mem_append_right _ hx))
theorem CH {f : Func} {s : ChangeSpec} {W W' : World} {args : Array Value} {ds gs : List (DataW H)} {before : List MemPlace} {tb : TypeId} (hl : laidOutB P = true) (hvs : s.vars = [])
  (hW : DataW.Whole enc P f.params.toList s.vars false W args.toList ds gs before) (hb : Below W.heap.size W W') (hts : (f.params.toList.all fun t => P.readableRec t && Nat.blt t P.types.size) = true)
  (hres : (s.fn H (ds ++ gs)).results = [.lit (.bool true)]) (harg : (s.fn H (ds ++ gs)).args = ds) (hvar : (s.fn H (ds ++ gs)).vars = []) (hr : f.resultTypes = #[tb]) (htb : P.underlying tb = some .bool) :
  s.post enc P f false true false false W args (.bool true) W' := by
 have hts' : ∀ t ∈ f.params.toList, P.readableRec t = true ∧ t < P.types.size := fun t ht => by
  have := List.all_eq_true.1 hts t ht
  simp only [Bool.and_eq_true] at this
  exact ⟨this.1, by simpa using this.2⟩
 have hW' := hW
 obtain ⟨p, q, hA, hV, rfl, hfz, hnd⟩ := hW
 rw [hvs] at hV
 obtain ⟨rfl, rfl⟩ := trodVars_none hV
 refine ⟨ds, [], p ++ [], [], p, [], hW', ?_, ?_, ?_, hb.frame _, fun h => by cases h⟩
 ·rw [hres, hr]
  exact trodAll_mk1 (shut_bool htb true)
 ·rw [harg]
  exact Vv hl hb _ _ _ _ hts' hA (fun x hx => hW'.lt x (by simpa using hx))
 ·rw [hvs, hvar]; rfl
end
end Go.Cap
