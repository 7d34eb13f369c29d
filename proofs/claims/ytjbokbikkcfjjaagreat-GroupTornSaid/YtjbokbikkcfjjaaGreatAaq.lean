/-
  A region in whatever order its edges allow, whose last operations, of which each does something, are bound to each other in part alone.
-/
import Derived.Test.YtjbokbikkcfjjaaGreatAap
set_option maxRecDepth 16000
set_option maxHeartbeats 8000000
set_option linter.all false
namespace Go.Cap
section
variable {K : Ctx} {ops : Array Oper} {eff : List Nat} {N : Env → Qc → Prop} {Q : Exit → Act → World → Prop}
def My (ops : Array Oper) (n : Nat) (eff : List Nat) : Bool :=
 (List.range ops.size).all fun i => match ops[i]? with
  | none => false
  | some o => (!QS eff i || o.guard.isNone) && (o.after.all fun e => !Region.binds .any e || Nat.blt e.on i) && match o.dst with
   | none => QS eff i
   | some k => Nat.blt k n && !QS (o.looksAt ops) k && (List.range ops.size).all fun j => Nat.beq j i || match ops[j]? with
     | none => false
     | some p => (match p.dst with | some q => !Nat.beq q k | none => true) && (!QS (p.looksAt ops) k || (Yo p i || (QS eff i && Yo o j)))
structure ZV (ops : Array Oper) (n : Nat) (eff : List Nat) : Prop where
 grd : ∀ (i : Nat) (o : Oper), ops[i]? = some o → i ∈ eff → o.guard = none
 back : ∀ (i : Nat) (o : Oper), ops[i]? = some o → ∀ e ∈ o.after, Region.binds .any e = true → e.on < i
 pur : ∀ (i : Nat) (o : Oper), ops[i]? = some o → o.dst = none → i ∈ eff
 dst : ∀ (i : Nat) (o : Oper) (k : Nat), ops[i]? = some o → o.dst = some k → k < n ∧ k ∉ o.looksAt ops ∧ ∀ j p, ops[j]? = some p → j ≠ i → p.dst ≠ some k ∧ (k ∈ p.looksAt ops → Yo p i = true ∨ (i ∈ eff ∧ Yo o j = true))
theorem ZV.of {ops : Array Oper} {n : Nat} {eff : List Nat} (h : My ops n eff = true) : ZV ops n eff := by
 have key : ∀ i o, ops[i]? = some o → _ := fun i o ho => by
  have hi : i < ops.size := (Array.getElem?_eq_some_iff.1 ho).1
  have := (List.all_eq_true.1 h) i (List.mem_range.2 hi)
  simp only [ho, Bool.and_eq_true] at this
  exact this
 refine ⟨fun i o ho he => ?_, fun i o ho e he hb => ?_, fun i o ho hd => ?_, fun i o k ho hk => ?_⟩
 ·have := (key i o ho).1.1
  simp only [QB.2 he, Bool.not_true, Bool.false_or] at this
  simpa using this
 ·have h1 := Array.all_eq_true_iff_forall_mem.1 (key i o ho).1.2 e he
  rw [hb] at h1
  simpa using h1
 ·have := (key i o ho).2
  rw [hd] at this
  exact QB.1 this
 ·have h1 := (key i o ho).2
  simp only [hk, Bool.and_eq_true] at h1
  obtain ⟨⟨h2, h3⟩, h4⟩ := h1
  refine ⟨by simpa using h2, fun hm => ?_, fun j p hp hne => ?_⟩
  ·rw [QB.2 hm] at h3; cases h3
  ·have hj : j < ops.size := (Array.getElem?_eq_some_iff.1 hp).1
   have h5 := (List.all_eq_true.1 h4) j (List.mem_range.2 hj)
   have hb : Nat.beq j i = false := ZQ hne
   simp only [hb, Bool.false_or, hp, Bool.and_eq_true, Bool.or_eq_true] at h5
   refine ⟨fun e => ?_, fun hm => ?_⟩
   ·rw [e] at h5
    simp [Nat.beq_refl] at h5
   ·rcases h5.2 with h6 | h6 | h6
    ·rw [QB.2 hm] at h6; cases h6
    ·exact .inl h6
    ·exact .inr ⟨QB.1 h6.1, h6.2⟩
theorem JT {K : Ctx} {ops : Array Oper} {eff : List Nat} (hc : ZV ops K.n eff) {pre : List Nat} {t : Env} {H' : Qc} {i : Nat} {o : Oper} {d : T} (ho : ops[i]? = some o) (hi : i ∉ pre)
  (htop : ∀ j ∈ pre, ∀ q, ops[j]? = some q → ∀ e ∈ q.after, Region.binds .any e = true → e.on ∈ pre) {p : Xg} (hp : p.i ∈ pre) (hpo : ops[p.i]? = some p.o) (hx : i ∈ eff → Yo o p.i = true → False) (h : GOp K.P ops t H' p.o p.d) : GOp K.P ops (t.put o.dst d) H' p.o p.d := by
 refine GOp.congr h fun x hxx => ?_
 cases hd : o.dst with
 | none => rfl
 | some k =>
  by_cases hk : k = x
  ·subst hk
   have hne : p.i ≠ i := fun e => hi (e ▸ hp)
   rcases ((hc.dst i o k ho hd).2.2 p.i p.o hpo hne).2 hxx with hb | hb
   ·obtain ⟨e, he, h1, h2⟩ := Z8.1 hb
    exact absurd (h2 ▸ htop p.i hp p.o hpo e he h1) hi
   ·exact (hx hb.1 hb.2).elim
  ·exact (Env.get_put_ne t d hk).symm
theorem JU {K : Ctx} {ops : Array Oper} {eff : List Nat} (hc : ZV ops K.n eff) {pre : List Nat} {t : Env} {i : Nat} {o : Oper} {d : T} (ho : ops[i]? = some o) (hi : i ∉ pre) {p : Xg} (hp : p.i ∈ pre) (hpo : ops[p.i]? = some p.o)
  {k : Nat} (hk : p.o.dst = some k) (h : t.get k = p.d) : (t.put o.dst d).get k = p.d := by
 cases hd : o.dst with
 | none => exact h
 | some j =>
  by_cases hj : j = k
  ·subst hj
   have hne : p.i ≠ i := fun e => hi (e ▸ hp)
   exact absurd hk ((hc.dst i o j ho hd).2.2 p.i p.o hpo hne).1
  ·show Env.get (t.put (some j) d) k = _
   rw [Env.get_put_ne t d hj]; exact h
def Jq (K : Ctx) (ops : Array Oper) (eff : List Nat) (N : Env → Qc → Prop) : Nat → List (Nat × Oper) → Env → Qc → List Xg → Prop
 | 0, _ => fun t H _ => N t H
 | k + 1, rem => fun t H pend => ∀ p ∈ rem, (rem.all fun q => !Yo p.2 q.1) = true → QM K ops eff p.1 p.2 (Jq K ops eff N k (rem.filter fun q => !Nat.beq q.1 p.1)) t H pend
structure T2 (K : Ctx) (ops : Array Oper) (eff : List Nat) (N : Env → Qc → Prop) (pre : List Nat) (rem : List (Nat × Oper)) (t : Env) (H : Qc) (pend : List Xg) (listed : Array Bool) : Prop where
 cover : ∀ i, i < ops.size → i ∈ pre ∨ i ∈ rem.map (·.1)
 top : ∀ i ∈ pre, ∀ o, ops[i]? = some o → ∀ e ∈ o.after, Region.binds .any e = true → e.on ∈ pre
 is : ∀ p ∈ rem, ops[p.1]? = some p.2
 re : ∀ p ∈ rem, p.1 ∈ eff ∧ p.1 ∉ pre
 nd : (rem.map (·.1)).Nodup
 todo : ∀ p ∈ rem, listed.getD p.1 true = false
 done : ∀ i ∈ pre, i ∈ eff → listed.getD i false = true
 has : ∀ i ∈ pre, i ∉ eff → listed.getD i true = false → ∃ p ∈ pend, p.i = i
 pis : ∀ p ∈ pend, p.i ∈ pre ∧ p.i ∉ eff ∧ ops[p.i]? = some p.o
 gop : ∀ p ∈ pend, listed.getD p.i true = false → (∀ H', p.F H' → GOp K.P ops t H' p.o p.d) ∧ ∀ k, p.o.dst = some k → t.get k = p.d
 now : ∀ p ∈ pend, listed.getD p.i true = false → p.F H
 closed : ∀ i o, ops[i]? = some o → listed.getD i true = true → ∀ e ∈ o.after, Region.binds .any e = true → listed.getD e.on true = true
 go : Jq K ops eff N rem.length rem t H pend
theorem EJ {rem : List (Nat × Oper)} (hnd : (rem.map (·.1)).Nodup) {p : Nat × Oper} (hp : p ∈ rem) : (rem.filter fun q => !Nat.beq q.1 p.1).length + 1 = rem.length := by
 induction rem with
 | nil => cases hp
 | cons r rem ih =>
  rw [List.map_cons, List.nodup_cons] at hnd
  rcases List.mem_cons.1 hp with rfl | hp
  ·rw [List.filter_cons, show (!Nat.beq p.1 p.1) = false by simp]
   have : rem.filter (fun q => !Nat.beq q.1 p.1) = rem := by
    rw [List.filter_eq_self]
    intro q hq
    have hne : ¬ q.1 = p.1 := fun e => hnd.1 (e ▸ List.mem_map.2 ⟨q, hq, rfl⟩)
    rw [ZQ hne]; rfl
   simp [this]
  ·have hne : ¬ r.1 = p.1 := fun e => hnd.1 (e ▸ List.mem_map.2 ⟨p, hp, rfl⟩)
   rw [List.filter_cons, ZQ hne]
   have := ih hnd.2 hp
   simp only [Bool.not_false, if_true, List.length_cons]
   omega
theorem BR (hc : ZV ops K.n eff) (hq : ∀ t' H' a' w', N t' H' → R K t' H' a' w' → Q .normal a' w') :
  ∀ (fuel : Nat) (pre : List Nat) (rem : List (Nat × Oper)) (t : Env) (H : Qc) (pend : List Xg) (listed : Array Bool) (tx : Env) (a : Act) (w : World), listed.size = ops.size → unl listed ops.size = fuel →
   T2 K ops eff N pre rem t H pend listed → (∀ x, (∀ p ∈ pend, listed.getD p.i true = false → p.o.dst ≠ some x) → tx.get x = t.get x) → R K tx H a w → wpAnyIn (RF K.rd) 0 K.P .any ops Q fuel listed a w := by
 intro fuel
 induction fuel with
 | zero =>
  intro pre rem t H pend listed tx a w hs hf hw hx hr
  have hall : ∀ j, j < ops.size → listed.getD j true = true := fun j hj => by
   have h0 := List.length_eq_zero_iff.1 hf
   have h1 := (List.filter_eq_nil_iff.1 h0) j (List.mem_range.2 hj)
   simpa using h1
  have hlt : ∀ j o, ops[j]? = some o → j < ops.size := fun j o h => (Array.getElem?_eq_some_iff.1 h).1
  refine ⟨?_, ?_⟩
  ·refine List.eq_nil_iff_forall_not_mem.2 fun j hj => ?_
   obtain ⟨h0, o, ho, _⟩ := mem_ready.1 hj
   rw [hall j (hlt j o ho)] at h0; cases h0
  ·cases rem with
   | cons p l =>
    have := hw.todo p List.mem_cons_self
    rw [hall _ (hlt _ _ (hw.is p List.mem_cons_self))] at this; cases this
   | nil =>
    refine hq t H a w hw.go (hr.env fun x => hx x fun p hp hl => ?_)
    rw [hall _ (hlt _ _ (hw.pis p hp).2.2)] at hl; cases hl
 | succ fuel ih =>
  intro pre rem t H pend listed tx a w hs hf hw hx hr
  have hlt : ∀ j o, ops[j]? = some o → j < ops.size := fun j o h => (Array.getElem?_eq_some_iff.1 h).1
  have hex : ∃ i, i < ops.size ∧ listed.getD i true = false := by
   refine Classical.byContradiction fun hne => ?_
   have : unl listed ops.size = 0 := by
    unfold unl
    rw [List.length_eq_zero_iff, List.filter_eq_nil_iff]
    intro j hj
    have hj' := List.mem_range.1 hj
    cases hv : listed.getD j true with
    | false => exact absurd ⟨j, hj', hv⟩ hne
    | true => simp
   omega
  have hmin : ∃ i, i < ops.size ∧ listed.getD i true = false ∧ ∀ j, j < i → listed.getD j true = true := by
   obtain ⟨i, hi1, hi2⟩ := hex
   induction i using Nat.strongRecOn with
   | _ i ihm =>
    by_cases h : ∀ j, j < i → listed.getD j true = true
    ·exact ⟨i, hi1, hi2, h⟩
    ·obtain ⟨j, hj⟩ := Classical.not_forall.1 h
     obtain ⟨hj1, hj2⟩ := Classical.not_imp.1 hj
     exact ihm j hj1 (by omega) (by simpa using hj2)
  obtain ⟨i0, hi0, hu0, hl0⟩ := hmin
  have hr0 : i0 ∈ Region.ready .any ops listed := mem_ready.2 ⟨hu0, ops[i0], by simp [hi0], fun e he hb => by
   have := hc.back i0 _ (by simp [hi0]) e he hb
   rw [lst (by omega)]; exact hl0 _ this⟩
  refine ⟨fun hn => (by rw [hn] at hr0; cases hr0), fun i hir => ?_⟩
  obtain ⟨hu, o, ho, hall⟩ := mem_ready.1 hir
  have hisz : i < ops.size := hlt i o ho
  have hbnd : ∀ j, j < ops.size → Yo o j = true → listed.getD j true = true := fun j hj hb => by
   obtain ⟨e, he, h1, h2⟩ := Z8.1 hb
   have := hall e he h1
   rw [h2, lst (by omega)] at this; exact this
  have hlook : ∀ x ∈ o.looksAt ops, tx.get x = t.get x := fun x hxo => hx x fun p hp hl he => by
   have hpi := (hw.pis p hp).2.2
   by_cases hne : i = p.i
   ·rw [← hne, ho] at hpi
    have e := Option.some.inj hpi
    exact (hc.dst i o x ho (e ▸ he)).2.1 hxo
   ·have := hbnd _ (hlt _ _ hpi) ((((hc.dst p.i p.o x hpi he).2.2 i o ho hne).2 hxo).resolve_right fun h => (hw.pis p hp).2.1 h.1)
    rw [this] at hl; cases hl
  have hopr : ∀ x ∈ o.op.operands, tx.ev x = t.ev x := by
   intro x hx'
   cases x with
   | tmp k' => exact hlook k' (List.mem_append_left _ (List.mem_filterMap.2 ⟨.tmp k', by simpa using hx', rfl⟩))
   | _ => rfl
  have hun := LR hs hisz hu
  have hfu : unl (listed.setIfInBounds i true) ops.size = fuel := by omega
  have hset : ∀ j, ¬ i = j → ∀ d, (listed.setIfInBounds i true).getD j d = listed.getD j d := fun j hj d => getD_set_ne d hj
  have hcl' : ∀ i' o', ops[i']? = some o' → (listed.setIfInBounds i true).getD i' true = true → ∀ e ∈ o'.after, Region.binds .any e = true → (listed.setIfInBounds i true).getD e.on true = true := fun i' o' ho' hl e he hb => by
   by_cases hie : i = e.on
   ·rw [← hie]; exact Q4 (by omega) _
   ·rw [hset _ hie]
    by_cases hii : i = i'
    ·subst hii; rw [ho] at ho'; cases ho'
     exact OI (hall e he hb)
    ·rw [hset _ hii] at hl; exact hw.closed i' o' ho' hl e he hb
  have hbr : ∀ j, X9 ops 12 o j = true → listed.getD j true = true := Y4 hw.closed 12 o fun e he hb => OI (hall e he hb)
  by_cases hpre : i ∈ pre
  ·
   have hne : i ∉ eff := fun he => by
    have := hw.done i hpre he
    rw [lst (by omega)] at this
    rw [this] at hu; cases hu
   obtain ⟨p, hp, hpi⟩ := hw.has i hpre hne hu
   have hpo : p.o = o := by
    have := (hw.pis p hp).2.2
    rw [hpi, ho] at this
    exact (Option.some.inj this).symm
   obtain ⟨k, hk⟩ : ∃ k, o.dst = some k := by
    cases hd : o.dst with
    | none => exact absurd (hc.pur i o ho hd) hne
    | some k => exact ⟨k, rfl⟩
   have hF := hw.now p hp (by rw [hpi]; exact hu)
   have hg := (hw.gop p hp (by rw [hpi]; exact hu)).1 H hF
   have hgk := (hw.gop p hp (by rw [hpi]; exact hu)).2 k (by rw [hpo]; exact hk)
   rw [hpo] at hg
   obtain ⟨hkn, hself, hoth⟩ := hc.dst i o k ho hk
   have next : ∀ (S S' : Nat → Prop) (w' : World) (v : Value), R1 K tx H a w S → QN [] S w S' w' → Rel S' w' p.d v → wpAnyIn (RF K.rd) 0 K.P .any ops Q fuel (listed.setIfInBounds i true) (a.put o.dst v) w' := by
    intro S S' w' v hr1 hst hrv
    refine ih pre rem t H pend _ (tx.put o.dst p.d) _ w' (by simpa using hs) hfu ⟨hw.cover, hw.top, hw.is, hw.re, hw.nd, fun q hq => ?_, fun j hj he => ?_, fun j hj he hlj => hw.has j hj he (by
     by_cases hij : i = j
     ·subst hij; exact hu
     ·rw [hset _ hij] at hlj; exact hlj), hw.pis, (fun q hq hl => hw.gop q hq (by
     by_cases hqi : i = q.i
     ·rw [← hqi]; exact hu
     ·rw [hset _ hqi] at hl; exact hl)), fun q hq hl => ?_, hcl', hw.go⟩ ?_ ⟨S', hr1.pure hst (by rw [hk]; simpa [Xo] using hkn) hrv⟩
    ·have h1 := hw.todo q hq
     by_cases hqi : i = q.1
     ·exact absurd (hqi ▸ hpre) (hw.re q hq).2
     ·rw [hset _ hqi]; exact h1
    ·by_cases hij : i = j
     ·subst hij; exact Q4 (by omega) _
     ·rw [hset _ hij]; exact hw.done j hj he
    ·by_cases hqi : i = q.i
     ·rw [← hqi, Q4 (by omega)] at hl; cases hl
     ·rw [hset _ hqi] at hl; exact hw.now q hq hl
    ·intro x hxx
     rw [hk]
     by_cases hkx : k = x
     ·subst hkx; rw [Env.get_put_self, hgk]
     ·rw [Env.get_put_ne _ _ hkx]
      refine hx x fun q hq hl he => ?_
      by_cases hqi : i = q.i
      ·have := (hw.pis q hq).2.2
       rw [← hqi, ho] at this
       cases this
       rw [hk] at he; cases he
       exact hkx rfl
      ·exact hxx q hq (by rw [hset _ hqi]; exact hl) he
   obtain ⟨S, hr1⟩ := hr
   have hop : ∀ x ∈ o.op.operands, Rel S w (t.ev x) (a.eval x) := fun x hx' => hopr x hx' ▸ hr1.env.ev x
   unfold wpOpIn
   simp only [ho]
   unfold GOp at hg
   cases hgu : o.guard with
   | none =>
    rw [hgu] at hg
    simp only [Q7 hgu a, if_true]
    exact YV (hg S w a hr1.wf hr1.own hop) fun S' w' v hst hrv => next S S' w' v hr1 hst hrv
   | some jw =>
    obtain ⟨j, want⟩ := jw
    rw [hgu] at hg
    obtain ⟨k', b, hj, hb, hyes, hno⟩ := hg
    have hv : a.tmps.getD k' undef = b := by
     have := hr1.env k'
     rw [hlook k' (by unfold Oper.looksAt; rw [hgu]; simp [hj]), hb] at this
     exact this.v_eq
    by_cases hwb : b = .bool want
    ·simp only [(Xv hgu hj hv).1 hwb, if_true]
     exact YV (hyes hwb S w a hr1.wf hr1.own hop) fun S' w' v hst hrv => next S S' w' v hr1 hst hrv
    ·simp only [(Xv hgu hj hv).2 hwb, Bool.false_eq_true, if_false]
     exact ⟨fun _ _ => trivial, next S S w undef hr1 (QN.refl _ hr1.wf) (by rw [hno hwb]; exact .v _)⟩
  ·
   have hml : i ∈ rem.map (·.1) := (hw.cover i hisz).resolve_left hpre
   obtain ⟨p, hpm, hpi⟩ := List.mem_map.1 hml
   have hpe := (hw.re p hpm).1
   have hpo := hw.is p hpm
   obtain ⟨pi, po⟩ := p
   simp only at hpi hpo hpe
   subst hpi
   rw [ho] at hpo; cases hpo
   have hrb : (rem.all fun q => !Yo o q.1) = true := by
    rw [List.all_eq_true]
    intro q hq
    cases hb : Yo o q.1 with
    | false => rfl
    | true =>
     have := hbnd q.1 (hlt _ _ (hw.is q hq)) hb
     rw [hw.todo q hq] at this; cases this
   have hlen := EJ hw.nd hpm
   have hgo0 := hw.go
   rw [← hlen] at hgo0
   have hgo := hgo0 (pi, o) hpm hrb
   simp only [QM, QB.2 hpe, cond_true] at hgo
   have hgu := hc.grd pi o ho hpe
   unfold wpOpIn
   simp only [ho, Q7 hgu a, if_true]
   refine hgo tx hopr a w hr _ Q ?_
   rintro t' H' a' w' ⟨d, pend', rfl, hpk, hdrop, hgo'⟩ hr'
   have hfm : ∀ q, q ∈ rem.filter (fun q => !Nat.beq q.1 pi) → q ∈ rem ∧ ¬ pi = q.1 := fun q hq => by
    obtain ⟨h1, h2⟩ := List.mem_filter.1 hq
    refine ⟨h1, fun e => ?_⟩
    rw [e] at h2
    simp at h2
   have hedge : ∀ e ∈ o.after, Region.binds .any e = true → e.on ∈ pre := fun e he hb => by
    have h1 := hall e he hb
    have h2 := hc.back pi o ho e he hb
    rcases hw.cover e.on (by omega) with h | h
    ·exact h
    ·exfalso
     obtain ⟨q, hq, hqe⟩ := List.mem_map.1 h
     have h3 := hw.todo q hq
     rw [hqe, ← lst (by omega), h1] at h3; cases h3
   refine ih (pi :: pre) (rem.filter fun q => !Nat.beq q.1 pi) (t.put o.dst d) H' pend' _ (tx.put o.dst d) a' w' (by simpa using hs) hfu ⟨?_, ?_, fun q hq => hw.is q (hfm q hq).1, ?_, ?_, ?_, ?_, ?_, ?_, ?_, ?_, hcl', hgo'⟩ ?_ hr'
   ·intro j hj
    rcases hw.cover j hj with h | h
    ·exact .inl (List.mem_cons_of_mem _ h)
    ·by_cases hjp : j = pi
     ·exact .inl (hjp ▸ List.mem_cons_self)
     ·obtain ⟨q, hq, hqj⟩ := List.mem_map.1 h
      exact .inr (List.mem_map.2 ⟨q, List.mem_filter.2 ⟨hq, by rw [ZQ (by rw [hqj]; exact hjp)]; rfl⟩, hqj⟩)
   ·intro j hj q hq e hee hb
    rcases List.mem_cons.1 hj with rfl | hj
    ·rw [ho] at hq; cases hq
     exact List.mem_cons_of_mem _ (hedge e hee hb)
    ·exact List.mem_cons_of_mem _ (hw.top j hj q hq e hee hb)
   ·intro q hq
    obtain ⟨h1, h2⟩ := hfm q hq
    refine ⟨(hw.re q h1).1, fun h => ?_⟩
    rcases List.mem_cons.1 h with h | h
    ·exact h2 h.symm
    ·exact (hw.re q h1).2 h
   ·exact (hw.nd.sublist (List.filter_sublist.map _))
   ·intro q hq
    obtain ⟨h1, h2⟩ := hfm q hq
    rw [hset _ h2]; exact hw.todo q h1
   ·intro j hj he
    by_cases hij : pi = j
    ·subst hij; exact Q4 (by omega) _
    ·rw [hset _ hij]
     rcases List.mem_cons.1 hj with h | h
     ·exact absurd h.symm hij
     ·exact hw.done j h he
   ·intro j hj he hlj
    rcases List.mem_cons.1 hj with rfl | hj
    ·exact absurd hpe he
    ·have hij : ¬ pi = j := fun e => by subst e; rw [Q4 (by omega)] at hlj; cases hlj
     rw [hset _ hij] at hlj
     obtain ⟨q, hq, hqj⟩ := hw.has j hj he hlj
     rcases hdrop.has q hq with h | h
     ·exact ⟨q, h, hqj⟩
     ·rw [← hqj, hbr q.i h] at hlj; cases hlj
   ·intro q hq
    obtain ⟨a1, a2, a3⟩ := hw.pis q (hdrop.sub q hq)
    exact ⟨List.mem_cons_of_mem _ a1, a2, a3⟩
   ·intro q hq hl
    replace hq := hdrop.sub q hq
    obtain ⟨a1, a2, a3⟩ := hw.pis q hq
    have hl' : listed.getD q.i true = false := by
     by_cases hqi : pi = q.i
     ·rw [← hqi, Q4 (by omega)] at hl; cases hl
     ·rw [hset _ hqi] at hl; exact hl
    have hnb : pi ∈ eff → Yo o q.i = true → False := fun _ hb => by
     have := hbnd q.i (hlt _ _ a3) hb
     rw [this] at hl'; cases hl'
    exact ⟨fun H' hF' => JT hc ho hpre hw.top a1 a3 hnb ((hw.gop q hq hl').1 H' hF'), fun k hk => JU hc ho hpre a1 a3 hk ((hw.gop q hq hl').2 k hk)⟩
   ·intro q hq hl
    replace hq := hdrop.sub q hq
    by_cases hqi : pi = q.i
    ·rw [← hqi, Q4 (by omega)] at hl; cases hl
    ·rw [hset _ hqi] at hl
     refine hpk.get q hq ?_
     cases hb : X9 ops 12 o q.i with
     | false => rfl
     | true =>
      rw [hbr q.i hb] at hl; cases hl
   ·intro x hxx
    replace hxx : ∀ q ∈ pend, (listed.setIfInBounds pi true).getD q.i true = false → q.o.dst ≠ some x := fun q hq hl => by
     rcases hdrop.has q hq with h | h
     ·exact hxx q h hl
     ·have h2 := hbr q.i h
      by_cases hqi : pi = q.i
      ·rw [← hqi, Q4 (by omega)] at hl; cases hl
      ·rw [hset _ hqi, h2] at hl; cases hl
    cases hd : o.dst with
    | none =>
     show tx.get x = t.get x
     refine hx x fun q hq hl he => ?_
     by_cases hqi : pi = q.i
     ·exact absurd (hqi ▸ (hw.pis q hq).2.1) (fun h => h hpe)
     ·exact hxx q hq (by rw [hset _ hqi]; exact hl) he
    | some k =>
     by_cases hkx : k = x
     ·subst hkx; rw [Env.get_put_self, Env.get_put_self]
     ·rw [Env.get_put_ne _ _ hkx, Env.get_put_ne _ _ hkx]
      refine hx x fun q hq hl he => ?_
      by_cases hqi : pi = q.i
      ·exact absurd (hqi ▸ (hw.pis q hq).2.1) (fun h => h hpe)
      ·exact hxx q hq (by rw [hset _ hqi]; exact hl) he
def X4 (K : Ctx) (ops : Array Oper) (eff : List Nat) (C : Env → Qc → List Xg → Prop) : List (Nat × Oper) → Env → Qc → List Xg → Prop
 | [] => C
 | p :: l => QM K ops eff p.1 p.2 (X4 K ops eff C l)
structure Rq (K : Ctx) (ops : Array Oper) (eff : List Nat) (C : Env → Qc → List Xg → Prop) (rem : List (Nat × Oper)) (pre : List Nat) (l : List (Nat × Oper)) (t : Env) (H : Qc) (pend : List Xg) : Prop where
 cover : ∀ i, i < ops.size → i ∈ pre ∨ i ∈ l.map (·.1) ∨ i ∈ rem.map (·.1)
 ord : Y2 ops eff pre (l.map (·.1)) = true
 top : ∀ i ∈ pre, ∀ o, ops[i]? = some o → ∀ e ∈ o.after, Region.binds .any e = true → e.on ∈ pre
 is : ∀ p ∈ l, ops[p.1]? = some p.2 ∧ p.1 ∉ eff
 prp : ∀ i ∈ pre, i ∉ eff
 has : ∀ i ∈ pre, ∃ p ∈ pend, p.i = i
 pis : ∀ p ∈ pend, p.i ∈ pre ∧ p.i ∉ eff ∧ ops[p.i]? = some p.o
 gop : ∀ p ∈ pend, (∀ H', p.F H' → GOp K.P ops t H' p.o p.d) ∧ ∀ k, p.o.dst = some k → t.get k = p.d
 now : ∀ p ∈ pend, p.F H
 go : X4 K ops eff C l t H pend
theorem Rq.pass {C : Env → Qc → List Xg → Prop} {rem : List (Nat × Oper)} (hc : ZV ops K.n eff) : ∀ {l : List (Nat × Oper)} {pre : List Nat} {t : Env} {H : Qc} {pend : List Xg} {tx : Env}, Rq K ops eff C rem pre l t H pend → (∀ x, (∀ p ∈ pend, p.o.dst ≠ some x) → tx.get x = t.get x) →
  ∃ pre' t' pend', Rq K ops eff C rem pre' [] t' H pend' ∧ (∀ x, (∀ p ∈ pend', p.o.dst ≠ some x) → tx.get x = t'.get x)
 | [], pre, t, H, pend, tx, h, hx => ⟨pre, t, pend, h, hx⟩
 | (i, o) :: l, pre, t, H, pend, tx, h, hx => by
  have he : i ∉ eff := (h.is (i, o) List.mem_cons_self).2
  have hgo := h.go
  have hem : QS eff i = false := by
   cases hm : QS eff i with
   | false => rfl
   | true => exact absurd (QB.1 hm) he
  simp only [X4, QM, hem, cond_false] at hgo
  obtain ⟨d, F, hg, hF, hgo⟩ := hgo
  have ho : ops[i]? = some o := (h.is (i, o) List.mem_cons_self).1
  obtain ⟨h1, h2, h3, h4⟩ := XY ho (by have := h.ord; simpa using this)
  refine Rq.pass hc (l := l) (pre := i :: pre) (t := t.put o.dst d) (pend := ⟨i, o, d, F⟩ :: pend) (tx := tx) ⟨?_, h4, ?_, fun p hp => h.is p (List.mem_cons_of_mem _ hp), ?_, ?_, ?_, ?_, ?_, hgo⟩ ?_
  ·intro j hj
   rcases h.cover j hj with hh | hh | hh
   ·exact .inl (List.mem_cons_of_mem _ hh)
   ·rcases List.mem_cons.1 (show j ∈ i :: l.map (·.1) from hh) with e | hh
    ·exact .inl (e ▸ List.mem_cons_self)
    ·exact .inr (.inl hh)
   ·exact .inr (.inr hh)
  ·intro j hj q hq e hee hb
   rcases List.mem_cons.1 hj with rfl | hj
   ·rw [ho] at hq; cases hq
    exact List.mem_cons_of_mem _ (h2 e hee hb)
   ·exact List.mem_cons_of_mem _ (h.top j hj q hq e hee hb)
  ·intro j hj
   rcases List.mem_cons.1 hj with rfl | hj
   ·exact he
   ·exact h.prp j hj
  ·intro j hj
   rcases List.mem_cons.1 hj with rfl | hj
   ·exact ⟨_, List.mem_cons_self, rfl⟩
   ·obtain ⟨p, hp, hpi⟩ := h.has j hj
    exact ⟨p, List.mem_cons_of_mem _ hp, hpi⟩
  ·intro p hp
   rcases List.mem_cons.1 hp with rfl | hp
   ·exact ⟨List.mem_cons_self, he, ho⟩
   ·obtain ⟨a, b, c⟩ := h.pis p hp
    exact ⟨List.mem_cons_of_mem _ a, b, c⟩
  ·intro p hp
   rcases List.mem_cons.1 hp with rfl | hp
   ·refine ⟨fun H' hF' => GOp.congr (hg H' hF') fun x hx' => ?_, fun k hk => ?_⟩
    ·simp only at hx'
     cases hd : o.dst with
     | none => rfl
     | some k => exact (Env.get_put_ne t d (fun e => (hc.dst i o k ho hd).2.1 (by rw [e]; exact hx'))).symm
    ·simp only at hk ⊢; rw [hk]; exact Env.get_put_self _ _ _
   ·obtain ⟨a, b, c⟩ := h.pis p hp
    exact ⟨fun H' hF' => JT hc ho h1 h.top a c (fun h5 _ => he h5) ((h.gop p hp).1 H' hF'), fun k hk => JU hc ho h1 a c hk ((h.gop p hp).2 k hk)⟩
  ·intro p hp
   rcases List.mem_cons.1 hp with rfl | hp
   ·exact hF
   ·exact h.now p hp
  ·intro x hxx
   have hne : o.dst ≠ some x := hxx ⟨i, o, d, F⟩ List.mem_cons_self
   rw [hx x fun p hp => hxx p (List.mem_cons_of_mem _ hp)]
   cases hd : o.dst with
   | none => rfl
   | some k => exact (Env.get_put_ne t d (fun e => hne (by rw [hd, e]))).symm
def Mc : List Nat → Bool
 | [] => true
 | i :: r => !QS r i && Mc r
theorem V3 : ∀ {l : List Nat}, Mc l = true → l.Nodup
 | [], _ => List.nodup_nil
 | i :: r, h => by
  simp only [Mc, Bool.and_eq_true] at h
  refine List.nodup_cons.2 ⟨fun hm => ?_, V3 h.2⟩
  rw [QB.2 hm] at h; simp at h
def D3 (ops : Array Oper) (n : Nat) (ord tail : List Nat) : Bool :=
 ((List.range ops.size).all fun i => QS ord i || QS tail i) && Y2 ops tail [] ord && (ord.all fun i => !QS tail i) && Mc tail && (tail.all fun i => Nat.blt i ops.size) && My ops n tail
theorem RQ {t : Env} {H : Qc} {id : Nat} {Ψ : Exit → Env → Qc → Prop} (ord tail : List Nat) (hmix : K.P.follows .mixedOrders = true) (hc : D3 ops K.n ord tail = true)
  (h : X4 K ops tail (Jq K ops tail (Ψ .normal) (pick ops tail).length (pick ops tail)) (pick ops ord) t H []) : Sim K (.region id ops true) t H Ψ := by
 intro a w ⟨S, hr⟩
 refine wpIn_region_any hmix ?_
 simp only [D3, Bool.and_eq_true] at hc
 obtain ⟨⟨⟨⟨⟨c1, c2⟩, c3⟩, c4⟩, c5⟩, c6⟩ := hc
 have hA := ZV.of c6
 have hst : QN [] S w S { w with drawn := w.drawn + 1 } := ⟨rfl, rfl, rfl, Nat.le_refl _, fun _ _ _ => rfl, fun _ h => h, fun _ h => .inl h, hr.wf⟩
 obtain ⟨p1, p2⟩ := Vv (ops := ops) ord (V0 ord [] c2)
 obtain ⟨q1, q2⟩ := Vv (ops := ops) tail (fun i hi => by simpa using (List.all_eq_true.1 c5) i hi)
 have hfalse : ∀ (d : Bool) (j : Nat), j < ops.size → (Array.replicate ops.size false).getD j d = false := fun d j hj => by simp [Array.getD_eq_getD_getElem?, hj]
 have hlt : ∀ j o, ops[j]? = some o → j < ops.size := fun j o h => (Array.getElem?_eq_some_iff.1 h).1
 have hW : Rq K ops tail (Jq K ops tail (Ψ .normal) (pick ops tail).length (pick ops tail)) (pick ops tail) [] (pick ops ord) t H [] := ⟨fun i hi => by
   have := (List.all_eq_true.1 c1) i (List.mem_range.2 hi)
   rw [Bool.or_eq_true] at this
   rcases this with h | h
   ·exact .inr (.inl (by rw [p2]; exact QB.1 h))
   ·exact .inr (.inr (by rw [q2]; exact QB.1 h)), by rw [p2]; exact c2, by simp, fun p hp => ⟨p1 p hp, fun hm => by
   have hpo : p.1 ∈ ord := by rw [← p2]; exact List.mem_map.2 ⟨p, hp, rfl⟩
   have := (List.all_eq_true.1 c3) p.1 hpo
   rw [QB.2 hm] at this; cases this⟩, by simp, by simp, by simp, by simp, by simp, h⟩
 obtain ⟨pre, t', pend, hW', hx⟩ := Rq.pass hA hW (tx := t) (fun x _ => rfl)
 refine BR hA (fun t' H' a' w' hn hr' => ⟨t', H', hn, hr'⟩) ops.size pre (pick ops tail) t' H pend _ t a _ (by simp) ?_
  ⟨fun i hi => (hW'.cover i hi).imp_right fun h => h.resolve_left (by simp), hW'.top, q1, fun p hp => ?_, by rw [q2]; exact V3 c4, fun p hp => hfalse _ _ (hlt _ _ (q1 p hp)), fun i hi he => absurd he (hW'.prp i hi), fun i hi _ _ => hW'.has i hi, hW'.pis, fun p hp _ => hW'.gop p hp, fun p hp _ => hW'.now p hp, (fun i o hi hl => by rw [hfalse _ i (hlt _ _ hi)] at hl; cases hl), hW'.go⟩ (fun x hxx => hx x fun p hp => hxx p hp (hfalse _ _ (hlt _ _ (hW'.pis p hp).2.2)))
  ⟨S, hr.size, hr.defers.step (hst.mono hr.wf (by simp)) hst.objs0 hst.size, hr.step.trans hst (by simp), hr.own.step hst hr.wf (by simp) (by simp), hr.mine, hr.env.mono (hst.mono hr.wf (by simp))⟩
 ·unfold unl
  rw [List.filter_eq_self.2]
  ·simp
  ·intro j hj
   have := List.mem_range.1 hj
   simp [Array.getD_eq_getD_getElem?, this]
 ·have hpt : p.1 ∈ tail := by rw [← q2]; exact List.mem_map.2 ⟨p, hp, rfl⟩
  exact ⟨hpt, fun hm => hW'.prp _ hm hpt⟩
section
variable {t : Env} {H : Qc} {C : Env → Qc → List Xg → Prop} {kd i : Nat} {op : Op} {ty tp : TypeId} {pos : String} {aft : Array Edge} {pend : List Xg} {al : List (Nat × Oper)} {d : T} {x y : Operand} {rest : Env → Qc → List Xg → Prop}
theorem ct {id : Nat} {Ψ : Exit → Env → Qc → Prop} (ord tail : List Nat) (h : X4 K ops tail (Jq K ops tail (Ψ .normal) (pick ops tail).length (pick ops tail)) (pick ops ord) t H []) (hmix : K.P.follows .mixedOrders = true := by kernel_rfl) (hc : D3 ops K.n ord tail = true := by kernel_rfl) : Sim K (.region id ops true) t H Ψ := RQ ord tail hmix hc h
theorem t_ (hp : ∀ H', POp K.P t H' ⟨some kd, op, tp, pos, aft, none⟩ d) (h : X4 K ops eff C al ((kd, d) :: t) H (⟨i, ⟨some kd, op, tp, pos, aft, none⟩, d, fun _ => True⟩ :: pend)) (he : QS eff i = false := by rfl) : X4 K ops eff C ((i, ⟨some kd, op, tp, pos, aft, none⟩) :: al) t H pend := by
 show QM K ops eff i _ _ t H pend
 unfold QM
 rw [he, cond_false]
 exact ⟨d, fun _ => True, fun H' _ => hp H', trivial, h⟩
theorem t_F {F : Qc → Prop} (hp : ∀ H', F H' → POp K.P t H' ⟨some kd, op, tp, pos, aft, none⟩ d) (hF : F H) (h : X4 K ops eff C al ((kd, d) :: t) H (⟨i, ⟨some kd, op, tp, pos, aft, none⟩, d, F⟩ :: pend)) (he : QS eff i = false := by rfl) : X4 K ops eff C ((i, ⟨some kd, op, tp, pos, aft, none⟩) :: al) t H pend := by
 show QM K ops eff i _ _ t H pend
 unfold QM
 rw [he, cond_false]
 exact ⟨d, F, fun H' h' => hp H' h', hF, h⟩
theorem BY {o : Oper} (hE : ∀ t0 : Env, (∀ x ∈ o.op.operands, t0.ev x = t.ev x) → EOp K t0 H o fun t' H' => ∃ d, t' = t0.put o.dst d ∧ XO ops o H' pend ∧ rest (t.put o.dst d) H' pend) (he : QS eff i = true) : QM K ops eff i o rest t H pend := by
 unfold QM
 rw [he, cond_true]
 exact fun t0 h0 a w hr Kc Q hk => hE t0 h0 a w hr Kc Q fun t' H' a' w' ⟨d, h1, h2, h3⟩ hr' => hk t' H' a' w' ⟨d, pend, h1, h2, .refl _ _ _, h3⟩ hr'
theorem TQ (h : XO ops ⟨some kd, .assign x, tp, pos, aft, none⟩ H pend ∧ rest ((kd, d) :: t) H pend) (hx : t.ev x = d := by exact zl) (hd : Nat.blt kd K.n = true := by rfl) (he : QS eff i = true := by rfl) : QM K ops eff i ⟨some kd, .assign x, tp, pos, aft, none⟩ rest t H pend :=
 BY (fun t0 h0 => EOp.of_pop (Qb (hx := (h0 x (by simp [Op.operands])).trans hx)) hd ⟨d, rfl, h.1, h.2⟩) he
end
def TZ {σ : Type} (ok : σ → Prop) (env : σ → Env) (heap : σ → Qc) (Ψ : Exit → Env → Qc → Prop) : Exit → Env → Qc → Prop
 | .normal, t, H => ∃ s H2, ok s ∧ ZD t (env s) ∧ H.Perm H2 ∧ Qh H2 (heap s)
 | e, t, H => Ψ e t H
theorem VP {t : Env} {H : Qc} {Ψ : Exit → Env → Qc → Prop} {σ : Type} {c r : Code} (ok : σ → Prop) (env : σ → Env) (heap : σ → Qc) (h : Sim K c t H (TZ ok env heap Ψ)) (h' : ∀ s, ok s → Sim K r (env s) (heap s) Ψ) : Sim K c t H (W4 K r Ψ) :=
 VO h (fun e t1 H1 hc => by
  cases e with
  | normal =>
   obtain ⟨s, H2, h1, h2, hp, h3⟩ := hc
   exact XV hp (D8 (env s) (heap s) h2 h3 (h' s h1))
  | _ => exact hc)
end
section
variable {K : Ctx} {ops : Array Oper} {eff : List Nat} {N : Env → Qc → Prop} {t : Env} {H : Qc} {ty tp : TypeId} {pos : String} {aft : Array Edge} {x : Operand} {d : T} {kd : Tmp} {i : Nat} {al : List (Nat × Oper)} {pend : List Xg} {C : Env → Qc → List Xg → Prop}
theorem Am {b o m : Nat} {ty0 : TypeId} {cells : List T} (h : X4 K ops eff C al ((kd, d) :: t) H (⟨i, ⟨some kd, .load ty x, tp, pos, aft, none⟩, d, fun H => (b, (⟨ty0, cells, m⟩ : Blk)) ∈ H⟩ :: pend)) (hx : t.ev x = .v (.pointer (some ⟨b, o, none⟩)) := by exact zl) (hm : (b, (⟨ty0, cells, m⟩ : Blk)) ∈ H := by exact zm) (hd : cells[o]? = some d := by rfl)
  (hk : QC K.P ty = true := by rfl) (he : QS eff i = false := by rfl) : X4 K ops eff C ((i, ⟨some kd, .load ty x, tp, pos, aft, none⟩) :: al) t H pend := t_F (F := fun H => (b, (⟨ty0, cells, m⟩ : Blk)) ∈ H) (fun _ h' => Ql hx h' hd hk) hm h he
theorem A6 (h : XO ops ⟨some kd, .assign x, tp, pos, aft, none⟩ H pend ∧ N ((kd, d) :: t) H) (hx : t.ev x = d := by exact zl) (hd : Nat.blt kd K.n = true := by rfl) (he : QS eff i = true := by rfl) :
  Jq K ops eff N 1 [(i, ⟨some kd, .assign x, tp, pos, aft, none⟩)] t H pend := by
 intro p hp hr
 rcases List.mem_cons.1 hp with rfl | hp
 ·exact TQ (rest := Jq K ops eff N 0 _) h hx hd he
 ·exact (List.not_mem_nil hp).elim
end
end Go.Cap
namespace Go.Proofs.YtjbokbikkcfjjaaGreat
open Go.Cap
attribute [local irreducible] POp Qf TO EOp Sim FnH T.gp
def YY (l : List Int) : List UInt8 := l.flatMap Xz
def XQ (e : En) : List UInt8 := Xz e.term ++ Xz e.conf ++ Zl e.cmd
def Xc (n : Nd) (from_ : Nat) : List Int := [n.term, n.vote, n.base, n.baseTerm, n.baseConf, n.commit, from_, n.log.length]
def Qq (n : Nd) (from_ : Nat) : List UInt8 := YY (Xc n from_) ++ Zl n.snap ++ (n.log.drop from_).flatMap XQ
def w64 (x : Int) : Prop := -4000000000000000000 ≤ x ∧ x ≤ 4000000000000000000
structure Sz (n : Nd) : Prop where
 term : w64 n.term
 vote : w64 n.vote
 base : w64 n.base
 baseTerm : w64 n.baseTerm
 baseConf : w64 n.baseConf
 commit : w64 n.commit
 snap : n.snap.length ≤ 60000
 len : n.log.length ≤ 10000
 ents : ∀ e ∈ n.log, w64 e.term ∧ w64 e.conf ∧ e.cmd.length ≤ 60000
theorem Ca {e : En} (h : e.cmd.length ≤ 60000) : (XQ e).length ≤ 60040 := by
 have h1 := Xi e.term
 have h2 := Xi e.conf
 have h3 := Uo e.cmd
 unfold XQ
 simp only [List.length_append]; omega
theorem UQ : ∀ (l : List En), (∀ e ∈ l, e.cmd.length ≤ 60000) → (l.flatMap XQ).length ≤ 60040 * l.length
 | [], _ => by simp
 | e :: l, h => by
  have h1 := Ca (h e List.mem_cons_self)
  have h2 := UQ l fun x hx => h x (List.mem_cons_of_mem _ hx)
  simp only [List.flatMap_cons, List.length_append, List.length_cons]; omega
theorem Zg : ∀ (l : List Int), (YY l).length ≤ 10 * l.length
 | [] => by simp [YY]
 | x :: l => by
  have h1 := Xi x
  have h2 := Zg l
  simp only [YY, List.flatMap_cons, List.length_append, List.length_cons] at h2 ⊢; omega
theorem Ew (l : List Int) {k : Nat} (hk : k < l.length) : YY (l.take (k + 1)) = YY (l.take k) ++ Xz l[k] := by
 unfold YY
 rw [List.take_succ_eq_append_getElem hk, List.flatMap_append]
 simp
theorem Ra (l : List En) {k : Nat} (hk : k < l.length) : (l.take (k + 1)).flatMap XQ = (l.take k).flatMap XQ ++ XQ l[k] := by
 rw [List.take_succ_eq_append_getElem hk, List.flatMap_append]
 simp
theorem DU (n : Nd) (from_ : Nat) (hn : Sz n) (hf : from_ ≤ n.log.length) : FnP Tryz.prog 141 [nd n, ei from_] (fun r => r = bl (Qq n from_)) := by
 have hlen := hn.len
 have hw : ∀ x ∈ Xc n from_, w64 x := by
  intro x hx
  simp only [Xc, List.mem_cons, List.not_mem_nil, or_false] at hx
  rcases hx with rfl | rfl | rfl | rfl | rfl | rfl | rfl | rfl
  ·exact hn.term
  ·exact hn.vote
  ·exact hn.base
  ·exact hn.baseTerm
  ·exact hn.baseConf
  ·exact hn.commit
  ·constructor <;> omega
  ·constructor <;> omega
 have hhl : (Xc n from_).length = 8 := rfl
 have hil : ∀ k, (YY ((Xc n from_).take k)).length ≤ 80 := fun k => by
  have := Zg ((Xc n from_).take k)
  simp only [List.length_take, hhl] at this
  omega
 refine fe Tryz.func141 fun S0 w0 => ?_
 show Sim _ _ [(0, T.agg (Qv n (.sl false (n.log.map een)))), (1, ei from_)] _ _
 refine zC ?_
 apply cr
 refine X1 fun b2 _ => ?_
 refine s_ Qb <| zC ?_
 refine cr <| s_ Qb <| zC ?_
 refine cr <| s_ Qd <| s_ Ql <| s_ Qd <| s_ Ql <| s_ Qd <| s_ Ql <| s_ Qd <| s_ Ql <| s_ Qd <| s_ Ql <| s_ Qd <| s_ Ql <| s_ Qa <| s_ Qd <| s_ Ql ?_
 (first | refine s_ QP ?_ | refine s_ QO ?_)
 refine s_ JG ?_
 (first | refine s_ QP ?_ | refine s_ QO ?_)
 refine s_ Qa <| zC ?_
 apply Qo (σ := Nat) (ok := fun k => k ≤ 8) (env := fun k => [(28, ei k), (5, bl (YY ((Xc n from_).take k))), (27, ei 8), (26, .sl true ((Xc n from_).map ei)), (1, ei from_), (2, pW b2)]) (heap := fun _ => [(b2, ⟨44, Qv n (.sl false (n.log.map een)), 22⟩)]) (μ := fun k => 8 - k) (s0 := 0)
 ·exact Nat.zero_le _
 ·refine ⟨?_, ?_, ?_, ?_, eL⟩
  ·apply Qi; (exact zG)
   exact Le.refl _
  ·apply Qi; (exact zG)
   exact Le.slice0 _ _
  ·apply Qi; (exact zG)
   exact Le.refl _
  ·apply Qi; (exact zG)
   exact Le.of_eq (by simp [Xc, ei])
 ·exact kR
 intro k hk
 refine zC ?_
 refine cr <| s_ QU <| zC ?_
 refine ci ?_ ?_
 ·intro hlt
  have hlt' : k < (Xc n from_).length := by rw [hhl]; omega
  have hwk := hw _ (List.getElem_mem hlt')
  have hi := We false (YY ((Xc n from_).take k)) (Xc n from_)[k] (by have := hwk.1; omega) (by have := hwk.2; omega) (by have := hil k; omega)
  refine zC ?_
  apply cr
  (first | refine s_ (Xd hix) ?_ | refine s_ (Xd hix2) ?_ | refine s_ YE ?_ | refine s_ ZE ?_)
  (first | refine s_ Qm ?_ | refine s_ Ql ?_)
  refine s_ Qb <| zC ?_
  refine cr <| s_ Qa <| s_ Qa <| s_ (QQ (hi)) <| s_ Qb <| zC ?_
  refine zC ?_
  refine cr <| s_ QY <| s_ Qa <| zC ?_
  refine ⟨k + 1, by omega, (by simp only []; omega), ⟨?_, ?_, eL⟩, kR⟩
  ·apply Qi; (exact zG)
   exact Le.refl _
  ·apply Qi; (exact zG)
   rw [Ew _ hlt']
   exact Le.refl _
 intro hge
 have hk8 : k = 8 := by omega
 subst hk8
 have hb80 := hil 8
 rw [show (Xc n from_).take 8 = Xc n from_ from rfl] at hb80 ⊢
 have htx := E4 false (YY (Xc n from_)) n.snap hn.snap (by omega)
 have htl := Uo n.snap
 have hsn := hn.snap
 obtain ⟨l, hl⟩ : ∃ l, l = n.log.drop from_ := ⟨_, rfl⟩
 have hll : l.length ≤ 10000 := by rw [hl, List.length_drop]; omega
 have hents : ∀ e ∈ l, w64 e.term ∧ w64 e.conf ∧ e.cmd.length ≤ 60000 := fun e he => hn.ents e (by rw [hl] at he; exact List.mem_of_mem_drop he)
 refine zC ?_
 refine cr <| s_ Qa <| s_ Qd <| s_ Ql <| s_ (QQ (htx)) <| s_ Qb <| zC ?_
 refine zC ?_
 refine cr <| s_ Qd <| s_ Ql <| s_ Qa <| s_ (UY (i := ((from_ : Nat) : Int)) (xs := n.log.map een) (ys := l.map een) (by rw [hl, List.map_drop]; rfl)) ?_
 (first | refine s_ QP ?_ | refine s_ QO ?_)
 refine s_ Qa <| zC ?_
 apply Qo (σ := Nat) (ok := fun k => k ≤ l.length) (env := fun k => [(45, ei k), (5, bl (YY (Xc n from_) ++ Zl n.snap ++ (l.take k).flatMap XQ)), (44, ei (l.length : Nat)), (43, .sl false (l.map een))]) (heap := fun _ => []) (μ := fun k => l.length - k) (s0 := 0)
 ·exact Nat.zero_le _
 ·refine ⟨?_, ?_, ?_, eL⟩
  ·apply Qi; (exact zG)
   exact Le.refl _
  ·apply Qi; (exact zG)
   exact Le.of_eq (by simp)
  ·apply Qi; (exact zG)
   exact Le.of_eq (by simp [ei])
 ·exact .nil _
 intro k hk
 refine zC ?_
 refine cr <| s_ QU <| zC ?_
 refine ci ?_ ?_
 ·intro hlt
  have hlt' : k < l.length := by omega
  have hacc : (YY (Xc n from_) ++ Zl n.snap ++ (l.take k).flatMap XQ).length ≤ 800000000 := by
   have := UQ (l.take k) fun e he => (hents e (List.mem_of_mem_take he)).2.2
   have h2 : (l.take k).length ≤ 10000 := by rw [List.length_take]; omega
   simp only [List.length_append]; omega
  obtain ⟨w1, w2, w3⟩ := hents _ (List.getElem_mem hlt')
  have hnx := Ra l hlt'
  generalize hA : YY (Xc n from_) ++ Zl n.snap ++ (l.take k).flatMap XQ = A at hacc ⊢
  have hi1 := We false A l[k].term (by have := w1.1; omega) (by have := w1.2; omega) (by omega)
  have hl1 := Xi l[k].term
  have hl2 := Xi l[k].conf
  have hi2 := We false (A ++ Xz l[k].term) l[k].conf (by have := w2.1; omega) (by have := w2.2; omega) (by simp only [List.length_append]; omega)
  have ht := E4 false (A ++ Xz l[k].term ++ Xz l[k].conf) l[k].cmd w3 (by simp only [List.length_append]; omega)
  refine zC ?_
  apply cr
  (first | refine s_ (Xd hix) ?_ | refine s_ (Xd hix2) ?_ | refine s_ YE ?_ | refine s_ ZE ?_)
  (first | refine s_ Y6 ?_ | refine s_ Xf ?_)
  refine Yd fun b9 _ => ?_
  refine Qz ?_
  refine zC ?_
  refine zC ?_
  refine ct [0, 1, 2, 3, 4, 5, 6, 7, 8, 9] [10] <| t_ (fun _ => Qa) <| t_ (fun _ => Qd) <| Am ?_
  refine t_ (fun _ => QQ (hi1)) <| t_ (fun _ => Qd) <| Am ?_
  refine t_ (fun _ => QQ (hi2)) <| t_ (fun _ => Qd) <| Am ?_
  refine t_ (fun _ => QQ (ht)) ?_
  refine A6 ⟨zd, ?_⟩
  refine zC ?_
  refine zC ?_
  refine cr <| s_ QY <| s_ Qa <| zC ?_
  refine ⟨k + 1, by omega, (by simp only []; omega), ⟨?_, ?_, eL⟩, .nil _⟩
  ·apply Qi; (exact zG)
   exact Le.refl _
  ·apply Qi; (exact zG)
   rw [hnx, ← hA]
   exact Le.of_eq (by simp [bl, XQ])
 intro hge
 have hke : k = l.length := by omega
 subst hke
 rw [List.take_length]
 refine zC ?_
 refine cr <| s_ Qa <| s_ Qb <| zC ?_
 refine zE ?_
 rw [Qq, hl]
 exact Le.refl _
def ZS (n m : Nd) (from_ : Nat) : Nd := { n with term := m.term, vote := m.vote, base := m.base, baseTerm := m.baseTerm, baseConf := m.baseConf, commit := m.commit, snap := m.snap, log := n.log.take from_ ++ m.log.drop from_ }
def Js (m : Nd) (from_ k : Nat) : List UInt8 := YY ((Xc m from_).drop k) ++ (Zl m.snap ++ (m.log.drop from_).flatMap XQ)
theorem Er (m : Nd) (from_ : Nat) {k : Nat} (hk : k < 8) : Js m from_ k = Xz ((Xc m from_)[k]'hk) ++ Js m from_ (k + 1) := by
 unfold Js YY
 rw [List.drop_eq_getElem_cons (show k < (Xc m from_).length from hk), List.flatMap_cons, List.append_assoc]
 rfl
theorem U2 {m : Nd} (hm : Sz m) (from_ k : Nat) : (Js m from_ k).length ≤ 900000000 := by
 have h1 := Zg ((Xc m from_).drop k)
 have h2 := Uo m.snap
 have h3 := UQ (m.log.drop from_) fun e he => (hm.ents e (List.mem_of_mem_drop he)).2.2
 have h4 : (m.log.drop from_).length ≤ 10000 := by rw [List.length_drop]; have := hm.len; omega
 have h5 : ((Xc m from_).drop k).length ≤ 8 := by rw [List.length_drop]; simp [Xc]
 have := hm.snap
 unfold Js
 simp only [List.length_append]; omega
theorem AK {n : Nd} (hn : Sz n) {from_ : Nat} (hf : from_ ≤ n.log.length) : ∀ x ∈ Xc n from_, w64 x := by
 have hlen := hn.len
 intro x hx
 simp only [Xc, List.mem_cons, List.not_mem_nil, or_false] at hx
 rcases hx with rfl | rfl | rfl | rfl | rfl | rfl | rfl | rfl
 ·exact hn.term
 ·exact hn.vote
 ·exact hn.base
 ·exact hn.baseTerm
 ·exact hn.baseConf
 ·exact hn.commit
 ·constructor <;> omega
 ·constructor <;> omega
theorem Iu (f : Bool) (n m : Nd) (from_ : Nat) (hm : Sz m) (hf : from_ ≤ m.log.length) (hl : n.log.length ≤ 10000) : FnP Tryz.prog 67 [nd n, .sl f ((Qq m from_).map eb)] (fun r => r = nd (ZS n m from_)) := by
 have hmlen := hm.len
 have hI : ∀ b k (hk : k < 8), FnH Tryz.prog 98 [pW b] (RdH b (Js m from_ k)) (fun r H => r = ei ((Xc m from_)[k]'hk) ∧ H = RdH b (Js m from_ (k + 1))) := fun b k hk => by
  have hw := AK hm hf _ (List.getElem_mem (show k < (Xc m from_).length from hk))
  exact UH (b := b) _ (by have := hw.1; omega) (by have := hw.2; omega) (Er m from_ hk) (by have := U2 hm from_ k; omega)
 obtain ⟨l, hll⟩ : ∃ l, l = m.log.drop from_ := ⟨_, rfl⟩
 have hlen : l.length = m.log.length - from_ := by rw [hll, List.length_drop]
 have hents : ∀ e ∈ l, w64 e.term ∧ w64 e.conf ∧ e.cmd.length ≤ 60000 := fun e he => hm.ents e (by rw [hll] at he; exact List.mem_of_mem_drop he)
 have hbig : ∀ k, ((l.drop k).flatMap XQ).length ≤ 600400000 := fun k => by
  have h3 := UQ (l.drop k) fun e he => (hents e (List.mem_of_mem_drop he)).2.2
  have h4 : (l.drop k).length ≤ 10000 := by rw [List.length_drop]; omega
  omega
 have hcons : ∀ k (hk : k < l.length), (l.drop k).flatMap XQ = Xz l[k].term ++ (Xz l[k].conf ++ (Zl l[k].cmd ++ (l.drop (k + 1)).flatMap XQ)) := fun k hk => by
  rw [List.drop_eq_getElem_cons hk, List.flatMap_cons]
  simp only [XQ, List.append_assoc]
 have hE1 : ∀ b k (hk : k < l.length), FnH Tryz.prog 98 [pW b] (RdH b ((l.drop k).flatMap XQ)) (fun r H => r = ei l[k].term ∧ H = RdH b (Xz l[k].conf ++ (Zl l[k].cmd ++ (l.drop (k + 1)).flatMap XQ))) := fun b k hk => by
  have hw := (hents _ (List.getElem_mem hk)).1
  exact UH (b := b) _ (by have := hw.1; omega) (by have := hw.2; omega) (hcons k hk) (by have := hbig k; omega)
 have hE2 : ∀ b k (hk : k < l.length), FnH Tryz.prog 98 [pW b] (RdH b (Xz l[k].conf ++ (Zl l[k].cmd ++ (l.drop (k + 1)).flatMap XQ))) (fun r H => r = ei l[k].conf ∧ H = RdH b (Zl l[k].cmd ++ (l.drop (k + 1)).flatMap XQ)) := fun b k hk => by
  have hw := (hents _ (List.getElem_mem hk)).2.1
  exact UH (b := b) _ (by have := hw.1; omega) (by have := hw.2; omega) rfl (by have := hbig k; rw [hcons k hk, List.length_append] at this; omega)
 have hE3 : ∀ b k (hk : k < l.length), FnH Tryz.prog 99 [pW b] (RdH b (Zl l[k].cmd ++ (l.drop (k + 1)).flatMap XQ)) (fun r H => r = es l[k].cmd ∧ H = RdH b ((l.drop (k + 1)).flatMap XQ)) := fun b k hk => by
  have hw := (hents _ (List.getElem_mem hk)).2.2
  exact Gd (b := b) hw rfl (by have := hbig k; rw [hcons k hk, List.length_append, List.length_append] at this; omega)
 have hR : ∀ b, FnH Tryz.prog 99 [pW b] (RdH b (Js m from_ 8)) (fun r H => r = es m.snap ∧ H = RdH b ((l.drop 0).flatMap XQ)) := fun b =>
  Gd (b := b) hm.snap (by rw [hll]; rfl) (by have := U2 hm from_ 8; omega)
 have hN := Bg f (Qq m from_) (by have := U2 hm from_ 0; simp only [Qq, Js, List.drop_zero, List.length_append] at this ⊢; omega)
 have hrec : Qq m from_ = Js m from_ 0 := by simp [Qq, Js]
 rw [hrec] at hN ⊢
 refine FnH.give (Φ := fun r H => ∃ vl, r = .agg (Qv (ZS n m from_) (.v vl)) ∧ OE (ZS n m from_).log vl H) ?_ (by rintro r H ⟨v, rfl, ho⟩; exact Qx.agg (QX _ (ho.lend fun _ h => h)))
 refine fe Tryz.func67 fun S0 w0 => ?_
 show Sim _ _ [(0, T.agg (Qv n (.sl false (n.log.map een)))), (1, .sl f ((Js m from_ 0).map eb))] _ _
 refine zC ?_
 apply cr
 refine X1 fun b2 _ => ?_
 refine Yd fun b4 _ => ?_
 refine zC ?_
 refine cr <| s_ Qa ?_
 refine Q2 (Hs := []) (Hr := [_, _]) hN (.refl _) (fun r H' ⟨b, hr1, hr2⟩ => ?_)
 subst hr1 hr2
 refine s_ Qb <| zC ?_
 refine cr <| s_ Qa <| s_ UE <| s_ Qb <| zC ?_
 refine cr <| s_ Qa ?_
 refine Ug (fs := [pW b]) (args := []) (cs := []) (hI b 0 (by omega)) (Hr := [_, _]) (.refl _) (fun r H' ⟨hr1, hr2⟩ => ?_)
 obtain rfl : r = ei m.term := hr1
 subst hr2
 refine s_ Qa ?_
 refine Ug (fs := [pW b]) (args := []) (cs := []) (hI b 1 (by omega)) (Hr := [_, _]) (.refl _) (fun r H' ⟨hr1, hr2⟩ => ?_)
 obtain rfl : r = ei m.vote := hr1
 subst hr2
 refine s_ Qa ?_
 refine Ug (fs := [pW b]) (args := []) (cs := []) (hI b 2 (by omega)) (Hr := [_, _]) (.refl _) (fun r H' ⟨hr1, hr2⟩ => ?_)
 obtain rfl : r = ei m.base := hr1
 subst hr2
 refine s_ Qa ?_
 refine Ug (fs := [pW b]) (args := []) (cs := []) (hI b 3 (by omega)) (Hr := [_, _]) (.refl _) (fun r H' ⟨hr1, hr2⟩ => ?_)
 obtain rfl : r = ei m.baseTerm := hr1
 subst hr2
 refine s_ Qa ?_
 refine Ug (fs := [pW b]) (args := []) (cs := []) (hI b 4 (by omega)) (Hr := [_, _]) (.refl _) (fun r H' ⟨hr1, hr2⟩ => ?_)
 obtain rfl : r = ei m.baseConf := hr1
 subst hr2
 refine s_ Qa ?_
 refine Ug (fs := [pW b]) (args := []) (cs := []) (hI b 5 (by omega)) (Hr := [_, _]) (.refl _) (fun r H' ⟨hr1, hr2⟩ => ?_)
 obtain rfl : r = ei m.commit := hr1
 subst hr2
 refine s_ Qd <| Qz ?_
 refine s_ Qd <| Qz ?_
 refine s_ Qd <| Qz ?_
 refine s_ Qd <| Qz ?_
 refine s_ Qd <| Qz ?_
 refine s_ Qd <| Qz ?_
 refine zC ?_
 refine cr <| s_ Qa ?_
 refine Ug (fs := [pW b]) (args := []) (cs := []) (hI b 6 (by omega)) (Hr := [_, _]) (.refl _) (fun r H' ⟨hr1, hr2⟩ => ?_)
 obtain rfl : r = ei ((from_ : Nat) : Int) := hr1
 subst hr2
 refine s_ Qa ?_
 refine Ug (fs := [pW b]) (args := []) (cs := []) (hI b 7 (by omega)) (Hr := [_, _]) (.refl _) (fun r H' ⟨hr1, hr2⟩ => ?_)
 obtain rfl : r = ei ((m.log.length : Nat) : Int) := hr1
 subst hr2
 refine s_ Qb <| s_ Qb <| zC ?_
 refine cr <| s_ Qa ?_
 refine Q2 (hR b) (Hr := [_, _]) (.refl _) (fun r H' ⟨hr1, hr2⟩ => ?_)
 subst hr1 hr2
 refine s_ Qd <| Qz ?_
 refine zC ?_
 refine cr <| s_ Qd <| s_ Ql <| s_ Qa <| s_ VW <| s_ Qd <| s_ Ql ?_
 (first | refine s_ QP ?_ | refine s_ QO ?_)
 refine s_ WU ?_
 have e1 : min (max ((from_ : Nat) : Int) 0) (((n.log.map een).length : Nat) : Int) = ((min from_ n.log.length : Nat) : Int) := by rw [List.length_map]; omega
 rw [e1]
 refine s_ (Ei (i := ((min from_ n.log.length : Nat) : Int)) (xs := n.log.map een) (ys := (n.log.take from_).map een) (by rw [Int.toNat_natCast, ← List.map_take, List.take_eq_take_iff.2]; omega)) ?_
 have htk : (n.log.take from_).length ≤ 10000 := by rw [List.length_take]; omega
 refine Q2 (Hs := []) (Hr := RdH b ((l.drop 0).flatMap XQ) ++ [_, _]) (Zw false (n.log.take from_) (by omega)) (.refl _) (fun r Hl ⟨v, hr, ho⟩ => ?_)
 subst hr
 refine QA (H' := RdH b ((l.drop 0).flatMap XQ) ++ (_ :: _ :: Hl)) (List.perm_append_comm.trans (by rw [List.append_assoc]; exact .refl _)) ?_
 obtain ⟨p, c, rfl⟩ := ho.len
 refine s_ Qd <| Qz ?_
 refine zC ?_
 refine cr <| s_ Qa <| s_ Qa <| s_ Zp <| s_ Qa <| zC ?_
 have hcnt : ((m.log.length : Nat) : Int) - ((from_ : Nat) : Int) = ((l.length : Nat) : Int) := by rw [hlen]; omega
 rw [hcnt]
 apply Qo (σ := Nat × Value × Qc) (ok := fun s => s.1 ≤ l.length ∧ OE (n.log.take from_ ++ l.take s.1) s.2.1 s.2.2) (env := fun s => [(53, ei s.1), (52, ei (l.length : Nat)), (6, .clo 98 [pW b] []), (5, pW b), (2, pW b2), (4, pW b4)])
  (heap := fun s => RdH b ((l.drop s.1).flatMap XQ) ++ ((b4, ⟨44, Qv ⟨0, 0, 0, 0, 0, 0, [], [], 0, 0, 0, 0, .all 0, .all 0⟩ (.v (.slice none 0 0)), 22⟩) :: (b2, ⟨44, Qv (ZS n m from_) (.v s.2.1), 22⟩) :: s.2.2)) (μ := fun s => l.length - s.1) (s0 := (0, .slice p ((n.log.take from_).map een).length c, Hl))
 ·exact ⟨Nat.zero_le _, by rw [List.take_zero, List.append_nil]; exact ho⟩
 ·exact eL
 ·exact kR
 rintro ⟨k, v, Hl⟩ ⟨hk, ho⟩
 simp only at hk ho
 show Sim _ _ [(53, ei k), (52, ei (l.length : Nat)), (6, .clo 98 [pW b] []), (5, pW b), (2, pW b2), (4, pW b4)] (RdH b ((l.drop k).flatMap XQ) ++ ((b4, ⟨44, Qv ⟨0, 0, 0, 0, 0, 0, [], [], 0, 0, 0, 0, .all 0, .all 0⟩ (.v (.slice none 0 0)), 22⟩) :: (b2, ⟨44, Qv (ZS n m from_) (.v v), 22⟩) :: Hl)) _
 have hol : (n.log.take from_ ++ l.take k).length ≤ 20000 := by rw [List.length_append, List.length_take, List.length_take]; omega
 obtain ⟨p, c, rfl⟩ := ho.len
 refine zC ?_
 refine cr <| s_ QU <| zC ?_
 refine ci ?_ ?_
 ·intro hlt
  have hlt' : k < l.length := by omega
  refine zC ?_
  refine cr <| s_ Qa ?_
  refine Ug (fs := [pW b]) (args := []) (cs := []) (hE1 b k hlt') (Hr := _ :: _ :: Hl) (.refl _) (fun r H' ⟨hr1, hr2⟩ => ?_)
  subst hr1 hr2
  refine s_ Qa ?_
  refine Ug (fs := [pW b]) (args := []) (cs := []) (hE2 b k hlt') (Hr := _ :: _ :: Hl) (.refl _) (fun r H' ⟨hr1, hr2⟩ => ?_)
  subst hr1 hr2
  refine s_ (ZF 3 [_, _, _]) ?_
  refine Yd fun b9 _ => ?_
  refine Qz ?_
  refine zC ?_
  refine cr <| s_ Qa ?_
  refine Q2 (hE3 b k hlt') (Hr := _ :: _ :: _ :: Hl) List.perm_middle.symm (fun r H' ⟨hr1, hr2⟩ => ?_)
  subst hr1 hr2
  refine s_ Qd <| Qz ?_
  refine zC ?_
  refine cr <| s_ Qd <| s_ Ql <| s_ Xf <| s_ JG ?_
  refine BG (ho := ho) (A := RdH b ((l.drop (k + 1)).flatMap XQ) ++ [_, _, _]) (B := []) (ys := [een l[k]]) (f := true) (EN _) (fun v' Hs' ho' => ?_) (hH := by simp; rfl)
  refine QA (H' := RdH b ((l.drop (k + 1)).flatMap XQ) ++ (_ :: _ :: _ :: Hs')) (by rw [List.append_nil, List.append_assoc]; exact .refl _) ?_
  obtain ⟨p', c', rfl⟩ := ho'.len
  refine s_ Qd <| Qz ?_
  refine zC ?_
  refine cr <| s_ QY <| s_ Qa <| zC ?_
  refine ⟨(k + 1, _, Hs'), ⟨by simp only; omega, ?_⟩, (by simp only []; omega), ⟨?_, eL⟩, .keep _ _ _ _ _ (Yp.refl _) (.skip _ _ _ kR)⟩
  ·simp only
   rw [List.take_succ_eq_append_getElem hlt', ← List.append_assoc]
   unfold OE
   rw [List.map_append]
   exact ho'
  ·apply Qi; (exact zG)
   exact Le.refl _
 intro hge
 have hke : k = l.length := by omega
 subst hke
 have h2 : (ZS n m from_).log = n.log.take from_ ++ l.take l.length := by rw [List.take_length, hll]; rfl
 refine zC ?_
 refine cr <| s_ Xf <| Qz ?_
 refine zC ?_
 refine zR ?_
 refine rh (.skip _ _ _ (.skip _ _ _ (.skip _ _ _ kR))) ⟨_, rfl, ?_⟩ (Le.refl _)
 rw [h2]
 exact ho
def pfx : List En → List En → Nat
 | x :: xs, y :: ys => if x = y then pfx xs ys + 1 else 0
 | _, _ => 0
def Qn (a b : Nd) : Nat := if a.base = b.base then pfx a.log b.log else 0
theorem L8 : ∀ (a b : List En), pfx a b ≤ a.length ∧ pfx a b ≤ b.length
 | [], b => by simp [pfx]
 | _ :: _, [] => by simp [pfx]
 | x :: xs, y :: ys => by
  have := L8 xs ys
  unfold pfx
  split
  ·simp only [List.length_cons]; omega
  ·simp
theorem Ig {a b : List En} {k : Nat} (h1 : k < a.length) (h2 : k < b.length) : pfx (a.drop k) (b.drop k) = if a[k] = b[k] then pfx (a.drop (k + 1)) (b.drop (k + 1)) + 1 else 0 := by
 rw [List.drop_eq_getElem_cons h1, List.drop_eq_getElem_cons h2, pfx]
theorem Ba {a b : List En} {k : Nat} (h : ¬ (k < a.length ∧ k < b.length)) : pfx (a.drop k) (b.drop k) = 0 := by
 have := L8 (a.drop k) (b.drop k)
 simp only [List.length_drop] at this
 omega
theorem Cx (a b : Nd) (ha : a.log.length ≤ 1000000000) (hb : b.log.length ≤ 1000000000) : FnP Tryz.prog 142 [nd a, nd b] (fun r => r = ei (Qn a b)) := by
 refine fe Tryz.func142 fun S0 w0 => ?_
 show Sim _ _ [(0, T.agg (Qv a (.sl false (a.log.map een)))), (1, T.agg (Qv b (.sl false (b.log.map een))))] _ _
 refine zC ?_
 apply cr
 refine X1 fun b2 _ => ?_
 refine X1 fun b3 _ => ?_
 refine s_ Qb <| zC ?_
 refine cr <| s_ Qd <| s_ Ql <| s_ Qd <| s_ Ql <| s_ Yq <| zC ?_
 refine ci ?_ ?_
 ·intro hne
  have hne' : ¬ a.base = b.base := hne
  refine zC ?_
  refine cr <| s_ Qb <| zC ?_
  refine zE ?_
  rw [Qn, if_neg hne']
  exact Le.refl _
 intro heq
 have heq' : a.base = b.base := Decidable.not_not.1 heq
 rw [Qn, if_pos heq']
 refine zC ?_
 refine cr <| s_ Qb <| zC ?_
 apply Qo (σ := Nat) (ok := fun k => k ≤ a.log.length ∧ pfx a.log b.log = k + pfx (a.log.drop k) (b.log.drop k)) (env := fun k => [(5, ei k), (2, pW b2), (3, pW b3)]) (heap := fun _ => [(b3, ⟨44, Qv b (.sl false (b.log.map een)), 22⟩), (b2, ⟨44, Qv a (.sl false (a.log.map een)), 22⟩)]) (μ := fun k => a.log.length - k) (s0 := 0)
 ·exact ⟨Nat.zero_le _, by simp⟩
 ·exact eL
 ·exact kR
 rintro k ⟨hk, hp⟩
 by_cases hin : k < a.log.length ∧ k < b.log.length
 ·have hix : k < a.log.length := hin.1
  have hix2 : k < b.log.length := hin.2
  have hnx := Ig hix hix2
  refine zC ?_
  refine ca [0, 1, 2, 3, 4, 5, 6, 7, 8, 9, 10, 11, 12, 13, 14, 15, 16, 17, 18, 19, 20, 21, 22, 23, 24] [] <| a_ (fun _ => Qa) <| a_ (fun _ => Qd) <| QJ ?_
  (first | refine a_ (fun _ => QP) ?_ | refine a_ (fun _ => QO) ?_)
  refine a_ (fun _ => QU) <| a_ (fun _ => Qa) <| QF (fun _ hg => Qa) ?_
  refine QF (fun _ hg => Qd) ?_
  refine Zz ?_
  (first | refine QF (fun _ hg => QP (hx := u_ hg)) ?_ | refine QF (fun _ hg => QO (hx := u_ hg)) ?_)
  refine QF (fun _ hg => QU (hx := u_ hg) (hy := u_ hg)) ?_
  refine a_ (fun _ => XX) <| a_ (fun _ => Qa) <| QF (fun _ hg => Qd) ?_
  refine Zz ?_
  refine QF (fun _ hg => Qa) ?_
  (first | refine QF (fun _ hg => Xd hix (hx := u_ hg) (hy := u_ hg)) ?_ | refine QF (fun _ hg => Xd hix2 (hx := u_ hg) (hy := u_ hg)) ?_ | refine QF (fun _ hg => YE (hx := u_ hg) (hy := u_ hg)) ?_ | refine QF (fun _ hg => ZE (hx := u_ hg) (hy := u_ hg)) ?_)
  (first | refine QF (fun _ hg => Y6 (hx := u_ hg)) ?_ | refine GY ?_)
  refine QF (fun _ hg => Qd) ?_
  refine Zz ?_
  refine QF (fun _ hg => Qa) ?_
  (first | refine QF (fun _ hg => Xd hix (hx := u_ hg) (hy := u_ hg)) ?_ | refine QF (fun _ hg => Xd hix2 (hx := u_ hg) (hy := u_ hg)) ?_ | refine QF (fun _ hg => YE (hx := u_ hg) (hy := u_ hg)) ?_ | refine QF (fun _ hg => ZE (hx := u_ hg) (hy := u_ hg)) ?_)
  (first | refine QF (fun _ hg => Y6 (hx := u_ hg)) ?_ | refine GY ?_)
  refine QF (fun _ hg => B8 2 [.int .i64, .int .i64, .str] Tryz.eqGuardType84 (hx := u_ hg) (hy := u_ hg)) ?_
  refine a_ (fun _ => XX) ?_
  apply an
  refine zC ?_
  refine ci ?_ ?_
  ·intro hc
   have he : a.log[k] = b.log[k] := by
    exact Wx.1 hc.2
   rw [if_pos he] at hnx
   refine zC ?_
   refine cr <| s_ Qa <| s_ QY <| s_ Qb <| zC ?_
   refine ⟨k + 1, ⟨by omega, by rw [hp, hnx]; omega⟩, (by simp only []; omega), ⟨?_, eL⟩, kR⟩
   apply Qi; (exact zG)
   exact Le.refl _
  ·intro hc
   have he : ¬ a.log[k] = b.log[k] := fun h => hc ⟨⟨by simp only [List.length_map]; omega, by simp only [List.length_map]; omega⟩, Wx.2 h⟩
   rw [if_neg he] at hnx
   refine zC ?_
   refine cr <| s_ Qa <| s_ Qb <| zC ?_
   refine zE ?_
   rw [hp, hnx]
   exact Le.refl _
 ·have hno : ¬ ((k : Int) < ((a.log.map een).length : Nat) ∧ (k : Int) < ((b.log.map een).length : Nat)) := by
   simp only [List.length_map]; omega
  refine zC ?_
  refine ca [0, 1, 2, 3, 4, 5, 6, 7, 8, 9, 10, 11, 12, 13, 14, 15, 16, 17, 18, 19, 20, 21, 22, 23, 24] [] <| a_ (fun _ => Qa) <| a_ (fun _ => Qd) <| QJ ?_
  (first | refine a_ (fun _ => QP) ?_ | refine a_ (fun _ => QO) ?_)
  refine a_ (fun _ => QU) <| a_ (fun _ => Qa) <| QF (fun _ hg => Qa) ?_
  refine QF (fun _ hg => Qd) ?_
  refine Zz ?_
  (first | refine QF (fun _ hg => QP (hx := u_ hg)) ?_ | refine QF (fun _ hg => QO (hx := u_ hg)) ?_)
  refine QF (fun _ hg => QU (hx := u_ hg) (hy := u_ hg)) ?_
  refine a_ (fun _ => XX) <| a_ (fun _ => Qa) <| QF (fun _ hg => Qd) ?_
  refine Zz ?_
  refine QF (fun _ hg => Qa) ?_
  refine QF (d := .any) (fun _ hg => absurd hg hno) ?_
  refine QF (d := .any) (fun _ hg => absurd hg hno) ?_
  refine QF (fun _ hg => Qd) ?_
  refine Zz ?_
  refine QF (fun _ hg => Qa) ?_
  refine QF (d := .any) (fun _ hg => absurd hg hno) ?_
  refine QF (d := .any) (fun _ hg => absurd hg hno) ?_
  refine QF (d := .v (.bool (decide False))) (fun _ hg => absurd hg hno) ?_
  refine a_ (fun _ => XX) ?_
  apply an
  refine zC ?_
  refine ci ?_ ?_
  ·intro hc; exact absurd hc.1 hno
  intro _
  refine zC ?_
  refine cr <| s_ Qa <| s_ Qb <| zC ?_
  refine zE ?_
  rw [hp, Ba hin]
  exact Le.refl _
theorem Gw (n : Nd) (hl : n.log.length ≤ 1000000000) : FnP Tryz.prog 44 [nd n] (fun r => r = nd n) := by
 have hc := LH false n.log hl
 refine fe Tryz.func44 fun S0 w0 => ?_
 show Sim _ _ [(0, T.agg (Qv n (.sl false (n.log.map een))))] _ _
 refine zC ?_
 apply cr
 refine X1 fun b1 _ => ?_
 refine Yd fun b2 _ => ?_
 refine zC ?_
 refine cr <| s_ Qd <| s_ Ql <| s_ (QQ (hc)) <| s_ Qd <| Qz ?_
 refine zC ?_
 refine cr <| s_ Xf <| Qz ?_
 refine zC ?_
 refine zE ?_
 exact Le.refl _
end Go.Proofs.YtjbokbikkcfjjaaGreat
