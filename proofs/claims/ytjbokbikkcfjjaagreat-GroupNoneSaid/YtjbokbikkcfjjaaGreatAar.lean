/-
  A region in whatever order its edges allow, whose last operations, of which each does something, are bound to each other in part alone.
  Regions whose last operation puts a slot that others read: rules in short.
  keep.bytes: what a node keeps, as bytes.
-/
import Derived.Test.YtjbokbikkcfjjaaGreatAak
import Derived.Test.YtjbokbikkcfjjaaGreatAaq
section
namespace Go.Cap
variable {K : Ctx} {ops : Array Oper} {eff : List Nat} {N : Env → Heap → Prop} {Q : Exit → Act → World → Prop}
def dstOkW (ops : Array Oper) (n : Nat) (eff : List Nat) : Bool :=
  (List.range ops.size).all fun i => match ops[i]? with
    | none => false
    | some o => (!memN eff i || o.guard.isNone) && (o.after.all fun e => !Region.binds .any e || Nat.blt e.on i) && match o.dst with
      | none => memN eff i
      | some k => Nat.blt k n && !memN (o.looksAt ops) k && (List.range ops.size).all fun j => Nat.beq j i || match ops[j]? with
          | none => false
          | some p => (match p.dst with | some q => !Nat.beq q k | none => true) && (!memN (p.looksAt ops) k || (bound p i || (memN eff i && bound o j)))
structure AnyOkW (ops : Array Oper) (n : Nat) (eff : List Nat) : Prop where
  grd : ∀ (i : Nat) (o : Oper), ops[i]? = some o → i ∈ eff → o.guard = none
  back : ∀ (i : Nat) (o : Oper), ops[i]? = some o → ∀ e ∈ o.after, Region.binds .any e = true → e.on < i
  pur : ∀ (i : Nat) (o : Oper), ops[i]? = some o → o.dst = none → i ∈ eff
  dst : ∀ (i : Nat) (o : Oper) (k : Nat), ops[i]? = some o → o.dst = some k → k < n ∧ k ∉ o.looksAt ops ∧ ∀ j p, ops[j]? = some p → j ≠ i → p.dst ≠ some k ∧ (k ∈ p.looksAt ops → bound p i = true ∨ (i ∈ eff ∧ bound o j = true))
theorem AnyOkW.of {ops : Array Oper} {n : Nat} {eff : List Nat} (h : dstOkW ops n eff = true) : AnyOkW ops n eff := by
  have key : ∀ i o, ops[i]? = some o → _ := fun i o ho => by
    have hi : i < ops.size := (Array.getElem?_eq_some_iff.1 ho).1
    have := (List.all_eq_true.1 h) i (List.mem_range.2 hi)
    simp only [ho, Bool.and_eq_true] at this
    exact this
  refine ⟨fun i o ho he => ?_, fun i o ho e he hb => ?_, fun i o ho hd => ?_, fun i o k ho hk => ?_⟩
  · have := (key i o ho).1.1
    simp only [memN_iff.2 he, Bool.not_true, Bool.false_or] at this
    simpa using this
  · have h1 := Array.all_eq_true_iff_forall_mem.1 (key i o ho).1.2 e he
    rw [hb] at h1
    simpa using h1
  · have := (key i o ho).2
    rw [hd] at this
    exact memN_iff.1 this
  · have h1 := (key i o ho).2
    simp only [hk, Bool.and_eq_true] at h1
    obtain ⟨⟨h2, h3⟩, h4⟩ := h1
    refine ⟨by simpa using h2, fun hm => ?_, fun j p hp hne => ?_⟩
    · rw [memN_iff.2 hm] at h3; cases h3
    · have hj : j < ops.size := (Array.getElem?_eq_some_iff.1 hp).1
      have h5 := (List.all_eq_true.1 h4) j (List.mem_range.2 hj)
      have hb : Nat.beq j i = false := nbeq hne
      simp only [hb, Bool.false_or, hp, Bool.and_eq_true, Bool.or_eq_true] at h5
      refine ⟨fun e => ?_, fun hm => ?_⟩
      · rw [e] at h5
        simp [Nat.beq_refl] at h5
      · rcases h5.2 with h6 | h6 | h6
        · rw [memN_iff.2 hm] at h6; cases h6
        · exact .inl h6
        · exact .inr ⟨memN_iff.1 h6.1, h6.2⟩
theorem gop_moreW {K : Ctx} {ops : Array Oper} {eff : List Nat} (hc : AnyOkW ops K.n eff) {pre : List Nat} {t : Env} {H' : Heap} {i : Nat} {o : Oper} {d : T} (ho : ops[i]? = some o) (hi : i ∉ pre)
    (htop : ∀ j ∈ pre, ∀ q, ops[j]? = some q → ∀ e ∈ q.after, Region.binds .any e = true → e.on ∈ pre) {p : Pend} (hp : p.i ∈ pre) (hpo : ops[p.i]? = some p.o) (hx : i ∈ eff → bound o p.i = true → False) (h : GOp K.P ops t H' p.o p.d) : GOp K.P ops (t.put o.dst d) H' p.o p.d := by
  refine GOp.congr h fun x hxx => ?_
  cases hd : o.dst with
  | none => rfl
  | some k =>
    by_cases hk : k = x
    · subst hk
      have hne : p.i ≠ i := fun e => hi (e ▸ hp)
      rcases ((hc.dst i o k ho hd).2.2 p.i p.o hpo hne).2 hxx with hb | hb
      · obtain ⟨e, he, h1, h2⟩ := bound_iff.1 hb
        exact absurd (h2 ▸ htop p.i hp p.o hpo e he h1) hi
      · exact (hx hb.1 hb.2).elim
    · exact (Env.get_put_ne t d hk).symm
theorem get_moreW {K : Ctx} {ops : Array Oper} {eff : List Nat} (hc : AnyOkW ops K.n eff) {pre : List Nat} {t : Env} {i : Nat} {o : Oper} {d : T} (ho : ops[i]? = some o) (hi : i ∉ pre) {p : Pend} (hp : p.i ∈ pre) (hpo : ops[p.i]? = some p.o)
    {k : Nat} (hk : p.o.dst = some k) (h : t.get k = p.d) : (t.put o.dst d).get k = p.d := by
  cases hd : o.dst with
  | none => exact h
  | some j =>
    by_cases hj : j = k
    · subst hj
      have hne : p.i ≠ i := fun e => hi (e ▸ hp)
      exact absurd hk ((hc.dst i o j ho hd).2.2 p.i p.o hpo hne).1
    · show Env.get (t.put (some j) d) k = _
      rw [Env.get_put_ne t d hj]; exact h
def AnyTree (K : Ctx) (ops : Array Oper) (eff : List Nat) (N : Env → Heap → Prop) : Nat → List (Nat × Oper) → Env → Heap → List Pend → Prop
  | 0, _ => fun t H _ => N t H
  | k + 1, rem => fun t H pend => ∀ p ∈ rem, (rem.all fun q => !bound p.2 q.1) = true → AnyStep K ops eff p.1 p.2 (AnyTree K ops eff N k (rem.filter fun q => !Nat.beq q.1 p.1)) t H pend
structure WayT (K : Ctx) (ops : Array Oper) (eff : List Nat) (N : Env → Heap → Prop) (pre : List Nat) (rem : List (Nat × Oper)) (t : Env) (H : Heap) (pend : List Pend) (listed : Array Bool) : Prop where
  cover : ∀ i, i < ops.size → i ∈ pre ∨ i ∈ rem.map (·.1)
  top : ∀ i ∈ pre, ∀ o, ops[i]? = some o → ∀ e ∈ o.after, Region.binds .any e = true → e.on ∈ pre
  is : ∀ p ∈ rem, ops[p.1]? = some p.2
  re : ∀ p ∈ rem, p.1 ∈ eff ∧ p.1 ∉ pre
  nd : (rem.map (·.1)).Nodup
  todo : ∀ p ∈ rem, listed.getD p.1 true = false
  done : ∀ i ∈ pre, i ∈ eff → listed.getD i false = true
  has : ∀ i ∈ pre, i ∉ eff → listed.getD i true = false → ∃ p ∈ pend, p.i = i
  pis : ∀ p ∈ pend, p.i ∈ pre ∧ p.i ∉ eff ∧ ops[p.i]? = some p.o
  gop : ∀ p ∈ pend, listed.getD p.i true = false → (∀ H', p.F H' → GOp K.P ops t H' p.o p.d) ∧ ∀ k, p.o.dst = some k → t.get k = p.d
  now : ∀ p ∈ pend, listed.getD p.i true = false → p.F H
  closed : ∀ i o, ops[i]? = some o → listed.getD i true = true → ∀ e ∈ o.after, Region.binds .any e = true → listed.getD e.on true = true
  go : AnyTree K ops eff N rem.length rem t H pend
theorem filter_len {rem : List (Nat × Oper)} (hnd : (rem.map (·.1)).Nodup) {p : Nat × Oper} (hp : p ∈ rem) : (rem.filter fun q => !Nat.beq q.1 p.1).length + 1 = rem.length := by
  induction rem with
  | nil => cases hp
  | cons r rem ih =>
    rw [List.map_cons, List.nodup_cons] at hnd
    rcases List.mem_cons.1 hp with rfl | hp
    · rw [List.filter_cons, show (!Nat.beq p.1 p.1) = false by simp]
      have : rem.filter (fun q => !Nat.beq q.1 p.1) = rem := by
        rw [List.filter_eq_self]
        intro q hq
        have hne : ¬ q.1 = p.1 := fun e => hnd.1 (e ▸ List.mem_map.2 ⟨q, hq, rfl⟩)
        rw [nbeq hne]; rfl
      simp [this]
    · have hne : ¬ r.1 = p.1 := fun e => hnd.1 (e ▸ List.mem_map.2 ⟨p, hp, rfl⟩)
      rw [List.filter_cons, nbeq hne]
      have := ih hnd.2 hp
      simp only [Bool.not_false, if_true, List.length_cons]
      omega
theorem any_goT (hc : AnyOkW ops K.n eff) (hq : ∀ t' H' a' w', N t' H' → R K t' H' a' w' → Q .normal a' w') :
    ∀ (fuel : Nat) (pre : List Nat) (rem : List (Nat × Oper)) (t : Env) (H : Heap) (pend : List Pend) (listed : Array Bool) (tx : Env) (a : Act) (w : World), listed.size = ops.size → unl listed ops.size = fuel →
      WayT K ops eff N pre rem t H pend listed → (∀ x, (∀ p ∈ pend, listed.getD p.i true = false → p.o.dst ≠ some x) → tx.get x = t.get x) → R K tx H a w → wpAnyIn (RF K.rd) 0 K.P .any ops Q fuel listed a w := by
  intro fuel
  induction fuel with
  | zero =>
    intro pre rem t H pend listed tx a w hs hf hw hx hr
    have hall : ∀ j, j < ops.size → listed.getD j true = true := fun j hj => by
      have h0 := List.length_eq_zero_iff.1 hf
      have h1 := (List.filter_eq_nil_iff.1 h0) j (List.mem_range.2 hj)
      simpa using h1
    have hlt : ∀ j o, ops[j]? = some o → j < ops.size := fun j o h => (Array.getElem?_eq_some_iff.1 h).1
    refine ⟨?_, ?_⟩
    · refine List.eq_nil_iff_forall_not_mem.2 fun j hj => ?_
      obtain ⟨h0, o, ho, _⟩ := mem_ready.1 hj
      rw [hall j (hlt j o ho)] at h0; cases h0
    · cases rem with
      | cons p l =>
        have := hw.todo p List.mem_cons_self
        rw [hall _ (hlt _ _ (hw.is p List.mem_cons_self))] at this; cases this
      | nil =>
        refine hq t H a w hw.go (hr.env fun x => hx x fun p hp hl => ?_)
        rw [hall _ (hlt _ _ (hw.pis p hp).2.2)] at hl; cases hl
  | succ fuel ih =>
    intro pre rem t H pend listed tx a w hs hf hw hx hr
    have hlt : ∀ j o, ops[j]? = some o → j < ops.size := fun j o h => (Array.getElem?_eq_some_iff.1 h).1
    -- one is ready
    have hex : ∃ i, i < ops.size ∧ listed.getD i true = false := by
      refine Classical.byContradiction fun hne => ?_
      have : unl listed ops.size = 0 := by
        unfold unl
        rw [List.length_eq_zero_iff, List.filter_eq_nil_iff]
        intro j hj
        have hj' := List.mem_range.1 hj
        cases hv : listed.getD j true with
        | false => exact absurd ⟨j, hj', hv⟩ hne
        | true => simp
      omega
    have hmin : ∃ i, i < ops.size ∧ listed.getD i true = false ∧ ∀ j, j < i → listed.getD j true = true := by
      obtain ⟨i, hi1, hi2⟩ := hex
      induction i using Nat.strongRecOn with
      | _ i ihm =>
        by_cases h : ∀ j, j < i → listed.getD j true = true
        · exact ⟨i, hi1, hi2, h⟩
        · obtain ⟨j, hj⟩ := Classical.not_forall.1 h
          obtain ⟨hj1, hj2⟩ := Classical.not_imp.1 hj
          exact ihm j hj1 (by omega) (by simpa using hj2)
    obtain ⟨i0, hi0, hu0, hl0⟩ := hmin
    have hr0 : i0 ∈ Region.ready .any ops listed := mem_ready.2 ⟨hu0, ops[i0], by simp [hi0], fun e he hb => by
      have := hc.back i0 _ (by simp [hi0]) e he hb
      rw [lst (by omega)]; exact hl0 _ this⟩
    refine ⟨fun hn => (by rw [hn] at hr0; cases hr0), fun i hir => ?_⟩
    obtain ⟨hu, o, ho, hall⟩ := mem_ready.1 hir
    have hisz : i < ops.size := hlt i o ho
    have hbnd : ∀ j, j < ops.size → bound o j = true → listed.getD j true = true := fun j hj hb => by
      obtain ⟨e, he, h1, h2⟩ := bound_iff.1 hb
      have := hall e he h1
      rw [h2, lst (by omega)] at this; exact this
    have hlook : ∀ x ∈ o.looksAt ops, tx.get x = t.get x := fun x hxo => hx x fun p hp hl he => by
      have hpi := (hw.pis p hp).2.2
      by_cases hne : i = p.i
      · rw [← hne, ho] at hpi
        have e := Option.some.inj hpi
        exact (hc.dst i o x ho (e ▸ he)).2.1 hxo
      · have := hbnd _ (hlt _ _ hpi) ((((hc.dst p.i p.o x hpi he).2.2 i o ho hne).2 hxo).resolve_right fun h => (hw.pis p hp).2.1 h.1)
        rw [this] at hl; cases hl
    have hopr : ∀ x ∈ o.op.operands, tx.ev x = t.ev x := by
      intro x hx'
      cases x with
      | tmp k' => exact hlook k' (List.mem_append_left _ (List.mem_filterMap.2 ⟨.tmp k', by simpa using hx', rfl⟩))
      | _ => rfl
    have hun := unl_set hs hisz hu
    have hfu : unl (listed.setIfInBounds i true) ops.size = fuel := by omega
    have hset : ∀ j, ¬ i = j → ∀ d, (listed.setIfInBounds i true).getD j d = listed.getD j d := fun j hj d => getD_set_ne d hj
    have hcl' : ∀ i' o', ops[i']? = some o' → (listed.setIfInBounds i true).getD i' true = true → ∀ e ∈ o'.after, Region.binds .any e = true → (listed.setIfInBounds i true).getD e.on true = true := fun i' o' ho' hl e he hb => by
      by_cases hie : i = e.on
      · rw [← hie]; exact lst_set (by omega) _
      · rw [hset _ hie]
        by_cases hii : i = i'
        · subst hii; rw [ho] at ho'; cases ho'
          exact lstt (hall e he hb)
        · rw [hset _ hii] at hl; exact hw.closed i' o' ho' hl e he hb
    have hbr : ∀ j, reachL ops 12 o j = true → listed.getD j true = true := reach_listed hw.closed 12 o fun e he hb => lstt (hall e he hb)
    by_cases hpre : i ∈ pre
    · -- one that floats
      have hne : i ∉ eff := fun he => by
        have := hw.done i hpre he
        rw [lst (by omega)] at this
        rw [this] at hu; cases hu
      obtain ⟨p, hp, hpi⟩ := hw.has i hpre hne hu
      have hpo : p.o = o := by
        have := (hw.pis p hp).2.2
        rw [hpi, ho] at this
        exact (Option.some.inj this).symm
      obtain ⟨k, hk⟩ : ∃ k, o.dst = some k := by
        cases hd : o.dst with
        | none => exact absurd (hc.pur i o ho hd) hne
        | some k => exact ⟨k, rfl⟩
      have hF := hw.now p hp (by rw [hpi]; exact hu)
      have hg := (hw.gop p hp (by rw [hpi]; exact hu)).1 H hF
      have hgk := (hw.gop p hp (by rw [hpi]; exact hu)).2 k (by rw [hpo]; exact hk)
      rw [hpo] at hg
      obtain ⟨hkn, hself, hoth⟩ := hc.dst i o k ho hk
      have next : ∀ (S S' : Nat → Prop) (w' : World) (v : Value), R1 K tx H a w S → Step [] S w S' w' → Rel S' w' p.d v → wpAnyIn (RF K.rd) 0 K.P .any ops Q fuel (listed.setIfInBounds i true) (a.put o.dst v) w' := by
        intro S S' w' v hr1 hst hrv
        refine ih pre rem t H pend _ (tx.put o.dst p.d) _ w' (by simpa using hs) hfu ⟨hw.cover, hw.top, hw.is, hw.re, hw.nd, fun q hq => ?_, fun j hj he => ?_, fun j hj he hlj => hw.has j hj he (by
          by_cases hij : i = j
          · subst hij; exact hu
          · rw [hset _ hij] at hlj; exact hlj), hw.pis, (fun q hq hl => hw.gop q hq (by
          by_cases hqi : i = q.i
          · rw [← hqi]; exact hu
          · rw [hset _ hqi] at hl; exact hl)), fun q hq hl => ?_, hcl', hw.go⟩ ?_ ⟨S', hr1.pure hst (by rw [hk]; simpa [okDst] using hkn) hrv⟩
        · have h1 := hw.todo q hq
          by_cases hqi : i = q.1
          · exact absurd (hqi ▸ hpre) (hw.re q hq).2
          · rw [hset _ hqi]; exact h1
        · by_cases hij : i = j
          · subst hij; exact lst_set (by omega) _
          · rw [hset _ hij]; exact hw.done j hj he
        · by_cases hqi : i = q.i
          · rw [← hqi, lst_set (by omega)] at hl; cases hl
          · rw [hset _ hqi] at hl; exact hw.now q hq hl
        · intro x hxx
          rw [hk]
          by_cases hkx : k = x
          · subst hkx; rw [Env.get_put_self, hgk]
          · rw [Env.get_put_ne _ _ hkx]
            refine hx x fun q hq hl he => ?_
            by_cases hqi : i = q.i
            · have := (hw.pis q hq).2.2
              rw [← hqi, ho] at this
              cases this
              rw [hk] at he; cases he
              exact hkx rfl
            · exact hxx q hq (by rw [hset _ hqi]; exact hl) he
      obtain ⟨S, hr1⟩ := hr
      have hop : ∀ x ∈ o.op.operands, Rel S w (t.ev x) (a.eval x) := fun x hx' => hopr x hx' ▸ hr1.env.ev x
      unfold wpOpIn
      simp only [ho]
      unfold GOp at hg
      cases hgu : o.guard with
      | none =>
        rw [hgu] at hg
        simp only [wanted_none hgu a, if_true]
        exact pop_wpIn (hg S w a hr1.wf hr1.own hop) fun S' w' v hst hrv => next S S' w' v hr1 hst hrv
      | some jw =>
        obtain ⟨j, want⟩ := jw
        rw [hgu] at hg
        obtain ⟨k', b, hj, hb, hyes, hno⟩ := hg
        have hv : a.tmps.getD k' undef = b := by
          have := hr1.env k'
          rw [hlook k' (by unfold Oper.looksAt; rw [hgu]; simp [hj]), hb] at this
          exact this.v_eq
        by_cases hwb : b = .bool want
        · simp only [(wanted_some hgu hj hv).1 hwb, if_true]
          exact pop_wpIn (hyes hwb S w a hr1.wf hr1.own hop) fun S' w' v hst hrv => next S S' w' v hr1 hst hrv
        · simp only [(wanted_some hgu hj hv).2 hwb, Bool.false_eq_true, if_false]
          exact ⟨fun _ _ => trivial, next S S w undef hr1 (Step.refl _ hr1.wf) (by rw [hno hwb]; exact .v _)⟩
    · -- the next one that does something
      have hml : i ∈ rem.map (·.1) := (hw.cover i hisz).resolve_left hpre
      obtain ⟨p, hpm, hpi⟩ := List.mem_map.1 hml
      have hpe := (hw.re p hpm).1
      have hpo := hw.is p hpm
      obtain ⟨pi, po⟩ := p
      simp only at hpi hpo hpe
      subst hpi
      rw [ho] at hpo; cases hpo
      have hrb : (rem.all fun q => !bound o q.1) = true := by
        rw [List.all_eq_true]
        intro q hq
        cases hb : bound o q.1 with
        | false => rfl
        | true =>
          have := hbnd q.1 (hlt _ _ (hw.is q hq)) hb
          rw [hw.todo q hq] at this; cases this
      have hlen := filter_len hw.nd hpm
      have hgo0 := hw.go
      rw [← hlen] at hgo0
      have hgo := hgo0 (pi, o) hpm hrb
      simp only [AnyStep, memN_iff.2 hpe, cond_true] at hgo
      have hgu := hc.grd pi o ho hpe
      unfold wpOpIn
      simp only [ho, wanted_none hgu a, if_true]
      refine hgo tx hopr a w hr _ Q ?_
      rintro t' H' a' w' ⟨d, pend', rfl, hpk, hdrop, hgo'⟩ hr'
      have hfm : ∀ q, q ∈ rem.filter (fun q => !Nat.beq q.1 pi) → q ∈ rem ∧ ¬ pi = q.1 := fun q hq => by
        obtain ⟨h1, h2⟩ := List.mem_filter.1 hq
        refine ⟨h1, fun e => ?_⟩
        rw [e] at h2
        simp at h2
      have hedge : ∀ e ∈ o.after, Region.binds .any e = true → e.on ∈ pre := fun e he hb => by
        have h1 := hall e he hb
        have h2 := hc.back pi o ho e he hb
        rcases hw.cover e.on (by omega) with h | h
        · exact h
        · exfalso
          obtain ⟨q, hq, hqe⟩ := List.mem_map.1 h
          have h3 := hw.todo q hq
          rw [hqe, ← lst (by omega), h1] at h3; cases h3
      refine ih (pi :: pre) (rem.filter fun q => !Nat.beq q.1 pi) (t.put o.dst d) H' pend' _ (tx.put o.dst d) a' w' (by simpa using hs) hfu ⟨?_, ?_, fun q hq => hw.is q (hfm q hq).1, ?_, ?_, ?_, ?_, ?_, ?_, ?_, ?_, hcl', hgo'⟩ ?_ hr'
      · intro j hj
        rcases hw.cover j hj with h | h
        · exact .inl (List.mem_cons_of_mem _ h)
        · by_cases hjp : j = pi
          · exact .inl (hjp ▸ List.mem_cons_self)
          · obtain ⟨q, hq, hqj⟩ := List.mem_map.1 h
            exact .inr (List.mem_map.2 ⟨q, List.mem_filter.2 ⟨hq, by rw [nbeq (by rw [hqj]; exact hjp)]; rfl⟩, hqj⟩)
      · intro j hj q hq e hee hb
        rcases List.mem_cons.1 hj with rfl | hj
        · rw [ho] at hq; cases hq
          exact List.mem_cons_of_mem _ (hedge e hee hb)
        · exact List.mem_cons_of_mem _ (hw.top j hj q hq e hee hb)
      · intro q hq
        obtain ⟨h1, h2⟩ := hfm q hq
        refine ⟨(hw.re q h1).1, fun h => ?_⟩
        rcases List.mem_cons.1 h with h | h
        · exact h2 h.symm
        · exact (hw.re q h1).2 h
      · exact (hw.nd.sublist (List.filter_sublist.map _))
      · intro q hq
        obtain ⟨h1, h2⟩ := hfm q hq
        rw [hset _ h2]; exact hw.todo q h1
      · intro j hj he
        by_cases hij : pi = j
        · subst hij; exact lst_set (by omega) _
        · rw [hset _ hij]
          rcases List.mem_cons.1 hj with h | h
          · exact absurd h.symm hij
          · exact hw.done j h he
      · intro j hj he hlj
        rcases List.mem_cons.1 hj with rfl | hj
        · exact absurd hpe he
        · have hij : ¬ pi = j := fun e => by subst e; rw [lst_set (by omega)] at hlj; cases hlj
          rw [hset _ hij] at hlj
          obtain ⟨q, hq, hqj⟩ := hw.has j hj he hlj
          rcases hdrop.has q hq with h | h
          · exact ⟨q, h, hqj⟩
          · rw [← hqj, hbr q.i h] at hlj; cases hlj
      · intro q hq
        obtain ⟨a1, a2, a3⟩ := hw.pis q (hdrop.sub q hq)
        exact ⟨List.mem_cons_of_mem _ a1, a2, a3⟩
      · intro q hq hl
        replace hq := hdrop.sub q hq
        obtain ⟨a1, a2, a3⟩ := hw.pis q hq
        have hl' : listed.getD q.i true = false := by
          by_cases hqi : pi = q.i
          · rw [← hqi, lst_set (by omega)] at hl; cases hl
          · rw [hset _ hqi] at hl; exact hl
        have hnb : pi ∈ eff → bound o q.i = true → False := fun _ hb => by
          have := hbnd q.i (hlt _ _ a3) hb
          rw [this] at hl'; cases hl'
        exact ⟨fun H' hF' => gop_moreW hc ho hpre hw.top a1 a3 hnb ((hw.gop q hq hl').1 H' hF'), fun k hk => get_moreW hc ho hpre a1 a3 hk ((hw.gop q hq hl').2 k hk)⟩
      · intro q hq hl
        replace hq := hdrop.sub q hq
        by_cases hqi : pi = q.i
        · rw [← hqi, lst_set (by omega)] at hl; cases hl
        · rw [hset _ hqi] at hl
          refine hpk.get q hq ?_
          cases hb : reachL ops 12 o q.i with
          | false => rfl
          | true =>
            rw [hbr q.i hb] at hl; cases hl
      · intro x hxx
        replace hxx : ∀ q ∈ pend, (listed.setIfInBounds pi true).getD q.i true = false → q.o.dst ≠ some x := fun q hq hl => by
          rcases hdrop.has q hq with h | h
          · exact hxx q h hl
          · have h2 := hbr q.i h
            by_cases hqi : pi = q.i
            · rw [← hqi, lst_set (by omega)] at hl; cases hl
            · rw [hset _ hqi, h2] at hl; cases hl
        cases hd : o.dst with
        | none =>
          show tx.get x = t.get x
          refine hx x fun q hq hl he => ?_
          by_cases hqi : pi = q.i
          · exact absurd (hqi ▸ (hw.pis q hq).2.1) (fun h => h hpe)
          · exact hxx q hq (by rw [hset _ hqi]; exact hl) he
        | some k =>
          by_cases hkx : k = x
          · subst hkx; rw [Env.get_put_self, Env.get_put_self]
          · rw [Env.get_put_ne _ _ hkx, Env.get_put_ne _ _ hkx]
            refine hx x fun q hq hl he => ?_
            by_cases hqi : pi = q.i
            · exact absurd (hqi ▸ (hw.pis q hq).2.1) (fun h => h hpe)
            · exact hxx q hq (by rw [hset _ hqi]; exact hl) he
def PureFrom (K : Ctx) (ops : Array Oper) (eff : List Nat) (C : Env → Heap → List Pend → Prop) : List (Nat × Oper) → Env → Heap → List Pend → Prop
  | [] => C
  | p :: l => AnyStep K ops eff p.1 p.2 (PureFrom K ops eff C l)
structure WayP (K : Ctx) (ops : Array Oper) (eff : List Nat) (C : Env → Heap → List Pend → Prop) (rem : List (Nat × Oper)) (pre : List Nat) (l : List (Nat × Oper)) (t : Env) (H : Heap) (pend : List Pend) : Prop where
  cover : ∀ i, i < ops.size → i ∈ pre ∨ i ∈ l.map (·.1) ∨ i ∈ rem.map (·.1)
  ord : ordOk ops eff pre (l.map (·.1)) = true
  top : ∀ i ∈ pre, ∀ o, ops[i]? = some o → ∀ e ∈ o.after, Region.binds .any e = true → e.on ∈ pre
  is : ∀ p ∈ l, ops[p.1]? = some p.2 ∧ p.1 ∉ eff
  prp : ∀ i ∈ pre, i ∉ eff
  has : ∀ i ∈ pre, ∃ p ∈ pend, p.i = i
  pis : ∀ p ∈ pend, p.i ∈ pre ∧ p.i ∉ eff ∧ ops[p.i]? = some p.o
  gop : ∀ p ∈ pend, (∀ H', p.F H' → GOp K.P ops t H' p.o p.d) ∧ ∀ k, p.o.dst = some k → t.get k = p.d
  now : ∀ p ∈ pend, p.F H
  go : PureFrom K ops eff C l t H pend
theorem WayP.pass {C : Env → Heap → List Pend → Prop} {rem : List (Nat × Oper)} (hc : AnyOkW ops K.n eff) : ∀ {l : List (Nat × Oper)} {pre : List Nat} {t : Env} {H : Heap} {pend : List Pend} {tx : Env}, WayP K ops eff C rem pre l t H pend → (∀ x, (∀ p ∈ pend, p.o.dst ≠ some x) → tx.get x = t.get x) →
    ∃ pre' t' pend', WayP K ops eff C rem pre' [] t' H pend' ∧ (∀ x, (∀ p ∈ pend', p.o.dst ≠ some x) → tx.get x = t'.get x)
  | [], pre, t, H, pend, tx, h, hx => ⟨pre, t, pend, h, hx⟩
  | (i, o) :: l, pre, t, H, pend, tx, h, hx => by
    have he : i ∉ eff := (h.is (i, o) List.mem_cons_self).2
    have hgo := h.go
    have hem : memN eff i = false := by
      cases hm : memN eff i with
      | false => rfl
      | true => exact absurd (memN_iff.1 hm) he
    simp only [PureFrom, AnyStep, hem, cond_false] at hgo
    obtain ⟨d, F, hg, hF, hgo⟩ := hgo
    have ho : ops[i]? = some o := (h.is (i, o) List.mem_cons_self).1
    obtain ⟨h1, h2, h3, h4⟩ := ordOk_cons ho (by have := h.ord; simpa using this)
    refine WayP.pass hc (l := l) (pre := i :: pre) (t := t.put o.dst d) (pend := ⟨i, o, d, F⟩ :: pend) (tx := tx) ⟨?_, h4, ?_, fun p hp => h.is p (List.mem_cons_of_mem _ hp), ?_, ?_, ?_, ?_, ?_, hgo⟩ ?_
    · intro j hj
      rcases h.cover j hj with hh | hh | hh
      · exact .inl (List.mem_cons_of_mem _ hh)
      · rcases List.mem_cons.1 (show j ∈ i :: l.map (·.1) from hh) with e | hh
        · exact .inl (e ▸ List.mem_cons_self)
        · exact .inr (.inl hh)
      · exact .inr (.inr hh)
    · intro j hj q hq e hee hb
      rcases List.mem_cons.1 hj with rfl | hj
      · rw [ho] at hq; cases hq
        exact List.mem_cons_of_mem _ (h2 e hee hb)
      · exact List.mem_cons_of_mem _ (h.top j hj q hq e hee hb)
    · intro j hj
      rcases List.mem_cons.1 hj with rfl | hj
      · exact he
      · exact h.prp j hj
    · intro j hj
      rcases List.mem_cons.1 hj with rfl | hj
      · exact ⟨_, List.mem_cons_self, rfl⟩
      · obtain ⟨p, hp, hpi⟩ := h.has j hj
        exact ⟨p, List.mem_cons_of_mem _ hp, hpi⟩
    · intro p hp
      rcases List.mem_cons.1 hp with rfl | hp
      · exact ⟨List.mem_cons_self, he, ho⟩
      · obtain ⟨a, b, c⟩ := h.pis p hp
        exact ⟨List.mem_cons_of_mem _ a, b, c⟩
    · intro p hp
      rcases List.mem_cons.1 hp with rfl | hp
      · refine ⟨fun H' hF' => GOp.congr (hg H' hF') fun x hx' => ?_, fun k hk => ?_⟩
        · simp only at hx'
          cases hd : o.dst with
          | none => rfl
          | some k => exact (Env.get_put_ne t d (fun e => (hc.dst i o k ho hd).2.1 (by rw [e]; exact hx'))).symm
        · simp only at hk ⊢; rw [hk]; exact Env.get_put_self _ _ _
      · obtain ⟨a, b, c⟩ := h.pis p hp
        exact ⟨fun H' hF' => gop_moreW hc ho h1 h.top a c (fun h5 _ => he h5) ((h.gop p hp).1 H' hF'), fun k hk => get_moreW hc ho h1 a c hk ((h.gop p hp).2 k hk)⟩
    · intro p hp
      rcases List.mem_cons.1 hp with rfl | hp
      · exact hF
      · exact h.now p hp
    · intro x hxx
      have hne : o.dst ≠ some x := hxx ⟨i, o, d, F⟩ List.mem_cons_self
      rw [hx x fun p hp => hxx p (List.mem_cons_of_mem _ hp)]
      cases hd : o.dst with
      | none => rfl
      | some k => exact (Env.get_put_ne t d (fun e => hne (by rw [hd, e]))).symm
def nodupN : List Nat → Bool
  | [] => true
  | i :: r => !memN r i && nodupN r
theorem nodupN_iff : ∀ {l : List Nat}, nodupN l = true → l.Nodup
  | [], _ => List.nodup_nil
  | i :: r, h => by
    simp only [nodupN, Bool.and_eq_true] at h
    refine List.nodup_cons.2 ⟨fun hm => ?_, nodupN_iff h.2⟩
    rw [memN_iff.2 hm] at h; simp at h
def treeOk (ops : Array Oper) (n : Nat) (ord tail : List Nat) : Bool :=
  ((List.range ops.size).all fun i => memN ord i || memN tail i) && ordOk ops tail [] ord && (ord.all fun i => !memN tail i) && nodupN tail && (tail.all fun i => Nat.blt i ops.size) && dstOkW ops n tail
theorem sim_tree {t : Env} {H : Heap} {id : Nat} {Ψ : Exit → Env → Heap → Prop} (ord tail : List Nat) (hmix : K.P.follows .mixedOrders = true) (hc : treeOk ops K.n ord tail = true)
    (h : PureFrom K ops tail (AnyTree K ops tail (Ψ .normal) (pick ops tail).length (pick ops tail)) (pick ops ord) t H []) : Sim K (.region id ops true) t H Ψ := by
  intro a w ⟨S, hr⟩
  refine wpIn_region_any hmix ?_
  simp only [treeOk, Bool.and_eq_true] at hc
  obtain ⟨⟨⟨⟨⟨c1, c2⟩, c3⟩, c4⟩, c5⟩, c6⟩ := hc
  have hA := AnyOkW.of c6
  have hst : Step [] S w S { w with drawn := w.drawn + 1 } := ⟨rfl, rfl, rfl, Nat.le_refl _, fun _ _ _ => rfl, fun _ h => h, fun _ h => .inl h, hr.wf⟩
  obtain ⟨p1, p2⟩ := pick_is (ops := ops) ord (ordOk_lt ord [] c2)
  obtain ⟨q1, q2⟩ := pick_is (ops := ops) tail (fun i hi => by simpa using (List.all_eq_true.1 c5) i hi)
  have hfalse : ∀ (d : Bool) (j : Nat), j < ops.size → (Array.replicate ops.size false).getD j d = false := fun d j hj => by simp [Array.getD_eq_getD_getElem?, hj]
  have hlt : ∀ j o, ops[j]? = some o → j < ops.size := fun j o h => (Array.getElem?_eq_some_iff.1 h).1
  have hW : WayP K ops tail (AnyTree K ops tail (Ψ .normal) (pick ops tail).length (pick ops tail)) (pick ops tail) [] (pick ops ord) t H [] := ⟨fun i hi => by
      have := (List.all_eq_true.1 c1) i (List.mem_range.2 hi)
      rw [Bool.or_eq_true] at this
      rcases this with h | h
      · exact .inr (.inl (by rw [p2]; exact memN_iff.1 h))
      · exact .inr (.inr (by rw [q2]; exact memN_iff.1 h)), by rw [p2]; exact c2, by simp, fun p hp => ⟨p1 p hp, fun hm => by
      have hpo : p.1 ∈ ord := by rw [← p2]; exact List.mem_map.2 ⟨p, hp, rfl⟩
      have := (List.all_eq_true.1 c3) p.1 hpo
      rw [memN_iff.2 hm] at this; cases this⟩, by simp, by simp, by simp, by simp, by simp, h⟩
  obtain ⟨pre, t', pend, hW', hx⟩ := WayP.pass hA hW (tx := t) (fun x _ => rfl)
  refine any_goT hA (fun t' H' a' w' hn hr' => ⟨t', H', hn, hr'⟩) ops.size pre (pick ops tail) t' H pend _ t a _ (by simp) ?_
    ⟨fun i hi => (hW'.cover i hi).imp_right fun h => h.resolve_left (by simp), hW'.top, q1, fun p hp => ?_, by rw [q2]; exact nodupN_iff c4, fun p hp => hfalse _ _ (hlt _ _ (q1 p hp)), fun i hi he => absurd he (hW'.prp i hi), fun i hi _ _ => hW'.has i hi, hW'.pis, fun p hp _ => hW'.gop p hp, fun p hp _ => hW'.now p hp, (fun i o hi hl => by rw [hfalse _ i (hlt _ _ hi)] at hl; cases hl), hW'.go⟩ (fun x hxx => hx x fun p hp => hxx p hp (hfalse _ _ (hlt _ _ (hW'.pis p hp).2.2)))
    ⟨S, hr.size, hr.defers.step (hst.mono hr.wf (by simp)) hst.objs0 hst.size, hr.step.trans hst (by simp), hr.own.step hst hr.wf (by simp) (by simp), hr.mine, hr.env.mono (hst.mono hr.wf (by simp))⟩
  · unfold unl
    rw [List.filter_eq_self.2]
    · simp
    · intro j hj
      have := List.mem_range.1 hj
      simp [Array.getD_eq_getD_getElem?, this]
  · have hpt : p.1 ∈ tail := by rw [← q2]; exact List.mem_map.2 ⟨p, hp, rfl⟩
    exact ⟨hpt, fun hm => hW'.prp _ hm hpt⟩
section
variable {t : Env} {H : Heap} {C : Env → Heap → List Pend → Prop} {kd i : Nat} {op : Op} {ty tp : TypeId} {pos : String} {aft : Array Edge} {pend : List Pend} {al : List (Nat × Oper)} {d : T} {x y : Operand} {rest : Env → Heap → List Pend → Prop}
theorem ct {id : Nat} {Ψ : Exit → Env → Heap → Prop} (ord tail : List Nat) (h : PureFrom K ops tail (AnyTree K ops tail (Ψ .normal) (pick ops tail).length (pick ops tail)) (pick ops ord) t H []) (hmix : K.P.follows .mixedOrders = true := by kernel_rfl) (hc : treeOk ops K.n ord tail = true := by kernel_rfl) : Sim K (.region id ops true) t H Ψ := sim_tree ord tail hmix hc h
theorem t_ (hp : ∀ H', POp K.P t H' ⟨some kd, op, tp, pos, aft, none⟩ d) (h : PureFrom K ops eff C al ((kd, d) :: t) H (⟨i, ⟨some kd, op, tp, pos, aft, none⟩, d, fun _ => True⟩ :: pend)) (he : memN eff i = false := by rfl) : PureFrom K ops eff C ((i, ⟨some kd, op, tp, pos, aft, none⟩) :: al) t H pend := by
  show AnyStep K ops eff i _ _ t H pend
  unfold AnyStep
  rw [he, cond_false]
  exact ⟨d, fun _ => True, fun H' _ => hp H', trivial, h⟩
theorem t_F {F : Heap → Prop} (hp : ∀ H', F H' → POp K.P t H' ⟨some kd, op, tp, pos, aft, none⟩ d) (hF : F H) (h : PureFrom K ops eff C al ((kd, d) :: t) H (⟨i, ⟨some kd, op, tp, pos, aft, none⟩, d, F⟩ :: pend)) (he : memN eff i = false := by rfl) : PureFrom K ops eff C ((i, ⟨some kd, op, tp, pos, aft, none⟩) :: al) t H pend := by
  show AnyStep K ops eff i _ _ t H pend
  unfold AnyStep
  rw [he, cond_false]
  exact ⟨d, F, fun H' h' => hp H' h', hF, h⟩
theorem t_eff {o : Oper} (hE : ∀ t0 : Env, (∀ x ∈ o.op.operands, t0.ev x = t.ev x) → EOp K t0 H o fun t' H' => ∃ d, t' = t0.put o.dst d ∧ PendOk ops o H' pend ∧ rest (t.put o.dst d) H' pend) (he : memN eff i = true) : AnyStep K ops eff i o rest t H pend := by
  unfold AnyStep
  rw [he, cond_true]
  exact fun t0 h0 a w hr Kc Q hk => hE t0 h0 a w hr Kc Q fun t' H' a' w' ⟨d, h1, h2, h3⟩ hr' => hk t' H' a' w' ⟨d, pend, h1, h2, .refl _ _ _, h3⟩ hr'
theorem t_as (h : PendOk ops ⟨some kd, .assign x, tp, pos, aft, none⟩ H pend ∧ rest ((kd, d) :: t) H pend) (hx : autoParam (t.ev x = d) zl._auto_1) (hd : Nat.blt kd K.n = true := by rfl) (he : memN eff i = true := by rfl) : AnyStep K ops eff i ⟨some kd, .assign x, tp, pos, aft, none⟩ rest t H pend :=
  t_eff (fun t0 h0 => EOp.of_pop (p_as (hx := (h0 x (by simp [Op.operands])).trans hx)) hd ⟨d, rfl, h.1, h.2⟩) he
end
end Go.Cap
end
section
namespace Go.Cap
section
variable {K : Ctx} {ops : Array Oper} {eff : List Nat} {N : Env → Heap → Prop} {t : Env} {H : Heap} {ty tp : TypeId} {pos : String} {aft : Array Edge} {x : Operand} {d : T} {kd : Tmp} {i : Nat} {al : List (Nat × Oper)} {pend : List Pend} {C : Env → Heap → List Pend → Prop}
theorem t_lo {b o m : Nat} {ty0 : TypeId} {cells : List T} (h : PureFrom K ops eff C al ((kd, d) :: t) H (⟨i, ⟨some kd, .load ty x, tp, pos, aft, none⟩, d, fun H => (b, (⟨ty0, cells, m⟩ : Blk)) ∈ H⟩ :: pend)) (hx : autoParam (t.ev x = .v (.pointer (some ⟨b, o, none⟩))) zl._auto_1) (hm : autoParam ((b, (⟨ty0, cells, m⟩ : Blk)) ∈ H) zm._auto_1) (hd : cells[o]? = some d := by rfl)
    (hk : leafTy K.P ty = true := by rfl) (he : memN eff i = false := by rfl) : PureFrom K ops eff C ((i, ⟨some kd, .load ty x, tp, pos, aft, none⟩) :: al) t H pend := t_F (F := fun H => (b, (⟨ty0, cells, m⟩ : Blk)) ∈ H) (fun _ h' => p_lo hx h' hd hk) hm h he
theorem t_as1 (h : PendOk ops ⟨some kd, .assign x, tp, pos, aft, none⟩ H pend ∧ N ((kd, d) :: t) H) (hx : autoParam (t.ev x = d) zl._auto_1) (hd : Nat.blt kd K.n = true := by rfl) (he : memN eff i = true := by rfl) :
    AnyTree K ops eff N 1 [(i, ⟨some kd, .assign x, tp, pos, aft, none⟩)] t H pend := by
  intro p hp hr
  rcases List.mem_cons.1 hp with rfl | hp
  · exact t_as (rest := AnyTree K ops eff N 0 _) h hx hd he
  · exact (List.not_mem_nil hp).elim
end
end Go.Cap
end
section
set_option maxRecDepth 16000
namespace Go.Proofs.YtjbokbikkcfjjaaGreat
open Go.Cap
set_option linter.unusedSimpArgs false
set_option linter.unusedVariables false
attribute [local irreducible] POp SimFrom DrawFrom EOp Sim FnH T.gp
def intsB (l : List Int) : List UInt8 := l.flatMap intB
def entB (e : En) : List UInt8 := intB e.term ++ intB e.conf ++ txtB e.cmd
def headB (n : Nd) (from_ : Nat) : List Int := [n.term, n.vote, n.base, n.baseTerm, n.baseConf, n.commit, from_, n.log.length]
def recB (n : Nd) (from_ : Nat) : List UInt8 := intsB (headB n from_) ++ txtB n.snap ++ (n.log.drop from_).flatMap entB
def w64 (x : Int) : Prop := -4000000000000000000 ≤ x ∧ x ≤ 4000000000000000000
structure Sz (n : Nd) : Prop where
  term : w64 n.term
  vote : w64 n.vote
  base : w64 n.base
  baseTerm : w64 n.baseTerm
  baseConf : w64 n.baseConf
  commit : w64 n.commit
  snap : n.snap.length ≤ 60000
  len : n.log.length ≤ 10000
  ents : ∀ e ∈ n.log, w64 e.term ∧ w64 e.conf ∧ e.cmd.length ≤ 60000
theorem entB_len {e : En} (h : e.cmd.length ≤ 60000) : (entB e).length ≤ 60040 := by
  have h1 := intB_len e.term
  have h2 := intB_len e.conf
  have h3 := txtB_len e.cmd
  unfold entB
  simp only [List.length_append]; omega
theorem ents_len : ∀ (l : List En), (∀ e ∈ l, e.cmd.length ≤ 60000) → (l.flatMap entB).length ≤ 60040 * l.length
  | [], _ => by simp
  | e :: l, h => by
    have h1 := entB_len (h e List.mem_cons_self)
    have h2 := ents_len l fun x hx => h x (List.mem_cons_of_mem _ hx)
    simp only [List.flatMap_cons, List.length_append, List.length_cons]; omega
theorem intsB_len : ∀ (l : List Int), (intsB l).length ≤ 10 * l.length
  | [] => by simp [intsB]
  | x :: l => by
    have h1 := intB_len x
    have h2 := intsB_len l
    simp only [intsB, List.flatMap_cons, List.length_append, List.length_cons] at h2 ⊢; omega
theorem intsB_next (l : List Int) {k : Nat} (hk : k < l.length) : intsB (l.take (k + 1)) = intsB (l.take k) ++ intB l[k] := by
  unfold intsB
  rw [List.take_succ_eq_append_getElem hk, List.flatMap_append]
  simp
theorem ents_next (l : List En) {k : Nat} (hk : k < l.length) : (l.take (k + 1)).flatMap entB = (l.take k).flatMap entB ++ entB l[k] := by
  rw [List.take_succ_eq_append_getElem hk, List.flatMap_append]
  simp
set_option maxHeartbeats 1000000 in
theorem bytes_fn (n : Nd) (from_ : Nat) (hn : Sz n) (hf : from_ ≤ n.log.length) : FnP Tryz.prog 141 [nd n, ei from_] (fun r => r = bl (recB n from_)) := by
  have hlen := hn.len
  have hw : ∀ x ∈ headB n from_, w64 x := by
    intro x hx
    simp only [headB, List.mem_cons, List.not_mem_nil, or_false] at hx
    rcases hx with rfl | rfl | rfl | rfl | rfl | rfl | rfl | rfl
    · exact hn.term
    · exact hn.vote
    · exact hn.base
    · exact hn.baseTerm
    · exact hn.baseConf
    · exact hn.commit
    · constructor <;> omega
    · constructor <;> omega
  have hhl : (headB n from_).length = 8 := rfl
  have hil : ∀ k, (intsB ((headB n from_).take k)).length ≤ 80 := fun k => by
    have := intsB_len ((headB n from_).take k)
    simp only [List.length_take, hhl] at this
    omega
  refine fn_enter Tryz.func141 (by rfl) (by rfl) ?_
  intro S0 w0
  show Sim _ _ [(0, T.agg (nodeC n (.sl false (n.log.map een)))), (1, ei from_)] _ _
  refine zC ?_
  apply cr
  refine e_bx fun b2 _ => ?_
  refine s_ p_as ?_
  refine zC ?_
  apply cr
  refine s_ p_as ?_
  refine zC ?_
  apply cr
  refine s_ p_fr ?_
  refine s_ p_lo ?_
  refine s_ p_fr ?_
  refine s_ p_lo ?_
  refine s_ p_fr ?_
  refine s_ p_lo ?_
  refine s_ p_fr ?_
  refine s_ p_lo ?_
  refine s_ p_fr ?_
  refine s_ p_lo ?_
  refine s_ p_fr ?_
  refine s_ p_lo ?_
  refine s_ p_mv ?_
  refine s_ p_fr ?_
  refine s_ p_lo ?_
  (first | refine s_ p_ln ?_ | refine s_ p_lr ?_)
  refine s_ p_bs ?_
  (first | refine s_ p_ln ?_ | refine s_ p_lr ?_)
  refine s_ p_mv ?_
  refine zC ?_
  apply sim_loopL (σ := Nat) (ok := fun k => k ≤ 8) (env := fun k => [(28, ei k), (5, bl (intsB ((headB n from_).take k))), (27, ei 8), (26, .sl true ((headB n from_).map ei)), (1, ei from_), (2, pW b2)]) (heap := fun _ => [(b2, ⟨44, nodeC n (.sl false (n.log.map een)), 22⟩)]) (μ := fun k => 8 - k) (s0 := 0)
  · exact Nat.zero_le _
  · refine ⟨?_, ?_, ?_, ?_, eL⟩
    · apply le_get; ((repeat (apply gS; rfl)); exact gZ)
      exact Le.refl _
    · apply le_get; ((repeat (apply gS; rfl)); exact gZ)
      exact Le.slice0 _ _
    · apply le_get; ((repeat (apply gS; rfl)); exact gZ)
      exact Le.refl _
    · apply le_get; ((repeat (apply gS; rfl)); exact gZ)
      exact Le.of_eq (by simp [headB, ei])
  · exact kR
  intro k hk
  refine zC ?_
  apply cr
  refine s_ p_lt ?_
  refine zC ?_
  refine ci ?_ ?_
  · intro hlt
    have hlt' : k < (headB n from_).length := by rw [hhl]; omega
    have hwk := hw _ (List.getElem_mem hlt')
    have hi := int_fn false (intsB ((headB n from_).take k)) (headB n from_)[k] (by have := hwk.1; omega) (by have := hwk.2; omega) (by have := hil k; omega)
    refine zC ?_
    apply cr
    (first | refine s_ (p_ix hix) ?_ | refine s_ (p_ix hix2) ?_ | refine s_ p_ia ?_ | refine s_ p_ir ?_)
    (first | refine s_ p_ld ?_ | refine s_ p_lo ?_)
    refine s_ p_as ?_
    refine zC ?_
    apply cr
    refine s_ p_mv ?_
    refine s_ p_mv ?_
    refine s_ (p_ca (hi)) ?_
    refine s_ p_as ?_
    refine zC ?_
    refine zC ?_
    apply cr
    refine s_ p_ad ?_
    refine s_ p_mv ?_
    refine zC ?_
    refine ⟨k + 1, by omega, (by simp only []; omega), ⟨?_, ?_, eL⟩, kR⟩
    · apply le_get; ((repeat (apply gS; rfl)); exact gZ)
      exact Le.refl _
    · apply le_get; ((repeat (apply gS; rfl)); exact gZ)
      rw [intsB_next _ hlt']
      exact Le.refl _
  intro hge
  have hk8 : k = 8 := by omega
  subst hk8
  have hb80 := hil 8
  rw [show (headB n from_).take 8 = headB n from_ from rfl] at hb80 ⊢
  have htx := text_fn false (intsB (headB n from_)) n.snap hn.snap (by omega)
  have htl := txtB_len n.snap
  have hsn := hn.snap
  obtain ⟨l, hl⟩ : ∃ l, l = n.log.drop from_ := ⟨_, rfl⟩
  have hll : l.length ≤ 10000 := by rw [hl, List.length_drop]; omega
  have hents : ∀ e ∈ l, w64 e.term ∧ w64 e.conf ∧ e.cmd.length ≤ 60000 := fun e he => hn.ents e (by rw [hl] at he; exact List.mem_of_mem_drop he)
  refine zC ?_
  apply cr
  refine s_ p_mv ?_
  refine s_ p_fr ?_
  refine s_ p_lo ?_
  refine s_ (p_ca (htx)) ?_
  refine s_ p_as ?_
  refine zC ?_
  refine zC ?_
  apply cr
  refine s_ p_fr ?_
  refine s_ p_lo ?_
  refine s_ p_mv ?_
  refine s_ (p_s0lE (i := ((from_ : Nat) : Int)) (xs := n.log.map een) (ys := l.map een) (by rw [hl, List.map_drop]; rfl)) ?_
  (first | refine s_ p_ln ?_ | refine s_ p_lr ?_)
  refine s_ p_mv ?_
  refine zC ?_
  apply sim_loopL (σ := Nat) (ok := fun k => k ≤ l.length) (env := fun k => [(45, ei k), (5, bl (intsB (headB n from_) ++ txtB n.snap ++ (l.take k).flatMap entB)), (44, ei (l.length : Nat)), (43, .sl false (l.map een))]) (heap := fun _ => []) (μ := fun k => l.length - k) (s0 := 0)
  · exact Nat.zero_le _
  · refine ⟨?_, ?_, ?_, eL⟩
    · apply le_get; ((repeat (apply gS; rfl)); exact gZ)
      exact Le.refl _
    · apply le_get; ((repeat (apply gS; rfl)); exact gZ)
      exact Le.of_eq (by simp)
    · apply le_get; ((repeat (apply gS; rfl)); exact gZ)
      exact Le.of_eq (by simp [ei])
  · exact .nil _
  intro k hk
  refine zC ?_
  apply cr
  refine s_ p_lt ?_
  refine zC ?_
  refine ci ?_ ?_
  · intro hlt
    have hlt' : k < l.length := by omega
    have hacc : (intsB (headB n from_) ++ txtB n.snap ++ (l.take k).flatMap entB).length ≤ 800000000 := by
      have := ents_len (l.take k) fun e he => (hents e (List.mem_of_mem_take he)).2.2
      have h2 : (l.take k).length ≤ 10000 := by rw [List.length_take]; omega
      simp only [List.length_append]; omega
    obtain ⟨w1, w2, w3⟩ := hents _ (List.getElem_mem hlt')
    have hnx := ents_next l hlt'
    generalize hA : intsB (headB n from_) ++ txtB n.snap ++ (l.take k).flatMap entB = A at hacc ⊢
    have hi1 := int_fn false A l[k].term (by have := w1.1; omega) (by have := w1.2; omega) (by omega)
    have hl1 := intB_len l[k].term
    have hl2 := intB_len l[k].conf
    have hi2 := int_fn false (A ++ intB l[k].term) l[k].conf (by have := w2.1; omega) (by have := w2.2; omega) (by simp only [List.length_append]; omega)
    have ht := text_fn false (A ++ intB l[k].term ++ intB l[k].conf) l[k].cmd w3 (by simp only [List.length_append]; omega)
    refine zC ?_
    apply cr
    (first | refine s_ (p_ix hix) ?_ | refine s_ (p_ix hix2) ?_ | refine s_ p_ia ?_ | refine s_ p_ir ?_)
    (first | refine s_ p_la ?_ | refine s_ p_loa ?_)
    refine e_al fun b9 _ => ?_
    refine e_st ?_
    refine zC ?_
    refine zC ?_
    refine ct [0, 1, 2, 3, 4, 5, 6, 7, 8, 9] [10] ?_
    refine t_ (fun _ => p_mv) ?_
    refine t_ (fun _ => p_fr) ?_
    refine t_lo ?_
    refine t_ (fun _ => p_ca (hi1)) ?_
    refine t_ (fun _ => p_fr) ?_
    refine t_lo ?_
    refine t_ (fun _ => p_ca (hi2)) ?_
    refine t_ (fun _ => p_fr) ?_
    refine t_lo ?_
    refine t_ (fun _ => p_ca (ht)) ?_
    refine t_as1 ⟨zd, ?_⟩
    refine zC ?_
    refine zC ?_
    apply cr
    refine s_ p_ad ?_
    refine s_ p_mv ?_
    refine zC ?_
    refine ⟨k + 1, by omega, (by simp only []; omega), ⟨?_, ?_, eL⟩, .nil _⟩
    · apply le_get; ((repeat (apply gS; rfl)); exact gZ)
      exact Le.refl _
    · apply le_get; ((repeat (apply gS; rfl)); exact gZ)
      rw [hnx, ← hA]
      exact Le.of_eq (by simp [bl, entB])
  intro hge
  have hke : k = l.length := by omega
  subst hke
  rw [List.take_length]
  refine zC ?_
  apply cr
  refine s_ p_mv ?_
  refine s_ p_as ?_
  refine zC ?_
  refine zE ?_
  rw [recB, hl]
  exact Le.refl _
end Go.Proofs.YtjbokbikkcfjjaaGreat
end
