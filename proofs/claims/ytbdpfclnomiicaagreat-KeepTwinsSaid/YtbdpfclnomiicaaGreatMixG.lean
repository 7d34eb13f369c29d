/-
  As Mix, where operations that do something may lie under a guard.
-/
import Derived.Test.YtbdpfclnomiicaaGreatTrees
namespace Go.Cap
variable {K : Ctx} {ops : Array Oper} {eff : List Nat} {N : Env → Heap → Prop} {Q : Exit → Act → World → Prop}
def GuardOk (ops : Array Oper) (t : Env) (o : Oper) : Prop := match o.guard with
  | none => True
  | some (j, want) => ∃ k, (ops[j]?).bind (·.dst) = some k ∧ t.get k = .v (.bool want)
def RunG (K : Ctx) (ops : Array Oper) (eff : List Nat) (N : Env → Heap → Prop) : Plan → Env → Heap → List Pend → Prop
  | .done => fun t H _ => N t H
  | .yields i p => fun t H pend => match ops[i]? with
    | some o => AnyStep K ops eff i o (RunG K ops eff N p) t H pend
    | none => False
  | .alt i p r => fun t H pend => (match ops[i]? with
    | some o => GuardOk ops t o ∧ AnyStep K ops eff i o (RunG K ops eff N p) t H pend
    | none => False) ∧ RunG K ops eff N r t H pend
  | .stop => fun _ _ _ => True
def dstOkG (ops : Array Oper) (n : Nat) (eff : List Nat) : Bool :=
  (List.range ops.size).all fun i => match ops[i]? with
    | none => false
    | some o => (o.after.all fun e => !Region.binds .any e || Nat.blt e.on i) && match o.dst with
      | none => memN eff i
      | some k => Nat.blt k n && !memN (o.looksAt ops) k && (List.range ops.size).all fun j => Nat.beq j i || match ops[j]? with
          | none => false
          | some p => (match p.dst with | some q => !Nat.beq q k | none => true) && (!memN (p.looksAt ops) k || (bound p i || (memN eff i && bound o j)))
structure AnyOkG (ops : Array Oper) (n : Nat) (eff : List Nat) : Prop where
  back : ∀ (i : Nat) (o : Oper), ops[i]? = some o → ∀ e ∈ o.after, Region.binds .any e = true → e.on < i
  pur : ∀ (i : Nat) (o : Oper), ops[i]? = some o → o.dst = none → i ∈ eff
  dst : ∀ (i : Nat) (o : Oper) (k : Nat), ops[i]? = some o → o.dst = some k → k < n ∧ k ∉ o.looksAt ops ∧ ∀ j p, ops[j]? = some p → j ≠ i → p.dst ≠ some k ∧ (k ∈ p.looksAt ops → bound p i = true ∨ (i ∈ eff ∧ bound o j = true))
theorem AnyOkG.of {ops : Array Oper} {n : Nat} {eff : List Nat} (h : dstOkG ops n eff = true) : AnyOkG ops n eff := by
  have key : ∀ i o, ops[i]? = some o → _ := fun i o ho => by
    have hi : i < ops.size := (Array.getElem?_eq_some_iff.1 ho).1
    have := (List.all_eq_true.1 h) i (List.mem_range.2 hi)
    simp only [ho, Bool.and_eq_true] at this
    exact this
  refine ⟨fun i o ho e he hb => ?_, fun i o ho hd => ?_, fun i o k ho hk => ?_⟩
  · have h1 := Array.all_eq_true_iff_forall_mem.1 (key i o ho).1 e he
    rw [hb] at h1
    simpa using h1
  · have := (key i o ho).2
    rw [hd] at this
    exact memN_iff.1 this
  · have h1 := (key i o ho).2
    simp only [hk, Bool.and_eq_true] at h1
    obtain ⟨⟨h2, h3⟩, h4⟩ := h1
    refine ⟨by simpa using h2, fun hm => ?_, fun j p hp hne => ?_⟩
    · rw [memN_iff.2 hm] at h3; cases h3
    · have hj : j < ops.size := (Array.getElem?_eq_some_iff.1 hp).1
      have h5 := (List.all_eq_true.1 h4) j (List.mem_range.2 hj)
      have hb : Nat.beq j i = false := nbeq hne
      simp only [hb, Bool.false_or, hp, Bool.and_eq_true, Bool.or_eq_true] at h5
      refine ⟨fun e => ?_, fun hm => ?_⟩
      · rw [e] at h5
        simp [Nat.beq_refl] at h5
      · rcases h5.2 with h6 | h6 | h6
        · rw [memN_iff.2 hm] at h6; cases h6
        · exact .inl h6
        · exact .inr ⟨memN_iff.1 h6.1, h6.2⟩
theorem gop_moreG {K : Ctx} {ops : Array Oper} {eff : List Nat} (hc : AnyOkG ops K.n eff) {pre : List Nat} {t : Env} {H' : Heap} {i : Nat} {o : Oper} {d : T} (ho : ops[i]? = some o) (hi : i ∉ pre)
    (htop : ∀ j ∈ pre, ∀ q, ops[j]? = some q → ∀ e ∈ q.after, Region.binds .any e = true → e.on ∈ pre) {p : Pend} (hp : p.i ∈ pre) (hpo : ops[p.i]? = some p.o) (hx : i ∈ eff → bound o p.i = true → False) (h : GOp K.P ops t H' p.o p.d) : GOp K.P ops (t.put o.dst d) H' p.o p.d := by
  refine GOp.congr h fun x hxx => ?_
  cases hd : o.dst with
  | none => rfl
  | some k =>
    by_cases hk : k = x
    · subst hk
      have hne : p.i ≠ i := fun e => hi (e ▸ hp)
      rcases ((hc.dst i o k ho hd).2.2 p.i p.o hpo hne).2 hxx with hb | hb
      · obtain ⟨e, he, h1, h2⟩ := bound_iff.1 hb
        exact absurd (h2 ▸ htop p.i hp p.o hpo e he h1) hi
      · exact (hx hb.1 hb.2).elim
    · exact (Env.get_put_ne t d hk).symm
theorem get_moreG {K : Ctx} {ops : Array Oper} {eff : List Nat} (hc : AnyOkG ops K.n eff) {pre : List Nat} {t : Env} {i : Nat} {o : Oper} {d : T} (ho : ops[i]? = some o) (hi : i ∉ pre) {p : Pend} (hp : p.i ∈ pre) (hpo : ops[p.i]? = some p.o)
    {k : Nat} (hk : p.o.dst = some k) (h : t.get k = p.d) : (t.put o.dst d).get k = p.d := by
  cases hd : o.dst with
  | none => exact h
  | some j =>
    by_cases hj : j = k
    · subst hj
      have hne : p.i ≠ i := fun e => hi (e ▸ hp)
      exact absurd hk ((hc.dst i o j ho hd).2.2 p.i p.o hpo hne).1
    · show Env.get (t.put (some j) d) k = _
      rw [Env.get_put_ne t d hj]; exact h
theorem alt_atG {t : Env} {H : Heap} {pend : List Pend} {pre : List Nat} {i : Nat} (hi : i < ops.size) (hp : i ∉ pre) (hf : freeB ops pre i = true) : ∀ (pl : Plan) (seen : List Nat), planOk ops eff pl pre seen = true → RunG K ops eff N pl t H pend → (seen = [] → ∀ j p, pl ≠ .yields j p) →
    i ∈ seen ∨ ∃ p o, ops[i]? = some o ∧ i ∈ eff ∧ planOk ops eff p (i :: pre) [] = true ∧ GuardOk ops t o ∧ AnyStep K ops eff i o (RunG K ops eff N p) t H pend
  | .done, seen, h, _, _ => by
    simp only [planOk, Bool.and_eq_true] at h
    exact absurd (memN_iff.1 ((List.all_eq_true.1 h.2) i (List.mem_range.2 hi))) hp
  | .yields j p, seen, h, _, hn => by
    simp only [planOk, Bool.and_eq_true] at h
    exact absurd rfl (hn (by simpa using h.1.1.1.1) j p)
  | .alt j p r, seen, h, hr, _ => by
    simp only [planOk, Bool.and_eq_true] at h
    obtain ⟨⟨⟨⟨h1, h2⟩, h3⟩, h4⟩, h5⟩ := h
    obtain ⟨hr1, hr2⟩ := hr
    by_cases hij : i = j
    · subst hij
      obtain ⟨o, ho⟩ := free_lt h3
      rw [ho] at hr1
      exact .inr ⟨p, o, ho, memN_iff.1 h1, h4, hr1⟩
    · rcases alt_atG hi hp hf r (j :: seen) h5 hr2 (fun e => by cases e) with h | h
      · rcases List.mem_cons.1 h with h | h
        · exact absurd h hij
        · exact .inl h
      · exact .inr h
  | .stop, seen, h, _, _ => by
    simp only [planOk, Bool.and_eq_true] at h
    have := (List.all_eq_true.1 h.2) i (List.mem_range.2 hi)
    rw [hf] at this
    simp only [Bool.not_true, Bool.or_false, Bool.or_eq_true] at this
    rcases this with h | h
    · exact absurd (memN_iff.1 h) hp
    · exact .inl (memN_iff.1 h)
structure WayG (K : Ctx) (ops : Array Oper) (eff : List Nat) (N : Env → Heap → Prop) (pre : List Nat) (pl : Plan) (t : Env) (H : Heap) (pend : List Pend) (listed : Array Bool) : Prop where
  top : ∀ i ∈ pre, ∀ o, ops[i]? = some o → ∀ e ∈ o.after, Region.binds .any e = true → e.on ∈ pre
  todo : ∀ i, i < ops.size → i ∉ pre → listed.getD i true = false
  done : ∀ i ∈ pre, i ∈ eff → listed.getD i false = true
  has : ∀ i ∈ pre, i ∉ eff → listed.getD i true = false → ∃ p ∈ pend, p.i = i
  pis : ∀ p ∈ pend, p.i ∈ pre ∧ p.i ∉ eff ∧ ops[p.i]? = some p.o
  gop : ∀ p ∈ pend, listed.getD p.i true = false → (∀ H', p.F H' → GOp K.P ops t H' p.o p.d) ∧ ∀ k, p.o.dst = some k → t.get k = p.d
  now : ∀ p ∈ pend, listed.getD p.i true = false → p.F H
  closed : ∀ i o, ops[i]? = some o → listed.getD i true = true → ∀ e ∈ o.after, Region.binds .any e = true → listed.getD e.on true = true
  ok : planOk ops eff pl pre [] = true
  go : RunG K ops eff N pl t H pend
theorem WayG.pass (hc : AnyOkG ops K.n eff) {H : Heap} {listed : Array Bool} {tx : Env} : ∀ (pl : Plan) {pre : List Nat} {t : Env} {pend : List Pend}, WayG K ops eff N pre pl t H pend listed → (∀ x, (∀ p ∈ pend, listed.getD p.i true = false → p.o.dst ≠ some x) → tx.get x = t.get x) →
    ∃ pre' pl' t' pend', WayG K ops eff N pre' pl' t' H pend' listed ∧ (∀ x, (∀ p ∈ pend', listed.getD p.i true = false → p.o.dst ≠ some x) → tx.get x = t'.get x) ∧ ∀ j p, pl' ≠ .yields j p
  | .done, pre, t, pend, h, hx => ⟨pre, .done, t, pend, h, hx, fun _ _ e => by cases e⟩
  | .alt i p r, pre, t, pend, h, hx => ⟨pre, .alt i p r, t, pend, h, hx, fun _ _ e => by cases e⟩
  | .stop, pre, t, pend, h, hx => ⟨pre, .stop, t, pend, h, hx, fun _ _ e => by cases e⟩
  | .yields i p, pre, t, pend, h, hx => by
    have hok := h.ok
    simp only [planOk, Bool.and_eq_true] at hok
    obtain ⟨⟨⟨⟨_, k1⟩, k2⟩, k3⟩, k4⟩ := hok
    have he : i ∉ eff := memN_no (by simpa using k1)
    have hip : i ∉ pre := memN_no (by simpa using k2)
    have hem : memN eff i = false := by simpa using k1
    obtain ⟨o, ho⟩ := free_lt k3
    have hgo := h.go
    simp only [RunG, ho, AnyStep, hem, cond_false] at hgo
    obtain ⟨d, F, hg, hF, hgo⟩ := hgo
    have hlt : i < ops.size := (Array.getElem?_eq_some_iff.1 ho).1
    have hed := free_edge ho k3
    refine WayG.pass hc p (pre := i :: pre) (t := t.put o.dst d) (pend := ⟨i, o, d, F⟩ :: pend) ⟨?_, ?_, ?_, ?_, ?_, ?_, ?_, h.closed, k4, hgo⟩ ?_
    · intro j hj q hq e hee hb
      rcases List.mem_cons.1 hj with rfl | hj
      · rw [ho] at hq; cases hq
        exact List.mem_cons_of_mem _ (hed e hee hb)
      · exact List.mem_cons_of_mem _ (h.top j hj q hq e hee hb)
    · intro j hj hn
      exact h.todo j hj fun hm => hn (List.mem_cons_of_mem _ hm)
    · intro j hj hje
      rcases List.mem_cons.1 hj with rfl | hj
      · exact absurd hje he
      · exact h.done j hj hje
    · intro j hj hje hl
      rcases List.mem_cons.1 hj with rfl | hj
      · exact ⟨_, List.mem_cons_self, rfl⟩
      · obtain ⟨q, hq, hqi⟩ := h.has j hj hje hl
        exact ⟨q, List.mem_cons_of_mem _ hq, hqi⟩
    · intro q hq
      rcases List.mem_cons.1 hq with rfl | hq
      · exact ⟨List.mem_cons_self, he, ho⟩
      · obtain ⟨a, b, c⟩ := h.pis q hq
        exact ⟨List.mem_cons_of_mem _ a, b, c⟩
    · intro q hq hl
      rcases List.mem_cons.1 hq with rfl | hq
      · refine ⟨fun H' hF' => GOp.congr (hg H' hF') fun x hx' => ?_, fun k hk => ?_⟩
        · simp only at hx'
          cases hd : o.dst with
          | none => rfl
          | some k => exact (Env.get_put_ne t d (fun e => (hc.dst i o k ho hd).2.1 (by rw [e]; exact hx'))).symm
        · simp only at hk ⊢; rw [hk]; exact Env.get_put_self _ _ _
      · obtain ⟨a, b, c⟩ := h.pis q hq
        exact ⟨fun H' hF' => gop_moreG hc ho hip h.top a c (fun h5 _ => he h5) ((h.gop q hq hl).1 H' hF'), fun k hk => get_moreG hc ho hip a c hk ((h.gop q hq hl).2 k hk)⟩
    · intro q hq hl
      rcases List.mem_cons.1 hq with rfl | hq
      · exact hF
      · exact h.now q hq hl
    · intro x hxx
      have hne : o.dst ≠ some x := hxx ⟨i, o, d, F⟩ List.mem_cons_self (h.todo i hlt hip)
      rw [hx x fun p hp => hxx p (List.mem_cons_of_mem _ hp)]
      cases hd : o.dst with
      | none => rfl
      | some k => exact (Env.get_put_ne t d (fun e => hne (by rw [hd, e]))).symm
theorem any_goG (hc : AnyOkG ops K.n eff) (hq : ∀ t' H' a' w', N t' H' → R K t' H' a' w' → Q .normal a' w') :
    ∀ (fuel : Nat) (pre : List Nat) (pl : Plan) (t : Env) (H : Heap) (pend : List Pend) (listed : Array Bool) (tx : Env) (a : Act) (w : World), listed.size = ops.size → unl listed ops.size = fuel →
      WayG K ops eff N pre pl t H pend listed → (∀ x, (∀ p ∈ pend, listed.getD p.i true = false → p.o.dst ≠ some x) → tx.get x = t.get x) → R K tx H a w → wpAnyIn (RF K.rd) 0 K.P .any ops Q fuel listed a w := by
  intro fuel
  induction fuel with
  | zero =>
    intro pre pl t H pend listed tx a w hs hf hw hx hr
    have hall : ∀ j, j < ops.size → listed.getD j true = true := fun j hj => by
      have h0 := List.length_eq_zero_iff.1 hf
      have h1 := (List.filter_eq_nil_iff.1 h0) j (List.mem_range.2 hj)
      simpa using h1
    have hlt : ∀ j o, ops[j]? = some o → j < ops.size := fun j o h => (Array.getElem?_eq_some_iff.1 h).1
    refine ⟨?_, ?_⟩
    · refine List.eq_nil_iff_forall_not_mem.2 fun j hj => ?_
      obtain ⟨h0, o, ho, _⟩ := mem_ready.1 hj
      rw [hall j (hlt j o ho)] at h0; cases h0
    · obtain ⟨pre, pl, t, pend, hw, hx, hnp⟩ := WayG.pass hc pl hw hx
      have hin : ∀ j, j < ops.size → j ∈ pre := fun j hj => Classical.byContradiction fun hn => by
        have := hw.todo j hj hn
        rw [hall j hj] at this; cases this
      cases pl with
      | done =>
        refine hq t H a w hw.go (hr.env fun x => hx x fun p hp hl => ?_)
        rw [hall _ (hlt _ _ (hw.pis p hp).2.2)] at hl; cases hl
      | yields i p => exact absurd rfl (hnp i p)
      | alt i p r =>
        have h := hw.ok
        simp only [planOk, Bool.and_eq_true] at h
        obtain ⟨o, ho⟩ := free_lt h.1.1.2
        exact absurd (hin i (hlt _ _ ho)) (memN_no (by simpa using h.1.1.1.2))
      | stop =>
        have h := hw.ok
        simp [planOk] at h
  | succ fuel ih =>
    intro pre pl t H pend listed tx a w hs hf hw hx hr
    have hlt : ∀ j o, ops[j]? = some o → j < ops.size := fun j o h => (Array.getElem?_eq_some_iff.1 h).1
    obtain ⟨pre, pl, t, pend, hw, hx, hnp⟩ := WayG.pass hc pl hw hx
    -- one is ready
    have hex : ∃ i, i < ops.size ∧ listed.getD i true = false := by
      refine Classical.byContradiction fun hne => ?_
      have : unl listed ops.size = 0 := by
        unfold unl
        rw [List.length_eq_zero_iff, List.filter_eq_nil_iff]
        intro j hj
        have hj' := List.mem_range.1 hj
        cases hv : listed.getD j true with
        | false => exact absurd ⟨j, hj', hv⟩ hne
        | true => simp
      omega
    have hmin : ∃ i, i < ops.size ∧ listed.getD i true = false ∧ ∀ j, j < i → listed.getD j true = true := by
      obtain ⟨i, hi1, hi2⟩ := hex
      induction i using Nat.strongRecOn with
      | _ i ihm =>
        by_cases h : ∀ j, j < i → listed.getD j true = true
        · exact ⟨i, hi1, hi2, h⟩
        · obtain ⟨j, hj⟩ := Classical.not_forall.1 h
          obtain ⟨hj1, hj2⟩ := Classical.not_imp.1 hj
          exact ihm j hj1 (by omega) (by simpa using hj2)
    obtain ⟨i0, hi0, hu0, hl0⟩ := hmin
    have hr0 : i0 ∈ Region.ready .any ops listed := mem_ready.2 ⟨hu0, ops[i0], by simp [hi0], fun e he hb => by
      have := hc.back i0 _ (by simp [hi0]) e he hb
      rw [lst (by omega)]; exact hl0 _ this⟩
    refine ⟨fun hn => (by rw [hn] at hr0; cases hr0), fun i hir => ?_⟩
    obtain ⟨hu, o, ho, hall⟩ := mem_ready.1 hir
    have hisz : i < ops.size := hlt i o ho
    have hbnd : ∀ j, j < ops.size → bound o j = true → listed.getD j true = true := fun j hj hb => by
      obtain ⟨e, he, h1, h2⟩ := bound_iff.1 hb
      have := hall e he h1
      rw [h2, lst (by omega)] at this; exact this
    have hlook : ∀ x ∈ o.looksAt ops, tx.get x = t.get x := fun x hxo => hx x fun p hp hl he => by
      have hpi := (hw.pis p hp).2.2
      by_cases hne : i = p.i
      · rw [← hne, ho] at hpi
        have e := Option.some.inj hpi
        exact (hc.dst i o x ho (e ▸ he)).2.1 hxo
      · have := hbnd _ (hlt _ _ hpi) ((((hc.dst p.i p.o x hpi he).2.2 i o ho hne).2 hxo).resolve_right fun h => (hw.pis p hp).2.1 h.1)
        rw [this] at hl; cases hl
    have hopr : ∀ x ∈ o.op.operands, tx.ev x = t.ev x := by
      intro x hx'
      cases x with
      | tmp k' => exact hlook k' (List.mem_append_left _ (List.mem_filterMap.2 ⟨.tmp k', by simpa using hx', rfl⟩))
      | _ => rfl
    have hun := unl_set hs hisz hu
    have hfu : unl (listed.setIfInBounds i true) ops.size = fuel := by omega
    have hset : ∀ j, ¬ i = j → ∀ d, (listed.setIfInBounds i true).getD j d = listed.getD j d := fun j hj d => getD_set_ne d hj
    have hcl' : ∀ i' o', ops[i']? = some o' → (listed.setIfInBounds i true).getD i' true = true → ∀ e ∈ o'.after, Region.binds .any e = true → (listed.setIfInBounds i true).getD e.on true = true := fun i' o' ho' hl e he hb => by
      by_cases hie : i = e.on
      · rw [← hie]; exact lst_set (by omega) _
      · rw [hset _ hie]
        by_cases hii : i = i'
        · subst hii; rw [ho] at ho'; cases ho'
          exact lstt (hall e he hb)
        · rw [hset _ hii] at hl; exact hw.closed i' o' ho' hl e he hb
    have hbr : ∀ j, reachL ops 12 o j = true → listed.getD j true = true := reach_listed hw.closed 12 o fun e he hb => lstt (hall e he hb)
    by_cases hpre : i ∈ pre
    · -- one that floats
      have hne : i ∉ eff := fun he => by
        have := hw.done i hpre he
        rw [lst (by omega)] at this
        rw [this] at hu; cases hu
      obtain ⟨p, hp, hpi⟩ := hw.has i hpre hne hu
      have hpo : p.o = o := by
        have := (hw.pis p hp).2.2
        rw [hpi, ho] at this
        exact (Option.some.inj this).symm
      obtain ⟨k, hk⟩ : ∃ k, o.dst = some k := by
        cases hd : o.dst with
        | none => exact absurd (hc.pur i o ho hd) hne
        | some k => exact ⟨k, rfl⟩
      have hF := hw.now p hp (by rw [hpi]; exact hu)
      have hg := (hw.gop p hp (by rw [hpi]; exact hu)).1 H hF
      have hgk := (hw.gop p hp (by rw [hpi]; exact hu)).2 k (by rw [hpo]; exact hk)
      rw [hpo] at hg
      obtain ⟨hkn, hself, hoth⟩ := hc.dst i o k ho hk
      have next : ∀ (S S' : Nat → Prop) (w' : World) (v : Value), R1 K tx H a w S → Step [] S w S' w' → Rel S' w' p.d v → wpAnyIn (RF K.rd) 0 K.P .any ops Q fuel (listed.setIfInBounds i true) (a.put o.dst v) w' := by
        intro S S' w' v hr1 hst hrv
        refine ih pre pl t H pend _ (tx.put o.dst p.d) _ w' (by simpa using hs) hfu ⟨hw.top, fun q hq hqn => ?_, fun j hj he => ?_, fun j hj he hlj => hw.has j hj he (by
          by_cases hij : i = j
          · subst hij; exact hu
          · rw [hset _ hij] at hlj; exact hlj), hw.pis, (fun q hq hl => hw.gop q hq (by
          by_cases hqi : i = q.i
          · rw [← hqi]; exact hu
          · rw [hset _ hqi] at hl; exact hl)), fun q hq hl => ?_, hcl', hw.ok, hw.go⟩ ?_ ⟨S', hr1.pure hst (by rw [hk]; simpa [okDst] using hkn) hrv⟩
        · have h1 := hw.todo q hq hqn
          by_cases hqi : i = q
          · exact absurd (hqi ▸ hpre) hqn
          · rw [hset _ hqi]; exact h1
        · by_cases hij : i = j
          · subst hij; exact lst_set (by omega) _
          · rw [hset _ hij]; exact hw.done j hj he
        · by_cases hqi : i = q.i
          · rw [← hqi, lst_set (by omega)] at hl; cases hl
          · rw [hset _ hqi] at hl; exact hw.now q hq hl
        · intro x hxx
          rw [hk]
          by_cases hkx : k = x
          · subst hkx; rw [Env.get_put_self, hgk]
          · rw [Env.get_put_ne _ _ hkx]
            refine hx x fun q hq hl he => ?_
            by_cases hqi : i = q.i
            · have := (hw.pis q hq).2.2
              rw [← hqi, ho] at this
              cases this
              rw [hk] at he; cases he
              exact hkx rfl
            · exact hxx q hq (by rw [hset _ hqi]; exact hl) he
      obtain ⟨S, hr1⟩ := hr
      have hop : ∀ x ∈ o.op.operands, Rel S w (t.ev x) (a.eval x) := fun x hx' => hopr x hx' ▸ hr1.env.ev x
      unfold wpOpIn
      simp only [ho]
      unfold GOp at hg
      cases hgu : o.guard with
      | none =>
        rw [hgu] at hg
        simp only [wanted_none hgu a, if_true]
        exact pop_wpIn (hg S w a hr1.wf hr1.own hop) fun S' w' v hst hrv => next S S' w' v hr1 hst hrv
      | some jw =>
        obtain ⟨j, want⟩ := jw
        rw [hgu] at hg
        obtain ⟨k', b, hj, hb, hyes, hno⟩ := hg
        have hv : a.tmps.getD k' undef = b := by
          have := hr1.env k'
          rw [hlook k' (by unfold Oper.looksAt; rw [hgu]; simp [hj]), hb] at this
          exact this.v_eq
        by_cases hwb : b = .bool want
        · simp only [(wanted_some hgu hj hv).1 hwb, if_true]
          exact pop_wpIn (hyes hwb S w a hr1.wf hr1.own hop) fun S' w' v hst hrv => next S S' w' v hr1 hst hrv
        · simp only [(wanted_some hgu hj hv).2 hwb, Bool.false_eq_true, if_false]
          exact ⟨fun _ _ => trivial, next S S w undef hr1 (Step.refl _ hr1.wf) (by rw [hno hwb]; exact .v _)⟩
    · -- the next one that does something
      have hedge : ∀ e ∈ o.after, Region.binds .any e = true → e.on ∈ pre := fun e he hb => by
        have h1 := hall e he hb
        have h2 := hc.back i o ho e he hb
        refine Classical.byContradiction fun hn => ?_
        have h3 := hw.todo e.on (by omega) hn
        rw [← lst (by omega), h1] at h3; cases h3
      obtain ⟨p', o', ho', hpe, hpok, hgok, hgo⟩ := (alt_atG hisz hpre (edge_free ho hedge) pl [] hw.ok hw.go fun _ => hnp).resolve_left (by simp)
      rw [ho] at ho'; cases ho'
      simp only [AnyStep, memN_iff.2 hpe, cond_true] at hgo
      have hwant : Region.wanted o (yielded ops a.tmps) = true := by
        cases hgu : o.guard with
        | none => exact wanted_none hgu a
        | some jw =>
          obtain ⟨j, want⟩ := jw
          simp only [GuardOk, hgu] at hgok
          obtain ⟨k', hj, hb⟩ := hgok
          obtain ⟨S, hr1⟩ := hr
          have hv : a.tmps.getD k' undef = .bool want := by
            have := hr1.env k'
            rw [hlook k' (by unfold Oper.looksAt; rw [hgu]; simp [hj]), hb] at this
            exact this.v_eq
          exact (wanted_some hgu hj hv).1 rfl
      unfold wpOpIn
      simp only [ho, hwant, if_true]
      refine hgo tx hopr a w hr _ Q ?_
      rintro t' H' a' w' ⟨d, pend', rfl, hpk, hdrop, hgo'⟩ hr'
      refine ih (i :: pre) p' (t.put o.dst d) H' pend' _ (tx.put o.dst d) a' w' (by simpa using hs) hfu ⟨?_, ?_, ?_, ?_, ?_, ?_, ?_, hcl', hpok, hgo'⟩ ?_ hr'
      · intro j hj q hq e hee hb
        rcases List.mem_cons.1 hj with rfl | hj
        · rw [ho] at hq; cases hq
          exact List.mem_cons_of_mem _ (hedge e hee hb)
        · exact List.mem_cons_of_mem _ (hw.top j hj q hq e hee hb)
      · intro j hj hn
        have hij : ¬ i = j := fun e => hn (e ▸ List.mem_cons_self)
        rw [hset _ hij]
        exact hw.todo j hj fun hm => hn (List.mem_cons_of_mem _ hm)
      · intro j hj he
        by_cases hij : i = j
        · subst hij; exact lst_set (by omega) _
        · rw [hset _ hij]
          rcases List.mem_cons.1 hj with h | h
          · exact absurd h.symm hij
          · exact hw.done j h he
      · intro j hj he hlj
        rcases List.mem_cons.1 hj with rfl | hj
        · exact absurd hpe he
        · have hij : ¬ i = j := fun e => by subst e; rw [lst_set (by omega)] at hlj; cases hlj
          rw [hset _ hij] at hlj
          obtain ⟨q, hq, hqj⟩ := hw.has j hj he hlj
          rcases hdrop.has q hq with h | h
          · exact ⟨q, h, hqj⟩
          · rw [← hqj, hbr q.i h] at hlj; cases hlj
      · intro q hq
        obtain ⟨a1, a2, a3⟩ := hw.pis q (hdrop.sub q hq)
        exact ⟨List.mem_cons_of_mem _ a1, a2, a3⟩
      · intro q hq hl
        replace hq := hdrop.sub q hq
        obtain ⟨a1, a2, a3⟩ := hw.pis q hq
        have hl' : listed.getD q.i true = false := by
          by_cases hqi : i = q.i
          · rw [← hqi, lst_set (by omega)] at hl; cases hl
          · rw [hset _ hqi] at hl; exact hl
        have hnb : i ∈ eff → bound o q.i = true → False := fun _ hb => by
          have := hbnd q.i (hlt _ _ a3) hb
          rw [this] at hl'; cases hl'
        exact ⟨fun H' hF' => gop_moreG hc ho hpre hw.top a1 a3 hnb ((hw.gop q hq hl').1 H' hF'), fun k hk => get_moreG hc ho hpre a1 a3 hk ((hw.gop q hq hl').2 k hk)⟩
      · intro q hq hl
        replace hq := hdrop.sub q hq
        by_cases hqi : i = q.i
        · rw [← hqi, lst_set (by omega)] at hl; cases hl
        · rw [hset _ hqi] at hl
          refine hpk.get q hq ?_
          cases hb : reachL ops 12 o q.i with
          | false => rfl
          | true =>
            rw [hbr q.i hb] at hl; cases hl
      · intro x hxx
        replace hxx : ∀ q ∈ pend, (listed.setIfInBounds i true).getD q.i true = false → q.o.dst ≠ some x := fun q hq hl => by
          rcases hdrop.has q hq with h | h
          · exact hxx q h hl
          · have h2 := hbr q.i h
            by_cases hqi : i = q.i
            · rw [← hqi, lst_set (by omega)] at hl; cases hl
            · rw [hset _ hqi, h2] at hl; cases hl
        cases hd : o.dst with
        | none =>
          show tx.get x = t.get x
          refine hx x fun q hq hl he => ?_
          by_cases hqi : i = q.i
          · exact absurd (hqi ▸ (hw.pis q hq).2.1) (fun h => h hpe)
          · exact hxx q hq (by rw [hset _ hqi]; exact hl) he
        | some k =>
          by_cases hkx : k = x
          · subst hkx; rw [Env.get_put_self, Env.get_put_self]
          · rw [Env.get_put_ne _ _ hkx, Env.get_put_ne _ _ hkx]
            refine hx x fun q hq hl he => ?_
            by_cases hqi : i = q.i
            · exact absurd (hqi ▸ (hw.pis q hq).2.1) (fun h => h hpe)
            · exact hxx q hq (by rw [hset _ hqi]; exact hl) he
theorem sim_planG {t : Env} {H : Heap} {id : Nat} {Ψ : Exit → Env → Heap → Prop} (eff : List Nat) (pl : Plan) (hmix : K.P.follows .mixedOrders = true) (hc : (dstOkG ops K.n eff && planOk ops eff pl [] []) = true)
    (h : RunG K ops eff (Ψ .normal) pl t H []) : Sim K (.region id ops true) t H Ψ := by
  intro a w ⟨S, hr⟩
  refine wpIn_region_any hmix ?_
  rw [Bool.and_eq_true] at hc
  have hA := AnyOkG.of hc.1
  have hst : Step [] S w S { w with drawn := w.drawn + 1 } := ⟨rfl, rfl, rfl, Nat.le_refl _, fun _ _ _ => rfl, fun _ h => h, fun _ h => .inl h, hr.wf⟩
  have hfalse : ∀ (d : Bool) (j : Nat), j < ops.size → (Array.replicate ops.size false).getD j d = false := fun d j hj => by simp [Array.getD_eq_getD_getElem?, hj]
  have hlt : ∀ j o, ops[j]? = some o → j < ops.size := fun j o h => (Array.getElem?_eq_some_iff.1 h).1
  refine any_goG hA (fun t' H' a' w' hn hr' => ⟨t', H', hn, hr'⟩) ops.size [] pl t H [] _ t a _ (by simp) ?_
    ⟨by simp, fun i hi _ => hfalse _ i hi, by simp, by simp, by simp, by simp, by simp, fun i o ho hl => ?_, hc.2, h⟩ (fun x _ => rfl)
    ⟨S, hr.size, hr.defers.step (hst.mono hr.wf (by simp)) hst.objs0 hst.size, hr.step.trans hst (by simp), hr.own.step hst hr.wf (by simp) (by simp), hr.mine, hr.env.mono (hst.mono hr.wf (by simp))⟩
  · unfold unl
    rw [List.filter_eq_self.2]
    · simp
    · intro j hj
      have := List.mem_range.1 hj
      simp [Array.getD_eq_getD_getElem?, this]
  · rw [hfalse _ i (hlt _ _ ho)] at hl; cases hl
section
variable {t : Env} {H : Heap} {kd i : Nat} {op : Op} {ty tp : TypeId} {pos : String} {aft : Array Edge} {pend : List Pend} {d : T} {x y : Operand} {rest : Env → Heap → List Pend → Prop}
theorem cmg {id : Nat} {Ψ : Exit → Env → Heap → Prop} (eff : List Nat) (pl : Plan) (h : RunG K ops eff (Ψ .normal) pl t H []) (hmix : K.P.follows .mixedOrders = true := by kernel_rfl) (hc : (dstOkG ops K.n eff && planOk ops eff pl [] []) = true := by kernel_rfl) : Sim K (.region id ops true) t H Ψ := sim_planG eff pl hmix hc h
theorem mg_F {p : Prop} [ip : Decidable p] {want : Bool} {j kg : Nat} {F : Heap → Prop} (hp : ∀ H', F H' → p → POp K.P t H' ⟨some kd, op, tp, pos, aft, some (j, want)⟩ d) (hF : F H) (h : rest ((kd, T.gp p ip d) :: t) H (⟨i, ⟨some kd, op, tp, pos, aft, some (j, want)⟩, T.gp p ip d, F⟩ :: pend))
    (hb : ∃ b, t.get kg = .v (.bool b) ∧ (b = want ↔ p)) (hj : (ops[j]?).bind (·.dst) = some kg := by rfl) (he : memN eff i = false := by rfl) : AnyStep K ops eff i ⟨some kd, op, tp, pos, aft, some (j, want)⟩ rest t H pend := by
  obtain ⟨b, hb, hbp⟩ := hb
  unfold AnyStep
  rw [he, cond_false]
  exact ⟨T.gp p ip d, F, fun H' h' => ⟨kg, _, hj, hb, fun e => by cases e; rw [gp_pos (hbp.1 rfl)]; exact hp H' h' (hbp.1 rfl), fun e => gp_neg fun h => e (by rw [hbp.2 h])⟩, hF, h⟩
theorem mg_N {p : Prop} [ip : Decidable p] {j kg : Nat} (hp : ∀ H' : Heap, ¬ p → POp K.P t H' ⟨some kd, op, tp, pos, aft, some (j, false)⟩ d) (h : rest ((kd, T.gp (¬ p) inferInstance d) :: t) H (⟨i, ⟨some kd, op, tp, pos, aft, some (j, false)⟩, T.gp (¬ p) inferInstance d, fun _ => True⟩ :: pend))
    (hj : (ops[j]?).bind (·.dst) = some kg := by rfl) (hb : t.get kg = .v (.bool (decide p)) := by (repeat (apply gS; rfl)); exact gZ) (he : memN eff i = false := by rfl) : AnyStep K ops eff i ⟨some kd, op, tp, pos, aft, some (j, false)⟩ rest t H pend :=
  mg_F (F := fun _ => True) (fun H' _ => hp H') trivial h ⟨_, hb, by simp⟩ hj he
theorem mg_loN {p : Prop} [ip : Decidable p] {j kg : Nat} {b o m : Nat} {ty0 : TypeId} {cells : List T} (h : rest ((kd, T.gp (¬ p) inferInstance d) :: t) H (⟨i, ⟨some kd, .load ty x, tp, pos, aft, some (j, false)⟩, T.gp (¬ p) inferInstance d, fun H => (b, (⟨ty0, cells, m⟩ : Blk)) ∈ H⟩ :: pend)) (hj : (ops[j]?).bind (·.dst) = some kg := by rfl) (hb : t.get kg = .v (.bool (decide p)) := by (repeat (apply gS; rfl)); exact gZ)
    (hx : ¬ p → t.ev x = .v (.pointer (some ⟨b, o, none⟩)) := by intro hg; first | ((repeat (apply eS; rfl)); exact eZ) | exact u_ hg) (hm : (b, (⟨ty0, cells, m⟩ : Blk)) ∈ H := by (repeat (first | exact hZ | apply hS | apply hA))) (hd : cells[o]? = some d := by rfl) (hk : leafTy K.P ty = true := by rfl) (he : memN eff i = false := by rfl) : AnyStep K ops eff i ⟨some kd, .load ty x, tp, pos, aft, some (j, false)⟩ rest t H pend :=
  mg_F (F := fun H => (b, (⟨ty0, cells, m⟩ : Blk)) ∈ H) (fun _ h' hp => p_lo (hx hp) h' hd hk) hm h ⟨_, hb, by simp⟩ hj he
theorem guard_no {p : Prop} [ip : Decidable p] {dst : Option Tmp} {j kg : Nat} (hn : ¬ p) (hj : (ops[j]?).bind (·.dst) = some kg := by rfl) (hb : t.get kg = .v (.bool (decide p)) := by (repeat (apply gS; rfl)); exact gZ) : GuardOk ops t ⟨dst, op, tp, pos, aft, some (j, false)⟩ :=
  ⟨kg, hj, by rw [hb, decide_eq_false hn]⟩
theorem t_cHrG {g : Option (Nat × Bool)} {Hs Hr : Heap} {f : FuncId} {xs : Array Operand} {ats : Array TypeId} {args : List T} {Φ : T → Heap → Prop} (hf : FnH K.P f args Hs Φ) (hp : H.Perm (Hs ++ Hr))
    (hn : ∀ r H', Φ r H' → PendOk ops ⟨some kd, .call ⟨.value (.func f), xs, ats⟩, tp, pos, aft, g⟩ (H' ++ Hr) pend ∧ rest ((kd, r) :: t) (H' ++ Hr) pend) (hc : callable K.P f = true := by rfl) (ha' : EvL t xs.toList args := by (repeat (apply evl_cons; focus (first | ((repeat (apply eS; rfl)); exact eZ) | exact ev_int | exact ev_bool | exact ev_nil | exact ev_str | exact ev_ptr | exact ev_agg | exact ev_map | exact ev_nilf | exact ev_nili | exact ev_func))); exact evl_nil) (hd : Nat.blt kd K.n = true := by rfl) (he : memN eff i = true := by rfl) :
    AnyStep K ops eff i ⟨some kd, .call ⟨.value (.func f), xs, ats⟩, tp, pos, aft, g⟩ rest t H pend :=
  t_eff (fun _ h1 => eop_callH (Hr := Hr) hf hp hc (ha'.trans fun x hx => h1 x (by simp [Op.operands, Call.operands]; exact .inr (by simpa using hx))) (by simpa [okDst] using hd) fun r H' hr' => ⟨_, rfl, hn r H' hr'⟩) he
end
end Go.Cap
