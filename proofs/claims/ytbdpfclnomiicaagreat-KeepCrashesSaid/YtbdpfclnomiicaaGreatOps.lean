/-
  Operations one by one, and a region: in the order of the text, or in whatever order its edges allow.
-/
import Derived.Test.YtbdpfclnomiicaaGreatSim
namespace Go.Cap

/-- An operation that yields d, whatever else has happened to memory since; nothing owned turns. -/
def POp (P : Program) (t : Env) (H : Heap) (o : Oper) (d : T) : Prop :=
  ∀ (S : Nat → Prop) (w : World) (a : Act), Wf S w → Own S w H → (∀ x ∈ o.op.operands, Rel S w (t.ev x) (a.eval x)) →
    ∀ (Kc : Act → World → Prop) (Q : Exit → Act → World → Prop), (∀ S' w' v, Step [] S w S' w' → Rel S' w' d v → Kc (a.put o.dst v) w') → o.wp P a w Kc Q

theorem wpIn_of_wp {P : Program} {o : Oper} {a : Act} {w : World} {Kc : Act → World → Prop} {Q : Exit → Act → World → Prop} (r : Option Nat) (hd : ∀ c, o.op ≠ .defer c) (h : o.wp P a w Kc Q) : o.wpIn (RF r) 0 P a w Kc Q := by
  have e : o.semAt (RF r).round a.eval = execOp a.eval o := by
    cases r with
    | none => rfl
    | some l => exact Oper.semAt_some l _ o hd
  refine ⟨fun _ _ => trivial, ?_⟩
  rw [e]
  unfold Oper.wp at h
  generalize (execOp a.eval o).run P w = res at h
  cases res with
  | ok x w' =>
    have hdep : ∀ (p : Prop), (RF r).depth.isSome = true → p := fun p hh => Bool.noConfusion (show false = true from hh)
    cases x with
    | enter f args => exact ⟨hdep _, calls_RF r h⟩
    | row row args =>
      exact ⟨hdep _, fun c cs _ =>
        let ⟨v, w2, hr, hs⟩ := h c cs
        ⟨v, w2, hr, stepsIn_wide.2 hs⟩⟩
    | value v => exact h
    | skip => exact h
    | defer d => exact h
    | _ => exact h.elim
  | halt x w' => cases x <;> simp only [Oper.upon, Oper.uponIn] at h ⊢ <;> exact h
theorem pop_wpIn {P : Program} {o : Oper} {a : Act} {w : World} {S : Nat → Prop} {d : T} {r : Option Nat} {Kc : Act → World → Prop} {Q : Exit → Act → World → Prop}
    (h : ∀ (Kc : Act → World → Prop) (Q : Exit → Act → World → Prop), (∀ S' w' v, Step [] S w S' w' → Rel S' w' d v → Kc (a.put o.dst v) w') → o.wp P a w Kc Q)
    (hk : ∀ S' w' v, Step [] S w S' w' → Rel S' w' d v → Kc (a.put o.dst v) w') : o.wpIn (RF r) 0 P a w Kc Q := by
  refine wpIn_of_wp r (fun c hc => ?_) (h Kc Q hk)
  have := h (fun a' _ => a'.defers = a.defers) (fun _ _ _ => False) (fun _ _ _ _ _ => by cases o.dst <;> rfl)
  unfold Oper.wp at this
  have e : execOp a.eval o = (do let d ← resolve a.eval c o.type; pure (.defer d)) := by
    unfold execOp
    rw [hc]
  rw [e] at this
  simp only [Sem.run_bind] at this
  generalize (resolve a.eval c o.type).run P w = res at this
  cases res with
  | ok x w' =>
    simp only [Result.andThen_ok, Sem.run_pure, Oper.upon] at this
    have h2 : (({ a with defers := x :: a.defers } : Act).put o.dst undef).defers = x :: a.defers := by cases o.dst <;> rfl
    rw [h2] at this
    have := congrArg List.length this
    simp at this
  | halt x w' => cases x <;> simp [Result.andThen, Oper.upon] at this

/-- The rest of a region, from operation i on, in the order of the text. -/
def SimFrom (K : Ctx) (ops : Array Oper) (i : Nat) (l : List Oper) (t : Env) (H : Heap) (N : Env → Heap → Prop) : Prop :=
  (∀ j, l[j]? = ops[i + j]?) → ∀ a w Q, R K t H a w → (∀ t' H' a' w', N t' H' → R K t' H' a' w' → Q .normal a' w') →
    wpOpsIn (RF K.rd) 0 K.P ops Q (List.range' i l.length) a w

/-- An operation that does something to what is owned. -/
def EOp (K : Ctx) (t : Env) (H : Heap) (o : Oper) (N : Env → Heap → Prop) : Prop :=
  ∀ a w, R K t H a w → ∀ (Kc : Act → World → Prop) (Q : Exit → Act → World → Prop), (∀ t' H' a' w', N t' H' → R K t' H' a' w' → Kc a' w') → o.wpIn (RF K.rd) 0 K.P a w Kc Q

section
variable {K : Ctx} {t : Env} {H : Heap} {N : Env → Heap → Prop} {ops : Array Oper} {i : Nat} {o : Oper} {l : List Oper}

theorem from_nil (h : N t H) : SimFrom K ops i [] t H N := fun _ a w Q hr hq => by simpa [wpOpsIn] using hq t H a w h hr

theorem wpOps_at {Q : Exit → Act → World → Prop} {a : Act} {w : World} :
    wpOpsIn (RF K.rd) 0 K.P ops Q (List.range' i (o :: l).length) a w = wpOpIn (RF K.rd) 0 K.P ops Q i (wpOpsIn (RF K.rd) 0 K.P ops Q (List.range' (i + 1) l.length)) a w := by
  rw [List.length_cons, List.range'_succ, wpOpsIn_cons]
theorem at_ops (hl : ∀ j, (o :: l)[j]? = ops[i + j]?) : ops[i]? = some o := by have := hl 0; simpa using this.symm
theorem at_rest (hl : ∀ j, (o :: l)[j]? = ops[i + j]?) : ∀ j, l[j]? = ops[i + 1 + j]? := fun j => by
  have := hl (j + 1)
  rw [List.getElem?_cons_succ] at this
  rw [this]; congr 1; omega

theorem wanted_none (hg : o.guard = none) (a : Act) : Region.wanted o (yielded ops a.tmps) = true := by simp [Region.wanted, hg]

theorem from_op (hg : o.guard = none) (h : EOp K t H o (fun t' H' => SimFrom K ops (i + 1) l t' H' N)) : SimFrom K ops i (o :: l) t H N := by
  intro hl a w Q hr hq
  rw [wpOps_at]
  unfold wpOpIn
  simp only [at_ops hl, wanted_none hg a, if_true]
  exact h a w hr _ Q fun t' H' a' w' hn hr' => hn (at_rest hl) a' w' Q hr' hq

theorem EOp.of_w (hd : ∀ c, o.op ≠ .defer c) (h : ∀ a w, R K t H a w → ∀ (Kc : Act → World → Prop) (Q : Exit → Act → World → Prop), (∀ t' H' a' w', N t' H' → R K t' H' a' w' → Kc a' w') → o.wp K.P a w Kc Q) : EOp K t H o N :=
  fun a w hr Kc Q hk => wpIn_of_wp _ hd (h a w hr Kc Q hk)
theorem EOp.of_pop {d : T} (hp : POp K.P t H o d) (hd : okDst o.dst K.n = true) (h : N (t.put o.dst d) H) : EOp K t H o N := by
  intro a w ⟨S, hr⟩ Kc Q hk
  exact pop_wpIn (hp S w a hr.wf hr.own (fun x _ => hr.env.ev x)) fun S' w' v hs hv => hk _ _ _ _ h ⟨S', hr.pure hs hd hv⟩

theorem from_pop {d : T} (hp : POp K.P t H o d) (hg : o.guard = none) (hd : okDst o.dst K.n = true) (h : SimFrom K ops (i + 1) l (t.put o.dst d) H N) :
    SimFrom K ops i (o :: l) t H N := from_op hg (EOp.of_pop hp hd h)

theorem from_s {op : Op} {tp : TypeId} {pos : String} {aft : Array Edge} {k : Tmp} {d : T} (hp : POp K.P t H ⟨some k, op, tp, pos, aft, none⟩ d) (hd : Nat.blt k K.n = true)
    (h : SimFrom K ops (i + 1) l ((k, d) :: t) H N) : SimFrom K ops i (⟨some k, op, tp, pos, aft, none⟩ :: l) t H N := from_pop hp rfl hd h
theorem from_e {dst : Option Tmp} {op : Op} {tp : TypeId} {pos : String} {aft : Array Edge} (h : EOp K t H ⟨dst, op, tp, pos, aft, none⟩ (fun t' H' => SimFrom K ops (i + 1) l t' H' N)) :
    SimFrom K ops i (⟨dst, op, tp, pos, aft, none⟩ :: l) t H N := from_op rfl h

theorem wanted_some {j k : Nat} {want : Bool} {a : Act} {gv : Value} (hg : o.guard = some (j, want)) (hj : (ops[j]?).bind (·.dst) = some k) (hb : a.tmps.getD k undef = gv) :
    (gv = .bool want → Region.wanted o (yielded ops a.tmps) = true) ∧ (¬ gv = .bool want → Region.wanted o (yielded ops a.tmps) = false) := by
  rw [Array.getD_eq_getD_getElem?] at hb
  cases h : a.tmps[k]? with
  | none =>
    rw [h] at hb; simp at hb; subst hb
    exact ⟨fun e => by simp [undef] at e, fun _ => by simp [Region.wanted, hg, yielded, hj, h]⟩
  | some v =>
    rw [h] at hb; simp at hb; subst hb
    refine ⟨fun e => by simp [Region.wanted, hg, yielded, hj, h, e], fun e => ?_⟩
    simp only [Region.wanted, hg, yielded, hj, h, Option.bind_some]
    cases v with
    | bool b => simp; intro hb; exact e (by rw [hb])
    | _ => rfl

/-- A guarded operation: it is done where its guard says so; else its slot holds nothing. -/
theorem from_guard {d e : T} {j k : Nat} {want : Bool} {gv : Value} (hg : o.guard = some (j, want)) (hj : (ops[j]?).bind (·.dst) = some k) (hb : t.get k = .v gv)
    (hp : gv = .bool want → POp K.P t H o d) (he : gv = .bool want → e = d) (hn : ¬ gv = .bool want → e = .v undef) (hd : okDst o.dst K.n = true) (h : SimFrom K ops (i + 1) l (t.put o.dst e) H N) :
    SimFrom K ops i (o :: l) t H N := by
  intro hl a w Q hr hq
  rw [wpOps_at]
  unfold wpOpIn
  obtain ⟨S, hr⟩ := hr
  have hv : a.tmps.getD k undef = gv := by have := hr.env k; rw [hb] at this; exact this.v_eq
  simp only [at_ops hl]
  by_cases hw : gv = .bool want
  · simp only [(wanted_some hg hj hv).1 hw, if_true]
    rw [he hw] at h
    exact pop_wpIn (hp hw S w a hr.wf hr.own (fun x _ => hr.env.ev x)) fun S' w' v hs hv => h (at_rest hl) _ _ Q ⟨S', hr.pure hs hd hv⟩ hq
  · simp only [(wanted_some hg hj hv).2 hw, Bool.false_eq_true, if_false]
    rw [hn hw] at h
    exact ⟨fun _ _ => trivial, h (at_rest hl) _ _ Q ⟨S, hr.pure (Step.refl _ hr.wf) hd (.v undef)⟩ hq⟩

theorem sim_region {id : Nat} {Ψ : Exit → Env → Heap → Prop} (h : SimFrom K ops 0 ops.toList t H (Ψ .normal)) : Sim K (.region id ops false) t H Ψ := by
  intro a w hr
  refine wpIn_region ?_
  have := h (fun j => by simp) a w (fun e a' w' => ∃ t' H', Ψ e t' H' ∧ R K t' H' a' w') hr (fun t' H' a' w' hn hr' => ⟨t', H', hn, hr'⟩)
  rw [List.range_eq_range']
  simpa using this
end

/-- Looking up a slot. -/
theorem ev_here {t : Env} {k : Tmp} {d : T} : Env.ev ((k, d) :: t) (.tmp k) = d := by simp [Env.ev, Env.get]
theorem ev_there {t : Env} {j k : Tmp} {d e : T} (h : Nat.beq j k = false) (h' : Env.ev t (.tmp k) = d) : Env.ev ((j, e) :: t) (.tmp k) = d := by
  simpa [Env.ev, Env.get, h] using h'
theorem ev_int {t : Env} {k : IntKind} {n : Int} : Env.ev t (.const (.int k n)) = .v (.int k n) := rfl
theorem ev_bool {t : Env} {b : Bool} : Env.ev t (.const (.bool b)) = .v (.bool b) := rfl
theorem ev_str {t : Env} {s : ByteArray} : Env.ev t (.const (.string s)) = .v (.string s) := rfl
theorem ev_nil {t : Env} {p : Option Addr} {n c : Nat} : Env.ev t (.const (.slice p n c)) = .v (.slice p n c) := rfl
theorem ev_ptr {t : Env} {p : Option Addr} : Env.ev t (.const (.pointer p)) = .v (.pointer p) := rfl
theorem ev_agg {t : Env} {cs : Array Value} : Env.ev t (.const (.agg cs)) = .agg (cs.toList.map T.v) := rfl
theorem ev_map {t : Env} {r : Option Nat} : Env.ev t (.const (.map r)) = .v (.map r) := rfl
theorem ev_nilf {t : Env} : Env.ev t (.const .nilFunc) = .v .nilFunc := rfl
theorem ev_nili {t : Env} : Env.ev t (.const .nilIface) = .v .nilIface := rfl
theorem ev_func {t : Env} {f : FuncId} : Env.ev t (.func f) = .v (.func (.func f) #[] #[]) := rfl
/-- Several operands, one by one. -/
def EvL (t : Env) : List Operand → List T → Prop
  | [], [] => True
  | x :: xs, d :: ds => t.ev x = d ∧ EvL t xs ds
  | _, _ => False
theorem evl_nil {t : Env} : EvL t [] [] := trivial
theorem evl_cons {t : Env} {x : Operand} {xs : List Operand} {d : T} {ds : List T} (h : t.ev x = d) (hs : EvL t xs ds) : EvL t (x :: xs) (d :: ds) := ⟨h, hs⟩
theorem EvL.eq {t : Env} : ∀ {xs : List Operand} {ds : List T}, EvL t xs ds → xs.map t.ev = ds
  | [], [], _ => rfl
  | x :: xs, d :: ds, h => by rw [List.map_cons, h.1, EvL.eq h.2]
  | [], _ :: _, h => h.elim
  | _ :: _, [], h => h.elim
def EvP (t : Env) : List (Nat × Operand) → List (Nat × T) → Prop
  | [], [] => True
  | p :: ps, q :: qs => p.1 = q.1 ∧ t.ev p.2 = q.2 ∧ EvP t ps qs
  | _, _ => False
theorem evp_nil {t : Env} : EvP t [] [] := trivial
theorem evp_cons {t : Env} {i : Nat} {x : Operand} {ps : List (Nat × Operand)} {d : T} {qs : List (Nat × T)} (h : t.ev x = d) (hs : EvP t ps qs) : EvP t ((i, x) :: ps) ((i, d) :: qs) := ⟨rfl, h, hs⟩
theorem EvP.eq {t : Env} : ∀ {ps : List (Nat × Operand)} {qs : List (Nat × T)}, EvP t ps qs → (ps.map fun p => (p.1, t.ev p.2)) = qs
  | [], [], _ => rfl
  | p :: ps, q :: qs, h => by rw [List.map_cons, h.2.1, EvP.eq h.2.2, h.1]
  | [], _ :: _, h => h.elim
  | _ :: _, [], h => h.elim
theorem EvP.eq2 {t : Env} {ps : List (Nat × Operand)} {qs : List (Nat × T)} (h : EvP t ps qs) : (ps.map fun p => t.ev p.2) = qs.map (·.2) := by
  rw [← h.eq, List.map_map]; rfl
def EvQ (t : Env) : List (Nat × Operand) → List T → Prop
  | [], [] => True
  | p :: ps, d :: ds => t.ev p.2 = d ∧ EvQ t ps ds
  | _, _ => False
theorem evq_nil {t : Env} : EvQ t [] [] := trivial
theorem evq_cons {t : Env} {i : Nat} {x : Operand} {ps : List (Nat × Operand)} {d : T} {ds : List T} (h : t.ev x = d) (hs : EvQ t ps ds) : EvQ t ((i, x) :: ps) (d :: ds) := ⟨h, hs⟩
theorem EvQ.eq {t : Env} : ∀ {ps : List (Nat × Operand)} {ds : List T}, EvQ t ps ds → (ps.map fun p => t.ev p.2) = ds
  | [], [], _ => rfl
  | p :: ps, d :: ds, h => by rw [List.map_cons, h.1, EvQ.eq h.2]
  | [], _ :: _, h => h.elim
  | _ :: _, [], h => h.elim
theorem get_here {t : Env} {k : Tmp} {d : T} : Env.get ((k, d) :: t) k = d := by simp [Env.get]
theorem get_there {t : Env} {j k : Tmp} {d e : T} (h : Nat.beq j k = false) (h' : Env.get t k = d) : Env.get ((j, e) :: t) k = d := by simpa [Env.get, h] using h'

/-- What an operation of a region in whatever order yields: its guard looked at. -/
def GOp (P : Program) (ops : Array Oper) (t : Env) (H : Heap) (o : Oper) (d : T) : Prop :=
  match o.guard with
  | none => POp P t H o d
  | some (j, want) => ∃ k gv, (ops[j]?).bind (·.dst) = some k ∧ t.get k = .v gv ∧ (gv = .bool want → POp P t H o d) ∧ (¬ gv = .bool want → d = .v undef)

def opTmps (ops : Array Oper) (o : Oper) : List Tmp := o.looksAt ops

/-- The check on a region of m operations that only yield, and then some that come last, in order: each slot is written once; what an operation looks at is written ahead of it, or not at all; the last ones come behind all. -/
def drawOk (ops : Array Oper) (m n : Nat) : Bool :=
  (List.range ops.size).all fun i => match ops[i]? with
    | none => false
    | some o =>
      (o.after.all fun e => !Region.binds .any e || Nat.blt e.on i) &&
      (if i < m then
        (match o.dst with
        | none => false
        | some k => Nat.blt k n && !(o.looksAt ops).contains k && (List.range m).all fun j => Nat.beq j i || match ops[j]? with
          | none => false
          | some p => p.dst != some k && (!(p.looksAt ops).contains k || p.after.any fun e => Region.binds .any e && Nat.beq e.on i))
       else (List.range i).all fun j => o.after.any fun e => Region.binds .any e && Nat.beq e.on j)

/-- The slots behind the first m operations. -/
def putAll (t : Env) : List Oper → List T → Env
  | o :: os, d :: ds => putAll (t.put o.dst d) os ds
  | _, _ => t

theorem putAll_none {k : Nat} : ∀ (os : List Oper) (ds : List T) (t : Env), (∀ o ∈ os, o.dst ≠ some k) → (putAll t os ds).get k = t.get k
  | [], ds, t, _ => by cases ds <;> rfl
  | o :: os, [], t, _ => rfl
  | o :: os, d :: ds, t, h => by
    show (putAll (t.put o.dst d) os ds).get k = _
    rw [putAll_none os ds _ (fun p hp => h p (List.mem_cons_of_mem _ hp))]
    have hne := h o (List.mem_cons_self)
    cases ho : o.dst with
    | none => rfl
    | some j => exact Env.get_put_ne t d (fun e => hne (by rw [ho, e]))
theorem putAll_some {k : Nat} : ∀ (os : List Oper) (ds : List T) (t : Env) (j : Nat) (o : Oper) (d : T), os[j]? = some o → ds[j]? = some d → o.dst = some k →
    (∀ j' o', os[j']? = some o' → j' ≠ j → o'.dst ≠ some k) → (putAll t os ds).get k = d
  | [], _, _, j, o, d, h, _, _, _ => by simp at h
  | o' :: os, [], _, j, o, d, _, h, _, _ => by simp at h
  | o' :: os, d' :: ds, t, 0, o, d, h1, h2, hk, hu => by
    simp at h1 h2; subst h1; subst h2
    show (putAll (t.put o'.dst d') os ds).get k = _
    rw [putAll_none os ds _ (fun p hp => by
      obtain ⟨j, hj⟩ := List.mem_iff_getElem?.1 hp
      exact hu (j + 1) p (by simpa using hj) (by omega)), hk]
    exact Env.get_put_self _ _ _
  | o' :: os, d' :: ds, t, j + 1, o, d, h1, h2, hk, hu => by
    show (putAll (t.put o'.dst d') os ds).get k = _
    exact putAll_some os ds _ j o d (by simpa using h1) (by simpa using h2) hk (fun j' o' h' hne => hu (j' + 1) o' (by simpa using h') (by omega))

def unl (listed : Array Bool) (n : Nat) : Nat := ((List.range n).filter fun j => !listed.getD j true).length
theorem filter_drop_one {p p' : Nat → Bool} {i : Nat} : ∀ (l : List Nat), l.Nodup → i ∈ l → p i = true → p' i = false → (∀ j, j ≠ i → p j = p' j) →
    (l.filter p).length = (l.filter p').length + 1
  | [], _, h, _, _, _ => by simp at h
  | a :: l, hn, hm, hp, hp', hs => by
    have hn' := List.nodup_cons.1 hn
    by_cases ha : a = i
    · subst ha
      have : l.filter p = l.filter p' := List.filter_congr fun j hj => hs j (fun e => hn'.1 (e ▸ hj))
      simp [hp, hp', this]
    · have hm' : i ∈ l := by simpa [Ne.symm ha] using hm
      have ih := filter_drop_one l hn'.2 hm' hp hp' hs
      simp only [List.filter_cons, hs a ha]
      split <;> simp [ih]
theorem unl_set {listed : Array Bool} {n i : Nat} (hs : listed.size = n) (hi : i < n) (hu : listed.getD i true = false) : unl listed n = unl (listed.setIfInBounds i true) n + 1 := by
  refine filter_drop_one _ List.nodup_range (List.mem_range.2 hi) (by rw [hu]; rfl) ?_ (fun j hj => ?_)
  · simp [hs, hi]
  · rw [getD_set_ne true (Ne.symm hj)]

section
variable {K : Ctx} {ops : Array Oper} {Q : Exit → Act → World → Prop} {m : Nat}

structure DrawOk (ops : Array Oper) (m n : Nat) : Prop where
  back : ∀ i o, ops[i]? = some o → ∀ e ∈ o.after, Region.binds .any e = true → e.on < i
  dst : ∀ i o, ops[i]? = some o → i < m → ∃ k, o.dst = some k ∧ k < n ∧ k ∉ o.looksAt ops ∧ ∀ j p, ops[j]? = some p → j < m → j ≠ i → p.dst ≠ some k ∧
    (k ∈ p.looksAt ops → ∃ e ∈ p.after, Region.binds .any e = true ∧ e.on = i)
  last : ∀ i o, ops[i]? = some o → ¬ i < m → ∀ j < i, ∃ e ∈ o.after, Region.binds .any e = true ∧ e.on = j
theorem DrawOk.of {n : Nat} (h : drawOk ops m n = true) : DrawOk ops m n := by
  have key : ∀ i o, ops[i]? = some o → _ := fun i o ho => by
    have hi : i < ops.size := (Array.getElem?_eq_some_iff.1 ho).1
    have := (List.all_eq_true.1 h) i (List.mem_range.2 hi)
    simp only [ho, Bool.and_eq_true] at this
    exact this
  refine ⟨fun i o ho e he hb => ?_, fun i o ho hi => ?_, fun i o ho hi j hj => ?_⟩
  · have h1 := Array.all_eq_true_iff_forall_mem.1 (key i o ho).1 e he
    rw [hb] at h1
    simpa using h1
  · have h1 := (key i o ho).2
    rw [if_pos hi] at h1
    cases hd : o.dst with
    | none => simp [hd] at h1
    | some k =>
      simp only [hd, Bool.and_eq_true] at h1
      obtain ⟨⟨h2, h3⟩, h4⟩ := h1
      refine ⟨k, rfl, by simpa using h2, by simpa using h3, fun j p hp hj hne => ?_⟩
      have h5 := (List.all_eq_true.1 h4) j (List.mem_range.2 hj)
      have hb : Nat.beq j i = false := nbeq hne
      simp only [hb, Bool.false_or, hp, Bool.and_eq_true, bne_iff_ne, Bool.or_eq_true] at h5
      refine ⟨h5.1, fun hk => ?_⟩
      rcases h5.2 with h6 | h6
      · simp at h6; exact absurd hk h6
      · obtain ⟨x, hx, h7⟩ := Array.any_eq_true.1 h6
        simp only [Bool.and_eq_true] at h7
        exact ⟨_, Array.getElem_mem hx, h7.1, Nat.eq_of_beq_eq_true h7.2⟩
  · have h1 := (key i o ho).2
    rw [if_neg hi] at h1
    have h5 := (List.all_eq_true.1 h1) j (List.mem_range.2 hj)
    obtain ⟨x, hx, h7⟩ := Array.any_eq_true.1 h5
    simp only [Bool.and_eq_true] at h7
    exact ⟨_, Array.getElem_mem hx, h7.1, Nat.eq_of_beq_eq_true h7.2⟩

theorem drawB {n : Nat} (hc : DrawOk ops m n) : ∀ (r i : Nat) (listed : Array Bool) (a : Act) (w : World), listed.size = ops.size → i + r = ops.size → m ≤ i →
    (∀ j, j < i → listed.getD j false = true) → (∀ j, i ≤ j → j < ops.size → listed.getD j true = false) →
    wpOpsIn (RF K.rd) 0 K.P ops Q (List.range' i r) a w → wpAnyIn (RF K.rd) 0 K.P .any ops Q r listed a w := by
  intro r
  induction r with
  | zero =>
    intro i listed a w hs hi hm hl hu h
    refine ⟨?_, by simpa [wpOpsIn] using h⟩
    refine List.eq_nil_iff_forall_not_mem.2 fun j hj => ?_
    obtain ⟨h0, o, ho, _⟩ := mem_ready.1 hj
    have hj' : j < ops.size := (Array.getElem?_eq_some_iff.1 ho).1
    have := hl j (by omega)
    simp [Array.getD_eq_getD_getElem?, hs, hj'] at this h0
    rw [h0] at this; cases this
  | succ r ih =>
    intro i listed a w hs hi hm hl hu h
    have hi' : i < ops.size := by omega
    have hmem : i ∈ Region.ready .any ops listed := mem_ready.2 ⟨hu i (Nat.le_refl _) hi', ops[i], by simp [hi'], fun e he hb => hl _ (hc.back i _ (by simp [hi']) e he hb)⟩
    refine ⟨fun hn => (by rw [hn] at hmem; cases hmem), fun j hj => ?_⟩
    obtain ⟨h0, o, ho, hall⟩ := mem_ready.1 hj
    have hj' : j < ops.size := (Array.getElem?_eq_some_iff.1 ho).1
    have hji : j = i := by
      rcases Nat.lt_trichotomy j i with h1 | h1 | h1
      · have := hl j h1
        simp [Array.getD_eq_getD_getElem?, hs, hj'] at this h0
        rw [h0] at this; cases this
      · exact h1
      · obtain ⟨e, he, hb, hon⟩ := hc.last j o ho (by omega) i h1
        have h2 := hall e he hb
        rw [hon] at h2
        have h3 := hu i (Nat.le_refl _) hi'
        simp [Array.getD_eq_getD_getElem?, hs, hi'] at h2 h3
        rw [h3] at h2; cases h2
    subst hji
    rw [List.range'_succ, wpOpsIn_cons] at h
    refine wpOpIn_mono (fun a' w' h' => ih (j + 1) (listed.setIfInBounds j true) a' w' (by simpa using hs) (by omega) (by omega) (fun k hk => ?_) (fun k hk hk' => ?_) h') h
    · by_cases hkj : j = k
      · subst hkj; simp [hs, hi']
      · rw [getD_set_ne false hkj]; exact hl k (by omega)
    · rw [getD_set_ne true (by omega)]; exact hu k (by omega) hk'

/-- Some of the first m operations are done. -/
structure InvA (K : Ctx) (ops : Array Oper) (m : Nat) (t : Env) (H : Heap) (ds : List T) (listed : Array Bool) (a : Act) (w : World) (S : Nat → Prop) : Prop where
  size : a.tmps.size = K.n
  defers : Ext K S t a w
  step : Step K.F0 K.S0 K.w0 S w
  own : Own S w H
  mine : ∀ b ∈ keys H, b ∈ K.F0 ∨ K.w0.heap.size ≤ b
  none : ∀ j, m ≤ j → j < ops.size → listed.getD j true = false
  done : ∀ j o k d, j < m → ops[j]? = some o → listed.getD j false = true → o.dst = some k → ds[j]? = some d → Rel S w d (a.tmps.getD k undef)
  old : ∀ k, (∀ j o, j < m → ops[j]? = some o → listed.getD j false = true → o.dst ≠ some k) → Rel S w (t.get k) (a.tmps.getD k undef)

theorem drawA {t : Env} {H : Heap} {ds : List T} {N : Env → Heap → Prop} (hm : m ≤ ops.size) (hc : DrawOk ops m K.n) (hds : ds.length = m)
    (hA : ∀ i o d, i < m → ops[i]? = some o → ds[i]? = some d → GOp K.P ops (putAll t (ops.toList.take m) ds) H o d)
    (hB : SimFrom K ops m (ops.toList.drop m) (putAll t (ops.toList.take m) ds) H N)
    (hq : ∀ t' H' a' w', N t' H' → R K t' H' a' w' → Q .normal a' w') :
    ∀ (fuel : Nat) (listed : Array Bool) (a : Act) (w : World) (S : Nat → Prop), listed.size = ops.size → unl listed ops.size = fuel → InvA K ops m t H ds listed a w S →
      wpAnyIn (RF K.rd) 0 K.P .any ops Q fuel listed a w := by
  have getop : ∀ j o, j < m → ((ops.toList.take m)[j]? = some o ↔ ops[j]? = some o) := fun j o hj => by
    rw [List.getElem?_take, if_pos hj]; simp
  -- what the slots hold once the first m are done
  have slotD : ∀ j o k d, j < m → ops[j]? = some o → o.dst = some k → ds[j]? = some d → (putAll t (ops.toList.take m) ds).get k = d := by
    intro j o k d hj ho hk hd
    refine putAll_some _ _ _ j o d ((getop j o hj).2 ho) hd hk fun j' o' h' hne => ?_
    have hj' : j' < m := by
      rw [List.getElem?_take] at h'
      by_cases hlt : j' < m
      · exact hlt
      · rw [if_neg hlt] at h'; cases h'
    obtain ⟨k', hk', _, _, hrest⟩ := hc.dst j o ho hj
    rw [hk] at hk'; cases hk'
    exact (hrest j' o' ((getop j' o' hj').1 h') hj' hne).1
  have slotN : ∀ k, (∀ j o, j < m → ops[j]? = some o → o.dst ≠ some k) → (putAll t (ops.toList.take m) ds).get k = t.get k := by
    intro k h
    refine putAll_none _ _ _ fun o ho => ?_
    obtain ⟨j, hj⟩ := List.mem_iff_getElem?.1 ho
    have hj' : j < m := by
      rw [List.getElem?_take] at hj
      by_cases hlt : j < m
      · exact hlt
      · rw [if_neg hlt] at hj; cases hj
    exact h j o hj' ((getop j o hj').1 hj)
  have phaseB : ∀ (listed : Array Bool) (a : Act) (w : World) (S : Nat → Prop), listed.size = ops.size → InvA K ops m t H ds listed a w S → (∀ j, j < m → listed.getD j false = true) →
      wpAnyIn (RF K.rd) 0 K.P .any ops Q (ops.size - m) listed a w := by
    intro listed a w S hs hi hall
    refine drawB hc (ops.size - m) m listed a w hs (by omega) (Nat.le_refl _) hall hi.none ?_
    have hR : R K (putAll t (ops.toList.take m) ds) H a w := by
      refine ⟨S, hi.size, hi.defers.env (fun j => (slotN _ (fun i o hi' ho he => by
        obtain ⟨k, h1, h2, _⟩ := hc.dst i o ho hi'
        rw [he] at h1
        have := Option.some.inj h1
        exact absurd (this ▸ h2) (Nat.not_lt.2 (Nat.le_add_right _ _)))).symm), hi.step, hi.own, hi.mine, fun k => ?_⟩
      by_cases hk : ∃ j o, j < m ∧ ops[j]? = some o ∧ o.dst = some k
      · obtain ⟨j, o, hj, ho, hk⟩ := hk
        obtain ⟨d, hd⟩ : ∃ d, ds[j]? = some d := ⟨ds[j]'(by omega), by simp [hds, hj]⟩
        rw [slotD j o k d hj ho hk hd]
        exact hi.done j o k d hj ho (hall j hj) hk hd
      · rw [slotN k (fun j o hj ho he => hk ⟨j, o, hj, ho, he⟩)]
        exact hi.old k (fun j o hj ho _ he => hk ⟨j, o, hj, ho, he⟩)
    have := hB (fun j => by simp) a w Q hR hq
    simpa using this
  intro fuel
  induction fuel with
  | zero =>
    intro listed a w S hs hf hi
    have hall : ∀ j, j < ops.size → listed.getD j false = true := fun j hj => by
      have h0 := List.length_eq_zero_iff.1 hf
      have h1 := (List.filter_eq_nil_iff.1 h0) j (List.mem_range.2 hj)
      simp [Array.getD_eq_getD_getElem?, hs, hj] at h1 ⊢
      exact h1
    have hme : ops.size - m = 0 := by
      rcases Nat.eq_zero_or_pos (ops.size - m) with h | h
      · exact h
      · have h1 := hi.none m (Nat.le_refl _) (by omega)
        have h2 := hall m (by omega)
        have hml : m < ops.size := by omega
        simp [Array.getD_eq_getD_getElem?, hs, hml] at h1 h2
        rw [h1] at h2; cases h2
    have := phaseB listed a w S hs hi (fun j hj => hall j (by omega))
    rw [hme] at this
    exact this
  | succ fuel ih =>
    intro listed a w S hs hf hi
    by_cases hdone : ∀ j, j < m → listed.getD j false = true
    · have hfu : fuel + 1 = ops.size - m := by
        rw [← hf]
        have : ((List.range ops.size).filter fun j => !listed.getD j true) = List.range' m (ops.size - m) := by
          have hsplit : List.range ops.size = List.range' 0 m ++ List.range' m (ops.size - m) := by
            rw [List.range_eq_range', show ops.size = m + (ops.size - m) by omega, ← List.range'_append_1]
            simp
          rw [hsplit, List.filter_append, List.filter_eq_nil_iff.2, List.filter_eq_self.2]
          · simp
          · intro j hj
            rw [List.mem_range'_1] at hj
            rw [hi.none j hj.1 (by omega)]; rfl
          · intro j hj
            rw [List.mem_range'_1] at hj
            have h1 := hdone j (by omega)
            have hj' : j < ops.size := by omega
            simp [Array.getD_eq_getD_getElem?, hs, hj'] at h1 ⊢
            exact h1
        unfold unl
        rw [this]; simp
      rw [hfu]
      exact phaseB listed a w S hs hi hdone
    · -- an operation of the first m is still to be done: the least one is ready
      have hex : ∃ i, i < m ∧ listed.getD i true = false := by
        refine Classical.byContradiction fun hne => hdone fun j hj => ?_
        have hj' : j < ops.size := by omega
        cases hv : listed.getD j true with
        | false => exact absurd ⟨j, hj, hv⟩ hne
        | true => simp [Array.getD_eq_getD_getElem?, hs, hj'] at hv ⊢; exact hv
      have hmin : ∃ i, i < m ∧ listed.getD i true = false ∧ ∀ j, j < i → listed.getD j false = true := by
        obtain ⟨i, hi1, hi2⟩ := hex
        induction i using Nat.strongRecOn with
        | _ i ihm =>
          by_cases h : ∀ j, j < i → listed.getD j false = true
          · exact ⟨i, hi1, hi2, h⟩
          · obtain ⟨j, hj⟩ := Classical.not_forall.1 h
            obtain ⟨hj1, hj2⟩ := Classical.not_imp.1 hj
            refine ihm j hj1 (by omega) ?_
            have hj' : j < ops.size := by omega
            simp [Array.getD_eq_getD_getElem?, hs, hj'] at hj2 ⊢
            exact hj2
      obtain ⟨i0, hi0, hu0, hl0⟩ := hmin
      have hr0 : i0 ∈ Region.ready .any ops listed := mem_ready.2 ⟨hu0, ops[i0]'(by omega), by simp, fun e he hb => hl0 _ (hc.back i0 _ (by simp) e he hb)⟩
      refine ⟨fun hn => (by rw [hn] at hr0; cases hr0), fun i hir => ?_⟩
      obtain ⟨hu, o, ho, hall⟩ := mem_ready.1 hir
      have hisz : i < ops.size := (Array.getElem?_eq_some_iff.1 ho).1
      have him : i < m := by
        refine Classical.byContradiction fun hge => ?_
        obtain ⟨e, he, hb, hon⟩ := hc.last i o ho hge i0 (by omega)
        have h2 := hall e he hb
        rw [hon] at h2
        have : i0 < ops.size := by omega
        simp [Array.getD_eq_getD_getElem?, hs, this] at h2 hu0
        rw [hu0] at h2; cases h2
      obtain ⟨k, hk, hkn, hself, hoth⟩ := hc.dst i o ho him
      obtain ⟨d, hd⟩ : ∃ d, ds[i]? = some d := ⟨ds[i]'(by omega), by simp [hds, him]⟩
      -- what it looks at is there
      have looks : ∀ x, x ∈ o.looksAt ops → Rel S w ((putAll t (ops.toList.take m) ds).get x) (a.tmps.getD x undef) := by
        intro x hx
        by_cases hw : ∃ j p, j < m ∧ ops[j]? = some p ∧ p.dst = some x
        · obtain ⟨j, p, hj, hp, hpx⟩ := hw
          have hji : j ≠ i := by
            intro e; subst e
            rw [ho] at hp; cases hp
            rw [hk] at hpx; cases hpx
            exact hself hx
          obtain ⟨k', hk', _, _, hrest⟩ := hc.dst j p hp hj
          rw [hpx] at hk'; cases hk'
          obtain ⟨e, he, hb, hon⟩ := (hrest i o ho him (Ne.symm hji)).2 hx
          have hlj := hall e he hb
          rw [hon] at hlj
          obtain ⟨d', hd'⟩ : ∃ d, ds[j]? = some d := ⟨ds[j]'(by omega), by simp [hds, hj]⟩
          rw [slotD j p x d' hj hp hpx hd']
          exact hi.done j p x d' hj hp hlj hpx hd'
        · rw [slotN x (fun j p hj hp he => hw ⟨j, p, hj, hp, he⟩)]
          exact hi.old x (fun j p hj hp _ he => hw ⟨j, p, hj, hp, he⟩)
      -- behind it
      have next : ∀ S' w' v, Step [] S w S' w' → Rel S' w' d v → wpAnyIn (RF K.rd) 0 K.P .any ops Q fuel (listed.setIfInBounds i true) (a.put o.dst v) w' := by
        intro S' w' v hst hrv
        have hmono := hst.mono hi.step.wf (by simp)
        have hlset : ∀ j, j ≠ i → (listed.setIfInBounds i true).getD j false = listed.getD j false := fun j hj => getD_set_ne false (Ne.symm hj)
        refine ih (listed.setIfInBounds i true) _ w' S' (by simpa using hs) (by have := unl_set hs hisz hu; omega) ⟨by simp [hi.size], ⟨Nat.le_trans hi.defers.low hst.size, by simpa using (hi.defers.step hmono hst.objs0 hst.size).marks, (hi.defers.step hmono hst.objs0 hst.size).flags⟩,
          hi.step.trans hst (by simp), hi.own.step hst hi.step.wf (by simp) (by simp), hi.mine, fun j hj hj' => ?_, fun j p x dj hj hp hl hx hdj => ?_, fun x hx => ?_⟩
        · rw [getD_set_ne true (by omega)]; exact hi.none j hj hj'
        · rw [hk, Act.getD_put a k x v (by rw [hi.size]; exact hkn)]
          by_cases hji : j = i
          · subst hji
            rw [ho] at hp; cases hp
            rw [hk] at hx; cases hx
            rw [hd] at hdj; cases hdj
            rw [if_pos rfl]; exact hrv
          · have hne : ¬ k = x := fun e => (hoth j p hp hj hji).1 (by rw [hx, e])
            rw [if_neg hne]
            rw [hlset j hji] at hl
            exact (hi.done j p x dj hj hp hl hx hdj).mono hmono
        · have hne : ¬ k = x := fun e => hx i o him ho (by simp [hs, hisz]) (by rw [hk, e])
          rw [hk, Act.getD_put a k x v (by rw [hi.size]; exact hkn), if_neg hne]
          refine (hi.old x fun j p hj hp hl => hx j p hj hp ?_).mono hmono
          by_cases hji : j = i
          · subst hji; simp [hs, hisz]
          · rw [hlset j hji]; exact hl
      have hop : ∀ x ∈ o.op.operands, Rel S w ((putAll t (ops.toList.take m) ds).ev x) (a.eval x) := by
        intro x hx
        cases x with
        | tmp k' => exact looks k' (List.mem_append_left _ (List.mem_filterMap.2 ⟨.tmp k', by simpa using hx, rfl⟩))
        | const x => exact .ofVal x
        | global g => exact .v _
        | func f => exact .v _
      have hg := hA i o d him ho hd
      unfold wpOpIn
      simp only [ho]
      unfold GOp at hg
      cases hgu : o.guard with
      | none =>
        rw [hgu] at hg
        simp only [wanted_none hgu a, if_true]
        exact pop_wpIn (hg S w a hi.step.wf hi.own hop) next
      | some jw =>
        obtain ⟨j, want⟩ := jw
        rw [hgu] at hg
        obtain ⟨k', b, hj, hb, hyes, hno⟩ := hg
        have hv : a.tmps.getD k' undef = b := by
          have := looks k' (by unfold Oper.looksAt; rw [hgu]; simp [hj])
          rw [hb] at this; exact this.v_eq
        by_cases hw : b = .bool want
        · simp only [(wanted_some hgu hj hv).1 hw, if_true]
          exact pop_wpIn (hyes hw S w a hi.step.wf hi.own hop) next
        · simp only [(wanted_some hgu hj hv).2 hw, Bool.false_eq_true, if_false]
          exact ⟨fun _ _ => trivial, next S w undef (Step.refl _ hi.step.wf) (by rw [hno hw]; exact .v _)⟩

/-- A REGION IN WHATEVER ORDER: its first m operations only yield, one datum each; the others come last, in order. -/
theorem sim_draw {t : Env} {H : Heap} {ds : List T} {id : Nat} {Ψ : Exit → Env → Heap → Prop} (m : Nat) (hmix : K.P.follows .mixedOrders = true) (hm : Nat.ble m ops.size = true)
    (hc : drawOk ops m K.n = true) (hds : Nat.beq ds.length m = true)
    (hA : ∀ i o d, i < m → ops[i]? = some o → ds[i]? = some d → GOp K.P ops (putAll t (ops.toList.take m) ds) H o d)
    (hB : SimFrom K ops m (ops.toList.drop m) (putAll t (ops.toList.take m) ds) H (Ψ .normal)) : Sim K (.region id ops true) t H Ψ := by
  intro a w ⟨S, hr⟩
  have hm' : m ≤ ops.size := Nat.le_of_ble_eq_true hm
  refine wpIn_region_any hmix ?_
  have hst : Step [] S w S { w with drawn := w.drawn + 1 } := ⟨rfl, rfl, rfl, Nat.le_refl _, fun _ _ _ => rfl, fun _ h => h, fun _ h => .inl h, hr.wf⟩
  have hmono := hst.mono hr.wf (by simp)
  have hfalse : ∀ j : Nat, (Array.replicate ops.size false).getD j false = false := fun j => by
    simp only [Array.getD_eq_getD_getElem?, Array.getElem?_replicate]
    split <;> rfl
  refine drawA hm' (DrawOk.of hc) (Nat.eq_of_beq_eq_true hds) hA hB (fun t' H' a' w' hn hr' => ⟨t', H', hn, hr'⟩) ops.size _ a _ S (by simp) ?_ ⟨hr.size, hr.defers.step hmono hst.objs0 hst.size, hr.step.trans hst (by simp),
    hr.own.step hst hr.wf (by simp) (by simp), hr.mine, fun j hj hj' => by simp [Array.getD_eq_getD_getElem?, hj'], fun j o k d hj ho hl => ?_, fun k _ => (hr.env k).mono hmono⟩
  · unfold unl
    rw [List.filter_eq_self.2]
    · simp
    · intro j hj
      have := List.mem_range.1 hj
      simp [Array.getD_eq_getD_getElem?, this]
  · rw [hfalse j] at hl; cases hl

/-- The list of what is asked of the first m operations, one by one. -/
def AllG (P : Program) (ops : Array Oper) (t : Env) (H : Heap) : List Oper → List T → Prop
  | o :: os, d :: ds => GOp P ops t H o d ∧ AllG P ops t H os ds
  | _, _ => True
theorem AllG.get {P : Program} {ops : Array Oper} {t : Env} {H : Heap} : ∀ {os : List Oper} {ds : List T}, AllG P ops t H os ds → ∀ (i : Nat) (o : Oper) (d : T), os[i]? = some o → ds[i]? = some d → GOp P ops t H o d
  | [], _, _, i, o, d, h, _ => by simp at h
  | o' :: os, [], _, i, o, d, _, h => by simp at h
  | o' :: os, d' :: ds, h, 0, o, d, h1, h2 => by simp at h1 h2; subst h1; subst h2; exact h.1
  | o' :: os, d' :: ds, h, i + 1, o, d, h1, h2 => AllG.get h.2 i o d (by simpa using h1) (by simpa using h2)
theorem sim_drawn {t : Env} {H : Heap} (ds : List T) {id : Nat} {Ψ : Exit → Env → Heap → Prop} (m : Nat) (hmix : K.P.follows .mixedOrders = true) (hm : Nat.ble m ops.size = true)
    (hc : drawOk ops m K.n = true) (hds : Nat.beq ds.length m = true)
    (hA : AllG K.P ops (putAll t (ops.toList.take m) ds) H (ops.toList.take m) ds)
    (hB : SimFrom K ops m (ops.toList.drop m) (putAll t (ops.toList.take m) ds) H (Ψ .normal)) : Sim K (.region id ops true) t H Ψ :=
  sim_draw m hmix hm hc hds (fun i o d hi ho hd => hA.get i o d (by rw [List.getElem?_take, if_pos hi]; simpa using ho) hd) hB
end

end Go.Cap
