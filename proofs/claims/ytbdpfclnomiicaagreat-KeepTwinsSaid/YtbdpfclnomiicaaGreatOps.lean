/-
  Operations one by one, and a region: in the order of the text, or in whatever order its edges allow.
-/
import Derived.Test.YtbdpfclnomiicaaGreatSim
namespace Go.Cap
def POp (P : Program) (t : Env) (H : Heap) (o : Oper) (d : T) : Prop :=
  ∀ (S : Nat → Prop) (w : World) (a : Act), Wf S w → Own S w H → (∀ x ∈ o.op.operands, Rel S w (t.ev x) (a.eval x)) →
    ∀ (Kc : Act → World → Prop) (Q : Exit → Act → World → Prop), (∀ S' w' v, Step [] S w S' w' → Rel S' w' d v → Kc (a.put o.dst v) w') → o.wp P a w Kc Q
theorem wpIn_of_wp {P : Program} {o : Oper} {a : Act} {w : World} {Kc : Act → World → Prop} {Q : Exit → Act → World → Prop} (r : Option Nat) (hd : ∀ c, o.op ≠ .defer c) (h : o.wp P a w Kc Q) : o.wpIn (RF r) 0 P a w Kc Q := by
  have e : o.semAt (RF r).round a.eval = execOp a.eval o := by
    cases r with
    | none => rfl
    | some l => exact Oper.semAt_some l _ o hd
  refine ⟨fun _ _ => trivial, ?_⟩
  rw [e]
  unfold Oper.wp at h
  generalize (execOp a.eval o).run P w = res at h
  cases res with
  | ok x w' =>
    have hdep : ∀ (p : Prop), (RF r).depth.isSome = true → p := fun p hh => Bool.noConfusion (show false = true from hh)
    cases x with
    | enter f args => exact ⟨hdep _, calls_RF r h⟩
    | row row args =>
      exact ⟨hdep _, fun c cs _ =>
        let ⟨v, w2, hr, hs⟩ := h c cs
        ⟨v, w2, hr, stepsIn_wide.2 hs⟩⟩
    | value v => exact h
    | skip => exact h
    | defer d => exact h
    | _ => exact h.elim
  | halt x w' => cases x <;> simp only [Oper.upon, Oper.uponIn] at h ⊢ <;> exact h
theorem pop_wpIn {P : Program} {o : Oper} {a : Act} {w : World} {S : Nat → Prop} {d : T} {r : Option Nat} {Kc : Act → World → Prop} {Q : Exit → Act → World → Prop}
    (h : ∀ (Kc : Act → World → Prop) (Q : Exit → Act → World → Prop), (∀ S' w' v, Step [] S w S' w' → Rel S' w' d v → Kc (a.put o.dst v) w') → o.wp P a w Kc Q)
    (hk : ∀ S' w' v, Step [] S w S' w' → Rel S' w' d v → Kc (a.put o.dst v) w') : o.wpIn (RF r) 0 P a w Kc Q := by
  refine wpIn_of_wp r (fun c hc => ?_) (h Kc Q hk)
  have := h (fun a' _ => a'.defers = a.defers) (fun _ _ _ => False) (fun _ _ _ _ _ => by cases o.dst <;> rfl)
  unfold Oper.wp at this
  have e : execOp a.eval o = (do let d ← resolve a.eval c o.type; pure (.defer d)) := by
    unfold execOp
    rw [hc]
  rw [e] at this
  simp only [Sem.run_bind] at this
  generalize (resolve a.eval c o.type).run P w = res at this
  cases res with
  | ok x w' =>
    simp only [Result.andThen_ok, Sem.run_pure, Oper.upon] at this
    have h2 : (({ a with defers := x :: a.defers } : Act).put o.dst undef).defers = x :: a.defers := by cases o.dst <;> rfl
    rw [h2] at this
    have := congrArg List.length this
    simp at this
  | halt x w' => cases x <;> simp [Result.andThen, Oper.upon] at this
def SimFrom (K : Ctx) (ops : Array Oper) (i : Nat) (l : List Oper) (t : Env) (H : Heap) (N : Env → Heap → Prop) : Prop :=
  (∀ j, l[j]? = ops[i + j]?) → ∀ a w Q, R K t H a w → (∀ t' H' a' w', N t' H' → R K t' H' a' w' → Q .normal a' w') →
    wpOpsIn (RF K.rd) 0 K.P ops Q (List.range' i l.length) a w
def EOp (K : Ctx) (t : Env) (H : Heap) (o : Oper) (N : Env → Heap → Prop) : Prop :=
  ∀ a w, R K t H a w → ∀ (Kc : Act → World → Prop) (Q : Exit → Act → World → Prop), (∀ t' H' a' w', N t' H' → R K t' H' a' w' → Kc a' w') → o.wpIn (RF K.rd) 0 K.P a w Kc Q
section
variable {K : Ctx} {t : Env} {H : Heap} {N : Env → Heap → Prop} {ops : Array Oper} {i : Nat} {o : Oper} {l : List Oper}
theorem from_nil (h : N t H) : SimFrom K ops i [] t H N := fun _ a w Q hr hq => by simpa [wpOpsIn] using hq t H a w h hr
theorem wpOps_at {Q : Exit → Act → World → Prop} {a : Act} {w : World} :
    wpOpsIn (RF K.rd) 0 K.P ops Q (List.range' i (o :: l).length) a w = wpOpIn (RF K.rd) 0 K.P ops Q i (wpOpsIn (RF K.rd) 0 K.P ops Q (List.range' (i + 1) l.length)) a w := by
  rw [List.length_cons, List.range'_succ, wpOpsIn_cons]
theorem at_ops (hl : ∀ j, (o :: l)[j]? = ops[i + j]?) : ops[i]? = some o := by have := hl 0; simpa using this.symm
theorem at_rest (hl : ∀ j, (o :: l)[j]? = ops[i + j]?) : ∀ j, l[j]? = ops[i + 1 + j]? := fun j => by
  have := hl (j + 1)
  rw [List.getElem?_cons_succ] at this
  rw [this]; congr 1; omega
theorem wanted_none (hg : o.guard = none) (a : Act) : Region.wanted o (yielded ops a.tmps) = true := by simp [Region.wanted, hg]
theorem from_op (hg : o.guard = none) (h : EOp K t H o (fun t' H' => SimFrom K ops (i + 1) l t' H' N)) : SimFrom K ops i (o :: l) t H N := by
  intro hl a w Q hr hq
  rw [wpOps_at]
  unfold wpOpIn
  simp only [at_ops hl, wanted_none hg a, if_true]
  exact h a w hr _ Q fun t' H' a' w' hn hr' => hn (at_rest hl) a' w' Q hr' hq
theorem EOp.of_w (hd : ∀ c, o.op ≠ .defer c) (h : ∀ a w, R K t H a w → ∀ (Kc : Act → World → Prop) (Q : Exit → Act → World → Prop), (∀ t' H' a' w', N t' H' → R K t' H' a' w' → Kc a' w') → o.wp K.P a w Kc Q) : EOp K t H o N :=
  fun a w hr Kc Q hk => wpIn_of_wp _ hd (h a w hr Kc Q hk)
theorem EOp.of_pop {d : T} (hp : POp K.P t H o d) (hd : okDst o.dst K.n = true) (h : N (t.put o.dst d) H) : EOp K t H o N := by
  intro a w ⟨S, hr⟩ Kc Q hk
  exact pop_wpIn (hp S w a hr.wf hr.own (fun x _ => hr.env.ev x)) fun S' w' v hs hv => hk _ _ _ _ h ⟨S', hr.pure hs hd hv⟩
theorem from_pop {d : T} (hp : POp K.P t H o d) (hg : o.guard = none) (hd : okDst o.dst K.n = true) (h : SimFrom K ops (i + 1) l (t.put o.dst d) H N) :
    SimFrom K ops i (o :: l) t H N := from_op hg (EOp.of_pop hp hd h)
theorem from_s {op : Op} {tp : TypeId} {pos : String} {aft : Array Edge} {k : Tmp} {d : T} (hp : POp K.P t H ⟨some k, op, tp, pos, aft, none⟩ d) (hd : Nat.blt k K.n = true)
    (h : SimFrom K ops (i + 1) l ((k, d) :: t) H N) : SimFrom K ops i (⟨some k, op, tp, pos, aft, none⟩ :: l) t H N := from_pop hp rfl hd h
theorem from_e {dst : Option Tmp} {op : Op} {tp : TypeId} {pos : String} {aft : Array Edge} (h : EOp K t H ⟨dst, op, tp, pos, aft, none⟩ (fun t' H' => SimFrom K ops (i + 1) l t' H' N)) :
    SimFrom K ops i (⟨dst, op, tp, pos, aft, none⟩ :: l) t H N := from_op rfl h
theorem wanted_some {j k : Nat} {want : Bool} {a : Act} {gv : Value} (hg : o.guard = some (j, want)) (hj : (ops[j]?).bind (·.dst) = some k) (hb : a.tmps.getD k undef = gv) :
    (gv = .bool want → Region.wanted o (yielded ops a.tmps) = true) ∧ (¬ gv = .bool want → Region.wanted o (yielded ops a.tmps) = false) := by
  rw [Array.getD_eq_getD_getElem?] at hb
  cases h : a.tmps[k]? with
  | none =>
    rw [h] at hb; simp at hb; subst hb
    exact ⟨fun e => by simp [undef] at e, fun _ => by simp [Region.wanted, hg, yielded, hj, h]⟩
  | some v =>
    rw [h] at hb; simp at hb; subst hb
    refine ⟨fun e => by simp [Region.wanted, hg, yielded, hj, h, e], fun e => ?_⟩
    simp only [Region.wanted, hg, yielded, hj, h, Option.bind_some]
    cases v with
    | bool b => simp; intro hb; exact e (by rw [hb])
    | _ => rfl
theorem from_guard {d e : T} {j k : Nat} {want : Bool} {gv : Value} (hg : o.guard = some (j, want)) (hj : (ops[j]?).bind (·.dst) = some k) (hb : t.get k = .v gv)
    (hp : gv = .bool want → POp K.P t H o d) (he : gv = .bool want → e = d) (hn : ¬ gv = .bool want → e = .v undef) (hd : okDst o.dst K.n = true) (h : SimFrom K ops (i + 1) l (t.put o.dst e) H N) :
    SimFrom K ops i (o :: l) t H N := by
  intro hl a w Q hr hq
  rw [wpOps_at]
  unfold wpOpIn
  obtain ⟨S, hr⟩ := hr
  have hv : a.tmps.getD k undef = gv := by have := hr.env k; rw [hb] at this; exact this.v_eq
  simp only [at_ops hl]
  by_cases hw : gv = .bool want
  · simp only [(wanted_some hg hj hv).1 hw, if_true]
    rw [he hw] at h
    exact pop_wpIn (hp hw S w a hr.wf hr.own (fun x _ => hr.env.ev x)) fun S' w' v hs hv => h (at_rest hl) _ _ Q ⟨S', hr.pure hs hd hv⟩ hq
  · simp only [(wanted_some hg hj hv).2 hw, Bool.false_eq_true, if_false]
    rw [hn hw] at h
    exact ⟨fun _ _ => trivial, h (at_rest hl) _ _ Q ⟨S, hr.pure (Step.refl _ hr.wf) hd (.v undef)⟩ hq⟩
theorem sim_region {id : Nat} {Ψ : Exit → Env → Heap → Prop} (h : SimFrom K ops 0 ops.toList t H (Ψ .normal)) : Sim K (.region id ops false) t H Ψ := by
  intro a w hr
  refine wpIn_region ?_
  have := h (fun j => by simp) a w (fun e a' w' => ∃ t' H', Ψ e t' H' ∧ R K t' H' a' w') hr (fun t' H' a' w' hn hr' => ⟨t', H', hn, hr'⟩)
  rw [List.range_eq_range']
  simpa using this
end
theorem ev_here {t : Env} {k : Tmp} {d : T} : Env.ev ((k, d) :: t) (.tmp k) = d := by simp [Env.ev, Env.get]
theorem ev_there {t : Env} {j k : Tmp} {d e : T} (h : Nat.beq j k = false) (h' : Env.ev t (.tmp k) = d) : Env.ev ((j, e) :: t) (.tmp k) = d := by
  simpa [Env.ev, Env.get, h] using h'
theorem ev_int {t : Env} {k : IntKind} {n : Int} : Env.ev t (.const (.int k n)) = .v (.int k n) := rfl
theorem ev_bool {t : Env} {b : Bool} : Env.ev t (.const (.bool b)) = .v (.bool b) := rfl
theorem ev_str {t : Env} {s : ByteArray} : Env.ev t (.const (.string s)) = .v (.string s) := rfl
theorem ev_nil {t : Env} {p : Option Addr} {n c : Nat} : Env.ev t (.const (.slice p n c)) = .v (.slice p n c) := rfl
theorem ev_ptr {t : Env} {p : Option Addr} : Env.ev t (.const (.pointer p)) = .v (.pointer p) := rfl
theorem ev_agg {t : Env} {cs : Array Value} : Env.ev t (.const (.agg cs)) = .agg (cs.toList.map T.v) := rfl
theorem ev_map {t : Env} {r : Option Nat} : Env.ev t (.const (.map r)) = .v (.map r) := rfl
theorem ev_nilf {t : Env} : Env.ev t (.const .nilFunc) = .v .nilFunc := rfl
theorem ev_nili {t : Env} : Env.ev t (.const .nilIface) = .v .nilIface := rfl
theorem ev_func {t : Env} {f : FuncId} : Env.ev t (.func f) = .v (.func (.func f) #[] #[]) := rfl
def EvL (t : Env) : List Operand → List T → Prop
  | [], [] => True
  | x :: xs, d :: ds => t.ev x = d ∧ EvL t xs ds
  | _, _ => False
theorem evl_nil {t : Env} : EvL t [] [] := trivial
theorem evl_cons {t : Env} {x : Operand} {xs : List Operand} {d : T} {ds : List T} (h : t.ev x = d) (hs : EvL t xs ds) : EvL t (x :: xs) (d :: ds) := ⟨h, hs⟩
theorem EvL.eq {t : Env} : ∀ {xs : List Operand} {ds : List T}, EvL t xs ds → xs.map t.ev = ds
  | [], [], _ => rfl
  | x :: xs, d :: ds, h => by rw [List.map_cons, h.1, EvL.eq h.2]
  | [], _ :: _, h => h.elim
  | _ :: _, [], h => h.elim
def EvP (t : Env) : List (Nat × Operand) → List (Nat × T) → Prop
  | [], [] => True
  | p :: ps, q :: qs => p.1 = q.1 ∧ t.ev p.2 = q.2 ∧ EvP t ps qs
  | _, _ => False
theorem evp_nil {t : Env} : EvP t [] [] := trivial
theorem evp_cons {t : Env} {i : Nat} {x : Operand} {ps : List (Nat × Operand)} {d : T} {qs : List (Nat × T)} (h : t.ev x = d) (hs : EvP t ps qs) : EvP t ((i, x) :: ps) ((i, d) :: qs) := ⟨rfl, h, hs⟩
theorem EvP.eq {t : Env} : ∀ {ps : List (Nat × Operand)} {qs : List (Nat × T)}, EvP t ps qs → (ps.map fun p => (p.1, t.ev p.2)) = qs
  | [], [], _ => rfl
  | p :: ps, q :: qs, h => by rw [List.map_cons, h.2.1, EvP.eq h.2.2, h.1]
  | [], _ :: _, h => h.elim
  | _ :: _, [], h => h.elim
def EvQ (t : Env) : List (Nat × Operand) → List T → Prop
  | [], [] => True
  | p :: ps, d :: ds => t.ev p.2 = d ∧ EvQ t ps ds
  | _, _ => False
theorem evq_nil {t : Env} : EvQ t [] [] := trivial
theorem evq_cons {t : Env} {i : Nat} {x : Operand} {ps : List (Nat × Operand)} {d : T} {ds : List T} (h : t.ev x = d) (hs : EvQ t ps ds) : EvQ t ((i, x) :: ps) (d :: ds) := ⟨h, hs⟩
theorem EvQ.eq {t : Env} : ∀ {ps : List (Nat × Operand)} {ds : List T}, EvQ t ps ds → (ps.map fun p => t.ev p.2) = ds
  | [], [], _ => rfl
  | p :: ps, d :: ds, h => by rw [List.map_cons, h.1, EvQ.eq h.2]
  | [], _ :: _, h => h.elim
  | _ :: _, [], h => h.elim
theorem get_here {t : Env} {k : Tmp} {d : T} : Env.get ((k, d) :: t) k = d := by simp [Env.get]
theorem get_there {t : Env} {j k : Tmp} {d e : T} (h : Nat.beq j k = false) (h' : Env.get t k = d) : Env.get ((j, e) :: t) k = d := by simpa [Env.get, h] using h'
def GOp (P : Program) (ops : Array Oper) (t : Env) (H : Heap) (o : Oper) (d : T) : Prop :=
  match o.guard with
  | none => POp P t H o d
  | some (j, want) => ∃ k gv, (ops[j]?).bind (·.dst) = some k ∧ t.get k = .v gv ∧ (gv = .bool want → POp P t H o d) ∧ (¬ gv = .bool want → d = .v undef)
def putAll (t : Env) : List Oper → List T → Env
  | o :: os, d :: ds => putAll (t.put o.dst d) os ds
  | _, _ => t
def unl (listed : Array Bool) (n : Nat) : Nat := ((List.range n).filter fun j => !listed.getD j true).length
theorem filter_drop_one {p p' : Nat → Bool} {i : Nat} : ∀ (l : List Nat), l.Nodup → i ∈ l → p i = true → p' i = false → (∀ j, j ≠ i → p j = p' j) →
    (l.filter p).length = (l.filter p').length + 1
  | [], _, h, _, _, _ => by simp at h
  | a :: l, hn, hm, hp, hp', hs => by
    have hn' := List.nodup_cons.1 hn
    by_cases ha : a = i
    · subst ha
      have : l.filter p = l.filter p' := List.filter_congr fun j hj => hs j (fun e => hn'.1 (e ▸ hj))
      simp [hp, hp', this]
    · have hm' : i ∈ l := by simpa [Ne.symm ha] using hm
      have ih := filter_drop_one l hn'.2 hm' hp hp' hs
      simp only [List.filter_cons, hs a ha]
      split <;> simp [ih]
theorem unl_set {listed : Array Bool} {n i : Nat} (hs : listed.size = n) (hi : i < n) (hu : listed.getD i true = false) : unl listed n = unl (listed.setIfInBounds i true) n + 1 := by
  refine filter_drop_one _ List.nodup_range (List.mem_range.2 hi) (by rw [hu]; rfl) ?_ (fun j hj => ?_)
  · simp [hs, hi]
  · rw [getD_set_ne true (Ne.symm hj)]
section
variable {K : Ctx} {ops : Array Oper} {Q : Exit → Act → World → Prop} {m : Nat}
end
end Go.Cap
