/-
  Operations one by one, and a region: in the order of the text, or in whatever order its edges allow.
  The rules of the walk: for each kind of operation what it yields, as data.
  The rules for data: addresses into memory that stays, what is read there, structs and slices as data.
-/
import Derived.Test.YtjbokbikkcfjjaaGreatAaa
section
namespace Go.Cap
def POp (P : Program) (t : Env) (H : Heap) (o : Oper) (d : T) : Prop :=
  ∀ (S : Nat → Prop) (w : World) (a : Act), Wf S w → Own S w H → (∀ x ∈ o.op.operands, Rel S w (t.ev x) (a.eval x)) →
    ∀ (Kc : Act → World → Prop) (Q : Exit → Act → World → Prop), (∀ S' w' v, Step [] S w S' w' → Rel S' w' d v → Kc (a.put o.dst v) w') → o.wp P a w Kc Q
theorem wpIn_of_wp {P : Program} {o : Oper} {a : Act} {w : World} {Kc : Act → World → Prop} {Q : Exit → Act → World → Prop} (r : Option Nat) (hd : ∀ c, o.op ≠ .defer c) (h : o.wp P a w Kc Q) : o.wpIn (RF r) 0 P a w Kc Q := by
  have e : o.semAt (RF r).round a.eval = execOp a.eval o := by
    cases r with
    | none => rfl
    | some l => exact Oper.semAt_some l _ o hd
  refine ⟨fun _ _ => trivial, ?_⟩
  rw [e]
  unfold Oper.wp at h
  generalize (execOp a.eval o).run P w = res at h
  cases res with
  | ok x w' =>
    have hdep : ∀ (p : Prop), (RF r).depth.isSome = true → p := fun p hh => Bool.noConfusion (show false = true from hh)
    cases x with
    | enter f args => exact ⟨hdep _, calls_RF r h⟩
    | row row args =>
      exact ⟨hdep _, fun c cs _ =>
        let ⟨v, w2, hr, hs⟩ := h c cs
        ⟨v, w2, hr, stepsIn_wide.2 hs⟩⟩
    | value v => exact h
    | skip => exact h
    | defer d => exact h
    | _ => exact h.elim
  | halt x w' => cases x <;> simp only [Oper.upon, Oper.uponIn] at h ⊢ <;> exact h
theorem pop_wpIn {P : Program} {o : Oper} {a : Act} {w : World} {S : Nat → Prop} {d : T} {r : Option Nat} {Kc : Act → World → Prop} {Q : Exit → Act → World → Prop}
    (h : ∀ (Kc : Act → World → Prop) (Q : Exit → Act → World → Prop), (∀ S' w' v, Step [] S w S' w' → Rel S' w' d v → Kc (a.put o.dst v) w') → o.wp P a w Kc Q)
    (hk : ∀ S' w' v, Step [] S w S' w' → Rel S' w' d v → Kc (a.put o.dst v) w') : o.wpIn (RF r) 0 P a w Kc Q := by
  refine wpIn_of_wp r (fun c hc => ?_) (h Kc Q hk)
  have := h (fun a' _ => a'.defers = a.defers) (fun _ _ _ => False) (fun _ _ _ _ _ => by cases o.dst <;> rfl)
  unfold Oper.wp at this
  have e : execOp a.eval o = (do let d ← resolve a.eval c o.type; pure (.defer d)) := by
    unfold execOp
    rw [hc]
  rw [e] at this
  simp only [Sem.run_bind] at this
  generalize (resolve a.eval c o.type).run P w = res at this
  cases res with
  | ok x w' =>
    simp only [Result.andThen_ok, Sem.run_pure, Oper.upon] at this
    have h2 : (({ a with defers := x :: a.defers } : Act).put o.dst undef).defers = x :: a.defers := by cases o.dst <;> rfl
    rw [h2] at this
    have := congrArg List.length this
    simp at this
  | halt x w' => cases x <;> simp [Result.andThen, Oper.upon] at this
def SimFrom (K : Ctx) (ops : Array Oper) (i : Nat) (l : List Oper) (t : Env) (H : Heap) (N : Env → Heap → Prop) : Prop :=
  (∀ j, l[j]? = ops[i + j]?) → ∀ a w Q, R K t H a w → (∀ t' H' a' w', N t' H' → R K t' H' a' w' → Q .normal a' w') →
    wpOpsIn (RF K.rd) 0 K.P ops Q (List.range' i l.length) a w
def EOp (K : Ctx) (t : Env) (H : Heap) (o : Oper) (N : Env → Heap → Prop) : Prop :=
  ∀ a w, R K t H a w → ∀ (Kc : Act → World → Prop) (Q : Exit → Act → World → Prop), (∀ t' H' a' w', N t' H' → R K t' H' a' w' → Kc a' w') → o.wpIn (RF K.rd) 0 K.P a w Kc Q
section
variable {K : Ctx} {t : Env} {H : Heap} {N : Env → Heap → Prop} {ops : Array Oper} {i : Nat} {o : Oper} {l : List Oper}
theorem from_nil (h : N t H) : SimFrom K ops i [] t H N := fun _ a w Q hr hq => by simpa [wpOpsIn] using hq t H a w h hr
theorem wpOps_at {Q : Exit → Act → World → Prop} {a : Act} {w : World} :
    wpOpsIn (RF K.rd) 0 K.P ops Q (List.range' i (o :: l).length) a w = wpOpIn (RF K.rd) 0 K.P ops Q i (wpOpsIn (RF K.rd) 0 K.P ops Q (List.range' (i + 1) l.length)) a w := by
  rw [List.length_cons, List.range'_succ, wpOpsIn_cons]
theorem at_ops (hl : ∀ j, (o :: l)[j]? = ops[i + j]?) : ops[i]? = some o := by have := hl 0; simpa using this.symm
theorem at_rest (hl : ∀ j, (o :: l)[j]? = ops[i + j]?) : ∀ j, l[j]? = ops[i + 1 + j]? := fun j => by
  have := hl (j + 1)
  rw [List.getElem?_cons_succ] at this
  rw [this]; congr 1; omega
theorem wanted_none (hg : o.guard = none) (a : Act) : Region.wanted o (yielded ops a.tmps) = true := by simp [Region.wanted, hg]
theorem from_op (hg : o.guard = none) (h : EOp K t H o (fun t' H' => SimFrom K ops (i + 1) l t' H' N)) : SimFrom K ops i (o :: l) t H N := by
  intro hl a w Q hr hq
  rw [wpOps_at]
  unfold wpOpIn
  simp only [at_ops hl, wanted_none hg a, if_true]
  exact h a w hr _ Q fun t' H' a' w' hn hr' => hn (at_rest hl) a' w' Q hr' hq
theorem EOp.of_w (hd : ∀ c, o.op ≠ .defer c) (h : ∀ a w, R K t H a w → ∀ (Kc : Act → World → Prop) (Q : Exit → Act → World → Prop), (∀ t' H' a' w', N t' H' → R K t' H' a' w' → Kc a' w') → o.wp K.P a w Kc Q) : EOp K t H o N :=
  fun a w hr Kc Q hk => wpIn_of_wp _ hd (h a w hr Kc Q hk)
theorem EOp.of_pop {d : T} (hp : POp K.P t H o d) (hd : okDst o.dst K.n = true) (h : N (t.put o.dst d) H) : EOp K t H o N := by
  intro a w ⟨S, hr⟩ Kc Q hk
  exact pop_wpIn (hp S w a hr.wf hr.own (fun x _ => hr.env.ev x)) fun S' w' v hs hv => hk _ _ _ _ h ⟨S', hr.pure hs hd hv⟩
theorem from_pop {d : T} (hp : POp K.P t H o d) (hg : o.guard = none) (hd : okDst o.dst K.n = true) (h : SimFrom K ops (i + 1) l (t.put o.dst d) H N) :
    SimFrom K ops i (o :: l) t H N := from_op hg (EOp.of_pop hp hd h)
theorem from_s {op : Op} {tp : TypeId} {pos : String} {aft : Array Edge} {k : Tmp} {d : T} (hp : POp K.P t H ⟨some k, op, tp, pos, aft, none⟩ d) (hd : Nat.blt k K.n = true)
    (h : SimFrom K ops (i + 1) l ((k, d) :: t) H N) : SimFrom K ops i (⟨some k, op, tp, pos, aft, none⟩ :: l) t H N := from_pop hp rfl hd h
theorem from_e {dst : Option Tmp} {op : Op} {tp : TypeId} {pos : String} {aft : Array Edge} (h : EOp K t H ⟨dst, op, tp, pos, aft, none⟩ (fun t' H' => SimFrom K ops (i + 1) l t' H' N)) :
    SimFrom K ops i (⟨dst, op, tp, pos, aft, none⟩ :: l) t H N := from_op rfl h
theorem wanted_some {j k : Nat} {want : Bool} {a : Act} {gv : Value} (hg : o.guard = some (j, want)) (hj : (ops[j]?).bind (·.dst) = some k) (hb : a.tmps.getD k undef = gv) :
    (gv = .bool want → Region.wanted o (yielded ops a.tmps) = true) ∧ (¬ gv = .bool want → Region.wanted o (yielded ops a.tmps) = false) := by
  rw [Array.getD_eq_getD_getElem?] at hb
  cases h : a.tmps[k]? with
  | none =>
    rw [h] at hb; simp at hb; subst hb
    exact ⟨fun e => by simp [undef] at e, fun _ => by simp [Region.wanted, hg, yielded, hj, h]⟩
  | some v =>
    rw [h] at hb; simp at hb; subst hb
    refine ⟨fun e => by simp [Region.wanted, hg, yielded, hj, h, e], fun e => ?_⟩
    simp only [Region.wanted, hg, yielded, hj, h, Option.bind_some]
    cases v with
    | bool b => simp; intro hb; exact e (by rw [hb])
    | _ => rfl
theorem from_guard {d e : T} {j k : Nat} {want : Bool} {gv : Value} (hg : o.guard = some (j, want)) (hj : (ops[j]?).bind (·.dst) = some k) (hb : t.get k = .v gv)
    (hp : gv = .bool want → POp K.P t H o d) (he : gv = .bool want → e = d) (hn : ¬ gv = .bool want → e = .v undef) (hd : okDst o.dst K.n = true) (h : SimFrom K ops (i + 1) l (t.put o.dst e) H N) :
    SimFrom K ops i (o :: l) t H N := by
  intro hl a w Q hr hq
  rw [wpOps_at]
  unfold wpOpIn
  obtain ⟨S, hr⟩ := hr
  have hv : a.tmps.getD k undef = gv := by have := hr.env k; rw [hb] at this; exact this.v_eq
  simp only [at_ops hl]
  by_cases hw : gv = .bool want
  · simp only [(wanted_some hg hj hv).1 hw, if_true]
    rw [he hw] at h
    exact pop_wpIn (hp hw S w a hr.wf hr.own (fun x _ => hr.env.ev x)) fun S' w' v hs hv => h (at_rest hl) _ _ Q ⟨S', hr.pure hs hd hv⟩ hq
  · simp only [(wanted_some hg hj hv).2 hw, Bool.false_eq_true, if_false]
    rw [hn hw] at h
    exact ⟨fun _ _ => trivial, h (at_rest hl) _ _ Q ⟨S, hr.pure (Step.refl _ hr.wf) hd (.v undef)⟩ hq⟩
theorem sim_region {id : Nat} {Ψ : Exit → Env → Heap → Prop} (h : SimFrom K ops 0 ops.toList t H (Ψ .normal)) : Sim K (.region id ops false) t H Ψ := by
  intro a w hr
  refine wpIn_region ?_
  have := h (fun j => by simp) a w (fun e a' w' => ∃ t' H', Ψ e t' H' ∧ R K t' H' a' w') hr (fun t' H' a' w' hn hr' => ⟨t', H', hn, hr'⟩)
  rw [List.range_eq_range']
  simpa using this
end
theorem ev_here {t : Env} {k : Tmp} {d : T} : Env.ev ((k, d) :: t) (.tmp k) = d := by simp [Env.ev, Env.get]
theorem ev_there {t : Env} {j k : Tmp} {d e : T} (h : Nat.beq j k = false) (h' : Env.ev t (.tmp k) = d) : Env.ev ((j, e) :: t) (.tmp k) = d := by
  simpa [Env.ev, Env.get, h] using h'
theorem ev_int {t : Env} {k : IntKind} {n : Int} : Env.ev t (.const (.int k n)) = .v (.int k n) := rfl
theorem ev_bool {t : Env} {b : Bool} : Env.ev t (.const (.bool b)) = .v (.bool b) := rfl
theorem ev_str {t : Env} {s : ByteArray} : Env.ev t (.const (.string s)) = .v (.string s) := rfl
theorem ev_nil {t : Env} {p : Option Addr} {n c : Nat} : Env.ev t (.const (.slice p n c)) = .v (.slice p n c) := rfl
theorem ev_ptr {t : Env} {p : Option Addr} : Env.ev t (.const (.pointer p)) = .v (.pointer p) := rfl
theorem ev_agg {t : Env} {cs : Array Value} : Env.ev t (.const (.agg cs)) = .agg (cs.toList.map T.v) := rfl
theorem ev_map {t : Env} {r : Option Nat} : Env.ev t (.const (.map r)) = .v (.map r) := rfl
theorem ev_nilf {t : Env} : Env.ev t (.const .nilFunc) = .v .nilFunc := rfl
theorem ev_nili {t : Env} : Env.ev t (.const .nilIface) = .v .nilIface := rfl
theorem ev_func {t : Env} {f : FuncId} : Env.ev t (.func f) = .v (.func (.func f) #[] #[]) := rfl
def EvL (t : Env) : List Operand → List T → Prop
  | [], [] => True
  | x :: xs, d :: ds => t.ev x = d ∧ EvL t xs ds
  | _, _ => False
theorem evl_nil {t : Env} : EvL t [] [] := trivial
theorem evl_cons {t : Env} {x : Operand} {xs : List Operand} {d : T} {ds : List T} (h : t.ev x = d) (hs : EvL t xs ds) : EvL t (x :: xs) (d :: ds) := ⟨h, hs⟩
theorem EvL.eq {t : Env} : ∀ {xs : List Operand} {ds : List T}, EvL t xs ds → xs.map t.ev = ds
  | [], [], _ => rfl
  | x :: xs, d :: ds, h => by rw [List.map_cons, h.1, EvL.eq h.2]
  | [], _ :: _, h => h.elim
  | _ :: _, [], h => h.elim
def EvP (t : Env) : List (Nat × Operand) → List (Nat × T) → Prop
  | [], [] => True
  | p :: ps, q :: qs => p.1 = q.1 ∧ t.ev p.2 = q.2 ∧ EvP t ps qs
  | _, _ => False
theorem evp_nil {t : Env} : EvP t [] [] := trivial
theorem evp_cons {t : Env} {i : Nat} {x : Operand} {ps : List (Nat × Operand)} {d : T} {qs : List (Nat × T)} (h : t.ev x = d) (hs : EvP t ps qs) : EvP t ((i, x) :: ps) ((i, d) :: qs) := ⟨rfl, h, hs⟩
theorem EvP.eq {t : Env} : ∀ {ps : List (Nat × Operand)} {qs : List (Nat × T)}, EvP t ps qs → (ps.map fun p => (p.1, t.ev p.2)) = qs
  | [], [], _ => rfl
  | p :: ps, q :: qs, h => by rw [List.map_cons, h.2.1, EvP.eq h.2.2, h.1]
  | [], _ :: _, h => h.elim
  | _ :: _, [], h => h.elim
def EvQ (t : Env) : List (Nat × Operand) → List T → Prop
  | [], [] => True
  | p :: ps, d :: ds => t.ev p.2 = d ∧ EvQ t ps ds
  | _, _ => False
theorem evq_nil {t : Env} : EvQ t [] [] := trivial
theorem evq_cons {t : Env} {i : Nat} {x : Operand} {ps : List (Nat × Operand)} {d : T} {ds : List T} (h : t.ev x = d) (hs : EvQ t ps ds) : EvQ t ((i, x) :: ps) (d :: ds) := ⟨h, hs⟩
theorem EvQ.eq {t : Env} : ∀ {ps : List (Nat × Operand)} {ds : List T}, EvQ t ps ds → (ps.map fun p => t.ev p.2) = ds
  | [], [], _ => rfl
  | p :: ps, d :: ds, h => by rw [List.map_cons, h.1, EvQ.eq h.2]
  | [], _ :: _, h => h.elim
  | _ :: _, [], h => h.elim
theorem get_here {t : Env} {k : Tmp} {d : T} : Env.get ((k, d) :: t) k = d := by simp [Env.get]
theorem get_there {t : Env} {j k : Tmp} {d e : T} (h : Nat.beq j k = false) (h' : Env.get t k = d) : Env.get ((j, e) :: t) k = d := by simpa [Env.get, h] using h'
def GOp (P : Program) (ops : Array Oper) (t : Env) (H : Heap) (o : Oper) (d : T) : Prop :=
  match o.guard with
  | none => POp P t H o d
  | some (j, want) => ∃ k gv, (ops[j]?).bind (·.dst) = some k ∧ t.get k = .v gv ∧ (gv = .bool want → POp P t H o d) ∧ (¬ gv = .bool want → d = .v undef)
def putAll (t : Env) : List Oper → List T → Env
  | o :: os, d :: ds => putAll (t.put o.dst d) os ds
  | _, _ => t
def unl (listed : Array Bool) (n : Nat) : Nat := ((List.range n).filter fun j => !listed.getD j true).length
theorem filter_drop_one {p p' : Nat → Bool} {i : Nat} : ∀ (l : List Nat), l.Nodup → i ∈ l → p i = true → p' i = false → (∀ j, j ≠ i → p j = p' j) →
    (l.filter p).length = (l.filter p').length + 1
  | [], _, h, _, _, _ => by simp at h
  | a :: l, hn, hm, hp, hp', hs => by
    have hn' := List.nodup_cons.1 hn
    by_cases ha : a = i
    · subst ha
      have : l.filter p = l.filter p' := List.filter_congr fun j hj => hs j (fun e => hn'.1 (e ▸ hj))
      simp [hp, hp', this]
    · have hm' : i ∈ l := by simpa [Ne.symm ha] using hm
      have ih := filter_drop_one l hn'.2 hm' hp hp' hs
      simp only [List.filter_cons, hs a ha]
      split <;> simp [ih]
theorem unl_set {listed : Array Bool} {n i : Nat} (hs : listed.size = n) (hi : i < n) (hu : listed.getD i true = false) : unl listed n = unl (listed.setIfInBounds i true) n + 1 := by
  refine filter_drop_one _ List.nodup_range (List.mem_range.2 hi) (by rw [hu]; rfl) ?_ (fun j hj => ?_)
  · simp [hs, hi]
  · rw [getD_set_ne true (Ne.symm hj)]
section
variable {K : Ctx} {ops : Array Oper} {Q : Exit → Act → World → Prop} {m : Nat}
end
end Go.Cap
end
section
namespace Go.Cap
def aggSz (P : Program) (t : TypeId) : Option Nat := match P.underlying t with
  | some (.struct _) | some (.array _ _) => (P.info? t).map (·.size)
  | _ => none
def leafTy (P : Program) (t : TypeId) : Bool := match P.underlying t with
  | some (.struct _) | some (.array _ _) | none => false
  | some _ => true
def elemSz (P : Program) (t : TypeId) : Option Nat := match P.underlying t with
  | some (.slice e) => (P.info? e).map (·.size)
  | _ => none
def elemTy (P : Program) (t : TypeId) : TypeId := match P.underlying t with
  | some (.slice e) => e
  | _ => 0
def isSliceTy (P : Program) (t : TypeId) : Bool := (elemSz P t).isSome
def arrSz (P : Program) (t : TypeId) : Option (Nat × Nat) := match P.underlying t with
  | some (.array n e) => ((P.info? e).map (·.size)).map fun s => (n, s)
  | _ => none
def isStr (P : Program) (t : TypeId) : Bool := match P.underlying t with
  | some .string => true
  | _ => false
def fld (P : Program) (s : TypeId) (f : Nat) : Option (Nat × Nat × Bool) := match P.underlying s with
  | some (.struct fs) => match fs[f]? with
    | some x => match (P.info? x.type).map (·.size), P.underlying x.type with
      | some n, some (.struct _) | some n, some (.array _ _) => some (x.offset, n, true)
      | some n, some _ => some (x.offset, n, false)
      | _, _ => none
    | none => none
  | _ => none
class FldC (P : Program) (ty f : Nat) (off n : outParam Nat) (ag : outParam Bool) : Prop where
  h : fld P ty f = some (off, n, ag)
class ElemSzC (P : Program) (ty : Nat) (n : outParam Nat) : Prop where
  h : elemSz P ty = some n
class AggC (P : Program) (ty : Nat) (n : outParam Nat) : Prop where
  h : aggSz P ty = some n
  z : Nat.blt 0 n = true
class ArrC (P : Program) (ty : Nat) (n k : outParam Nat) : Prop where
  h : arrSz P ty = some (n, k)
theorem int_beq (a b : Int) : (a == b) = decide (a = b) := by rw [Bool.eq_iff_iff]; simp
def T.isLeaf : T → Bool
  | .v (.agg _) | .agg _ | .tup _ | .any => false
  | .v (.tuple _) => false
  | _ => true
section
variable {P : Program} {t : Env} {H : Heap} {dst : Option Tmp} {tp : TypeId} {pos : String} {aft : Array Edge} {g : Option (Nat × Bool)}
variable {S : Nat → Prop} {w : World}
theorem Rel.leaf_cells {x : T} {y : Value} (h : Rel S w x y) (hl : x.isLeaf = true) : y.cells = #[y] ∧ y.oneCell' = true := by
  cases h with
  | v => cases y <;> simp_all [T.isLeaf, Value.cells, Value.oneCell']
  | nil => exact ⟨rfl, rfl⟩
  | sl => exact ⟨rfl, rfl⟩
  | adr => exact ⟨rfl, rfl⟩
  | agg => simp [T.isLeaf] at hl
  | tup => simp [T.isLeaf] at hl
  | clo => exact ⟨rfl, rfl⟩
  | any => simp [T.isLeaf] at hl
theorem Addr.add_mk (b o n : Nat) : (⟨b, o, none⟩ : Addr).add n = ⟨b, o + n, none⟩ := by
  unfold Addr.add
  split
  · subst_vars; rfl
  · rfl
theorem cell_block {b o : Nat} {cs : Array Value} {ty : TypeId} {fz : Nat × Nat} (hb : w.heap[b]? = some (.cells cs ty fz)) : w.cell? ⟨b, o, none⟩ = cs[o]? := by
  simp [World.cell?, hb]
theorem run_cells {b o n : Nat} {cs : Array Value} {ty : TypeId} {fz : Nat × Nat} (hb : w.heap[b]? = some (.cells cs ty fz)) (us : List Value) (hn : us.length = n)
    (h : (cs.toList.drop o).take n = us) : (loadCells ⟨b, o, none⟩ n).run P w = .ok us.toArray w := by
  have := run_loadCells_list (P := P) (w := w) ⟨b, o, none⟩ us (fun j v hj => by
    rw [Addr.add_mk, cell_block hb]
    subst h
    rw [List.getElem?_take, List.getElem?_drop] at hj
    split at hj
    · simpa using hj
    · cases hj)
  rw [hn] at this; exact this
theorem POp.run {o : Oper} {d : T} (h : ∀ (S : Nat → Prop) (w : World) (a : Act), Wf S w → Own S w H → (∀ x ∈ o.op.operands, Rel S w (t.ev x) (a.eval x)) →
    ∃ v w' S', (execOp a.eval o).run P w = .ok (.value v) w' ∧ Step [] S w S' w' ∧ Rel S' w' d v) : POp P t H o d := by
  intro S w a hw ho hx Kc Q hk
  obtain ⟨v, w', S', hr, hs, hd⟩ := h S w a hw ho hx
  unfold Oper.wp
  rw [hr]
  exact hk S' w' v hs hd
theorem POp.still {o : Oper} {d : T} (h : ∀ (S : Nat → Prop) (w : World) (a : Act), Wf S w → Own S w H → (∀ x ∈ o.op.operands, Rel S w (t.ev x) (a.eval x)) →
    ∃ v, (execOp a.eval o).run P w = .ok (.value v) w ∧ Rel S w d v) : POp P t H o d :=
  POp.run fun S w a hw ho hx => let ⟨v, hr, hd⟩ := h S w a hw ho hx; ⟨v, w, S, hr, Step.refl _ hw, hd⟩
theorem POp.le {o : Oper} {d d' : T} (h : POp P t H o d) (hl : Le d d') : POp P t H o d' :=
  fun S w a hw ho hx Kc Q hk => h S w a hw ho hx Kc Q fun S' w' v hs hv => hk S' w' v hs (hl _ _ _ hv)
theorem pop_move {x : Operand} {d : T} (hx : t.ev x = d) : POp P t H ⟨dst, .move x, tp, pos, aft, g⟩ d :=
  POp.still fun S w a _ _ hr => ⟨a.eval x, rfl, hx ▸ hr x (by simp [Op.operands])⟩
theorem pop_assign {x : Operand} {d : T} (hx : t.ev x = d) : POp P t H ⟨dst, .assign x, tp, pos, aft, g⟩ d :=
  POp.still fun S w a _ _ hr => ⟨a.eval x, rfl, hx ▸ hr x (by simp [Op.operands])⟩
theorem pop_pick {c x y : Operand} {b : Bool} {d e : T} (hc : t.ev c = .v (.bool b)) (hx : t.ev x = d) (hy : t.ev y = e) :
    POp P t H ⟨dst, .pick c x y, tp, pos, aft, g⟩ (bif b then d else e) :=
  POp.still fun S w a _ _ hr => by
    have h1 := hr c (by simp [Op.operands])
    rw [hc] at h1
    refine ⟨bif b then a.eval x else a.eval y, by simp only [execOp]; rw [h1.v_eq]; cases b <;> rfl, ?_⟩
    cases b
    · exact hy ▸ hr y (by simp [Op.operands])
    · exact hx ▸ hr x (by simp [Op.operands])
theorem pop_bin {op : BinOp} {ty ty' : TypeId} {x y : Operand} {u u' r : Value} (hx : t.ev x = .v u) (hy : t.ev y = .v u')
    (hrun : ∀ w, ((do eqGuard op ty x y u u'; binOp op ty u u' : Sem Value)).run P w = .ok r w) : POp P t H ⟨dst, .binOp op ty x y ty', tp, pos, aft, g⟩ (.v r) :=
  POp.still fun S w a _ _ hr => by
    have h1 := hr x (by simp [Op.operands])
    have h2 := hr y (by simp [Op.operands])
    rw [hx] at h1; rw [hy] at h2
    refine ⟨r, ?_, .v _⟩
    simp only [execOp]
    rw [h1.v_eq, h2.v_eq]
    have := hrun w
    simp only [Sem.run_bind] at this ⊢
    rw [this]; rfl
variable {x y : Operand} {ty ty' : TypeId} {k : IntKind} {a b : Int}
theorem pop_add (hx : t.ev x = .v (.int k a)) (hy : t.ev y = .v (.int k b)) : POp P t H ⟨dst, .binOp .add ty x y ty', tp, pos, aft, g⟩ (.v (.int k (k.wrap (a + b)))) :=
  pop_bin hx hy fun w => by simp [eqGuard, binOp, Op.intArith]
theorem pop_sub (hx : t.ev x = .v (.int k a)) (hy : t.ev y = .v (.int k b)) : POp P t H ⟨dst, .binOp .sub ty x y ty', tp, pos, aft, g⟩ (.v (.int k (k.wrap (a - b)))) :=
  pop_bin hx hy fun w => by simp [eqGuard, binOp, Op.intArith]
theorem pop_mul (hx : t.ev x = .v (.int k a)) (hy : t.ev y = .v (.int k b)) : POp P t H ⟨dst, .binOp .mul ty x y ty', tp, pos, aft, g⟩ (.v (.int k (k.wrap (a * b)))) :=
  pop_bin hx hy fun w => by simp [eqGuard, binOp, Op.intArith]
theorem pop_add64 (hx : t.ev x = .v (.int .i64 a)) (hy : t.ev y = .v (.int .i64 b)) (h : -9223372036854775808 ≤ a + b ∧ a + b ≤ 9223372036854775807) :
    POp P t H ⟨dst, .binOp .add ty x y ty', tp, pos, aft, g⟩ (.v (.int .i64 (a + b))) := by have := pop_add (P := P) (H := H) (dst := dst) (tp := tp) (pos := pos) (aft := aft) (g := g) (ty := ty) (ty' := ty') hx hy; rwa [IntWalk.i64_in _ h] at this
theorem pop_sub64 (hx : t.ev x = .v (.int .i64 a)) (hy : t.ev y = .v (.int .i64 b)) (h : -9223372036854775808 ≤ a - b ∧ a - b ≤ 9223372036854775807) :
    POp P t H ⟨dst, .binOp .sub ty x y ty', tp, pos, aft, g⟩ (.v (.int .i64 (a - b))) := by have := pop_sub (P := P) (H := H) (dst := dst) (tp := tp) (pos := pos) (aft := aft) (g := g) (ty := ty) (ty' := ty') hx hy; rwa [IntWalk.i64_in _ h] at this
theorem pop_mul64 (hx : t.ev x = .v (.int .i64 a)) (hy : t.ev y = .v (.int .i64 b)) (h : -9223372036854775808 ≤ a * b ∧ a * b ≤ 9223372036854775807) :
    POp P t H ⟨dst, .binOp .mul ty x y ty', tp, pos, aft, g⟩ (.v (.int .i64 (a * b))) := by have := pop_mul (P := P) (H := H) (dst := dst) (tp := tp) (pos := pos) (aft := aft) (g := g) (ty := ty) (ty' := ty') hx hy; rwa [IntWalk.i64_in _ h] at this
theorem pop_rem (hx : t.ev x = .v (.int k a)) (hy : t.ev y = .v (.int k b)) (h : b ≠ 0) : POp P t H ⟨dst, .binOp .rem ty x y ty', tp, pos, aft, g⟩ (.v (.int k (a.tmod b))) :=
  pop_bin hx hy fun w => by simp [eqGuard, binOp, Op.intDiv, h]
theorem pop_lss (hx : t.ev x = .v (.int k a)) (hy : t.ev y = .v (.int k b)) : POp P t H ⟨dst, .binOp .lss ty x y ty', tp, pos, aft, g⟩ (.v (.bool (decide (a < b)))) :=
  pop_bin hx hy fun w => by simp [eqGuard, binOp, Op.intCmp]
theorem pop_leq (hx : t.ev x = .v (.int k a)) (hy : t.ev y = .v (.int k b)) : POp P t H ⟨dst, .binOp .leq ty x y ty', tp, pos, aft, g⟩ (.v (.bool (decide (a ≤ b)))) :=
  pop_bin hx hy fun w => by simp [eqGuard, binOp, Op.intCmp]
theorem pop_gtr (hx : t.ev x = .v (.int k a)) (hy : t.ev y = .v (.int k b)) : POp P t H ⟨dst, .binOp .gtr ty x y ty', tp, pos, aft, g⟩ (.v (.bool (decide (b < a)))) :=
  pop_bin hx hy fun w => by simp [eqGuard, binOp, Op.intCmp]
theorem pop_geq (hx : t.ev x = .v (.int k a)) (hy : t.ev y = .v (.int k b)) : POp P t H ⟨dst, .binOp .geq ty x y ty', tp, pos, aft, g⟩ (.v (.bool (decide (b ≤ a)))) :=
  pop_bin hx hy fun w => by simp [eqGuard, binOp, Op.intCmp]
theorem pop_eql (hx : t.ev x = .v (.int k a)) (hy : t.ev y = .v (.int k b)) : POp P t H ⟨dst, .binOp .eql ty x y ty', tp, pos, aft, g⟩ (.v (.bool (decide (a = b)))) :=
  pop_bin hx hy fun w => by simp [eqGuard, binOp, Op.intCmp]; exact int_beq a b
theorem pop_neq (hx : t.ev x = .v (.int k a)) (hy : t.ev y = .v (.int k b)) : POp P t H ⟨dst, .binOp .neq ty x y ty', tp, pos, aft, g⟩ (.v (.bool (decide (¬ a = b)))) :=
  pop_bin hx hy fun w => by simp [eqGuard, binOp, Op.intCmp, bne, int_beq]
theorem pop_and (hx : t.ev x = .v (.int k a)) (hy : t.ev y = .v (.int k b)) :
    POp P t H ⟨dst, .binOp .and ty x y ty', tp, pos, aft, g⟩ (.v (.int k (k.wrap (BitVec.ofInt k.bits a &&& BitVec.ofInt k.bits b).toNat))) :=
  pop_bin hx hy fun w => by simp [eqGuard, binOp, Op.intBits]
theorem pop_or (hx : t.ev x = .v (.int k a)) (hy : t.ev y = .v (.int k b)) :
    POp P t H ⟨dst, .binOp .or ty x y ty', tp, pos, aft, g⟩ (.v (.int k (k.wrap (BitVec.ofInt k.bits a ||| BitVec.ofInt k.bits b).toNat))) :=
  pop_bin hx hy fun w => by simp [eqGuard, binOp, Op.intBits]
theorem pop_xor (hx : t.ev x = .v (.int k a)) (hy : t.ev y = .v (.int k b)) :
    POp P t H ⟨dst, .binOp .xor ty x y ty', tp, pos, aft, g⟩ (.v (.int k (k.wrap (BitVec.ofInt k.bits a ^^^ BitVec.ofInt k.bits b).toNat))) :=
  pop_bin hx hy fun w => by simp [eqGuard, binOp, Op.intBits]
theorem pop_shl {k' : IntKind} (hx : t.ev x = .v (.int k a)) (hy : t.ev y = .v (.int k' b)) (h : 0 ≤ b) :
    POp P t H ⟨dst, .binOp .shl ty x y ty', tp, pos, aft, g⟩ (.v (.int k (k.wrap (a * 2 ^ (min b.toNat k.bits))))) :=
  pop_bin hx hy fun w => by simp [eqGuard, binOp, Op.shift, Int.not_lt.2 h]
theorem pop_shr {k' : IntKind} (hx : t.ev x = .v (.int k a)) (hy : t.ev y = .v (.int k' b)) (h : 0 ≤ b) :
    POp P t H ⟨dst, .binOp .shr ty x y ty', tp, pos, aft, g⟩ (.v (.int k (a.fdiv (2 ^ (min b.toNat k.bits))))) :=
  pop_bin hx hy fun w => by simp [eqGuard, binOp, Op.shift, Int.not_lt.2 h]
theorem pop_eql_str {s s' : ByteArray} (hx : t.ev x = .v (.string s)) (hy : t.ev y = .v (.string s')) :
    POp P t H ⟨dst, .binOp .eql ty x y ty', tp, pos, aft, g⟩ (.v (.bool (s.toList == s'.toList))) :=
  pop_bin hx hy fun w => by simp [eqGuard, binOp, Op.stringOp]
theorem pop_not {ty : TypeId} {x : Operand} {b : Bool} (hx : t.ev x = .v (.bool b)) : POp P t H ⟨dst, .unOp .not ty x, tp, pos, aft, g⟩ (.v (.bool !b)) :=
  POp.still fun S w a _ _ hr => by
    have h1 := hr x (by simp [Op.operands]); rw [hx] at h1
    exact ⟨.bool !b, by simp only [execOp]; rw [h1.v_eq]; rfl, .v _⟩
theorem pop_neg {ty : TypeId} {x : Operand} (hx : t.ev x = .v (.int k a)) : POp P t H ⟨dst, .unOp .neg ty x, tp, pos, aft, g⟩ (.v (.int k (k.wrap (0 - a)))) :=
  POp.still fun S w a' _ _ hr => by
    have h1 := hr x (by simp [Op.operands]); rw [hx] at h1
    exact ⟨.int k (k.wrap (0 - a)), by simp only [execOp]; rw [h1.v_eq]; rfl, .v _⟩
theorem pop_extract {x : Operand} {i : Nat} {ds : List T} {d : T} (hx : t.ev x = .tup ds) (hi : ds[i]? = some d) : POp P t H ⟨dst, .extract x i, tp, pos, aft, g⟩ d :=
  POp.still fun S w a _ _ hr => by
    have h1 := hr x (by simp [Op.operands]); rw [hx] at h1
    generalize hu : a.eval x = u at h1
    cases h1 with
    | tup _ vs h =>
      obtain ⟨u, hu', hd⟩ := h.get hi
      exact ⟨u, by simp only [execOp, hu, Instr.extract]; simp [hu'], hd⟩
theorem slice_of (h : isSliceTy P ty = true) : ∃ e i, P.underlying ty = some (.slice e) ∧ P.info? e = some i := by
  unfold isSliceTy elemSz at h
  split at h
  · rename_i e he
    cases hi : P.info? e with
    | none => rw [hi] at h; cases h
    | some i => exact ⟨e, i, he, hi⟩
  · cases h
theorem pop_len {x : Operand} {f : Bool} {xs : List T} (hx : t.ev x = .sl f xs) (ha : isSliceTy P ty = true) :
    POp P t H ⟨dst, .call ⟨.builtin .len, #[x], #[ty]⟩, tp, pos, aft, g⟩ (.v (.int .i64 xs.length)) :=
  POp.still fun S w a _ _ hr => by
    have h1 := hr x (by simp [Op.operands, Call.operands]); rw [hx] at h1
    obtain ⟨e, _, he, _⟩ := slice_of ha
    generalize hu : a.eval x = u at h1
    have hl : ∃ p c, u = .slice p xs.length c := by
      cases h1 with
      | nil => exact ⟨_, _, rfl⟩
      | sl _ _ b o cap vs k cs ty fz hs hb hr2 => exact ⟨_, _, by rw [← hr2.length]⟩
    obtain ⟨p, c, rfl⟩ := hl
    refine ⟨.int .i64 xs.length, ?_, .v _⟩
    simp [execOp, resolve, invoke, builtin, Builtin.len_, hu, run_underlying he, goInt]
theorem pop_len_raw {x : Operand} {p : Option Addr} {n c : Nat} (hx : t.ev x = .v (.slice p n c)) (ha : isSliceTy P ty = true) :
    POp P t H ⟨dst, .call ⟨.builtin .len, #[x], #[ty]⟩, tp, pos, aft, g⟩ (.v (.int .i64 n)) :=
  POp.still fun S w a _ _ hr => by
    have h1 := hr x (by simp [Op.operands, Call.operands]); rw [hx] at h1
    obtain ⟨e, _, he, _⟩ := slice_of ha
    refine ⟨.int .i64 n, ?_, .v _⟩
    simp [execOp, resolve, invoke, builtin, Builtin.len_, h1.v_eq, run_underlying he, goInt]
theorem pop_min {x y : Operand} {ats : Array TypeId} (hx : t.ev x = .v (.int k a)) (hy : t.ev y = .v (.int k b)) :
    POp P t H ⟨dst, .call ⟨.builtin .min, #[x, y], ats⟩, tp, pos, aft, g⟩ (.v (.int k (min a b))) :=
  POp.still fun S w c _ _ hr => by
    have h1 := hr x (by simp [Op.operands, Call.operands]); rw [hx] at h1
    have h2 := hr y (by simp [Op.operands, Call.operands]); rw [hy] at h2
    refine ⟨.int k (min a b), ?_, .v _⟩
    have : (if b < a then b else a) = min a b := by rw [Int.min_def]; split <;> split <;> omega
    simp [execOp, resolve, invoke, builtin, Builtin.min_, Builtin.min2, h1.v_eq, h2.v_eq, this]
theorem pop_max {x y : Operand} {ats : Array TypeId} (hx : t.ev x = .v (.int k a)) (hy : t.ev y = .v (.int k b)) :
    POp P t H ⟨dst, .call ⟨.builtin .max, #[x, y], ats⟩, tp, pos, aft, g⟩ (.v (.int k (max a b))) :=
  POp.still fun S w c _ _ hr => by
    have h1 := hr x (by simp [Op.operands, Call.operands]); rw [hx] at h1
    have h2 := hr y (by simp [Op.operands, Call.operands]); rw [hy] at h2
    refine ⟨.int k (max a b), ?_, .v _⟩
    have : (if b > a then b else a) = max a b := by rw [Int.max_def]; split <;> split <;> omega
    simp [execOp, resolve, invoke, builtin, Builtin.max_, Builtin.max2, h1.v_eq, h2.v_eq]
    exact this
end
end Go.Cap
end
section
namespace Go.Cap
section
variable {P : Program} {t : Env} {H : Heap} {dst : Option Tmp} {tp : TypeId} {pos : String} {aft : Array Edge} {g : Option (Nat × Bool)}
variable {S : Nat → Prop} {w : World} {ty : TypeId}
theorem agg_of {n : Nat} (h : aggSz P ty = some n) : (∀ w, (isAgg ty).run P w = .ok true w) ∧ ∃ i, P.info? ty = some i ∧ i.size = n := by
  unfold aggSz at h
  have key : ∀ d, P.underlying ty = some d → (match d with | .struct _ | .array _ _ => true | _ => false) = true → ∀ w, (isAgg ty).run P w = .ok true w := by
    intro d hd hm w
    unfold isAgg
    simp [run_underlying hd]
    cases d <;> simp_all
  split at h
  · rename_i hu
    refine ⟨key _ hu rfl, ?_⟩
    cases hi : P.info? ty with
    | none => rw [hi] at h; cases h
    | some i => rw [hi] at h; exact ⟨i, rfl, by simpa using h⟩
  · rename_i hu
    refine ⟨key _ hu rfl, ?_⟩
    cases hi : P.info? ty with
    | none => rw [hi] at h; cases h
    | some i => rw [hi] at h; exact ⟨i, rfl, by simpa using h⟩
  · cases h
theorem leaf_of (h : leafTy P ty = true) : ∀ w, (isAgg ty).run P w = .ok false w := by
  unfold leafTy at h
  intro w
  split at h
  · cases h
  · cases h
  · cases h
  · rename_i d hd h1 h2
    unfold isAgg
    simp [run_underlying h2]
theorem run_sizeOf {i : TypeInfo} (hi : P.info? ty = some i) (w : World) : (sizeOf ty).run P w = .ok i.size w := by
  simp [sizeOf, typeInfo, hi]
theorem elem_of {n : Nat} (h : elemSz P ty = some n) : ∃ e i, P.underlying ty = some (.slice e) ∧ P.info? e = some i ∧ i.size = n := by
  unfold elemSz at h
  split at h
  · rename_i e he
    cases hi : P.info? e with
    | none => rw [hi] at h; cases h
    | some i => rw [hi] at h; exact ⟨e, i, he, hi, by simpa using h⟩
  · cases h
theorem arr_of {n s : Nat} (h : arrSz P ty = some (n, s)) : ∃ e i, P.underlying ty = some (.array n e) ∧ P.info? e = some i ∧ i.size = s := by
  unfold arrSz at h
  split at h
  · rename_i m e he
    cases hi : P.info? e with
    | none => rw [hi] at h; cases h
    | some i => rw [hi] at h; simp at h; exact ⟨e, i, by rw [← h.1]; exact he, hi, h.2⟩
  · cases h
theorem fld_of {f off n : Nat} {ag : Bool} (h : fld P ty f = some (off, n, ag)) : ∃ fs x i, P.underlying ty = some (.struct fs) ∧ fs[f]? = some x ∧ x.offset = off ∧
    P.info? x.type = some i ∧ i.size = n ∧ (if ag then aggSz P x.type = some n else leafTy P x.type = true) := by
  unfold fld at h
  split at h
  · rename_i fs hfs
    split at h
    · rename_i x hx
      cases hi : P.info? x.type with
      | none => rw [hi] at h; simp at h
      | some i =>
        rw [hi] at h
        refine ⟨fs, x, i, hfs, hx, ?_⟩
        cases hu : P.underlying x.type with
        | none => rw [hu] at h; simp at h
        | some d =>
          rw [hu] at h
          cases d <;> (simp at h; obtain ⟨h1, h2, h3⟩ := h; subst h3; refine ⟨h1, hi, h2, ?_⟩; simp [aggSz, leafTy, hu, hi, h2])
    · cases h
  · cases h
theorem pop_load_agg {x : Operand} {ys : List T} (hx : t.ev x = .adr (.agg ys)) (hk : aggSz P ty = some ys.length) :
    POp P t H ⟨dst, .load ty x, tp, pos, aft, g⟩ (.agg ys) :=
  POp.still fun S w a _ _ hr => by
    have h1 := hr x (by simp [Op.operands]); rw [hx] at h1
    generalize hu : a.eval x = u at h1
    obtain ⟨hag, i, hi, hs⟩ := agg_of hk
    cases h1 with
    | adr _ b o y cs ty' fz hS hb hr' hg =>
      cases hr' with
      | agg _ vs hvs =>
        refine ⟨.agg vs.toArray, ?_, .agg _ _ hvs⟩
        have hl : vs.length = ys.length := hvs.length
        have := run_cells (P := P) (w := w) (n := ys.length) hb vs hl (by simpa [Value.cells, hl] using hg)
        simp [execOp, hu, Instr.loadAt, Instr.sureAddr, loadVar, hag w, run_sizeOf hi, hs, this]
theorem pop_load {x : Operand} {d : T} (hx : t.ev x = .adr d) (hl : d.isLeaf = true) (hk : leafTy P ty = true) : POp P t H ⟨dst, .load ty x, tp, pos, aft, g⟩ d :=
  POp.still fun S w a _ _ hr => by
    have h1 := hr x (by simp [Op.operands]); rw [hx] at h1
    generalize hu : a.eval x = u at h1
    cases h1 with
    | adr _ b o y cs ty' fz hS hb hr' hg =>
      refine ⟨y, ?_, hr'⟩
      have hc := (hr'.leaf_cells hl).1
      rw [hc] at hg
      have hcell : cs[o]? = some y := by
        have := congrArg (fun l => l[0]?) hg
        simpa [List.getElem?_take, List.getElem?_drop] using this
      have hcell' : w.cell? ⟨b, o, none⟩ = some y := by rw [cell_block hb]; exact hcell
      simp [execOp, hu, Instr.loadAt, Instr.sureAddr, loadVar, leaf_of hk w, run_load, hcell']
theorem pop_fieldAddr {x : Operand} {f off : Nat} {ys : List T} {d : T} (hx : t.ev x = .adr (.agg ys)) [hf : FldC P ty f off 1 false] (hd : ys[off]? = some d)
    (hl : d.isLeaf = true) : POp P t H ⟨dst, .fieldAddr ty x f, tp, pos, aft, g⟩ (.adr d) :=
  POp.still fun S w a _ _ hr => by
    have h1 := hr x (by simp [Op.operands]); rw [hx] at h1
    generalize hu : a.eval x = u at h1
    obtain ⟨fs, fx, i, hus, hfx, hoff, hi, hsz, _⟩ := fld_of hf.h
    cases h1 with
    | adr _ b o y cs ty' fz hS hb hr' hg =>
      cases hr' with
      | agg _ vs hvs =>
        obtain ⟨y, hy, hdy⟩ := hvs.get hd
        refine ⟨.pointer (some ⟨b, o + off, none⟩), ?_, ?_⟩
        · simp [execOp, hu, Instr.fieldAt, run_underlying hus, hfx, Instr.sureAddr, fieldPlace, run_sizeOf hi, hsz, hoff, Addr.add_mk]
        · refine .adr d b (o + off) y cs ty' fz hS hb hdy ?_
          rw [(hdy.leaf_cells hl).1]
          simp [Value.cells] at hg
          have h2 : vs[off]? = some y := hy
          rw [← hg] at h2
          rw [List.getElem?_take, List.getElem?_drop] at h2
          split at h2
          · have h3 : off < (cs.toList.drop o).length := by
              rw [List.length_drop]
              have := (List.getElem?_eq_some_iff.1 h2).1
              omega
            rw [← List.drop_drop]
            have h4 : ((cs.toList.drop o).drop off)[0]? = some y := by rw [List.getElem?_drop, List.getElem?_drop]; simpa using h2
            cases hz : (cs.toList.drop o).drop off with
            | nil => rw [hz] at h4; simp at h4
            | cons z zs => rw [hz] at h4; simp at h4; subst h4; simp
          · cases h2
theorem pop_fieldAddr_agg {x : Operand} {f off n : Nat} {ys : List T} (hx : t.ev x = .adr (.agg ys)) [hf : FldC P ty f off n true] (hn : 0 < n) (hd : off + n ≤ ys.length) :
    POp P t H ⟨dst, .fieldAddr ty x f, tp, pos, aft, g⟩ (.adr (.agg ((ys.drop off).take n))) :=
  POp.still fun S w a _ _ hr => by
    have h1 := hr x (by simp [Op.operands]); rw [hx] at h1
    generalize hu : a.eval x = u at h1
    obtain ⟨fs, fx, i, hus, hfx, hoff, hi, hsz, _⟩ := fld_of hf.h
    cases h1 with
    | adr _ b o y cs ty' fz hS hb hr' hg =>
      cases hr' with
      | agg _ vs hvs =>
        refine ⟨.pointer (some ⟨b, o + off, none⟩), ?_, ?_⟩
        · have : ¬ n = 0 := by omega
          simp [execOp, hu, Instr.fieldAt, run_underlying hus, hfx, Instr.sureAddr, fieldPlace, run_sizeOf hi, hsz, hoff, Addr.add_mk, this]
        · refine .adr _ b (o + off) (.agg ((vs.drop off).take n).toArray) cs ty' fz hS hb (.agg _ _ ((hvs.drop off).take n)) ?_
          have hl := hvs.length
          simp [Value.cells] at hg ⊢
          rw [← List.drop_drop]
          have e : (List.drop off (List.take vs.length (List.drop o cs.toList))).take n = (List.drop off vs).take n := congrArg (fun l => (l.drop off).take n) hg
          rw [List.drop_take, List.take_take, Nat.min_eq_left (by omega)] at e
          rw [Nat.min_eq_left (by omega)]
          exact e
theorem flat_take {k : Nat} {ys : List Value} : ∀ {vs : List Value} {i : Nat} {y : Value}, vs[i]? = some y → (∀ v ∈ vs, v.cells.size = k) →
    ((vs.flatMap fun v => v.cells.toList).drop (i * k)).take k = y.cells.toList
  | [], i, y, h, _ => by simp at h
  | v :: vs, 0, y, h, hk => by
    simp at h; subst h
    have := hk v List.mem_cons_self
    simp only [List.flatMap_cons, Nat.zero_mul, List.drop_zero]
    rw [List.take_append_of_le_length (by simp [this]), List.take_of_length_le (by simp [this])]
  | v :: vs, i + 1, y, h, hk => by
    have hv := hk v List.mem_cons_self
    have ih := flat_take (k := k) (ys := ys) (vs := vs) (i := i) (y := y) (by simpa using h) (fun u hu => hk u (List.mem_cons_of_mem _ hu))
    simp only [List.flatMap_cons]
    rw [show (i + 1) * k = k + i * k by rw [Nat.succ_mul]; omega, ← List.drop_drop, List.drop_append_of_le_length (by simp [hv]), List.drop_of_length_le (l := v.cells.toList) (by simp [hv]),
      List.nil_append]
    exact ih
theorem pop_indexAddr {x y : Operand} {f : Bool} {xs : List T} {i : Int} {d : T} {k : IntKind} (hx : t.ev x = .sl f xs) (hy : t.ev y = .v (.int k i)) (h0 : 0 ≤ i) (hd : xs[i.toNat]? = some d)
    (hs : elemSz P ty = some d.cells.length) (hp : Nat.blt 0 d.cells.length = true) : POp P t H ⟨dst, .indexAddr ty x y, tp, pos, aft, g⟩ (.adr d) :=
  POp.still fun S w a _ _ hr => by
    have h1 := hr x (by simp [Op.operands]); rw [hx] at h1
    have h2 := hr y (by simp [Op.operands]); rw [hy] at h2
    obtain ⟨e, inf, hu, hi, hsz⟩ := elem_of hs
    have hp' : 0 < d.cells.length := by simpa using hp
    generalize hv : a.eval x = u at h1
    cases h1 with
    | nil => simp at hd
    | sl _ _ b o cap vs k' cs ty' fz hS hb hr' hg hf hc =>
      obtain ⟨z, hz, hdz⟩ := hr'.get hd
      have hlt : i < (vs.length : Int) := by
        have := (List.getElem?_eq_some_iff.1 hz).1
        omega
      have hkz : z.cells.size = k' := hg.1 z (List.mem_of_getElem? hz)
      have hkd : z.cells.size = d.cells.length := hdz.size hp'
      refine ⟨.pointer (some ⟨b, o + i.toNat * k', none⟩), ?_, .adr d b (o + i.toNat * k') z cs ty' fz hS hb hdz ?_⟩
      · simp [execOp, hv, h2.v_eq, Instr.indexAt, asIntOf, run_underlying hu, run_sizeOf hi, hsz, h0, hlt, Addr.add_mk, ← hkd, hkz]
      · rw [hkz]
        have e := flat_take (k := k') (ys := []) hz hg.1
        rw [← e, ← hg.2, ← List.drop_drop, List.drop_take, List.take_take]
        congr 1
        have : i.toNat < vs.length := (List.getElem?_eq_some_iff.1 hz).1
        have h5 : (i.toNat + 1) * k' ≤ vs.length * k' := Nat.mul_le_mul_right _ this
        rw [Nat.succ_mul] at h5
        omega
theorem pop_field {x : Operand} {f off : Nat} {ys : List T} {d : T} (hx : t.ev x = .agg ys) [hf : FldC P ty f off 1 false] (hd : ys[off]? = some d) :
    POp P t H ⟨dst, .field ty x f, tp, pos, aft, g⟩ d :=
  POp.still fun S w a _ _ hr => by
    have h1 := hr x (by simp [Op.operands]); rw [hx] at h1
    generalize hu : a.eval x = u at h1
    obtain ⟨fs, fx, i, hus, hfx, hoff, hi, hsz, hag⟩ := fld_of hf.h
    cases h1 with
    | agg _ vs hvs =>
      obtain ⟨y, hy, hdy⟩ := hvs.get hd
      refine ⟨y, ?_, hdy⟩
      simp [execOp, hu, Instr.field, run_underlying hus, hfx, asAgg, part, leaf_of hag w, hoff, hy]
end
end Go.Cap
end
