/-
  More rules: structs told from structs.
-/
import Derived.Test.YtjbokbikkcfjjaaGreatAae
import Derived.ProofKit
set_option maxRecDepth 16000
set_option maxHeartbeats 8000000
set_option linter.all false
namespace Go.Cap
inductive EqF (P : Program) : Nat → List Field → List Value → List Value → Prop → Prop
 | nil (i : Nat) : EqF P i [] [] [] True
 | int (i : Nat) (f : Field) (fs : List Field) (k k' : IntKind) (a b : Int) (as bs : List Value) (p : Prop) (hu : P.underlying f.type = some (.int k')) (ho : f.offset = i) (hn : (f.name != "_") = true) (hs : EqF P (i + 1) fs as bs p) :
   EqF P i (f :: fs) (.int k a :: as) (.int k b :: bs) (a = b ∧ p)
 | bool (i : Nat) (f : Field) (fs : List Field) (a b : Bool) (as bs : List Value) (p : Prop) (hu : P.underlying f.type = some .bool) (ho : f.offset = i) (hn : (f.name != "_") = true) (hs : EqF P (i + 1) fs as bs p) :
   EqF P i (f :: fs) (.bool a :: as) (.bool b :: bs) (a = b ∧ p)
theorem X6 {P : Program} {w : World} {ty : TypeId} (cs : Array Value) (i : Nat) (v : Value) (hu : QC P ty = true) (hv : cs[i]? = some v) : (part ty cs i).run P w = .ok v w := by
 simp [part, Jk hu w, hv]
theorem UG {P : Program} {ty : TypeId} {k : IntKind} (h : P.underlying ty = some (.int k)) : QC P ty = true := by simp [QC, h]
theorem Ln {P : Program} {ty : TypeId} (h : P.underlying ty = some .bool) : QC P ty = true := by simp [QC, h]
theorem EqF.run {P : Program} {w : World} {i : Nat} {fs : List Field} {as bs : List Value} {p : Prop} (h : EqF P i fs as bs p) : ∀ (xs ys : Array Value) (d : Nat), (∀ j, as[j]? = xs[i + j]?) → (∀ j, bs[j]? = ys[i + j]?) →
  ∃ r : Bool, (Op.eqFields (d + 1) xs ys fs).run P w = .ok r w ∧ (r = true ↔ p) := by
 induction h with
 | nil i => intro xs ys d _ _; exact ⟨true, by simp [Op.eqFields], by simp⟩
 | int i f fs k k' a b as bs p hu ho hn hs ih =>
  intro xs ys d hx hy
  obtain ⟨r, h1, h2⟩ := ih xs ys d (fun j => by have := hx (j + 1); rw [List.getElem?_cons_succ] at this; rw [this]; congr 1; omega) (fun j => by have := hy (j + 1); rw [List.getElem?_cons_succ] at this; rw [this]; congr 1; omega)
  have e1 := X6 (w := w) xs f.offset (.int k a) (UG hu) (by have := hx 0; rw [ho]; simpa using this.symm)
  have e2 := X6 (w := w) ys f.offset (.int k b) (UG hu) (by have := hy 0; rw [ho]; simpa using this.symm)
  have hn' : ¬ f.name = "_" := by simpa using hn
  have e3 := run_equalIn_int w d f.type k k' a b hu
  by_cases hab : a = b
  ·subst hab; exact ⟨r, by rw [beq_self_eq_true] at e3; simp [Op.eqFields, hn', e1, e2, e3, h1], by simp [h2]⟩
  ·exact ⟨false, by rw [show (a == b) = false by simpa using hab] at e3; simp [Op.eqFields, hn', e1, e2, e3], by simp [hab]⟩
 | bool i f fs a b as bs p hu ho hn hs ih =>
  intro xs ys d hx hy
  obtain ⟨r, h1, h2⟩ := ih xs ys d (fun j => by have := hx (j + 1); rw [List.getElem?_cons_succ] at this; rw [this]; congr 1; omega) (fun j => by have := hy (j + 1); rw [List.getElem?_cons_succ] at this; rw [this]; congr 1; omega)
  have e1 := X6 (w := w) xs f.offset (.bool a) (Ln hu) (by have := hx 0; rw [ho]; simpa using this.symm)
  have e2 := X6 (w := w) ys f.offset (.bool b) (Ln hu) (by have := hy 0; rw [ho]; simpa using this.symm)
  have hn' : ¬ f.name = "_" := by simpa using hn
  have e3 := run_equalIn_bool w d f.type a b hu
  by_cases hab : a = b
  ·subst hab; exact ⟨r, by rw [beq_self_eq_true] at e3; simp [Op.eqFields, hn', e1, e2, e3, h1], by simp [h2]⟩
  ·exact ⟨false, by rw [show (a == b) = false by simpa using hab] at e3; simp [Op.eqFields, hn', e1, e2, e3], by simp [hab]⟩
theorem Ir {α : Type} [Inhabited α] {f : α → T} {l : List α} {i : Nat} (h : i < l.length) : (l.map f)[(i : Int).toNat]? = some (f (l.getD i default)) := by simp [h]
section
variable {K : Ctx} {t : Env} {H : Qc} {Ψ : Exit → Env → Qc → Prop}
def T0 {σ : Type} (ok : σ → Prop) (env : σ → Env) (heap : σ → Qc) (Ψ : Exit → Env → Qc → Prop) : Exit → Env → Qc → Prop
 | .normal, t, H => ∃ s, ok s ∧ ZD t (env s) ∧ Qh H (heap s)
 | e, t, H => Ψ e t H
theorem DK {σ : Type} {ok : σ → Prop} {env : σ → Env} {heap : σ → Qc} : T0 ok env heap Ψ .ret t H = Ψ .ret t H := rfl
end
section
variable {P : Program} {t : Env} {H : Qc} {dst : Option Tmp} {tp : TypeId} {pos : String} {aft : Array Edge} {g : Option (Nat × Bool)} {ty ty' : TypeId} {x y : Operand} {as bs : List Value} {p : Prop}
theorem Z5 {S : Nat → Prop} {w : World} : ∀ {as : List Value} {vs : List Value}, Qr S w (as.map T.v) vs → vs = as
 | [], _, .nil => rfl
 | _ :: _, _, .cons _ _ _ _ h hs => by rw [Z5 hs, h.v_eq]
inductive ZT : List T → List Value → Prop
 | nil : ZT [] []
 | cons (v : Value) (xs : List T) (as : List Value) (h : ZT xs as) : ZT (.v v :: xs) (v :: as)
theorem ZT.eq {xs : List T} {as : List Value} (h : ZT xs as) : xs = as.map T.v := by
 induction h with
 | nil => rfl
 | cons v xs as h ih => rw [ih]; rfl
theorem Rel.agg_inv {S : Nat → Prop} {w : World} {xs : List T} {v : Value} (h : Rel S w (.agg xs) v) : ∃ vs : List Value, v = .agg vs.toArray ∧ Qr S w xs vs := by
 cases h with
 | agg _ vs h => exact ⟨vs, rfl, h⟩
theorem M9 {xs : List T} {f : Bool} {dx dy : T} {d : T} {by_ : Nat} (hx : t.ev x = dx) (hxl : Le dx (.sl true xs)) (hy : t.ev y = dy) (hyl : Le dy (.sl f [])) [hz : QL P ty d by_] (hs : QR P ty' = true) :
  POp P t H ⟨dst, .call ⟨.builtin .append, #[x, y], #[ty, ty']⟩, tp, pos, aft, g⟩ (.sl true xs) :=
 POp.run fun S w a hw _ hr => by
  have h1 := hr x (by simp [Op.operands, Call.operands]); rw [hx] at h1
  have h2 := hr y (by simp [Op.operands, Call.operands]); rw [hy] at h2
  replace h1 := hxl _ _ _ h1
  replace h2 := hyl _ _ _ h2
  obtain ⟨e, i, z, hu, hi, hzz, hsz, hp, rfl, hby⟩ := Yx hz.h
  obtain ⟨e', _, hu', _⟩ := YU hs
  have hl := Xl z
  have hk0 : 0 < (T.ofVal z).cells.length := by omega
  obtain ⟨a1, c1, he1, hc1, hf1⟩ := Xw h1
  have e1 : (execOp a.eval ⟨dst, .call ⟨.builtin .append, #[x, y], #[ty, ty']⟩, tp, pos, aft, g⟩).run P w = ((Builtin.append_ #[ty, ty'] tp #[a.eval x, a.eval y]).run P w).andThen fun v w' => .ok (.value v) w' := by
   simp [execOp, resolve, invoke, builtin]
  rw [e1, he1]
  rw [he1] at h1
  have hlen := Zd (P := P) h2
  obtain ⟨us, hus, hrel, hul⟩ := Yk (P := P) h2 (fun x hx => absurd hx (by simp)) hk0 0 (Nat.zero_le _)
  have hus0 : us = [] := List.length_eq_zero_iff.1 (by omega)
  subst hus0
  rw [Jg hu hu' hi hlen hc1 (by rw [hsz, ← hl]; exact hus)]
  exact ⟨_, w, S, rfl, QN.refl _ hw, h1⟩
end
def Yo (o : Oper) (j : Nat) : Bool := o.after.any fun e => Region.binds .any e && Nat.beq e.on j
theorem Z8 {o : Oper} {j : Nat} : Yo o j = true ↔ ∃ e ∈ o.after, Region.binds .any e = true ∧ e.on = j := by
 unfold Yo
 rw [Array.any_eq_true]
 constructor
 ·rintro ⟨x, hx, h⟩
  simp only [Bool.and_eq_true] at h
  exact ⟨_, Array.getElem_mem hx, h.1, Nat.eq_of_beq_eq_true h.2⟩
 ·rintro ⟨e, he, h1, h2⟩
  obtain ⟨i, hi, rfl⟩ := Array.mem_iff_getElem.1 he
  exact ⟨i, hi, by simp [h1, h2]⟩
def QS (l : List Nat) (i : Nat) : Bool := l.any fun j => Nat.beq j i
theorem QB {l : List Nat} {i : Nat} : QS l i = true ↔ i ∈ l := by
 unfold QS
 rw [List.any_eq_true]
 exact ⟨fun ⟨j, h1, h2⟩ => Nat.eq_of_beq_eq_true h2 ▸ h1, fun h => ⟨i, h, Nat.beq_refl i⟩⟩
def pick (ops : Array Oper) : List Nat → List (Nat × Oper)
 | [] => []
 | i :: r => match ops[i]? with
  | some o => (i, o) :: pick ops r
  | none => []
def Y2 (ops : Array Oper) (eff : List Nat) : List Nat → List Nat → Bool
 | _, [] => true
 | pre, i :: r => (match ops[i]? with
   | none => false
   | some o => !QS pre i && (o.after.all fun e => !Region.binds .any e || QS pre e.on) && pre.all fun j => !QS eff j || Yo o j) && Y2 ops eff (i :: pre) r
def Ai (ops : Array Oper) (n : Nat) (eff : List Nat) : Bool :=
 (List.range ops.size).all fun i => match ops[i]? with
  | none => false
  | some o => (!QS eff i || o.guard.isNone) && (o.after.all fun e => !Region.binds .any e || Nat.blt e.on i) && match o.dst with
   | none => QS eff i
   | some k => Nat.blt k n && !QS (o.looksAt ops) k && (List.range ops.size).all fun j => Nat.beq j i || match ops[j]? with
     | none => false
     | some p => (match p.dst with | some q => !Nat.beq q k | none => true) && (!QS (p.looksAt ops) k || Yo p i)
def Cu (ops : Array Oper) (n : Nat) (eff ord : List Nat) : Bool := ((List.range ops.size).all fun i => QS ord i) && Y2 ops eff [] ord && Ai ops n eff
structure WM (ops : Array Oper) (n : Nat) (eff : List Nat) : Prop where
 grd : ∀ (i : Nat) (o : Oper), ops[i]? = some o → i ∈ eff → o.guard = none
 back : ∀ (i : Nat) (o : Oper), ops[i]? = some o → ∀ e ∈ o.after, Region.binds .any e = true → e.on < i
 pur : ∀ (i : Nat) (o : Oper), ops[i]? = some o → o.dst = none → i ∈ eff
 dst : ∀ (i : Nat) (o : Oper) (k : Nat), ops[i]? = some o → o.dst = some k → k < n ∧ k ∉ o.looksAt ops ∧ ∀ j p, ops[j]? = some p → j ≠ i → p.dst ≠ some k ∧ (k ∈ p.looksAt ops → Yo p i = true)
theorem WM.of {ops : Array Oper} {n : Nat} {eff : List Nat} (h : Ai ops n eff = true) : WM ops n eff := by
 have key : ∀ i o, ops[i]? = some o → _ := fun i o ho => by
  have hi : i < ops.size := (Array.getElem?_eq_some_iff.1 ho).1
  have := (List.all_eq_true.1 h) i (List.mem_range.2 hi)
  simp only [ho, Bool.and_eq_true] at this
  exact this
 refine ⟨fun i o ho he => ?_, fun i o ho e he hb => ?_, fun i o ho hd => ?_, fun i o k ho hk => ?_⟩
 ·have := (key i o ho).1.1
  simp only [QB.2 he, Bool.not_true, Bool.false_or] at this
  simpa using this
 ·have h1 := Array.all_eq_true_iff_forall_mem.1 (key i o ho).1.2 e he
  rw [hb] at h1
  simpa using h1
 ·have := (key i o ho).2
  rw [hd] at this
  exact QB.1 this
 ·have h1 := (key i o ho).2
  simp only [hk, Bool.and_eq_true] at h1
  obtain ⟨⟨h2, h3⟩, h4⟩ := h1
  refine ⟨by simpa using h2, fun hm => ?_, fun j p hp hne => ?_⟩
  ·rw [QB.2 hm] at h3; cases h3
  ·have hj : j < ops.size := (Array.getElem?_eq_some_iff.1 hp).1
   have h5 := (List.all_eq_true.1 h4) j (List.mem_range.2 hj)
   have hb : Nat.beq j i = false := ZQ hne
   simp only [hb, Bool.false_or, hp, Bool.and_eq_true, Bool.or_eq_true] at h5
   refine ⟨fun e => ?_, fun hm => ?_⟩
   ·rw [e] at h5
    simp [Nat.beq_refl] at h5
   ·rcases h5.2 with h6 | h6
    ·rw [QB.2 hm] at h6; cases h6
    ·exact h6
structure Xg where
 i : Nat
 o : Oper
 d : T
 F : Qc → Prop
def X9 (ops : Array Oper) : Nat → Oper → Nat → Bool
 | 0, _, _ => false
 | k + 1, o, j => o.after.toList.any fun e => Region.binds .any e && (Nat.beq e.on j || match ops.toList[e.on]? with
  | some o' => X9 ops k o' j
  | none => false)
theorem Y4 {ops : Array Oper} {listed : Array Bool} (hcl : ∀ i o, ops[i]? = some o → listed.getD i true = true → ∀ e ∈ o.after, Region.binds .any e = true → listed.getD e.on true = true) :
  ∀ (k : Nat) (o : Oper), (∀ e ∈ o.after, Region.binds .any e = true → listed.getD e.on true = true) → ∀ j, X9 ops k o j = true → listed.getD j true = true
 | 0, _, _, _, h => by cases h
 | k + 1, o, ho, j, h => by
  simp only [X9, List.any_eq_true, Bool.and_eq_true, Bool.or_eq_true] at h
  obtain ⟨e, he, hb, h⟩ := h
  have he' := ho e (by simpa using he) hb
  rcases h with h | h
  ·exact (Nat.eq_of_beq_eq_true h) ▸ he'
  ·cases hz : ops.toList[e.on]? with
   | none => rw [hz] at h; cases h
   | some o' =>
    rw [hz] at h
    have hz' : ops[e.on]? = some o' := by simpa using hz
    exact Y4 hcl k o' (hcl _ o' hz' he') j h
def XO (ops : Array Oper) (o : Oper) (H : Qc) : List Xg → Prop
 | [] => True
 | p :: r => (X9 ops 12 o p.i = false → p.F H) ∧ XO ops o H r
theorem XO.get {ops : Array Oper} {o : Oper} {H : Qc} {l : List Xg} (h : XO ops o H l) : ∀ p ∈ l, X9 ops 12 o p.i = false → p.F H := by
 induction l with
 | nil => intro p hp; cases hp
 | cons p r ih =>
  intro q hq
  rcases List.mem_cons.1 hq with rfl | hq
  ·exact h.1
  ·exact ih h.2 q hq
inductive XI (ops : Array Oper) (o : Oper) : List Xg → List Xg → Prop
 | nil : XI ops o [] []
 | keep (p : Xg) (r r' : List Xg) (h : XI ops o r r') : XI ops o (p :: r) (p :: r')
 | drop (p : Xg) (r r' : List Xg) (hb : X9 ops 12 o p.i = true) (h : XI ops o r r') : XI ops o (p :: r) r'
theorem noB {ops : Array Oper} {o : Oper} {j : Nat} {p : Prop} (hb : X9 ops 12 o j = false) (h : X9 ops 12 o j = true) : p := by rw [h] at hb; cases hb
theorem XI.dropL {ops : Array Oper} {o o' : Oper} {i : Nat} {d : T} {F : Qc → Prop} {r r' : List Xg} (hb : X9 ops 12 o i = true) (h : XI ops o r r') : XI ops o (⟨i, o', d, F⟩ :: r) r' := .drop _ _ _ hb h
theorem XI.refl (ops : Array Oper) (o : Oper) : ∀ l : List Xg, XI ops o l l
 | [] => .nil
 | p :: l => .keep p l l (XI.refl ops o l)
theorem XI.sub {ops : Array Oper} {o : Oper} {l l' : List Xg} (h : XI ops o l l') : ∀ p ∈ l', p ∈ l := by
 induction h with
 | nil => exact fun p hp => hp
 | keep q r r' _ ih => intro p hp; rcases List.mem_cons.1 hp with rfl | hp; exact List.mem_cons_self; exact List.mem_cons_of_mem _ (ih p hp)
 | drop q r r' _ _ ih => exact fun p hp => List.mem_cons_of_mem _ (ih p hp)
theorem XI.has {ops : Array Oper} {o : Oper} {l l' : List Xg} (h : XI ops o l l') : ∀ p ∈ l, p ∈ l' ∨ X9 ops 12 o p.i = true := by
 induction h with
 | nil => intro p hp; cases hp
 | keep q r r' _ ih => intro p hp; rcases List.mem_cons.1 hp with rfl | hp; exact .inl List.mem_cons_self; exact (ih p hp).imp (List.mem_cons_of_mem _) id
 | drop q r r' hb _ ih => intro p hp; rcases List.mem_cons.1 hp with rfl | hp; exact .inr hb; exact ih p hp
def QM (K : Ctx) (ops : Array Oper) (eff : List Nat) (i : Nat) (o : Oper) (rest : Env → Qc → List Xg → Prop) (t : Env) (H : Qc) (pend : List Xg) : Prop :=
 bif QS eff i then ∀ t0 : Env, (∀ x ∈ o.op.operands, t0.ev x = t.ev x) → EOp K t0 H o fun t' H' => ∃ d pend', t' = t0.put o.dst d ∧ XO ops o H' pend ∧ XI ops o pend pend' ∧ rest (t.put o.dst d) H' pend'
 else ∃ (d : T) (F : Qc → Prop), (∀ H', F H' → GOp K.P ops t H' o d) ∧ F H ∧ rest (t.put o.dst d) H (⟨i, o, d, F⟩ :: pend)
def Qj (K : Ctx) (ops : Array Oper) (eff : List Nat) (N : Env → Qc → Prop) : List (Nat × Oper) → Env → Qc → List Xg → Prop
 | [] => fun t H _ => N t H
 | p :: l => QM K ops eff p.1 p.2 (Qj K ops eff N l)
section
variable {K : Ctx} {ops : Array Oper} {eff : List Nat} {N : Env → Qc → Prop} {Q : Exit → Act → World → Prop}
structure Way (K : Ctx) (ops : Array Oper) (eff : List Nat) (N : Env → Qc → Prop) (ord pre : List Nat) (l : List (Nat × Oper)) (t : Env) (H : Qc) (pend : List Xg) (listed : Array Bool) : Prop where
 split : ord = pre.reverse ++ l.map (·.1)
 ord : Y2 ops eff pre (l.map (·.1)) = true
 top : ∀ i ∈ pre, ∀ o, ops[i]? = some o → ∀ e ∈ o.after, Region.binds .any e = true → e.on ∈ pre
 nd : pre.Nodup
 is : ∀ p ∈ l, ops[p.1]? = some p.2
 todo : ∀ p ∈ l, listed.getD p.1 true = false
 done : ∀ i ∈ pre, i ∈ eff → listed.getD i false = true
 has : ∀ i ∈ pre, i ∉ eff → listed.getD i true = false → ∃ p ∈ pend, p.i = i
 pis : ∀ p ∈ pend, p.i ∈ pre ∧ p.i ∉ eff ∧ ops[p.i]? = some p.o
 gop : ∀ p ∈ pend, (∀ H', p.F H' → GOp K.P ops t H' p.o p.d) ∧ ∀ k, p.o.dst = some k → t.get k = p.d
 now : ∀ p ∈ pend, listed.getD p.i true = false → p.F H
 closed : ∀ i o, ops[i]? = some o → listed.getD i true = true → ∀ e ∈ o.after, Region.binds .any e = true → listed.getD e.on true = true
 go : Qj K ops eff N l t H pend
theorem XY {pre r : List Nat} {i : Nat} {o : Oper} (ho : ops[i]? = some o) (h : Y2 ops eff pre (i :: r) = true) :
  i ∉ pre ∧ (∀ e ∈ o.after, Region.binds .any e = true → e.on ∈ pre) ∧ (∀ j ∈ pre, j ∈ eff → Yo o j = true) ∧ Y2 ops eff (i :: pre) r = true := by
 simp only [Y2, ho, Bool.and_eq_true] at h
 obtain ⟨⟨⟨h1, h2⟩, h3⟩, h4⟩ := h
 refine ⟨fun hm => ?_, fun e he hb => ?_, fun j hj he => ?_, h4⟩
 ·rw [QB.2 hm] at h1; cases h1
 ·have := Array.all_eq_true_iff_forall_mem.1 h2 e he
  rw [hb] at this
  exact QB.1 (by simpa using this)
 ·have := List.all_eq_true.1 h3 j hj
  rw [QB.2 he] at this
  simpa using this
theorem Dr (hc : WM ops K.n eff) {pre : List Nat} {t : Env} {H' : Qc} {i : Nat} {o : Oper} {d : T} (ho : ops[i]? = some o) (hi : i ∉ pre)
  (htop : ∀ j ∈ pre, ∀ q, ops[j]? = some q → ∀ e ∈ q.after, Region.binds .any e = true → e.on ∈ pre) {p : Xg} (hp : p.i ∈ pre) (hpo : ops[p.i]? = some p.o) (h : GOp K.P ops t H' p.o p.d) : GOp K.P ops (t.put o.dst d) H' p.o p.d := by
 refine GOp.congr h fun x hx => ?_
 cases hd : o.dst with
 | none => rfl
 | some k =>
  by_cases hk : k = x
  ·subst hk
   have hne : p.i ≠ i := fun e => hi (e ▸ hp)
   have hb := ((hc.dst i o k ho hd).2.2 p.i p.o hpo hne).2 hx
   obtain ⟨e, he, h1, h2⟩ := Z8.1 hb
   exact absurd (h2 ▸ htop p.i hp p.o hpo e he h1) hi
  ·exact (Env.get_put_ne t d hk).symm
theorem Dt (hc : WM ops K.n eff) {pre : List Nat} {t : Env} {i : Nat} {o : Oper} {d : T} (ho : ops[i]? = some o) (hi : i ∉ pre) {p : Xg} (hp : p.i ∈ pre) (hpo : ops[p.i]? = some p.o)
  {k : Nat} (hk : p.o.dst = some k) (h : t.get k = p.d) : (t.put o.dst d).get k = p.d := by
 cases hd : o.dst with
 | none => exact h
 | some j =>
  by_cases hj : j = k
  ·subst hj
   have hne : p.i ≠ i := fun e => hi (e ▸ hp)
   exact absurd hk ((hc.dst i o j ho hd).2.2 p.i p.o hpo hne).1
  ·show Env.get (t.put (some j) d) k = _
   rw [Env.get_put_ne t d hj]; exact h
theorem Way.pass (hc : WM ops K.n eff) : ∀ {l : List (Nat × Oper)} {ord pre : List Nat} {t : Env} {H : Qc} {pend : List Xg} {listed : Array Bool} {tx : Env}, Way K ops eff N ord pre l t H pend listed →
  (∀ x, (∀ p ∈ pend, listed.getD p.i true = false → p.o.dst ≠ some x) → tx.get x = t.get x) →
  ∃ pre' l' t' pend', Way K ops eff N ord pre' l' t' H pend' listed ∧ (∀ x, (∀ p ∈ pend', listed.getD p.i true = false → p.o.dst ≠ some x) → tx.get x = t'.get x) ∧ (∀ p ∈ l'.head?, p.1 ∈ eff)
 | [], ord, pre, t, H, pend, listed, tx, h, hx => ⟨pre, [], t, pend, h, hx, by simp⟩
 | (i, o) :: l, ord, pre, t, H, pend, listed, tx, h, hx => by
  by_cases he : i ∈ eff
  ·exact ⟨pre, (i, o) :: l, t, pend, h, hx, by simpa using he⟩
  ·have hgo := h.go
   have hem : QS eff i = false := by
    cases hm : QS eff i with
    | false => rfl
    | true => exact absurd (QB.1 hm) he
   simp only [Qj, QM, hem, cond_false] at hgo
   obtain ⟨d, F, hg, hF, hgo⟩ := hgo
   have ho : ops[i]? = some o := h.is (i, o) List.mem_cons_self
   obtain ⟨h1, h2, h3, h4⟩ := XY ho (by have := h.ord; simpa using this)
   have hun : listed.getD i true = false := h.todo (i, o) List.mem_cons_self
   refine Way.pass hc (l := l) (pre := i :: pre) (t := t.put o.dst d) (pend := ⟨i, o, d, F⟩ :: pend) (tx := tx) ⟨?_, h4, ?_, ?_, fun p hp => h.is p (List.mem_cons_of_mem _ hp), fun p hp => h.todo p (List.mem_cons_of_mem _ hp), ?_, ?_, ?_, ?_, ?_, h.closed, hgo⟩ ?_
   ·rw [h.split]; simp
   ·intro j hj q hq e hee hb
    rcases List.mem_cons.1 hj with rfl | hj
    ·rw [ho] at hq; cases hq
     exact List.mem_cons_of_mem _ (h2 e hee hb)
    ·exact List.mem_cons_of_mem _ (h.top j hj q hq e hee hb)
   ·exact List.nodup_cons.2 ⟨h1, h.nd⟩
   ·intro j hj hje
    rcases List.mem_cons.1 hj with rfl | hj
    ·exact absurd hje he
    ·exact h.done j hj hje
   ·intro j hj hje hlj
    rcases List.mem_cons.1 hj with rfl | hj
    ·exact ⟨_, List.mem_cons_self, rfl⟩
    ·obtain ⟨p, hp, hpi⟩ := h.has j hj hje hlj
     exact ⟨p, List.mem_cons_of_mem _ hp, hpi⟩
   ·intro p hp
    rcases List.mem_cons.1 hp with rfl | hp
    ·exact ⟨List.mem_cons_self, he, ho⟩
    ·obtain ⟨a, b, c⟩ := h.pis p hp
     exact ⟨List.mem_cons_of_mem _ a, b, c⟩
   ·intro p hp
    rcases List.mem_cons.1 hp with rfl | hp
    ·refine ⟨fun H' hF' => GOp.congr (hg H' hF') fun x hx' => ?_, fun k hk => ?_⟩
     ·simp only at hx'
      cases hd : o.dst with
      | none => rfl
      | some k => exact (Env.get_put_ne t d (fun e => (hc.dst i o k ho hd).2.1 (by rw [e]; exact hx'))).symm
     ·simp only at hk ⊢; rw [hk]; exact Env.get_put_self _ _ _
    ·obtain ⟨a, b, c⟩ := h.pis p hp
     exact ⟨fun H' hF' => Dr hc ho h1 h.top a c ((h.gop p hp).1 H' hF'), fun k hk => Dt hc ho h1 a c hk ((h.gop p hp).2 k hk)⟩
   ·intro p hp hl
    rcases List.mem_cons.1 hp with rfl | hp
    ·exact hF
    ·exact h.now p hp hl
   ·intro x hxx
    have hne : o.dst ≠ some x := hxx ⟨i, o, d, F⟩ List.mem_cons_self hun
    rw [hx x fun p hp hl => hxx p (List.mem_cons_of_mem _ hp) hl]
    cases hd : o.dst with
    | none => rfl
    | some k => exact (Env.get_put_ne t d (fun e => hne (by rw [hd, e]))).symm
theorem lst {listed : Array Bool} {i : Nat} (h : i < listed.size) : listed.getD i false = listed.getD i true := by simp [Array.getD_eq_getD_getElem?, h]
theorem OI {listed : Array Bool} {i : Nat} (h : listed.getD i false = true) : listed.getD i true = true := by
 by_cases hi : i < listed.size
 ·rw [← lst hi]; exact h
 ·simp [Array.getD_eq_getD_getElem?, hi] at h
theorem Q4 {listed : Array Bool} {i : Nat} (h : i < listed.size) (d : Bool) : (listed.setIfInBounds i true).getD i d = true := by simp [h]
theorem R.env {t t' : Env} {H : Qc} {a : Act} {w : World} (h : R K t H a w) (he : ∀ x, t.get x = t'.get x) : R K t' H a w := by
 obtain ⟨S, h⟩ := h
 exact ⟨S, h.size, h.defers.env fun j => he _, h.step, h.own, h.mine, fun k => he k ▸ h.env k⟩
theorem AX (hc : WM ops K.n eff) (hq : ∀ t' H' a' w', N t' H' → R K t' H' a' w' → Q .normal a' w') {ord : List Nat} (hord : ∀ i, i < ops.size → i ∈ ord) :
  ∀ (fuel : Nat) (pre : List Nat) (l : List (Nat × Oper)) (t : Env) (H : Qc) (pend : List Xg) (listed : Array Bool) (tx : Env) (a : Act) (w : World), listed.size = ops.size → unl listed ops.size = fuel →
   Way K ops eff N ord pre l t H pend listed → (∀ x, (∀ p ∈ pend, listed.getD p.i true = false → p.o.dst ≠ some x) → tx.get x = t.get x) → R K tx H a w → wpAnyIn (RF K.rd) 0 K.P .any ops Q fuel listed a w := by
 intro fuel
 induction fuel with
 | zero =>
  intro pre l t H pend listed tx a w hs hf hw hx hr
  obtain ⟨pre, l, t, pend, hw, hx, hh⟩ := Way.pass hc hw hx
  have hall : ∀ j, j < ops.size → listed.getD j true = true := fun j hj => by
   have h0 := List.length_eq_zero_iff.1 hf
   have h1 := (List.filter_eq_nil_iff.1 h0) j (List.mem_range.2 hj)
   simpa using h1
  have hlt : ∀ j o, ops[j]? = some o → j < ops.size := fun j o h => (Array.getElem?_eq_some_iff.1 h).1
  refine ⟨?_, ?_⟩
  ·refine List.eq_nil_iff_forall_not_mem.2 fun j hj => ?_
   obtain ⟨h0, o, ho, _⟩ := mem_ready.1 hj
   rw [hall j (hlt j o ho)] at h0; cases h0
  ·cases l with
   | cons p l =>
    have := hw.todo p List.mem_cons_self
    rw [hall _ (hlt _ _ (hw.is p List.mem_cons_self))] at this; cases this
   | nil =>
    refine hq t H a w hw.go (hr.env fun x => hx x fun p hp hl => ?_)
    rw [hall _ (hlt _ _ (hw.pis p hp).2.2)] at hl; cases hl
 | succ fuel ih =>
  intro pre l t H pend listed tx a w hs hf hw hx hr
  obtain ⟨pre, l, t, pend, hw, hx, hh⟩ := Way.pass hc hw hx
  have hlt : ∀ j o, ops[j]? = some o → j < ops.size := fun j o h => (Array.getElem?_eq_some_iff.1 h).1
  have hex : ∃ i, i < ops.size ∧ listed.getD i true = false := by
   refine Classical.byContradiction fun hne => ?_
   have : unl listed ops.size = 0 := by
    unfold unl
    rw [List.length_eq_zero_iff, List.filter_eq_nil_iff]
    intro j hj
    have hj' := List.mem_range.1 hj
    cases hv : listed.getD j true with
    | false => exact absurd ⟨j, hj', hv⟩ hne
    | true => simp
   omega
  have hmin : ∃ i, i < ops.size ∧ listed.getD i true = false ∧ ∀ j, j < i → listed.getD j true = true := by
   obtain ⟨i, hi1, hi2⟩ := hex
   induction i using Nat.strongRecOn with
   | _ i ihm =>
    by_cases h : ∀ j, j < i → listed.getD j true = true
    ·exact ⟨i, hi1, hi2, h⟩
    ·obtain ⟨j, hj⟩ := Classical.not_forall.1 h
     obtain ⟨hj1, hj2⟩ := Classical.not_imp.1 hj
     exact ihm j hj1 (by omega) (by simpa using hj2)
  obtain ⟨i0, hi0, hu0, hl0⟩ := hmin
  have hr0 : i0 ∈ Region.ready .any ops listed := mem_ready.2 ⟨hu0, ops[i0], by simp [hi0], fun e he hb => by
   have := hc.back i0 _ (by simp [hi0]) e he hb
   rw [lst (by omega)]; exact hl0 _ this⟩
  refine ⟨fun hn => (by rw [hn] at hr0; cases hr0), fun i hir => ?_⟩
  obtain ⟨hu, o, ho, hall⟩ := mem_ready.1 hir
  have hisz : i < ops.size := hlt i o ho
  have hbnd : ∀ j, j < ops.size → Yo o j = true → listed.getD j true = true := fun j hj hb => by
   obtain ⟨e, he, h1, h2⟩ := Z8.1 hb
   have := hall e he h1
   rw [h2, lst (by omega)] at this; exact this
  have hlook : ∀ x ∈ o.looksAt ops, tx.get x = t.get x := fun x hxo => hx x fun p hp hl he => by
   have hpi := (hw.pis p hp).2.2
   by_cases hne : i = p.i
   ·rw [← hne, ho] at hpi
    have e := Option.some.inj hpi
    exact (hc.dst i o x ho (e ▸ he)).2.1 hxo
   ·have := hbnd _ (hlt _ _ hpi) (((hc.dst p.i p.o x hpi he).2.2 i o ho hne).2 hxo)
    rw [this] at hl; cases hl
  have hopr : ∀ x ∈ o.op.operands, tx.ev x = t.ev x := by
   intro x hx'
   cases x with
   | tmp k' => exact hlook k' (List.mem_append_left _ (List.mem_filterMap.2 ⟨.tmp k', by simpa using hx', rfl⟩))
   | _ => rfl
  have hun := LR hs hisz hu
  have hfu : unl (listed.setIfInBounds i true) ops.size = fuel := by omega
  have hset : ∀ j, ¬ i = j → ∀ d, (listed.setIfInBounds i true).getD j d = listed.getD j d := fun j hj d => getD_set_ne d hj
  have hcl' : ∀ i' o', ops[i']? = some o' → (listed.setIfInBounds i true).getD i' true = true → ∀ e ∈ o'.after, Region.binds .any e = true → (listed.setIfInBounds i true).getD e.on true = true := fun i' o' ho' hl e he hb => by
   by_cases hie : i = e.on
   ·rw [← hie]; exact Q4 (by omega) _
   ·rw [hset _ hie]
    by_cases hii : i = i'
    ·subst hii; rw [ho] at ho'; cases ho'
     exact OI (hall e he hb)
    ·rw [hset _ hii] at hl; exact hw.closed i' o' ho' hl e he hb
  have hbr : ∀ j, X9 ops 12 o j = true → listed.getD j true = true := Y4 hw.closed 12 o fun e he hb => OI (hall e he hb)
  have hmem : i ∈ pre.reverse ++ l.map (·.1) := hw.split ▸ hord i hisz
  by_cases hpre : i ∈ pre
  ·
   have hne : i ∉ eff := fun he => by
    have := hw.done i hpre he
    rw [lst (by omega)] at this
    rw [this] at hu; cases hu
   obtain ⟨p, hp, hpi⟩ := hw.has i hpre hne hu
   have hpo : p.o = o := by
    have := (hw.pis p hp).2.2
    rw [hpi, ho] at this
    exact (Option.some.inj this).symm
   obtain ⟨k, hk⟩ : ∃ k, o.dst = some k := by
    cases hd : o.dst with
    | none => exact absurd (hc.pur i o ho hd) hne
    | some k => exact ⟨k, rfl⟩
   have hF := hw.now p hp (by rw [hpi]; exact hu)
   have hg := (hw.gop p hp).1 H hF
   have hgk := (hw.gop p hp).2 k (by rw [hpo]; exact hk)
   rw [hpo] at hg
   obtain ⟨hkn, hself, hoth⟩ := hc.dst i o k ho hk
   have next : ∀ (S S' : Nat → Prop) (w' : World) (v : Value), R1 K tx H a w S → QN [] S w S' w' → Rel S' w' p.d v → wpAnyIn (RF K.rd) 0 K.P .any ops Q fuel (listed.setIfInBounds i true) (a.put o.dst v) w' := by
    intro S S' w' v hr1 hst hrv
    refine ih pre l t H pend _ (tx.put o.dst p.d) _ w' (by simpa using hs) hfu ⟨hw.split, hw.ord, hw.top, hw.nd, hw.is, fun q hq => ?_, fun j hj he => ?_, fun j hj he hlj => hw.has j hj he (by
     by_cases hij : i = j
     ·subst hij; exact hu
     ·rw [hset _ hij] at hlj; exact hlj), hw.pis, hw.gop, fun q hq hl => ?_, hcl', hw.go⟩ ?_ ⟨S', hr1.pure hst (by rw [hk]; simpa [Xo] using hkn) hrv⟩
    ·have h1 := hw.todo q hq
     by_cases hqi : i = q.1
     ·exfalso
      have : q.1 ∉ pre := fun hm => by
       have hsp : ∀ (l : List (Nat × Oper)) (pre : List Nat), Y2 ops eff pre (l.map (·.1)) = true → ∀ q ∈ l, q.1 ∉ pre := by
        intro l
        induction l with
        | nil => intro _ _ q hq; cases hq
        | cons r l ihl =>
         intro pre hok q hq
         obtain ⟨o', ho'⟩ : ∃ o', ops[r.1]? = some o' := by
          simp only [List.map_cons, Y2] at hok
          cases hz : ops[r.1]? with
          | none => rw [hz] at hok; simp at hok
          | some o' => exact ⟨o', rfl⟩
         obtain ⟨c1, _, _, c4⟩ := XY ho' (by simpa using hok)
         rcases List.mem_cons.1 hq with rfl | hq
         ·exact c1
         ·exact fun hm => ihl _ c4 q hq (List.mem_cons_of_mem _ hm)
       exact hsp l pre hw.ord q hq hm
      exact this (hqi ▸ hpre)
     ·rw [hset _ hqi]; exact h1
    ·by_cases hij : i = j
     ·subst hij; exact Q4 (by omega) _
     ·rw [hset _ hij]; exact hw.done j hj he
    ·by_cases hqi : i = q.i
     ·rw [← hqi, Q4 (by omega)] at hl; cases hl
     ·rw [hset _ hqi] at hl; exact hw.now q hq hl
    ·intro x hxx
     rw [hk]
     by_cases hkx : k = x
     ·subst hkx; rw [Env.get_put_self, hgk]
     ·rw [Env.get_put_ne _ _ hkx]
      refine hx x fun q hq hl he => ?_
      by_cases hqi : i = q.i
      ·have := (hw.pis q hq).2.2
       rw [← hqi, ho] at this
       cases this
       rw [hk] at he; cases he
       exact hkx rfl
      ·exact hxx q hq (by rw [hset _ hqi]; exact hl) he
   obtain ⟨S, hr1⟩ := hr
   have hop : ∀ x ∈ o.op.operands, Rel S w (t.ev x) (a.eval x) := fun x hx' => hopr x hx' ▸ hr1.env.ev x
   unfold wpOpIn
   simp only [ho]
   unfold GOp at hg
   cases hgu : o.guard with
   | none =>
    rw [hgu] at hg
    simp only [Q7 hgu a, if_true]
    exact YV (hg S w a hr1.wf hr1.own hop) fun S' w' v hst hrv => next S S' w' v hr1 hst hrv
   | some jw =>
    obtain ⟨j, want⟩ := jw
    rw [hgu] at hg
    obtain ⟨k', b, hj, hb, hyes, hno⟩ := hg
    have hv : a.tmps.getD k' undef = b := by
     have := hr1.env k'
     rw [hlook k' (by unfold Oper.looksAt; rw [hgu]; simp [hj]), hb] at this
     exact this.v_eq
    by_cases hwb : b = .bool want
    ·simp only [(Xv hgu hj hv).1 hwb, if_true]
     exact YV (hyes hwb S w a hr1.wf hr1.own hop) fun S' w' v hst hrv => next S S' w' v hr1 hst hrv
    ·simp only [(Xv hgu hj hv).2 hwb, Bool.false_eq_true, if_false]
     exact ⟨fun _ _ => trivial, next S S w undef hr1 (QN.refl _ hr1.wf) (by rw [hno hwb]; exact .v _)⟩
  ·
   have hml : i ∈ l.map (·.1) := by
    rcases List.mem_append.1 hmem with h | h
    ·exact absurd (List.mem_reverse.1 h) hpre
    ·exact h
   cases l with
   | nil => cases hml
   | cons p l =>
    have hpe : p.1 ∈ eff := hh p (by simp)
    have hpo := hw.is p List.mem_cons_self
    obtain ⟨c1, c2, c3, c4⟩ := XY hpo (by have := hw.ord; simpa using this)
    have hip : i = p.1 := by
     rcases List.mem_cons.1 (show i ∈ p.1 :: l.map (·.1) from hml) with h | h
     ·exact h
     ·exfalso
      have hsp : ∀ (l : List (Nat × Oper)) (pre : List Nat), Y2 ops eff pre (l.map (·.1)) = true → i ∈ l.map (·.1) → ∀ j ∈ pre, j ∈ eff → Yo o j = true := by
       intro l
       induction l with
       | nil => intro _ _ hq; cases hq
       | cons r l ihl =>
        intro pre hok hq j hj he
        rcases List.mem_cons.1 (show i ∈ r.1 :: l.map (·.1) from hq) with h | h
        ·subst h
         exact (XY ho (by simpa using hok)).2.2.1 j hj he
        ·obtain ⟨o', ho'⟩ : ∃ o', ops[r.1]? = some o' := by
          simp only [List.map_cons, Y2] at hok
          cases hz : ops[r.1]? with
          | none => rw [hz] at hok; simp at hok
          | some o' => exact ⟨o', rfl⟩
         exact ihl _ (XY ho' (by simpa using hok)).2.2.2 (by simpa using h) j (List.mem_cons_of_mem _ hj) he
      have hb := hsp l (p.1 :: pre) c4 (by simpa using h) p.1 List.mem_cons_self hpe
      have := hbnd p.1 (hlt _ _ hpo) hb
      rw [hw.todo p List.mem_cons_self] at this; cases this
    obtain ⟨pi, po⟩ := p
    simp only at hip hpo hpe c1 c2 c3 c4
    subst hip
    rw [ho] at hpo; cases hpo
    have hgo := hw.go
    simp only [Qj, QM, QB.2 hpe, cond_true] at hgo
    have hgu := hc.grd i o ho hpe
    unfold wpOpIn
    simp only [ho, Q7 hgu a, if_true]
    refine hgo tx hopr a w hr _ Q ?_
    rintro t' H' a' w' ⟨d, pend', rfl, hpk, hdrop, hgo'⟩ hr'
    refine ih (i :: pre) l (t.put o.dst d) H' pend' _ (tx.put o.dst d) a' w' (by simpa using hs) hfu ⟨by rw [hw.split]; simp, c4, ?_, List.nodup_cons.2 ⟨c1, hw.nd⟩, fun q hq => hw.is q (List.mem_cons_of_mem _ hq), ?_, ?_, ?_, ?_, ?_, ?_, hcl', hgo'⟩ ?_ hr'
    ·intro j hj q hq e hee hb
     rcases List.mem_cons.1 hj with rfl | hj
     ·rw [ho] at hq; cases hq
      exact List.mem_cons_of_mem _ (c2 e hee hb)
     ·exact List.mem_cons_of_mem _ (hw.top j hj q hq e hee hb)
    ·intro q hq
     by_cases hqi : i = q.1
     ·exfalso
      have hsp : ∀ (l : List (Nat × Oper)) (pre : List Nat), Y2 ops eff pre (l.map (·.1)) = true → ∀ q ∈ l, q.1 ∉ pre := by
       intro l
       induction l with
       | nil => intro _ _ q hq; cases hq
       | cons r l ihl =>
        intro pre hok q hq
        obtain ⟨o', ho'⟩ : ∃ o', ops[r.1]? = some o' := by
         simp only [List.map_cons, Y2] at hok
         cases hz : ops[r.1]? with
         | none => rw [hz] at hok; simp at hok
         | some o' => exact ⟨o', rfl⟩
        obtain ⟨c1, _, _, c4⟩ := XY ho' (by simpa using hok)
        rcases List.mem_cons.1 hq with rfl | hq
        ·exact c1
        ·exact fun hm => ihl _ c4 q hq (List.mem_cons_of_mem _ hm)
      exact hsp l (i :: pre) c4 q hq (hqi ▸ List.mem_cons_self)
     ·rw [hset _ hqi]; exact hw.todo q (List.mem_cons_of_mem _ hq)
    ·intro j hj he
     by_cases hij : i = j
     ·subst hij; exact Q4 (by omega) _
     ·rw [hset _ hij]
      rcases List.mem_cons.1 hj with h | h
      ·exact absurd h.symm hij
      ·exact hw.done j h he
    ·intro j hj he hlj
     rcases List.mem_cons.1 hj with rfl | hj
     ·exact absurd hpe he
     ·have hij : ¬ i = j := fun e => by subst e; rw [Q4 (by omega)] at hlj; cases hlj
      rw [hset _ hij] at hlj
      obtain ⟨q, hq, hqj⟩ := hw.has j hj he hlj
      rcases hdrop.has q hq with h | h
      ·exact ⟨q, h, hqj⟩
      ·rw [← hqj, hbr q.i h] at hlj; cases hlj
    ·intro q hq
     obtain ⟨a1, a2, a3⟩ := hw.pis q (hdrop.sub q hq)
     exact ⟨List.mem_cons_of_mem _ a1, a2, a3⟩
    ·intro q hq
     replace hq := hdrop.sub q hq
     obtain ⟨a1, a2, a3⟩ := hw.pis q hq
     exact ⟨fun H' hF' => Dr hc ho c1 hw.top a1 a3 ((hw.gop q hq).1 H' hF'), fun k hk => Dt hc ho c1 a1 a3 hk ((hw.gop q hq).2 k hk)⟩
    ·intro q hq hl
     replace hq := hdrop.sub q hq
     by_cases hqi : i = q.i
     ·rw [← hqi, Q4 (by omega)] at hl; cases hl
     ·rw [hset _ hqi] at hl
      refine hpk.get q hq ?_
      cases hb : X9 ops 12 o q.i with
      | false => rfl
      | true =>
       rw [hbr q.i hb] at hl; cases hl
    ·intro x hxx
     replace hxx : ∀ q ∈ pend, (listed.setIfInBounds i true).getD q.i true = false → q.o.dst ≠ some x := fun q hq hl => by
      rcases hdrop.has q hq with h | h
      ·exact hxx q h hl
      ·have h2 := hbr q.i h
       by_cases hqi : i = q.i
       ·rw [← hqi, Q4 (by omega)] at hl; cases hl
       ·rw [hset _ hqi, h2] at hl; cases hl
     cases hd : o.dst with
     | none =>
      show tx.get x = t.get x
      refine hx x fun q hq hl he => ?_
      by_cases hqi : i = q.i
      ·exact absurd (hqi ▸ (hw.pis q hq).2.1) (fun h => h hpe)
      ·exact hxx q hq (by rw [hset _ hqi]; exact hl) he
     | some k =>
      by_cases hkx : k = x
      ·subst hkx; rw [Env.get_put_self, Env.get_put_self]
      ·rw [Env.get_put_ne _ _ hkx, Env.get_put_ne _ _ hkx]
       refine hx x fun q hq hl he => ?_
       by_cases hqi : i = q.i
       ·exact absurd (hqi ▸ (hw.pis q hq).2.1) (fun h => h hpe)
       ·exact hxx q hq (by rw [hset _ hqi]; exact hl) he
theorem Vv : ∀ (ord : List Nat), (∀ i ∈ ord, i < ops.size) → (∀ p ∈ pick ops ord, ops[p.1]? = some p.2) ∧ (pick ops ord).map (·.1) = ord
 | [], _ => ⟨by simp [pick], rfl⟩
 | i :: r, h => by
  have hi := h i List.mem_cons_self
  have ih := Vv r fun j hj => h j (List.mem_cons_of_mem _ hj)
  have e : ops[i]? = some ops[i] := by simp [hi]
  refine ⟨fun p hp => ?_, ?_⟩
  ·simp only [pick, e] at hp
   rcases List.mem_cons.1 hp with rfl | hp
   ·exact e
   ·exact ih.1 p hp
  ·simp only [pick, e, List.map_cons, ih.2]
theorem V0 : ∀ (ord pre : List Nat), Y2 ops eff pre ord = true → ∀ i ∈ ord, i < ops.size
 | [], _, _, i, hi => by cases hi
 | j :: r, pre, h, i, hi => by
  obtain ⟨o, ho⟩ : ∃ o, ops[j]? = some o := by
   simp only [Y2] at h
   cases hz : ops[j]? with
   | none => rw [hz] at h; simp at h
   | some o => exact ⟨o, rfl⟩
  rcases List.mem_cons.1 hi with rfl | hi
  ·exact (Array.getElem?_eq_some_iff.1 ho).1
  ·exact V0 r _ (XY ho h).2.2.2 i hi
theorem CO {t : Env} {H : Qc} {id : Nat} {Ψ : Exit → Env → Qc → Prop} (ord eff : List Nat) (hmix : K.P.follows .mixedOrders = true) (hc : Cu ops K.n eff ord = true)
  (h : Qj K ops eff (Ψ .normal) (pick ops ord) t H []) : Sim K (.region id ops true) t H Ψ := by
 intro a w ⟨S, hr⟩
 refine wpIn_region_any hmix ?_
 simp only [Cu, Bool.and_eq_true] at hc
 obtain ⟨⟨c1, c2⟩, c3⟩ := hc
 have hst : QN [] S w S { w with drawn := w.drawn + 1 } := ⟨rfl, rfl, rfl, Nat.le_refl _, fun _ _ _ => rfl, fun _ h => h, fun _ h => .inl h, hr.wf⟩
 obtain ⟨p1, p2⟩ := Vv (ops := ops) ord (V0 ord [] c2)
 have hfalse : ∀ j : Nat, j < ops.size → (Array.replicate ops.size false).getD j true = false := fun j hj => by simp [Array.getD_eq_getD_getElem?, hj]
 refine AX (WM.of c3) (fun t' H' a' w' hn hr' => ⟨t', H', hn, hr'⟩) (ord := ord) (fun i hi => QB.1 (List.all_eq_true.1 c1 i (List.mem_range.2 hi))) ops.size [] (pick ops ord) t H [] _ t a _ (by simp) ?_
  ⟨by rw [p2]; rfl, by rw [p2]; exact c2, by simp, by simp, p1, fun p hp => hfalse _ (Array.getElem?_eq_some_iff.1 (p1 p hp)).1, by simp, by simp, by simp, by simp, by simp, (fun i o hi hl => by rw [hfalse i (Array.getElem?_eq_some_iff.1 hi).1] at hl; cases hl), h⟩ (fun x _ => rfl)
  ⟨S, hr.size, hr.defers.step (hst.mono hr.wf (by simp)) hst.objs0 hst.size, hr.step.trans hst (by simp), hr.own.step hst hr.wf (by simp) (by simp), hr.mine, hr.env.mono (hst.mono hr.wf (by simp))⟩
 unfold unl
 rw [List.filter_eq_self.2]
 ·simp
 ·intro j hj
  have := List.mem_range.1 hj
  simp [Array.getD_eq_getD_getElem?, this]
end
end Go.Cap
