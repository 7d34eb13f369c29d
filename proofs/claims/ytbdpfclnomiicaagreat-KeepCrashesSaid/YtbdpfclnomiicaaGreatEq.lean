/-
  More rules: structs told from structs.
-/
import Derived.Test.YtbdpfclnomiicaaGreatWalk
import Derived.ProofKit
namespace Go.Cap
/-- Two rows of cells told apart, field by field. -/
inductive EqF (P : Program) : Nat → List Field → List Value → List Value → Prop → Prop
  | nil (i : Nat) : EqF P i [] [] [] True
  | int (i : Nat) (f : Field) (fs : List Field) (k k' : IntKind) (a b : Int) (as bs : List Value) (p : Prop) (hu : P.underlying f.type = some (.int k')) (ho : f.offset = i) (hn : (f.name != "_") = true) (hs : EqF P (i + 1) fs as bs p) :
      EqF P i (f :: fs) (.int k a :: as) (.int k b :: bs) (a = b ∧ p)
  | bool (i : Nat) (f : Field) (fs : List Field) (a b : Bool) (as bs : List Value) (p : Prop) (hu : P.underlying f.type = some .bool) (ho : f.offset = i) (hn : (f.name != "_") = true) (hs : EqF P (i + 1) fs as bs p) :
      EqF P i (f :: fs) (.bool a :: as) (.bool b :: bs) (a = b ∧ p)
theorem run_part1 {P : Program} {w : World} {ty : TypeId} (cs : Array Value) (i : Nat) (v : Value) (hu : leafTy P ty = true) (hv : cs[i]? = some v) : (part ty cs i).run P w = .ok v w := by
  simp [part, leaf_of hu w, hv]
theorem leaf_int {P : Program} {ty : TypeId} {k : IntKind} (h : P.underlying ty = some (.int k)) : leafTy P ty = true := by simp [leafTy, h]
theorem leaf_bool {P : Program} {ty : TypeId} (h : P.underlying ty = some .bool) : leafTy P ty = true := by simp [leafTy, h]
theorem EqF.run {P : Program} {w : World} {i : Nat} {fs : List Field} {as bs : List Value} {p : Prop} (h : EqF P i fs as bs p) : ∀ (xs ys : Array Value) (d : Nat), (∀ j, as[j]? = xs[i + j]?) → (∀ j, bs[j]? = ys[i + j]?) →
    ∃ r : Bool, (Op.eqFields (d + 1) xs ys fs).run P w = .ok r w ∧ (r = true ↔ p) := by
  induction h with
  | nil i => intro xs ys d _ _; exact ⟨true, by simp [Op.eqFields], by simp⟩
  | int i f fs k k' a b as bs p hu ho hn hs ih =>
    intro xs ys d hx hy
    obtain ⟨r, h1, h2⟩ := ih xs ys d (fun j => by have := hx (j + 1); rw [List.getElem?_cons_succ] at this; rw [this]; congr 1; omega) (fun j => by have := hy (j + 1); rw [List.getElem?_cons_succ] at this; rw [this]; congr 1; omega)
    have e1 := run_part1 (w := w) xs f.offset (.int k a) (leaf_int hu) (by have := hx 0; rw [ho]; simpa using this.symm)
    have e2 := run_part1 (w := w) ys f.offset (.int k b) (leaf_int hu) (by have := hy 0; rw [ho]; simpa using this.symm)
    have hn' : ¬ f.name = "_" := by simpa using hn
    have e3 := run_equalIn_int w d f.type k k' a b hu
    by_cases hab : a = b
    · subst hab; exact ⟨r, by rw [beq_self_eq_true] at e3; simp [Op.eqFields, hn', e1, e2, e3, h1], by simp [h2]⟩
    · exact ⟨false, by rw [show (a == b) = false by simpa using hab] at e3; simp [Op.eqFields, hn', e1, e2, e3], by simp [hab]⟩
  | bool i f fs a b as bs p hu ho hn hs ih =>
    intro xs ys d hx hy
    obtain ⟨r, h1, h2⟩ := ih xs ys d (fun j => by have := hx (j + 1); rw [List.getElem?_cons_succ] at this; rw [this]; congr 1; omega) (fun j => by have := hy (j + 1); rw [List.getElem?_cons_succ] at this; rw [this]; congr 1; omega)
    have e1 := run_part1 (w := w) xs f.offset (.bool a) (leaf_bool hu) (by have := hx 0; rw [ho]; simpa using this.symm)
    have e2 := run_part1 (w := w) ys f.offset (.bool b) (leaf_bool hu) (by have := hy 0; rw [ho]; simpa using this.symm)
    have hn' : ¬ f.name = "_" := by simpa using hn
    have e3 := run_equalIn_bool w d f.type a b hu
    by_cases hab : a = b
    · subst hab; exact ⟨r, by rw [beq_self_eq_true] at e3; simp [Op.eqFields, hn', e1, e2, e3, h1], by simp [h2]⟩
    · exact ⟨false, by rw [show (a == b) = false by simpa using hab] at e3; simp [Op.eqFields, hn', e1, e2, e3], by simp [hab]⟩
theorem hrep_one {p p1 p' : Nat × Blk} {H' : Heap} (h : HRep [p] p1 p' H') : H' = [p'] := by
  obtain ⟨i, h1, rfl⟩ := h
  cases i with
  | zero => rfl
  | succ i => simp at h1
theorem map_getD {α : Type} [Inhabited α] {f : α → T} {l : List α} {i : Nat} (h : i < l.length) : (l.map f)[(i : Int).toNat]? = some (f (l.getD i default)) := by simp [h]
section
variable {K : Ctx} {t : Env} {H : Heap} {Ψ : Exit → Env → Heap → Prop}
def cutE {σ : Type} (ok : σ → Prop) (env : σ → Env) (heap : σ → Heap) (Ψ : Exit → Env → Heap → Prop) : Exit → Env → Heap → Prop
  | .normal, t, H => ∃ s, ok s ∧ EnvLe t (env s) ∧ HeapFront H (heap s)
  | e, t, H => Ψ e t H
/-- Where ways meet: what is known, of some s. -/
theorem sim_cutE {σ : Type} {c r : Code} (ok : σ → Prop) (env : σ → Env) (heap : σ → Heap) (h : Sim K c t H (cutE ok env heap Ψ)) (h' : ∀ s, ok s → Sim K r (env s) (heap s) Ψ) : Sim K c t H (thenΨ K r Ψ) :=
  sim_mono h (fun e t1 H1 hc => by
    cases e with
    | normal =>
      obtain ⟨s, h1, h2, h3⟩ := hc
      exact sim_to (env s) (heap s) h2 h3 (h' s h1)
    | _ => exact hc)
theorem cutE_ret {σ : Type} {ok : σ → Prop} {env : σ → Env} {heap : σ → Heap} : cutE ok env heap Ψ .ret t H = Ψ .ret t H := rfl
end
section
variable {P : Program} {t : Env} {H : Heap} {dst : Option Tmp} {tp : TypeId} {pos : String} {aft : Array Edge} {g : Option (Nat × Bool)} {ty ty' : TypeId} {x y : Operand} {as bs : List Value} {p : Prop}
theorem relL_vals {S : Nat → Prop} {w : World} : ∀ {as : List Value} {vs : List Value}, RelL S w (as.map T.v) vs → vs = as
  | [], _, .nil => rfl
  | _ :: _, _, .cons _ _ _ _ h hs => by rw [relL_vals hs, h.v_eq]
/-- Cells that are single values. -/
inductive Vals : List T → List Value → Prop
  | nil : Vals [] []
  | cons (v : Value) (xs : List T) (as : List Value) (h : Vals xs as) : Vals (.v v :: xs) (v :: as)
theorem Vals.eq {xs : List T} {as : List Value} (h : Vals xs as) : xs = as.map T.v := by
  induction h with
  | nil => rfl
  | cons v xs as h ih => rw [ih]; rfl
theorem Rel.agg_inv {S : Nat → Prop} {w : World} {xs : List T} {v : Value} (h : Rel S w (.agg xs) v) : ∃ vs : List Value, v = .agg vs.toArray ∧ RelL S w xs vs := by
  cases h with
  | agg _ vs h => exact ⟨vs, rfl, h⟩
theorem pop_eql_agg {xs ys : List T} (hx' : t.ev x = .agg xs) (hy' : t.ev y = .agg ys) (hxs : Vals xs as) (hys : Vals ys bs) (hu : P.underlying ty = some (.struct (P.fieldsOf ty))) (hh : P.stoodInHeld ty = false) (hg : P.eqGuardType P.depth ty = false) (he : EqF P 0 (P.fieldsOf ty).toList as bs p) :
    POp P t H ⟨dst, .binOp .eql ty x y ty', tp, pos, aft, g⟩ (.v (.bool (@decide p (Classical.propDecidable p)))) :=
  POp.still fun S w a _ _ hr => by
    have hx : t.ev x = .agg (as.map T.v) := by rw [hx', hxs.eq]
    have hy : t.ev y = .agg (bs.map T.v) := by rw [hy', hys.eq]
    have h1 := hr x (by simp [Op.operands]); rw [hx] at h1
    have h2 := hr y (by simp [Op.operands]); rw [hy] at h2
    obtain ⟨us, e1, h1⟩ := h1.agg_inv
    obtain ⟨vs, e2, h2⟩ := h2.agg_inv
    obtain ⟨r, er, hiff⟩ := he.run (w := w) us.toArray vs.toArray 9998 (fun j => by rw [relL_vals h1]; simp) (fun j => by rw [relL_vals h2]; simp)
    have e : (Op.equal ty (.agg us.toArray) (.agg vs.toArray)).run P w = .ok r w := by
      show (Op.equalIn (9999 + 1) ty _ _).run P w = _
      rw [run_equalIn_struct w 9999 ty _ _ hu hh]; exact er
    refine ⟨_, ?_, .v _⟩
    have hrp : r = @decide p (Classical.propDecidable p) := by by_cases hp : p <;> simp [hp] at hiff ⊢ <;> exact hiff
    simp only [execOp, e1, e2]
    simp [eqGuard, binOp, e, hrp, hg]
/-- 'append' of nothing: what was there. -/
theorem pop_append0 {xs : List T} {f : Bool} {dx dy : T} {d : T} {by_ : Nat} (hx : t.ev x = dx) (hxl : Le dx (.sl true xs)) (hy : t.ev y = dy) (hyl : Le dy (.sl f [])) [hz : ElemZC P ty d by_] (hs : isSliceTy P ty' = true) :
    POp P t H ⟨dst, .call ⟨.builtin .append, #[x, y], #[ty, ty']⟩, tp, pos, aft, g⟩ (.sl true xs) :=
  POp.run fun S w a hw _ hr => by
    have h1 := hr x (by simp [Op.operands, Call.operands]); rw [hx] at h1
    have h2 := hr y (by simp [Op.operands, Call.operands]); rw [hy] at h2
    replace h1 := hxl _ _ _ h1
    replace h2 := hyl _ _ _ h2
    obtain ⟨e, i, z, hu, hi, hzz, hsz, hp, rfl, hby⟩ := elemZ_of hz.h
    obtain ⟨e', _, hu', _⟩ := slice_of hs
    have hl := ofVal_cells z
    have hk0 : 0 < (T.ofVal z).cells.length := by omega
    obtain ⟨a1, c1, he1, hc1, hf1⟩ := slice_shape h1
    have e1 : (execOp a.eval ⟨dst, .call ⟨.builtin .append, #[x, y], #[ty, ty']⟩, tp, pos, aft, g⟩).run P w = ((Builtin.append_ #[ty, ty'] tp #[a.eval x, a.eval y]).run P w).andThen fun v w' => .ok (.value v) w' := by
      simp [execOp, resolve, invoke, builtin]
    rw [e1, he1]
    rw [he1] at h1
    have hlen := run_lenOf (P := P) h2
    obtain ⟨us, hus, hrel, hul⟩ := run_first (P := P) h2 (fun x hx => absurd hx (by simp)) hk0 0 (Nat.zero_le _)
    have hus0 : us = [] := List.length_eq_zero_iff.1 (by omega)
    subst hus0
    rw [run_app_none hu hu' hi hlen hc1 (by rw [hsz, ← hl]; exact hus)]
    exact ⟨_, w, S, rfl, Step.refl _ hw, h1⟩
end
end Go.Cap
