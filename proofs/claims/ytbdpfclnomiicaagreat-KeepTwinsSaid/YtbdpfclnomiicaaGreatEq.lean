/-
  More rules: structs told from structs.
-/
import Derived.Test.YtbdpfclnomiicaaGreatWalk
import Derived.ProofKit
namespace Go.Cap
theorem run_part1 {P : Program} {w : World} {ty : TypeId} (cs : Array Value) (i : Nat) (v : Value) (hu : leafTy P ty = true) (hv : cs[i]? = some v) : (part ty cs i).run P w = .ok v w := by
  simp [part, leaf_of hu w, hv]
theorem map_getD {α : Type} [Inhabited α] {f : α → T} {l : List α} {i : Nat} (h : i < l.length) : (l.map f)[(i : Int).toNat]? = some (f (l.getD i default)) := by simp [h]
section
variable {K : Ctx} {t : Env} {H : Heap} {Ψ : Exit → Env → Heap → Prop}
def cutE {σ : Type} (ok : σ → Prop) (env : σ → Env) (heap : σ → Heap) (Ψ : Exit → Env → Heap → Prop) : Exit → Env → Heap → Prop
  | .normal, t, H => ∃ s, ok s ∧ EnvLe t (env s) ∧ HeapFront H (heap s)
  | e, t, H => Ψ e t H
theorem cutE_ret {σ : Type} {ok : σ → Prop} {env : σ → Env} {heap : σ → Heap} : cutE ok env heap Ψ .ret t H = Ψ .ret t H := rfl
end
section
variable {P : Program} {t : Env} {H : Heap} {dst : Option Tmp} {tp : TypeId} {pos : String} {aft : Array Edge} {g : Option (Nat × Bool)} {ty ty' : TypeId} {x y : Operand} {as bs : List Value} {p : Prop}
theorem relL_vals {S : Nat → Prop} {w : World} : ∀ {as : List Value} {vs : List Value}, RelL S w (as.map T.v) vs → vs = as
  | [], _, .nil => rfl
  | _ :: _, _, .cons _ _ _ _ h hs => by rw [relL_vals hs, h.v_eq]
inductive Vals : List T → List Value → Prop
  | nil : Vals [] []
  | cons (v : Value) (xs : List T) (as : List Value) (h : Vals xs as) : Vals (.v v :: xs) (v :: as)
theorem Vals.eq {xs : List T} {as : List Value} (h : Vals xs as) : xs = as.map T.v := by
  induction h with
  | nil => rfl
  | cons v xs as h ih => rw [ih]; rfl
theorem Rel.agg_inv {S : Nat → Prop} {w : World} {xs : List T} {v : Value} (h : Rel S w (.agg xs) v) : ∃ vs : List Value, v = .agg vs.toArray ∧ RelL S w xs vs := by
  cases h with
  | agg _ vs h => exact ⟨vs, rfl, h⟩
theorem pop_append0 {xs : List T} {f : Bool} {dx dy : T} {d : T} {by_ : Nat} (hx : t.ev x = dx) (hxl : Le dx (.sl true xs)) (hy : t.ev y = dy) (hyl : Le dy (.sl f [])) [hz : ElemZC P ty d by_] (hs : isSliceTy P ty' = true) :
    POp P t H ⟨dst, .call ⟨.builtin .append, #[x, y], #[ty, ty']⟩, tp, pos, aft, g⟩ (.sl true xs) :=
  POp.run fun S w a hw _ hr => by
    have h1 := hr x (by simp [Op.operands, Call.operands]); rw [hx] at h1
    have h2 := hr y (by simp [Op.operands, Call.operands]); rw [hy] at h2
    replace h1 := hxl _ _ _ h1
    replace h2 := hyl _ _ _ h2
    obtain ⟨e, i, z, hu, hi, hzz, hsz, hp, rfl, hby⟩ := elemZ_of hz.h
    obtain ⟨e', _, hu', _⟩ := slice_of hs
    have hl := ofVal_cells z
    have hk0 : 0 < (T.ofVal z).cells.length := by omega
    obtain ⟨a1, c1, he1, hc1, hf1⟩ := slice_shape h1
    have e1 : (execOp a.eval ⟨dst, .call ⟨.builtin .append, #[x, y], #[ty, ty']⟩, tp, pos, aft, g⟩).run P w = ((Builtin.append_ #[ty, ty'] tp #[a.eval x, a.eval y]).run P w).andThen fun v w' => .ok (.value v) w' := by
      simp [execOp, resolve, invoke, builtin]
    rw [e1, he1]
    rw [he1] at h1
    have hlen := run_lenOf (P := P) h2
    obtain ⟨us, hus, hrel, hul⟩ := run_first (P := P) h2 (fun x hx => absurd hx (by simp)) hk0 0 (Nat.zero_le _)
    have hus0 : us = [] := List.length_eq_zero_iff.1 (by omega)
    subst hus0
    rw [run_app_none hu hu' hi hlen hc1 (by rw [hsz, ← hl]; exact hus)]
    exact ⟨_, w, S, rfl, Step.refl _ hw, h1⟩
end
end Go.Cap
