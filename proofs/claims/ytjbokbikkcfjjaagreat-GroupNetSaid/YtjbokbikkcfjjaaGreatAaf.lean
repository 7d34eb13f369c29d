/-
  The forms in which the walks use the rules: loops by lists of slots, regions in any order by their slots.
  More rules: structs told from structs.
-/
import Derived.Test.YtjbokbikkcfjjaaGreatAae
import Derived.ProofKit
section
namespace Go.Cap
inductive HeapFront : Heap → Heap → Prop
  | nil (H : Heap) : HeapFront H []
  | keep (b : Nat) (k k' : Blk) (r r' : Heap) (h : BlkLe k k') (hs : HeapFront r r') : HeapFront ((b, k) :: r) ((b, k') :: r')
  | skip (p : Nat × Blk) (r r' : Heap) (hs : HeapFront r r') : HeapFront (p :: r) r'
theorem HeapFront.le {H H' : Heap} (h : HeapFront H H') (hn : (keys H).Nodup) : HeapLe H H' := by
  induction h with
  | nil H => exact HeapLe.nil _
  | keep b k k' r r' hk hr ih =>
    have hn' := List.nodup_cons.1 (show (b :: keys r).Nodup from hn)
    have ih := ih hn'.2
    refine ⟨?_, ?_⟩
    · show (b :: keys r').Nodup
      exact List.nodup_cons.2 ⟨fun hm => hn'.1 (ih.sub b hm), ih.1⟩
    · intro p hp
      rcases List.mem_cons.1 hp with rfl | hp
      · exact ⟨k, List.mem_cons_self, hk⟩
      · obtain ⟨k2, h1, h2⟩ := ih.2 p hp
        exact ⟨k2, List.mem_cons_of_mem _ h1, h2⟩
  | skip p r r' hr ih =>
    have hn' := List.nodup_cons.1 (show (p.1 :: keys r).Nodup from hn)
    have ih := ih hn'.2
    refine ⟨ih.1, fun q hq => ?_⟩
    obtain ⟨k2, h1, h2⟩ := ih.2 q hq
    exact ⟨k2, List.mem_cons_of_mem _ h1, h2⟩
def HRep (H : Heap) (p p' : Nat × Blk) (H' : Heap) : Prop := ∃ i, H[i]? = some p ∧ H' = H.set i p'
theorem hrep_here {p p' : Nat × Blk} {r : Heap} : HRep (p :: r) p p' (p' :: r) := ⟨0, rfl, rfl⟩
theorem hrep_there {p p' q : Nat × Blk} {r r' : Heap} (h : HRep r p p' r') : HRep (q :: r) p p' (q :: r') := by
  obtain ⟨i, h1, h2⟩ := h
  exact ⟨i + 1, by simpa using h1, by rw [h2]; rfl⟩
theorem hmem_here {p : Nat × Blk} {r : Heap} : p ∈ p :: r := List.mem_cons_self
theorem hmem_there {p q : Nat × Blk} {r : Heap} (h : p ∈ r) : p ∈ q :: r := List.mem_cons_of_mem _ h
theorem eZ {t : Env} {k : Tmp} {d : T} : Env.ev ((k, d) :: t) (.tmp k) = d := ev_here
theorem eS {t : Env} {j k : Tmp} {d e : T} (h : Nat.beq j k = false) (h' : Env.ev t (.tmp k) = d) : Env.ev ((j, e) :: t) (.tmp k) = d := ev_there h h'
theorem gZ {t : Env} {k : Tmp} {d : T} : Env.get ((k, d) :: t) k = d := get_here
theorem gS {t : Env} {j k : Tmp} {d e : T} (h : Nat.beq j k = false) (h' : Env.get t k = d) : Env.get ((j, e) :: t) k = d := get_there h h'
theorem hZ {p : Nat × Blk} {r : Heap} : p ∈ p :: r := hmem_here
theorem hS {p q : Nat × Blk} {r : Heap} (h : p ∈ r) : p ∈ q :: r := hmem_there h
theorem rZ {p p' : Nat × Blk} {r : Heap} : HRep (p :: r) p p' (p' :: r) := hrep_here
theorem rS {p p' q : Nat × Blk} {r r' : Heap} (h : HRep r p p' r') : HRep (q :: r) p p' (q :: r') := hrep_there h
theorem hA {A r : Heap} {p : Nat × Blk} (h : p ∈ r) : p ∈ A ++ r := List.mem_append_right _ h
theorem hrep_left {p p' : Nat × Blk} {r r' : Heap} (h : HRep r p p' r') : ∀ A : Heap, HRep (A ++ r) p p' (A ++ r')
  | [] => h
  | _ :: A => hrep_there (hrep_left h A)
theorem rA {A r r' : Heap} {p p' : Nat × Blk} (h : HRep r p p' r') : HRep (A ++ r) p p' (A ++ r') := hrep_left h A
inductive LayR : List T → Nat → List T → List T → Prop
  | nil (cs : List T) : LayR cs 0 [] cs
  | cons (c : T) (cs : List T) (d : T) (ds r : List T) (h : LayR cs 0 ds r) : LayR (c :: cs) 0 (d :: ds) (d :: r)
  | skip (c : T) (cs : List T) (o : Nat) (ds r : List T) (h : LayR cs o ds r) : LayR (c :: cs) (o + 1) ds (c :: r)
theorem LayR.eq {cs : List T} {o : Nat} {ds r : List T} (h : LayR cs o ds r) : lay cs o ds = r ∧ o + ds.length ≤ cs.length := by
  induction h with
  | nil cs => exact ⟨by simp [lay], by simp⟩
  | cons c cs d ds r h ih =>
    refine ⟨?_, by have := ih.2; simp at this ⊢; omega⟩
    rw [← ih.1]; simp [lay]
  | skip c cs o ds r h ih =>
    refine ⟨?_, by have := ih.2; simp at this ⊢; omega⟩
    rw [← ih.1]; simp [lay, show o + 1 + ds.length = (o + ds.length) + 1 by omega]
inductive TakeR : List T → Nat → Nat → List T → Prop
  | nil (cs : List T) : TakeR cs 0 0 []
  | cons (c : T) (cs : List T) (n : Nat) (r : List T) (h : TakeR cs 0 n r) : TakeR (c :: cs) 0 (n + 1) (c :: r)
  | skip (c : T) (cs : List T) (o n : Nat) (r : List T) (h : TakeR cs o n r) : TakeR (c :: cs) (o + 1) n r
theorem TakeR.eq {cs : List T} {o n : Nat} {r : List T} (h : TakeR cs o n r) : (cs.drop o).take n = r ∧ o + n ≤ cs.length := by
  induction h with
  | nil cs => exact ⟨by simp, by simp⟩
  | cons c cs n r h ih => exact ⟨by have := ih.1; simp at this ⊢; exact this, by have := ih.2; simp at this ⊢; omega⟩
  | skip c cs o n r h ih => exact ⟨by have := ih.1; simpa using this, by have := ih.2; simp at this ⊢; omega⟩
section
variable {K : Ctx} {t : Env} {H : Heap} {Ψ : Exit → Env → Heap → Prop} {N : Env → Heap → Prop} {P : Program} {ops : Array Oper}
theorem sim_to {c : Code} (t' : Env) (H' : Heap) (ht : EnvLe t t') (hH : HeapFront H H') (h : Sim K c t' H' Ψ) : Sim K c t H Ψ := sim_weaken ht hH.le h
def cutΨ (t' : Env) (H' : Heap) (Ψ : Exit → Env → Heap → Prop) : Exit → Env → Heap → Prop
  | .normal, t, H => EnvLe t t' ∧ HeapFront H H'
  | e, t, H => Ψ e t H
theorem sim_cut {c r : Code} (t' : Env) (H' : Heap) (h : Sim K c t H (cutΨ t' H' Ψ)) (h' : Sim K r t' H' Ψ) : Sim K c t H (thenΨ K r Ψ) :=
  sim_mono h (fun e t1 H1 hc => by
    cases e with
    | normal => exact sim_to t' H' hc.1 hc.2 h'
    | _ => exact hc)
theorem cutΨ_ret {t' : Env} {H' : Heap} : cutΨ t' H' Ψ .ret t H = Ψ .ret t H := rfl
def loopL {σ : Type} (ok : σ → Prop) (env : σ → Env) (heap : σ → Heap) (μ : σ → Nat) (s : σ) (Ψ : Exit → Env → Heap → Prop) : Exit → Env → Heap → Prop
  | .normal, t, H => ∃ s', ok s' ∧ μ s' < μ s ∧ EnvLe t (env s') ∧ HeapFront H (heap s')
  | e, t, H => Ψ e t H
theorem sim_loopL {σ : Type} {c : Code} (ok : σ → Prop) (env : σ → Env) (heap : σ → Heap) (μ : σ → Nat) (s0 : σ) (h0 : ok s0) (he : EnvLe t (env s0)) (hh : HeapFront H (heap s0))
    (round : ∀ s, ok s → Sim K c (env s) (heap s) (loopL ok env heap μ s Ψ)) : Sim K (.loop c) t H Ψ := by
  refine sim_loop (σ := σ) (fun s t H => ok s ∧ EnvLe t (env s) ∧ HeapFront H (heap s)) μ s0 ⟨h0, he, hh⟩ ?_
  rintro s t H ⟨h1, h2, h3⟩
  refine sim_to _ _ h2 h3 (sim_mono (round s h1) ?_)
  intro e t' H' h
  cases e with
  | normal => obtain ⟨s', a, b, c, d⟩ := h; exact ⟨s', b, a, c, d⟩
  | _ => exact h
def GSeq (P : Program) (ops : Array Oper) (H : Heap) : Env → List Oper → List T → Prop
  | t, o :: os, d :: ds => GOp P ops t H o d ∧ GSeq P ops H (t.put o.dst d) os ds
  | _, [], [] => True
  | _, _, _ => False
def DrawFrom (K : Ctx) (ops : Array Oper) (i n : Nat) (l : List Oper) (t : Env) (H : Heap) (N : Env → Heap → Prop) : Prop :=
  ∃ ds, ds.length = n ∧ GSeq K.P ops H t (l.take n) ds ∧ SimFrom K ops (i + n) (l.drop n) (putAll t (l.take n) ds) H N
theorem POp.congr {t t' : Env} {o : Oper} {d : T} (h : POp P t H o d) (he : ∀ x ∈ o.op.operands, t.ev x = t'.ev x) : POp P t' H o d :=
  fun S w a hw ho hx Kc Q hk => h S w a hw ho (fun x hxo => by rw [he x hxo]; exact hx x hxo) Kc Q hk
theorem GOp.congr {t t' : Env} {o : Oper} {d : T} (h : GOp P ops t H o d) (he : ∀ k ∈ o.looksAt ops, t.get k = t'.get k) : GOp P ops t' H o d := by
  have hev : ∀ x ∈ o.op.operands, t.ev x = t'.ev x := by
    intro x hx
    cases x with
    | tmp k => exact he k (List.mem_append_left _ (List.mem_filterMap.2 ⟨.tmp k, by simpa using hx, rfl⟩))
    | _ => rfl
  unfold GOp at *
  cases hg : o.guard with
  | none => rw [hg] at h; exact POp.congr h hev
  | some jw =>
    obtain ⟨j, want⟩ := jw
    rw [hg] at h
    obtain ⟨k, b, h1, h2, h3, h4⟩ := h
    exact ⟨k, b, h1, by rw [← he k (by unfold Oper.looksAt; rw [hg]; simp [h1])]; exact h2, fun e => POp.congr (h3 e) hev, h4⟩
@[simp] theorem lay_len {α : Type} (l : List α) (o : Nat) (xs : List α) : (lay l o xs).length = min o l.length + xs.length + (l.length - (o + xs.length)) := by simp [lay]; omega
theorem lay_whole {α : Type} (l xs : List α) (h : l.length = xs.length) : lay l 0 xs = xs := by simp [lay, h]
theorem flat_map1 {α : Type} (f : α → T) (h : ∀ y, (f y).cells = [f y]) (l : List α) : (l.map f).flatMap T.cells = l.map f := by
  induction l with
  | nil => rfl
  | cons x l ih => rw [List.map_cons, List.flatMap_cons, h, ih]; rfl
theorem le_get {t : Env} {k : Nat} {e d : T} (h : t.get k = e) (h' : Le e d) : Le (t.get k) d := h ▸ h'
theorem blk_le {ty ty' : TypeId} {cs cs' : List T} {n n' : Nat} (h1 : ty = ty') (h2 : LeL cs cs') (hl : cs'.length = cs.length) (h3 : n = n') : BlkLe ⟨ty, cs, n⟩ ⟨ty', cs', n'⟩ := by
  subst h1; subst h3; exact BlkLe.cells hl h2
theorem map_get {α : Type} {f : α → T} {l : List α} {i : Nat} (h : i < l.length) : (l.map f)[(i : Int).toNat]? = some (f (l[i]'h)) := by simp [h]
theorem blockΨ_ret {id : Nat} : blockΨ id Ψ .ret t H = Ψ .ret t H := rfl
theorem thenΨ_ret {K : Ctx} {c : Code} : thenΨ K c Ψ .ret t H = Ψ .ret t H := rfl
theorem loopL_ret {σ : Type} {ok : σ → Prop} {env : σ → Env} {heap : σ → Heap} {μ : σ → Nat} {s : σ} : loopL ok env heap μ s Ψ .ret t H = Ψ .ret t H := rfl
theorem resl_nil : ResL P t H [] [] := trivial
theorem resl_tmp {k : Tmp} {rs : List ResultVar} {d : T} {ds : List T} (h : t.get k = d) (hs : ResL P t H rs ds) : ResL P t H (.tmp k :: rs) (d :: ds) := ⟨h, hs⟩
theorem fin_ret {fn : Func} {rs : List ResultVar} {ds : List T} {d : T} (hr : fn.results.toList = rs) (h : ResL P t H rs ds) (hl : Le (packT ds) d) :
    endΨ P fn (fun r H => H = [] ∧ r = d) .ret t H := ⟨ds, d, [], by rw [hr]; exact h, hl, ⟨rfl, rfl⟩, fun _ => HeapLe.nil _⟩
theorem fin_normal {fn : Func} {rs : List ResultVar} {ds : List T} {d : T} (hr : fn.results.toList = rs) (h : ResL P t H rs ds) (hl : Le (packT ds) d) :
    endΨ P fn (fun r H => H = [] ∧ r = d) .normal t H := ⟨ds, d, [], by rw [hr]; exact h, hl, ⟨rfl, rfl⟩, fun _ => HeapLe.nil _⟩
theorem fin_retΦ {fn : Func} {Φ : T → Prop} {rs : List ResultVar} {ds : List T} (hr : fn.results.toList = rs) (h : ResL P t H rs ds) (d : T) (hl : Le (packT ds) d) (hp : Φ d) :
    endΨ P fn (fun r H => H = [] ∧ Φ r) .ret t H := ⟨ds, d, [], by rw [hr]; exact h, hl, ⟨rfl, hp⟩, fun _ => HeapLe.nil _⟩
theorem tmod_fix (a n : Int) (hn : 0 < n) : (a.tmod n < 0 → a.tmod n + n = a % n) ∧ (¬ a.tmod n < 0 → a.tmod n = a % n) := by
  have h1 := Int.emod_nonneg a (show n ≠ 0 by omega)
  have h2 := Int.emod_lt_of_pos a hn
  rw [Int.tmod_eq_emod]
  split <;> constructor <;> intro h <;> omega
def T.gp (p : Prop) (i : Decidable p) (d : T) : T := bif @decide p i then d else .v undef
theorem gp_pos {p : Prop} {i : Decidable p} {d : T} (h : p) : T.gp p i d = d := by simp [T.gp, h]
theorem gp_neg {p : Prop} {i : Decidable p} {d : T} (h : ¬ p) : T.gp p i d = .v undef := by simp [T.gp, h]
theorem gp_v {p : Prop} {i : Decidable p} {v : Value} : T.gp p i (.v v) = .v (bif @decide p i then v else undef) := by by_cases h : p <;> simp [T.gp, h]
section
variable {i n : Nat} {l : List Oper} {op : Op} {tp : TypeId} {pos : String} {aft : Array Edge} {k : Tmp} {d : T} {j kg : Nat} {p q : Prop} {_ : Decidable p} {_ : Decidable q}
theorem bool_t : (Value.bool (decide p) = .bool true) ↔ p := by simp
theorem bool_f : (Value.bool (decide p) = .bool false) ↔ ¬ p := by simp
theorem gbool_t : ((bif decide p then Value.bool (decide q) else undef) = .bool true) ↔ p ∧ q := by by_cases h : p <;> simp [h, undef]
theorem gbool_f : ((bif decide p then Value.bool (decide q) else undef) = .bool false) ↔ p ∧ ¬ q := by by_cases h : p <;> simp [h, undef]
theorem from_gT (hj : (ops[j]?).bind (·.dst) = some kg) (hb : t.get kg = .v (.bool (decide p))) (hp : p → POp K.P t H ⟨some k, op, tp, pos, aft, some (j, true)⟩ d) (hd : Nat.blt k K.n = true)
    (h : SimFrom K ops (i + 1) l ((k, T.gp p inferInstance d) :: t) H N) : SimFrom K ops i (⟨some k, op, tp, pos, aft, some (j, true)⟩ :: l) t H N :=
  from_guard (e := T.gp p inferInstance d) rfl hj hb (fun e => hp (bool_t.1 e)) (fun e => gp_pos (bool_t.1 e)) (fun e => gp_neg (fun h => e (bool_t.2 h))) hd h
theorem from_gF (hj : (ops[j]?).bind (·.dst) = some kg) (hb : t.get kg = .v (.bool (decide p))) (hp : ¬ p → POp K.P t H ⟨some k, op, tp, pos, aft, some (j, false)⟩ d) (hd : Nat.blt k K.n = true)
    (h : SimFrom K ops (i + 1) l ((k, T.gp (¬ p) inferInstance d) :: t) H N) : SimFrom K ops i (⟨some k, op, tp, pos, aft, some (j, false)⟩ :: l) t H N :=
  from_guard (e := T.gp (¬ p) inferInstance d) rfl hj hb (fun e => hp (bool_f.1 e)) (fun e => gp_pos (bool_f.1 e)) (fun e => gp_neg (fun h => e (bool_f.2 h))) hd h
theorem from_hT (hj : (ops[j]?).bind (·.dst) = some kg) (hb : t.get kg = T.gp p ‹_› (.v (.bool (decide q)))) (hp : p ∧ q → POp K.P t H ⟨some k, op, tp, pos, aft, some (j, true)⟩ d) (hd : Nat.blt k K.n = true)
    (h : SimFrom K ops (i + 1) l ((k, T.gp (p ∧ q) inferInstance d) :: t) H N) : SimFrom K ops i (⟨some k, op, tp, pos, aft, some (j, true)⟩ :: l) t H N :=
  from_guard (e := T.gp (p ∧ q) inferInstance d) rfl hj (hb.trans gp_v) (fun e => hp (gbool_t.1 e)) (fun e => gp_pos (gbool_t.1 e)) (fun e => gp_neg (fun h => e (gbool_t.2 h))) hd h
theorem from_hF (hj : (ops[j]?).bind (·.dst) = some kg) (hb : t.get kg = T.gp p ‹_› (.v (.bool (decide q)))) (hp : p ∧ ¬ q → POp K.P t H ⟨some k, op, tp, pos, aft, some (j, false)⟩ d) (hd : Nat.blt k K.n = true)
    (h : SimFrom K ops (i + 1) l ((k, T.gp (p ∧ ¬ q) inferInstance d) :: t) H N) : SimFrom K ops i (⟨some k, op, tp, pos, aft, some (j, false)⟩ :: l) t H N :=
  from_guard (e := T.gp (p ∧ ¬ q) inferInstance d) rfl hj (hb.trans gp_v) (fun e => hp (gbool_f.1 e)) (fun e => gp_pos (gbool_f.1 e)) (fun e => gp_neg (fun h => e (gbool_f.2 h))) hd h
theorem ev_un {x : Operand} {ip : Decidable p} (h : t.ev x = T.gp p ip d) (hp : p) : t.ev x = d := by rw [h, gp_pos hp]
section
variable {dst : Option Tmp} {g : Option (Nat × Bool)} {c x y : Operand} {r : Prop} {_ : Decidable r}
theorem pop_pick_or {ir : Decidable (¬ p)} (hc : t.ev c = .v (.bool (decide p))) (hx : t.ev x = .v (.bool true)) (hy : t.ev y = T.gp (¬ p) ir (.v (.bool (decide q)))) :
    POp P t H ⟨dst, .pick c x y, tp, pos, aft, g⟩ (.v (.bool (decide (p ∨ q)))) :=
  POp.le (pop_pick hc hx hy) (Le.of_eq (by by_cases h : p <;> by_cases h' : q <;> simp [T.gp, h, h']))
theorem pop_pick_and {ir : Decidable p} (hc : t.ev c = .v (.bool (decide p))) (hx : t.ev x = T.gp p ir (.v (.bool (decide q)))) (hy : t.ev y = .v (.bool false)) :
    POp P t H ⟨dst, .pick c x y, tp, pos, aft, g⟩ (.v (.bool (decide (p ∧ q)))) :=
  POp.le (pop_pick hc hx hy) (Le.of_eq (by by_cases h : p <;> by_cases h' : q <;> simp [T.gp, h, h']))
theorem pop_pick_orN {ir : Decidable (r ∧ ¬ p)} {i2 : Decidable r} (hc : t.ev c = T.gp r i2 (.v (.bool (decide p)))) (hx : t.ev x = .v (.bool true)) (hy : t.ev y = T.gp (r ∧ ¬ p) ir (.v (.bool (decide q)))) (hr : r) :
    POp P t H ⟨dst, .pick c x y, tp, pos, aft, g⟩ (.v (.bool (decide (p ∨ q)))) :=
  POp.le (pop_pick (hc.trans (gp_pos hr)) hx hy) (Le.of_eq (by by_cases h : p <;> by_cases h' : q <;> simp [T.gp, h, h', hr]))
theorem pop_pick_andN {ir : Decidable (r ∧ p)} {i2 : Decidable r} (hc : t.ev c = T.gp r i2 (.v (.bool (decide p)))) (hx : t.ev x = T.gp (r ∧ p) ir (.v (.bool (decide q)))) (hy : t.ev y = .v (.bool false)) (hr : r) :
    POp P t H ⟨dst, .pick c x y, tp, pos, aft, g⟩ (.v (.bool (decide (p ∧ q)))) :=
  POp.le (pop_pick (hc.trans (gp_pos hr)) hx hy) (Le.of_eq (by by_cases h : p <;> by_cases h' : q <;> simp [T.gp, h, h', hr]))
theorem pop_neqB {ty ty' : TypeId} (hx : t.ev x = .v (.bool (decide p))) (hy : t.ev y = .v (.bool (decide q))) (hu : P.underlying ty = some .bool) : POp P t H ⟨dst, .binOp .neq ty x y ty', tp, pos, aft, g⟩ (.v (.bool (decide (¬ (p ↔ q))))) :=
  pop_bin hx hy fun w => by
    have := run_equalIn_bool w 9999 ty (decide p) (decide q) hu
    have e : (Op.equal ty (.bool (decide p)) (.bool (decide q))).run P w = .ok (decide p == decide q) w := this
    by_cases h : p <;> by_cases h' : q <;> simp [h, h'] at e <;> simp [eqGuard, binOp, h, h', e]
theorem pop_notP {ty : TypeId} (hx : t.ev x = .v (.bool (decide p))) : POp P t H ⟨dst, .unOp .not ty x, tp, pos, aft, g⟩ (.v (.bool (decide (¬ p)))) :=
  POp.le (pop_not hx) (Le.of_eq (by by_cases h : p <;> simp [h]))
end
end
section
variable {dst : Option Tmp} {tp : TypeId} {pos : String} {aft : Array Edge} {g : Option (Nat × Bool)} {ty ty' : TypeId}
theorem pop_loadO_agg {x : Operand} {b o n m : Nat} {ty0 : TypeId} {cells cs : List T} (hx : t.ev x = .v (.pointer (some ⟨b, o, none⟩))) (hi : (b, (⟨ty0, cells, m⟩ : Blk)) ∈ H) [hk : AggC P ty n]
    (hc : TakeR cells o n cs) : POp P t H ⟨dst, .load ty x, tp, pos, aft, g⟩ (.agg cs) := by
  obtain ⟨i, hi⟩ := List.mem_iff_getElem?.1 hi
  have := pop_load_own_agg (P := P) (dst := dst) (tp := tp) (pos := pos) (aft := aft) (g := g) (ty := ty) (n := n) i hx hi (by simpa using hc.eq.2)
  simp only [hc.eq.1] at this
  exact this
theorem pop_loadO {x : Operand} {b o m : Nat} {ty0 : TypeId} {cells : List T} {d : T} (hx : t.ev x = .v (.pointer (some ⟨b, o, none⟩))) (hi : (b, (⟨ty0, cells, m⟩ : Blk)) ∈ H) (hd : cells[o]? = some d) (hk : leafTy P ty = true) :
    POp P t H ⟨dst, .load ty x, tp, pos, aft, g⟩ d := by
  obtain ⟨i, hi⟩ := List.mem_iff_getElem?.1 hi
  exact pop_load_own i hx hi hd hk
theorem eop_storeO {x y : Operand} {b o m : Nat} {ty0 : TypeId} {cells cs : List T} {d : T} {H' : Heap} (hx : t.ev x = .v (.pointer (some ⟨b, o, none⟩))) (hy : t.ev y = d)
    (hi : HRep H (b, ⟨ty0, cells, m⟩) (b, ⟨ty0, cs, m⟩) H') (hc : LayR cells o d.cells cs)
    (hs : sizeT K.P ty = some d.cells.length) (hp : Nat.blt 0 d.cells.length = true) (hl : allLeaf d.cells = true) (h : N t H') : EOp K t H ⟨none, .store ty x y, tp, pos, aft, g⟩ N := by
  obtain ⟨i, hi, rfl⟩ := hi
  refine eop_store i hx hi hy hs hp hl hc.eq.2 ?_
  simp only [hc.eq.1]
  exact h
theorem eop_storeS {x y : Operand} {b o m : Nat} {ty0 : TypeId} {cells : List T} {d : T} {H' : Heap} (hx : t.ev x = .v (.pointer (some ⟨b, o, none⟩))) (hy : t.ev y = d)
    (hi : HRep H (b, ⟨ty0, cells, m⟩) (b, ⟨ty0, lay cells o d.cells, m⟩) H')
    (hs : sizeT K.P ty = some d.cells.length) (hp : Nat.blt 0 d.cells.length = true) (hl : allLeaf d.cells = true) (hc : o + d.cells.length ≤ cells.length) (h : N t H') : EOp K t H ⟨none, .store ty x y, tp, pos, aft, g⟩ N := by
  obtain ⟨i, hi, rfl⟩ := hi
  exact eop_store i hx hi hy hs hp hl hc h
theorem eop_copyO {x y : Operand} {b o n c m : Nat} {ty0 : TypeId} {cells : List T} {f : Bool} {xs : List T} {kk : Nat} {H' : Heap} (hx : t.ev x = .v (.slice (some ⟨b, o, none⟩) n c)) (hy : t.ev y = .sl f xs)
    (hi : HRep H (b, ⟨ty0, cells, m⟩) (b, ⟨ty0, lay cells o ((xs.take (min xs.length n)).flatMap T.cells), m⟩) H')
    [hs : ElemSzC K.P ty kk] (hp : Nat.blt 0 kk = true) (hk : ∀ x ∈ xs, x.cells.length = kk) (hl : ∀ x ∈ xs, allLeaf x.cells = true) (ho : o + min xs.length n * kk ≤ cells.length) {kd : Tmp} (hd : Nat.blt kd K.n = true)
    (h : N ((kd, .v (.int .i64 (min xs.length n : Nat))) :: t) H') : EOp K t H ⟨some kd, .call ⟨.builtin .copy, #[x, y], #[ty, ty']⟩, tp, pos, aft, g⟩ N := by
  obtain ⟨i, hi, rfl⟩ := hi
  exact eop_copy i hx hy hi rfl hp hk hl ho hd h
theorem resl_cellO {k : Tmp} {ty : TypeId} {rs : List ResultVar} {ds : List T} {b n m : Nat} {ty0 : TypeId} {cells cs : List T} (h : t.get k = .v (.pointer (some ⟨b, 0, none⟩))) (hi : (b, (⟨ty0, cells, m⟩ : Blk)) ∈ H) [ha : AggC P ty n]
    (hc : TakeR cells 0 n cs) (hs : ResL P t H rs ds) : ResL P t H (.cell k ty :: rs) (.agg cs :: ds) := by
  obtain ⟨i, hi⟩ := List.mem_iff_getElem?.1 hi
  exact ⟨⟨i, b, _, h, hi, .inl ⟨n, ha.h, by simpa using ha.z, by simpa using hc.eq.2, by have := hc.eq.1; simp at this; rw [this]⟩⟩, hs⟩
theorem resl_cell1O {k : Tmp} {ty : TypeId} {rs : List ResultVar} {ds : List T} {b m : Nat} {ty0 : TypeId} {cells : List T} {d : T} (h : t.get k = .v (.pointer (some ⟨b, 0, none⟩))) (hi : (b, (⟨ty0, d :: cells, m⟩ : Blk)) ∈ H)
    (hl : leafTy P ty = true) (hs : ResL P t H rs ds) : ResL P t H (.cell k ty :: rs) (d :: ds) := by
  obtain ⟨i, hi⟩ := List.mem_iff_getElem?.1 hi
  exact ⟨⟨i, b, _, h, hi, .inr ⟨hl, rfl⟩⟩, hs⟩
end
end
end Go.Cap
end
section
namespace Go.Cap
theorem run_part1 {P : Program} {w : World} {ty : TypeId} (cs : Array Value) (i : Nat) (v : Value) (hu : leafTy P ty = true) (hv : cs[i]? = some v) : (part ty cs i).run P w = .ok v w := by
  simp [part, leaf_of hu w, hv]
theorem map_getD {α : Type} [Inhabited α] {f : α → T} {l : List α} {i : Nat} (h : i < l.length) : (l.map f)[(i : Int).toNat]? = some (f (l.getD i default)) := by simp [h]
section
variable {K : Ctx} {t : Env} {H : Heap} {Ψ : Exit → Env → Heap → Prop}
def cutE {σ : Type} (ok : σ → Prop) (env : σ → Env) (heap : σ → Heap) (Ψ : Exit → Env → Heap → Prop) : Exit → Env → Heap → Prop
  | .normal, t, H => ∃ s, ok s ∧ EnvLe t (env s) ∧ HeapFront H (heap s)
  | e, t, H => Ψ e t H
theorem cutE_ret {σ : Type} {ok : σ → Prop} {env : σ → Env} {heap : σ → Heap} : cutE ok env heap Ψ .ret t H = Ψ .ret t H := rfl
end
section
variable {P : Program} {t : Env} {H : Heap} {dst : Option Tmp} {tp : TypeId} {pos : String} {aft : Array Edge} {g : Option (Nat × Bool)} {ty ty' : TypeId} {x y : Operand} {as bs : List Value} {p : Prop}
theorem relL_vals {S : Nat → Prop} {w : World} : ∀ {as : List Value} {vs : List Value}, RelL S w (as.map T.v) vs → vs = as
  | [], _, .nil => rfl
  | _ :: _, _, .cons _ _ _ _ h hs => by rw [relL_vals hs, h.v_eq]
inductive Vals : List T → List Value → Prop
  | nil : Vals [] []
  | cons (v : Value) (xs : List T) (as : List Value) (h : Vals xs as) : Vals (.v v :: xs) (v :: as)
theorem Vals.eq {xs : List T} {as : List Value} (h : Vals xs as) : xs = as.map T.v := by
  induction h with
  | nil => rfl
  | cons v xs as h ih => rw [ih]; rfl
theorem Rel.agg_inv {S : Nat → Prop} {w : World} {xs : List T} {v : Value} (h : Rel S w (.agg xs) v) : ∃ vs : List Value, v = .agg vs.toArray ∧ RelL S w xs vs := by
  cases h with
  | agg _ vs h => exact ⟨vs, rfl, h⟩
theorem pop_append0 {xs : List T} {f : Bool} {dx dy : T} {d : T} {by_ : Nat} (hx : t.ev x = dx) (hxl : Le dx (.sl true xs)) (hy : t.ev y = dy) (hyl : Le dy (.sl f [])) [hz : ElemZC P ty d by_] (hs : isSliceTy P ty' = true) :
    POp P t H ⟨dst, .call ⟨.builtin .append, #[x, y], #[ty, ty']⟩, tp, pos, aft, g⟩ (.sl true xs) :=
  POp.run fun S w a hw _ hr => by
    have h1 := hr x (by simp [Op.operands, Call.operands]); rw [hx] at h1
    have h2 := hr y (by simp [Op.operands, Call.operands]); rw [hy] at h2
    replace h1 := hxl _ _ _ h1
    replace h2 := hyl _ _ _ h2
    obtain ⟨e, i, z, hu, hi, hzz, hsz, hp, rfl, hby⟩ := elemZ_of hz.h
    obtain ⟨e', _, hu', _⟩ := slice_of hs
    have hl := ofVal_cells z
    have hk0 : 0 < (T.ofVal z).cells.length := by omega
    obtain ⟨a1, c1, he1, hc1, hf1⟩ := slice_shape h1
    have e1 : (execOp a.eval ⟨dst, .call ⟨.builtin .append, #[x, y], #[ty, ty']⟩, tp, pos, aft, g⟩).run P w = ((Builtin.append_ #[ty, ty'] tp #[a.eval x, a.eval y]).run P w).andThen fun v w' => .ok (.value v) w' := by
      simp [execOp, resolve, invoke, builtin]
    rw [e1, he1]
    rw [he1] at h1
    have hlen := run_lenOf (P := P) h2
    obtain ⟨us, hus, hrel, hul⟩ := run_first (P := P) h2 (fun x hx => absurd hx (by simp)) hk0 0 (Nat.zero_le _)
    have hus0 : us = [] := List.length_eq_zero_iff.1 (by omega)
    subst hus0
    rw [run_app_none hu hu' hi hlen hc1 (by rw [hsz, ← hl]; exact hus)]
    exact ⟨_, w, S, rfl, Step.refl _ hw, h1⟩
end
end Go.Cap
end
