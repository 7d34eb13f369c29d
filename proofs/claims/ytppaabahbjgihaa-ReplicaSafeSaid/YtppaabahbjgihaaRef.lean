/-
  Appended to a full slice: what comes back is one's own.
  The document's replica: small functions.
  The document's replica: what a leader owes, and commits.
  The document's replica: what most hold is committed.
  The document's replica: one leads, lays an entry.
  The document's replica: an entry laid, a tick, votes.
  The document's replica: votes, proposals, snapshots laid by oneself.
  The document's replica: how far others agree; a snapshot taken.
  The document's replica: entries taken.
  The document's replica: Take.
  The document's replica: nodes, messages told from each other.
-/
import Derived.Test.YtppaabahbjgihaaUp
import Derived.Test.YtppaabahbjgihaaOs
import Derived.Test.YtppaabahbjgihaaLawB
section
namespace Go.Cap
variable {K : Ctx} {t : Env} {H : Heap} {N : Env → Heap → Prop} {ty ty' tp : TypeId} {pos : String} {aft : Array Edge} {g : Option (Nat × Bool)} {ops : Array Oper} {i : Nat} {l : List Oper} {kd : Tmp} {eff : List Nat} {pend : List Pend} {al : List (Nat × Oper)}
theorem eop_append_on {x y : Operand} {e : TypeId} {k : Nat} {xs ys : List T} {f : Bool} {dx dy d : T} {by_ : Nat} [hz : ElemZC K.P ty d by_] (hx : t.ev x = dx) (hxl : Le dx (.sl true xs)) (hy : t.ev y = dy) (hyl : Le dy (.sl f ys)) (h0 : 0 < ys.length)
    (hkd : d.cells.length = k) (hk0 : elemTy K.P ty = e) (hs : isSliceTy K.P ty' = true) (hkx : ∀ x ∈ xs, x.cells.length = k) (hky : ∀ x ∈ ys, x.cells.length = k) (hb : (xs.length + ys.length) * by_ ≤ 140737488355328) (hm : xs.length + ys.length ≤ 9223372036854775807)
    (hd : Nat.blt kd K.n = true) (h : ∀ v' Hs', OSl e k (xs ++ ys) v' Hs' → N ((kd, .v v') :: t) (Hs' ++ H)) : EOp K t H ⟨some kd, .call ⟨.builtin .append, #[x, y], #[ty, ty']⟩, tp, pos, aft, g⟩ N := by
  subst hkd hk0
  refine eop_append_new hx hxl hy hyl hs hkx hky h0 hb hm hd fun b c _ hc => ?_
  have := h (.slice (some ⟨b, 0, none⟩) (xs.length + ys.length) c) [(b, ⟨elemTy K.P ty, (xs ++ ys).flatMap T.cells, c * d.cells.length⟩)] (.inr ⟨b, c, by simp, by simpa using hc, rfl⟩)
  simpa using this
theorem e_on {x y : Operand} {e : TypeId} {k : Nat} {xs ys : List T} {f : Bool} {dx dy d : T} {by_ : Nat} [hz : ElemZC K.P ty d by_]
    (h : ∀ v' Hs', OSl e k (xs ++ ys) v' Hs' → SimFrom K ops (i + 1) l ((kd, .v v') :: t) (Hs' ++ H) N) (hx : t.ev x = dx := by first | ((repeat (apply eS; rfl)); exact eZ) | exact ev_int | exact ev_bool | exact ev_nil | exact ev_str | exact ev_ptr | exact ev_agg | exact ev_map | exact ev_nilf | exact ev_nili | exact ev_func) (hxl : Le dx (.sl true xs) := by (first | exact Le.refl _ | exact Le.nil _ | exact Le.full _ _ | exact Le.any _ | (apply Le.agg; (repeat (apply LeL.cons; (first | exact Le.refl _ | exact Le.nil _ | exact Le.full _ _ | exact Le.any _))); exact LeL.nil) | (apply Le.tup; (repeat (apply LeL.cons; (first | exact Le.refl _ | exact Le.nil _ | exact Le.full _ _ | exact Le.any _ | (apply Le.agg; (repeat (apply LeL.cons; (first | exact Le.refl _ | exact Le.nil _ | exact Le.full _ _ | exact Le.any _))); exact LeL.nil)))); exact LeL.nil))) (hy : t.ev y = dy := by first | ((repeat (apply eS; rfl)); exact eZ) | exact ev_int | exact ev_bool | exact ev_nil | exact ev_str | exact ev_ptr | exact ev_agg | exact ev_map | exact ev_nilf | exact ev_nili | exact ev_func) (hyl : Le dy (.sl f ys) := by (first | exact Le.refl _ | exact Le.nil _ | exact Le.full _ _ | exact Le.any _ | (apply Le.agg; (repeat (apply LeL.cons; (first | exact Le.refl _ | exact Le.nil _ | exact Le.full _ _ | exact Le.any _))); exact LeL.nil) | (apply Le.tup; (repeat (apply LeL.cons; (first | exact Le.refl _ | exact Le.nil _ | exact Le.full _ _ | exact Le.any _ | (apply Le.agg; (repeat (apply LeL.cons; (first | exact Le.refl _ | exact Le.nil _ | exact Le.full _ _ | exact Le.any _))); exact LeL.nil)))); exact LeL.nil))) (h0 : 0 < ys.length := by (first | omega | (simp only [List.length_map, List.length_replicate, List.length_append, List.length_cons, List.length_nil, List.length_take, List.length_drop, Int.toNat_natCast]; omega) | (simp only [List.length_map, List.length_replicate, List.length_append, List.length_cons, List.length_nil, List.length_take, List.length_drop, Int.toNat_natCast] at *; omega)))
    (hkd : d.cells.length = k := by rfl) (hk0 : elemTy K.P ty = e := by rfl) (hs : isSliceTy K.P ty' = true := by rfl) (hkx : ∀ x ∈ xs, x.cells.length = k := by (repeat (first | exact lenOk_nil | (apply lenOk_map; intro _; rfl) | apply lenOk_append | apply lenOk_take | apply lenOk_drop | (apply lenOk_cons; rfl)))) (hky : ∀ x ∈ ys, x.cells.length = k := by (repeat (first | exact lenOk_nil | (apply lenOk_map; intro _; rfl) | apply lenOk_append | apply lenOk_take | apply lenOk_drop | (apply lenOk_cons; rfl))))
    (hb : (xs.length + ys.length) * by_ ≤ 140737488355328 := by (first | omega | (simp only [List.length_map, List.length_replicate, List.length_append, List.length_cons, List.length_nil, List.length_take, List.length_drop, Int.toNat_natCast]; omega) | (simp only [List.length_map, List.length_replicate, List.length_append, List.length_cons, List.length_nil, List.length_take, List.length_drop, Int.toNat_natCast] at *; omega))) (hm : xs.length + ys.length ≤ 9223372036854775807 := by (first | omega | (simp only [List.length_map, List.length_replicate, List.length_append, List.length_cons, List.length_nil, List.length_take, List.length_drop, Int.toNat_natCast]; omega) | (simp only [List.length_map, List.length_replicate, List.length_append, List.length_cons, List.length_nil, List.length_take, List.length_drop, Int.toNat_natCast] at *; omega))) (hd : Nat.blt kd K.n = true := by rfl) :
    SimFrom K ops i (⟨some kd, .call ⟨.builtin .append, #[x, y], #[ty, ty']⟩, tp, pos, aft, none⟩ :: l) t H N := from_e (eop_append_on hx hxl hy hyl h0 hkd hk0 hs hkx hky hb hm hd h)
theorem a_on {x y : Operand} {e : TypeId} {k : Nat} {xs ys : List T} {f : Bool} {dx dy d : T} {by_ : Nat} [hz : ElemZC K.P ty d by_]
    (h : ∀ v' Hs', OSl e k (xs ++ ys) v' Hs' → PendOk ops ⟨some kd, .call ⟨.builtin .append, #[x, y], #[ty, ty']⟩, tp, pos, aft, none⟩ (Hs' ++ H) pend ∧ ∃ pend', PDrop ops ⟨some kd, .call ⟨.builtin .append, #[x, y], #[ty, ty']⟩, tp, pos, aft, none⟩ pend pend' ∧ AnyFrom K ops eff N al ((kd, .v v') :: t) (Hs' ++ H) pend') (hx : t.ev x = dx := by first | ((repeat (apply eS; rfl)); exact eZ) | exact ev_int | exact ev_bool | exact ev_nil | exact ev_str | exact ev_ptr | exact ev_agg | exact ev_map | exact ev_nilf | exact ev_nili | exact ev_func) (hxl : Le dx (.sl true xs) := by (first | exact Le.refl _ | exact Le.nil _ | exact Le.full _ _ | exact Le.any _ | (apply Le.agg; (repeat (apply LeL.cons; (first | exact Le.refl _ | exact Le.nil _ | exact Le.full _ _ | exact Le.any _))); exact LeL.nil) | (apply Le.tup; (repeat (apply LeL.cons; (first | exact Le.refl _ | exact Le.nil _ | exact Le.full _ _ | exact Le.any _ | (apply Le.agg; (repeat (apply LeL.cons; (first | exact Le.refl _ | exact Le.nil _ | exact Le.full _ _ | exact Le.any _))); exact LeL.nil)))); exact LeL.nil))) (hy : t.ev y = dy := by first | ((repeat (apply eS; rfl)); exact eZ) | exact ev_int | exact ev_bool | exact ev_nil | exact ev_str | exact ev_ptr | exact ev_agg | exact ev_map | exact ev_nilf | exact ev_nili | exact ev_func) (hyl : Le dy (.sl f ys) := by (first | exact Le.refl _ | exact Le.nil _ | exact Le.full _ _ | exact Le.any _ | (apply Le.agg; (repeat (apply LeL.cons; (first | exact Le.refl _ | exact Le.nil _ | exact Le.full _ _ | exact Le.any _))); exact LeL.nil) | (apply Le.tup; (repeat (apply LeL.cons; (first | exact Le.refl _ | exact Le.nil _ | exact Le.full _ _ | exact Le.any _ | (apply Le.agg; (repeat (apply LeL.cons; (first | exact Le.refl _ | exact Le.nil _ | exact Le.full _ _ | exact Le.any _))); exact LeL.nil)))); exact LeL.nil))) (h0 : 0 < ys.length := by (first | omega | (simp only [List.length_map, List.length_replicate, List.length_append, List.length_cons, List.length_nil, List.length_take, List.length_drop, Int.toNat_natCast]; omega) | (simp only [List.length_map, List.length_replicate, List.length_append, List.length_cons, List.length_nil, List.length_take, List.length_drop, Int.toNat_natCast] at *; omega)))
    (hkd : d.cells.length = k := by rfl) (hk0 : elemTy K.P ty = e := by rfl) (hs : isSliceTy K.P ty' = true := by rfl) (hkx : ∀ x ∈ xs, x.cells.length = k := by (repeat (first | exact lenOk_nil | (apply lenOk_map; intro _; rfl) | apply lenOk_append | apply lenOk_take | apply lenOk_drop | (apply lenOk_cons; rfl)))) (hky : ∀ x ∈ ys, x.cells.length = k := by (repeat (first | exact lenOk_nil | (apply lenOk_map; intro _; rfl) | apply lenOk_append | apply lenOk_take | apply lenOk_drop | (apply lenOk_cons; rfl))))
    (hb : (xs.length + ys.length) * by_ ≤ 140737488355328 := by (first | omega | (simp only [List.length_map, List.length_replicate, List.length_append, List.length_cons, List.length_nil, List.length_take, List.length_drop, Int.toNat_natCast]; omega) | (simp only [List.length_map, List.length_replicate, List.length_append, List.length_cons, List.length_nil, List.length_take, List.length_drop, Int.toNat_natCast] at *; omega))) (hm : xs.length + ys.length ≤ 9223372036854775807 := by (first | omega | (simp only [List.length_map, List.length_replicate, List.length_append, List.length_cons, List.length_nil, List.length_take, List.length_drop, Int.toNat_natCast]; omega) | (simp only [List.length_map, List.length_replicate, List.length_append, List.length_cons, List.length_nil, List.length_take, List.length_drop, Int.toNat_natCast] at *; omega))) (hd : Nat.blt kd K.n = true := by rfl) (he : memN eff i = true := by rfl) :
    AnyFrom K ops eff N ((i, ⟨some kd, .call ⟨.builtin .append, #[x, y], #[ty, ty']⟩, tp, pos, aft, none⟩) :: al) t H pend :=
  a_effP (fun _ h1 => eop_append_on ((h1 x (by simp [Op.operands, Call.operands])).trans hx) hxl ((h1 y (by simp [Op.operands, Call.operands])).trans hy) hyl h0 hkd hk0 hs hkx hky hb hm hd fun v' Hs' ho' => let ⟨h1, p', h2, h3⟩ := h v' Hs' ho'; ⟨_, p', rfl, h1, h2, h3⟩) he
theorem R.gets {t t' : Env} {a : Act} {w : World} (he : ∀ k, t.get k = t'.get k) (h : R K t H a w) : R K t' H a w := by
  obtain ⟨S, h⟩ := h
  exact ⟨S, h.size, h.defers.env (fun j => he _), h.step, h.own, h.mine, fun k => by rw [← he k]; exact h.env k⟩
/-- Behind a slice that grows, for the last time: what comes back is data. -/
theorem eop_append_osd {x y : Operand} {e : TypeId} {k : Nat} {xs ys : List T} {v : Value} {Hs A B : Heap} {f : Bool} {dy d : T} {by_ : Nat} [hz : ElemZC K.P ty d by_] (ho : OSl e k xs v Hs) (hH : H = A ++ (Hs ++ B)) (hx : t.ev x = .v v) (hy : t.ev y = dy) (hyl : Le dy (.sl f ys)) (h0 : 0 < ys.length)
    (hkd : d.cells.length = k) (hk0 : elemTy K.P ty = e) (hs : isSliceTy K.P ty' = true) (hkx : ∀ x ∈ xs, x.cells.length = k) (hky : ∀ x ∈ ys, x.cells.length = k) (hyleaf : ∀ x ∈ ys, allLeaf x.cells = true) (hb : (xs.length + ys.length) * by_ ≤ 140737488355328) (hm : xs.length + ys.length ≤ 9223372036854775807)
    (hsol : ∀ x ∈ xs ++ ys, x.solid) (hd : Nat.blt kd K.n = true) (h : N ((kd, .sl false (xs ++ ys)) :: t) (A ++ B)) : EOp K t H ⟨some kd, .call ⟨.builtin .append, #[x, y], #[ty, ty']⟩, tp, pos, aft, g⟩ N := by
  have h1 := eop_append_os (N := fun t' H' => ∃ v' Hs', OSl e k (xs ++ ys) v' Hs' ∧ t' = (kd, .v v') :: t ∧ H' = A ++ (Hs' ++ B)) (tp := tp) (pos := pos) (aft := aft) (g := g) ho hH hx hy hyl h0 hkd hk0 hs hkx hky hyleaf hb hm hd fun v' Hs' ho' => ⟨v', Hs', ho', rfl, rfl⟩
  intro a w hr Kc Q hk
  refine h1 a w hr Kc Q fun t' H' a' w' ⟨v', Hs', ho', e1, e2⟩ hr' => ?_
  subst e1 e2
  refine hk _ _ a' w' h ?_
  have hp : (A ++ (Hs' ++ B)).Perm (Hs' ++ (A ++ B)) := by
    rw [← List.append_assoc, ← List.append_assoc]
    exact List.Perm.append_right _ List.perm_append_comm
  have hl := OSl.lend (G := Hs') ho' (fun _ h => h) (fun y hy => by rcases List.mem_append.1 hy with h | h; exact hkx y h; exact hky y h) hsol
  have h2 := R_lend (rs := [(kd, .sl false (xs ++ ys))]) hp ⟨by simpa [Env.get] using hl, trivial⟩ hr'
  refine R.gets (fun j => ?_) h2
  show Env.get ((kd, _) :: (kd, _) :: t) j = Env.get ((kd, _) :: t) j
  simp only [Env.get]
  cases Nat.beq kd j <;> rfl
theorem a_osd {x y : Operand} {e : TypeId} {k : Nat} {xs ys : List T} {v : Value} {Hs A B : Heap} {f : Bool} {dy d : T} {by_ : Nat} [hz : ElemZC K.P ty d by_] (ho : OSl e k xs v Hs) (hkx : ∀ x ∈ xs, x.cells.length = k) (hsol : ∀ x ∈ xs ++ ys, x.solid)
    (h : PendOk ops ⟨some kd, .call ⟨.builtin .append, #[x, y], #[ty, ty']⟩, tp, pos, aft, none⟩ (A ++ B) pend ∧ ∃ pend', PDrop ops ⟨some kd, .call ⟨.builtin .append, #[x, y], #[ty, ty']⟩, tp, pos, aft, none⟩ pend pend' ∧ AnyFrom K ops eff N al ((kd, .sl false (xs ++ ys)) :: t) (A ++ B) pend') (hH : H = A ++ (Hs ++ B) := by rfl) (hx : t.ev x = .v v := by first | ((repeat (apply eS; rfl)); exact eZ) | exact ev_int | exact ev_bool | exact ev_nil | exact ev_str | exact ev_ptr | exact ev_agg | exact ev_map | exact ev_nilf | exact ev_nili | exact ev_func) (hy : t.ev y = dy := by first | ((repeat (apply eS; rfl)); exact eZ) | exact ev_int | exact ev_bool | exact ev_nil | exact ev_str | exact ev_ptr | exact ev_agg | exact ev_map | exact ev_nilf | exact ev_nili | exact ev_func) (hyl : Le dy (.sl f ys) := by (first | exact Le.refl _ | exact Le.nil _ | exact Le.full _ _ | exact Le.any _ | (apply Le.agg; (repeat (apply LeL.cons; (first | exact Le.refl _ | exact Le.nil _ | exact Le.full _ _ | exact Le.any _))); exact LeL.nil) | (apply Le.tup; (repeat (apply LeL.cons; (first | exact Le.refl _ | exact Le.nil _ | exact Le.full _ _ | exact Le.any _ | (apply Le.agg; (repeat (apply LeL.cons; (first | exact Le.refl _ | exact Le.nil _ | exact Le.full _ _ | exact Le.any _))); exact LeL.nil)))); exact LeL.nil))) (h0 : 0 < ys.length := by (first | omega | (simp only [List.length_map, List.length_replicate, List.length_append, List.length_cons, List.length_nil, List.length_take, List.length_drop, Int.toNat_natCast]; omega) | (simp only [List.length_map, List.length_replicate, List.length_append, List.length_cons, List.length_nil, List.length_take, List.length_drop, Int.toNat_natCast] at *; omega)))
    (hkd : d.cells.length = k := by rfl) (hk0 : elemTy K.P ty = e := by rfl) (hs : isSliceTy K.P ty' = true := by rfl) (hky : ∀ x ∈ ys, x.cells.length = k := by (repeat (first | exact lenOk_nil | (apply lenOk_map; intro _; rfl) | apply lenOk_append | apply lenOk_take | apply lenOk_drop | (apply lenOk_cons; rfl)))) (hyleaf : ∀ x ∈ ys, allLeaf x.cells = true := by (repeat (first | exact leafOk_nil | (apply leafOk_map; intro _; rfl) | apply leafOk_append | apply leafOk_take | apply leafOk_drop | (apply leafOk_cons; rfl))))
    (hb : (xs.length + ys.length) * by_ ≤ 140737488355328 := by (first | omega | (simp only [List.length_map, List.length_replicate, List.length_append, List.length_cons, List.length_nil, List.length_take, List.length_drop, Int.toNat_natCast]; omega) | (simp only [List.length_map, List.length_replicate, List.length_append, List.length_cons, List.length_nil, List.length_take, List.length_drop, Int.toNat_natCast] at *; omega))) (hm : xs.length + ys.length ≤ 9223372036854775807 := by (first | omega | (simp only [List.length_map, List.length_replicate, List.length_append, List.length_cons, List.length_nil, List.length_take, List.length_drop, Int.toNat_natCast]; omega) | (simp only [List.length_map, List.length_replicate, List.length_append, List.length_cons, List.length_nil, List.length_take, List.length_drop, Int.toNat_natCast] at *; omega))) (hd : Nat.blt kd K.n = true := by rfl) (he : memN eff i = true := by rfl) :
    AnyFrom K ops eff N ((i, ⟨some kd, .call ⟨.builtin .append, #[x, y], #[ty, ty']⟩, tp, pos, aft, none⟩) :: al) t H pend :=
  a_effP (fun _ h1 => eop_append_osd ho hH ((h1 x (by simp [Op.operands, Call.operands])).trans hx) ((h1 y (by simp [Op.operands, Call.operands])).trans hy) hyl h0 hkd hk0 hs hkx hky hyleaf hb hm hsol hd (let ⟨h1, p', h2, h3⟩ := h; ⟨_, p', rfl, h1, h2, h3⟩)) he
/-- Some blocks are given up: a slot holds data. -/
theorem lendG {c : Code} {Ψ : Exit → Env → Heap → Prop} {G H1 : Heap} {d : T} (k : Nat) (x : T) (hl : Lends G d x) (hp : H.Perm (G ++ H1)) (h : Sim K c ((k, x) :: t) H1 Ψ) (hg : t.get k = d := by rfl) : Sim K c t H Ψ :=
  sim_lend (G := G) (H1 := H1) [(k, x)] hp ⟨hg ▸ hl, trivial⟩ h
theorem p_sll {P : Program} {dst : Option Tmp} {x l' : Operand} {dx : T} {f : Bool} {xs : List T} {k : IntKind} {i : Int} {d : T} {by_ : Nat} [hz : ElemZC P ty d by_] (hx : t.ev x = dx := by first | ((repeat (apply eS; rfl)); exact eZ) | exact ev_int | exact ev_bool | exact ev_nil | exact ev_str | exact ev_ptr | exact ev_agg | exact ev_map | exact ev_nilf | exact ev_nili | exact ev_func) (hxl : Le dx (.sl f xs) := by (first | exact Le.refl _ | exact Le.nil _ | exact Le.full _ _ | exact Le.any _ | (apply Le.agg; (repeat (apply LeL.cons; (first | exact Le.refl _ | exact Le.nil _ | exact Le.full _ _ | exact Le.any _))); exact LeL.nil) | (apply Le.tup; (repeat (apply LeL.cons; (first | exact Le.refl _ | exact Le.nil _ | exact Le.full _ _ | exact Le.any _ | (apply Le.agg; (repeat (apply LeL.cons; (first | exact Le.refl _ | exact Le.nil _ | exact Le.full _ _ | exact Le.any _))); exact LeL.nil)))); exact LeL.nil))) (hl : t.ev l' = .v (.int k i) := by first | ((repeat (apply eS; rfl)); exact eZ) | exact ev_int | exact ev_bool | exact ev_nil | exact ev_str | exact ev_ptr | exact ev_agg | exact ev_map | exact ev_nilf | exact ev_nili | exact ev_func) (h0 : 0 ≤ i := by (first | omega | (simp only [List.length_map, List.length_replicate, List.length_append, List.length_cons, List.length_nil, List.length_take, List.length_drop, Int.toNat_natCast]; omega) | (simp only [List.length_map, List.length_replicate, List.length_append, List.length_cons, List.length_nil, List.length_take, List.length_drop, Int.toNat_natCast] at *; omega))) (h2 : i ≤ xs.length := by (first | omega | (simp only [List.length_map, List.length_replicate, List.length_append, List.length_cons, List.length_nil, List.length_take, List.length_drop, Int.toNat_natCast]; omega) | (simp only [List.length_map, List.length_replicate, List.length_append, List.length_cons, List.length_nil, List.length_take, List.length_drop, Int.toNat_natCast] at *; omega))) (hk : ∀ x ∈ xs, x.cells.length = d.cells.length := by (repeat (first | exact lenOk_nil | (apply lenOk_map; intro _; rfl) | apply lenOk_append | apply lenOk_take | apply lenOk_drop | (apply lenOk_cons; rfl)))) :
    POp P t H ⟨dst, .slice ty x (some l') none none, tp, pos, aft, g⟩ (.sl f (xs.drop i.toNat)) := pop_slice_l hx hxl hl h0 h2 hk
theorem p_slh {P : Program} {dst : Option Tmp} {x l' : Operand} {dx : T} {f : Bool} {xs : List T} {k : IntKind} {i : Int} {d : T} {by_ : Nat} [hz : ElemZC P ty d by_] (hx : t.ev x = dx := by first | ((repeat (apply eS; rfl)); exact eZ) | exact ev_int | exact ev_bool | exact ev_nil | exact ev_str | exact ev_ptr | exact ev_agg | exact ev_map | exact ev_nilf | exact ev_nili | exact ev_func) (hxl : Le dx (.sl f xs) := by (first | exact Le.refl _ | exact Le.nil _ | exact Le.full _ _ | exact Le.any _ | (apply Le.agg; (repeat (apply LeL.cons; (first | exact Le.refl _ | exact Le.nil _ | exact Le.full _ _ | exact Le.any _))); exact LeL.nil) | (apply Le.tup; (repeat (apply LeL.cons; (first | exact Le.refl _ | exact Le.nil _ | exact Le.full _ _ | exact Le.any _ | (apply Le.agg; (repeat (apply LeL.cons; (first | exact Le.refl _ | exact Le.nil _ | exact Le.full _ _ | exact Le.any _))); exact LeL.nil)))); exact LeL.nil))) (hl : t.ev l' = .v (.int k i) := by first | ((repeat (apply eS; rfl)); exact eZ) | exact ev_int | exact ev_bool | exact ev_nil | exact ev_str | exact ev_ptr | exact ev_agg | exact ev_map | exact ev_nilf | exact ev_nili | exact ev_func) (h0 : 0 ≤ i := by (first | omega | (simp only [List.length_map, List.length_replicate, List.length_append, List.length_cons, List.length_nil, List.length_take, List.length_drop, Int.toNat_natCast]; omega) | (simp only [List.length_map, List.length_replicate, List.length_append, List.length_cons, List.length_nil, List.length_take, List.length_drop, Int.toNat_natCast] at *; omega))) (h2 : i ≤ xs.length := by (first | omega | (simp only [List.length_map, List.length_replicate, List.length_append, List.length_cons, List.length_nil, List.length_take, List.length_drop, Int.toNat_natCast]; omega) | (simp only [List.length_map, List.length_replicate, List.length_append, List.length_cons, List.length_nil, List.length_take, List.length_drop, Int.toNat_natCast] at *; omega))) (hk : ∀ x ∈ xs, x.cells.length = d.cells.length := by (repeat (first | exact lenOk_nil | (apply lenOk_map; intro _; rfl) | apply lenOk_append | apply lenOk_take | apply lenOk_drop | (apply lenOk_cons; rfl)))) :
    POp P t H ⟨dst, .slice ty x none (some l') none, tp, pos, aft, g⟩ (.sl (f && Nat.beq i.toNat xs.length) (xs.take i.toNat)) := pop_slice_h hx hxl hl h0 h2 hk
/-- Behind a slice that was cut off. -/
theorem e_osT {x y : Operand} {e : TypeId} {k : Nat} {xs ys : List T} {p : Option Addr} {n c : Nat} {Hs A B : Heap} {f : Bool} {dy d : T} {by_ : Nat} [hz : ElemZC K.P ty d by_] (ho : OSl e k xs (.slice p n c) Hs) (hkx : ∀ x ∈ xs, x.cells.length = k) (jj : Nat)
    (h : ∀ v' Hs', OSl e k (xs.take jj ++ ys) v' Hs' → SimFrom K ops (i + 1) l ((kd, .v v') :: t) (A ++ (Hs' ++ B)) N) (hH : H = A ++ (Hs ++ B) := by rfl) (hx : t.ev x = .v (.slice p (min jj xs.length) c) := by first | ((repeat (apply eS; rfl)); exact eZ) | exact ev_int | exact ev_bool | exact ev_nil | exact ev_str | exact ev_ptr | exact ev_agg | exact ev_map | exact ev_nilf | exact ev_nili | exact ev_func) (hy : t.ev y = dy := by first | ((repeat (apply eS; rfl)); exact eZ) | exact ev_int | exact ev_bool | exact ev_nil | exact ev_str | exact ev_ptr | exact ev_agg | exact ev_map | exact ev_nilf | exact ev_nili | exact ev_func) (hyl : Le dy (.sl f ys) := by (first | exact Le.refl _ | exact Le.nil _ | exact Le.full _ _ | exact Le.any _ | (apply Le.agg; (repeat (apply LeL.cons; (first | exact Le.refl _ | exact Le.nil _ | exact Le.full _ _ | exact Le.any _))); exact LeL.nil) | (apply Le.tup; (repeat (apply LeL.cons; (first | exact Le.refl _ | exact Le.nil _ | exact Le.full _ _ | exact Le.any _ | (apply Le.agg; (repeat (apply LeL.cons; (first | exact Le.refl _ | exact Le.nil _ | exact Le.full _ _ | exact Le.any _))); exact LeL.nil)))); exact LeL.nil))) (h0 : 0 < ys.length := by (first | omega | (simp only [List.length_map, List.length_replicate, List.length_append, List.length_cons, List.length_nil, List.length_take, List.length_drop, Int.toNat_natCast]; omega) | (simp only [List.length_map, List.length_replicate, List.length_append, List.length_cons, List.length_nil, List.length_take, List.length_drop, Int.toNat_natCast] at *; omega)))
    (hkd : d.cells.length = k := by rfl) (hk0 : elemTy K.P ty = e := by rfl) (hs : isSliceTy K.P ty' = true := by rfl) (hky : ∀ x ∈ ys, x.cells.length = k := by (repeat (first | exact lenOk_nil | (apply lenOk_map; intro _; rfl) | apply lenOk_append | apply lenOk_take | apply lenOk_drop | (apply lenOk_cons; rfl)))) (hyleaf : ∀ x ∈ ys, allLeaf x.cells = true := by (repeat (first | exact leafOk_nil | (apply leafOk_map; intro _; rfl) | apply leafOk_append | apply leafOk_take | apply leafOk_drop | (apply leafOk_cons; rfl))))
    (hb : (xs.length + ys.length) * by_ ≤ 140737488355328 := by (first | omega | (simp only [List.length_map, List.length_replicate, List.length_append, List.length_cons, List.length_nil, List.length_take, List.length_drop, Int.toNat_natCast]; omega) | (simp only [List.length_map, List.length_replicate, List.length_append, List.length_cons, List.length_nil, List.length_take, List.length_drop, Int.toNat_natCast] at *; omega))) (hm : xs.length + ys.length ≤ 9223372036854775807 := by (first | omega | (simp only [List.length_map, List.length_replicate, List.length_append, List.length_cons, List.length_nil, List.length_take, List.length_drop, Int.toNat_natCast]; omega) | (simp only [List.length_map, List.length_replicate, List.length_append, List.length_cons, List.length_nil, List.length_take, List.length_drop, Int.toNat_natCast] at *; omega))) (hd : Nat.blt kd K.n = true := by rfl) :
    SimFrom K ops i (⟨some kd, .call ⟨.builtin .append, #[x, y], #[ty, ty']⟩, tp, pos, aft, none⟩ :: l) t H N := by
  obtain ⟨Hs', hF, ho'⟩ := OSl.take ho hkx jj
  have hlen : (xs.take jj).length ≤ xs.length := by simp; omega
  have hb' : ((xs.take jj).length + ys.length) * by_ ≤ 140737488355328 := Nat.le_trans (Nat.mul_le_mul_right _ (by omega)) hb
  exact from_e (eop_front (by rw [hH]; exact kH hF.app) (eop_append_os ho' rfl hx hy hyl h0 hkd hk0 hs (fun x hx => hkx x (List.mem_of_mem_take hx)) hky hyleaf hb' (by omega) hd h))
end Go.Cap
end
section
set_option maxRecDepth 4000
namespace Go.Proofs.Ytppaabahbjgihaa
open Go.Cap
set_option linter.unusedSimpArgs false
set_option linter.unusedVariables false
attribute [local irreducible] POp SimFrom DrawFrom EOp Sim FnH T.gp
theorem rLast_fn (n : Nd) (hl : n.log.length ≤ 1000000000) (hb1 : -100000000000 ≤ n.base) (hb2 : n.base ≤ 100000000000) : FnP Try.prog 27 [nd n] (fun r => r = .tup [ei (lastF n), ei (termF n (lastF n))]) := by
  refine fn_enter Try.func27 (by rfl) (by rfl) ?_
  intro S0 w0
  show Sim _ _ [(0, T.agg (nodeC n (.sl false (n.log.map een))))] _ _
  (repeat (first | apply cn | apply cq | apply cb | apply ck | apply cl | apply cx))
  apply cr
  refine e_bx fun b1 _ => ?_
  refine s_ p_as ?_
  refine s_ p_as ?_
  (repeat (first | apply cn | apply cq | apply cb | apply ck | apply cl | apply cx))
  refine lend1 1 (by simp [nodeC]) ?_
  (repeat (first | apply cn | apply cq | apply cb | apply ck | apply cl | apply cx))
  apply cr
  refine s_ p_fa ?_
  refine s_ p_ld ?_
  (first | refine s_ p_ln ?_ | refine s_ p_lr ?_)
  refine s_ p_eq ?_
  (repeat (first | apply cn | apply cq | apply cb | apply ck | apply cl | apply cx))
  refine ci ?_ ?_
  · intro hc
    simp only [List.length_map] at hc
    (repeat (first | apply cn | apply cq | apply cb | apply ck | apply cl | apply cx))
    refine ca [0, 1, 2, 3, 4, 5] [] ?_
    refine a_ (fun _ => p_fa) ?_
    refine a_ (fun _ => p_ld) ?_
    refine a_ (fun _ => p_fa) ?_
    refine a_ (fun _ => p_ld) ?_
    refine a_ (fun _ => p_as) ?_
    refine a_ (fun _ => p_as) ?_
    apply an
    (repeat (first | apply cn | apply cq | apply cb | apply ck | apply cl | apply cx))
    (apply sim_ret; (try simp only [blockΨ_ret, thenΨ_ret, loopL_ret, cutΨ_ret, cutE_ret]); first | refine rt ?_ | refine rn ?_)
    have h1 : lastF n = n.base := by simp only [lastF]; omega
    rw [h1, termF, if_neg (by omega)]
    exact Le.refl _
  · intro hc
    simp only [List.length_map] at hc
    (repeat (first | apply cn | apply cq | apply cb | apply ck | apply cl | apply cx))
    refine ca [0, 1, 2, 3, 4, 5, 6, 7, 8, 9, 10, 11, 12, 13, 14, 15, 16] [] ?_
    refine a_ (fun _ => p_fa) ?_
    refine a_ (fun _ => p_ld) ?_
    refine a_ (fun _ => p_fa) ?_
    refine a_ (fun _ => p_ld) ?_
    (first | refine a_ (fun _ => p_ln) ?_ | refine a_ (fun _ => p_lr) ?_)
    refine a_ (fun _ => p_ad) ?_
    refine a_ (fun _ => p_fa) ?_
    refine a_ (fun _ => p_ld) ?_
    refine a_ (fun _ => p_fa) ?_
    refine a_ (fun _ => p_ld) ?_
    (first | refine a_ (fun _ => p_ln) ?_ | refine a_ (fun _ => p_lr) ?_)
    refine a_ (fun _ => p_su) ?_
    (first | refine a_ (fun _ => p_ix hix) ?_ | refine a_ (fun _ => p_ix hix2) ?_ | refine a_ (fun _ => p_ia) ?_ | refine a_ (fun _ => p_ir) ?_)
    (first | refine a_ (fun _ => p_fa) ?_ | refine a_ (fun _ => p_fr) ?_)
    (first | refine a_ (fun _ => p_ld) ?_ | refine a_lo ?_)
    refine a_ (fun _ => p_as) ?_
    refine a_ (fun _ => p_as) ?_
    apply an
    (repeat (first | apply cn | apply cq | apply cb | apply ck | apply cl | apply cx))
    (apply sim_ret; (try simp only [blockΨ_ret, thenΨ_ret, loopL_ret, cutΨ_ret, cutE_ret]); first | refine rt ?_ | refine rn ?_)
    rw [termF, if_pos (by simp only [lastF]; omega)]
    refine Le.of_eq ?_
    have h1 : (lastF n - n.base - 1).toNat = (((n.log.map een).length : Nat) - 1 : Int).toNat := by simp only [lastF, List.length_map]; omega
    have h2 : lastF n = n.base + ((n.log.map een).length : Nat) := by simp only [lastF, List.length_map]
    rw [h1, h2]
    rfl
theorem member_fn (conf id : Int) (h0 : 0 ≤ id) (h1 : id < 5) (h2 : 0 ≤ conf) (h3 : conf ≤ 31) : FnP Try.prog 72 [ei conf, ei id] (fun r => r = .v (.bool (decide (isF conf id = true)))) := by
  refine fn_enter Try.func72 (by rfl) (by rfl) ?_
  intro S0 w0
  show Sim _ _ [(0, ei conf), (1, ei id)] _ _
  have hw := wrap32 h0 (by omega)
  (repeat (first | apply cn | apply cq | apply cb | apply ck | apply cl | apply cx))
  apply cr
  refine s_ p_as ?_
  (repeat (first | apply cn | apply cq | apply cb | apply ck | apply cl | apply cx))
  apply cr
  refine s_ p_mv ?_
  refine s_ p_mv ?_
  refine s_ p_cv ?_
  refine s_ p_shr ?_
  refine s_ p_and ?_
  refine s_ p_eq ?_
  refine s_ p_as ?_
  (repeat (first | apply cn | apply cq | apply cb | apply ck | apply cl | apply cx))
  (apply sim_ret; (try simp only [blockΨ_ret, thenΨ_ret, loopL_ret, cutΨ_ret, cutE_ret]); first | refine rt ?_ | refine rn ?_)
  rw [wrap32 h0 (by omega), is_eq h2 h3 h0 h1]
  exact Le.of_eq (congrArg (fun z => T.v (.bool z)) (by simp))
theorem count_fn (x : Int) (h0 : 0 ≤ x) (h1 : x ≤ 31) : FnP Try.prog 82 [ei x] (fun r => r = ei (ones x)) := by
  have ho := onesK_eq h0 h1
  refine fn_enter Try.func82 (by rfl) (by rfl) ?_
  intro S0 w0
  show Sim _ _ [(0, ei x)] _ _
  (repeat (first | apply cn | apply cq | apply cb | apply ck | apply cl | apply cx))
  apply cr
  refine s_ p_as ?_
  (repeat (first | apply cn | apply cq | apply cb | apply ck | apply cl | apply cx))
  apply cr
  refine s_ p_as ?_
  (repeat (first | apply cn | apply cq | apply cb | apply ck | apply cl | apply cx))
  apply cr
  refine s_ p_as ?_
  (repeat (first | apply cn | apply cq | apply cb | apply ck | apply cl | apply cx))
  apply sim_loopL (σ := Nat) (ok := fun k => k ≤ 5) (env := fun k => [(4, ei (k : Nat)), (3, ei (onesK x k)), (0, ei x)]) (heap := fun _ => []) (μ := fun k => 5 - k) (s0 := 0)
  · exact Nat.zero_le _
  · exact eL
  · exact kR
  intro k hk
  (repeat (first | apply cn | apply cq | apply cb | apply ck | apply cl | apply cx))
  apply cr
  refine s_ p_mv ?_
  refine s_ p_lt ?_
  (repeat (first | apply cn | apply cq | apply cb | apply ck | apply cl | apply cx))
  refine ci ?_ ?_
  · intro hlt
    have hk5 : k < 5 := by omega
    have hb := ho.2 k hk
    have hwk : IntKind.u64.wrap (k : Nat) = k := wrap32 (by omega) (by omega)
    (repeat (first | apply cn | apply cq | apply cb | apply ck | apply cl | apply cx))
    apply cr
    refine s_ p_mv ?_
    refine s_ p_mv ?_
    refine s_ p_mv ?_
    refine s_ p_cv ?_
    refine s_ p_shr ?_
    refine s_ p_and ?_
    refine s_ p_ad ?_
    refine s_ p_as ?_
    (repeat (first | apply cn | apply cq | apply cb | apply ck | apply cl | apply cx))
    apply cr
    refine s_ p_mv ?_
    refine s_ p_ad ?_
    refine s_ p_as ?_
    (repeat (first | apply cn | apply cq | apply cb | apply ck | apply cl | apply cx))
    exact ⟨k + 1, hk5, by show 5 - (k + 1) < 5 - k; omega, ⟨le_get (by rfl) (Le.refl _), le_get (by ((repeat (apply gS; rfl)); exact gZ)) (Le.refl _), eL⟩, kR⟩
  · intro hlt
    have : k = 5 := by omega
    subst this
    (repeat (first | apply cn | apply cq | apply cb | apply ck | apply cl | apply cx))
    apply cr
    refine s_ p_mv ?_
    refine s_ p_as ?_
    (repeat (first | apply cn | apply cq | apply cb | apply ck | apply cl | apply cx))
    (apply sim_ret; (try simp only [blockΨ_ret, thenΨ_ret, loopL_ret, cutΨ_ret, cutE_ret]); first | refine rt ?_ | refine rn ?_)
    rw [ho.1]
    exact Le.refl _
theorem and_comm32 {x y : Int} : andI x y = andI y x := by unfold andI; rw [Nat.and_comm]
theorem rmost_fn (some conf : Int) (h0 : 0 ≤ some) (h1 : some ≤ 31) (h2 : 0 ≤ conf) (h3 : conf ≤ 31) : FnP Try.prog 73 [ei some, ei conf] (fun r => r = .v (.bool (decide (mostF conf some = true)))) := by
  have hb := and_bd h0 h1 h2 h3
  have o1 := count_fn (andI some conf) hb.2.1 hb.2.2
  have o2 := count_fn conf h2 h3
  have l1 := ones_bd hb.2.1 hb.2.2
  rw [← hb.1] at o1 l1
  refine fn_enter Try.func73 (by rfl) (by rfl) ?_
  intro S0 w0
  show Sim _ _ [(0, ei some), (1, ei conf)] _ _
  (repeat (first | apply cn | apply cq | apply cb | apply ck | apply cl | apply cx))
  apply cr
  refine s_ p_as ?_
  (repeat (first | apply cn | apply cq | apply cb | apply ck | apply cl | apply cx))
  apply cr
  refine s_ p_mv ?_
  refine s_ p_mv ?_
  refine s_ p_and ?_
  refine s_ (p_ca (o1)) ?_
  refine s_ p_mu ?_
  refine s_ p_mv ?_
  refine s_ (p_ca (o2)) ?_
  refine s_ p_gt ?_
  refine s_ p_as ?_
  (repeat (first | apply cn | apply cq | apply cb | apply ck | apply cl | apply cx))
  (apply sim_ret; (try simp only [blockΨ_ret, thenΨ_ret, loopL_ret, cutΨ_ret, cutE_ret]); first | refine rt ?_ | refine rn ?_)
  refine Le.of_eq (congrArg (fun z => T.v (.bool z)) ?_)
  rw [decide_eq_decide, mostF, decide_eq_true_iff, hb.1, and_comm32]
def termAtF (n : Nd) (i : Int) : Int := if i = n.base then n.baseTerm else if i < n.base ∨ n.base + n.log.length < i then -1 else (n.log.getD (i - n.base - 1).toNat default).term
theorem termAt_fn (n : Nd) (i : Int) (hl : n.log.length ≤ 1000000000) (hb1 : -big ≤ n.base) (hb2 : n.base ≤ big) (hi1 : -big ≤ i) (hi2 : i ≤ big) : FnP Try.prog 81 [nd n, ei i] (fun r => r = ei (termAtF n i)) := by
  refine fn_enter Try.func81 (by rfl) (by rfl) ?_
  intro S0 w0
  show Sim _ _ [(0, T.agg (nodeC n (.sl false (n.log.map een)))), (1, ei i)] _ _
  simp only [big] at hb1 hb2 hi1 hi2
  (repeat (first | apply cn | apply cq | apply cb | apply ck | apply cl | apply cx))
  apply cr
  refine e_bx fun b2 _ => ?_
  refine s_ p_as ?_
  (repeat (first | apply cn | apply cq | apply cb | apply ck | apply cl | apply cx))
  refine lend1 2 (by simp [nodeC]) ?_
  (repeat (first | apply cn | apply cq | apply cb | apply ck | apply cl | apply cx))
  apply cr
  refine s_ p_mv ?_
  refine s_ p_fa ?_
  refine s_ p_ld ?_
  refine s_ p_eq ?_
  refine s_ p_as ?_
  (repeat (first | apply cn | apply cq | apply cb | apply ck | apply cl | apply cx))
  refine ci ?_ ?_
  · intro hc
    (repeat (first | apply cn | apply cq | apply cb | apply ck | apply cl | apply cx))
    apply cr
    refine s_ p_fa ?_
    refine s_ p_ld ?_
    refine s_ p_as ?_
    (repeat (first | apply cn | apply cq | apply cb | apply ck | apply cl | apply cx))
    (apply sim_ret; (try simp only [blockΨ_ret, thenΨ_ret, loopL_ret, cutΨ_ret, cutE_ret]); first | refine rt ?_ | refine rn ?_)
    rw [termAtF, if_pos hc]
    exact Le.refl _
  intro hc
  (repeat (first | apply cn | apply cq | apply cb | apply ck | apply cl | apply cx))
  apply cr
  refine s_ p_mv ?_
  refine s_ p_fa ?_
  refine s_ p_ld ?_
  refine s_ p_lt ?_
  refine s_ p_mv ?_
  refine gF (fun hg => p_mv) ?_
  refine gF (fun hg => p_fa) ?_
  refine gF (fun hg => p_ld (hx := u_ hg)) ?_
  refine gF (fun hg => p_fa) ?_
  refine gF (fun hg => p_ld (hx := u_ hg)) ?_
  (first | refine gF (fun hg => p_ln (hx := u_ hg)) ?_ | refine gF (fun hg => p_lr (hx := u_ hg)) ?_)
  refine gF (fun hg => p_ad (hx := u_ hg) (hy := u_ hg)) ?_
  refine gF (fun hg => p_gt (hx := u_ hg) (hy := u_ hg)) ?_
  refine s_ p_or ?_
  refine s_ p_as ?_
  (repeat (first | apply cn | apply cq | apply cb | apply ck | apply cl | apply cx))
  refine ci ?_ ?_
  · intro hd
    simp only [List.length_map] at hd
    (repeat (first | apply cn | apply cq | apply cb | apply ck | apply cl | apply cx))
    apply cr
    refine s_ p_as ?_
    (repeat (first | apply cn | apply cq | apply cb | apply ck | apply cl | apply cx))
    (apply sim_ret; (try simp only [blockΨ_ret, thenΨ_ret, loopL_ret, cutΨ_ret, cutE_ret]); first | refine rt ?_ | refine rn ?_)
    rw [termAtF, if_neg hc, if_pos hd]
    exact Le.refl _
  · intro hd
    simp only [List.length_map] at hd
    (repeat (first | apply cn | apply cq | apply cb | apply ck | apply cl | apply cx))
    apply cr
    refine s_ p_fa ?_
    refine s_ p_ld ?_
    refine s_ p_mv ?_
    refine s_ p_fa ?_
    refine s_ p_ld ?_
    refine s_ p_su ?_
    refine s_ p_su ?_
    (first | refine s_ (p_ix hix) ?_ | refine s_ (p_ix hix2) ?_ | refine s_ p_ia ?_ | refine s_ p_ir ?_)
    (first | refine s_ p_fa ?_ | refine s_ p_fr ?_)
    (first | refine s_ p_ld ?_ | refine s_ p_lo ?_)
    refine s_ p_as ?_
    (repeat (first | apply cn | apply cq | apply cb | apply ck | apply cl | apply cx))
    (apply sim_ret; (try simp only [blockΨ_ret, thenΨ_ret, loopL_ret, cutΨ_ret, cutE_ret]); first | refine rt ?_ | refine rn ?_)
    rw [termAtF, if_neg hc, if_neg hd]
    exact Le.refl _
theorem termAt_eq {n : Nd} {i : Int} (h1 : n.base ≤ i) (h2 : i ≤ lastF n) : termAtF n i = termF n i := by
  unfold termAtF termF lastF at *
  by_cases h : i = n.base
  · rw [if_pos h, if_neg (by omega)]
  · rw [if_neg h, if_neg (by omega), if_pos (by omega)]
/-- Where the last entry with members is, of the first k. -/
def placeK (n : Nd) : Nat → Int
  | 0 => 0
  | k + 1 => if ¬ (n.log.getD k default).conf = 0 then n.base + k + 1 else placeK n k
def uptoK (n : Nd) (upto : Int) : Nat := min n.log.length (upto - n.base).toNat
theorem placeK_lc (n : Nd) : ∀ k, placeK n k = match lc n.log k with
    | none => 0
    | some (j, _) => n.base + j + 1
  | 0 => rfl
  | k + 1 => by
    rw [placeK, lc]
    by_cases h : (n.log.getD k default).conf = 0
    · rw [if_neg (fun h' => h' h), if_neg (fun h' => h' h)]
      exact placeK_lc n k
    · rw [if_pos h, if_pos h]
theorem bcK_lc (n : Nd) : ∀ k, bcK n k = match lc n.log k with
    | none => n.baseConf
    | some (_, c) => c
  | 0 => rfl
  | k + 1 => by
    rw [bcK, lc]
    by_cases h : (n.log.getD k default).conf = 0
    · rw [if_neg (fun h' => h' h), if_neg (fun h' => h' h)]
      exact bcK_lc n k
    · rw [if_pos h, if_pos h]
theorem lc_at (l : List En) : ∀ k j c, lc l k = some (j, c) → j < k ∧ (l.getD j default).conf = c
  | 0, _, _, h => by cases h
  | k + 1, j, c, h => by
    rw [lc] at h
    split at h
    · cases h; exact ⟨by omega, rfl⟩
    · have := lc_at l k j c h; exact ⟨by omega, this.2⟩
theorem place_bd {n : Nd} (hb1 : 0 ≤ n.base) {k : Nat} : 0 ≤ placeK n k ∧ placeK n k ≤ n.base + k := by
  rw [placeK_lc]
  cases h : lc n.log k with
  | none => exact ⟨Int.le_refl _, by simp only; omega⟩
  | some p =>
    have := (lc_at _ _ p.1 p.2 h).1
    simp only; omega
set_option maxHeartbeats 1000000 in
theorem place_fn (n : Nd) (upto : Int) (hl : n.log.length ≤ 1000000000) (hb1 : 0 ≤ n.base) (hb2 : n.base ≤ 1000000000000) : FnP Try.prog 83 [nd n, ei upto] (fun r => r = ei (placeK n (uptoK n upto))) := by
  refine fn_enter Try.func83 (by rfl) (by rfl) ?_
  intro S0 w0
  show Sim _ _ [(0, T.agg (nodeC n (.sl false (n.log.map een)))), (1, ei upto)] _ _
  (repeat (first | apply cn | apply cq | apply cb | apply ck | apply cl | apply cx))
  apply cr
  refine e_bx fun b2 _ => ?_
  refine s_ p_as ?_
  (repeat (first | apply cn | apply cq | apply cb | apply ck | apply cl | apply cx))
  refine lend1 2 (by simp [nodeC]) ?_
  (repeat (first | apply cn | apply cq | apply cb | apply ck | apply cl | apply cx))
  apply cr
  refine s_ p_as ?_
  (repeat (first | apply cn | apply cq | apply cb | apply ck | apply cl | apply cx))
  apply cr
  refine s_ p_as ?_
  (repeat (first | apply cn | apply cq | apply cb | apply ck | apply cl | apply cx))
  apply sim_loopL (σ := Nat) (ok := fun k => k ≤ uptoK n upto) (env := fun k => [(6, ei (k : Nat)), (5, ei (placeK n k)), (2, .adr (.agg (nodeC n (.sl false (n.log.map een))))), (1, ei upto)]) (heap := fun _ => []) (μ := fun k => n.log.length - k) (s0 := 0)
  · exact Nat.zero_le _
  · exact eL
  · exact kR
  intro k hk
  have hkl : k ≤ n.log.length := Nat.le_trans hk (Nat.min_le_left _ _)
  (repeat (first | apply cn | apply cq | apply cb | apply ck | apply cl | apply cx))
  apply cr
  refine s_ p_mv ?_
  refine s_ p_fa ?_
  refine s_ p_ld ?_
  (first | refine s_ p_ln ?_ | refine s_ p_lr ?_)
  refine s_ p_lt ?_
  refine s_ p_mv ?_
  refine gT (fun hg => p_fa) ?_
  refine gT (fun hg => p_ld (hx := u_ hg)) ?_
  refine gT (fun hg => p_mv) ?_
  refine gT (fun hg => p_ad (hx := u_ hg) (hy := u_ hg)) ?_
  refine gT (fun hg => p_ad (hx := u_ hg)) ?_
  refine gT (fun hg => p_mv) ?_
  refine gT (fun hg => p_le (hx := u_ hg) (hy := u_ hg)) ?_
  refine s_ p_an ?_
  (repeat (first | apply cn | apply cq | apply cb | apply ck | apply cl | apply cx))
  refine ci ?_ ?_
  · intro hc
    have hc1 : k < n.log.length := by have := hc.1; simp only [List.length_map] at this; omega
    have hc2 : n.base + k + 1 ≤ upto := hc.2
    have hk1 : k + 1 ≤ uptoK n upto := by unfold uptoK; omega
    have hix := hc1
    have hg : n.log.getD k default = n.log[k] := by simp [hc1]
    (repeat (first | apply cn | apply cq | apply cb | apply ck | apply cl | apply cx))
    apply cr
    refine s_ p_fa ?_
    refine s_ p_ld ?_
    refine s_ p_mv ?_
    (first | refine s_ (p_ix hix) ?_ | refine s_ (p_ix hix2) ?_ | refine s_ p_ia ?_ | refine s_ p_ir ?_)
    (first | refine s_ p_fa ?_ | refine s_ p_fr ?_)
    (first | refine s_ p_ld ?_ | refine s_ p_lo ?_)
    refine s_ p_ne ?_
    (repeat (first | apply cn | apply cq | apply cb | apply ck | apply cl | apply cx))
    refine ci ?_ ?_
    · intro hd
      (repeat (first | apply cn | apply cq | apply cb | apply ck | apply cl | apply cx))
      apply cr
      refine s_ p_fa ?_
      refine s_ p_ld ?_
      refine s_ p_mv ?_
      refine s_ p_ad ?_
      refine s_ p_ad ?_
      refine s_ p_as ?_
      (repeat (first | apply cn | apply cq | apply cb | apply ck | apply cl | apply cx))
      apply cr
      refine s_ p_mv ?_
      refine s_ p_ad ?_
      refine s_ p_as ?_
      (repeat (first | apply cn | apply cq | apply cb | apply ck | apply cl | apply cx))
      refine ⟨k + 1, hk1, by show n.log.length - (k + 1) < n.log.length - k; omega, ⟨le_get (by rfl) (Le.refl _), le_get (by ((repeat (apply gS; rfl)); exact gZ)) (Le.of_eq ?_), eL⟩, kR⟩
      rw [placeK, hg, if_pos hd]
      rfl
    · intro hd
      (repeat (first | apply cn | apply cq | apply cb | apply ck | apply cl | apply cx))
      apply cr
      refine s_ p_mv ?_
      refine s_ p_ad ?_
      refine s_ p_as ?_
      (repeat (first | apply cn | apply cq | apply cb | apply ck | apply cl | apply cx))
      refine ⟨k + 1, hk1, by show n.log.length - (k + 1) < n.log.length - k; omega, ⟨le_get (by rfl) (Le.refl _), le_get (by ((repeat (apply gS; rfl)); exact gZ)) (Le.of_eq ?_), eL⟩, kR⟩
      rw [placeK, hg, if_neg hd]
  · intro hc
    have : k = uptoK n upto := by
      unfold uptoK at hk ⊢
      by_cases h : k < n.log.length
      · have h2 : ¬ n.base + k + 1 ≤ upto := fun h2 => hc ⟨by simp only [List.length_map]; omega, h2⟩
        omega
      · omega
    subst this
    (repeat (first | apply cn | apply cq | apply cb | apply ck | apply cl | apply cx))
    apply cr
    refine s_ p_mv ?_
    refine s_ p_as ?_
    (repeat (first | apply cn | apply cq | apply cb | apply ck | apply cl | apply cx))
    (apply sim_ret; (try simp only [blockΨ_ret, thenΨ_ret, loopL_ret, cutΨ_ret, cutE_ret]); first | refine rt ?_ | refine rn ?_)
    exact Le.refl _
set_option maxHeartbeats 1000000 in
theorem confAt_fn (n : Nd) (upto : Int) (hl : n.log.length ≤ 1000000000) (hb1 : 0 ≤ n.base) (hb2 : n.base ≤ 1000000000000) : FnP Try.prog 60 [nd n, ei upto] (fun r => r = ei (bcK n (uptoK n upto))) := by
  have hp := place_fn n upto hl hb1 hb2
  have hpb := place_bd (n := n) (k := uptoK n upto) hb1
  have hlk : uptoK n upto ≤ n.log.length := Nat.min_le_left _ _
  refine fn_enter Try.func60 (by rfl) (by rfl) ?_
  intro S0 w0
  show Sim _ _ [(0, T.agg (nodeC n (.sl false (n.log.map een)))), (1, ei upto)] _ _
  (repeat (first | apply cn | apply cq | apply cb | apply ck | apply cl | apply cx))
  apply cr
  refine e_bx fun b2 _ => ?_
  refine s_ p_as ?_
  (repeat (first | apply cn | apply cq | apply cb | apply ck | apply cl | apply cx))
  refine lend1 2 (by simp [nodeC]) ?_
  (repeat (first | apply cn | apply cq | apply cb | apply ck | apply cl | apply cx))
  apply cr
  refine s_ p_la ?_
  refine s_ p_mv ?_
  refine s_ (p_ca (hp)) ?_
  refine s_ p_as ?_
  (repeat (first | apply cn | apply cq | apply cb | apply ck | apply cl | apply cx))
  apply cr
  refine s_ p_mv ?_
  refine s_ p_eq ?_
  (repeat (first | apply cn | apply cq | apply cb | apply ck | apply cl | apply cx))
  have hcases : (placeK n (uptoK n upto) = 0 ∧ bcK n (uptoK n upto) = n.baseConf) ∨ ∃ j : Nat, j < n.log.length ∧ placeK n (uptoK n upto) = n.base + j + 1 ∧ bcK n (uptoK n upto) = (n.log.getD j default).conf := by
    rw [placeK_lc, bcK_lc]
    cases h : lc n.log (uptoK n upto) with
    | none => exact .inl ⟨rfl, rfl⟩
    | some p =>
      have hj := lc_at _ _ p.1 p.2 h
      exact .inr ⟨p.1, by omega, rfl, hj.2.symm⟩
  rcases hcases with ⟨h1, h2⟩ | ⟨j, hj, h1, h2⟩
  · rw [h1, h2]
    refine ci (fun _ => ?_) (fun hc => absurd rfl hc)
    (repeat (first | apply cn | apply cq | apply cb | apply ck | apply cl | apply cx))
    apply cr
    refine s_ p_fa ?_
    refine s_ p_ld ?_
    refine s_ p_as ?_
    (repeat (first | apply cn | apply cq | apply cb | apply ck | apply cl | apply cx))
    (apply sim_ret; (try simp only [blockΨ_ret, thenΨ_ret, loopL_ret, cutΨ_ret, cutE_ret]); first | refine rt ?_ | refine rn ?_)
    exact Le.refl _
  · rw [h1, h2]
    refine ci (fun hc => ?_) (fun hc => ?_)
    · exfalso
      have hc' : n.base + j + 1 = 0 := hc
      omega
    · have hix := hj
      (repeat (first | apply cn | apply cq | apply cb | apply ck | apply cl | apply cx))
      apply cr
      refine s_ p_fa ?_
      refine s_ p_ld ?_
      refine s_ p_mv ?_
      refine s_ p_fa ?_
      refine s_ p_ld ?_
      refine s_ p_su ?_
      refine s_ p_su ?_
      have e : n.base + j + 1 - n.base - 1 = ((j : Nat) : Int) := by omega
      rw [e]
      (first | refine s_ (p_ix hix) ?_ | refine s_ (p_ix hix2) ?_ | refine s_ p_ia ?_ | refine s_ p_ir ?_)
      (first | refine s_ p_fa ?_ | refine s_ p_fr ?_)
      (first | refine s_ p_ld ?_ | refine s_ p_lo ?_)
      refine s_ p_as ?_
      (repeat (first | apply cn | apply cq | apply cb | apply ck | apply cl | apply cx))
      (apply sim_ret; (try simp only [blockΨ_ret, thenΨ_ret, loopL_ret, cutΨ_ret, cutE_ret]); first | refine rt ?_ | refine rn ?_)
      have hg : n.log.getD j default = n.log[j] := by simp [hix]
      rw [hg]
      exact Le.refl _
theorem uptoK_last (n : Nd) : uptoK n (lastF n) = n.log.length := by unfold uptoK lastF; omega
theorem bcK_conf2 (n : Nd) : bcK n n.log.length = (confF n).2 := by
  rw [bcK_lc]
  unfold confF
  cases lc n.log n.log.length with
  | none => rfl
  | some p => rfl
theorem rConf_fn (n : Nd) (hl : n.log.length ≤ 1000000000) (hb1 : 0 ≤ n.base) (hb2 : n.base ≤ 100000000000) : FnP Try.prog 29 [nd n] (fun r => r = ei (confF n).2) := by
  have hL := rLast_fn n hl (by omega) hb2
  have hC := confAt_fn n (lastF n) hl hb1 (by omega)
  rw [uptoK_last, bcK_conf2] at hC
  refine fn_enter Try.func29 (by rfl) (by rfl) ?_
  intro S0 w0
  show Sim _ _ [(0, T.agg (nodeC n (.sl false (n.log.map een))))] _ _
  (repeat (first | apply cn | apply cq | apply cb | apply ck | apply cl | apply cx))
  apply cr
  refine e_bx fun b1 _ => ?_
  refine s_ p_as ?_
  (repeat (first | apply cn | apply cq | apply cb | apply ck | apply cl | apply cx))
  refine lend1 1 (by simp [nodeC]) ?_
  (repeat (first | apply cn | apply cq | apply cb | apply ck | apply cl | apply cx))
  apply cr
  refine s_ p_la ?_
  refine s_ (p_ca (hL)) ?_
  refine s_ p_mv ?_
  refine s_ p_ex ?_
  refine s_ p_ex ?_
  refine s_ p_as ?_
  refine s_ p_as ?_
  (repeat (first | apply cn | apply cq | apply cb | apply ck | apply cl | apply cx))
  apply cr
  refine s_ p_la ?_
  refine s_ p_mv ?_
  refine s_ (p_ca (hC)) ?_
  refine s_ p_as ?_
  (repeat (first | apply cn | apply cq | apply cb | apply ck | apply cl | apply cx))
  (apply sim_ret; (try simp only [blockΨ_ret, thenΨ_ret, loopL_ret, cutΨ_ret, cutE_ret]); first | refine rt ?_ | refine rn ?_)
  exact Le.refl _
theorem rWake_fn (n : Nd) (hl : n.log.length ≤ 1000000000) : FnP Try.prog 55 [nd n] (fun r => r = nd (wakeF n)) := by
  refine fn_enter Try.func55 (by rfl) (by rfl) ?_
  intro S0 w0
  show Sim _ _ [(0, T.agg (nodeC n (.sl false (n.log.map een))))] _ _
  (repeat (first | apply cn | apply cq | apply cb | apply ck | apply cl | apply cx))
  apply cr
  refine e_bx fun b1 _ => ?_
  refine e_al fun b2 _ => ?_
  (repeat (first | apply cn | apply cq | apply cb | apply ck | apply cl | apply cx))
  refine sim_perm (List.Perm.swap _ _ _) ?_
  refine lend1 1 (by simp [nodeC]) ?_
  (repeat (first | apply cn | apply cq | apply cb | apply ck | apply cl | apply cx))
  refine ca [0, 1, 2, 3, 4, 5, 6, 7, 8, 9, 10, 11, 12, 13, 14, 15, 16, 17, 18, 19, 20, 21] [21] ?_
  refine a_ (fun _ => p_fa) ?_
  refine a_ (fun _ => p_ld) ?_
  refine a_ (fun _ => p_fa) ?_
  refine a_ (fun _ => p_ld) ?_
  refine a_ (fun _ => p_fa) ?_
  refine a_ (fun _ => p_ld) ?_
  refine a_ (fun _ => p_fa) ?_
  refine a_ (fun _ => p_ld) ?_
  refine a_ (fun _ => p_fa) ?_
  refine a_ (fun _ => p_ld) ?_
  refine a_ (fun _ => p_fa) ?_
  refine a_ (fun _ => p_ld) ?_
  refine a_ (fun _ => p_fa) ?_
  refine a_ (fun _ => p_ld) ?_
  refine a_ (fun _ => p_bs) ?_
  refine a_ (fun _ => p_fa) ?_
  refine a_ (fun _ => p_ld) ?_
  refine a_ (fun _ => p_ap) ?_
  refine a_ (fun _ => p_fa) ?_
  refine a_ (fun _ => p_ld) ?_
  refine a_ (fun _ => p_bR 22) ?_
  refine a_st ?_
  apply an
  (repeat (first | apply cn | apply cq | apply cb | apply ck | apply cl | apply cx))
  (apply sim_ret; (try simp only [blockΨ_ret, thenΨ_ret, loopL_ret, cutΨ_ret, cutE_ret]); first | refine rt ?_ | refine rn ?_)
  exact Le.refl _
set_option maxHeartbeats 1000000 in
theorem entries_fn (f f' : Bool) (l m : List En) (hl : l.length ≤ 1000000000) (hm : m.length ≤ 1000000000) : FnP Try.prog 84 [.sl f (l.map een), .sl f' (m.map een)] (fun r => r = .v (.bool (decide (l = m)))) := by
  refine fn_enter Try.func84 (by rfl) (by rfl) ?_
  intro S0 w0
  show Sim _ _ [(0, T.sl f (l.map een)), (1, T.sl f' (m.map een))] _ _
  (repeat (first | apply cn | apply cq | apply cb | apply ck | apply cl | apply cx))
  apply cr
  refine s_ p_as ?_
  (repeat (first | apply cn | apply cq | apply cb | apply ck | apply cl | apply cx))
  apply cr
  refine s_ p_mv ?_
  (first | refine s_ p_ln ?_ | refine s_ p_lr ?_)
  refine s_ p_mv ?_
  (first | refine s_ p_ln ?_ | refine s_ p_lr ?_)
  refine s_ p_ne ?_
  (repeat (first | apply cn | apply cq | apply cb | apply ck | apply cl | apply cx))
  refine ci ?_ ?_
  · intro hne
    (repeat (first | apply cn | apply cq | apply cb | apply ck | apply cl | apply cx))
    apply cr
    refine s_ p_as ?_
    (repeat (first | apply cn | apply cq | apply cb | apply ck | apply cl | apply cx))
    (apply sim_ret; (try simp only [blockΨ_ret, thenΨ_ret, loopL_ret, cutΨ_ret, cutE_ret]); first | refine rt ?_ | refine rn ?_)
    refine Le.of_eq ?_
    rw [show decide (l = m) = false from decide_eq_false (fun h => hne (by rw [h]))]
    rfl
  intro hne
  have hlen : l.length = m.length := by simp only [List.length_map] at hne; omega
  (repeat (first | apply cn | apply cq | apply cb | apply ck | apply cl | apply cx))
  apply cr
  refine s_ p_as ?_
  (repeat (first | apply cn | apply cq | apply cb | apply ck | apply cl | apply cx))
  apply sim_loopL (σ := Nat) (ok := fun k => k ≤ l.length ∧ l.take k = m.take k) (env := fun k => [(5, ei (k : Nat)), (0, T.sl f (l.map een)), (1, T.sl f' (m.map een))]) (heap := fun _ => []) (μ := fun k => l.length - k) (s0 := 0)
  · exact ⟨Nat.zero_le _, by simp⟩
  · exact eL
  · exact kR
  rintro k ⟨hk, htk⟩
  (repeat (first | apply cn | apply cq | apply cb | apply ck | apply cl | apply cx))
  apply cr
  refine s_ p_mv ?_
  refine s_ p_mv ?_
  (first | refine s_ p_ln ?_ | refine s_ p_lr ?_)
  refine s_ p_lt ?_
  (repeat (first | apply cn | apply cq | apply cb | apply ck | apply cl | apply cx))
  refine ci ?_ ?_
  · intro hlt
    simp only [List.length_map] at hlt
    have hkl : k < l.length := by omega
    have hkm : k < m.length := by omega
    have hix := hkl
    have hix2 := hkm
    (repeat (first | apply cn | apply cq | apply cb | apply ck | apply cl | apply cx))
    refine ca [0, 1, 2, 3, 4, 5, 6, 7, 8] [] ?_
    refine a_ (fun _ => p_mv) ?_
    refine a_ (fun _ => p_mv) ?_
    (first | refine a_ (fun _ => p_ix hix) ?_ | refine a_ (fun _ => p_ix hix2) ?_ | refine a_ (fun _ => p_ia) ?_ | refine a_ (fun _ => p_ir) ?_)
    (first | refine a_ (fun _ => p_la) ?_ | refine a_loa ?_)
    refine a_ (fun _ => p_mv) ?_
    refine a_ (fun _ => p_mv) ?_
    (first | refine a_ (fun _ => p_ix hix) ?_ | refine a_ (fun _ => p_ix hix2) ?_ | refine a_ (fun _ => p_ia) ?_ | refine a_ (fun _ => p_ir) ?_)
    (first | refine a_ (fun _ => p_la) ?_ | refine a_loa ?_)
    refine a_ (fun _ => p_neD 2 [.int .i64, .int .i64, .str] Try.eqGuardType108) ?_
    apply an
    (repeat (first | apply cn | apply cq | apply cb | apply ck | apply cl | apply cx))
    refine ci ?_ ?_
    · intro hd
      (repeat (first | apply cn | apply cq | apply cb | apply ck | apply cl | apply cx))
      apply cr
      refine s_ p_as ?_
      (repeat (first | apply cn | apply cq | apply cb | apply ck | apply cl | apply cx))
      (apply sim_ret; (try simp only [blockΨ_ret, thenΨ_ret, loopL_ret, cutΨ_ret, cutE_ret]); first | refine rt ?_ | refine rn ?_)
      refine Le.of_eq ?_
      rw [show decide (l = m) = false from decide_eq_false (fun h => hd (by subst h; rfl))]
      rfl
    · intro hd
      have he : l[k] = m[k] := eenV_inj.1 (Classical.not_not.1 hd)
      (repeat (first | apply cn | apply cq | apply cb | apply ck | apply cl | apply cx))
      apply cr
      refine s_ p_mv ?_
      refine s_ p_ad ?_
      refine s_ p_as ?_
      (repeat (first | apply cn | apply cq | apply cb | apply ck | apply cl | apply cx))
      refine ⟨k + 1, ⟨by omega, ?_⟩, by show l.length - (k + 1) < l.length - k; omega, ⟨le_get (by rfl) (Le.refl _), eL⟩, kR⟩
      rw [List.take_succ_eq_append_getElem hkl, List.take_succ_eq_append_getElem hkm, htk, he]
  · intro hlt
    simp only [List.length_map] at hlt
    have hkl : k = l.length := by omega
    have he : l = m := by
      have := htk
      rwa [hkl, List.take_length, hlen, List.take_length] at this
    (repeat (first | apply cn | apply cq | apply cb | apply ck | apply cl | apply cx))
    apply cr
    refine s_ p_as ?_
    (repeat (first | apply cn | apply cq | apply cb | apply ck | apply cl | apply cx))
    (apply sim_ret; (try simp only [blockΨ_ret, thenΨ_ret, loopL_ret, cutΨ_ret, cutE_ret]); first | refine rt ?_ | refine rn ?_)
    refine Le.of_eq ?_
    rw [show decide (l = m) = true from decide_eq_true he]
    rfl
end Go.Proofs.Ytppaabahbjgihaa
end
section
set_option maxRecDepth 4000
namespace Go.Proofs.Ytppaabahbjgihaa
open Go.Cap
set_option linter.unusedSimpArgs false
set_option linter.unusedVariables false
attribute [local irreducible] POp SimFrom DrawFrom EOp Sim FnH T.gp
def rE : TypeId := 108
def rM : TypeId := 98
def rN : TypeId := 67
theorem osE_plain {e : TypeId} {l : List En} {v : Value} {Hs : Heap} (h : OSl e 3 (l.map een) v Hs) : ∀ p ∈ Hs, p.2.cells.all T.isV = true := by
  rcases h with ⟨_, _, rfl⟩ | ⟨b, c, _, _, rfl⟩
  · simp
  · intro p hp
    rw [List.mem_singleton.1 hp]
    exact een_plain l
theorem node_at {n : Nd} {lg : T} {to : Int} (h0 : 0 ≤ to) (h5 : to < 5) : (nodeC n lg)[0 + 0 + 12 + to.toNat * 1]? = some (ei (n.next.get to.toNat)) := by
  rcases five h0 h5 with rfl | rfl | rfl | rfl | rfl <;> rfl
theorem node_atm {n : Nd} {lg : T} {to : Int} (h0 : 0 ≤ to) (h5 : to < 5) : (nodeC n lg)[0 + 0 + 17 + to.toNat * 1]? = some (ei (n.mtch.get to.toNat)) := by
  rcases five h0 h5 with rfl | rfl | rfl | rfl | rfl <;> rfl
theorem ms_lends {G : Heap} (m : Ms) {x y : T} (h : Lends G x y) : LendsL G (msC m x) (msC m y) := by
  unfold msC
  repeat (first | exact LendsL.nil | (refine LendsL.cons h ?_) | (refine LendsL.cons (Lends.le (Le.refl _)) ?_))
set_option maxHeartbeats 2000000 in
theorem owes_rfn (n : Nd) (to : Int) (h0 : 0 ≤ to) (h5 : to < 5) (hl : n.log.length ≤ 1000000000) (hb1 : 0 ≤ n.base) (hb2 : n.base ≤ 10000000000) (hx : n.next.get to.toNat ≤ lastF n + 1) : FnP Try.prog 87 [nd n, ei to] (fun r => r = ms (oweF n to)) := by
  refine fn_enter Try.func87 (by rfl) (by rfl) ?_
  intro S0 w0
  show Sim _ _ [(0, T.agg (nodeC n (.sl false (n.log.map een)))), (1, ei to)] _ _
  (repeat (first | apply cn | apply cq | apply cb | apply ck | apply cl | apply cx))
  apply cr
  refine e_bx fun b2 _ => ?_
  refine e_al fun b4 _ => ?_
  (repeat (first | apply cn | apply cq | apply cb | apply ck | apply cl | apply cx))
  apply cr
  refine s_ p_fr ?_
  refine s_ p_lo ?_
  refine s_ p_mv ?_
  refine s_ p_fr ?_
  refine s_ p_lo ?_
  refine s_ (p_bd 11 [_, _, _, _, _, _, _, _, _, _, _]) ?_
  refine e_al fun b5 _ => ?_
  refine e_st ?_
  (repeat (first | apply cn | apply cq | apply cb | apply ck | apply cl | apply cx))
  apply cr
  refine s_ p_mv ?_
  refine s_ p_fr ?_
  refine s_ p_ar ?_
  refine s_ (p_lo (hd := node_at h0 h5)) ?_
  refine s_ p_as ?_
  (repeat (first | apply cn | apply cq | apply cb | apply ck | apply cl | apply cx))
  apply cr
  refine s_ p_mv ?_
  refine s_ p_fr ?_
  refine s_ p_lo ?_
  refine s_ p_le ?_
  (repeat (first | apply cn | apply cq | apply cb | apply ck | apply cl | apply cx))
  refine ci ?_ ?_
  · intro hc
    (repeat (first | apply cn | apply cq | apply cb | apply ck | apply cl | apply cx))
    refine ca [0, 1, 2, 3, 4, 5, 6, 7, 8, 9, 10, 11, 12, 13, 14, 15, 16, 17] [9, 11, 13, 15, 17] ?_
    refine a_ (fun _ => p_fr) ?_
    refine a_lo ?_
    refine a_ (fun _ => p_fr) ?_
    refine a_lo ?_
    refine a_ (fun _ => p_fr) ?_
    refine a_lo ?_
    refine a_ (fun _ => p_fr) ?_
    refine a_lo ?_
    refine a_ (fun _ => p_fr) ?_
    refine a_st ?_
    refine a_ (fun _ => p_fr) ?_
    refine a_st ?_
    refine a_ (fun _ => p_fr) ?_
    refine a_st ?_
    refine a_ (fun _ => p_fr) ?_
    refine a_st ?_
    refine a_ (fun _ => p_fr) ?_
    refine a_st ?_
    apply an
    (repeat (first | apply cn | apply cq | apply cb | apply ck | apply cl | apply cx))
    apply cr
    refine s_ p_loa ?_
    refine e_st ?_
    (repeat (first | apply cn | apply cq | apply cb | apply ck | apply cl | apply cx))
    (apply sim_ret; (try simp only [blockΨ_ret, thenΨ_ret, loopL_ret, cutΨ_ret, cutE_ret]); first | refine rt ?_ | refine rn ?_)
    rw [oweF, if_pos hc]
    refine Le.agg ?_
    repeat (first | exact LeL.nil | (refine LeL.cons (Le.refl _) ?_) | (refine LeL.cons (Le.nil _) ?_))
  · intro hc
    have hla : lastF n = n.base + n.log.length := rfl
    have hT := termAt_fn n (n.next.get to.toNat - 1) hl (by simp only [big]; omega) (by simp only [big]; omega) (by simp only [big]; omega) (by simp only [big]; omega)
    rw [termAt_eq (by omega) (by omega)] at hT
    (repeat (first | apply cn | apply cq | apply cb | apply ck | apply cl | apply cx))
    refine ca [0, 1, 2, 3, 4, 5, 6, 7, 8, 9, 10, 11, 12, 13, 14, 15] [9, 11, 13, 15] ?_
    refine a_ (fun _ => p_mv) ?_
    refine a_ (fun _ => p_su) ?_
    refine a_loa ?_
    refine a_ (fun _ => p_mv) ?_
    refine a_ (fun _ => p_su) ?_
    refine a_ (fun _ => p_ca (hT)) ?_
    refine a_ (fun _ => p_fr) ?_
    refine a_lo ?_
    refine a_ (fun _ => p_fr) ?_
    refine a_st ?_
    refine a_ (fun _ => p_fr) ?_
    refine a_st ?_
    refine a_ (fun _ => p_fr) ?_
    refine a_st ?_
    refine a_ (fun _ => p_fr) ?_
    refine a_st ?_
    apply an
    (repeat (first | apply cn | apply cq | apply cb | apply ck | apply cl | apply cx))
    apply cr
    refine s_ p_mv ?_
    refine s_ p_fr ?_
    refine s_ p_lo ?_
    refine s_ p_su ?_
    refine s_ p_su ?_
    refine s_ p_as ?_
    (repeat (first | apply cn | apply cq | apply cb | apply ck | apply cl | apply cx))
    obtain ⟨a, ha⟩ : ∃ a : Nat, n.next.get to.toNat - n.base - 1 = (a : Nat) := ⟨(n.next.get to.toNat - n.base - 1).toNat, by omega⟩
    rw [ha]
    have hal : a ≤ n.log.length := by omega
    apply sim_loopL (σ := Nat × Heap) (ok := fun s => s.1 ≤ 8 ∧ a + s.1 ≤ n.log.length ∧ ∃ v Hl, OSl rE 3 (((n.log.drop a).take s.1).map een) v Hl ∧ s.2 = (b5, ⟨rM, msC ⟨3, n.id, to, n.term, n.next.get to.toNat - 1, termF n (n.next.get to.toNat - 1), n.commit, 0, false, [], []⟩ (.v v), 11⟩) :: (Hl ++ [(b4, ⟨rM, msC emptyM (.v (.slice none 0 0)), 11⟩), (b2, ⟨rN, nodeC n (.sl false (n.log.map een)), 22⟩)]))
      (env := fun s => [(7, ei ((a + s.1 : Nat) : Int)), (5, pN b5), (4, pN b4), (2, pN b2)]) (heap := fun s => s.2) (μ := fun s => n.log.length - (a + s.1)) (s0 := (0, _))
    · exact ⟨Nat.zero_le _, hal, _, [], by simpa using osl_nil, rfl⟩
    · exact eL
    · exact kR
    rintro ⟨k, H⟩ ⟨hk8, hkl, v, Hl, h1, hH⟩
    simp only at hk8 hkl h1 hH
    subst hH
    have hlk : (((n.log.drop a).take k).map een).length = k := by simp; omega
    obtain ⟨p, c, hv⟩ := OSl.len h1
    rw [hlk] at hv
    subst hv
    (repeat (first | apply cn | apply cq | apply cb | apply ck | apply cl | apply cx))
    apply cr
    refine s_ p_mv ?_
    refine s_ p_fr ?_
    refine s_ p_lo ?_
    (first | refine s_ p_ln ?_ | refine s_ p_lr ?_)
    refine s_ p_lt ?_
    refine s_ p_mv ?_
    refine gT (fun hg => p_fr) ?_
    refine gT (fun hg => p_lo (hx := u_ hg)) ?_
    (first | refine gT (fun hg => p_ln (hx := u_ hg)) ?_ | refine gT (fun hg => p_lr (hx := u_ hg)) ?_)
    refine gT (fun hg => p_lt (hx := u_ hg)) ?_
    refine s_ p_an ?_
    (repeat (first | apply cn | apply cq | apply cb | apply ck | apply cl | apply cx))
    refine ci ?_ ?_
    · intro hc2
      have hlt : a + k < n.log.length := by have := hc2.1; simp only [List.length_map] at this; omega
      have hk8' : k < 8 := by omega
      have hix := hlt
      (repeat (first | apply cn | apply cq | apply cb | apply ck | apply cl | apply cx))
      refine ca [0, 1, 2, 3, 4, 5, 6, 7, 8, 9, 10] [8, 10] ?_
      refine a_ (fun _ => p_fr) ?_
      refine a_lo ?_
      refine a_ (fun _ => p_fr) ?_
      refine a_lo ?_
      refine a_ (fun _ => p_mv) ?_
      (first | refine a_ (fun _ => p_ix hix) ?_ | refine a_ (fun _ => p_ix hix2) ?_ | refine a_ (fun _ => p_ia) ?_ | refine a_ (fun _ => p_ir) ?_)
      (first | refine a_ (fun _ => p_la) ?_ | refine a_loa ?_)
      refine a_ (fun _ => p_bs) ?_
      refine a_os (ho := h1) (A := [_]) (B := [_, _]) (een3 _) (fun v' Hl' h1' => ⟨by (repeat (first | exact trivial | (apply And.intro; focus (intro hb; first | exact trivial | exact noB hb rfl | (repeat (first | exact hZ | apply hS | apply hA)))))), ?_⟩)
      (apply Exists.intro; apply And.intro; (focus (repeat (first | exact PDrop.nil | apply PDrop.dropL rfl | apply PDrop.keep))))
      have h1 : OSl rE 3 (((n.log.drop a).take (k + 1)).map een) v' Hl' := by
        have e : (n.log.drop a).take (k + 1) = (n.log.drop a).take k ++ [n.log[a + k]] := by
          rw [List.take_succ_eq_append_getElem (by simp; omega), List.getElem_drop]
        rw [e, List.map_append]; exact h1'
      clear h1'
      obtain ⟨p, c, rfl⟩ := OSl.len h1
      refine a_ (fun _ => p_fr) ?_
      refine a_st ?_
      apply an
      (repeat (first | apply cn | apply cq | apply cb | apply ck | apply cl | apply cx))
      apply cr
      refine s_ p_mv ?_
      refine s_ p_ad ?_
      refine s_ p_as ?_
      (repeat (first | apply cn | apply cq | apply cb | apply ck | apply cl | apply cx))
      refine ⟨(k + 1, _), ⟨by simp only; omega, by simp only; omega, _, Hl', h1, rfl⟩, by show n.log.length - (a + (k + 1)) < n.log.length - (a + k); omega, ⟨le_get (by rfl) (Le.of_eq (by first | (congr 2; done) | (congr 2; omega) | (congr 2; simp only; omega))), eL⟩, kR⟩
    · intro hc2
      (repeat (first | apply cn | apply cq | apply cb | apply ck | apply cl | apply cx))
      refine lendG (G := (b5, _) :: Hl) (H1 := [(b4, _), (b2, _)]) 5 (.adr (.agg (msC ⟨3, n.id, to, n.term, n.next.get to.toNat - 1, termF n (n.next.get to.toNat - 1), n.commit, 0, false, [], []⟩ (eens ((n.log.drop a).take k))))) (Lends.ptr List.mem_cons_self (.inr ⟨_, rfl⟩) (ms_lends _ (OSl.lend h1 (by intro p hp; simp [hp]) (een3 _) (een_ok _))) (by simp [T.cells, msC]) (by simp [T.cells, msC])) (List.Perm.of_eq rfl) ?_
      (repeat (first | apply cn | apply cq | apply cb | apply ck | apply cl | apply cx))
      apply cr
      refine s_ p_la ?_
      refine e_st ?_
      (repeat (first | apply cn | apply cq | apply cb | apply ck | apply cl | apply cx))
      (apply sim_ret; (try simp only [blockΨ_ret, thenΨ_ret, loopL_ret, cutΨ_ret, cutE_ret]); first | refine rt ?_ | refine rn ?_)
      have hkk : (n.log.drop a).take k = (n.log.drop (min (n.next.get to.toNat - 1 - n.base) (n.log.length : Int)).toNat).take 8 := by
        have e : (min (n.next.get to.toNat - 1 - n.base) (n.log.length : Int)).toNat = a := by omega
        rw [e, List.take_eq_take_iff, List.length_drop]
        have : ¬ (a + k < n.log.length ∧ k < 8) := fun h => hc2 ⟨by simp only [List.length_map]; omega, by omega⟩
        omega
      rw [oweF, if_neg hc, ← hkk]
      exact Le.refl _
/-- What the document's calls need of a node. -/
structure Rd (n : Nd) : Prop where
  bd : Bd n
  b0 : 0 ≤ n.base
  c0 : n.base ≤ n.commit
  c1 : n.commit ≤ lastF n
theorem Rd.sz {n : Nd} (h : Rd n) : n.log.length ≤ 1000000000 ∧ n.base ≤ 10000000000 ∧ n.commit ≤ 100000000000 := by
  have h1 := h.bd.log
  have h2 := h.bd.base1
  have h3 := h.c1
  simp only [lastF] at h3
  omega
theorem memF_dec (n : Nd) (k : Nat) : memF n k = true ↔ ¬ (k : Int) = n.id ∧ isF (confF n).2 k = true := by simp [memF]
set_option maxHeartbeats 2000000 in
theorem send_rfn {n : Nd} (hn : Rd n) (hx : ∀ to, to < 5 → n.next.get to ≤ lastF n + 1) : FnP Try.prog 71 [nd n] (fun r => r = mss (toAll n (oweF n) 5)) := by
  have hsz := hn.sz
  have hb0 := hn.b0
  have hC := rConf_fn n hsz.1 hn.b0 (by omega)
  refine fn_enter Try.func71 (by rfl) (by rfl) ?_
  intro S0 w0
  show Sim _ _ [(0, T.agg (nodeC n (.sl false (n.log.map een))))] _ _
  (repeat (first | apply cn | apply cq | apply cb | apply ck | apply cl | apply cx))
  apply cr
  refine e_bx fun b1 _ => ?_
  refine s_ p_as ?_
  (repeat (first | apply cn | apply cq | apply cb | apply ck | apply cl | apply cx))
  refine lend1 1 (by simp [nodeC]) ?_
  (repeat (first | apply cn | apply cq | apply cb | apply ck | apply cl | apply cx))
  apply cr
  refine s_ p_as ?_
  (repeat (first | apply cn | apply cq | apply cb | apply ck | apply cl | apply cx))
  apply cr
  refine s_ p_as ?_
  (repeat (first | apply cn | apply cq | apply cb | apply ck | apply cl | apply cx))
  apply sim_loopL (σ := Nat × Value × Heap) (ok := fun s => s.1 ≤ 5 ∧ OSl rM 11 ((toAll n (oweF n) s.1).map ms) s.2.1 s.2.2) (env := fun s => [(4, ei (s.1 : Nat)), (3, .v s.2.1), (1, .adr (.agg (nodeC n (.sl false (n.log.map een)))))]) (heap := fun s => s.2.2) (μ := fun s => 5 - s.1) (s0 := (0, .slice none 0 0, []))
  · exact ⟨Nat.zero_le _, osl_nil⟩
  · exact eL
  · exact kR
  rintro ⟨k, v, H⟩ ⟨hk, h1⟩
  simp only at hk h1
  obtain ⟨p, c, rfl⟩ := OSl.len h1
  (repeat (first | apply cn | apply cq | apply cb | apply ck | apply cl | apply cx))
  apply cr
  refine s_ p_mv ?_
  refine s_ p_lt ?_
  (repeat (first | apply cn | apply cq | apply cb | apply ck | apply cl | apply cx))
  refine ci ?_ ?_
  · intro hlt
    have hk5 : k < 5 := by omega
    have hM := member_fn (confF n).2 (k : Nat) (by omega) (by omega) hn.bd.conf0 hn.bd.conf1
    have hO := owes_rfn n (k : Nat) (by omega) (by omega) hsz.1 hn.b0 hsz.2.1 (by rw [Int.toNat_natCast]; exact hx k hk5)
    (repeat (first | apply cn | apply cq | apply cb | apply ck | apply cl | apply cx))
    apply cr
    refine s_ p_mv ?_
    refine s_ p_fa ?_
    refine s_ p_ld ?_
    refine s_ p_ne ?_
    refine s_ p_mv ?_
    refine gT (fun hg => p_la) ?_
    refine gT (fun hg => p_ca (hC) (ha' := by apply evl_cons (u_ hg); exact evl_nil)) ?_
    refine gT (fun hg => p_mv) ?_
    refine gT (fun hg => p_ca (hM) (ha' := by apply evl_cons (u_ hg); apply evl_cons (u_ hg); exact evl_nil)) ?_
    refine s_ p_an ?_
    (repeat (first | apply cn | apply cq | apply cb | apply ck | apply cl | apply cx))
    refine ci ?_ ?_
    · intro hc
      have hm : memF n k = true := (memF_dec n k).2 hc
      have hlen := toAll_len n (oweF n) k
      (repeat (first | apply cn | apply cq | apply cb | apply ck | apply cl | apply cx))
      apply cr
      refine s_ p_mv ?_
      refine s_ p_la ?_
      refine s_ p_mv ?_
      refine s_ (p_ca (hO)) ?_
      refine s_ p_bs ?_
      refine e_os (ho := h1) (A := []) (B := []) (ms11 _) (fun v' H' h1' => ?_) (hH := by simp)
      have h1 : OSl rM 11 ((toAll n (oweF n) (k + 1)).map ms) v' H' := by
        rw [toAll_succ, if_pos hm, List.map_append]; exact h1'
      clear h1'
      obtain ⟨p, c, rfl⟩ := OSl.len h1
      refine s_ p_as ?_
      (repeat (first | apply cn | apply cq | apply cb | apply ck | apply cl | apply cx))
      apply cr
      refine s_ p_mv ?_
      refine s_ p_ad ?_
      refine s_ p_as ?_
      (repeat (first | apply cn | apply cq | apply cb | apply ck | apply cl | apply cx))
      exact ⟨(k + 1, _, H'), ⟨by simp only; omega, h1⟩, by show 5 - (k + 1) < 5 - k; omega, ⟨le_get (by rfl) (Le.refl _), le_get (by ((repeat (apply gS; rfl)); exact gZ)) (Le.refl _), eL⟩, by simpa using kR⟩
    · intro hc
      have hm : ¬ memF n k = true := fun h => hc ((memF_dec n k).1 h)
      (repeat (first | apply cn | apply cq | apply cb | apply ck | apply cl | apply cx))
      apply cr
      refine s_ p_mv ?_
      refine s_ p_ad ?_
      refine s_ p_as ?_
      (repeat (first | apply cn | apply cq | apply cb | apply ck | apply cl | apply cx))
      exact ⟨(k + 1, .slice p ((toAll n (oweF n) k).map ms).length c, H), ⟨by simp only; omega, by simp only; rw [toAll_succ, if_neg hm, List.append_nil]; exact h1⟩, by show 5 - (k + 1) < 5 - k; omega, ⟨le_get (by rfl) (Le.refl _), eL⟩, kR⟩
  · intro hlt
    have hk5 : k = 5 := by omega
    subst hk5
    (repeat (first | apply cn | apply cq | apply cb | apply ck | apply cl | apply cx))
    refine lendAll 3 (mss (toAll n (oweF n) 5)) (OSl.lend h1 (fun _ h => h) (ms11 _) (ms_ok _)) ?_
    (repeat (first | apply cn | apply cq | apply cb | apply ck | apply cl | apply cx))
    apply cr
    refine s_ p_mv ?_
    refine s_ p_as ?_
    (repeat (first | apply cn | apply cq | apply cb | apply ck | apply cl | apply cx))
    (apply sim_ret; (try simp only [blockΨ_ret, thenΨ_ret, loopL_ret, cutΨ_ret, cutE_ret]); first | refine rt ?_ | refine rn ?_)
    exact Le.refl _
end Go.Proofs.Ytppaabahbjgihaa
end
section
set_option maxRecDepth 4000
namespace Go.Proofs.Ytppaabahbjgihaa
open Go.Cap
set_option linter.unusedSimpArgs false
set_option linter.unusedVariables false
attribute [local irreducible] POp SimFrom DrawFrom EOp Sim FnH T.gp
def cmtC (n : Nd) (conf : Int) (j : Nat) : Prop := (n.log.getD j default).term = n.term ∧ mostF conf (someF n.mtch (n.base + j + 1) 5) = true
theorem cmt_ge0 (n : Nd) (conf : Int) : ∀ k, n.commit ≤ cmtF n conf k
  | 0 => Int.le_refl _
  | k + 1 => by
    have := cmt_ge0 n conf k
    rw [cmtF]
    split <;> omega
theorem cmt_le {n : Nd} {conf x : Int} (hx : n.commit ≤ x) : ∀ k, (∀ j, j < k → cmtC n conf j → n.base + j + 1 ≤ x) → cmtF n conf k ≤ x
  | 0, _ => hx
  | k + 1, h => by
    have := cmt_le hx k (fun j hj hc => h j (by omega) hc)
    rw [cmtF]
    split
    · rename_i hc
      have := h k (by omega) hc
      omega
    · exact this
theorem cmt_ge {n : Nd} {conf : Int} : ∀ k j, j < k → cmtC n conf j → n.base + j + 1 ≤ cmtF n conf k
  | 0, _, h, _ => absurd h (Nat.not_lt_zero _)
  | k + 1, j, h, hc => by
    rw [cmtF]
    rcases Nat.lt_or_ge j k with h1 | h1
    · have := cmt_ge k j h1 hc
      split <;> omega
    · have : j = k := by omega
      subst this
      have hc' : (n.log.getD j default).term = n.term ∧ mostF conf (someF n.mtch (n.base + j + 1) 5) = true := hc
      rw [if_pos hc']
      omega
theorem place_le {n : Nd} (h0 : 0 ≤ n.base) {c : Int} (hc : n.base ≤ c) : placeK n (uptoK n (lastF n)) ≤ c ↔ (confF n).1 ≤ c := by
  rw [uptoK_last, placeK_lc]
  unfold confF
  cases lc n.log n.log.length with
  | none => simp only; omega
  | some p => exact Iff.rfl
set_option maxHeartbeats 8000000 in
theorem commits_rfn {n : Nd} (hn : Bd n) (hb0 : 0 ≤ n.base) (hc0 : n.base ≤ n.commit) (hc1 : n.commit ≤ 1000000000000) : FnP Try.prog 88 [nd n] (fun r => r = nd (commitF n)) := by
  have hlog := hn.log
  have hb1 := hn.base1
  have hi0 := hn.id0
  have hi5 := hn.id5
  have hL := rLast_fn n (by omega) (by omega) (by omega)
  generalize hcf : (confF n).2 = conf
  have hcc0 := hn.conf0
  have hcc1 := hn.conf1
  rw [hcf] at hcc0 hcc1
  have hC : ∀ cm, FnP Try.prog 29 [nd { n with commit := cm }] (fun r => r = ei conf) := fun cm => by
    have := rConf_fn { n with commit := cm } (show n.log.length ≤ _ by omega) hb0 (show n.base ≤ _ by omega)
    rw [← hcf]; exact this
  have hP : ∀ cm, FnP Try.prog 83 [nd { n with commit := cm }, ei (lastF n)] (fun r => r = ei (placeK n (uptoK n (lastF n)))) := fun cm => by
    have := place_fn { n with commit := cm } (lastF n) (show n.log.length ≤ _ by omega) hb0 (show n.base ≤ _ by omega)
    have e : ∀ k, placeK { n with commit := cm } k = placeK n k := fun k => by rw [placeK_lc, placeK_lc]
    rw [e] at this; exact this
  have hI := member_fn conf n.id hi0 hi5 hcc0 hcc1
  refine fn_enter Try.func88 (by rfl) (by rfl) ?_
  intro S0 w0
  show Sim _ _ [(0, T.agg (nodeC n (.sl false (n.log.map een))))] _ _
  (repeat (first | apply cn | apply cq | apply cb | apply ck | apply cl | apply cx))
  apply cr
  refine e_bx fun b1 _ => ?_
  refine e_al fun b2 _ => ?_
  (repeat (first | apply cn | apply cq | apply cb | apply ck | apply cl | apply cx))
  apply cr
  refine s_ p_loa ?_
  refine s_ (p_ca (hL)) ?_
  refine s_ p_mv ?_
  refine s_ p_ex ?_
  refine s_ p_ex ?_
  refine s_ p_as ?_
  refine s_ p_as ?_
  (repeat (first | apply cn | apply cq | apply cb | apply ck | apply cl | apply cx))
  apply cr
  refine s_ p_mv ?_
  refine s_ p_as ?_
  (repeat (first | apply cn | apply cq | apply cb | apply ck | apply cl | apply cx))
  have hla : lastF n = n.base + (n.log.length : Nat) := rfl
  apply sim_loopL (σ := Nat × Int) (ok := fun s => s.1 ≤ n.log.length ∧ ((s.2 = n.commit ∧ ∀ k, s.1 ≤ k → k < n.log.length → ¬ cmtC n conf k) ∨ (s.2 = n.base + s.1 + 1 ∧ s.2 = cmtF n conf n.log.length)))
    (env := fun s => [(5, ei (n.base + s.1)), (3, ei (lastF n)), (2, pN b2), (1, pN b1)]) (heap := fun s => [(b2, ⟨rN, nodeC zeroN (.v (.slice none 0 0)), 22⟩), (b1, ⟨rN, nodeC { n with commit := s.2 } (.sl false (n.log.map een)), 22⟩)]) (μ := fun s => s.1) (s0 := (n.log.length, n.commit))
  · exact ⟨Nat.le_refl _, .inl ⟨rfl, fun k h1 h2 => by simp only at h1; omega⟩⟩
  · exact eL
  · exact kR
  rintro ⟨j, cm⟩ ⟨hj, hcm⟩
  simp only at hj hcm
  (repeat (first | apply cn | apply cq | apply cb | apply ck | apply cl | apply cx))
  apply cr
  refine s_ p_mv ?_
  refine s_ p_fr ?_
  refine s_ p_lo ?_
  refine s_ p_gt ?_
  (repeat (first | apply cn | apply cq | apply cb | apply ck | apply cl | apply cx))
  refine ci ?_ ?_
  · intro hgt
    have hcm : cm = n.commit ∧ ∀ k, j ≤ k → k < n.log.length → ¬ cmtC n conf k := by
      rcases hcm with h | h
      · exact h
      · have hgt' : cm < n.base + j := hgt
        omega
    obtain ⟨rfl, hnone⟩ := hcm
    have hgt' : n.commit < n.base + j := hgt
    obtain ⟨q, rfl⟩ : ∃ q, j = q + 1 := ⟨j - 1, by omega⟩
    (repeat (first | apply cn | apply cq | apply cb | apply ck | apply cl | apply cx))
    apply cr
    refine s_ p_as ?_
    (repeat (first | apply cn | apply cq | apply cb | apply ck | apply cl | apply cx))
    apply cr
    refine s_ p_as ?_
    (repeat (first | apply cn | apply cq | apply cb | apply ck | apply cl | apply cx))
    generalize hidx : n.base + ((q + 1 : Nat) : Int) = idx
    apply sim_loopL (σ := Nat) (ok := fun k => k ≤ 5) (env := fun k => [(7, ei (k : Nat)), (6, ei (someF n.mtch idx k)), (5, ei idx), (3, ei (lastF n)), (2, pN b2), (1, pN b1)]) (heap := fun _ => [(b2, ⟨rN, nodeC zeroN (.v (.slice none 0 0)), 22⟩), (b1, ⟨rN, nodeC n (.sl false (n.log.map een)), 22⟩)]) (μ := fun k => 5 - k) (s0 := 0)
    · exact Nat.zero_le _
    · exact eL
    · exact kR
    intro k hk
    (repeat (first | apply cn | apply cq | apply cb | apply ck | apply cl | apply cx))
    apply cr
    refine s_ p_mv ?_
    refine s_ p_lt ?_
    (repeat (first | apply cn | apply cq | apply cb | apply ck | apply cl | apply cx))
    refine ci ?_ ?_
    · intro hlt
      have hk5 : k < 5 := by omega
      have hbd := some_bd n.mtch idx k
      have hwj := wrap32 (x := (k : Nat)) (by omega) (by omega)
      have hor := some_or hk5 hbd.1 hbd.2
      (repeat (first | apply cn | apply cq | apply cb | apply ck | apply cl | apply cx))
      apply cr
      refine s_ p_mv ?_
      refine s_ p_fr ?_
      refine s_ p_ar ?_
      refine s_ (p_lo (hd := node_atm (to := (k : Nat)) (by omega) (by omega))) ?_
      rw [Int.toNat_natCast]
      refine s_ p_mv ?_
      refine s_ p_ge ?_
      (repeat (first | apply cn | apply cq | apply cb | apply ck | apply cl | apply cx))
      refine ci ?_ ?_
      · intro hge
        have hs : someF n.mtch idx (k + 1) = bOr .i64 (someF n.mtch idx k) (bShl .i64 1 (IntKind.u64.wrap k)) := by rw [hor, someF, if_pos hge]
        (repeat (first | apply cn | apply cq | apply cb | apply ck | apply cl | apply cx))
        apply cr
        refine s_ p_mv ?_
        refine s_ p_mv ?_
        refine s_ p_cv ?_
        refine s_ p_shl ?_
        refine s_ p_oor ?_
        refine s_ p_as ?_
        (repeat (first | apply cn | apply cq | apply cb | apply ck | apply cl | apply cx))
        apply cr
        refine s_ p_mv ?_
        refine s_ p_ad ?_
        refine s_ p_as ?_
        (repeat (first | apply cn | apply cq | apply cb | apply ck | apply cl | apply cx))
        exact ⟨k + 1, by omega, by show 5 - (k + 1) < 5 - k; omega, ⟨le_get (by rfl) (Le.refl _), le_get (by ((repeat (apply gS; rfl)); exact gZ)) (Le.of_eq (by rw [hs]; rfl)), eL⟩, kR⟩
      · intro hge
        have hs : someF n.mtch idx (k + 1) = someF n.mtch idx k := by rw [someF, if_neg hge]; omega
        (repeat (first | apply cn | apply cq | apply cb | apply ck | apply cl | apply cx))
        apply cr
        refine s_ p_mv ?_
        refine s_ p_ad ?_
        refine s_ p_as ?_
        (repeat (first | apply cn | apply cq | apply cb | apply ck | apply cl | apply cx))
        exact ⟨k + 1, by omega, by show 5 - (k + 1) < 5 - k; omega, ⟨le_get (by rfl) (Le.refl _), le_get (by ((repeat (apply gS; rfl)); exact gZ)) (Le.of_eq (by rw [hs])), eL⟩, kR⟩
    · intro hlt
      have hk5 : k = 5 := by omega
      subst hk5
      have hbd := some_bd n.mtch idx 5
      have hM := rmost_fn (someF n.mtch idx 5) conf hbd.1 (by omega) hcc0 hcc1
      have hC0 := hC n.commit
      have hT := termAt_fn n idx (by omega) (by simp only [big]; omega) (by simp only [big]; omega) (by simp only [big]; omega) (by simp only [big]; omega)
      have hte : termAtF n idx = (n.log.getD q default).term := by
        rw [termAtF, if_neg (by omega), if_neg (by omega), show (idx - n.base - 1).toNat = q by omega]
      rw [hte] at hT
      have hix1 : n.base + (q : Int) + 1 = idx := by omega
      (repeat (first | apply cn | apply cq | apply cb | apply ck | apply cl | apply cx))
      refine ca [0, 1, 2, 3, 4, 5, 6, 7, 8, 9, 10, 11] [] ?_
      refine a_ (fun _ => p_mv) ?_
      refine a_loa ?_
      refine a_ (fun _ => p_ca (hC0)) ?_
      refine a_ (fun _ => p_ca (hM)) ?_
      refine a_ (fun _ => p_mv) ?_
      refine ag_loaT ?_
      refine ag_T (fun _ hg => p_mv) ?_
      refine ag_T (fun _ hg => p_ca (hT) (ha' := by apply evl_cons (u_ hg); apply evl_cons (u_ hg); exact evl_nil)) ?_
      refine ag_T (fun _ hg => p_fr) ?_
      refine ag_loT ?_
      refine ag_T (fun _ hg => p_eq (hx := u_ hg) (hy := u_ hg)) ?_
      refine a_ (fun _ => p_an) ?_
      apply an
      (repeat (first | apply cn | apply cq | apply cb | apply ck | apply cl | apply cx))
      refine ci ?_ ?_
      · intro hc
        have hcc : cmtC n conf q := ⟨hc.2, by rw [hix1]; exact hc.1⟩
        have hmax : idx = cmtF n conf n.log.length := by
          refine Int.le_antisymm ?_ (cmt_le (by omega) _ fun k h1 h2 => ?_)
          · have := cmt_ge n.log.length q (by omega) hcc
            omega
          · rcases Nat.lt_or_ge q k with h3 | h3
            · exact absurd h2 (hnone k h3 h1)
            · omega
        (repeat (first | apply cn | apply cq | apply cb | apply ck | apply cl | apply cx))
        apply cr
        refine s_ p_mv ?_
        refine s_ p_fr ?_
        refine e_st ?_
        (repeat (first | apply cn | apply cq | apply cb | apply ck | apply cl | apply cx))
        apply cr
        refine s_ p_mv ?_
        refine s_ p_su ?_
        refine s_ p_as ?_
        (repeat (first | apply cn | apply cq | apply cb | apply ck | apply cl | apply cx))
        exact ⟨(q, idx), ⟨by simp only; omega, .inr ⟨by simp only; omega, hmax⟩⟩, by show q < q + 1; omega, ⟨le_get (by rfl) (Le.of_eq (show ei (idx - 1) = ei (n.base + (q : Nat)) from congrArg ei (by omega))), eL⟩, kR⟩
      · intro hc
        have hcc : ¬ cmtC n conf q := fun h => hc ⟨by have := h.2; rw [hix1] at this; exact this, h.1⟩
        (repeat (first | apply cn | apply cq | apply cb | apply ck | apply cl | apply cx))
        apply cr
        refine s_ p_mv ?_
        refine s_ p_su ?_
        refine s_ p_as ?_
        (repeat (first | apply cn | apply cq | apply cb | apply ck | apply cl | apply cx))
        refine ⟨(q, n.commit), ⟨by simp only; omega, .inl ⟨rfl, fun k h1 h2 => ?_⟩⟩, by show q < q + 1; omega, ⟨le_get (by rfl) (Le.of_eq (show ei (idx - 1) = ei (n.base + (q : Nat)) from congrArg ei (by omega))), eL⟩, kR⟩
        rcases Nat.lt_or_ge q k with h3 | h3
        · exact hnone k h3 h2
        · have : k = q := by simp only at h1; omega
          rw [this]; exact hcc
  · intro hgt
    have hgt' : ¬ cm < n.base + j := hgt
    have hcm : cm = cmtF n conf n.log.length := by
      rcases hcm with ⟨h1, h2⟩ | ⟨_, h⟩
      · rw [h1]
        refine Int.le_antisymm (cmt_ge0 _ _ _) (cmt_le (Int.le_refl _) _ fun k h3 h4 => ?_)
        rcases Nat.lt_or_ge k j with h5 | h5
        · omega
        · exact absurd h4 (h2 k h5 h3)
      · exact h
    have hCx := hC cm
    have hPx := hP cm
    (repeat (first | apply cn | apply cq | apply cb | apply ck | apply cl | apply cx))
    refine ca [0, 1, 2, 3, 4, 5, 6, 7, 8, 9, 10, 11, 12, 13] [] ?_
    refine a_loa ?_
    refine a_ (fun _ => p_ca (hCx)) ?_
    refine a_ (fun _ => p_fr) ?_
    refine a_lo ?_
    refine a_ (fun _ => p_ca (hI)) ?_
    refine a_ (fun _ => p_no) ?_
    refine a_ (fun _ => p_mv) ?_
    refine ag_loaT ?_
    refine ag_T (fun _ hg => p_mv) ?_
    refine ag_T (fun _ hg => p_ca (hPx) (ha' := by apply evl_cons (u_ hg); apply evl_cons (u_ hg); exact evl_nil)) ?_
    refine ag_T (fun _ hg => p_fr) ?_
    refine ag_loT ?_
    refine ag_T (fun _ hg => p_le (hx := u_ hg) (hy := u_ hg)) ?_
    refine a_ (fun _ => p_an) ?_
    apply an
    (repeat (first | apply cn | apply cq | apply cb | apply ck | apply cl | apply cx))
    have hpl := place_le (n := n) hb0 (c := cm) (by rw [hcm]; have := cmt_ge0 n conf n.log.length; omega)
    refine ci ?_ ?_
    · intro hc
      (repeat (first | apply cn | apply cq | apply cb | apply ck | apply cl | apply cx))
      apply cr
      refine s_ p_fr ?_
      refine e_st ?_
      refine s_ p_fr ?_
      refine e_st ?_
      (repeat (first | apply cn | apply cq | apply cb | apply ck | apply cl | apply cx))
      apply cr
      refine s_ p_loa ?_
      refine e_st ?_
      (repeat (first | apply cn | apply cq | apply cb | apply ck | apply cl | apply cx))
      (apply sim_ret; (try simp only [blockΨ_ret, thenΨ_ret, loopL_ret, cutΨ_ret, cutE_ret]); first | refine rt ?_ | refine rn ?_)
      have e : commitF n = { n with commit := cm, role := 0, wait := 0 } := by
        rw [commitF, hcf, ← hcm, if_pos ⟨hc.1, hpl.1 hc.2⟩]
      rw [e]
      exact Le.refl _
    · intro hc
      (repeat (first | apply cn | apply cq | apply cb | apply ck | apply cl | apply cx))
      apply cr
      refine s_ p_loa ?_
      refine e_st ?_
      (repeat (first | apply cn | apply cq | apply cb | apply ck | apply cl | apply cx))
      (apply sim_ret; (try simp only [blockΨ_ret, thenΨ_ret, loopL_ret, cutΨ_ret, cutE_ret]); first | refine rt ?_ | refine rn ?_)
      have e : commitF n = { n with commit := cm } := by
        rw [commitF, hcf, ← hcm, if_neg fun h => hc ⟨h.1, hpl.2 h.2⟩]
      rw [e]
      exact Le.refl _
end Go.Proofs.Ytppaabahbjgihaa
end
section
set_option maxRecDepth 4000
namespace Go.Proofs.Ytppaabahbjgihaa
open Go.Cap
set_option linter.unusedSimpArgs false
set_option linter.unusedVariables false
attribute [local irreducible] POp SimFrom DrawFrom EOp Sim FnH T.gp
theorem lay_nextN {n : Nd} {lg : T} {i : Int} (h0 : 0 ≤ i) (h5 : i < 5) (v : Int) : lay (nodeC n lg) (0 + 12 + i.toNat * 1) (ei v).cells = nodeC { n with next := n.next.set i.toNat v } lg := by
  rcases five h0 h5 with rfl | rfl | rfl | rfl | rfl <;> rfl
theorem lay_mtchN {n : Nd} {lg : T} {i : Int} (h0 : 0 ≤ i) (h5 : i < 5) (v : Int) : lay (nodeC n lg) (0 + 17 + i.toNat * 1) (ei v).cells = nodeC { n with mtch := n.mtch.set i.toNat v } lg := by
  rcases five h0 h5 with rfl | rfl | rfl | rfl | rfl <;> rfl
theorem lay_mtchN0 {n : Nd} {lg : T} {i : Int} (h0 : 0 ≤ i) (h5 : i < 5) (v : Int) : lay (nodeC n lg) (0 + 17 + i.toNat * 1) (T.v (.int .i64 v)).cells = nodeC { n with mtch := n.mtch.set i.toNat v } lg := lay_mtchN h0 h5 v
theorem nodeC_len (n : Nd) (lg : T) : (nodeC n lg).length = 22 := rfl
theorem commitF_last (n : Nd) (h : n.commit ≤ lastF n) : (commitF n).commit ≤ lastF n ∧ n.commit ≤ (commitF n).commit := by
  have h1 := cmt_le (conf := (confF n).2) h n.log.length (fun j hj _ => by simp only [lastF]; omega)
  have h2 := cmt_ge0 n (confF n).2 n.log.length
  unfold commitF
  split <;> exact ⟨h1, h2⟩
theorem Rd.commit {n : Nd} (h : Rd n) : Rd (commitF n) := by
  have h1 := commitF_last n h.c1
  have h2 := h.bd.commit
  obtain ⟨c, r, w, e⟩ := commitF_eq n
  have h0 := h.c0
  have hb := h.b0
  rw [e] at h1 h2 ⊢
  exact ⟨h2, hb, by simp only at h1 ⊢; omega, h1.1⟩
theorem Rd.lead {n : Nd} (h : Rd n) (hl : n.log.length < 100000000) : Rd (leadN n) :=
  ⟨h.bd.lead hl, h.b0, h.c0, by have := h.c1; simp only [lastF, leadN, List.length_append, List.length_singleton] at *; omega⟩
theorem leadF_last (n : Nd) : lastF (leadF n) = lastF n + 1 := by
  obtain ⟨c, r, w, e⟩ := commitF_eq (leadN n)
  rw [leadF, e]
  simp only [lastF, leadN, List.length_append, List.length_singleton]
  omega
theorem node_le (n : Nd) {x y : T} (h : Le x y) : LeL (nodeC n x) (nodeC n y) := by
  unfold nodeC
  repeat (first | exact LeL.nil | (refine LeL.cons h ?_) | (refine LeL.cons (Le.refl _) ?_))
set_option maxHeartbeats 8000000 in
theorem leads_rfn {n : Nd} (hn : Rd n) (hl : n.log.length < 100000000) : FnP Try.prog 74 [nd n] (fun r => r = .tup [nd (leadF n), mss (toAll (leadF n) (oweF (leadF n)) 5)]) := by
  have hsz := hn.sz
  have hb0 := hn.b0
  have hi0 := hn.bd.id0
  have hi5 := hn.bd.id5
  have hc0 := hn.c0
  have hRl := hn.lead hl
  have hL := rLast_fn { n with role := 2, log := n.log ++ [⟨n.term, 0, []⟩] } (by simp; omega) (by simp only; omega) (by simp only; omega)
  have hCm := commits_rfn hRl.bd hRl.b0 hRl.c0 (by have := hRl.sz; omega)
  have fS := send_rfn hRl.commit (fun to _ => by
    have h1 := leadF_next (n := n) (i := to)
    have h2 := leadF_last n
    unfold leadF at h1 h2
    rw [h1, h2]
    simp only [lastF]
    omega)
  refine fn_enter Try.func74 (by rfl) (by rfl) ?_
  intro S0 w0
  show Sim _ _ [(0, T.agg (nodeC n (.sl false (n.log.map een))))] _ _
  (repeat (first | apply cn | apply cq | apply cb | apply ck | apply cl | apply cx))
  apply cr
  refine e_bx fun b1 _ => ?_
  refine e_al fun b2 _ => ?_
  refine s_ p_as ?_
  (repeat (first | apply cn | apply cq | apply cb | apply ck | apply cl | apply cx))
  apply cr
  refine s_ p_fr ?_
  refine e_st ?_
  (repeat (first | apply cn | apply cq | apply cb | apply ck | apply cl | apply cx))
  refine sim_cut [(3, .v (.slice none 0 0)), (2, pN b2), (1, pN b1)] [(b2, ⟨rN, nodeC zeroN (.v (.slice none 0 0)), 22⟩), (b1, ⟨rN, nodeC { n with role := 2, log := n.log ++ [⟨n.term, 0, []⟩] } (.sl false ((n.log ++ [(⟨n.term, 0, []⟩ : En)]).map een)), 22⟩)] ?_ ?_
  · by_cases hz : n.log = []
    · (repeat (first | apply cn | apply cq | apply cb | apply ck | apply cl | apply cx))
      refine ca [0, 1, 2, 3, 4, 5, 6, 7, 8, 9, 10] [10] ?_
      refine a_ (fun _ => p_bs) ?_
      refine a_ (fun _ => p_fr) ?_
      refine a_lo ?_
      refine a_ (fun _ => p_ap0 (hyl := Le.of_eq (by rw [hz]; rfl))) ?_
      refine a_ (fun _ => p_fr) ?_
      refine a_lo ?_
      refine a_ (fun _ => p_bd 3 [_, _, _]) ?_
      refine a_ (fun _ => p_bs) ?_
      refine a_ (fun _ => p_ap) ?_
      refine a_ (fun _ => p_fr) ?_
      refine a_st ?_
      apply an
      (repeat (first | apply cn | apply cq | apply cb | apply ck | apply cl | apply cx))
      exact ⟨eL, kK (kK kN (node_le { n with role := 2, log := n.log ++ [⟨n.term, 0, []⟩] } (Le.of_eq (by rw [hz]; rfl)))) (LeL.refl _)⟩
    · have hzl : 0 < n.log.length := List.length_pos_iff.2 hz
      (repeat (first | apply cn | apply cq | apply cb | apply ck | apply cl | apply cx))
      refine ca [0, 1, 2, 4, 5, 6, 7, 3, 8, 9, 10] [3, 8, 10] ?_
      refine a_ (fun _ => p_bs) ?_
      refine a_ (fun _ => p_fr) ?_
      refine a_lo ?_
      refine a_ (fun _ => p_fr) ?_
      refine a_lo ?_
      refine a_ (fun _ => p_bd 3 [_, _, _]) ?_
      refine a_ (fun _ => p_bs) ?_
      refine a_on (e := rE) (k := 3) (fun v' Hl h1 => ⟨by (repeat (first | exact trivial | (apply And.intro; focus (intro hb; first | exact trivial | exact noB hb rfl | (repeat (first | exact hZ | apply hS | apply hA)))))), ?_⟩)
      (apply Exists.intro; apply And.intro; (focus (repeat (first | exact PDrop.nil | apply PDrop.dropL rfl | apply PDrop.keep))))
      
      refine a_osd (ho := h1) (A := []) (B := [_, _]) (by (repeat (first | exact lenOk_nil | (apply lenOk_map; intro _; rfl) | apply lenOk_append | apply lenOk_take | apply lenOk_drop | (apply lenOk_cons; rfl)))) ?_ ⟨by (repeat (first | exact trivial | (apply And.intro; focus (intro hb; first | exact trivial | exact noB hb rfl | (repeat (first | exact hZ | apply hS | apply hA)))))), ?_⟩
      · intro x hx
        simp only [List.nil_append] at hx
        rcases List.mem_append.1 hx with h | h
        · exact een_ok _ x h
        · rw [List.mem_singleton.1 h]; exact .inr ⟨_, rfl⟩
      (apply Exists.intro; apply And.intro; (focus (repeat (first | exact PDrop.nil | apply PDrop.dropL rfl | apply PDrop.keep))))
      refine a_ (fun _ => p_fr) ?_
      refine a_st ?_
      apply an
      (repeat (first | apply cn | apply cq | apply cb | apply ck | apply cl | apply cx))
      exact ⟨eL, kK (kK kN (node_le { n with role := 2, log := n.log ++ [⟨n.term, 0, []⟩] } (Le.of_eq (by rw [List.map_append]; rfl)))) (LeL.refl _)⟩
  have hLF : lastF { n with role := 2, log := n.log ++ [⟨n.term, 0, []⟩] } = n.base + (n.log.length + 1) := by simp [lastF]
  rw [hLF] at hL
  (repeat (first | apply cn | apply cq | apply cb | apply ck | apply cl | apply cx))
  apply cr
  refine s_ p_loa ?_
  refine s_ (p_ca (hL)) ?_
  refine s_ p_mv ?_
  refine s_ p_ex ?_
  refine s_ p_ex ?_
  refine s_ p_as ?_
  refine s_ p_as ?_
  (repeat (first | apply cn | apply cq | apply cb | apply ck | apply cl | apply cx))
  apply cr
  refine s_ p_as ?_
  (repeat (first | apply cn | apply cq | apply cb | apply ck | apply cl | apply cx))
  generalize hv : n.base + ((n.log.length : Int) + 1) = v
  apply sim_loopL (σ := Nat) (ok := fun k => k ≤ 5) (env := fun k => [(6, ei (k : Nat)), (4, ei v), (3, .v (.slice none 0 0)), (2, pN b2), (1, pN b1)])
    (heap := fun k => [(b2, ⟨rN, nodeC zeroN (.v (.slice none 0 0)), 22⟩), (b1, ⟨rN, nodeC { n with role := 2, log := n.log ++ [⟨n.term, 0, []⟩], next := fillF n.next v k, mtch := fillF n.mtch 0 k } (.sl false ((n.log ++ [(⟨n.term, 0, []⟩ : En)]).map een)), 22⟩)]) (μ := fun k => 5 - k) (s0 := 0)
  · exact Nat.zero_le _
  · exact eL
  · exact kR
  intro k hk
  (repeat (first | apply cn | apply cq | apply cb | apply ck | apply cl | apply cx))
  apply cr
  refine s_ p_mv ?_
  refine s_ p_lt ?_
  (repeat (first | apply cn | apply cq | apply cb | apply ck | apply cl | apply cx))
  refine ci ?_ ?_
  · intro hlt
    have hk5 : k < 5 := by omega
    (repeat (first | apply cn | apply cq | apply cb | apply ck | apply cl | apply cx))
    apply cr
    refine s_ p_mv ?_
    refine s_ p_mv ?_
    refine s_ p_mv ?_
    refine s_ p_fr ?_
    refine s_ p_ar ?_
    refine e_ss ?_ ?_
    · simp only [nodeC_len, ei_cells]; omega
    rw [lay_nextN (by omega) (by omega), Int.toNat_natCast]
    refine s_ p_fr ?_
    refine s_ p_ar ?_
    refine e_ss ?_ ?_
    · simp only [nodeC_len, T.cells, Value.cells]; simp; omega
    rw [lay_mtchN0 (by omega) (by omega), Int.toNat_natCast]
    
    (repeat (first | apply cn | apply cq | apply cb | apply ck | apply cl | apply cx))
    apply cr
    refine s_ p_mv ?_
    refine s_ p_ad ?_
    refine s_ p_as ?_
    (repeat (first | apply cn | apply cq | apply cb | apply ck | apply cl | apply cx))
    exact ⟨k + 1, by omega, by show 5 - (k + 1) < 5 - k; omega, ⟨le_get (by rfl) (Le.refl _), eL⟩, kR⟩
  · intro hlt
    have : k = 5 := by omega
    subst this
    (repeat (first | apply cn | apply cq | apply cb | apply ck | apply cl | apply cx))
    apply cr
    refine s_ p_fr ?_
    refine s_ p_lo ?_
    refine s_ p_mv ?_
    refine s_ p_fr ?_
    refine s_ p_ar ?_
    refine e_ss ?_ ?_
    · simp only [nodeC_len, ei_cells]; omega
    rw [lay_mtchN hi0 hi5]
    have hm : { n with role := 2, log := n.log ++ [⟨n.term, 0, []⟩], next := fillF n.next v 5, mtch := (fillF n.mtch 0 5).set n.id.toNat v } = leadN n := by
      rw [leadN, hv]
      rcases five hi0 hi5 with h | h | h | h | h <;> rw [h] <;> rfl
    rw [hm]
    
    (repeat (first | apply cn | apply cq | apply cb | apply ck | apply cl | apply cx))
    apply cr
    refine s_ p_loa ?_
    refine s_ (p_ca (hCm)) ?_
    refine e_st ?_
    (repeat (first | apply cn | apply cq | apply cb | apply ck | apply cl | apply cx))
    refine ca [0, 1, 2, 3, 4] [3] ?_
    refine a_loa ?_
    refine a_loa ?_
    refine a_ (fun _ => p_ca (fS)) ?_
    refine a_st ?_
    refine a_ (fun _ => p_as) ?_
    apply an
    (repeat (first | apply cn | apply cq | apply cb | apply ck | apply cl | apply cx))
    (apply sim_ret; (try simp only [blockΨ_ret, thenΨ_ret, loopL_ret, cutΨ_ret, cutE_ret]); first | refine rt ?_ | refine rn ?_)
    exact Le.refl _
end Go.Proofs.Ytppaabahbjgihaa
end
section
set_option maxRecDepth 4000
namespace Go.Proofs.Ytppaabahbjgihaa
open Go.Cap
set_option linter.unusedSimpArgs false
set_option linter.unusedVariables false
attribute [local irreducible] POp SimFrom DrawFrom EOp Sim FnH T.gp
theorem Rd.put {n : Nd} {e : En} (h : Rd n) (hl : n.log.length < 100000000) (h0 : 0 ≤ e.conf) (h1 : e.conf ≤ 31) : Rd (putN n e) :=
  ⟨h.bd.put hl h0 h1, h.b0, h.c0, by have := h.c1; simp only [lastF, putN, List.length_append, List.length_singleton] at *; omega⟩
set_option maxHeartbeats 4000000 in
theorem lay_rfn {n : Nd} (e : En) (hn : Rd n) (hl : n.log.length < 100000000) (hc0 : 0 ≤ e.conf) (hc1 : e.conf ≤ 31) : FnP Try.prog 80 [nd n, een ⟨n.term, e.conf, e.cmd⟩] (fun r => r = .tup [nd (putF n e), ei (n.base + (n.log.length + 1))]) := by
  have hsz := hn.sz
  have hb0 := hn.b0
  have hi0 := hn.bd.id0
  have hi5 := hn.bd.id5
  have hRl := hn.put hl hc0 hc1
  have hL := rLast_fn { n with log := n.log ++ [⟨n.term, e.conf, e.cmd⟩] } (by simp; omega) (by simp only; omega) (by simp only; omega)
  have hCm := commits_rfn hRl.bd hRl.b0 hRl.c0 (by have := hRl.sz; omega)
  refine fn_enter Try.func80 (by rfl) (by rfl) ?_
  intro S0 w0
  show Sim _ _ [(0, T.agg (nodeC n (.sl false (n.log.map een)))), (1, .agg [ei n.term, ei e.conf, es e.cmd])] _ _
  (repeat (first | apply cn | apply cq | apply cb | apply ck | apply cl | apply cx))
  apply cr
  refine e_bx fun b2 _ => ?_
  refine e_bx fun b3 _ => ?_
  refine e_al fun b4 _ => ?_
  refine s_ p_as ?_
  (repeat (first | apply cn | apply cq | apply cb | apply ck | apply cl | apply cx))
  refine sim_cut [(4, pN b4), (2, pN b2)] [(b4, ⟨rN, nodeC zeroN (.v (.slice none 0 0)), 22⟩), (b2, ⟨rN, nodeC { n with log := n.log ++ [⟨n.term, e.conf, e.cmd⟩] } (.sl false ((n.log ++ [(⟨n.term, e.conf, e.cmd⟩ : En)]).map een)), 22⟩)] ?_ ?_
  · by_cases hz : n.log = []
    · (repeat (first | apply cn | apply cq | apply cb | apply ck | apply cl | apply cx))
      refine ca [0, 1, 2, 3, 4, 5, 6, 7, 8] [8] ?_
      refine a_ (fun _ => p_bs) ?_
      refine a_ (fun _ => p_fr) ?_
      refine a_lo ?_
      refine a_ (fun _ => p_ap0 (hyl := Le.of_eq (by rw [hz]; rfl))) ?_
      refine a_loa ?_
      refine a_ (fun _ => p_bs) ?_
      refine a_ (fun _ => p_ap) ?_
      refine a_ (fun _ => p_fr) ?_
      refine a_st ?_
      apply an
      (repeat (first | apply cn | apply cq | apply cb | apply ck | apply cl | apply cx))
      exact ⟨eL, kK (kS (kK kN (node_le { n with log := n.log ++ [⟨n.term, e.conf, e.cmd⟩] } (Le.of_eq (by rw [hz]; rfl))))) (LeL.refl _)⟩
    · have hzl : 0 < n.log.length := List.length_pos_iff.2 hz
      (repeat (first | apply cn | apply cq | apply cb | apply ck | apply cl | apply cx))
      refine ca [0, 1, 2, 4, 5, 3, 6, 7, 8] [3, 6, 8] ?_
      refine a_ (fun _ => p_bs) ?_
      refine a_ (fun _ => p_fr) ?_
      refine a_lo ?_
      refine a_loa ?_
      refine a_ (fun _ => p_bs) ?_
      refine a_on (e := rE) (k := 3) (fun v' Hl h1 => ⟨by (repeat (first | exact trivial | (apply And.intro; focus (intro hb; first | exact trivial | exact noB hb rfl | (repeat (first | exact hZ | apply hS | apply hA)))))), ?_⟩)
      (apply Exists.intro; apply And.intro; (focus (repeat (first | exact PDrop.nil | apply PDrop.dropL rfl | apply PDrop.keep))))
      refine a_osd (ho := h1) (A := []) (B := [_, _, _]) (by (repeat (first | exact lenOk_nil | (apply lenOk_map; intro _; rfl) | apply lenOk_append | apply lenOk_take | apply lenOk_drop | (apply lenOk_cons; rfl)))) ?_ ⟨by (repeat (first | exact trivial | (apply And.intro; focus (intro hb; first | exact trivial | exact noB hb rfl | (repeat (first | exact hZ | apply hS | apply hA)))))), ?_⟩
      · intro x hx
        simp only [List.nil_append] at hx
        rcases List.mem_append.1 hx with h | h
        · exact een_ok _ x h
        · rw [List.mem_singleton.1 h]; exact .inr ⟨_, rfl⟩
      (apply Exists.intro; apply And.intro; (focus (repeat (first | exact PDrop.nil | apply PDrop.dropL rfl | apply PDrop.keep))))
      refine a_ (fun _ => p_fr) ?_
      refine a_st ?_
      apply an
      (repeat (first | apply cn | apply cq | apply cb | apply ck | apply cl | apply cx))
      exact ⟨eL, kK (kS (kK kN (node_le { n with log := n.log ++ [⟨n.term, e.conf, e.cmd⟩] } (Le.of_eq (by rw [List.map_append]; rfl))))) (LeL.refl _)⟩
  have hLF : lastF { n with log := n.log ++ [⟨n.term, e.conf, e.cmd⟩] } = n.base + (n.log.length + 1) := by simp [lastF]
  rw [hLF] at hL
  (repeat (first | apply cn | apply cq | apply cb | apply ck | apply cl | apply cx))
  apply cr
  refine s_ p_loa ?_
  refine s_ (p_ca (hL)) ?_
  refine s_ p_mv ?_
  refine s_ p_ex ?_
  refine s_ p_ex ?_
  refine s_ p_as ?_
  refine s_ p_as ?_
  (repeat (first | apply cn | apply cq | apply cb | apply ck | apply cl | apply cx))
  apply cr
  refine s_ p_fr ?_
  refine s_ p_lo ?_
  refine s_ p_mv ?_
  refine s_ p_fr ?_
  refine s_ p_ar ?_
  refine e_ss ?_ ?_
  · simp only [nodeC_len, ei_cells]; omega
  rw [lay_mtchN hi0 hi5]
  have hm : { n with log := n.log ++ [⟨n.term, e.conf, e.cmd⟩], mtch := n.mtch.set n.id.toNat (n.base + ((n.log.length : Int) + 1)) } = putN n e := rfl
  rw [hm]
  
  (repeat (first | apply cn | apply cq | apply cb | apply ck | apply cl | apply cx))
  apply cr
  refine s_ p_loa ?_
  refine s_ (p_ca (hCm)) ?_
  refine s_ p_mv ?_
  refine e_st ?_
  refine s_ p_as ?_
  (repeat (first | apply cn | apply cq | apply cb | apply ck | apply cl | apply cx))
  (apply sim_ret; (try simp only [blockΨ_ret, thenΨ_ret, loopL_ret, cutΨ_ret, cutE_ret]); first | refine rt ?_ | refine rn ?_)
  exact Le.refl _
theorem Rd.of {n n' : Nd} (h : Rd n) (h1 : n'.id = n.id := by rfl) (h2 : n'.log = n.log := by rfl) (h3 : n'.base = n.base := by rfl) (h4 : n'.baseConf = n.baseConf := by rfl) (h5 : n'.commit = n.commit := by rfl) : Rd n' :=
  ⟨h.bd.of h1 h2 h3 h4, by rw [h3]; exact h.b0, by rw [h3, h5]; exact h.c0, by rw [h5]; simp only [lastF, h2, h3]; exact h.c1⟩
theorem ms_le0 (m : Ms) (h : m.entries = []) : Le (.agg (msC m (.v (.slice none 0 0)))) (ms m) := by
  unfold ms eens
  rw [h]
  refine Le.agg ?_
  unfold msC
  repeat (first | exact LeL.nil | (refine LeL.cons (Le.nil _) ?_) | (refine LeL.cons (Le.refl _) ?_))
def askF0 (n : Nd) (to : Int) : Ms := sendF (standN n) to (askM (lastF n) (termF n (lastF n)))
set_option maxHeartbeats 8000000 in
theorem rTick_fn {n : Nd} (hn : Rd n) (hl : n.log.length < 100000000) (ht0 : 0 ≤ n.term) (ht1 : n.term ≤ 1000000000000) (hw0 : 0 ≤ n.wait) (hw1 : n.wait ≤ 1000000000) (hx : n.role = 2 → ∀ to, to < 5 → n.next.get to ≤ lastF n + 1) :
    FnP Try.prog 50 [nd n] (fun r => r = .tup [nd (tickF n).1, mss (tickF n).2]) := by
  have hsz := hn.sz
  have hb0 := hn.b0
  have hi0 := hn.bd.id0
  have hi5 := hn.bd.id5
  have hc0 := hn.bd.conf0
  have hc1 := hn.bd.conf1
  have fC := rConf_fn n hsz.1 hb0 (by omega)
  have fI := member_fn (confF n).2 n.id hi0 hi5 hc0 hc1
  refine fn_enter Try.func50 (by rfl) (by rfl) ?_
  intro S0 w0
  show Sim _ _ [(0, T.agg (nodeC n (.sl false (n.log.map een))))] _ _
  (repeat (first | apply cn | apply cq | apply cb | apply ck | apply cl | apply cx))
  apply cr
  refine e_bx fun b1 _ => ?_
  refine e_al fun b2 _ => ?_
  refine s_ p_as ?_
  (repeat (first | apply cn | apply cq | apply cb | apply ck | apply cl | apply cx))
  apply cr
  refine s_ p_fr ?_
  refine s_ p_lo ?_
  refine s_ p_eq ?_
  (repeat (first | apply cn | apply cq | apply cb | apply ck | apply cl | apply cx))
  refine ci ?_ ?_
  · intro hr
    have fS := send_rfn hn (hx hr)
    (repeat (first | apply cn | apply cq | apply cb | apply ck | apply cl | apply cx))
    refine ca [0, 1, 2, 3, 4] [3] ?_
    refine a_loa ?_
    refine a_loa ?_
    refine a_ (fun _ => p_ca (fS)) ?_
    refine a_st ?_
    refine a_ (fun _ => p_as) ?_
    apply an
    (repeat (first | apply cn | apply cq | apply cb | apply ck | apply cl | apply cx))
    (apply sim_ret; (try simp only [blockΨ_ret, thenΨ_ret, loopL_ret, cutΨ_ret, cutE_ret]); first | refine rt ?_ | refine rn ?_)
    rw [tickF, if_pos hr]
    exact Le.refl _
  intro hr
  (repeat (first | apply cn | apply cq | apply cb | apply ck | apply cl | apply cx))
  refine ca [0, 1, 2, 3, 4, 5] [] ?_
  refine a_loa ?_
  refine a_ (fun _ => p_ca (fC)) ?_
  refine a_ (fun _ => p_fr) ?_
  refine a_lo ?_
  refine a_ (fun _ => p_ca (fI)) ?_
  refine a_ (fun _ => p_no) ?_
  apply an
  (repeat (first | apply cn | apply cq | apply cb | apply ck | apply cl | apply cx))
  refine ci ?_ ?_
  · intro hm
    (repeat (first | apply cn | apply cq | apply cb | apply ck | apply cl | apply cx))
    apply cr
    refine s_ p_loa ?_
    refine e_st ?_
    refine s_ p_as ?_
    (repeat (first | apply cn | apply cq | apply cb | apply ck | apply cl | apply cx))
    (apply sim_ret; (try simp only [blockΨ_ret, thenΨ_ret, loopL_ret, cutΨ_ret, cutE_ret]); first | refine rt ?_ | refine rn ?_)
    rw [tickF, if_neg hr, if_pos hm]
    exact Le.tup (LeL.cons (Le.refl _) (LeL.cons (Le.nil _) LeL.nil))
  intro hm
  have hn1 : Rd { n with wait := n.wait + 1 } := hn.of
  (repeat (first | apply cn | apply cq | apply cb | apply ck | apply cl | apply cx))
  apply cr
  refine s_ p_fr ?_
  refine s_ p_lo ?_
  refine s_ p_ad ?_
  refine s_ p_fr ?_
  refine e_st ?_
  (repeat (first | apply cn | apply cq | apply cb | apply ck | apply cl | apply cx))
  apply cr
  refine s_ p_fr ?_
  refine s_ p_lo ?_
  refine s_ p_fr ?_
  refine s_ p_lo ?_
  refine s_ p_mu ?_
  refine s_ p_ad ?_
  refine s_ p_lt ?_
  refine s_ p_mv ?_
  refine gF (fun hg => p_fr) ?_
  refine gF (fun hg => p_lo (hx := u_ hg)) ?_
  refine gF (fun hg => p_ge (hx := u_ hg)) ?_
  refine s_ p_or ?_
  (repeat (first | apply cn | apply cq | apply cb | apply ck | apply cl | apply cx))
  refine ci ?_ ?_
  · intro hs
    (repeat (first | apply cn | apply cq | apply cb | apply ck | apply cl | apply cx))
    apply cr
    refine s_ p_loa ?_
    refine e_st ?_
    refine s_ p_as ?_
    (repeat (first | apply cn | apply cq | apply cb | apply ck | apply cl | apply cx))
    (apply sim_ret; (try simp only [blockΨ_ret, thenΨ_ret, loopL_ret, cutΨ_ret, cutE_ret]); first | refine rt ?_ | refine rn ?_)
    have hs' : ¬ (5 + 3 * n.id ≤ n.wait + 1 ∧ n.term < 1073741824) := by
      have h1 : n.wait + 1 < 5 + 3 * n.id ∨ 1073741824 ≤ n.term := hs
      omega
    rw [tickF, if_neg hr, if_neg hm, if_neg hs']
    exact Le.tup (LeL.cons (Le.refl _) (LeL.cons (Le.nil _) LeL.nil))
  intro hs
  have hs' : 5 + 3 * n.id ≤ n.wait + 1 ∧ n.term < 1073741824 := by
    have h1 : ¬ (n.wait + 1 < 5 + 3 * n.id ∨ 1073741824 ≤ n.term) := hs
    omega
  have hsh : bShl .i64 1 (IntKind.u64.wrap n.id) = 2 ^ n.id.toNat ∧ 0 ≤ (2 : Int) ^ n.id.toNat ∧ (2 : Int) ^ n.id.toNat ≤ 31 := by
    rcases five hi0 hi5 with h | h | h | h | h <;> rw [h] <;> decide
  have hwi : IntKind.u64.wrap n.id = n.id := wrap32 hi0 (by omega)
  have hn2 : Rd (standN { n with wait := n.wait + 1 }) := hn.of
  have fC2 := rConf_fn (standN { n with wait := n.wait + 1 }) (show n.log.length ≤ _ from hsz.1) hb0 (show n.base ≤ _ by omega)
  have fM2 := rmost_fn (2 ^ n.id.toNat) (confF n).2 hsh.2.1 hsh.2.2 hc0 hc1
  have fL2 := rLast_fn (standN { n with wait := n.wait + 1 }) (show n.log.length ≤ _ from hsz.1) (show _ ≤ n.base by omega) (show n.base ≤ _ by omega)
  have fD2 := leads_rfn hn2 hl
  (repeat (first | apply cn | apply cq | apply cb | apply ck | apply cl | apply cx))
  apply cr
  refine s_ p_fr ?_
  refine s_ p_lo ?_
  refine s_ p_ad ?_
  refine s_ p_fr ?_
  refine s_ p_lo ?_
  refine s_ p_fr ?_
  refine s_ p_lo ?_
  refine s_ p_cv ?_
  refine s_ p_shl ?_
  refine s_ p_fr ?_
  refine e_st ?_
  refine s_ p_fr ?_
  refine e_st ?_
  refine s_ p_fr ?_
  refine e_st ?_
  refine s_ p_fr ?_
  refine e_st ?_
  refine s_ p_fr ?_
  refine e_st ?_
  (repeat (first | apply cn | apply cq | apply cb | apply ck | apply cl | apply cx))
  rw [hsh.1]
  (repeat (first | apply cn | apply cq | apply cb | apply ck | apply cl | apply cx))
  refine ca [0, 1, 2, 3, 4] [] ?_
  refine a_ (fun _ => p_fr) ?_
  refine a_lo ?_
  refine a_loa ?_
  refine a_ (fun _ => p_ca (fC2)) ?_
  refine a_ (fun _ => p_ca (fM2)) ?_
  apply an
  (repeat (first | apply cn | apply cq | apply cb | apply ck | apply cl | apply cx))
  refine ci ?_ ?_
  · intro hc
    (repeat (first | apply cn | apply cq | apply cb | apply ck | apply cl | apply cx))
    apply cr
    refine s_ p_loa ?_
    refine s_ (p_ca (fD2)) ?_
    refine s_ p_ex ?_
    refine s_ p_ex ?_
    refine e_st ?_
    refine s_ p_as ?_
    (repeat (first | apply cn | apply cq | apply cb | apply ck | apply cl | apply cx))
    (apply sim_ret; (try simp only [blockΨ_ret, thenΨ_ret, loopL_ret, cutΨ_ret, cutE_ret]); first | refine rt ?_ | refine rn ?_)
    have e : standF { n with wait := n.wait + 1 } = (leadF (standN { n with wait := n.wait + 1 }), toAll (leadF (standN { n with wait := n.wait + 1 })) (oweF (leadF (standN { n with wait := n.wait + 1 }))) 5) := by
      unfold standF
      exact if_pos hc
    rw [tickF, if_neg hr, if_neg hm, if_pos hs', e]
    exact Le.refl _
  intro hc
  (repeat (first | apply cn | apply cq | apply cb | apply ck | apply cl | apply cx))
  apply cr
  refine s_ p_loa ?_
  refine s_ (p_ca (fL2)) ?_
  refine s_ p_mv ?_
  refine s_ p_ex ?_
  refine s_ p_ex ?_
  refine s_ p_as ?_
  refine s_ p_as ?_
  (repeat (first | apply cn | apply cq | apply cb | apply ck | apply cl | apply cx))
  apply cr
  refine s_ p_as ?_
  (repeat (first | apply cn | apply cq | apply cb | apply ck | apply cl | apply cx))
  apply cr
  refine s_ p_as ?_
  (repeat (first | apply cn | apply cq | apply cb | apply ck | apply cl | apply cx))
  apply sim_loopL (σ := Nat × Value × Heap) (ok := fun s => s.1 ≤ 5 ∧ ∃ Ho, OSl rM 11 ((toAll (standN { n with wait := n.wait + 1 }) (askF0 { n with wait := n.wait + 1 }) s.1).map ms) s.2.1 Ho ∧ s.2.2 = Ho ++ [(b2, ⟨rN, nodeC zeroN (.v (.slice none 0 0)), 22⟩), (b1, ⟨rN, nodeC (standN { n with wait := n.wait + 1 }) (.sl false (n.log.map een)), 22⟩)])
    (env := fun s => [(7, ei (s.1 : Nat)), (6, .v s.2.1), (5, ei (termF n (lastF n))), (4, ei (lastF n)), (3, .v (.slice none 0 0)), (2, pN b2), (1, pN b1)]) (heap := fun s => s.2.2) (μ := fun s => 5 - s.1) (s0 := (0, .slice none 0 0, _))
  · exact ⟨Nat.zero_le _, [], osl_nil, rfl⟩
  · exact eL
  · exact kR
  rintro ⟨k, v, H⟩ ⟨hk, Ho, h1, hH⟩
  simp only at hk h1 hH
  subst hH
  obtain ⟨p, c, rfl⟩ := OSl.len h1
  (repeat (first | apply cn | apply cq | apply cb | apply ck | apply cl | apply cx))
  apply cr
  refine s_ p_mv ?_
  refine s_ p_lt ?_
  (repeat (first | apply cn | apply cq | apply cb | apply ck | apply cl | apply cx))
  refine ci ?_ ?_
  · intro hlt
    have hk5 : k < 5 := by omega
    have fM := member_fn (confF n).2 (k : Nat) (by omega) (by omega) hc0 hc1
    (repeat (first | apply cn | apply cq | apply cb | apply ck | apply cl | apply cx))
    apply cr
    refine s_ p_mv ?_
    refine s_ p_fr ?_
    refine s_ p_lo ?_
    refine s_ p_ne ?_
    refine s_ p_mv ?_
    refine gT (fun hg => p_loa) ?_
    refine gT (fun hg => p_ca (fC2) (ha' := by apply evl_cons (u_ hg); exact evl_nil)) ?_
    refine gT (fun hg => p_mv) ?_
    refine gT (fun hg => p_ca (fM) (ha' := by apply evl_cons (u_ hg); apply evl_cons (u_ hg); exact evl_nil)) ?_
    refine s_ p_an ?_
    (repeat (first | apply cn | apply cq | apply cb | apply ck | apply cl | apply cx))
    refine ci ?_ ?_
    · intro hd
      have hmm : memF (standN { n with wait := n.wait + 1 }) k = true := (memF_dec _ k).2 hd
      have hlen := toAll_len (standN { n with wait := n.wait + 1 }) (askF0 { n with wait := n.wait + 1 }) k
      (repeat (first | apply cn | apply cq | apply cb | apply ck | apply cl | apply cx))
      apply cr
      refine s_ p_mv ?_
      refine s_ p_fr ?_
      refine s_ p_lo ?_
      refine s_ p_mv ?_
      refine s_ p_fr ?_
      refine s_ p_lo ?_
      refine s_ p_mv ?_
      refine s_ p_mv ?_
      refine s_ (p_bd 11 [_, _, _, _, _, _, _, _, _, _, _]) ?_
      refine s_ p_bs ?_
      refine e_os (ho := h1) (A := []) (B := [_, _]) (ys := [ms (askF0 { n with wait := n.wait + 1 } (k : Nat))]) (f := true) (ms11 _) (fun v' H' h1' => ?_) (hyl := Le.sl (LeL.cons (ms_le0 (askF0 { n with wait := n.wait + 1 } (k : Nat)) rfl) LeL.nil) (fun h => h)) (hky := ms11 [_]) (hyleaf := by intro x hx; rw [List.mem_singleton.1 hx]; rfl)
      have h1 : OSl rM 11 ((toAll (standN { n with wait := n.wait + 1 }) (askF0 { n with wait := n.wait + 1 }) (k + 1)).map ms) v' H' := by
        rw [toAll_succ, if_pos hmm, List.map_append]; exact h1'
      clear h1'
      obtain ⟨p, c, rfl⟩ := OSl.len h1
      refine s_ p_as ?_
      (repeat (first | apply cn | apply cq | apply cb | apply ck | apply cl | apply cx))
      apply cr
      refine s_ p_mv ?_
      refine s_ p_ad ?_
      refine s_ p_as ?_
      (repeat (first | apply cn | apply cq | apply cb | apply ck | apply cl | apply cx))
      exact ⟨(k + 1, _, _), ⟨by simp only; omega, H', h1, rfl⟩, by show 5 - (k + 1) < 5 - k; omega, ⟨le_get (by rfl) (Le.refl _), le_get (by ((repeat (apply gS; rfl)); exact gZ)) (Le.refl _), eL⟩, kR⟩
    · intro hd
      have hmm : ¬ memF (standN { n with wait := n.wait + 1 }) k = true := fun h => hd ((memF_dec _ k).1 h)
      (repeat (first | apply cn | apply cq | apply cb | apply ck | apply cl | apply cx))
      apply cr
      refine s_ p_mv ?_
      refine s_ p_ad ?_
      refine s_ p_as ?_
      (repeat (first | apply cn | apply cq | apply cb | apply ck | apply cl | apply cx))
      exact ⟨(k + 1, .slice p ((toAll (standN { n with wait := n.wait + 1 }) (askF0 { n with wait := n.wait + 1 }) k).map ms).length c, _), ⟨by simp only; omega, Ho, by simp only; rw [toAll_succ, if_neg hmm, List.append_nil]; exact h1, rfl⟩, by show 5 - (k + 1) < 5 - k; omega, ⟨le_get (by rfl) (Le.refl _), eL⟩, kR⟩
  · intro hlt
    have hk5 : k = 5 := by omega
    subst hk5
    (repeat (first | apply cn | apply cq | apply cb | apply ck | apply cl | apply cx))
    refine lendG (G := Ho) (H1 := [(b2, _), (b1, _)]) 6 (mss (toAll (standN { n with wait := n.wait + 1 }) (askF0 { n with wait := n.wait + 1 }) 5)) (OSl.lend h1 (fun _ h => h) (ms11 _) (ms_ok _)) (List.Perm.refl _) ?_
    (repeat (first | apply cn | apply cq | apply cb | apply ck | apply cl | apply cx))
    apply cr
    refine s_ p_loa ?_
    refine s_ p_mv ?_
    refine e_st ?_
    refine s_ p_as ?_
    (repeat (first | apply cn | apply cq | apply cb | apply ck | apply cl | apply cx))
    (apply sim_ret; (try simp only [blockΨ_ret, thenΨ_ret, loopL_ret, cutΨ_ret, cutE_ret]); first | refine rt ?_ | refine rn ?_)
    have e : standF { n with wait := n.wait + 1 } = (standN { n with wait := n.wait + 1 }, toAll (standN { n with wait := n.wait + 1 }) (askF0 { n with wait := n.wait + 1 }) 5) := by
      unfold standF
      exact if_neg hc
    rw [tickF, if_neg hr, if_neg hm, if_pos hs', e]
    exact Le.refl _
end Go.Proofs.Ytppaabahbjgihaa
end
section
set_option maxRecDepth 4000
namespace Go.Proofs.Ytppaabahbjgihaa
open Go.Cap
set_option linter.unusedSimpArgs false
set_option linter.unusedVariables false
attribute [local irreducible] POp SimFrom DrawFrom EOp Sim FnH T.gp
theorem Rd.vote {n : Nd} (m : Ms) (h : Rd n) : Rd (voteF n m) := by
  unfold voteF
  split
  · exact h.of
  · exact h
theorem tup_one {n n' : Nd} {y : T} {m : Ms} (hn : n = n') (hm : m.entries = []) (hy : y = .agg (msC m (.v (.slice none 0 0)))) : Le (packT [nd n, .sl true [y]]) (.tup [nd n', mss [m]]) := by
  subst hn hy
  exact Le.tup (LeL.cons (Le.refl _) (LeL.cons (Le.sl (LeL.cons (ms_le0 m hm) LeL.nil) (fun h => by cases h)) LeL.nil))
theorem tup_none {n n' : Nd} (hn : n = n') : Le (packT [nd n, .v (.slice none 0 0)]) (.tup [nd n', mss []]) := by
  subst hn
  exact Le.tup (LeL.cons (Le.refl _) (LeL.cons (Le.nil _) LeL.nil))
set_option maxHeartbeats 4000000 in
theorem rvote_fn {n : Nd} (m : Ms) (hn : Rd n) : FnP Try.prog 75 [nd n, ms m] (fun r => r = .tup [nd (voteF n m), mss [sendF (voteF n m) m.frm (votedM (yesF n m))]]) := by
  have hsz := hn.sz
  have hb0 := hn.b0
  have fL := rLast_fn n hsz.1 (by omega) (by omega)
  refine fn_enter Try.func75 (by rfl) (by rfl) ?_
  intro S0 w0
  show Sim _ _ [(0, T.agg (nodeC n (.sl false (n.log.map een)))), (1, T.agg (msC m (eens m.entries)))] _ _
  (repeat (first | apply cn | apply cq | apply cb | apply ck | apply cl | apply cx))
  apply cr
  refine e_bx fun b2 _ => ?_
  refine e_bx fun b3 _ => ?_
  refine e_al fun b4 _ => ?_
  refine s_ p_as ?_
  (repeat (first | apply cn | apply cq | apply cb | apply ck | apply cl | apply cx))
  apply cr
  refine s_ p_loa ?_
  refine s_ (p_ca (fL)) ?_
  refine s_ p_mv ?_
  refine s_ p_ex ?_
  refine s_ p_ex ?_
  refine s_ p_as ?_
  refine s_ p_as ?_
  (repeat (first | apply cn | apply cq | apply cb | apply ck | apply cl | apply cx))
  apply cr
  refine s_ p_fr ?_
  refine s_ p_lo ?_
  refine s_ p_fr ?_
  refine s_ p_lo ?_
  refine s_ p_eq ?_
  refine s_ p_mv ?_
  refine gT (fun hg => p_fr) ?_
  refine gT (fun hg => p_lo (hx := u_ hg)) ?_
  refine gT (fun hg => p_eq (hx := u_ hg)) ?_
  refine gT (fun hg => p_mv (hx := u_ hg)) ?_
  refine hF (fun hg => p_fr) ?_
  refine hF (fun hg => p_lo (hx := u_ hg)) ?_
  refine hF (fun hg => p_fr) ?_
  refine hF (fun hg => p_lo (hx := u_ hg)) ?_
  refine hF (fun hg => p_eq (hx := u_ hg) (hy := u_ hg)) ?_
  refine gT (fun hg => p_orN hg) ?_
  refine s_ p_an ?_
  refine s_ p_mv ?_
  refine gT (fun hg => p_fr) ?_
  refine gT (fun hg => p_lo (hx := u_ hg)) ?_
  refine gT (fun hg => p_mv) ?_
  refine gT (fun hg => p_gt (hx := u_ hg) (hy := u_ hg)) ?_
  refine gT (fun hg => p_mv (hx := u_ hg)) ?_
  refine hF (fun hg => p_fr) ?_
  refine hF (fun hg => p_lo (hx := u_ hg)) ?_
  refine hF (fun hg => p_mv) ?_
  refine hF (fun hg => p_eq (hx := u_ hg) (hy := u_ hg)) ?_
  refine hF (fun hg => p_mv (hx := u_ hg)) ?_
  refine hT (fun hg => p_fr) ?_
  refine hT (fun hg => p_lo (hx := u_ hg)) ?_
  refine hT (fun hg => p_mv) ?_
  refine hT (fun hg => p_ge (hx := u_ hg) (hy := u_ hg)) ?_
  refine hF (fun hg => p_anN hg) ?_
  refine gT (fun hg => p_orN hg) ?_
  refine s_ p_an ?_
  refine s_ p_as ?_
  (repeat (first | apply cn | apply cq | apply cb | apply ck | apply cl | apply cx))
  (repeat (first | apply cn | apply cq | apply cb | apply ck | apply cl | apply cx))
  apply cr
  refine s_ p_mv ?_
  (repeat (first | apply cn | apply cq | apply cb | apply ck | apply cl | apply cx))
  refine ci ?_ ?_
  · intro hc
    have hy : yesF n m = true := decide_eq_true hc
    have hv : voteF n m = { n with vote := m.frm, wait := 0 } := by rw [voteF, if_pos hy]
    (repeat (first | apply cn | apply cq | apply cb | apply ck | apply cl | apply cx))
    apply cr
    refine s_ p_fr ?_
    refine s_ p_lo ?_
    refine s_ p_fr ?_
    refine e_st ?_
    refine s_ p_fr ?_
    refine e_st ?_
    (repeat (first | apply cn | apply cq | apply cb | apply ck | apply cl | apply cx))
    refine ca [0, 1, 2, 3, 4, 5, 6, 7, 8, 9, 10, 11] [10] ?_
    refine a_loa ?_
    refine a_ (fun _ => p_fr) ?_
    refine a_lo ?_
    refine a_ (fun _ => p_fr) ?_
    refine a_lo ?_
    refine a_ (fun _ => p_fr) ?_
    refine a_lo ?_
    refine a_ (fun _ => p_mv) ?_
    refine a_ (fun _ => p_bd 11 [_, _, _, _, _, _, _, _, _, _, _]) ?_
    refine a_ (fun _ => p_bs) ?_
    refine a_st ?_
    refine a_ (fun _ => p_as) ?_
    apply an
    (repeat (first | apply cn | apply cq | apply cb | apply ck | apply cl | apply cx))
    (apply sim_ret; (try simp only [blockΨ_ret, thenΨ_ret, loopL_ret, cutΨ_ret, cutE_ret]); first | refine rt ?_ | refine rn ?_)
    exact tup_one (n := { n with vote := m.frm, wait := 0 }) hv.symm rfl (by rw [hv]; rfl)
  · intro hc
    have hy : ¬ yesF n m = true := fun h => hc (of_decide_eq_true h)
    have hv : voteF n m = n := by rw [voteF, if_neg hy]
    (repeat (first | apply cn | apply cq | apply cb | apply ck | apply cl | apply cx))
    refine ca [0, 1, 2, 3, 4, 5, 6, 7, 8, 9, 10, 11] [10] ?_
    refine a_loa ?_
    refine a_ (fun _ => p_fr) ?_
    refine a_lo ?_
    refine a_ (fun _ => p_fr) ?_
    refine a_lo ?_
    refine a_ (fun _ => p_fr) ?_
    refine a_lo ?_
    refine a_ (fun _ => p_mv) ?_
    refine a_ (fun _ => p_bd 11 [_, _, _, _, _, _, _, _, _, _, _]) ?_
    refine a_ (fun _ => p_bs) ?_
    refine a_st ?_
    refine a_ (fun _ => p_as) ?_
    apply an
    (repeat (first | apply cn | apply cq | apply cb | apply ck | apply cl | apply cx))
    (apply sim_ret; (try simp only [blockΨ_ret, thenΨ_ret, loopL_ret, cutΨ_ret, cutE_ret]); first | refine rt ?_ | refine rn ?_)
    exact tup_one (n := n) hv.symm rfl (by rw [hv]; rfl)
set_option maxHeartbeats 4000000 in
theorem rvoted_fn {n : Nd} (m : Ms) (hn : Rd n) (hl : n.log.length < 100000000) (hv0 : 0 ≤ n.votes) (hv1 : n.votes ≤ 31) (hf0 : 0 ≤ m.frm) (hf5 : m.frm < 5) : FnP Try.prog 76 [nd n, ms m] (fun r => r = .tup [nd (votedF n m).1, mss (votedF n m).2]) := by
  have hsz := hn.sz
  have hb0 := hn.b0
  have hor := or_eq hv0 hv1 hf0 hf5
  have hwf : IntKind.u64.wrap m.frm = m.frm := wrap32 hf0 (by omega)
  have hc0 := hn.bd.conf0
  have hc1 := hn.bd.conf1
  have fC := rConf_fn (countN n m) (show n.log.length ≤ _ from hsz.1) hb0 (show n.base ≤ _ by omega)
  have fM := rmost_fn (orI n.votes (2 ^ m.frm.toNat)) (confF n).2 hor.2.1 hor.2.2 hc0 hc1
  have fD := leads_rfn (n := countN n m) hn.of hl
  rw [ms_dec]
  refine fn_enter Try.func76 (by rfl) (by rfl) ?_
  intro S0 w0
  show Sim _ _ [(0, T.agg (nodeC n (.sl false (n.log.map een)))), (1, T.agg [ei m.kind, ei m.frm, ei m.to, ei m.term, ei m.index, ei m.logTerm, ei m.commit, ei m.conf, .v (.bool (decide (m.yes = true))), eens m.entries, es m.snap])] _ _
  (repeat (first | apply cn | apply cq | apply cb | apply ck | apply cl | apply cx))
  apply cr
  refine e_bx fun b2 _ => ?_
  refine e_bx fun b3 _ => ?_
  refine e_al fun b4 _ => ?_
  refine s_ p_as ?_
  (repeat (first | apply cn | apply cq | apply cb | apply ck | apply cl | apply cx))
  apply cr
  refine s_ p_fr ?_
  refine s_ p_lo ?_
  refine s_ p_fr ?_
  refine s_ p_lo ?_
  refine s_ p_ne ?_
  refine s_ p_mv ?_
  refine gF (fun hg => p_fr) ?_
  refine gF (fun hg => p_lo (hx := u_ hg)) ?_
  refine gF (fun hg => p_ne (hx := u_ hg)) ?_
  refine s_ p_or ?_
  refine s_ p_mv ?_
  refine gF (fun hg => p_fr) ?_
  refine gF (fun hg => p_lo (hx := u_ hg)) ?_
  refine gF (fun hg => p_no (hx := u_ hg)) ?_
  refine s_ p_or ?_
  (repeat (first | apply cn | apply cq | apply cb | apply ck | apply cl | apply cx))
  refine ci ?_ ?_
  · intro hc
    (repeat (first | apply cn | apply cq | apply cb | apply ck | apply cl | apply cx))
    apply cr
    refine s_ p_loa ?_
    refine e_st ?_
    refine s_ p_as ?_
    (repeat (first | apply cn | apply cq | apply cb | apply ck | apply cl | apply cx))
    (apply sim_ret; (try simp only [blockΨ_ret, thenΨ_ret, loopL_ret, cutΨ_ret, cutE_ret]); first | refine rt ?_ | refine rn ?_)
    rw [votedF, if_pos hc]
    exact tup_none rfl
  · intro hc
    (repeat (first | apply cn | apply cq | apply cb | apply ck | apply cl | apply cx))
    apply cr
    refine s_ p_fr ?_
    refine s_ p_lo ?_
    refine s_ p_fr ?_
    refine s_ p_lo ?_
    refine s_ p_cv ?_
    refine s_ p_shl ?_
    refine s_ p_oor ?_
    refine s_ p_fr ?_
    refine e_st ?_
    (repeat (first | apply cn | apply cq | apply cb | apply ck | apply cl | apply cx))
    rw [hor.1]
    (repeat (first | apply cn | apply cq | apply cb | apply ck | apply cl | apply cx))
    refine ca [0, 1, 2, 3, 4, 5] [] ?_
    refine a_ (fun _ => p_fr) ?_
    refine a_lo ?_
    refine a_loa ?_
    refine a_ (fun _ => p_ca (fC)) ?_
    refine a_ (fun _ => p_ca (fM)) ?_
    refine a_ (fun _ => p_no) ?_
    apply an
    (repeat (first | apply cn | apply cq | apply cb | apply ck | apply cl | apply cx))
    refine ci ?_ ?_
    · intro hm
      (repeat (first | apply cn | apply cq | apply cb | apply ck | apply cl | apply cx))
      apply cr
      refine s_ p_loa ?_
      refine e_st ?_
      refine s_ p_as ?_
      (repeat (first | apply cn | apply cq | apply cb | apply ck | apply cl | apply cx))
      (apply sim_ret; (try simp only [blockΨ_ret, thenΨ_ret, loopL_ret, cutΨ_ret, cutE_ret]); first | refine rt ?_ | refine rn ?_)
      rw [votedF, if_neg hc, if_neg hm]
      exact tup_none (n := countN n m) rfl
    · intro hm
      (repeat (first | apply cn | apply cq | apply cb | apply ck | apply cl | apply cx))
      apply cr
      refine s_ p_loa ?_
      refine s_ (p_ca (fD)) ?_
      refine s_ p_ex ?_
      refine s_ p_ex ?_
      refine e_st ?_
      refine s_ p_as ?_
      (repeat (first | apply cn | apply cq | apply cb | apply ck | apply cl | apply cx))
      (apply sim_ret; (try simp only [blockΨ_ret, thenΨ_ret, loopL_ret, cutΨ_ret, cutE_ret]); first | refine rt ?_ | refine rn ?_)
      have hm' : mostF (confF n).2 (orI n.votes (2 ^ m.frm.toNat)) = true := Classical.not_not.1 hm
      rw [votedF, if_neg hc, if_pos hm']
      exact Le.refl _
set_option maxHeartbeats 2000000 in
theorem rProp_fn {n : Nd} (cmd : List UInt8) (hn : Rd n) (hl : n.log.length < 100000000) : FnP Try.prog 54 [nd n, es cmd] (fun r => r = .tup [nd (propF n cmd).1, ei (propF n cmd).2.1, ei (propF n cmd).2.2]) := by
  have fL := lay_rfn ⟨0, 0, cmd⟩ hn hl (by simp) (by simp)
  refine fn_enter Try.func54 (by rfl) (by rfl) ?_
  intro S0 w0
  show Sim _ _ [(0, T.agg (nodeC n (.sl false (n.log.map een)))), (1, es cmd)] _ _
  (repeat (first | apply cn | apply cq | apply cb | apply ck | apply cl | apply cx))
  apply cr
  refine e_bx fun b2 _ => ?_
  refine e_al fun b4 _ => ?_
  refine s_ p_as ?_
  refine s_ p_as ?_
  (repeat (first | apply cn | apply cq | apply cb | apply ck | apply cl | apply cx))
  apply cr
  refine s_ p_fr ?_
  refine s_ p_lo ?_
  refine s_ p_ne ?_
  (repeat (first | apply cn | apply cq | apply cb | apply ck | apply cl | apply cx))
  refine ci ?_ ?_
  · intro hr
    (repeat (first | apply cn | apply cq | apply cb | apply ck | apply cl | apply cx))
    apply cr
    refine s_ p_loa ?_
    refine e_st ?_
    refine s_ p_as ?_
    refine s_ p_as ?_
    (repeat (first | apply cn | apply cq | apply cb | apply ck | apply cl | apply cx))
    (apply sim_ret; (try simp only [blockΨ_ret, thenΨ_ret, loopL_ret, cutΨ_ret, cutE_ret]); first | refine rt ?_ | refine rn ?_)
    rw [propF, if_pos hr]
    exact Le.refl _
  intro hr
  (repeat (first | apply cn | apply cq | apply cb | apply ck | apply cl | apply cx))
  apply cr
  refine s_ p_mv ?_
  refine s_ p_eqS ?_
  (repeat (first | apply cn | apply cq | apply cb | apply ck | apply cl | apply cx))
  refine ci ?_ ?_
  · intro hc
    (repeat (first | apply cn | apply cq | apply cb | apply ck | apply cl | apply cx))
    apply cr
    refine s_ p_loa ?_
    refine e_st ?_
    refine s_ p_as ?_
    refine s_ p_as ?_
    (repeat (first | apply cn | apply cq | apply cb | apply ck | apply cl | apply cx))
    (apply sim_ret; (try simp only [blockΨ_ret, thenΨ_ret, loopL_ret, cutΨ_ret, cutE_ret]); first | refine rt ?_ | refine rn ?_)
    have hc' : cmd = [] := hc
    rw [propF, if_neg hr, if_pos hc']
    exact Le.refl _
  intro hc
  have hc' : ¬ cmd = [] := hc
  (repeat (first | apply cn | apply cq | apply cb | apply ck | apply cl | apply cx))
  apply cr
  refine s_ p_loa ?_
  refine s_ p_fr ?_
  refine s_ p_lo ?_
  refine s_ p_mv ?_
  refine s_ (p_bd 3 [_, _, _]) ?_
  refine s_ (p_ca (fL)) ?_
  refine s_ p_mv ?_
  refine s_ p_ex ?_
  refine s_ p_ex ?_
  refine e_al fun b7 _ => ?_
  refine e_st ?_
  refine s_ p_as ?_
  (repeat (first | apply cn | apply cq | apply cb | apply ck | apply cl | apply cx))
  (repeat (first | apply cn | apply cq | apply cb | apply ck | apply cl | apply cx))
  apply cr
  refine s_ p_loa ?_
  refine s_ p_mv ?_
  refine e_st ?_
  refine s_ p_as ?_
  refine s_ p_as ?_
  (repeat (first | apply cn | apply cq | apply cb | apply ck | apply cl | apply cx))
  (apply sim_ret; (try simp only [blockΨ_ret, thenΨ_ret, loopL_ret, cutΨ_ret, cutE_ret]); first | refine rt ?_ | refine rn ?_)
  rw [propF, if_neg hr, if_neg hc']
  exact Le.refl _
set_option maxHeartbeats 4000000 in
theorem rChange_fn {n : Nd} (conf : Int) (hn : Rd n) (hl : n.log.length < 100000000) : FnP Try.prog 57 [nd n, ei conf] (fun r => r = .tup [nd (changeF n conf).1, ei (changeF n conf).2.1, ei (changeF n conf).2.2]) := by
  have hsz := hn.sz
  have hb0 := hn.b0
  have hc0 := hn.c0
  have hc1 := hn.c1
  have hla : lastF n = n.base + n.log.length := rfl
  have fC := rConf_fn n hsz.1 hb0 (by omega)
  have fL := rLast_fn n hsz.1 (by omega) (by omega)
  have fP := place_fn n (lastF n) hsz.1 hb0 (by omega)
  have fT := termAt_fn n n.commit hsz.1 (by simp only [big]; omega) (by simp only [big]; omega) (by simp only [big]; omega) (by simp only [big]; omega)
  rw [termAt_eq hc0 hc1] at fT
  refine fn_enter Try.func57 (by rfl) (by rfl) ?_
  intro S0 w0
  show Sim _ _ [(0, T.agg (nodeC n (.sl false (n.log.map een)))), (1, ei conf)] _ _
  (repeat (first | apply cn | apply cq | apply cb | apply ck | apply cl | apply cx))
  apply cr
  refine e_bx fun b2 _ => ?_
  refine e_al fun b4 _ => ?_
  refine s_ p_as ?_
  refine s_ p_as ?_
  (repeat (first | apply cn | apply cq | apply cb | apply ck | apply cl | apply cx))
  apply cr
  refine s_ p_fr ?_
  refine s_ p_lo ?_
  refine s_ p_ne ?_
  (repeat (first | apply cn | apply cq | apply cb | apply ck | apply cl | apply cx))
  refine ci ?_ ?_
  · intro hr
    (repeat (first | apply cn | apply cq | apply cb | apply ck | apply cl | apply cx))
    apply cr
    refine s_ p_loa ?_
    refine e_st ?_
    refine s_ p_as ?_
    refine s_ p_as ?_
    (repeat (first | apply cn | apply cq | apply cb | apply ck | apply cl | apply cx))
    (apply sim_ret; (try simp only [blockΨ_ret, thenΨ_ret, loopL_ret, cutΨ_ret, cutE_ret]); first | refine rt ?_ | refine rn ?_)
    rw [changeF, if_pos hr]
    exact Le.refl _
  intro hr
  have hones : ¬ (conf < 1 ∨ 31 < conf) → FnP Try.prog 82 [ei (bXor .i64 conf (confF n).2)] (fun r => r = ei (ones (xorI conf (confF n).2))) := by
    intro h
    have hx := xor_eq (x := conf) (y := (confF n).2) (by omega) (by omega) hn.bd.conf0 hn.bd.conf1
    have hx' : bXor .i64 conf (confF n).2 = xorI conf (confF n).2 := by
      have key : ∀ i : Fin 32, ∀ j : Fin 32, bXor .i64 i.val j.val = xorI i.val j.val := by decide +kernel
      obtain ⟨i, hi⟩ := fin32 (x := conf) (by omega) (by omega)
      obtain ⟨j, hj⟩ := fin32 hn.bd.conf0 hn.bd.conf1
      rw [hi, hj]; exact key i j
    rw [hx']
    exact count_fn _ hx.2.1 hx.2.2
  (repeat (first | apply cn | apply cq | apply cb | apply ck | apply cl | apply cx))
  apply cr
  refine s_ p_mv ?_
  refine s_ p_lt ?_
  refine s_ p_mv ?_
  refine gF (fun hg => p_mv) ?_
  refine gF (fun hg => p_gt (hx := u_ hg)) ?_
  refine s_ p_or ?_
  refine s_ p_mv ?_
  refine gF (fun hg => p_mv) ?_
  refine gF (fun hg => p_loa) ?_
  refine gF (fun hg => p_ca (fC) (ha' := by apply evl_cons (u_ hg); exact evl_nil)) ?_
  refine gF (fun hg => p_xor (hx := u_ hg) (hy := u_ hg)) ?_
  refine gF (p := conf < 1 ∨ 31 < conf) (fun hg => p_ca (hones hg) (ha' := by refine evl_cons (u_ hg) ?_; exact evl_nil)) ?_
  refine gF (fun hg => p_ne (hx := u_ hg)) ?_
  refine s_ p_or ?_
  (repeat (first | apply cn | apply cq | apply cb | apply ck | apply cl | apply cx))
  refine ci ?_ ?_
  · intro hc
    (repeat (first | apply cn | apply cq | apply cb | apply ck | apply cl | apply cx))
    apply cr
    refine s_ p_loa ?_
    refine e_st ?_
    refine s_ p_as ?_
    refine s_ p_as ?_
    (repeat (first | apply cn | apply cq | apply cb | apply ck | apply cl | apply cx))
    (apply sim_ret; (try simp only [blockΨ_ret, thenΨ_ret, loopL_ret, cutΨ_ret, cutE_ret]); first | refine rt ?_ | refine rn ?_)
    rw [changeF, if_neg hr, if_pos hc]
    exact Le.refl _
  intro hc
  have hpl := place_le (n := n) hb0 hc0
  (repeat (first | apply cn | apply cq | apply cb | apply ck | apply cl | apply cx))
  apply cr
  refine s_ p_loa ?_
  refine s_ (p_ca (fL)) ?_
  refine s_ p_mv ?_
  refine s_ p_ex ?_
  refine s_ p_ex ?_
  refine s_ p_as ?_
  refine s_ p_as ?_
  (repeat (first | apply cn | apply cq | apply cb | apply ck | apply cl | apply cx))
  refine ca [0, 1, 2, 3, 4, 5, 6, 7, 8, 9, 10, 11, 12, 13, 14] [] ?_
  refine a_loa ?_
  refine a_ (fun _ => p_mv) ?_
  refine a_ (fun _ => p_ca (fP)) ?_
  refine a_ (fun _ => p_fr) ?_
  refine a_lo ?_
  refine a_ (fun _ => p_gt) ?_
  refine a_ (fun _ => p_mv) ?_
  refine ag_loaF ?_
  refine ag_F (fun _ hg => p_fr) ?_
  refine ag_loF ?_
  refine ag_F (fun _ hg => p_ca (fT) (ha' := by apply evl_cons (u_ hg); apply evl_cons (u_ hg); exact evl_nil)) ?_
  refine ag_F (fun _ hg => p_fr) ?_
  refine ag_loF ?_
  refine ag_F (fun _ hg => p_ne (hx := u_ hg) (hy := u_ hg)) ?_
  refine a_ (fun _ => p_or) ?_
  apply an
  (repeat (first | apply cn | apply cq | apply cb | apply ck | apply cl | apply cx))
  refine ci ?_ ?_
  · intro he
    have he' : n.commit < (confF n).1 ∨ ¬ termF n n.commit = n.term := by
      rcases he with h | h
      · refine .inl ?_
        have : ¬ (confF n).1 ≤ n.commit := fun h1 => by have := hpl.2 h1; omega
        omega
      · exact .inr h
    (repeat (first | apply cn | apply cq | apply cb | apply ck | apply cl | apply cx))
    apply cr
    refine s_ p_loa ?_
    refine e_st ?_
    refine s_ p_as ?_
    refine s_ p_as ?_
    (repeat (first | apply cn | apply cq | apply cb | apply ck | apply cl | apply cx))
    (apply sim_ret; (try simp only [blockΨ_ret, thenΨ_ret, loopL_ret, cutΨ_ret, cutE_ret]); first | refine rt ?_ | refine rn ?_)
    rw [changeF, if_neg hr, if_neg hc, if_pos he']
    exact Le.refl _
  intro he
  have he' : ¬ (n.commit < (confF n).1 ∨ ¬ termF n n.commit = n.term) := by
    rintro (h | h)
    · refine he (.inl ?_)
      have : ¬ placeK n (uptoK n (lastF n)) ≤ n.commit := fun h1 => by have := hpl.1 h1; omega
      omega
    · exact he (.inr h)
  have fY := lay_rfn ⟨0, conf, []⟩ hn hl (by simp only; omega) (by simp only; omega)
  (repeat (first | apply cn | apply cq | apply cb | apply ck | apply cl | apply cx))
  apply cr
  refine s_ p_loa ?_
  refine s_ p_fr ?_
  refine s_ p_lo ?_
  refine s_ p_mv ?_
  refine s_ (p_bd 3 [_, _, _]) ?_
  refine s_ (p_ca (fY)) ?_
  refine s_ p_mv ?_
  refine s_ p_ex ?_
  refine s_ p_ex ?_
  refine e_al fun b9 _ => ?_
  refine e_st ?_
  refine s_ p_as ?_
  (repeat (first | apply cn | apply cq | apply cb | apply ck | apply cl | apply cx))
  (repeat (first | apply cn | apply cq | apply cb | apply ck | apply cl | apply cx))
  apply cr
  refine s_ p_loa ?_
  refine s_ p_mv ?_
  refine e_st ?_
  refine s_ p_as ?_
  refine s_ p_as ?_
  (repeat (first | apply cn | apply cq | apply cb | apply ck | apply cl | apply cx))
  (apply sim_ret; (try simp only [blockΨ_ret, thenΨ_ret, loopL_ret, cutΨ_ret, cutE_ret]); first | refine rt ?_ | refine rn ?_)
  rw [changeF, if_neg hr, if_neg hc, if_neg he']
  exact Le.refl _
set_option maxHeartbeats 4000000 in
theorem rCompact_fn {n : Nd} (index : Int) (snap : List UInt8) (hn : Rd n) : FnP Try.prog 56 [nd n, ei index, es snap] (fun r => r = .tup [nd (compactF n index snap).1, ei (compactF n index snap).2]) := by
  have hsz := hn.sz
  have hb0 := hn.b0
  have hc0 := hn.c0
  have hc1 := hn.c1
  have hla : lastF n = n.base + n.log.length := rfl
  refine fn_enter Try.func56 (by rfl) (by rfl) ?_
  intro S0 w0
  show Sim _ _ [(0, T.agg (nodeC n (.sl false (n.log.map een)))), (1, ei index), (2, es snap)] _ _
  (repeat (first | apply cn | apply cq | apply cb | apply ck | apply cl | apply cx))
  apply cr
  refine e_bx fun b3 _ => ?_
  refine e_al fun b6 _ => ?_
  refine s_ p_as ?_
  (repeat (first | apply cn | apply cq | apply cb | apply ck | apply cl | apply cx))
  apply cr
  refine s_ p_mv ?_
  refine s_ p_fr ?_
  refine s_ p_lo ?_
  refine s_ p_le ?_
  refine s_ p_mv ?_
  refine gF (fun hg => p_mv) ?_
  refine gF (fun hg => p_fr) ?_
  refine gF (fun hg => p_lo (hx := u_ hg)) ?_
  refine gF (fun hg => p_gt (hx := u_ hg) (hy := u_ hg)) ?_
  refine s_ p_or ?_
  (repeat (first | apply cn | apply cq | apply cb | apply ck | apply cl | apply cx))
  refine ci ?_ ?_
  · intro hr
    (repeat (first | apply cn | apply cq | apply cb | apply ck | apply cl | apply cx))
    apply cr
    refine s_ p_loa ?_
    refine e_st ?_
    refine s_ p_as ?_
    (repeat (first | apply cn | apply cq | apply cb | apply ck | apply cl | apply cx))
    (apply sim_ret; (try simp only [blockΨ_ret, thenΨ_ret, loopL_ret, cutΨ_ret, cutE_ret]); first | refine rt ?_ | refine rn ?_)
    rw [compactF, if_pos (.inl hr)]
    exact Le.refl _
  intro hr
  have hr1 : n.base < index ∧ index ≤ n.commit := by
    have h1 : ¬ (index ≤ n.base ∨ n.commit < index) := hr
    omega
  have fA := confAt_fn n index hsz.1 hb0 (by omega)
  have fT := termAt_fn n index hsz.1 (by simp only [big]; omega) (by simp only [big]; omega) (by simp only [big]; omega) (by simp only [big]; omega)
  rw [termAt_eq (by omega) (by omega)] at fT
  have huk : uptoK n index = (index - n.base).toNat := by unfold uptoK; omega
  rw [huk] at fA
  (repeat (first | apply cn | apply cq | apply cb | apply ck | apply cl | apply cx))
  refine ca [0, 1, 2, 3, 4, 5, 6, 7, 8, 9] [7, 9] ?_
  refine a_loa ?_
  refine a_ (fun _ => p_mv) ?_
  refine a_ (fun _ => p_ca (fA)) ?_
  refine a_loa ?_
  refine a_ (fun _ => p_mv) ?_
  refine a_ (fun _ => p_ca (fT)) ?_
  refine a_ (fun _ => p_fr) ?_
  refine a_st ?_
  refine a_ (fun _ => p_fr) ?_
  refine a_st ?_
  apply an
  (repeat (first | apply cn | apply cq | apply cb | apply ck | apply cl | apply cx))
  apply cr
  refine s_ p_bs ?_
  refine s_ p_fr ?_
  refine s_ p_lo ?_
  refine s_ p_mv ?_
  refine s_ p_fr ?_
  refine s_ p_lo ?_
  refine s_ p_su ?_
  refine s_ (p_sll (xs := n.log.map een) (f := false)) ?_
  rw [← List.map_drop]
  refine s_ p_ap ?_
  refine s_ p_fr ?_
  refine e_st ?_
  (repeat (first | apply cn | apply cq | apply cb | apply ck | apply cl | apply cx))
  apply cr
  refine s_ p_mv ?_
  refine s_ p_mv ?_
  refine s_ p_fr ?_
  refine e_st ?_
  refine s_ p_fr ?_
  refine e_st ?_
  (repeat (first | apply cn | apply cq | apply cb | apply ck | apply cl | apply cx))
  apply cr
  refine s_ p_loa ?_
  refine e_st ?_
  refine s_ p_as ?_
  (repeat (first | apply cn | apply cq | apply cb | apply ck | apply cl | apply cx))
  (apply sim_ret; (try simp only [blockΨ_ret, thenΨ_ret, loopL_ret, cutΨ_ret, cutE_ret]); first | refine rt ?_ | refine rn ?_)
  have hr2 : ¬ ((index ≤ n.base ∨ n.commit < index) ∨ lastF n < index) := by omega
  rw [compactF, if_neg hr2]
  exact Le.refl _
end Go.Proofs.Ytppaabahbjgihaa
end
section
set_option maxRecDepth 4000
namespace Go.Proofs.Ytppaabahbjgihaa
open Go.Cap
set_option linter.unusedSimpArgs false
set_option linter.unusedVariables false
attribute [local irreducible] POp SimFrom DrawFrom EOp Sim FnH T.gp
theorem lay_mtchA {n : Nd} {lg : T} {i : Int} (h0 : 0 ≤ i) (h5 : i < 5) (v : Int) : lay (nodeC n lg) (0 + 17 + i.toNat * 1) (T.v (.int .i64 v)).cells = nodeC { n with mtch := n.mtch.set i.toNat v } lg := lay_mtchN h0 h5 v
theorem lay_nextA {n : Nd} {lg : T} {i : Int} (h0 : 0 ≤ i) (h5 : i < 5) (v : Int) : lay (nodeC n lg) (0 + 12 + i.toNat * 1) (T.v (.int .i64 v)).cells = nodeC { n with next := n.next.set i.toNat v } lg := lay_nextN h0 h5 v
set_option maxHeartbeats 4000000 in
theorem radded_fn {n : Nd} (m : Ms) (hn : Rd n) (hf0 : 0 ≤ m.frm) (hf5 : m.frm < 5) (hx0 : -100000000000 ≤ n.next.get m.frm.toNat) (hx1 : n.next.get m.frm.toNat ≤ 50000000000) (hm0 : -100000000000 ≤ n.mtch.get m.frm.toNat) (hm1 : n.mtch.get m.frm.toNat ≤ 50000000000) (hi0 : -100000000000 ≤ m.index) (hi1 : m.index ≤ 50000000000) :
    FnP Try.prog 78 [nd n, ms m] (fun r => r = .tup [nd (heardF n m).1, mss (heardF n m).2]) := by
  have hsz := hn.sz
  have hb0 := hn.b0
  have hc0 := hn.c0
  have fL := rLast_fn (backN n m) (show n.log.length ≤ _ from hsz.1) (show _ ≤ n.base by omega) (show n.base ≤ _ by omega)
  have fCm := commits_rfn (n := agreeN n m) hn.bd.of hb0 hc0 (show n.commit ≤ _ by omega)
  rw [ms_dec]
  refine fn_enter Try.func78 (by rfl) (by rfl) ?_
  intro S0 w0
  show Sim _ _ [(0, T.agg (nodeC n (.sl false (n.log.map een)))), (1, T.agg [ei m.kind, ei m.frm, ei m.to, ei m.term, ei m.index, ei m.logTerm, ei m.commit, ei m.conf, .v (.bool (decide (m.yes = true))), eens m.entries, es m.snap])] _ _
  (repeat (first | apply cn | apply cq | apply cb | apply ck | apply cl | apply cx))
  apply cr
  refine e_bx fun b2 _ => ?_
  refine e_bx fun b3 _ => ?_
  refine e_al fun b4 _ => ?_
  refine s_ p_as ?_
  (repeat (first | apply cn | apply cq | apply cb | apply ck | apply cl | apply cx))
  refine sim_perm (List.Perm.swap _ _ _) ?_
  refine lend1 3 (by simp) ?_
  (repeat (first | apply cn | apply cq | apply cb | apply ck | apply cl | apply cx))
  apply cr
  refine s_ p_fa ?_
  refine s_ p_ld ?_
  refine s_ p_fr ?_
  refine s_ p_lo ?_
  refine s_ p_ne ?_
  refine s_ p_mv ?_
  refine gF (fun hg => p_fr) ?_
  refine gF (fun hg => p_lo (hx := u_ hg)) ?_
  refine gF (fun hg => p_ne (hx := u_ hg)) ?_
  refine s_ p_or ?_
  (repeat (first | apply cn | apply cq | apply cb | apply ck | apply cl | apply cx))
  refine ci ?_ ?_
  · intro hc
    (repeat (first | apply cn | apply cq | apply cb | apply ck | apply cl | apply cx))
    apply cr
    refine s_ p_loa ?_
    refine e_st ?_
    refine s_ p_as ?_
    (repeat (first | apply cn | apply cq | apply cb | apply ck | apply cl | apply cx))
    (apply sim_ret; (try simp only [blockΨ_ret, thenΨ_ret, loopL_ret, cutΨ_ret, cutE_ret]); first | refine rt ?_ | refine rn ?_)
    rw [heardF, if_pos hc]
    exact tup_none rfl
  intro hc
  (repeat (first | apply cn | apply cq | apply cb | apply ck | apply cl | apply cx))
  apply cr
  refine s_ p_fa ?_
  refine s_ p_ld ?_
  (repeat (first | apply cn | apply cq | apply cb | apply ck | apply cl | apply cx))
  refine ci ?_ ?_
  · intro hy
    (repeat (first | apply cn | apply cq | apply cb | apply ck | apply cl | apply cx))
    refine ca [0, 1, 2, 3, 4, 5, 6, 7, 8, 9, 10, 11, 12] [12] ?_
    refine a_ (fun _ => p_fa) ?_
    refine a_ (fun _ => p_ld) ?_
    refine a_ (fun _ => p_fa) ?_
    refine a_ (fun _ => p_ld) ?_
    refine a_ (fun _ => p_fr) ?_
    refine a_ (fun _ => p_ar) ?_
    refine a_lo (hd := node_atm hf0 hf5) ?_
    refine a_ (fun _ => p_fa) ?_
    refine a_ (fun _ => p_ld) ?_
    refine a_ (fun _ => p_ma) ?_
    refine a_ (fun _ => p_fr) ?_
    refine a_ (fun _ => p_ar) ?_
    refine a_ss ?_ ?_
    · simp only [nodeC_len, T.cells, Value.cells]; simp; omega
    rw [lay_mtchA hf0 hf5]
    have hd2 : ∀ lg, (nodeC { n with mtch := n.mtch.set m.frm.toNat (max (n.mtch.get m.frm.toNat) m.index) } lg)[0 + 0 + 17 + m.frm.toNat * 1]? = some (ei (max (n.mtch.get m.frm.toNat) m.index)) := fun _ => by rw [node_atm hf0 hf5, get_set _ hf0 hf5]
    apply an
    (repeat (first | apply cn | apply cq | apply cb | apply ck | apply cl | apply cx))
    refine ca [0, 1, 2, 3, 4, 5, 6, 7, 8, 9, 10] [10] ?_
    refine a_ (fun _ => p_fa) ?_
    refine a_ (fun _ => p_ld) ?_
    refine a_ (fun _ => p_fa) ?_
    refine a_ (fun _ => p_ld) ?_
    refine a_ (fun _ => p_fr) ?_
    refine a_ (fun _ => p_ar) ?_
    refine a_lo (hd := hd2 _) ?_
    refine a_ (fun _ => p_ad) ?_
    refine a_ (fun _ => p_fr) ?_
    refine a_ (fun _ => p_ar) ?_
    refine a_ss ?_ ?_
    · simp only [nodeC_len, T.cells, Value.cells]; simp; omega
    rw [lay_nextA hf0 hf5]
    apply an
    (repeat (first | apply cn | apply cq | apply cb | apply ck | apply cl | apply cx))
    apply cr
    refine s_ p_loa ?_
    refine s_ (p_ca (fCm)) ?_
    refine e_st ?_
    refine s_ p_as ?_
    (repeat (first | apply cn | apply cq | apply cb | apply ck | apply cl | apply cx))
    (apply sim_ret; (try simp only [blockΨ_ret, thenΨ_ret, loopL_ret, cutΨ_ret, cutE_ret]); first | refine rt ?_ | refine rn ?_)
    rw [heardF, if_neg hc, if_pos hy]
    exact tup_none rfl
  · intro hy
    have fLn := rLast_fn n hsz.1 (by omega) (by omega)
    (repeat (first | apply cn | apply cq | apply cb | apply ck | apply cl | apply cx))
    apply cr
    refine s_ p_loa ?_
    refine s_ (p_ca (fLn)) ?_
    refine s_ p_mv ?_
    refine s_ p_ex ?_
    refine s_ p_ex ?_
    refine s_ p_as ?_
    refine s_ p_as ?_
    (repeat (first | apply cn | apply cq | apply cb | apply ck | apply cl | apply cx))
    refine ca [0, 1, 2, 3, 4, 5, 6, 7, 8, 9, 10, 11, 12, 13, 14, 15, 16, 17, 18, 19, 20, 21] [21] ?_
    refine a_ (fun _ => p_fa) ?_
    refine a_ (fun _ => p_ld) ?_
    refine a_ (fun _ => p_fa) ?_
    refine a_ (fun _ => p_ld) ?_
    refine a_ (fun _ => p_fr) ?_
    refine a_ (fun _ => p_ar) ?_
    refine a_lo (hd := node_at hf0 hf5) ?_
    refine a_ (fun _ => p_su) ?_
    refine a_ (fun _ => p_fa) ?_
    refine a_ (fun _ => p_ld) ?_
    refine a_ (fun _ => p_ad) ?_
    refine a_ (fun _ => p_mi) ?_
    refine a_ (fun _ => p_fa) ?_
    refine a_ (fun _ => p_ld) ?_
    refine a_ (fun _ => p_fr) ?_
    refine a_ (fun _ => p_ar) ?_
    refine a_lo (hd := node_atm hf0 hf5) ?_
    refine a_ (fun _ => p_ad) ?_
    refine a_ (fun _ => p_ma3) ?_
    refine a_ (fun _ => p_fr) ?_
    refine a_ (fun _ => p_ar) ?_
    refine a_ss ?_ ?_
    · simp only [nodeC_len, T.cells, Value.cells]; simp; omega
    rw [lay_nextA hf0 hf5]
    have hbg : (backN n m).next.get m.frm.toNat = max (max (min (n.next.get m.frm.toNat - 1) (m.index + 1)) 1) (n.mtch.get m.frm.toNat + 1) := get_set _ hf0 hf5 _
    apply an
    (repeat (first | apply cn | apply cq | apply cb | apply ck | apply cl | apply cx))
    apply cr
    refine s_ p_fa ?_
    refine s_ p_ld ?_
    refine s_ p_fr ?_
    refine s_ p_ar ?_
    refine s_ (p_lo (hd := node_at (n := backN n m) hf0 hf5)) ?_
    refine s_ p_mv ?_
    refine s_ p_le ?_
    (repeat (first | apply cn | apply cq | apply cb | apply ck | apply cl | apply cx))
    refine ci ?_ ?_
    · intro hle
      have hle' : (backN n m).next.get m.frm.toNat ≤ lastF n := hle
      have fO := owes_rfn (backN n m) m.frm hf0 hf5 (show n.log.length ≤ _ from hsz.1) hb0 (show n.base ≤ _ by omega) (by show _ ≤ lastF n + 1; omega)
      (repeat (first | apply cn | apply cq | apply cb | apply ck | apply cl | apply cx))
      refine ca [0, 1, 2, 3, 4, 5, 6, 7] [6] ?_
      refine a_loa ?_
      refine a_loa ?_
      refine a_ (fun _ => p_fa) ?_
      refine a_ (fun _ => p_ld) ?_
      refine a_ (fun _ => p_ca (fO)) ?_
      refine a_ (fun _ => p_bs) ?_
      refine a_st ?_
      refine a_ (fun _ => p_as) ?_
      apply an
      (repeat (first | apply cn | apply cq | apply cb | apply ck | apply cl | apply cx))
      (apply sim_ret; (try simp only [blockΨ_ret, thenΨ_ret, loopL_ret, cutΨ_ret, cutE_ret]); first | refine rt ?_ | refine rn ?_)
      have hle2 : (backN n m).next.get m.frm.toNat ≤ lastF n := hle
      rw [heardF, if_neg hc, if_neg hy, if_pos hle2]
      exact Le.tup (LeL.cons (Le.refl _) (LeL.cons (Le.sl (LeL.refl _) (fun h => by cases h)) LeL.nil))
    · intro hle
      (repeat (first | apply cn | apply cq | apply cb | apply ck | apply cl | apply cx))
      apply cr
      refine s_ p_loa ?_
      refine e_st ?_
      refine s_ p_as ?_
      (repeat (first | apply cn | apply cq | apply cb | apply ck | apply cl | apply cx))
      (apply sim_ret; (try simp only [blockΨ_ret, thenΨ_ret, loopL_ret, cutΨ_ret, cutE_ret]); first | refine rt ?_ | refine rn ?_)
      have hle2 : ¬ (backN n m).next.get m.frm.toNat ≤ lastF n := hle
      rw [heardF, if_neg hc, if_neg hy, if_neg hle2]
      exact tup_none (n := backN n m) rfl
theorem tup_le {n' : Nd} {x y : T} {m : Ms} (hn : Le x (nd n')) (hm : m.entries = []) (hy : y = .agg (msC m (.v (.slice none 0 0)))) : Le (packT [x, .sl true [y]]) (.tup [nd n', mss [m]]) := by
  subst hy
  exact Le.tup (LeL.cons hn (LeL.cons (Le.sl (LeL.cons (ms_le0 m hm) LeL.nil) (fun h => by cases h)) LeL.nil))
set_option maxHeartbeats 4000000 in
theorem rsnap_fn {n : Nd} (m : Ms) (hn : Rd n) (hi0 : -50000000000 ≤ m.index) (hi1 : m.index ≤ 50000000000) (ht : 0 ≤ m.logTerm) : FnP Try.prog 79 [nd n, ms m] (fun r => r = .tup [nd (snapF n m).1, mss (snapF n m).2]) := by
  have hsz := hn.sz
  have hb0 := hn.b0
  have hc0 := hn.c0
  refine fn_enter Try.func79 (by rfl) (by rfl) ?_
  intro S0 w0
  show Sim _ _ [(0, T.agg (nodeC n (.sl false (n.log.map een)))), (1, T.agg (msC m (eens m.entries)))] _ _
  (repeat (first | apply cn | apply cq | apply cb | apply ck | apply cl | apply cx))
  apply cr
  refine e_bx fun b2 _ => ?_
  refine e_bx fun b3 _ => ?_
  refine e_al fun b4 _ => ?_
  refine s_ p_as ?_
  (repeat (first | apply cn | apply cq | apply cb | apply ck | apply cl | apply cx))
  refine sim_perm (List.Perm.swap _ _ _) ?_
  refine lend1 3 (by simp [msC]) ?_
  (repeat (first | apply cn | apply cq | apply cb | apply ck | apply cl | apply cx))
  apply cr
  refine s_ p_fr ?_
  refine s_ p_lo ?_
  refine s_ p_fa ?_
  refine s_ p_ld ?_
  refine s_ p_fr ?_
  refine s_ p_lo ?_
  refine s_ (p_bd 11 [_, _, _, _, _, _, _, _, _, _, _]) ?_
  refine e_al fun b6 _ => ?_
  refine e_st ?_
  (repeat (first | apply cn | apply cq | apply cb | apply ck | apply cl | apply cx))
  apply cr
  refine s_ p_fa ?_
  refine s_ p_ld ?_
  refine s_ p_fr ?_
  refine s_ p_lo ?_
  refine s_ p_lt ?_
  (repeat (first | apply cn | apply cq | apply cb | apply ck | apply cl | apply cx))
  refine ci ?_ ?_
  · intro hlt
    (repeat (first | apply cn | apply cq | apply cb | apply ck | apply cl | apply cx))
    refine ca [0, 1, 2, 3, 4] [3] ?_
    refine a_loa ?_
    refine a_loa ?_
    refine a_ (fun _ => p_bs) ?_
    refine a_st ?_
    refine a_ (fun _ => p_as) ?_
    apply an
    (repeat (first | apply cn | apply cq | apply cb | apply ck | apply cl | apply cx))
    (apply sim_ret; (try simp only [blockΨ_ret, thenΨ_ret, loopL_ret, cutΨ_ret, cutE_ret]); first | refine rt ?_ | refine rn ?_)
    rw [snapF, if_pos hlt]
    exact tup_one (n := n) rfl rfl rfl
  intro hlt
  (repeat (first | apply cn | apply cq | apply cb | apply ck | apply cl | apply cx))
  apply cr
  refine s_ p_fr ?_
  refine e_st ?_
  refine s_ p_fr ?_
  refine e_st ?_
  (repeat (first | apply cn | apply cq | apply cb | apply ck | apply cl | apply cx))
  refine ca [0, 1, 2, 3, 4, 5, 6, 7, 8] [6, 8] ?_
  refine a_ (fun _ => p_fa) ?_
  refine a_ (fun _ => p_ld) ?_
  refine a_ (fun _ => p_fr) ?_
  refine a_lo ?_
  refine a_ (fun _ => p_ma) ?_
  refine a_ (fun _ => p_fr) ?_
  refine a_st ?_
  refine a_ (fun _ => p_fr) ?_
  refine a_st ?_
  apply an
  (repeat (first | apply cn | apply cq | apply cb | apply ck | apply cl | apply cx))
  apply cr
  refine s_ p_fa ?_
  refine s_ p_ld ?_
  refine s_ p_fr ?_
  refine s_ p_lo ?_
  refine s_ p_gt ?_
  (repeat (first | apply cn | apply cq | apply cb | apply ck | apply cl | apply cx))
  refine ci ?_ ?_
  · intro hgt
    have hgt' : n.commit < m.index := hgt
    have hla : lastF n = n.base + n.log.length := rfl
    have fT := termAt_fn (quietN n) m.index (show n.log.length ≤ _ from hsz.1) (by simp only [big]; show _ ≤ n.base; omega) (by simp only [big]; show n.base ≤ _; omega) (by simp only [big]; omega) (by simp only [big]; omega)
    have hcond : termAtF (quietN n) m.index = m.logTerm ↔ ((m.index ≤ lastF n ∧ n.base < m.index) ∧ termF n m.index = m.logTerm) := by
      have hq : termAtF (quietN n) m.index = termAtF n m.index := rfl
      rw [hq]
      constructor
      · intro h
        have h1 : m.index ≤ lastF n := by
          refine Int.not_lt.1 fun h2 => ?_
          rw [termAtF, if_neg (by omega), if_pos (by omega)] at h
          omega
        exact ⟨⟨h1, by omega⟩, by rw [← termAt_eq (by omega) h1]; exact h⟩
      · intro h
        rw [termAt_eq (by omega) h.1.1]; exact h.2
    (repeat (first | apply cn | apply cq | apply cb | apply ck | apply cl | apply cx))
    apply cr
    refine s_ p_as ?_
    (repeat (first | apply cn | apply cq | apply cb | apply ck | apply cl | apply cx))
    refine ca [0, 1, 2, 3, 4, 5, 6] [] ?_
    refine a_loa ?_
    refine a_ (fun _ => p_fa) ?_
    refine a_ (fun _ => p_ld) ?_
    refine a_ (fun _ => p_ca (fT)) ?_
    refine a_ (fun _ => p_fa) ?_
    refine a_ (fun _ => p_ld) ?_
    refine a_ (fun _ => p_eq) ?_
    apply an
    (repeat (first | apply cn | apply cq | apply cb | apply ck | apply cl | apply cx))
    refine ci ?_ ?_
    · intro hr
      have hr' := hcond.1 hr
      (repeat (first | apply cn | apply cq | apply cb | apply ck | apply cl | apply cx))
      apply cr
      refine s_ p_mv ?_
      refine s_ p_fr ?_
      refine s_ p_lo ?_
      refine s_ p_fa ?_
      refine s_ p_ld ?_
      refine s_ p_fr ?_
      refine s_ p_lo ?_
      refine s_ p_su ?_
      refine s_ (p_sll (xs := n.log.map een) (f := false)) ?_
      rw [← List.map_drop]
      refine s_ p_ap ?_
      refine s_ p_as ?_
      (repeat (first | apply cn | apply cq | apply cb | apply ck | apply cl | apply cx))
      refine ca [0, 1, 2, 3, 4, 5, 6, 7, 8, 9, 10, 11, 12, 13, 14, 15, 16, 17, 18, 19, 20, 21, 22] [12, 14, 16, 18, 20, 22] ?_
      refine a_ (fun _ => p_fa) ?_
      refine a_ (fun _ => p_ld) ?_
      refine a_ (fun _ => p_fa) ?_
      refine a_ (fun _ => p_ld) ?_
      refine a_ (fun _ => p_fa) ?_
      refine a_ (fun _ => p_ld) ?_
      refine a_ (fun _ => p_fa) ?_
      refine a_ (fun _ => p_ld) ?_
      refine a_ (fun _ => p_mv) ?_
      refine a_ (fun _ => p_fa) ?_
      refine a_ (fun _ => p_ld) ?_
      refine a_ (fun _ => p_fr) ?_
      refine a_st ?_
      refine a_ (fun _ => p_fr) ?_
      refine a_st ?_
      refine a_ (fun _ => p_fr) ?_
      refine a_st ?_
      refine a_ (fun _ => p_fr) ?_
      refine a_st ?_
      refine a_ (fun _ => p_fr) ?_
      refine a_st ?_
      refine a_ (fun _ => p_fr) ?_
      refine a_st ?_
      apply an
      (repeat (first | apply cn | apply cq | apply cb | apply ck | apply cl | apply cx))
      refine ca [0, 1, 2, 3, 4] [3] ?_
      refine a_loa ?_
      refine a_loa ?_
      refine a_ (fun _ => p_bs) ?_
      refine a_st ?_
      refine a_ (fun _ => p_as) ?_
      apply an
      (repeat (first | apply cn | apply cq | apply cb | apply ck | apply cl | apply cx))
      (apply sim_ret; (try simp only [blockΨ_ret, thenΨ_ret, loopL_ret, cutΨ_ret, cutE_ret]); first | refine rt ?_ | refine rn ?_)
      rw [snapF, if_neg hlt, if_pos hgt']
      refine tup_le ?_ rfl rfl
      have hrl : restF n m = n.log.drop (m.index - n.base).toNat := by rw [restF, if_pos hr']
      exact Le.agg (node_le (snapN n m) (Le.of_eq (by rw [show (snapN n m).log = restF n m from rfl, hrl]; rfl)))
    · intro hr
      have hr' := fun h => hr (hcond.2 h)
      (repeat (first | apply cn | apply cq | apply cb | apply ck | apply cl | apply cx))
      refine ca [0, 1, 2, 3, 4, 5, 6, 7, 8, 9, 10, 11, 12, 13, 14, 15, 16, 17, 18, 19, 20, 21, 22] [12, 14, 16, 18, 20, 22] ?_
      refine a_ (fun _ => p_fa) ?_
      refine a_ (fun _ => p_ld) ?_
      refine a_ (fun _ => p_fa) ?_
      refine a_ (fun _ => p_ld) ?_
      refine a_ (fun _ => p_fa) ?_
      refine a_ (fun _ => p_ld) ?_
      refine a_ (fun _ => p_fa) ?_
      refine a_ (fun _ => p_ld) ?_
      refine a_ (fun _ => p_mv) ?_
      refine a_ (fun _ => p_fa) ?_
      refine a_ (fun _ => p_ld) ?_
      refine a_ (fun _ => p_fr) ?_
      refine a_st ?_
      refine a_ (fun _ => p_fr) ?_
      refine a_st ?_
      refine a_ (fun _ => p_fr) ?_
      refine a_st ?_
      refine a_ (fun _ => p_fr) ?_
      refine a_st ?_
      refine a_ (fun _ => p_fr) ?_
      refine a_st ?_
      refine a_ (fun _ => p_fr) ?_
      refine a_st ?_
      apply an
      (repeat (first | apply cn | apply cq | apply cb | apply ck | apply cl | apply cx))
      refine ca [0, 1, 2, 3, 4] [3] ?_
      refine a_loa ?_
      refine a_loa ?_
      refine a_ (fun _ => p_bs) ?_
      refine a_st ?_
      refine a_ (fun _ => p_as) ?_
      apply an
      (repeat (first | apply cn | apply cq | apply cb | apply ck | apply cl | apply cx))
      (apply sim_ret; (try simp only [blockΨ_ret, thenΨ_ret, loopL_ret, cutΨ_ret, cutE_ret]); first | refine rt ?_ | refine rn ?_)
      rw [snapF, if_neg hlt, if_pos hgt']
      refine tup_le ?_ rfl rfl
      have hrl : restF n m = [] := by rw [restF, if_neg hr']
      refine Le.agg (node_le (snapN n m) ?_)
      rw [show (snapN n m).log = restF n m from rfl, hrl]
      exact Le.nil _
  · intro hgt
    (repeat (first | apply cn | apply cq | apply cb | apply ck | apply cl | apply cx))
    refine ca [0, 1, 2, 3, 4] [3] ?_
    refine a_loa ?_
    refine a_loa ?_
    refine a_ (fun _ => p_bs) ?_
    refine a_st ?_
    refine a_ (fun _ => p_as) ?_
    apply an
    (repeat (first | apply cn | apply cq | apply cb | apply ck | apply cl | apply cx))
    (apply sim_ret; (try simp only [blockΨ_ret, thenΨ_ret, loopL_ret, cutΨ_ret, cutE_ret]); first | refine rt ?_ | refine rn ?_)
    have hgt' : ¬ n.commit < m.index := hgt
    rw [snapF, if_neg hlt, if_neg hgt']
    exact tup_one (n := quietN n) rfl rfl rfl
end Go.Proofs.Ytppaabahbjgihaa
end
section
set_option maxRecDepth 4000
namespace Go.Proofs.Ytppaabahbjgihaa
open Go.Cap
set_option linter.unusedSimpArgs false
set_option linter.unusedVariables false
attribute [local irreducible] POp SimFrom DrawFrom EOp Sim FnH T.gp
theorem osl_at {e : TypeId} {l : List En} {p : Option Addr} {n c : Nat} {Hs : Heap} (h : OSl e 3 (l.map een) (.slice p n c) Hs) : ∃ bl, 0 < l.length → p = some ⟨bl, 0, none⟩ ∧ (bl, (⟨e, (l.map een).flatMap T.cells, c * 3⟩ : Blk)) ∈ Hs := by
  rcases h with ⟨h, _⟩ | ⟨bl, c', e, _, rfl⟩
  · have : l = [] := by simpa using h
    exact ⟨0, fun h => by rw [this] at h; simp at h⟩
  · cases e; exact ⟨bl, fun _ => ⟨rfl, List.mem_singleton.2 rfl⟩⟩
theorem osl_sub0 {e : TypeId} {l : List En} {p : Option Addr} {n c : Nat} {Hs : Heap} (h : OSl e 3 (l.map een) (.slice p n c) Hs) (j : Nat) : subV 3 p c 0 j = .slice p j c := by
  rcases h with ⟨_, ⟨q, e⟩, _⟩ | ⟨bl, c', e, _, _⟩
  · cases e; cases p <;> rfl
  · cases e
    unfold subV
    by_cases hc : c = 0 <;> simp [hc, Addr.add_mk]
set_option maxHeartbeats 8000000 in
theorem radd_fn {n : Nd} (m : Ms) (hn : Rd n) (hl : n.log.length + m.entries.length ≤ 100000000) (hi0 : -50000000000 ≤ m.index) (hi1 : m.index ≤ 50000000000) : FnP Try.prog 77 [nd n, ms m] (fun r => r = .tup [nd (addF n m).1, mss (addF n m).2]) := by
  have hsz := hn.sz
  have hb0 := hn.b0
  have hc0 := hn.c0
  have hla : lastF n = n.base + n.log.length := rfl
  have fL := rLast_fn (quietN n) (show n.log.length ≤ _ from hsz.1) (show _ ≤ n.base by omega) (show n.base ≤ _ by omega)
  have fT := termAt_fn (quietN n) m.index (show n.log.length ≤ _ from hsz.1) (by simp only [big]; show _ ≤ n.base; omega) (by simp only [big]; show n.base ≤ _; omega) (by simp only [big]; omega) (by simp only [big]; omega)
  refine fn_enter Try.func77 (by rfl) (by rfl) ?_
  intro S0 w0
  show Sim _ _ [(0, T.agg (nodeC n (.sl false (n.log.map een)))), (1, T.agg (msC m (eens m.entries)))] _ _
  (repeat (first | apply cn | apply cq | apply cb | apply ck | apply cl | apply cx))
  apply cr
  refine e_bx fun b2 _ => ?_
  refine e_bx fun b3 _ => ?_
  refine e_al fun b4 _ => ?_
  refine s_ p_as ?_
  (repeat (first | apply cn | apply cq | apply cb | apply ck | apply cl | apply cx))
  refine sim_perm (List.Perm.swap _ _ _) ?_
  refine lend1 3 (by simp [msC]) ?_
  (repeat (first | apply cn | apply cq | apply cb | apply ck | apply cl | apply cx))
  apply cr
  refine s_ p_fr ?_
  refine s_ p_lo ?_
  refine s_ p_fa ?_
  refine s_ p_ld ?_
  refine s_ p_fr ?_
  refine s_ p_lo ?_
  refine s_ (p_bd 11 [_, _, _, _, _, _, _, _, _, _, _]) ?_
  refine e_al fun b6 _ => ?_
  refine e_st ?_
  (repeat (first | apply cn | apply cq | apply cb | apply ck | apply cl | apply cx))
  apply cr
  refine s_ p_fa ?_
  refine s_ p_ld ?_
  refine s_ p_fr ?_
  refine s_ p_lo ?_
  refine s_ p_lt ?_
  (repeat (first | apply cn | apply cq | apply cb | apply ck | apply cl | apply cx))
  refine ci ?_ ?_
  · intro hlt
    (repeat (first | apply cn | apply cq | apply cb | apply ck | apply cl | apply cx))
    refine ca [0, 1, 2, 3, 4] [3] ?_
    refine a_loa ?_
    refine a_loa ?_
    refine a_ (fun _ => p_bs) ?_
    refine a_st ?_
    refine a_ (fun _ => p_as) ?_
    apply an
    (repeat (first | apply cn | apply cq | apply cb | apply ck | apply cl | apply cx))
    (apply sim_ret; (try simp only [blockΨ_ret, thenΨ_ret, loopL_ret, cutΨ_ret, cutE_ret]); first | refine rt ?_ | refine rn ?_)
    rw [addF, if_pos hlt]
    exact tup_one (n := n) rfl rfl rfl
  intro hlt
  (repeat (first | apply cn | apply cq | apply cb | apply ck | apply cl | apply cx))
  apply cr
  refine s_ p_fr ?_
  refine e_st ?_
  refine s_ p_fr ?_
  refine e_st ?_
  (repeat (first | apply cn | apply cq | apply cb | apply ck | apply cl | apply cx))
  apply cr
  refine s_ p_fa ?_
  refine s_ p_ld ?_
  refine s_ p_fr ?_
  refine s_ p_lo ?_
  refine s_ p_lt ?_
  (repeat (first | apply cn | apply cq | apply cb | apply ck | apply cl | apply cx))
  refine ci ?_ ?_
  · intro hlo
    (repeat (first | apply cn | apply cq | apply cb | apply ck | apply cl | apply cx))
    refine ca [0, 1, 2, 3, 4, 5] [3, 5] ?_
    refine a_ (fun _ => p_fr) ?_
    refine a_lo ?_
    refine a_ (fun _ => p_fr) ?_
    refine a_st ?_
    refine a_ (fun _ => p_fr) ?_
    refine a_st ?_
    apply an
    (repeat (first | apply cn | apply cq | apply cb | apply ck | apply cl | apply cx))
    refine ca [0, 1, 2, 3, 4] [3] ?_
    refine a_loa ?_
    refine a_loa ?_
    refine a_ (fun _ => p_bs) ?_
    refine a_st ?_
    refine a_ (fun _ => p_as) ?_
    apply an
    (repeat (first | apply cn | apply cq | apply cb | apply ck | apply cl | apply cx))
    (apply sim_ret; (try simp only [blockΨ_ret, thenΨ_ret, loopL_ret, cutΨ_ret, cutE_ret]); first | refine rt ?_ | refine rn ?_)
    have hlo' : m.index < n.base := hlo
    rw [addF, if_neg hlt, if_pos hlo']
    exact tup_one (n := quietN n) rfl rfl rfl
  intro hlo
  have hlo' : ¬ m.index < n.base := hlo
  have hcond : (lastF n < m.index ∨ ¬ termAtF (quietN n) m.index = m.logTerm) ↔ (lastF n < m.index ∨ ¬ termF n m.index = m.logTerm) := by
    by_cases h : lastF n < m.index
    · exact ⟨fun _ => .inl h, fun _ => .inl h⟩
    · rw [show termAtF (quietN n) m.index = termAtF n m.index from rfl, termAt_eq (by omega) (by omega)]
  (repeat (first | apply cn | apply cq | apply cb | apply ck | apply cl | apply cx))
  apply cr
  refine s_ p_loa ?_
  refine s_ (p_ca (fL)) ?_
  refine s_ p_mv ?_
  refine s_ p_ex ?_
  refine s_ p_ex ?_
  refine s_ p_as ?_
  refine s_ p_as ?_
  (repeat (first | apply cn | apply cq | apply cb | apply ck | apply cl | apply cx))
  refine ca [0, 1, 2, 3, 4, 5, 6, 7, 8, 9, 10, 11, 12] [] ?_
  refine a_ (fun _ => p_fa) ?_
  refine a_ (fun _ => p_ld) ?_
  refine a_ (fun _ => p_mv) ?_
  refine a_ (fun _ => p_gt) ?_
  refine a_ (fun _ => p_mv) ?_
  refine ag_loaF ?_
  refine ag_F (fun _ hg => p_fa) ?_
  refine ag_F (fun _ hg => p_ld (hx := u_ hg)) ?_
  refine ag_F (fun _ hg => p_ca (fT) (ha' := by apply evl_cons (u_ hg); apply evl_cons (u_ hg); exact evl_nil)) ?_
  refine ag_F (fun _ hg => p_fa) ?_
  refine ag_F (fun _ hg => p_ld (hx := u_ hg)) ?_
  refine ag_F (fun _ hg => p_ne (hx := u_ hg) (hy := u_ hg)) ?_
  refine a_ (fun _ => p_or) ?_
  apply an
  (repeat (first | apply cn | apply cq | apply cb | apply ck | apply cl | apply cx))
  refine ci ?_ ?_
  · intro hno
    have hno' := hcond.1 hno
    (repeat (first | apply cn | apply cq | apply cb | apply ck | apply cl | apply cx))
    apply cr
    refine s_ p_mv ?_
    refine s_ p_fa ?_
    refine s_ p_ld ?_
    refine s_ p_su ?_
    refine s_ p_mi ?_
    refine s_ p_fr ?_
    refine e_st ?_
    (repeat (first | apply cn | apply cq | apply cb | apply ck | apply cl | apply cx))
    refine ca [0, 1, 2, 3, 4] [3] ?_
    refine a_loa ?_
    refine a_loa ?_
    refine a_ (fun _ => p_bs) ?_
    refine a_st ?_
    refine a_ (fun _ => p_as) ?_
    apply an
    (repeat (first | apply cn | apply cq | apply cb | apply ck | apply cl | apply cx))
    (apply sim_ret; (try simp only [blockΨ_ret, thenΨ_ret, loopL_ret, cutΨ_ret, cutE_ret]); first | refine rt ?_ | refine rn ?_)
    rw [addF, if_neg hlt, if_neg hlo', if_pos hno']
    exact tup_one (n := quietN n) rfl rfl rfl
  intro hno
  have hno' := fun h => hno (hcond.2 h)
  obtain ⟨a, ha⟩ : ∃ a : Nat, m.index - n.base = (a : Nat) := ⟨(m.index - n.base).toNat, by omega⟩
  (repeat (first | apply cn | apply cq | apply cb | apply ck | apply cl | apply cx))
  refine sim_cutE (σ := Value × Heap) (ok := fun s => ∃ Hl, OSl rE 3 (n.log.map een) s.1 Hl ∧ s.2 = Hl ++ [(b6, ⟨rM, msC ⟨4, n.id, m.frm, n.term, 0, 0, 0, 0, false, [], []⟩ (.v (.slice none 0 0)), 11⟩), (b4, ⟨rN, nodeC zeroN (.v (.slice none 0 0)), 22⟩), (b2, ⟨rN, nodeC (quietN n) (.sl false (n.log.map een)), 22⟩)])
    (env := fun s => [(9, .v s.1), (6, pN b6), (5, .v (.slice none 0 0)), (4, pN b4), (3, .adr (.agg (msC m (eens m.entries)))), (2, pN b2)]) (heap := fun s => s.2) ?_ ?_
  · by_cases hz : n.log = []
    · (repeat (first | apply cn | apply cq | apply cb | apply ck | apply cl | apply cx))
      apply cr
      refine s_ p_bs ?_
      refine s_ p_fr ?_
      refine s_ p_lo ?_
      refine s_ (p_ap0 (hyl := Le.of_eq (by rw [hz]; rfl))) ?_
      refine from_name 71 fun q c' _ h2 => ?_
      have := h2 rfl
      subst this
      refine s_ p_as ?_
      (repeat (first | apply cn | apply cq | apply cb | apply ck | apply cl | apply cx))
      exact ⟨(.slice q 0 0, _), ⟨[], by rw [hz]; exact osl_nil', rfl⟩, eL, kR⟩
    · have hzl : 0 < n.log.length := List.length_pos_iff.2 hz
      (repeat (first | apply cn | apply cq | apply cb | apply ck | apply cl | apply cx))
      apply cr
      refine s_ p_bs ?_
      refine s_ p_fr ?_
      refine s_ p_lo ?_
      refine e_on (e := rE) (k := 3) (fun v' Hl h1 => ?_)
      refine s_ p_as ?_
      (repeat (first | apply cn | apply cq | apply cb | apply ck | apply cl | apply cx))
      exact ⟨(_, _), ⟨Hl, by simpa using h1, rfl⟩, eL, kR⟩
  rintro ⟨v0, H0⟩ ⟨Hl0, h0, hH0⟩
  simp only at h0 hH0
  subst hH0
  have hlay : ∀ i k : Nat, k = a + i → i < m.entries.length → layK n m (i + 1) = if k < (layK n m i).length ∧ ((layK n m i).getD k default).term = (m.entries.getD i default).term then layK n m i else (layK n m i).take k ++ [m.entries.getD i default] := by
    intro i k hk hi
    have e : m.index - n.base + (i : Nat) = (k : Int) := by omega
    rw [layK, e, Int.toNat_natCast]
    by_cases h : k < (layK n m i).length ∧ ((layK n m i).getD k default).term = (m.entries.getD i default).term
    · rw [if_pos h, if_pos ⟨by omega, h.2⟩]
    · rw [if_neg h, if_neg (fun h' => h ⟨by have := h'.1; omega, h'.2⟩)]
      congr 1
      rcases Nat.le_total k (layK n m i).length with h1 | h1
      · rw [show (min (k : Int) ((layK n m i).length : Nat)).toNat = k by omega]
      · rw [show (min (k : Int) ((layK n m i).length : Nat)).toNat = (layK n m i).length by omega, List.take_length, List.take_of_length_le h1]
  (repeat (first | apply cn | apply cq | apply cb | apply ck | apply cl | apply cx))
  apply cr
  refine s_ p_as ?_
  (repeat (first | apply cn | apply cq | apply cb | apply ck | apply cl | apply cx))
  apply sim_loopL (σ := Nat × Value × Heap) (ok := fun s => s.1 ≤ m.entries.length ∧ ∃ Hl, OSl rE 3 ((layK n m s.1).map een) s.2.1 Hl ∧ s.2.2 = Hl ++ [(b6, ⟨rM, msC ⟨4, n.id, m.frm, n.term, 0, 0, 0, 0, false, [], []⟩ (.v (.slice none 0 0)), 11⟩), (b4, ⟨rN, nodeC zeroN (.v (.slice none 0 0)), 22⟩), (b2, ⟨rN, nodeC (quietN n) (.sl false (n.log.map een)), 22⟩)])
    (env := fun s => [(10, ei (s.1 : Nat)), (9, .v s.2.1), (6, pN b6), (5, .v (.slice none 0 0)), (4, pN b4), (3, .adr (.agg (msC m (eens m.entries)))), (2, pN b2)]) (heap := fun s => s.2.2) (μ := fun s => m.entries.length - s.1) (s0 := (0, v0, _))
  · exact ⟨Nat.zero_le _, Hl0, h0, rfl⟩
  · exact eL
  · exact kR
  clear h0
  rintro ⟨i, v, H⟩ ⟨hi, Hl, h1, hH⟩
  simp only at hi h1 hH
  subst hH
  obtain ⟨p, c, rfl⟩ := OSl.len h1
  have hlk := layK_len n m i
  (repeat (first | apply cn | apply cq | apply cb | apply ck | apply cl | apply cx))
  apply cr
  refine s_ p_mv ?_
  refine s_ p_fa ?_
  refine s_ p_ld ?_
  (first | refine s_ p_ln ?_ | refine s_ p_lr ?_)
  refine s_ p_lt ?_
  (repeat (first | apply cn | apply cq | apply cb | apply ck | apply cl | apply cx))
  refine ci ?_ ?_
  · intro hlt2
    simp only [List.length_map] at hlt2
    have hix : i < m.entries.length := by omega
    have hge : m.entries.getD i default = m.entries[i] := by simp [hix]
    have hqb : (quietN n).base = n.base := rfl
    (repeat (first | apply cn | apply cq | apply cb | apply ck | apply cl | apply cx))
    apply cr
    refine s_ p_fa ?_
    refine s_ p_ld ?_
    refine s_ p_fr ?_
    refine s_ p_lo ?_
    refine s_ p_su ?_
    refine s_ p_mv ?_
    refine s_ p_ad ?_
    refine s_ p_as ?_
    (repeat (first | apply cn | apply cq | apply cb | apply ck | apply cl | apply cx))
    rw [hqb]
    have hk : m.index - n.base + (i : Nat) = ((a + i : Nat) : Int) := by omega
    rw [hk]
    obtain ⟨bl, hbl⟩ := osl_at h1
    have hstep := hlay i (a + i) rfl hix
    rw [hge] at hstep
    generalize hkk : a + i = k at hstep
    have hkl : (k : Int) < (((layK n m i).map een).length : Nat) → k < (layK n m i).length := fun h => by rw [List.length_map] at h; omega
    (repeat (first | apply cn | apply cq | apply cb | apply ck | apply cl | apply cx))
    refine ca [0, 1, 2, 3, 4, 5, 6, 7, 8, 9, 10, 11, 12, 13, 14, 15, 16, 17] [] ?_
    refine a_ (fun _ => p_mv) ?_
    refine a_ (fun _ => p_mv) ?_
    (first | refine a_ (fun _ => p_ln) ?_ | refine a_ (fun _ => p_lr) ?_)
    refine a_ (fun _ => p_lt) ?_
    refine a_ (fun _ => p_mv) ?_
    refine ag_T (fun _ hg => p_mv) ?_
    refine ag_T (fun _ hg => p_mv) ?_
    refine ag_T (p := (k : Int) < (((layK n m i).map een).length : Nat)) (fun _ hg => p_irG (hbl (by have := hkl hg; omega)).1 (hx := u_ hg) (hy := u_ hg)) ?_
    (first | refine ag_T (fun _ hg => p_fa (hx := u_ hg)) ?_ | refine ag_T (fun _ hg => p_fr (hx := u_ hg)) ?_)
    refine ag_loTc (p := (k : Int) < (((layK n m i).map een).length : Nat)) (b := bl) (fun hg => List.mem_append_left _ (hbl (by have := hkl hg; omega)).2) (fun hg => flat_at (k := 3) (j := 0) (een3 _) (een_get _ (hkl hg)) (by decide) rfl) ?_
    refine ag_T (fun _ hg => p_fa) ?_
    refine ag_T (fun _ hg => p_ld (hx := u_ hg)) ?_
    refine ag_T (fun _ hg => p_mv) ?_
    (first | refine ag_T (fun _ hg => p_ix hix (hx := u_ hg) (hy := u_ hg)) ?_ | refine ag_T (fun _ hg => p_ix hix2 (hx := u_ hg) (hy := u_ hg)) ?_ | refine ag_T (fun _ hg => p_ia (hx := u_ hg) (hy := u_ hg)) ?_ | refine ag_T (fun _ hg => p_ir (hx := u_ hg) (hy := u_ hg)) ?_)
    (first | refine ag_T (fun _ hg => p_fa (hx := u_ hg)) ?_ | refine ag_T (fun _ hg => p_fr (hx := u_ hg)) ?_)
    (first | refine ag_T (fun _ hg => p_ld (hx := u_ hg)) ?_ | refine ag_loT ?_)
    refine ag_T (fun _ hg => p_ne (hx := u_ hg) (hy := u_ hg)) ?_
    refine a_ (fun _ => p_an) ?_
    apply an
    (repeat (first | apply cn | apply cq | apply cb | apply ck | apply cl | apply cx))
    refine ci ?_ ?_
    · intro hc
      have hkl' := hkl hc.1
      have hs : layK n m (i + 1) = (layK n m i).take k ++ [m.entries[i]] := by
        rw [hstep, if_neg fun h => hc.2 h.2]
      have hcap : ((layK n m i).map een).length ≤ c := OSl.cap h1
      (repeat (first | apply cn | apply cq | apply cb | apply ck | apply cl | apply cx))
      apply cr
      refine s_ p_mv ?_
      refine s_ p_mv ?_
      refine s_ (p_sbh (v := .slice p k c) hcap (by rw [Int.toNat_natCast]; exact osl_sub0 h1 _)) ?_
      refine s_ p_as ?_
      (repeat (first | apply cn | apply cq | apply cb | apply ck | apply cl | apply cx))
      apply cr
      refine s_ p_mv ?_
      refine s_ p_mv ?_
      (first | refine s_ p_ln ?_ | refine s_ p_lr ?_)
      refine s_ p_ge ?_
      (repeat (first | apply cn | apply cq | apply cb | apply ck | apply cl | apply cx))
      refine ci ?_ (fun h => absurd (Int.le_refl _) h)
      intro _
      (repeat (first | apply cn | apply cq | apply cb | apply ck | apply cl | apply cx))
      apply cr
      refine s_ p_mv ?_
      refine s_ p_fa ?_
      refine s_ p_ld ?_
      refine s_ p_mv ?_
      (first | refine s_ (p_ix hix) ?_ | refine s_ (p_ix hix2) ?_ | refine s_ p_ia ?_ | refine s_ p_ir ?_)
      (first | refine s_ p_la ?_ | refine s_ p_loa ?_)
      refine s_ p_bs ?_
      refine e_osT (ho := h1) (A := []) (B := [_, _, _]) (ys := [een m.entries[i]]) (een3 _) k (fun v' Hl' h1' => ?_) (hx := ?_)
      · have h1 : OSl rE 3 ((layK n m (i + 1)).map een) v' Hl' := by rw [hs, List.map_append, List.map_take]; exact h1'
        clear h1'
        obtain ⟨p, c, rfl⟩ := OSl.len h1
        refine s_ p_as ?_
        (repeat (first | apply cn | apply cq | apply cb | apply ck | apply cl | apply cx))
        apply cr
        refine s_ p_mv ?_
        refine s_ p_ad ?_
        refine s_ p_as ?_
        (repeat (first | apply cn | apply cq | apply cb | apply ck | apply cl | apply cx))
        exact ⟨(i + 1, _, _), ⟨hix, Hl', h1, rfl⟩, by show m.entries.length - (i + 1) < m.entries.length - i; omega, ⟨le_get (by rfl) (Le.refl _), le_get (by ((repeat (apply gS; rfl)); exact gZ)) (Le.refl _), eL⟩, kR⟩
      · refine Eq.trans (by first | ((repeat (apply eS; rfl)); exact eZ) | exact ev_int | exact ev_bool | exact ev_nil | exact ev_str | exact ev_ptr | exact ev_agg | exact ev_map | exact ev_nilf | exact ev_nili | exact ev_func) ?_
        have e : min k ((layK n m i).map een).length = k := by rw [List.length_map]; omega
        rw [e]
    · intro hc
      (repeat (first | apply cn | apply cq | apply cb | apply ck | apply cl | apply cx))
      apply cr
      refine s_ p_mv ?_
      refine s_ p_mv ?_
      (first | refine s_ p_ln ?_ | refine s_ p_lr ?_)
      refine s_ p_ge ?_
      (repeat (first | apply cn | apply cq | apply cb | apply ck | apply cl | apply cx))
      refine ci ?_ ?_
      · intro hge2
        have hge3 : (layK n m i).length ≤ k := by
          have h : (((layK n m i).map een).length : Int) ≤ k := hge2
          rw [List.length_map] at h; omega
        have hs : layK n m (i + 1) = layK n m i ++ [m.entries[i]] := by
          rw [hstep, if_neg fun h => absurd h.1 (by omega), List.take_of_length_le hge3]
        (repeat (first | apply cn | apply cq | apply cb | apply ck | apply cl | apply cx))
        apply cr
        refine s_ p_mv ?_
        refine s_ p_fa ?_
        refine s_ p_ld ?_
        refine s_ p_mv ?_
        (first | refine s_ (p_ix hix) ?_ | refine s_ (p_ix hix2) ?_ | refine s_ p_ia ?_ | refine s_ p_ir ?_)
        (first | refine s_ p_la ?_ | refine s_ p_loa ?_)
        refine s_ p_bs ?_
        refine e_os (ho := h1) (A := []) (B := [_, _, _]) (een3 _) (fun v' Hl' h1' => ?_)
        have h1 : OSl rE 3 ((layK n m (i + 1)).map een) v' Hl' := by rw [hs, List.map_append]; exact h1'
        clear h1'
        obtain ⟨p, c, rfl⟩ := OSl.len h1
        refine s_ p_as ?_
        (repeat (first | apply cn | apply cq | apply cb | apply ck | apply cl | apply cx))
        apply cr
        refine s_ p_mv ?_
        refine s_ p_ad ?_
        refine s_ p_as ?_
        (repeat (first | apply cn | apply cq | apply cb | apply ck | apply cl | apply cx))
        exact ⟨(i + 1, _, _), ⟨hix, Hl', h1, rfl⟩, by show m.entries.length - (i + 1) < m.entries.length - i; omega, ⟨le_get (by rfl) (Le.refl _), le_get (by ((repeat (apply gS; rfl)); exact gZ)) (Le.refl _), eL⟩, kR⟩
      · intro hge2
        have hlt3 : (k : Int) < (((layK n m i).map een).length : Nat) := Int.not_le.1 hge2
        have hs : layK n m (i + 1) = layK n m i := by
          rw [hstep, if_pos ⟨hkl hlt3, Classical.byContradiction fun h => hc ⟨hlt3, h⟩⟩]
        (repeat (first | apply cn | apply cq | apply cb | apply ck | apply cl | apply cx))
        apply cr
        refine s_ p_mv ?_
        refine s_ p_ad ?_
        refine s_ p_as ?_
        (repeat (first | apply cn | apply cq | apply cb | apply ck | apply cl | apply cx))
        exact ⟨(i + 1, .slice p ((layK n m i).map een).length c, _), ⟨hix, Hl, by simp only; rw [hs]; exact h1, rfl⟩, by show m.entries.length - (i + 1) < m.entries.length - i; omega, ⟨le_get (by rfl) (Le.refl _), eL⟩, kR⟩
  · intro hlt2
    simp only [List.length_map] at hlt2
    have : i = m.entries.length := by omega
    subst this
    have hel : ((m.entries.map een).length : Int) = (m.entries.length : Int) := by simp
    (repeat (first | apply cn | apply cq | apply cb | apply ck | apply cl | apply cx))
    refine lendG (G := Hl) (H1 := [(b6, _), (b4, _), (b2, _)]) 9 (eens (layK n m m.entries.length)) (OSl.lend h1 (fun _ h => h) (een3 _) (een_ok _)) (List.Perm.refl _) ?_
    (repeat (first | apply cn | apply cq | apply cb | apply ck | apply cl | apply cx))
    apply cr
    refine s_ p_mv ?_
    refine s_ p_fr ?_
    refine e_st ?_
    (repeat (first | apply cn | apply cq | apply cb | apply ck | apply cl | apply cx))
    apply cr
    refine s_ p_fr ?_
    refine s_ p_lo ?_
    refine s_ p_fa ?_
    refine s_ p_ld ?_
    refine s_ p_fa ?_
    refine s_ p_ld ?_
    refine s_ p_fa ?_
    refine s_ p_ld ?_
    (first | refine s_ p_ln ?_ | refine s_ p_lr ?_)
    refine s_ p_ad ?_
    refine s_ p_mi ?_
    refine s_ p_ma ?_
    refine s_ p_fr ?_
    refine e_st ?_
    (repeat (first | apply cn | apply cq | apply cb | apply ck | apply cl | apply cx))
    refine ca [0, 1, 2, 3, 4, 5, 6, 7, 8, 9] [7, 9] ?_
    refine a_ (fun _ => p_fa) ?_
    refine a_ (fun _ => p_ld) ?_
    refine a_ (fun _ => p_fa) ?_
    refine a_ (fun _ => p_ld) ?_
    (first | refine a_ (fun _ => p_ln) ?_ | refine a_ (fun _ => p_lr) ?_)
    refine a_ (fun _ => p_ad) ?_
    refine a_ (fun _ => p_fr) ?_
    refine a_st ?_
    refine a_ (fun _ => p_fr) ?_
    refine a_st ?_
    apply an
    (repeat (first | apply cn | apply cq | apply cb | apply ck | apply cl | apply cx))
    refine ca [0, 1, 2, 3, 4] [3] ?_
    refine a_loa ?_
    refine a_loa ?_
    refine a_ (fun _ => p_bs) ?_
    refine a_st ?_
    refine a_ (fun _ => p_as) ?_
    apply an
    (repeat (first | apply cn | apply cq | apply cb | apply ck | apply cl | apply cx))
    (apply sim_ret; (try simp only [blockΨ_ret, thenΨ_ret, loopL_ret, cutΨ_ret, cutE_ret]); first | refine rt ?_ | refine rn ?_)
    rw [addF, if_neg hlt, if_neg hlo', if_neg hno']
    rw [hel]
    exact tup_le (Le.refl _) rfl rfl
end Go.Proofs.Ytppaabahbjgihaa
end
section
set_option maxRecDepth 4000
namespace Go.Proofs.Ytppaabahbjgihaa
open Go.Cap
set_option linter.unusedSimpArgs false
set_option linter.unusedVariables false
attribute [local irreducible] POp SimFrom DrawFrom EOp Sim FnH T.gp
theorem Rd.up {n : Nd} (m : Ms) (h : Rd n) : Rd (upN n m) := by
  obtain ⟨_, _, _, _, e, _⟩ := upN_eq n m
  rw [e]; exact h.of
set_option maxHeartbeats 8000000 in
theorem rTake_fn {n : Nd} {m : Ms} (hn : Rd n) (hN : NBd n) (hM : badF n m ∨ (MBd n m ∧ (m.kind = 5 → 0 ≤ m.logTerm))) : FnP Try.prog 52 [nd n, ms m] (fun r => r = .tup [nd (takeF n m).1, mss (takeF n m).2]) := by
  refine fn_enter Try.func52 (by rfl) (by rfl) ?_
  intro S0 w0
  show Sim _ _ [(0, T.agg (nodeC n (.sl false (n.log.map een)))), (1, T.agg (msC m (eens m.entries)))] _ _
  (repeat (first | apply cn | apply cq | apply cb | apply ck | apply cl | apply cx))
  apply cr
  refine e_bx fun b2 _ => ?_
  refine e_bx fun b3 _ => ?_
  refine e_al fun b4 _ => ?_
  refine s_ p_as ?_
  (repeat (first | apply cn | apply cq | apply cb | apply ck | apply cl | apply cx))
  refine sim_perm (List.Perm.swap _ _ _) ?_
  refine lend1 3 (by simp [msC]) ?_
  (repeat (first | apply cn | apply cq | apply cb | apply ck | apply cl | apply cx))
  apply cr
  refine s_ p_fa ?_
  refine s_ p_ld ?_
  refine s_ p_lt ?_
  refine s_ p_mv ?_
  refine gF (fun hg => p_fa) ?_
  refine gF (fun hg => p_ld (hx := u_ hg)) ?_
  refine gF (fun hg => p_ge (hx := u_ hg)) ?_
  refine s_ p_or ?_
  refine s_ p_mv ?_
  refine gF (fun hg => p_fa) ?_
  refine gF (fun hg => p_ld (hx := u_ hg)) ?_
  refine gF (fun hg => p_fr) ?_
  refine gF (fun hg => p_lo (hx := u_ hg)) ?_
  refine gF (fun hg => p_eq (hx := u_ hg) (hy := u_ hg)) ?_
  refine s_ p_or ?_
  refine s_ p_mv ?_
  refine gF (fun hg => p_fa) ?_
  refine gF (fun hg => p_ld (hx := u_ hg)) ?_
  refine gF (fun hg => p_fr) ?_
  refine gF (fun hg => p_lo (hx := u_ hg)) ?_
  refine gF (fun hg => p_ne (hx := u_ hg) (hy := u_ hg)) ?_
  refine s_ p_or ?_
  refine s_ p_mv ?_
  refine gF (fun hg => p_fa) ?_
  refine gF (fun hg => p_ld (hx := u_ hg)) ?_
  refine gF (fun hg => p_lt (hx := u_ hg)) ?_
  refine s_ p_or ?_
  refine s_ p_mv ?_
  refine gF (fun hg => p_fa) ?_
  refine gF (fun hg => p_ld (hx := u_ hg)) ?_
  refine gF (fun hg => p_gt (hx := u_ hg)) ?_
  refine s_ p_or ?_
  refine s_ p_mv ?_
  refine gF (fun hg => p_fa) ?_
  refine gF (fun hg => p_ld (hx := u_ hg)) ?_
  refine gF (fun hg => p_lt (hx := u_ hg)) ?_
  refine s_ p_or ?_
  refine s_ p_mv ?_
  refine gF (fun hg => p_fa) ?_
  refine gF (fun hg => p_ld (hx := u_ hg)) ?_
  refine gF (fun hg => p_gt (hx := u_ hg)) ?_
  refine s_ p_or ?_
  (repeat (first | apply cn | apply cq | apply cb | apply ck | apply cl | apply cx))
  have hbi : (((((((m.frm < 0 ∨ 5 ≤ m.frm) ∨ m.frm = n.id) ∨ ¬ m.to = n.id) ∨ m.kind < 1) ∨ 5 < m.kind) ∨ m.term < 0) ∨ 1073741824 < m.term) ↔ badF n m := by
    unfold badF; simp only [or_assoc]
  refine ci ?_ ?_
  · intro hb
    have hbad := hbi.1 hb
    (repeat (first | apply cn | apply cq | apply cb | apply ck | apply cl | apply cx))
    apply cr
    refine s_ p_loa ?_
    refine e_st ?_
    refine s_ p_as ?_
    (repeat (first | apply cn | apply cq | apply cb | apply ck | apply cl | apply cx))
    (apply sim_ret; (try simp only [blockΨ_ret, thenΨ_ret, loopL_ret, cutΨ_ret, cutE_ret]); first | refine rt ?_ | refine rn ?_)
    rw [takeF, if_pos hbad]
    exact tup_none rfl
  intro hb
  have hbad : ¬ badF n m := fun h => hb (hbi.2 h)
  obtain ⟨hM, hlt⟩ := hM.resolve_left hbad
  have hbb : ¬ ((m.frm < 0 ∨ 5 ≤ m.frm) ∨ (m.kind < 1 ∨ 5 < m.kind)) := fun h => hbad (by
    unfold badF
    rcases h with h | h
    · exact .inl (.inl (.inl h))
    · exact .inr (.inl (.inl h)))
  have hfr : 0 ≤ m.frm ∧ m.frm < 5 := by omega
  have hk15 : 1 ≤ m.kind ∧ m.kind ≤ 5 := by omega
  have hu := hn.up m
  have hNu := hN.up m
  have hMu := hM.up
  have hlu := hNu.log
  have hle := hMu.es
  have hi0 := hM.i0
  have hi1 := hM.i1
  have hx0 := hNu.x0 m.frm.toNat
  have hx1 := hNu.x1 m.frm.toNat
  have hm0 := hNu.m0 m.frm.toNat
  have hm1 := hNu.m1 m.frm.toNat
  (repeat (first | apply cn | apply cq | apply cb | apply ck | apply cl | apply cx))
  apply cr
  refine s_ p_fa ?_
  refine s_ p_ld ?_
  refine s_ p_fr ?_
  refine s_ p_lo ?_
  refine s_ p_gt ?_
  (repeat (first | apply cn | apply cq | apply cb | apply ck | apply cl | apply cx))
  show Sim _ _ _ _ (thenΨ _ _ _)
  refine sim_cut [(5, .v (.slice none 0 0)), (4, pN b4), (3, .adr (.agg (msC m (eens m.entries)))), (2, pN b2)] [(b4, ⟨rN, nodeC zeroN (.v (.slice none 0 0)), 22⟩), (b2, ⟨rN, nodeC (upN n m) (.sl false (n.log.map een)), 22⟩)] ?_ ?_
  · refine ci ?_ ?_
    · intro hgt
      (repeat (first | apply cn | apply cq | apply cb | apply ck | apply cl | apply cx))
      apply cr
      refine s_ p_fa ?_
      refine s_ p_ld ?_
      refine s_ p_fr ?_
      refine e_st ?_
      refine s_ p_fr ?_
      refine e_st ?_
      refine s_ p_fr ?_
      refine e_st ?_
      refine s_ p_fr ?_
      refine e_st ?_
      (repeat (first | apply cn | apply cq | apply cb | apply ck | apply cl | apply cx))
      have hgt' : n.term < m.term := hgt
      have e : upN n m = { n with term := m.term, vote := -1, role := 0, votes := 0 } := by rw [upN, if_pos hgt']
      rw [e]
      exact ⟨eL, kR⟩
    · intro hgt
      (repeat (first | apply cn | apply cq | apply cb | apply ck | apply cl | apply cx))
      have hgt' : ¬ n.term < m.term := hgt
      have e : upN n m = n := by rw [upN, if_neg hgt']
      rw [e]
      exact ⟨eL, kR⟩
  have hlog : n.log = (upN n m).log := by
    obtain ⟨_, _, _, _, e, _⟩ := upN_eq n m
    rw [e]
  rw [hlog]
  (repeat (first | apply cn | apply cq | apply cb | apply ck | apply cl | apply cx))
  apply cr
  refine s_ p_fa ?_
  refine s_ p_ld ?_
  (repeat (first | apply cn | apply cq | apply cb | apply ck | apply cl | apply cx))
  apply cr
  refine s_ p_eq ?_
  refine s_ p_as ?_
  (repeat (first | apply cn | apply cq | apply cb | apply ck | apply cl | apply cx))
  refine ci ?_ ?_
  · intro hk1
    have hk1' : m.kind = 1 := hk1
    have f1 := rvote_fn (n := upN n m) m hu
    (repeat (first | apply cn | apply cq | apply cb | apply ck | apply cl | apply cx))
    apply cr
    refine s_ p_loa ?_
    refine s_ p_la ?_
    refine s_ (p_ca (f1)) ?_
    refine s_ p_ex ?_
    refine s_ p_ex ?_
    refine e_st ?_
    refine s_ p_as ?_
    (repeat (first | apply cn | apply cq | apply cb | apply ck | apply cl | apply cx))
    (apply sim_ret; (try simp only [blockΨ_ret, thenΨ_ret, loopL_ret, cutΨ_ret, cutE_ret]); first | refine rt ?_ | refine rn ?_)
    rw [takeF, if_neg hbad, actF, if_pos hk1']
    exact Le.refl _
  intro hk1
  have hk1' : ¬ m.kind = 1 := hk1
  (repeat (first | apply cn | apply cq | apply cb | apply ck | apply cl | apply cx))
  apply cr
  refine s_ p_eq ?_
  refine s_ p_as ?_
  (repeat (first | apply cn | apply cq | apply cb | apply ck | apply cl | apply cx))
  refine ci ?_ ?_
  · intro hk2
    have hk2' : m.kind = 2 := hk2
    have f2 := rvoted_fn (n := upN n m) m hu hlu hNu.v0 hNu.v1 hfr.1 hfr.2
    (repeat (first | apply cn | apply cq | apply cb | apply ck | apply cl | apply cx))
    apply cr
    refine s_ p_loa ?_
    refine s_ p_la ?_
    refine s_ (p_ca (f2)) ?_
    refine s_ p_ex ?_
    refine s_ p_ex ?_
    refine e_st ?_
    refine s_ p_as ?_
    (repeat (first | apply cn | apply cq | apply cb | apply ck | apply cl | apply cx))
    (apply sim_ret; (try simp only [blockΨ_ret, thenΨ_ret, loopL_ret, cutΨ_ret, cutE_ret]); first | refine rt ?_ | refine rn ?_)
    rw [takeF, if_neg hbad, actF, if_neg hk1', if_pos hk2']
    exact Le.refl _
  intro hk2
  have hk2' : ¬ m.kind = 2 := hk2
  (repeat (first | apply cn | apply cq | apply cb | apply ck | apply cl | apply cx))
  apply cr
  refine s_ p_eq ?_
  refine s_ p_as ?_
  (repeat (first | apply cn | apply cq | apply cb | apply ck | apply cl | apply cx))
  refine ci ?_ ?_
  · intro hk3
    have hk3' : m.kind = 3 := hk3
    have f3 := radd_fn (n := upN n m) m hu hle hi0 hi1
    (repeat (first | apply cn | apply cq | apply cb | apply ck | apply cl | apply cx))
    apply cr
    refine s_ p_loa ?_
    refine s_ p_la ?_
    refine s_ (p_ca (f3)) ?_
    refine s_ p_ex ?_
    refine s_ p_ex ?_
    refine e_st ?_
    refine s_ p_as ?_
    (repeat (first | apply cn | apply cq | apply cb | apply ck | apply cl | apply cx))
    (apply sim_ret; (try simp only [blockΨ_ret, thenΨ_ret, loopL_ret, cutΨ_ret, cutE_ret]); first | refine rt ?_ | refine rn ?_)
    rw [takeF, if_neg hbad, actF, if_neg hk1', if_neg hk2', if_pos hk3']
    exact Le.refl _
  intro hk3
  have hk3' : ¬ m.kind = 3 := hk3
  (repeat (first | apply cn | apply cq | apply cb | apply ck | apply cl | apply cx))
  apply cr
  refine s_ p_eq ?_
  refine s_ p_as ?_
  (repeat (first | apply cn | apply cq | apply cb | apply ck | apply cl | apply cx))
  refine ci ?_ ?_
  · intro hk4
    have hk4' : m.kind = 4 := hk4
    have f4 := radded_fn (n := upN n m) m hu hfr.1 hfr.2 hx0 hx1 hm0 hm1 (by omega) (by omega)
    (repeat (first | apply cn | apply cq | apply cb | apply ck | apply cl | apply cx))
    apply cr
    refine s_ p_loa ?_
    refine s_ p_la ?_
    refine s_ (p_ca (f4)) ?_
    refine s_ p_ex ?_
    refine s_ p_ex ?_
    refine e_st ?_
    refine s_ p_as ?_
    (repeat (first | apply cn | apply cq | apply cb | apply ck | apply cl | apply cx))
    (apply sim_ret; (try simp only [blockΨ_ret, thenΨ_ret, loopL_ret, cutΨ_ret, cutE_ret]); first | refine rt ?_ | refine rn ?_)
    rw [takeF, if_neg hbad, actF, if_neg hk1', if_neg hk2', if_neg hk3', if_pos hk4']
    exact Le.refl _
  intro hk4
  have hk4' : ¬ m.kind = 4 := hk4
  have f5 := rsnap_fn (n := upN n m) m hu hi0 hi1 (hlt (by omega))
  (repeat (first | apply cn | apply cq | apply cb | apply ck | apply cl | apply cx))
  apply cr
  refine s_ p_loa ?_
  refine s_ p_la ?_
  refine s_ (p_ca (f5)) ?_
  refine s_ p_ex ?_
  refine s_ p_ex ?_
  refine e_st ?_
  refine s_ p_as ?_
  (repeat (first | apply cn | apply cq | apply cb | apply ck | apply cl | apply cx))
  (apply sim_ret; (try simp only [blockΨ_ret, thenΨ_ret, loopL_ret, cutΨ_ret, cutE_ret]); first | refine rt ?_ | refine rn ?_)
  rw [takeF, if_neg hbad, actF, if_neg hk1', if_neg hk2', if_neg hk3', if_neg hk4']
  exact Le.refl _
end Go.Proofs.Ytppaabahbjgihaa
end
section
set_option maxRecDepth 8000
namespace Go.Proofs.Ytppaabahbjgihaa
open Go.Cap
set_option linter.unusedSimpArgs false
set_option linter.unusedVariables false
attribute [local irreducible] POp SimFrom DrawFrom EOp Sim FnH T.gp
set_option maxHeartbeats 8000000 in
theorem rSame_fn (a b : Nd) (ha : a.log.length ≤ 1000000000) (hb : b.log.length ≤ 1000000000) : FnP Try.prog 58 [nd a, nd b] (fun r => r = .v (.bool (decide (a = b)))) := by
  have fE := entries_fn false false a.log b.log ha hb
  refine fn_enter Try.func58 (by rfl) (by rfl) ?_
  intro S0 w0
  show Sim _ _ [(0, T.agg (nodeC a (.sl false (a.log.map een)))), (1, T.agg (nodeC b (.sl false (b.log.map een))))] _ _
  (repeat (first | apply cn | apply cq | apply cb | apply ck | apply cl | apply cx))
  apply cr
  refine e_bx fun b2 _ => ?_
  refine e_bx fun b3 _ => ?_
  refine s_ p_as ?_
  (repeat (first | apply cn | apply cq | apply cb | apply ck | apply cl | apply cx))
  refine lend1 3 (by simp [nodeC]) ?_
  refine lend1 2 (by simp [nodeC]) ?_
  (repeat (first | apply cn | apply cq | apply cb | apply ck | apply cl | apply cx))
  apply cr
  refine s_ p_fa ?_
  refine s_ p_ld ?_
  refine s_ p_fa ?_
  refine s_ p_ld ?_
  refine s_ p_eq ?_
  refine s_ p_mv ?_
  refine gT (fun hg => p_fa) ?_
  refine gT (fun hg => p_ld (hx := u_ hg)) ?_
  refine gT (fun hg => p_fa) ?_
  refine gT (fun hg => p_ld (hx := u_ hg)) ?_
  refine gT (fun hg => p_eq (hx := u_ hg) (hy := u_ hg)) ?_
  refine s_ p_an ?_
  refine s_ p_mv ?_
  refine gT (fun hg => p_fa) ?_
  refine gT (fun hg => p_ld (hx := u_ hg)) ?_
  refine gT (fun hg => p_fa) ?_
  refine gT (fun hg => p_ld (hx := u_ hg)) ?_
  refine gT (fun hg => p_eq (hx := u_ hg) (hy := u_ hg)) ?_
  refine s_ p_an ?_
  refine s_ p_mv ?_
  refine gT (fun hg => p_fa) ?_
  refine gT (fun hg => p_ld (hx := u_ hg)) ?_
  refine gT (fun hg => p_fa) ?_
  refine gT (fun hg => p_ld (hx := u_ hg)) ?_
  refine gT (fun hg => p_eq (hx := u_ hg) (hy := u_ hg)) ?_
  refine s_ p_an ?_
  refine s_ p_mv ?_
  refine gT (fun hg => p_fa) ?_
  refine gT (fun hg => p_ld (hx := u_ hg)) ?_
  refine gT (fun hg => p_fa) ?_
  refine gT (fun hg => p_ld (hx := u_ hg)) ?_
  refine gT (fun hg => p_eq (hx := u_ hg) (hy := u_ hg)) ?_
  refine s_ p_an ?_
  refine s_ p_mv ?_
  refine gT (fun hg => p_fa) ?_
  refine gT (fun hg => p_ld (hx := u_ hg)) ?_
  refine gT (fun hg => p_fa) ?_
  refine gT (fun hg => p_ld (hx := u_ hg)) ?_
  refine gT (fun hg => p_eq (hx := u_ hg) (hy := u_ hg)) ?_
  refine s_ p_an ?_
  refine s_ p_mv ?_
  refine gT (fun hg => p_fa) ?_
  refine gT (fun hg => p_ld (hx := u_ hg)) ?_
  refine gT (fun hg => p_fa) ?_
  refine gT (fun hg => p_ld (hx := u_ hg)) ?_
  refine gT (fun hg => p_eqS (hx := u_ hg) (hy := u_ hg)) ?_
  refine s_ p_an ?_
  refine s_ p_mv ?_
  refine gT (fun hg => p_fa) ?_
  refine gT (fun hg => p_ld (hx := u_ hg)) ?_
  refine gT (fun hg => p_fa) ?_
  refine gT (fun hg => p_ld (hx := u_ hg)) ?_
  refine gT (fun hg => p_ca (fE) (ha' := by apply evl_cons (u_ hg); apply evl_cons (u_ hg); exact evl_nil)) ?_
  refine s_ p_an ?_
  refine s_ p_mv ?_
  refine gT (fun hg => p_fa) ?_
  refine gT (fun hg => p_ld (hx := u_ hg)) ?_
  refine gT (fun hg => p_fa) ?_
  refine gT (fun hg => p_ld (hx := u_ hg)) ?_
  refine gT (fun hg => p_eq (hx := u_ hg) (hy := u_ hg)) ?_
  refine s_ p_an ?_
  refine s_ p_mv ?_
  refine gT (fun hg => p_fa) ?_
  refine gT (fun hg => p_ld (hx := u_ hg)) ?_
  refine gT (fun hg => p_fa) ?_
  refine gT (fun hg => p_ld (hx := u_ hg)) ?_
  refine gT (fun hg => p_eq (hx := u_ hg) (hy := u_ hg)) ?_
  refine s_ p_an ?_
  refine s_ p_mv ?_
  refine gT (fun hg => p_fa) ?_
  refine gT (fun hg => p_ld (hx := u_ hg)) ?_
  refine gT (fun hg => p_fa) ?_
  refine gT (fun hg => p_ld (hx := u_ hg)) ?_
  refine gT (fun hg => p_eq (hx := u_ hg) (hy := u_ hg)) ?_
  refine s_ p_an ?_
  refine s_ p_mv ?_
  refine gT (fun hg => p_fa) ?_
  refine gT (fun hg => p_ld (hx := u_ hg)) ?_
  refine gT (fun hg => p_fa) ?_
  refine gT (fun hg => p_ld (hx := u_ hg)) ?_
  refine gT (fun hg => p_eq (hx := u_ hg) (hy := u_ hg)) ?_
  refine s_ p_an ?_
  refine s_ p_mv ?_
  refine gT (fun hg => p_faA) ?_
  refine gT (fun hg => p_la (hx := u_ hg)) ?_
  refine gT (fun hg => p_faA) ?_
  refine gT (fun hg => p_la (hx := u_ hg)) ?_
  refine gT (fun hg => p_eqD 2 [.int .i64, .int .i64, .int .i64, .int .i64, .int .i64] Try.eqGuardType27 (hx := u_ hg) (hy := u_ hg)) ?_
  refine s_ p_an ?_
  refine s_ p_mv ?_
  refine gT (fun hg => p_faA) ?_
  refine gT (fun hg => p_la (hx := u_ hg)) ?_
  refine gT (fun hg => p_faA) ?_
  refine gT (fun hg => p_la (hx := u_ hg)) ?_
  refine gT (fun hg => p_eqD 2 [.int .i64, .int .i64, .int .i64, .int .i64, .int .i64] Try.eqGuardType27 (hx := u_ hg) (hy := u_ hg)) ?_
  refine s_ p_an ?_
  refine s_ p_as ?_
  (repeat (first | apply cn | apply cq | apply cb | apply ck | apply cl | apply cx))
  (apply sim_ret; (try simp only [blockΨ_ret, thenΨ_ret, loopL_ret, cutΨ_ret, cutE_ret]); first | refine rt ?_ | refine rn ?_)
  refine Le.of_eq (congrArg (fun z => T.v (.bool z)) ?_)
  rw [decide_eq_decide]
  constructor
  · intro h
    obtain ⟨_, _, _, _, _, _, _, _, _, _, _, _, ⟨_, _, _, _, _⟩, ⟨_, _, _, _, _⟩⟩ := a
    obtain ⟨_, _, _, _, _, _, _, _, _, _, _, _, ⟨_, _, _, _, _⟩, ⟨_, _, _, _, _⟩⟩ := b
    simp only [List.cons.injEq, Value.int.injEq, true_and, and_true] at h
    simp only [Nd.mk.injEq, F5.mk.injEq]
    simp_all
  · rintro rfl; simp
set_option maxHeartbeats 8000000 in
theorem rSameMsg_fn (a b : Ms) (ha : a.entries.length ≤ 1000000000) (hb : b.entries.length ≤ 1000000000) : FnP Try.prog 85 [ms a, ms b] (fun r => r = .v (.bool (decide (a = b)))) := by
  have fE := entries_fn false false a.entries b.entries ha hb
  rw [ms_dec a, ms_dec b]
  refine fn_enter Try.func85 (by rfl) (by rfl) ?_
  intro S0 w0
  show Sim _ _ [(0, T.agg [ei a.kind, ei a.frm, ei a.to, ei a.term, ei a.index, ei a.logTerm, ei a.commit, ei a.conf, .v (.bool (decide (a.yes = true))), .sl false (a.entries.map een), es a.snap]), (1, T.agg [ei b.kind, ei b.frm, ei b.to, ei b.term, ei b.index, ei b.logTerm, ei b.commit, ei b.conf, .v (.bool (decide (b.yes = true))), .sl false (b.entries.map een), es b.snap])] _ _
  (repeat (first | apply cn | apply cq | apply cb | apply ck | apply cl | apply cx))
  apply cr
  refine e_bx fun b2 _ => ?_
  refine e_bx fun b3 _ => ?_
  refine s_ p_as ?_
  (repeat (first | apply cn | apply cq | apply cb | apply ck | apply cl | apply cx))
  refine lend1 3 (by simp) ?_
  refine lend1 2 (by simp) ?_
  (repeat (first | apply cn | apply cq | apply cb | apply ck | apply cl | apply cx))
  apply cr
  refine s_ p_fa ?_
  refine s_ p_ld ?_
  refine s_ p_fa ?_
  refine s_ p_ld ?_
  refine s_ p_eq ?_
  refine s_ p_mv ?_
  refine gT (fun hg => p_fa) ?_
  refine gT (fun hg => p_ld (hx := u_ hg)) ?_
  refine gT (fun hg => p_fa) ?_
  refine gT (fun hg => p_ld (hx := u_ hg)) ?_
  refine gT (fun hg => p_eq (hx := u_ hg) (hy := u_ hg)) ?_
  refine s_ p_an ?_
  refine s_ p_mv ?_
  refine gT (fun hg => p_fa) ?_
  refine gT (fun hg => p_ld (hx := u_ hg)) ?_
  refine gT (fun hg => p_fa) ?_
  refine gT (fun hg => p_ld (hx := u_ hg)) ?_
  refine gT (fun hg => p_eq (hx := u_ hg) (hy := u_ hg)) ?_
  refine s_ p_an ?_
  refine s_ p_mv ?_
  refine gT (fun hg => p_fa) ?_
  refine gT (fun hg => p_ld (hx := u_ hg)) ?_
  refine gT (fun hg => p_fa) ?_
  refine gT (fun hg => p_ld (hx := u_ hg)) ?_
  refine gT (fun hg => p_eq (hx := u_ hg) (hy := u_ hg)) ?_
  refine s_ p_an ?_
  refine s_ p_mv ?_
  refine gT (fun hg => p_fa) ?_
  refine gT (fun hg => p_ld (hx := u_ hg)) ?_
  refine gT (fun hg => p_fa) ?_
  refine gT (fun hg => p_ld (hx := u_ hg)) ?_
  refine gT (fun hg => p_eq (hx := u_ hg) (hy := u_ hg)) ?_
  refine s_ p_an ?_
  refine s_ p_mv ?_
  refine gT (fun hg => p_fa) ?_
  refine gT (fun hg => p_ld (hx := u_ hg)) ?_
  refine gT (fun hg => p_fa) ?_
  refine gT (fun hg => p_ld (hx := u_ hg)) ?_
  refine gT (fun hg => p_eq (hx := u_ hg) (hy := u_ hg)) ?_
  refine s_ p_an ?_
  refine s_ p_mv ?_
  refine gT (fun hg => p_fa) ?_
  refine gT (fun hg => p_ld (hx := u_ hg)) ?_
  refine gT (fun hg => p_fa) ?_
  refine gT (fun hg => p_ld (hx := u_ hg)) ?_
  refine gT (fun hg => p_eq (hx := u_ hg) (hy := u_ hg)) ?_
  refine s_ p_an ?_
  refine s_ p_mv ?_
  refine gT (fun hg => p_fa) ?_
  refine gT (fun hg => p_ld (hx := u_ hg)) ?_
  refine gT (fun hg => p_fa) ?_
  refine gT (fun hg => p_ld (hx := u_ hg)) ?_
  refine gT (fun hg => p_eq (hx := u_ hg) (hy := u_ hg)) ?_
  refine s_ p_an ?_
  refine s_ p_mv ?_
  refine gT (fun hg => p_fa) ?_
  refine gT (fun hg => p_ld (hx := u_ hg)) ?_
  refine gT (fun hg => p_fa) ?_
  refine gT (fun hg => p_ld (hx := u_ hg)) ?_
  refine gT (fun hg => p_eqB (hx := u_ hg) (hy := u_ hg)) ?_
  refine s_ p_an ?_
  refine s_ p_mv ?_
  refine gT (fun hg => p_fa) ?_
  refine gT (fun hg => p_ld (hx := u_ hg)) ?_
  refine gT (fun hg => p_fa) ?_
  refine gT (fun hg => p_ld (hx := u_ hg)) ?_
  refine gT (fun hg => p_ca (fE) (ha' := by apply evl_cons (u_ hg); apply evl_cons (u_ hg); exact evl_nil)) ?_
  refine s_ p_an ?_
  refine s_ p_mv ?_
  refine gT (fun hg => p_fa) ?_
  refine gT (fun hg => p_ld (hx := u_ hg)) ?_
  refine gT (fun hg => p_fa) ?_
  refine gT (fun hg => p_ld (hx := u_ hg)) ?_
  refine gT (fun hg => p_eqS (hx := u_ hg) (hy := u_ hg)) ?_
  refine s_ p_an ?_
  refine s_ p_as ?_
  (repeat (first | apply cn | apply cq | apply cb | apply ck | apply cl | apply cx))
  (apply sim_ret; (try simp only [blockΨ_ret, thenΨ_ret, loopL_ret, cutΨ_ret, cutE_ret]); first | refine rt ?_ | refine rn ?_)
  refine Le.of_eq (congrArg (fun z => T.v (.bool z)) ?_)
  rw [decide_eq_decide]
  constructor
  · intro h
    obtain ⟨_, _, _, _, _, _, _, _, y, _, _⟩ := a
    obtain ⟨_, _, _, _, _, _, _, _, y', _, _⟩ := b
    simp only [Ms.mk.injEq]
    simp only at h
    have hy : y = y' := by
      have := h.1.1.2
      cases y <;> cases y' <;> simp_all
    simp_all
  · rintro rfl; simp
end Go.Proofs.Ytppaabahbjgihaa
end
