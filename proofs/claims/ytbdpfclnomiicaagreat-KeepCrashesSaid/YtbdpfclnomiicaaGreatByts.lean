/-
  Bytes: rows of one's own that grow, slices.Clone, Grow, Concat over them; a string's bytes.
  Bytes: slices.Clone, Grow, Concat; a number's, a text's bytes behind others.
  code.Int, code.Text: a number's, a text's bytes behind others.
-/
import Derived.Test.YtbdpfclnomiicaaGreatRep
import Derived.Test.YtbdpfclnomiicaaGreatOs
import Derived.Test.YtbdpfclnomiicaaGreatCods
import Derived.Test.YtbdpfclnomiicaaGreatUp
section
set_option maxRecDepth 8000
namespace Go.Cap
section
variable {K : Ctx} {P : Program} {t : Env} {H : Heap} {dst : Option Tmp} {tp : TypeId} {pos : String} {aft : Array Edge} {g : Option (Nat × Bool)} {N : Env → Heap → Prop} {ty ty' : TypeId}
/-- 'append' of nothing to a slice that is known by its value. -/
theorem pop_append_none {x y : Operand} {p : Option Addr} {n c : Nat} {f : Bool} {dy : T} {d : T} {by_ : Nat} (hx : t.ev x = .v (.slice p n c)) (hy : t.ev y = dy) (hyl : Le dy (.sl f [])) [hz : ElemZC P ty d by_] (hs : isSliceTy P ty' = true) (hc1 : n ≤ c) :
    POp P t H ⟨dst, .call ⟨.builtin .append, #[x, y], #[ty, ty']⟩, tp, pos, aft, g⟩ (.v (.slice p n c)) :=
  POp.run fun S w a hw _ hr => by
    have h1 := hr x (by simp [Op.operands, Call.operands]); rw [hx] at h1
    have h2 := hr y (by simp [Op.operands, Call.operands]); rw [hy] at h2
    replace h2 := hyl _ _ _ h2
    obtain ⟨e, i, z, hu, hi, hzz, hsz, hp, rfl, hby⟩ := elemZ_of hz.h
    obtain ⟨e', _, hu', _⟩ := slice_of hs
    have hl := ofVal_cells z
    have hk0 : 0 < (T.ofVal z).cells.length := by omega
    have e1 : (execOp a.eval ⟨dst, .call ⟨.builtin .append, #[x, y], #[ty, ty']⟩, tp, pos, aft, g⟩).run P w = ((Builtin.append_ #[ty, ty'] tp #[a.eval x, a.eval y]).run P w).andThen fun v w' => .ok (.value v) w' := by
      simp [execOp, resolve, invoke, builtin]
    rw [e1, h1.v_eq]
    have hlen := run_lenOf (P := P) h2
    obtain ⟨us, hus, hrel, hul⟩ := run_first (P := P) h2 (fun x hx => absurd hx (by simp)) hk0 0 (Nat.zero_le _)
    have hus0 : us = [] := List.length_eq_zero_iff.1 (by omega)
    subst hus0
    rw [run_app_none hu hu' hi hlen hc1 (by rw [hsz, ← hl]; exact hus)]
    exact ⟨_, w, S, rfl, Step.refl _ hw, .v _⟩
theorem OSl.capV {e : TypeId} {k : Nat} {xs : List T} {v : Value} {Hs : Heap} (h : OSl e k xs v Hs) : ∃ p c, v = .slice p xs.length c ∧ xs.length ≤ c := by
  obtain ⟨p, c, rfl⟩ := h.len
  exact ⟨p, c, rfl, h.cap⟩
/-- Some, or none, behind a slice that grows. -/
theorem eop_append_osA {x y : Operand} {e : TypeId} {k : Nat} {xs ys : List T} {v : Value} {A B Hs : Heap} {f : Bool} {dy d : T} {by_ : Nat} [hz : ElemZC K.P ty d by_] (ho : OSl e k xs v Hs) (hH : H = A ++ (Hs ++ B)) (hx : t.ev x = .v v) (hy : t.ev y = dy) (hyl : Le dy (.sl f ys))
    (hkd : d.cells.length = k) (hk0 : elemTy K.P ty = e) (hs : isSliceTy K.P ty' = true) (hkx : ∀ x ∈ xs, x.cells.length = k) (hky : ∀ x ∈ ys, x.cells.length = k) (hyleaf : ∀ x ∈ ys, allLeaf x.cells = true) (hb : (xs.length + ys.length) * by_ ≤ 140737488355328) (hm : xs.length + ys.length ≤ 9223372036854775807)
    {kd : Tmp} (hd : Nat.blt kd K.n = true) (h : ∀ v' Hs', OSl e k (xs ++ ys) v' Hs' → N ((kd, .v v') :: t) (A ++ (Hs' ++ B))) : EOp K t H ⟨some kd, .call ⟨.builtin .append, #[x, y], #[ty, ty']⟩, tp, pos, aft, g⟩ N := by
  cases ys with
  | nil =>
    obtain ⟨p, c, rfl, hc⟩ := ho.capV
    have := h _ _ (by rw [List.append_nil]; exact ho)
    rw [← hH] at this
    exact EOp.of_pop (pop_append_none hx hy hyl hs hc) hd this
  | cons y0 ys => exact eop_append_os ho hH hx hy hyl (by simp) hkd hk0 hs hkx hky hyleaf hb hm hd h
variable {ops : Array Oper} {i : Nat} {l : List Oper} {kd : Tmp}
theorem e_osA {x y : Operand} {e : TypeId} {k : Nat} {xs ys : List T} {v : Value} {A B Hs : Heap} {f : Bool} {dy d : T} {by_ : Nat} [hz : ElemZC K.P ty d by_] (ho : OSl e k xs v Hs) (hkx : ∀ x ∈ xs, x.cells.length = k)
    (h : ∀ v' Hs', OSl e k (xs ++ ys) v' Hs' → SimFrom K ops (i + 1) l ((kd, .v v') :: t) (A ++ (Hs' ++ B)) N) (hH : H = A ++ (Hs ++ B) := by rfl) (hx : t.ev x = .v v := by first | ((repeat (apply eS; rfl)); exact eZ) | exact ev_int | exact ev_bool | exact ev_nil | exact ev_str | exact ev_ptr | exact ev_agg | exact ev_map | exact ev_nilf | exact ev_nili | exact ev_func) (hy : t.ev y = dy := by first | ((repeat (apply eS; rfl)); exact eZ) | exact ev_int | exact ev_bool | exact ev_nil | exact ev_str | exact ev_ptr | exact ev_agg | exact ev_map | exact ev_nilf | exact ev_nili | exact ev_func) (hyl : Le dy (.sl f ys) := by (first | exact Le.refl _ | exact Le.nil _ | exact Le.full _ _ | exact Le.any _ | (apply Le.agg; (repeat (apply LeL.cons; (first | exact Le.refl _ | exact Le.nil _ | exact Le.full _ _ | exact Le.any _))); exact LeL.nil) | (apply Le.tup; (repeat (apply LeL.cons; (first | exact Le.refl _ | exact Le.nil _ | exact Le.full _ _ | exact Le.any _ | (apply Le.agg; (repeat (apply LeL.cons; (first | exact Le.refl _ | exact Le.nil _ | exact Le.full _ _ | exact Le.any _))); exact LeL.nil)))); exact LeL.nil)))
    (hkd : d.cells.length = k := by rfl) (hk0 : elemTy K.P ty = e := by rfl) (hs : isSliceTy K.P ty' = true := by rfl) (hky : ∀ x ∈ ys, x.cells.length = k := by (repeat (first | exact lenOk_nil | (apply lenOk_map; intro _; rfl) | apply lenOk_append | apply lenOk_take | apply lenOk_drop | (apply lenOk_cons; rfl)))) (hyleaf : ∀ x ∈ ys, allLeaf x.cells = true := by (repeat (first | exact leafOk_nil | (apply leafOk_map; intro _; rfl) | apply leafOk_append | apply leafOk_take | apply leafOk_drop | (apply leafOk_cons; rfl))))
    (hb : (xs.length + ys.length) * by_ ≤ 140737488355328 := by (first | omega | (simp only [List.length_map, List.length_replicate, List.length_append, List.length_cons, List.length_nil, List.length_take, List.length_drop, Int.toNat_natCast]; omega) | (simp only [List.length_map, List.length_replicate, List.length_append, List.length_cons, List.length_nil, List.length_take, List.length_drop, Int.toNat_natCast] at *; omega))) (hm : xs.length + ys.length ≤ 9223372036854775807 := by (first | omega | (simp only [List.length_map, List.length_replicate, List.length_append, List.length_cons, List.length_nil, List.length_take, List.length_drop, Int.toNat_natCast]; omega) | (simp only [List.length_map, List.length_replicate, List.length_append, List.length_cons, List.length_nil, List.length_take, List.length_drop, Int.toNat_natCast] at *; omega))) (hd : Nat.blt kd K.n = true := by rfl) :
    SimFrom K ops i (⟨some kd, .call ⟨.builtin .append, #[x, y], #[ty, ty']⟩, tp, pos, aft, none⟩ :: l) t H N := from_e (eop_append_osA ho hH hx hy hyl hkd hk0 hs hkx hky hyleaf hb hm hd h)
/-- 'append' of so many noughts to nothing: room. -/
theorem eop_append_make {x y : Operand} {n : Nat} {k : IntKind} {d : T} {by_ : Nat} (hx : t.ev x = .v (.slice none 0 0)) (hy : t.ev y = .v (.int .i64 n)) [hz : ElemZC K.P ty d by_] (hs : P.underlying ty' = some (.int k)) (hP : P = K.P) (h0 : 0 < n) (hb : n * by_ ≤ 140737488355328) (hm : n ≤ 9223372036854775807)
    {kd : Tmp} (hd : Nat.blt kd K.n = true)
    (h : ∀ b c, (∀ c ∈ keys H, ¬ c = b) → n ≤ c → N ((kd, .v (.slice (some ⟨b, 0, none⟩) n c)) :: t) ((b, ⟨elemTy K.P ty, [], c * d.cells.length⟩) :: H)) :
    EOp K t H ⟨some kd, .call ⟨.builtin .append, #[x, y], #[ty, ty']⟩, tp, pos, aft, g⟩ N := by
  subst hP
  refine EOp.of_w (fun c e => by cases e) ?_
  intro a w ⟨S, hr⟩ Kc Q hk
  have h1 := hr.env.ev x; rw [hx] at h1
  have h2 := hr.env.ev y; rw [hy] at h2
  obtain ⟨e, i, z, hu, hi, hzz, hsz, hp, rfl, hby⟩ := elemZ_of hz.h
  have hl := ofVal_cells z
  have hee : elemTy K.P ty = e := by unfold elemTy; rw [hu]
  have e1 : (execOp a.eval ⟨some kd, .call ⟨.builtin .append, #[x, y], #[ty, ty']⟩, tp, pos, aft, g⟩).run K.P w = ((Builtin.append_ #[ty, ty'] tp #[a.eval x, a.eval y]).run K.P w).andThen fun v w' => .ok (.value v) w' := by
    simp [execOp, resolve, invoke, builtin]
  have hrun : (Builtin.append_ #[ty, ty'] tp #[.slice none 0 0, .int .i64 n]).run K.P w = .ok (.slice (some ⟨w.heap.size, 0, none⟩) n (grownCap w n 0 e))
      (w.drew.alloc (.cells (Builtin.zeroCells z.cells n ++ Builtin.zeroCells z.cells (grownCap w n 0 e - n)) e)) := by
    have hw64 : IntKind.i64.wrap (n : Int) = n := by simp [IntKind.wrap, IntKind.bits, IntKind.signed]; omega
    have h1' : ¬ (n = 0) := by omega
    have hz0 : 0 < z.cells.size := by omega
    have h48 : ¬ (281474976710656 < (n : Int) * (i.bytes : Int)) := by
      have : n * i.bytes ≤ 140737488355328 := by rw [hby]; exact hb
      have h3 : ((n * i.bytes : Nat) : Int) = (n : Int) * (i.bytes : Int) := by push_cast; rfl
      omega
    have h48' : ¬ (281474976710656 < Builtin.nextslicecap n 0 * i.bytes) := by
      unfold Builtin.nextslicecap
      rw [if_pos (by omega)]
      have : n * i.bytes ≤ 140737488355328 := by rw [hby]; exact hb
      omega
    have h63 : ¬ (9223372036854775807 < (n : Int)) := by omega
    have hsz0 : ¬ (i.size = 0) := by omega
    have hneg : ¬ ((n : Int) < 0) := by omega
    simp [Builtin.append_, run_underlying hu, run_underlying hs, sizeOf, typeInfo, zeroValue, asInt, asIntOf, hi, hzz, hw64, h1', h48, h48', h63, hsz0, hneg, Question.forced, Builtin.firstCells, newRow, grownCap]
    intro h; exact absurd h (by have : 0 < n * i.size := Nat.mul_pos h0 (by omega); omega)
  unfold Oper.wp
  rw [e1, h1.v_eq, h2.v_eq, hrun]
  have hcap : n ≤ grownCap w n 0 e := Nat.le_add_right _ _
  have hrd : R1 K t H a w.drew S := ⟨hr.size, hr.defers.step mono_drew (fun _ _ h _ => h) (Nat.le_refl _), hr.step.trans (step_drew hr.wf []) (by simp), hr.own.step (step_drew hr.wf []) hr.wf (by simp) (by simp), hr.mine, hr.env.mono mono_drew⟩
  have hcm : n * (T.ofVal z).cells.length ≤ grownCap w n 0 e * (T.ofVal z).cells.length := Nat.mul_le_mul_right _ hcap
  have hzs : (grownCap w n 0 e - n) * (T.ofVal z).cells.length = grownCap w n 0 e * (T.ofVal z).cells.length - n * (T.ofVal z).cells.length := Nat.sub_mul _ _ _
  have hfr := hrd.fresh (dst := some kd) (d := .v (.slice (some ⟨w.heap.size, 0, none⟩) n (grownCap w n 0 e)))
    (k := ⟨elemTy K.P ty, [], grownCap w n 0 e * (T.ofVal z).cells.length⟩)
    (cs := Builtin.zeroCells z.cells n ++ Builtin.zeroCells z.cells (grownCap w n 0 e - n))
    (by simp only [Array.size_append, zeroCells_size, ← hl]; omega) (by simp) (by simp; exact .nil) hd (.v _)
  rw [hee] at hfr
  have hh := h w.heap.size _ (fresh_ne hr) hcap
  rw [hee] at hh
  exact hk _ _ _ _ hh ⟨S, hfr⟩
theorem e_mk0 {x y : Operand} {n : Nat} {k : IntKind} {d : T} {by_ : Nat} [hz : ElemZC K.P ty d by_] (h : ∀ b c, (∀ c ∈ keys H, ¬ c = b) → n ≤ c → SimFrom K ops (i + 1) l ((kd, .v (.slice (some ⟨b, 0, none⟩) n c)) :: t) ((b, ⟨elemTy K.P ty, [], c * d.cells.length⟩) :: H) N) (hx : t.ev x = .v (.slice none 0 0) := by first | ((repeat (apply eS; rfl)); exact eZ) | exact ev_int | exact ev_bool | exact ev_nil | exact ev_str | exact ev_ptr | exact ev_agg | exact ev_map | exact ev_nilf | exact ev_nili | exact ev_func) (hy : t.ev y = .v (.int .i64 n) := by first | ((repeat (apply eS; rfl)); exact eZ) | exact ev_int | exact ev_bool | exact ev_nil | exact ev_str | exact ev_ptr | exact ev_agg | exact ev_map | exact ev_nilf | exact ev_nili | exact ev_func)
    (hs : K.P.underlying ty' = some (.int k) := by rfl) (h0 : 0 < n := by (first | omega | (simp only [List.length_map, List.length_replicate, List.length_append, List.length_cons, List.length_nil, List.length_take, List.length_drop, Int.toNat_natCast]; omega) | (simp only [List.length_map, List.length_replicate, List.length_append, List.length_cons, List.length_nil, List.length_take, List.length_drop, Int.toNat_natCast] at *; omega))) (hb : n * by_ ≤ 140737488355328 := by (first | omega | (simp only [List.length_map, List.length_replicate, List.length_append, List.length_cons, List.length_nil, List.length_take, List.length_drop, Int.toNat_natCast]; omega) | (simp only [List.length_map, List.length_replicate, List.length_append, List.length_cons, List.length_nil, List.length_take, List.length_drop, Int.toNat_natCast] at *; omega))) (hm : n ≤ 9223372036854775807 := by (first | omega | (simp only [List.length_map, List.length_replicate, List.length_append, List.length_cons, List.length_nil, List.length_take, List.length_drop, Int.toNat_natCast]; omega) | (simp only [List.length_map, List.length_replicate, List.length_append, List.length_cons, List.length_nil, List.length_take, List.length_drop, Int.toNat_natCast] at *; omega))) (hd : Nat.blt kd K.n = true := by rfl) :
    SimFrom K ops i (⟨some kd, .call ⟨.builtin .append, #[x, y], #[ty, ty']⟩, tp, pos, aft, none⟩ :: l) t H N := from_e (eop_append_make hx hy hs rfl h0 hb hm hd h)
theorem p_cap {x : Operand} {p : Option Addr} {n c : Nat} {ats : Array TypeId} (hx : t.ev x = .v (.slice p n c) := by first | ((repeat (apply eS; rfl)); exact eZ) | exact ev_int | exact ev_bool | exact ev_nil | exact ev_str | exact ev_ptr | exact ev_agg | exact ev_map | exact ev_nilf | exact ev_nili | exact ev_func) (ha : ats = #[ty] := by rfl) (hs : isSliceTy P ty = true := by rfl) : POp P t H ⟨dst, .call ⟨.builtin .cap, #[x], ats⟩, tp, pos, aft, g⟩ (.v (.int .i64 c)) :=
  POp.still fun S w a _ _ hr => by
    have h1 := hr x (by simp [Op.operands, Call.operands]); rw [hx] at h1
    subst ha
    refine ⟨_, ?_, .v _⟩
    obtain ⟨e, _, hu, _⟩ := slice_of hs
    simp [execOp, resolve, invoke, builtin, h1.v_eq, Builtin.cap_, run_underlying hu, goInt]
theorem run_markS (w : World) (cs : Array Value) (e : TypeId) : (markStringish ⟨w.heap.size, 0, none⟩).run P (w.alloc (.cells cs e)) = .ok () ((w.alloc (.cells cs e)).freeze ⟨w.heap.size, cs.size, none⟩ 1) := by
  have h : (w.alloc (.cells cs e)).shape? w.heap.size = some (e, cs.size) := by
    unfold World.shape?
    rw [heap_new]
  simp [markStringish, h]
theorem frozen_heap (w : World) (cs : Array Value) (e : TypeId) (b : Nat) : ((w.alloc (.cells cs e)).freeze ⟨w.heap.size, cs.size, none⟩ 1).heap[b]? = if b = w.heap.size then some (.cells cs e (cs.size, cs.size + 1)) else w.heap[b]? := by
  unfold World.freeze
  rw [if_neg (by simp)]
  simp only [Array.getElem?_modify]
  by_cases hb : b = w.heap.size
  · subst hb
    rw [if_pos rfl, heap_new]
    simp
  · rw [if_neg (fun h => hb h.symm), if_neg hb]
    by_cases h : b < w.heap.size
    · exact heap_older w _ h
    · rw [Array.getElem?_eq_none (by simp; omega), Array.getElem?_eq_none (by omega)]
theorem rel_bytes {S : Nat → Prop} {w : World} : ∀ (l : List UInt8), RelL S w (l.map eb) (l.map fun b => Value.int .u8 b.toNat)
  | [] => .nil
  | b :: l => .cons _ _ _ _ (.v _) (rel_bytes l)
theorem flat_u8 : ∀ (l : List UInt8), (l.map fun b => Value.int .u8 b.toNat).flatMap (fun v => v.cells.toList) = l.map fun b => Value.int .u8 b.toNat
  | [] => rfl
  | b :: l => by rw [List.map_cons, List.flatMap_cons, flat_u8 l]; rfl
/-- '[]byte(s)'. -/
theorem pop_bytes {x : Operand} {l : List UInt8} (hx : t.ev x = .v (.string (bs l))) (h1 : isStr P ty = true) (h2 : isBytesTy P ty' = true) : POp P t H ⟨dst, .convert ty ty' x, tp, pos, aft, g⟩ (.sl false (l.map eb)) :=
  POp.run fun S w a hw _ hr => by
    have hv := hr x (by simp [Op.operands]); rw [hx] at hv
    obtain ⟨e, he, he2⟩ := bytes_of h2
    have hs := str_of h1
    have hlen : (bs l).size = l.length := by simp [bs, ByteArray.size]
    have hsz : (((bs l).data.map fun b => Value.int .u8 b.toNat) ++ Array.replicate (grownCap w l.length 0 e - l.length) (Value.int .u8 0)).size = grownCap w l.length 0 e := by
      have h1 : l.length ≤ grownCap w l.length 0 e := Nat.le_add_right _ _
      have h2 : (bs l).data.size = l.length := hlen
      simp [h2]; omega
    have hl0 : (((bs l).data.map fun b => Value.int .u8 b.toNat) ++ Array.replicate (grownCap w l.length 0 e - l.length) (Value.int .u8 0)).toList = (l.map fun b => Value.int .u8 b.toNat) ++ List.replicate (grownCap w l.length 0 e - l.length) (Value.int .u8 0) := by
      simp [bs]
    have hcap : l.length ≤ grownCap w l.length 0 e := Nat.le_add_right _ _
    have hrun : ∀ cs, cs = ((bs l).data.map fun b => Value.int .u8 b.toNat) ++ Array.replicate (grownCap w l.length 0 e - l.length) (Value.int .u8 0) → (Conv.stringToBytes e (bs l)).run P w = .ok (.slice (some ⟨w.heap.size, 0, none⟩) l.length (grownCap w l.length 0 e)) ((w.drew.alloc (.cells cs e)).freeze ⟨w.drew.heap.size, cs.size, none⟩ 1) := by
      intro cs hcs
      have hm := run_markS (P := P) w.drew cs e
      rw [show w.drew.heap.size = w.heap.size from rfl] at hm ⊢
      have hcut : (choose (.appendCap l.length 0 e)).run P w = .ok (grownCap w l.length 0 e) w.drew := by simp [Question.forced, grownCap]
      have hnew : (newRow e cs).run P w.drew = .ok ⟨w.heap.size, 0, none⟩ (w.drew.alloc (.cells cs e)) := by simp [newRow]
      have hm' : (markStringish ⟨w.heap.size, 0, none⟩).run P (w.drew.alloc (.cells cs e)) = .ok () ((w.drew.alloc (.cells cs e)).freeze ⟨w.heap.size, cs.size, none⟩ 1) := hm
      unfold Conv.stringToBytes
      rw [Sem.run_bind, hlen, hcut, Result.andThen_ok]
      show ((do let a ← newRow e (((bs l).data.map fun b => Value.int .u8 b.toNat) ++ Array.replicate (grownCap w l.length 0 e - (bs l).size) (Value.int .u8 0)); markStringish a; pure (Value.slice (some a) (bs l).size (grownCap w l.length 0 e)) : Sem Value)).run P w.drew = _
      rw [hlen, ← hcs]
      rw [Sem.run_bind, hnew, Result.andThen_ok, Sem.run_bind, hm', Result.andThen_ok]
      rfl
    generalize ((bs l).data.map fun b => Value.int .u8 b.toNat) ++ Array.replicate (grownCap w l.length 0 e - l.length) (Value.int .u8 0) = cs at hsz hl0 hrun
    have hrun := hrun cs rfl
    have hh := frozen_heap w.drew cs e
    have hnew := (hh w.drew.heap.size).trans (if_pos rfl)
    have hold : ∀ b, b < w.heap.size → ((w.drew.alloc (.cells cs e)).freeze ⟨w.drew.heap.size, cs.size, none⟩ 1).heap[b]? = w.heap[b]? := fun b hb => (hh b).trans (if_neg (by have : w.drew.heap.size = w.heap.size := rfl; omega))
    have hfs : ((w.drew.alloc (.cells cs e)).freeze ⟨w.drew.heap.size, cs.size, none⟩ 1).heap.size = w.heap.size + 1 := by
      unfold World.freeze
      rw [if_neg (by simp)]
      simp only [Array.size_modify]
      simp
    have hst : Step [] S w (withNew S w) ((w.drew.alloc (.cells cs e)).freeze ⟨w.drew.heap.size, cs.size, none⟩ 1) :=
      ⟨rfl, rfl, rfl, by omega, fun b hb _ => hold b hb, fun b hb => .inl hb, fun b hb => hb.elim .inl fun e => .inr (.inl (Nat.le_of_eq e.symm)), fun b hb => by
        rw [hfs]; rcases hb with hb | hb
        · exact Nat.lt_succ_of_lt (hw b hb)
        · omega⟩
    refine ⟨.slice (some ⟨w.heap.size, 0, none⟩) l.length (grownCap w l.length 0 e), _, withNew S w, ?_, hst, ?_⟩
    rotate_left
    · have := Rel.sl (S := withNew S w) (w := (w.drew.alloc (.cells cs e)).freeze ⟨w.drew.heap.size, cs.size, none⟩ 1) false (l.map eb) w.heap.size 0 (grownCap w l.length 0 e) (l.map fun b => Value.int .u8 b.toNat) 1 cs e _ (.inr rfl) hnew (rel_bytes l)
        ⟨by simp [Value.cells], by
          rw [hl0]
          simp only [List.drop_zero, List.length_map, Nat.mul_one]
          rw [List.take_left' (by simp)]
          exact (flat_u8 l).symm⟩ (fun h => by cases h) (by simpa using hcap)
      simpa using this
    · have hcv : (convert ty ty' (a.eval x)).run P w = .ok (.slice (some ⟨w.heap.size, 0, none⟩) l.length (grownCap w l.length 0 e)) ((w.drew.alloc (.cells cs e)).freeze ⟨w.drew.heap.size, cs.size, none⟩ 1) := by
        unfold convert
        rw [hv.v_eq]
        simp [run_underlying he, run_underlying hs, run_underlying he2, hrun]
      simp [execOp, hcv]
theorem p_by {x : Operand} {l : List UInt8} (hx : t.ev x = .v (.string (bs l)) := by first | ((repeat (apply eS; rfl)); exact eZ) | exact ev_int | exact ev_bool | exact ev_nil | exact ev_str | exact ev_ptr | exact ev_agg | exact ev_map | exact ev_nilf | exact ev_nili | exact ev_func) (h1 : isStr P ty = true := by rfl) (h2 : isBytesTy P ty' = true := by rfl) : POp P t H ⟨dst, .convert ty ty' x, tp, pos, aft, g⟩ (.sl false (l.map eb)) := pop_bytes hx h1 h2
end
end Go.Cap
end
section
set_option maxRecDepth 16000
namespace Go.Proofs.YtbdpfclnomiicaaGreat
open Go.Cap
set_option linter.unusedSimpArgs false
set_option linter.unusedVariables false
attribute [local irreducible] POp SimFrom DrawFrom EOp Sim FnH T.gp
def tB : TypeId := 5
def bl (l : List UInt8) : T := .sl false (l.map eb)
def OB (l : List UInt8) (v : Value) (Hs : Heap) : Prop := OSl tB 1 (l.map eb) v Hs
theorem eb1 (l : List UInt8) : ∀ x ∈ l.map eb, x.cells.length = 1 := by (repeat (first | exact lenOk_nil | (apply lenOk_map; intro _; rfl) | apply lenOk_append | apply lenOk_take | apply lenOk_drop | (apply lenOk_cons; rfl)))
theorem eb_ok (l : List UInt8) : ∀ x ∈ l.map eb, x.solid := solid_map _ (fun _ => .inl rfl) _
theorem eb_plain : ∀ (l : List UInt8), ((l.map eb).flatMap T.cells).all T.isV = true
  | [] => rfl
  | e :: l => by simp only [List.map_cons, List.flatMap_cons, List.all_append, eb_plain l, Bool.and_true]; rfl
theorem OB.plain {l : List UInt8} {v : Value} {Hs : Heap} (h : OB l v Hs) : ∀ p ∈ Hs, p.2.cells.all T.isV = true := by
  rcases h with ⟨_, _, rfl⟩ | ⟨b, c, _, _, rfl⟩
  · simp
  · intro p hp
    rw [List.mem_singleton.1 hp]
    exact eb_plain l
theorem OB.len {l : List UInt8} {v : Value} {Hs : Heap} (h : OB l v Hs) : ∃ p c, v = .slice p (l.map eb).length c := OSl.len h
theorem OB.lend {l : List UInt8} {v : Value} {Hs G : Heap} (h : OB l v Hs) (hG : ∀ p ∈ Hs, p ∈ G) : Lends G (.v v) (bl l) := OSl.lend h hG (eb1 l) (eb_ok l)
theorem OB.of {l : List UInt8} : ∀ (r : T) (H : Heap), (∃ v, r = .v v ∧ OB l v H) → r.plain = true ∧ ∀ p ∈ H, p.2.cells.all T.isV = true := by
  rintro r H ⟨v, rfl, h⟩
  exact ⟨rfl, h.plain⟩
theorem cloneB_fn (f : Bool) (l : List UInt8) (hl : l.length ≤ 1000000000000) : FnH Tryz.prog 68 [.sl f (l.map eb)] [] (fun r H => ∃ v, r = .v v ∧ OB l v H) := by
  refine fn_enter Tryz.func68 (by rfl) (by rfl) ?_
  intro S0 w0
  show Sim _ _ [(0, T.sl f (l.map eb))] _ _
  (repeat (first | apply cn | apply cq | apply cb | apply ck | apply cl | apply cx))
  apply cr
  refine s_ p_as ?_
  (repeat (first | apply cn | apply cq | apply cb | apply ck | apply cl | apply cx))
  apply cr
  refine s_ p_mv ?_
  refine from_name 3 fun p c h1 _ => ?_
  refine s_ p_en ?_
  (repeat (first | apply cn | apply cq | apply cb | apply ck | apply cl | apply cx))
  refine ci ?_ ?_
  · intro hp
    have := h1 hp
    have : l = [] := by simpa using this
    subst this
    (repeat (first | apply cn | apply cq | apply cb | apply ck | apply cl | apply cx))
    apply cr
    refine s_ p_as ?_
    (repeat (first | apply cn | apply cq | apply cb | apply ck | apply cl | apply cx))
    (apply sim_ret; (try simp only [blockΨ_ret, thenΨ_ret, loopL_ret, cutΨ_ret, cutE_ret]))
    exact rh kR ⟨_, rfl, osl_nil⟩ (Le.refl _)
  · intro hp
    (repeat (first | apply cn | apply cq | apply cb | apply ck | apply cl | apply cx))
    apply cr
    refine s_ p_bs ?_
    refine from_name 5 fun q c' _ h2 => ?_
    have := h2 rfl
    subst this
    refine s_ p_mv ?_
    refine e_osA (ho := (osl_nil' : OSl tB 1 [] _ [])) (A := []) (B := []) (fun _ h => by cases h) (fun v' Hs' ho => ?_)
    refine s_ p_as ?_
    (repeat (first | apply cn | apply cq | apply cb | apply ck | apply cl | apply cx))
    (apply sim_ret; (try simp only [blockΨ_ret, thenΨ_ret, loopL_ret, cutΨ_ret, cutE_ret]))
    exact rh kR ⟨_, rfl, by simpa [OB] using ho⟩ (Le.refl _)
theorem cloneB_fnD (f : Bool) (l : List UInt8) (hl : l.length ≤ 1000000000000) : FnP Tryz.prog 68 [.sl f (l.map eb)] (fun r => r = bl l) :=
  FnH.give (cloneB_fn f l hl) (by rintro r H ⟨v, rfl, ho⟩; exact ho.lend fun _ h => h)
theorem growB_fn (n : Nat) (hn : n ≤ 10000000000000) : FnH Tryz.prog 110 [.v (.slice none 0 0), ei n] [] (fun r H => ∃ v, r = .v v ∧ OB [] v H) := by
  refine fn_enter Tryz.func110 (by rfl) (by rfl) ?_
  intro S0 w0
  show Sim _ _ [(0, T.v (.slice none 0 0)), (1, ei n)] _ _
  (repeat (first | apply cn | apply cq | apply cb | apply ck | apply cl | apply cx))
  apply cr
  refine s_ p_as ?_
  (repeat (first | apply cn | apply cq | apply cb | apply ck | apply cl | apply cx))
  apply cr
  refine s_ p_mv ?_
  refine s_ p_lt ?_
  (repeat (first | apply cn | apply cq | apply cb | apply ck | apply cl | apply cx))
  refine ci ?_ ?_
  · intro h; exact absurd h (by omega)
  intro _
  (repeat (first | apply cn | apply cq | apply cb | apply ck | apply cl | apply cx))
  apply cr
  refine s_ p_mv ?_
  refine s_ p_mv ?_
  refine s_ p_cap ?_
  refine s_ p_mv ?_
  (first | refine s_ p_ln ?_ | refine s_ p_lr ?_)
  refine s_ p_su ?_
  refine s_ p_su ?_
  refine s_ p_as ?_
  (repeat (first | apply cn | apply cq | apply cb | apply ck | apply cl | apply cx))
  apply cr
  refine s_ p_mv ?_
  refine s_ p_gt ?_
  (repeat (first | apply cn | apply cq | apply cb | apply ck | apply cl | apply cx))
  have e0 : (n : Int) - (((0 : Nat) : Int) - ((0 : Nat) : Int)) = n := by omega
  rw [e0]
  refine ci ?_ ?_
  · intro h0
    have h0' : 0 < n := by omega
    (repeat (first | apply cn | apply cq | apply cb | apply ck | apply cl | apply cx))
    apply cr
    refine s_ p_mv ?_
    refine s_ p_mv ?_
    refine s_ p_cap ?_
    refine s_ (p_sbh (p := none) (n := 0) (c := 0) (v := .slice none 0 0) (Nat.le_refl _) rfl) ?_
    refine s_ p_mv ?_
    refine e_mk0 (n := n) (fun b c _ hc => ?_)
    refine s_ p_mv ?_
    (first | refine s_ p_ln ?_ | refine s_ p_lr ?_)
    refine s_ (p_sbh (p := some ⟨b, 0, none⟩) (n := n) (c := c) (j := ((0 : Nat) : Int)) (v := .slice (some ⟨b, 0, none⟩) 0 c) hc (by simp [subV, Addr.add])) ?_
    refine s_ p_as ?_
    (repeat (first | apply cn | apply cq | apply cb | apply ck | apply cl | apply cx))
    (repeat (first | apply cn | apply cq | apply cb | apply ck | apply cl | apply cx))
    apply cr
    refine s_ p_mv ?_
    refine s_ p_as ?_
    (repeat (first | apply cn | apply cq | apply cb | apply ck | apply cl | apply cx))
    (apply sim_ret; (try simp only [blockΨ_ret, thenΨ_ret, loopL_ret, cutΨ_ret, cutE_ret]))
    exact rh kR ⟨_, rfl, .inr ⟨b, c, rfl, by simp, rfl⟩⟩ (Le.refl _)
  · intro h0
    (repeat (first | apply cn | apply cq | apply cb | apply ck | apply cl | apply cx))
    apply cr
    refine s_ p_mv ?_
    refine s_ p_as ?_
    (repeat (first | apply cn | apply cq | apply cb | apply ck | apply cl | apply cx))
    (apply sim_ret; (try simp only [blockΨ_ret, thenΨ_ret, loopL_ret, cutΨ_ret, cutE_ret]))
    exact rh kR ⟨_, rfl, osl_nil⟩ (Le.refl _)
def catL (rows : List (Bool × List UInt8)) : List UInt8 := rows.flatMap (·.2)
def erow (p : Bool × List UInt8) : T := .sl p.1 (p.2.map eb)
theorem catL_next {rows : List (Bool × List UInt8)} {k : Nat} (hk : k < rows.length) : catL (rows.take (k + 1)) = catL (rows.take k) ++ (rows[k]'hk).2 := by
  unfold catL
  rw [List.take_succ_eq_append_getElem hk, List.flatMap_append]
  simp
theorem catL_le {rows : List (Bool × List UInt8)} (k : Nat) : (catL (rows.take k)).length ≤ (catL rows).length := by
  conv => rhs; rw [← List.take_append_drop k rows]
  unfold catL
  rw [List.flatMap_append, List.length_append]
  omega
theorem concat_fn (f : Bool) (rows : List (Bool × List UInt8)) (hn : (catL rows).length ≤ 100000000000) (hr : rows.length ≤ 1000000) : FnP Tryz.prog 106 [.sl f (rows.map erow)] (fun r => r = bl (catL rows)) := by
  refine FnH.give (Φ := fun r H => ∃ v, r = .v v ∧ OB (catL rows) v H) ?_ (by rintro r H ⟨v, rfl, ho⟩; exact ho.lend fun _ h => h)
  refine fn_enter Tryz.func106 (by rfl) (by rfl) ?_
  intro S0 w0
  show Sim _ _ [(0, T.sl f (rows.map erow))] _ _
  (repeat (first | apply cn | apply cq | apply cb | apply ck | apply cl | apply cx))
  apply cr
  refine s_ p_as ?_
  (repeat (first | apply cn | apply cq | apply cb | apply ck | apply cl | apply cx))
  apply cr
  refine s_ p_as ?_
  (repeat (first | apply cn | apply cq | apply cb | apply ck | apply cl | apply cx))
  apply cr
  refine s_ p_mv ?_
  (first | refine s_ p_ln ?_ | refine s_ p_lr ?_)
  refine s_ p_mv ?_
  (repeat (first | apply cn | apply cq | apply cb | apply ck | apply cl | apply cx))
  apply sim_loopL (σ := Nat) (ok := fun k => k ≤ rows.length) (env := fun k => [(11, ei k), (3, ei ((catL (rows.take k)).length : Nat)), (10, ei (rows.length : Nat)), (9, .sl f (rows.map erow)), (0, .sl f (rows.map erow))]) (heap := fun _ => []) (μ := fun k => rows.length - k) (s0 := 0)
  · exact Nat.zero_le _
  · refine ⟨?_, ?_, ?_, eL⟩
    · apply le_get; ((repeat (apply gS; rfl)); exact gZ)
      exact Le.refl _
    · apply le_get; ((repeat (apply gS; rfl)); exact gZ)
      exact Le.refl _
    · apply le_get; ((repeat (apply gS; rfl)); exact gZ)
      exact Le.of_eq (by simp [ei])
  · exact kR
  intro k hk
  (repeat (first | apply cn | apply cq | apply cb | apply ck | apply cl | apply cx))
  apply cr
  refine s_ p_lt ?_
  (repeat (first | apply cn | apply cq | apply cb | apply ck | apply cl | apply cx))
  refine ci ?_ ?_
  · intro hlt
    have hlt' : k < rows.length := by omega
    have hnx := catL_next hlt'
    have hle := catL_le (rows := rows) (k + 1)
    rw [hnx, List.length_append] at hle
    (repeat (first | apply cn | apply cq | apply cb | apply ck | apply cl | apply cx))
    apply cr
    (first | refine s_ (p_ix hix) ?_ | refine s_ (p_ix hix2) ?_ | refine s_ p_ia ?_ | refine s_ p_ir ?_)
    (first | refine s_ p_ld ?_ | refine s_ p_lo ?_)
    refine s_ p_as ?_
    (repeat (first | apply cn | apply cq | apply cb | apply ck | apply cl | apply cx))
    apply cr
    refine s_ p_mv ?_
    refine s_ p_mv ?_
    (first | refine s_ p_ln ?_ | refine s_ p_lr ?_)
    refine s_ p_ad ?_
    refine s_ p_as ?_
    (repeat (first | apply cn | apply cq | apply cb | apply ck | apply cl | apply cx))
    apply cr
    refine s_ p_mv ?_
    refine s_ p_lt ?_
    (repeat (first | apply cn | apply cq | apply cb | apply ck | apply cl | apply cx))
    refine ci ?_ ?_
    · intro h; exact absurd h (by simp only [List.length_map]; omega)
    intro _
    (repeat (first | apply cn | apply cq | apply cb | apply ck | apply cl | apply cx))
    apply cr
    refine s_ p_ad ?_
    refine s_ p_mv ?_
    (repeat (first | apply cn | apply cq | apply cb | apply ck | apply cl | apply cx))
    refine ⟨k + 1, by omega, (by simp only []; omega), ⟨?_, ?_, eL⟩, kR⟩
    · apply le_get; ((repeat (apply gS; rfl)); exact gZ)
      exact Le.refl _
    · apply le_get; ((repeat (apply gS; rfl)); exact gZ)
      exact Le.of_eq (by rw [hnx]; simp [ei])
  intro hge
  have hke : k = rows.length := by omega
  subst hke
  rw [List.take_length]
  (repeat (first | apply cn | apply cq | apply cb | apply ck | apply cl | apply cx))
  apply cr
  refine s_ p_mv ?_
  refine e_cH (Hs := []) (Hr := []) (growB_fn (catL rows).length (by omega)) (.refl _) (fun r H' ⟨v, hr, ho⟩ => ?_)
  subst hr
  refine s_ p_as ?_
  (repeat (first | apply cn | apply cq | apply cb | apply ck | apply cl | apply cx))
  apply cr
  refine s_ p_mv ?_
  (first | refine s_ p_ln ?_ | refine s_ p_lr ?_)
  refine s_ p_mv ?_
  (repeat (first | apply cn | apply cq | apply cb | apply ck | apply cl | apply cx))
  apply sim_loopL (σ := Nat × Value × Heap) (ok := fun s => s.1 ≤ rows.length ∧ OB (catL (rows.take s.1)) s.2.1 s.2.2) (env := fun s => [(27, ei s.1), (6, .v s.2.1), (26, ei (rows.length : Nat)), (25, .sl f (rows.map erow))]) (heap := fun s => s.2.2) (μ := fun s => rows.length - s.1) (s0 := (0, v, H'))
  · exact ⟨Nat.zero_le _, ho⟩
  · refine ⟨?_, ?_, ?_, eL⟩
    · apply le_get; ((repeat (apply gS; rfl)); exact gZ)
      exact Le.refl _
    · apply le_get; ((repeat (apply gS; rfl)); exact gZ)
      exact Le.refl _
    · apply le_get; ((repeat (apply gS; rfl)); exact gZ)
      exact Le.of_eq (by simp [ei])
  · rw [List.append_nil]; exact kR
  rintro ⟨k, v, H⟩ ⟨hk, ho⟩
  simp only at hk ho
  (repeat (first | apply cn | apply cq | apply cb | apply ck | apply cl | apply cx))
  apply cr
  refine s_ p_lt ?_
  (repeat (first | apply cn | apply cq | apply cb | apply ck | apply cl | apply cx))
  refine ci ?_ ?_
  · intro hlt
    simp only at hlt
    have hlt' : k < rows.length := by omega
    have hnx := catL_next hlt'
    have hle := catL_le (rows := rows) (k + 1)
    rw [hnx, List.length_append] at hle
    (repeat (first | apply cn | apply cq | apply cb | apply ck | apply cl | apply cx))
    apply cr
    (first | refine s_ (p_ix hix) ?_ | refine s_ (p_ix hix2) ?_ | refine s_ p_ia ?_ | refine s_ p_ir ?_)
    (first | refine s_ p_ld ?_ | refine s_ p_lo ?_)
    refine s_ p_as ?_
    (repeat (first | apply cn | apply cq | apply cb | apply ck | apply cl | apply cx))
    apply cr
    refine s_ p_mv ?_
    refine s_ p_mv ?_
    refine e_osA (ho := ho) (A := []) (B := []) (eb1 _) (fun v' Hs' ho' => ?_) (hH := by simp)
    refine s_ p_as ?_
    (repeat (first | apply cn | apply cq | apply cb | apply ck | apply cl | apply cx))
    apply cr
    refine s_ p_ad ?_
    refine s_ p_mv ?_
    (repeat (first | apply cn | apply cq | apply cb | apply ck | apply cl | apply cx))
    refine ⟨(k + 1, v', Hs'), ⟨by simp only; omega, ?_⟩, (by simp only []; omega), ⟨?_, ?_, eL⟩, by simp only [List.nil_append, List.append_nil]; exact kR⟩
    · simp only
      rw [hnx]
      unfold OB
      rw [List.map_append]
      exact ho'
    · apply le_get; ((repeat (apply gS; rfl)); exact gZ)
      exact Le.refl _
    · apply le_get; ((repeat (apply gS; rfl)); exact gZ)
      exact Le.refl _
  intro hge
  simp only at hge
  have hke : k = rows.length := by omega
  subst hke
  rw [List.take_length] at ho
  (repeat (first | apply cn | apply cq | apply cb | apply ck | apply cl | apply cx))
  apply cr
  refine s_ p_mv ?_
  refine s_ p_as ?_
  (repeat (first | apply cn | apply cq | apply cb | apply ck | apply cl | apply cx))
  (apply sim_ret; (try simp only [blockΨ_ret, thenΨ_ret, loopL_ret, cutΨ_ret, cutE_ret]))
  exact rh kR ⟨v, rfl, ho⟩ (Le.refl _)
end Go.Proofs.YtbdpfclnomiicaaGreat
end
section
set_option maxRecDepth 16000
namespace Go.Proofs.YtbdpfclnomiicaaGreat
open Go.Cap
set_option linter.unusedSimpArgs false
set_option linter.unusedVariables false
attribute [local irreducible] POp SimFrom DrawFrom EOp Sim FnH T.gp
theorem lebF_big {k u : Nat} (h : 128 ≤ u) : lebF (k + 1) u = UInt8.ofNat (u % 128 + 128) :: lebF k (u / 128) := by rw [lebF, if_pos h]
theorem lebF_small {k u : Nat} (h : u < 128) : lebF k u = [UInt8.ofNat u] := by
  cases k with
  | zero => rfl
  | succ k => rw [lebF, if_neg (by omega)]
theorem byte_more (u : Nat) : bOr .u8 (IntKind.u8.wrap ((u : Int).tmod 128)) 128 = ((UInt8.ofNat (u % 128 + 128)).toNat : Int) := by
  have key : ∀ i : Fin 128, bOr .u8 (IntKind.u8.wrap ((i.val : Nat) : Int)) 128 = ((UInt8.ofNat (i.val + 128)).toNat : Int) := by decide +kernel
  have h := key ⟨u % 128, Nat.mod_lt _ (by omega)⟩
  rw [show (u : Int).tmod 128 = ((u % 128 : Nat) : Int) from rfl]
  exact h
theorem byte_last {u : Nat} (h : u < 128) : IntKind.u8.wrap (u : Int) = ((UInt8.ofNat u).toNat : Int) := by
  have key : ∀ i : Fin 128, IntKind.u8.wrap ((i.val : Nat) : Int) = ((UInt8.ofNat i.val).toNat : Int) := by decide +kernel
  exact key ⟨u, h⟩
theorem shr_seven (u : Nat) : bShr .u64 (u : Int) 7 = ((u / 128 : Nat) : Int) := by
  unfold bShr
  rw [show min (7 : Int).toNat IntKind.u64.bits = 7 by rfl, show (2 : Int) ^ 7 = 128 by rfl, Int.fdiv_eq_ediv_of_nonneg _ (by omega)]
  omega
theorem pow_next (k : Nat) : 2 ^ (7 * (k + 1 + 1)) = 2 ^ (7 * (k + 1)) * 128 := by
  rw [show 7 * (k + 1 + 1) = 7 * (k + 1) + 7 by omega, Nat.pow_add]
theorem intB_len (n : Int) : 1 ≤ (intB n).length ∧ (intB n).length ≤ 10 := lebF_len 9 (turnF n)
structure IntS where
  k : Nat
  u : Nat
  out : List UInt8
  v : Value
  H : Heap
theorem int_fn (f : Bool) (b : List UInt8) (n : Int) (h0 : -9223372036854775808 ≤ n) (h1 : n ≤ 9223372036854775807) (hl : b.length ≤ 100000000000) : FnP Tryz.prog 96 [.sl f (b.map eb), ei n] (fun r => r = bl (b ++ intB n)) := by
  have hlen := intB_len n
  have htl := turnF_lt h0 h1
  refine fn_enter Tryz.func96 (by rfl) (by rfl) ?_
  intro S0 w0
  show Sim _ _ [(0, T.sl f (b.map eb)), (1, ei n)] _ _
  (repeat (first | apply cn | apply cq | apply cb | apply ck | apply cl | apply cx))
  apply cr
  refine s_ p_as ?_
  (repeat (first | apply cn | apply cq | apply cb | apply ck | apply cl | apply cx))
  apply cr
  refine s_ p_mv ?_
  refine e_cH (Hs := []) (Hr := []) (cloneB_fn f b (by omega)) (.refl _) (fun r H ⟨v, hr, ho⟩ => ?_)
  subst hr
  refine s_ p_as ?_
  (repeat (first | apply cn | apply cq | apply cb | apply ck | apply cl | apply cx))
  apply cr
  refine s_ p_mv ?_
  refine s_ (p_ca (turned_fn n h0 h1)) ?_
  refine s_ p_as ?_
  (repeat (first | apply cn | apply cq | apply cb | apply ck | apply cl | apply cx))
  apply sim_loopL (σ := IntS) (ok := fun s => OB s.out s.v s.H ∧ s.out ++ lebF s.k s.u = b ++ intB n ∧ s.u < 2 ^ (7 * (s.k + 1))) (env := fun s => [(6, .v (.int .u64 s.u)), (5, .v s.v)]) (heap := fun s => s.H) (μ := fun s => s.k) (s0 := ⟨9, turnF n, b, v, H⟩)
  · exact ⟨ho, rfl, by simp only; omega⟩
  · exact eL
  · rw [List.append_nil]; exact kR
  rintro ⟨k, u, out, v, H⟩ ⟨ho, he, hu⟩
  simp only at ho he hu
  show Sim _ _ [(6, .v (.int .u64 u)), (5, .v v)] H _
  have hol : out.length ≤ 100000000010 := by
    have := congrArg List.length he
    simp only [List.length_append] at this
    omega
  (repeat (first | apply cn | apply cq | apply cb | apply ck | apply cl | apply cx))
  apply cr
  refine s_ p_mv ?_
  refine s_ p_ge ?_
  (repeat (first | apply cn | apply cq | apply cb | apply ck | apply cl | apply cx))
  refine ci ?_ ?_
  · intro hge
    have hge' : 128 ≤ u := by omega
    cases k with
    | zero => exact absurd hu (by omega)
    | succ k =>
      (repeat (first | apply cn | apply cq | apply cb | apply ck | apply cl | apply cx))
      apply cr
      refine s_ p_mv ?_
      refine s_ p_mv ?_
      refine s_ p_re ?_
      refine s_ p_cv ?_
      refine s_ p_oor ?_
      rw [byte_more u]
      refine s_ p_bs ?_
      refine e_osA (ho := ho) (A := []) (B := []) (ys := [eb (UInt8.ofNat (u % 128 + 128))]) (f := true) (eb1 _) (fun v' Hs' ho' => ?_) (hH := by simp)
      refine s_ p_as ?_
      (repeat (first | apply cn | apply cq | apply cb | apply ck | apply cl | apply cx))
      apply cr
      refine s_ p_mv ?_
      refine s_ p_shr ?_
      rw [shr_seven u]
      refine s_ p_as ?_
      (repeat (first | apply cn | apply cq | apply cb | apply ck | apply cl | apply cx))
      refine ⟨⟨k, u / 128, out ++ [UInt8.ofNat (u % 128 + 128)], v', Hs'⟩, ⟨?_, ?_, ?_⟩, (by simp only []; omega), eL, by simp only [List.nil_append, List.append_nil]; exact kR⟩
      · simp only
        unfold OB
        rw [List.map_append]
        exact ho'
      · simp only
        rw [← he, lebF_big hge', List.append_assoc]
        rfl
      · simp only
        rw [pow_next] at hu
        exact Nat.div_lt_of_lt_mul (by omega)
  · intro hlt
    have hlt' : u < 128 := by omega
    (repeat (first | apply cn | apply cq | apply cb | apply ck | apply cl | apply cx))
    apply cr
    refine s_ p_mv ?_
    refine s_ p_mv ?_
    refine s_ p_cv ?_
    rw [byte_last hlt']
    refine s_ p_bs ?_
    refine e_osA (ho := ho) (A := []) (B := []) (ys := [eb (UInt8.ofNat u)]) (f := true) (eb1 _) (fun v' Hs' ho' => ?_) (hH := by simp)
    rw [lebF_small hlt'] at he
    have ho2 : OB (b ++ intB n) v' Hs' := by rw [← he]; unfold OB; rw [List.map_append]; exact ho'
    refine e_cHA (FnH.lend (G := Hs') (LendsL.cons (ho2.lend fun _ h => h) LendsL.nil) (cloneB_fnD false (b ++ intB n) (by simp only [List.length_append]; omega))) (fun r H' ⟨hr1, hr2⟩ => ?_)
    subst hr1 hr2
    refine s_ p_as ?_
    (repeat (first | apply cn | apply cq | apply cb | apply ck | apply cl | apply cx))
    (apply sim_ret; (try simp only [blockΨ_ret, thenΨ_ret, loopL_ret, cutΨ_ret, cutE_ret]); first | refine rt ?_ | refine rn ?_)
    exact Le.refl _
theorem codeText_fn (f g : Bool) (b s : List UInt8) (hb : b.length ≤ 10000000000) (hs : s.length ≤ 10000000000) : FnP Tryz.prog 105 [.sl f (b.map eb), .sl g (s.map eb)] (fun r => r = bl (b ++ intB s.length ++ s)) := by
  have hlen := intB_len s.length
  have hi := int_fn f b (s.length : Nat) (by omega) (by omega) (by omega)
  have hc := concat_fn true [(false, b ++ intB s.length), (g, s)] (by simp [catL]; omega) (by simp)
  refine fn_enter Tryz.func105 (by rfl) (by rfl) ?_
  intro S0 w0
  show Sim _ _ [(0, T.sl f (b.map eb)), (1, T.sl g (s.map eb))] _ _
  (repeat (first | apply cn | apply cq | apply cb | apply ck | apply cl | apply cx))
  apply cr
  refine s_ p_as ?_
  (repeat (first | apply cn | apply cq | apply cb | apply ck | apply cl | apply cx))
  apply cr
  refine s_ p_mv ?_
  refine s_ p_mv ?_
  (first | refine s_ p_ln ?_ | refine s_ p_lr ?_)
  rw [List.length_map]
  refine s_ (p_ca (hi)) ?_
  refine s_ p_mv ?_
  refine s_ p_bs ?_
  refine s_ (p_ca (hc)) ?_
  refine s_ p_as ?_
  (repeat (first | apply cn | apply cq | apply cb | apply ck | apply cl | apply cx))
  (apply sim_ret; (try simp only [blockΨ_ret, thenΨ_ret, loopL_ret, cutΨ_ret, cutE_ret]); first | refine rt ?_ | refine rn ?_)
  exact Le.of_eq (by simp [catL, bl]; rfl)
end Go.Proofs.YtbdpfclnomiicaaGreat
end
