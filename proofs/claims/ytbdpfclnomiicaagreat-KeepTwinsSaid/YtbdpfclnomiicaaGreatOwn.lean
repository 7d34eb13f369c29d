/-
  The rules for blocks that a call owns: made, read, written, and given up, to be data that stays.
-/
import Derived.Test.YtbdpfclnomiicaaGreatCall
namespace Go.Cap
section
variable {K : Ctx} {P : Program} {t : Env} {H : Heap} {dst : Option Tmp} {tp : TypeId} {pos : String} {aft : Array Edge} {g : Option (Nat × Bool)} {N : Env → Heap → Prop}
variable {S : Nat → Prop} {w : World} {ty : TypeId}
theorem R1.fresh {a : Act} (h : R1 K t H a w S) {k : Blk} {cs : Array Value} (hs : cs.size = k.size) (hl : k.cells.length ≤ k.size) (hr : RelL S w k.cells (cs.toList.take k.cells.length))
    {d : T} {v : Value} (hd : okDst dst K.n = true) (hv : Rel S w d v) :
    R1 K (t.put dst d) ((w.heap.size, k) :: H) (a.put dst v) (w.alloc (.cells cs k.ty)) S := by
  have hm := mono_alloc h.wf (.cells cs k.ty) (S' := S) (fun _ h => h)
  refine ⟨by simp [h.size], (h.defers.step hm (objs_alloc w _) (by simp)).put hd, h.step.trans (step_mine h.wf _ []) (by simp), ⟨?_, ?_, ?_⟩, ?_, (h.env.mono hm).put (by rw [h.size]; exact hd) (hv.mono hm)⟩
  · show (w.heap.size :: keys H).Nodup
    rw [List.nodup_cons]
    exact ⟨fun hm' => by have := h.own.lt _ hm'; omega, h.own.nodup⟩
  · intro b hb hS
    rcases List.mem_cons.1 (show b ∈ w.heap.size :: keys H from hb) with hb | hb
    · have := h.wf b hS; omega
    · exact h.own.apart b hb hS
  · intro p hp
    rcases List.mem_cons.1 hp with hp | hp
    · subst hp
      exact ⟨cs, heap_new w _, hs, hl, hr.mono hm⟩
    · have h1 := h.own.has p hp
      exact h1.mono (heap_older w _ h1.lt) hm
  · intro b hb
    rcases List.mem_cons.1 (show b ∈ w.heap.size :: keys H from hb) with hb | hb
    · exact .inr (by have := h.step.size; omega)
    · exact h.mine b hb
theorem fresh_ne {a : Act} (h : R1 K t H a w S) : ∀ b ∈ keys H, ¬ b = w.heap.size := fun b hb => by have := h.own.lt b hb; omega
theorem eop_alloc {z : List T} [hz : ZCellsC K.P ty z] {kd : Tmp} (hd : Nat.blt kd K.n = true)
    (h : ∀ b, (∀ c ∈ keys H, ¬ c = b) → N ((kd, .v (.pointer (some ⟨b, 0, none⟩))) :: t) ((b, ⟨ty, z, z.length⟩) :: H)) : EOp K t H ⟨some kd, .alloc ty, tp, pos, aft, g⟩ N := by
  refine EOp.of_w (fun c e => by cases e) ?_
  intro a w ⟨S, hr⟩ Kc Q hk
  obtain ⟨i, zv, hi, hzz, rfl, h0⟩ := zcells_of hz.h
  have hti : ∀ w, (typeInfo ty).run K.P w = .ok i w := fun w => by simp [typeInfo, hi]
  have hrun : (execOp a.eval ⟨some kd, .alloc ty, tp, pos, aft, g⟩).run K.P w = .ok (.value (.pointer (some ⟨w.heap.size, 0, none⟩))) (w.alloc (.cells zv.cells ty)) := by
    simp [execOp, Instr.alloc, zeroValue, hti, hzz, newVar, newRow]
  unfold Oper.wp
  rw [hrun]
  have hl := ofVal_cells zv
  refine hk _ _ _ _ (h w.heap.size (fresh_ne hr)) ⟨S, hr.fresh (dst := some kd) (k := ⟨ty, (T.ofVal zv).cells, (T.ofVal zv).cells.length⟩) (by simp [hl]) (Nat.le_refl _) ?_ hd (.v _)⟩
  simp only
  rw [List.take_of_length_le (by simp [hl])]
  exact (Rel.ofVal zv).cells h0
theorem eop_box0 {x : Operand} {d : T} {cs : List T} (hx : t.ev x = d) (hc : d.cells = cs) (hp : 0 < cs.length) {kd : Tmp} (hd : Nat.blt kd K.n = true)
    (h : ∀ b, (∀ c ∈ keys H, ¬ c = b) → N ((kd, .v (.pointer (some ⟨b, 0, none⟩))) :: t) ((b, ⟨ty, cs, cs.length⟩) :: H)) : EOp K t H ⟨some kd, .box ty x, tp, pos, aft, g⟩ N := by
  subst hc
  refine EOp.of_w (fun c e => by cases e) ?_
  intro a w ⟨S, hr⟩ Kc Q hk
  have hxr := hr.env.ev x
  rw [hx] at hxr
  have hrun : (execOp a.eval ⟨some kd, .box ty x, tp, pos, aft, g⟩).run K.P w = .ok (.value (.pointer (some ⟨w.heap.size, 0, none⟩))) (w.alloc (.cells (a.eval x).cells ty)) := by
    simp [execOp, Instr.box, newVar, newRow]
  unfold Oper.wp
  rw [hrun]
  have hl := hxr.size hp
  refine hk _ _ _ _ (h w.heap.size (fresh_ne hr)) ⟨S, hr.fresh (dst := some kd) (k := ⟨ty, d.cells, d.cells.length⟩) (by simp [hl]) (Nat.le_refl _) ?_ hd (.v _)⟩
  simp only
  rw [List.take_of_length_le (by simp [hl])]
  exact hxr.cells hp
theorem eop_box {x : Operand} {cs : List T} (hx : t.ev x = .agg cs) (hp : Nat.blt 0 cs.length = true) {kd : Tmp} (hd : Nat.blt kd K.n = true)
    (h : ∀ b, (∀ c ∈ keys H, ¬ c = b) → N ((kd, .v (.pointer (some ⟨b, 0, none⟩))) :: t) ((b, ⟨ty, cs, cs.length⟩) :: H)) : EOp K t H ⟨some kd, .box ty x, tp, pos, aft, g⟩ N :=
  eop_box0 (cs := cs) hx rfl (by simpa using hp) hd h
theorem eop_box1 {x : Operand} {d : T} (hx : t.ev x = d) (hl : d.isLeaf = true) {kd : Tmp} (hd : Nat.blt kd K.n = true)
    (h : ∀ b, (∀ c ∈ keys H, ¬ c = b) → N ((kd, .v (.pointer (some ⟨b, 0, none⟩))) :: t) ((b, ⟨ty, [d], 1⟩) :: H)) : EOp K t H ⟨some kd, .box ty x, tp, pos, aft, g⟩ N :=
  eop_box0 (cs := [d]) hx (by cases d with
    | v u => cases u <;> simp_all [T.isLeaf, T.cells, Value.cells]
    | _ => simp_all [T.isLeaf, T.cells]) (by simp) hd h
theorem len_flat {α : Type} (l : List α) (n : Nat) : (List.replicate n l).flatten.length = n * l.length := by
  induction n with
  | zero => simp
  | succ n ih => rw [List.replicate_succ, List.flatten_cons, List.length_append, ih, Nat.succ_mul]; omega
theorem relL_flat {xs : List T} {ys : List Value} (h : RelL S w xs ys) (n : Nat) : RelL S w (List.replicate n xs).flatten (List.replicate n ys).flatten := by
  induction n with
  | zero => exact .nil
  | succ n ih => rw [List.replicate_succ, List.replicate_succ, List.flatten_cons, List.flatten_cons]; exact h.append ih
theorem eop_make {x y : Operand} {n c : Int} {d : T} {by_ : Nat} {k k' : IntKind} (hx : t.ev x = .v (.int k n)) (hy : t.ev y = .v (.int k' c)) [hz : ElemZC K.P ty d by_] (h0 : 0 ≤ n) (hnc : n ≤ c)
    (hb : c.toNat * by_ ≤ 281474976710656) (hm : c ≤ 9223372036854775807) {kd : Tmp} (hd : Nat.blt kd K.n = true)
    (h : ∀ b, (∀ c ∈ keys H, ¬ c = b) → N ((kd, .v (.slice (some ⟨b, 0, none⟩) n.toNat c.toNat)) :: t) ((b, ⟨elemTy K.P ty, (List.replicate c.toNat d.cells).flatten, c.toNat * d.cells.length⟩) :: H)) :
    EOp K t H ⟨some kd, .makeSlice ty x y, tp, pos, aft, g⟩ N := by
  refine EOp.of_w (fun c e => by cases e) ?_
  intro a w ⟨S, hr⟩ Kc Q hk
  have h1 := hr.env.ev x; rw [hx] at h1
  have h2 := hr.env.ev y; rw [hy] at h2
  obtain ⟨e, i, z, hu, hi, hzz, hs, hp, rfl, hby⟩ := elemZ_of hz.h
  obtain ⟨m, rfl⟩ := Int.eq_ofNat_of_zero_le h0
  obtain ⟨l, rfl⟩ := Int.eq_ofNat_of_zero_le (Int.le_trans h0 hnc)
  have hrun := run_mk hu hi hzz hs (k := k) (k' := k') (n := m) (c := l) (by omega) (by omega) (by rw [hby, Nat.mul_comm]; exact hb) w
  have hee : elemTy K.P ty = e := by unfold elemTy; rw [hu]
  unfold Oper.wp
  simp only [execOp, h1.v_eq, h2.v_eq]
  rw [Sem.run_bind, hrun]
  have hl := ofVal_cells z
  have hlen := len_flat (T.ofVal z).cells l
  have hz' : RelL S w (T.ofVal z).cells z.cells.toList := (Rel.ofVal z).cells (by omega)
  have hrel := relL_flat hz' l
  have hk2 := hk _ _ _ _ (h w.heap.size (fresh_ne hr)) ⟨S, hr.fresh (dst := some kd) (k := ⟨elemTy K.P ty, (List.replicate l (T.ofVal z).cells).flatten, l * (T.ofVal z).cells.length⟩)
    (cs := (Array.range (l * z.cells.size)).map fun j => z.cells[j % z.cells.size]!) (by simp [hl]) (by simp only; rw [hlen]; exact Nat.le_refl _) (by
      simp only
      rw [made_cells, List.take_of_length_le (by rw [hlen, len_flat_replicate, hl]; simp)]
      exact hrel) hd (.v (.slice (some ⟨w.heap.size, 0, none⟩) m l))⟩
  rw [hee] at hk2
  exact hk2
theorem Own.at {i : Nat} {b : Nat} {k : Blk} (h : Own S w H) (hi : H[i]? = some (b, k)) : Has S w b k := h.has (b, k) (List.mem_of_getElem? hi)
theorem take_cells {cs : Array Value} {xs : List T} (h : RelL S w xs (cs.toList.take xs.length)) {o n : Nat} (hn : o + n ≤ xs.length) :
    RelL S w ((xs.drop o).take n) ((cs.toList.drop o).take n) := by
  have := (h.drop o).take n
  rwa [List.drop_take, List.take_take, Nat.min_eq_left (by omega)] at this
theorem pop_load_own_agg {x : Operand} {b o n : Nat} {k : Blk} (i : Nat) (hx : t.ev x = .v (.pointer (some ⟨b, o, none⟩))) (hi : H[i]? = some (b, k)) [hk : AggC P ty n]
    (hn : Nat.ble (o + n) k.cells.length = true) : POp P t H ⟨dst, .load ty x, tp, pos, aft, g⟩ (.agg ((k.cells.drop o).take n)) :=
  POp.still fun S w a _ ho hr => by
    have h1 := hr x (by simp [Op.operands]); rw [hx] at h1
    obtain ⟨hag, inf, hinf, hs⟩ := agg_of hk.h
    obtain ⟨cs, hb, hsz, hl, hrl⟩ := ho.at hi
    have hn' : o + n ≤ k.cells.length := Nat.le_of_ble_eq_true hn
    have hrel := take_cells hrl hn'
    refine ⟨.agg ((cs.toList.drop o).take n).toArray, ?_, .agg _ _ hrel⟩
    have := run_cells (P := P) (w := w) (o := o) (n := n) hb ((cs.toList.drop o).take n) (by simp; omega) rfl
    simp only [execOp, h1.v_eq, Instr.loadAt, Instr.sureAddr, loadVar, Sem.run_bind, Sem.run_pure, Result.andThen_ok, hag w, if_true, run_sizeOf hinf, hs, this]
theorem pop_load_own {x : Operand} {b o : Nat} {k : Blk} {d : T} (i : Nat) (hx : t.ev x = .v (.pointer (some ⟨b, o, none⟩))) (hi : H[i]? = some (b, k)) (hd : k.cells[o]? = some d) (hk : leafTy P ty = true) :
    POp P t H ⟨dst, .load ty x, tp, pos, aft, g⟩ d :=
  POp.still fun S w a _ ho hr => by
    have h1 := hr x (by simp [Op.operands]); rw [hx] at h1
    obtain ⟨cs, hb, hsz, hl, hrl⟩ := ho.at hi
    obtain ⟨y, hy, hr'⟩ := hrl.get hd
    refine ⟨y, ?_, hr'⟩
    rw [List.getElem?_take] at hy
    split at hy
    · have hcell' : w.cell? ⟨b, o, none⟩ = some y := by rw [cell_block hb]; simpa using hy
      simp [execOp, h1.v_eq, Instr.loadAt, Instr.sureAddr, loadVar, leaf_of hk w, run_load, hcell']
    · cases hy
theorem pop_fieldAddr_raw {x : Operand} {f b o off n : Nat} {ag : Bool} (hx : t.ev x = .v (.pointer (some ⟨b, o, none⟩))) [hf : FldC P ty f off n ag] (hn : Nat.blt 0 n = true) :
    POp P t H ⟨dst, .fieldAddr ty x f, tp, pos, aft, g⟩ (.v (.pointer (some ⟨b, o + off, none⟩))) :=
  POp.still fun S w a _ _ hr => by
    have h1 := hr x (by simp [Op.operands]); rw [hx] at h1
    obtain ⟨fs, fx, i, hus, hfx, hoff, hi, hsz, _⟩ := fld_of hf.h
    have : ¬ n = 0 := by have : 0 < n := by simpa using hn
                         omega
    exact ⟨_, by simp [execOp, h1.v_eq, Instr.fieldAt, run_underlying hus, hfx, Instr.sureAddr, fieldPlace, run_sizeOf hi, hsz, hoff, Addr.add_mk, this], .v _⟩
theorem pop_indexAddr_raw {x y : Operand} {b o n c k : Nat} {i : Int} {kd : IntKind} (hx : t.ev x = .v (.slice (some ⟨b, o, none⟩) n c)) (hy : t.ev y = .v (.int kd i)) [hs : ElemSzC P ty k]
    (h0 : 0 ≤ i) (h1 : i < n) : POp P t H ⟨dst, .indexAddr ty x y, tp, pos, aft, g⟩ (.v (.pointer (some ⟨b, o + i.toNat * k, none⟩))) :=
  POp.still fun S w a _ _ hr => by
    have hx' := hr x (by simp [Op.operands]); rw [hx] at hx'
    have hy' := hr y (by simp [Op.operands]); rw [hy] at hy'
    obtain ⟨e, inf, hu, hi, hsz⟩ := elem_of hs.h
    exact ⟨_, by simp [execOp, hx'.v_eq, hy'.v_eq, Instr.indexAt, asIntOf, run_underlying hu, run_sizeOf hi, hsz, h0, h1, Addr.add_mk], .v _⟩
theorem pop_indexAddr_arr {x y : Operand} {b o n k : Nat} {i : Int} {kd : IntKind} (hx : t.ev x = .v (.pointer (some ⟨b, o, none⟩))) (hy : t.ev y = .v (.int kd i)) [hs : ArrC P ty n k]
    (h0 : 0 ≤ i) (h1 : i < n) : POp P t H ⟨dst, .indexAddr ty x y, tp, pos, aft, g⟩ (.v (.pointer (some ⟨b, o + i.toNat * k, none⟩))) :=
  POp.still fun S w a _ _ hr => by
    have hx' := hr x (by simp [Op.operands]); rw [hx] at hx'
    have hy' := hr y (by simp [Op.operands]); rw [hy] at hy'
    obtain ⟨e, inf, hu, hi, hsz⟩ := arr_of hs.h
    exact ⟨_, by simp [execOp, hx'.v_eq, hy'.v_eq, Instr.indexAt, asIntOf, run_underlying hu, run_sizeOf hi, hsz, h0, h1, Addr.add_mk, Instr.sureAddr], .v _⟩
def lay {α : Type} (l : List α) (o : Nat) (xs : List α) : List α := l.take o ++ xs ++ l.drop (o + xs.length)
theorem keys_set {b : Nat} {k k' : Blk} {i : Nat} (hi : H[i]? = some (b, k)) : keys (H.set i (b, k')) = keys H := by
  unfold keys
  rw [List.map_set]
  refine List.ext_getElem? fun j => ?_
  rw [List.getElem?_set]
  split
  · rename_i e; subst e
    simp [hi]
    exact (List.getElem?_eq_some_iff.1 hi).1
  · rfl
theorem lay_length {α : Type} {l xs : List α} {o : Nat} (h : o + xs.length ≤ l.length) : (lay l o xs).length = l.length := by
  simp [lay]; omega
theorem relL_lay {xs ys : List T} {us vs : List Value} (h : RelL S w xs us) (h' : RelL S w ys vs) (o : Nat) : RelL S w (lay xs o ys) (lay us o vs) := by
  unfold lay
  rw [h'.length]
  exact ((h.take o).append h').append (h.drop _)
theorem R1.write {a : Act} (h : R1 K t H a w S) {i b o : Nat} {k : Blk} {xs : List T} {us : List Value} {w' : World} {cs' : Array Value} (hi : H[i]? = some (b, k)) (ho1 : o ≤ k.cells.length) (ho : o + xs.length ≤ k.size)
    (hw1 : w'.os = w.os) (hw2 : w'.tape = w.tape) (hw3 : w'.output = w.output) (hsz : w'.heap.size = w.heap.size) (hoth : ∀ c, ¬ c = b → w'.heap[c]? = w.heap[c]?)
    (hb : w'.heap[b]? = some (.cells cs' k.ty (0, 0))) (hcs : ∀ cs : Array Value, w.heap[b]? = some (.cells cs k.ty (0, 0)) → cs'.toList = lay cs.toList o us) (hx : RelL S w xs us) :
    R1 K t (H.set i (b, ⟨k.ty, lay k.cells o xs, k.size⟩)) a w' S := by
  have hbk : b ∈ keys H := List.mem_map.2 ⟨_, List.mem_of_getElem? hi, rfl⟩
  have hnS : ¬ S b := h.own.apart b hbk
  have hm : ∀ c, S c → S c ∧ w'.heap[c]? = w.heap[c]? := fun c hc => ⟨hc, hoth c (fun e => hnS (e ▸ hc))⟩
  have hkeys := keys_set (k' := ⟨k.ty, lay k.cells o xs, k.size⟩) hi
  obtain ⟨cs, hc1, hc2, hc3, hc4⟩ := h.own.at hi
  have hcs2 := hcs cs hc1
  have hul := hx.length
  have hst : Step [b] S w S w' := ⟨hw1, hw2, hw3, by omega, fun c _ hn => hoth c (by simpa using hn), fun _ h => h, fun _ h => .inl h, fun c hc => by have := h.wf c hc; omega⟩
  refine ⟨h.size, h.defers.step hm (hst.objs fun c hc => ⟨cs, _, _, by simp at hc; subst hc; exact hc1⟩) hst.size, h.step.trans hst (fun c hc => by simp at hc; subst hc; exact h.mine c hbk), ⟨?_, ?_, ?_⟩, by rw [hkeys]; exact h.mine, h.env.mono hm⟩
  · rw [hkeys]; exact h.own.nodup
  · rw [hkeys]; exact h.own.apart
  · intro p hp
    obtain ⟨j, hj⟩ := List.mem_iff_getElem?.1 hp
    rw [List.getElem?_set] at hj
    by_cases hij : i = j
    · subst hij
      rw [if_pos rfl, if_pos (List.getElem?_eq_some_iff.1 hi).1] at hj
      cases hj
      refine ⟨cs', hb, ?_, ?_, ?_⟩
      · have hll : (lay cs.toList o us).length = cs.toList.length := lay_length (by rw [show cs.toList.length = cs.size from Array.length_toList]; omega)
        have := congrArg List.length hcs2
        rw [hll] at this
        simpa [hc2] using this
      · simp only [lay, List.length_append, List.length_take, List.length_drop]; omega
      · simp only
        rw [hcs2]
        have := relL_lay hc4 hx o
        have e : (lay cs.toList o us).take (lay k.cells o xs).length = lay (cs.toList.take k.cells.length) o us := by
          have hcsl : cs.toList.length = k.size := by rw [Array.length_toList]; exact hc2
          refine List.ext_getElem? fun m => ?_
          simp only [lay, List.getElem?_take, List.getElem?_append, List.length_append, List.length_take, List.length_drop, List.getElem?_drop, hcsl]
          rw [Nat.min_eq_left (show o ≤ k.size by omega), Nat.min_eq_left hc3, Nat.min_eq_left (show o ≤ k.cells.length by omega)]
          repeat' split
          all_goals first | rfl | omega | (simp; omega)
        rw [e]
        exact this.mono hm
    · rw [if_neg hij] at hj
      have hpm : p ∈ H := List.mem_of_getElem? hj
      have hne : ¬ p.1 = b := by
        intro e
        have hnd := h.own.nodup
        have h1 : (keys H)[i]? = some b := by simp [keys, hi]
        have h2 : (keys H)[j]? = some b := by simp [keys, hj, e]
        have h3 := (List.getElem?_eq_some_iff.1 h1)
        have h4 := (List.getElem?_eq_some_iff.1 h2)
        exact hij ((List.getElem_inj hnd).1 (h3.2.trans h4.2.symm))
      exact (h.own.has p hpm).mono (hoth _ hne) hm
theorem run_storeCells {cs : Array Value} {b o : Nat} {ty : TypeId} (hb : w.heap[b]? = some (.cells cs ty (0, 0))) (us : List Value) (ho : o + us.length ≤ cs.size) (h1 : ∀ v ∈ us, v.oneCell' = true) :
    (storeCells ⟨b, o, none⟩ us).run P w = .ok () (w.setRow b (lay cs.toList o us).toArray) := by
  have := run_storeCells_at P b o ty us 0 cs w hb (by omega) h1
  simpa [lay] using this
theorem setRow_spec {cs cs' : Array Value} {b : Nat} {ty : TypeId} {fz : Nat × Nat} (hb : w.heap[b]? = some (.cells cs ty fz)) :
    (w.setRow b cs').heap[b]? = some (.cells cs' ty fz) ∧ (∀ c, ¬ c = b → (w.setRow b cs').heap[c]? = w.heap[c]?) ∧ (w.setRow b cs').heap.size = w.heap.size ∧
      (w.setRow b cs').os = w.os ∧ (w.setRow b cs').tape = w.tape ∧ (w.setRow b cs').output = w.output := by
  refine ⟨?_, fun c hc => ?_, by simp, rfl, rfl, rfl⟩
  · simp [World.setRow, Array.getElem?_modify, hb]
  · simp only [World.setRow, Array.getElem?_modify]
    rw [if_neg (by omega)]
def allLeaf (xs : List T) : Bool := xs.all T.isLeaf
theorem relL_leaf {xs : List T} {us : List Value} (h : RelL S w xs us) (hl : allLeaf xs = true) : ∀ v ∈ us, v.oneCell' = true := by
  intro v hv
  obtain ⟨j, hj⟩ := List.mem_iff_getElem?.1 hv
  have hlen := h.length
  have hjl : j < xs.length := by have := (List.getElem?_eq_some_iff.1 hj).1; omega
  obtain ⟨y, hy, hr⟩ := h.get (i := j) (x := xs[j]) (by simp [hjl])
  rw [hj] at hy; cases hy
  exact (hr.leaf_cells (List.all_eq_true.1 hl _ (List.getElem_mem hjl))).2
def sizeT (P : Program) (t : TypeId) : Option Nat := (P.info? t).map (·.size)
theorem eop_store {x y : Operand} {b o : Nat} {k : Blk} {d : T} (i : Nat) (hx : t.ev x = .v (.pointer (some ⟨b, o, none⟩))) (hi : H[i]? = some (b, k)) (hy : t.ev y = d)
    (hs : sizeT K.P ty = some d.cells.length) (hp : Nat.blt 0 d.cells.length = true) (hl : allLeaf d.cells = true) (ho : o + d.cells.length ≤ k.cells.length)
    (h : N t (H.set i (b, ⟨k.ty, lay k.cells o d.cells, k.size⟩))) : EOp K t H ⟨none, .store ty x y, tp, pos, aft, g⟩ N := by
  refine EOp.of_w (fun c e => by cases e) ?_
  intro a w ⟨S, hr⟩ Kc Q hk
  have h1 := hr.env.ev x; rw [hx] at h1
  have h2 := hr.env.ev y; rw [hy] at h2
  have hp' : 0 < d.cells.length := by simpa using hp
  obtain ⟨cs, hb, hsz, hle, hrl⟩ := hr.own.at hi
  have hrc := h2.cells hp'
  have hsize := h2.size hp'
  obtain ⟨inf, hinf, his⟩ : ∃ inf, K.P.info? ty = some inf ∧ inf.size = d.cells.length := by
    unfold sizeT at hs
    cases hi : K.P.info? ty with
    | none => rw [hi] at hs; cases hs
    | some inf => rw [hi] at hs; exact ⟨inf, rfl, by simpa using hs⟩
  have hst := run_storeCells (P := K.P) (o := o) hb (a.eval y).cells.toList (by simp; omega) (relL_leaf hrc hl)
  obtain ⟨s1, s2, s3, s4, s5, s6⟩ := setRow_spec (cs' := (lay cs.toList o (a.eval y).cells.toList).toArray) hb
  unfold Oper.wp
  have hrun : (execOp a.eval ⟨none, .store ty x y, tp, pos, aft, g⟩).run K.P w = .ok .skip (w.setRow b (lay cs.toList o (a.eval y).cells.toList).toArray) := by
    simp only [execOp, h1.v_eq, Instr.storeAt, Instr.sureAddr, storeVar, Sem.run_bind, Sem.run_pure, Result.andThen_ok, run_sizeOf hinf, his, hsize]
    simp [hst]
  rw [hrun]
  refine hk _ _ _ _ h ⟨S, ?_⟩
  exact hr.write (xs := d.cells) (us := (a.eval y).cells.toList) hi (by omega) (by omega) s4 s5 s6 s3 s2 s1 (fun cs2 h2 => by rw [hb] at h2; cases h2; rfl) hrc
end
end Go.Cap
