/-
  An element of a slice of one's own taken out: append of its own rest, the rest cleared; slices.Delete of messages.
  group: Deliver, Drop, Twice, Away, Keep.
  group: Drop, Twice, Away, Keep.
  group: Calm.
-/
import Derived.Test.YtjbokbikkcfjjaaGreatAap
import Derived.Test.YtjbokbikkcfjjaaGreatAar
import Derived.Test.YtjbokbikkcfjjaaGreatAba
section
set_option maxRecDepth 16000
namespace Go.Cap
section
variable {K : Ctx} {P : Program} {t : Env} {H : Heap} {dst : Option Tmp} {tp : TypeId} {pos : String} {aft : Array Edge} {g : Option (Nat × Bool)} {N : Env → Heap → Prop}
variable {S : Nat → Prop} {w : World} {ty ty' : TypeId}
theorem HeapLe.set {i b : Nat} {k k' : Blk} (hi : i < H.length) (hl : BlkLe k k') (hn : (keys (H.set i (b, k))).Nodup) : HeapLe (H.set i (b, k)) (H.set i (b, k')) := by
  refine ⟨?_, fun p hp => ?_⟩
  · have e : keys (H.set i (b, k')) = keys (H.set i (b, k)) := by unfold keys; rw [List.map_set, List.map_set]
    rw [e]; exact hn
  · obtain ⟨j, hj⟩ := List.mem_iff_getElem?.1 hp
    rw [List.getElem?_set] at hj
    by_cases hij : i = j
    · subst hij
      rw [if_pos rfl, if_pos hi] at hj
      cases hj
      exact ⟨k, List.mem_iff_getElem?.2 ⟨i, by rw [List.getElem?_set, if_pos rfl, if_pos hi]⟩, hl⟩
    · rw [if_neg hij] at hj
      exact ⟨p.2, List.mem_iff_getElem?.2 ⟨j, by rw [List.getElem?_set, if_neg hij]; exact hj⟩, BlkLe.refl _⟩
theorem R.heap {H' : Heap} {a : Act} {w : World} (h : R K t H a w) (hH : (keys H).Nodup → HeapLe H H') : R K t H' a w := by
  obtain ⟨S, h⟩ := h
  have hle := hH h.own.nodup
  exact ⟨S, h.size, h.defers, h.step, h.own.le hle, fun b hb => h.mine b (hle.sub b hb), h.env⟩
theorem set_same {i : Nat} {p : Nat × Blk} (h : H[i]? = some p) : H.set i p = H := by
  refine List.ext_getElem? fun j => ?_
  rw [List.getElem?_set]
  split
  · rename_i e; subst e; rw [h, if_pos (List.getElem?_eq_some_iff.1 h).1]
  · rfl
theorem blk_front {e : BTy} {cs r : List T} {n : Nat} : BlkLe ⟨e, cs ++ r, n⟩ ⟨e, cs, n⟩ := ⟨rfl, rfl, by simp, by simp only; rw [List.take_left]; exact LeL.refl _⟩
theorem p_sany {x l h m : Operand} {p : Option Addr} {n c : Nat} {k k' k2 : IntKind} {i j q : Int} {d : T} {by_ : Nat} [hz : ElemZC P ty d by_] (h0 : 0 ≤ i) (h1 : i ≤ j) (h2 : j ≤ q) (h3 : q ≤ c) (hx : autoParam (t.ev x = .v (.slice p n c)) zl._auto_1) (hl : autoParam (t.ev l = .v (.int k i)) zl._auto_1) (hh : autoParam (t.ev h = .v (.int k' j)) zl._auto_1) (hm : autoParam (t.ev m = .v (.int k2 q)) zl._auto_1) :
    POp P t H ⟨dst, .slice ty x (some l) (some h) (some m), tp, pos, aft, g⟩ .any :=
  POp.still fun S w a _ _ hr => by
    have e1 := hr x (by simp [Op.operands]); rw [hx] at e1
    have e2 := hr l (by simp [Op.operands]); rw [hl] at e2
    have e3 := hr h (by simp [Op.operands]); rw [hh] at e3
    have e4 := hr m (by simp [Op.operands]); rw [hm] at e4
    obtain ⟨e, inf, hu, hinf, hs, hp⟩ := elem_size (P := P) (ty := ty) (d := d) (by_ := by_)
    have hb1 : (Instr.sliceBounds true n c (some (a.eval l)) (some (a.eval h)) (some (a.eval m))).run P w = .ok (i.toNat, j.toNat, q.toNat) w := by
      rw [e2.v_eq, e3.v_eq, e4.v_eq]
      simp [Instr.sliceBounds, bound_run (P := P) (show 0 ≤ q by omega) (show q ≤ (c : Nat) by omega), bound_run (P := P) (show 0 ≤ j by omega) (show j ≤ (q.toNat : Nat) by omega), bound_run (P := P) h0 (show i ≤ (j.toNat : Nat) by omega)]
    refine ⟨.slice (if q.toNat = i.toNat then p else p.map (·.add (i.toNat * inf.size))) (j.toNat - i.toNat) (q.toNat - i.toNat), ?_, .any _⟩
    cases p with
    | none => simp [execOp, e1.v_eq, Instr.sliceAt, Instr.slice, run_underlying hu, hb1, run_sizeOf hinf]
    | some a =>
      by_cases hq : q.toNat = i.toNat
      · simp [execOp, e1.v_eq, Instr.sliceAt, Instr.slice, run_underlying hu, hb1, run_sizeOf hinf, hq]
      · simp [execOp, e1.v_eq, Instr.sliceAt, Instr.slice, run_underlying hu, hb1, run_sizeOf hinf, hq]
theorem p_sbb {v : Value} {x l h : Operand} {p : Option Addr} {n c : Nat} {k k' : IntKind} {i j : Int} {d : T} {by_ : Nat} [hz : ElemZC P ty d by_] (he : subV d.cells.length p c i.toNat (j.toNat - i.toNat) = v) (h0 : 0 ≤ i) (h1 : i ≤ j) (h2 : j ≤ c) (hx : autoParam (t.ev x = .v (.slice p n c)) zl._auto_1) (hl : autoParam (t.ev l = .v (.int k i)) zl._auto_1) (hh : autoParam (t.ev h = .v (.int k' j)) zl._auto_1) :
    POp P t H ⟨dst, .slice ty x (some l) (some h) none, tp, pos, aft, g⟩ (.v v) :=
  POp.still fun S w a _ _ hr => by
    have e1 := hr x (by simp [Op.operands]); rw [hx] at e1
    have e2 := hr l (by simp [Op.operands]); rw [hl] at e2
    have e3 := hr h (by simp [Op.operands]); rw [hh] at e3
    obtain ⟨e, inf, hu, hinf, hs, hp⟩ := elem_size (P := P) (ty := ty) (d := d) (by_ := by_)
    have := run_sub (P := P) (w := w) (p := p) (n := n) (c := c) (lo := i.toNat) (hi := j.toNat) (ol := some (a.eval l)) (oh := some (a.eval h)) (om := none) hu hinf (by
      rw [e2.v_eq, e3.v_eq]
      simp [Instr.sliceBounds, bound_run (P := P) (show 0 ≤ j by omega) (show j ≤ (c : Nat) by omega), bound_run (P := P) h0 (show i ≤ (j.toNat : Nat) by omega)])
    rw [hs, he] at this
    exact ⟨_, by simp [execOp, e1.v_eq, this], .v _⟩
theorem eop_append_del {x y : Operand} {b n c i j kk : Nat} {e : TypeId} {cells : List T} {d : T} {by_ : Nat} {kd : Tmp} [hz : ElemZC K.P ty d by_] (hkd : d.cells.length = kk) (hx : t.ev x = .v (.slice (some ⟨b, 0, none⟩) i c)) (hy : t.ev y = .v (subV kk (some ⟨b, 0, none⟩) c j (n - j)))
    {H' : Heap} (hrp : HRep H (b, ⟨e, cells, c * kk⟩) (b, ⟨e, cells.take (i * kk) ++ cells.drop (j * kk), c * kk⟩) H') (hl : cells.length = n * kk) (hn : n ≤ c) (hij : i ≤ j) (hj : j ≤ n) (hleaf : allLeaf cells = true) (hs : isSliceTy K.P ty' = true) (hd : Nat.blt kd K.n = true)
    (h : N ((kd, .v (.slice (some ⟨b, 0, none⟩) (i + (n - j)) c)) :: t) H') :
    EOp K t H ⟨some kd, .call ⟨.builtin .append, #[x, y], #[ty, ty']⟩, tp, pos, aft, g⟩ N := by
  subst hkd
  obtain ⟨i0, hi0, rfl⟩ := hrp
  refine EOp.of_w (fun c e => by cases e) ?_
  intro a w ⟨S, hr⟩ Kc Q hk
  have h1 := hr.env.ev x; rw [hx] at h1
  have h2 := hr.env.ev y; rw [hy] at h2
  obtain ⟨el, inf, z, hu, hinf, hzz, hsz, hp, rfl, hby⟩ := elemZ_of hz.h
  obtain ⟨e', _, hu', _⟩ := slice_of hs
  have hlv := ofVal_cells z
  generalize hkk : (T.ofVal z).cells.length = kk at *
  have hk0 : 0 < kk := by omega
  have hinfs : inf.size = kk := by omega
  obtain ⟨cs, hbk, hcs, hcl, hrl⟩ := (hr.own.at hi0).row rfl
  simp only at hcs hcl hrl
  have hcsl : cs.toList.length = c * kk := by rw [Array.length_toList]; exact hcs
  have hnk : n * kk ≤ c * kk := Nat.mul_le_mul_right _ hn
  have hjk : j * kk ≤ n * kk := Nat.mul_le_mul_right _ hj
  have hik : i * kk ≤ j * kk := Nat.mul_le_mul_right _ hij
  have hsub : (n - j) * kk = n * kk - j * kk := Nat.sub_mul _ _ _
  -- what is read
  have hread : RelL S w (cells.drop (j * kk)) ((cs.toList.drop (j * kk)).take ((n - j) * kk)) := by
    have := hrl.drop (j * kk)
    rw [hl, List.drop_take] at this
    rw [hsub]; exact this
  generalize hus : (cs.toList.drop (j * kk)).take ((n - j) * kk) = us at hread
  have hul : us.length = (n - j) * kk := by rw [← hus, List.length_take, List.length_drop]; omega
  have hfc : (Builtin.firstCells inf.size (n - j) (subV kk (some ⟨b, 0, none⟩) c j (n - j))).run K.P w = .ok us.toArray w := by
    rw [hinfs]
    unfold subV
    simp only [Option.map_some, Builtin.firstCells]
    by_cases hcj : c = j
    · have h0 : n - j = 0 := by omega
      rw [if_pos hcj, h0]
      rw [h0] at hul
      have : us = [] := List.length_eq_zero_iff.1 (by omega)
      rw [this]
      exact run_cells (b := b) (o := 0) (n := 0 * kk) hbk [] (by simp) (by simp)
    · rw [if_neg hcj, Addr.add_mk]
      exact run_cells (b := b) (o := 0 + j * kk) hbk us hul (by rw [Nat.zero_add]; exact hus)
  have hlen : (Builtin.lenOf (subV kk (some ⟨b, 0, none⟩) c j (n - j))).run K.P w = .ok (n - j) w := by simp [subV, Builtin.lenOf]
  have hleaf' : allLeaf (cells.drop (j * kk)) = true := by
    unfold allLeaf at hleaf ⊢
    rw [List.all_eq_true] at hleaf ⊢
    exact fun q hq => hleaf q (List.mem_of_mem_drop hq)
  have hst := run_storeCells (P := K.P) (o := 0 + i * inf.size) hbk us (by rw [hinfs, hul]; omega) (relL_leaf hread hleaf')
  have e1 : (execOp a.eval ⟨some kd, .call ⟨.builtin .append, #[x, y], #[ty, ty']⟩, tp, pos, aft, g⟩).run K.P w = ((Builtin.append_ #[ty, ty'] tp #[a.eval x, a.eval y]).run K.P w).andThen fun v w' => .ok (.value v) w' := by
    simp [execOp, resolve, invoke, builtin]
  unfold Oper.wp
  rw [e1, h1.v_eq, h2.v_eq, run_app_fit (tp := tp) hu hu' hinf hlen (by omega) hfc hst]
  obtain ⟨s1, s2, s3, s4, s5, s6⟩ := setRow_spec (cs' := (lay cs.toList (0 + i * inf.size) us).toArray) hbk
  have hon : 0 + i * inf.size = i * kk := by rw [hinfs, Nat.zero_add]
  have hdl : (cells.drop (j * kk)).length = (n - j) * kk := by rw [List.length_drop, hl, hsub]
  have hw := hr.write (ty1 := e) rfl (xs := cells.drop (j * kk)) (us := us) (o := i * kk) hi0 (by simp only; omega) (by simp only; rw [hdl]; omega) s4 s5 s6 s3 s2 s1 (fun cs2 h2 => by rw [hbk] at h2; cases h2; rw [hon]) hread
  have hlay : lay cells (i * kk) (cells.drop (j * kk)) = (cells.take (i * kk) ++ cells.drop (j * kk)) ++ cells.drop (i * kk + (cells.drop (j * kk)).length) := rfl
  simp only at hw
  rw [hlay] at hw
  have hil : i0 < H.length := (List.getElem?_eq_some_iff.1 hi0).1
  have hw2 := R.heap ⟨S, hw⟩ (fun hnd => HeapLe.set hil blk_front hnd)
  obtain ⟨S2, hw2⟩ := hw2
  refine hk _ _ _ _ h ⟨S2, ?_⟩
  exact ⟨by simp [hw2.size], hw2.defers.put (dst := some kd) hd, hw2.step, hw2.own, hw2.mine, hw2.env.put (dst := some kd) (by rw [hw2.size]; exact hd) (.v _)⟩
theorem t_del {ops : Array Oper} {eff : List Nat} {q : Nat} {rest : Env → Heap → List Pend → Prop} {pend : List Pend} {x y : Operand} {b n c i j kk : Nat} {e : TypeId} {cells cells' : List T} {d : T} {by_ : Nat} {kd : Tmp} {H' : Heap} [hz : ElemZC K.P ty d by_] (hl : cells.length = n * kk) (hn : n ≤ c) (hij : i ≤ j) (hj : j ≤ n) (hleaf : allLeaf cells = true)
    (hcs : cells.take (i * kk) ++ cells.drop (j * kk) = cells')
    (h : PendOk ops ⟨some kd, .call ⟨.builtin .append, #[x, y], #[ty, ty']⟩, tp, pos, aft, none⟩ H' pend ∧ rest ((kd, .v (.slice (some ⟨b, 0, none⟩) (i + (n - j)) c)) :: t) H' pend)
    (hx : autoParam (t.ev x = .v (.slice (some ⟨b, 0, none⟩) i c)) zl._auto_1) (hy : autoParam (t.ev y = .v (subV kk (some ⟨b, 0, none⟩) c j (n - j))) zl._auto_1) (hkd : d.cells.length = kk := by rfl) (hr : autoParam (HRep H (b, ⟨e, cells, c * kk⟩) (b, ⟨e, cells', c * kk⟩) H') zr._auto_1) (hs : isSliceTy K.P ty' = true := by rfl) (hd : Nat.blt kd K.n = true := by rfl) (he : memN eff q = true := by rfl) :
    AnyStep K ops eff q ⟨some kd, .call ⟨.builtin .append, #[x, y], #[ty, ty']⟩, tp, pos, aft, none⟩ rest t H pend := by
  subst hcs
  exact t_eff (fun t0 h1 => eop_append_del hkd ((h1 x (by simp [Op.operands, Call.operands])).trans hx) ((h1 y (by simp [Op.operands, Call.operands])).trans hy) hr hl hn hij hj hleaf hs hd ⟨_, rfl, h⟩) he
theorem eop_clear_rest {x : Operand} {b n c m kk : Nat} {e : TypeId} {cells : List T} {d : T} {by_ : Nat} [hz : ElemZC K.P ty d by_] (hkd : d.cells.length = kk) (hx : t.ev x = .v (subV kk (some ⟨b, 0, none⟩) c m (n - m)))
    (hm : (b, (⟨e, cells, c * kk⟩ : Blk)) ∈ H) (hl : cells.length = m * kk) (hmn : m ≤ n) (hn : n ≤ c) (hleaf : allLeaf d.cells = true) (h : N t H) : EOp K t H ⟨none, .call ⟨.builtin .clear, #[x], #[ty]⟩, tp, pos, aft, g⟩ N := by
  subst hkd
  obtain ⟨i0, hi0⟩ := List.mem_iff_getElem?.1 hm
  refine EOp.of_w (fun c e => by cases e) ?_
  intro a w ⟨S, hr⟩ Kc Q hk
  have h1 := hr.env.ev x; rw [hx] at h1
  obtain ⟨el, inf, z, hu, hinf, hzz, hsz, hp, rfl, hby⟩ := elemZ_of hz.h
  have hlv := ofVal_cells z
  have e1 : (execOp a.eval ⟨none, .call ⟨.builtin .clear, #[x], #[ty]⟩, tp, pos, aft, g⟩).run K.P w = ((Builtin.clear_ #[ty] tp #[a.eval x]).run K.P w).andThen fun v w' => .ok (.value v) w' := by
    simp [execOp, resolve, invoke, builtin]
  unfold Oper.wp
  rw [e1, h1.v_eq]
  by_cases h0 : n - m = 0
  · have : (Builtin.clear_ #[ty] tp #[subV (T.ofVal z).cells.length (some ⟨b, 0, none⟩) c m (n - m)]).run K.P w = .ok (.tuple #[]) w := by
      rw [h0]; simp [Builtin.clear_, subV, run_underlying hu]
    rw [this]
    exact hk _ _ _ _ h ⟨S, hr⟩
  · generalize hkk : (T.ofVal z).cells.length = kk at *
    have hk0 : 0 < kk := by omega
    obtain ⟨cs, hbk, hcs, hcl, hrl⟩ := (hr.own.at hi0).row rfl
    simp only at hcs hcl hrl
    have hcsl : cs.toList.length = c * kk := by rw [Array.length_toList]; exact hcs
    have hnk : n * kk ≤ c * kk := Nat.mul_le_mul_right _ hn
    have hmk : m * kk ≤ n * kk := Nat.mul_le_mul_right _ hmn
    have hsub : (n - m) * kk = n * kk - m * kk := Nat.sub_mul _ _ _
    have hzr : RelL S w (T.ofVal z).cells z.cells.toList := (Rel.ofVal z).cells (by omega)
    have hrel := relL_flat hzr (n - m)
    have hzl : (Builtin.zeroCells z.cells (n - m)).toList = (List.replicate (n - m) z.cells.toList).flatten := by
      unfold Builtin.zeroCells; exact made_cells z.cells (n - m)
    rw [← hzl] at hrel
    have hxl : ((List.replicate (n - m) (T.ofVal z).cells).flatten).length = (n - m) * kk := by rw [len_flat, hkk]
    have hul := hrel.length
    have hlf : allLeaf ((List.replicate (n - m) (T.ofVal z).cells).flatten) = true := by
      unfold allLeaf at hleaf ⊢
      rw [List.all_eq_true] at hleaf ⊢
      intro q hq
      obtain ⟨r, h5, h6⟩ := List.mem_flatten.1 hq
      rw [List.eq_of_mem_replicate h5] at h6
      exact hleaf q h6
    have hst := run_storeCells (P := K.P) (o := 0 + m * kk) hbk (Builtin.zeroCells z.cells (n - m)).toList (by rw [hul, hxl]; omega) (relL_leaf hrel hlf)
    obtain ⟨n', hn'⟩ : ∃ n', n - m = n' + 1 := ⟨n - m - 1, by omega⟩
    have hzv : ∀ w : World, (zeroValue el).run K.P w = .ok z w := fun w => by simp [zeroValue, typeInfo, hinf, hzz]
    have hrun : (Builtin.clear_ #[ty] tp #[subV kk (some ⟨b, 0, none⟩) c m (n - m)]).run K.P w = .ok (.tuple #[]) (w.setRow b (lay cs.toList (0 + m * kk) (Builtin.zeroCells z.cells (n - m)).toList).toArray) := by
      have hcm : ¬ c = m := by omega
      have e2 : subV kk (some ⟨b, 0, none⟩) c m (n - m) = .slice (some ⟨b, 0 + m * kk, none⟩) (n - m) (c - m) := by
        unfold subV; simp only [Option.map_some, if_neg hcm, Addr.add_mk]
      rw [e2]
      generalize hq : n - m = q at hst hn' ⊢
      subst hn'
      simp only [Nat.zero_add] at hst
      simp [Builtin.clear_, run_underlying hu, hzv, hst]
    rw [hrun]
    obtain ⟨s1, s2, s3, s4, s5, s6⟩ := setRow_spec (cs' := (lay cs.toList (0 + m * kk) (Builtin.zeroCells z.cells (n - m)).toList).toArray) hbk
    have hw := hr.write (ty1 := e) rfl (xs := (List.replicate (n - m) (T.ofVal z).cells).flatten) (us := (Builtin.zeroCells z.cells (n - m)).toList) (o := m * kk) hi0 (by simp only; omega) (by simp only; rw [hxl]; omega) s4 s5 s6 s3 s2 s1 (fun cs2 h2 => by rw [hbk] at h2; cases h2; rw [Nat.zero_add]) hrel
    have hlay : lay cells (m * kk) ((List.replicate (n - m) (T.ofVal z).cells).flatten) = cells ++ (List.replicate (n - m) (T.ofVal z).cells).flatten := by
      unfold lay
      rw [← hl, List.take_length, List.drop_of_length_le (by omega), List.append_nil]
    simp only at hw
    rw [hlay] at hw
    have hil : i0 < H.length := (List.getElem?_eq_some_iff.1 hi0).1
    have hw2 := R.heap ⟨S, hw⟩ (fun hnd => HeapLe.set hil blk_front hnd)
    rw [set_same hi0] at hw2
    exact hk _ _ _ _ h hw2
end
end Go.Cap
namespace Go.Proofs.YtjbokbikkcfjjaaGreat
open Go.Cap
set_option linter.unusedSimpArgs false
set_option linter.unusedVariables false
attribute [local irreducible] POp SimFrom DrawFrom EOp Sim FnH T.gp
theorem ms_leaf (l : List Ms) : allLeaf ((l.map ms).flatMap T.cells) = true := by
  unfold allLeaf
  rw [List.all_eq_true]
  intro q hq
  obtain ⟨x, h1, h2⟩ := List.mem_flatMap.1 hq
  obtain ⟨m, _, rfl⟩ := List.mem_map.1 h1
  have h2' : q ∈ msC m (eens m.entries) := h2
  simp only [msC, List.mem_cons, List.not_mem_nil, or_false] at h2'
  rcases h2' with rfl | rfl | rfl | rfl | rfl | rfl | rfl | rfl | rfl | rfl | rfl <;> rfl
theorem flat_erase (l : List Ms) (i : Nat) : ((l.map ms).flatMap T.cells).take (i * 11) ++ ((l.map ms).flatMap T.cells).drop ((i + 1) * 11) = ((l.eraseIdx i).map ms).flatMap T.cells := by
  have h : ∀ (xs : List T) (k n : Nat), (∀ x ∈ xs, x.cells.length = n) → (xs.flatMap T.cells).take (k * n) = (xs.take k).flatMap T.cells ∧ (xs.flatMap T.cells).drop (k * n) = (xs.drop k).flatMap T.cells := by
    intro xs
    induction xs with
    | nil => intro k n _; simp
    | cons x xs ih =>
      intro k n hx
      have hxn := hx x List.mem_cons_self
      cases k with
      | zero => simp
      | succ k =>
        obtain ⟨h1, h2⟩ := ih k n fun y hy => hx y (List.mem_cons_of_mem _ hy)
        have e : (k + 1) * n = x.cells.length + k * n := by rw [Nat.succ_mul, hxn]; omega
        refine ⟨?_, ?_⟩
        · rw [List.flatMap_cons, e, List.take_length_add_append, h1, List.take_succ_cons, List.flatMap_cons]
        · rw [List.flatMap_cons, e, List.drop_length_add_append, h2, List.drop_succ_cons]
  rw [(h _ i 11 (ms11 l)).1, (h _ (i + 1) 11 (ms11 l)).2, ← List.flatMap_append, ← List.map_take, ← List.map_drop, ← List.map_append, List.eraseIdx_eq_take_drop_succ]
set_option maxHeartbeats 1000000 in
theorem del_fn (l : List Ms) (i : Nat) (hi : i < l.length) (hl : l.length ≤ 1000000000) {v : Value} {Hs : Heap} (ho : OM l v Hs) : FnH Tryz.prog 37 [.v v, ei (i : Nat), ei ((i : Int) + 1)] Hs (fun r H => ∃ v', r = .v v' ∧ OM (l.eraseIdx i) v' H) := by
  rcases ho with ⟨h, _⟩ | ⟨b, c, rfl, hc, rfl⟩
  · have : l = [] := by simpa using h
    rw [this] at hi; simp at hi
  have hml : (l.map ms).length = l.length := List.length_map _
  rw [hml] at hc
  have hlen : ((l.map ms).flatMap T.cells).length = l.length * 11 := by rw [flat_lenT _ (ms11 l), hml]
  have hel : (l.eraseIdx i).length = l.length - 1 := by rw [List.length_eraseIdx, if_pos hi]
  rw [hml]
  refine fn_enter Tryz.func37 (by rfl) (by rfl) ?_
  intro S0 w0
  show Sim _ _ [(0, .v (.slice (some ⟨b, 0, none⟩) l.length c)), (1, ei (i : Nat)), (2, ei ((i : Int) + 1))] [(b, ⟨tM, (l.map ms).flatMap T.cells, c * 11⟩)] _
  refine zC ?_
  apply cr
  refine s_ p_as ?_
  refine zC ?_
  apply cr
  refine s_ p_mv ?_
  refine s_ p_mv ?_
  refine s_ p_mv ?_
  refine s_ p_mv ?_
  refine s_ p_lr ?_
  refine s_ (p_sany (c := c) (i := (i : Int)) (j := (i : Int) + 1) (q := (l.length : Int)) (by omega) (by omega) (by omega) (by omega)) ?_
  
  refine zC ?_
  apply cr
  refine s_ p_mv ?_
  refine s_ p_mv ?_
  refine s_ p_eq ?_
  refine zC ?_
  refine ci (p := (i : Int) = (i : Int) + 1) (fun h => absurd h (by omega)) (fun _ => ?_)
  refine zC ?_
  apply cr
  refine s_ p_mv ?_
  refine s_ p_lr ?_
  refine s_ p_as ?_
  refine zC ?_
  refine zC ?_
  refine ct [0, 1, 2, 3, 4, 5] [6, 7] ?_
  refine t_ (fun _ => p_mv) ?_
  refine t_ (fun _ => p_mv) ?_
  refine t_ (fun _ => p_sbh (p := some ⟨b, 0, none⟩) (n := l.length) (c := c) (j := (i : Int)) (v := .slice (some ⟨b, 0, none⟩) i c) hc (by unfold subV; simp [Addr.add])) ?_
  refine t_ (fun _ => p_mv) ?_
  refine t_ (fun _ => p_mv) ?_
  refine t_ (fun _ => p_sbl (p := some ⟨b, 0, none⟩) (n := l.length) (c := c) (i := (i : Int) + 1) (v := subV 11 (some ⟨b, 0, none⟩) c (i + 1) (l.length - (i + 1))) hc (by rfl)) ?_
  intro p hp hr
  rcases List.mem_cons.1 hp with rfl | hp
  · clear hp hr
    refine t_del (n := l.length) (c := c) (i := i) (j := i + 1) (cells := (l.map ms).flatMap T.cells) (cells' := ((l.eraseIdx i).map ms).flatMap T.cells) hlen hc (by omega) (by omega) (ms_leaf l) (flat_erase l i) ⟨zd, ?_⟩
    intro p hp hr
    rcases List.mem_cons.1 hp with rfl | hp
    · clear hp hr
      refine t_as ⟨zd, ?_⟩
      refine tree0 ?_
      have hnl : i + (l.length - (i + 1)) = (l.eraseIdx i).length := by omega
      rw [hnl]
      refine zC ?_
      apply cr
      refine s_ p_mv ?_
      refine s_ p_mv ?_
      refine s_ p_lr ?_
      refine s_ p_mv ?_
      refine s_ (p_sbb (p := some ⟨b, 0, none⟩) (n := (l.eraseIdx i).length) (c := c) (i := (((l.eraseIdx i).length : Nat) : Int)) (j := ((l.length : Nat) : Int)) (v := subV 11 (some ⟨b, 0, none⟩) c (l.eraseIdx i).length (l.length - (l.eraseIdx i).length)) (by rfl) (by omega) (by omega) (by omega)) ?_
      refine from_e (eop_clear_rest (n := l.length) (m := (l.eraseIdx i).length) (c := c) (kk := 11) (b := b) (e := tM) (cells := ((l.eraseIdx i).map ms).flatMap T.cells) (by rfl) zl (by simp) (by rw [flat_lenT _ (ms11 _), List.length_map]) (by omega) hc (by rfl) ?_)
      
      refine zC ?_
      apply cr
      refine s_ p_mv ?_
      refine s_ p_as ?_
      refine zC ?_
      refine zR ?_
      exact rh kR ⟨_, rfl, .inr ⟨b, c, by rw [List.length_map], by rw [List.length_map]; omega, rfl⟩⟩ (Le.refl _)
    · exact (List.not_mem_nil hp).elim
  · rcases List.mem_cons.1 hp with rfl | hp
    · exact tno hr
    · exact (List.not_mem_nil hp).elim
end Go.Proofs.YtjbokbikkcfjjaaGreat
end
section
set_option maxRecDepth 16000
namespace Go.Proofs.YtjbokbikkcfjjaaGreat
open Go.Cap
set_option linter.unusedSimpArgs false
set_option linter.unusedVariables false
attribute [local irreducible] POp SimFrom DrawFrom EOp Sim FnH T.gp
theorem at_way {g : Gp} {k : Int} (h : hasG g k) : k.toNat < g.way.length ∧ ((k.toNat : Nat) : Int) = k ∧ (g.way.map ms)[k.toNat]? = some (ms (g.way.getD k.toNat default)) := by
  obtain ⟨h0, h1⟩ := h
  have hk : k.toNat < g.way.length := by omega
  refine ⟨hk, by omega, ?_⟩
  rw [List.getElem?_map, List.getD_eq_getElem?_getD, List.getElem?_eq_getElem hk]
  rfl
theorem way_row {l : List Ms} {p : Option Addr} {n c : Nat} {W : Heap} (hO : OM l (.slice p n c) W) (hl : 0 < l.length) : ∃ b, p = some ⟨b, 0, none⟩ ∧ n = l.length ∧ W = [(b, ⟨tM, (l.map ms).flatMap T.cells, c * 11⟩)] := by
  rcases hO with ⟨h, _⟩ | ⟨b, c', e, hc, rfl⟩
  · have : l = [] := by simpa using h
    rw [this] at hl; simp at hl
  · cases e
    exact ⟨b, rfl, List.length_map _, rfl⟩
theorem IsG.out {bg : Nat} {g : Gp} {a : Nat → Ad} {bm : Nat} {es : List (Value × T × Nat)} {clk : Nat} {W : Heap} {wv : Value} {w : List Ms} (hA : AwOk g.aw es) (hO : OM w wv W) : IsG bg { g with way := w } (gH bg g.conf a bm es clk W wv g.k) := ⟨a, bm, es, clk, W, wv, hA, hO, rfl⟩
theorem perm5 {x y : Nat × Blk} {W M : Heap} : (x :: y :: (W ++ M)).Perm (W ++ (x :: y :: M)) := by
  have := perm3 (x := x) (y := y) (W := []) (M := W ++ M) (A := W) (B := M) (List.Perm.refl _)
  simpa using this
theorem perm6 {z x y : Nat × Blk} {W M : Heap} : (z :: x :: y :: (W ++ M)).Perm (W ++ (z :: x :: y :: M)) :=
  (perm5.cons z).trans (List.perm_middle (a := z) (l₁ := W)).symm
set_option maxHeartbeats 4000000 in
theorem gdeliver_fn {P : Nat → En → Prop} {τ l u : Nat} (hP : PK P) (bg : Nat) (g : Gp) (H : Heap) (k : Int) (h : GB P g τ l u) (hu : u ≤ 25000) (hG : IsG bg g H) : FnH Tryz.prog 16 [pW bg, ei k] H (fun r H' => r = eB (decide (hasG g k)) ∧ IsG bg (deliverG g k) H') := by
  have hT := ghas_fn bg g H k hG
  obtain ⟨a, bm, es, clk, W, wv, hA, hO, rfl⟩ := hG
  obtain ⟨p, c, rfl⟩ := hO.len
  refine fn_enter Tryz.func16 (by rfl) (by rfl) ?_
  intro S0 w0
  show Sim _ _ [(0, pW bg), (1, ei k)] ((bg, ⟨tG, gC g.conf a bm _, 13⟩) :: (bm, ⟨.map es clk, [], 0⟩) :: (W ++ gM a g.k)) _
  refine zC ?_
  apply cr
  refine s_ p_as ?_
  refine zC ?_
  apply cr
  refine s_ p_mv ?_
  refine s_ p_mv ?_
  refine e_cHA hT (fun r H' ⟨hr1, hr2⟩ => ?_)
  subst hr1 hr2
  refine s_ p_no ?_
  refine zC ?_
  refine ci ?_ ?_
  · intro hn
    have hno : ¬ hasG g k := hn
    refine zC ?_
    apply cr
    refine s_ p_as ?_
    refine zC ?_
    refine zR ?_
    refine rh kR ⟨rfl, ?_⟩ ?_
    · unfold deliverG; rw [if_neg hno]
      exact ⟨a, bm, es, clk, W, _, hA, hO, rfl⟩
    · exact Le.of_eq (by show T.v (.bool false) = T.v (.bool (decide (hasG g k))); rw [decide_eq_false hno])
  · intro hn
    have hyes : hasG g k := Classical.not_not.1 hn
    obtain ⟨hkl, hkn, hget⟩ := at_way hyes
    have hml : (g.way.map ms).length = g.way.length := List.length_map _
    have hmany := h.many
    have hfive := h.five
    have hk0 := hyes.1
    have hk1 := hyes.2
    obtain ⟨bw, rfl, _, rfl⟩ := way_row hO (by omega)
    have hmem : g.way.getD k.toNat default ∈ g.way := by
      rw [List.getD_eq_getElem?_getD, List.getElem?_eq_getElem hkl]; exact List.getElem_mem _
    have hmb := h.way _ hmem
    obtain ⟨m, hm⟩ : ∃ m, m = g.way.getD k.toNat default := ⟨_, rfl⟩
    rw [← hm] at hget hmb
    have hdel := del_fn g.way k.toNat hkl (by omega) hO
    rw [hkn] at hdel
    refine zC ?_
    apply cr
    refine s_ p_mv ?_
    refine s_ p_nc ?_
    refine s_ p_fr ?_
    refine s_ p_lo ?_
    refine s_ p_mv ?_
    refine s_ p_ir ?_
    refine s_ (p_loa (hc := TakeR.flat (ms11 g.way) hget)) ?_
    refine e_al fun b5 _ => ?_
    refine e_st ?_
    refine zC ?_
    apply cr
    refine s_ p_mv ?_
    refine s_ p_mv ?_
    refine s_ p_nc ?_
    refine s_ p_fr ?_
    refine s_ p_lo ?_
    refine s_ p_mv ?_
    refine s_ p_mv ?_
    refine s_ p_ad ?_
    refine e_cH hdel perm6 (fun r H' ⟨v', hr1, hO'⟩ => ?_)
    subst hr1
    refine from_perm perm6.symm ?_
    obtain ⟨p', c', rfl⟩ := hO'.len
    refine s_ p_nc ?_
    refine s_ p_fr ?_
    refine e_st ?_
    refine zC ?_
    apply cr
    refine s_ p_mv ?_
    refine s_ p_loa ?_
    have hgb : GB P (outG g k) τ l u := h.out (fun x hx => h.way x (List.mem_of_mem_eraseIdx hx)) (by rw [List.length_eraseIdx, if_pos hkl]; omega)
    have htk := gtake_fn hP bg (outG g k) _ m hmb hgb hu (IsG.out (a := a) (bm := bm) (clk := clk) hA hO')
    refine e_cH (Hr := [_]) htk (List.perm_append_comm (l₁ := [_])) (fun r H' ⟨hr1, hr2⟩ => ?_)
    subst hr1
    
    refine zC ?_
    apply cr
    refine s_ p_as ?_
    refine zC ?_
    refine zR ?_
    refine rhp (List.perm_append_comm (l₂ := [_])) (.skip _ _ _ kR) ⟨rfl, ?_⟩ ?_
    · unfold deliverG; rw [if_pos hyes, ← hm]; exact hr2
    · exact Le.of_eq (by show T.v (.bool true) = T.v (.bool (decide (hasG g k))); rw [decide_eq_true hyes])
end Go.Proofs.YtjbokbikkcfjjaaGreat
end
section
set_option maxRecDepth 16000
namespace Go.Cap
theorem mget_set {es : List (Value × T × Nat)} {k : Value} (x : T) (hg : mget es k ≠ none) (k' : Value) : mget (mset es k x) k' = if keq k k' = true then some x else mget es k' := by
  induction es with
  | nil => exact absurd rfl hg
  | cons e es ih =>
    rw [mset]
    by_cases h : keq e.1 k = true
    · rw [if_pos h, mget, mget, keq_eq h]
      split <;> rfl
    · rw [if_neg h]
      rw [mget, if_neg h] at hg
      rw [mget, mget, ih hg]
      by_cases h2 : keq k k' = true
      · have := keq_eq h2
        subst this
        rw [if_neg h, if_pos h2, if_pos h2]
      · rw [if_neg h2, if_neg h2]
theorem mget_push {es : List (Value × T × Nat)} {k : Value} (x : T) (n : Nat) (hg : mget es k = none) (k' : Value) : mget (es ++ [(k, x, n)]) k' = if keq k k' = true then some x else mget es k' := by
  induction es with
  | nil => rfl
  | cons e es ih =>
    rw [mget] at hg
    split at hg
    · cases hg
    · rename_i h
      rw [List.cons_append, mget, mget, ih hg]
      by_cases h2 : keq k k' = true
      · have := keq_eq h2
        subst this
        rw [if_neg h, if_pos h2, if_pos h2]
      · rw [if_neg h2, if_neg h2]
end Go.Cap
namespace Go.Proofs.YtjbokbikkcfjjaaGreat
open Go.Cap
set_option linter.unusedSimpArgs false
set_option linter.unusedVariables false
attribute [local irreducible] POp SimFrom DrawFrom EOp Sim FnH T.gp
theorem AwOk.set {aw : List Bool} {es : List (Value × T × Nat)} (h : AwOk aw es) (clk : Nat) {i : Int} (hi : isI i) (b : Bool) (hl : aw.length = 5) : ∃ es' clk', mput es clk (.int .i64 i) (eB b) = .map es' clk' ∧ AwOk (aw.set i.toNat b) es' := by
  have hI : MapKept.IsKey (.int .i64) (.int .i64 i) := rfl
  have hget : ∀ es', (∀ k', mget es' k' = if keq (.int .i64 i) k' = true then some (eB b) else mget es k') → ∀ j : Nat, j < 5 → (mget es' (.int .i64 (j : Int))).getD (.v (.bool false)) = eB ((aw.set i.toNat b).getD j false) := by
    intro es' he j hj
    rw [he, List.getD_eq_getElem?_getD, List.getElem?_set]
    by_cases hij : i.toNat = j
    · have : keq (.int .i64 i) (.int .i64 (j : Int)) = true := by simp [keq]; have := hi.1; omega
      rw [if_pos this, if_pos hij, if_pos (by omega)]; rfl
    · have : ¬ keq (.int .i64 i) (.int .i64 (j : Int)) = true := by simp [keq]; have := hi.1; omega
      rw [if_neg this, if_neg hij, h.get j hj, List.getD_eq_getElem?_getD]
  unfold mput
  cases hg : mget es (.int .i64 i) with
  | some y => exact ⟨_, _, rfl, h.keys.set _ _, hget _ (mget_set _ (by rw [hg]; simp))⟩
  | none => exact ⟨_, _, rfl, h.keys.push hI hg _ _, hget _ (mget_push _ _ hg)⟩
set_option maxHeartbeats 2000000 in
theorem gdrop_fn {P : Nat → En → Prop} {τ l u : Nat} (bg : Nat) (g : Gp) (H : Heap) (k : Int) (h : GB P g τ l u) (hu : u ≤ 25000) (hG : IsG bg g H) : FnH Tryz.prog 14 [pW bg, ei k] H (fun r H' => r = eB (decide (hasG g k)) ∧ IsG bg (dropG g k) H') := by
  have hT := ghas_fn bg g H k hG
  obtain ⟨a, bm, es, clk, W, wv, hA, hO, rfl⟩ := hG
  obtain ⟨p, c, rfl⟩ := hO.len
  refine fn_enter Tryz.func14 (by rfl) (by rfl) ?_
  intro S0 w0
  show Sim _ _ [(0, pW bg), (1, ei k)] ((bg, ⟨tG, gC g.conf a bm _, 13⟩) :: (bm, ⟨.map es clk, [], 0⟩) :: (W ++ gM a g.k)) _
  refine zC ?_
  apply cr
  refine s_ p_as ?_
  refine zC ?_
  apply cr
  refine s_ p_mv ?_
  refine s_ p_mv ?_
  refine e_cHA hT (fun r H' ⟨hr1, hr2⟩ => ?_)
  subst hr1 hr2
  refine s_ p_no ?_
  refine zC ?_
  refine ci ?_ ?_
  · intro hn
    have hno : ¬ hasG g k := hn
    refine zC ?_
    apply cr
    refine s_ p_as ?_
    refine zC ?_
    refine zR ?_
    refine rh kR ⟨rfl, ?_⟩ ?_
    · unfold dropG; rw [if_neg hno]
      exact ⟨a, bm, es, clk, W, _, hA, hO, rfl⟩
    · exact Le.of_eq (by show T.v (.bool false) = T.v (.bool (decide (hasG g k))); rw [decide_eq_false hno])
  · intro hn
    have hyes : hasG g k := Classical.not_not.1 hn
    obtain ⟨hkl, hkn, hget⟩ := at_way hyes
    have hmany := h.many
    have hfive := h.five
    have hk0 := hyes.1
    have hk1 := hyes.2
    have hdel := del_fn g.way k.toNat hkl (by omega) hO
    rw [hkn] at hdel
    refine zC ?_
    apply cr
    refine s_ p_mv ?_
    refine s_ p_mv ?_
    refine s_ p_nc ?_
    refine s_ p_fr ?_
    refine s_ p_lo ?_
    refine s_ p_mv ?_
    refine s_ p_mv ?_
    refine s_ p_ad ?_
    refine e_cH hdel perm5 (fun r H' ⟨v', hr1, hO'⟩ => ?_)
    subst hr1
    refine from_perm perm5.symm ?_
    obtain ⟨p', c', rfl⟩ := hO'.len
    refine s_ p_nc ?_
    refine s_ p_fr ?_
    refine e_st ?_
    refine zC ?_
    apply cr
    refine s_ p_as ?_
    refine zC ?_
    refine zR ?_
    refine rh kR ⟨rfl, ?_⟩ ?_
    · unfold dropG; rw [if_pos hyes]; exact IsG.out (a := a) (bm := bm) (clk := clk) hA hO'
    · exact Le.of_eq (by show T.v (.bool true) = T.v (.bool (decide (hasG g k))); rw [decide_eq_true hyes])
theorem gaway_fn {P : Nat → En → Prop} {τ l u : Nat} (bg : Nat) (g : Gp) (H : Heap) (i : Int) (b : Bool) (h : GB P g τ l u) (hG : IsG bg g H) : FnH Tryz.prog 20 [pW bg, ei i, eB b] H (fun r H' => r = eB (decide (isI i)) ∧ IsG bg (awayG g i b) H') := by
  have hT := gis_fn bg g H i hG
  obtain ⟨a, bm, es, clk, W, wv, hA, hO, rfl⟩ := hG
  refine fn_enter Tryz.func20 (by rfl) (by rfl) ?_
  intro S0 w0
  show Sim _ _ [(0, pW bg), (1, ei i), (2, eB b)] ((bg, ⟨tG, gC g.conf a bm wv, 13⟩) :: (bm, ⟨.map es clk, [], 0⟩) :: (W ++ gM a g.k)) _
  have hkeys := hA.keys
  refine zC ?_
  apply cr
  refine s_ p_as ?_
  refine zC ?_
  apply cr
  refine s_ p_mv ?_
  refine s_ p_mv ?_
  refine e_cHA hT (fun r H' ⟨hr1, hr2⟩ => ?_)
  subst hr1 hr2
  refine s_ p_no ?_
  refine zC ?_
  refine ci ?_ ?_
  · intro hn
    have hno : ¬ isI i := hn
    refine zC ?_
    apply cr
    refine s_ p_as ?_
    refine zC ?_
    refine zR ?_
    refine rh kR ⟨rfl, ?_⟩ ?_
    · unfold awayG; rw [if_neg hno]
      exact ⟨a, bm, es, clk, W, _, hA, hO, rfl⟩
    · exact Le.of_eq (by show T.v (.bool false) = T.v (.bool (decide (isI i))); rw [decide_eq_false hno])
  · intro hn
    have hyes : isI i := Classical.not_not.1 hn
    obtain ⟨es', clk', hput, hA'⟩ := hA.set clk hyes b h.aw
    refine zC ?_
    apply cr
    refine s_ p_mv ?_
    refine s_ p_nc ?_
    refine s_ p_fr ?_
    refine s_ p_lo ?_
    refine s_ p_mv ?_
    refine s_ p_mv ?_
    refine e_mu hkeys ?_
    refine zC ?_
    apply cr
    refine s_ p_as ?_
    refine zC ?_
    rw [hput]
    refine zR ?_
    refine rh kR ⟨rfl, ?_⟩ ?_
    · unfold awayG; rw [if_pos hyes]; exact ⟨a, bm, es', clk', W, wv, hA', hO, rfl⟩
    · exact Le.of_eq (by show T.v (.bool true) = T.v (.bool (decide (isI i))); rw [decide_eq_true hyes])
theorem gkeep_fn (bg : Nat) (g : Gp) (H : Heap) (i : Int) (hi : ¬ isI i) (hG : IsG bg g H) : FnH Tryz.prog 22 [pW bg, ei i] H (fun r H' => r = .v (.pointer none) ∧ H' = H) := by
  have hT := gis_fn bg g H i hG
  obtain ⟨a, bm, es, clk, W, wv, hA, hO, rfl⟩ := hG
  refine fn_enter Tryz.func22 (by rfl) (by rfl) ?_
  intro S0 w0
  show Sim _ _ [(0, pW bg), (1, ei i)] ((bg, ⟨tG, gC g.conf a bm wv, 13⟩) :: (bm, ⟨.map es clk, [], 0⟩) :: (W ++ gM a g.k)) _
  refine zC ?_
  apply cr
  refine s_ p_as ?_
  refine zC ?_
  apply cr
  refine s_ p_mv ?_
  refine s_ p_mv ?_
  refine e_cHA hT (fun r H' ⟨hr1, hr2⟩ => ?_)
  subst hr1 hr2
  refine s_ p_no ?_
  refine zC ?_
  refine ci (p := ¬ isI i) ?_ ?_
  · intro _
    refine zC ?_
    apply cr
    refine s_ p_as ?_
    refine zC ?_
    refine zR ?_
    exact rh kR ⟨rfl, rfl⟩ (Le.refl _)
  · intro h; exact absurd hi h
theorem gkeepY_fn (bg : Nat) (g : Gp) (i : Int) (hi : isI i) {a : Nat → Ad} {bm : Nat} {es : List (Value × T × Nat)} {clk : Nat} {W : Heap} {wv : Value} (hA : AwOk g.aw es) (hO : OM g.way wv W) : FnH Tryz.prog 22 [pW bg, ei i] (gH bg g.conf a bm es clk W wv g.k) (fun r H' => r = pW (a i.toNat).bk ∧ H' = gH bg g.conf a bm es clk W wv g.k) := by
  have hT := gis_fn bg g _ i ⟨a, bm, es, clk, W, wv, hA, hO, rfl⟩
  refine fn_enter Tryz.func22 (by rfl) (by rfl) ?_
  intro S0 w0
  show Sim _ _ [(0, pW bg), (1, ei i)] ((bg, ⟨tG, gC g.conf a bm wv, 13⟩) :: (bm, ⟨.map es clk, [], 0⟩) :: (W ++ gM a g.k)) _
  have hck := gC_k (conf := g.conf) (a := a) (bm := bm) (wv := wv) hi
  have hp : 0 ≤ i ∧ i < 5 := hi
  refine zC ?_
  apply cr
  refine s_ p_as ?_
  refine zC ?_
  apply cr
  refine s_ p_mv ?_
  refine s_ p_mv ?_
  refine e_cHA hT (fun r H' ⟨hr1, hr2⟩ => ?_)
  subst hr1 hr2
  refine s_ p_no ?_
  refine zC ?_
  refine ci (p := ¬ isI i) ?_ ?_
  · intro h; exact absurd hi h
  · intro _
    refine zC ?_
    apply cr
    refine s_ p_mv ?_
    refine s_ p_mv ?_
    refine s_ p_nc ?_
    refine s_ p_fr ?_
    refine s_ p_ar ?_
    refine s_ p_fr ?_
    refine s_ (p_lo (hd := by first | rfl | assumption)) ?_
    refine s_ p_as ?_
    refine zC ?_
    refine zR ?_
    exact rh kR ⟨rfl, rfl⟩ (Le.refl _)
set_option maxHeartbeats 4000000 in
theorem gtwice_fn {P : Nat → En → Prop} {τ l u : Nat} (bg : Nat) (g : Gp) (H : Heap) (k : Int) (h : GB P g τ l u) (hu : u ≤ 25000) (hG : IsG bg g H) : FnH Tryz.prog 15 [pW bg, ei k] H (fun r H' => r = eB (decide (hasG g k ∧ g.way.length < 300)) ∧ IsG bg (twiceG g k) H') := by
  have hT := ghas_fn bg g H k hG
  obtain ⟨a, bm, es, clk, W, wv, hA, hO, rfl⟩ := hG
  obtain ⟨p, c, rfl⟩ := hO.len
  have hml : (g.way.map ms).length = g.way.length := List.length_map _
  refine fn_enter Tryz.func15 (by rfl) (by rfl) ?_
  intro S0 w0
  show Sim _ _ [(0, pW bg), (1, ei k)] ((bg, ⟨tG, gC g.conf a bm _, 13⟩) :: (bm, ⟨.map es clk, [], 0⟩) :: (W ++ gM a g.k)) _
  refine zC ?_
  apply cr
  refine s_ p_as ?_
  refine zC ?_
  apply cr
  refine s_ p_mv ?_
  refine s_ p_mv ?_
  refine e_cHA hT (fun r H' ⟨hr1, hr2⟩ => ?_)
  subst hr1 hr2
  refine s_ p_no ?_
  refine s_ p_mv ?_
  refine gF (fun hg => p_mv) ?_
  refine gF (fun hg => p_nc (hx := u_ hg)) ?_
  refine gF (fun hg => p_fr (hx := u_ hg)) ?_
  refine gF (fun hg => p_lo (hx := u_ hg)) ?_
  refine gF (fun hg => p_lr (hx := u_ hg)) ?_
  refine gF (fun hg => p_ge (hx := u_ hg)) ?_
  refine s_ p_or ?_
  refine zC ?_
  refine ci ?_ ?_
  · intro hn
    have hno : ¬ (hasG g k ∧ g.way.length < 300) := by
      rintro ⟨h1, h2⟩
      rcases hn with h3 | h3
      · exact h3 h1
      · rw [hml] at h3; omega
    refine zC ?_
    apply cr
    refine s_ p_as ?_
    refine zC ?_
    refine zR ?_
    refine rh kR ⟨rfl, ?_⟩ ?_
    · unfold twiceG; rw [if_neg hno]
      exact ⟨a, bm, es, clk, W, _, hA, hO, rfl⟩
    · exact Le.of_eq (by show T.v (.bool false) = T.v (.bool (decide (hasG g k ∧ g.way.length < 300))); rw [decide_eq_false hno])
  · intro hn
    have hyes : hasG g k ∧ g.way.length < 300 := by
      refine ⟨Classical.not_not.1 fun h1 => hn (.inl h1), ?_⟩
      have : ¬ (300 : Int) ≤ ((g.way.map ms).length : Nat) := fun h1 => hn (.inr h1)
      rw [hml] at this; omega
    obtain ⟨hkl, hkn, hget⟩ := at_way hyes.1
    have hk0 := hyes.1.1
    have hk1 := hyes.1.2
    have hlt := hyes.2
    obtain ⟨bw, rfl, _, rfl⟩ := way_row hO (by omega)
    obtain ⟨m, hm⟩ : ∃ m, m = g.way.getD k.toNat default := ⟨_, rfl⟩
    rw [← hm] at hget
    refine zC ?_
    refine ca [0, 1, 2, 3, 4, 5, 6, 7, 8, 9, 10, 11, 12, 13, 14, 15, 16] [13, 16] ?_
    refine a_ (fun _ => p_mv) ?_
    refine a_ (fun _ => p_mv) ?_
    refine a_ (fun _ => p_nc) ?_
    refine a_ (fun _ => p_fr) ?_
    refine a_lo ?_
    refine a_ (fun _ => p_mv) ?_
    refine a_ (fun _ => p_nc) ?_
    refine a_ (fun _ => p_fr) ?_
    refine a_lo ?_
    refine a_ (fun _ => p_mv) ?_
    refine a_ (fun _ => p_ir) ?_
    refine a_loa (hc := TakeR.flat (ms11 g.way) hget) ?_
    refine a_ (fun _ => p_bs) ?_
    refine a_os (ho := hO) (A := [_, _]) (B := gM a g.k) (ys := [ms m]) (f := true) (ms11 g.way) (fun v' Hs' h3 => ⟨zd, ?_⟩)
    refine zD ?_
    obtain ⟨q', d', rfl⟩ := h3.len
    refine a_ (fun _ => p_nc) ?_
    refine a_ (fun _ => p_fr) ?_
    refine a_st ?_
    apply an
    refine zC ?_
    apply cr
    refine s_ p_as ?_
    refine zC ?_
    refine zR ?_
    refine rh kR ⟨rfl, ?_⟩ ?_
    · unfold twiceG; rw [if_pos hyes, ← hm]; exact IsG.out (a := a) (bm := bm) (clk := clk) hA (by unfold OM; rw [List.map_append]; exact h3)
    · exact Le.of_eq (by show T.v (.bool true) = T.v (.bool (decide (hasG g k ∧ g.way.length < 300))); rw [decide_eq_true hyes])
end Go.Proofs.YtjbokbikkcfjjaaGreat
end
section
set_option maxRecDepth 16000
namespace Go.Proofs.YtjbokbikkcfjjaaGreat
open Go.Cap
set_option linter.unusedSimpArgs false
set_option linter.unusedVariables false
attribute [local irreducible] POp SimFrom DrawFrom EOp Sim FnH T.gp
theorem front_app : ∀ (A : Heap) {H : Heap}, HeapFront (A ++ H) H
  | [], H => kR
  | p :: A, H => .skip p _ _ (front_app A)
theorem calm_succ (g : Gp) (n : Nat) : calmG g (n + 1) = roundG (calmG g n) := rfl
def takesG (g : Gp) (k : Nat) : Gp := (g.way.take k).foldl takeG { g with way := [] }
theorem takes_succ (g : Gp) {k : Nat} (hk : k < g.way.length) : takesG g (k + 1) = takeG (takesG g k) (g.way.getD k default) := by
  unfold takesG
  rw [List.take_succ_eq_append_getElem hk, List.foldl_append, List.getD_eq_getElem?_getD, List.getElem?_eq_getElem hk]
  rfl
theorem takes_all (g : Gp) : takesG g g.way.length = g.way.foldl takeG { g with way := [] } := by unfold takesG; rw [List.take_length]
set_option maxHeartbeats 8000000 in
theorem gcalm_fn {P : Nat → En → Prop} {τ l u : Nat} (hP : PK P) (bg : Nat) (g : Gp) (H : Heap) (r : Int) (n : Nat) (hn : min (max r 0) 200 = (n : Int)) (h : GB P g τ l u) (hu : u + 5 * n ≤ 25000) (hG : IsG bg g H) : FnH Tryz.prog 11 [pW bg, ei r] H (fun r H' => r = .tup [] ∧ IsG bg (calmG g n) H') := by
  refine fn_enter Tryz.func11 (by rfl) (by rfl) ?_
  intro S0 w0
  show Sim _ _ [(0, pW bg), (1, ei r)] H _
  refine zC ?_
  apply cr
  refine s_ p_mv ?_
  refine s_ p_ma ?_
  refine s_ p_mi ?_
  refine s_ p_mv ?_
  refine zC ?_
  rw [hn]
  apply sim_loopL (σ := Nat × Heap) (ok := fun s => s.1 ≤ n ∧ IsG bg (calmG g s.1) s.2) (env := fun s => [(11, ei s.1), (10, ei n), (0, pW bg)]) (heap := fun s => s.2) (μ := fun s => n - s.1) (s0 := (0, H))
  · exact ⟨Nat.zero_le _, hG⟩
  · exact eL
  · exact kR
  rintro ⟨j, H⟩ ⟨hj, hG⟩
  simp only at hj hG
  show Sim _ _ [(11, ei j), (10, ei n), (0, pW bg)] H _
  obtain ⟨l0, hgb, _⟩ := h.calm hP.toPO j (by have := h.tau; omega)
  obtain ⟨g0, hg0⟩ : ∃ g0, g0 = calmG g j := ⟨_, rfl⟩
  rw [← hg0] at hG hgb
  have hu0 : u + 5 * j + 5 ≤ 25000 ∨ j = n := by omega
  have ht0 := hgb.tau
  refine zC ?_
  apply cr
  refine s_ p_lt ?_
  refine zC ?_
  refine ci ?_ ?_
  · intro hlt
    have hjn : j < n := by omega
    have hu1 : u + 5 * j + 5 ≤ 25000 := by omega
    obtain ⟨a, bm, es, clk, W, wv, hA, hO, rfl⟩ := hG
    obtain ⟨p, c, rfl⟩ := hO.len
    have hml : (g0.way.map ms).length = g0.way.length := List.length_map _
    show Sim _ _ _ ((bg, ⟨tG, gC g0.conf a bm _, 13⟩) :: (bm, ⟨.map es clk, [], 0⟩) :: (W ++ gM a g0.k)) _
    refine zC ?_
    apply cr
    refine s_ p_mv ?_
    refine s_ p_nc ?_
    refine s_ p_fr ?_
    refine s_ p_lo ?_
    refine s_ p_as ?_
    refine zC ?_
    apply cr
    refine s_ p_mv ?_
    refine s_ p_nc ?_
    refine s_ p_fr ?_
    refine e_st ?_
    refine zC ?_
    apply cr
    refine s_ p_mv ?_
    refine s_ p_lr ?_
    refine s_ p_mv ?_
    refine zC ?_
    refine sim_perm (H' := W ++ gH bg g0.conf a bm es clk [] (.slice none 0 0) g0.k) ?_ ?_
    · exact perm5
    apply sim_loopL (σ := Nat × Heap) (ok := fun s => s.1 ≤ g0.way.length ∧ IsG bg (takesG g0 s.1) s.2) (env := fun s => [(22, ei s.1), (21, ei g0.way.length), (20, .v (.slice p (g0.way.map ms).length c)), (11, ei j), (10, ei n), (0, pW bg)]) (heap := fun s => W ++ s.2) (μ := fun s => g0.way.length - s.1) (s0 := (0, gH bg g0.conf a bm es clk [] (.slice none 0 0) g0.k))
    · exact ⟨Nat.zero_le _, IsG.out (a := a) (bm := bm) (clk := clk) (w := []) hA osl_nil⟩
    · refine ⟨?_, ?_, eL⟩
      · apply le_get; ((repeat (apply gS; rfl)); exact gZ)
        exact Le.refl _
      · apply le_get; ((repeat (apply gS; rfl)); exact gZ)
        exact Le.of_eq (by rw [hml]; rfl)
    · exact kR
    · rintro ⟨k, H⟩ ⟨hk, hG⟩
      simp only at hk hG
      show Sim _ _ [(22, ei k), (21, ei g0.way.length), (20, .v (.slice p (g0.way.map ms).length c)), (11, ei j), (10, ei n), (0, pW bg)] (W ++ H) _
      refine zC ?_
      apply cr
      refine s_ p_lt ?_
      refine zC ?_
      refine ci ?_ ?_
      · intro hlt2
        have hkl : k < g0.way.length := by omega
        have hmany := hgb.many
        have hfive := hgb.five
        have hhas : hasG g0 (k : Int) := ⟨by omega, by omega⟩
        obtain ⟨_, hkn, hget⟩ := at_way hhas
        obtain ⟨bw, rfl, _, rfl⟩ := way_row hO (by omega)
        obtain ⟨m, hm⟩ : ∃ m, m = g0.way.getD k default := ⟨_, rfl⟩
        have hmem : g0.way.getD k default ∈ g0.way := by
          rw [List.getD_eq_getElem?_getD, List.getElem?_eq_getElem hkl]; exact List.getElem_mem _
        obtain ⟨lk, hgk, hlk⟩ := GB.takes hP.toPO (by omega) (g0.way.take k) (hgb.out (w := []) (by simp) (by simp)) (fun x hx => hgb.way x (List.mem_of_mem_take hx)) (by have := hgb.many; rw [List.length_take]; simp only [List.length_nil]; omega)
        have hmb := (hgb.way _ hmem).le (Nat.le_refl _) hlk
        have htk := gtake_fn hP bg (takesG g0 k) H m (by rw [hm]; exact hmb) hgk (by omega) hG
        rw [show ((k : Int).toNat) = k by omega, ← hm] at hget
        show Sim _ _ _ ((bw, ⟨tM, (g0.way.map ms).flatMap T.cells, c * 11⟩) :: H) _
        refine zC ?_
        apply cr
        refine s_ p_ir ?_
        refine s_ (p_loa (hc := TakeR.flat (ms11 g0.way) hget)) ?_
        refine e_al fun b6 _ => ?_
        refine e_st ?_
        refine zC ?_
        apply cr
        refine s_ p_mv ?_
        refine s_ p_loa ?_
        refine e_cH (Hr := [_, _]) htk (List.perm_append_comm (l₁ := [_, _])) (fun r H' ⟨hr1, hr2⟩ => ?_)
        subst hr1
        refine from_perm (List.perm_append_comm (l₂ := [_, _])) ?_
        
        refine zC ?_
        apply cr
        refine s_ p_ad ?_
        refine s_ p_mv ?_
        refine zC ?_
        refine ⟨(k + 1, H'), ⟨by simp only; omega, ?_⟩, (by simp only []; omega), ⟨?_, eL⟩, ?_⟩
        · simp only
          rw [takes_succ _ hkl, ← hm]; exact hr2
        · apply le_get; ((repeat (apply gS; rfl)); exact gZ)
          exact Le.refl _
        · exact .skip _ _ _ kR
      · intro hge
        have hke : k = g0.way.length := by omega
        subst hke
        rw [takes_all] at hG
        obtain ⟨l1, hg1, hl1⟩ := GB.takes hP.toPO (by omega) g0.way (hgb.out (w := []) (by simp) (by simp)) hgb.way (by simpa using hgb.many)
        obtain ⟨g1, hg1e⟩ : ∃ g1, g1 = g0.way.foldl takeG { g0 with way := [] } := ⟨_, rfl⟩
        rw [← hg1e] at hG hg1
        refine zC ?_
        apply cr
        refine s_ p_mv ?_
        refine zC ?_
        apply sim_loopL (σ := Nat × Heap) (ok := fun s => s.1 ≤ 5 ∧ IsG bg (ticksG g1 s.1) s.2) (env := fun s => [(30, ei s.1), (11, ei j), (10, ei n), (0, pW bg)]) (heap := fun s => s.2) (μ := fun s => 5 - s.1) (s0 := (0, H))
        · exact ⟨Nat.zero_le _, hG⟩
        · exact eL
        · exact front_app W
        · rintro ⟨q, H⟩ ⟨hq, hG⟩
          simp only at hq hG
          show Sim _ _ [(30, ei q), (11, ei j), (10, ei n), (0, pW bg)] H _
          refine zC ?_
          apply cr
          refine s_ p_lt ?_
          refine zC ?_
          refine ci ?_ ?_
          · intro hlt3
            have hq5 : q < 5 := by omega
            obtain ⟨lq, hgq, _⟩ := hg1.ticks hP.toPO q (by omega)
            have htk := gtick_fn hP bg (ticksG g1 q) H q hgq (by omega) hG
            refine zC ?_
            apply cr
            refine s_ p_mv ?_
            refine s_ p_as ?_
            refine zC ?_
            apply cr
            refine s_ p_mv ?_
            refine s_ p_mv ?_
            refine e_cHA htk (fun r H' ⟨hr1, hr2⟩ => ?_)
            subst hr1
            
            refine zC ?_
            apply cr
            refine s_ p_ad ?_
            refine s_ p_mv ?_
            refine zC ?_
            refine ⟨(q + 1, H'), ⟨by simp only; omega, ?_⟩, (by simp only []; omega), ⟨?_, eL⟩, kR⟩
            · simp only
              rw [ticks_succ]; exact hr2
            · apply le_get; ((repeat (apply gS; rfl)); exact gZ)
              exact Le.refl _
          · intro hge3
            have hq5 : q = 5 := by omega
            subst hq5
            refine zC ?_
            apply cr
            refine s_ p_ad ?_
            refine s_ p_mv ?_
            refine zC ?_
            refine ⟨(j + 1, H), ⟨by simp only; omega, ?_⟩, (by simp only []; omega), ⟨?_, eL⟩, kR⟩
            · simp only
              rw [calm_succ, ← hg0]
              unfold roundG
              rw [← hg1e]; exact hG
            · apply le_get; ((repeat (apply gS; rfl)); exact gZ)
              exact Le.refl _
  · intro hge
    have hje : j = n := by omega
    subst hje
    refine zC ?_
    refine rhn kR ⟨rfl, ?_⟩ (Le.refl _)
    rw [← hg0]; exact hG
end Go.Proofs.YtjbokbikkcfjjaaGreat
end
