/-
  More rules: 'append', and slices cut.
-/
import Derived.Test.YtbdpfclnomiicaaGreatCut
namespace Go.Cap
section
variable {K : Ctx} {P : Program} {t : Env} {H : Heap} {dst : Option Tmp} {tp : TypeId} {pos : String} {aft : Array Edge} {g : Option (Nat × Bool)} {N : Env → Heap → Prop}
variable {S : Nat → Prop} {w : World} {ty ty' : TypeId}
theorem run_app_new {e e' : TypeId} {i : TypeInfo} {z : Value} (hu : P.underlying ty = some (.slice e)) (hu' : P.underlying ty' = some (.slice e')) (hi : P.info? e = some i) (hz : i.zero = some z)
    {a : Option Addr} {n c m : Nat} {y : Value} {olds news : List Value}
    (hl : (Builtin.lenOf y).run P w = .ok m w) (hc : c < n + m) (hb : (n + m) * i.bytes ≤ 140737488355328) (hmx : n + m ≤ 9223372036854775807)
    (ho : (Builtin.firstCells i.size n (.slice a n c)).run P w.drew = .ok olds.toArray w.drew) (hn : (Builtin.firstCells i.size m y).run P w.drew = .ok news.toArray w.drew) :
    (Builtin.append_ #[ty, ty'] tp #[.slice a n c, y]).run P w = .ok (.slice (some ⟨w.heap.size, 0, none⟩) (n + m) (grownCap w (n + m) c e))
      (w.drew.alloc (.cells (olds.toArray ++ news.toArray ++ Builtin.zeroCells z.cells (grownCap w (n + m) c e - (n + m))) e)) := by
  have h1 : ¬ (n + m ≤ c) := by omega
  have h63' : ¬ (9223372036854775807 < ((n : Int) + (m : Int))) := by omega
  have h48' : ¬ (281474976710656 < Builtin.nextslicecap (n + m) c * i.bytes) := by have := growslice_fits hc hb; omega
  simp [Builtin.append_, run_underlying hu, run_underlying hu', sizeOf, typeInfo, zeroValue, hi, hz, hl, h1, h63', h48', Question.forced, ho, hn, newRow, grownCap]
  congr 2
  apply Array.ext'
  simp [List.append_assoc]
theorem run_app_fit {e e' : TypeId} {i : TypeInfo} (hu : P.underlying ty = some (.slice e)) (hu' : P.underlying ty' = some (.slice e')) (hi : P.info? e = some i)
    {b o n c m : Nat} {y : Value} {news : List Value} {w' : World}
    (hl : (Builtin.lenOf y).run P w = .ok m w) (hc : n + m ≤ c) (hn : (Builtin.firstCells i.size m y).run P w = .ok news.toArray w)
    (hs : (storeCells ⟨b, o + n * i.size, none⟩ news).run P w = .ok () w') :
    (Builtin.append_ #[ty, ty'] tp #[.slice (some ⟨b, o, none⟩) n c, y]).run P w = .ok (.slice (some ⟨b, o, none⟩) (n + m) c) w' := by
  simp [Builtin.append_, run_underlying hu, run_underlying hu', sizeOf, typeInfo, hi, hl, hc, hn, Addr.add_mk, hs]
theorem run_app_none {e e' : TypeId} {i : TypeInfo} (hu : P.underlying ty = some (.slice e)) (hu' : P.underlying ty' = some (.slice e')) (hi : P.info? e = some i)
    {a : Option Addr} {n c : Nat} {y : Value}
    (hl : (Builtin.lenOf y).run P w = .ok 0 w) (hc : n ≤ c) (hn : (Builtin.firstCells i.size 0 y).run P w = .ok #[] w) :
    (Builtin.append_ #[ty, ty'] tp #[.slice a n c, y]).run P w = .ok (.slice a n c) w := by
  cases a with
  | none => simp [Builtin.append_, run_underlying hu, run_underlying hu', sizeOf, typeInfo, hi, hl, hc, hn]
  | some a => simp [Builtin.append_, run_underlying hu, run_underlying hu', sizeOf, typeInfo, hi, hl, hc, hn, storeCells]
theorem slice_shape {f : Bool} {xs : List T} {u : Value} (h : Rel S w (.sl f xs) u) : ∃ a c, u = .slice a xs.length c ∧ xs.length ≤ c ∧ (f = true → c = xs.length) := by
  cases h with
  | nil _ p c hf => exact ⟨p, c, rfl, Nat.zero_le _, fun e => by rw [hf e]; rfl⟩
  | sl _ _ b o cap vs k' cs ty fz hS hb hr hg hf hc => rw [← hr.length]; exact ⟨_, _, rfl, hc, hf⟩
theorem step_drew (h : Wf S w) (F : List Nat) : Step F S w S w.drew := ⟨rfl, rfl, rfl, Nat.le_refl _, fun _ _ _ => rfl, fun _ h => h, fun _ h => .inl h, h⟩
theorem mono_drew : ∀ b, S b → S b ∧ w.drew.heap[b]? = w.heap[b]? := fun _ h => ⟨h, rfl⟩
theorem wf_drew (h : Wf S w) : Wf S w.drew := h
theorem pop_append {x y : Operand} {xs ys : List T} {f : Bool} {dx dy : T} {d : T} {by_ : Nat} (hx : t.ev x = dx) (hxl : Le dx (.sl true xs)) (hy : t.ev y = dy) (hyl : Le dy (.sl f ys)) [hz : ElemZC P ty d by_] (hs : isSliceTy P ty' = true)
    (hkx : ∀ x ∈ xs, x.cells.length = d.cells.length) (hky : ∀ x ∈ ys, x.cells.length = d.cells.length) (hb : (xs.length + ys.length) * by_ ≤ 140737488355328) (hm : xs.length + ys.length ≤ 9223372036854775807) :
    POp P t H ⟨dst, .call ⟨.builtin .append, #[x, y], #[ty, ty']⟩, tp, pos, aft, g⟩ (.sl false (xs ++ ys)) :=
  POp.run fun S w a hw _ hr => by
    have h1 := hr x (by simp [Op.operands, Call.operands]); rw [hx] at h1
    have h2 := hr y (by simp [Op.operands, Call.operands]); rw [hy] at h2
    replace h1 := hxl _ _ _ h1
    replace h2 := hyl _ _ _ h2
    obtain ⟨e, i, z, hu, hi, hzz, hsz, hp, rfl, hby⟩ := elemZ_of hz.h
    obtain ⟨e', _, hu', _⟩ := slice_of hs
    have hl := ofVal_cells z
    have hk0 : 0 < (T.ofVal z).cells.length := by omega
    obtain ⟨a1, c1, he1, hc1, hf1⟩ := slice_shape h1
    have hc1' := hf1 rfl
    have e1 : (execOp a.eval ⟨dst, .call ⟨.builtin .append, #[x, y], #[ty, ty']⟩, tp, pos, aft, g⟩).run P w = ((Builtin.append_ #[ty, ty'] tp #[a.eval x, a.eval y]).run P w).andThen fun v w' => .ok (.value v) w' := by
      simp [execOp, resolve, invoke, builtin]
    rw [e1, he1]
    rw [he1] at h1
    have hlen := run_lenOf (P := P) h2
    rcases Nat.eq_zero_or_pos ys.length with h0 | h0
    · have hys : ys = [] := List.length_eq_zero_iff.1 h0
      subst hys
      obtain ⟨us, hus, hrel, hul⟩ := run_first (P := P) h2 hky hk0 0 (Nat.zero_le _)
      have hus0 : us = [] := List.length_eq_zero_iff.1 (by omega)
      subst hus0
      rw [run_app_none hu hu' hi hlen hc1 (by rw [hsz, ← hl]; exact hus)]
      refine ⟨_, w, S, rfl, Step.refl _ hw, ?_⟩
      rw [List.append_nil]
      exact Le.full xs false _ _ _ h1
    · have h1d : Rel S w.drew (.sl true xs) (.slice a1 xs.length c1) := h1.mono mono_drew
      have h2d : Rel S w.drew (.sl f ys) (a.eval y) := h2.mono mono_drew
      obtain ⟨us, hus, hrel, hus2, hul⟩ := run_firstV (P := P) h1d hkx hk0 xs.length (Nat.le_refl _)
      obtain ⟨vs, hvs, hrelv, hvs2, hvl⟩ := run_firstV (P := P) h2d hky hk0 ys.length (Nat.le_refl _)
      rw [hl, ← hsz] at hus hvs
      have hrun := run_app_new (tp := tp) hu hu' hi hzz hlen (show c1 < xs.length + ys.length by omega) (by rw [hby]; exact hb) hm hus hvs
      rw [hrun]
      rw [List.take_length] at hrel hrelv
      have hcap : xs.length + ys.length ≤ grownCap w (xs.length + ys.length) c1 e := Nat.le_add_right _ _
      refine ⟨_, _, withNew S w.drew, rfl, Step.trans (step_drew hw []) (step_stay (wf_drew hw) _) (by simp), ?_⟩
      have hwd : w.drew.heap.size = w.heap.size := rfl
      have hkk : ∀ v ∈ us ++ vs, v.cells.size = (T.ofVal z).cells.length := fun v hv => by
        rcases List.mem_append.1 hv with h | h
        · exact hus2 v h
        · exact hvs2 v h
      have := rel_new (f := false) (S := withNew S w.drew) (cap := grownCap w (xs.length + ys.length) c1 e) (k := (T.ofVal z).cells.length) (b := w.drew.heap.size)
        (.inr rfl) (heap_new w.drew (.cells ((us.flatMap fun v => v.cells.toList).toArray ++ (vs.flatMap fun v => v.cells.toList).toArray ++ Builtin.zeroCells z.cells (grownCap w (xs.length + ys.length) c1 e - (xs.length + ys.length))) e))
        ((hrel.append hrelv).mono (mono_alloc (wf_drew hw) _ (fun _ h => .inl h))) hkk (by
          have h5 : (us ++ vs).length * (T.ofVal z).cells.length = ((us ++ vs).flatMap fun v => v.cells.toList).length := (flat_len _ hkk).symm
          rw [h5, show ((us.flatMap fun v => v.cells.toList).toArray ++ (vs.flatMap fun v => v.cells.toList).toArray ++ Builtin.zeroCells z.cells (grownCap w (xs.length + ys.length) c1 e - (xs.length + ys.length))).toList =
            ((us ++ vs).flatMap fun v => v.cells.toList) ++ (Builtin.zeroCells z.cells (grownCap w (xs.length + ys.length) c1 e - (xs.length + ys.length))).toList by simp [List.flatMap_append]]
          exact List.take_left) (by simp) (by rw [List.length_append, hul, hvl]; exact hcap)
      rw [List.length_append, hul, hvl] at this
      exact this
theorem zeroCells_size (z : Array Value) (n : Nat) : (Builtin.zeroCells z n).size = n * z.size := by simp [Builtin.zeroCells]
theorem eop_append_new {x y : Operand} {xs ys : List T} {f : Bool} {dx dy : T} {d : T} {by_ : Nat} (hx : t.ev x = dx) (hxl : Le dx (.sl true xs)) (hy : t.ev y = dy) (hyl : Le dy (.sl f ys)) [hz : ElemZC K.P ty d by_] (hs : isSliceTy K.P ty' = true)
    (hkx : ∀ x ∈ xs, x.cells.length = d.cells.length) (hky : ∀ x ∈ ys, x.cells.length = d.cells.length) (h0 : 0 < ys.length) (hb : (xs.length + ys.length) * by_ ≤ 140737488355328) (hm : xs.length + ys.length ≤ 9223372036854775807)
    {kd : Tmp} (hd : Nat.blt kd K.n = true)
    (h : ∀ b c, (∀ c ∈ keys H, ¬ c = b) → xs.length + ys.length ≤ c →
      N ((kd, .v (.slice (some ⟨b, 0, none⟩) (xs.length + ys.length) c)) :: t) ((b, ⟨elemTy K.P ty, xs.flatMap T.cells ++ ys.flatMap T.cells, c * d.cells.length⟩) :: H)) :
    EOp K t H ⟨some kd, .call ⟨.builtin .append, #[x, y], #[ty, ty']⟩, tp, pos, aft, g⟩ N := by
  refine EOp.of_w (fun c e => by cases e) ?_
  intro a w ⟨S, hr⟩ Kc Q hk
  have h1 := hr.env.ev x; rw [hx] at h1
  have h2 := hr.env.ev y; rw [hy] at h2
  replace h1 := hxl _ _ _ h1
  replace h2 := hyl _ _ _ h2
  obtain ⟨e, i, z, hu, hi, hzz, hsz, hp, rfl, hby⟩ := elemZ_of hz.h
  obtain ⟨e', _, hu', _⟩ := slice_of hs
  have hl := ofVal_cells z
  have hk0 : 0 < (T.ofVal z).cells.length := by omega
  obtain ⟨a1, c1, he1, hc1, hf1⟩ := slice_shape h1
  have hc1' := hf1 rfl
  have e1 : (execOp a.eval ⟨some kd, .call ⟨.builtin .append, #[x, y], #[ty, ty']⟩, tp, pos, aft, g⟩).run K.P w = ((Builtin.append_ #[ty, ty'] tp #[a.eval x, a.eval y]).run K.P w).andThen fun v w' => .ok (.value v) w' := by
    simp [execOp, resolve, invoke, builtin]
  have hee : elemTy K.P ty = e := by unfold elemTy; rw [hu]
  unfold Oper.wp
  rw [e1, he1]
  rw [he1] at h1
  have hlen := run_lenOf (P := K.P) h2
  have h1d : Rel S w.drew (.sl true xs) (.slice a1 xs.length c1) := h1.mono mono_drew
  have h2d : Rel S w.drew (.sl f ys) (a.eval y) := h2.mono mono_drew
  obtain ⟨us, hus, hrel, hul⟩ := run_first (P := K.P) h1d hkx hk0 xs.length (Nat.le_refl _)
  obtain ⟨vs, hvs, hrelv, hvl⟩ := run_first (P := K.P) h2d hky hk0 ys.length (Nat.le_refl _)
  rw [hl, ← hsz] at hus hvs
  have hrun := run_app_new (tp := tp) hu hu' hi hzz hlen (show c1 < xs.length + ys.length by omega) (by rw [hby]; exact hb) hm hus hvs
  rw [hrun]
  rw [List.take_length] at hrel hrelv
  have hcap : xs.length + ys.length ≤ grownCap w (xs.length + ys.length) c1 e := Nat.le_add_right _ _
  have hrd : R1 K t H a w.drew S := ⟨hr.size, hr.defers.step mono_drew (fun _ _ h _ => h) (Nat.le_refl _), hr.step.trans (step_drew hr.wf []) (by simp), hr.own.step (step_drew hr.wf []) hr.wf (by simp) (by simp), hr.mine, hr.env.mono mono_drew⟩
  have hlx := flat_lenT xs hkx
  have hly := flat_lenT ys hky
  have hsum : (xs.length + ys.length) * (T.ofVal z).cells.length = xs.length * (T.ofVal z).cells.length + ys.length * (T.ofVal z).cells.length := Nat.add_mul _ _ _
  have hcm : (xs.length + ys.length) * (T.ofVal z).cells.length ≤ grownCap w (xs.length + ys.length) c1 e * (T.ofVal z).cells.length := Nat.mul_le_mul_right _ hcap
  have hzs : (grownCap w (xs.length + ys.length) c1 e - (xs.length + ys.length)) * (T.ofVal z).cells.length = grownCap w (xs.length + ys.length) c1 e * (T.ofVal z).cells.length - (xs.length + ys.length) * (T.ofVal z).cells.length := Nat.sub_mul _ _ _
  have hfr := hrd.fresh (dst := some kd) (d := .v (.slice (some ⟨w.heap.size, 0, none⟩) (xs.length + ys.length) (grownCap w (xs.length + ys.length) c1 e)))
    (k := ⟨elemTy K.P ty, xs.flatMap T.cells ++ ys.flatMap T.cells, grownCap w (xs.length + ys.length) c1 e * (T.ofVal z).cells.length⟩)
    (cs := us.toArray ++ vs.toArray ++ Builtin.zeroCells z.cells (grownCap w (xs.length + ys.length) c1 e - (xs.length + ys.length)))
    (by simp only [Array.size_append, List.size_toArray, zeroCells_size, hul, hvl, ← hl]; omega) (by simp only [List.length_append]; omega) (by
      simp only [List.length_append, hlx, hly]
      have : (us.toArray ++ vs.toArray ++ Builtin.zeroCells z.cells (grownCap w (xs.length + ys.length) c1 e - (xs.length + ys.length))).toList = (us ++ vs) ++ (Builtin.zeroCells z.cells (grownCap w (xs.length + ys.length) c1 e - (xs.length + ys.length))).toList := by simp
      rw [this, List.take_left' (by rw [List.length_append, hul, hvl])]
      exact hrel.append hrelv) hd (.v _)
  rw [hee] at hfr
  have hh := h w.heap.size _ (fresh_ne hr) hcap
  rw [hee] at hh
  exact hk _ _ _ _ hh ⟨S, hfr⟩
theorem nodup_set {x : Nat} : ∀ {l : List Nat} {i : Nat}, l.Nodup → x ∉ l → (l.set i x).Nodup
  | [], i, h, _ => by simp
  | y :: l, 0, h, hx => by
    rw [List.set_cons_zero, List.nodup_cons]
    exact ⟨fun hm => hx (List.mem_cons_of_mem _ hm), (List.nodup_cons.1 h).2⟩
  | y :: l, i + 1, h, hx => by
    rw [List.set_cons_succ, List.nodup_cons]
    have hn := List.nodup_cons.1 h
    refine ⟨fun hm => ?_, nodup_set hn.2 (fun hm => hx (List.mem_cons_of_mem _ hm))⟩
    rcases List.mem_or_eq_of_mem_set hm with h1 | h1
    · exact hn.1 h1
    · exact hx (h1 ▸ List.mem_cons_self)
theorem R1.swap {a : Act} (h : R1 K t H a w S) {i b : Nat} {k0 : Blk} (hi : H[i]? = some (b, k0)) {k : Blk} {cs : Array Value} (hs : cs.size = k.size) (hl : k.cells.length ≤ k.size) (hr : RelL S w k.cells (cs.toList.take k.cells.length))
    {d : T} {v : Value} {kd : Tmp} (hd : Nat.blt kd K.n = true) (hv : Rel S w d v) :
    R1 K ((kd, d) :: t) (H.set i (w.heap.size, k)) (a.put (some kd) v) (w.alloc (.cells cs k.ty)) S := by
  have hm := mono_alloc h.wf (.cells cs k.ty) (S' := S) (fun _ h => h)
  have hlt : i < H.length := (List.getElem?_eq_some_iff.1 hi).1
  have hkeys : ∀ c ∈ keys (H.set i (w.heap.size, k)), (c ∈ keys H ∧ ¬ c = w.heap.size) ∨ c = w.heap.size := by
    intro c hc
    unfold keys at hc
    rw [List.map_set] at hc
    rcases List.mem_or_eq_of_mem_set hc with h1 | h1
    · exact .inl ⟨h1, fresh_ne h c h1⟩
    · exact .inr h1
  refine ⟨by simp [h.size], (h.defers.step hm (objs_alloc w _) (by simp)).put (dst := some kd) hd, h.step.trans (step_mine h.wf _ []) (by simp), ⟨?_, ?_, ?_⟩, ?_, (h.env.mono hm).put (dst := some kd) (by rw [h.size]; exact hd) (hv.mono hm)⟩
  · unfold keys
    rw [List.map_set]
    exact nodup_set h.own.nodup (fun hm' => fresh_ne h _ hm' rfl)
  · intro c hc hS
    rcases hkeys c hc with h1 | h1
    · exact h.own.apart c h1.1 hS
    · have := h.wf c hS; omega
  · intro p hp
    rcases List.mem_or_eq_of_mem_set hp with h1 | h1
    · have h2 := h.own.has p h1
      exact h2.mono (heap_older w _ h2.lt) hm
    · subst h1
      exact ⟨cs, heap_new w _, hs, hl, hr.mono hm⟩
  · intro c hc
    rcases hkeys c hc with h1 | h1
    · exact h.mine c h1.1
    · exact .inr (by have := h.step.size; omega)
theorem eop_append_own {x y : Operand} {b n c : Nat} {k : Blk} {ys : List T} {f : Bool} {dy : T} {d : T} {by_ : Nat} (i : Nat) (hx : t.ev x = .v (.slice (some ⟨b, 0, none⟩) n c)) (hi : H[i]? = some (b, k)) (hy : t.ev y = dy) (hyl : Le dy (.sl f ys))
    [hz : ElemZC K.P ty d by_] (hs : isSliceTy K.P ty' = true) (hty : k.ty = elemTy K.P ty) (hkl : k.cells.length = n * d.cells.length) (hks : k.size = c * d.cells.length)
    (hky : ∀ x ∈ ys, x.cells.length = d.cells.length) (hyleaf : ∀ x ∈ ys, allLeaf x.cells = true) (hb : (n + ys.length) * by_ ≤ 140737488355328) (hm : n + ys.length ≤ 9223372036854775807) {kd : Tmp} (hd : Nat.blt kd K.n = true)
    (h : ∀ b' c', b' = b ∨ (∀ e ∈ keys H, ¬ e = b') → n + ys.length ≤ c' →
      N ((kd, .v (.slice (some ⟨b', 0, none⟩) (n + ys.length) c')) :: t) (H.set i (b', ⟨k.ty, k.cells ++ ys.flatMap T.cells, c' * d.cells.length⟩))) :
    EOp K t H ⟨some kd, .call ⟨.builtin .append, #[x, y], #[ty, ty']⟩, tp, pos, aft, g⟩ N := by
  refine EOp.of_w (fun c e => by cases e) ?_
  intro a w ⟨S, hr⟩ Kc Q hk
  have h1 := hr.env.ev x; rw [hx] at h1
  have h2 := hr.env.ev y; rw [hy] at h2
  replace h2 := hyl _ _ _ h2
  obtain ⟨e, inf, z, hu, hinf, hzz, hsz, hp, rfl, hby⟩ := elemZ_of hz.h
  obtain ⟨e', _, hu', _⟩ := slice_of hs
  have hl := ofVal_cells z
  have hk0 : 0 < (T.ofVal z).cells.length := by omega
  have hee : elemTy K.P ty = e := by unfold elemTy; rw [hu]
  obtain ⟨cs, hbk, hcs, hcl, hrl⟩ := hr.own.at hi
  have e1 : (execOp a.eval ⟨some kd, .call ⟨.builtin .append, #[x, y], #[ty, ty']⟩, tp, pos, aft, g⟩).run K.P w = ((Builtin.append_ #[ty, ty'] tp #[a.eval x, a.eval y]).run K.P w).andThen fun v w' => .ok (.value v) w' := by
    simp [execOp, resolve, invoke, builtin]
  unfold Oper.wp
  rw [e1, h1.v_eq]
  have hlen := run_lenOf (P := K.P) h2
  have hly := flat_lenT ys hky
  have hsum : (n + ys.length) * (T.ofVal z).cells.length = n * (T.ofVal z).cells.length + ys.length * (T.ofVal z).cells.length := Nat.add_mul _ _ _
  have hleaf : allLeaf (ys.flatMap T.cells) = true := by
    unfold allLeaf
    rw [List.all_eq_true]
    intro q hq
    obtain ⟨x', hx', hq⟩ := List.mem_flatMap.1 hq
    exact List.all_eq_true.1 (hyleaf x' hx') q hq
  have hts : cs.toList.length = cs.size := Array.length_toList
  by_cases hfit : n + ys.length ≤ c
  · have hcm : (n + ys.length) * (T.ofVal z).cells.length ≤ c * (T.ofVal z).cells.length := Nat.mul_le_mul_right _ hfit
    obtain ⟨vs, hvs, hrelv, hvl⟩ := run_first (P := K.P) h2 hky hk0 ys.length (Nat.le_refl _)
    rw [List.take_length] at hrelv
    rw [hl, ← hsz] at hvs
    have hst := run_storeCells (P := K.P) (o := 0 + n * inf.size) hbk vs (by rw [hsz, ← hl]; omega) (relL_leaf hrelv hleaf)
    rw [run_app_fit (tp := tp) hu hu' hinf hlen hfit hvs hst]
    obtain ⟨s1, s2, s3, s4, s5, s6⟩ := setRow_spec (cs' := (lay cs.toList (0 + n * inf.size) vs).toArray) hbk
    have hon : 0 + n * inf.size = k.cells.length := by rw [hkl, hsz, hl]; omega
    have hw := hr.write (xs := ys.flatMap T.cells) (us := vs) (o := k.cells.length) hi (Nat.le_refl _) (by omega) s4 s5 s6 s3 s2 s1 (fun cs2 h2 => by rw [hbk] at h2; cases h2; rw [hon]) hrelv
    have hlay : lay k.cells k.cells.length (ys.flatMap T.cells) = k.cells ++ ys.flatMap T.cells := by
      unfold lay
      rw [List.take_length, List.drop_of_length_le (by omega), List.append_nil]
    rw [hlay] at hw
    have hh := h b c (.inl rfl) hfit
    rw [show c * (T.ofVal z).cells.length = k.size from hks.symm] at hh
    refine hk _ _ _ _ hh ⟨S, ?_⟩
    exact ⟨by simp [hw.size], hw.defers.put (dst := some kd) hd, hw.step, hw.own, hw.mine, hw.env.put (dst := some kd) (by rw [hw.size]; exact hd) (.v _)⟩
  · have h2d : Rel S w.drew (.sl f ys) (a.eval y) := h2.mono mono_drew
    obtain ⟨vs, hvs, hrelv, hvl⟩ := run_first (P := K.P) h2d hky hk0 ys.length (Nat.le_refl _)
    rw [List.take_length] at hrelv
    rw [hl, ← hsz] at hvs
    have hold : (Builtin.firstCells inf.size n (.slice (some ⟨b, 0, none⟩) n c)).run K.P w.drew = .ok (cs.toList.take (n * inf.size)).toArray w.drew := by
      simp only [Builtin.firstCells]
      exact run_cells (w := w.drew) (b := b) (cs := cs) (ty := k.ty) (fz := (0, 0)) hbk _ (by rw [List.length_take, hsz, ← hl]; omega) (by simp)
    have hrun := run_app_new (tp := tp) hu hu' hinf hzz hlen (show c < n + ys.length by omega) (by rw [hby]; exact hb) hm hold hvs
    rw [hrun]
    have hcap : n + ys.length ≤ grownCap w (n + ys.length) c e := Nat.le_add_right _ _
    have hrd : R1 K t H a w.drew S := ⟨hr.size, hr.defers.step mono_drew (fun _ _ h _ => h) (Nat.le_refl _), hr.step.trans (step_drew hr.wf []) (by simp), hr.own.step (step_drew hr.wf []) hr.wf (by simp) (by simp), hr.mine, hr.env.mono mono_drew⟩
    have hcm : (n + ys.length) * (T.ofVal z).cells.length ≤ grownCap w (n + ys.length) c e * (T.ofVal z).cells.length := Nat.mul_le_mul_right _ hcap
    have hzs : (grownCap w (n + ys.length) c e - (n + ys.length)) * (T.ofVal z).cells.length = grownCap w (n + ys.length) c e * (T.ofVal z).cells.length - (n + ys.length) * (T.ofVal z).cells.length := Nat.sub_mul _ _ _
    have hnk : n * inf.size = k.cells.length := by rw [hkl, hsz, hl]
    have hfr := hrd.swap (d := .v (.slice (some ⟨w.heap.size, 0, none⟩) (n + ys.length) (grownCap w (n + ys.length) c e))) hi
      (k := ⟨k.ty, k.cells ++ ys.flatMap T.cells, grownCap w (n + ys.length) c e * (T.ofVal z).cells.length⟩)
      (cs := (cs.toList.take (n * inf.size)).toArray ++ vs.toArray ++ Builtin.zeroCells z.cells (grownCap w (n + ys.length) c e - (n + ys.length)))
      (by simp only [Array.size_append, List.size_toArray, zeroCells_size, List.length_take, hvl, ← hl, hnk]; omega) (by simp only [List.length_append]; omega) (by
        have : ((cs.toList.take (n * inf.size)).toArray ++ vs.toArray ++ Builtin.zeroCells z.cells (grownCap w (n + ys.length) c e - (n + ys.length))).toList = (cs.toList.take (n * inf.size) ++ vs) ++ (Builtin.zeroCells z.cells (grownCap w (n + ys.length) c e - (n + ys.length))).toList := by simp
        simp only
        rw [this, List.take_left' (by simp only [List.length_append, List.length_take, hvl, hly, hnk]; omega), hnk]
        exact (hrl.mono mono_drew).append hrelv) hd (.v _)
    have hh := h w.heap.size _ (.inr (fresh_ne hr)) hcap
    have hke : k.ty = e := hty.trans hee
    rw [← hke] at hh hfr ⊢
    exact hk _ _ _ _ hh ⟨S, hfr⟩
end
end Go.Cap
