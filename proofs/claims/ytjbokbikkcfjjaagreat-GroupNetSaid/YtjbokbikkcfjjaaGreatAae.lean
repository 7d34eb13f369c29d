/-
  More rules: slices cut, copied, appended to; text and bytes.
  More rules: 'append', and slices cut.
  More rules: bytes and text; slices cut.
-/
import Derived.Test.YtjbokbikkcfjjaaGreatAad
section
namespace Go.Cap
section
variable {K : Ctx} {P : Program} {t : Env} {H : Heap} {dst : Option Tmp} {tp : TypeId} {pos : String} {aft : Array Edge} {g : Option (Nat × Bool)} {N : Env → Heap → Prop}
variable {S : Nat → Prop} {w : World} {ty ty' : TypeId}
theorem flat_len {k : Nat} : ∀ (l : List Value), (∀ v ∈ l, v.cells.size = k) → (l.flatMap fun v => v.cells.toList).length = l.length * k
  | [], _ => by simp
  | x :: l, h => by
    rw [List.flatMap_cons, List.length_append, flat_len l (fun y hy => h y (List.mem_cons_of_mem _ hy)), Array.length_toList, h x List.mem_cons_self, List.length_cons, Nat.succ_mul]; omega
theorem flat_lenT {k : Nat} : ∀ (l : List T), (∀ v ∈ l, v.cells.length = k) → (l.flatMap T.cells).length = l.length * k
  | [], _ => by simp
  | x :: l, h => by
    rw [List.flatMap_cons, List.length_append, flat_lenT l (fun y hy => h y (List.mem_cons_of_mem _ hy)), h x List.mem_cons_self, List.length_cons, Nat.succ_mul]; omega
theorem relL_cells {k : Nat} (h0 : 0 < k) : ∀ {xs : List T} {vs : List Value}, RelL S w xs vs → (∀ x ∈ xs, x.cells.length = k) →
    RelL S w (xs.flatMap T.cells) (vs.flatMap fun v => v.cells.toList) ∧ ∀ v ∈ vs, v.cells.size = k
  | [], _, .nil, _ => ⟨.nil, by simp⟩
  | _ :: _, _, .cons x y xs ys h hs, hk => by
    have hx := hk x List.mem_cons_self
    obtain ⟨h1, h2⟩ := relL_cells h0 hs (fun z hz => hk z (List.mem_cons_of_mem _ hz))
    have hsz := h.size (by omega)
    refine ⟨by rw [List.flatMap_cons, List.flatMap_cons]; exact (h.cells (by omega)).append h1, fun v hv => ?_⟩
    rcases List.mem_cons.1 hv with rfl | hv
    · omega
    · exact h2 v hv
theorem flat_takeV {k : Nat} : ∀ (l : List Value) (m : Nat), (∀ v ∈ l, v.cells.size = k) → (l.flatMap fun v => v.cells.toList).take (m * k) = (l.take m).flatMap fun v => v.cells.toList
  | [], m, _ => by simp
  | x :: l, 0, _ => by simp
  | x :: l, m + 1, h => by
    have hx := h x List.mem_cons_self
    have : x.cells.toList.length = k := by rw [Array.length_toList, hx]
    rw [List.flatMap_cons, List.take_succ_cons, List.flatMap_cons, Nat.succ_mul, List.take_append, this]
    rw [List.take_of_length_le (by omega), show m * k + k - k = m * k by omega, flat_takeV l m (fun y hy => h y (List.mem_cons_of_mem _ hy))]
theorem run_firstV {f : Bool} {xs : List T} {u : Value} {k : Nat} (h : Rel S w (.sl f xs) u) (hk : ∀ x ∈ xs, x.cells.length = k) (h0 : 0 < k) (m : Nat) (hm : m ≤ xs.length) :
    ∃ vs : List Value, (Builtin.firstCells k m u).run P w = .ok (vs.flatMap fun v => v.cells.toList).toArray w ∧ RelL S w (xs.take m) vs ∧ (∀ v ∈ vs, v.cells.size = k) ∧ vs.length = m := by
  cases h with
  | nil _ p c _ =>
    have hm0 : m = 0 := by simpa using hm
    subst hm0
    refine ⟨[], ?_, by simp; exact .nil, by simp, by simp⟩
    cases p with
    | none => simp [Builtin.firstCells]
    | some a =>
      have := run_loadCells_list (P := P) (w := w) a [] (fun j v hj => by simp at hj)
      simpa [Builtin.firstCells] using this
  | sl _ _ b o cap vs k' cs ty fz hS hb hr hg hf hc =>
    obtain ⟨h1, h2⟩ := relL_cells h0 hr hk
    have hvl := hr.length
    have hmv : ∀ v ∈ vs.take m, v.cells.size = k := fun v hv => h2 v (List.mem_of_mem_take hv)
    refine ⟨vs.take m, ?_, hr.take m, hmv, by rw [List.length_take]; omega⟩
    simp only [Builtin.firstCells]
    have hl := flat_len _ hmv
    rw [List.length_take, Nat.min_eq_left (by omega)] at hl
    refine run_cells hb _ hl ?_
    rw [← flat_takeV vs m h2]
    rcases Nat.eq_zero_or_pos vs.length with hz | hz
    · have : m = 0 := by omega
      subst this; simp
    · have hk' : k' = k := by
        cases vs with
        | nil => simp at hz
        | cons v vs => rw [← hg.1 v List.mem_cons_self, h2 v List.mem_cons_self]
      subst hk'
      rw [← hg.2, List.take_take]
      congr 1
      have : m * k' ≤ vs.length * k' := Nat.mul_le_mul_right _ (by omega)
      omega
theorem run_first {f : Bool} {xs : List T} {u : Value} {k : Nat} (h : Rel S w (.sl f xs) u) (hk : ∀ x ∈ xs, x.cells.length = k) (h0 : 0 < k) (m : Nat) (hm : m ≤ xs.length) :
    ∃ us : List Value, (Builtin.firstCells k m u).run P w = .ok us.toArray w ∧ RelL S w ((xs.take m).flatMap T.cells) us ∧ us.length = m * k := by
  obtain ⟨vs, h1, h2, h3, h4⟩ := run_firstV (P := P) h hk h0 m hm
  exact ⟨_, h1, (relL_cells h0 h2 fun x hx => hk x (List.mem_of_mem_take hx)).1, by rw [flat_len vs h3, h4]⟩
theorem run_lenOf {f : Bool} {xs : List T} {u : Value} (h : Rel S w (.sl f xs) u) : (Builtin.lenOf u).run P w = .ok xs.length w := by
  cases h with
  | nil => rfl
  | sl _ _ b o cap vs k' cs ty fz hS hb hr hg hf hc => rw [← hr.length]; rfl
theorem eop_copy {x y : Operand} {b o n c : Nat} {k : Blk} {f : Bool} {xs : List T} {kk : Nat} (i : Nat) (hx : t.ev x = .v (.slice (some ⟨b, o, none⟩) n c)) (hy : t.ev y = .sl f xs) (hi : H[i]? = some (b, k)) {ty1 : TypeId} (hT : k.ty = .ty ty1)
    [hs : ElemSzC K.P ty kk] (hp : Nat.blt 0 kk = true) (hk : ∀ x ∈ xs, x.cells.length = kk) (hl : ∀ x ∈ xs, allLeaf x.cells = true) (ho : o + min xs.length n * kk ≤ k.cells.length) {kd : Tmp} (hd : Nat.blt kd K.n = true)
    (h : N ((kd, .v (.int .i64 (min xs.length n : Nat))) :: t) (H.set i (b, ⟨k.ty, lay k.cells o ((xs.take (min xs.length n)).flatMap T.cells), k.size⟩))) :
    EOp K t H ⟨some kd, .call ⟨.builtin .copy, #[x, y], #[ty, ty']⟩, tp, pos, aft, g⟩ N := by
  refine EOp.of_w (fun c e => by cases e) ?_
  intro a w ⟨S, hr⟩ Kc Q hkc
  have h1 := hr.env.ev x; rw [hx] at h1
  have h2 := hr.env.ev y; rw [hy] at h2
  have hp' : 0 < kk := by simpa using hp
  obtain ⟨cs, hb, hsz, hle, hrl⟩ := (hr.own.at hi).row hT
  obtain ⟨e, inf, hu, hinf, his⟩ := elem_of hs.h
  obtain ⟨us, hus, hrel, hul⟩ := run_first (P := K.P) h2 hk hp' (min xs.length n) (Nat.min_le_left _ _)
  have hleaf : allLeaf ((xs.take (min xs.length n)).flatMap T.cells) = true := by
    unfold allLeaf
    rw [List.all_eq_true]
    intro z hz
    obtain ⟨x', hx', hz⟩ := List.mem_flatMap.1 hz
    exact List.all_eq_true.1 (hl x' (List.mem_of_mem_take hx')) z hz
  have hst := run_storeCells (P := K.P) (o := o) hb us (by omega) (relL_leaf hrel hleaf)
  obtain ⟨s1, s2, s3, s4, s5, s6⟩ := setRow_spec (cs' := (lay cs.toList o us).toArray) hb
  have hlay : ((xs.take (min xs.length n)).flatMap T.cells).length = us.length := hrel.length.symm
  have hrun : (execOp a.eval ⟨some kd, .call ⟨.builtin .copy, #[x, y], #[ty, ty']⟩, tp, pos, aft, g⟩).run K.P w = .ok (.value (.int .i64 (min xs.length n : Nat))) (w.setRow b (lay cs.toList o us).toArray) := by
    have e1 : (execOp a.eval ⟨some kd, .call ⟨.builtin .copy, #[x, y], #[ty, ty']⟩, tp, pos, aft, g⟩).run K.P w = ((Builtin.copy_ #[ty, ty'] tp #[a.eval x, a.eval y]).run K.P w).andThen fun v w' => .ok (.value v) w' := by
      simp [execOp, resolve, invoke, builtin]
    rw [e1, h1.v_eq]
    have e2 : (Builtin.copy_ #[ty, ty'] tp #[.slice (some ⟨b, o, none⟩) n c, a.eval y]).run K.P w = .ok (.int .i64 (min xs.length n : Nat)) (w.setRow b (lay cs.toList o us).toArray) := by
      simp only [Builtin.copy_]
      simp [run_underlying hu, run_lenOf h2, run_sizeOf hinf, his]
      have : Nat.min xs.length n = min xs.length n := rfl
      rw [this, hus]
      simp [hst, goInt]
    rw [e2]; rfl
  unfold Oper.wp
  rw [hrun]
  refine hkc _ _ _ _ h ⟨S, ?_⟩
  have := hr.write hT (xs := (xs.take (min xs.length n)).flatMap T.cells) (us := us) (o := o) hi (by omega) (by rw [hlay, hul]; omega) s4 s5 s6 s3 s2 s1 (fun cs2 h2 => by rw [hb] at h2; cases h2; rfl) hrel
  exact ⟨by simp [this.size], this.defers.put (dst := some kd) hd, this.step, this.own, this.mine, this.env.put (dst := some kd) (by rw [this.size]; exact hd) (.v _)⟩
end
end Go.Cap
end
section
namespace Go.Cap
section
variable {K : Ctx} {P : Program} {t : Env} {H : Heap} {dst : Option Tmp} {tp : TypeId} {pos : String} {aft : Array Edge} {g : Option (Nat × Bool)} {N : Env → Heap → Prop}
variable {S : Nat → Prop} {w : World} {ty ty' : TypeId}
theorem run_app_new {e e' : TypeId} {i : TypeInfo} {z : Value} (hu : P.underlying ty = some (.slice e)) (hu' : P.underlying ty' = some (.slice e')) (hi : P.info? e = some i) (hz : i.zero = some z)
    {a : Option Addr} {n c m : Nat} {y : Value} {olds news : List Value}
    (hl : (Builtin.lenOf y).run P w = .ok m w) (hc : c < n + m) (hb : (n + m) * i.bytes ≤ 140737488355328) (hmx : n + m ≤ 9223372036854775807)
    (ho : (Builtin.firstCells i.size n (.slice a n c)).run P w.drew = .ok olds.toArray w.drew) (hn : (Builtin.firstCells i.size m y).run P w.drew = .ok news.toArray w.drew) :
    (Builtin.append_ #[ty, ty'] tp #[.slice a n c, y]).run P w = .ok (.slice (some ⟨w.heap.size, 0, none⟩) (n + m) (grownCap w (n + m) c e))
      (w.drew.alloc (.cells (olds.toArray ++ news.toArray ++ Builtin.zeroCells z.cells (grownCap w (n + m) c e - (n + m))) e)) := by
  have h1 : ¬ (n + m ≤ c) := by omega
  have h63' : ¬ (9223372036854775807 < ((n : Int) + (m : Int))) := by omega
  have h48' : ¬ (281474976710656 < Builtin.nextslicecap (n + m) c * i.bytes) := by have := growslice_fits hc hb; omega
  simp [Builtin.append_, run_underlying hu, run_underlying hu', sizeOf, typeInfo, zeroValue, hi, hz, hl, h1, h63', h48', Question.forced, ho, hn, newRow, grownCap]
  congr 2
  apply Array.ext'
  simp [List.append_assoc]
theorem run_app_fit {e e' : TypeId} {i : TypeInfo} (hu : P.underlying ty = some (.slice e)) (hu' : P.underlying ty' = some (.slice e')) (hi : P.info? e = some i)
    {b o n c m : Nat} {y : Value} {news : List Value} {w' : World}
    (hl : (Builtin.lenOf y).run P w = .ok m w) (hc : n + m ≤ c) (hn : (Builtin.firstCells i.size m y).run P w = .ok news.toArray w)
    (hs : (storeCells ⟨b, o + n * i.size, none⟩ news).run P w = .ok () w') :
    (Builtin.append_ #[ty, ty'] tp #[.slice (some ⟨b, o, none⟩) n c, y]).run P w = .ok (.slice (some ⟨b, o, none⟩) (n + m) c) w' := by
  simp [Builtin.append_, run_underlying hu, run_underlying hu', sizeOf, typeInfo, hi, hl, hc, hn, Addr.add_mk, hs]
theorem run_app_none {e e' : TypeId} {i : TypeInfo} (hu : P.underlying ty = some (.slice e)) (hu' : P.underlying ty' = some (.slice e')) (hi : P.info? e = some i)
    {a : Option Addr} {n c : Nat} {y : Value}
    (hl : (Builtin.lenOf y).run P w = .ok 0 w) (hc : n ≤ c) (hn : (Builtin.firstCells i.size 0 y).run P w = .ok #[] w) :
    (Builtin.append_ #[ty, ty'] tp #[.slice a n c, y]).run P w = .ok (.slice a n c) w := by
  cases a with
  | none => simp [Builtin.append_, run_underlying hu, run_underlying hu', sizeOf, typeInfo, hi, hl, hc, hn]
  | some a => simp [Builtin.append_, run_underlying hu, run_underlying hu', sizeOf, typeInfo, hi, hl, hc, hn, storeCells]
theorem slice_shape {f : Bool} {xs : List T} {u : Value} (h : Rel S w (.sl f xs) u) : ∃ a c, u = .slice a xs.length c ∧ xs.length ≤ c ∧ (f = true → c = xs.length) := by
  cases h with
  | nil _ p c hf => exact ⟨p, c, rfl, Nat.zero_le _, fun e => by rw [hf e]; rfl⟩
  | sl _ _ b o cap vs k' cs ty fz hS hb hr hg hf hc => rw [← hr.length]; exact ⟨_, _, rfl, hc, hf⟩
theorem step_drew (h : Wf S w) (F : List Nat) : Step F S w S w.drew := ⟨rfl, rfl, rfl, Nat.le_refl _, fun _ _ _ => rfl, fun _ h => h, fun _ h => .inl h, h⟩
theorem mono_drew : ∀ b, S b → S b ∧ w.drew.heap[b]? = w.heap[b]? := fun _ h => ⟨h, rfl⟩
theorem wf_drew (h : Wf S w) : Wf S w.drew := h
theorem pop_append {x y : Operand} {xs ys : List T} {f : Bool} {dx dy : T} {d : T} {by_ : Nat} (hx : t.ev x = dx) (hxl : Le dx (.sl true xs)) (hy : t.ev y = dy) (hyl : Le dy (.sl f ys)) [hz : ElemZC P ty d by_] (hs : isSliceTy P ty' = true)
    (hkx : ∀ x ∈ xs, x.cells.length = d.cells.length) (hky : ∀ x ∈ ys, x.cells.length = d.cells.length) (hb : (xs.length + ys.length) * by_ ≤ 140737488355328) (hm : xs.length + ys.length ≤ 9223372036854775807) :
    POp P t H ⟨dst, .call ⟨.builtin .append, #[x, y], #[ty, ty']⟩, tp, pos, aft, g⟩ (.sl false (xs ++ ys)) :=
  POp.run fun S w a hw _ hr => by
    have h1 := hr x (by simp [Op.operands, Call.operands]); rw [hx] at h1
    have h2 := hr y (by simp [Op.operands, Call.operands]); rw [hy] at h2
    replace h1 := hxl _ _ _ h1
    replace h2 := hyl _ _ _ h2
    obtain ⟨e, i, z, hu, hi, hzz, hsz, hp, rfl, hby⟩ := elemZ_of hz.h
    obtain ⟨e', _, hu', _⟩ := slice_of hs
    have hl := ofVal_cells z
    have hk0 : 0 < (T.ofVal z).cells.length := by omega
    obtain ⟨a1, c1, he1, hc1, hf1⟩ := slice_shape h1
    have hc1' := hf1 rfl
    have e1 : (execOp a.eval ⟨dst, .call ⟨.builtin .append, #[x, y], #[ty, ty']⟩, tp, pos, aft, g⟩).run P w = ((Builtin.append_ #[ty, ty'] tp #[a.eval x, a.eval y]).run P w).andThen fun v w' => .ok (.value v) w' := by
      simp [execOp, resolve, invoke, builtin]
    rw [e1, he1]
    rw [he1] at h1
    have hlen := run_lenOf (P := P) h2
    rcases Nat.eq_zero_or_pos ys.length with h0 | h0
    · have hys : ys = [] := List.length_eq_zero_iff.1 h0
      subst hys
      obtain ⟨us, hus, hrel, hul⟩ := run_first (P := P) h2 hky hk0 0 (Nat.zero_le _)
      have hus0 : us = [] := List.length_eq_zero_iff.1 (by omega)
      subst hus0
      rw [run_app_none hu hu' hi hlen hc1 (by rw [hsz, ← hl]; exact hus)]
      refine ⟨_, w, S, rfl, Step.refl _ hw, ?_⟩
      rw [List.append_nil]
      exact Le.full xs false _ _ _ h1
    · have h1d : Rel S w.drew (.sl true xs) (.slice a1 xs.length c1) := h1.mono mono_drew
      have h2d : Rel S w.drew (.sl f ys) (a.eval y) := h2.mono mono_drew
      obtain ⟨us, hus, hrel, hus2, hul⟩ := run_firstV (P := P) h1d hkx hk0 xs.length (Nat.le_refl _)
      obtain ⟨vs, hvs, hrelv, hvs2, hvl⟩ := run_firstV (P := P) h2d hky hk0 ys.length (Nat.le_refl _)
      rw [hl, ← hsz] at hus hvs
      have hrun := run_app_new (tp := tp) hu hu' hi hzz hlen (show c1 < xs.length + ys.length by omega) (by rw [hby]; exact hb) hm hus hvs
      rw [hrun]
      rw [List.take_length] at hrel hrelv
      have hcap : xs.length + ys.length ≤ grownCap w (xs.length + ys.length) c1 e := Nat.le_add_right _ _
      refine ⟨_, _, withNew S w.drew, rfl, Step.trans (step_drew hw []) (step_stay (wf_drew hw) _) (by simp), ?_⟩
      have hwd : w.drew.heap.size = w.heap.size := rfl
      have hkk : ∀ v ∈ us ++ vs, v.cells.size = (T.ofVal z).cells.length := fun v hv => by
        rcases List.mem_append.1 hv with h | h
        · exact hus2 v h
        · exact hvs2 v h
      have := rel_new (f := false) (S := withNew S w.drew) (cap := grownCap w (xs.length + ys.length) c1 e) (k := (T.ofVal z).cells.length) (b := w.drew.heap.size)
        (.inr rfl) (heap_new w.drew (.cells ((us.flatMap fun v => v.cells.toList).toArray ++ (vs.flatMap fun v => v.cells.toList).toArray ++ Builtin.zeroCells z.cells (grownCap w (xs.length + ys.length) c1 e - (xs.length + ys.length))) e))
        ((hrel.append hrelv).mono (mono_alloc (wf_drew hw) _ (fun _ h => .inl h))) hkk (by
          have h5 : (us ++ vs).length * (T.ofVal z).cells.length = ((us ++ vs).flatMap fun v => v.cells.toList).length := (flat_len _ hkk).symm
          rw [h5, show ((us.flatMap fun v => v.cells.toList).toArray ++ (vs.flatMap fun v => v.cells.toList).toArray ++ Builtin.zeroCells z.cells (grownCap w (xs.length + ys.length) c1 e - (xs.length + ys.length))).toList =
            ((us ++ vs).flatMap fun v => v.cells.toList) ++ (Builtin.zeroCells z.cells (grownCap w (xs.length + ys.length) c1 e - (xs.length + ys.length))).toList by simp [List.flatMap_append]]
          exact List.take_left) (by simp) (by rw [List.length_append, hul, hvl]; exact hcap)
      rw [List.length_append, hul, hvl] at this
      exact this
theorem zeroCells_size (z : Array Value) (n : Nat) : (Builtin.zeroCells z n).size = n * z.size := by simp [Builtin.zeroCells]
theorem eop_append_new {x y : Operand} {xs ys : List T} {f : Bool} {dx dy : T} {d : T} {by_ : Nat} (hx : t.ev x = dx) (hxl : Le dx (.sl true xs)) (hy : t.ev y = dy) (hyl : Le dy (.sl f ys)) [hz : ElemZC K.P ty d by_] (hs : isSliceTy K.P ty' = true)
    (hkx : ∀ x ∈ xs, x.cells.length = d.cells.length) (hky : ∀ x ∈ ys, x.cells.length = d.cells.length) (h0 : 0 < ys.length) (hb : (xs.length + ys.length) * by_ ≤ 140737488355328) (hm : xs.length + ys.length ≤ 9223372036854775807)
    {kd : Tmp} (hd : Nat.blt kd K.n = true)
    (h : ∀ b c, (∀ c ∈ keys H, ¬ c = b) → xs.length + ys.length ≤ c →
      N ((kd, .v (.slice (some ⟨b, 0, none⟩) (xs.length + ys.length) c)) :: t) ((b, ⟨elemTy K.P ty, xs.flatMap T.cells ++ ys.flatMap T.cells, c * d.cells.length⟩) :: H)) :
    EOp K t H ⟨some kd, .call ⟨.builtin .append, #[x, y], #[ty, ty']⟩, tp, pos, aft, g⟩ N := by
  refine EOp.of_w (fun c e => by cases e) ?_
  intro a w ⟨S, hr⟩ Kc Q hk
  have h1 := hr.env.ev x; rw [hx] at h1
  have h2 := hr.env.ev y; rw [hy] at h2
  replace h1 := hxl _ _ _ h1
  replace h2 := hyl _ _ _ h2
  obtain ⟨e, i, z, hu, hi, hzz, hsz, hp, rfl, hby⟩ := elemZ_of hz.h
  obtain ⟨e', _, hu', _⟩ := slice_of hs
  have hl := ofVal_cells z
  have hk0 : 0 < (T.ofVal z).cells.length := by omega
  obtain ⟨a1, c1, he1, hc1, hf1⟩ := slice_shape h1
  have hc1' := hf1 rfl
  have e1 : (execOp a.eval ⟨some kd, .call ⟨.builtin .append, #[x, y], #[ty, ty']⟩, tp, pos, aft, g⟩).run K.P w = ((Builtin.append_ #[ty, ty'] tp #[a.eval x, a.eval y]).run K.P w).andThen fun v w' => .ok (.value v) w' := by
    simp [execOp, resolve, invoke, builtin]
  have hee : elemTy K.P ty = e := by unfold elemTy; rw [hu]
  unfold Oper.wp
  rw [e1, he1]
  rw [he1] at h1
  have hlen := run_lenOf (P := K.P) h2
  have h1d : Rel S w.drew (.sl true xs) (.slice a1 xs.length c1) := h1.mono mono_drew
  have h2d : Rel S w.drew (.sl f ys) (a.eval y) := h2.mono mono_drew
  obtain ⟨us, hus, hrel, hul⟩ := run_first (P := K.P) h1d hkx hk0 xs.length (Nat.le_refl _)
  obtain ⟨vs, hvs, hrelv, hvl⟩ := run_first (P := K.P) h2d hky hk0 ys.length (Nat.le_refl _)
  rw [hl, ← hsz] at hus hvs
  have hrun := run_app_new (tp := tp) hu hu' hi hzz hlen (show c1 < xs.length + ys.length by omega) (by rw [hby]; exact hb) hm hus hvs
  rw [hrun]
  rw [List.take_length] at hrel hrelv
  have hcap : xs.length + ys.length ≤ grownCap w (xs.length + ys.length) c1 e := Nat.le_add_right _ _
  have hrd : R1 K t H a w.drew S := ⟨hr.size, hr.defers.step mono_drew (fun _ _ h _ => h) (Nat.le_refl _), hr.step.trans (step_drew hr.wf []) (by simp), hr.own.step (step_drew hr.wf []) hr.wf (by simp) (by simp), hr.mine, hr.env.mono mono_drew⟩
  have hlx := flat_lenT xs hkx
  have hly := flat_lenT ys hky
  have hsum : (xs.length + ys.length) * (T.ofVal z).cells.length = xs.length * (T.ofVal z).cells.length + ys.length * (T.ofVal z).cells.length := Nat.add_mul _ _ _
  have hcm : (xs.length + ys.length) * (T.ofVal z).cells.length ≤ grownCap w (xs.length + ys.length) c1 e * (T.ofVal z).cells.length := Nat.mul_le_mul_right _ hcap
  have hzs : (grownCap w (xs.length + ys.length) c1 e - (xs.length + ys.length)) * (T.ofVal z).cells.length = grownCap w (xs.length + ys.length) c1 e * (T.ofVal z).cells.length - (xs.length + ys.length) * (T.ofVal z).cells.length := Nat.sub_mul _ _ _
  have hfr := hrd.fresh (dst := some kd) (d := .v (.slice (some ⟨w.heap.size, 0, none⟩) (xs.length + ys.length) (grownCap w (xs.length + ys.length) c1 e)))
    (k := ⟨elemTy K.P ty, xs.flatMap T.cells ++ ys.flatMap T.cells, grownCap w (xs.length + ys.length) c1 e * (T.ofVal z).cells.length⟩)
    (cs := us.toArray ++ vs.toArray ++ Builtin.zeroCells z.cells (grownCap w (xs.length + ys.length) c1 e - (xs.length + ys.length)))
    (by simp only [Array.size_append, List.size_toArray, zeroCells_size, hul, hvl, ← hl]; omega) (by simp only [List.length_append]; omega) (by
      simp only [List.length_append, hlx, hly]
      have : (us.toArray ++ vs.toArray ++ Builtin.zeroCells z.cells (grownCap w (xs.length + ys.length) c1 e - (xs.length + ys.length))).toList = (us ++ vs) ++ (Builtin.zeroCells z.cells (grownCap w (xs.length + ys.length) c1 e - (xs.length + ys.length))).toList := by simp
      rw [this, List.take_left' (by rw [List.length_append, hul, hvl])]
      exact hrel.append hrelv) hd (.v _)
  rw [hee] at hfr
  have hh := h w.heap.size _ (fresh_ne hr) hcap
  rw [hee] at hh
  exact hk _ _ _ _ hh ⟨S, hfr⟩
theorem nodup_set {x : Nat} : ∀ {l : List Nat} {i : Nat}, l.Nodup → x ∉ l → (l.set i x).Nodup
  | [], i, h, _ => by simp
  | y :: l, 0, h, hx => by
    rw [List.set_cons_zero, List.nodup_cons]
    exact ⟨fun hm => hx (List.mem_cons_of_mem _ hm), (List.nodup_cons.1 h).2⟩
  | y :: l, i + 1, h, hx => by
    rw [List.set_cons_succ, List.nodup_cons]
    have hn := List.nodup_cons.1 h
    refine ⟨fun hm => ?_, nodup_set hn.2 (fun hm => hx (List.mem_cons_of_mem _ hm))⟩
    rcases List.mem_or_eq_of_mem_set hm with h1 | h1
    · exact hn.1 h1
    · exact hx (h1 ▸ List.mem_cons_self)
theorem R1.swap {a : Act} (h : R1 K t H a w S) {i b : Nat} {k0 : Blk} (hi : H[i]? = some (b, k0)) {ty1 : TypeId} {k : Blk} (hT : k.ty = .ty ty1) {cs : Array Value} (hs : cs.size = k.size) (hl : k.cells.length ≤ k.size) (hr : RelL S w k.cells (cs.toList.take k.cells.length))
    {d : T} {v : Value} {kd : Tmp} (hd : Nat.blt kd K.n = true) (hv : Rel S w d v) :
    R1 K ((kd, d) :: t) (H.set i (w.heap.size, k)) (a.put (some kd) v) (w.alloc (.cells cs ty1)) S := by
  have hm := mono_alloc h.wf (.cells cs ty1) (S' := S) (fun _ h => h)
  have hlt : i < H.length := (List.getElem?_eq_some_iff.1 hi).1
  have hkeys : ∀ c ∈ keys (H.set i (w.heap.size, k)), (c ∈ keys H ∧ ¬ c = w.heap.size) ∨ c = w.heap.size := by
    intro c hc
    unfold keys at hc
    rw [List.map_set] at hc
    rcases List.mem_or_eq_of_mem_set hc with h1 | h1
    · exact .inl ⟨h1, fresh_ne h c h1⟩
    · exact .inr h1
  refine ⟨by simp [h.size], (h.defers.step hm (objs_alloc w _) (by simp)).put (dst := some kd) hd, h.step.trans (step_mine h.wf _ []) (by simp), ⟨?_, ?_, ?_⟩, ?_, (h.env.mono hm).put (dst := some kd) (by rw [h.size]; exact hd) (hv.mono hm)⟩
  · unfold keys
    rw [List.map_set]
    exact nodup_set h.own.nodup (fun hm' => fresh_ne h _ hm' rfl)
  · intro c hc hS
    rcases hkeys c hc with h1 | h1
    · exact h.own.apart c h1.1 hS
    · have := h.wf c hS; omega
  · intro p hp
    rcases List.mem_or_eq_of_mem_set hp with h1 | h1
    · have h2 := h.own.has p h1
      exact h2.mono (heap_older w _ h2.lt) hm
    · subst h1
      exact Has.of hT ⟨cs, heap_new w _, hs, hl, hr.mono hm⟩
  · intro c hc
    rcases hkeys c hc with h1 | h1
    · exact h.mine c h1.1
    · exact .inr (by have := h.step.size; omega)
theorem eop_append_own {x y : Operand} {b n c : Nat} {k : Blk} {ys : List T} {f : Bool} {dy : T} {d : T} {by_ : Nat} (i : Nat) (hx : t.ev x = .v (.slice (some ⟨b, 0, none⟩) n c)) (hi : H[i]? = some (b, k)) (hy : t.ev y = dy) (hyl : Le dy (.sl f ys))
    [hz : ElemZC K.P ty d by_] (hs : isSliceTy K.P ty' = true) (hty : k.ty = .ty (elemTy K.P ty)) (hkl : k.cells.length = n * d.cells.length) (hks : k.size = c * d.cells.length)
    (hky : ∀ x ∈ ys, x.cells.length = d.cells.length) (hyleaf : ∀ x ∈ ys, allLeaf x.cells = true) (hb : (n + ys.length) * by_ ≤ 140737488355328) (hm : n + ys.length ≤ 9223372036854775807) {kd : Tmp} (hd : Nat.blt kd K.n = true)
    (h : ∀ b' c', b' = b ∨ (∀ e ∈ keys H, ¬ e = b') → n + ys.length ≤ c' →
      N ((kd, .v (.slice (some ⟨b', 0, none⟩) (n + ys.length) c')) :: t) (H.set i (b', ⟨k.ty, k.cells ++ ys.flatMap T.cells, c' * d.cells.length⟩))) :
    EOp K t H ⟨some kd, .call ⟨.builtin .append, #[x, y], #[ty, ty']⟩, tp, pos, aft, g⟩ N := by
  refine EOp.of_w (fun c e => by cases e) ?_
  intro a w ⟨S, hr⟩ Kc Q hk
  have h1 := hr.env.ev x; rw [hx] at h1
  have h2 := hr.env.ev y; rw [hy] at h2
  replace h2 := hyl _ _ _ h2
  obtain ⟨e, inf, z, hu, hinf, hzz, hsz, hp, rfl, hby⟩ := elemZ_of hz.h
  obtain ⟨e', _, hu', _⟩ := slice_of hs
  have hl := ofVal_cells z
  have hk0 : 0 < (T.ofVal z).cells.length := by omega
  have hee : elemTy K.P ty = e := by unfold elemTy; rw [hu]
  obtain ⟨cs, hbk, hcs, hcl, hrl⟩ := (hr.own.at hi).row hty
  have e1 : (execOp a.eval ⟨some kd, .call ⟨.builtin .append, #[x, y], #[ty, ty']⟩, tp, pos, aft, g⟩).run K.P w = ((Builtin.append_ #[ty, ty'] tp #[a.eval x, a.eval y]).run K.P w).andThen fun v w' => .ok (.value v) w' := by
    simp [execOp, resolve, invoke, builtin]
  unfold Oper.wp
  rw [e1, h1.v_eq]
  have hlen := run_lenOf (P := K.P) h2
  have hly := flat_lenT ys hky
  have hsum : (n + ys.length) * (T.ofVal z).cells.length = n * (T.ofVal z).cells.length + ys.length * (T.ofVal z).cells.length := Nat.add_mul _ _ _
  have hleaf : allLeaf (ys.flatMap T.cells) = true := by
    unfold allLeaf
    rw [List.all_eq_true]
    intro q hq
    obtain ⟨x', hx', hq⟩ := List.mem_flatMap.1 hq
    exact List.all_eq_true.1 (hyleaf x' hx') q hq
  have hts : cs.toList.length = cs.size := Array.length_toList
  by_cases hfit : n + ys.length ≤ c
  · have hcm : (n + ys.length) * (T.ofVal z).cells.length ≤ c * (T.ofVal z).cells.length := Nat.mul_le_mul_right _ hfit
    obtain ⟨vs, hvs, hrelv, hvl⟩ := run_first (P := K.P) h2 hky hk0 ys.length (Nat.le_refl _)
    rw [List.take_length] at hrelv
    rw [hl, ← hsz] at hvs
    have hst := run_storeCells (P := K.P) (o := 0 + n * inf.size) hbk vs (by rw [hsz, ← hl]; omega) (relL_leaf hrelv hleaf)
    rw [run_app_fit (tp := tp) hu hu' hinf hlen hfit hvs hst]
    obtain ⟨s1, s2, s3, s4, s5, s6⟩ := setRow_spec (cs' := (lay cs.toList (0 + n * inf.size) vs).toArray) hbk
    have hon : 0 + n * inf.size = k.cells.length := by rw [hkl, hsz, hl]; omega
    have hw := hr.write hty (xs := ys.flatMap T.cells) (us := vs) (o := k.cells.length) hi (Nat.le_refl _) (by omega) s4 s5 s6 s3 s2 s1 (fun cs2 h2 => by rw [hbk] at h2; cases h2; rw [hon]) hrelv
    have hlay : lay k.cells k.cells.length (ys.flatMap T.cells) = k.cells ++ ys.flatMap T.cells := by
      unfold lay
      rw [List.take_length, List.drop_of_length_le (by omega), List.append_nil]
    rw [hlay] at hw
    have hh := h b c (.inl rfl) hfit
    rw [show c * (T.ofVal z).cells.length = k.size from hks.symm] at hh
    refine hk _ _ _ _ hh ⟨S, ?_⟩
    exact ⟨by simp [hw.size], hw.defers.put (dst := some kd) hd, hw.step, hw.own, hw.mine, hw.env.put (dst := some kd) (by rw [hw.size]; exact hd) (.v _)⟩
  · have h2d : Rel S w.drew (.sl f ys) (a.eval y) := h2.mono mono_drew
    obtain ⟨vs, hvs, hrelv, hvl⟩ := run_first (P := K.P) h2d hky hk0 ys.length (Nat.le_refl _)
    rw [List.take_length] at hrelv
    rw [hl, ← hsz] at hvs
    have hold : (Builtin.firstCells inf.size n (.slice (some ⟨b, 0, none⟩) n c)).run K.P w.drew = .ok (cs.toList.take (n * inf.size)).toArray w.drew := by
      simp only [Builtin.firstCells]
      exact run_cells (w := w.drew) (b := b) (cs := cs) (ty := elemTy K.P ty) (fz := (0, 0)) hbk _ (by rw [List.length_take, hsz, ← hl]; omega) (by simp)
    have hrun := run_app_new (tp := tp) hu hu' hinf hzz hlen (show c < n + ys.length by omega) (by rw [hby]; exact hb) hm hold hvs
    rw [hrun]
    have hcap : n + ys.length ≤ grownCap w (n + ys.length) c e := Nat.le_add_right _ _
    have hrd : R1 K t H a w.drew S := ⟨hr.size, hr.defers.step mono_drew (fun _ _ h _ => h) (Nat.le_refl _), hr.step.trans (step_drew hr.wf []) (by simp), hr.own.step (step_drew hr.wf []) hr.wf (by simp) (by simp), hr.mine, hr.env.mono mono_drew⟩
    have hcm : (n + ys.length) * (T.ofVal z).cells.length ≤ grownCap w (n + ys.length) c e * (T.ofVal z).cells.length := Nat.mul_le_mul_right _ hcap
    have hzs : (grownCap w (n + ys.length) c e - (n + ys.length)) * (T.ofVal z).cells.length = grownCap w (n + ys.length) c e * (T.ofVal z).cells.length - (n + ys.length) * (T.ofVal z).cells.length := Nat.sub_mul _ _ _
    have hnk : n * inf.size = k.cells.length := by rw [hkl, hsz, hl]
    have hfr := hrd.swap (ty1 := e) (d := .v (.slice (some ⟨w.heap.size, 0, none⟩) (n + ys.length) (grownCap w (n + ys.length) c e))) hi
      (k := ⟨k.ty, k.cells ++ ys.flatMap T.cells, grownCap w (n + ys.length) c e * (T.ofVal z).cells.length⟩)
      (cs := (cs.toList.take (n * inf.size)).toArray ++ vs.toArray ++ Builtin.zeroCells z.cells (grownCap w (n + ys.length) c e - (n + ys.length)))
      (by simp only [Array.size_append, List.size_toArray, zeroCells_size, List.length_take, hvl, ← hl, hnk]; omega) (by simp only [List.length_append]; omega) (hT := hty.trans (by rw [hee])) (by
        have : ((cs.toList.take (n * inf.size)).toArray ++ vs.toArray ++ Builtin.zeroCells z.cells (grownCap w (n + ys.length) c e - (n + ys.length))).toList = (cs.toList.take (n * inf.size) ++ vs) ++ (Builtin.zeroCells z.cells (grownCap w (n + ys.length) c e - (n + ys.length))).toList := by simp
        simp only
        rw [this, List.take_left' (by simp only [List.length_append, List.length_take, hvl, hly, hnk]; omega), hnk]
        exact (hrl.mono mono_drew).append hrelv) hd (.v _)
    have hh := h w.heap.size _ (.inr (fresh_ne hr)) hcap
    rw [hee] at hty
    exact hk _ _ _ _ hh ⟨S, hfr⟩
end
end Go.Cap
end
section
namespace Go.Cap
theorem lenOk_nil {k : Nat} : ∀ x ∈ ([] : List T), x.cells.length = k := by simp
theorem lenOk_cons {k : Nat} {x : T} {xs : List T} (h : x.cells.length = k) (hs : ∀ x ∈ xs, x.cells.length = k) : ∀ y ∈ x :: xs, y.cells.length = k := by
  intro y hy
  rcases List.mem_cons.1 hy with rfl | hy
  · exact h
  · exact hs y hy
theorem lenOk_map {k : Nat} {α : Type} (f : α → T) (h : ∀ y, (f y).cells.length = k) (l : List α) : ∀ x ∈ l.map f, x.cells.length = k := by
  intro x hx; obtain ⟨y, _, rfl⟩ := List.mem_map.1 hx; exact h y
theorem lenOk_append {k : Nat} {xs ys : List T} (h : ∀ x ∈ xs, x.cells.length = k) (h' : ∀ x ∈ ys, x.cells.length = k) : ∀ x ∈ xs ++ ys, x.cells.length = k := by
  intro x hx; rcases List.mem_append.1 hx with hx | hx
  · exact h x hx
  · exact h' x hx
theorem lenOk_take {k n : Nat} {xs : List T} (h : ∀ x ∈ xs, x.cells.length = k) : ∀ x ∈ xs.take n, x.cells.length = k := fun x hx => h x (List.mem_of_mem_take hx)
theorem lenOk_drop {k n : Nat} {xs : List T} (h : ∀ x ∈ xs, x.cells.length = k) : ∀ x ∈ xs.drop n, x.cells.length = k := fun x hx => h x (List.mem_of_mem_drop hx)
theorem leafOk_nil : ∀ x ∈ ([] : List T), allLeaf x.cells = true := by simp
theorem leafOk_cons {x : T} {xs : List T} (h : allLeaf x.cells = true) (hs : ∀ x ∈ xs, allLeaf x.cells = true) : ∀ y ∈ x :: xs, allLeaf y.cells = true := by
  intro y hy
  rcases List.mem_cons.1 hy with rfl | hy
  · exact h
  · exact hs y hy
theorem leafOk_map {α : Type} (f : α → T) (h : ∀ y, allLeaf (f y).cells = true) (l : List α) : ∀ x ∈ l.map f, allLeaf x.cells = true := by
  intro x hx; obtain ⟨y, _, rfl⟩ := List.mem_map.1 hx; exact h y
theorem leafOk_take {n : Nat} {xs : List T} (h : ∀ x ∈ xs, allLeaf x.cells = true) : ∀ x ∈ xs.take n, allLeaf x.cells = true := fun x hx => h x (List.mem_of_mem_take hx)
theorem leafOk_drop {n : Nat} {xs : List T} (h : ∀ x ∈ xs, allLeaf x.cells = true) : ∀ x ∈ xs.drop n, allLeaf x.cells = true := fun x hx => h x (List.mem_of_mem_drop hx)
theorem leafOk_append {xs ys : List T} (h : ∀ x ∈ xs, allLeaf x.cells = true) (h' : ∀ x ∈ ys, allLeaf x.cells = true) : ∀ x ∈ xs ++ ys, allLeaf x.cells = true := by
  intro x hx; rcases List.mem_append.1 hx with hx | hx
  · exact h x hx
  · exact h' x hx
def eb (b : UInt8) : T := .v (.int .u8 b.toNat)
def bs (l : List UInt8) : ByteArray := ⟨l.toArray⟩
@[simp] theorem bs_toList (l : List UInt8) : (bs l).toList = l := ByteArray.toList_mk l
@[simp] theorem bs_size (l : List UInt8) : (bs l).size = l.length := by simp [bs, ByteArray.size]
theorem bs_inj {l m : List UInt8} (h : bs l = bs m) : l = m := by rw [← bs_toList l, ← bs_toList m, h]
section
variable {K : Ctx} {P : Program} {t : Env} {H : Heap} {dst : Option Tmp} {tp : TypeId} {pos : String} {aft : Array Edge} {g : Option (Nat × Bool)} {N : Env → Heap → Prop}
variable {S : Nat → Prop} {w : World} {ty ty' : TypeId}
def isBytesTy (P : Program) (t : TypeId) : Bool := match P.underlying t with
  | some (.slice e) => match P.underlying e with
    | some (.int .u8) => true
    | _ => false
  | _ => false
theorem bytes_of (h : isBytesTy P ty = true) : ∃ e, P.underlying ty = some (.slice e) ∧ P.underlying e = some (.int .u8) := by
  unfold isBytesTy at h
  split at h
  · rename_i e he
    split at h
    · rename_i h2; exact ⟨e, he, h2⟩
    · cases h
  · cases h
theorem str_of (h : isStr P ty = true) : P.underlying ty = some .string := by
  unfold isStr at h
  split at h
  · assumption
  · cases h
theorem foldl_push (l : List UInt8) : ∀ (s : ByteArray), ((l.map fun b => (b.toNat : Int)).foldl (fun r n => r.push (UInt8.ofNat n.toNat)) s) = ⟨(s.data.toList ++ l).toArray⟩ := by
  induction l with
  | nil => intro s; simp
  | cons b l ih =>
    intro s
    simp only [List.map_cons, List.foldl_cons]
    rw [ih]
    congr 1
    simp [ByteArray.push]
theorem rel_none {f : Bool} {xs : List T} {n c : Nat} (h : Rel S w (.sl f xs) (.slice none n c)) : xs = [] := by cases h; rfl
theorem pop_string {x : Operand} {f : Bool} {l : List UInt8} (hx : t.ev x = .sl f (l.map eb)) (h1 : isBytesTy P ty = true) (h2 : isStr P ty' = true) :
    POp P t H ⟨dst, .convert ty ty' x, tp, pos, aft, g⟩ (.v (.string (bs l))) :=
  POp.still fun S w a _ _ hr => by
    have hv := hr x (by simp [Op.operands]); rw [hx] at hv
    obtain ⟨e, he, he2⟩ := bytes_of h1
    have hs := str_of h2
    refine ⟨.string (bs l), ?_, .v _⟩
    have key : (Conv.bytesToString (a.eval x)).run P w = .ok (.string (bs l)) w := by
      generalize hu : a.eval x = u at hv
      obtain ⟨vs, hf, hrel, hk, hlen⟩ := run_firstV (P := P) (k := 1) hv (by intro x hx; obtain ⟨y, _, rfl⟩ := List.mem_map.1 hx; rfl) (by omega) l.length (by simp)
      have hvs : vs.flatMap (fun v => v.cells.toList) = (l.map fun b => (b.toNat : Int)).map (Value.int .u8) := by
        rw [List.take_of_length_le (by simp)] at hrel
        clear hf hlen hv hx hk
        induction l generalizing vs with
        | nil => cases hrel; rfl
        | cons b l ih =>
          cases hrel with
          | cons _ y _ ys h1 h2 =>
            have := Rel.v_eq h1
            subst this
            rw [List.flatMap_cons, ih _ h2]; rfl
      rw [hvs] at hf
      obtain ⟨p, c, he, hle, _⟩ := slice_shape hv
      subst he
      cases p with
      | none =>
        have : l = [] := by simpa using rel_none hv
        subst this; rfl
      | some p =>
        simp only [List.length_map] at hf ⊢
        simp only [Builtin.firstCells, Nat.mul_one] at hf
        rw [run_bytesToString w p l.length c _ hf, foldl_push]
        congr 2
    have : (convert ty ty' (a.eval x)).run P w = .ok (.string (bs l)) w := by
      unfold convert
      obtain ⟨p, c, hsh, _, _⟩ := slice_shape hv
      rw [hsh] at key ⊢
      simp only [List.length_map] at key ⊢
      simp [run_underlying he, run_underlying hs, run_underlying he2, key]
    simp [execOp, this]
theorem pop_eql_bs {x y : Operand} {l m : List UInt8} (hx : t.ev x = .v (.string (bs l))) (hy : t.ev y = .v (.string (bs m))) :
    POp P t H ⟨dst, .binOp .eql ty x y ty', tp, pos, aft, g⟩ (.v (.bool (decide (l = m)))) :=
  POp.le (pop_eql_str hx hy) (Le.of_eq (by
    rw [bs_toList, bs_toList]; congr 2
    by_cases h : l = m
    · simp [h]
    · simp [h]))
theorem rel_sub {f : Bool} {xs : List T} {u : Value} {e : TypeId} {inf : TypeInfo} (h : Rel S w (.sl f xs) u) (hk : ∀ x ∈ xs, x.cells.length = inf.size) (h0 : 0 < inf.size) {lo hi : Nat} (h1 : lo ≤ hi) (h2 : hi ≤ xs.length)
    (hu : P.underlying ty = some (.slice e)) (hi' : P.info? e = some inf) {ol oh om : Option Value} (hrun : (Instr.sliceBounds true xs.length (match u with | .slice _ _ c => c | _ => 0) ol oh om).run P w = .ok (lo, hi, match u with | .slice _ _ c => c | _ => 0) w) :
    ∃ v, (Instr.sliceAt ty u ol oh om).run P w = .ok v w ∧ Rel S w (.sl (f && Nat.beq hi xs.length) ((xs.drop lo).take (hi - lo))) v := by
  cases h with
  | nil =>
    have : lo = 0 := by simp at h2; omega
    subst this
    have : hi = 0 := by simp at h2; omega
    subst this
    simp only [List.length_nil] at hrun
    rename_i p c hf
    cases p with
    | none =>
      refine ⟨.slice none 0 c, ?_, by simp; exact .nil _ _ _ hf⟩
      simp [Instr.sliceAt, Instr.slice, run_underlying hu, hrun, run_sizeOf hi']
    | some a =>
      refine ⟨.slice (if c = 0 then some a else some (a.add 0)) 0 c, ?_, by simp; exact .nil _ _ _ hf⟩
      simp [Instr.sliceAt, Instr.slice, run_underlying hu, hrun, run_sizeOf hi']
  | sl _ _ b o cap vs k cs ty2 fz hS hb hr hg hf hc =>
    have hvl := hr.length
    rw [hvl] at hc hf ⊢
    simp only at hrun
    have hsize : ∀ v ∈ vs, v.cells.size = inf.size := (relL_cells h0 hr hk).2
    have hsub := (hr.drop lo).take (hi - lo)
    have hlen : ((vs.drop lo).take (hi - lo)).length = hi - lo := by rw [List.length_take, List.length_drop]; omega
    have hkk : vs.length = 0 ∨ k = inf.size := by
      cases vs with
      | nil => exact .inl rfl
      | cons v vs => exact .inr (by rw [← hg.1 v List.mem_cons_self, hsize v List.mem_cons_self])
    refine ⟨.slice (some (if cap = lo then ⟨b, o, none⟩ else ⟨b, o + lo * inf.size, none⟩)) (hi - lo) (cap - lo), ?_, ?_⟩
    · simp only [Instr.sliceAt, Sem.run_bind, run_underlying hu, Result.andThen_ok]
      simp only [Instr.slice, Sem.run_bind, run_underlying hu, Result.andThen_ok, hrun, run_sizeOf hi', Sem.run_pure]
      by_cases hcl : cap = lo
      · simp [hcl]
      · simp [hcl, Addr.add_mk]
    · by_cases hcl : cap = lo
      · have : hi - lo = 0 := by omega
        rw [if_pos hcl, this]
        have hz : ((vs.drop lo).take 0) = [] := by simp
        rw [this] at hsub
        rw [hz] at hsub
        refine .sl _ _ b o (cap - lo) [] k cs ty2 fz hS hb hsub ⟨by simp, by simp⟩ (fun e => by simp; omega) (by simp)
      · rw [if_neg hcl]
        have hrel := Rel.sl (S := S) (w := w) (f && Nat.beq hi xs.length) ((xs.drop lo).take (hi - lo)) b (o + lo * inf.size) (cap - lo) ((vs.drop lo).take (hi - lo)) inf.size cs ty2 fz hS hb hsub
          ⟨fun v hv => hsize v (List.mem_of_mem_drop (List.mem_of_mem_take hv)), ?_⟩ (fun e => ?_) (by omega)
        · rw [hlen] at hrel; exact hrel
        · rcases hkk with hv0 | rfl
          · have hxl : xs.length = 0 := by omega
            have : hi - lo = 0 := by omega
            simp [this]
          · rw [hlen, ← List.drop_drop]
            have hfl : ∀ (l : List Value) (n : Nat), (∀ v ∈ l, v.cells.size = inf.size) → (l.flatMap fun v => v.cells.toList).drop (n * inf.size) = (l.drop n).flatMap fun v => v.cells.toList := by
              intro l n hl
              induction l generalizing n with
              | nil => simp
              | cons x l ih =>
                cases n with
                | zero => simp
                | succ n =>
                  have hx := hl x List.mem_cons_self
                  have : x.cells.toList.length = inf.size := by rw [Array.length_toList, hx]
                  rw [List.flatMap_cons, List.drop_succ_cons, Nat.succ_mul, List.drop_append, this, List.drop_of_length_le (by omega), List.nil_append, show n * inf.size + inf.size - inf.size = n * inf.size by omega]
                  exact ih n (fun y hy => hl y (List.mem_cons_of_mem _ hy))
            have hgg := congrArg (List.drop (lo * inf.size)) hg.2
            rw [hfl vs lo hsize, List.drop_take, hvl] at hgg
            rw [← flat_takeV _ _ (fun v hv => hsize v (List.mem_of_mem_drop hv)), ← hgg, List.take_take]
            congr 1
            have e1 : (hi - lo) * inf.size = hi * inf.size - lo * inf.size := Nat.sub_mul _ _ _
            have e2 : hi * inf.size ≤ xs.length * inf.size := Nat.mul_le_mul_right _ h2
            omega
        · simp only [Bool.and_eq_true] at e
          have h3 := hf e.1
          have h4 := Nat.eq_of_beq_eq_true e.2
          rw [hlen]; omega
theorem bound_run {k : IntKind} {i : Int} {y : Nat} {code : BoundsCode} (h0 : 0 ≤ i) (h1 : i ≤ y) (w : World) : (Instr.sliceBound (.int k i) y code).run P w = .ok i.toNat w := by
  simp [Instr.sliceBound, asIntOf, h0, h1]
variable {f : Bool} {xs : List T} {dx : T} {d : T} {by_ : Nat} {x l h : Operand} {k k' : IntKind} {i j : Int}
theorem elem_size [hz : ElemZC P ty d by_] : ∃ e inf, P.underlying ty = some (.slice e) ∧ P.info? e = some inf ∧ inf.size = d.cells.length ∧ 0 < inf.size := by
  obtain ⟨e, inf, z, hu, hinf, hzz, hsz, hp, rfl, hby⟩ := elemZ_of hz.h
  exact ⟨e, inf, hu, hinf, by rw [ofVal_cells, hsz], by omega⟩
theorem pop_slice_lh (hx : t.ev x = dx) (hxl : Le dx (.sl f xs)) (hl : t.ev l = .v (.int k i)) (hh : t.ev h = .v (.int k' j)) [hz : ElemZC P ty d by_] (h0 : 0 ≤ i) (h1 : i ≤ j) (h2 : j ≤ xs.length) (hk : ∀ x ∈ xs, x.cells.length = d.cells.length) :
    POp P t H ⟨dst, .slice ty x (some l) (some h) none, tp, pos, aft, g⟩ (.sl (f && Nat.beq j.toNat xs.length) ((xs.drop i.toNat).take (j.toNat - i.toNat))) :=
  POp.still fun S w a _ _ hr => by
    have e1 := hr x (by simp [Op.operands]); rw [hx] at e1
    have e2 := hr l (by simp [Op.operands]); rw [hl] at e2
    have e3 := hr h (by simp [Op.operands]); rw [hh] at e3
    replace e1 := hxl _ _ _ e1
    obtain ⟨e, inf, hu, hinf, hs, hp⟩ := elem_size (P := P) (ty := ty) (d := d) (by_ := by_)
    obtain ⟨p, c, hsh, hle, _⟩ := slice_shape e1
    rw [hsh] at e1
    obtain ⟨v, hv, hrel⟩ := rel_sub (P := P) (ty := ty) (inf := inf) (lo := i.toNat) (hi := j.toNat) (ol := some (a.eval l)) (oh := some (a.eval h)) (om := none) e1 (by rw [hs]; exact hk) hp (by omega) (by omega) hu hinf (by
      rw [e2.v_eq, e3.v_eq]
      simp [Instr.sliceBounds, bound_run (P := P) (show 0 ≤ j by omega) (show j ≤ (c : Nat) by omega), bound_run (P := P) h0 (show i ≤ (j.toNat : Nat) by omega)])
    exact ⟨v, by simp [execOp, hsh, hv], hrel⟩
theorem pop_slice_l (hx : t.ev x = dx) (hxl : Le dx (.sl f xs)) (hl : t.ev l = .v (.int k i)) [hz : ElemZC P ty d by_] (h0 : 0 ≤ i) (h2 : i ≤ xs.length) (hk : ∀ x ∈ xs, x.cells.length = d.cells.length) :
    POp P t H ⟨dst, .slice ty x (some l) none none, tp, pos, aft, g⟩ (.sl f (xs.drop i.toNat)) :=
  POp.still fun S w a _ _ hr => by
    have e1 := hr x (by simp [Op.operands]); rw [hx] at e1
    have e2 := hr l (by simp [Op.operands]); rw [hl] at e2
    replace e1 := hxl _ _ _ e1
    obtain ⟨e, inf, hu, hinf, hs, hp⟩ := elem_size (P := P) (ty := ty) (d := d) (by_ := by_)
    obtain ⟨p, c, hsh, hle, _⟩ := slice_shape e1
    rw [hsh] at e1
    obtain ⟨v, hv, hrel⟩ := rel_sub (P := P) (ty := ty) (inf := inf) (lo := i.toNat) (hi := xs.length) (ol := some (a.eval l)) (oh := none) (om := none) e1 (by rw [hs]; exact hk) hp (by omega) (by omega) hu hinf (by
      rw [e2.v_eq]
      simp [Instr.sliceBounds, bound_run (P := P) h0 (show i ≤ (xs.length : Nat) by omega)])
    refine ⟨v, by simp [execOp, hsh, hv], ?_⟩
    have hb : Nat.beq xs.length xs.length = true := Nat.beq_refl _
    rw [hb, Bool.and_true, List.take_of_length_le (by rw [List.length_drop]; omega)] at hrel
    exact hrel
theorem pop_slice_h (hx : t.ev x = dx) (hxl : Le dx (.sl f xs)) (hh : t.ev h = .v (.int k' j)) [hz : ElemZC P ty d by_] (h1 : 0 ≤ j) (h2 : j ≤ xs.length) (hk : ∀ x ∈ xs, x.cells.length = d.cells.length) :
    POp P t H ⟨dst, .slice ty x none (some h) none, tp, pos, aft, g⟩ (.sl (f && Nat.beq j.toNat xs.length) (xs.take j.toNat)) :=
  POp.still fun S w a _ _ hr => by
    have e1 := hr x (by simp [Op.operands]); rw [hx] at e1
    have e3 := hr h (by simp [Op.operands]); rw [hh] at e3
    replace e1 := hxl _ _ _ e1
    obtain ⟨e, inf, hu, hinf, hs, hp⟩ := elem_size (P := P) (ty := ty) (d := d) (by_ := by_)
    obtain ⟨p, c, hsh, hle, _⟩ := slice_shape e1
    rw [hsh] at e1
    obtain ⟨v, hv, hrel⟩ := rel_sub (P := P) (ty := ty) (inf := inf) (lo := 0) (hi := j.toNat) (ol := none) (oh := some (a.eval h)) (om := none) e1 (by rw [hs]; exact hk) hp (by omega) (by omega) hu hinf (by
      rw [e3.v_eq]
      simp [Instr.sliceBounds, bound_run (P := P) h1 (show j ≤ (c : Nat) by omega)])
    exact ⟨v, by simp [execOp, hsh, hv], by simpa using hrel⟩
end
end Go.Cap
end
