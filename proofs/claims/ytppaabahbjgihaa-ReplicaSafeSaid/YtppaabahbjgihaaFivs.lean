/-
  A slice that grows, its front cut off: a part of a row of one's own, to its end.
  A region in whatever order its edges allow, whose last operations, of which each does something, are bound to each other in part alone.
  Five nodes, messages under way.
  Five nodes, messages under way: begun; one taken out.
  Raft's safety of all five: whatever is done to them.
-/
import Derived.Test.YtppaabahbjgihaaRef
import Derived.Test.YtppaabahbjgihaaUp
import Derived.Test.YtppaabahbjgihaaOs
import Derived.Test.YtppaabahbjgihaaRaft
section
namespace Go.Cap
variable {K : Ctx} {P : Program} {t : Env} {H : Heap} {N : Env → Heap → Prop} {ty ty' tp : TypeId} {pos : String} {aft : Array Edge} {g : Option (Nat × Bool)} {ops : Array Oper} {i : Nat} {l : List Oper} {kd : Tmp} {eff : List Nat} {pend : List Pend} {al : List (Nat × Oper)} {dst : Option Tmp}
theorem eop_append_ofs {x y : Operand} {b n c : Nat} {k : Blk} {pre row : List T} {ys : List T} {f : Bool} {dy : T} {d : T} {by_ : Nat} (i : Nat) (hx : t.ev x = .v (.slice (some ⟨b, pre.length, none⟩) n c)) (hi : H[i]? = some (b, k)) (hy : t.ev y = dy) (hyl : Le dy (.sl f ys))
    [hz : ElemZC K.P ty d by_] (hs : isSliceTy K.P ty' = true) (hty : k.ty = elemTy K.P ty) (hkc : k.cells = pre ++ row) (hkl : row.length = n * d.cells.length) (hks : k.size = pre.length + c * d.cells.length)
    (hky : ∀ x ∈ ys, x.cells.length = d.cells.length) (hyleaf : ∀ x ∈ ys, allLeaf x.cells = true) (hb : (n + ys.length) * by_ ≤ 140737488355328) (hm : n + ys.length ≤ 9223372036854775807) {kd : Tmp} (hd : Nat.blt kd K.n = true)
    (h1' : n + ys.length ≤ c → N ((kd, .v (.slice (some ⟨b, pre.length, none⟩) (n + ys.length) c)) :: t) (H.set i (b, ⟨k.ty, k.cells ++ ys.flatMap T.cells, k.size⟩)))
    (h2' : ∀ b' c', (∀ e ∈ keys H, ¬ e = b') → n + ys.length ≤ c' → N ((kd, .v (.slice (some ⟨b', 0, none⟩) (n + ys.length) c')) :: t) (H.set i (b', ⟨k.ty, row ++ ys.flatMap T.cells, c' * d.cells.length⟩))) :
    EOp K t H ⟨some kd, .call ⟨.builtin .append, #[x, y], #[ty, ty']⟩, tp, pos, aft, g⟩ N := by
  refine EOp.of_w (fun c e => by cases e) ?_
  intro a w ⟨S, hr⟩ Kc Q hk
  have h1 := hr.env.ev x; rw [hx] at h1
  have h2 := hr.env.ev y; rw [hy] at h2
  replace h2 := hyl _ _ _ h2
  obtain ⟨e, inf, z, hu, hinf, hzz, hsz, hp, rfl, hby⟩ := elemZ_of hz.h
  obtain ⟨e', _, hu', _⟩ := slice_of hs
  have hl := ofVal_cells z
  have hk0 : 0 < (T.ofVal z).cells.length := by omega
  have hee : elemTy K.P ty = e := by unfold elemTy; rw [hu]
  obtain ⟨cs, hbk, hcs, hcl, hrl⟩ := hr.own.at hi
  have hkcl : k.cells.length = pre.length + row.length := by rw [hkc, List.length_append]
  have e1 : (execOp a.eval ⟨some kd, .call ⟨.builtin .append, #[x, y], #[ty, ty']⟩, tp, pos, aft, g⟩).run K.P w = ((Builtin.append_ #[ty, ty'] tp #[a.eval x, a.eval y]).run K.P w).andThen fun v w' => .ok (.value v) w' := by
    simp [execOp, resolve, invoke, builtin]
  unfold Oper.wp
  rw [e1, h1.v_eq]
  have hlen := run_lenOf (P := K.P) h2
  have hly := flat_lenT ys hky
  have hsum : (n + ys.length) * (T.ofVal z).cells.length = n * (T.ofVal z).cells.length + ys.length * (T.ofVal z).cells.length := Nat.add_mul _ _ _
  have hleaf : allLeaf (ys.flatMap T.cells) = true := by
    unfold allLeaf
    rw [List.all_eq_true]
    intro q hq
    obtain ⟨x', hx', hq⟩ := List.mem_flatMap.1 hq
    exact List.all_eq_true.1 (hyleaf x' hx') q hq
  have hts : cs.toList.length = cs.size := Array.length_toList
  by_cases hfit : n + ys.length ≤ c
  · have hcm : (n + ys.length) * (T.ofVal z).cells.length ≤ c * (T.ofVal z).cells.length := Nat.mul_le_mul_right _ hfit
    obtain ⟨vs, hvs, hrelv, hvl⟩ := run_first (P := K.P) h2 hky hk0 ys.length (Nat.le_refl _)
    rw [List.take_length] at hrelv
    rw [hl, ← hsz] at hvs
    have hst := run_storeCells (P := K.P) (o := pre.length + n * inf.size) hbk vs (by rw [hsz, ← hl]; omega) (relL_leaf hrelv hleaf)
    rw [run_app_fit (tp := tp) hu hu' hinf hlen hfit hvs hst]
    obtain ⟨s1, s2, s3, s4, s5, s6⟩ := setRow_spec (cs' := (lay cs.toList (pre.length + n * inf.size) vs).toArray) hbk
    have hon : pre.length + n * inf.size = k.cells.length := by rw [hkcl, hkl, hsz, hl]
    have hw := hr.write (xs := ys.flatMap T.cells) (us := vs) (o := k.cells.length) hi (Nat.le_refl _) (by omega) s4 s5 s6 s3 s2 s1 (fun cs2 h2 => by rw [hbk] at h2; cases h2; rw [hon]) hrelv
    have hlay : lay k.cells k.cells.length (ys.flatMap T.cells) = k.cells ++ ys.flatMap T.cells := by
      unfold lay
      rw [List.take_length, List.drop_of_length_le (by omega), List.append_nil]
    rw [hlay] at hw
    have hh := h1' hfit
    refine hk _ _ _ _ hh ⟨S, ?_⟩
    exact ⟨by simp [hw.size], hw.defers.put (dst := some kd) hd, hw.step, hw.own, hw.mine, hw.env.put (dst := some kd) (by rw [hw.size]; exact hd) (.v _)⟩
  · have h2d : Rel S w.drew (.sl f ys) (a.eval y) := h2.mono mono_drew
    obtain ⟨vs, hvs, hrelv, hvl⟩ := run_first (P := K.P) h2d hky hk0 ys.length (Nat.le_refl _)
    rw [List.take_length] at hrelv
    rw [hl, ← hsz] at hvs
    have hold : (Builtin.firstCells inf.size n (.slice (some ⟨b, pre.length, none⟩) n c)).run K.P w.drew = .ok ((cs.toList.drop pre.length).take (n * inf.size)).toArray w.drew := by
      simp only [Builtin.firstCells]
      exact run_cells (w := w.drew) (b := b) (cs := cs) (ty := k.ty) (fz := (0, 0)) hbk _ (by rw [List.length_take, List.length_drop, hsz, ← hl]; omega) (by simp)
    have hrun := run_app_new (tp := tp) hu hu' hinf hzz hlen (show c < n + ys.length by omega) (by rw [hby]; exact hb) hm hold hvs
    rw [hrun]
    have hcap : n + ys.length ≤ grownCap w (n + ys.length) c e := Nat.le_add_right _ _
    have hrd : R1 K t H a w.drew S := ⟨hr.size, hr.defers.step mono_drew (fun _ _ h _ => h) (Nat.le_refl _), hr.step.trans (step_drew hr.wf []) (by simp), hr.own.step (step_drew hr.wf []) hr.wf (by simp) (by simp), hr.mine, hr.env.mono mono_drew⟩
    have hcm : (n + ys.length) * (T.ofVal z).cells.length ≤ grownCap w (n + ys.length) c e * (T.ofVal z).cells.length := Nat.mul_le_mul_right _ hcap
    have hzs : (grownCap w (n + ys.length) c e - (n + ys.length)) * (T.ofVal z).cells.length = grownCap w (n + ys.length) c e * (T.ofVal z).cells.length - (n + ys.length) * (T.ofVal z).cells.length := Nat.sub_mul _ _ _
    have hnk : n * inf.size = row.length := by rw [hkl, hsz, hl]
    have hrow : RelL S w row ((cs.toList.drop pre.length).take row.length) := by
      have h5 := hrl.drop pre.length
      rw [hkc, List.drop_left, List.drop_take, List.length_append, Nat.add_sub_cancel_left] at h5
      exact h5
    have hfr := hrd.swap (d := .v (.slice (some ⟨w.heap.size, 0, none⟩) (n + ys.length) (grownCap w (n + ys.length) c e))) hi
      (k := ⟨k.ty, row ++ ys.flatMap T.cells, grownCap w (n + ys.length) c e * (T.ofVal z).cells.length⟩)
      (cs := ((cs.toList.drop pre.length).take (n * inf.size)).toArray ++ vs.toArray ++ Builtin.zeroCells z.cells (grownCap w (n + ys.length) c e - (n + ys.length)))
      (by simp only [Array.size_append, List.size_toArray, zeroCells_size, List.length_take, List.length_drop, hvl, ← hl, hnk]; omega) (by simp only [List.length_append]; omega) (by
        have : (((cs.toList.drop pre.length).take (n * inf.size)).toArray ++ vs.toArray ++ Builtin.zeroCells z.cells (grownCap w (n + ys.length) c e - (n + ys.length))).toList = ((cs.toList.drop pre.length).take (n * inf.size) ++ vs) ++ (Builtin.zeroCells z.cells (grownCap w (n + ys.length) c e - (n + ys.length))).toList := by simp
        simp only
        rw [this, List.take_left' (by simp only [List.length_append, List.length_take, List.length_drop, hvl, hly, hnk]; omega), hnk]
        exact (hrow.mono mono_drew).append hrelv) hd (.v _)
    have hh := h2' w.heap.size _ (fresh_ne hr) hcap
    have hke : k.ty = e := hty.trans hee
    rw [← hke] at hh hfr ⊢
    exact hk _ _ _ _ hh ⟨S, hfr⟩
/-- A slice that grows; its row may begin behind a front. -/
def OSo (e : TypeId) (k : Nat) (xs : List T) (v : Value) (Hs : Heap) : Prop :=
  (xs = [] ∧ (∃ p, v = .slice p 0 0) ∧ Hs = []) ∨ ∃ b c pre, v = .slice (some ⟨b, List.length pre, none⟩) xs.length c ∧ xs.length ≤ c ∧ Hs = [(b, ⟨e, pre ++ xs.flatMap T.cells, pre.length + c * k⟩)]
theorem OSl.o {e : TypeId} {k : Nat} {xs : List T} {v : Value} {Hs : Heap} (h : OSl e k xs v Hs) : OSo e k xs v Hs := by
  rcases h with h | ⟨b, c, h1, h2, h3⟩
  · exact .inl h
  · exact .inr ⟨b, c, [], h1, h2, by rw [h3]; simp⟩
theorem OSo.len {e : TypeId} {k : Nat} {xs : List T} {v : Value} {Hs : Heap} (h : OSo e k xs v Hs) : ∃ p c, v = .slice p xs.length c := by
  rcases h with ⟨rfl, ⟨p, rfl⟩, _⟩ | ⟨b, c, pre, rfl, _⟩
  · exact ⟨_, _, rfl⟩
  · exact ⟨_, _, rfl⟩
theorem OSo.lend {e : TypeId} {k : Nat} {xs : List T} {v : Value} {Hs G : Heap} (h : OSo e k xs v Hs) (hG : ∀ p ∈ Hs, p ∈ G) (hk : ∀ y ∈ xs, y.cells.length = k) (hs : ∀ y ∈ xs, y.solid) : Lends G (.v v) (.sl false xs) := by
  intro S w u ho hr
  have := hr.v_eq
  subst this
  rcases h with ⟨rfl, ⟨p, rfl⟩, _⟩ | ⟨b, c, pre, rfl, hc, rfl⟩
  · exact .nil _ _ _ (by simp)
  · have hb : (b, (⟨e, pre ++ xs.flatMap T.cells, pre.length + c * k⟩ : Blk)) ∈ G := hG _ List.mem_cons_self
    obtain ⟨cs, h1, h2, h3, h4⟩ := ho.has _ hb
    simp only at h1 h2 h3 h4
    have h5 := (LendsL.le (G := G) (LeL.refl _)) S w _ ho h4
    have h6 := h5.drop pre.length
    rw [List.drop_left, List.drop_take, List.length_append, Nat.add_sub_cancel_left] at h6
    obtain ⟨vs, hv1, hv2, hv3⟩ := row_vals xs _ h6 hk hs
    have hvl := hv1.length
    have hfl : (xs.flatMap T.cells).length = xs.length * k := flat_lenT xs hk
    have hrel := Rel.sl (S := fun b => S b ∨ b ∈ keys G) (w := w) false xs b pre.length c vs k cs e (0, 0) (.inr (List.mem_map.2 ⟨_, hb, rfl⟩)) h1 hv1 ⟨hv2, by rw [← hv3, hfl, hvl]⟩ (by simp) (by omega)
    rw [hvl] at hrel
    exact hrel
theorem eop_append_oso {x y : Operand} {e : TypeId} {k : Nat} {xs ys : List T} {v : Value} {Hs A B : Heap} {f : Bool} {dy d : T} {by_ : Nat} [hz : ElemZC K.P ty d by_] (ho : OSo e k xs v Hs) (hH : H = A ++ (Hs ++ B)) (hx : t.ev x = .v v) (hy : t.ev y = dy) (hyl : Le dy (.sl f ys)) (h0 : 0 < ys.length)
    (hkd : d.cells.length = k) (hk0 : elemTy K.P ty = e) (hs : isSliceTy K.P ty' = true) (hkx : ∀ x ∈ xs, x.cells.length = k) (hky : ∀ x ∈ ys, x.cells.length = k) (hyleaf : ∀ x ∈ ys, allLeaf x.cells = true) (hb : (xs.length + ys.length) * by_ ≤ 140737488355328) (hm : xs.length + ys.length ≤ 9223372036854775807)
    (hd : Nat.blt kd K.n = true) (h : ∀ v' Hs', OSo e k (xs ++ ys) v' Hs' → N ((kd, .v v') :: t) (A ++ (Hs' ++ B))) : EOp K t H ⟨some kd, .call ⟨.builtin .append, #[x, y], #[ty, ty']⟩, tp, pos, aft, g⟩ N := by
  rcases ho with h1 | ⟨b, c, pre, rfl, hc, rfl⟩
  · exact eop_append_os (.inl h1) hH hx hy hyl h0 hkd hk0 hs hkx hky hyleaf hb hm hd fun v' Hs' ho' => h v' Hs' ho'.o
  · subst hkd
    have hi : H[A.length]? = some (b, (⟨e, pre ++ xs.flatMap T.cells, pre.length + c * d.cells.length⟩ : Blk)) := by subst hH; simp
    have hset : ∀ p, H.set A.length p = A ++ ([p] ++ B) := fun p => by
      subst hH
      rw [List.set_append_right _ _ (Nat.le_refl _)]
      simp
    refine eop_append_ofs A.length hx hi hy hyl hs hk0.symm rfl (flat_lenT xs hkx) rfl hky hyleaf hb hm hd (fun h1 => ?_) (fun b' c' _ h2 => ?_)
    · rw [hset]
      have := h (.slice (some ⟨b, pre.length, none⟩) (xs ++ ys).length c) _ (.inr ⟨b, c, pre, rfl, by simpa using h1, rfl⟩)
      simpa [List.append_assoc] using this
    · rw [hset]
      have := h (.slice (some ⟨b', 0, none⟩) (xs ++ ys).length c') _ (.inr ⟨b', c', [], rfl, by simpa using h2, rfl⟩)
      simpa [List.append_assoc] using this
theorem e_oso {x y : Operand} {e : TypeId} {k : Nat} {xs ys : List T} {v : Value} {Hs A B : Heap} {f : Bool} {dy d : T} {by_ : Nat} [hz : ElemZC K.P ty d by_] (ho : OSo e k xs v Hs) (hkx : ∀ x ∈ xs, x.cells.length = k)
    (h : ∀ v' Hs', OSo e k (xs ++ ys) v' Hs' → SimFrom K ops (i + 1) l ((kd, .v v') :: t) (A ++ (Hs' ++ B)) N) (hH : H = A ++ (Hs ++ B) := by rfl) (hx : t.ev x = .v v := by first | ((repeat (apply eS; rfl)); exact eZ) | exact ev_int | exact ev_bool | exact ev_nil | exact ev_str | exact ev_ptr | exact ev_agg | exact ev_map | exact ev_nilf | exact ev_nili | exact ev_func) (hy : t.ev y = dy := by first | ((repeat (apply eS; rfl)); exact eZ) | exact ev_int | exact ev_bool | exact ev_nil | exact ev_str | exact ev_ptr | exact ev_agg | exact ev_map | exact ev_nilf | exact ev_nili | exact ev_func) (hyl : Le dy (.sl f ys) := by (first | exact Le.refl _ | exact Le.nil _ | exact Le.full _ _ | exact Le.any _ | (apply Le.agg; (repeat (apply LeL.cons; (first | exact Le.refl _ | exact Le.nil _ | exact Le.full _ _ | exact Le.any _))); exact LeL.nil) | (apply Le.tup; (repeat (apply LeL.cons; (first | exact Le.refl _ | exact Le.nil _ | exact Le.full _ _ | exact Le.any _ | (apply Le.agg; (repeat (apply LeL.cons; (first | exact Le.refl _ | exact Le.nil _ | exact Le.full _ _ | exact Le.any _))); exact LeL.nil)))); exact LeL.nil))) (h0 : 0 < ys.length := by (first | omega | (simp only [List.length_map, List.length_replicate, List.length_append, List.length_cons, List.length_nil, List.length_take, List.length_drop, Int.toNat_natCast]; omega) | (simp only [List.length_map, List.length_replicate, List.length_append, List.length_cons, List.length_nil, List.length_take, List.length_drop, Int.toNat_natCast] at *; omega)))
    (hkd : d.cells.length = k := by rfl) (hk0 : elemTy K.P ty = e := by rfl) (hs : isSliceTy K.P ty' = true := by rfl) (hky : ∀ x ∈ ys, x.cells.length = k := by (repeat (first | exact lenOk_nil | (apply lenOk_map; intro _; rfl) | apply lenOk_append | apply lenOk_take | apply lenOk_drop | (apply lenOk_cons; rfl)))) (hyleaf : ∀ x ∈ ys, allLeaf x.cells = true := by (repeat (first | exact leafOk_nil | (apply leafOk_map; intro _; rfl) | apply leafOk_append | apply leafOk_take | apply leafOk_drop | (apply leafOk_cons; rfl))))
    (hb : (xs.length + ys.length) * by_ ≤ 140737488355328 := by (first | omega | (simp only [List.length_map, List.length_replicate, List.length_append, List.length_cons, List.length_nil, List.length_take, List.length_drop, Int.toNat_natCast]; omega) | (simp only [List.length_map, List.length_replicate, List.length_append, List.length_cons, List.length_nil, List.length_take, List.length_drop, Int.toNat_natCast] at *; omega))) (hm : xs.length + ys.length ≤ 9223372036854775807 := by (first | omega | (simp only [List.length_map, List.length_replicate, List.length_append, List.length_cons, List.length_nil, List.length_take, List.length_drop, Int.toNat_natCast]; omega) | (simp only [List.length_map, List.length_replicate, List.length_append, List.length_cons, List.length_nil, List.length_take, List.length_drop, Int.toNat_natCast] at *; omega))) (hd : Nat.blt kd K.n = true := by rfl) :
    SimFrom K ops i (⟨some kd, .call ⟨.builtin .append, #[x, y], #[ty, ty']⟩, tp, pos, aft, none⟩ :: l) t H N := from_e (eop_append_oso ho hH hx hy hyl h0 hkd hk0 hs hkx hky hyleaf hb hm hd h)
theorem a_oso {x y : Operand} {e : TypeId} {k : Nat} {xs ys : List T} {v : Value} {Hs A B : Heap} {f : Bool} {dy d : T} {by_ : Nat} [hz : ElemZC K.P ty d by_] (ho : OSo e k xs v Hs) (hkx : ∀ x ∈ xs, x.cells.length = k)
    (h : ∀ v' Hs', OSo e k (xs ++ ys) v' Hs' → PendOk ops ⟨some kd, .call ⟨.builtin .append, #[x, y], #[ty, ty']⟩, tp, pos, aft, none⟩ (A ++ (Hs' ++ B)) pend ∧ ∃ pend', PDrop ops ⟨some kd, .call ⟨.builtin .append, #[x, y], #[ty, ty']⟩, tp, pos, aft, none⟩ pend pend' ∧ AnyFrom K ops eff N al ((kd, .v v') :: t) (A ++ (Hs' ++ B)) pend') (hH : H = A ++ (Hs ++ B) := by rfl) (hx : t.ev x = .v v := by first | ((repeat (apply eS; rfl)); exact eZ) | exact ev_int | exact ev_bool | exact ev_nil | exact ev_str | exact ev_ptr | exact ev_agg | exact ev_map | exact ev_nilf | exact ev_nili | exact ev_func) (hy : t.ev y = dy := by first | ((repeat (apply eS; rfl)); exact eZ) | exact ev_int | exact ev_bool | exact ev_nil | exact ev_str | exact ev_ptr | exact ev_agg | exact ev_map | exact ev_nilf | exact ev_nili | exact ev_func) (hyl : Le dy (.sl f ys) := by (first | exact Le.refl _ | exact Le.nil _ | exact Le.full _ _ | exact Le.any _ | (apply Le.agg; (repeat (apply LeL.cons; (first | exact Le.refl _ | exact Le.nil _ | exact Le.full _ _ | exact Le.any _))); exact LeL.nil) | (apply Le.tup; (repeat (apply LeL.cons; (first | exact Le.refl _ | exact Le.nil _ | exact Le.full _ _ | exact Le.any _ | (apply Le.agg; (repeat (apply LeL.cons; (first | exact Le.refl _ | exact Le.nil _ | exact Le.full _ _ | exact Le.any _))); exact LeL.nil)))); exact LeL.nil))) (h0 : 0 < ys.length := by (first | omega | (simp only [List.length_map, List.length_replicate, List.length_append, List.length_cons, List.length_nil, List.length_take, List.length_drop, Int.toNat_natCast]; omega) | (simp only [List.length_map, List.length_replicate, List.length_append, List.length_cons, List.length_nil, List.length_take, List.length_drop, Int.toNat_natCast] at *; omega)))
    (hkd : d.cells.length = k := by rfl) (hk0 : elemTy K.P ty = e := by rfl) (hs : isSliceTy K.P ty' = true := by rfl) (hky : ∀ x ∈ ys, x.cells.length = k := by (repeat (first | exact lenOk_nil | (apply lenOk_map; intro _; rfl) | apply lenOk_append | apply lenOk_take | apply lenOk_drop | (apply lenOk_cons; rfl)))) (hyleaf : ∀ x ∈ ys, allLeaf x.cells = true := by (repeat (first | exact leafOk_nil | (apply leafOk_map; intro _; rfl) | apply leafOk_append | apply leafOk_take | apply leafOk_drop | (apply leafOk_cons; rfl))))
    (hb : (xs.length + ys.length) * by_ ≤ 140737488355328 := by (first | omega | (simp only [List.length_map, List.length_replicate, List.length_append, List.length_cons, List.length_nil, List.length_take, List.length_drop, Int.toNat_natCast]; omega) | (simp only [List.length_map, List.length_replicate, List.length_append, List.length_cons, List.length_nil, List.length_take, List.length_drop, Int.toNat_natCast] at *; omega))) (hm : xs.length + ys.length ≤ 9223372036854775807 := by (first | omega | (simp only [List.length_map, List.length_replicate, List.length_append, List.length_cons, List.length_nil, List.length_take, List.length_drop, Int.toNat_natCast]; omega) | (simp only [List.length_map, List.length_replicate, List.length_append, List.length_cons, List.length_nil, List.length_take, List.length_drop, Int.toNat_natCast] at *; omega))) (hd : Nat.blt kd K.n = true := by rfl) (he : memN eff i = true := by rfl) :
    AnyFrom K ops eff N ((i, ⟨some kd, .call ⟨.builtin .append, #[x, y], #[ty, ty']⟩, tp, pos, aft, none⟩) :: al) t H pend :=
  a_effP (fun _ h1 => eop_append_oso ho hH ((h1 x (by simp [Op.operands, Call.operands])).trans hx) ((h1 y (by simp [Op.operands, Call.operands])).trans hy) hyl h0 hkd hk0 hs hkx hky hyleaf hb hm hd fun v' Hs' ho' => let ⟨h1, p', h2, h3⟩ := h v' Hs' ho'; ⟨_, p', rfl, h1, h2, h3⟩) he
/-- Cut off in front. -/
theorem OSo.sub {e : TypeId} {k : Nat} {xs : List T} {p : Option Addr} {n c : Nat} {Hs : Heap} (h : OSo e k xs (.slice p n c) Hs) (hk : ∀ x ∈ xs, x.cells.length = k) {lo : Nat} (hlo : lo < xs.length) : OSo e k (xs.drop lo) (subV k p c lo (n - lo)) Hs := by
  rcases h with ⟨rfl, _⟩ | ⟨b, c', pre, hv, hc, rfl⟩
  · simp at hlo
  · cases hv
    refine .inr ⟨b, c - lo, pre ++ (xs.take lo).flatMap T.cells, ?_, by rw [List.length_drop]; omega, ?_⟩
    · have hl : (pre ++ (xs.take lo).flatMap T.cells).length = pre.length + lo * k := by
        rw [List.length_append, flat_lenT (xs.take lo) (fun x hx => hk x (List.mem_of_mem_take hx)), List.length_take, Nat.min_eq_left (by omega)]
      unfold subV
      rw [hl, List.length_drop]
      simp only [Option.map_some, Addr.add_mk]
      rw [if_neg (by omega)]
    · have hl : (pre ++ (xs.take lo).flatMap T.cells).length = pre.length + lo * k := by
        rw [List.length_append, flat_lenT (xs.take lo) (fun x hx => hk x (List.mem_of_mem_take hx)), List.length_take, Nat.min_eq_left (by omega)]
      rw [hl]
      have h1 : pre ++ xs.flatMap T.cells = pre ++ (xs.take lo).flatMap T.cells ++ (xs.drop lo).flatMap T.cells := by
        rw [List.append_assoc, ← List.flatMap_append, List.take_append_drop]
      have h2 : pre.length + c * k = pre.length + lo * k + (c - lo) * k := by
        rw [Nat.add_assoc, ← Nat.add_mul, show lo + (c - lo) = c by omega]
      rw [h1, h2]
/-- Where an element is. -/
theorem OSo.at {e : TypeId} {k : Nat} {xs : List T} {p : Option Addr} {n c : Nat} {Hs : Heap} (h : OSo e k xs (.slice p n c) Hs) {j : Nat} (hj : j < xs.length) : ∃ b pre, p = some ⟨b, List.length pre, none⟩ ∧ (b, (⟨e, pre ++ xs.flatMap T.cells, pre.length + c * k⟩ : Blk)) ∈ Hs := by
  rcases h with ⟨rfl, _⟩ | ⟨b, c', pre, hv, hc, rfl⟩
  · simp at hj
  · cases hv
    exact ⟨b, pre, rfl, List.mem_singleton.2 rfl⟩
theorem TakeR.pre {pre cs : List T} {o n : Nat} {r : List T} (h : TakeR cs o n r) : TakeR (pre ++ cs) (pre.length + o) n r := by
  obtain ⟨h1, h2⟩ := h.eq
  have h3 := TakeR.of (cs := pre ++ cs) (o := pre.length + o) (n := n) (by rw [List.length_append]; omega)
  rw [List.drop_length_add_append, h1] at h3
  exact h3
theorem TakeR.post {cs q : List T} {o n : Nat} {r : List T} (h : TakeR cs o n r) : TakeR (cs ++ q) o n r := by
  obtain ⟨h1, h2⟩ := h.eq
  have h3 := TakeR.of (cs := cs ++ q) (o := o) (n := n) (by rw [List.length_append]; omega)
  rw [List.drop_append_of_le_length (by omega), List.take_append_of_le_length (by rw [List.length_drop]; omega), h1] at h3
  exact h3
theorem TakeR.elem {pre xs : List T} {k j : Nat} {x : T} (hk : ∀ y ∈ xs, y.cells.length = k) (h : xs[j]? = some x) : TakeR (pre ++ xs.flatMap T.cells) (pre.length + j * k) k x.cells := by
  have := (TakeR.flat hk h).pre (pre := pre)
  rwa [Nat.zero_add] at this
/-- Nothing behind a slice of one's own. -/
theorem p_apN {x y : Operand} {p : Option Addr} {n c : Nat} {f : Bool} {dy d : T} {by_ : Nat} [hz : ElemZC P ty d by_] (hc : n ≤ c) (hx : t.ev x = .v (.slice p n c) := by first | ((repeat (apply eS; rfl)); exact eZ) | exact ev_int | exact ev_bool | exact ev_nil | exact ev_str | exact ev_ptr | exact ev_agg | exact ev_map | exact ev_nilf | exact ev_nili | exact ev_func) (hy : t.ev y = dy := by first | ((repeat (apply eS; rfl)); exact eZ) | exact ev_int | exact ev_bool | exact ev_nil | exact ev_str | exact ev_ptr | exact ev_agg | exact ev_map | exact ev_nilf | exact ev_nili | exact ev_func) (hyl : Le dy (.sl f []) := by (first | exact Le.refl _ | exact Le.nil _ | exact Le.full _ _ | exact Le.any _ | (apply Le.agg; (repeat (apply LeL.cons; (first | exact Le.refl _ | exact Le.nil _ | exact Le.full _ _ | exact Le.any _))); exact LeL.nil) | (apply Le.tup; (repeat (apply LeL.cons; (first | exact Le.refl _ | exact Le.nil _ | exact Le.full _ _ | exact Le.any _ | (apply Le.agg; (repeat (apply LeL.cons; (first | exact Le.refl _ | exact Le.nil _ | exact Le.full _ _ | exact Le.any _))); exact LeL.nil)))); exact LeL.nil))) (hs : isSliceTy P ty' = true := by rfl) :
    POp P t H ⟨dst, .call ⟨.builtin .append, #[x, y], #[ty, ty']⟩, tp, pos, aft, g⟩ (.v (.slice p n c)) :=
  POp.still fun S w a _ _ hr => by
    have e1 := hr x (by simp [Op.operands, Call.operands]); rw [hx] at e1
    have e2 := hr y (by simp [Op.operands, Call.operands]); rw [hy] at e2
    replace e2 := hyl _ _ _ e2
    obtain ⟨e, inf, z, hu, hinf, hzz, hsz, hp, rfl, hby⟩ := elemZ_of hz.h
    obtain ⟨e', _, hu', _⟩ := slice_of hs
    have hlen := run_lenOf (P := P) e2
    have hl := ofVal_cells z
    obtain ⟨vs, hvs, hrelv, hvl⟩ := run_first (P := P) e2 (k := (T.ofVal z).cells.length) (by simp) (by omega) 0 (Nat.le_refl _)
    have hv0 : vs = [] := by simpa using hvl
    subst hv0
    rw [hl, ← hsz] at hvs
    refine ⟨.slice p n c, ?_, .v _⟩
    have e3 : a.eval x = .slice p n c := e1.v_eq
    have := run_app_none (tp := tp) hu hu' hinf (a := p) (n := n) (c := c) hlen hc hvs
    simp [execOp, resolve, invoke, builtin, e3, this]
/-- Some blocks are given up: a block's cells are data. -/
theorem R_lendC {b n : Nat} {ty0 : TypeId} {cells cells' : List T} {G H1 : Heap} {a : Act} {w : World} (hp : H.Perm ((b, ⟨ty0, cells, n⟩) :: (G ++ H1))) (hl : LendsL G cells cells') (hln : cells'.length = cells.length) (hR : R K t H a w) : R K t ((b, ⟨ty0, cells', n⟩) :: H1) a w := by
  obtain ⟨S, hr⟩ := hR.perm (hp.trans List.perm_middle.symm)
  have hown := hr.own
  have hst : Step (keys G) S w (fun b => S b ∨ b ∈ keys G) w := ⟨rfl, rfl, rfl, Nat.le_refl _, fun _ _ _ => rfl, fun _ h => .inl h, fun c hc => hc.elim .inl fun e => .inr (.inr e),
    fun c hc => hc.elim (hr.wf c) fun e => hown.left.lt c e⟩
  have hm : ∀ c, S c → (S c ∨ c ∈ keys G) ∧ w.heap[c]? = w.heap[c]? := fun c hc => ⟨.inl hc, rfl⟩
  have hk' : keys ((b, (⟨ty0, cells', n⟩ : Blk)) :: H1) = keys ((b, (⟨ty0, cells, n⟩ : Blk)) :: H1) := rfl
  refine ⟨fun b => S b ∨ b ∈ keys G, hr.size, ⟨hr.defers.low, hr.defers.marks, hr.defers.nodup, fun j hj => hr.defers.flags j fun u hu => hj u (hu.mono hm)⟩, hr.step.trans hst (fun b hb => hr.mine b (by rw [keys_append]; exact List.mem_append_left _ hb)), ⟨?_, fun c hc hS => ?_, fun p hp' => ?_⟩,
    fun c hc => hr.mine c (by rw [keys_append]; exact List.mem_append_right _ hc), hr.env.mono hm⟩
  · rw [hk']; exact hown.right.nodup
  · rw [hk'] at hc
    rcases hS with h | h
    · exact hown.right.apart c hc h
    · exact hown.disj c h hc
  · rcases List.mem_cons.1 hp' with rfl | hp'
    · obtain ⟨cs, h1, h2, h3, h4⟩ := hown.right.has (b, ⟨ty0, cells, n⟩) List.mem_cons_self
      simp only at h1 h2 h3 h4
      refine ⟨cs, h1, h2, by simp only; omega, ?_⟩
      simp only
      rw [hln]
      exact hl S w _ hown.left h4
    · exact (hown.right.has p (List.mem_cons_of_mem _ hp')).mono rfl hm
theorem sim_lendC {c : Code} {Ψ : Exit → Env → Heap → Prop} {b n : Nat} {ty0 : TypeId} {cells cells' : List T} {G H1 : Heap} (hl : LendsL G cells cells') (hln : cells'.length = cells.length) (hp : H.Perm ((b, ⟨ty0, cells, n⟩) :: (G ++ H1))) (h : Sim K c t ((b, ⟨ty0, cells', n⟩) :: H1) Ψ) : Sim K c t H Ψ :=
  fun a w hr => h a w (R_lendC hp hl hln hr)
end Go.Cap
end
section
namespace Go.Cap
variable {K : Ctx} {ops : Array Oper} {eff : List Nat} {N : Env → Heap → Prop} {Q : Exit → Act → World → Prop}
/-- As 'dstOk', but what a slot that something reads is put last may be put by one that comes behind the reader. -/
def dstOkW (ops : Array Oper) (n : Nat) (eff : List Nat) : Bool :=
  (List.range ops.size).all fun i => match ops[i]? with
    | none => false
    | some o => (!memN eff i || o.guard.isNone) && (o.after.all fun e => !Region.binds .any e || Nat.blt e.on i) && match o.dst with
      | none => memN eff i
      | some k => Nat.blt k n && !memN (o.looksAt ops) k && (List.range ops.size).all fun j => Nat.beq j i || match ops[j]? with
          | none => false
          | some p => (match p.dst with | some q => !Nat.beq q k | none => true) && (!memN (p.looksAt ops) k || (bound p i || (memN eff i && bound o j)))
structure AnyOkW (ops : Array Oper) (n : Nat) (eff : List Nat) : Prop where
  grd : ∀ (i : Nat) (o : Oper), ops[i]? = some o → i ∈ eff → o.guard = none
  back : ∀ (i : Nat) (o : Oper), ops[i]? = some o → ∀ e ∈ o.after, Region.binds .any e = true → e.on < i
  pur : ∀ (i : Nat) (o : Oper), ops[i]? = some o → o.dst = none → i ∈ eff
  dst : ∀ (i : Nat) (o : Oper) (k : Nat), ops[i]? = some o → o.dst = some k → k < n ∧ k ∉ o.looksAt ops ∧ ∀ j p, ops[j]? = some p → j ≠ i → p.dst ≠ some k ∧ (k ∈ p.looksAt ops → bound p i = true ∨ (i ∈ eff ∧ bound o j = true))
theorem AnyOkW.of {ops : Array Oper} {n : Nat} {eff : List Nat} (h : dstOkW ops n eff = true) : AnyOkW ops n eff := by
  have key : ∀ i o, ops[i]? = some o → _ := fun i o ho => by
    have hi : i < ops.size := (Array.getElem?_eq_some_iff.1 ho).1
    have := (List.all_eq_true.1 h) i (List.mem_range.2 hi)
    simp only [ho, Bool.and_eq_true] at this
    exact this
  refine ⟨fun i o ho he => ?_, fun i o ho e he hb => ?_, fun i o ho hd => ?_, fun i o k ho hk => ?_⟩
  · have := (key i o ho).1.1
    simp only [memN_iff.2 he, Bool.not_true, Bool.false_or] at this
    simpa using this
  · have h1 := Array.all_eq_true_iff_forall_mem.1 (key i o ho).1.2 e he
    rw [hb] at h1
    simpa using h1
  · have := (key i o ho).2
    rw [hd] at this
    exact memN_iff.1 this
  · have h1 := (key i o ho).2
    simp only [hk, Bool.and_eq_true] at h1
    obtain ⟨⟨h2, h3⟩, h4⟩ := h1
    refine ⟨by simpa using h2, fun hm => ?_, fun j p hp hne => ?_⟩
    · rw [memN_iff.2 hm] at h3; cases h3
    · have hj : j < ops.size := (Array.getElem?_eq_some_iff.1 hp).1
      have h5 := (List.all_eq_true.1 h4) j (List.mem_range.2 hj)
      have hb : Nat.beq j i = false := nbeq hne
      simp only [hb, Bool.false_or, hp, Bool.and_eq_true, Bool.or_eq_true] at h5
      refine ⟨fun e => ?_, fun hm => ?_⟩
      · rw [e] at h5
        simp [Nat.beq_refl] at h5
      · rcases h5.2 with h6 | h6 | h6
        · rw [memN_iff.2 hm] at h6; cases h6
        · exact .inl h6
        · exact .inr ⟨memN_iff.1 h6.1, h6.2⟩
theorem gop_moreW {K : Ctx} {ops : Array Oper} {eff : List Nat} (hc : AnyOkW ops K.n eff) {pre : List Nat} {t : Env} {H' : Heap} {i : Nat} {o : Oper} {d : T} (ho : ops[i]? = some o) (hi : i ∉ pre)
    (htop : ∀ j ∈ pre, ∀ q, ops[j]? = some q → ∀ e ∈ q.after, Region.binds .any e = true → e.on ∈ pre) {p : Pend} (hp : p.i ∈ pre) (hpo : ops[p.i]? = some p.o) (hx : i ∈ eff → bound o p.i = true → False) (h : GOp K.P ops t H' p.o p.d) : GOp K.P ops (t.put o.dst d) H' p.o p.d := by
  refine GOp.congr h fun x hxx => ?_
  cases hd : o.dst with
  | none => rfl
  | some k =>
    by_cases hk : k = x
    · subst hk
      have hne : p.i ≠ i := fun e => hi (e ▸ hp)
      rcases ((hc.dst i o k ho hd).2.2 p.i p.o hpo hne).2 hxx with hb | hb
      · obtain ⟨e, he, h1, h2⟩ := bound_iff.1 hb
        exact absurd (h2 ▸ htop p.i hp p.o hpo e he h1) hi
      · exact (hx hb.1 hb.2).elim
    · exact (Env.get_put_ne t d hk).symm
theorem get_moreW {K : Ctx} {ops : Array Oper} {eff : List Nat} (hc : AnyOkW ops K.n eff) {pre : List Nat} {t : Env} {i : Nat} {o : Oper} {d : T} (ho : ops[i]? = some o) (hi : i ∉ pre) {p : Pend} (hp : p.i ∈ pre) (hpo : ops[p.i]? = some p.o)
    {k : Nat} (hk : p.o.dst = some k) (h : t.get k = p.d) : (t.put o.dst d).get k = p.d := by
  cases hd : o.dst with
  | none => exact h
  | some j =>
    by_cases hj : j = k
    · subst hj
      have hne : p.i ≠ i := fun e => hi (e ▸ hp)
      exact absurd hk ((hc.dst i o j ho hd).2.2 p.i p.o hpo hne).1
    · show Env.get (t.put (some j) d) k = _
      rw [Env.get_put_ne t d hj]; exact h
/-- What is left, in whatever order. -/
def AnyTree (K : Ctx) (ops : Array Oper) (eff : List Nat) (N : Env → Heap → Prop) : Nat → List (Nat × Oper) → Env → Heap → List Pend → Prop
  | 0, _ => fun t H _ => N t H
  | k + 1, rem => fun t H pend => ∀ p ∈ rem, (rem.all fun q => !bound p.2 q.1) = true → AnyStep K ops eff p.1 p.2 (AnyTree K ops eff N k (rem.filter fun q => !Nat.beq q.1 p.1)) t H pend
structure WayT (K : Ctx) (ops : Array Oper) (eff : List Nat) (N : Env → Heap → Prop) (pre : List Nat) (rem : List (Nat × Oper)) (t : Env) (H : Heap) (pend : List Pend) (listed : Array Bool) : Prop where
  cover : ∀ i, i < ops.size → i ∈ pre ∨ i ∈ rem.map (·.1)
  top : ∀ i ∈ pre, ∀ o, ops[i]? = some o → ∀ e ∈ o.after, Region.binds .any e = true → e.on ∈ pre
  is : ∀ p ∈ rem, ops[p.1]? = some p.2
  re : ∀ p ∈ rem, p.1 ∈ eff ∧ p.1 ∉ pre
  nd : (rem.map (·.1)).Nodup
  todo : ∀ p ∈ rem, listed.getD p.1 true = false
  done : ∀ i ∈ pre, i ∈ eff → listed.getD i false = true
  has : ∀ i ∈ pre, i ∉ eff → listed.getD i true = false → ∃ p ∈ pend, p.i = i
  pis : ∀ p ∈ pend, p.i ∈ pre ∧ p.i ∉ eff ∧ ops[p.i]? = some p.o
  gop : ∀ p ∈ pend, listed.getD p.i true = false → (∀ H', p.F H' → GOp K.P ops t H' p.o p.d) ∧ ∀ k, p.o.dst = some k → t.get k = p.d
  now : ∀ p ∈ pend, listed.getD p.i true = false → p.F H
  closed : ∀ i o, ops[i]? = some o → listed.getD i true = true → ∀ e ∈ o.after, Region.binds .any e = true → listed.getD e.on true = true
  go : AnyTree K ops eff N rem.length rem t H pend
theorem filter_len {rem : List (Nat × Oper)} (hnd : (rem.map (·.1)).Nodup) {p : Nat × Oper} (hp : p ∈ rem) : (rem.filter fun q => !Nat.beq q.1 p.1).length + 1 = rem.length := by
  induction rem with
  | nil => cases hp
  | cons r rem ih =>
    rw [List.map_cons, List.nodup_cons] at hnd
    rcases List.mem_cons.1 hp with rfl | hp
    · rw [List.filter_cons, show (!Nat.beq p.1 p.1) = false by simp]
      have : rem.filter (fun q => !Nat.beq q.1 p.1) = rem := by
        rw [List.filter_eq_self]
        intro q hq
        have hne : ¬ q.1 = p.1 := fun e => hnd.1 (e ▸ List.mem_map.2 ⟨q, hq, rfl⟩)
        rw [nbeq hne]; rfl
      simp [this]
    · have hne : ¬ r.1 = p.1 := fun e => hnd.1 (e ▸ List.mem_map.2 ⟨p, hp, rfl⟩)
      rw [List.filter_cons, nbeq hne]
      have := ih hnd.2 hp
      simp only [Bool.not_false, if_true, List.length_cons]
      omega
theorem any_goT (hc : AnyOkW ops K.n eff) (hq : ∀ t' H' a' w', N t' H' → R K t' H' a' w' → Q .normal a' w') :
    ∀ (fuel : Nat) (pre : List Nat) (rem : List (Nat × Oper)) (t : Env) (H : Heap) (pend : List Pend) (listed : Array Bool) (tx : Env) (a : Act) (w : World), listed.size = ops.size → unl listed ops.size = fuel →
      WayT K ops eff N pre rem t H pend listed → (∀ x, (∀ p ∈ pend, listed.getD p.i true = false → p.o.dst ≠ some x) → tx.get x = t.get x) → R K tx H a w → wpAnyIn (RF K.rd) 0 K.P .any ops Q fuel listed a w := by
  intro fuel
  induction fuel with
  | zero =>
    intro pre rem t H pend listed tx a w hs hf hw hx hr
    have hall : ∀ j, j < ops.size → listed.getD j true = true := fun j hj => by
      have h0 := List.length_eq_zero_iff.1 hf
      have h1 := (List.filter_eq_nil_iff.1 h0) j (List.mem_range.2 hj)
      simpa using h1
    have hlt : ∀ j o, ops[j]? = some o → j < ops.size := fun j o h => (Array.getElem?_eq_some_iff.1 h).1
    refine ⟨?_, ?_⟩
    · refine List.eq_nil_iff_forall_not_mem.2 fun j hj => ?_
      obtain ⟨h0, o, ho, _⟩ := mem_ready.1 hj
      rw [hall j (hlt j o ho)] at h0; cases h0
    · cases rem with
      | cons p l =>
        have := hw.todo p List.mem_cons_self
        rw [hall _ (hlt _ _ (hw.is p List.mem_cons_self))] at this; cases this
      | nil =>
        refine hq t H a w hw.go (hr.env fun x => hx x fun p hp hl => ?_)
        rw [hall _ (hlt _ _ (hw.pis p hp).2.2)] at hl; cases hl
  | succ fuel ih =>
    intro pre rem t H pend listed tx a w hs hf hw hx hr
    have hlt : ∀ j o, ops[j]? = some o → j < ops.size := fun j o h => (Array.getElem?_eq_some_iff.1 h).1
    -- one is ready
    have hex : ∃ i, i < ops.size ∧ listed.getD i true = false := by
      refine Classical.byContradiction fun hne => ?_
      have : unl listed ops.size = 0 := by
        unfold unl
        rw [List.length_eq_zero_iff, List.filter_eq_nil_iff]
        intro j hj
        have hj' := List.mem_range.1 hj
        cases hv : listed.getD j true with
        | false => exact absurd ⟨j, hj', hv⟩ hne
        | true => simp
      omega
    have hmin : ∃ i, i < ops.size ∧ listed.getD i true = false ∧ ∀ j, j < i → listed.getD j true = true := by
      obtain ⟨i, hi1, hi2⟩ := hex
      induction i using Nat.strongRecOn with
      | _ i ihm =>
        by_cases h : ∀ j, j < i → listed.getD j true = true
        · exact ⟨i, hi1, hi2, h⟩
        · obtain ⟨j, hj⟩ := Classical.not_forall.1 h
          obtain ⟨hj1, hj2⟩ := Classical.not_imp.1 hj
          exact ihm j hj1 (by omega) (by simpa using hj2)
    obtain ⟨i0, hi0, hu0, hl0⟩ := hmin
    have hr0 : i0 ∈ Region.ready .any ops listed := mem_ready.2 ⟨hu0, ops[i0], by simp [hi0], fun e he hb => by
      have := hc.back i0 _ (by simp [hi0]) e he hb
      rw [lst (by omega)]; exact hl0 _ this⟩
    refine ⟨fun hn => (by rw [hn] at hr0; cases hr0), fun i hir => ?_⟩
    obtain ⟨hu, o, ho, hall⟩ := mem_ready.1 hir
    have hisz : i < ops.size := hlt i o ho
    have hbnd : ∀ j, j < ops.size → bound o j = true → listed.getD j true = true := fun j hj hb => by
      obtain ⟨e, he, h1, h2⟩ := bound_iff.1 hb
      have := hall e he h1
      rw [h2, lst (by omega)] at this; exact this
    have hlook : ∀ x ∈ o.looksAt ops, tx.get x = t.get x := fun x hxo => hx x fun p hp hl he => by
      have hpi := (hw.pis p hp).2.2
      by_cases hne : i = p.i
      · rw [← hne, ho] at hpi
        have e := Option.some.inj hpi
        exact (hc.dst i o x ho (e ▸ he)).2.1 hxo
      · have := hbnd _ (hlt _ _ hpi) ((((hc.dst p.i p.o x hpi he).2.2 i o ho hne).2 hxo).resolve_right fun h => (hw.pis p hp).2.1 h.1)
        rw [this] at hl; cases hl
    have hopr : ∀ x ∈ o.op.operands, tx.ev x = t.ev x := by
      intro x hx'
      cases x with
      | tmp k' => exact hlook k' (List.mem_append_left _ (List.mem_filterMap.2 ⟨.tmp k', by simpa using hx', rfl⟩))
      | _ => rfl
    have hun := unl_set hs hisz hu
    have hfu : unl (listed.setIfInBounds i true) ops.size = fuel := by omega
    have hset : ∀ j, ¬ i = j → ∀ d, (listed.setIfInBounds i true).getD j d = listed.getD j d := fun j hj d => getD_set_ne d hj
    have hcl' : ∀ i' o', ops[i']? = some o' → (listed.setIfInBounds i true).getD i' true = true → ∀ e ∈ o'.after, Region.binds .any e = true → (listed.setIfInBounds i true).getD e.on true = true := fun i' o' ho' hl e he hb => by
      by_cases hie : i = e.on
      · rw [← hie]; exact lst_set (by omega) _
      · rw [hset _ hie]
        by_cases hii : i = i'
        · subst hii; rw [ho] at ho'; cases ho'
          exact lstt (hall e he hb)
        · rw [hset _ hii] at hl; exact hw.closed i' o' ho' hl e he hb
    have hbr : ∀ j, reachL ops 12 o j = true → listed.getD j true = true := reach_listed hw.closed 12 o fun e he hb => lstt (hall e he hb)
    by_cases hpre : i ∈ pre
    · -- one that floats
      have hne : i ∉ eff := fun he => by
        have := hw.done i hpre he
        rw [lst (by omega)] at this
        rw [this] at hu; cases hu
      obtain ⟨p, hp, hpi⟩ := hw.has i hpre hne hu
      have hpo : p.o = o := by
        have := (hw.pis p hp).2.2
        rw [hpi, ho] at this
        exact (Option.some.inj this).symm
      obtain ⟨k, hk⟩ : ∃ k, o.dst = some k := by
        cases hd : o.dst with
        | none => exact absurd (hc.pur i o ho hd) hne
        | some k => exact ⟨k, rfl⟩
      have hF := hw.now p hp (by rw [hpi]; exact hu)
      have hg := (hw.gop p hp (by rw [hpi]; exact hu)).1 H hF
      have hgk := (hw.gop p hp (by rw [hpi]; exact hu)).2 k (by rw [hpo]; exact hk)
      rw [hpo] at hg
      obtain ⟨hkn, hself, hoth⟩ := hc.dst i o k ho hk
      have next : ∀ (S S' : Nat → Prop) (w' : World) (v : Value), R1 K tx H a w S → Step [] S w S' w' → Rel S' w' p.d v → wpAnyIn (RF K.rd) 0 K.P .any ops Q fuel (listed.setIfInBounds i true) (a.put o.dst v) w' := by
        intro S S' w' v hr1 hst hrv
        refine ih pre rem t H pend _ (tx.put o.dst p.d) _ w' (by simpa using hs) hfu ⟨hw.cover, hw.top, hw.is, hw.re, hw.nd, fun q hq => ?_, fun j hj he => ?_, fun j hj he hlj => hw.has j hj he (by
          by_cases hij : i = j
          · subst hij; exact hu
          · rw [hset _ hij] at hlj; exact hlj), hw.pis, (fun q hq hl => hw.gop q hq (by
          by_cases hqi : i = q.i
          · rw [← hqi]; exact hu
          · rw [hset _ hqi] at hl; exact hl)), fun q hq hl => ?_, hcl', hw.go⟩ ?_ ⟨S', hr1.pure hst (by rw [hk]; simpa [okDst] using hkn) hrv⟩
        · have h1 := hw.todo q hq
          by_cases hqi : i = q.1
          · exact absurd (hqi ▸ hpre) (hw.re q hq).2
          · rw [hset _ hqi]; exact h1
        · by_cases hij : i = j
          · subst hij; exact lst_set (by omega) _
          · rw [hset _ hij]; exact hw.done j hj he
        · by_cases hqi : i = q.i
          · rw [← hqi, lst_set (by omega)] at hl; cases hl
          · rw [hset _ hqi] at hl; exact hw.now q hq hl
        · intro x hxx
          rw [hk]
          by_cases hkx : k = x
          · subst hkx; rw [Env.get_put_self, hgk]
          · rw [Env.get_put_ne _ _ hkx]
            refine hx x fun q hq hl he => ?_
            by_cases hqi : i = q.i
            · have := (hw.pis q hq).2.2
              rw [← hqi, ho] at this
              cases this
              rw [hk] at he; cases he
              exact hkx rfl
            · exact hxx q hq (by rw [hset _ hqi]; exact hl) he
      obtain ⟨S, hr1⟩ := hr
      have hop : ∀ x ∈ o.op.operands, Rel S w (t.ev x) (a.eval x) := fun x hx' => hopr x hx' ▸ hr1.env.ev x
      unfold wpOpIn
      simp only [ho]
      unfold GOp at hg
      cases hgu : o.guard with
      | none =>
        rw [hgu] at hg
        simp only [wanted_none hgu a, if_true]
        exact pop_wpIn (hg S w a hr1.wf hr1.own hop) fun S' w' v hst hrv => next S S' w' v hr1 hst hrv
      | some jw =>
        obtain ⟨j, want⟩ := jw
        rw [hgu] at hg
        obtain ⟨k', b, hj, hb, hyes, hno⟩ := hg
        have hv : a.tmps.getD k' undef = b := by
          have := hr1.env k'
          rw [hlook k' (by unfold Oper.looksAt; rw [hgu]; simp [hj]), hb] at this
          exact this.v_eq
        by_cases hwb : b = .bool want
        · simp only [(wanted_some hgu hj hv).1 hwb, if_true]
          exact pop_wpIn (hyes hwb S w a hr1.wf hr1.own hop) fun S' w' v hst hrv => next S S' w' v hr1 hst hrv
        · simp only [(wanted_some hgu hj hv).2 hwb, Bool.false_eq_true, if_false]
          exact ⟨fun _ _ => trivial, next S S w undef hr1 (Step.refl _ hr1.wf) (by rw [hno hwb]; exact .v _)⟩
    · -- the next one that does something
      have hml : i ∈ rem.map (·.1) := (hw.cover i hisz).resolve_left hpre
      obtain ⟨p, hpm, hpi⟩ := List.mem_map.1 hml
      have hpe := (hw.re p hpm).1
      have hpo := hw.is p hpm
      obtain ⟨pi, po⟩ := p
      simp only at hpi hpo hpe
      subst hpi
      rw [ho] at hpo; cases hpo
      have hrb : (rem.all fun q => !bound o q.1) = true := by
        rw [List.all_eq_true]
        intro q hq
        cases hb : bound o q.1 with
        | false => rfl
        | true =>
          have := hbnd q.1 (hlt _ _ (hw.is q hq)) hb
          rw [hw.todo q hq] at this; cases this
      have hlen := filter_len hw.nd hpm
      have hgo0 := hw.go
      rw [← hlen] at hgo0
      have hgo := hgo0 (pi, o) hpm hrb
      simp only [AnyStep, memN_iff.2 hpe, cond_true] at hgo
      have hgu := hc.grd pi o ho hpe
      unfold wpOpIn
      simp only [ho, wanted_none hgu a, if_true]
      refine hgo tx hopr a w hr _ Q ?_
      rintro t' H' a' w' ⟨d, pend', rfl, hpk, hdrop, hgo'⟩ hr'
      have hfm : ∀ q, q ∈ rem.filter (fun q => !Nat.beq q.1 pi) → q ∈ rem ∧ ¬ pi = q.1 := fun q hq => by
        obtain ⟨h1, h2⟩ := List.mem_filter.1 hq
        refine ⟨h1, fun e => ?_⟩
        rw [e] at h2
        simp at h2
      have hedge : ∀ e ∈ o.after, Region.binds .any e = true → e.on ∈ pre := fun e he hb => by
        have h1 := hall e he hb
        have h2 := hc.back pi o ho e he hb
        rcases hw.cover e.on (by omega) with h | h
        · exact h
        · exfalso
          obtain ⟨q, hq, hqe⟩ := List.mem_map.1 h
          have h3 := hw.todo q hq
          rw [hqe, ← lst (by omega), h1] at h3; cases h3
      refine ih (pi :: pre) (rem.filter fun q => !Nat.beq q.1 pi) (t.put o.dst d) H' pend' _ (tx.put o.dst d) a' w' (by simpa using hs) hfu ⟨?_, ?_, fun q hq => hw.is q (hfm q hq).1, ?_, ?_, ?_, ?_, ?_, ?_, ?_, ?_, hcl', hgo'⟩ ?_ hr'
      · intro j hj
        rcases hw.cover j hj with h | h
        · exact .inl (List.mem_cons_of_mem _ h)
        · by_cases hjp : j = pi
          · exact .inl (hjp ▸ List.mem_cons_self)
          · obtain ⟨q, hq, hqj⟩ := List.mem_map.1 h
            exact .inr (List.mem_map.2 ⟨q, List.mem_filter.2 ⟨hq, by rw [nbeq (by rw [hqj]; exact hjp)]; rfl⟩, hqj⟩)
      · intro j hj q hq e hee hb
        rcases List.mem_cons.1 hj with rfl | hj
        · rw [ho] at hq; cases hq
          exact List.mem_cons_of_mem _ (hedge e hee hb)
        · exact List.mem_cons_of_mem _ (hw.top j hj q hq e hee hb)
      · intro q hq
        obtain ⟨h1, h2⟩ := hfm q hq
        refine ⟨(hw.re q h1).1, fun h => ?_⟩
        rcases List.mem_cons.1 h with h | h
        · exact h2 h.symm
        · exact (hw.re q h1).2 h
      · exact (hw.nd.sublist (List.filter_sublist.map _))
      · intro q hq
        obtain ⟨h1, h2⟩ := hfm q hq
        rw [hset _ h2]; exact hw.todo q h1
      · intro j hj he
        by_cases hij : pi = j
        · subst hij; exact lst_set (by omega) _
        · rw [hset _ hij]
          rcases List.mem_cons.1 hj with h | h
          · exact absurd h.symm hij
          · exact hw.done j h he
      · intro j hj he hlj
        rcases List.mem_cons.1 hj with rfl | hj
        · exact absurd hpe he
        · have hij : ¬ pi = j := fun e => by subst e; rw [lst_set (by omega)] at hlj; cases hlj
          rw [hset _ hij] at hlj
          obtain ⟨q, hq, hqj⟩ := hw.has j hj he hlj
          rcases hdrop.has q hq with h | h
          · exact ⟨q, h, hqj⟩
          · rw [← hqj, hbr q.i h] at hlj; cases hlj
      · intro q hq
        obtain ⟨a1, a2, a3⟩ := hw.pis q (hdrop.sub q hq)
        exact ⟨List.mem_cons_of_mem _ a1, a2, a3⟩
      · intro q hq hl
        replace hq := hdrop.sub q hq
        obtain ⟨a1, a2, a3⟩ := hw.pis q hq
        have hl' : listed.getD q.i true = false := by
          by_cases hqi : pi = q.i
          · rw [← hqi, lst_set (by omega)] at hl; cases hl
          · rw [hset _ hqi] at hl; exact hl
        have hnb : pi ∈ eff → bound o q.i = true → False := fun _ hb => by
          have := hbnd q.i (hlt _ _ a3) hb
          rw [this] at hl'; cases hl'
        exact ⟨fun H' hF' => gop_moreW hc ho hpre hw.top a1 a3 hnb ((hw.gop q hq hl').1 H' hF'), fun k hk => get_moreW hc ho hpre a1 a3 hk ((hw.gop q hq hl').2 k hk)⟩
      · intro q hq hl
        replace hq := hdrop.sub q hq
        by_cases hqi : pi = q.i
        · rw [← hqi, lst_set (by omega)] at hl; cases hl
        · rw [hset _ hqi] at hl
          refine hpk.get q hq ?_
          cases hb : reachL ops 12 o q.i with
          | false => rfl
          | true =>
            rw [hbr q.i hb] at hl; cases hl
      · intro x hxx
        replace hxx : ∀ q ∈ pend, (listed.setIfInBounds pi true).getD q.i true = false → q.o.dst ≠ some x := fun q hq hl => by
          rcases hdrop.has q hq with h | h
          · exact hxx q h hl
          · have h2 := hbr q.i h
            by_cases hqi : pi = q.i
            · rw [← hqi, lst_set (by omega)] at hl; cases hl
            · rw [hset _ hqi, h2] at hl; cases hl
        cases hd : o.dst with
        | none =>
          show tx.get x = t.get x
          refine hx x fun q hq hl he => ?_
          by_cases hqi : pi = q.i
          · exact absurd (hqi ▸ (hw.pis q hq).2.1) (fun h => h hpe)
          · exact hxx q hq (by rw [hset _ hqi]; exact hl) he
        | some k =>
          by_cases hkx : k = x
          · subst hkx; rw [Env.get_put_self, Env.get_put_self]
          · rw [Env.get_put_ne _ _ hkx, Env.get_put_ne _ _ hkx]
            refine hx x fun q hq hl he => ?_
            by_cases hqi : pi = q.i
            · exact absurd (hqi ▸ (hw.pis q hq).2.1) (fun h => h hpe)
            · exact hxx q hq (by rw [hset _ hqi]; exact hl) he
/-- First those that only yield. -/
def PureFrom (K : Ctx) (ops : Array Oper) (eff : List Nat) (C : Env → Heap → List Pend → Prop) : List (Nat × Oper) → Env → Heap → List Pend → Prop
  | [] => C
  | p :: l => AnyStep K ops eff p.1 p.2 (PureFrom K ops eff C l)
structure WayP (K : Ctx) (ops : Array Oper) (eff : List Nat) (C : Env → Heap → List Pend → Prop) (rem : List (Nat × Oper)) (pre : List Nat) (l : List (Nat × Oper)) (t : Env) (H : Heap) (pend : List Pend) : Prop where
  cover : ∀ i, i < ops.size → i ∈ pre ∨ i ∈ l.map (·.1) ∨ i ∈ rem.map (·.1)
  ord : ordOk ops eff pre (l.map (·.1)) = true
  top : ∀ i ∈ pre, ∀ o, ops[i]? = some o → ∀ e ∈ o.after, Region.binds .any e = true → e.on ∈ pre
  is : ∀ p ∈ l, ops[p.1]? = some p.2 ∧ p.1 ∉ eff
  prp : ∀ i ∈ pre, i ∉ eff
  has : ∀ i ∈ pre, ∃ p ∈ pend, p.i = i
  pis : ∀ p ∈ pend, p.i ∈ pre ∧ p.i ∉ eff ∧ ops[p.i]? = some p.o
  gop : ∀ p ∈ pend, (∀ H', p.F H' → GOp K.P ops t H' p.o p.d) ∧ ∀ k, p.o.dst = some k → t.get k = p.d
  now : ∀ p ∈ pend, p.F H
  go : PureFrom K ops eff C l t H pend
theorem WayP.pass {C : Env → Heap → List Pend → Prop} {rem : List (Nat × Oper)} (hc : AnyOkW ops K.n eff) : ∀ {l : List (Nat × Oper)} {pre : List Nat} {t : Env} {H : Heap} {pend : List Pend} {tx : Env}, WayP K ops eff C rem pre l t H pend → (∀ x, (∀ p ∈ pend, p.o.dst ≠ some x) → tx.get x = t.get x) →
    ∃ pre' t' pend', WayP K ops eff C rem pre' [] t' H pend' ∧ (∀ x, (∀ p ∈ pend', p.o.dst ≠ some x) → tx.get x = t'.get x)
  | [], pre, t, H, pend, tx, h, hx => ⟨pre, t, pend, h, hx⟩
  | (i, o) :: l, pre, t, H, pend, tx, h, hx => by
    have he : i ∉ eff := (h.is (i, o) List.mem_cons_self).2
    have hgo := h.go
    have hem : memN eff i = false := by
      cases hm : memN eff i with
      | false => rfl
      | true => exact absurd (memN_iff.1 hm) he
    simp only [PureFrom, AnyStep, hem, cond_false] at hgo
    obtain ⟨d, F, hg, hF, hgo⟩ := hgo
    have ho : ops[i]? = some o := (h.is (i, o) List.mem_cons_self).1
    obtain ⟨h1, h2, h3, h4⟩ := ordOk_cons ho (by have := h.ord; simpa using this)
    refine WayP.pass hc (l := l) (pre := i :: pre) (t := t.put o.dst d) (pend := ⟨i, o, d, F⟩ :: pend) (tx := tx) ⟨?_, h4, ?_, fun p hp => h.is p (List.mem_cons_of_mem _ hp), ?_, ?_, ?_, ?_, ?_, hgo⟩ ?_
    · intro j hj
      rcases h.cover j hj with hh | hh | hh
      · exact .inl (List.mem_cons_of_mem _ hh)
      · rcases List.mem_cons.1 (show j ∈ i :: l.map (·.1) from hh) with e | hh
        · exact .inl (e ▸ List.mem_cons_self)
        · exact .inr (.inl hh)
      · exact .inr (.inr hh)
    · intro j hj q hq e hee hb
      rcases List.mem_cons.1 hj with rfl | hj
      · rw [ho] at hq; cases hq
        exact List.mem_cons_of_mem _ (h2 e hee hb)
      · exact List.mem_cons_of_mem _ (h.top j hj q hq e hee hb)
    · intro j hj
      rcases List.mem_cons.1 hj with rfl | hj
      · exact he
      · exact h.prp j hj
    · intro j hj
      rcases List.mem_cons.1 hj with rfl | hj
      · exact ⟨_, List.mem_cons_self, rfl⟩
      · obtain ⟨p, hp, hpi⟩ := h.has j hj
        exact ⟨p, List.mem_cons_of_mem _ hp, hpi⟩
    · intro p hp
      rcases List.mem_cons.1 hp with rfl | hp
      · exact ⟨List.mem_cons_self, he, ho⟩
      · obtain ⟨a, b, c⟩ := h.pis p hp
        exact ⟨List.mem_cons_of_mem _ a, b, c⟩
    · intro p hp
      rcases List.mem_cons.1 hp with rfl | hp
      · refine ⟨fun H' hF' => GOp.congr (hg H' hF') fun x hx' => ?_, fun k hk => ?_⟩
        · simp only at hx'
          cases hd : o.dst with
          | none => rfl
          | some k => exact (Env.get_put_ne t d (fun e => (hc.dst i o k ho hd).2.1 (by rw [e]; exact hx'))).symm
        · simp only at hk ⊢; rw [hk]; exact Env.get_put_self _ _ _
      · obtain ⟨a, b, c⟩ := h.pis p hp
        exact ⟨fun H' hF' => gop_moreW hc ho h1 h.top a c (fun h5 _ => he h5) ((h.gop p hp).1 H' hF'), fun k hk => get_moreW hc ho h1 a c hk ((h.gop p hp).2 k hk)⟩
    · intro p hp
      rcases List.mem_cons.1 hp with rfl | hp
      · exact hF
      · exact h.now p hp
    · intro x hxx
      have hne : o.dst ≠ some x := hxx ⟨i, o, d, F⟩ List.mem_cons_self
      rw [hx x fun p hp => hxx p (List.mem_cons_of_mem _ hp)]
      cases hd : o.dst with
      | none => rfl
      | some k => exact (Env.get_put_ne t d (fun e => hne (by rw [hd, e]))).symm
def nodupN : List Nat → Bool
  | [] => true
  | i :: r => !memN r i && nodupN r
theorem nodupN_iff : ∀ {l : List Nat}, nodupN l = true → l.Nodup
  | [], _ => List.nodup_nil
  | i :: r, h => by
    simp only [nodupN, Bool.and_eq_true] at h
    refine List.nodup_cons.2 ⟨fun hm => ?_, nodupN_iff h.2⟩
    rw [memN_iff.2 hm] at h; simp at h
def treeOk (ops : Array Oper) (n : Nat) (ord tail : List Nat) : Bool :=
  ((List.range ops.size).all fun i => memN ord i || memN tail i) && ordOk ops tail [] ord && (ord.all fun i => !memN tail i) && nodupN tail && (tail.all fun i => Nat.blt i ops.size) && dstOkW ops n tail
/-- A REGION IN WHATEVER ORDER, its last operations bound in part alone. -/
theorem sim_tree {t : Env} {H : Heap} {id : Nat} {Ψ : Exit → Env → Heap → Prop} (ord tail : List Nat) (hmix : K.P.follows .mixedOrders = true) (hc : treeOk ops K.n ord tail = true)
    (h : PureFrom K ops tail (AnyTree K ops tail (Ψ .normal) (pick ops tail).length (pick ops tail)) (pick ops ord) t H []) : Sim K (.region id ops true) t H Ψ := by
  intro a w ⟨S, hr⟩
  refine wpIn_region_any hmix ?_
  simp only [treeOk, Bool.and_eq_true] at hc
  obtain ⟨⟨⟨⟨⟨c1, c2⟩, c3⟩, c4⟩, c5⟩, c6⟩ := hc
  have hA := AnyOkW.of c6
  have hst : Step [] S w S { w with drawn := w.drawn + 1 } := ⟨rfl, rfl, rfl, Nat.le_refl _, fun _ _ _ => rfl, fun _ h => h, fun _ h => .inl h, hr.wf⟩
  obtain ⟨p1, p2⟩ := pick_is (ops := ops) ord (ordOk_lt ord [] c2)
  obtain ⟨q1, q2⟩ := pick_is (ops := ops) tail (fun i hi => by simpa using (List.all_eq_true.1 c5) i hi)
  have hfalse : ∀ (d : Bool) (j : Nat), j < ops.size → (Array.replicate ops.size false).getD j d = false := fun d j hj => by simp [Array.getD_eq_getD_getElem?, hj]
  have hlt : ∀ j o, ops[j]? = some o → j < ops.size := fun j o h => (Array.getElem?_eq_some_iff.1 h).1
  have hW : WayP K ops tail (AnyTree K ops tail (Ψ .normal) (pick ops tail).length (pick ops tail)) (pick ops tail) [] (pick ops ord) t H [] := ⟨fun i hi => by
      have := (List.all_eq_true.1 c1) i (List.mem_range.2 hi)
      rw [Bool.or_eq_true] at this
      rcases this with h | h
      · exact .inr (.inl (by rw [p2]; exact memN_iff.1 h))
      · exact .inr (.inr (by rw [q2]; exact memN_iff.1 h)), by rw [p2]; exact c2, by simp, fun p hp => ⟨p1 p hp, fun hm => by
      have hpo : p.1 ∈ ord := by rw [← p2]; exact List.mem_map.2 ⟨p, hp, rfl⟩
      have := (List.all_eq_true.1 c3) p.1 hpo
      rw [memN_iff.2 hm] at this; cases this⟩, by simp, by simp, by simp, by simp, by simp, h⟩
  obtain ⟨pre, t', pend, hW', hx⟩ := WayP.pass hA hW (tx := t) (fun x _ => rfl)
  refine any_goT hA (fun t' H' a' w' hn hr' => ⟨t', H', hn, hr'⟩) ops.size pre (pick ops tail) t' H pend _ t a _ (by simp) ?_
    ⟨fun i hi => (hW'.cover i hi).imp_right fun h => h.resolve_left (by simp), hW'.top, q1, fun p hp => ?_, by rw [q2]; exact nodupN_iff c4, fun p hp => hfalse _ _ (hlt _ _ (q1 p hp)), fun i hi he => absurd he (hW'.prp i hi), fun i hi _ _ => hW'.has i hi, hW'.pis, fun p hp _ => hW'.gop p hp, fun p hp _ => hW'.now p hp, (fun i o hi hl => by rw [hfalse _ i (hlt _ _ hi)] at hl; cases hl), hW'.go⟩ (fun x hxx => hx x fun p hp => hxx p hp (hfalse _ _ (hlt _ _ (hW'.pis p hp).2.2)))
    ⟨S, hr.size, hr.defers.step (hst.mono hr.wf (by simp)) hst.objs0 hst.size, hr.step.trans hst (by simp), hr.own.step hst hr.wf (by simp) (by simp), hr.mine, hr.env.mono (hst.mono hr.wf (by simp))⟩
  · unfold unl
    rw [List.filter_eq_self.2]
    · simp
    · intro j hj
      have := List.mem_range.1 hj
      simp [Array.getD_eq_getD_getElem?, this]
  · have hpt : p.1 ∈ tail := by rw [← q2]; exact List.mem_map.2 ⟨p, hp, rfl⟩
    exact ⟨hpt, fun hm => hW'.prp _ hm hpt⟩
section
variable {t : Env} {H : Heap} {C : Env → Heap → List Pend → Prop} {kd i : Nat} {op : Op} {ty tp : TypeId} {pos : String} {aft : Array Edge} {pend : List Pend} {al : List (Nat × Oper)} {d : T} {x y : Operand} {rest : Env → Heap → List Pend → Prop}
theorem ct {id : Nat} {Ψ : Exit → Env → Heap → Prop} (ord tail : List Nat) (h : PureFrom K ops tail (AnyTree K ops tail (Ψ .normal) (pick ops tail).length (pick ops tail)) (pick ops ord) t H []) (hmix : K.P.follows .mixedOrders = true := by kernel_rfl) (hc : treeOk ops K.n ord tail = true := by kernel_rfl) : Sim K (.region id ops true) t H Ψ := sim_tree ord tail hmix hc h
theorem t_ (hp : ∀ H', POp K.P t H' ⟨some kd, op, tp, pos, aft, none⟩ d) (h : PureFrom K ops eff C al ((kd, d) :: t) H (⟨i, ⟨some kd, op, tp, pos, aft, none⟩, d, fun _ => True⟩ :: pend)) (he : memN eff i = false := by rfl) : PureFrom K ops eff C ((i, ⟨some kd, op, tp, pos, aft, none⟩) :: al) t H pend := by
  show AnyStep K ops eff i _ _ t H pend
  unfold AnyStep
  rw [he, cond_false]
  exact ⟨d, fun _ => True, fun H' _ => hp H', trivial, h⟩
theorem t_F {F : Heap → Prop} (hp : ∀ H', F H' → POp K.P t H' ⟨some kd, op, tp, pos, aft, none⟩ d) (hF : F H) (h : PureFrom K ops eff C al ((kd, d) :: t) H (⟨i, ⟨some kd, op, tp, pos, aft, none⟩, d, F⟩ :: pend)) (he : memN eff i = false := by rfl) : PureFrom K ops eff C ((i, ⟨some kd, op, tp, pos, aft, none⟩) :: al) t H pend := by
  show AnyStep K ops eff i _ _ t H pend
  unfold AnyStep
  rw [he, cond_false]
  exact ⟨d, F, fun H' h' => hp H' h', hF, h⟩
theorem tg_F {p : Prop} [ip : Decidable p] {j kg : Nat} {F : Heap → Prop} (hp : ∀ H', F H' → p → POp K.P t H' ⟨some kd, op, tp, pos, aft, some (j, true)⟩ d) (hF : F H) (h : PureFrom K ops eff C al ((kd, T.gp p ip d) :: t) H (⟨i, ⟨some kd, op, tp, pos, aft, some (j, true)⟩, T.gp p ip d, F⟩ :: pend))
    (hj : (ops[j]?).bind (·.dst) = some kg := by rfl) (hb : t.get kg = .v (.bool (decide p)) := by (repeat (apply gS; rfl)); exact gZ) (he : memN eff i = false := by rfl) : PureFrom K ops eff C ((i, ⟨some kd, op, tp, pos, aft, some (j, true)⟩) :: al) t H pend := by
  show AnyStep K ops eff i _ _ t H pend
  unfold AnyStep
  rw [he, cond_false]
  exact ⟨T.gp p ip d, F, fun H' h' => ⟨kg, _, hj, hb, fun e => by rw [gp_pos (bool_t.1 e)]; exact hp H' h' (bool_t.1 e), fun e => gp_neg fun h => e (bool_t.2 h)⟩, hF, h⟩
theorem tg_T {p : Prop} [ip : Decidable p] {j kg : Nat} (hp : ∀ H', p → POp K.P t H' ⟨some kd, op, tp, pos, aft, some (j, true)⟩ d) (h : PureFrom K ops eff C al ((kd, T.gp p ip d) :: t) H (⟨i, ⟨some kd, op, tp, pos, aft, some (j, true)⟩, T.gp p ip d, fun _ => True⟩ :: pend))
    (hj : (ops[j]?).bind (·.dst) = some kg := by rfl) (hb : t.get kg = .v (.bool (decide p)) := by (repeat (apply gS; rfl)); exact gZ) (he : memN eff i = false := by rfl) : PureFrom K ops eff C ((i, ⟨some kd, op, tp, pos, aft, some (j, true)⟩) :: al) t H pend := tg_F (F := fun _ => True) (fun H' _ => hp H') trivial h hj hb he
theorem tg_loT {p : Prop} [ip : Decidable p] {j kg : Nat} {b o m : Nat} {ty0 : TypeId} {cells : List T} (h : PureFrom K ops eff C al ((kd, T.gp p ip d) :: t) H (⟨i, ⟨some kd, .load ty x, tp, pos, aft, some (j, true)⟩, T.gp p ip d, fun H => (b, (⟨ty0, cells, m⟩ : Blk)) ∈ H⟩ :: pend)) (hj : (ops[j]?).bind (·.dst) = some kg := by rfl) (hb : t.get kg = .v (.bool (decide p)) := by (repeat (apply gS; rfl)); exact gZ)
    (hx : p → t.ev x = .v (.pointer (some ⟨b, o, none⟩)) := by intro hg; first | ((repeat (apply eS; rfl)); exact eZ) | exact u_ hg) (hm : (b, (⟨ty0, cells, m⟩ : Blk)) ∈ H := by (repeat (first | exact hZ | apply hS | apply hA))) (hd : cells[o]? = some d := by rfl) (hk : leafTy K.P ty = true := by rfl) (he : memN eff i = false := by rfl) : PureFrom K ops eff C ((i, ⟨some kd, .load ty x, tp, pos, aft, some (j, true)⟩) :: al) t H pend :=
  tg_F (F := fun H => (b, (⟨ty0, cells, m⟩ : Blk)) ∈ H) (fun _ h' hp => p_lo (hx hp) h' hd hk) hm h hj hb he
theorem t_loa {b o n m : Nat} {ty0 : TypeId} {cells cs : List T} [hk : AggC K.P ty n] (hc : TakeR cells o n cs) (h : PureFrom K ops eff C al ((kd, .agg cs) :: t) H (⟨i, ⟨some kd, .load ty x, tp, pos, aft, none⟩, .agg cs, fun H => (b, (⟨ty0, cells, m⟩ : Blk)) ∈ H⟩ :: pend)) (hx : t.ev x = .v (.pointer (some ⟨b, o, none⟩)) := by first | ((repeat (apply eS; rfl)); exact eZ) | exact ev_int | exact ev_bool | exact ev_nil | exact ev_str | exact ev_ptr | exact ev_agg | exact ev_map | exact ev_nilf | exact ev_nili | exact ev_func) (hm : (b, (⟨ty0, cells, m⟩ : Blk)) ∈ H := by (repeat (first | exact hZ | apply hS | apply hA)))
    (he : memN eff i = false := by rfl) : PureFrom K ops eff C ((i, ⟨some kd, .load ty x, tp, pos, aft, none⟩) :: al) t H pend := t_F (F := fun H => (b, (⟨ty0, cells, m⟩ : Blk)) ∈ H) (fun _ h' => p_loa hx h' hc) hm h he
theorem t_eff {o : Oper} (hE : ∀ t0 : Env, (∀ x ∈ o.op.operands, t0.ev x = t.ev x) → EOp K t0 H o fun t' H' => ∃ d, t' = t0.put o.dst d ∧ PendOk ops o H' pend ∧ rest (t.put o.dst d) H' pend) (he : memN eff i = true) : AnyStep K ops eff i o rest t H pend := by
  unfold AnyStep
  rw [he, cond_true]
  exact fun t0 h0 a w hr Kc Q hk => hE t0 h0 a w hr Kc Q fun t' H' a' w' ⟨d, h1, h2, h3⟩ hr' => hk t' H' a' w' ⟨d, pend, h1, h2, .refl _ _ _, h3⟩ hr'
theorem t_as (h : PendOk ops ⟨some kd, .assign x, tp, pos, aft, none⟩ H pend ∧ rest ((kd, d) :: t) H pend) (hx : t.ev x = d := by first | ((repeat (apply eS; rfl)); exact eZ) | exact ev_int | exact ev_bool | exact ev_nil | exact ev_str | exact ev_ptr | exact ev_agg | exact ev_map | exact ev_nilf | exact ev_nili | exact ev_func) (hd : Nat.blt kd K.n = true := by rfl) (he : memN eff i = true := by rfl) : AnyStep K ops eff i ⟨some kd, .assign x, tp, pos, aft, none⟩ rest t H pend :=
  t_eff (fun t0 h0 => EOp.of_pop (p_as (hx := (h0 x (by simp [Op.operands])).trans hx)) hd ⟨d, rfl, h.1, h.2⟩) he
theorem t_al {z : List T} [hz : ZCellsC K.P ty z] (h : ∀ b, (∀ c ∈ keys H, ¬ c = b) → PendOk ops ⟨some kd, .alloc ty, tp, pos, aft, none⟩ ((b, ⟨ty, z, z.length⟩) :: H) pend ∧ rest ((kd, .v (.pointer (some ⟨b, 0, none⟩))) :: t) ((b, ⟨ty, z, z.length⟩) :: H) pend)
    (hd : Nat.blt kd K.n = true := by rfl) (he : memN eff i = true := by rfl) : AnyStep K ops eff i ⟨some kd, .alloc ty, tp, pos, aft, none⟩ rest t H pend :=
  t_eff (fun t0 _ => eop_alloc hd fun b hb => ⟨_, rfl, h b hb⟩) he
theorem t_st {H' : Heap} {b o m : Nat} {ty0 : TypeId} {cells cs : List T} (h : rest t H' pend) (hx : t.ev x = .v (.pointer (some ⟨b, o, none⟩)) := by first | ((repeat (apply eS; rfl)); exact eZ) | exact ev_int | exact ev_bool | exact ev_nil | exact ev_str | exact ev_ptr | exact ev_agg | exact ev_map | exact ev_nilf | exact ev_nili | exact ev_func) (hy : t.ev y = d := by first | ((repeat (apply eS; rfl)); exact eZ) | exact ev_int | exact ev_bool | exact ev_nil | exact ev_str | exact ev_ptr | exact ev_agg | exact ev_map | exact ev_nilf | exact ev_nili | exact ev_func) (hi : HRep H (b, ⟨ty0, cells, m⟩) (b, ⟨ty0, cs, m⟩) H' := by (repeat (first | exact rZ | apply rS | apply rA))) (hc : LayR cells o d.cells cs := by ((repeat (apply LayR.skip)); (repeat (apply LayR.cons)); exact LayR.nil _))
    (hs : sizeT K.P ty = some d.cells.length := by rfl) (hp : Nat.blt 0 d.cells.length = true := by rfl) (hl : allLeaf d.cells = true := by rfl) (hk : PendOk ops ⟨none, .store ty x y, tp, pos, aft, none⟩ H' pend := by (repeat (first | exact trivial | (apply And.intro; focus (intro hb; first | exact trivial | exact noB hb rfl | (repeat (first | exact hZ | apply hS | apply hA))))))) (he : memN eff i = true := by rfl) :
    AnyStep K ops eff i ⟨none, .store ty x y, tp, pos, aft, none⟩ rest t H pend :=
  t_eff (fun t0 h0 => eop_storeO ((h0 x (by simp [Op.operands])).trans hx) ((h0 y (by simp [Op.operands])).trans hy) hi hc hs hp hl ⟨.any, rfl, hk, h⟩) he
end
def cutP {σ : Type} (ok : σ → Prop) (env : σ → Env) (heap : σ → Heap) (Ψ : Exit → Env → Heap → Prop) : Exit → Env → Heap → Prop
  | .normal, t, H => ∃ s H2, ok s ∧ EnvLe t (env s) ∧ H.Perm H2 ∧ HeapFront H2 (heap s)
  | e, t, H => Ψ e t H
theorem sim_cutP {t : Env} {H : Heap} {Ψ : Exit → Env → Heap → Prop} {σ : Type} {c r : Code} (ok : σ → Prop) (env : σ → Env) (heap : σ → Heap) (h : Sim K c t H (cutP ok env heap Ψ)) (h' : ∀ s, ok s → Sim K r (env s) (heap s) Ψ) : Sim K c t H (thenΨ K r Ψ) :=
  sim_mono h (fun e t1 H1 hc => by
    cases e with
    | normal =>
      obtain ⟨s, H2, h1, h2, hp, h3⟩ := hc
      exact sim_perm hp (sim_to (env s) (heap s) h2 h3 (h' s h1))
    | _ => exact hc)
theorem tno {b : Bool} {P : Prop} (h : b = true) (h' : b = false := by kernel_rfl) : P := by rw [h'] at h; cases h
end Go.Cap
end
section
set_option maxRecDepth 8000
namespace Go.Proofs.Ytppaabahbjgihaa
open Go.Cap
set_option linter.unusedSimpArgs false
set_option linter.unusedVariables false
attribute [local irreducible] POp SimFrom DrawFrom EOp Sim FnH T.gp
set_option maxHeartbeats 4000000 in
theorem toRef_fn (n : Nd) (hl : n.log.length ≤ 1000000000) : FnP Try.prog 28 [nd n] (fun r => r = nd n) := by
  refine fn_enter Try.func28 (by rfl) (by rfl) ?_
  intro S0 w0
  show Sim _ _ [(0, T.agg (nodeC n (.sl false (n.log.map een))))] _ _
  (repeat (first | apply cn | apply cq | apply cb | apply ck | apply cl | apply cx))
  apply cr
  refine e_bx fun b1 _ => ?_
  refine e_al fun b2 _ => ?_
  (repeat (first | apply cn | apply cq | apply cb | apply ck | apply cl | apply cx))
  refine sim_perm (List.Perm.swap _ _ _) ?_
  refine lend1 1 (by simp [nodeC]) ?_
  (repeat (first | apply cn | apply cq | apply cb | apply ck | apply cl | apply cx))
  apply cr
  refine s_ p_fa ?_
  refine s_ p_ld ?_
  refine s_ p_fa ?_
  refine s_ p_ld ?_
  refine s_ p_fa ?_
  refine s_ p_ld ?_
  refine s_ p_fa ?_
  refine s_ p_ld ?_
  refine s_ p_fa ?_
  refine s_ p_ld ?_
  refine s_ p_fa ?_
  refine s_ p_ld ?_
  refine s_ p_fa ?_
  refine s_ p_ld ?_
  refine s_ p_fa ?_
  refine s_ p_ld ?_
  refine s_ p_fa ?_
  refine s_ p_ld ?_
  refine s_ p_fa ?_
  refine s_ p_ld ?_
  refine s_ p_fa ?_
  refine s_ p_ld ?_
  refine s_ p_faA ?_
  refine s_ p_la ?_
  refine s_ p_faA ?_
  refine s_ p_la ?_
  refine s_ (p_bR 22) ?_
  refine e_al fun b3 _ => ?_
  refine e_st ?_
  (repeat (first | apply cn | apply cq | apply cb | apply ck | apply cl | apply cx))
  apply cr
  refine s_ p_as ?_
  (repeat (first | apply cn | apply cq | apply cb | apply ck | apply cl | apply cx))
  apply sim_loopL (σ := Nat × Heap) (ok := fun s => s.1 ≤ n.log.length ∧ ∃ v Hl, OSl rE 3 ((n.log.take s.1).map een) v Hl ∧ s.2 = (b3, ⟨rN, nodeC n (.v v), 22⟩) :: (Hl ++ [(b2, ⟨rN, nodeC zeroN (.v (.slice none 0 0)), 22⟩)]))
    (env := fun s => [(4, ei (s.1 : Nat)), (3, pN b3), (2, pN b2), (1, .adr (.agg (nodeC n (.sl false (n.log.map een)))))]) (heap := fun s => s.2) (μ := fun s => n.log.length - s.1) (s0 := (0, _))
  · exact ⟨Nat.zero_le _, _, [], osl_nil, rfl⟩
  · exact eL
  · exact kR
  rintro ⟨k, H⟩ ⟨hk, v, Hl, h1, hH⟩
  simp only at hk h1 hH
  subst hH
  have hlk : ((n.log.take k).map een).length = k := by simp; omega
  obtain ⟨p, c, hv⟩ := OSl.len h1
  rw [hlk] at hv
  subst hv
  (repeat (first | apply cn | apply cq | apply cb | apply ck | apply cl | apply cx))
  apply cr
  refine s_ p_mv ?_
  refine s_ p_fa ?_
  refine s_ p_ld ?_
  (first | refine s_ p_ln ?_ | refine s_ p_lr ?_)
  refine s_ p_lt ?_
  (repeat (first | apply cn | apply cq | apply cb | apply ck | apply cl | apply cx))
  refine ci ?_ ?_
  · intro hlt
    have hix : k < n.log.length := by simp only [List.length_map] at hlt; omega
    (repeat (first | apply cn | apply cq | apply cb | apply ck | apply cl | apply cx))
    refine ca [0, 1, 2, 3, 4, 5, 6, 7, 8, 9, 10, 11, 12, 13, 14, 15, 16, 17, 18, 19, 20, 21, 22, 23, 24] [22, 24] ?_
    refine a_ (fun _ => p_fr) ?_
    refine a_lo ?_
    refine a_ (fun _ => p_fa) ?_
    refine a_ (fun _ => p_ld) ?_
    refine a_ (fun _ => p_mv) ?_
    (first | refine a_ (fun _ => p_ix hix) ?_ | refine a_ (fun _ => p_ix hix2) ?_ | refine a_ (fun _ => p_ia) ?_ | refine a_ (fun _ => p_ir) ?_)
    (first | refine a_ (fun _ => p_fa) ?_ | refine a_ (fun _ => p_fr) ?_)
    (first | refine a_ (fun _ => p_ld) ?_ | refine a_lo ?_)
    refine a_ (fun _ => p_fa) ?_
    refine a_ (fun _ => p_ld) ?_
    refine a_ (fun _ => p_mv) ?_
    (first | refine a_ (fun _ => p_ix hix) ?_ | refine a_ (fun _ => p_ix hix2) ?_ | refine a_ (fun _ => p_ia) ?_ | refine a_ (fun _ => p_ir) ?_)
    (first | refine a_ (fun _ => p_fa) ?_ | refine a_ (fun _ => p_fr) ?_)
    (first | refine a_ (fun _ => p_ld) ?_ | refine a_lo ?_)
    refine a_ (fun _ => p_fa) ?_
    refine a_ (fun _ => p_ld) ?_
    refine a_ (fun _ => p_mv) ?_
    (first | refine a_ (fun _ => p_ix hix) ?_ | refine a_ (fun _ => p_ix hix2) ?_ | refine a_ (fun _ => p_ia) ?_ | refine a_ (fun _ => p_ir) ?_)
    (first | refine a_ (fun _ => p_fa) ?_ | refine a_ (fun _ => p_fr) ?_)
    (first | refine a_ (fun _ => p_ld) ?_ | refine a_lo ?_)
    refine a_ (fun _ => p_bd 3 [_, _, _]) ?_
    refine a_ (fun _ => p_bs) ?_
    refine a_os (ho := h1) (A := [_]) (B := [_]) (een3 _) (fun v' Hl' h1' => ⟨by (repeat (first | exact trivial | (apply And.intro; focus (intro hb; first | exact trivial | exact noB hb rfl | (repeat (first | exact hZ | apply hS | apply hA)))))), ?_⟩)
    (apply Exists.intro; apply And.intro; (focus (repeat (first | exact PDrop.nil | apply PDrop.dropL rfl | apply PDrop.keep))))
    have h1 : OSl rE 3 ((n.log.take (k + 1)).map een) v' Hl' := by
      rw [List.take_succ_eq_append_getElem hix, List.map_append]; exact h1'
    clear h1'
    obtain ⟨p, c, rfl⟩ := OSl.len h1
    refine a_ (fun _ => p_fr) ?_
    refine a_st ?_
    apply an
    (repeat (first | apply cn | apply cq | apply cb | apply ck | apply cl | apply cx))
    apply cr
    refine s_ p_mv ?_
    refine s_ p_ad ?_
    refine s_ p_as ?_
    (repeat (first | apply cn | apply cq | apply cb | apply ck | apply cl | apply cx))
    exact ⟨(k + 1, _), ⟨by simp only; omega, _, Hl', h1, rfl⟩, by show n.log.length - (k + 1) < n.log.length - k; omega, ⟨le_get (by rfl) (Le.refl _), eL⟩, kR⟩
  · intro hlt
    have hkl : k = n.log.length := by simp only [List.length_map] at hlt; omega
    subst hkl
    rw [List.take_length] at h1
    (repeat (first | apply cn | apply cq | apply cb | apply ck | apply cl | apply cx))
    refine lendG (G := (b3, _) :: Hl) (H1 := [(b2, _)]) 3 (.adr (nd n)) (Lends.ptr List.mem_cons_self (.inr ⟨_, rfl⟩) (node_lends n (OSl.lend h1 (by intro p hp; simp [hp]) (een3 _) (een_ok _))) (by simp [nd, T.cells, nodeC]) (by simp [nd, T.cells, nodeC])) (List.Perm.refl _) ?_
    (repeat (first | apply cn | apply cq | apply cb | apply ck | apply cl | apply cx))
    apply cr
    refine s_ p_la ?_
    refine e_st ?_
    (repeat (first | apply cn | apply cq | apply cb | apply ck | apply cl | apply cx))
    (apply sim_ret; (try simp only [blockΨ_ret, thenΨ_ret, loopL_ret, cutΨ_ret, cutE_ret]); first | refine rt ?_ | refine rn ?_)
    exact Le.refl _
set_option maxHeartbeats 4000000 in
theorem toRefMsg_fn (m : Ms) (hl : m.entries.length ≤ 1000000000) : FnP Try.prog 53 [ms m] (fun r => r = ms m) := by
  refine fn_enter Try.func53 (by rfl) (by rfl) ?_
  intro S0 w0
  show Sim _ _ [(0, T.agg (msC m (.sl false (m.entries.map een))))] _ _
  (repeat (first | apply cn | apply cq | apply cb | apply ck | apply cl | apply cx))
  apply cr
  refine e_bx fun b1 _ => ?_
  refine e_al fun b2 _ => ?_
  (repeat (first | apply cn | apply cq | apply cb | apply ck | apply cl | apply cx))
  refine sim_perm (List.Perm.swap _ _ _) ?_
  refine lend1 1 (by simp [msC]) ?_
  (repeat (first | apply cn | apply cq | apply cb | apply ck | apply cl | apply cx))
  apply cr
  refine s_ p_fa ?_
  refine s_ p_ld ?_
  refine s_ p_fa ?_
  refine s_ p_ld ?_
  refine s_ p_fa ?_
  refine s_ p_ld ?_
  refine s_ p_fa ?_
  refine s_ p_ld ?_
  refine s_ p_fa ?_
  refine s_ p_ld ?_
  refine s_ p_fa ?_
  refine s_ p_ld ?_
  refine s_ p_fa ?_
  refine s_ p_ld ?_
  refine s_ p_fa ?_
  refine s_ p_ld ?_
  refine s_ p_fa ?_
  refine s_ p_ld ?_
  refine s_ p_fa ?_
  refine s_ p_ld ?_
  refine s_ (p_bR 11) ?_
  refine e_al fun b3 _ => ?_
  refine e_st ?_
  (repeat (first | apply cn | apply cq | apply cb | apply ck | apply cl | apply cx))
  apply cr
  refine s_ p_as ?_
  (repeat (first | apply cn | apply cq | apply cb | apply ck | apply cl | apply cx))
  apply sim_loopL (σ := Nat × Heap) (ok := fun s => s.1 ≤ m.entries.length ∧ ∃ v Hl, OSl rE 3 ((m.entries.take s.1).map een) v Hl ∧ s.2 = (b3, ⟨rM, msC m (.v v), 11⟩) :: (Hl ++ [(b2, ⟨rM, msC emptyM (.v (.slice none 0 0)), 11⟩)]))
    (env := fun s => [(4, ei (s.1 : Nat)), (3, pN b3), (2, pN b2), (1, .adr (.agg (msC m (.sl false (m.entries.map een)))))]) (heap := fun s => s.2) (μ := fun s => m.entries.length - s.1) (s0 := (0, _))
  · exact ⟨Nat.zero_le _, _, [], osl_nil, rfl⟩
  · exact eL
  · exact kR
  rintro ⟨k, H⟩ ⟨hk, v, Hl, h1, hH⟩
  simp only at hk h1 hH
  subst hH
  have hlk : ((m.entries.take k).map een).length = k := by simp; omega
  obtain ⟨p, c, hv⟩ := OSl.len h1
  rw [hlk] at hv
  subst hv
  (repeat (first | apply cn | apply cq | apply cb | apply ck | apply cl | apply cx))
  apply cr
  refine s_ p_mv ?_
  refine s_ p_fa ?_
  refine s_ p_ld ?_
  (first | refine s_ p_ln ?_ | refine s_ p_lr ?_)
  refine s_ p_lt ?_
  (repeat (first | apply cn | apply cq | apply cb | apply ck | apply cl | apply cx))
  refine ci ?_ ?_
  · intro hlt
    have hix : k < m.entries.length := by simp only [List.length_map] at hlt; omega
    (repeat (first | apply cn | apply cq | apply cb | apply ck | apply cl | apply cx))
    refine ca [0, 1, 2, 3, 4, 5, 6, 7, 8, 9, 10, 11, 12, 13, 14, 15, 16, 17, 18, 19, 20, 21, 22, 23, 24] [22, 24] ?_
    refine a_ (fun _ => p_fr) ?_
    refine a_lo ?_
    refine a_ (fun _ => p_fa) ?_
    refine a_ (fun _ => p_ld) ?_
    refine a_ (fun _ => p_mv) ?_
    (first | refine a_ (fun _ => p_ix hix) ?_ | refine a_ (fun _ => p_ix hix2) ?_ | refine a_ (fun _ => p_ia) ?_ | refine a_ (fun _ => p_ir) ?_)
    (first | refine a_ (fun _ => p_fa) ?_ | refine a_ (fun _ => p_fr) ?_)
    (first | refine a_ (fun _ => p_ld) ?_ | refine a_lo ?_)
    refine a_ (fun _ => p_fa) ?_
    refine a_ (fun _ => p_ld) ?_
    refine a_ (fun _ => p_mv) ?_
    (first | refine a_ (fun _ => p_ix hix) ?_ | refine a_ (fun _ => p_ix hix2) ?_ | refine a_ (fun _ => p_ia) ?_ | refine a_ (fun _ => p_ir) ?_)
    (first | refine a_ (fun _ => p_fa) ?_ | refine a_ (fun _ => p_fr) ?_)
    (first | refine a_ (fun _ => p_ld) ?_ | refine a_lo ?_)
    refine a_ (fun _ => p_fa) ?_
    refine a_ (fun _ => p_ld) ?_
    refine a_ (fun _ => p_mv) ?_
    (first | refine a_ (fun _ => p_ix hix) ?_ | refine a_ (fun _ => p_ix hix2) ?_ | refine a_ (fun _ => p_ia) ?_ | refine a_ (fun _ => p_ir) ?_)
    (first | refine a_ (fun _ => p_fa) ?_ | refine a_ (fun _ => p_fr) ?_)
    (first | refine a_ (fun _ => p_ld) ?_ | refine a_lo ?_)
    refine a_ (fun _ => p_bd 3 [_, _, _]) ?_
    refine a_ (fun _ => p_bs) ?_
    refine a_os (ho := h1) (A := [_]) (B := [_]) (een3 _) (fun v' Hl' h1' => ⟨by (repeat (first | exact trivial | (apply And.intro; focus (intro hb; first | exact trivial | exact noB hb rfl | (repeat (first | exact hZ | apply hS | apply hA)))))), ?_⟩)
    (apply Exists.intro; apply And.intro; (focus (repeat (first | exact PDrop.nil | apply PDrop.dropL rfl | apply PDrop.keep))))
    have h1 : OSl rE 3 ((m.entries.take (k + 1)).map een) v' Hl' := by
      rw [List.take_succ_eq_append_getElem hix, List.map_append]; exact h1'
    clear h1'
    obtain ⟨p, c, rfl⟩ := OSl.len h1
    refine a_ (fun _ => p_fr) ?_
    refine a_st ?_
    apply an
    (repeat (first | apply cn | apply cq | apply cb | apply ck | apply cl | apply cx))
    apply cr
    refine s_ p_mv ?_
    refine s_ p_ad ?_
    refine s_ p_as ?_
    (repeat (first | apply cn | apply cq | apply cb | apply ck | apply cl | apply cx))
    exact ⟨(k + 1, _), ⟨by simp only; omega, _, Hl', h1, rfl⟩, by show m.entries.length - (k + 1) < m.entries.length - k; omega, ⟨le_get (by rfl) (Le.refl _), eL⟩, kR⟩
  · intro hlt
    have hkl : k = m.entries.length := by simp only [List.length_map] at hlt; omega
    subst hkl
    rw [List.take_length] at h1
    (repeat (first | apply cn | apply cq | apply cb | apply ck | apply cl | apply cx))
    refine lendG (G := (b3, _) :: Hl) (H1 := [(b2, _)]) 3 (.adr (ms m)) (Lends.ptr List.mem_cons_self (.inr ⟨_, rfl⟩) (ms_lends m (OSl.lend h1 (by intro p hp; simp [hp]) (een3 _) (een_ok _))) (by simp [ms, T.cells, msC]) (by simp [ms, T.cells, msC])) (List.Perm.refl _) ?_
    (repeat (first | apply cn | apply cq | apply cb | apply ck | apply cl | apply cx))
    apply cr
    refine s_ p_la ?_
    refine e_st ?_
    (repeat (first | apply cn | apply cq | apply cb | apply ck | apply cl | apply cx))
    (apply sim_ret; (try simp only [blockΨ_ret, thenΨ_ret, loopL_ret, cutΨ_ret, cutE_ret]); first | refine rt ?_ | refine rn ?_)
    exact Le.refl _
set_option maxHeartbeats 4000000 in
theorem sameMsgs_fn (f f' : Bool) (l m : List Ms) (hl : l.length ≤ 1000000000) (hm : m.length ≤ 1000000000) (hle : ∀ x ∈ l, x.entries.length ≤ 1000000000) (hme : ∀ x ∈ m, x.entries.length ≤ 1000000000) : FnP Try.prog 59 [.sl f (l.map ms), .sl f' (m.map ms)] (fun r => r = .v (.bool (decide (l = m)))) := by
  refine fn_enter Try.func59 (by rfl) (by rfl) ?_
  intro S0 w0
  show Sim _ _ [(0, T.sl f (l.map ms)), (1, T.sl f' (m.map ms))] _ _
  (repeat (first | apply cn | apply cq | apply cb | apply ck | apply cl | apply cx))
  apply cr
  refine s_ p_as ?_
  (repeat (first | apply cn | apply cq | apply cb | apply ck | apply cl | apply cx))
  apply cr
  refine s_ p_mv ?_
  (first | refine s_ p_ln ?_ | refine s_ p_lr ?_)
  refine s_ p_mv ?_
  (first | refine s_ p_ln ?_ | refine s_ p_lr ?_)
  refine s_ p_ne ?_
  (repeat (first | apply cn | apply cq | apply cb | apply ck | apply cl | apply cx))
  refine ci ?_ ?_
  · intro hne
    (repeat (first | apply cn | apply cq | apply cb | apply ck | apply cl | apply cx))
    apply cr
    refine s_ p_as ?_
    (repeat (first | apply cn | apply cq | apply cb | apply ck | apply cl | apply cx))
    (apply sim_ret; (try simp only [blockΨ_ret, thenΨ_ret, loopL_ret, cutΨ_ret, cutE_ret]); first | refine rt ?_ | refine rn ?_)
    refine Le.of_eq ?_
    rw [show decide (l = m) = false from decide_eq_false (fun h => hne (by rw [h]))]
    rfl
  intro hne
  have hlen : l.length = m.length := by simp only [List.length_map] at hne; omega
  (repeat (first | apply cn | apply cq | apply cb | apply ck | apply cl | apply cx))
  apply cr
  refine s_ p_as ?_
  (repeat (first | apply cn | apply cq | apply cb | apply ck | apply cl | apply cx))
  apply sim_loopL (σ := Nat) (ok := fun k => k ≤ l.length ∧ l.take k = m.take k) (env := fun k => [(5, ei (k : Nat)), (0, T.sl f (l.map ms)), (1, T.sl f' (m.map ms))]) (heap := fun _ => []) (μ := fun k => l.length - k) (s0 := 0)
  · exact ⟨Nat.zero_le _, by simp⟩
  · exact eL
  · exact kR
  rintro k ⟨hk, htk⟩
  (repeat (first | apply cn | apply cq | apply cb | apply ck | apply cl | apply cx))
  apply cr
  refine s_ p_mv ?_
  refine s_ p_mv ?_
  (first | refine s_ p_ln ?_ | refine s_ p_lr ?_)
  refine s_ p_lt ?_
  (repeat (first | apply cn | apply cq | apply cb | apply ck | apply cl | apply cx))
  refine ci ?_ ?_
  · intro hlt
    simp only [List.length_map] at hlt
    have hkl : k < l.length := by omega
    have hkm : k < m.length := by omega
    have hix := hkl
    have hix2 := hkm
    have fT := toRefMsg_fn l[k] (hle _ (List.getElem_mem _))
    have fS := rSameMsg_fn l[k] m[k] (hle _ (List.getElem_mem _)) (hme _ (List.getElem_mem _))
    (repeat (first | apply cn | apply cq | apply cb | apply ck | apply cl | apply cx))
    refine ca [0, 1, 2, 3, 4, 5, 6, 7, 8, 9, 10] [] ?_
    refine a_ (fun _ => p_mv) ?_
    refine a_ (fun _ => p_mv) ?_
    (first | refine a_ (fun _ => p_ix hix) ?_ | refine a_ (fun _ => p_ix hix2) ?_ | refine a_ (fun _ => p_ia) ?_ | refine a_ (fun _ => p_ir) ?_)
    (first | refine a_ (fun _ => p_la) ?_ | refine a_loa ?_)
    refine a_ (fun _ => p_ca (fT)) ?_
    refine a_ (fun _ => p_mv) ?_
    refine a_ (fun _ => p_mv) ?_
    (first | refine a_ (fun _ => p_ix hix) ?_ | refine a_ (fun _ => p_ix hix2) ?_ | refine a_ (fun _ => p_ia) ?_ | refine a_ (fun _ => p_ir) ?_)
    (first | refine a_ (fun _ => p_la) ?_ | refine a_loa ?_)
    refine a_ (fun _ => p_ca (fS)) ?_
    refine a_ (fun _ => p_no) ?_
    apply an
    (repeat (first | apply cn | apply cq | apply cb | apply ck | apply cl | apply cx))
    refine ci ?_ ?_
    · intro hd
      (repeat (first | apply cn | apply cq | apply cb | apply ck | apply cl | apply cx))
      apply cr
      refine s_ p_as ?_
      (repeat (first | apply cn | apply cq | apply cb | apply ck | apply cl | apply cx))
      (apply sim_ret; (try simp only [blockΨ_ret, thenΨ_ret, loopL_ret, cutΨ_ret, cutE_ret]); first | refine rt ?_ | refine rn ?_)
      refine Le.of_eq ?_
      rw [show decide (l = m) = false from decide_eq_false (fun h => hd (by subst h; rfl))]
      rfl
    · intro hd
      have he : l[k] = m[k] := Classical.not_not.1 hd
      (repeat (first | apply cn | apply cq | apply cb | apply ck | apply cl | apply cx))
      apply cr
      refine s_ p_mv ?_
      refine s_ p_ad ?_
      refine s_ p_as ?_
      (repeat (first | apply cn | apply cq | apply cb | apply ck | apply cl | apply cx))
      refine ⟨k + 1, ⟨by omega, ?_⟩, by show l.length - (k + 1) < l.length - k; omega, ⟨le_get (by rfl) (Le.refl _), eL⟩, kR⟩
      rw [List.take_succ_eq_append_getElem hkl, List.take_succ_eq_append_getElem hkm, htk, he]
  · intro hlt
    simp only [List.length_map] at hlt
    have hkl : k = l.length := by omega
    have he : l = m := by
      have := htk
      rwa [hkl, List.take_length, hlen, List.take_length] at this
    (repeat (first | apply cn | apply cq | apply cb | apply ck | apply cl | apply cx))
    apply cr
    refine s_ p_as ?_
    (repeat (first | apply cn | apply cq | apply cb | apply ck | apply cl | apply cx))
    (apply sim_ret; (try simp only [blockΨ_ret, thenΨ_ret, loopL_ret, cutΨ_ret, cutE_ret]); first | refine rt ?_ | refine rn ?_)
    refine Le.of_eq ?_
    rw [show decide (l = m) = true from decide_eq_true he]
    rfl
/-- An act. -/
structure Ac where
  kind : Int
  i : Int
  n : Int
  cmd : List UInt8
  deriving DecidableEq, Inhabited
def acT (a : Ac) : T := .agg [ei a.kind, ei a.i, ei a.n, es a.cmd]
def fewF (l : List Ac) : Bool := l.all (fun a => decide (a.cmd.length ≤ 40)) && decide (l.length ≤ 400)
theorem few_fn (l : List Ac) (hl : l.length ≤ 9223372036854775807) (hc : ∀ a ∈ l, a.cmd.length ≤ 9223372036854775807) : FnP Try.prog 23 [.sl false (l.map acT)] (fun r => r = .v (.bool (decide (fewF l = true)))) := by
  refine fn_enter Try.func23 (by rfl) (by rfl) ?_
  intro S0 w0
  show Sim _ _ [(0, T.sl false (l.map acT))] _ _
  (repeat (first | apply cn | apply cq | apply cb | apply ck | apply cl | apply cx))
  apply cr
  refine s_ p_as ?_
  (repeat (first | apply cn | apply cq | apply cb | apply ck | apply cl | apply cx))
  apply cr
  refine s_ p_as ?_
  (repeat (first | apply cn | apply cq | apply cb | apply ck | apply cl | apply cx))
  apply sim_loopL (σ := Nat) (ok := fun k => k ≤ l.length ∧ ∀ a ∈ l.take k, a.cmd.length ≤ 40) (env := fun k => [(3, ei (k : Nat)), (0, T.sl false (l.map acT))]) (heap := fun _ => []) (μ := fun k => l.length - k) (s0 := 0)
  · exact ⟨Nat.zero_le _, by simp⟩
  · exact eL
  · exact kR
  rintro k ⟨hk, hall⟩
  (repeat (first | apply cn | apply cq | apply cb | apply ck | apply cl | apply cx))
  apply cr
  refine s_ p_mv ?_
  refine s_ p_mv ?_
  (first | refine s_ p_ln ?_ | refine s_ p_lr ?_)
  refine s_ p_lt ?_
  (repeat (first | apply cn | apply cq | apply cb | apply ck | apply cl | apply cx))
  refine ci ?_ ?_
  · intro hlt
    have hix : k < l.length := by simp only [List.length_map] at hlt; omega
    have hck := hc l[k] (List.getElem_mem _)
    (repeat (first | apply cn | apply cq | apply cb | apply ck | apply cl | apply cx))
    apply cr
    refine s_ p_mv ?_
    refine s_ p_mv ?_
    (first | refine s_ (p_ix hix) ?_ | refine s_ (p_ix hix2) ?_ | refine s_ p_ia ?_ | refine s_ p_ir ?_)
    (first | refine s_ p_fa ?_ | refine s_ p_fr ?_)
    (first | refine s_ p_ld ?_ | refine s_ p_lo ?_)
    refine s_ p_ls ?_
    refine s_ p_gt ?_
    (repeat (first | apply cn | apply cq | apply cb | apply ck | apply cl | apply cx))
    refine ci ?_ ?_
    · intro hd
      (repeat (first | apply cn | apply cq | apply cb | apply ck | apply cl | apply cx))
      apply cr
      refine s_ p_as ?_
      (repeat (first | apply cn | apply cq | apply cb | apply ck | apply cl | apply cx))
      (apply sim_ret; (try simp only [blockΨ_ret, thenΨ_ret, loopL_ret, cutΨ_ret, cutE_ret]); first | refine rt ?_ | refine rn ?_)
      refine Le.of_eq ?_
      have hd' : (40 : Int) < (l[k].cmd.length : Nat) := hd
      have hne : ¬ fewF l = true := by
        intro h
        rw [fewF, Bool.and_eq_true, List.all_eq_true] at h
        have := of_decide_eq_true (h.1 l[k] (List.getElem_mem _))
        omega
      rw [decide_eq_false hne]
      rfl
    · intro hd
      have hd' : ¬ (40 : Int) < (l[k].cmd.length : Nat) := hd
      (repeat (first | apply cn | apply cq | apply cb | apply ck | apply cl | apply cx))
      apply cr
      refine s_ p_mv ?_
      refine s_ p_ad ?_
      refine s_ p_as ?_
      (repeat (first | apply cn | apply cq | apply cb | apply ck | apply cl | apply cx))
      refine ⟨k + 1, ⟨by omega, ?_⟩, by show l.length - (k + 1) < l.length - k; omega, ⟨le_get (by rfl) (Le.refl _), eL⟩, kR⟩
      intro a ha
      rw [List.take_succ_eq_append_getElem hix] at ha
      rcases List.mem_append.1 ha with h | h
      · exact hall a h
      · rw [List.mem_singleton.1 h]; omega
  · intro hlt
    have hkl : k = l.length := by simp only [List.length_map] at hlt; omega
    subst hkl
    rw [List.take_length] at hall
    (repeat (first | apply cn | apply cq | apply cb | apply ck | apply cl | apply cx))
    apply cr
    refine s_ p_mv ?_
    (first | refine s_ p_ln ?_ | refine s_ p_lr ?_)
    refine s_ p_le ?_
    refine s_ p_as ?_
    (repeat (first | apply cn | apply cq | apply cb | apply ck | apply cl | apply cx))
    (apply sim_ret; (try simp only [blockΨ_ret, thenΨ_ret, loopL_ret, cutΨ_ret, cutE_ret]); first | refine rt ?_ | refine rn ?_)
    refine Le.of_eq (congrArg (fun z => T.v (.bool z)) ?_)
    rw [decide_eq_decide, fewF, Bool.and_eq_true, List.all_eq_true, decide_eq_true_iff, List.length_map]
    constructor
    · intro h
      exact ⟨fun a ha => decide_eq_true (hall a ha), by omega⟩
    · intro h
      omega
end Go.Proofs.Ytppaabahbjgihaa
end
section
set_option maxRecDepth 8000
namespace Go.Proofs.Ytppaabahbjgihaa
open Go.Cap
set_option linter.unusedSimpArgs false
set_option linter.unusedVariables false
attribute [local irreducible] POp SimFrom DrawFrom EOp Sim FnH T.gp
def tF : TypeId := 63
def fvL (N : Nat → Nd) : List T := [nd (N 0), nd (N 1), nd (N 2), nd (N 3), nd (N 4)]
def fvC (N : Nat → Nd) (v : T) : List T := (fvL N).flatMap T.cells ++ [v]
def FvH (b : Nat) (N : Nat → Nd) (M : List Ms) (H : Heap) : Prop := ∃ v Hm, OSo tM 11 (M.map ms) v Hm ∧ H = (b, ⟨tF, fvC N (.v v), 111⟩) :: (Hm ++ [])
def updN (N : Nat → Nd) (i : Nat) (x : Nd) : Nat → Nd := fun j => if j = i then x else N j
theorem nd22 (n : Nd) : (nd n).cells.length = 22 := rfl
theorem fvL22 (N : Nat → Nd) : ∀ x ∈ fvL N, x.cells.length = 22 := by
  intro x hx
  simp only [fvL, List.mem_cons, List.not_mem_nil, or_false] at hx
  rcases hx with rfl | rfl | rfl | rfl | rfl <;> rfl
theorem fvL_get (N : Nat → Nd) {i : Nat} (hi : i < 5) : (fvL N)[i]? = some (nd (N i)) := by
  rcases (by omega : i = 0 ∨ i = 1 ∨ i = 2 ∨ i = 3 ∨ i = 4) with rfl | rfl | rfl | rfl | rfl <;> rfl
theorem fvL_set (N : Nat → Nd) {i : Nat} (hi : i < 5) (x : Nd) : (fvL N).set i (nd x) = fvL (updN N i x) := by
  rcases (by omega : i = 0 ∨ i = 1 ∨ i = 2 ∨ i = 3 ∨ i = 4) with rfl | rfl | rfl | rfl | rfl <;> rfl
theorem fvC_len (N : Nat → Nd) (v : T) : (fvC N v).length = 111 := rfl
theorem fv_take {N : Nat → Nd} {v : T} {i : Int} (h0 : 0 ≤ i) (h5 : i < 5) : TakeR (fvC N v) (0 + 0 + i.toNat * 22) 22 (nodeC (N i.toNat) (eens (N i.toNat).log)) := by
  have h := (TakeR.flat (fvL22 N) (fvL_get N (i := i.toNat) (by omega))).post (q := [v])
  exact h
theorem fv_lay {N : Nat → Nd} {v : T} {i : Int} (h0 : 0 ≤ i) (h5 : i < 5) (x : Nd) : lay (fvC N v) (0 + 0 + i.toNat * 22) (nd x).cells = fvC (updN N i.toNat x) v := by
  show lay (fvC N v) (0 + 0 + i.toNat * 22) (nodeC x (eens x.log)) = _
  have hi : i.toNat < 5 := by omega
  have hl : (fvL N).length = 5 := rfl
  have h1 : ((fvL N).flatMap T.cells).length = 110 := rfl
  have h2 := flat_lay (kk := 22) (off := 0) (dc := nodeC x (eens x.log)) (x' := nd x) (fvL N) i.toNat (fvL22 N) (by omega) (by simp [nodeC]) (by
    have h3 : ((fvL N)[i.toNat]'(by omega)).cells.length = 22 := fvL22 N _ (List.getElem_mem _)
    show nodeC x (eens x.log) = _
    unfold lay
    rw [List.take_zero, List.nil_append, List.drop_of_length_le (by rw [h3]; simp [nodeC]), List.append_nil])
  rw [fvL_set N hi x] at h2
  unfold fvC
  rw [← h2]
  unfold lay
  have hn : (nodeC x (eens x.log)).length = 22 := rfl
  have e : 0 + 0 + i.toNat * 22 = i.toNat * 22 + 0 := by omega
  rw [e, List.take_append_of_le_length (by omega), List.drop_append_of_le_length (by rw [hn]; omega), List.append_assoc, List.append_assoc, List.append_assoc]
theorem fv_last (N : Nat → Nd) (v : T) : (fvC N v)[0 + 110]? = some v := rfl
def newsF (conf : Int) (k : Nat) : Nat → Nd := fun j => if j < k then newF (j : Nat) conf else zeroN
theorem newsF_succ (conf : Int) (k : Nat) : updN (newsF conf k) k (newF (k : Nat) conf) = newsF conf (k + 1) := by
  funext j
  unfold updN newsF
  by_cases h : j = k
  · subst h; rw [if_pos rfl, if_pos (by omega)]
  · rw [if_neg h]
    by_cases h2 : j < k
    · rw [if_pos h2, if_pos (by omega)]
    · rw [if_neg h2, if_neg (by omega)]
theorem zero5_le (conf : Int) : LeL (nodeC zeroN (.v (.slice none 0 0)) ++ (nodeC zeroN (.v (.slice none 0 0)) ++ (nodeC zeroN (.v (.slice none 0 0)) ++ (nodeC zeroN (.v (.slice none 0 0)) ++ (nodeC zeroN (.v (.slice none 0 0)) ++ [.v (.slice none 0 0)]))))) (fvC (newsF conf 0) (.v (.slice none 0 0))) := by
  have h := node_le0 zeroN
  have e : fvC (newsF conf 0) (.v (.slice none 0 0)) = nodeC zeroN (eens []) ++ (nodeC zeroN (eens []) ++ (nodeC zeroN (eens []) ++ (nodeC zeroN (eens []) ++ (nodeC zeroN (eens []) ++ [.v (.slice none 0 0)])))) := rfl
  rw [e]
  exact LeL.append h (LeL.append h (LeL.append h (LeL.append h (LeL.append h (LeL.refl _)))))
set_option maxHeartbeats 4000000 in
theorem begin_fn (conf : Int) (h2 : 0 ≤ conf) (h3 : conf ≤ 31) : FnH Try.prog 24 [ei conf] [] (fun r H => ∃ b, r = pW b ∧ FvH b (newsF conf 5) [] H) := by
  refine fn_enter Try.func24 (by rfl) (by rfl) ?_
  intro S0 w0
  show Sim _ _ [(0, ei conf)] _ _
  (repeat (first | apply cn | apply cq | apply cb | apply ck | apply cl | apply cx))
  apply cr
  refine s_ p_as ?_
  (repeat (first | apply cn | apply cq | apply cb | apply ck | apply cl | apply cx))
  apply cr
  refine s_ (p_bd 111 [_, _, _, _, _, _, _, _, _, _, _, _, _, _, _, _, _, _, _, _, _, _, _, _, _, _, _, _, _, _, _, _, _, _, _, _, _, _, _, _, _, _, _, _, _, _, _, _, _, _, _, _, _, _, _, _, _, _, _, _, _, _, _, _, _, _, _, _, _, _, _, _, _, _, _, _, _, _, _, _, _, _, _, _, _, _, _, _, _, _, _, _, _, _, _, _, _, _, _, _, _, _, _, _, _, _, _, _, _, _, _]) ?_
  refine e_bx fun b6 _ => ?_
  refine s_ p_as ?_
  (repeat (first | apply cn | apply cq | apply cb | apply ck | apply cl | apply cx))
  apply cr
  refine s_ p_as ?_
  (repeat (first | apply cn | apply cq | apply cb | apply ck | apply cl | apply cx))
  apply sim_loopL (σ := Nat) (ok := fun k => k ≤ 5) (env := fun k => [(4, ei (k : Nat)), (3, pW b6), (0, ei conf)]) (heap := fun k => [(b6, ⟨tF, fvC (newsF conf k) (.v (.slice none 0 0)), 111⟩)]) (μ := fun k => 5 - k) (s0 := 0)
  · exact Nat.zero_le _
  · exact eL
  · exact kK kN (zero5_le conf) (by rfl)
  intro k hk
  (repeat (first | apply cn | apply cq | apply cb | apply ck | apply cl | apply cx))
  apply cr
  refine s_ p_mv ?_
  refine s_ p_lt ?_
  (repeat (first | apply cn | apply cq | apply cb | apply ck | apply cl | apply cx))
  refine ci ?_ ?_
  · intro hlt
    have hk5 : k < 5 := by omega
    have fN := new_fn (k : Nat) conf (by omega) (by omega) h2 h3
    (repeat (first | apply cn | apply cq | apply cb | apply ck | apply cl | apply cx))
    refine ca [0, 1, 2, 3, 4, 5, 6, 7, 8] [8] ?_
    refine a_ (fun _ => p_mv) ?_
    refine a_ (fun _ => p_mv) ?_
    refine a_ (fun _ => p_mv) ?_
    refine a_ (fun _ => p_mv) ?_
    refine a_ (fun _ => p_ca (fN)) ?_
    refine a_ (fun _ => p_nc) ?_
    refine a_ (fun _ => p_fr) ?_
    refine a_ (fun _ => p_ar) ?_
    refine a_ss ?_ ?_
    · rw [fvC_len]; show _ + 22 ≤ 111; omega
    rw [fv_lay (by omega) (by omega), Int.toNat_natCast, newsF_succ]
    apply an
    (repeat (first | apply cn | apply cq | apply cb | apply ck | apply cl | apply cx))
    apply cr
    refine s_ p_mv ?_
    refine s_ p_ad ?_
    refine s_ p_as ?_
    (repeat (first | apply cn | apply cq | apply cb | apply ck | apply cl | apply cx))
    exact ⟨k + 1, by omega, by show 5 - (k + 1) < 5 - k; omega, ⟨le_get (by rfl) (Le.refl _), eL⟩, kR⟩
  · intro hlt
    have hk5 : k = 5 := by omega
    subst hk5
    (repeat (first | apply cn | apply cq | apply cb | apply ck | apply cl | apply cx))
    apply cr
    refine s_ p_mv ?_
    refine s_ p_as ?_
    (repeat (first | apply cn | apply cq | apply cb | apply ck | apply cl | apply cx))
    (apply sim_ret; (try simp only [blockΨ_ret, thenΨ_ret, loopL_ret, cutΨ_ret, cutE_ret]))
    exact rh kR ⟨b6, rfl, _, [], .inl ⟨rfl, ⟨none, rfl⟩, rfl⟩, rfl⟩ (Le.refl _)
theorem fv_lends {G : Heap} (N : Nat → Nd) {x y : T} (h : Lends G x y) : LendsL G (fvC N x) (fvC N y) := LendsL.append (LendsL.le (LeL.refl _)) (LendsL.cons h LendsL.nil)
theorem erase_eq {α : Type} (l : List α) {k : Nat} (h : k < l.length) : l.eraseIdx k = l.take k ++ l.drop (k + 1) := List.eraseIdx_eq_take_drop_succ l k
theorem oM_app {l m : List Ms} {v : Value} {H : Heap} (h : OSl tM 11 (l.map ms ++ m.map ms) v H) : OSl tM 11 ((l ++ m).map ms) v H := by rw [List.map_append]; exact h
theorem perm3 {α : Type} (l : List α) (a b c : α) : (l ++ [a, b, c]).Perm (c :: (l ++ [a, b])) := by
  have h : l ++ [a, b, c] = (l ++ [a, b]) ++ [c] := by simp
  rw [h]
  exact List.perm_append_comm
set_option maxHeartbeats 8000000 in
theorem out_fn {b : Nat} {N : Nat → Nd} {M : List Ms} {H : Heap} (k : Nat) (hk : k < M.length) (hl : M.length ≤ 100000) (hw : FvH b N M H) :
    FnH Try.prog 51 [pW b, ei k] H (fun r H' => r = ms (M.getD k default) ∧ FvH b N (M.eraseIdx k) H') := by
  obtain ⟨v, Hm, h1, rfl⟩ := hw
  refine fn_enter Try.func51 (by rfl) (by rfl) ?_
  intro S0 w0
  show Sim _ _ [(0, pW b), (1, ei (k : Nat))] _ _
  refine sim_lendC (cells' := fvC N (mss M)) (G := Hm) (H1 := []) (fv_lends N (h1.lend (fun _ h => h) (ms11 _) (ms_ok _))) rfl (.refl _) ?_
  have hix := hk
  have hg : M.getD k default = M[k] := by simp [hk]
  (repeat (first | apply cn | apply cq | apply cb | apply ck | apply cl | apply cx))
  apply cr
  refine e_al fun b4 _ => ?_
  (repeat (first | apply cn | apply cq | apply cb | apply ck | apply cl | apply cx))
  apply cr
  refine s_ p_mv ?_
  refine s_ p_nc ?_
  refine s_ p_fr ?_
  refine s_ p_lo ?_
  refine s_ p_mv ?_
  (first | refine s_ (p_ix hix) ?_ | refine s_ (p_ix hix2) ?_ | refine s_ p_ia ?_ | refine s_ p_ir ?_)
  (first | refine s_ p_la ?_ | refine s_ p_loa ?_)
  refine e_al fun b5 _ => ?_
  refine e_st ?_
  (repeat (first | apply cn | apply cq | apply cb | apply ck | apply cl | apply cx))
  refine sim_cutE (σ := Value × Heap) (ok := fun s => ∃ Hl, OSl tM 11 ((M.take k).map ms) s.1 Hl ∧ s.2 = Hl ++ [(b5, ⟨tM, msC M[k] (eens M[k].entries), 11⟩), (b4, ⟨tM, msC emptyM (.v (.slice none 0 0)), 11⟩), (b, ⟨tF, fvC N (mss M), 111⟩)])
    (env := fun s => [(6, .v s.1), (5, pN b5), (4, pN b4), (0, pW b), (1, ei (k : Nat))]) (heap := fun s => s.2) ?_ ?_
  · (repeat (first | apply cn | apply cq | apply cb | apply ck | apply cl | apply cx))
    apply cr
    refine s_ p_bs ?_
    refine s_ p_mv ?_
    refine s_ p_nc ?_
    refine s_ p_fr ?_
    refine s_ p_lo ?_
    refine s_ p_mv ?_
    refine s_ (p_slh (xs := M.map ms) (f := false)) ?_
    rw [Int.toNat_natCast, ← List.map_take, Bool.false_and]
    by_cases hz : k = 0
    · refine s_ (p_ap0 (hyl := Le.of_eq (by rw [hz]; rfl))) ?_
      refine from_name 21 fun q c' _ h2 => ?_
      have := h2 rfl
      subst this
      refine s_ p_as ?_
      (repeat (first | apply cn | apply cq | apply cb | apply ck | apply cl | apply cx))
      exact ⟨(.slice q 0 0, _), ⟨[], by
        have e : (M.take k).map ms = [] := by rw [hz]; rfl
        show OSl tM 11 ((M.take k).map ms) (.slice q 0 0) []
        rw [e]; exact osl_nil', rfl⟩, eL, kR⟩
    · have hlt : 0 < (M.take k).length := by rw [List.length_take]; omega
      refine e_on (e := tM) (k := 11) (fun v' Hl h1 => ?_)
      refine s_ p_as ?_
      (repeat (first | apply cn | apply cq | apply cb | apply ck | apply cl | apply cx))
      exact ⟨(_, _), ⟨Hl, by simpa using h1, rfl⟩, eL, kR⟩
  rintro ⟨v0, H0⟩ ⟨Hl, h2, hH0⟩
  simp only at h2 hH0
  subst hH0
  obtain ⟨p, c, rfl⟩ := OSl.len h2
  have hpc := OSl.cap h2
  have hlt : (M.take k).length = k := by rw [List.length_take]; omega
  by_cases hr : k + 1 = M.length
  · have hdr : M.drop (k + 1) = [] := List.drop_eq_nil_of_le (by omega)
    have her : M.eraseIdx k = M.take k := by rw [erase_eq M hk, hdr, List.append_nil]
    (repeat (first | apply cn | apply cq | apply cb | apply ck | apply cl | apply cx))
    apply cr
    refine s_ p_mv ?_
    refine s_ p_mv ?_
    refine s_ p_mv ?_
    refine s_ p_nc ?_
    refine s_ p_fr ?_
    refine s_ p_lo ?_
    refine s_ p_mv ?_
    refine s_ p_ad ?_
    refine s_ (p_sll (xs := M.map ms) (f := false)) ?_
    rw [show ((k : Int) + 1).toNat = k + 1 by omega, ← List.map_drop]
    refine s_ (p_apN hpc (hyl := Le.of_eq (by rw [hdr]; rfl))) ?_
    refine s_ p_nc ?_
    refine s_ p_fr ?_
    refine e_st ?_
    (repeat (first | apply cn | apply cq | apply cb | apply ck | apply cl | apply cx))
    apply cr
    refine s_ p_loa ?_
    refine e_st ?_
    (repeat (first | apply cn | apply cq | apply cb | apply ck | apply cl | apply cx))
    (apply sim_ret; (try simp only [blockΨ_ret, thenΨ_ret, loopL_ret, cutΨ_ret, cutE_ret]))
    exact rhp (d := ms M[k]) (perm3 Hl _ _ _) (.keep _ _ _ _ _ (BlkLe.refl _) (kH (r' := []) kN)) ⟨by rw [hg], _, Hl, by rw [her]; exact h2.o, rfl⟩ (Le.refl _)
  · have hdl : 0 < (M.drop (k + 1)).length := by rw [List.length_drop]; omega
    (repeat (first | apply cn | apply cq | apply cb | apply ck | apply cl | apply cx))
    apply cr
    refine s_ p_mv ?_
    refine s_ p_mv ?_
    refine s_ p_mv ?_
    refine s_ p_nc ?_
    refine s_ p_fr ?_
    refine s_ p_lo ?_
    refine s_ p_mv ?_
    refine s_ p_ad ?_
    refine s_ (p_sll (xs := M.map ms) (f := false)) ?_
    rw [show ((k : Int) + 1).toNat = k + 1 by omega, ← List.map_drop]
    refine e_os (ho := h2) (A := []) (B := [_, _, _]) (ms11 _) (fun v' Hl' h3 => ?_)
    have h3 := oM_app h3
    rw [← erase_eq M hk] at h3
    obtain ⟨p, c, rfl⟩ := OSl.len h3
    refine s_ p_nc ?_
    refine s_ p_fr ?_
    refine e_st ?_
    (repeat (first | apply cn | apply cq | apply cb | apply ck | apply cl | apply cx))
    apply cr
    refine s_ p_loa ?_
    refine e_st ?_
    (repeat (first | apply cn | apply cq | apply cb | apply ck | apply cl | apply cx))
    (apply sim_ret; (try simp only [blockΨ_ret, thenΨ_ret, loopL_ret, cutΨ_ret, cutE_ret]))
    exact rhp (d := ms M[k]) (perm3 Hl' _ _ _) (.keep _ _ _ _ _ (BlkLe.refl _) (kH (r' := []) kN)) ⟨by rw [hg], _, Hl', h3.o, rfl⟩ (Le.refl _)
end Go.Proofs.Ytppaabahbjgihaa
end
section
namespace Go.Proofs.Ytppaabahbjgihaa
open Raft Go.Cap
def trimM (M : List Ms) : List Ms := if 80 < M.length then M.drop (M.length - 80) else M
def kOf (a : Ac) (M : List Ms) : Nat := (a.n % max (M.length : Int) 1).toNat
def iOf (a : Ac) : Nat := (a.i % 5).toNat
def cfOf (n : Nd) (a : Ac) : Int := bXor .i64 (bXor .i64 (confF n).2 (bShl .i64 1 (IntKind.u64.wrap (a.n % 5)))) (Int.tdiv (a.n % 60) 59)
/-- An act, of five. -/
def doF (N : Nat → Nd) (M : List Ms) (a : Ac) : (Nat → Nd) × List Ms :=
  if a.kind % 18 = 0 ∨ a.kind % 18 = 1 ∨ a.kind % 18 = 2 then (updN N (iOf a) (tickF (N (iOf a))).1, trimM (M ++ (tickF (N (iOf a))).2))
  else if a.kind % 18 ≤ 9 then (if M = [] then (N, M) else
    (updN N (M.getD (kOf a M) default).to.toNat (takeF (N (M.getD (kOf a M) default).to.toNat) (M.getD (kOf a M) default)).1, trimM (M.eraseIdx (kOf a M) ++ (takeF (N (M.getD (kOf a M) default).to.toNat) (M.getD (kOf a M) default)).2)))
  else if a.kind % 18 = 10 then (N, if M = [] then M else M.eraseIdx (kOf a M))
  else if a.kind % 18 = 11 then (N, if 0 < M.length ∧ M.length < 80 then M ++ [M.getD (kOf a M) default] else M)
  else if a.kind % 18 = 12 ∨ a.kind % 18 = 13 then (updN N (iOf a) (propF (N (iOf a)) a.cmd).1, trimM (M ++ []))
  else if a.kind % 18 = 14 then (updN N (iOf a) (wakeF (N (iOf a))), trimM (M ++ []))
  else if a.kind % 18 = 15 then (updN N (iOf a) (compactF (N (iOf a)) ((N (iOf a)).commit - a.n % 3) a.cmd).1, trimM (M ++ []))
  else (updN N (iOf a) (changeF (N (iOf a)) (cfOf (N (iOf a)) a)).1, trimM (M ++ []))
/-- What is known of all five. -/
structure IvH (H : Hist) (L : Nat → List En) (s : Nat) (N : Nat → Nd) (M : List Ms) : Prop where
  F : Facts H
  nd : ∀ i, i < 5 → NI H i (N i) (L i)
  ms : ∀ m ∈ M, MI H m
  bd : H.bd ≤ s
  wait : ∀ i, i < 5 → 0 ≤ (N i).wait ∧ (N i).wait ≤ s
  len : M.length ≤ 80
theorem trim_len (M : List Ms) : (trimM M).length ≤ 80 := by
  unfold trimM
  split
  · rw [List.length_drop]; omega
  · omega
theorem trim_mem {M : List Ms} {m : Ms} (h : m ∈ trimM M) : m ∈ M := by
  unfold trimM at h
  split at h
  · exact List.mem_of_mem_drop h
  · exact h
theorem iOf_lt (a : Ac) : iOf a < 5 := by unfold iOf; omega
theorem kOf_lt (a : Ac) {M : List Ms} (h : M ≠ []) : kOf a M < M.length := by
  have := List.length_pos_iff.2 h
  unfold kOf
  have h1 : max (M.length : Int) 1 = M.length := by omega
  rw [h1]
  have h2 := Int.emod_nonneg a.n (show (M.length : Int) ≠ 0 by omega)
  have h3 := Int.emod_lt_of_pos a.n (show 0 < (M.length : Int) by omega)
  omega
theorem wait_commit (n : Nd) : (commitF n).wait = n.wait ∨ (commitF n).wait = 0 := by
  unfold commitF
  split
  · exact .inr rfl
  · exact .inl rfl
theorem wait_lead (n : Nd) : (leadF n).wait = n.wait ∨ (leadF n).wait = 0 := wait_commit _
theorem wait_up (n : Nd) (m : Ms) : (upN n m).wait = n.wait := by unfold upN; split <;> rfl
theorem wait_tick (n : Nd) : (tickF n).1.wait = n.wait ∨ (tickF n).1.wait = 0 ∨ (tickF n).1.wait = n.wait + 1 := by
  unfold tickF
  split
  · exact .inl rfl
  · split
    · exact .inl rfl
    · split
      · unfold standF
        split
        · rcases wait_lead (standN { n with wait := n.wait + 1 }) with h | h
          · exact .inr (.inl h)
          · exact .inr (.inl h)
        · exact .inr (.inl rfl)
      · exact .inr (.inr rfl)
theorem wait_take (n : Nd) (m : Ms) : (takeF n m).1.wait = n.wait ∨ (takeF n m).1.wait = 0 := by
  unfold takeF
  split
  · exact .inl rfl
  rw [← wait_up n m]
  generalize upN n m = n
  unfold actF
  split
  · unfold voteF; split
    · exact .inr rfl
    · exact .inl rfl
  split
  · unfold votedF
    split
    · exact .inl rfl
    · split
      · exact wait_lead (countN n m)
      · exact .inl rfl
  split
  · unfold addF
    split
    · exact .inl rfl
    · split
      · exact .inr rfl
      · split <;> exact .inr rfl
  split
  · unfold heardF
    split
    · exact .inl rfl
    · split
      · exact wait_commit (agreeN n m)
      · split <;> exact .inl rfl
  · unfold snapF
    split
    · exact .inl rfl
    · split <;> exact .inr rfl
theorem wait_prop (n : Nd) (c : List UInt8) : (propF n c).1.wait = n.wait ∨ (propF n c).1.wait = 0 := by
  unfold propF
  split
  · exact .inl rfl
  · split
    · exact .inl rfl
    · exact wait_commit (putN n _)
theorem wait_change (n : Nd) (c : Int) : (changeF n c).1.wait = n.wait ∨ (changeF n c).1.wait = 0 := by
  unfold changeF
  split
  · exact .inl rfl
  · split
    · exact .inl rfl
    · split
      · exact .inl rfl
      · exact wait_commit (putN n _)
theorem wait_compact (n : Nd) (i : Int) (c : List UInt8) : (compactF n i c).1.wait = n.wait := by
  unfold compactF
  split <;> rfl
/-- One node goes on. -/
theorem IvH.go {H : Hist} {L : Nat → List En} {s : Nat} {N : Nat → Nd} {M M' : List Ms} (I : IvH H L s N M) {i : Nat} {x : Nd} {out : List Ms} (hg : Goes 1 i H x out) (hw : x.wait = (N i).wait ∨ x.wait = 0 ∨ x.wait = (N i).wait + 1) (hi : i < 5) (hM : ∀ m ∈ M', m ∈ M ∨ m ∈ out) (hl : M'.length ≤ 80) :
    ∃ H' L', Ext H H' ∧ IvH H' L' (s + 1) (updN N i x) M' := by
  obtain ⟨H', l', D, F', hN, hO⟩ := hg
  refine ⟨H', fun j => if j = i then l' else L j, D.ext, F', ?_, ?_, ?_, ?_, hl⟩
  · intro j hj
    unfold updN
    by_cases h : j = i
    · subst h
      simp only [if_true]
      exact hN
    · simp only [if_neg h]
      exact D.oth j _ _ h (I.nd j hj)
  · intro m hm
    rcases hM m hm with h | h
    · exact (I.ms m h).ext I.F D.ext
    · exact hO m h
  · have := D.bd
    have := I.bd
    omega
  · intro j hj
    have h1 := I.wait j hj
    unfold updN
    by_cases h : j = i
    · subst h
      rw [if_pos rfl]
      omega
    · rw [if_neg h]; omega
theorem IvH.same {H : Hist} {L : Nat → List En} {s : Nat} {N : Nat → Nd} {M M' : List Ms} (I : IvH H L s N M) (hM : ∀ m ∈ M', m ∈ M) (hl : M'.length ≤ 80) : ∃ H' L', Ext H H' ∧ IvH H' L' (s + 1) N M' :=
  ⟨H, L, Ext.refl H, I.F, I.nd, fun m hm => I.ms m (hM m hm), by have := I.bd; omega, fun i hi => by have := I.wait i hi; omega, hl⟩
theorem getD_mem {M : List Ms} {k : Nat} (h : k < M.length) : M.getD k default ∈ M := by
  rw [List.getD_eq_getElem?_getD, List.getElem?_eq_getElem h]
  exact List.getElem_mem _
theorem do_step {H : Hist} {L : Nat → List En} {s : Nat} {N : Nat → Nd} {M : List Ms} (I : IvH H L s N M) (a : Ac) : ∃ H' L', Ext H H' ∧ IvH H' L' (s + 1) (doF N M a).1 (doF N M a).2 := by
  have hi := iOf_lt a
  have hN := I.nd _ hi
  have hnil : ∀ m ∈ trimM (M ++ []), m ∈ M ∨ m ∈ ([] : List Ms) := fun m hm => .inl (by simpa using trim_mem hm)
  unfold doF
  split
  · refine I.go (tick_all I.F hN hi) (wait_tick _) hi (fun m hm => ?_) (trim_len _)
    exact List.mem_append.1 (trim_mem hm)
  split
  · split
    · exact I.same (fun m hm => hm) I.len
    · rename_i hne
      have hk := kOf_lt a hne
      have hm := getD_mem hk
      obtain ⟨t, ht, hto⟩ := (I.ms _ hm).to
      have e : (M.getD (kOf a M) default).to.toNat = t := by rw [hto]; rfl
      rw [e]
      refine I.go (take_all I.F (I.nd t ht) ht (I.ms _ hm)) ((wait_take _ _).imp_right .inl) ht (fun m hm => ?_) (trim_len _)
      rcases List.mem_append.1 (trim_mem hm) with h | h
      · exact .inl (List.mem_of_mem_eraseIdx h)
      · exact .inr h
  split
  · split
    · exact I.same (fun m hm => hm) I.len
    · refine I.same (fun m hm => List.mem_of_mem_eraseIdx hm) ?_
      have := List.length_eraseIdx_le M (kOf a M)
      have := I.len
      show (M.eraseIdx (kOf a M)).length ≤ 80
      omega
  split
  · split
    · rename_i hc
      refine I.same (fun m hm => ?_) (by rw [List.length_append]; simp; omega)
      rcases List.mem_append.1 hm with h | h
      · exact h
      · rw [List.mem_singleton.1 h]
        exact getD_mem (kOf_lt a (List.length_pos_iff.1 hc.1))
    · exact I.same (fun m hm => hm) I.len
  split
  · exact I.go (prop_all I.F hN hi a.cmd) ((wait_prop _ _).imp_right .inl) hi hnil (trim_len _)
  split
  · exact I.go (wake_all I.F hN) (.inr (.inl rfl)) hi hnil (trim_len _)
  split
  · exact I.go (compact_all I.F hN _ _) (.inl (wait_compact _ _ _)) hi hnil (trim_len _)
  · exact I.go (change_all I.F hN hi _) ((wait_change _ _).imp_right .inl) hi hnil (trim_len _)
/-- Nothing has happened. -/
def hist0 (c0 : Int) : Hist := ⟨c0, 0, fun _ => [], fun _ => 0, fun _ => False, fun _ => 0, fun _ _ => [], fun _ _ _ => False, fun _ _ _ => False, fun _ _ _ => False, fun _ _ _ => False⟩
theorem iv_begin {c0 : Int} (h0 : 0 ≤ c0) (h1 : c0 ≤ 31) : IvH (hist0 c0) (fun _ => []) 0 (newsF c0 5) [] where
  F := { c00 := h0, c01 := h1, cr := fun _ _ h => h.elim, ld5 := fun _ h => h.elim, lled := fun _ _ _ h => h.elim, vpos := fun _ _ _ h => h.elim, lbd := fun _ h => h.elim, ackl := fun _ _ _ h => h.elim, pos := fun _ h => h.elim, cons := fun _ h => h.elim, len := fun _ h => h.elim,
         old := fun _ _ _ h => h.elim, own := fun _ _ _ h => h.elim, cl := fun _ h => h.elim, win := fun _ h => h.elim, once := fun _ _ _ _ h => h.elim, voted := fun _ _ _ h => h.elim, com := fun _ _ _ h => h.elim, chg := fun _ _ _ h => h.elim }
  nd := fun i hi => by
    have e : newsF c0 5 i = newF (i : Nat) c0 := if_pos hi
    rw [e]
    refine { id := rfl, t0 := Int.le_refl _, t1 := by simp [newF], base := ⟨0, rfl, Nat.le_refl _, rfl, rfl, rfl⟩, com := ⟨0, rfl, Int.le_refl _, Nat.le_refl _, .inl rfl⟩, cons := fun j e h => by simp at h, terms := fun j e h => by simp at h, votel := fun _ _ h => h.elim, vote := fun c => ⟨fun h => h.elim, fun h => ?_⟩, stood := fun _ _ h => h.elim, votes0 := Int.le_refl _, votes1 := by simp [newF], sz := fun j _ => ?_, cand := fun h => by simp [newF] at h, lead := fun h => by simp [newF] at h, acks := fun _ _ h => h.elim }
    · have h' : (-1 : Int) = (c : Nat) := h
      omega
    · have : (F5.all 0).get j = 0 := F5.get_all 0 j
      simp only [newF, this, hist0]; omega
  ms := by simp
  bd := Nat.le_refl _
  wait := fun i hi => by
    have e : newsF c0 5 i = newF (i : Nat) c0 := if_pos hi
    rw [e]; simp [newF]
  len := by simp
/-! What the program and the document need. -/
theorem IvH.rd {H : Hist} {L : Nat → List En} {s : Nat} {N : Nat → Nd} {M : List Ms} (I : IvH H L s N M) (hs : s ≤ 1000000) {i : Nat} (hi : i < 5) : Rd (N i) ∧ NBd (N i) ∧ (N i).log.length ≤ s ∧ (N i).term ≤ 1073741824 ∧ 0 ≤ (N i).term ∧ lastF (N i) ≤ s ∧ ((N i).role = 2 → ∀ to, to < 5 → (N i).next.get to ≤ lastF (N i) + 1) := by
  have h := I.nd i hi
  obtain ⟨b, hb, hbl, hlog, hlen⟩ := h.bnat
  obtain ⟨c, hc, hbc, hcl, _⟩ := h.com
  have hll := Cons.len I.F h.cons
  have hbd := I.bd
  have hcf := I.F.conf _ h.cons
  rw [← h.conf] at hcf
  have hla := h.last
  refine ⟨⟨⟨by rw [h.id]; omega, by rw [h.id]; omega, by omega, by omega, by omega, hcf.1, hcf.2⟩, by omega, by omega, by omega⟩, ⟨by omega, h.votes0, h.votes1, fun j => get_any (p := fun x => -100000000000 ≤ x) (fun j hj => by have := h.sz j hj; omega) j, fun j => get_any (p := fun x => x ≤ 50000000000) (fun j hj => by have := h.sz j hj; omega) j, fun j => get_any (p := fun x => -100000000000 ≤ x) (fun j hj => by have := h.sz j hj; omega) j, fun j => get_any (p := fun x => x ≤ 50000000000) (fun j hj => by have := h.sz j hj; omega) j⟩, by omega, h.t1, h.t0, by omega, fun hr to hto => ?_⟩
  have := (h.lead hr).nx to hto
  rw [h.last]; omega
theorem IvH.mbd {H : Hist} {L : Nat → List En} {s : Nat} {N : Nat → Nd} {M : List Ms} (I : IvH H L s N M) (hs : s ≤ 1000000) {i : Nat} (hi : i < 5) {m : Ms} (hm : m ∈ M) : MBd (N i) m ∧ m.entries.length ≤ 8 := by
  have h := I.ms m hm
  have h1 := (I.rd hs hi).2.2.1
  have := h.i0
  have := h.i1
  have := h.es
  have := I.bd
  exact ⟨⟨by omega, by omega, by omega⟩, h.es⟩
theorem IvH.lt {H : Hist} {L : Nat → List En} {s : Nat} {N : Nat → Nd} {M : List Ms} (I : IvH H L s N M) {m : Ms} (hm : m ∈ M) (hk : m.kind = 5) : 0 ≤ m.logTerm := by
  obtain ⟨h1, _, i, _, h3, h4, _⟩ := (I.ms m hm).k5 hk
  rw [h4]
  exact tAt_nonneg I.F (I.F.cons _ h1) h3
end Go.Proofs.Ytppaabahbjgihaa
end
