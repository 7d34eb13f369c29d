/-
  More rules: slices cut, copied, appended to; text and bytes.
-/
import Derived.Test.YtbdpfclnomiicaaGreatMore
namespace Go.Cap
section
variable {K : Ctx} {P : Program} {t : Env} {H : Heap} {dst : Option Tmp} {tp : TypeId} {pos : String} {aft : Array Edge} {g : Option (Nat × Bool)} {N : Env → Heap → Prop}
variable {S : Nat → Prop} {w : World} {ty ty' : TypeId}
theorem flat_len {k : Nat} : ∀ (l : List Value), (∀ v ∈ l, v.cells.size = k) → (l.flatMap fun v => v.cells.toList).length = l.length * k
  | [], _ => by simp
  | x :: l, h => by
    rw [List.flatMap_cons, List.length_append, flat_len l (fun y hy => h y (List.mem_cons_of_mem _ hy)), Array.length_toList, h x List.mem_cons_self, List.length_cons, Nat.succ_mul]; omega
theorem flat_lenT {k : Nat} : ∀ (l : List T), (∀ v ∈ l, v.cells.length = k) → (l.flatMap T.cells).length = l.length * k
  | [], _ => by simp
  | x :: l, h => by
    rw [List.flatMap_cons, List.length_append, flat_lenT l (fun y hy => h y (List.mem_cons_of_mem _ hy)), h x List.mem_cons_self, List.length_cons, Nat.succ_mul]; omega
theorem relL_cells {k : Nat} (h0 : 0 < k) : ∀ {xs : List T} {vs : List Value}, RelL S w xs vs → (∀ x ∈ xs, x.cells.length = k) →
    RelL S w (xs.flatMap T.cells) (vs.flatMap fun v => v.cells.toList) ∧ ∀ v ∈ vs, v.cells.size = k
  | [], _, .nil, _ => ⟨.nil, by simp⟩
  | _ :: _, _, .cons x y xs ys h hs, hk => by
    have hx := hk x List.mem_cons_self
    obtain ⟨h1, h2⟩ := relL_cells h0 hs (fun z hz => hk z (List.mem_cons_of_mem _ hz))
    have hsz := h.size (by omega)
    refine ⟨by rw [List.flatMap_cons, List.flatMap_cons]; exact (h.cells (by omega)).append h1, fun v hv => ?_⟩
    rcases List.mem_cons.1 hv with rfl | hv
    · omega
    · exact h2 v hv
theorem flat_takeV {k : Nat} : ∀ (l : List Value) (m : Nat), (∀ v ∈ l, v.cells.size = k) → (l.flatMap fun v => v.cells.toList).take (m * k) = (l.take m).flatMap fun v => v.cells.toList
  | [], m, _ => by simp
  | x :: l, 0, _ => by simp
  | x :: l, m + 1, h => by
    have hx := h x List.mem_cons_self
    have : x.cells.toList.length = k := by rw [Array.length_toList, hx]
    rw [List.flatMap_cons, List.take_succ_cons, List.flatMap_cons, Nat.succ_mul, List.take_append, this]
    rw [List.take_of_length_le (by omega), show m * k + k - k = m * k by omega, flat_takeV l m (fun y hy => h y (List.mem_cons_of_mem _ hy))]
theorem run_firstV {f : Bool} {xs : List T} {u : Value} {k : Nat} (h : Rel S w (.sl f xs) u) (hk : ∀ x ∈ xs, x.cells.length = k) (h0 : 0 < k) (m : Nat) (hm : m ≤ xs.length) :
    ∃ vs : List Value, (Builtin.firstCells k m u).run P w = .ok (vs.flatMap fun v => v.cells.toList).toArray w ∧ RelL S w (xs.take m) vs ∧ (∀ v ∈ vs, v.cells.size = k) ∧ vs.length = m := by
  cases h with
  | nil _ p c _ =>
    have hm0 : m = 0 := by simpa using hm
    subst hm0
    refine ⟨[], ?_, by simp; exact .nil, by simp, by simp⟩
    cases p with
    | none => simp [Builtin.firstCells]
    | some a =>
      have := run_loadCells_list (P := P) (w := w) a [] (fun j v hj => by simp at hj)
      simpa [Builtin.firstCells] using this
  | sl _ _ b o cap vs k' cs ty fz hS hb hr hg hf hc =>
    obtain ⟨h1, h2⟩ := relL_cells h0 hr hk
    have hvl := hr.length
    have hmv : ∀ v ∈ vs.take m, v.cells.size = k := fun v hv => h2 v (List.mem_of_mem_take hv)
    refine ⟨vs.take m, ?_, hr.take m, hmv, by rw [List.length_take]; omega⟩
    simp only [Builtin.firstCells]
    have hl := flat_len _ hmv
    rw [List.length_take, Nat.min_eq_left (by omega)] at hl
    refine run_cells hb _ hl ?_
    rw [← flat_takeV vs m h2]
    rcases Nat.eq_zero_or_pos vs.length with hz | hz
    · have : m = 0 := by omega
      subst this; simp
    · have hk' : k' = k := by
        cases vs with
        | nil => simp at hz
        | cons v vs => rw [← hg.1 v List.mem_cons_self, h2 v List.mem_cons_self]
      subst hk'
      rw [← hg.2, List.take_take]
      congr 1
      have : m * k' ≤ vs.length * k' := Nat.mul_le_mul_right _ (by omega)
      omega
theorem run_first {f : Bool} {xs : List T} {u : Value} {k : Nat} (h : Rel S w (.sl f xs) u) (hk : ∀ x ∈ xs, x.cells.length = k) (h0 : 0 < k) (m : Nat) (hm : m ≤ xs.length) :
    ∃ us : List Value, (Builtin.firstCells k m u).run P w = .ok us.toArray w ∧ RelL S w ((xs.take m).flatMap T.cells) us ∧ us.length = m * k := by
  obtain ⟨vs, h1, h2, h3, h4⟩ := run_firstV (P := P) h hk h0 m hm
  exact ⟨_, h1, (relL_cells h0 h2 fun x hx => hk x (List.mem_of_mem_take hx)).1, by rw [flat_len vs h3, h4]⟩
theorem run_lenOf {f : Bool} {xs : List T} {u : Value} (h : Rel S w (.sl f xs) u) : (Builtin.lenOf u).run P w = .ok xs.length w := by
  cases h with
  | nil => rfl
  | sl _ _ b o cap vs k' cs ty fz hS hb hr hg hf hc => rw [← hr.length]; rfl
theorem eop_copy {x y : Operand} {b o n c : Nat} {k : Blk} {f : Bool} {xs : List T} {kk : Nat} (i : Nat) (hx : t.ev x = .v (.slice (some ⟨b, o, none⟩) n c)) (hy : t.ev y = .sl f xs) (hi : H[i]? = some (b, k))
    [hs : ElemSzC K.P ty kk] (hp : Nat.blt 0 kk = true) (hk : ∀ x ∈ xs, x.cells.length = kk) (hl : ∀ x ∈ xs, allLeaf x.cells = true) (ho : o + min xs.length n * kk ≤ k.cells.length) {kd : Tmp} (hd : Nat.blt kd K.n = true)
    (h : N ((kd, .v (.int .i64 (min xs.length n : Nat))) :: t) (H.set i (b, ⟨k.ty, lay k.cells o ((xs.take (min xs.length n)).flatMap T.cells), k.size⟩))) :
    EOp K t H ⟨some kd, .call ⟨.builtin .copy, #[x, y], #[ty, ty']⟩, tp, pos, aft, g⟩ N := by
  refine EOp.of_w (fun c e => by cases e) ?_
  intro a w ⟨S, hr⟩ Kc Q hkc
  have h1 := hr.env.ev x; rw [hx] at h1
  have h2 := hr.env.ev y; rw [hy] at h2
  have hp' : 0 < kk := by simpa using hp
  obtain ⟨cs, hb, hsz, hle, hrl⟩ := hr.own.at hi
  obtain ⟨e, inf, hu, hinf, his⟩ := elem_of hs.h
  obtain ⟨us, hus, hrel, hul⟩ := run_first (P := K.P) h2 hk hp' (min xs.length n) (Nat.min_le_left _ _)
  have hleaf : allLeaf ((xs.take (min xs.length n)).flatMap T.cells) = true := by
    unfold allLeaf
    rw [List.all_eq_true]
    intro z hz
    obtain ⟨x', hx', hz⟩ := List.mem_flatMap.1 hz
    exact List.all_eq_true.1 (hl x' (List.mem_of_mem_take hx')) z hz
  have hst := run_storeCells (P := K.P) (o := o) hb us (by omega) (relL_leaf hrel hleaf)
  obtain ⟨s1, s2, s3, s4, s5, s6⟩ := setRow_spec (cs' := (lay cs.toList o us).toArray) hb
  have hlay : ((xs.take (min xs.length n)).flatMap T.cells).length = us.length := hrel.length.symm
  have hrun : (execOp a.eval ⟨some kd, .call ⟨.builtin .copy, #[x, y], #[ty, ty']⟩, tp, pos, aft, g⟩).run K.P w = .ok (.value (.int .i64 (min xs.length n : Nat))) (w.setRow b (lay cs.toList o us).toArray) := by
    have e1 : (execOp a.eval ⟨some kd, .call ⟨.builtin .copy, #[x, y], #[ty, ty']⟩, tp, pos, aft, g⟩).run K.P w = ((Builtin.copy_ #[ty, ty'] tp #[a.eval x, a.eval y]).run K.P w).andThen fun v w' => .ok (.value v) w' := by
      simp [execOp, resolve, invoke, builtin]
    rw [e1, h1.v_eq]
    have e2 : (Builtin.copy_ #[ty, ty'] tp #[.slice (some ⟨b, o, none⟩) n c, a.eval y]).run K.P w = .ok (.int .i64 (min xs.length n : Nat)) (w.setRow b (lay cs.toList o us).toArray) := by
      simp only [Builtin.copy_]
      simp [run_underlying hu, run_lenOf h2, run_sizeOf hinf, his]
      have : Nat.min xs.length n = min xs.length n := rfl
      rw [this, hus]
      simp [hst, goInt]
    rw [e2]; rfl
  unfold Oper.wp
  rw [hrun]
  refine hkc _ _ _ _ h ⟨S, ?_⟩
  have := hr.write (xs := (xs.take (min xs.length n)).flatMap T.cells) (us := us) (o := o) hi (by omega) (by rw [hlay, hul]; omega) s4 s5 s6 s3 s2 s1 (fun cs2 h2 => by rw [hb] at h2; cases h2; rfl) hrel
  exact ⟨by simp [this.size], this.defers.put (dst := some kd) hd, this.step, this.own, this.mine, this.env.put (dst := some kd) (by rw [this.size]; exact hd) (.v _)⟩
end
end Go.Cap
