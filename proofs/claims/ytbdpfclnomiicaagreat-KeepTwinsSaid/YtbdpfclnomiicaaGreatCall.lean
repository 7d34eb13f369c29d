/-
  Calls: a function by what it does; a function entered, and left.
-/
import Derived.Test.YtbdpfclnomiicaaGreatAlloc
namespace Go.Cap
def Res1 (P : Program) (t : Env) (H : Heap) : ResultVar → T → Prop
  | .tmp k, d => t.get k = d
  | .cell k ty, d => ∃ (i b : Nat) (blk : Blk), t.get k = .v (.pointer (some ⟨b, 0, none⟩)) ∧ H[i]? = some (b, blk) ∧
      ((∃ n, aggSz P ty = some n ∧ n ≤ blk.cells.length ∧ d = .agg (blk.cells.take n)) ∨ (leafTy P ty = true ∧ blk.cells[0]? = some d))
def ResL (P : Program) (t : Env) (H : Heap) : List ResultVar → List T → Prop
  | [], [] => True
  | r :: rs, d :: ds => Res1 P t H r d ∧ ResL P t H rs ds
  | _, _ => False
def packT : List T → T
  | [d] => d
  | ds => .tup ds
section
variable {P : Program} {S : Nat → Prop} {w : World}
theorem env_args {args : List T} {vs : List Value} (h : RelL S w args vs) (n : Nat) : InEnv S w ((List.range args.length).zip args) { tmps := vs.toArray ++ Array.replicate (n - vs.toArray.size) undef, defers := [] } := by
  intro k
  have hl := h.length
  by_cases hk : k < args.length
  · have e : Env.get ((List.range args.length).zip args) k = args[k] := by
      have key : ∀ (xs : List T) (i : Nat) (j : Nat) (hj : j < xs.length), Env.get ((List.range' i xs.length).zip xs) (i + j) = xs[j] := by
        intro xs
        induction xs with
        | nil => intro i j hj; simp at hj
        | cons x xs ih =>
          intro i j hj
          rw [List.length_cons, List.range'_succ, List.zip_cons_cons]
          cases j with
          | zero => simp [Env.get]
          | succ j =>
            have := ih (i + 1) j (by simpa using hj)
            simp only [Env.get, nbeq (show ¬ i = i + (j + 1) by omega), cond_false]
            rw [show i + (j + 1) = i + 1 + j by omega, this]; simp
      have := key args 0 k hk
      rw [List.range_eq_range']; simpa using this
    rw [e]
    obtain ⟨y, hy, hr⟩ := h.get (i := k) (x := args[k]) (by simp [hk])
    have hk' : k < vs.length := by omega
    have : (vs.toArray ++ Array.replicate (n - vs.toArray.size) undef).getD k undef = y := by
      rw [Array.getD_eq_getD_getElem?, Array.getElem?_append_left (by simpa using hk')]
      simp [hy]
    simp only [this]; exact hr
  · have e : Env.get ((List.range args.length).zip args) k = .any := by
      have key : ∀ (xs : List T) (i k : Nat), i + xs.length ≤ k → Env.get ((List.range' i xs.length).zip xs) k = .any := by
        intro xs
        induction xs with
        | nil => intro i k _; rfl
        | cons x xs ih =>
          intro i k hk
          rw [List.length_cons, List.range'_succ, List.zip_cons_cons]
          simp only [List.length_cons] at hk
          simp only [Env.get, nbeq (show ¬ i = k by omega), cond_false]
          exact ih (i + 1) k (by omega)
      rw [List.range_eq_range']; exact key args 0 k (by omega)
    rw [e]; exact .any _
theorem Sem.mapM_run {α β : Type} (f : α → Sem β) (g : α → β) (P : Program) (w : World) : ∀ (l : List α), (∀ x ∈ l, (f x).run P w = .ok (g x) w) → (l.mapM f).run P w = .ok (l.map g) w := by
  have key : ∀ (l : List α) (acc : List β), (∀ x ∈ l, (f x).run P w = .ok (g x) w) → (List.mapM.loop f l acc).run P w = .ok (acc.reverse ++ l.map g) w := by
    intro l
    induction l with
    | nil => intro acc _; simp [List.mapM.loop]
    | cons x l ih =>
      intro acc h
      simp only [List.mapM.loop, Sem.run_bind, h x List.mem_cons_self, Result.andThen_ok]
      rw [ih (g x :: acc) (fun y hy => h y (List.mem_cons_of_mem _ hy))]
      simp
  intro l h
  simpa [List.mapM] using key l [] h
theorem Sem.mapM_array_run {α β : Type} (f : α → Sem β) (g : α → β) (P : Program) (w : World) (l : Array α) (h : ∀ x ∈ l, (f x).run P w = .ok (g x) w) : (l.mapM f).run P w = .ok (l.map g) w := by
  rw [Array.mapM_eq_mapM_toList, Sem.run_map, Sem.mapM_run f g P w l.toList (fun x hx => h x (by simpa using hx))]
  simp only [Result.andThen_ok]
  congr 1
  apply Array.ext'; simp
theorem res1_run {t : Env} {H : Heap} {a : Act} (hr : ∀ k, Rel S w (t.get k) (a.tmps.getD k undef)) (ho : Own S w H) {rv : ResultVar} {d : T} (h : Res1 P t H rv d) :
    ∃ u, (match rv with
      | ResultVar.tmp t => (pure (a.tmps.getD t undef) : Sem Value)
      | ResultVar.cell b t => do loadVar t (← asAddr (a.tmps.getD b undef))).run P w = .ok u w ∧ Rel S w d u := by
  cases rv with
  | tmp k => exact ⟨_, rfl, by have := hr k; rw [show t.get k = d from h] at this; exact this⟩
  | cell k ty =>
    obtain ⟨i, b, blk, h1, h2, h3⟩ := h
    have hk := hr k
    rw [h1] at hk
    obtain ⟨cs, hb, hsz, hl, hrl⟩ := ho.has (b, blk) (List.mem_of_getElem? h2)
    rcases h3 with ⟨n, h4, h5, rfl⟩ | ⟨h4, h5⟩
    · obtain ⟨hag, inf, hinf, hs⟩ := agg_of h4
      have hrel := hrl.take n
      rw [List.take_take, Nat.min_eq_left h5] at hrel
      have hcl : cs.toList.length = cs.size := Array.length_toList
      have := run_cells (P := P) (w := w) (o := 0) (n := n) hb (cs.toList.take n) (by rw [List.length_take]; simp only at hl hsz; omega) (by simp)
      refine ⟨.agg (cs.toList.take n).toArray, ?_, .agg _ _ hrel⟩
      simp only [hk.v_eq, asAddr, Sem.run_bind, Sem.run_pure, Result.andThen_ok, loadVar, hag w, if_true, run_sizeOf hinf, hs, this]
    · obtain ⟨y, hy, hr'⟩ := hrl.get h5
      rw [List.getElem?_take] at hy
      split at hy
      · have hcell' : w.cell? ⟨b, 0, none⟩ = some y := by rw [cell_block hb]; simpa using hy
        refine ⟨y, ?_, hr'⟩
        simp [hk.v_eq, asAddr, loadVar, leaf_of h4 w, run_load, hcell']
      · cases hy
theorem results_run {fn : Func} {t : Env} {H : Heap} {a : Act} (hr : ∀ k, Rel S w (t.get k) (a.tmps.getD k undef)) (ho : Own S w H) {ds : List T} (h : ResL P t H fn.results.toList ds) :
    ∃ u, (results fn a.tmps).run P w = .ok u w ∧ Rel S w (packT ds) u := by
  have key : ∀ (rs : List ResultVar) (ds : List T), ResL P t H rs ds →
      ∃ us, (rs.mapM (fun r => match r with
        | ResultVar.tmp t => (pure (a.tmps.getD t undef) : Sem Value)
        | ResultVar.cell b t => do loadVar t (← asAddr (a.tmps.getD b undef)))).run P w = .ok us w ∧ RelL S w ds us := by
    intro rs
    induction rs with
    | nil => intro ds hd; cases ds with
      | nil => exact ⟨[], rfl, .nil⟩
      | cons d ds => exact hd.elim
    | cons x rs ih =>
      intro ds hd
      cases ds with
      | nil => exact hd.elim
      | cons d ds =>
        obtain ⟨u, hu, hru⟩ := res1_run hr ho hd.1
        obtain ⟨us, hus, hrel⟩ := ih ds hd.2
        refine ⟨u :: us, ?_, .cons _ _ _ _ hru hrel⟩
        rw [List.mapM_cons, Sem.run_bind]
        have hu' := hu
        rw [hu', Result.andThen_ok, Sem.run_bind, hus]; rfl
  obtain ⟨us, hu, hrel⟩ := key _ _ h
  have e : (results fn a.tmps).run P w = (((fn.results.toList.mapM (fun r => match r with
      | ResultVar.tmp t => (pure (a.tmps.getD t undef) : Sem Value)
      | ResultVar.cell b t => do loadVar t (← asAddr (a.tmps.getD b undef)))).run P w).andThen fun b w' => Result.ok b.toArray w').andThen fun b w' =>
        Sem.run P (pure (if h : b.size = 1 then b[0] else Value.tuple b)) w' := by
    unfold results
    rw [Sem.run_bind, Array.mapM_eq_mapM_toList, Sem.run_map]
    rfl
  rw [e, hu]
  cases hrel with
  | nil => exact ⟨.tuple #[], rfl, .tup _ _ .nil⟩
  | cons x y xs ys h1 h2 =>
    cases h2 with
    | nil => exact ⟨y, rfl, h1⟩
    | cons x2 y2 xs2 ys2 h3 h4 => exact ⟨.tuple (y :: y2 :: ys2).toArray, by simp, .tup _ _ (.cons _ _ _ _ h1 (.cons _ _ _ _ h3 h4))⟩
def endΨ (P : Program) (fn : Func) (Φ : T → Heap → Prop) (e : Exit) (t : Env) (H : Heap) : Prop :=
  match e with
  | .normal | .ret => ∃ ds r H', ResL P t H fn.results.toList ds ∧ Le (packT ds) r ∧ Φ r H' ∧ ((keys H).Nodup → HeapLe H H')
  | _ => False
mutual
theorem Rel.shrink {B : Nat → Prop} (hB : ∀ b, B b → ∀ cs ty fz, w.heap[b]? ≠ some (.cells cs ty fz)) : ∀ {x : T} {y : Value}, Rel S w x y → Rel (fun b => S b ∧ ¬ B b) w x y
  | _, _, .v x => .v x
  | _, _, .nil f p c hf => .nil f p c hf
  | _, _, .sl f xs b o cap vs k cs ty fz hs hb hr hg hf hc => .sl f xs b o cap vs k cs ty fz ⟨hs, fun h => hB b h _ _ _ hb⟩ hb (RelL.shrink hB hr) hg hf hc
  | _, _, .adr x b o y cs ty fz hs hb hr hg => .adr x b o y cs ty fz ⟨hs, fun h => hB b h _ _ _ hb⟩ hb (Rel.shrink hB hr) hg
  | _, _, .agg xs vs h => .agg xs vs (RelL.shrink hB h)
  | _, _, .tup xs vs h => .tup xs vs (RelL.shrink hB h)
  | _, _, .clo f fs cs us vs h h' => .clo f fs cs us vs (RelL.shrink hB h) (RelL.shrink hB h')
  | _, _, .any x => .any x
theorem RelL.shrink {B : Nat → Prop} (hB : ∀ b, B b → ∀ cs ty fz, w.heap[b]? ≠ some (.cells cs ty fz)) : ∀ {xs : List T} {ys : List Value}, RelL S w xs ys → RelL (fun b => S b ∧ ¬ B b) w xs ys
  | _, _, .nil => .nil
  | _, _, .cons x y xs ys h hs => .cons x y xs ys (Rel.shrink hB h) (RelL.shrink hB hs)
end
theorem leaves_marks {fn : Func} {tmps : Array Value} {Q : Ending → World → Prop} (n0 : Nat) : ∀ (ds : List Deferred) (w : World), ds.Nodup → (∀ d ∈ ds, ∃ D, d = ⟨.collected D, #[]⟩ ∧ n0 ≤ D ∧ w.heap[D]? = some (.deferred (some []))) →
    (∀ w', w'.os = w.os → w'.tape = w.tape → w'.output = w.output → w'.heap.size = w.heap.size → (∀ b, (⟨.collected b, #[]⟩ : Deferred) ∉ ds → w'.heap[b]? = w.heap[b]?) → ∃ v, (results fn tmps).run P w' = .ok v w' ∧ Q (.returned v) w') →
    LeavesInM Fence.wide 0 P fn tmps Q ds .returning w
  | [], w, _, _, h => h w rfl rfl rfl rfl fun _ _ => rfl
  | d :: ds, w, hn, hm, h => by
    obtain ⟨D, rfl, hD, hk⟩ := hm d List.mem_cons_self
    have hn' := List.nodup_cons.1 hn
    have hlt := (Array.getElem?_eq_some_iff.1 hk).1
    refine ⟨by simp, .inl ⟨D, w.putObj D (.deferred none), rfl, run_takeDeferred hk, ?_⟩⟩
    refine leaves_marks n0 ds _ hn'.2 (fun e he => ?_) fun w' h1 h2 h3 h4 h5 => ?_
    · obtain ⟨E, rfl, hE, hke⟩ := hm e (List.mem_cons_of_mem _ he)
      refine ⟨E, rfl, hE, ?_⟩
      rw [World.putObj_heap_other (fun e => hn'.1 (by rw [← e]; exact he))]; exact hke
    · refine h w' (h1.trans rfl) (h2.trans rfl) (h3.trans rfl) (by rw [h4]; simp) fun b hb => ?_
      rw [h5 b (fun hm => hb (List.mem_cons_of_mem _ hm)), World.putObj_heap_other (fun e => hb (by rw [e]; exact List.mem_cons_self))]
theorem fn_enter {f : FuncId} {fn : Func} {c : Code} {args : List T} {H : Heap} {Φ : T → Heap → Prop} (hf : P.funcs[f]? = some fn) (hb : fn.body = some c)
    (hn : Nat.ble args.length fn.ntmps = true)
    (h : ∀ (S0 : Nat → Prop) (w0 : World), Sim ⟨P, fn.ntmps, S0, w0, keys H, none, Flags.none, w0.heap.size, []⟩ c ((List.range args.length).zip args) H (endΨ P fn Φ)) : FnH P f args H Φ := by
  intro S w vs hw ho hr
  have hl := hr.length
  have hn' : args.length ≤ fn.ntmps := Nat.le_of_ble_eq_true hn
  refine (callsIn_wide (n := 0)).1 (callsIn_of_wp_marks hf hb trivial ?_)
  refine wpIn_mono (h S w { tmps := vs.toArray ++ Array.replicate (fn.ntmps - vs.toArray.size) undef, defers := [] } w
    ⟨S, by simp; omega, ⟨Nat.le_refl _, Mks.zero, fun _ _ => trivial⟩, Step.refl _ hw, ho, fun b hb => .inl hb, env_args hr fn.ntmps⟩) ?_
  rintro e a' w' ⟨t', H', hp, S', hr'⟩
  have fin : ∀ ds r H'', ResL P t' H' fn.results.toList ds → Le (packT ds) r → Φ r H'' → ((keys H').Nodup → HeapLe H' H'') → LeavesInM Fence.wide 0 P fn a'.tmps
      (fun e w' => ∃ u S' r H', e = .returned u ∧ Φ r H' ∧ Rel S' w' r u ∧ Own S' w' H' ∧ Step (keys H) S w S' w' ∧ ∀ b ∈ keys H', b ∈ keys H ∨ w.heap.size ≤ b) a'.defers .returning w' := by
    intro ds r H'' h1 h1' h2 h3
    have hle := h3 hr'.own.nodup
    obtain ⟨hnd, hmk⟩ := hr'.defers.marks.nil
    refine leaves_marks w.heap.size _ w' hnd hmk fun w2 e1 e2 e3 e4 e5 => ?_
    -- the blocks of the marks: nobody tells of them
    let B : Nat → Prop := fun b => (⟨.collected b, #[]⟩ : Deferred) ∈ a'.defers
    have hB : ∀ b, B b → w.heap.size ≤ b ∧ ∀ cs ty fz, w'.heap[b]? ≠ some (.cells cs ty fz) := fun b hbm => by
      obtain ⟨D, hD, h0, h1⟩ := hmk _ hbm
      cases hD
      exact ⟨h0, fun cs ty fz => by rw [h1]; simp⟩
    have hm : ∀ b, (S' b ∧ ¬ B b) → (S' b ∧ ¬ B b) ∧ w2.heap[b]? = w'.heap[b]? := fun b hb => ⟨hb, e5 b hb.2⟩
    have henv : ∀ k, Rel (fun b => S' b ∧ ¬ B b) w2 (t'.get k) (a'.tmps.getD k undef) := fun k => (Rel.shrink (fun b hb => (hB b hb).2) (hr'.env k)).mono hm
    have hown : Own (fun b => S' b ∧ ¬ B b) w2 H' := ⟨hr'.own.nodup, fun b hb hS => hr'.own.apart b hb hS.1, fun p hp => by
      obtain ⟨cs, h1, h2, h3, h4⟩ := hr'.own.has p hp
      have hnb : ¬ B p.1 := fun hb => (hB _ hb).2 _ _ _ h1
      exact ⟨cs, (e5 p.1 hnb).trans h1, h2, h3, (RelL.shrink (fun b hb => (hB b hb).2) h4).mono hm⟩⟩
    have hst : Step (keys H) S w (fun b => S' b ∧ ¬ B b) w2 := ⟨e1.trans hr'.step.os, e2.trans hr'.step.tape, e3.trans hr'.step.output, by rw [e4]; exact hr'.step.size,
      fun b hb hn => (e5 b (fun hbm => absurd hb (Nat.not_lt.2 (hB b hbm).1))).trans (hr'.step.keep b hb hn), fun b hb => ⟨hr'.step.sub b hb, fun hbm => absurd (hw b hb) (Nat.not_lt.2 (hB b hbm).1)⟩, fun b hb => hr'.step.new b hb.1, fun b hb => by rw [e4]; exact hr'.step.wf b hb.1⟩
    obtain ⟨u, hu, hrel⟩ := results_run (P := P) henv hown h1
    exact ⟨u, hu, u, _, r, H'', rfl, h2, h1' _ _ _ hrel, hown.le hle, hst, fun b hb => hr'.mine b (hle.sub b hb)⟩
  cases e with
  | normal => obtain ⟨ds, r, H'', h1, h1', h2, h3⟩ := hp; exact fin ds r H'' h1 h1' h2 h3
  | ret => obtain ⟨ds, r, H'', h1, h1', h2, h3⟩ := hp; exact fin ds r H'' h1 h1' h2 h3
  | _ => exact hp.elim
theorem FnH.mono {f : FuncId} {args : List T} {H : Heap} {Φ Φ' : T → Heap → Prop} (h : FnH P f args H Φ) (hm : ∀ r H, Φ r H → Φ' r H) : FnH P f args H Φ' := by
  intro S w vs hw ho hr
  refine (h S w vs hw ho hr).mono ?_
  rintro e w' ⟨u, S', r, H', he, hp, rest⟩
  exact ⟨u, S', r, H', he, hm _ _ hp, rest⟩
variable {t : Env} {H : Heap} {dst : Option Tmp} {tp : TypeId} {pos : String} {aft : Array Edge} {g : Option (Nat × Bool)}
def callable (P : Program) (f : FuncId) : Bool := match P.funcs[f]? with
  | some fn => !(fn.name == "runtime.NumGoroutine") && fn.body.isSome
  | none => false
theorem run_call {f : FuncId} (h : callable P f = true) (args : Array Value) (w : World) : (callFunc f args).run P w = .ok (.enter f args) w := by
  unfold callable at h
  cases hf : P.funcs[f]? with
  | none => rw [hf] at h; cases h
  | some fn =>
    rw [hf] at h
    simp only [Bool.and_eq_true, Bool.not_eq_true'] at h
    obtain ⟨h1, h2⟩ := h
    have h3 : fn.body.isNone = false := by cases hb : fn.body <;> simp_all
    simp only [callFunc, Sem.run_bind, run_program, Result.andThen_ok, hf, h1, h3, Bool.false_eq_true, if_false]
    rfl
theorem rel_args {a : Act} : ∀ (xs : List Operand), (∀ x ∈ xs, Rel S w (t.ev x) (a.eval x)) → RelL S w (xs.map t.ev) (xs.map a.eval)
  | [], _ => .nil
  | x :: xs, h => .cons _ _ _ _ (h x List.mem_cons_self) (rel_args xs fun y hy => h y (List.mem_cons_of_mem _ hy))
theorem pop_call {f : FuncId} {xs : Array Operand} {ats : Array TypeId} {args : List T} {d : T} (hc : callable P f = true) (ha' : EvL t xs.toList args) (hf : FnP P f args (fun r => r = d)) :
    POp P t H ⟨dst, .call ⟨.value (.func f), xs, ats⟩, tp, pos, aft, g⟩ d := by
  have ha := ha'.eq
  intro S w a hw ho hx Kc Q hk
  unfold Oper.wp
  have e : execOp a.eval ⟨dst, .call ⟨.value (.func f), xs, ats⟩, tp, pos, aft, g⟩ = callFunc f (#[] ++ xs.map a.eval ++ #[]) := rfl
  rw [e, run_call hc]
  simp only [Oper.upon]
  have hr : RelL S w args (xs.toList.map a.eval) := ha ▸ rel_args xs.toList fun x h => hx x (by simp [Op.operands, Call.operands]; exact .inr (by simpa using h))
  have := hf S w _ hw (Own.nil S w) hr
  have e2 : (xs.toList.map a.eval).toArray = #[] ++ xs.map a.eval ++ #[] := by apply Array.ext'; simp
  rw [← e2]
  refine this.mono ?_
  rintro e w' ⟨u, S', r, H', rfl, ⟨rfl, rfl⟩, hrel, _, hst, _⟩
  exact hk S' w' u hst hrel
theorem eop_call_pure {K : Ctx} {f : FuncId} {xs : Array Operand} {ats : Array TypeId} {args : List T} {Φ : T → Prop} {N : Env → Heap → Prop} (hc : callable K.P f = true) (ha' : EvL t xs.toList args)
    (hf : FnP K.P f args Φ) {kd : Tmp} (hd : Nat.blt kd K.n = true) (hn : ∀ r, Φ r → N ((kd, r) :: t) H) : EOp K t H ⟨some kd, .call ⟨.value (.func f), xs, ats⟩, tp, pos, aft, g⟩ N := by
  have ha := ha'.eq
  refine EOp.of_w (fun c e => by cases e) ?_
  intro a w ⟨S, hr⟩ Kc Q hk
  unfold Oper.wp
  have e : execOp a.eval ⟨some kd, .call ⟨.value (.func f), xs, ats⟩, tp, pos, aft, g⟩ = callFunc f (#[] ++ xs.map a.eval ++ #[]) := rfl
  rw [e, run_call hc]
  simp only [Oper.upon]
  have hrl : RelL S w args (xs.toList.map a.eval) := ha ▸ rel_args xs.toList fun x h => hr.env.ev x
  have := hf S w _ hr.wf (Own.nil S w) hrl
  have e2 : (xs.toList.map a.eval).toArray = #[] ++ xs.map a.eval ++ #[] := by apply Array.ext'; simp
  rw [← e2]
  refine this.mono ?_
  rintro e w' ⟨u, S', r, H', rfl, ⟨rfl, hp⟩, hrel, _, hst, _⟩
  exact hk _ _ _ _ (hn r hp) ⟨S', hr.pure (dst := some kd) hst hd hrel⟩
end
end Go.Cap
