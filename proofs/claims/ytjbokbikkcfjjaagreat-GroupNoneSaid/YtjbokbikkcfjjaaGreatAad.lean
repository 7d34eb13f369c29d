/-
  Calls: a function by what it does; a function entered, and left.
  The rules for blocks that a call owns: made, read, written, and given up, to be data that stays.
-/
import Derived.Test.YtjbokbikkcfjjaaGreatAac
section
namespace Go.Cap
def Res1 (P : Program) (t : Env) (H : Heap) : ResultVar → T → Prop
  | .tmp k, d => t.get k = d
  | .cell k ty, d => ∃ (i b : Nat) (blk : Blk), t.get k = .v (.pointer (some ⟨b, 0, none⟩)) ∧ H[i]? = some (b, blk) ∧
      ((∃ n, aggSz P ty = some n ∧ 0 < n ∧ n ≤ blk.cells.length ∧ d = .agg (blk.cells.take n)) ∨ (leafTy P ty = true ∧ blk.cells[0]? = some d))
def ResL (P : Program) (t : Env) (H : Heap) : List ResultVar → List T → Prop
  | [], [] => True
  | r :: rs, d :: ds => Res1 P t H r d ∧ ResL P t H rs ds
  | _, _ => False
def packT : List T → T
  | [d] => d
  | ds => .tup ds
theorem ResL.length {P : Program} {t : Env} {H : Heap} : ∀ {rs : List ResultVar} {ds : List T}, ResL P t H rs ds → ds.length = rs.length
  | [], [], _ => rfl
  | _ :: _, _ :: _, h => by simp [ResL.length h.2]
  | [], _ :: _, h => h.elim
  | _ :: _, [], h => h.elim
section
variable {P : Program} {S : Nat → Prop} {w : World}
theorem env_args {args : List T} {vs : List Value} (h : RelL S w args vs) (n : Nat) : InEnv S w ((List.range args.length).zip args) { tmps := vs.toArray ++ Array.replicate (n - vs.toArray.size) undef, defers := [] } := by
  intro k
  have hl := h.length
  by_cases hk : k < args.length
  · have e : Env.get ((List.range args.length).zip args) k = args[k] := by
      have key : ∀ (xs : List T) (i : Nat) (j : Nat) (hj : j < xs.length), Env.get ((List.range' i xs.length).zip xs) (i + j) = xs[j] := by
        intro xs
        induction xs with
        | nil => intro i j hj; simp at hj
        | cons x xs ih =>
          intro i j hj
          rw [List.length_cons, List.range'_succ, List.zip_cons_cons]
          cases j with
          | zero => simp [Env.get]
          | succ j =>
            have := ih (i + 1) j (by simpa using hj)
            simp only [Env.get, nbeq (show ¬ i = i + (j + 1) by omega), cond_false]
            rw [show i + (j + 1) = i + 1 + j by omega, this]; simp
      have := key args 0 k hk
      rw [List.range_eq_range']; simpa using this
    rw [e]
    obtain ⟨y, hy, hr⟩ := h.get (i := k) (x := args[k]) (by simp [hk])
    have hk' : k < vs.length := by omega
    have : (vs.toArray ++ Array.replicate (n - vs.toArray.size) undef).getD k undef = y := by
      rw [Array.getD_eq_getD_getElem?, Array.getElem?_append_left (by simpa using hk')]
      simp [hy]
    simp only [this]; exact hr
  · have e : Env.get ((List.range args.length).zip args) k = .any := by
      have key : ∀ (xs : List T) (i k : Nat), i + xs.length ≤ k → Env.get ((List.range' i xs.length).zip xs) k = .any := by
        intro xs
        induction xs with
        | nil => intro i k _; rfl
        | cons x xs ih =>
          intro i k hk
          rw [List.length_cons, List.range'_succ, List.zip_cons_cons]
          simp only [List.length_cons] at hk
          simp only [Env.get, nbeq (show ¬ i = k by omega), cond_false]
          exact ih (i + 1) k (by omega)
      rw [List.range_eq_range']; exact key args 0 k (by omega)
    rw [e]; exact .any _
theorem Sem.mapM_run {α β : Type} (f : α → Sem β) (g : α → β) (P : Program) (w : World) : ∀ (l : List α), (∀ x ∈ l, (f x).run P w = .ok (g x) w) → (l.mapM f).run P w = .ok (l.map g) w := by
  have key : ∀ (l : List α) (acc : List β), (∀ x ∈ l, (f x).run P w = .ok (g x) w) → (List.mapM.loop f l acc).run P w = .ok (acc.reverse ++ l.map g) w := by
    intro l
    induction l with
    | nil => intro acc _; simp [List.mapM.loop]
    | cons x l ih =>
      intro acc h
      simp only [List.mapM.loop, Sem.run_bind, h x List.mem_cons_self, Result.andThen_ok]
      rw [ih (g x :: acc) (fun y hy => h y (List.mem_cons_of_mem _ hy))]
      simp
  intro l h
  simpa [List.mapM] using key l [] h
theorem Sem.mapM_array_run {α β : Type} (f : α → Sem β) (g : α → β) (P : Program) (w : World) (l : Array α) (h : ∀ x ∈ l, (f x).run P w = .ok (g x) w) : (l.mapM f).run P w = .ok (l.map g) w := by
  rw [Array.mapM_eq_mapM_toList, Sem.run_map, Sem.mapM_run f g P w l.toList (fun x hx => h x (by simpa using hx))]
  simp only [Result.andThen_ok]
  congr 1
  apply Array.ext'; simp
theorem res1_run {t : Env} {H : Heap} {a : Act} (hr : ∀ k, Rel S w (t.get k) (a.tmps.getD k undef)) (ho : Own S w H) {rv : ResultVar} {d : T} (h : Res1 P t H rv d) :
    ∃ u, (match rv with
      | ResultVar.tmp t => (pure (a.tmps.getD t undef) : Sem Value)
      | ResultVar.cell b t => do loadVar t (← asAddr (a.tmps.getD b undef))).run P w = .ok u w ∧ Rel S w d u := by
  cases rv with
  | tmp k => exact ⟨_, rfl, by have := hr k; rw [show t.get k = d from h] at this; exact this⟩
  | cell k ty =>
    obtain ⟨i, b, blk, h1, h2, h3⟩ := h
    have hk := hr k
    rw [h1] at hk
    have hne : 0 < blk.cells.length := by
      rcases h3 with ⟨n, _, h4, h5, _⟩ | ⟨_, h5⟩
      · omega
      · exact (List.getElem?_eq_some_iff.1 h5).1
    obtain ⟨ty1, hT, cs, hb, hsz, hl, hrl⟩ := (ho.has (b, blk) (List.mem_of_getElem? h2)).cases.resolve_right (by rintro ⟨_, _, h9, _⟩; simp only at h9; rw [h9] at hne; exact Nat.lt_irrefl _ hne)
    rcases h3 with ⟨n, h4, _, h5, rfl⟩ | ⟨h4, h5⟩
    · obtain ⟨hag, inf, hinf, hs⟩ := agg_of h4
      have hrel := hrl.take n
      rw [List.take_take, Nat.min_eq_left h5] at hrel
      have hcl : cs.toList.length = cs.size := Array.length_toList
      have := run_cells (P := P) (w := w) (o := 0) (n := n) hb (cs.toList.take n) (by rw [List.length_take]; simp only at hl hsz; omega) (by simp)
      refine ⟨.agg (cs.toList.take n).toArray, ?_, .agg _ _ hrel⟩
      simp only [hk.v_eq, asAddr, Sem.run_bind, Sem.run_pure, Result.andThen_ok, loadVar, hag w, if_true, run_sizeOf hinf, hs, this]
    · obtain ⟨y, hy, hr'⟩ := hrl.get h5
      rw [List.getElem?_take, if_pos hne] at hy
      have hcell' : w.cell? ⟨b, 0, none⟩ = some y := by rw [cell_block hb]; simpa using hy
      refine ⟨y, ?_, hr'⟩
      simp [hk.v_eq, asAddr, loadVar, leaf_of h4 w, run_load, hcell']
theorem results_run {fn : Func} {t : Env} {H : Heap} {a : Act} (hr : ∀ k, Rel S w (t.get k) (a.tmps.getD k undef)) (ho : Own S w H) {ds : List T} (h : ResL P t H fn.results.toList ds) :
    ∃ u, (results fn a.tmps).run P w = .ok u w ∧ Rel S w (packT ds) u := by
  have key : ∀ (rs : List ResultVar) (ds : List T), ResL P t H rs ds →
      ∃ us, (rs.mapM (fun r => match r with
        | ResultVar.tmp t => (pure (a.tmps.getD t undef) : Sem Value)
        | ResultVar.cell b t => do loadVar t (← asAddr (a.tmps.getD b undef)))).run P w = .ok us w ∧ RelL S w ds us := by
    intro rs
    induction rs with
    | nil => intro ds hd; cases ds with
      | nil => exact ⟨[], rfl, .nil⟩
      | cons d ds => exact hd.elim
    | cons x rs ih =>
      intro ds hd
      cases ds with
      | nil => exact hd.elim
      | cons d ds =>
        obtain ⟨u, hu, hru⟩ := res1_run hr ho hd.1
        obtain ⟨us, hus, hrel⟩ := ih ds hd.2
        refine ⟨u :: us, ?_, .cons _ _ _ _ hru hrel⟩
        rw [List.mapM_cons, Sem.run_bind]
        have hu' := hu
        rw [hu', Result.andThen_ok, Sem.run_bind, hus]; rfl
  obtain ⟨us, hu, hrel⟩ := key _ _ h
  have e : (results fn a.tmps).run P w = (((fn.results.toList.mapM (fun r => match r with
      | ResultVar.tmp t => (pure (a.tmps.getD t undef) : Sem Value)
      | ResultVar.cell b t => do loadVar t (← asAddr (a.tmps.getD b undef)))).run P w).andThen fun b w' => Result.ok b.toArray w').andThen fun b w' =>
        Sem.run P (pure (if h : b.size = 1 then b[0] else Value.tuple b)) w' := by
    unfold results
    rw [Sem.run_bind, Array.mapM_eq_mapM_toList, Sem.run_map]
    rfl
  rw [e, hu]
  cases hrel with
  | nil => exact ⟨.tuple #[], rfl, .tup _ _ .nil⟩
  | cons x y xs ys h1 h2 =>
    cases h2 with
    | nil => exact ⟨y, rfl, h1⟩
    | cons x2 y2 xs2 ys2 h3 h4 => exact ⟨.tuple (y :: y2 :: ys2).toArray, by simp, .tup _ _ (.cons _ _ _ _ h1 (.cons _ _ _ _ h3 h4))⟩
def endΨ (P : Program) (fn : Func) (Φ : T → Heap → Prop) (e : Exit) (t : Env) (H : Heap) : Prop :=
  match e with
  | .normal | .ret => ∃ ds r H', ResL P t H fn.results.toList ds ∧ Le (packT ds) r ∧ Φ r H' ∧ ((keys H).Nodup → HeapLe H H')
  | _ => False
mutual
theorem Rel.shrink {B : Nat → Prop} (hB : ∀ b, B b → ∀ cs ty fz, w.heap[b]? ≠ some (.cells cs ty fz)) : ∀ {x : T} {y : Value}, Rel S w x y → Rel (fun b => S b ∧ ¬ B b) w x y
  | _, _, .v x => .v x
  | _, _, .nil f p c hf => .nil f p c hf
  | _, _, .sl f xs b o cap vs k cs ty fz hs hb hr hg hf hc => .sl f xs b o cap vs k cs ty fz ⟨hs, fun h => hB b h _ _ _ hb⟩ hb (RelL.shrink hB hr) hg hf hc
  | _, _, .adr x b o y cs ty fz hs hb hr hg => .adr x b o y cs ty fz ⟨hs, fun h => hB b h _ _ _ hb⟩ hb (Rel.shrink hB hr) hg
  | _, _, .agg xs vs h => .agg xs vs (RelL.shrink hB h)
  | _, _, .tup xs vs h => .tup xs vs (RelL.shrink hB h)
  | _, _, .clo f fs cs us vs h h' => .clo f fs cs us vs (RelL.shrink hB h) (RelL.shrink hB h')
  | _, _, .any x => .any x
theorem RelL.shrink {B : Nat → Prop} (hB : ∀ b, B b → ∀ cs ty fz, w.heap[b]? ≠ some (.cells cs ty fz)) : ∀ {xs : List T} {ys : List Value}, RelL S w xs ys → RelL (fun b => S b ∧ ¬ B b) w xs ys
  | _, _, .nil => .nil
  | _, _, .cons x y xs ys h hs => .cons x y xs ys (Rel.shrink hB h) (RelL.shrink hB hs)
end
theorem Has.shrunk {S : Nat → Prop} {w w' : World} {S' : Nat → Prop} {B : Nat → Prop} {b : Nat} {k : Blk} (h : Has S w b k) (hB : ∀ b, B b → ∀ cs ty fz, w.heap[b]? ≠ some (.cells cs ty fz)) (hBm : ∀ b, B b → ∀ ms c, w.heap[b]? ≠ some (.map ms c))
    (hb : ¬ B b → w'.heap[b]? = w.heap[b]?) (hm : ∀ b, (S b ∧ ¬ B b) → S' b ∧ w'.heap[b]? = w.heap[b]?) : Has S' w' b k := by
  have hnb : ¬ B b := fun h0 => by
    obtain ⟨o, h1, ⟨_, _, _, rfl⟩ | ⟨_, _, rfl⟩⟩ := h.mem
    · exact hB b h0 _ _ _ h1
    · exact hBm b h0 _ _ h1
  have h' : Has (fun b => S b ∧ ¬ B b) w b k := by
    rcases h.cases with ⟨ty, hT, cs, a1, a2, a3, a4⟩ | ⟨es, clock, rfl, ms, h1, h2⟩
    · exact Has.of hT ⟨cs, a1, a2, a3, RelL.shrink hB a4⟩
    · refine ⟨⟨ms, h1, ?_⟩, rfl, rfl⟩
      clear h1 h
      generalize ms.toList = l at h2
      induction h2 with
      | nil => exact .nil
      | cons k x n v es ms hx _ ih => exact .cons k x n v es ms (Rel.shrink hB hx) ih
  exact h'.mono (hb hnb) hm
theorem leaves_marks {fn : Func} {tmps : Array Value} {Q : Ending → World → Prop} (n0 : Nat) : ∀ (ds : List Deferred) (w : World), ds.Nodup → (∀ d ∈ ds, ∃ D, d = ⟨.collected D, #[]⟩ ∧ n0 ≤ D ∧ w.heap[D]? = some (.deferred (some []))) →
    (∀ w', w'.os = w.os → w'.tape = w.tape → w'.output = w.output → w'.heap.size = w.heap.size → (∀ b, (⟨.collected b, #[]⟩ : Deferred) ∉ ds → w'.heap[b]? = w.heap[b]?) → ∃ v, (results fn tmps).run P w' = .ok v w' ∧ Q (.returned v) w') →
    LeavesInM Fence.wide 0 P fn tmps Q ds .returning w
  | [], w, _, _, h => h w rfl rfl rfl rfl fun _ _ => rfl
  | d :: ds, w, hn, hm, h => by
    obtain ⟨D, rfl, hD, hk⟩ := hm d List.mem_cons_self
    have hn' := List.nodup_cons.1 hn
    have hlt := (Array.getElem?_eq_some_iff.1 hk).1
    refine ⟨by simp, .inl ⟨D, w.putObj D (.deferred none), rfl, run_takeDeferred hk, ?_⟩⟩
    refine leaves_marks n0 ds _ hn'.2 (fun e he => ?_) fun w' h1 h2 h3 h4 h5 => ?_
    · obtain ⟨E, rfl, hE, hke⟩ := hm e (List.mem_cons_of_mem _ he)
      refine ⟨E, rfl, hE, ?_⟩
      rw [World.putObj_heap_other (fun e => hn'.1 (by rw [← e]; exact he))]; exact hke
    · refine h w' (h1.trans rfl) (h2.trans rfl) (h3.trans rfl) (by rw [h4]; simp) fun b hb => ?_
      rw [h5 b (fun hm => hb (List.mem_cons_of_mem _ hm)), World.putObj_heap_other (fun e => hb (by rw [e]; exact List.mem_cons_self))]
theorem fn_enter {f : FuncId} {fn : Func} {c : Code} {args : List T} {H : Heap} {Φ : T → Heap → Prop} (hf : P.funcs[f]? = some fn) (hb : fn.body = some c)
    (hn : Nat.ble args.length fn.ntmps = true)
    (h : ∀ (S0 : Nat → Prop) (w0 : World), Sim ⟨P, fn.ntmps, S0, w0, keys H, none, Flags.none, w0.heap.size, []⟩ c ((List.range args.length).zip args) H (endΨ P fn Φ)) : FnH P f args H Φ := by
  intro S w vs hw ho hr
  have hl := hr.length
  have hn' : args.length ≤ fn.ntmps := Nat.le_of_ble_eq_true hn
  refine (callsIn_wide (n := 0)).1 (callsIn_of_wp_marks hf hb trivial ?_)
  refine wpIn_mono (h S w { tmps := vs.toArray ++ Array.replicate (fn.ntmps - vs.toArray.size) undef, defers := [] } w
    ⟨S, by simp; omega, ⟨Nat.le_refl _, Mks.zero, fun _ _ => trivial⟩, Step.refl _ hw, ho, fun b hb => .inl hb, env_args hr fn.ntmps⟩) ?_
  rintro e a' w' ⟨t', H', hp, S', hr'⟩
  have fin : ∀ ds r H'', ResL P t' H' fn.results.toList ds → Le (packT ds) r → Φ r H'' → ((keys H').Nodup → HeapLe H' H'') → LeavesInM Fence.wide 0 P fn a'.tmps
      (fun e w' => ∃ u S' r H', e = .returned u ∧ Φ r H' ∧ Rel S' w' r u ∧ Own S' w' H' ∧ Step (keys H) S w S' w' ∧ ∀ b ∈ keys H', b ∈ keys H ∨ w.heap.size ≤ b) a'.defers .returning w' := by
    intro ds r H'' h1 h1' h2 h3
    have hle := h3 hr'.own.nodup
    obtain ⟨hnd, hmk⟩ := hr'.defers.marks.nil
    refine leaves_marks w.heap.size _ w' hnd hmk fun w2 e1 e2 e3 e4 e5 => ?_
    -- the blocks of the marks: nobody tells of them
    let B : Nat → Prop := fun b => (⟨.collected b, #[]⟩ : Deferred) ∈ a'.defers
    have hB : ∀ b, B b → w.heap.size ≤ b ∧ (∀ cs ty fz, w'.heap[b]? ≠ some (.cells cs ty fz)) ∧ ∀ ms c, w'.heap[b]? ≠ some (.map ms c) := fun b hbm => by
      obtain ⟨D, hD, h0, h1⟩ := hmk _ hbm
      cases hD
      exact ⟨h0, fun cs ty fz => by rw [h1]; simp, fun ms c => by rw [h1]; simp⟩
    have hm : ∀ b, (S' b ∧ ¬ B b) → (S' b ∧ ¬ B b) ∧ w2.heap[b]? = w'.heap[b]? := fun b hb => ⟨hb, e5 b hb.2⟩
    have henv : ∀ k, Rel (fun b => S' b ∧ ¬ B b) w2 (t'.get k) (a'.tmps.getD k undef) := fun k => (Rel.shrink (fun b hb => (hB b hb).2.1) (hr'.env k)).mono hm
    have hown : Own (fun b => S' b ∧ ¬ B b) w2 H' := ⟨hr'.own.nodup, fun b hb hS => hr'.own.apart b hb hS.1, fun p hp => (hr'.own.has p hp).shrunk (fun b hb => (hB b hb).2.1) (fun b hb => (hB b hb).2.2) (fun hnb => e5 p.1 hnb) hm⟩
    have hst : Step (keys H) S w (fun b => S' b ∧ ¬ B b) w2 := ⟨e1.trans hr'.step.os, e2.trans hr'.step.tape, e3.trans hr'.step.output, by rw [e4]; exact hr'.step.size,
      fun b hb hn => (e5 b (fun hbm => absurd hb (Nat.not_lt.2 (hB b hbm).1))).trans (hr'.step.keep b hb hn), fun b hb => ⟨hr'.step.sub b hb, fun hbm => absurd (hw b hb) (Nat.not_lt.2 (hB b hbm).1)⟩, fun b hb => hr'.step.new b hb.1, fun b hb => by rw [e4]; exact hr'.step.wf b hb.1⟩
    obtain ⟨u, hu, hrel⟩ := results_run (P := P) henv hown h1
    exact ⟨u, hu, u, _, r, H'', rfl, h2, h1' _ _ _ hrel, hown.le hle, hst, fun b hb => hr'.mine b (hle.sub b hb)⟩
  cases e with
  | normal => obtain ⟨ds, r, H'', h1, h1', h2, h3⟩ := hp; exact fin ds r H'' h1 h1' h2 h3
  | ret => obtain ⟨ds, r, H'', h1, h1', h2, h3⟩ := hp; exact fin ds r H'' h1 h1' h2 h3
  | _ => exact hp.elim
theorem FnH.args {f : FuncId} {args args' : List T} {H : Heap} {Φ : T → Heap → Prop} (h : FnH P f args' H Φ) (hl : LeL args args') : FnH P f args H Φ :=
  fun S w vs hw ho hr => h S w vs hw ho (hl S w vs hr)
theorem FnH.mono {f : FuncId} {args : List T} {H : Heap} {Φ Φ' : T → Heap → Prop} (h : FnH P f args H Φ) (hm : ∀ r H, Φ r H → Φ' r H) : FnH P f args H Φ' := by
  intro S w vs hw ho hr
  refine (h S w vs hw ho hr).mono ?_
  rintro e w' ⟨u, S', r, H', he, hp, rest⟩
  exact ⟨u, S', r, H', he, hm _ _ hp, rest⟩
variable {t : Env} {H : Heap} {dst : Option Tmp} {tp : TypeId} {pos : String} {aft : Array Edge} {g : Option (Nat × Bool)}
def callable (P : Program) (f : FuncId) : Bool := match P.funcs[f]? with
  | some fn => !(fn.name == "runtime.NumGoroutine") && fn.body.isSome
  | none => false
theorem run_call {f : FuncId} (h : callable P f = true) (args : Array Value) (w : World) : (callFunc f args).run P w = .ok (.enter f args) w := by
  unfold callable at h
  cases hf : P.funcs[f]? with
  | none => rw [hf] at h; cases h
  | some fn =>
    rw [hf] at h
    simp only [Bool.and_eq_true, Bool.not_eq_true'] at h
    obtain ⟨h1, h2⟩ := h
    have h3 : fn.body.isNone = false := by cases hb : fn.body <;> simp_all
    simp only [callFunc, Sem.run_bind, run_program, Result.andThen_ok, hf, h1, h3, Bool.false_eq_true, if_false]
    rfl
theorem rel_args {a : Act} : ∀ (xs : List Operand), (∀ x ∈ xs, Rel S w (t.ev x) (a.eval x)) → RelL S w (xs.map t.ev) (xs.map a.eval)
  | [], _ => .nil
  | x :: xs, h => .cons _ _ _ _ (h x List.mem_cons_self) (rel_args xs fun y hy => h y (List.mem_cons_of_mem _ hy))
theorem pop_call {f : FuncId} {xs : Array Operand} {ats : Array TypeId} {args : List T} {d : T} (hc : callable P f = true) (ha' : EvL t xs.toList args) (hf : FnP P f args (fun r => r = d)) :
    POp P t H ⟨dst, .call ⟨.value (.func f), xs, ats⟩, tp, pos, aft, g⟩ d := by
  have ha := ha'.eq
  intro S w a hw ho hx Kc Q hk
  unfold Oper.wp
  have e : execOp a.eval ⟨dst, .call ⟨.value (.func f), xs, ats⟩, tp, pos, aft, g⟩ = callFunc f (#[] ++ xs.map a.eval ++ #[]) := rfl
  rw [e, run_call hc]
  simp only [Oper.upon]
  have hr : RelL S w args (xs.toList.map a.eval) := ha ▸ rel_args xs.toList fun x h => hx x (by simp [Op.operands, Call.operands]; exact .inr (by simpa using h))
  have := hf S w _ hw (Own.nil S w) hr
  have e2 : (xs.toList.map a.eval).toArray = #[] ++ xs.map a.eval ++ #[] := by apply Array.ext'; simp
  rw [← e2]
  refine this.mono ?_
  rintro e w' ⟨u, S', r, H', rfl, ⟨rfl, rfl⟩, hrel, _, hst, _⟩
  exact hk S' w' u hst hrel
end
end Go.Cap
end
section
namespace Go.Cap
section
variable {K : Ctx} {P : Program} {t : Env} {H : Heap} {dst : Option Tmp} {tp : TypeId} {pos : String} {aft : Array Edge} {g : Option (Nat × Bool)} {N : Env → Heap → Prop}
variable {S : Nat → Prop} {w : World} {ty : TypeId}
theorem R1.fresh0 {a : Act} (h : R1 K t H a w S) {k : Blk} {o : Obj} (hko : Has S (w.alloc o) w.heap.size k)
    {d : T} {v : Value} (hd : okDst dst K.n = true) (hv : Rel S w d v) :
    R1 K (t.put dst d) ((w.heap.size, k) :: H) (a.put dst v) (w.alloc o) S := by
  have hm := mono_alloc h.wf o (S' := S) (fun _ h => h)
  refine ⟨by simp [h.size], (h.defers.step hm (objs_alloc w _) (by simp)).put hd, h.step.trans (step_mine h.wf _ []) (by simp), ⟨?_, ?_, ?_⟩, ?_, (h.env.mono hm).put (by rw [h.size]; exact hd) (hv.mono hm)⟩
  · show (w.heap.size :: keys H).Nodup
    rw [List.nodup_cons]
    exact ⟨fun hm' => by have := h.own.lt _ hm'; omega, h.own.nodup⟩
  · intro b hb hS
    rcases List.mem_cons.1 (show b ∈ w.heap.size :: keys H from hb) with hb | hb
    · have := h.wf b hS; omega
    · exact h.own.apart b hb hS
  · intro p hp
    rcases List.mem_cons.1 hp with hp | hp
    · subst hp
      exact hko
    · have h1 := h.own.has p hp
      exact h1.mono (heap_older w _ h1.lt) hm
  · intro b hb
    rcases List.mem_cons.1 (show b ∈ w.heap.size :: keys H from hb) with hb | hb
    · exact .inr (by have := h.step.size; omega)
    · exact h.mine b hb
theorem R1.fresh {a : Act} (h : R1 K t H a w S) {ty1 : TypeId} {k : Blk} {cs : Array Value} (hs : cs.size = k.size) (hl : k.cells.length ≤ k.size) (hr : RelL S w k.cells (cs.toList.take k.cells.length))
    {d : T} {v : Value} (hd : okDst dst K.n = true) (hv : Rel S w d v) (hT : k.ty = .ty ty1 := by rfl) :
    R1 K (t.put dst d) ((w.heap.size, k) :: H) (a.put dst v) (w.alloc (.cells cs ty1)) S :=
  h.fresh0 (Has.of hT ⟨cs, heap_new w _, hs, hl, hr.mono (mono_alloc h.wf _ (fun _ h => h))⟩) hd hv
theorem fresh_ne {a : Act} (h : R1 K t H a w S) : ∀ b ∈ keys H, ¬ b = w.heap.size := fun b hb => by have := h.own.lt b hb; omega
theorem eop_alloc {z : List T} [hz : ZCellsC K.P ty z] {kd : Tmp} (hd : Nat.blt kd K.n = true)
    (h : ∀ b, (∀ c ∈ keys H, ¬ c = b) → N ((kd, .v (.pointer (some ⟨b, 0, none⟩))) :: t) ((b, ⟨ty, z, z.length⟩) :: H)) : EOp K t H ⟨some kd, .alloc ty, tp, pos, aft, g⟩ N := by
  refine EOp.of_w (fun c e => by cases e) ?_
  intro a w ⟨S, hr⟩ Kc Q hk
  obtain ⟨i, zv, hi, hzz, rfl, h0⟩ := zcells_of hz.h
  have hti : ∀ w, (typeInfo ty).run K.P w = .ok i w := fun w => by simp [typeInfo, hi]
  have hrun : (execOp a.eval ⟨some kd, .alloc ty, tp, pos, aft, g⟩).run K.P w = .ok (.value (.pointer (some ⟨w.heap.size, 0, none⟩))) (w.alloc (.cells zv.cells ty)) := by
    simp [execOp, Instr.alloc, zeroValue, hti, hzz, newVar, newRow]
  unfold Oper.wp
  rw [hrun]
  have hl := ofVal_cells zv
  refine hk _ _ _ _ (h w.heap.size (fresh_ne hr)) ⟨S, hr.fresh (dst := some kd) (k := ⟨ty, (T.ofVal zv).cells, (T.ofVal zv).cells.length⟩) (by simp [hl]) (Nat.le_refl _) ?_ hd (.v _)⟩
  simp only
  rw [List.take_of_length_le (by simp [hl])]
  exact (Rel.ofVal zv).cells h0
theorem eop_box0 {x : Operand} {d : T} {cs : List T} (hx : t.ev x = d) (hc : d.cells = cs) (hp : 0 < cs.length) {kd : Tmp} (hd : Nat.blt kd K.n = true)
    (h : ∀ b, (∀ c ∈ keys H, ¬ c = b) → N ((kd, .v (.pointer (some ⟨b, 0, none⟩))) :: t) ((b, ⟨ty, cs, cs.length⟩) :: H)) : EOp K t H ⟨some kd, .box ty x, tp, pos, aft, g⟩ N := by
  subst hc
  refine EOp.of_w (fun c e => by cases e) ?_
  intro a w ⟨S, hr⟩ Kc Q hk
  have hxr := hr.env.ev x
  rw [hx] at hxr
  have hrun : (execOp a.eval ⟨some kd, .box ty x, tp, pos, aft, g⟩).run K.P w = .ok (.value (.pointer (some ⟨w.heap.size, 0, none⟩))) (w.alloc (.cells (a.eval x).cells ty)) := by
    simp [execOp, Instr.box, newVar, newRow]
  unfold Oper.wp
  rw [hrun]
  have hl := hxr.size hp
  refine hk _ _ _ _ (h w.heap.size (fresh_ne hr)) ⟨S, hr.fresh (dst := some kd) (k := ⟨ty, d.cells, d.cells.length⟩) (by simp [hl]) (Nat.le_refl _) ?_ hd (.v _)⟩
  simp only
  rw [List.take_of_length_le (by simp [hl])]
  exact hxr.cells hp
theorem eop_box {x : Operand} {cs : List T} (hx : t.ev x = .agg cs) (hp : Nat.blt 0 cs.length = true) {kd : Tmp} (hd : Nat.blt kd K.n = true)
    (h : ∀ b, (∀ c ∈ keys H, ¬ c = b) → N ((kd, .v (.pointer (some ⟨b, 0, none⟩))) :: t) ((b, ⟨ty, cs, cs.length⟩) :: H)) : EOp K t H ⟨some kd, .box ty x, tp, pos, aft, g⟩ N :=
  eop_box0 (cs := cs) hx rfl (by simpa using hp) hd h
theorem eop_box1 {x : Operand} {d : T} (hx : t.ev x = d) (hl : d.isLeaf = true) {kd : Tmp} (hd : Nat.blt kd K.n = true)
    (h : ∀ b, (∀ c ∈ keys H, ¬ c = b) → N ((kd, .v (.pointer (some ⟨b, 0, none⟩))) :: t) ((b, ⟨ty, [d], 1⟩) :: H)) : EOp K t H ⟨some kd, .box ty x, tp, pos, aft, g⟩ N :=
  eop_box0 (cs := [d]) hx (by cases d with
    | v u => cases u <;> simp_all [T.isLeaf, T.cells, Value.cells]
    | _ => simp_all [T.isLeaf, T.cells]) (by simp) hd h
theorem len_flat {α : Type} (l : List α) (n : Nat) : (List.replicate n l).flatten.length = n * l.length := by
  induction n with
  | zero => simp
  | succ n ih => rw [List.replicate_succ, List.flatten_cons, List.length_append, ih, Nat.succ_mul]; omega
theorem relL_flat {xs : List T} {ys : List Value} (h : RelL S w xs ys) (n : Nat) : RelL S w (List.replicate n xs).flatten (List.replicate n ys).flatten := by
  induction n with
  | zero => exact .nil
  | succ n ih => rw [List.replicate_succ, List.replicate_succ, List.flatten_cons, List.flatten_cons]; exact h.append ih
theorem eop_make {x y : Operand} {n c : Int} {d : T} {by_ : Nat} {k k' : IntKind} (hx : t.ev x = .v (.int k n)) (hy : t.ev y = .v (.int k' c)) [hz : ElemZC K.P ty d by_] (h0 : 0 ≤ n) (hnc : n ≤ c)
    (hb : c.toNat * by_ ≤ 281474976710656) (hm : c ≤ 9223372036854775807) {kd : Tmp} (hd : Nat.blt kd K.n = true)
    (h : ∀ b, (∀ c ∈ keys H, ¬ c = b) → N ((kd, .v (.slice (some ⟨b, 0, none⟩) n.toNat c.toNat)) :: t) ((b, ⟨elemTy K.P ty, (List.replicate c.toNat d.cells).flatten, c.toNat * d.cells.length⟩) :: H)) :
    EOp K t H ⟨some kd, .makeSlice ty x y, tp, pos, aft, g⟩ N := by
  refine EOp.of_w (fun c e => by cases e) ?_
  intro a w ⟨S, hr⟩ Kc Q hk
  have h1 := hr.env.ev x; rw [hx] at h1
  have h2 := hr.env.ev y; rw [hy] at h2
  obtain ⟨e, i, z, hu, hi, hzz, hs, hp, rfl, hby⟩ := elemZ_of hz.h
  obtain ⟨m, rfl⟩ := Int.eq_ofNat_of_zero_le h0
  obtain ⟨l, rfl⟩ := Int.eq_ofNat_of_zero_le (Int.le_trans h0 hnc)
  have hrun := run_mk hu hi hzz hs (k := k) (k' := k') (n := m) (c := l) (by omega) (by omega) (by rw [hby, Nat.mul_comm]; exact hb) w
  have hee : elemTy K.P ty = e := by unfold elemTy; rw [hu]
  unfold Oper.wp
  simp only [execOp, h1.v_eq, h2.v_eq]
  rw [Sem.run_bind, hrun]
  have hl := ofVal_cells z
  have hlen := len_flat (T.ofVal z).cells l
  have hz' : RelL S w (T.ofVal z).cells z.cells.toList := (Rel.ofVal z).cells (by omega)
  have hrel := relL_flat hz' l
  have hk2 := hk _ _ _ _ (h w.heap.size (fresh_ne hr)) ⟨S, hr.fresh (dst := some kd) (k := ⟨elemTy K.P ty, (List.replicate l (T.ofVal z).cells).flatten, l * (T.ofVal z).cells.length⟩)
    (cs := (Array.range (l * z.cells.size)).map fun j => z.cells[j % z.cells.size]!) (by simp [hl]) (by simp only; rw [hlen]; exact Nat.le_refl _) (by
      simp only
      rw [made_cells, List.take_of_length_le (by rw [hlen, len_flat_replicate, hl]; simp)]
      exact hrel) hd (.v (.slice (some ⟨w.heap.size, 0, none⟩) m l))⟩
  rw [hee] at hk2
  exact hk2
theorem Own.at {i : Nat} {b : Nat} {k : Blk} (h : Own S w H) (hi : H[i]? = some (b, k)) : Has S w b k := h.has (b, k) (List.mem_of_getElem? hi)
theorem take_cells {cs : Array Value} {xs : List T} (h : RelL S w xs (cs.toList.take xs.length)) {o n : Nat} (hn : o + n ≤ xs.length) :
    RelL S w ((xs.drop o).take n) ((cs.toList.drop o).take n) := by
  have := (h.drop o).take n
  rwa [List.drop_take, List.take_take, Nat.min_eq_left (by omega)] at this
theorem pop_load_own_agg {x : Operand} {b o n : Nat} {k : Blk} (i : Nat) (hx : t.ev x = .v (.pointer (some ⟨b, o, none⟩))) (hi : H[i]? = some (b, k)) [hk : AggC P ty n]
    (hn : Nat.ble (o + n) k.cells.length = true) : POp P t H ⟨dst, .load ty x, tp, pos, aft, g⟩ (.agg ((k.cells.drop o).take n)) :=
  POp.still fun S w a _ ho hr => by
    have h1 := hr x (by simp [Op.operands]); rw [hx] at h1
    obtain ⟨hag, inf, hinf, hs⟩ := agg_of hk.h
    have hn' : o + n ≤ k.cells.length := Nat.le_of_ble_eq_true hn
    rcases (ho.at hi).cases with ⟨ty1, hT, cs, hb, hsz, hl, hrl⟩ | ⟨es, clock, rfl, hM⟩
    case inr =>
      have h1 : 0 < n := by simpa using hk.z
      simp only [List.length_nil] at hn'; omega
    have hrel := take_cells hrl hn'
    refine ⟨.agg ((cs.toList.drop o).take n).toArray, ?_, .agg _ _ hrel⟩
    have := run_cells (P := P) (w := w) (o := o) (n := n) hb ((cs.toList.drop o).take n) (by simp; omega) rfl
    simp only [execOp, h1.v_eq, Instr.loadAt, Instr.sureAddr, loadVar, Sem.run_bind, Sem.run_pure, Result.andThen_ok, hag w, if_true, run_sizeOf hinf, hs, this]
theorem pop_load_own {x : Operand} {b o : Nat} {k : Blk} {d : T} (i : Nat) (hx : t.ev x = .v (.pointer (some ⟨b, o, none⟩))) (hi : H[i]? = some (b, k)) (hd : k.cells[o]? = some d) (hk : leafTy P ty = true) :
    POp P t H ⟨dst, .load ty x, tp, pos, aft, g⟩ d :=
  POp.still fun S w a _ ho hr => by
    have h1 := hr x (by simp [Op.operands]); rw [hx] at h1
    rcases (ho.at hi).cases with ⟨ty1, hT, cs, hb, hsz, hl, hrl⟩ | ⟨es, clock, rfl, hM⟩
    case inr => simp at hd
    obtain ⟨y, hy, hr'⟩ := hrl.get hd
    refine ⟨y, ?_, hr'⟩
    rw [List.getElem?_take] at hy
    split at hy
    · have hcell' : w.cell? ⟨b, o, none⟩ = some y := by rw [cell_block hb]; simpa using hy
      simp [execOp, h1.v_eq, Instr.loadAt, Instr.sureAddr, loadVar, leaf_of hk w, run_load, hcell']
    · cases hy
theorem pop_fieldAddr_raw {x : Operand} {f b o off n : Nat} {ag : Bool} (hx : t.ev x = .v (.pointer (some ⟨b, o, none⟩))) [hf : FldC P ty f off n ag] (hn : Nat.blt 0 n = true) :
    POp P t H ⟨dst, .fieldAddr ty x f, tp, pos, aft, g⟩ (.v (.pointer (some ⟨b, o + off, none⟩))) :=
  POp.still fun S w a _ _ hr => by
    have h1 := hr x (by simp [Op.operands]); rw [hx] at h1
    obtain ⟨fs, fx, i, hus, hfx, hoff, hi, hsz, _⟩ := fld_of hf.h
    have : ¬ n = 0 := by have : 0 < n := by simpa using hn
                         omega
    exact ⟨_, by simp [execOp, h1.v_eq, Instr.fieldAt, run_underlying hus, hfx, Instr.sureAddr, fieldPlace, run_sizeOf hi, hsz, hoff, Addr.add_mk, this], .v _⟩
theorem pop_indexAddr_raw {x y : Operand} {b o n c k : Nat} {i : Int} {kd : IntKind} (hx : t.ev x = .v (.slice (some ⟨b, o, none⟩) n c)) (hy : t.ev y = .v (.int kd i)) [hs : ElemSzC P ty k]
    (h0 : 0 ≤ i) (h1 : i < n) : POp P t H ⟨dst, .indexAddr ty x y, tp, pos, aft, g⟩ (.v (.pointer (some ⟨b, o + i.toNat * k, none⟩))) :=
  POp.still fun S w a _ _ hr => by
    have hx' := hr x (by simp [Op.operands]); rw [hx] at hx'
    have hy' := hr y (by simp [Op.operands]); rw [hy] at hy'
    obtain ⟨e, inf, hu, hi, hsz⟩ := elem_of hs.h
    exact ⟨_, by simp [execOp, hx'.v_eq, hy'.v_eq, Instr.indexAt, asIntOf, run_underlying hu, run_sizeOf hi, hsz, h0, h1, Addr.add_mk], .v _⟩
theorem pop_indexAddr_arr {x y : Operand} {b o n k : Nat} {i : Int} {kd : IntKind} (hx : t.ev x = .v (.pointer (some ⟨b, o, none⟩))) (hy : t.ev y = .v (.int kd i)) [hs : ArrC P ty n k]
    (h0 : 0 ≤ i) (h1 : i < n) : POp P t H ⟨dst, .indexAddr ty x y, tp, pos, aft, g⟩ (.v (.pointer (some ⟨b, o + i.toNat * k, none⟩))) :=
  POp.still fun S w a _ _ hr => by
    have hx' := hr x (by simp [Op.operands]); rw [hx] at hx'
    have hy' := hr y (by simp [Op.operands]); rw [hy] at hy'
    obtain ⟨e, inf, hu, hi, hsz⟩ := arr_of hs.h
    exact ⟨_, by simp [execOp, hx'.v_eq, hy'.v_eq, Instr.indexAt, asIntOf, run_underlying hu, run_sizeOf hi, hsz, h0, h1, Addr.add_mk, Instr.sureAddr], .v _⟩
def lay {α : Type} (l : List α) (o : Nat) (xs : List α) : List α := l.take o ++ xs ++ l.drop (o + xs.length)
theorem keys_set {b : Nat} {k k' : Blk} {i : Nat} (hi : H[i]? = some (b, k)) : keys (H.set i (b, k')) = keys H := by
  unfold keys
  rw [List.map_set]
  refine List.ext_getElem? fun j => ?_
  rw [List.getElem?_set]
  split
  · rename_i e; subst e
    simp [hi]
    exact (List.getElem?_eq_some_iff.1 hi).1
  · rfl
theorem lay_length {α : Type} {l xs : List α} {o : Nat} (h : o + xs.length ≤ l.length) : (lay l o xs).length = l.length := by
  simp [lay]; omega
theorem relL_lay {xs ys : List T} {us vs : List Value} (h : RelL S w xs us) (h' : RelL S w ys vs) (o : Nat) : RelL S w (lay xs o ys) (lay us o vs) := by
  unfold lay
  rw [h'.length]
  exact ((h.take o).append h').append (h.drop _)
theorem R1.write {a : Act} (h : R1 K t H a w S) {ty1 : TypeId} {i b o : Nat} {k : Blk} (hT : k.ty = .ty ty1) {xs : List T} {us : List Value} {w' : World} {cs' : Array Value} (hi : H[i]? = some (b, k)) (ho1 : o ≤ k.cells.length) (ho : o + xs.length ≤ k.size)
    (hw1 : w'.os = w.os) (hw2 : w'.tape = w.tape) (hw3 : w'.output = w.output) (hsz : w'.heap.size = w.heap.size) (hoth : ∀ c, ¬ c = b → w'.heap[c]? = w.heap[c]?)
    (hb : w'.heap[b]? = some (.cells cs' ty1 (0, 0))) (hcs : ∀ cs : Array Value, w.heap[b]? = some (.cells cs ty1 (0, 0)) → cs'.toList = lay cs.toList o us) (hx : RelL S w xs us) :
    R1 K t (H.set i (b, ⟨k.ty, lay k.cells o xs, k.size⟩)) a w' S := by
  have hbk : b ∈ keys H := List.mem_map.2 ⟨_, List.mem_of_getElem? hi, rfl⟩
  have hnS : ¬ S b := h.own.apart b hbk
  have hm : ∀ c, S c → S c ∧ w'.heap[c]? = w.heap[c]? := fun c hc => ⟨hc, hoth c (fun e => hnS (e ▸ hc))⟩
  have hkeys := keys_set (k' := ⟨k.ty, lay k.cells o xs, k.size⟩) hi
  obtain ⟨cs, hc1, hc2, hc3, hc4⟩ := (h.own.at hi).row hT
  have hcs2 := hcs cs hc1
  have hul := hx.length
  have hst : Step [b] S w S w' := ⟨hw1, hw2, hw3, by omega, fun c _ hn => hoth c (by simpa using hn), fun _ h => h, fun _ h => .inl h, fun c hc => by have := h.wf c hc; omega⟩
  refine ⟨h.size, h.defers.step hm (hst.objs fun c hc => ⟨_, by simp at hc; subst hc; exact hc1, rfl⟩) hst.size, h.step.trans hst (fun c hc => by simp at hc; subst hc; exact h.mine c hbk), ⟨?_, ?_, ?_⟩, by rw [hkeys]; exact h.mine, h.env.mono hm⟩
  · rw [hkeys]; exact h.own.nodup
  · rw [hkeys]; exact h.own.apart
  · intro p hp
    obtain ⟨j, hj⟩ := List.mem_iff_getElem?.1 hp
    rw [List.getElem?_set] at hj
    by_cases hij : i = j
    · subst hij
      rw [if_pos rfl, if_pos (List.getElem?_eq_some_iff.1 hi).1] at hj
      cases hj
      refine Has.of hT ⟨cs', hb, ?_, ?_, ?_⟩
      · have hll : (lay cs.toList o us).length = cs.toList.length := lay_length (by rw [show cs.toList.length = cs.size from Array.length_toList]; omega)
        have := congrArg List.length hcs2
        rw [hll] at this
        simpa [hc2] using this
      · simp only [lay, List.length_append, List.length_take, List.length_drop]; omega
      · simp only
        rw [hcs2]
        have := relL_lay hc4 hx o
        have e : (lay cs.toList o us).take (lay k.cells o xs).length = lay (cs.toList.take k.cells.length) o us := by
          have hcsl : cs.toList.length = k.size := by rw [Array.length_toList]; exact hc2
          refine List.ext_getElem? fun m => ?_
          simp only [lay, List.getElem?_take, List.getElem?_append, List.length_append, List.length_take, List.length_drop, List.getElem?_drop, hcsl]
          rw [Nat.min_eq_left (show o ≤ k.size by omega), Nat.min_eq_left hc3, Nat.min_eq_left (show o ≤ k.cells.length by omega)]
          repeat' split
          all_goals first | rfl | omega | (simp; omega)
        rw [e]
        exact this.mono hm
    · rw [if_neg hij] at hj
      have hpm : p ∈ H := List.mem_of_getElem? hj
      have hne : ¬ p.1 = b := by
        intro e
        have hnd := h.own.nodup
        have h1 : (keys H)[i]? = some b := by simp [keys, hi]
        have h2 : (keys H)[j]? = some b := by simp [keys, hj, e]
        have h3 := (List.getElem?_eq_some_iff.1 h1)
        have h4 := (List.getElem?_eq_some_iff.1 h2)
        exact hij ((List.getElem_inj hnd).1 (h3.2.trans h4.2.symm))
      exact (h.own.has p hpm).mono (hoth _ hne) hm
theorem run_storeCells {cs : Array Value} {b o : Nat} {ty : TypeId} (hb : w.heap[b]? = some (.cells cs ty (0, 0))) (us : List Value) (ho : o + us.length ≤ cs.size) (h1 : ∀ v ∈ us, v.oneCell' = true) :
    (storeCells ⟨b, o, none⟩ us).run P w = .ok () (w.setRow b (lay cs.toList o us).toArray) := by
  have := run_storeCells_at P b o ty us 0 cs w hb (by omega) h1
  simpa [lay] using this
theorem setRow_spec {cs cs' : Array Value} {b : Nat} {ty : TypeId} {fz : Nat × Nat} (hb : w.heap[b]? = some (.cells cs ty fz)) :
    (w.setRow b cs').heap[b]? = some (.cells cs' ty fz) ∧ (∀ c, ¬ c = b → (w.setRow b cs').heap[c]? = w.heap[c]?) ∧ (w.setRow b cs').heap.size = w.heap.size ∧
      (w.setRow b cs').os = w.os ∧ (w.setRow b cs').tape = w.tape ∧ (w.setRow b cs').output = w.output := by
  refine ⟨?_, fun c hc => ?_, by simp, rfl, rfl, rfl⟩
  · simp [World.setRow, Array.getElem?_modify, hb]
  · simp only [World.setRow, Array.getElem?_modify]
    rw [if_neg (by omega)]
def allLeaf (xs : List T) : Bool := xs.all T.isLeaf
theorem relL_leaf {xs : List T} {us : List Value} (h : RelL S w xs us) (hl : allLeaf xs = true) : ∀ v ∈ us, v.oneCell' = true := by
  intro v hv
  obtain ⟨j, hj⟩ := List.mem_iff_getElem?.1 hv
  have hlen := h.length
  have hjl : j < xs.length := by have := (List.getElem?_eq_some_iff.1 hj).1; omega
  obtain ⟨y, hy, hr⟩ := h.get (i := j) (x := xs[j]) (by simp [hjl])
  rw [hj] at hy; cases hy
  exact (hr.leaf_cells (List.all_eq_true.1 hl _ (List.getElem_mem hjl))).2
def sizeT (P : Program) (t : TypeId) : Option Nat := (P.info? t).map (·.size)
theorem eop_store {x y : Operand} {b o : Nat} {k : Blk} {d : T} (i : Nat) (hx : t.ev x = .v (.pointer (some ⟨b, o, none⟩))) (hi : H[i]? = some (b, k)) (hy : t.ev y = d)
    (hs : sizeT K.P ty = some d.cells.length) (hp : Nat.blt 0 d.cells.length = true) (hl : allLeaf d.cells = true) (ho : o + d.cells.length ≤ k.cells.length)
    (h : N t (H.set i (b, ⟨k.ty, lay k.cells o d.cells, k.size⟩))) : EOp K t H ⟨none, .store ty x y, tp, pos, aft, g⟩ N := by
  refine EOp.of_w (fun c e => by cases e) ?_
  intro a w ⟨S, hr⟩ Kc Q hk
  have h1 := hr.env.ev x; rw [hx] at h1
  have h2 := hr.env.ev y; rw [hy] at h2
  have hp' : 0 < d.cells.length := by simpa using hp
  obtain ⟨ty1, hT, cs, hb, hsz, hle, hrl⟩ := (hr.own.at hi).cases.resolve_right (by rintro ⟨_, _, rfl, _⟩; simp only [List.length_nil] at ho; omega)
  have hrc := h2.cells hp'
  have hsize := h2.size hp'
  obtain ⟨inf, hinf, his⟩ : ∃ inf, K.P.info? ty = some inf ∧ inf.size = d.cells.length := by
    unfold sizeT at hs
    cases hi : K.P.info? ty with
    | none => rw [hi] at hs; cases hs
    | some inf => rw [hi] at hs; exact ⟨inf, rfl, by simpa using hs⟩
  have hst := run_storeCells (P := K.P) (o := o) hb (a.eval y).cells.toList (by simp; omega) (relL_leaf hrc hl)
  obtain ⟨s1, s2, s3, s4, s5, s6⟩ := setRow_spec (cs' := (lay cs.toList o (a.eval y).cells.toList).toArray) hb
  unfold Oper.wp
  have hrun : (execOp a.eval ⟨none, .store ty x y, tp, pos, aft, g⟩).run K.P w = .ok .skip (w.setRow b (lay cs.toList o (a.eval y).cells.toList).toArray) := by
    simp only [execOp, h1.v_eq, Instr.storeAt, Instr.sureAddr, storeVar, Sem.run_bind, Sem.run_pure, Result.andThen_ok, run_sizeOf hinf, his, hsize]
    simp [hst]
  rw [hrun]
  refine hk _ _ _ _ h ⟨S, ?_⟩
  exact hr.write hT (xs := d.cells) (us := (a.eval y).cells.toList) hi (by omega) (by omega) s4 s5 s6 s3 s2 s1 (fun cs2 h2 => by rw [hb] at h2; cases h2; rfl) hrc
end
end Go.Cap
end
