/-
  Functions that defer calls of their own.
  Package code: numbers, texts, readers.
  Numbers as bytes, in plain words.
  Bytes: slices.Clone, Grow, Concat; a number's, a text's bytes behind others.
-/
import Derived.Test.YtjbokbikkcfjjaaGreatAaj
import Derived.Test.YtjbokbikkcfjjaaGreatAan
import Derived.Test.YtjbokbikkcfjjaaGreatAak
section
namespace Go.Cap
variable {P : Program}
def Lv (K : Ctx) (Φ : T → Heap → Prop) (e : Ending) (w' : World) : Prop :=
  ∃ u S' r H', e = .returned u ∧ Φ r H' ∧ Rel S' w' r u ∧ Own S' w' H' ∧ Step K.F0 K.S0 K.w0 S' w' ∧ ∀ b ∈ keys H', b ∈ K.F0 ∨ K.w0.heap.size ≤ b
def SimD (K : Ctx) (fn : Func) (c : Code) (t : Env) (H : Heap) (Φ : T → Heap → Prop) : Prop :=
  ∀ a w, R K t H a w → c.wpIn (RF K.rd) 0 K.P (bodyPostM (RF K.rd) 0 K.P fn (Lv K Φ)) a w
theorem fn_enterD {f : FuncId} {fn : Func} {c : Code} {args : List T} {H : Heap} {Φ : T → Heap → Prop} (hf : P.funcs[f]? = some fn) (hb : fn.body = some c)
    (hn : Nat.ble args.length fn.ntmps = true)
    (h : ∀ (S0 : Nat → Prop) (w0 : World), Wf S0 w0 → SimD ⟨P, fn.ntmps, S0, w0, keys H, none, Flags.none, w0.heap.size, []⟩ fn c ((List.range args.length).zip args) H Φ) : FnH P f args H Φ := by
  intro S w vs hw ho hr
  have hl := hr.length
  have hn' : args.length ≤ fn.ntmps := Nat.le_of_ble_eq_true hn
  refine (callsIn_wide (n := 0)).1 (callsIn_of_wp_marks hf hb trivial ?_)
  exact h S w hw { tmps := vs.toArray ++ Array.replicate (fn.ntmps - vs.toArray.size) undef, defers := [] } w
    ⟨S, by simp; omega, ⟨Nat.le_refl _, Mks.zero, fun _ _ => trivial⟩, Step.refl _ hw, ho, fun b hb => .inl hb, env_args hr fn.ntmps⟩
section
variable {K : Ctx} {fn : Func} {t : Env} {H : Heap} {Φ : T → Heap → Prop} {x y : Code}
theorem simD_seq (h : Sim K x t H (fun e t' H' => e = .normal ∧ SimD K fn y t' H' Φ)) : SimD K fn (.seq x y) t H Φ := by
  intro a w hr
  refine wpIn_seq (wpIn_mono (h a w hr) ?_)
  rintro e a' w' ⟨t', H', ⟨rfl, hp⟩, hr'⟩
  exact hp a' w' hr'
def SimFromD (K : Ctx) (fn : Func) (ops : Array Oper) (y : Code) (Φ : T → Heap → Prop) (i : Nat) (l : List Oper) (t : Env) (H : Heap) : Prop :=
  (∀ j, l[j]? = ops[i + j]?) → ∀ a w, R K t H a w → wpOpsIn (RF K.rd) 0 K.P ops (Exit.then (y.wpIn (RF K.rd) 0 K.P (bodyPostM (RF K.rd) 0 K.P fn (Lv K Φ))) (bodyPostM (RF K.rd) 0 K.P fn (Lv K Φ))) (List.range' i l.length) a w
theorem simD_region {id : Nat} {ops : Array Oper} (h : SimFromD K fn ops y Φ 0 ops.toList t H) : SimD K fn (.seq (.region id ops false) y) t H Φ := by
  intro a w hr
  refine wpIn_seq (wpIn_region ?_)
  have := h (fun j => by simp) a w hr
  rw [List.range_eq_range']
  simpa using this
theorem d_e {ops : Array Oper} {i : Nat} {o : Oper} {l : List Oper} (hg : o.guard = none) (h : EOp K t H o (fun t' H' => SimFromD K fn ops y Φ (i + 1) l t' H')) : SimFromD K fn ops y Φ i (o :: l) t H := by
  intro hl a w hr
  rw [wpOps_at]
  unfold wpOpIn
  simp only [at_ops hl, wanted_none hg a, if_true]
  exact h a w hr _ _ fun t' H' a' w' hn hr' => hn (at_rest hl) a' w' hr'
theorem d_s {ops : Array Oper} {i kd : Nat} {op : Op} {tp : TypeId} {pos : String} {aft : Array Edge} {l : List Oper} {d : T} (hp : POp K.P t H ⟨some kd, op, tp, pos, aft, none⟩ d) (h : SimFromD K fn ops y Φ (i + 1) l ((kd, d) :: t) H) (hd : Nat.blt kd K.n = true := by rfl) :
    SimFromD K fn ops y Φ i (⟨some kd, op, tp, pos, aft, none⟩ :: l) t H := d_e rfl (EOp.of_pop hp hd h)
theorem relL_raw {S : Nat → Prop} {w : World} : ∀ {vs ys : List Value}, RelL S w (vs.map T.v) ys → ys = vs
  | [], _, h => by cases h; rfl
  | v :: vs, _, h => by
    cases h with
    | cons _ y _ ys h1 h2 => rw [relL_raw h2, h1.v_eq]
theorem d_defer {ops : Array Oper} {i : Nat} {x : Operand} {tp : TypeId} {pos : String} {aft : Array Edge} {f : FuncId} (vs : List Value) (h : SimD { K with D := [⟨.fn (.func f) vs.toArray, #[]⟩] } fn y t H Φ) (hD : K.D = []) (hrd : K.rd = none)
    (hx : t.ev x = .clo f [] (vs.map T.v)) : SimFromD K fn ops y Φ i [⟨none, .defer ⟨.value x, #[], #[]⟩, tp, pos, aft, none⟩] t H := by
  intro hl a w hr
  rw [wpOps_at]
  unfold wpOpIn
  simp only [at_ops hl, wanted_none (o := ⟨none, .defer ⟨.value x, #[], #[]⟩, tp, pos, aft, none⟩) rfl a, if_true]
  obtain ⟨S, hr1⟩ := hr
  have hv : a.eval x = .func (.func f) #[] vs.toArray := by
    have h1 := hr1.env.ev x
    rw [hx] at h1
    generalize a.eval x = z at h1
    cases h1 with
    | clo _ _ _ us ws h2 h3 =>
      cases h2
      rw [relL_raw h3]
  have he : (execOp a.eval ⟨none, .defer ⟨.value x, #[], #[]⟩, tp, pos, aft, none⟩).run K.P w = .ok (.defer ⟨.fn (.func f) vs.toArray, #[]⟩) w := by
    show (do let d ← resolve a.eval ⟨.value x, #[], #[]⟩ tp; pure (.defer d) : Sem Next).run K.P w = _
    unfold resolve
    simp [hv, Deferred.ofValue]
  refine ⟨fun _ _ => trivial, ?_⟩
  rw [show (RF K.rd).round = none from hrd, Oper.semAt_none, he, Oper.uponIn_defer]
  show wpOpsIn _ _ _ _ _ (List.range' (i + 1) 0) _ _
  refine h _ _ ⟨S, hr1.size, ⟨hr1.defers.low, ?_, hr1.defers.flags⟩, hr1.step, hr1.own, hr1.mine, hr1.env⟩
  obtain ⟨ms, ms0, h0, h1, h2⟩ := hr1.defers.marks
  rw [hD, List.nil_append] at h0
  refine ⟨[], ms ++ ms0, ?_, by simpa using h1, by simpa using h2⟩
  show (⟨.fn (.func f) vs.toArray, #[]⟩ : Deferred) :: a.defers = _
  rw [h0]
  rfl
theorem leaves_marksD {fn : Func} {tmps : Array Value} {Q : Ending → World → Prop} {rest : List Deferred} {rd : Option Nat} : ∀ (ds : List Deferred) (w : World), ds.Nodup → (∀ d ∈ ds, ∃ D, d = ⟨.collected D, #[]⟩ ∧ w.heap[D]? = some (.deferred (some []))) →
    (∀ w', w'.os = w.os → w'.tape = w.tape → w'.output = w.output → w'.heap.size = w.heap.size → (∀ b, (⟨.collected b, #[]⟩ : Deferred) ∉ ds → w'.heap[b]? = w.heap[b]?) → LeavesInM (RF rd) 0 P fn tmps Q rest .returning w') →
    LeavesInM (RF rd) 0 P fn tmps Q (ds ++ rest) .returning w
  | [], w, _, _, h => h w rfl rfl rfl rfl fun _ _ => rfl
  | d :: ds, w, hn, hm, h => by
    obtain ⟨D, rfl, hk⟩ := hm d List.mem_cons_self
    have hn' := List.nodup_cons.1 hn
    refine ⟨by simp, .inl ⟨D, w.putObj D (.deferred none), rfl, run_takeDeferred hk, ?_⟩⟩
    refine leaves_marksD ds _ hn'.2 (fun e he => ?_) fun w' h1 h2 h3 h4 h5 => ?_
    · obtain ⟨E, rfl, hke⟩ := hm e (List.mem_cons_of_mem _ he)
      refine ⟨E, rfl, ?_⟩
      rw [World.putObj_heap_other (fun e => hn'.1 (by rw [← e]; exact he))]; exact hke
    · refine h w' (h1.trans rfl) (h2.trans rfl) (h3.trans rfl) (by rw [h4]; simp) fun b hb => ?_
      rw [h5 b (fun hm => hb (List.mem_cons_of_mem _ hm)), World.putObj_heap_other (fun e => hb (by rw [e]; exact List.mem_cons_self))]
end
def DfH (P : Program) (f : FuncId) (vs : Array Value) (H : Heap) (Φ : Heap → Prop) : Prop :=
  ∀ (S : Nat → Prop) (w : World), Wf S w → Own S w H → CallsDIn (RF none) 0 P f vs .returning w fun e u' w' =>
    u' = .returning ∧ ∃ v S' H', e = .returned v ∧ Φ H' ∧ Own S' w' H' ∧ Step (keys H) S w S' w' ∧ ∀ b ∈ keys H', b ∈ keys H ∨ w.heap.size ≤ b
def endD (P : Program) (fn : Func) (f : FuncId) (vs : Array Value) (Φ : T → Heap → Prop) (e : Exit) (t : Env) (H : Heap) : Prop :=
  match e with
  | .normal | .ret => ∃ Φ1 : Heap → Prop, DfH P f vs H Φ1 ∧ ∀ H1, Φ1 H1 → ∃ ds r H2, ResL P t H1 fn.results.toList ds ∧ Le (packT ds) r ∧ Φ r H2 ∧ ((keys H1).Nodup → HeapLe H1 H2)
  | _ => False
theorem simD_end {K : Ctx} {fn : Func} {t : Env} {H : Heap} {Φ : T → Heap → Prop} {c : Code} {f : FuncId} {vs : Array Value} (hw0 : Wf K.S0 K.w0) (h : Sim K c t H (endD K.P fn f vs Φ)) (hf : callable K.P f = true := by kernel_rfl) (hD : K.D = [⟨.fn (.func f) vs, #[]⟩] := by rfl)
    (hrd : K.rd = none := by rfl) (hmb : K.mb = K.w0.heap.size := by rfl) : SimD K fn c t H Φ := by
  intro a w hr
  refine wpIn_mono (h a w hr) ?_
  rintro e a' w' ⟨t', H', hp, S', hr'⟩
  have fin : (∃ Φ1 : Heap → Prop, DfH K.P f vs H' Φ1 ∧ ∀ H1, Φ1 H1 → ∃ ds r H2, ResL K.P t' H1 fn.results.toList ds ∧ Le (packT ds) r ∧ Φ r H2 ∧ ((keys H1).Nodup → HeapLe H1 H2)) → LeavesInM (RF K.rd) 0 K.P fn a'.tmps (Lv K Φ) a'.defers .returning w' := by
    rintro ⟨Φ1, hdf, hres⟩
    obtain ⟨ms, ms0, hds, hnd, hmk⟩ := hr'.defers.marks
    rw [hds, hD]
    obtain ⟨hn1, hn2, hdisj⟩ := List.nodup_append.1 hnd
    let B : Nat → Prop := fun b => (⟨.collected b, #[]⟩ : Deferred) ∈ ms ++ ms0
    have hB : ∀ b, B b → K.w0.heap.size ≤ b ∧ w'.heap[b]? = some (.deferred (some [])) := fun b hb => by
      obtain ⟨D, h0, h1, h2⟩ := hmk _ hb
      cases h0
      exact ⟨hmb ▸ h1, h2⟩
    have hBc : ∀ b, B b → ∀ cs ty fz, w'.heap[b]? ≠ some (.cells cs ty fz) := fun b hb cs ty fz => by rw [(hB b hb).2]; simp
    refine leaves_marksD ms w' hn1 (fun d hd => let ⟨D, h1, _, h3⟩ := hmk d (List.mem_append_left _ hd); ⟨D, h1, h3⟩) fun w2 e1 e2 e3 e4 e5 => ?_
    have e5' : ∀ b, ¬ B b → w2.heap[b]? = w'.heap[b]? := fun b hb => e5 b fun h => hb (List.mem_append_left _ h)
    have hm : ∀ b, (S' b ∧ ¬ B b) → (S' b ∧ ¬ B b) ∧ w2.heap[b]? = w'.heap[b]? := fun b hb => ⟨hb, e5' b hb.2⟩
    have henv2 : InEnv (fun b => S' b ∧ ¬ B b) w2 t' a' := fun k => (Rel.shrink hBc (hr'.env k)).mono hm
    have hown2 : Own (fun b => S' b ∧ ¬ B b) w2 H' := ⟨hr'.own.nodup, fun b hb hS => hr'.own.apart b hb hS.1, fun p hp => by
      exact (hr'.own.has p hp).shrunk hBc (fun b hb ms c => by rw [(hB b hb).2]; simp) (fun hnb => e5' p.1 hnb) hm⟩
    have hst2 : Step K.F0 K.S0 K.w0 (fun b => S' b ∧ ¬ B b) w2 := ⟨e1.trans hr'.step.os, e2.trans hr'.step.tape, e3.trans hr'.step.output, by rw [e4]; exact hr'.step.size,
      fun b hb hn => (e5' b (fun hbm => absurd hb (Nat.not_lt.2 (hB b hbm).1))).trans (hr'.step.keep b hb hn), fun b hb => ⟨hr'.step.sub b hb, fun hbm => absurd (hw0 b hb) (Nat.not_lt.2 (hB b hbm).1)⟩, fun b hb => hr'.step.new b hb.1, fun b hb => by rw [e4]; exact hr'.step.wf b hb.1⟩
    refine ⟨by simp, .inr ⟨fun hh => Bool.noConfusion (show false = true from hh), .func f, vs, f, vs, rfl, ?_, fun _ _ => trivial, ?_⟩⟩
    · show (callFunc f (#[] ++ vs)).run K.P w2 = _
      rw [Array.empty_append]
      exact run_call hf vs w2
    rw [hrd]
    refine CallsDIn.mono (hdf _ w2 hst2.wf hown2) ?_
    rintro e u' w3 ⟨rfl, v, S3, H1, rfl, hΦ1, hown3, hst3, hkeys⟩
    show LeavesInM (RF none) 0 K.P fn a'.tmps (Lv K Φ) ([] ++ ms0) .returning w3
    rw [List.nil_append]
    have hmk3 : ∀ d ∈ ms0, ∃ D, d = ⟨.collected D, #[]⟩ ∧ w3.heap[D]? = some (.deferred (some [])) := fun d hd => by
      obtain ⟨D, rfl, h1, h2⟩ := hmk d (List.mem_append_right _ hd)
      refine ⟨D, rfl, ?_⟩
      have h3 : w2.heap[D]? = some (.deferred (some [])) := (e5 D fun hh => hdisj _ hh _ hd rfl).trans h2
      exact (hst3.keep D (Array.getElem?_eq_some_iff.1 h3).1 (hown2.obj h3 rfl)).trans h3
    have := leaves_marksD (P := K.P) (fn := fn) (tmps := a'.tmps) (Q := Lv K Φ) (rest := []) (rd := none) ms0 w3 hn2 hmk3 fun w4 f1 f2 f3 f4 f5 => ?_
    · rwa [List.append_nil] at this
    have hS3 : ∀ b, S3 b → (⟨.collected b, #[]⟩ : Deferred) ∉ ms0 := fun b hb hm0 => by
      have hBb : B b := List.mem_append_right _ hm0
      have hlt := (Array.getElem?_eq_some_iff.1 (hB b hBb).2).1
      rcases hst3.new b hb with h | h | h
      · exact h.2 hBb
      · omega
      · exact hr'.own.obj (hB b hBb).2 rfl h
    have hm4 : ∀ b, S3 b → S3 b ∧ w4.heap[b]? = w3.heap[b]? := fun b hb => ⟨hb, f5 b (hS3 b hb)⟩
    have henv4 : InEnv S3 w4 t' a' := (henv2.mono (hst3.mono hst2.wf hown2.apart)).mono hm4
    obtain ⟨ds, r, H2, r1, r2, r3, r4⟩ := hres H1 hΦ1
    have hle := r4 hown3.nodup
    have hown4 : Own S3 w4 H1 := ⟨hown3.nodup, hown3.apart, fun p hp => by
      obtain ⟨o, h1, h2⟩ := (hown3.has p hp).isMem
      refine (hown3.has p hp).mono (f5 p.1 fun hm0 => ?_) hm4
      obtain ⟨D, hD0, hD1⟩ := hmk3 _ hm0
      cases hD0
      rw [h1] at hD1; cases hD1; cases h2⟩
    obtain ⟨u, hu, hrel⟩ := results_run (P := K.P) henv4 hown4 r1
    have hs := hst2.trans hst3 hr'.mine
    have hst4 : Step K.F0 K.S0 K.w0 S3 w4 := ⟨f1.trans hs.os, f2.trans hs.tape, f3.trans hs.output, by rw [f4]; exact hs.size,
      fun b hb hn => (f5 b (fun hbm => absurd hb (Nat.not_lt.2 (hB b (List.mem_append_right _ hbm)).1))).trans (hs.keep b hb hn), hs.sub, hs.new, fun b hb => by rw [f4]; exact hs.wf b hb⟩
    refine ⟨u, hu, u, S3, r, H2, rfl, r3, r2 _ _ _ hrel, hown4.le hle, hst4, fun b hb => ?_⟩
    rcases hkeys b (hle.sub b hb) with h | h
    · exact hr'.mine b h
    · exact .inr (Nat.le_trans hst2.size h)
  cases e with
  | normal => exact fin hp
  | ret => exact fin hp
  | _ => exact hp.elim
theorem marks_out {fr : Frame} {cs : List Frame} (hm : fr.mode = .returning) : ∀ (ds : List Deferred) (w : World), fr.defers = ds → ds.Nodup → (∀ d ∈ ds, ∃ D, d = ⟨.collected D, #[]⟩ ∧ w.heap[D]? = some (.deferred (some []))) →
    ∃ w', StepsIn (Machine.fenced P (RF none)) P (lone fr cs w) (lone { fr with defers := [] } cs w') ∧ w'.os = w.os ∧ w'.tape = w.tape ∧ w'.output = w.output ∧ w'.heap.size = w.heap.size ∧ ∀ b, (⟨.collected b, #[]⟩ : Deferred) ∉ ds → w'.heap[b]? = w.heap[b]? := by
  intro ds
  induction ds generalizing fr with
  | nil => exact fun w hd _ _ => ⟨w, by rw [← hd]; exact StepsIn.refl _, rfl, rfl, rfl, rfl, fun _ _ => rfl⟩
  | cons d ds ih =>
    intro w hd hn hk
    obtain ⟨D, rfl, hk0⟩ := hk d List.mem_cons_self
    have hn' := List.nodup_cons.1 hn
    have hrun : fr.mode ≠ .run := by rw [hm]; simp
    have h1 := step_collected (P := P) (cs := cs) hrun hd rfl (run_takeDeferred hk0)
    have i1 : (lone fr cs w).fenced P (RF none) := fenced_out (n := 0) trivial (RF_room _ _) hrun hd (fun g hg => by simp [Target.leads] at hg)
    obtain ⟨w', s1, s2, s3, s4, s5, s6⟩ := ih (fr := { fr with defers := [] ++ ds }) hm (w.putObj D (.deferred none)) rfl hn'.2 (fun e he => by
      obtain ⟨E, rfl, hE⟩ := hk e (List.mem_cons_of_mem _ he)
      refine ⟨E, rfl, ?_⟩
      rw [World.putObj_heap_other (fun e => hn'.1 (by rw [← e]; exact he))]; exact hE)
    refine ⟨w', .head i1 h1 s1, s2, s3, s4, by rw [s5]; simp, fun b hb => ?_⟩
    rw [s6 b fun h => hb (List.mem_cons_of_mem _ h), World.putObj_heap_other (fun e => hb (by rw [e]; exact List.mem_cons_self))]
theorem dfH_enter {f : FuncId} {fn : Func} {c : Code} {vs : List Value} {H : Heap} {Φ : Heap → Prop} (hf : P.funcs[f]? = some fn) (hb : fn.body = some c) (hn : Nat.ble vs.length fn.ntmps = true) (hres : fn.results = #[])
    (h : ∀ (S0 : Nat → Prop) (w0 : World), Sim ⟨P, fn.ntmps, S0, w0, keys H, none, Flags.none, w0.heap.size, []⟩ c ((List.range vs.length).zip (vs.map T.v)) H (fun e _ H' => (e = .normal ∨ e = .ret) ∧ ∃ H2, HeapFront H' H2 ∧ Φ H2)) : DfH P f vs.toArray H Φ := by
  intro S w hw ho
  refine ⟨trivial, fun c₀ cs hu _ => ?_⟩
  let b : Frame := { (default : Frame) with fn := f, kind := .deferred, roundOf := none }
  have hn' : vs.length ≤ fn.ntmps := Nat.le_of_ble_eq_true hn
  have henter : Frame.enter P f vs.toArray .deferred = b.atR { tmps := vs.toArray ++ Array.replicate (fn.ntmps - vs.toArray.size) undef, defers := [] } [.code c] := by simp [Frame.enter, Frame.atR, hf, hb, b]
  have hc : ({ c₀ with mode := .returning } : Frame) = c₀ := by rw [← hu]
  have hraw : ∀ vs : List Value, RelL S w (vs.map T.v) vs := fun vs => by
    induction vs with
    | nil => exact .nil
    | cons v vs ih => exact .cons _ _ _ _ (.v v) ih
  have henv := env_args (hraw vs) fn.ntmps
  rw [List.length_map] at henv
  obtain ⟨e, a', w', ⟨t', H', ⟨he, H2, hfr, hΦ⟩, S', hr'⟩, harr⟩ := h S w { tmps := vs.toArray ++ Array.replicate (fn.ntmps - vs.toArray.size) undef, defers := [] } w
    ⟨S, by simp; omega, ⟨Nat.le_refl _, Mks.zero, fun _ _ => trivial⟩, Step.refl _ hw, ho, fun b hb => .inl hb, henv⟩ b [] (c₀ :: cs) rfl trivial (RF_room _ _)
  rw [← henter] at harr
  obtain ⟨hnd, hmk⟩ := hr'.defers.marks.nil
  have fin : ∀ todo, StepsIn (Machine.fenced P (RF none)) P (lone (Frame.enter P f vs.toArray .deferred) (c₀ :: cs) w) (lone { b.atR a' todo with mode := .returning } (c₀ :: cs) w') →
      ∃ e u' w' fr, (u' = .returning ∧ ∃ v S' H', e = Ending.returned v ∧ Φ H' ∧ Own S' w' H' ∧ Step (keys H) S w S' w' ∧ ∀ b ∈ keys H', b ∈ keys H ∨ w.heap.size ≤ b) ∧
        ComesIn (Machine.fenced P (RF none)) P (lone (Frame.enter P f vs.toArray .deferred) (c₀ :: cs) w) (lone fr ({ c₀ with mode := u' } :: cs) w') e ∧ fr.kind = .deferred ∧ fr.fn = f ∧ fr.going P w' e := by
    intro todo hsteps
    obtain ⟨w2, s1, e1, e2, e3, e4, e5⟩ := marks_out (P := P) (fr := { b.atR a' todo with mode := .returning }) (cs := c₀ :: cs) rfl a'.defers w' rfl hnd (fun d hd => let ⟨D, h1, _, h3⟩ := hmk d hd; ⟨D, h1, h3⟩)
    let B : Nat → Prop := fun b => (⟨.collected b, #[]⟩ : Deferred) ∈ a'.defers
    have hB : ∀ b, B b → w.heap.size ≤ b ∧ (∀ cs ty fz, w'.heap[b]? ≠ some (.cells cs ty fz)) ∧ ∀ ms c, w'.heap[b]? ≠ some (.map ms c) := fun b hbm => by
      obtain ⟨D, hD, h0, h1⟩ := hmk _ hbm
      cases hD
      exact ⟨h0, fun cs ty fz => by rw [h1]; simp, fun ms c => by rw [h1]; simp⟩
    have hm : ∀ b, (S' b ∧ ¬ B b) → (S' b ∧ ¬ B b) ∧ w2.heap[b]? = w'.heap[b]? := fun b hb => ⟨hb, e5 b hb.2⟩
    have hle := hfr.le hr'.own.nodup
    have hown : Own (fun b => S' b ∧ ¬ B b) w2 H' := ⟨hr'.own.nodup, fun b hb hS => hr'.own.apart b hb hS.1, fun p hp => by
      exact (hr'.own.has p hp).shrunk (fun b hb => (hB b hb).2.1) (fun b hb => (hB b hb).2.2) (fun hnb => e5 p.1 hnb) hm⟩
    have hst : Step (keys H) S w (fun b => S' b ∧ ¬ B b) w2 := ⟨e1.trans hr'.step.os, e2.trans hr'.step.tape, e3.trans hr'.step.output, by rw [e4]; exact hr'.step.size,
      fun b hb hn => (e5 b (fun hbm => absurd hb (Nat.not_lt.2 (hB b hbm).1))).trans (hr'.step.keep b hb hn), fun b hb => ⟨hr'.step.sub b hb, fun hbm => absurd (hw b hb) (Nat.not_lt.2 (hB b hbm).1)⟩, fun b hb => hr'.step.new b hb.1, fun b hb => by rw [e4]; exact hr'.step.wf b hb.1⟩
    refine ⟨.returned (.tuple #[]), .returning, w2, _, ⟨rfl, .tuple #[], _, H2, rfl, hΦ, hown.le hle, hst, fun b hb => hr'.mine b (hle.sub b hb)⟩, by rw [hc]; exact StepsIn.trans hsteps s1, rfl, rfl, rfl, rfl, fn, hf, ?_⟩
    simp [results, hres]
  rcases he with rfl | rfl
  · exact fin [] (StepsIn.trans harr (.one (fenced_calm (fr := b.atR a' []) (n := 0) trivial (RF_room _ _) rfl) (stepR_end rfl)))
  · obtain ⟨todo, hs⟩ := harr.1 rfl
    exact fin todo hs
section
variable {b : Frame} {a : Act} {k : List Item} {cs : List Frame} {w w' : World} {ops : Array Oper} {i : Nat} {rest : List Nat} {o : Oper}
theorem step_value (ho : ops[i]? = some o) (hg : o.guard = none) (hro : b.roundOf = none) {v : Value} (hr : (execOp a.eval o).run P w = .ok (.value v) w') :
    step P (lone (b.atR a (.inRegion ops (i :: rest) :: k)) cs w) = .next (lone (b.atR (a.put o.dst v) (.inRegion ops rest :: k)) cs w') := by
  refine step_lone_go ?_
  have hg' := stepGR_op (P := P) (b := b) (k := k) (cs := cs) (w := w) (rest := rest) ho (wanted_none hg a)
  rw [hro, Oper.semAt_none] at hg'
  have hfin : (b.atR a (.inRegion ops (i :: rest) :: k)).finish v = b.atR (a.put o.dst v) (.inRegion ops rest :: k) := by rw [Frame.finish_atR, ho]; rfl
  rw [hg', ← hfin]
  simp [stepG.apply, hr]
theorem step_recover (ho : ops[i]? = some o) (hg : o.guard = none) (hro : b.roundOf = none) (hk : b.kind = .deferred) (hcs : recoverD cs = none) (hr : (execOp a.eval o).run P w = .ok .recover w') :
    step P (lone (b.atR a (.inRegion ops (i :: rest) :: k)) cs w) = .next (lone (b.atR (a.put o.dst .nilIface) (.inRegion ops rest :: k)) cs w') := by
  refine step_lone_go ?_
  have hg' := stepGR_op (P := P) (b := b) (k := k) (cs := cs) (w := w) (rest := rest) ho (wanted_none hg a)
  rw [hro, Oper.semAt_none] at hg'
  have hfin : (b.atR a (.inRegion ops (i :: rest) :: k)).finish .nilIface = b.atR (a.put o.dst .nilIface) (.inRegion ops rest :: k) := by rw [Frame.finish_atR, ho]; rfl
  have htr := (tryRecover_deferred (fr := b.atR a (.inRegion ops (i :: rest) :: k)) hk cs).trans hcs
  rw [hg', ← hfin]
  simp only [Frame.atR, hro] at htr ⊢
  simp [stepG.apply, hr, htr]
end
theorem run_load_raw {S : Nat → Prop} {w : World} {H : Heap} {a : Act} (ho : Own S w H) {i bl : Nat} {kb : Blk} (hi : H[i]? = some (bl, kb)) {rp : Value} (hd : kb.cells[0]? = some (.v rp)) {ty tp : TypeId} (hk : leafTy P ty = true) {x : Operand} {dst : Option Tmp} {pos : String} {aft : Array Edge} {g : Option (Nat × Bool)}
    (hv : a.eval x = .pointer (some ⟨bl, 0, none⟩)) : (execOp a.eval ⟨dst, .load ty x, tp, pos, aft, g⟩).run P w = .ok (.value rp) w := by
  obtain ⟨ty1, hT, cs, hb, hsz, hl, hrl⟩ := (ho.at hi).cases.resolve_right (by rintro ⟨_, _, rfl, _⟩; simp at hd)
  obtain ⟨y, hy, hr'⟩ := hrl.get hd
  rw [List.getElem?_take] at hy
  split at hy
  · have hcell' : w.cell? ⟨bl, 0, none⟩ = some y := by rw [cell_block hb]; simpa using hy
    rw [hr'.v_eq] at hcell'
    simp [execOp, hv, Instr.loadAt, Instr.sureAddr, loadVar, leaf_of hk w, run_load, hcell']
  · cases hy
theorem dfH_rec {f g : FuncId} {fn : Func} {id : Nat} {ty tp0 tp1 tp2 : TypeId} {p0 p1 p2 : String} {e0 e1 e2 : Array Edge} {ats at1 : Array TypeId} {d2 : Option Tmp} {H : Heap} {i bl : Nat} {kb : Blk} {rp : Value}
    (hf : P.funcs[f]? = some fn) (hb : fn.body = some (.region id #[⟨some 1, .load ty (.tmp 0), tp0, p0, e0, none⟩, ⟨some 2, .call ⟨.builtin .recover, #[], at1⟩, tp1, p1, e1, none⟩, ⟨d2, .call ⟨.value (.func g), #[.tmp 1, .tmp 2], ats⟩, tp2, p2, e2, none⟩] true))
    (hn : fn.ntmps = 4) (hres : fn.results = #[]) (hH : H[i]? = some (bl, kb)) (hd : kb.cells[0]? = some (.v rp)) (hk : leafTy P ty = true) (hc : callable P g = true) (hg : FnP P g [.v rp, .v .nilIface] (fun r => r = .tup []))
    (hord : ∀ t, Region.schedule (P.follows .mixedOrders) #[⟨some 1, .load ty (.tmp 0), tp0, p0, e0, none⟩, ⟨some 2, .call ⟨.builtin .recover, #[], at1⟩, tp1, p1, e1, none⟩, ⟨d2, .call ⟨.value (.func g), #[.tmp 1, .tmp 2], ats⟩, tp2, p2, e2, none⟩] t = [0, 1, 2] ∨
      Region.schedule (P.follows .mixedOrders) #[⟨some 1, .load ty (.tmp 0), tp0, p0, e0, none⟩, ⟨some 2, .call ⟨.builtin .recover, #[], at1⟩, tp1, p1, e1, none⟩, ⟨d2, .call ⟨.value (.func g), #[.tmp 1, .tmp 2], ats⟩, tp2, p2, e2, none⟩] t = [1, 0, 2]) :
    DfH P f #[.pointer (some ⟨bl, 0, none⟩)] H (fun H' => H' = H) := by
  intro S w hw ho
  refine ⟨trivial, fun c₀ cs hu _ => ?_⟩
  generalize hops : (#[⟨some 1, .load ty (.tmp 0), tp0, p0, e0, none⟩, ⟨some 2, .call ⟨.builtin .recover, #[], at1⟩, tp1, p1, e1, none⟩, ⟨d2, .call ⟨.value (.func g), #[.tmp 1, .tmp 2], ats⟩, tp2, p2, e2, none⟩] : Array Oper) = ops at hb hord
  have g0 : ops[0]? = some ⟨some 1, .load ty (.tmp 0), tp0, p0, e0, none⟩ := by rw [← hops]; rfl
  have g1 : ops[1]? = some ⟨some 2, .call ⟨.builtin .recover, #[], at1⟩, tp1, p1, e1, none⟩ := by rw [← hops]; rfl
  have g2 : ops[2]? = some ⟨d2, .call ⟨.value (.func g), #[.tmp 1, .tmp 2], ats⟩, tp2, p2, e2, none⟩ := by rw [← hops]; rfl
  let b : Frame := { (default : Frame) with fn := f, kind := .deferred, roundOf := none }
  have henter : Frame.enter P f #[.pointer (some ⟨bl, 0, none⟩)] .deferred = b.atR { tmps := #[.pointer (some ⟨bl, 0, none⟩), undef, undef, undef], defers := [] } [.code (.region id ops true)] := by
    simp [Frame.enter, Frame.atR, hf, hb, hn, b]
  have hc0 : ({ c₀ with mode := .returning } : Frame) = c₀ := by rw [← hu]
  have hrec : recoverD (c₀ :: cs) = none := by simp [recoverD, hu]
  have s0 := stepR_region_draw (P := P) (b := b) (a := { tmps := #[.pointer (some ⟨bl, 0, none⟩), undef, undef, undef], defers := [] }) (k := []) (cs := c₀ :: cs) (w := w) (ops := ops) (id := id)
  have ho1 : Own S w.drew H := ho.step (step_drew hw []) hw (by simp) (by simp)
  have hload : ∀ a : Act, a.eval (.tmp 0) = .pointer (some ⟨bl, 0, none⟩) → (execOp a.eval ⟨some 1, .load ty (.tmp 0), tp0, p0, e0, none⟩).run P w.drew = .ok (.value rp) w.drew := fun a h => run_load_raw ho1 hH hd hk h
  have hrecv : ∀ a : Act, (execOp a.eval ⟨some 2, .call ⟨.builtin .recover, #[], at1⟩, tp1, p1, e1, none⟩).run P w.drew = .ok .recover w.drew := fun a => by rfl
  have fen : ∀ (a : Act) (j : Nat) (rest : List Nat) (o : Oper), ops[j]? = some o → (lone (b.atR a (.inRegion ops (j :: rest) :: [])) (c₀ :: cs) w.drew).fenced P (RF none) := fun a j rest o h => fenced_oper (n := 0) trivial (RF_room _ _) h fun _ _ => trivial
  have reach : ∀ l, (l = [0, 1, 2] ∨ l = [1, 0, 2]) → StepsIn (Machine.fenced P (RF none)) P (lone (b.atR { tmps := #[.pointer (some ⟨bl, 0, none⟩), undef, undef, undef], defers := [] } (.inRegion ops l :: [])) (c₀ :: cs) w.drew)
      (lone (b.atR { tmps := #[.pointer (some ⟨bl, 0, none⟩), rp, .nilIface, undef], defers := [] } (.inRegion ops [2] :: [])) (c₀ :: cs) w.drew) := by
    rintro l (rfl | rfl)
    · exact .head (fen _ _ _ _ g0) (step_value g0 rfl rfl (hload _ rfl)) (.one (fen _ _ _ _ g1) (step_recover g1 rfl rfl rfl hrec (hrecv _)))
    · exact .head (fen _ _ _ _ g1) (step_recover g1 rfl rfl rfl hrec (hrecv _)) (.one (fen _ _ _ _ g0) (step_value g0 rfl rfl (hload _ rfl)))
  have hp := pop_call (P := P) (t := [(1, .v rp), (2, .v .nilIface)]) (H := H) (dst := d2) (tp := tp2) (pos := p2) (aft := e2) (g := none) (xs := #[.tmp 1, .tmp 2]) (ats := ats) (args := [.v rp, .v .nilIface]) hc (evl_cons rfl (evl_cons rfl evl_nil)) hg
  have hw2 : wpOpsIn (RF none) 0 P ops (fun e a' w' => e = .normal ∧ a'.defers = [] ∧ ∃ S', Step [] S w.drew S' w') [2] { tmps := #[.pointer (some ⟨bl, 0, none⟩), rp, .nilIface, undef], defers := [] } w.drew := by
    rw [wpOpsIn_cons]
    unfold wpOpIn
    simp only [g2, wanted_none (o := ⟨d2, .call ⟨.value (.func g), #[.tmp 1, .tmp 2], ats⟩, tp2, p2, e2, none⟩) rfl, if_true]
    refine wpIn_of_wp none (fun c h => by cases h) (hp S w.drew _ hw ho1 (fun x hx => ?_) _ _ fun S' w' v hst _ => ?_)
    · simp [Op.operands, Call.operands] at hx
      rcases hx with rfl | rfl | rfl <;> exact .v _
    · exact ⟨rfl, by simp, S', hst⟩
  obtain ⟨e, a', w', ⟨rfl, hdf, S', hst⟩, harr⟩ := wp_opsIn [2] _ w.drew hw2 b [] (c₀ :: cs) rfl trivial (RF_room _ _)
  have hstart : StepsIn (Machine.fenced P (RF none)) P (lone (Frame.enter P f #[.pointer (some ⟨bl, 0, none⟩)] .deferred) (c₀ :: cs) w) (lone (b.atR { tmps := #[.pointer (some ⟨bl, 0, none⟩), rp, .nilIface, undef], defers := [] } (.inRegion ops [2] :: [])) (c₀ :: cs) w.drew) := by
    rw [henter]
    exact .head (fenced_calm (n := 0) trivial (RF_room _ _) rfl) s0 (reach _ (hord _))
  have hend := StepsIn.trans hstart (StepsIn.trans harr (.one (fenced_calm (fr := b.atR a' []) (n := 0) trivial (RF_room _ _) rfl) (stepR_end rfl)))
  have hst' : Step (keys H) S w S' w' := ((step_drew hw (keys H)).trans hst (by simp))
  refine ⟨.returned (.tuple #[]), .returning, w', _, ⟨rfl, .tuple #[], S', H, rfl, rfl, ho1.step hst hw (by simp) (by simp), hst', fun b hb => .inl hb⟩, by rw [hc0]; exact hend, rfl, rfl, rfl, hdf, fn, hf, ?_⟩
  simp [results, hres]
end Go.Cap
end
section
set_option maxRecDepth 16000
namespace Go.Cap
variable {P : Program} {t : Env} {H : Heap} {dst : Option Tmp} {ty ty' tp : TypeId} {pos : String} {aft : Array Edge} {g : Option (Nat × Bool)}
theorem run_eq_iface0 {ms : Array (String × TypeId)} (w : World) {ty : TypeId} (hu : P.underlying ty = some (.interface ms)) (d : Nat) : (Op.equalIn (d + 1) ty .nilIface .nilIface).run P w = .ok true w := by
  simp [Op.equalIn, run_underlying hu]
theorem run_eq_iface {ms : Array (String × TypeId)} (w : World) {ty : TypeId} (hu : P.underlying ty = some (.interface ms)) : (Op.equal ty .nilIface .nilIface).run P w = .ok true w := run_eq_iface0 w hu 9999
theorem p_eI {x : Operand} {ms : Array (String × TypeId)} (hx : autoParam (t.ev x = .v .nilIface) zl._auto_1) (hu : P.underlying ty = some (.interface ms) := by rfl) : POp P t H ⟨dst, .binOp .eql ty x (.const .nilIface) ty', tp, pos, aft, g⟩ (.v (.bool (decide True))) :=
  pop_bin hx rfl fun w => by
    have := run_eq_iface w hu
    simp [eqGuard, binOp, this]
end Go.Cap
namespace Go.Proofs.YtjbokbikkcfjjaaGreat
open Go.Cap
set_option linter.unusedSimpArgs false
set_option linter.unusedVariables false
attribute [local irreducible] POp SimFrom DrawFrom EOp Sim FnH T.gp
theorem caught_fn (rp : Value) : FnP Tryz.prog 130 [.v rp, .v .nilIface] (fun r => r = .tup []) := by
  refine fn_enter Tryz.func130 (by rfl) (by rfl) ?_
  intro S0 w0
  show Sim _ _ [(0, .v rp), (1, .v .nilIface)] _ _
  refine zC ?_
  apply cr
  refine s_ p_mv ?_
  refine s_ p_eI ?_
  refine cn ?_
  refine zC ?_
  refine ci (fun _ => ?_) (fun h => absurd trivial h)
  refine zE ?_
  exact Le.refl _
theorem int1_fn {H : Heap} {i bl : Nat} {kb : Blk} {rp : Value} (hH : H[i]? = some (bl, kb)) (hd : kb.cells[0]? = some (.v rp)) : DfH Tryz.prog 129 #[.pointer (some ⟨bl, 0, none⟩)] H (fun H' => H' = H) := by
  have hm : Tryz.prog.follows .mixedOrders = true := by kernel_rfl
  refine dfH_rec (g := 130) Tryz.func129 (by rfl) (by rfl) (by rfl) hH hd (by rfl) (by kernel_rfl) (caught_fn rp) fun t => ?_
  have h2 : t % 2 = 0 ∨ t % 2 = 1 := by omega
  unfold Region.schedule Region.linearise
  rw [hm]
  rcases h2 with h | h
  · left
    simp [Region.linearise.go, List.range_succ, h, Region.binds, Nat.mod_one]
  · right
    simp [Region.linearise.go, List.range_succ, h, Region.binds, Nat.mod_one]
theorem text1_fn {H : Heap} {i bl : Nat} {kb : Blk} {rp : Value} (hH : H[i]? = some (bl, kb)) (hd : kb.cells[0]? = some (.v rp)) : DfH Tryz.prog 156 #[.pointer (some ⟨bl, 0, none⟩)] H (fun H' => H' = H) := by
  have hm : Tryz.prog.follows .mixedOrders = true := by kernel_rfl
  refine dfH_rec (g := 130) Tryz.func156 (by rfl) (by rfl) (by rfl) hH hd (by rfl) (by kernel_rfl) (caught_fn rp) fun t => ?_
  have h2 : t % 2 = 0 ∨ t % 2 = 1 := by omega
  unfold Region.schedule Region.linearise
  rw [hm]
  rcases h2 with h | h
  · left
    simp [Region.linearise.go, List.range_succ, h, Region.binds, Nat.mod_one]
  · right
    simp [Region.linearise.go, List.range_succ, h, Region.binds, Nat.mod_one]
end Go.Proofs.YtjbokbikkcfjjaaGreat
end
section
set_option maxRecDepth 16000
namespace Go.Proofs.YtjbokbikkcfjjaaGreat
open Go.Cap
set_option linter.unusedSimpArgs false
set_option linter.unusedVariables false
attribute [local irreducible] POp SimFrom DrawFrom EOp Sim FnH T.gp
def turnF (n : Int) : Nat := if n < 0 then 2 * (-(n + 1)).toNat + 1 else 2 * n.toNat
theorem turnF_lt {n : Int} (h0 : -9223372036854775808 ≤ n) (h1 : n ≤ 9223372036854775807) : turnF n < 18446744073709551616 := by
  unfold turnF; split <;> omega
def backF (u : Nat) : Int := if u % 2 = 1 then -((u / 2 : Nat) : Int) - 1 else ((u / 2 : Nat) : Int)
theorem back_turn (n : Int) : backF (turnF n) = n := by
  unfold backF turnF
  split <;> split <;> omega
def lebF : Nat → Nat → List UInt8
  | 0, u => [UInt8.ofNat u]
  | k + 1, u => if 128 ≤ u then UInt8.ofNat (u % 128 + 128) :: lebF k (u / 128) else [UInt8.ofNat u]
def intB (n : Int) : List UInt8 := lebF 9 (turnF n)
theorem lebF_len : ∀ (k u : Nat), 1 ≤ (lebF k u).length ∧ (lebF k u).length ≤ k + 1
  | 0, u => ⟨Nat.le_refl _, Nat.le_refl _⟩
  | k + 1, u => by
    unfold lebF
    split
    · have := lebF_len k (u / 128)
      simp only [List.length_cons]; omega
    · simp
theorem wrap_u64 {a : Int} (h0 : 0 ≤ a) (h1 : a < 18446744073709551616) : IntKind.u64.wrap a = a := by
  simp [IntKind.wrap, IntKind.bits, IntKind.signed]
  omega
theorem shl_one {a : Int} (h0 : 0 ≤ a) (h1 : a < 9223372036854775808) : bShl .u64 a 1 = 2 * a := by
  unfold bShl
  rw [show min (1 : Int).toNat IntKind.u64.bits = 1 by rfl, wrap_u64 (by omega) (by omega)]
  omega
theorem or_one {a : Nat} (h1 : a < 9223372036854775808) : bOr .u64 (2 * (a : Int)) 1 = ((2 * a + 1 : Nat) : Int) := by
  unfold bOr
  have e : (BitVec.ofInt IntKind.u64.bits (2 * (a : Int)) ||| BitVec.ofInt IntKind.u64.bits 1).toNat = 2 * a + 1 := by
    rw [BitVec.toNat_or, BitVec.toNat_ofInt, BitVec.toNat_ofInt]
    show ((2 * (a : Int)) % 18446744073709551616).toNat ||| ((1 : Int) % 18446744073709551616).toNat = _
    rw [show ((2 * (a : Int)) % 18446744073709551616).toNat = 2 * a by omega, show ((1 : Int) % 18446744073709551616).toNat = 1 by rfl]
    have := Nat.two_pow_add_eq_or_of_lt (i := 1) (b := 1) (by decide) a
    rw [Nat.pow_one] at this
    exact this.symm
  rw [e]
  exact wrap_u64 (by omega) (by omega)
theorem turned_fn (n : Int) (h0 : -9223372036854775808 ≤ n) (h1 : n ≤ 9223372036854775807) : FnP Tryz.prog 170 [ei n] (fun r => r = .v (.int .u64 (turnF n : Nat))) := by
  refine fn_enter Tryz.func170 (by rfl) (by rfl) ?_
  intro S0 w0
  show Sim _ _ [(0, ei n)] _ _
  refine zC ?_
  apply cr
  refine s_ p_as ?_
  refine zC ?_
  apply cr
  refine s_ p_mv ?_
  refine s_ p_lt ?_
  refine zC ?_
  refine ci ?_ ?_
  · intro hn
    refine zC ?_
    apply cr
    refine s_ p_mv ?_
    refine s_ p_ad ?_
    refine s_ (pop_neg (a := n + 1) (zl)) ?_
    refine s_ p_cv ?_
    refine s_ p_shl ?_
    refine s_ p_oor ?_
    refine s_ p_as ?_
    refine zC ?_
    refine zE ?_
    refine Le.of_eq ?_
    show T.v (.int .u64 (bOr .u64 (bShl .u64 (IntKind.u64.wrap (IntKind.i64.wrap (0 - (n + 1)))) 1) 1)) = _
    obtain ⟨a, ha⟩ : ∃ a : Nat, 0 - (n + 1) = (a : Int) := ⟨(0 - (n + 1)).toNat, by omega⟩
    have hw : IntKind.i64.wrap (a : Int) = (a : Int) := by
      simp [IntKind.wrap, IntKind.bits, IntKind.signed]; omega
    rw [ha, hw, wrap_u64 (by omega) (by omega), shl_one (by omega) (by omega), or_one (by omega)]
    have : turnF n = 2 * a + 1 := by unfold turnF; split <;> omega
    rw [this]
  · intro hn
    refine zC ?_
    apply cr
    refine s_ p_mv ?_
    refine s_ p_cv ?_
    refine s_ p_shl ?_
    refine s_ p_as ?_
    refine zC ?_
    refine zE ?_
    refine Le.of_eq ?_
    show T.v (.int .u64 (bShl .u64 (IntKind.u64.wrap n) 1)) = _
    rw [wrap_u64 (by omega) (by omega), shl_one (by omega) (by omega)]
    have : ((turnF n : Nat) : Int) = 2 * n := by unfold turnF; split <;> omega
    rw [this]
end Go.Proofs.YtjbokbikkcfjjaaGreat
end
section
set_option maxRecDepth 16000
namespace Go.Proofs.YtjbokbikkcfjjaaGreat
open Go.Cap
set_option linter.unusedSimpArgs false
set_option linter.unusedVariables false
attribute [local irreducible] POp SimFrom DrawFrom EOp Sim FnH T.gp
def tB : TypeId := 5
def bl (l : List UInt8) : T := .sl false (l.map eb)
def OB (l : List UInt8) (v : Value) (Hs : Heap) : Prop := OSl tB 1 (l.map eb) v Hs
theorem eb1 (l : List UInt8) : ∀ x ∈ l.map eb, x.cells.length = 1 := zk
theorem eb_ok (l : List UInt8) : ∀ x ∈ l.map eb, x.solid := solid_map _ (fun _ => .inl rfl) _
theorem OB.len {l : List UInt8} {v : Value} {Hs : Heap} (h : OB l v Hs) : ∃ p c, v = .slice p (l.map eb).length c := OSl.len h
theorem OB.lend {l : List UInt8} {v : Value} {Hs G : Heap} (h : OB l v Hs) (hG : ∀ p ∈ Hs, p ∈ G) : Lends G (.v v) (bl l) := OSl.lend h hG (eb1 l) (eb_ok l)
theorem cloneB_fn (f : Bool) (l : List UInt8) (hl : l.length ≤ 1000000000000) : FnH Tryz.prog 127 [.sl f (l.map eb)] [] (fun r H => ∃ v, r = .v v ∧ OB l v H) := by
  refine fn_enter Tryz.func127 (by rfl) (by rfl) ?_
  intro S0 w0
  show Sim _ _ [(0, T.sl f (l.map eb))] _ _
  refine zC ?_
  apply cr
  refine s_ p_as ?_
  refine zC ?_
  apply cr
  refine s_ p_mv ?_
  refine from_name 3 fun p c h1 _ => ?_
  refine s_ p_en ?_
  refine zC ?_
  refine ci ?_ ?_
  · intro hp
    have := h1 hp
    have : l = [] := by simpa using this
    subst this
    refine zC ?_
    apply cr
    refine s_ p_as ?_
    refine zC ?_
    refine zR ?_
    exact rh kR ⟨_, rfl, osl_nil⟩ (Le.refl _)
  · intro hp
    refine zC ?_
    apply cr
    refine s_ p_bs ?_
    refine from_name 5 fun q c' _ h2 => ?_
    have := h2 rfl
    subst this
    refine s_ p_mv ?_
    refine e_osA (ho := (osl_nil' : OSl tB 1 [] _ [])) (A := []) (B := []) (fun _ h => nomatch h) (fun v' Hs' ho => ?_)
    refine s_ p_as ?_
    refine zC ?_
    refine zR ?_
    exact rh kR ⟨_, rfl, by simpa [OB] using ho⟩ (Le.refl _)
theorem cloneB_fnD (f : Bool) (l : List UInt8) (hl : l.length ≤ 1000000000000) : FnP Tryz.prog 127 [.sl f (l.map eb)] (fun r => r = bl l) :=
  FnH.give (cloneB_fn f l hl) (by rintro r H ⟨v, rfl, ho⟩; exact ho.lend fun _ h => h)
theorem growB_fn (n : Nat) (hn : n ≤ 10000000000000) : FnH Tryz.prog 178 [.v (.slice none 0 0), ei n] [] (fun r H => ∃ v, r = .v v ∧ OB [] v H) := by
  refine fn_enter Tryz.func178 (by rfl) (by rfl) ?_
  intro S0 w0
  show Sim _ _ [(0, T.v (.slice none 0 0)), (1, ei n)] _ _
  refine zC ?_
  apply cr
  refine s_ p_as ?_
  refine zC ?_
  apply cr
  refine s_ p_mv ?_
  refine s_ p_lt ?_
  refine zC ?_
  refine ci ?_ ?_
  · intro h; exact absurd h (by omega)
  intro _
  refine zC ?_
  apply cr
  refine s_ p_mv ?_
  refine s_ p_mv ?_
  refine s_ p_cap ?_
  refine s_ p_mv ?_
  (first | refine s_ p_ln ?_ | refine s_ p_lr ?_)
  refine s_ p_su ?_
  refine s_ p_su ?_
  refine s_ p_as ?_
  refine zC ?_
  apply cr
  refine s_ p_mv ?_
  refine s_ p_gt ?_
  refine zC ?_
  have e0 : (n : Int) - (((0 : Nat) : Int) - ((0 : Nat) : Int)) = n := by omega
  rw [e0]
  refine ci ?_ ?_
  · intro h0
    have h0' : 0 < n := by omega
    refine zC ?_
    apply cr
    refine s_ p_mv ?_
    refine s_ p_mv ?_
    refine s_ p_cap ?_
    refine s_ (p_sbh (p := none) (n := 0) (c := 0) (v := .slice none 0 0) (Nat.le_refl _) rfl) ?_
    refine s_ p_mv ?_
    refine e_mk0 (n := n) (fun b c _ hc => ?_)
    refine s_ p_mv ?_
    (first | refine s_ p_ln ?_ | refine s_ p_lr ?_)
    refine s_ (p_sbh (p := some ⟨b, 0, none⟩) (n := n) (c := c) (j := ((0 : Nat) : Int)) (v := .slice (some ⟨b, 0, none⟩) 0 c) hc (by simp [subV, Addr.add])) ?_
    refine s_ p_as ?_
    refine zC ?_
    refine zC ?_
    apply cr
    refine s_ p_mv ?_
    refine s_ p_as ?_
    refine zC ?_
    refine zR ?_
    exact rh kR ⟨_, rfl, .inr ⟨b, c, rfl, by simp, rfl⟩⟩ (Le.refl _)
  · intro h0
    refine zC ?_
    apply cr
    refine s_ p_mv ?_
    refine s_ p_as ?_
    refine zC ?_
    refine zR ?_
    exact rh kR ⟨_, rfl, osl_nil⟩ (Le.refl _)
def catL (rows : List (Bool × List UInt8)) : List UInt8 := rows.flatMap (·.2)
def erow (p : Bool × List UInt8) : T := .sl p.1 (p.2.map eb)
theorem catL_next {rows : List (Bool × List UInt8)} {k : Nat} (hk : k < rows.length) : catL (rows.take (k + 1)) = catL (rows.take k) ++ (rows[k]'hk).2 := by
  unfold catL
  rw [List.take_succ_eq_append_getElem hk, List.flatMap_append]
  simp
theorem catL_le {rows : List (Bool × List UInt8)} (k : Nat) : (catL (rows.take k)).length ≤ (catL rows).length := by
  conv => rhs; rw [← List.take_append_drop k rows]
  unfold catL
  rw [List.flatMap_append, List.length_append]
  omega
theorem concat_fn (f : Bool) (rows : List (Bool × List UInt8)) (hn : (catL rows).length ≤ 100000000000) (hr : rows.length ≤ 1000000) : FnP Tryz.prog 174 [.sl f (rows.map erow)] (fun r => r = bl (catL rows)) := by
  refine FnH.give (Φ := fun r H => ∃ v, r = .v v ∧ OB (catL rows) v H) ?_ (by rintro r H ⟨v, rfl, ho⟩; exact ho.lend fun _ h => h)
  refine fn_enter Tryz.func174 (by rfl) (by rfl) ?_
  intro S0 w0
  show Sim _ _ [(0, T.sl f (rows.map erow))] _ _
  refine zC ?_
  apply cr
  refine s_ p_as ?_
  refine zC ?_
  apply cr
  refine s_ p_as ?_
  refine zC ?_
  apply cr
  refine s_ p_mv ?_
  (first | refine s_ p_ln ?_ | refine s_ p_lr ?_)
  refine s_ p_mv ?_
  refine zC ?_
  apply sim_loopL (σ := Nat) (ok := fun k => k ≤ rows.length) (env := fun k => [(11, ei k), (3, ei ((catL (rows.take k)).length : Nat)), (10, ei (rows.length : Nat)), (9, .sl f (rows.map erow)), (0, .sl f (rows.map erow))]) (heap := fun _ => []) (μ := fun k => rows.length - k) (s0 := 0)
  · exact Nat.zero_le _
  · refine ⟨?_, ?_, ?_, eL⟩
    · apply le_get; ((repeat (apply gS; rfl)); exact gZ)
      exact Le.refl _
    · apply le_get; ((repeat (apply gS; rfl)); exact gZ)
      exact Le.refl _
    · apply le_get; ((repeat (apply gS; rfl)); exact gZ)
      exact Le.of_eq (by simp [ei])
  · exact kR
  intro k hk
  refine zC ?_
  apply cr
  refine s_ p_lt ?_
  refine zC ?_
  refine ci ?_ ?_
  · intro hlt
    have hlt' : k < rows.length := by omega
    have hnx := catL_next hlt'
    have hle := catL_le (rows := rows) (k + 1)
    rw [hnx, List.length_append] at hle
    refine zC ?_
    apply cr
    (first | refine s_ (p_ix hix) ?_ | refine s_ (p_ix hix2) ?_ | refine s_ p_ia ?_ | refine s_ p_ir ?_)
    (first | refine s_ p_ld ?_ | refine s_ p_lo ?_)
    refine s_ p_as ?_
    refine zC ?_
    apply cr
    refine s_ p_mv ?_
    refine s_ p_mv ?_
    (first | refine s_ p_ln ?_ | refine s_ p_lr ?_)
    refine s_ p_ad ?_
    refine s_ p_as ?_
    refine zC ?_
    apply cr
    refine s_ p_mv ?_
    refine s_ p_lt ?_
    refine zC ?_
    refine ci ?_ ?_
    · intro h; exact absurd h (by simp only [List.length_map]; omega)
    intro _
    refine zC ?_
    apply cr
    refine s_ p_ad ?_
    refine s_ p_mv ?_
    refine zC ?_
    refine ⟨k + 1, by omega, (by simp only []; omega), ⟨?_, ?_, eL⟩, kR⟩
    · apply le_get; ((repeat (apply gS; rfl)); exact gZ)
      exact Le.refl _
    · apply le_get; ((repeat (apply gS; rfl)); exact gZ)
      exact Le.of_eq (by rw [hnx]; simp [ei])
  intro hge
  have hke : k = rows.length := by omega
  subst hke
  rw [List.take_length]
  refine zC ?_
  apply cr
  refine s_ p_mv ?_
  refine e_cH (Hs := []) (Hr := []) (growB_fn (catL rows).length (by omega)) (.refl _) (fun r H' ⟨v, hr, ho⟩ => ?_)
  subst hr
  refine s_ p_as ?_
  refine zC ?_
  apply cr
  refine s_ p_mv ?_
  (first | refine s_ p_ln ?_ | refine s_ p_lr ?_)
  refine s_ p_mv ?_
  refine zC ?_
  apply sim_loopL (σ := Nat × Value × Heap) (ok := fun s => s.1 ≤ rows.length ∧ OB (catL (rows.take s.1)) s.2.1 s.2.2) (env := fun s => [(27, ei s.1), (6, .v s.2.1), (26, ei (rows.length : Nat)), (25, .sl f (rows.map erow))]) (heap := fun s => s.2.2) (μ := fun s => rows.length - s.1) (s0 := (0, v, H'))
  · exact ⟨Nat.zero_le _, ho⟩
  · refine ⟨?_, ?_, ?_, eL⟩
    · apply le_get; ((repeat (apply gS; rfl)); exact gZ)
      exact Le.refl _
    · apply le_get; ((repeat (apply gS; rfl)); exact gZ)
      exact Le.refl _
    · apply le_get; ((repeat (apply gS; rfl)); exact gZ)
      exact Le.of_eq (by simp [ei])
  · rw [List.append_nil]; exact kR
  rintro ⟨k, v, H⟩ ⟨hk, ho⟩
  simp only at hk ho
  refine zC ?_
  apply cr
  refine s_ p_lt ?_
  refine zC ?_
  refine ci ?_ ?_
  · intro hlt
    simp only at hlt
    have hlt' : k < rows.length := by omega
    have hnx := catL_next hlt'
    have hle := catL_le (rows := rows) (k + 1)
    rw [hnx, List.length_append] at hle
    refine zC ?_
    apply cr
    (first | refine s_ (p_ix hix) ?_ | refine s_ (p_ix hix2) ?_ | refine s_ p_ia ?_ | refine s_ p_ir ?_)
    (first | refine s_ p_ld ?_ | refine s_ p_lo ?_)
    refine s_ p_as ?_
    refine zC ?_
    apply cr
    refine s_ p_mv ?_
    refine s_ p_mv ?_
    refine e_osA (ho := ho) (A := []) (B := []) (eb1 _) (fun v' Hs' ho' => ?_) (hH := by simp)
    refine s_ p_as ?_
    refine zC ?_
    apply cr
    refine s_ p_ad ?_
    refine s_ p_mv ?_
    refine zC ?_
    refine ⟨(k + 1, v', Hs'), ⟨by simp only; omega, ?_⟩, (by simp only []; omega), ⟨?_, ?_, eL⟩, by simp only [List.nil_append, List.append_nil]; exact kR⟩
    · simp only
      rw [hnx]
      unfold OB
      rw [List.map_append]
      exact ho'
    · apply le_get; ((repeat (apply gS; rfl)); exact gZ)
      exact Le.refl _
    · apply le_get; ((repeat (apply gS; rfl)); exact gZ)
      exact Le.refl _
  intro hge
  simp only at hge
  have hke : k = rows.length := by omega
  subst hke
  rw [List.take_length] at ho
  refine zC ?_
  apply cr
  refine s_ p_mv ?_
  refine s_ p_as ?_
  refine zC ?_
  refine zR ?_
  exact rh kR ⟨v, rfl, ho⟩ (Le.refl _)
end Go.Proofs.YtjbokbikkcfjjaaGreat
end
