/-
  Walking over data: what holds of the slots is a list 'Env' of data, of memory a list 'Heap' of owned blocks; a rule for each kind of code; a region in whatever order.
-/
import Derived.Test.YtbdpfclnomiicaaGreatBase
namespace Go.Cap
abbrev Env := List (Nat × T)
def Env.get : Env → Nat → T
  | [], _ => .any
  | (j, d) :: r, k => bif Nat.beq j k then d else Env.get r k
def Env.put (t : Env) (dst : Option Tmp) (d : T) : Env := match dst with
  | some k => (k, d) :: t
  | none => t
def Env.ev (t : Env) : Operand → T
  | .tmp k => t.get k
  | .const x => T.ofVal x
  | .global g => .v (.pointer (some ⟨g, 0, none⟩))
  | .func f => .v (.func (.func f) #[] #[])
def okDst (dst : Option Tmp) (n : Nat) : Bool := match dst with
  | some k => Nat.blt k n
  | none => true
def Objs (w w' : World) : Prop := ∀ (b : Nat) (o : Obj), w.heap[b]? = some o → o.isCells = false → w'.heap[b]? = some o
theorem Step.objs {F : List Nat} {S S' : Nat → Prop} {w w' : World} (h : Step F S w S' w') (hF : ∀ b ∈ F, ∃ cs ty fz, w.heap[b]? = some (.cells cs ty fz)) : Objs w w' := fun b o hb ho =>
  (h.keep b (Array.getElem?_eq_some_iff.1 hb).1 (fun hm => by
    obtain ⟨cs, ty, fz, h1⟩ := hF b hm
    rw [hb] at h1; cases h1; cases ho)).trans hb
theorem Step.objs0 {S S' : Nat → Prop} {w w' : World} (h : Step [] S w S' w') : Objs w w' := h.objs (by simp)
structure Flags where
  X : Nat → World → Prop
  hX : ∀ j w w', X j w → Objs w w' → X j w'
def Flags.none : Flags := ⟨fun _ _ => True, fun _ _ _ _ _ => trivial⟩
structure Ctx where
  P : Program
  n : Nat
  S0 : Nat → Prop
  w0 : World
  F0 : List Nat
  rd : Option Nat
  fl : Flags
  mb : Nat
  D : List Deferred
def RF (r : Option Nat) : Fence := { Fence.wide with round := r }
theorem RF_room (r : Option Nat) (n : Nat) : (RF r).room n := fun d hd => by cases hd
theorem calls_RF {P : Program} {f : FuncId} {args : Array Value} {w : World} {Q : Ending → World → Prop} (r : Option Nat) (h : Calls P f args w Q) : CallsIn (RF r) 0 P f args w Q := (callsIn_wide (n := 0)).2 h
def InEnv (S : Nat → Prop) (w : World) (t : Env) (a : Act) : Prop := ∀ k, Rel S w (t.get k) (a.tmps.getD k undef)
def Mks (D : List Deferred) (mb : Nat) (ds : List Deferred) (w : World) : Prop :=
  ∃ ms ms0, ds = ms ++ (D ++ ms0) ∧ (ms ++ ms0).Nodup ∧ ∀ d ∈ ms ++ ms0, ∃ E, d = ⟨.collected E, #[]⟩ ∧ mb ≤ E ∧ w.heap[E]? = some (.deferred (some []))
theorem Mks.zero {mb : Nat} {w : World} : Mks [] mb [] w := ⟨[], [], rfl, List.nodup_nil, by simp⟩
theorem Mks.nil {mb : Nat} {ds : List Deferred} {w : World} (h : Mks [] mb ds w) : ds.Nodup ∧ ∀ d ∈ ds, ∃ E, d = ⟨.collected E, #[]⟩ ∧ mb ≤ E ∧ w.heap[E]? = some (.deferred (some [])) := by
  obtain ⟨ms, ms0, rfl, h1, h2⟩ := h
  rw [List.nil_append]
  exact ⟨h1, h2⟩
theorem Mks.step {D : List Deferred} {mb : Nat} {ds : List Deferred} {w w' : World} (h : Mks D mb ds w) (ho : ∀ E : Nat, w.heap[E]? = some (.deferred (some [])) → w'.heap[E]? = some (.deferred (some []))) : Mks D mb ds w' := by
  obtain ⟨ms, ms0, h0, h1, h2⟩ := h
  exact ⟨ms, ms0, h0, h1, fun d hd => let ⟨E, e1, e2, e3⟩ := h2 d hd; ⟨E, e1, e2, ho E e3⟩⟩
theorem Mks.cons {D : List Deferred} {mb : Nat} {ds : List Deferred} {w w' : World} (h : Mks D mb ds w) (ho : ∀ E : Nat, w.heap[E]? = some (.deferred (some [])) → w'.heap[E]? = some (.deferred (some []))) (hmb : mb ≤ w.heap.size) (hw : w'.heap[w.heap.size]? = some (.deferred (some []))) :
    Mks D mb (⟨.collected w.heap.size, #[]⟩ :: ds) w' := by
  obtain ⟨ms, ms0, rfl, h1, h2⟩ := h
  refine ⟨⟨.collected w.heap.size, #[]⟩ :: ms, ms0, rfl, List.nodup_cons.2 ⟨fun hm => ?_, h1⟩, fun d hd => ?_⟩
  · obtain ⟨E, e1, _, e3⟩ := h2 _ hm
    cases e1
    have := (Array.getElem?_eq_some_iff.1 e3).1
    omega
  · rcases List.mem_cons.1 hd with rfl | hd
    · exact ⟨_, rfl, hmb, hw⟩
    · obtain ⟨E, e1, e2, e3⟩ := h2 d hd
      exact ⟨E, e1, e2, ho E e3⟩
structure Ext (K : Ctx) (S : Nat → Prop) (t : Env) (a : Act) (w : World) : Prop where
  low : K.mb ≤ w.heap.size
  marks : Mks K.D K.mb a.defers w
  flags : ∀ j, (∀ u, Rel S w (t.get (K.n + j)) u → u = undef) → K.fl.X j w
theorem Ext.env {K : Ctx} {S : Nat → Prop} {t t' : Env} {a : Act} {w : World} (h : Ext K S t a w) (he : ∀ j, t.get (K.n + j) = t'.get (K.n + j)) : Ext K S t' a w := ⟨h.low, h.marks, fun j hj => h.flags j (by rw [he]; exact hj)⟩
theorem Ext.step {K : Ctx} {S S' : Nat → Prop} {t : Env} {a : Act} {w w' : World} (h : Ext K S t a w) (hm : ∀ b, S b → S' b ∧ w'.heap[b]? = w.heap[b]?) (ho : Objs w w') (hl : w.heap.size ≤ w'.heap.size) : Ext K S' t a w' :=
  ⟨Nat.le_trans h.low hl, h.marks.step fun D h3 => ho D _ h3 rfl, fun j hj => K.fl.hX j w w' (h.flags j fun u hu => hj u (hu.mono hm)) ho⟩
structure R1 (K : Ctx) (t : Env) (H : Heap) (a : Act) (w : World) (S : Nat → Prop) : Prop where
  size : a.tmps.size = K.n
  defers : Ext K S t a w
  step : Step K.F0 K.S0 K.w0 S w
  own : Own S w H
  mine : ∀ b ∈ keys H, b ∈ K.F0 ∨ K.w0.heap.size ≤ b
  env : InEnv S w t a
def R (K : Ctx) (t : Env) (H : Heap) (a : Act) (w : World) : Prop := ∃ S, R1 K t H a w S
def Sim (K : Ctx) (c : Code) (t : Env) (H : Heap) (Ψ : Exit → Env → Heap → Prop) : Prop :=
  ∀ a w, R K t H a w → c.wpIn (RF K.rd) 0 K.P (fun e a' w' => ∃ t' H', Ψ e t' H' ∧ R K t' H' a' w') a w
theorem nbeq {j k : Nat} (h : ¬ j = k) : Nat.beq j k = false := by
  cases hb : Nat.beq j k
  · rfl
  · exact absurd (Nat.eq_of_beq_eq_true hb) h
theorem Env.get_put_self (t : Env) (k : Nat) (d : T) : (t.put (some k) d).get k = d := by simp [Env.put, Env.get]
theorem Env.get_put_ne (t : Env) {j k : Nat} (d : T) (h : j ≠ k) : (t.put (some j) d).get k = t.get k := by
  simp [Env.put, Env.get, nbeq h]
theorem Act.getD_put (a : Act) (j k : Nat) (v : Value) (hj : j < a.tmps.size) : (a.put (some j) v).tmps.getD k undef = if j = k then v else a.tmps.getD k undef := by
  simp only [Act.put, Array.getD_eq_getD_getElem?, Array.getElem?_setIfInBounds]
  by_cases h : j = k
  · subst h; simp [hj]
  · simp [h]
theorem InEnv.put {S : Nat → Prop} {w : World} {t : Env} {a : Act} (h : InEnv S w t a) {dst : Option Tmp} {d : T} {v : Value} (hd : okDst dst a.tmps.size = true)
    (hv : Rel S w d v) : InEnv S w (t.put dst d) (a.put dst v) := by
  cases dst with
  | none => exact h
  | some j =>
    intro k
    have hj : j < a.tmps.size := by simpa [okDst] using hd
    rw [Act.getD_put a j k v hj]
    by_cases hk : j = k
    · subst hk; rw [Env.get_put_self, if_pos rfl]; exact hv
    · rw [Env.get_put_ne t d hk, if_neg hk]; exact h k
theorem InEnv.mono {S S' : Nat → Prop} {w w' : World} {t : Env} {a : Act} (h : InEnv S w t a) (hm : ∀ b, S b → S' b ∧ w'.heap[b]? = w.heap[b]?) : InEnv S' w' t a :=
  fun k => (h k).mono hm
theorem InEnv.ev {S : Nat → Prop} {w : World} {t : Env} {a : Act} (h : InEnv S w t a) (x : Operand) : Rel S w (t.ev x) (a.eval x) := by
  cases x with
  | tmp k => exact h k
  | const x => exact .ofVal x
  | global g => exact .v _
  | func f => exact .v _
@[simp] theorem Act.size_put (a : Act) (dst : Option Tmp) (v : Value) : (a.put dst v).tmps.size = a.tmps.size := by cases dst <;> simp [Act.put]
@[simp] theorem Act.defers_put (a : Act) (dst : Option Tmp) (v : Value) : (a.put dst v).defers = a.defers := by cases dst <;> rfl
theorem Ext.put {K : Ctx} {S : Nat → Prop} {t : Env} {a : Act} {w : World} {dst : Option Tmp} {d : T} {v : Value} (h : Ext K S t a w) (hd : okDst dst K.n = true) : Ext K S (t.put dst d) (a.put dst v) w :=
  ⟨h.low, by simpa using h.marks, fun j hj => h.flags j (by
    cases dst with
    | none => exact hj
    | some k =>
      have hk : k < K.n := by simpa [okDst] using hd
      have hne : ¬ k = K.n + j := Nat.ne_of_lt (Nat.lt_of_lt_of_le hk (Nat.le_add_right _ _))
      rwa [Env.get_put_ne t d hne] at hj)⟩
theorem R1.wf {K : Ctx} {t : Env} {H : Heap} {a : Act} {w : World} {S : Nat → Prop} (h : R1 K t H a w S) : Wf S w := h.step.wf
theorem R1.pure {K : Ctx} {t : Env} {H : Heap} {a : Act} {w w' : World} {S S' : Nat → Prop} (h : R1 K t H a w S) (hs : Step [] S w S' w') {dst : Option Tmp} {d : T} {v : Value}
    (hd : okDst dst K.n = true) (hv : Rel S' w' d v) : R1 K (t.put dst d) H (a.put dst v) w' S' where
  size := by simp [h.size]
  defers := (h.defers.step (hs.mono h.wf (by simp)) hs.objs0 hs.size).put hd
  step := h.step.trans hs (by simp)
  own := h.own.step hs h.wf (by simp) (by simp)
  mine := h.mine
  env := (h.env.mono (hs.mono h.wf (by simp))).put (by rw [h.size]; exact hd) hv
def EnvLe (t : Env) : Env → Prop
  | [] => True
  | (k, d) :: r => Le (t.get k) d ∧ EnvLe t r
theorem EnvLe.get {t : Env} : ∀ {t' : Env}, EnvLe t t' → ∀ k, Le (t.get k) (t'.get k)
  | [], _, k => Le.any _
  | (j, d) :: r, h, k => by
    by_cases hk : j = k
    · subst hk; have : Env.get ((j, d) :: r) j = d := by simp [Env.get]
      rw [this]; exact h.1
    · have hb : Nat.beq j k = false := nbeq hk
      have : Env.get ((j, d) :: r) k = Env.get r k := by simp [Env.get, hb]
      rw [this]; exact EnvLe.get h.2 k
def BlkLe (k k' : Blk) : Prop := k'.ty = k.ty ∧ k'.size = k.size ∧ k'.cells.length ≤ k.cells.length ∧ LeL (k.cells.take k'.cells.length) k'.cells
theorem BlkLe.refl (k : Blk) : BlkLe k k := ⟨rfl, rfl, Nat.le_refl _, by simpa using LeL.refl _⟩
theorem BlkLe.cells {ty : TypeId} {n : Nat} {cs cs' : List T} (hl : cs'.length = cs.length) (h : LeL cs cs') : BlkLe ⟨ty, cs, n⟩ ⟨ty, cs', n⟩ :=
  ⟨rfl, rfl, Nat.le_of_eq hl, by simpa [hl] using h⟩
theorem Has.le {S : Nat → Prop} {w : World} {b : Nat} {k k' : Blk} (h : Has S w b k) (hl : BlkLe k k') : Has S w b k' := by
  obtain ⟨cs, h1, h2, h3, h4⟩ := h
  obtain ⟨e1, e2, e3, e4⟩ := hl
  refine ⟨cs, by rw [e1]; exact h1, by rw [e2]; exact h2, by rw [e2]; omega, ?_⟩
  have := h4.take k'.cells.length
  rw [List.take_take, Nat.min_eq_left e3] at this
  exact e4 S w _ this
def HeapLe (H H' : Heap) : Prop := (keys H').Nodup ∧ ∀ p ∈ H', ∃ k, (p.1, k) ∈ H ∧ BlkLe k p.2
theorem Own.le {S : Nat → Prop} {w : World} {H H' : Heap} (h : Own S w H) (hl : HeapLe H H') : Own S w H' where
  nodup := hl.1
  apart := by
    intro b hb
    obtain ⟨p, hp, rfl⟩ := List.mem_map.1 hb
    obtain ⟨k, hk, _⟩ := hl.2 p hp
    exact h.apart _ (List.mem_map.2 ⟨_, hk, rfl⟩)
  has := by
    intro p hp
    obtain ⟨k, hk, hle⟩ := hl.2 p hp
    exact (h.has _ hk).le hle
theorem HeapLe.sub {H H' : Heap} (hl : HeapLe H H') : ∀ b ∈ keys H', b ∈ keys H := by
  intro b hb
  obtain ⟨p, hp, rfl⟩ := List.mem_map.1 hb
  obtain ⟨k, hk, _⟩ := hl.2 p hp
  exact List.mem_map.2 ⟨_, hk, rfl⟩
theorem R.le {K : Ctx} {t t' : Env} {H H' : Heap} {a : Act} {w : World} (h : R K t H a w) (ht : EnvLe t t') (hH : (Cap.keys H).Nodup → HeapLe H H') : R K t' H' a w := by
  obtain ⟨S, h⟩ := h
  exact ⟨S, h.size, ⟨h.defers.low, h.defers.marks, fun j hj => h.defers.flags j fun u hu => hj u (ht.get _ _ _ _ hu)⟩, h.step, h.own.le (hH h.own.nodup), fun b hb => h.mine b ((hH h.own.nodup).sub b hb), fun k => ht.get k _ _ _ (h.env k)⟩
theorem HeapLe.nil (H : Heap) : HeapLe H [] := ⟨by simp [Cap.keys], by simp⟩
section rules
variable {K : Ctx} {t : Env} {H : Heap} {Ψ : Exit → Env → Heap → Prop}
theorem sim_mono {c : Code} {Ψ' : Exit → Env → Heap → Prop} (h : Sim K c t H Ψ) (hm : ∀ e t H, Ψ e t H → Ψ' e t H) : Sim K c t H Ψ' :=
  fun a w hr => wpIn_mono (h a w hr) fun _ _ _ ⟨t', H', hp, hr'⟩ => ⟨t', H', hm _ _ _ hp, hr'⟩
theorem sim_weaken {c : Code} {t' : Env} {H' : Heap} (ht : EnvLe t t') (hH : (Cap.keys H).Nodup → HeapLe H H') (h : Sim K c t' H' Ψ) : Sim K c t H Ψ :=
  fun a w hr => h a w (hr.le ht hH)
theorem sim_skip (h : Ψ .normal t H) : Sim K .skip t H Ψ := fun _ _ hr => wpIn_skip ⟨t, H, h, hr⟩
theorem sim_label {l : Nat} (h : Ψ .normal t H) : Sim K (.label l) t H Ψ := fun _ _ hr => wpIn_label ⟨t, H, h, hr⟩
theorem sim_exit {id : Nat} (h : Ψ (.exit id) t H) : Sim K (.exit id) t H Ψ := fun _ _ hr => wpIn_exit ⟨t, H, h, hr⟩
theorem sim_ret (h : Ψ .ret t H) : Sim K .ret t H Ψ := fun _ _ hr => wpIn_ret ⟨t, H, h, hr⟩
def thenΨ (K : Ctx) (y : Code) (Ψ : Exit → Env → Heap → Prop) : Exit → Env → Heap → Prop
  | .normal, t, H => Sim K y t H Ψ
  | e, t, H => Ψ e t H
theorem sim_seq {x y : Code} (h : Sim K x t H (thenΨ K y Ψ)) : Sim K (.seq x y) t H Ψ := fun a w hr =>
  wpIn_seq (wpIn_mono (h a w hr) fun e a' w' ⟨t', H', hp, hr'⟩ => by cases e <;> first | exact hp a' w' hr' | exact ⟨t', H', hp, hr'⟩)
def blockΨ (id : Nat) (Ψ : Exit → Env → Heap → Prop) : Exit → Env → Heap → Prop
  | .exit id', t, H => bif Nat.beq id' id then Ψ .normal t H else Ψ (.exit id') t H
  | e, t, H => Ψ e t H
theorem sim_block {id : Nat} {c : Code} (h : Sim K c t H (blockΨ id Ψ)) : Sim K (.block id c) t H Ψ := fun a w hr =>
  wpIn_block (wpIn_mono (h a w hr) fun e a' w' ⟨t', H', hp, hr'⟩ => by
    cases e with
    | exit id' =>
      simp only [blockΨ] at hp
      simp only [Exit.inBlock]
      by_cases hid : id' = id
      · have : Nat.beq id' id = true := by simpa using hid
        rw [this, cond_true] at hp
        rw [if_pos hid]; exact ⟨t', H', hp, hr'⟩
      · have : Nat.beq id' id = false := nbeq hid
        rw [this, cond_false] at hp
        rw [if_neg hid]; exact ⟨t', H', hp, hr'⟩
    | _ => exact ⟨t', H', hp, hr'⟩)
theorem sim_cond_bool {c : Operand} {x y : Code} {b : Bool} (hc : t.ev c = .v (.bool b)) (ht : b = true → Sim K x t H Ψ) (hf : b = false → Sim K y t H Ψ) :
    Sim K (.cond c x y) t H Ψ := fun a w hr => by
  have hb : a.eval c = .bool b := by
    obtain ⟨S, h⟩ := hr
    have := h.env.ev c
    rw [hc] at this
    exact this.v_eq
  exact wpIn_cond_split hb (fun e => ht e a w hr) (fun e => hf e a w hr)
theorem sim_cond {c : Operand} {x y : Code} {p : Prop} {_ : Decidable p} (hc : t.ev c = .v (.bool (decide p))) (ht : p → Sim K x t H Ψ) (hf : ¬ p → Sim K y t H Ψ) :
    Sim K (.cond c x y) t H Ψ := sim_cond_bool hc (fun e => ht (of_decide_eq_true e)) (fun e => hf (of_decide_eq_false e))
def loopΨ {σ : Type} (inv : σ → Env → Heap → Prop) (μ : σ → Nat) (s : σ) (Ψ : Exit → Env → Heap → Prop) : Exit → Env → Heap → Prop
  | .normal, t, H => ∃ s', μ s' < μ s ∧ inv s' t H
  | e, t, H => Ψ e t H
theorem sim_loop {σ : Type} {c : Code} (inv : σ → Env → Heap → Prop) (μ : σ → Nat) (s : σ) (h0 : inv s t H)
    (round : ∀ s t H, inv s t H → Sim K c t H (loopΨ inv μ s Ψ)) : Sim K (.loop c) t H Ψ := by
  intro a w hr b k cs hro hb hrm
  have key : ∀ n s t H a w, μ s = n → inv s t H → R K t H a w →
      ∃ e a' w', (∃ t' H', Ψ e t' H' ∧ R K t' H' a' w') ∧ ArrivesIn (Machine.fenced K.P (RF K.rd)) K.P (lone (b.atR a (.code c :: .inLoop c :: k)) cs w) b k cs e a' w' := by
    intro n
    induction n using Nat.strongRecOn with
    | _ n ih =>
      intro s t H a w hn hi hr
      obtain ⟨e, a₁, w₁, ⟨t₁, H₁, hq, hr₁⟩, harr⟩ := round s t H hi a w hr b (.inLoop c :: k) cs hro hb hrm
      cases e with
      | normal =>
        obtain ⟨s', hlt, hi'⟩ := hq
        obtain ⟨e₂, a₂, w₂, hq₂, harr₂⟩ := ih (μ s') (hn ▸ hlt) s' t₁ H₁ a₁ w₁ rfl hi' hr₁
        exact ⟨e₂, a₂, w₂, hq₂, .of_steps (StepsIn.trans harr (.one (fenced_calm hb hrm rfl) stepR_inLoop)) harr₂⟩
      | exit id => exact ⟨_, a₁, w₁, ⟨t₁, H₁, hq, hr₁⟩, .pass (x := .inLoop c) rfl (fun _ _ => .inl (by simp)) harr⟩
      | goto l => exact ⟨_, a₁, w₁, ⟨t₁, H₁, hq, hr₁⟩, .pass (x := .inLoop c) rfl (fun _ _ => .inl (by simp)) harr⟩
      | ret => exact ⟨_, a₁, w₁, ⟨t₁, H₁, hq, hr₁⟩, .pass (x := .inLoop c) rfl (fun _ _ => .inl (by simp)) harr⟩
      | panic ch => exact ⟨_, a₁, w₁, ⟨t₁, H₁, hq, hr₁⟩, .pass (x := .inLoop c) rfl (fun _ _ => .inl (by simp)) harr⟩
      | outgrown => exact ⟨_, a₁, w₁, ⟨t₁, H₁, hq, hr₁⟩, .pass (x := .inLoop c) rfl (fun _ _ => .inl (by simp)) harr⟩
  obtain ⟨e, a', w', hq, harr⟩ := key _ s t H a w rfl h0 hr
  exact ⟨e, a', w', hq, .of_steps (.one (fenced_calm hb hrm rfl) stepR_loop) harr⟩
end rules
end Go.Cap
