/-
  Rows that grow: a slice that is nil, or one's own; blocks handed to a call, lent to one, given up for good.
  Function values; addresses that are not nil; numbers of one kind as of another; bits.
-/
import Derived.Test.YtjbokbikkcfjjaaGreatAah
section
namespace Go.Cap
section
variable {K : Ctx} {P : Program} {t : Env} {H H' Hr Hs G H1 : Heap} {dst : Option Tmp} {tp : TypeId} {pos : String} {aft : Array Edge} {g : Option (Nat × Bool)} {N : Env → Heap → Prop} {Ψ : Exit → Env → Heap → Prop}
variable {S : Nat → Prop} {w : World} {ty ty' : TypeId}
theorem keys_perm (h : H.Perm H') : (keys H).Perm (keys H') := h.map _
theorem Own.perm (h : Own S w H) (hp : H.Perm H') : Own S w H' :=
  ⟨(keys_perm hp).nodup_iff.1 h.nodup, fun b hb => h.apart b ((keys_perm hp).mem_iff.2 hb), fun p hpp => h.has p (hp.mem_iff.2 hpp)⟩
theorem R.perm {a : Act} (h : R K t H a w) (hp : H.Perm H') : R K t H' a w := by
  obtain ⟨S, h⟩ := h
  exact ⟨S, h.size, h.defers, h.step, h.own.perm hp, fun b hb => h.mine b ((keys_perm hp).mem_iff.2 hb), h.env⟩
theorem eop_perm {o : Oper} (h : EOp K t H o fun t' H' => ∃ H2, H'.Perm H2 ∧ N t' H2) : EOp K t H o N := fun a w hr Kc Q hk =>
  h a w hr Kc Q fun t' _ a' w' ⟨H2, hp, hn⟩ hr' => hk t' H2 a' w' hn (hr'.perm hp)
theorem sim_perm {c : Code} (hp : H.Perm H') (h : Sim K c t H' Ψ) : Sim K c t H Ψ := fun a w hr => h a w (hr.perm hp)
theorem keys_append : keys (H ++ H') = keys H ++ keys H' := by simp [keys]
theorem Own.left (h : Own S w (H ++ H')) : Own S w H := by
  refine ⟨?_, fun b hb => h.apart b (by rw [keys_append]; exact List.mem_append_left _ hb), fun p hp => h.has p (List.mem_append_left _ hp)⟩
  have := h.nodup
  rw [keys_append] at this
  exact (List.nodup_append.1 this).1
theorem Own.right (h : Own S w (H ++ H')) : Own S w H' := by
  refine ⟨?_, fun b hb => h.apart b (by rw [keys_append]; exact List.mem_append_right _ hb), fun p hp => h.has p (List.mem_append_right _ hp)⟩
  have := h.nodup
  rw [keys_append] at this
  exact (List.nodup_append.1 this).2.1
theorem Own.disj (h : Own S w (H ++ H')) : ∀ b ∈ keys H, b ∉ keys H' := by
  have := h.nodup
  rw [keys_append] at this
  intro b h1 h2
  exact (List.nodup_append.1 this).2.2 b h1 b h2 rfl
theorem R1.called {a : Act} (hr : R1 K t (Hs ++ Hr) a w S) {S' : Nat → Prop} {w' : World} {d : T} {v : Value} (hown : Own S' w' H') (hst : Step (keys Hs) S w S' w') (hkeys : ∀ b ∈ keys H', b ∈ keys Hs ∨ w.heap.size ≤ b) (hd : okDst dst K.n = true) (hrel : Rel S' w' d v) :
    R1 K (t.put dst d) (H' ++ Hr) (a.put dst v) w' S' := by
  have hsS : ∀ b ∈ keys Hs, ¬ S b := hr.own.left.apart
  have hm := hst.mono hr.wf hsS
  refine ⟨by simp [hr.size], (hr.defers.step hm (hst.objs fun b hb => by
    obtain ⟨p, hp', rfl⟩ := List.mem_map.1 hb
    exact (hr.own.left.has p hp').isMem) hst.size).put hd, hr.step.trans hst (fun b hb => hr.mine b (by rw [keys_append]; exact List.mem_append_left _ hb)), ⟨?_, ?_, ?_⟩, ?_, (hr.env.mono hm).put (by rw [hr.size]; exact hd) hrel⟩
  · rw [keys_append]
    refine List.nodup_append.2 ⟨hown.nodup, hr.own.right.nodup, fun b hb c hc' e => ?_⟩
    subst e
    rcases hkeys b hb with h1 | h1
    · exact hr.own.disj b h1 hc'
    · have := hr.own.right.lt b hc'; omega
  · intro b hb hS
    rw [keys_append] at hb
    rcases List.mem_append.1 hb with hb | hb
    · exact hown.apart b hb hS
    · rcases hst.new b hS with h1 | h1 | h1
      · exact hr.own.right.apart b hb h1
      · have := hr.own.right.lt b hb; omega
      · exact hr.own.disj b h1 hb
  · intro p hp'
    rcases List.mem_append.1 hp' with hp' | hp'
    · exact hown.has p hp'
    · have hk' : p.1 ∈ keys Hr := List.mem_map.2 ⟨p, hp', rfl⟩
      have h1 := hr.own.right.has p hp'
      exact h1.mono (hst.keep _ h1.lt (fun h => hr.own.disj _ h hk')) hm
  · intro b hb
    rw [keys_append] at hb
    rcases List.mem_append.1 hb with hb | hb
    · rcases hkeys b hb with h1 | h1
      · exact hr.mine b (by rw [keys_append]; exact List.mem_append_left _ h1)
      · have := hr.step.size; exact .inr (by omega)
    · exact hr.mine b (by rw [keys_append]; exact List.mem_append_right _ hb)
theorem eop_callH {f : FuncId} {xs : Array Operand} {ats : Array TypeId} {args : List T} {Φ : T → Heap → Prop} (hf : FnH K.P f args Hs Φ) (hp : H.Perm (Hs ++ Hr)) (hc : callable K.P f = true) (ha' : EvL t xs.toList args)
    (hd : okDst dst K.n = true) (hn : ∀ r H', Φ r H' → N (t.put dst r) (H' ++ Hr)) : EOp K t H ⟨dst, .call ⟨.value (.func f), xs, ats⟩, tp, pos, aft, g⟩ N := by
  have ha := ha'.eq
  refine EOp.of_w (fun c e => by cases e) ?_
  intro a w hR Kc Q hk
  obtain ⟨S, hr⟩ := hR.perm hp
  unfold Oper.wp
  have e : execOp a.eval ⟨dst, .call ⟨.value (.func f), xs, ats⟩, tp, pos, aft, g⟩ = callFunc f (#[] ++ xs.map a.eval ++ #[]) := rfl
  rw [e, run_call hc]
  simp only [Oper.upon]
  have hrl : RelL S w args (xs.toList.map a.eval) := ha ▸ rel_args xs.toList fun x h => hr.env.ev x
  have := hf S w _ hr.wf hr.own.left hrl
  have e2 : (xs.toList.map a.eval).toArray = #[] ++ xs.map a.eval ++ #[] := by apply Array.ext'; simp
  rw [← e2]
  refine this.mono ?_
  rintro e w' ⟨u, S', r, H', rfl, hΦ, hrel, hown, hst, hkeys⟩
  exact hk _ _ _ _ (hn r H' hΦ) ⟨S', hr.called hown hst hkeys hd hrel⟩
def Lends (G : Heap) (x y : T) : Prop := ∀ (S : Nat → Prop) (w : World) (u : Value), Own S w G → Rel S w x u → Rel (fun b => S b ∨ b ∈ keys G) w y u
def LendsL (G : Heap) (xs ys : List T) : Prop := ∀ (S : Nat → Prop) (w : World) (us : List Value), Own S w G → RelL S w xs us → RelL (fun b => S b ∨ b ∈ keys G) w ys us
theorem Lends.le {x y : T} (h : Le x y) : Lends G x y := fun S w u _ hr => (h S w u hr).mono fun _ hb => ⟨.inl hb, rfl⟩
theorem LendsL.le {xs ys : List T} (h : LeL xs ys) : LendsL G xs ys := fun S w u _ hr => (h S w u hr).mono fun _ hb => ⟨.inl hb, rfl⟩
theorem LendsL.nil : LendsL G [] [] := LendsL.le LeL.nil
theorem LendsL.cons {x y : T} {xs ys : List T} (h : Lends G x y) (hs : LendsL G xs ys) : LendsL G (x :: xs) (y :: ys) := by
  intro S w us ho hr
  cases hr with | cons _ u _ us h1 h2 => exact .cons _ _ _ _ (h S w u ho h1) (hs S w us ho h2)
theorem LendsL.append {a b c d : List T} (h : LendsL G a b) (h' : LendsL G c d) : LendsL G (a ++ c) (b ++ d) := by
  intro S w us ho hu
  have h1 := hu.take a.length
  have h2 := hu.drop a.length
  rw [List.take_left] at h1
  rw [List.drop_left] at h2
  have := (h S w _ ho h1).append (h' S w _ ho h2)
  rwa [List.take_append_drop] at this
theorem Lends.agg {xs ys : List T} (h : LendsL G xs ys) : Lends G (.agg xs) (.agg ys) := by
  intro S w u ho hr
  cases hr with | agg _ vs hr => exact .agg _ _ (h S w vs ho hr)
theorem Lends.tup {xs ys : List T} (h : LendsL G xs ys) : Lends G (.tup xs) (.tup ys) := by
  intro S w u ho hr
  cases hr with | tup _ vs hr => exact .tup _ _ (h S w vs ho hr)
theorem Lends.clo {f : FuncId} {fs gs cs ds : List T} (h : LendsL G fs gs) (h' : LendsL G cs ds) : Lends G (.clo f fs cs) (.clo f gs ds) := by
  intro S w u ho hr
  cases hr with | clo _ _ _ us vs r1 r2 => exact .clo _ _ _ _ _ (h S w us ho r1) (h' S w vs ho r2)
theorem Lends.ptr {b n : Nat} {e : TypeId} {cs : List T} {x : T} (hb : (b, (⟨e, cs, n⟩ : Blk)) ∈ G) (hx : x.isLeaf = true ∨ ∃ ys, x = .agg ys) (hc : LendsL G (cs.take x.cells.length) x.cells) (hl : 0 < x.cells.length) (hl2 : x.cells.length ≤ cs.length) : Lends G (.v (.pointer (some ⟨b, 0, none⟩))) (.adr x) := by
  intro S w u ho hr
  have := hr.v_eq
  subst this
  obtain ⟨us, h1, h2, h3, h4⟩ := ho.has _ hb
  simp only at h1 h2 h3 h4
  have h5 := h4.take x.cells.length
  rw [List.take_take, Nat.min_eq_left hl2] at h5
  have h6 := hc S w _ ho h5
  have h7 := h6.length
  rcases hx with hx | ⟨ys, rfl⟩
  · have hcx : x.cells = [x] := by
      cases x with
      | v u => cases u <;> simp_all [T.isLeaf, T.cells, Value.cells]
      | _ => simp_all [T.isLeaf, T.cells]
    rw [hcx] at h6
    simp only [List.length_singleton] at h6
    cases hu : us.toList.take 1 with
    | nil => rw [hu] at h6; cases h6
    | cons v r =>
      rw [hu] at h6
      cases h6 with
      | cons _ _ _ _ h8 h9 =>
        cases h9
        exact .adr x b 0 v us e (0, 0) (.inr (List.mem_map.2 ⟨_, hb, rfl⟩)) h1 h8 (by rw [(h8.leaf_cells hx).1]; simpa using hu)
  · exact .adr _ b 0 (.agg (us.toList.take ys.length).toArray) us e (0, 0) (.inr (List.mem_map.2 ⟨_, hb, rfl⟩)) h1 (.agg _ _ h6) (by simp [Value.cells])
def T.solid (x : T) : Prop := x.isLeaf = true ∨ ∃ ys, x = .agg ys
theorem solid_map {α : Type} (f : α → T) (h : ∀ y, (f y).solid) (l : List α) : ∀ x ∈ l.map f, x.solid := by
  intro x hx; obtain ⟨y, _, rfl⟩ := List.mem_map.1 hx; exact h y
theorem row_vals {kk : Nat} {S' : Nat → Prop} : ∀ (xs : List T) (us : List Value), RelL S' w (xs.flatMap T.cells) us → (∀ x ∈ xs, x.cells.length = kk) → (∀ x ∈ xs, x.solid) →
    ∃ vs, RelL S' w xs vs ∧ (∀ v ∈ vs, v.cells.size = kk) ∧ us = vs.flatMap fun v => v.cells.toList := by
  intro xs
  induction xs with
  | nil => intro us hu _ _; cases hu; exact ⟨[], .nil, by simp, rfl⟩
  | cons x xs ih =>
    intro us hu hk2 ha2
    rw [List.flatMap_cons] at hu
    have hxk := hk2 x List.mem_cons_self
    have h3 := hu.take kk
    have h4 := hu.drop kk
    rw [List.take_append_of_le_length (by omega), List.take_of_length_le (by omega)] at h3
    rw [List.drop_append_of_le_length (by omega), List.drop_of_length_le (by omega), List.nil_append] at h4
    obtain ⟨vs, hv1, hv2, hv3⟩ := ih _ h4 (fun y hy => hk2 y (List.mem_cons_of_mem _ hy)) (fun y hy => ha2 y (List.mem_cons_of_mem _ hy))
    have hl3 := h3.length
    have hx : ∃ v, Rel S' w x v ∧ v.cells.toList = us.take kk := by
      rcases ha2 x List.mem_cons_self with hleaf | ⟨ys, rfl⟩
      · have hcx : x.cells = [x] := by
          cases x with
          | v u => cases u <;> simp_all [T.isLeaf, T.cells, Value.cells]
          | _ => simp_all [T.isLeaf, T.cells]
        rw [hcx] at h3
        cases hul : us.take kk with
        | nil => rw [hul] at h3; cases h3
        | cons v rest =>
          rw [hul] at h3
          cases h3 with
          | cons _ _ _ _ h5 h6 => cases h6; exact ⟨v, h5, by rw [(h5.leaf_cells hleaf).1]⟩
      · exact ⟨.agg (us.take kk).toArray, .agg _ _ h3, by simp [Value.cells]⟩
    obtain ⟨v, hv, hvc⟩ := hx
    refine ⟨v :: vs, .cons _ _ _ _ hv hv1, ?_, ?_⟩
    · intro u hu2
      rcases List.mem_cons.1 hu2 with rfl | hu2
      · have : u.cells.toList.length = kk := by rw [hvc, hl3, hxk]
        simpa using this
      · exact hv2 u hu2
    · rw [List.flatMap_cons, hvc, ← hv3, List.take_append_drop]
def OSl (e : TypeId) (k : Nat) (xs : List T) (v : Value) (Hs : Heap) : Prop :=
  (xs = [] ∧ (∃ p, v = .slice p 0 0) ∧ Hs = []) ∨ ∃ b c, v = .slice (some ⟨b, 0, none⟩) xs.length c ∧ xs.length ≤ c ∧ Hs = [(b, ⟨e, xs.flatMap T.cells, c * k⟩)]
theorem osl_nil {e : TypeId} {k : Nat} : OSl e k [] (.slice none 0 0) [] := .inl ⟨rfl, ⟨_, rfl⟩, rfl⟩
theorem osl_nil' {e : TypeId} {k : Nat} {p : Option Addr} : OSl e k [] (.slice p 0 0) [] := .inl ⟨rfl, ⟨_, rfl⟩, rfl⟩
theorem OSl.len {e : TypeId} {k : Nat} {xs : List T} {v : Value} (h : OSl e k xs v Hs) : ∃ p c, v = .slice p xs.length c := by
  rcases h with ⟨rfl, ⟨p, rfl⟩, _⟩ | ⟨b, c, rfl, _⟩
  · exact ⟨_, _, rfl⟩
  · exact ⟨_, _, rfl⟩
theorem OSl.lends {e : TypeId} {k : Nat} {xs ys : List T} {v : Value} (h : OSl e k xs v Hs) (hG : ∀ p ∈ Hs, p ∈ G) (hl : LendsL G (xs.flatMap T.cells) (ys.flatMap T.cells)) (hn : xs.length = ys.length) (hkx : ∀ x ∈ xs, x.cells.length = k) (hk : ∀ y ∈ ys, y.cells.length = k) (hs : ∀ y ∈ ys, y.solid) : Lends G (.v v) (.sl false ys) := by
  intro S w u ho hr
  have := hr.v_eq
  subst this
  rcases h with ⟨rfl, ⟨p, rfl⟩, _⟩ | ⟨b, c, rfl, hc, rfl⟩
  · have : ys = [] := by cases ys <;> simp_all
    subst this
    exact .nil _ _ _ (by simp)
  · have hb : (b, (⟨e, xs.flatMap T.cells, c * k⟩ : Blk)) ∈ G := hG _ List.mem_cons_self
    obtain ⟨cs, h1, h2, h3, h4⟩ := ho.has _ hb
    simp only at h1 h2 h3 h4
    have h5 := hl S w _ ho h4
    obtain ⟨vs, hv1, hv2, hv3⟩ := row_vals ys _ h5 hk hs
    have hvl := hv1.length
    have hfl : (xs.flatMap T.cells).length = xs.length * k := flat_lenT xs hkx
    have hrel := Rel.sl (S := fun b => S b ∨ b ∈ keys G) (w := w) false ys b 0 c vs k cs e (0, 0) (.inr (List.mem_map.2 ⟨_, hb, rfl⟩)) h1 hv1 ⟨hv2, by rw [List.drop_zero, ← hv3, hfl, hvl, hn]⟩ (by simp) (by omega)
    rw [hvl, ← hn] at hrel
    exact hrel
theorem OSl.lend {e : TypeId} {k : Nat} {xs : List T} {v : Value} (h : OSl e k xs v Hs) (hG : ∀ p ∈ Hs, p ∈ G) (hk : ∀ y ∈ xs, y.cells.length = k) (hs : ∀ y ∈ xs, y.solid) : Lends G (.v v) (.sl false xs) :=
  h.lends hG (LendsL.le (LeL.refl _)) rfl hk hk hs
def EnvLend (G : Heap) (t : Env) : Env → Prop
  | [] => True
  | (k, d) :: r => Lends G (t.get k) d ∧ EnvLend G t r
theorem EnvLend.get : ∀ {rs : Env}, EnvLend G t rs → ∀ k, Lends G (t.get k) (Env.get (rs ++ t) k)
  | [], _, k => Lends.le (Le.refl _)
  | (j, d) :: r, h, k => by
    by_cases hk : j = k
    · subst hk
      have : Env.get (((j, d) :: r) ++ t) j = d := by simp [Env.get]
      rw [this]; exact h.1
    · have : Env.get (((j, d) :: r) ++ t) k = Env.get (r ++ t) k := by simp [Env.get, nbeq hk]
      rw [this]; exact EnvLend.get h.2 k
theorem R_lend {rs : Env} (hp : H.Perm (G ++ H1)) (hl : EnvLend G t rs) {a : Act} (hR : R K t H a w) : R K (rs ++ t) H1 a w := by
  obtain ⟨S, hr⟩ := hR.perm hp
  have hst : Step (keys G) S w (fun b => S b ∨ b ∈ keys G) w := ⟨rfl, rfl, rfl, Nat.le_refl _, fun _ _ _ => rfl, fun _ h => .inl h, fun c hc => hc.elim .inl fun e => .inr (.inr e),
    fun c hc => hc.elim (hr.wf c) fun e => hr.own.left.lt c e⟩
  refine ⟨fun b => S b ∨ b ∈ keys G, hr.size, ⟨hr.defers.low, hr.defers.marks, fun j hj => hr.defers.flags j fun u hu => hj u (EnvLend.get hl _ S w u hr.own.left hu)⟩, hr.step.trans hst (fun b hb => hr.mine b (by rw [keys_append]; exact List.mem_append_left _ hb)), ⟨hr.own.right.nodup, fun b hb hS => ?_, fun p hp' => (hr.own.right.has p hp').mono rfl fun b hb => ⟨.inl hb, rfl⟩⟩,
    fun b hb => hr.mine b (by rw [keys_append]; exact List.mem_append_right _ hb), fun k => EnvLend.get hl k S w _ hr.own.left (hr.env k)⟩
  rcases hS with h | h
  · exact hr.own.right.apart b hb h
  · exact hr.own.disj b h hb
theorem sim_lend {c : Code} {G H1 : Heap} (rs : Env) (hp : H.Perm (G ++ H1)) (hl : EnvLend G t rs) (h : Sim K c (rs ++ t) H1 Ψ) : Sim K c t H Ψ := fun a w hr => h a w (R_lend hp hl hr)
theorem Le.slice0 (p : Option Addr) (f : Bool) : Le (.v (.slice p 0 0)) (.sl f []) := by
  intro S w u hu
  cases hu; exact .nil f p 0 (fun _ => rfl)
def T.isV : T → Bool
  | .v _ => true
  | _ => false
def T.plain : T → Bool
  | .v _ => true
  | .tup xs => xs.all T.isV
  | _ => false
theorem relL_plain {S S' : Nat → Prop} {w w' : World} : ∀ {xs : List T} {us : List Value}, xs.all T.isV = true → RelL S w xs us → RelL S' w' xs us
  | [], _, _, .nil => .nil
  | x :: xs, _, h, .cons _ _ _ _ h1 h2 => by
    simp only [List.all_cons, Bool.and_eq_true] at h
    refine .cons _ _ _ _ ?_ (relL_plain h.2 h2)
    cases x with
    | v y => have := h1.v_eq; subst this; exact .v _
    | _ => exact absurd h.1 (by simp [T.isV])
theorem Has.plain {S S' : Nat → Prop} {w : World} {b : Nat} {k : Blk} (h : Has S w b k) (hv : k.vals.all T.isV = true) : Has S' w b k := by
  rcases h.cases with ⟨ty, hT, cs, a1, a2, a3, a4⟩ | ⟨es, clock, rfl, ms, h1, h2⟩
  · obtain ⟨_, xs, n⟩ := k
    cases hT
    exact ⟨cs, a1, a2, a3, relL_plain hv a4⟩
  · refine ⟨⟨ms, h1, ?_⟩, rfl, rfl⟩
    replace hv : (es.map (·.2.1)).all T.isV = true := hv
    clear h1 h
    generalize ms.toList = l at h2
    induction h2 with
    | nil => exact .nil
    | cons k x n v es ms hx _ ih =>
      simp only [List.map_cons, List.all_cons, Bool.and_eq_true] at hv
      refine .cons k x n v es ms ?_ (ih hv.2)
      cases x with
      | v u => have := hx.v_eq; subst this; exact .v _
      | _ => simp [T.isV] at hv
theorem rel_plain {S S' : Nat → Prop} {w w' : World} {d : T} {u : Value} (h : d.plain = true) (hr : Rel S w d u) : Rel S' w' d u := by
  cases d with
  | v y => have := hr.v_eq; subst this; exact .v _
  | tup xs => cases hr with | tup _ vs h1 => exact .tup xs vs (relL_plain h h1)
  | _ => simp [T.plain] at h
theorem pop_call_lend {f : FuncId} {xs : Array Operand} {ats : Array TypeId} {args args' : List T} {d : T} (hpl : d.plain = true) (hf : FnP P f args' (fun r => r = d)) (hp : ∃ H1, H.Perm (G ++ H1)) (hc : callable P f = true) (ha' : EvL t xs.toList args) (hl : LendsL G args args') :
    POp P t H ⟨dst, .call ⟨.value (.func f), xs, ats⟩, tp, pos, aft, g⟩ d := by
  have ha := ha'.eq
  obtain ⟨H1, hp⟩ := hp
  intro S w a hw ho hx Kc Q hk
  have ho := (ho.perm hp).left
  unfold Oper.wp
  have e : execOp a.eval ⟨dst, .call ⟨.value (.func f), xs, ats⟩, tp, pos, aft, g⟩ = callFunc f (#[] ++ xs.map a.eval ++ #[]) := rfl
  rw [e, run_call hc]
  simp only [Oper.upon]
  have hr : RelL S w args (xs.toList.map a.eval) := ha ▸ rel_args xs.toList fun x h => hx x (by simp [Op.operands, Call.operands]; exact .inr (by simpa using h))
  have hw' : Wf (fun b => S b ∨ b ∈ keys G) w := fun b hb => hb.elim (hw b) (ho.lt b)
  have := hf _ w _ hw' (Own.nil _ w) (hl S w _ ho hr)
  have e2 : (xs.toList.map a.eval).toArray = #[] ++ xs.map a.eval ++ #[] := by apply Array.ext'; simp
  rw [← e2]
  refine this.mono ?_
  rintro e w' ⟨u, S', r, H', rfl, ⟨rfl, rfl⟩, hrel, _, hst, _⟩
  exact hk S w' u ⟨hst.os, hst.tape, hst.output, hst.size, hst.keep, fun _ h => h, fun _ h => .inl h, fun b hb => Nat.lt_of_lt_of_le (hw b hb) hst.size⟩ (rel_plain hpl hrel)
theorem eop_append_os {x y : Operand} {e : TypeId} {k : Nat} {xs ys : List T} {v : Value} {A B : Heap} {f : Bool} {dy d : T} {by_ : Nat} [hz : ElemZC K.P ty d by_] (ho : OSl e k xs v Hs) (hH : H = A ++ (Hs ++ B)) (hx : t.ev x = .v v) (hy : t.ev y = dy) (hyl : Le dy (.sl f ys)) (h0 : 0 < ys.length)
    (hkd : d.cells.length = k) (hk0 : elemTy K.P ty = e) (hs : isSliceTy K.P ty' = true) (hkx : ∀ x ∈ xs, x.cells.length = k) (hky : ∀ x ∈ ys, x.cells.length = k) (hyleaf : ∀ x ∈ ys, allLeaf x.cells = true) (hb : (xs.length + ys.length) * by_ ≤ 140737488355328) (hm : xs.length + ys.length ≤ 9223372036854775807)
    {kd : Tmp} (hd : Nat.blt kd K.n = true) (h : ∀ v' Hs', OSl e k (xs ++ ys) v' Hs' → N ((kd, .v v') :: t) (A ++ (Hs' ++ B))) : EOp K t H ⟨some kd, .call ⟨.builtin .append, #[x, y], #[ty, ty']⟩, tp, pos, aft, g⟩ N := by
  subst hkd
  rcases ho with ⟨rfl, ⟨p, rfl⟩, rfl⟩ | ⟨b, c, rfl, hc, rfl⟩
  · refine eop_perm (eop_append_new (xs := []) (ys := ys) hx (Le.slice0 p true) hy hyl hs (by simp) hky h0 (by simpa using hb) (by simpa using hm) hd fun b c hb' hc' => ?_)
    refine ⟨A ++ ([(b, ⟨e, ys.flatMap T.cells, c * d.cells.length⟩)] ++ B), ?_, ?_⟩
    · subst hH
      rw [← hk0]
      simp only [List.nil_append, List.flatMap_nil]
      exact List.perm_middle.symm
    · have := h (.slice (some ⟨b, 0, none⟩) ys.length c) [(b, ⟨e, ys.flatMap T.cells, c * d.cells.length⟩)] (.inr ⟨b, c, by simp, by simpa using hc', by simp⟩)
      simpa using this
  · have hi : H[A.length]? = some (b, (⟨e, xs.flatMap T.cells, c * d.cells.length⟩ : Blk)) := by subst hH; simp
    refine eop_append_own A.length hx hi hy hyl hs (congrArg BTy.ty hk0.symm) (flat_lenT xs hkx) rfl hky hyleaf hb hm hd fun b' c' h1 h2 => ?_
    have e1 : H.set A.length (b', ⟨e, xs.flatMap T.cells ++ ys.flatMap T.cells, c' * d.cells.length⟩) = A ++ ([(b', ⟨e, (xs ++ ys).flatMap T.cells, c' * d.cells.length⟩)] ++ B) := by
      subst hH
      rw [List.set_append_right _ _ (Nat.le_refl _)]
      simp
    rw [e1]
    have := h (.slice (some ⟨b', 0, none⟩) (xs.length + ys.length) c') _ (.inr ⟨b', c', by simp, by simpa using h2, rfl⟩)
    exact this
variable {ops : Array Oper} {i : Nat} {l : List Oper} {kd : Tmp} {eff : List Nat} {pend : List Pend} {al : List (Nat × Oper)}
theorem e_os {x y : Operand} {e : TypeId} {k : Nat} {xs ys : List T} {v : Value} {A B : Heap} {f : Bool} {dy d : T} {by_ : Nat} [hz : ElemZC K.P ty d by_] (ho : OSl e k xs v Hs) (hkx : ∀ x ∈ xs, x.cells.length = k)
    (h : ∀ v' Hs', OSl e k (xs ++ ys) v' Hs' → SimFrom K ops (i + 1) l ((kd, .v v') :: t) (A ++ (Hs' ++ B)) N) (hH : H = A ++ (Hs ++ B) := by rfl) (hx : autoParam (t.ev x = .v v) zl._auto_1) (hy : autoParam (t.ev y = dy) zl._auto_1) (hyl : autoParam (Le dy (.sl f ys)) zL._auto_1) (h0 : autoParam (0 < ys.length) zo._auto_1)
    (hkd : d.cells.length = k := by rfl) (hk0 : elemTy K.P ty = e := by rfl) (hs : isSliceTy K.P ty' = true := by rfl) (hky : autoParam (∀ x ∈ ys, x.cells.length = k) zk._auto_1) (hyleaf : autoParam (∀ x ∈ ys, allLeaf x.cells = true) zf._auto_1)
    (hb : autoParam ((xs.length + ys.length) * by_ ≤ 140737488355328) zo._auto_1) (hm : autoParam (xs.length + ys.length ≤ 9223372036854775807) zo._auto_1) (hd : Nat.blt kd K.n = true := by rfl) :
    SimFrom K ops i (⟨some kd, .call ⟨.builtin .append, #[x, y], #[ty, ty']⟩, tp, pos, aft, none⟩ :: l) t H N := from_e (eop_append_os ho hH hx hy hyl h0 hkd hk0 hs hkx hky hyleaf hb hm hd h)
theorem a_os {x y : Operand} {e : TypeId} {k : Nat} {xs ys : List T} {v : Value} {A B : Heap} {f : Bool} {dy d : T} {by_ : Nat} [hz : ElemZC K.P ty d by_] (ho : OSl e k xs v Hs) (hkx : ∀ x ∈ xs, x.cells.length = k)
    (h : ∀ v' Hs', OSl e k (xs ++ ys) v' Hs' → PendOk ops ⟨some kd, .call ⟨.builtin .append, #[x, y], #[ty, ty']⟩, tp, pos, aft, none⟩ (A ++ (Hs' ++ B)) pend ∧ ∃ pend', PDrop ops ⟨some kd, .call ⟨.builtin .append, #[x, y], #[ty, ty']⟩, tp, pos, aft, none⟩ pend pend' ∧ AnyFrom K ops eff N al ((kd, .v v') :: t) (A ++ (Hs' ++ B)) pend') (hH : H = A ++ (Hs ++ B) := by rfl) (hx : autoParam (t.ev x = .v v) zl._auto_1) (hy : autoParam (t.ev y = dy) zl._auto_1) (hyl : autoParam (Le dy (.sl f ys)) zL._auto_1) (h0 : autoParam (0 < ys.length) zo._auto_1)
    (hkd : d.cells.length = k := by rfl) (hk0 : elemTy K.P ty = e := by rfl) (hs : isSliceTy K.P ty' = true := by rfl) (hky : autoParam (∀ x ∈ ys, x.cells.length = k) zk._auto_1) (hyleaf : autoParam (∀ x ∈ ys, allLeaf x.cells = true) zf._auto_1)
    (hb : autoParam ((xs.length + ys.length) * by_ ≤ 140737488355328) zo._auto_1) (hm : autoParam (xs.length + ys.length ≤ 9223372036854775807) zo._auto_1) (hd : Nat.blt kd K.n = true := by rfl) (he : memN eff i = true := by rfl) :
    AnyFrom K ops eff N ((i, ⟨some kd, .call ⟨.builtin .append, #[x, y], #[ty, ty']⟩, tp, pos, aft, none⟩) :: al) t H pend :=
  a_effP (fun _ h1 => eop_append_os ho hH ((h1 x (by simp [Op.operands, Call.operands])).trans hx) ((h1 y (by simp [Op.operands, Call.operands])).trans hy) hyl h0 hkd hk0 hs hkx hky hyleaf hb hm hd fun v' Hs' ho' => let ⟨h1, p', h2, h3⟩ := h v' Hs' ho'; ⟨_, p', rfl, h1, h2, h3⟩) he
theorem kR : ∀ {H : Heap}, HeapFront H H
  | [] => .nil []
  | (b, k) :: r => .keep b k k r r (BlkLe.refl k) kR
theorem kH {r r' : Heap} (hs : HeapFront r r') : ∀ {A : Heap}, HeapFront (A ++ r) (A ++ r')
  | [] => hs
  | (b, k) :: A => .keep b k k _ _ (BlkLe.refl k) (kH hs)
theorem p_cL {f : FuncId} {xs : Array Operand} {ats : Array TypeId} {args args' : List T} {d : T} (hf : FnP P f args' (fun r => r = d)) (hl : LendsL G args args') (hp : ∃ H1, H.Perm (G ++ H1)) (hc : callable P f = true := by rfl) (ha' : autoParam (EvL t xs.toList args) ze._auto_1) (hpl : d.plain = true := by rfl) :
    POp P t H ⟨dst, .call ⟨.value (.func f), xs, ats⟩, tp, pos, aft, g⟩ d := pop_call_lend hpl hf hp hc ha' hl
theorem a_cL {f : FuncId} {xs : Array Operand} {ats : Array TypeId} {args args' : List T} {d : T} (hf : FnP K.P f args' (fun r => r = d)) (hl : LendsL G args args') (hp : ∃ H1, H.Perm (G ++ H1))
    (h : AnyFrom K ops eff N al ((kd, d) :: t) H (⟨i, ⟨some kd, .call ⟨.value (.func f), xs, ats⟩, tp, pos, aft, none⟩, d, fun H => ∃ H1, H.Perm (G ++ H1)⟩ :: pend)) (hc : callable K.P f = true := by rfl) (ha' : autoParam (EvL t xs.toList args) ze._auto_1) (hpl : d.plain = true := by rfl) (he : memN eff i = false := by rfl) :
    AnyFrom K ops eff N ((i, ⟨some kd, .call ⟨.value (.func f), xs, ats⟩, tp, pos, aft, none⟩) :: al) t H pend := a_F (F := fun H => ∃ H1, H.Perm (G ++ H1)) (fun _ hp' => pop_call_lend hpl hf hp' hc ha' hl) hp h he
end
end Go.Cap
end
section
namespace Go.Cap
section
variable {K : Ctx} {P : Program} {t : Env} {H Hr Hs : Heap} {dst : Option Tmp} {tp : TypeId} {pos : String} {aft : Array Edge} {g : Option (Nat × Bool)} {N : Env → Heap → Prop}
variable {S : Nat → Prop} {w : World} {ty ty' : TypeId} {x y : Operand} {d : T} {k k' : IntKind} {a b : Int}
theorem EvL.rel {xs : List Operand} {ds : List T} (h : EvL t xs ds) {a : Act} (hr : ∀ x ∈ xs, Rel S w (t.ev x) (a.eval x)) : RelL S w ds (xs.map a.eval) := h.eq ▸ rel_args xs hr
theorem pop_makeFunc {f : FuncId} {fs cs : Array Operand} {ds es : List T} (h1 : EvL t fs.toList ds) (h2 : EvL t cs.toList es) : POp P t H ⟨dst, .makeFunc (.func f) fs cs, tp, pos, aft, g⟩ (.clo f ds es) :=
  POp.still fun S w a _ _ hr => by
    have r1 := h1.rel (a := a) fun x hx => hr x (by simp [Op.operands]; exact .inl (by simpa using hx))
    have r2 := h2.rel (a := a) fun x hx => hr x (by simp [Op.operands]; exact .inr (by simpa using hx))
    refine ⟨_, by simp [execOp, Instr.makeFunc]; rfl, ?_⟩
    have := Rel.clo f ds es _ _ r1 r2
    have e1 : (fs.toList.map a.eval).toArray = fs.map a.eval := by apply Array.ext'; simp
    have e2 : (cs.toList.map a.eval).toArray = cs.map a.eval := by apply Array.ext'; simp
    rw [e1, e2] at this
    exact this
theorem run_clo {f : FuncId} (h : callable P f = true) {c : Call} {a : Act} {us vs : List Value} {x : Operand} (hc : c.callee = .value x) (hx : a.eval x = .func (.func f) us.toArray vs.toArray) (w : World) :
    (execOp a.eval ⟨dst, .call c, tp, pos, aft, g⟩).run P w = .ok (.enter f (us ++ c.args.toList.map a.eval ++ vs).toArray) w := by
  have : (execOp a.eval ⟨dst, .call c, tp, pos, aft, g⟩).run P w = (callFunc f (us.toArray ++ c.args.map a.eval ++ vs.toArray)).run P w := by
    simp [execOp, resolve, hc, hx, Deferred.ofValue, invoke]
  rw [this, run_call h]
  congr 2
  apply Array.ext'
  simp
theorem eop_callV {f : FuncId} {xs : Array Operand} {ats : Array TypeId} {fs cs args : List T} {Φ : T → Heap → Prop} (hx : t.ev x = .clo f fs cs) (hf : FnH K.P f (fs ++ args ++ cs) Hs Φ) (hp : H.Perm (Hs ++ Hr)) (hc : callable K.P f = true) (ha : EvL t xs.toList args)
    (hd : okDst dst K.n = true) (hn : ∀ r H', Φ r H' → N (t.put dst r) (H' ++ Hr)) : EOp K t H ⟨dst, .call ⟨.value x, xs, ats⟩, tp, pos, aft, g⟩ N := by
  refine EOp.of_w (fun c e => by cases e) ?_
  intro a w hR Kc Q hk
  obtain ⟨S, hr⟩ := hR.perm hp
  have h1 := hr.env.ev x; rw [hx] at h1
  generalize hu : a.eval x = u at h1
  cases h1 with
  | clo _ _ _ us vs r1 r2 =>
    unfold Oper.wp
    rw [run_clo hc rfl hu]
    simp only [Oper.upon]
    have r3 := ha.rel (a := a) fun x _ => hr.env.ev x
    refine (hf S w _ hr.wf hr.own.left ((r1.append r3).append r2)).mono ?_
    rintro e w' ⟨u, S', r, H', rfl, hΦ, hrel, hown, hst, hkeys⟩
    exact hk _ _ _ _ (hn r H' hΦ) ⟨S', hr.called hown hst hkeys hd hrel⟩
def T.there : T → Bool
  | .adr _ | .v (.pointer (some _)) | .clo .. => true
  | _ => false
theorem pop_nilCheck (hx : t.ev x = d) (hd : d.there = true) : POp P t H ⟨dst, .nilCheck x, tp, pos, aft, g⟩ d :=
  POp.still fun S w a _ _ hr => by
    have h1 := hr x (by simp [Op.operands]); rw [hx] at h1
    refine ⟨a.eval x, ?_, h1⟩
    generalize hu : a.eval x = u at h1
    cases h1 with
    | adr => simp [execOp, hu]
    | clo => simp [execOp, hu]
    | v u =>
      cases u with
      | pointer p => cases p <;> simp_all [T.there, execOp]
      | _ => simp [T.there] at hd
    | _ => simp [T.there] at hd
theorem pop_conv (hx : t.ev x = .v (.int k a)) (h1 : (P.underlying ty).isSome = true) (h2 : P.underlying ty' = some (.int k')) : POp P t H ⟨dst, .convert ty ty' x, tp, pos, aft, g⟩ (.v (.int k' (k'.wrap a))) :=
  POp.still fun S w c _ _ hr => by
    have hv := hr x (by simp [Op.operands]); rw [hx] at hv
    obtain ⟨u, hu⟩ := Option.isSome_iff_exists.1 h1
    refine ⟨.int k' (k'.wrap a), ?_, .v _⟩
    have : (convert ty ty' (.int k a)).run P w = .ok (.int k' (k'.wrap a)) w := by
      unfold convert
      simp [run_underlying hu, run_underlying h2, Conv.intToInt]
    simp [execOp, hv.v_eq, this]
variable {ops : Array Oper} {i n : Nat} {l : List Oper} {kd : Tmp} {Ψ : Exit → Env → Heap → Prop} {eff : List Nat} {pend : List Pend} {al : List (Nat × Oper)}
theorem p_mf {f : FuncId} {fs cs : Array Operand} {ds es : List T} (h1 : autoParam (EvL t fs.toList ds) ze._auto_1) (h2 : autoParam (EvL t cs.toList es) ze._auto_1) : POp P t H ⟨dst, .makeFunc (.func f) fs cs, tp, pos, aft, g⟩ (.clo f ds es) := pop_makeFunc h1 h2
theorem p_nc (hx : autoParam (t.ev x = d) zl._auto_1) (hd : d.there = true := by rfl) : POp P t H ⟨dst, .nilCheck x, tp, pos, aft, g⟩ d := pop_nilCheck hx hd
theorem p_cv (hx : autoParam (t.ev x = .v (.int k a)) zl._auto_1) (h1 : (P.underlying ty).isSome = true := by rfl) (h2 : P.underlying ty' = some (.int k') := by rfl) : POp P t H ⟨dst, .convert ty ty' x, tp, pos, aft, g⟩ (.v (.int k' (k'.wrap a))) := pop_conv hx h1 h2
theorem p_adw (hx : autoParam (t.ev x = .v (.int k a)) zl._auto_1) (hy : autoParam (t.ev y = .v (.int k b)) zl._auto_1) : POp P t H ⟨dst, .binOp .add ty x y ty', tp, pos, aft, g⟩ (.v (.int k (k.wrap (a + b)))) := pop_add hx hy
theorem p_muw (hx : autoParam (t.ev x = .v (.int k a)) zl._auto_1) (hy : autoParam (t.ev y = .v (.int k b)) zl._auto_1) : POp P t H ⟨dst, .binOp .mul ty x y ty', tp, pos, aft, g⟩ (.v (.int k (k.wrap (a * b)))) := pop_mul hx hy
def bAnd (k : IntKind) (a b : Int) : Int := k.wrap (BitVec.ofInt k.bits a &&& BitVec.ofInt k.bits b).toNat
def bOr (k : IntKind) (a b : Int) : Int := k.wrap (BitVec.ofInt k.bits a ||| BitVec.ofInt k.bits b).toNat
def bXor (k : IntKind) (a b : Int) : Int := k.wrap (BitVec.ofInt k.bits a ^^^ BitVec.ofInt k.bits b).toNat
def bShl (k : IntKind) (a b : Int) : Int := k.wrap (a * 2 ^ (min b.toNat k.bits))
def bShr (k : IntKind) (a b : Int) : Int := a.fdiv (2 ^ (min b.toNat k.bits))
theorem p_and (hx : autoParam (t.ev x = .v (.int k a)) zl._auto_1) (hy : autoParam (t.ev y = .v (.int k b)) zl._auto_1) : POp P t H ⟨dst, .binOp .and ty x y ty', tp, pos, aft, g⟩ (.v (.int k (bAnd k a b))) := pop_and hx hy
theorem p_oor (hx : autoParam (t.ev x = .v (.int k a)) zl._auto_1) (hy : autoParam (t.ev y = .v (.int k b)) zl._auto_1) : POp P t H ⟨dst, .binOp .or ty x y ty', tp, pos, aft, g⟩ (.v (.int k (bOr k a b))) := pop_or hx hy
theorem p_xor (hx : autoParam (t.ev x = .v (.int k a)) zl._auto_1) (hy : autoParam (t.ev y = .v (.int k b)) zl._auto_1) : POp P t H ⟨dst, .binOp .xor ty x y ty', tp, pos, aft, g⟩ (.v (.int k (bXor k a b))) := pop_xor hx hy
theorem p_shl (hx : autoParam (t.ev x = .v (.int k a)) zl._auto_1) (hy : autoParam (t.ev y = .v (.int k' b)) zl._auto_1) (h : autoParam (0 ≤ b) zo._auto_1) : POp P t H ⟨dst, .binOp .shl ty x y ty', tp, pos, aft, g⟩ (.v (.int k (bShl k a b))) := pop_shl hx hy h
theorem p_shr (hx : autoParam (t.ev x = .v (.int k a)) zl._auto_1) (hy : autoParam (t.ev y = .v (.int k' b)) zl._auto_1) (h : autoParam (0 ≤ b) zo._auto_1) : POp P t H ⟨dst, .binOp .shr ty x y ty', tp, pos, aft, g⟩ (.v (.int k (bShr k a b))) := pop_shr hx hy h
theorem p_ar {b o n k : Nat} {i : Int} {kd : IntKind} [hs : ArrC P ty n k] (hx : autoParam (t.ev x = .v (.pointer (some ⟨b, o, none⟩))) zl._auto_1) (hy : autoParam (t.ev y = .v (.int kd i)) zl._auto_1) (h0 : autoParam (0 ≤ i) zo._auto_1) (h1 : autoParam (i < n) zo._auto_1) :
    POp P t H ⟨dst, .indexAddr ty x y, tp, pos, aft, g⟩ (.v (.pointer (some ⟨b, o + i.toNat * k, none⟩))) := pop_indexAddr_arr hx hy h0 h1
theorem e_cH {f : FuncId} {xs : Array Operand} {ats : Array TypeId} {args : List T} {Φ : T → Heap → Prop} (hf : FnH K.P f args Hs Φ) (hp : H.Perm (Hs ++ Hr)) (hn : ∀ r H', Φ r H' → SimFrom K ops (i + 1) l (t.put dst r) (H' ++ Hr) N) (hc : callable K.P f = true := by rfl) (ha' : autoParam (EvL t xs.toList args) ze._auto_1)
    (hd : okDst dst K.n = true := by rfl) : SimFrom K ops i (⟨dst, .call ⟨.value (.func f), xs, ats⟩, tp, pos, aft, none⟩ :: l) t H N := from_op rfl (eop_callH hf hp hc ha' hd hn)
theorem e_vH {f : FuncId} {xs : Array Operand} {ats : Array TypeId} {fs cs args : List T} {Φ : T → Heap → Prop} (hf : FnH K.P f (fs ++ args ++ cs) Hs Φ) (hp : H.Perm (Hs ++ Hr)) (hn : ∀ r H', Φ r H' → SimFrom K ops (i + 1) l (t.put dst r) (H' ++ Hr) N) (hx : autoParam (t.ev x = .clo f fs cs) zl._auto_1) (hc : callable K.P f = true := by rfl) (ha : autoParam (EvL t xs.toList args) ze._auto_1)
    (hd : okDst dst K.n = true := by rfl) : SimFrom K ops i (⟨dst, .call ⟨.value x, xs, ats⟩, tp, pos, aft, none⟩ :: l) t H N := from_op rfl (eop_callV hx hf hp hc ha hd hn)
end
end Go.Cap
end
