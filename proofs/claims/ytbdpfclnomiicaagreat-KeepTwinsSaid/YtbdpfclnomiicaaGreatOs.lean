/-
  Slices that grow: their values by name, told from nil, cut off, copied by a call that is lent blocks.
-/
import Derived.Test.YtbdpfclnomiicaaGreatFun
set_option maxRecDepth 4000
namespace Go.Cap
section
variable {K : Ctx} {P : Program} {t : Env} {H Hs G Hr : Heap} {S : Nat → Prop} {w : World} {N : Env → Heap → Prop} {Ψ : Exit → Env → Heap → Prop}
theorem R.name {k : Nat} {a : Act} (hd : Nat.blt k K.n = true) (hR : R K t H a w) : ∃ S u, Rel S w (t.get k) u ∧ R1 K ((k, .v u) :: t) H a w S := by
  obtain ⟨S, hr⟩ := hR
  have hk : k < K.n := Nat.blt_eq.mp hd
  refine ⟨S, _, hr.env k, hr.size, hr.defers.env (fun j => ?_), hr.step, hr.own, hr.mine, fun j => ?_⟩
  · simp [Env.get, nbeq (show ¬ k = K.n + j by omega)]
  · by_cases h : k = j
    · subst h
      simp only [Env.get, Nat.beq_refl]
      exact .v _
    · simpa [Env.get, nbeq h] using hr.env j
theorem rel_slice {f : Bool} {xs : List T} {u : Value} (h : Rel S w (.sl f xs) u) : ∃ p c, u = .slice p xs.length c ∧ (p = none → xs = []) ∧ (f = true → c = xs.length) := by
  cases h with
  | nil _ p c hf => exact ⟨p, c, rfl, fun _ => rfl, hf⟩
  | sl _ _ b o c vs k cs ty fz hs hb hr hg hf hc => exact ⟨some ⟨b, o, none⟩, c, by rw [hr.length], (fun e => by cases e), fun e => by rw [hf e, hr.length]⟩
theorem from_name {ops : Array Oper} {i : Nat} {l : List Oper} {f : Bool} {xs : List T} (k : Nat) (h : ∀ p c', (p = none → xs = []) → (f = true → c' = xs.length) → SimFrom K ops i l ((k, .v (.slice p xs.length c')) :: t) H N) (hg : t.get k = .sl f xs := by rfl) (hd : Nat.blt k K.n = true := by rfl) : SimFrom K ops i l t H N := fun hl a w Q hR hq => by
  obtain ⟨S, u, h1, h2⟩ := hR.name hd
  rw [hg] at h1
  obtain ⟨p, c', rfl, h3, h4⟩ := rel_slice h1
  exact h p c' h3 h4 hl a w Q ⟨S, h2⟩ hq
variable {dst : Option Tmp} {tp : TypeId} {pos : String} {aft : Array Edge} {g : Option (Nat × Bool)} {ty ty' : TypeId}
theorem run_eq_slice0 {e : TypeId} (w : World) {ty : TypeId} {p : Option Addr} {n c : Nat} (hu : P.underlying ty = some (.slice e)) (d : Nat) : (Op.equalIn (d + 1) ty (.slice p n c) (.slice none 0 0)).run P w = .ok (decide (p = none)) w := by
  cases p <;> simp [Op.equalIn, run_underlying hu]
theorem run_eq_slice {e : TypeId} (w : World) {ty : TypeId} {p : Option Addr} {n c : Nat} (hu : P.underlying ty = some (.slice e)) : (Op.equal ty (.slice p n c) (.slice none 0 0)).run P w = .ok (decide (p = none)) w := run_eq_slice0 w hu 9999
theorem pop_eqNil {x : Operand} {p : Option Addr} {n c : Nat} {e : TypeId} (hx : t.ev x = .v (.slice p n c)) (hu : P.underlying ty = some (.slice e)) : POp P t H ⟨dst, .binOp .eql ty x (.const (.slice none 0 0)) ty', tp, pos, aft, g⟩ (.v (.bool (decide (p = none)))) :=
  pop_bin hx ev_nil fun w => by
    have := run_eq_slice w (p := p) (n := n) (c := c) hu
    simp [eqGuard, binOp, this]
theorem eop_callL {f : FuncId} {xs : Array Operand} {ats : Array TypeId} {args args' : List T} {Φ : T → Heap → Prop} (hf : FnH K.P f args' [] Φ) (hp : H.Perm (G ++ Hr)) (hc : callable K.P f = true) (ha' : EvL t xs.toList args) (hl : LendsL G args args')
    (hΦ : ∀ r H', Φ r H' → r.plain = true ∧ ∀ p ∈ H', p.2.cells.all T.isV = true) (hd : okDst dst K.n = true) (hn : ∀ r H', Φ r H' → N (t.put dst r) (H' ++ H)) : EOp K t H ⟨dst, .call ⟨.value (.func f), xs, ats⟩, tp, pos, aft, g⟩ N := by
  have ha := ha'.eq
  refine EOp.of_w (fun c e => by cases e) ?_
  intro a w ⟨S, hr⟩ Kc Q hk
  unfold Oper.wp
  have e : execOp a.eval ⟨dst, .call ⟨.value (.func f), xs, ats⟩, tp, pos, aft, g⟩ = callFunc f (#[] ++ xs.map a.eval ++ #[]) := rfl
  rw [e, run_call hc]
  simp only [Oper.upon]
  have hrl : RelL S w args (xs.toList.map a.eval) := ha ▸ rel_args xs.toList fun x h => hr.env.ev x
  have hog : Own S w G := (hr.own.perm hp).left
  have hw' : Wf (fun b => S b ∨ b ∈ keys G) w := fun b hb => hb.elim (hr.wf b) (hog.lt b)
  have := hf _ w _ hw' (Own.nil _ w) (hl S w _ hog hrl)
  have e2 : (xs.toList.map a.eval).toArray = #[] ++ xs.map a.eval ++ #[] := by apply Array.ext'; simp
  rw [← e2]
  refine this.mono ?_
  rintro e w' ⟨u, S', r, H', rfl, hΦ', hrel, hown, hst, hkeys⟩
  have h1 := hΦ r H' hΦ'
  have hst' : Step (keys []) S w S w' := ⟨hst.os, hst.tape, hst.output, hst.size, hst.keep, fun _ h => h, fun _ h => .inl h, fun b hb => Nat.lt_of_lt_of_le (hr.wf b hb) hst.size⟩
  have hown' : Own S w' H' := ⟨hown.nodup, fun b hb hS => by
    rcases hkeys b hb with h | h
    · exact absurd h (by simp [keys])
    · have := hr.wf b hS; omega, fun p hp' => by
    obtain ⟨cs, a1, a2, a3, a4⟩ := hown.has p hp'
    exact ⟨cs, a1, a2, a3, relL_plain (h1.2 p hp') a4⟩⟩
  exact hk _ _ _ _ (hn r H' hΦ') ⟨S, R1.called (Hs := []) (Hr := H) hr hown' hst' hkeys hd (rel_plain h1.1 hrel)⟩
theorem OSl.take {e : TypeId} {k : Nat} {xs : List T} {p : Option Addr} {c n : Nat} (h : OSl e k xs (.slice p n c) Hs) (hk : ∀ x ∈ xs, x.cells.length = k) (j : Nat) : ∃ Hs', HeapFront Hs Hs' ∧ OSl e k (xs.take j) (.slice p (min j xs.length) c) Hs' := by
  rcases h with ⟨rfl, ⟨q, e1⟩, rfl⟩ | ⟨b, c', e1, hc, rfl⟩
  · cases e1
    exact ⟨[], kR, by simpa using osl_nil'⟩
  · cases e1
    refine ⟨[(b, ⟨e, (xs.take j).flatMap T.cells, c * k⟩)], .keep _ _ _ _ _ ⟨rfl, rfl, ?_, ?_⟩ kR, .inr ⟨b, c, by simp, by simp; omega, rfl⟩⟩
    · rw [flat_lenT xs hk, flat_lenT _ (fun x hx => hk x (List.mem_of_mem_take hx))]
      simp only [List.length_take]
      exact Nat.mul_le_mul_right _ (Nat.min_le_right _ _)
    · have : (xs.flatMap T.cells).take ((xs.take j).flatMap T.cells).length = (xs.take j).flatMap T.cells := by
        conv => lhs; rw [← List.take_append_drop j xs, List.flatMap_append]
        simp
      rw [this]
      exact LeL.refl _
theorem rh {fn : Func} {Φ : T → Heap → Prop} {rs : List ResultVar} {ds : List T} {d : T} {H' : Heap} (hF : HeapFront H H') (hp : Φ d H') (hl : Le (packT ds) d) (hr : fn.results.toList = rs := by rfl) (h : ResL P t H rs ds := by (repeat (first | exact resl_nil | (apply resl_tmp; (focus ((repeat (apply gS; rfl)); exact gZ))) | (apply resl_cellO; (focus ((repeat (apply gS; rfl)); exact gZ)); (focus (repeat (first | exact hZ | apply hS | apply hA))); (focus ((repeat (apply TakeR.skip)); (repeat (apply TakeR.cons)); exact TakeR.nil _))) | (apply resl_cell1O; (focus ((repeat (apply gS; rfl)); exact gZ)); (focus (repeat (first | exact hZ | apply hS | apply hA))); (focus rfl))))) : endΨ P fn Φ .ret t H := ⟨ds, d, H', hr ▸ h, hl, hp, hF.le⟩
theorem rhn {fn : Func} {Φ : T → Heap → Prop} {rs : List ResultVar} {ds : List T} {d : T} {H' : Heap} (hF : HeapFront H H') (hp : Φ d H') (hl : Le (packT ds) d) (hr : fn.results.toList = rs := by rfl) (h : ResL P t H rs ds := by (repeat (first | exact resl_nil | (apply resl_tmp; (focus ((repeat (apply gS; rfl)); exact gZ))) | (apply resl_cellO; (focus ((repeat (apply gS; rfl)); exact gZ)); (focus (repeat (first | exact hZ | apply hS | apply hA))); (focus ((repeat (apply TakeR.skip)); (repeat (apply TakeR.cons)); exact TakeR.nil _))) | (apply resl_cell1O; (focus ((repeat (apply gS; rfl)); exact gZ)); (focus (repeat (first | exact hZ | apply hS | apply hA))); (focus rfl))))) : endΨ P fn Φ .normal t H := ⟨ds, d, H', hr ▸ h, hl, hp, hF.le⟩
theorem HeapLe.of_perm {H H0 H' : Heap} (hp : H.Perm H0) (hF : HeapFront H0 H') (hn : (keys H).Nodup) : HeapLe H H' := by
  obtain ⟨h1, h2⟩ := hF.le ((keys_perm hp).nodup_iff.1 hn)
  exact ⟨h1, fun p hp' => let ⟨k, h3, h4⟩ := h2 p hp'; ⟨k, hp.mem_iff.2 h3, h4⟩⟩
theorem rhp {fn : Func} {Φ : T → Heap → Prop} {rs : List ResultVar} {ds : List T} {d : T} {H0 H' : Heap} (hP : H.Perm H0) (hF : HeapFront H0 H') (hp : Φ d H') (hl : Le (packT ds) d) (hr : fn.results.toList = rs := by rfl) (h : ResL P t H rs ds := by (repeat (first | exact resl_nil | (apply resl_tmp; (focus ((repeat (apply gS; rfl)); exact gZ))) | (apply resl_cellO; (focus ((repeat (apply gS; rfl)); exact gZ)); (focus (repeat (first | exact hZ | apply hS | apply hA))); (focus ((repeat (apply TakeR.skip)); (repeat (apply TakeR.cons)); exact TakeR.nil _))) | (apply resl_cell1O; (focus ((repeat (apply gS; rfl)); exact gZ)); (focus (repeat (first | exact hZ | apply hS | apply hA))); (focus rfl))))) : endΨ P fn Φ .ret t H := ⟨ds, d, H', hr ▸ h, hl, hp, .of_perm hP hF⟩
theorem from_perm {ops : Array Oper} {i : Nat} {l : List Oper} {H' : Heap} (hp : H.Perm H') (h : SimFrom K ops i l t H' N) : SimFrom K ops i l t H N := fun hl a w Q hR hq => h hl a w Q (hR.perm hp) hq
theorem lendRest {c : Code} {p0 : Nat × Blk} {d : T} (k : Nat) (x : T) (hl : Lends G d x) (h : Sim K c ((k, x) :: t) [p0] Ψ) (hg : t.get k = d := by rfl) : Sim K c t (p0 :: G) Ψ :=
  sim_lend (G := G) (H1 := [p0]) [(k, x)] (List.perm_append_comm (l₁ := [p0])) ⟨hg ▸ hl, trivial⟩ h
def subV (sz : Nat) (p : Option Addr) (c lo n : Nat) : Value := .slice (p.map fun a => if c = lo then a else a.add (lo * sz)) n (c - lo)
theorem OSl.cap {e : TypeId} {k : Nat} {xs : List T} {p : Option Addr} {n c : Nat} (h : OSl e k xs (.slice p n c) Hs) : n ≤ c := by
  rcases h with ⟨rfl, ⟨q, e1⟩, _⟩ | ⟨b, c', e1, hc, _⟩
  · cases e1; exact Nat.le_refl _
  · cases e1; exact hc
theorem run_sub {e : TypeId} {inf : TypeInfo} {p : Option Addr} {n c lo hi : Nat} (hu : P.underlying ty = some (.slice e)) (hi' : P.info? e = some inf) {ol oh om : Option Value} (hrun : (Instr.sliceBounds true n c ol oh om).run P w = .ok (lo, hi, c) w) :
    (Instr.sliceAt ty (.slice p n c) ol oh om).run P w = .ok (subV inf.size p c lo (hi - lo)) w := by
  cases p with
  | none => simp [Instr.sliceAt, Instr.slice, run_underlying hu, hrun, run_sizeOf hi', subV]
  | some a =>
    by_cases hcl : c = lo
    · subst hcl
      simp [Instr.sliceAt, Instr.slice, run_underlying hu, hrun, run_sizeOf hi', subV]
    · simp [Instr.sliceAt, Instr.slice, run_underlying hu, hrun, run_sizeOf hi', subV, hcl]
theorem pop_sub_l {x l : Operand} {p : Option Addr} {n c : Nat} {k : IntKind} {i : Int} {d : T} {by_ : Nat} (hx : t.ev x = .v (.slice p n c)) (hl : t.ev l = .v (.int k i)) [hz : ElemZC P ty d by_] (h0 : 0 ≤ i) (h2 : i ≤ n) (hc : n ≤ c) :
    POp P t H ⟨dst, .slice ty x (some l) none none, tp, pos, aft, g⟩ (.v (subV d.cells.length p c i.toNat (n - i.toNat))) :=
  POp.still fun S w a _ _ hr => by
    have e1 := hr x (by simp [Op.operands]); rw [hx] at e1
    have e2 := hr l (by simp [Op.operands]); rw [hl] at e2
    obtain ⟨e, inf, hu, hinf, hs, hp⟩ := elem_size (P := P) (ty := ty) (d := d) (by_ := by_)
    have := run_sub (P := P) (w := w) (p := p) (n := n) (c := c) (lo := i.toNat) (hi := n) (ol := some (a.eval l)) (oh := none) (om := none) hu hinf (by
      rw [e2.v_eq]
      simp [Instr.sliceBounds, bound_run (P := P) h0 (show i ≤ (n : Nat) by omega)])
    rw [hs] at this
    exact ⟨_, by simp [execOp, e1.v_eq, this], .v _⟩
theorem pop_sub_h {x h : Operand} {p : Option Addr} {n c : Nat} {k : IntKind} {j : Int} {d : T} {by_ : Nat} (hx : t.ev x = .v (.slice p n c)) (hh : t.ev h = .v (.int k j)) [hz : ElemZC P ty d by_] (h0 : 0 ≤ j) (h2 : j ≤ n) (hc : n ≤ c) :
    POp P t H ⟨dst, .slice ty x none (some h) none, tp, pos, aft, g⟩ (.v (subV d.cells.length p c 0 j.toNat)) :=
  POp.still fun S w a _ _ hr => by
    have e1 := hr x (by simp [Op.operands]); rw [hx] at e1
    have e3 := hr h (by simp [Op.operands]); rw [hh] at e3
    obtain ⟨e, inf, hu, hinf, hs, hp⟩ := elem_size (P := P) (ty := ty) (d := d) (by_ := by_)
    have := run_sub (P := P) (w := w) (p := p) (n := n) (c := c) (lo := 0) (hi := j.toNat) (ol := none) (oh := some (a.eval h)) (om := none) hu hinf (by
      rw [e3.v_eq]
      simp [Instr.sliceBounds, bound_run (P := P) h0 (show j ≤ (c : Nat) by omega)])
    rw [hs] at this
    exact ⟨_, by simp [execOp, e1.v_eq, this], .v _⟩
theorem Lends.sub {P : Program} (ty : TypeId) {d : T} {by_ : Nat} [hz : ElemZC P ty d by_] {f : Bool} {p : Option Addr} {n c lo hi : Nat} {xs : List T} (h : Lends G (.v (.slice p n c)) (.sl f xs)) (hk : ∀ x ∈ xs, x.cells.length = d.cells.length) (h1 : lo ≤ hi) (h2 : hi ≤ xs.length) (hn : xs.length = n) (hc : n ≤ c) :
    Lends G (.v (subV d.cells.length p c lo (hi - lo))) (.sl (f && Nat.beq hi xs.length) ((xs.drop lo).take (hi - lo))) := by
  intro S w u ho hr
  rw [hr.v_eq]
  have hR := h S w _ ho (.v _)
  obtain ⟨e, inf, hu, hinf, hs, hp⟩ := elem_size (P := P) (ty := ty) (d := d) (by_ := by_)
  have hb : (Instr.sliceBounds true n c (some (.int .i64 lo)) (some (.int .i64 hi)) none).run P w = .ok (lo, hi, c) w := by
    simp [Instr.sliceBounds, bound_run (P := P) (show (0 : Int) ≤ hi by omega) (show (hi : Int) ≤ (c : Nat) by omega), bound_run (P := P) (show (0 : Int) ≤ lo by omega) (show (lo : Int) ≤ (hi : Nat) by omega)]
  obtain ⟨v, hv, hrel⟩ := rel_sub (P := P) (ty := ty) (inf := inf) (lo := lo) (hi := hi) (ol := some (.int .i64 lo)) (oh := some (.int .i64 hi)) (om := none) hR (by rw [hs]; exact hk) hp h1 h2 hu hinf (by rw [hn]; exact hb)
  have h3 := run_sub (P := P) (w := w) (p := p) (n := n) (c := c) hu hinf hb
  rw [hv] at h3
  rw [hs] at h3
  cases h3
  exact hrel
theorem perm0 : ∀ {H : Heap}, H.Perm (H ++ []) := by simp
theorem EvL.trans {t t' : Env} : ∀ {xs : List Operand} {ds : List T}, EvL t xs ds → (∀ x ∈ xs, t'.ev x = t.ev x) → EvL t' xs ds
  | [], [], _, _ => trivial
  | x :: xs, d :: ds, h, he => ⟨(he x List.mem_cons_self).trans h.1, EvL.trans h.2 fun y hy => he y (List.mem_cons_of_mem _ hy)⟩
theorem p_en {x : Operand} {p : Option Addr} {n c : Nat} {e : TypeId} (hx : t.ev x = .v (.slice p n c) := by first | ((repeat (apply eS; rfl)); exact eZ) | exact ev_int | exact ev_bool | exact ev_nil | exact ev_str | exact ev_ptr | exact ev_agg | exact ev_map | exact ev_nilf | exact ev_nili | exact ev_func) (hu : P.underlying ty = some (.slice e) := by rfl) : POp P t H ⟨dst, .binOp .eql ty x (.const (.slice none 0 0)) ty', tp, pos, aft, g⟩ (.v (.bool (decide (p = none)))) := pop_eqNil hx hu
theorem p_faA {x : Operand} {f off n : Nat} {ys cs : List T} [hf : FldC P ty f off n true] (hx : t.ev x = .adr (.agg ys) := by first | ((repeat (apply eS; rfl)); exact eZ) | exact ev_int | exact ev_bool | exact ev_nil | exact ev_str | exact ev_ptr | exact ev_agg | exact ev_map | exact ev_nilf | exact ev_nili | exact ev_func) (hc : TakeR ys off n cs := by ((repeat (apply TakeR.skip)); (repeat (apply TakeR.cons)); exact TakeR.nil _)) (hn : Nat.blt 0 n = true := by rfl) : POp P t H ⟨dst, .fieldAddr ty x f, tp, pos, aft, g⟩ (.adr (.agg cs)) := by
  have := pop_fieldAddr_agg (P := P) (t := t) (H := H) (dst := dst) (tp := tp) (pos := pos) (aft := aft) (g := g) (ty := ty) hx (hf := hf) (Nat.blt_eq.mp hn) hc.eq.2
  simp only [hc.eq.1] at this
  exact this
theorem p_ap0 {xs : List T} {f : Bool} {dx dy : T} {d : T} {by_ : Nat} [hz : ElemZC P ty d by_] {x y : Operand} (hx : t.ev x = dx := by first | ((repeat (apply eS; rfl)); exact eZ) | exact ev_int | exact ev_bool | exact ev_nil | exact ev_str | exact ev_ptr | exact ev_agg | exact ev_map | exact ev_nilf | exact ev_nili | exact ev_func) (hxl : Le dx (.sl true xs) := by (first | exact Le.refl _ | exact Le.nil _ | exact Le.full _ _ | exact Le.any _ | (apply Le.agg; (repeat (apply LeL.cons; (first | exact Le.refl _ | exact Le.nil _ | exact Le.full _ _ | exact Le.any _))); exact LeL.nil) | (apply Le.tup; (repeat (apply LeL.cons; (first | exact Le.refl _ | exact Le.nil _ | exact Le.full _ _ | exact Le.any _ | (apply Le.agg; (repeat (apply LeL.cons; (first | exact Le.refl _ | exact Le.nil _ | exact Le.full _ _ | exact Le.any _))); exact LeL.nil)))); exact LeL.nil))) (hy : t.ev y = dy := by first | ((repeat (apply eS; rfl)); exact eZ) | exact ev_int | exact ev_bool | exact ev_nil | exact ev_str | exact ev_ptr | exact ev_agg | exact ev_map | exact ev_nilf | exact ev_nili | exact ev_func) (hyl : Le dy (.sl f []) := by (first | exact Le.refl _ | exact Le.nil _ | exact Le.full _ _ | exact Le.any _ | (apply Le.agg; (repeat (apply LeL.cons; (first | exact Le.refl _ | exact Le.nil _ | exact Le.full _ _ | exact Le.any _))); exact LeL.nil) | (apply Le.tup; (repeat (apply LeL.cons; (first | exact Le.refl _ | exact Le.nil _ | exact Le.full _ _ | exact Le.any _ | (apply Le.agg; (repeat (apply LeL.cons; (first | exact Le.refl _ | exact Le.nil _ | exact Le.full _ _ | exact Le.any _))); exact LeL.nil)))); exact LeL.nil))) (hs : isSliceTy P ty' = true := by rfl) :
    POp P t H ⟨dst, .call ⟨.builtin .append, #[x, y], #[ty, ty']⟩, tp, pos, aft, g⟩ (.sl true xs) := pop_append0 hx hxl hy hyl hs
variable {ops : Array Oper} {i : Nat} {l : List Oper} {eff : List Nat} {pend : List Pend} {al : List (Nat × Oper)}
theorem e_cLH {kd : Tmp} {f : FuncId} {xs : Array Operand} {ats : Array TypeId} {args args' : List T} {Φ : T → Heap → Prop} (hf : FnH K.P f args' [] Φ) (hl : LendsL G args args') (hp : ∃ Hr, H.Perm (G ++ Hr)) (hΦ : ∀ r H', Φ r H' → r.plain = true ∧ ∀ p ∈ H', p.2.cells.all T.isV = true)
    (hn : ∀ r H', Φ r H' → SimFrom K ops (i + 1) l ((kd, r) :: t) (H' ++ H) N) (hc : callable K.P f = true := by rfl) (ha' : EvL t xs.toList args := by (repeat (apply evl_cons; focus (first | ((repeat (apply eS; rfl)); exact eZ) | exact ev_int | exact ev_bool | exact ev_nil | exact ev_str | exact ev_ptr | exact ev_agg | exact ev_map | exact ev_nilf | exact ev_nili | exact ev_func))); exact evl_nil) (hd : okDst (some kd) K.n = true := by rfl) :
    SimFrom K ops i (⟨some kd, .call ⟨.value (.func f), xs, ats⟩, tp, pos, aft, none⟩ :: l) t H N := let ⟨_, hp⟩ := hp; from_e (eop_callL hf hp hc ha' hl hΦ hd hn)
theorem e_cLA {kd : Tmp} {f : FuncId} {xs : Array Operand} {ats : Array TypeId} {args args' : List T} {Φ : T → Heap → Prop} (hf : FnH K.P f args' [] Φ) (hl : LendsL H args args') (hΦ : ∀ r H', Φ r H' → r.plain = true ∧ ∀ p ∈ H', p.2.cells.all T.isV = true)
    (hn : ∀ r H', Φ r H' → SimFrom K ops (i + 1) l ((kd, r) :: t) (H' ++ H) N) (hc : callable K.P f = true := by rfl) (ha' : EvL t xs.toList args := by (repeat (apply evl_cons; focus (first | ((repeat (apply eS; rfl)); exact eZ) | exact ev_int | exact ev_bool | exact ev_nil | exact ev_str | exact ev_ptr | exact ev_agg | exact ev_map | exact ev_nilf | exact ev_nili | exact ev_func))); exact evl_nil) (hd : okDst (some kd) K.n = true := by rfl) :
    SimFrom K ops i (⟨some kd, .call ⟨.value (.func f), xs, ats⟩, tp, pos, aft, none⟩ :: l) t H N := e_cLH (G := H) hf hl ⟨[], by simp⟩ hΦ hn hc ha' hd
theorem p_cLA {f : FuncId} {xs : Array Operand} {ats : Array TypeId} {args args' : List T} {d : T} (hf : FnP P f args' (fun r => r = d)) (hl : LendsL H args args') (hc : callable P f = true := by rfl) (ha' : EvL t xs.toList args := by (repeat (apply evl_cons; focus (first | ((repeat (apply eS; rfl)); exact eZ) | exact ev_int | exact ev_bool | exact ev_nil | exact ev_str | exact ev_ptr | exact ev_agg | exact ev_map | exact ev_nilf | exact ev_nili | exact ev_func))); exact evl_nil) (hpl : d.plain = true := by rfl) :
    POp P t H ⟨dst, .call ⟨.value (.func f), xs, ats⟩, tp, pos, aft, g⟩ d := p_cL hf hl ⟨[], by simp⟩ hc ha' hpl
theorem p_sbl {v : Value} {x l' : Operand} {p : Option Addr} {n c : Nat} {k : IntKind} {i : Int} {d : T} {by_ : Nat} [hz : ElemZC P ty d by_] (hc : n ≤ c) (he : subV d.cells.length p c i.toNat (n - i.toNat) = v) (hx : t.ev x = .v (.slice p n c) := by first | ((repeat (apply eS; rfl)); exact eZ) | exact ev_int | exact ev_bool | exact ev_nil | exact ev_str | exact ev_ptr | exact ev_agg | exact ev_map | exact ev_nilf | exact ev_nili | exact ev_func) (hl : t.ev l' = .v (.int k i) := by first | ((repeat (apply eS; rfl)); exact eZ) | exact ev_int | exact ev_bool | exact ev_nil | exact ev_str | exact ev_ptr | exact ev_agg | exact ev_map | exact ev_nilf | exact ev_nili | exact ev_func) (h0 : 0 ≤ i := by (first | omega | (simp only [List.length_map, List.length_replicate, List.length_append, List.length_cons, List.length_nil, List.length_take, List.length_drop, Int.toNat_natCast]; omega) | (simp only [List.length_map, List.length_replicate, List.length_append, List.length_cons, List.length_nil, List.length_take, List.length_drop, Int.toNat_natCast] at *; omega))) (h2 : i ≤ n := by (first | omega | (simp only [List.length_map, List.length_replicate, List.length_append, List.length_cons, List.length_nil, List.length_take, List.length_drop, Int.toNat_natCast]; omega) | (simp only [List.length_map, List.length_replicate, List.length_append, List.length_cons, List.length_nil, List.length_take, List.length_drop, Int.toNat_natCast] at *; omega))) :
    POp P t H ⟨dst, .slice ty x (some l') none none, tp, pos, aft, g⟩ (.v v) := he ▸ pop_sub_l hx hl h0 h2 hc
theorem p_sbh {v : Value} {x h' : Operand} {p : Option Addr} {n c : Nat} {k : IntKind} {j : Int} {d : T} {by_ : Nat} [hz : ElemZC P ty d by_] (hc : n ≤ c) (he : subV d.cells.length p c 0 j.toNat = v) (hx : t.ev x = .v (.slice p n c) := by first | ((repeat (apply eS; rfl)); exact eZ) | exact ev_int | exact ev_bool | exact ev_nil | exact ev_str | exact ev_ptr | exact ev_agg | exact ev_map | exact ev_nilf | exact ev_nili | exact ev_func) (hh : t.ev h' = .v (.int k j) := by first | ((repeat (apply eS; rfl)); exact eZ) | exact ev_int | exact ev_bool | exact ev_nil | exact ev_str | exact ev_ptr | exact ev_agg | exact ev_map | exact ev_nilf | exact ev_nili | exact ev_func) (h0 : 0 ≤ j := by (first | omega | (simp only [List.length_map, List.length_replicate, List.length_append, List.length_cons, List.length_nil, List.length_take, List.length_drop, Int.toNat_natCast]; omega) | (simp only [List.length_map, List.length_replicate, List.length_append, List.length_cons, List.length_nil, List.length_take, List.length_drop, Int.toNat_natCast] at *; omega))) (h2 : j ≤ n := by (first | omega | (simp only [List.length_map, List.length_replicate, List.length_append, List.length_cons, List.length_nil, List.length_take, List.length_drop, Int.toNat_natCast]; omega) | (simp only [List.length_map, List.length_replicate, List.length_append, List.length_cons, List.length_nil, List.length_take, List.length_drop, Int.toNat_natCast] at *; omega))) :
    POp P t H ⟨dst, .slice ty x none (some h') none, tp, pos, aft, g⟩ (.v v) := he ▸ pop_sub_h hx hh h0 h2 hc
theorem a_cLH {f : FuncId} {xs : Array Operand} {ats : Array TypeId} {args args' : List T} {Φ : T → Heap → Prop} {kd : Tmp} (hf : FnH K.P f args' [] Φ) (hl : LendsL G args args') (hp : ∃ Hr, H.Perm (G ++ Hr)) (hΦ : ∀ r H', Φ r H' → r.plain = true ∧ ∀ p ∈ H', p.2.cells.all T.isV = true)
    (hn : ∀ r H', Φ r H' → PendOk ops ⟨some kd, .call ⟨.value (.func f), xs, ats⟩, tp, pos, aft, none⟩ (H' ++ H) pend ∧ ∃ pend', PDrop ops ⟨some kd, .call ⟨.value (.func f), xs, ats⟩, tp, pos, aft, none⟩ pend pend' ∧ AnyFrom K ops eff N al ((kd, r) :: t) (H' ++ H) pend') (hc : callable K.P f = true := by rfl) (ha' : EvL t xs.toList args := by (repeat (apply evl_cons; focus (first | ((repeat (apply eS; rfl)); exact eZ) | exact ev_int | exact ev_bool | exact ev_nil | exact ev_str | exact ev_ptr | exact ev_agg | exact ev_map | exact ev_nilf | exact ev_nili | exact ev_func))); exact evl_nil) (hd : Nat.blt kd K.n = true := by rfl) (he : memN eff i = true := by rfl) :
    AnyFrom K ops eff N ((i, ⟨some kd, .call ⟨.value (.func f), xs, ats⟩, tp, pos, aft, none⟩) :: al) t H pend :=
  let ⟨_, hp⟩ := hp
  a_effP (fun _ h1 => eop_callL hf hp hc (ha'.trans fun x hx => h1 x (by simp [Op.operands, Call.operands]; exact .inr (by simpa using hx))) hl hΦ (by simpa [okDst] using hd) fun r H' hr' => let ⟨h1, p', h2, h3⟩ := hn r H' hr'; ⟨_, p', rfl, h1, h2, h3⟩) he
theorem FnH.of_le {f : FuncId} {args args' : List T} {Φ : T → Heap → Prop} (hl : LeL args args') (hf : FnH P f args' H Φ) : FnH P f args H Φ := fun S w vs hw ho hr => hf S w vs hw ho (hl S w vs hr)
theorem FnH.lend {f : FuncId} {args args' : List T} {Φ : T → Heap → Prop} (hl : LendsL G args args') (hf : FnH P f args' H Φ) : FnH P f args (G ++ H) Φ := fun S w vs hw ho hr => by
  have hog := ho.left
  have hw' : Wf (fun b => S b ∨ b ∈ keys G) w := fun b hb => hb.elim (hw b) (hog.lt b)
  have hoh : Own (fun b => S b ∨ b ∈ keys G) w H := ⟨ho.right.nodup, fun b hb hS => hS.elim (ho.right.apart b hb) (fun h => ho.disj b h hb), fun p hp => (ho.right.has p hp).mono rfl fun b hb => ⟨.inl hb, rfl⟩⟩
  refine (hf _ w vs hw' hoh (hl S w _ hog hr)).mono ?_
  rintro e w' ⟨u, S', r, H', rfl, h1, h2, h3, h4, h5⟩
  refine ⟨u, S', r, H', rfl, h1, h2, h3, ⟨h4.os, h4.tape, h4.output, h4.size, fun c hc hk => h4.keep c hc (fun h => hk (by rw [keys_append]; exact List.mem_append_right _ h)), fun c hc => h4.sub c (.inl hc), fun c hc => ?_, h4.wf⟩, fun c hc => (h5 c hc).imp (fun h => by rw [keys_append]; exact List.mem_append_right _ h) id⟩
  rw [keys_append]
  rcases h4.new c hc with (h | h) | h | h
  · exact .inl h
  · exact .inr (.inr (List.mem_append_left _ h))
  · exact .inr (.inl h)
  · exact .inr (.inr (List.mem_append_right _ h))
theorem a_cH {f : FuncId} {xs : Array Operand} {ats : Array TypeId} {args : List T} {Φ : T → Heap → Prop} {kd : Tmp} (hf : FnH K.P f args H Φ)
    (hn : ∀ r H', Φ r H' → PendOk ops ⟨some kd, .call ⟨.value (.func f), xs, ats⟩, tp, pos, aft, none⟩ H' pend ∧ ∃ pend', PDrop ops ⟨some kd, .call ⟨.value (.func f), xs, ats⟩, tp, pos, aft, none⟩ pend pend' ∧ AnyFrom K ops eff N al ((kd, r) :: t) H' pend') (hc : callable K.P f = true := by rfl) (ha' : EvL t xs.toList args := by (repeat (apply evl_cons; focus (first | ((repeat (apply eS; rfl)); exact eZ) | exact ev_int | exact ev_bool | exact ev_nil | exact ev_str | exact ev_ptr | exact ev_agg | exact ev_map | exact ev_nilf | exact ev_nili | exact ev_func))); exact evl_nil) (hd : Nat.blt kd K.n = true := by rfl) (he : memN eff i = true := by rfl) :
    AnyFrom K ops eff N ((i, ⟨some kd, .call ⟨.value (.func f), xs, ats⟩, tp, pos, aft, none⟩) :: al) t H pend :=
  a_effP (fun _ h1 => eop_callH (Hr := []) hf (by simp) hc (ha'.trans fun x hx => h1 x (by simp [Op.operands, Call.operands]; exact .inr (by simpa using hx))) (by simpa [okDst] using hd) fun r H' hr' => by
    obtain ⟨h1, p', h2, h3⟩ := hn r H' hr'
    rw [List.append_nil]
    exact ⟨_, p', rfl, h1, h2, h3⟩) he
theorem e_cHA {kd : Tmp} {f : FuncId} {xs : Array Operand} {ats : Array TypeId} {args : List T} {Φ : T → Heap → Prop} (hf : FnH K.P f args H Φ) (hn : ∀ r H', Φ r H' → SimFrom K ops (i + 1) l ((kd, r) :: t) H' N) (hc : callable K.P f = true := by rfl) (ha' : EvL t xs.toList args := by (repeat (apply evl_cons; focus (first | ((repeat (apply eS; rfl)); exact eZ) | exact ev_int | exact ev_bool | exact ev_nil | exact ev_str | exact ev_ptr | exact ev_agg | exact ev_map | exact ev_nilf | exact ev_nili | exact ev_func))); exact evl_nil)
    (hd : okDst (some kd) K.n = true := by rfl) : SimFrom K ops i (⟨some kd, .call ⟨.value (.func f), xs, ats⟩, tp, pos, aft, none⟩ :: l) t H N :=
  from_e (eop_callH (Hr := []) hf (by simp) hc ha' hd fun r H' hr' => by rw [List.append_nil]; exact hn r H' hr')
end
end Go.Cap
