/-
  Slices that grow: their values by name, told from nil, cut off, copied by a call that is lent blocks.
-/
import Derived.Test.YtjbokbikkcfjjaaGreatAah
set_option maxRecDepth 16000
set_option maxHeartbeats 8000000
set_option linter.all false
namespace Go.Cap
section
variable {K : Ctx} {P : Program} {t : Env} {H Hs G Hr : Qd} {S : Nat → Prop} {w : World} {N : Env → Qd → Prop} {Ψ : Exit → Env → Qd → Prop}
theorem R.name {k : Nat} {a : Act} (hd : Nat.blt k K.n = true) (hR : R K t H a w) : ∃ S u, Rel S w (t.get k) u ∧ R1 K ((k, .v u) :: t) H a w S := by
 obtain ⟨S, hr⟩ := hR
 have hk : k < K.n := Nat.blt_eq.mp hd
 refine ⟨S, _, hr.env k, hr.size, hr.defers.env (fun j => ?_), hr.step, hr.own, hr.mine, fun j => ?_⟩
 ·simp [Env.get, Z6 (show ¬ k = K.n + j by omega)]
 ·by_cases h : k = j
  ·subst h
   simp only [Env.get, Nat.beq_refl]
   exact .v _
  ·simpa [Env.get, Z6 h] using hr.env j
theorem Rz {f : Bool} {xs : List T} {u : Value} (h : Rel S w (.sl f xs) u) : ∃ p c, u = .slice p xs.length c ∧ (p = none → xs = []) ∧ (f = true → c = xs.length) := by
 cases h with
 | nil _ p c hf => exact ⟨p, c, rfl, fun _ => rfl, hf⟩
 | sl _ _ b o c vs k cs ty fz hs hb hr hg hf hc => exact ⟨some ⟨b, o, none⟩, c, by rw [hr.length], (fun e => by cases e), fun e => by rw [hf e, hr.length]⟩
theorem Zx {ops : Array Oper} {i : Nat} {l : List Oper} {f : Bool} {xs : List T} (k : Nat) (h : ∀ p c', (p = none → xs = []) → (f = true → c' = xs.length) → Qf K ops i l ((k, .v (.slice p xs.length c')) :: t) H N) (hg : t.get k = .sl f xs := by rfl) (hd : Nat.blt k K.n = true := by rfl) : Qf K ops i l t H N := fun hl a w Q hR hq => by
 obtain ⟨S, u, h1, h2⟩ := hR.name hd
 rw [hg] at h1
 obtain ⟨p, c', rfl, h3, h4⟩ := Rz h1
 exact h p c' h3 h4 hl a w Q ⟨S, h2⟩ hq
variable {dst : Option Tmp} {tp : TypeId} {pos : String} {aft : Array Edge} {g : Option (Nat × Bool)} {ty ty' : TypeId}
theorem Lx {e : TypeId} (w : World) {ty : TypeId} {p : Option Addr} {n c : Nat} (hu : P.underlying ty = some (.slice e)) (d : Nat) : (Op.equalIn (d + 1) ty (.slice p n c) (.slice none 0 0)).run P w = .ok (decide (p = none)) w := by
 cases p <;> simp [Op.equalIn, run_underlying hu]
theorem MS {e : TypeId} (w : World) {ty : TypeId} {p : Option Addr} {n c : Nat} (hu : P.underlying ty = some (.slice e)) : (Op.equal ty (.slice p n c) (.slice none 0 0)).run P w = .ok (decide (p = none)) w := Lx w hu 9999
theorem RL {x : Operand} {p : Option Addr} {n c : Nat} {e : TypeId} (hx : t.ev x = .v (.slice p n c)) (hu : P.underlying ty = some (.slice e)) : POp P t H ⟨dst, .binOp .eql ty x (.const (.slice none 0 0)) ty', tp, pos, aft, g⟩ (.v (.bool (decide (p = none)))) :=
 Xg hx W4 fun w => by
  have := MS w (p := p) (n := n) (c := c) hu
  simp [eqGuard, binOp, this]
theorem Mp {f : FuncId} {xs : Array Operand} {ats : Array TypeId} {args args' : List T} {Φ : T → Qd → Prop} (hf : FnH K.P f args' [] Φ) (hp : H.Perm (G ++ Hr)) (hc : QE K.P f = true) (ha' : EvL t xs.toList args) (hl : Qg G args args')
  (hΦ : ∀ r H', Φ r H' → r.plain = true ∧ ∀ p ∈ H', p.2.vals.all T.isV = true) (hd : Xx dst K.n = true) (hn : ∀ r H', Φ r H' → N (t.put dst r) (H' ++ H)) : EOp K t H ⟨dst, .call ⟨.value (.func f), xs, ats⟩, tp, pos, aft, g⟩ N := by
 have ha := ha'.eq
 refine EOp.of_w (fun c e => by cases e) ?_
 intro a w ⟨S, hr⟩ Kc Q hk
 unfold Oper.wp
 have e : execOp a.eval ⟨dst, .call ⟨.value (.func f), xs, ats⟩, tp, pos, aft, g⟩ = callFunc f (#[] ++ xs.map a.eval ++ #[]) := rfl
 rw [e, Y5 hc]
 simp only [Oper.upon]
 have hrl : Qr S w args (xs.toList.map a.eval) := ha ▸ ZE xs.toList fun x h => hr.env.ev x
 have hog : Own S w G := (hr.own.perm hp).left
 have hw' : Wf (fun b => S b ∨ b ∈ keys G) w := fun b hb => hb.elim (hr.wf b) (hog.lt b)
 have := hf _ w _ hw' (Own.nil _ w) (hl S w _ hog hrl)
 have e2 : (xs.toList.map a.eval).toArray = #[] ++ xs.map a.eval ++ #[] := by apply Array.ext'; simp
 rw [← e2]
 refine this.mono ?_
 rintro e w' ⟨u, S', r, H', rfl, hΦ', hrel, hown, hst, hkeys⟩
 have h1 := hΦ r H' hΦ'
 have hst' : QW (keys []) S w S w' := ⟨hst.os, hst.tape, hst.output, hst.size, hst.keep, fun _ h => h, fun _ h => .inl h, fun b hb => Nat.lt_of_lt_of_le (hr.wf b hb) hst.size⟩
 have hown' : Own S w' H' := ⟨hown.nodup, fun b hb hS => by
  rcases hkeys b hb with h | h
  ·exact absurd h (by simp [keys])
  ·have := hr.wf b hS; omega, fun p hp' => by
  exact (hown.has p hp').plain (h1.2 p hp')⟩
 exact hk _ _ _ _ (hn r H' hΦ') ⟨S, R1.called (Hs := []) (Hr := H) hr hown' hst' hkeys hd (LX h1.1 hrel)⟩
theorem OSl.take {e : TypeId} {k : Nat} {xs : List T} {p : Option Addr} {c n : Nat} (h : OSl e k xs (.slice p n c) Hs) (hk : ∀ x ∈ xs, x.cells.length = k) (j : Nat) : ∃ Hs', Qi Hs Hs' ∧ OSl e k (xs.take j) (.slice p (min j xs.length) c) Hs' := by
 rcases h with ⟨rfl, ⟨q, e1⟩, rfl⟩ | ⟨b, c', e1, hc, rfl⟩
 ·cases e1
  exact ⟨[], kR, by simpa using Ve⟩
 ·cases e1
  refine ⟨[(b, ⟨e, (xs.take j).flatMap T.cells, c * k⟩)], .keep _ _ _ _ _ ⟨rfl, rfl, ?_, ?_⟩ kR, .inr ⟨b, c, by simp, by simp; omega, rfl⟩⟩
  ·rw [XW xs hk, XW _ (fun x hx => hk x (List.mem_of_mem_take hx))]
   simp only [List.length_take]
   exact Nat.mul_le_mul_right _ (Nat.min_le_right _ _)
  ·have : (xs.flatMap T.cells).take ((xs.take j).flatMap T.cells).length = (xs.take j).flatMap T.cells := by
    conv => lhs; rw [← List.take_append_drop j xs, List.flatMap_append]
    simp
   rw [this]
   exact LeL.refl _
theorem rh {fn : Func} {Φ : T → Qd → Prop} {rs : List ResultVar} {ds : List T} {d : T} {H' : Qd} (hF : Qi H H') (hp : Φ d H') (hl : Le (X6 ds) d) (hr : fn.results.toList = rs := by rfl) (h : YW P t H rs ds := by exact zrs) : V3 P fn Φ .ret t H := ⟨ds, d, H', hr ▸ h, hl, hp, hF.le⟩
theorem rhn {fn : Func} {Φ : T → Qd → Prop} {rs : List ResultVar} {ds : List T} {d : T} {H' : Qd} (hF : Qi H H') (hp : Φ d H') (hl : Le (X6 ds) d) (hr : fn.results.toList = rs := by rfl) (h : YW P t H rs ds := by exact zrs) : V3 P fn Φ .normal t H := ⟨ds, d, H', hr ▸ h, hl, hp, hF.le⟩
theorem XA.of_perm {H H0 H' : Qd} (hp : H.Perm H0) (hF : Qi H0 H') (hn : (keys H).Nodup) : XA H H' := by
 obtain ⟨h1, h2⟩ := hF.le ((Zu hp).nodup_iff.1 hn)
 exact ⟨h1, fun p hp' => let ⟨k, h3, h4⟩ := h2 p hp'; ⟨k, hp.mem_iff.2 h3, h4⟩⟩
theorem rhp {fn : Func} {Φ : T → Qd → Prop} {rs : List ResultVar} {ds : List T} {d : T} {H0 H' : Qd} (hP : H.Perm H0) (hF : Qi H0 H') (hp : Φ d H') (hl : Le (X6 ds) d) (hr : fn.results.toList = rs := by rfl) (h : YW P t H rs ds := by exact zrs) : V3 P fn Φ .ret t H := ⟨ds, d, H', hr ▸ h, hl, hp, .of_perm hP hF⟩
theorem Py {fn : Func} {Φ : T → Qd → Prop} {rs : List ResultVar} {ds : List T} {d : T} {H0 H' : Qd} (hP : H.Perm H0) (hF : Qi H0 H') (hp : Φ d H') (hl : Le (X6 ds) d) (hr : fn.results.toList = rs := by rfl) (h : YW P t H rs ds := by exact zrs) : V3 P fn Φ .normal t H := ⟨ds, d, H', hr ▸ h, hl, hp, .of_perm hP hF⟩
theorem Qy {ops : Array Oper} {i : Nat} {l : List Oper} {H' : Qd} (hp : H.Perm H') (h : Qf K ops i l t H' N) : Qf K ops i l t H N := fun hl a w Q hR hq => h hl a w Q (hR.perm hp) hq
theorem CP {c : Code} {p0 : Nat × Blk} {d : T} (k : Nat) (x : T) (hl : QB G d x) (h : Sim K c ((k, x) :: t) [p0] Ψ) (hg : t.get k = d := by rfl) : Sim K c t (p0 :: G) Ψ :=
 Jl (G := G) (H1 := [p0]) [(k, x)] (List.perm_append_comm (l₁ := [p0])) ⟨hg ▸ hl, trivial⟩ h
def Yq (sz : Nat) (p : Option Addr) (c lo n : Nat) : Value := .slice (p.map fun a => if c = lo then a else a.add (lo * sz)) n (c - lo)
theorem OSl.cap {e : TypeId} {k : Nat} {xs : List T} {p : Option Addr} {n c : Nat} (h : OSl e k xs (.slice p n c) Hs) : n ≤ c := by
 rcases h with ⟨rfl, ⟨q, e1⟩, _⟩ | ⟨b, c', e1, hc, _⟩
 ·cases e1; exact Nat.le_refl _
 ·cases e1; exact hc
theorem Wa {e : TypeId} {inf : TypeInfo} {p : Option Addr} {n c lo hi : Nat} (hu : P.underlying ty = some (.slice e)) (hi' : P.info? e = some inf) {ol oh om : Option Value} (hrun : (Instr.sliceBounds true n c ol oh om).run P w = .ok (lo, hi, c) w) :
  (Instr.sliceAt ty (.slice p n c) ol oh om).run P w = .ok (Yq inf.size p c lo (hi - lo)) w := by
 cases p with
 | none => simp [Instr.sliceAt, Instr.slice, run_underlying hu, hrun, Qw hi', Yq]
 | some a =>
  by_cases hcl : c = lo
  ·subst hcl
   simp [Instr.sliceAt, Instr.slice, run_underlying hu, hrun, Qw hi', Yq]
  ·simp [Instr.sliceAt, Instr.slice, run_underlying hu, hrun, Qw hi', Yq, hcl]
theorem RD {x l : Operand} {p : Option Addr} {n c : Nat} {k : IntKind} {i : Int} {d : T} {by_ : Nat} (hx : t.ev x = .v (.slice p n c)) (hl : t.ev l = .v (.int k i)) [hz : QF P ty d by_] (h0 : 0 ≤ i) (h2 : i ≤ n) (hc : n ≤ c) :
  POp P t H ⟨dst, .slice ty x (some l) none none, tp, pos, aft, g⟩ (.v (Yq d.cells.length p c i.toNat (n - i.toNat))) :=
 POp.still fun S w a _ _ hr => by
  have e1 := hr x (by simp [Op.operands]); rw [hx] at e1
  have e2 := hr l (by simp [Op.operands]); rw [hl] at e2
  obtain ⟨e, inf, hu, hinf, hs, hp⟩ := Yi (P := P) (ty := ty) (d := d) (by_ := by_)
  have := Wa (P := P) (w := w) (p := p) (n := n) (c := c) (lo := i.toNat) (hi := n) (ol := some (a.eval l)) (oh := none) (om := none) hu hinf (by
   rw [e2.v_eq]
   simp [Instr.sliceBounds, Q5 (P := P) h0 (show i ≤ (n : Nat) by omega)])
  rw [hs] at this
  exact ⟨_, by simp [execOp, e1.v_eq, this], .v _⟩
theorem RE {x h : Operand} {p : Option Addr} {n c : Nat} {k : IntKind} {j : Int} {d : T} {by_ : Nat} (hx : t.ev x = .v (.slice p n c)) (hh : t.ev h = .v (.int k j)) [hz : QF P ty d by_] (h0 : 0 ≤ j) (h2 : j ≤ n) (hc : n ≤ c) :
  POp P t H ⟨dst, .slice ty x none (some h) none, tp, pos, aft, g⟩ (.v (Yq d.cells.length p c 0 j.toNat)) :=
 POp.still fun S w a _ _ hr => by
  have e1 := hr x (by simp [Op.operands]); rw [hx] at e1
  have e3 := hr h (by simp [Op.operands]); rw [hh] at e3
  obtain ⟨e, inf, hu, hinf, hs, hp⟩ := Yi (P := P) (ty := ty) (d := d) (by_ := by_)
  have := Wa (P := P) (w := w) (p := p) (n := n) (c := c) (lo := 0) (hi := j.toNat) (ol := none) (oh := some (a.eval h)) (om := none) hu hinf (by
   rw [e3.v_eq]
   simp [Instr.sliceBounds, Q5 (P := P) h0 (show j ≤ (c : Nat) by omega)])
  rw [hs] at this
  exact ⟨_, by simp [execOp, e1.v_eq, this], .v _⟩
theorem QB.sub {P : Program} (ty : TypeId) {d : T} {by_ : Nat} [hz : QF P ty d by_] {f : Bool} {p : Option Addr} {n c lo hi : Nat} {xs : List T} (h : QB G (.v (.slice p n c)) (.sl f xs)) (hk : ∀ x ∈ xs, x.cells.length = d.cells.length) (h1 : lo ≤ hi) (h2 : hi ≤ xs.length) (hn : xs.length = n) (hc : n ≤ c) :
  QB G (.v (Yq d.cells.length p c lo (hi - lo))) (.sl (f && Nat.beq hi xs.length) ((xs.drop lo).take (hi - lo))) := by
 intro S w u ho hr
 rw [hr.v_eq]
 have hR := h S w _ ho (.v _)
 obtain ⟨e, inf, hu, hinf, hs, hp⟩ := Yi (P := P) (ty := ty) (d := d) (by_ := by_)
 have hb : (Instr.sliceBounds true n c (some (.int .i64 lo)) (some (.int .i64 hi)) none).run P w = .ok (lo, hi, c) w := by
  simp [Instr.sliceBounds, Q5 (P := P) (show (0 : Int) ≤ hi by omega) (show (hi : Int) ≤ (c : Nat) by omega), Q5 (P := P) (show (0 : Int) ≤ lo by omega) (show (lo : Int) ≤ (hi : Nat) by omega)]
 obtain ⟨v, hv, hrel⟩ := U5 (P := P) (ty := ty) (inf := inf) (lo := lo) (hi := hi) (ol := some (.int .i64 lo)) (oh := some (.int .i64 hi)) (om := none) hR (by rw [hs]; exact hk) hp h1 h2 hu hinf (by rw [hn]; exact hb)
 have h3 := Wa (P := P) (w := w) (p := p) (n := n) (c := c) hu hinf hb
 rw [hv] at h3
 rw [hs] at h3
 cases h3
 exact hrel
theorem VU : ∀ {H : Qd}, H.Perm (H ++ []) := by simp
theorem EvL.trans {t t' : Env} : ∀ {xs : List Operand} {ds : List T}, EvL t xs ds → (∀ x ∈ xs, t'.ev x = t.ev x) → EvL t' xs ds
 | [], [], _, _ => trivial
 | x :: xs, d :: ds, h, he => ⟨(he x List.mem_cons_self).trans h.1, EvL.trans h.2 fun y hy => he y (List.mem_cons_of_mem _ hy)⟩
theorem T2 {x : Operand} {p : Option Addr} {n c : Nat} {e : TypeId} (hx : t.ev x = .v (.slice p n c) := by exact zl) (hu : P.underlying ty = some (.slice e) := by rfl) : POp P t H ⟨dst, .binOp .eql ty x (.const (.slice none 0 0)) ty', tp, pos, aft, g⟩ (.v (.bool (decide (p = none)))) := RL hx hu
theorem L5 {x : Operand} {f off n : Nat} {ys cs : List T} [hf : Q7 P ty f off n true] (hx : t.ev x = .adr (.agg ys) := by exact zl) (hc : Xv ys off n cs := by exact zt) (hn : Nat.blt 0 n = true := by rfl) : POp P t H ⟨dst, .fieldAddr ty x f, tp, pos, aft, g⟩ (.adr (.agg cs)) := by
 have := Va (P := P) (t := t) (H := H) (dst := dst) (tp := tp) (pos := pos) (aft := aft) (g := g) (ty := ty) hx (hf := hf) (Nat.blt_eq.mp hn) hc.eq.2
 simp only [hc.eq.1] at this
 exact this
theorem NW {xs : List T} {f : Bool} {dx dy : T} {d : T} {by_ : Nat} [hz : QF P ty d by_] {x y : Operand} (hx : t.ev x = dx := by exact zl) (hxl : Le dx (.sl true xs) := by exact zL) (hy : t.ev y = dy := by exact zl) (hyl : Le dy (.sl f []) := by exact zL) (hs : QR P ty' = true := by rfl) :
  POp P t H ⟨dst, .call ⟨.builtin .append, #[x, y], #[ty, ty']⟩, tp, pos, aft, g⟩ (.sl true xs) := D5 hx hxl hy hyl hs
variable {ops : Array Oper} {i : Nat} {l : List Oper} {eff : List Nat} {pend : List Xb} {al : List (Nat × Oper)}
theorem TL {kd : Tmp} {f : FuncId} {xs : Array Operand} {ats : Array TypeId} {args args' : List T} {Φ : T → Qd → Prop} (hf : FnH K.P f args' [] Φ) (hl : Qg G args args') (hp : ∃ Hr, H.Perm (G ++ Hr)) (hΦ : ∀ r H', Φ r H' → r.plain = true ∧ ∀ p ∈ H', p.2.vals.all T.isV = true)
  (hn : ∀ r H', Φ r H' → Qf K ops (i + 1) l ((kd, r) :: t) (H' ++ H) N) (hc : QE K.P f = true := by rfl) (ha' : EvL t xs.toList args := by exact ze) (hd : Xx (some kd) K.n = true := by rfl) :
  Qf K ops i (⟨some kd, .call ⟨.value (.func f), xs, ats⟩, tp, pos, aft, none⟩ :: l) t H N := let ⟨_, hp⟩ := hp; YA (Mp hf hp hc ha' hl hΦ hd hn)
theorem BA {kd : Tmp} {f : FuncId} {xs : Array Operand} {ats : Array TypeId} {args args' : List T} {Φ : T → Qd → Prop} (hf : FnH K.P f args' [] Φ) (hl : Qg H args args') (hΦ : ∀ r H', Φ r H' → r.plain = true ∧ ∀ p ∈ H', p.2.vals.all T.isV = true)
  (hn : ∀ r H', Φ r H' → Qf K ops (i + 1) l ((kd, r) :: t) (H' ++ H) N) (hc : QE K.P f = true := by rfl) (ha' : EvL t xs.toList args := by exact ze) (hd : Xx (some kd) K.n = true := by rfl) :
  Qf K ops i (⟨some kd, .call ⟨.value (.func f), xs, ats⟩, tp, pos, aft, none⟩ :: l) t H N := TL (G := H) hf hl ⟨[], by simp⟩ hΦ hn hc ha' hd
theorem WA {f : FuncId} {xs : Array Operand} {ats : Array TypeId} {args args' : List T} {d : T} (hf : FnP P f args' (fun r => r = d)) (hl : Qg H args args') (hc : QE P f = true := by rfl) (ha' : EvL t xs.toList args := by exact ze) (hpl : d.plain = true := by rfl) :
  POp P t H ⟨dst, .call ⟨.value (.func f), xs, ats⟩, tp, pos, aft, g⟩ d := AM hf hl ⟨[], by simp⟩ hc ha' hpl
theorem OD {v : Value} {x l' : Operand} {p : Option Addr} {n c : Nat} {k : IntKind} {i : Int} {d : T} {by_ : Nat} [hz : QF P ty d by_] (hc : n ≤ c) (he : Yq d.cells.length p c i.toNat (n - i.toNat) = v) (hx : t.ev x = .v (.slice p n c) := by exact zl) (hl : t.ev l' = .v (.int k i) := by exact zl) (h0 : 0 ≤ i := by exact zo) (h2 : i ≤ n := by exact zo) :
  POp P t H ⟨dst, .slice ty x (some l') none none, tp, pos, aft, g⟩ (.v v) := he ▸ RD hx hl h0 h2 hc
theorem D7 {v : Value} {x h' : Operand} {p : Option Addr} {n c : Nat} {k : IntKind} {j : Int} {d : T} {by_ : Nat} [hz : QF P ty d by_] (hc : n ≤ c) (he : Yq d.cells.length p c 0 j.toNat = v) (hx : t.ev x = .v (.slice p n c) := by exact zl) (hh : t.ev h' = .v (.int k j) := by exact zl) (h0 : 0 ≤ j := by exact zo) (h2 : j ≤ n := by exact zo) :
  POp P t H ⟨dst, .slice ty x none (some h') none, tp, pos, aft, g⟩ (.v v) := he ▸ RE hx hh h0 h2 hc
theorem Pr {f : FuncId} {xs : Array Operand} {ats : Array TypeId} {args args' : List T} {Φ : T → Qd → Prop} {kd : Tmp} (hf : FnH K.P f args' [] Φ) (hl : Qg G args args') (hp : ∃ Hr, H.Perm (G ++ Hr)) (hΦ : ∀ r H', Φ r H' → r.plain = true ∧ ∀ p ∈ H', p.2.vals.all T.isV = true)
  (hn : ∀ r H', Φ r H' → XR ops ⟨some kd, .call ⟨.value (.func f), xs, ats⟩, tp, pos, aft, none⟩ (H' ++ H) pend ∧ ∃ pend', XV ops ⟨some kd, .call ⟨.value (.func f), xs, ats⟩, tp, pos, aft, none⟩ pend pend' ∧ Qk K ops eff N al ((kd, r) :: t) (H' ++ H) pend') (hc : QE K.P f = true := by rfl) (ha' : EvL t xs.toList args := by exact ze) (hd : Nat.blt kd K.n = true := by rfl) (he : QZ eff i = true := by rfl) :
  Qk K ops eff N ((i, ⟨some kd, .call ⟨.value (.func f), xs, ats⟩, tp, pos, aft, none⟩) :: al) t H pend :=
 let ⟨_, hp⟩ := hp
 Lo (fun _ h1 => Mp hf hp hc (ha'.trans fun x hx => h1 x (by simp [Op.operands, Call.operands]; exact .inr (by simpa using hx))) hl hΦ (by simpa [Xx] using hd) fun r H' hr' => let ⟨h1, p', h2, h3⟩ := hn r H' hr'; ⟨_, p', rfl, h1, h2, h3⟩) he
theorem FnH.of_le {f : FuncId} {args args' : List T} {Φ : T → Qd → Prop} (hl : LeL args args') (hf : FnH P f args' H Φ) : FnH P f args H Φ := fun S w vs hw ho hr => hf S w vs hw ho (hl S w vs hr)
theorem FnH.lend {f : FuncId} {args args' : List T} {Φ : T → Qd → Prop} (hl : Qg G args args') (hf : FnH P f args' H Φ) : FnH P f args (G ++ H) Φ := fun S w vs hw ho hr => by
 have hog := ho.left
 have hw' : Wf (fun b => S b ∨ b ∈ keys G) w := fun b hb => hb.elim (hw b) (hog.lt b)
 have hoh : Own (fun b => S b ∨ b ∈ keys G) w H := ⟨ho.right.nodup, fun b hb hS => hS.elim (ho.right.apart b hb) (fun h => ho.disj b h hb), fun p hp => (ho.right.has p hp).mono rfl fun b hb => ⟨.inl hb, rfl⟩⟩
 refine (hf _ w vs hw' hoh (hl S w _ hog hr)).mono ?_
 rintro e w' ⟨u, S', r, H', rfl, h1, h2, h3, h4, h5⟩
 refine ⟨u, S', r, H', rfl, h1, h2, h3, ⟨h4.os, h4.tape, h4.output, h4.size, fun c hc hk => h4.keep c hc (fun h => hk (by rw [Ql]; exact List.mem_append_right _ h)), fun c hc => h4.sub c (.inl hc), fun c hc => ?_, h4.wf⟩, fun c hc => (h5 c hc).imp (fun h => by rw [Ql]; exact List.mem_append_right _ h) id⟩
 rw [Ql]
 rcases h4.new c hc with (h | h) | h | h
 ·exact .inl h
 ·exact .inr (.inr (List.mem_append_left _ h))
 ·exact .inr (.inl h)
 ·exact .inr (.inr (List.mem_append_right _ h))
theorem IF {f : FuncId} {xs : Array Operand} {ats : Array TypeId} {args : List T} {Φ : T → Qd → Prop} {kd : Tmp} (hf : FnH K.P f args H Φ)
  (hn : ∀ r H', Φ r H' → XR ops ⟨some kd, .call ⟨.value (.func f), xs, ats⟩, tp, pos, aft, none⟩ H' pend ∧ ∃ pend', XV ops ⟨some kd, .call ⟨.value (.func f), xs, ats⟩, tp, pos, aft, none⟩ pend pend' ∧ Qk K ops eff N al ((kd, r) :: t) H' pend') (hc : QE K.P f = true := by rfl) (ha' : EvL t xs.toList args := by exact ze) (hd : Nat.blt kd K.n = true := by rfl) (he : QZ eff i = true := by rfl) :
  Qk K ops eff N ((i, ⟨some kd, .call ⟨.value (.func f), xs, ats⟩, tp, pos, aft, none⟩) :: al) t H pend :=
 Lo (fun _ h1 => YU (Hr := []) hf (by simp) hc (ha'.trans fun x hx => h1 x (by simp [Op.operands, Call.operands]; exact .inr (by simpa using hx))) (by simpa [Xx] using hd) fun r H' hr' => by
  obtain ⟨h1, p', h2, h3⟩ := hn r H' hr'
  rw [List.append_nil]
  exact ⟨_, p', rfl, h1, h2, h3⟩) he
theorem QN {kd : Tmp} {f : FuncId} {xs : Array Operand} {ats : Array TypeId} {args : List T} {Φ : T → Qd → Prop} (hf : FnH K.P f args H Φ) (hn : ∀ r H', Φ r H' → Qf K ops (i + 1) l ((kd, r) :: t) H' N) (hc : QE K.P f = true := by rfl) (ha' : EvL t xs.toList args := by exact ze)
  (hd : Xx (some kd) K.n = true := by rfl) : Qf K ops i (⟨some kd, .call ⟨.value (.func f), xs, ats⟩, tp, pos, aft, none⟩ :: l) t H N :=
 YA (YU (Hr := []) hf (by simp) hc ha' hd fun r H' hr' => by rw [List.append_nil]; exact hn r H' hr')
end
section
variable {K : Ctx} {P : Program} {t : Env} {H Hs G Hr : Qd} {S : Nat → Prop} {w : World} {N : Env → Qd → Prop} {Ψ : Exit → Env → Qd → Prop}
variable {dst : Option Tmp} {tp : TypeId} {pos : String} {aft : Array Edge} {g : Option (Nat × Bool)} {ty ty' : TypeId}
theorem Xv.of : ∀ {cs : List T} {o n : Nat}, o + n ≤ cs.length → Xv cs o n ((cs.drop o).take n)
 | cs, 0, 0, _ => by simp; exact .nil _
 | [], 0, n + 1, h => by simp at h
 | c :: cs, 0, n + 1, h => .cons _ _ _ _ (by have := Xv.of (cs := cs) (o := 0) (n := n) (by simp at h; omega); simpa using this)
 | [], o + 1, n, h => by simp at h
 | c :: cs, o + 1, n, h => .skip _ _ _ _ _ (by simpa using Xv.of (cs := cs) (o := o) (n := n) (by simp at h; omega))
theorem W0 {k : Nat} : ∀ {xs : List T} {i : Nat} {x : T}, (∀ y ∈ xs, y.cells.length = k) → xs[i]? = some x → ((xs.flatMap T.cells).drop (i * k)).take k = x.cells ∧ i * k + k ≤ (xs.flatMap T.cells).length
 | [], i, x, _, h => by simp at h
 | y :: xs, 0, x, hk, h => by
  simp only [List.getElem?_cons_zero, Option.some.injEq] at h
  subst h
  have h1 := hk y List.mem_cons_self
  simp only [Nat.zero_mul, List.drop_zero, List.flatMap_cons, List.length_append, Nat.zero_add]
  exact ⟨by rw [← h1, List.take_append_of_le_length (Nat.le_refl _), List.take_length], by omega⟩
 | y :: xs, i + 1, x, hk, h => by
  have h1 := hk y List.mem_cons_self
  have ⟨h2, h3⟩ := W0 (xs := xs) (i := i) (x := x) (fun y hy => hk y (List.mem_cons_of_mem _ hy)) (by simpa using h)
  simp only [List.flatMap_cons, List.length_append, Nat.succ_mul]
  refine ⟨?_, by omega⟩
  rw [Nat.add_comm (i * k) k, ← h1, ← List.drop_drop, List.drop_append_of_le_length (Nat.le_refl _), List.drop_length, List.nil_append, h1]
  exact h2
theorem Xv.flat {k : Nat} {xs : List T} {i : Nat} {x : T} (hk : ∀ y ∈ xs, y.cells.length = k) (h : xs[i]? = some x) : Xv (xs.flatMap T.cells) (0 + i * k) k x.cells := by
 have ⟨h1, h2⟩ := W0 hk h
 rw [Nat.zero_add, ← h1]
 exact Xv.of h2
def Wl (P : Program) (t : TypeId) : Option Nat := match P.underlying t with
 | some (.array n e) => bif QP P e && Nat.beq (((P.info? e).map (·.size)).getD 0) 1 then some n else none
 | _ => none
theorem G6 {n : Nat} (h : Wl P ty = some n) : ∃ e i, P.underlying ty = some (.array n e) ∧ QP P e = true ∧ P.info? e = some i ∧ i.size = 1 := by
 unfold Wl at h
 split at h
 ·rename_i m e he
  cases hb : QP P e && Nat.beq (((P.info? e).map (·.size)).getD 0) 1 with
  | false => rw [hb] at h; cases h
  | true =>
   rw [hb] at h
   simp only [cond_true, Option.some.injEq] at h
   simp only [Bool.and_eq_true] at hb
   have h1 := Nat.eq_of_beq_eq_true hb.2
   cases hi : P.info? e with
   | none => rw [hi] at h1; cases h1
   | some i => rw [hi] at h1; exact ⟨e, i, by rw [he, h], hb.1, hi, h1⟩
 ·cases h
theorem D0 {x y : Operand} {n : Nat} {i : Int} {k : IntKind} {ys : List T} {d : T} (hx : t.ev x = .agg ys) (hy : t.ev y = .v (.int k i)) (hu : Wl P ty = some n) (h0 : 0 ≤ i) (h1 : i < n) (hd : ys[i.toNat]? = some d) :
  POp P t H ⟨dst, .index ty x y, tp, pos, aft, g⟩ d :=
 POp.still fun S w a _ _ hr => by
  have e1 := hr x (by simp [Op.operands]); rw [hx] at e1
  have e2 := hr y (by simp [Op.operands]); rw [hy] at e2
  obtain ⟨e, inf, hu', hl, hi, hs⟩ := G6 hu
  generalize hv : a.eval x = u at e1
  cases e1 with
  | agg _ vs hvs =>
   obtain ⟨z, hz, hdz⟩ := hvs.get hd
   refine ⟨z, ?_, hdz⟩
   simp [execOp, hv, e2.v_eq, Instr.index, asIntOf, run_underlying hu', h0, h1, part, JF hl w, Qw hi, hs, hz]
theorem PB {x y : Operand} {n : Nat} {i : Int} {k : IntKind} {ys : List T} {d : T} (hd : ys[i.toNat]? = some d) (hx : t.ev x = .agg ys := by exact zl) (hy : t.ev y = .v (.int k i) := by exact zl) (hu : Wl P ty = some n := by rfl) (h0 : 0 ≤ i := by exact zo) (h1 : i < n := by exact zo) :
  POp P t H ⟨dst, .index ty x y, tp, pos, aft, g⟩ d := D0 hx hy hu h0 h1 hd
end
section
variable {K : Ctx} {P : Program} {t : Env} {H : Qd} {N : Env → Qd → Prop} {ty : TypeId} {tp : TypeId} {pos : String} {aft : Array Edge} {x : Operand} {d : T} {ops : Array Oper} {i j kg : Nat} {kd : Tmp} {eff : List Nat} {pend : List Xb} {al : List (Nat × Oper)} {p q : Prop} {ip : Decidable p} {iq : Decidable q}
theorem Nv {b o m : Nat} {ty0 : TypeId} {cells : List T} (h : Qk K ops eff N al ((kd, T.gp (p ∧ ¬ q) inferInstance d) :: t) H (⟨i, ⟨some kd, .load ty x, tp, pos, aft, some (j, false)⟩, T.gp (p ∧ ¬ q) inferInstance d, fun H => (b, (⟨ty0, cells, m⟩ : Blk)) ∈ H⟩ :: pend)) (hj : (ops[j]?).bind (·.dst) = some kg := by rfl) (hb : t.get kg = T.gp p ip (.v (.bool (decide q))) := by exact zG)
  (hx : p ∧ ¬ q → t.ev x = .v (.pointer (some ⟨b, o, none⟩)) := by exact zU) (hm : (b, (⟨ty0, cells, m⟩ : Blk)) ∈ H := by exact zm) (hd : cells[o]? = some d := by rfl) (hk : QP K.P ty = true := by rfl) (he : QZ eff i = false := by rfl) :
  Qk K ops eff N ((i, ⟨some kd, .load ty x, tp, pos, aft, some (j, false)⟩) :: al) t H pend :=
 a_F (F := fun H => (b, (⟨ty0, cells, m⟩ : Blk)) ∈ H) (fun H' h' => ⟨kg, _, hj, hb.trans C8, fun e => by rw [XX (Zl.1 e)]; exact Qj (hx (Zl.1 e)) h' hd hk, fun e => Yz fun h => e (Zl.2 h)⟩) hm h he
end
section
variable {P : Program} {t : Env} {H : Qd} {dst : Option Tmp} {tp : TypeId} {pos : String} {aft : Array Edge} {g : Option (Nat × Bool)} {k : IntKind} {a b c : Int}
theorem NQ {x y z : Operand} {ats : Array TypeId} (hx : t.ev x = .v (.int k a) := by exact zl) (hy : t.ev y = .v (.int k b) := by exact zl) (hz : t.ev z = .v (.int k c) := by exact zl) :
  POp P t H ⟨dst, .call ⟨.builtin .max, #[x, y, z], ats⟩, tp, pos, aft, g⟩ (.v (.int k (max (max a b) c))) :=
 POp.still fun S w u _ _ hr => by
  have h1 := hr x (by simp [Op.operands, Call.operands]); rw [hx] at h1
  have h2 := hr y (by simp [Op.operands, Call.operands]); rw [hy] at h2
  have h3 := hr z (by simp [Op.operands, Call.operands]); rw [hz] at h3
  refine ⟨.int k (max (max a b) c), ?_, .v _⟩
  have e1 : (if b > a then b else a) = max a b := by rw [Int.max_def]; split <;> split <;> omega
  have e2 : (if c > max a b then c else max a b) = max (max a b) c := by generalize max a b = m; rw [Int.max_def]; split <;> split <;> omega
  simp [execOp, resolve, invoke, builtin, Builtin.max_, Builtin.max2, h1.v_eq, h2.v_eq, h3.v_eq]
  rw [e1, e2]
  omega
end
section
variable {K : Ctx} {P : Program} {t : Env} {H H' Hs Hs' G : Qd} {N : Env → Qd → Prop} {ty ty' : TypeId} {dst : Option Tmp} {g : Option (Nat × Bool)} {tp : TypeId} {pos : String} {aft : Array Edge} {x y : Operand} {d : T} {ops : Array Oper} {i j kg : Nat} {kd : Tmp} {eff : List Nat} {pend : List Xb} {al : List (Nat × Oper)} {p q : Prop} {ip : Decidable p} {iq : Decidable q}
theorem Nw {f : FuncId} {xs : Array Operand} {ats : Array TypeId} {args args' : List T} {d : T} (hf : p → FnP K.P f args' (fun r => r = d)) (hl : p → Qg G args args') (hp : ∃ H1, H.Perm (G ++ H1))
  (h : Qk K ops eff N al ((kd, T.gp p inferInstance d) :: t) H (⟨i, ⟨some kd, .call ⟨.value (.func f), xs, ats⟩, tp, pos, aft, some (j, true)⟩, T.gp p inferInstance d, fun H => ∃ H1, H.Perm (G ++ H1)⟩ :: pend)) (ha' : p → EvL t xs.toList args) (hj : (ops[j]?).bind (·.dst) = some kg := by rfl) (hb : t.get kg = .v (.bool (decide p)) := by exact zG) (hc : QE K.P f = true := by rfl) (hpl : d.plain = true := by rfl) (he : QZ eff i = false := by rfl) :
  Qk K ops eff N ((i, ⟨some kd, .call ⟨.value (.func f), xs, ats⟩, tp, pos, aft, some (j, true)⟩) :: al) t H pend :=
 a_F (F := fun H => ∃ H1, H.Perm (G ++ H1)) (fun H' h' => ⟨kg, _, hj, hb, fun e => by rw [XX (XG.1 e)]; exact YY hpl (hf (XG.1 e)) h' hc (ha' (XG.1 e)) (hl (XG.1 e)), fun e => Yz fun h => e (XG.2 h)⟩) hp h he
theorem BZ {f : FuncId} {xs : Array Operand} {ats : Array TypeId} {args args' : List T} {d : T} (hf : ¬ p → FnP K.P f args' (fun r => r = d)) (hl : ¬ p → Qg G args args') (hp : ∃ H1, H.Perm (G ++ H1))
  (h : Qk K ops eff N al ((kd, T.gp (¬ p) inferInstance d) :: t) H (⟨i, ⟨some kd, .call ⟨.value (.func f), xs, ats⟩, tp, pos, aft, some (j, false)⟩, T.gp (¬ p) inferInstance d, fun H => ∃ H1, H.Perm (G ++ H1)⟩ :: pend)) (ha' : ¬ p → EvL t xs.toList args) (hj : (ops[j]?).bind (·.dst) = some kg := by rfl) (hb : t.get kg = .v (.bool (decide p)) := by exact zG) (hc : QE K.P f = true := by rfl) (hpl : d.plain = true := by rfl) (he : QZ eff i = false := by rfl) :
  Qk K ops eff N ((i, ⟨some kd, .call ⟨.value (.func f), xs, ats⟩, tp, pos, aft, some (j, false)⟩) :: al) t H pend :=
 a_F (F := fun H => ∃ H1, H.Perm (G ++ H1)) (fun H' h' => ⟨kg, _, hj, hb, fun e => by rw [XX (YP.1 e)]; exact YY hpl (hf (YP.1 e)) h' hc (ha' (YP.1 e)) (hl (YP.1 e)), fun e => Yz fun h => e (YP.2 h)⟩) hp h he
theorem To {b o m : Nat} {ty0 : TypeId} {cells : List T} (hm : p → (b, (⟨ty0, cells, m⟩ : Blk)) ∈ H) (hd : p → cells[o]? = some d) (h : Qk K ops eff N al ((kd, T.gp p inferInstance d) :: t) H (⟨i, ⟨some kd, .load ty x, tp, pos, aft, some (j, true)⟩, T.gp p inferInstance d, fun H => p → (b, (⟨ty0, cells, m⟩ : Blk)) ∈ H⟩ :: pend)) (hj : (ops[j]?).bind (·.dst) = some kg := by rfl) (hb : t.get kg = .v (.bool (decide p)) := by exact zG)
  (hx : p → t.ev x = .v (.pointer (some ⟨b, o, none⟩)) := by exact zU) (hk : QP K.P ty = true := by rfl) (he : QZ eff i = false := by rfl) :
  Qk K ops eff N ((i, ⟨some kd, .load ty x, tp, pos, aft, some (j, true)⟩) :: al) t H pend :=
 a_F (F := fun H => p → (b, (⟨ty0, cells, m⟩ : Blk)) ∈ H) (fun H' h' => ⟨kg, _, hj, hb, fun e => by rw [XX (XG.1 e)]; exact Qj (hx (XG.1 e)) (h' (XG.1 e)) (hd (XG.1 e)) hk, fun e => Yz fun h => e (XG.2 h)⟩) hm h he
theorem NR {v : Option Addr} {b o n c k : Nat} {i : Int} {kd : IntKind} [hs : Zq P ty k] (hv : v = some ⟨b, o, none⟩) (hx : t.ev x = .v (.slice v n c) := by exact zl) (hy : t.ev y = .v (.int kd i) := by exact zl) (h0 : 0 ≤ i := by exact zo) (h1 : i < n := by exact zo) :
  POp P t H ⟨dst, .indexAddr ty x y, tp, pos, aft, g⟩ (.v (.pointer (some ⟨b, o + i.toNat * k, none⟩))) := by subst hv; exact ZY hx hy h0 h1
theorem TA {b : Bool} (hx : t.ev x = .v (.bool b) := by exact zl) : POp P t H ⟨dst, .unOp .not ty x, tp, pos, aft, g⟩ (.v (.bool !b)) := Ow hx
theorem R.front {a : Act} {w : World} (h : R K t H a w) (hF : Qi H H') : R K t H' a w := by
 obtain ⟨S, h⟩ := h
 have hl := hF.le h.own.nodup
 exact ⟨S, h.size, h.defers, h.step, h.own.le hl, fun b hb => h.mine b (hl.sub b hb), h.env⟩
theorem Il {o : Oper} (hF : Qi H H') (h : EOp K t H' o N) : EOp K t H o N := fun a w hr Kc Q hk => h a w (hr.front hF) Kc Q hk
theorem Qi.app {B : Qd} (h : Qi Hs Hs') : Qi (Hs ++ B) (Hs' ++ B) := by
 induction h with
 | nil H => induction H with
  | nil => exact kR
  | cons p H ih => exact .skip _ _ _ ih
 | keep b k k' r r' hk hr ih => exact .keep b k k' _ _ hk ih
 | skip p r r' hr ih => exact .skip _ _ _ ih
theorem Pq {x y : Operand} {e : TypeId} {k : Nat} {xs ys : List T} {p : Option Addr} {n c : Nat} {A B : Qd} {f : Bool} {dy d : T} {by_ : Nat} [hz : QF K.P ty d by_] (ho : OSl e k xs (.slice p n c) Hs) (hkx : ∀ x ∈ xs, x.cells.length = k) (jj : Nat)
  (h : ∀ v' Hs', OSl e k (xs.take jj ++ ys) v' Hs' → XR ops ⟨some kd, .call ⟨.builtin .append, #[x, y], #[ty, ty']⟩, tp, pos, aft, none⟩ (A ++ (Hs' ++ B)) pend ∧ ∃ pend', XV ops ⟨some kd, .call ⟨.builtin .append, #[x, y], #[ty, ty']⟩, tp, pos, aft, none⟩ pend pend' ∧ Qk K ops eff N al ((kd, .v v') :: t) (A ++ (Hs' ++ B)) pend') (hH : H = A ++ (Hs ++ B) := by rfl) (hx : t.ev x = .v (.slice p (min jj xs.length) c) := by exact zl) (hy : t.ev y = dy := by exact zl) (hyl : Le dy (.sl f ys) := by exact zL) (h0 : 0 < ys.length := by exact zo)
  (hkd : d.cells.length = k := by rfl) (hk0 : Xs K.P ty = e := by rfl) (hs : QR K.P ty' = true := by rfl) (hky : ∀ x ∈ ys, x.cells.length = k := by exact zk) (hyleaf : ∀ x ∈ ys, Qt x.cells = true := by exact zf)
  (hb : (xs.length + ys.length) * by_ ≤ 140737488355328 := by exact zo) (hm : xs.length + ys.length ≤ 9223372036854775807 := by exact zo) (hd : Nat.blt kd K.n = true := by rfl) (he : QZ eff i = true := by rfl) :
  Qk K ops eff N ((i, ⟨some kd, .call ⟨.builtin .append, #[x, y], #[ty, ty']⟩, tp, pos, aft, none⟩) :: al) t H pend := by
 obtain ⟨Hs', hF, ho'⟩ := OSl.take ho hkx jj
 have hlen : (xs.take jj).length ≤ xs.length := by simp; omega
 have hb' : ((xs.take jj).length + ys.length) * by_ ≤ 140737488355328 := Nat.le_trans (Nat.mul_le_mul_right _ (by omega)) hb
 exact Lo (fun _ h1 => Il (by rw [hH]; exact kH hF.app) (YZ ho' rfl ((h1 x (by simp [Op.operands, Call.operands])).trans hx) ((h1 y (by simp [Op.operands, Call.operands])).trans hy) hyl h0 hkd hk0 hs (fun x hx => hkx x (List.mem_of_mem_take hx)) hky hyleaf hb' (by omega) hd fun v' Hs' ho' => let ⟨h1, p', h2, h3⟩ := h v' Hs' ho'; ⟨_, p', rfl, h1, h2, h3⟩)) he
end
inductive VZ (place : Nat → Option (Nat × Nat)) : List T → List (Nat × T) → List T → Prop
 | nil (cs : List T) : VZ place cs [] cs
 | cons (i : Nat) (d : T) (rest : List (Nat × T)) (cs cs' ds : List T) (off size : Nat) (hp : place i = some (off, size)) (hs : Nat.beq d.cells.length size = true) (h0 : Nat.blt 0 d.cells.length = true) (hl : Zc cs off d.cells cs') (hr : VZ place cs' rest ds) : VZ place cs ((i, d) :: rest) ds
theorem VZ.eq {place : Nat → Option (Nat × Nat)} {cs ds : List T} {ps : List (Nat × T)} (h : VZ place cs ps ds) : Vm place cs ps = some ds := by
 induction h with
 | nil => rfl
 | cons i d rest cs cs' ds off size hp hs h0 hl hr ih =>
  have h2 := hl.eq
  have h3 : Nat.ble (off + d.cells.length) cs.length = true := Nat.ble_eq_true_of_le h2.2
  simp only [Vm, hp, hs, h0, h3, Bool.and_self, cond_true, h2.1, ih]
section
variable {P : Program} {t : Env} {H : Qd} {dst : Option Tmp} {tp : TypeId} {pos : String} {aft : Array Edge} {g : Option (Nat × Bool)} {ty : TypeId}
theorem NV {parts : Array (Nat × Operand)} {z ds : List T} (n : Nat) [hz0 : Q4 P ty z] {ps : List (Nat × T)} (ha : Yl P ty = some n := by rfl) (hok : Vn P ty = true := by rfl) (hp : EvP t parts.toList ps := by exact zpv)
  (hd' : VZ (Zj P ty) z ps ds := by (repeat (first | exact VZ.nil _ | (apply VZ.cons; (focus rfl); (focus rfl); (focus rfl); (focus exact zy))))) : POp P t H ⟨dst, .build ty parts, tp, pos, aft, g⟩ (.agg ds) := L4 n ds ha hok hp hd'.eq
end
theorem FnH.give {P : Program} {f : FuncId} {args : List T} {Φ : T → Qd → Prop} {d : T} (hf : FnH P f args [] Φ) (hg : ∀ r H, Φ r H → QB H r d) : FnP P f args (fun r => r = d) := by
 intro S w vs hw ho hr
 refine (hf S w vs hw ho hr).mono ?_
 rintro e w' ⟨u, S', r, H', rfl, h1, h2, h3, h4, h5⟩
 have h5' : ∀ b ∈ keys H', w.heap.size ≤ b := fun b hb => (h5 b hb).elim (fun h => by simp [keys] at h) id
 refine ⟨u, fun b => S' b ∨ b ∈ keys H', d, [], rfl, ⟨rfl, rfl⟩, hg r H' h1 S' w' u h3 h2, Own.nil _ _, ⟨h4.os, h4.tape, h4.output, h4.size, h4.keep, fun b hb => .inl (h4.sub b hb), fun b hb => ?_, fun b hb => hb.elim (h4.wf b) (h3.lt b)⟩, by simp [keys]⟩
 exact hb.elim (h4.new b) (fun h => .inr (.inl (h5' b h)))
theorem ZK {K : Ctx} {t : Env} {H G H1 : Qd} {N : Env → Qd → Prop} {ops : Array Oper} {i : Nat} {l : List Oper} {d : T} (k : Nat) (x : T) (hl : QB G d x) (h : Qf K ops i l ((k, x) :: t) H1 N) (hp : H.Perm (G ++ H1)) (hg : t.get k = d := by rfl) : Qf K ops i l t H N :=
 Id [(k, x)] hp ⟨hg ▸ hl, trivial⟩ h
end Go.Cap
