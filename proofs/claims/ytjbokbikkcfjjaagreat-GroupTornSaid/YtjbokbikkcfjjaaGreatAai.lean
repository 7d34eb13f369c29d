/-
  Rows of one's own, read at a place; an array's element; a worker's calls, in short.
-/
import Derived.Test.YtjbokbikkcfjjaaGreatAah
set_option maxRecDepth 16000
set_option maxHeartbeats 8000000
set_option linter.all false
namespace Go.Cap
section
variable {K : Ctx} {P : Program} {t : Env} {H Hs G Hr : Qc} {S : Nat → Prop} {w : World} {N : Env → Qc → Prop} {Ψ : Exit → Env → Qc → Prop}
variable {dst : Option Tmp} {tp : TypeId} {pos : String} {aft : Array Edge} {g : Option (Nat × Bool)} {ty ty' : TypeId}
theorem Xs.of : ∀ {cs : List T} {o n : Nat}, o + n ≤ cs.length → Xs cs o n ((cs.drop o).take n)
 | cs, 0, 0, _ => by simp; exact .nil _
 | [], 0, n + 1, h => by simp at h
 | c :: cs, 0, n + 1, h => .cons _ _ _ _ (by have := Xs.of (cs := cs) (o := 0) (n := n) (by simp at h; omega); simpa using this)
 | [], o + 1, n, h => by simp at h
 | c :: cs, o + 1, n, h => .skip _ _ _ _ _ (by simpa using Xs.of (cs := cs) (o := o) (n := n) (by simp at h; omega))
theorem Wo {k : Nat} : ∀ {xs : List T} {i : Nat} {x : T}, (∀ y ∈ xs, y.cells.length = k) → xs[i]? = some x → ((xs.flatMap T.cells).drop (i * k)).take k = x.cells ∧ i * k + k ≤ (xs.flatMap T.cells).length
 | [], i, x, _, h => by simp at h
 | y :: xs, 0, x, hk, h => by
  simp only [List.getElem?_cons_zero, Option.some.injEq] at h
  subst h
  have h1 := hk y List.mem_cons_self
  simp only [Nat.zero_mul, List.drop_zero, List.flatMap_cons, List.length_append, Nat.zero_add]
  exact ⟨by rw [← h1, List.take_append_of_le_length (Nat.le_refl _), List.take_length], by omega⟩
 | y :: xs, i + 1, x, hk, h => by
  have h1 := hk y List.mem_cons_self
  have ⟨h2, h3⟩ := Wo (xs := xs) (i := i) (x := x) (fun y hy => hk y (List.mem_cons_of_mem _ hy)) (by simpa using h)
  simp only [List.flatMap_cons, List.length_append, Nat.succ_mul]
  refine ⟨?_, by omega⟩
  rw [Nat.add_comm (i * k) k, ← h1, ← List.drop_drop, List.drop_append_of_le_length (Nat.le_refl _), List.drop_length, List.nil_append, h1]
  exact h2
theorem Xs.flat {k : Nat} {xs : List T} {i : Nat} {x : T} (hk : ∀ y ∈ xs, y.cells.length = k) (h : xs[i]? = some x) : Xs (xs.flatMap T.cells) (0 + i * k) k x.cells := by
 have ⟨h1, h2⟩ := Wo hk h
 rw [Nat.zero_add, ← h1]
 exact Xs.of h2
def VD (P : Program) (t : TypeId) : Option Nat := match P.underlying t with
 | some (.array n e) => bif QC P e && Nat.beq (((P.info? e).map (·.size)).getD 0) 1 then some n else none
 | _ => none
theorem EV {n : Nat} (h : VD P ty = some n) : ∃ e i, P.underlying ty = some (.array n e) ∧ QC P e = true ∧ P.info? e = some i ∧ i.size = 1 := by
 unfold VD at h
 split at h
 ·rename_i m e he
  cases hb : QC P e && Nat.beq (((P.info? e).map (·.size)).getD 0) 1 with
  | false => rw [hb] at h; cases h
  | true =>
   rw [hb] at h
   simp only [cond_true, Option.some.injEq] at h
   simp only [Bool.and_eq_true] at hb
   have h1 := Nat.eq_of_beq_eq_true hb.2
   cases hi : P.info? e with
   | none => rw [hi] at h1; cases h1
   | some i => rw [hi] at h1; exact ⟨e, i, by rw [he, h], hb.1, hi, h1⟩
 ·cases h
theorem M4 {x y : Operand} {n : Nat} {i : Int} {k : IntKind} {ys : List T} {d : T} (hx : t.ev x = .agg ys) (hy : t.ev y = .v (.int k i)) (hu : VD P ty = some n) (h0 : 0 ≤ i) (h1 : i < n) (hd : ys[i.toNat]? = some d) :
  POp P t H ⟨dst, .index ty x y, tp, pos, aft, g⟩ d :=
 POp.still fun S w a _ _ hr => by
  have e1 := hr x (by simp [Op.operands]); rw [hx] at e1
  have e2 := hr y (by simp [Op.operands]); rw [hy] at e2
  obtain ⟨e, inf, hu', hl, hi, hs⟩ := EV hu
  generalize hv : a.eval x = u at e1
  cases e1 with
  | agg _ vs hvs =>
   obtain ⟨z, hz, hdz⟩ := hvs.get hd
   refine ⟨z, ?_, hdz⟩
   simp [execOp, hv, e2.v_eq, Instr.index, asIntOf, run_underlying hu', h0, h1, part, Jk hl w, Qy hi, hs, hz]
theorem TT {x y : Operand} {n : Nat} {i : Int} {k : IntKind} {ys : List T} {d : T} (hd : ys[i.toNat]? = some d) (hx : t.ev x = .agg ys := by exact zl) (hy : t.ev y = .v (.int k i) := by exact zl) (hu : VD P ty = some n := by rfl) (h0 : 0 ≤ i := by exact zo) (h1 : i < n := by exact zo) :
  POp P t H ⟨dst, .index ty x y, tp, pos, aft, g⟩ d := M4 hx hy hu h0 h1 hd
end
section
variable {K : Ctx} {P : Program} {t : Env} {H : Qc} {N : Env → Qc → Prop} {ty : TypeId} {tp : TypeId} {pos : String} {aft : Array Edge} {x : Operand} {d : T} {ops : Array Oper} {i j kg : Nat} {kd : Tmp} {eff : List Nat} {pend : List Xg} {al : List (Nat × Oper)} {p q : Prop} {ip : Decidable p} {iq : Decidable q}
theorem AZ {b o m : Nat} {ty0 : TypeId} {cells : List T} (h : Qj K ops eff N al ((kd, T.gp (p ∧ ¬ q) inferInstance d) :: t) H (⟨i, ⟨some kd, .load ty x, tp, pos, aft, some (j, false)⟩, T.gp (p ∧ ¬ q) inferInstance d, fun H => (b, (⟨ty0, cells, m⟩ : Blk)) ∈ H⟩ :: pend)) (hj : (ops[j]?).bind (·.dst) = some kg := by rfl) (hb : t.get kg = T.gp p ip (.v (.bool (decide q))) := by exact zG)
  (hx : p ∧ ¬ q → t.ev x = .v (.pointer (some ⟨b, o, none⟩)) := by exact zU) (hm : (b, (⟨ty0, cells, m⟩ : Blk)) ∈ H := by exact zm) (hd : cells[o]? = some d := by rfl) (hk : QC K.P ty = true := by rfl) (he : QS eff i = false := by rfl) :
  Qj K ops eff N ((i, ⟨some kd, .load ty x, tp, pos, aft, some (j, false)⟩) :: al) t H pend :=
 a_F (F := fun H => (b, (⟨ty0, cells, m⟩ : Blk)) ∈ H) (fun H' h' => ⟨kg, _, hj, hb.trans IM, fun e => by rw [XD (Y8.1 e)]; exact Ql (hx (Y8.1 e)) h' hd hk, fun e => Yi fun h => e (Y8.2 h)⟩) hm h he
end
section
variable {P : Program} {t : Env} {H : Qc} {dst : Option Tmp} {tp : TypeId} {pos : String} {aft : Array Edge} {g : Option (Nat × Bool)} {k : IntKind} {a b c : Int}
theorem Tg {x y z : Operand} {ats : Array TypeId} (hx : t.ev x = .v (.int k a) := by exact zl) (hy : t.ev y = .v (.int k b) := by exact zl) (hz : t.ev z = .v (.int k c) := by exact zl) :
  POp P t H ⟨dst, .call ⟨.builtin .max, #[x, y, z], ats⟩, tp, pos, aft, g⟩ (.v (.int k (max (max a b) c))) :=
 POp.still fun S w u _ _ hr => by
  have h1 := hr x (by simp [Op.operands, Call.operands]); rw [hx] at h1
  have h2 := hr y (by simp [Op.operands, Call.operands]); rw [hy] at h2
  have h3 := hr z (by simp [Op.operands, Call.operands]); rw [hz] at h3
  refine ⟨.int k (max (max a b) c), ?_, .v _⟩
  have e1 : (if b > a then b else a) = max a b := by rw [Int.max_def]; split <;> split <;> omega
  have e2 : (if c > max a b then c else max a b) = max (max a b) c := by generalize max a b = m; rw [Int.max_def]; split <;> split <;> omega
  simp [execOp, resolve, invoke, builtin, Builtin.max_, Builtin.max2, h1.v_eq, h2.v_eq, h3.v_eq]
  rw [e1, e2]
  omega
end
section
variable {K : Ctx} {P : Program} {t : Env} {H H' Hs Hs' G : Qc} {N : Env → Qc → Prop} {ty ty' : TypeId} {dst : Option Tmp} {g : Option (Nat × Bool)} {tp : TypeId} {pos : String} {aft : Array Edge} {x y : Operand} {d : T} {ops : Array Oper} {i j kg : Nat} {kd : Tmp} {eff : List Nat} {pend : List Xg} {al : List (Nat × Oper)} {p q : Prop} {ip : Decidable p} {iq : Decidable q}
theorem A0 {f : FuncId} {xs : Array Operand} {ats : Array TypeId} {args args' : List T} {d : T} (hf : p → FnP K.P f args' (fun r => r = d)) (hl : p → Qg G args args') (hp : ∃ H1, H.Perm (G ++ H1))
  (h : Qj K ops eff N al ((kd, T.gp p inferInstance d) :: t) H (⟨i, ⟨some kd, .call ⟨.value (.func f), xs, ats⟩, tp, pos, aft, some (j, true)⟩, T.gp p inferInstance d, fun H => ∃ H1, H.Perm (G ++ H1)⟩ :: pend)) (ha' : p → EvL t xs.toList args) (hj : (ops[j]?).bind (·.dst) = some kg := by rfl) (hb : t.get kg = .v (.bool (decide p)) := by exact zG) (hc : QE K.P f = true := by rfl) (hpl : d.plain = true := by rfl) (he : QS eff i = false := by rfl) :
  Qj K ops eff N ((i, ⟨some kd, .call ⟨.value (.func f), xs, ats⟩, tp, pos, aft, some (j, true)⟩) :: al) t H pend :=
 a_F (F := fun H => ∃ H1, H.Perm (G ++ H1)) (fun H' h' => ⟨kg, _, hj, hb, fun e => by rw [XD (Xt.1 e)]; exact YQ hpl (hf (Xt.1 e)) h' hc (ha' (Xt.1 e)) (hl (Xt.1 e)), fun e => Yi fun h => e (Xt.2 h)⟩) hp h he
theorem A1 {f : FuncId} {xs : Array Operand} {ats : Array TypeId} {args args' : List T} {d : T} (hf : ¬ p → FnP K.P f args' (fun r => r = d)) (hl : ¬ p → Qg G args args') (hp : ∃ H1, H.Perm (G ++ H1))
  (h : Qj K ops eff N al ((kd, T.gp (¬ p) inferInstance d) :: t) H (⟨i, ⟨some kd, .call ⟨.value (.func f), xs, ats⟩, tp, pos, aft, some (j, false)⟩, T.gp (¬ p) inferInstance d, fun H => ∃ H1, H.Perm (G ++ H1)⟩ :: pend)) (ha' : ¬ p → EvL t xs.toList args) (hj : (ops[j]?).bind (·.dst) = some kg := by rfl) (hb : t.get kg = .v (.bool (decide p)) := by exact zG) (hc : QE K.P f = true := by rfl) (hpl : d.plain = true := by rfl) (he : QS eff i = false := by rfl) :
  Qj K ops eff N ((i, ⟨some kd, .call ⟨.value (.func f), xs, ats⟩, tp, pos, aft, some (j, false)⟩) :: al) t H pend :=
 a_F (F := fun H => ∃ H1, H.Perm (G ++ H1)) (fun H' h' => ⟨kg, _, hj, hb, fun e => by rw [XD (Yy.1 e)]; exact YQ hpl (hf (Yy.1 e)) h' hc (ha' (Yy.1 e)) (hl (Yy.1 e)), fun e => Yi fun h => e (Yy.2 h)⟩) hp h he
theorem BU {b o m : Nat} {ty0 : TypeId} {cells : List T} (hm : p → (b, (⟨ty0, cells, m⟩ : Blk)) ∈ H) (hd : p → cells[o]? = some d) (h : Qj K ops eff N al ((kd, T.gp p inferInstance d) :: t) H (⟨i, ⟨some kd, .load ty x, tp, pos, aft, some (j, true)⟩, T.gp p inferInstance d, fun H => p → (b, (⟨ty0, cells, m⟩ : Blk)) ∈ H⟩ :: pend)) (hj : (ops[j]?).bind (·.dst) = some kg := by rfl) (hb : t.get kg = .v (.bool (decide p)) := by exact zG)
  (hx : p → t.ev x = .v (.pointer (some ⟨b, o, none⟩)) := by exact zU) (hk : QC K.P ty = true := by rfl) (he : QS eff i = false := by rfl) :
  Qj K ops eff N ((i, ⟨some kd, .load ty x, tp, pos, aft, some (j, true)⟩) :: al) t H pend :=
 a_F (F := fun H => p → (b, (⟨ty0, cells, m⟩ : Blk)) ∈ H) (fun H' h' => ⟨kg, _, hj, hb, fun e => by rw [XD (Xt.1 e)]; exact Ql (hx (Xt.1 e)) (h' (Xt.1 e)) (hd (Xt.1 e)) hk, fun e => Yi fun h => e (Xt.2 h)⟩) hm h he
theorem Th {v : Option Addr} {b o n c k : Nat} {i : Int} {kd : IntKind} [hs : Zb P ty k] (hv : v = some ⟨b, o, none⟩) (hx : t.ev x = .v (.slice v n c) := by exact zl) (hy : t.ev y = .v (.int kd i) := by exact zl) (h0 : 0 ≤ i := by exact zo) (h1 : i < n := by exact zo) :
  POp P t H ⟨dst, .indexAddr ty x y, tp, pos, aft, g⟩ (.v (.pointer (some ⟨b, o + i.toNat * k, none⟩))) := by subst hv; exact ZL hx hy h0 h1
theorem Ta {b : Bool} (hx : t.ev x = .v (.bool b) := by exact zl) : POp P t H ⟨dst, .unOp .not ty x, tp, pos, aft, g⟩ (.v (.bool !b)) := Gg hx
theorem R.front {a : Act} {w : World} (h : R K t H a w) (hF : Qh H H') : R K t H' a w := by
 obtain ⟨S, h⟩ := h
 have hl := hF.le h.own.nodup
 exact ⟨S, h.size, h.defers, h.step, h.own.le hl, fun b hb => h.mine b (hl.sub b hb), h.env⟩
theorem O6 {o : Oper} (hF : Qh H H') (h : EOp K t H' o N) : EOp K t H o N := fun a w hr Kc Q hk => h a w (hr.front hF) Kc Q hk
theorem Qh.app {B : Qc} (h : Qh Hs Hs') : Qh (Hs ++ B) (Hs' ++ B) := by
 induction h with
 | nil H => induction H with
  | nil => exact kR
  | cons p H ih => exact .skip _ _ _ ih
 | keep b k k' r r' hk hr ih => exact .keep b k k' _ _ hk ih
 | skip p r r' hr ih => exact .skip _ _ _ ih
theorem TJ {x y : Operand} {e : TypeId} {k : Nat} {xs ys : List T} {p : Option Addr} {n c : Nat} {A B : Qc} {f : Bool} {dy d : T} {by_ : Nat} [hz : QL K.P ty d by_] (ho : OSl e k xs (.slice p n c) Hs) (hkx : ∀ x ∈ xs, x.cells.length = k) (jj : Nat)
  (h : ∀ v' Hs', OSl e k (xs.take jj ++ ys) v' Hs' → XO ops ⟨some kd, .call ⟨.builtin .append, #[x, y], #[ty, ty']⟩, tp, pos, aft, none⟩ (A ++ (Hs' ++ B)) pend ∧ ∃ pend', XI ops ⟨some kd, .call ⟨.builtin .append, #[x, y], #[ty, ty']⟩, tp, pos, aft, none⟩ pend pend' ∧ Qj K ops eff N al ((kd, .v v') :: t) (A ++ (Hs' ++ B)) pend') (hH : H = A ++ (Hs ++ B) := by rfl) (hx : t.ev x = .v (.slice p (min jj xs.length) c) := by exact zl) (hy : t.ev y = dy := by exact zl) (hyl : Le dy (.sl f ys) := by exact zL) (h0 : 0 < ys.length := by exact zo)
  (hkd : d.cells.length = k := by rfl) (hk0 : Xk K.P ty = e := by rfl) (hs : QR K.P ty' = true := by rfl) (hky : ∀ x ∈ ys, x.cells.length = k := by exact zk) (hyleaf : ∀ x ∈ ys, QG x.cells = true := by exact zf)
  (hb : (xs.length + ys.length) * by_ ≤ 140737488355328 := by exact zo) (hm : xs.length + ys.length ≤ 9223372036854775807 := by exact zo) (hd : Nat.blt kd K.n = true := by rfl) (he : QS eff i = true := by rfl) :
  Qj K ops eff N ((i, ⟨some kd, .call ⟨.builtin .append, #[x, y], #[ty, ty']⟩, tp, pos, aft, none⟩) :: al) t H pend := by
 obtain ⟨Hs', hF, ho'⟩ := OSl.take ho hkx jj
 have hlen : (xs.take jj).length ≤ xs.length := by simp; omega
 have hb' : ((xs.take jj).length + ys.length) * by_ ≤ 140737488355328 := Nat.le_trans (Nat.mul_le_mul_right _ (by omega)) hb
 exact WJ (fun _ h1 => O6 (by rw [hH]; exact kH hF.app) (YR ho' rfl ((h1 x (by simp [Op.operands, Call.operands])).trans hx) ((h1 y (by simp [Op.operands, Call.operands])).trans hy) hyl h0 hkd hk0 hs (fun x hx => hkx x (List.mem_of_mem_take hx)) hky hyleaf hb' (by omega) hd fun v' Hs' ho' => let ⟨h1, p', h2, h3⟩ := h v' Hs' ho'; ⟨_, p', rfl, h1, h2, h3⟩)) he
end
inductive Vk (place : Nat → Option (Nat × Nat)) : List T → List (Nat × T) → List T → Prop
 | nil (cs : List T) : Vk place cs [] cs
 | cons (i : Nat) (d : T) (rest : List (Nat × T)) (cs cs' ds : List T) (off size : Nat) (hp : place i = some (off, size)) (hs : Nat.beq d.cells.length size = true) (h0 : Nat.blt 0 d.cells.length = true) (hl : ZB cs off d.cells cs') (hr : Vk place cs' rest ds) : Vk place cs ((i, d) :: rest) ds
theorem Vk.eq {place : Nat → Option (Nat × Nat)} {cs ds : List T} {ps : List (Nat × T)} (h : Vk place cs ps ds) : UN place cs ps = some ds := by
 induction h with
 | nil => rfl
 | cons i d rest cs cs' ds off size hp hs h0 hl hr ih =>
  have h2 := hl.eq
  have h3 : Nat.ble (off + d.cells.length) cs.length = true := Nat.ble_eq_true_of_le h2.2
  simp only [UN, hp, hs, h0, h3, Bool.and_self, cond_true, h2.1, ih]
section
variable {P : Program} {t : Env} {H : Qc} {dst : Option Tmp} {tp : TypeId} {pos : String} {aft : Array Edge} {g : Option (Nat × Bool)} {ty : TypeId}
theorem Tk {parts : Array (Nat × Operand)} {z ds : List T} (n : Nat) [hz0 : QZ P ty z] {ps : List (Nat × T)} (ha : X3 P ty = some n := by rfl) (hok : UO P ty = true := by rfl) (hp : EvP t parts.toList ps := by exact zpv)
  (hd' : Vk (Y5 P ty) z ps ds := by (repeat (first | exact Vk.nil _ | (apply Vk.cons; (focus rfl); (focus rfl); (focus rfl); (focus exact zy))))) : POp P t H ⟨dst, .build ty parts, tp, pos, aft, g⟩ (.agg ds) := Lg n ds ha hok hp hd'.eq
end
theorem FnH.give {P : Program} {f : FuncId} {args : List T} {Φ : T → Qc → Prop} {d : T} (hf : FnH P f args [] Φ) (hg : ∀ r H, Φ r H → Qx H r d) : FnP P f args (fun r => r = d) := by
 intro S w vs hw ho hr
 refine (hf S w vs hw ho hr).mono ?_
 rintro e w' ⟨u, S', r, H', rfl, h1, h2, h3, h4, h5⟩
 have h5' : ∀ b ∈ keys H', w.heap.size ≤ b := fun b hb => (h5 b hb).elim (fun h => by simp [keys] at h) id
 refine ⟨u, fun b => S' b ∨ b ∈ keys H', d, [], rfl, ⟨rfl, rfl⟩, hg r H' h1 S' w' u h3 h2, Own.nil _ _, ⟨h4.os, h4.tape, h4.output, h4.size, h4.keep, fun b hb => .inl (h4.sub b hb), fun b hb => ?_, fun b hb => hb.elim (h4.wf b) (h3.lt b)⟩, by simp [keys]⟩
 exact hb.elim (h4.new b) (fun h => .inr (.inl (h5' b h)))
theorem Wk {K : Ctx} {t : Env} {H G H1 : Qc} {N : Env → Qc → Prop} {ops : Array Oper} {i : Nat} {l : List Oper} {d : T} (k : Nat) (x : T) (hl : Qx G d x) (h : Qf K ops i l ((k, x) :: t) H1 N) (hp : H.Perm (G ++ H1)) (hg : t.get k = d := by rfl) : Qf K ops i l t H N :=
 OY [(k, x)] hp ⟨hg ▸ hl, trivial⟩ h
end Go.Cap
