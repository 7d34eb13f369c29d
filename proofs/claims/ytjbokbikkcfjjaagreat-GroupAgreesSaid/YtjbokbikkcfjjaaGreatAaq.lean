/-
  Bytes: rows of one's own that grow, slices.Clone, Grow, Concat over them; a string's bytes.
-/
import Derived.Test.YtjbokbikkcfjjaaGreatAal
set_option maxRecDepth 16000
set_option maxHeartbeats 8000000
set_option linter.all false
namespace Go.Cap
section
variable {K : Ctx} {P : Program} {t : Env} {H : Qd} {dst : Option Tmp} {tp : TypeId} {pos : String} {aft : Array Edge} {g : Option (Nat × Bool)} {N : Env → Qd → Prop} {ty ty' : TypeId}
theorem V0 {x y : Operand} {p : Option Addr} {n c : Nat} {f : Bool} {dy : T} {d : T} {by_ : Nat} (hx : t.ev x = .v (.slice p n c)) (hy : t.ev y = dy) (hyl : Le dy (.sl f [])) [hz : QF P ty d by_] (hs : QR P ty' = true) (hc1 : n ≤ c) :
  POp P t H ⟨dst, .call ⟨.builtin .append, #[x, y], #[ty, ty']⟩, tp, pos, aft, g⟩ (.v (.slice p n c)) :=
 POp.run fun S w a hw _ hr => by
  have h1 := hr x (by simp [Op.operands, Call.operands]); rw [hx] at h1
  have h2 := hr y (by simp [Op.operands, Call.operands]); rw [hy] at h2
  replace h2 := hyl _ _ _ h2
  obtain ⟨e, i, z, hu, hi, hzz, hsz, hp, rfl, hby⟩ := Yb hz.h
  obtain ⟨e', _, hu', _⟩ := YL hs
  have hl := Xf z
  have hk0 : 0 < (T.ofVal z).cells.length := by omega
  have e1 : (execOp a.eval ⟨dst, .call ⟨.builtin .append, #[x, y], #[ty, ty']⟩, tp, pos, aft, g⟩).run P w = ((Builtin.append_ #[ty, ty'] tp #[a.eval x, a.eval y]).run P w).andThen fun v w' => .ok (.value v) w' := by
   simp [execOp, resolve, invoke, builtin]
  rw [e1, h1.v_eq]
  have hlen := Zs (P := P) h2
  obtain ⟨us, hus, hrel, hul⟩ := YE (P := P) h2 (fun x hx => absurd hx (by simp)) hk0 0 (Nat.zero_le _)
  have hus0 : us = [] := List.length_eq_zero_iff.1 (by omega)
  subst hus0
  rw [JC hu hu' hi hlen hc1 (by rw [hsz, ← hl]; exact hus)]
  exact ⟨_, w, S, rfl, QW.refl _ hw, .v _⟩
theorem OSl.capV {e : TypeId} {k : Nat} {xs : List T} {v : Value} {Hs : Qd} (h : OSl e k xs v Hs) : ∃ p c, v = .slice p xs.length c ∧ xs.length ≤ c := by
 obtain ⟨p, c, rfl⟩ := h.len
 exact ⟨p, c, rfl, h.cap⟩
theorem W9 {x y : Operand} {e : TypeId} {k : Nat} {xs ys : List T} {v : Value} {A B Hs : Qd} {f : Bool} {dy d : T} {by_ : Nat} [hz : QF K.P ty d by_] (ho : OSl e k xs v Hs) (hH : H = A ++ (Hs ++ B)) (hx : t.ev x = .v v) (hy : t.ev y = dy) (hyl : Le dy (.sl f ys))
  (hkd : d.cells.length = k) (hk0 : Xs K.P ty = e) (hs : QR K.P ty' = true) (hkx : ∀ x ∈ xs, x.cells.length = k) (hky : ∀ x ∈ ys, x.cells.length = k) (hyleaf : ∀ x ∈ ys, Qt x.cells = true) (hb : (xs.length + ys.length) * by_ ≤ 140737488355328) (hm : xs.length + ys.length ≤ 9223372036854775807)
  {kd : Tmp} (hd : Nat.blt kd K.n = true) (h : ∀ v' Hs', OSl e k (xs ++ ys) v' Hs' → N ((kd, .v v') :: t) (A ++ (Hs' ++ B))) : EOp K t H ⟨some kd, .call ⟨.builtin .append, #[x, y], #[ty, ty']⟩, tp, pos, aft, g⟩ N := by
 cases ys with
 | nil =>
  obtain ⟨p, c, rfl, hc⟩ := ho.capV
  have := h _ _ (by rw [List.append_nil]; exact ho)
  rw [← hH] at this
  exact EOp.of_pop (V0 hx hy hyl hs hc) hd this
 | cons y0 ys => exact YZ ho hH hx hy hyl (by simp) hkd hk0 hs hkx hky hyleaf hb hm hd h
variable {ops : Array Oper} {i : Nat} {l : List Oper} {kd : Tmp}
theorem Mt {x y : Operand} {e : TypeId} {k : Nat} {xs ys : List T} {v : Value} {A B Hs : Qd} {f : Bool} {dy d : T} {by_ : Nat} [hz : QF K.P ty d by_] (ho : OSl e k xs v Hs) (hkx : ∀ x ∈ xs, x.cells.length = k)
  (h : ∀ v' Hs', OSl e k (xs ++ ys) v' Hs' → Qf K ops (i + 1) l ((kd, .v v') :: t) (A ++ (Hs' ++ B)) N) (hH : H = A ++ (Hs ++ B) := by rfl) (hx : t.ev x = .v v := by exact zl) (hy : t.ev y = dy := by exact zl) (hyl : Le dy (.sl f ys) := by exact zL)
  (hkd : d.cells.length = k := by rfl) (hk0 : Xs K.P ty = e := by rfl) (hs : QR K.P ty' = true := by rfl) (hky : ∀ x ∈ ys, x.cells.length = k := by exact zk) (hyleaf : ∀ x ∈ ys, Qt x.cells = true := by exact zf)
  (hb : (xs.length + ys.length) * by_ ≤ 140737488355328 := by exact zo) (hm : xs.length + ys.length ≤ 9223372036854775807 := by exact zo) (hd : Nat.blt kd K.n = true := by rfl) :
  Qf K ops i (⟨some kd, .call ⟨.builtin .append, #[x, y], #[ty, ty']⟩, tp, pos, aft, none⟩ :: l) t H N := YA (W9 ho hH hx hy hyl hkd hk0 hs hkx hky hyleaf hb hm hd h)
theorem V2 {x y : Operand} {n : Nat} {k : IntKind} {d : T} {by_ : Nat} (hx : t.ev x = .v (.slice none 0 0)) (hy : t.ev y = .v (.int .i64 n)) [hz : QF K.P ty d by_] (hs : P.underlying ty' = some (.int k)) (hP : P = K.P) (h0 : 0 < n) (hb : n * by_ ≤ 140737488355328) (hm : n ≤ 9223372036854775807)
  {kd : Tmp} (hd : Nat.blt kd K.n = true)
  (h : ∀ b c, (∀ c ∈ keys H, ¬ c = b) → n ≤ c → N ((kd, .v (.slice (some ⟨b, 0, none⟩) n c)) :: t) ((b, ⟨Xs K.P ty, [], c * d.cells.length⟩) :: H)) :
  EOp K t H ⟨some kd, .call ⟨.builtin .append, #[x, y], #[ty, ty']⟩, tp, pos, aft, g⟩ N := by
 subst hP
 refine EOp.of_w (fun c e => by cases e) ?_
 intro a w ⟨S, hr⟩ Kc Q hk
 have h1 := hr.env.ev x; rw [hx] at h1
 have h2 := hr.env.ev y; rw [hy] at h2
 obtain ⟨e, i, z, hu, hi, hzz, hsz, hp, rfl, hby⟩ := Yb hz.h
 have hl := Xf z
 have hee : Xs K.P ty = e := by unfold Xs; rw [hu]
 have e1 : (execOp a.eval ⟨some kd, .call ⟨.builtin .append, #[x, y], #[ty, ty']⟩, tp, pos, aft, g⟩).run K.P w = ((Builtin.append_ #[ty, ty'] tp #[a.eval x, a.eval y]).run K.P w).andThen fun v w' => .ok (.value v) w' := by
  simp [execOp, resolve, invoke, builtin]
 have hrun : (Builtin.append_ #[ty, ty'] tp #[.slice none 0 0, .int .i64 n]).run K.P w = .ok (.slice (some ⟨w.heap.size, 0, none⟩) n (grownCap w n 0 e))
   (w.drew.alloc (.cells (Builtin.zeroCells z.cells n ++ Builtin.zeroCells z.cells (grownCap w n 0 e - n)) e)) := by
  have hw64 : IntKind.i64.wrap (n : Int) = n := by simp [IntKind.wrap, IntKind.bits, IntKind.signed]; omega
  have h1' : ¬ (n = 0) := by omega
  have hz0 : 0 < z.cells.size := by omega
  have h48 : ¬ (281474976710656 < (n : Int) * (i.bytes : Int)) := by
   have : n * i.bytes ≤ 140737488355328 := by rw [hby]; exact hb
   have h3 : ((n * i.bytes : Nat) : Int) = (n : Int) * (i.bytes : Int) := by push_cast; rfl
   omega
  have h48' : ¬ (281474976710656 < Builtin.nextslicecap n 0 * i.bytes) := by
   unfold Builtin.nextslicecap
   rw [if_pos (by omega)]
   have : n * i.bytes ≤ 140737488355328 := by rw [hby]; exact hb
   omega
  have h63 : ¬ (9223372036854775807 < (n : Int)) := by omega
  have hsz0 : ¬ (i.size = 0) := by omega
  have hneg : ¬ ((n : Int) < 0) := by omega
  simp [Builtin.append_, run_underlying hu, run_underlying hs, sizeOf, typeInfo, zeroValue, asInt, asIntOf, hi, hzz, hw64, h1', h48, h48', h63, hsz0, hneg, Question.forced, Builtin.firstCells, newRow, grownCap]
  intro h; exact absurd h (by have : 0 < n * i.size := Nat.mul_pos h0 (by omega); omega)
 unfold Oper.wp
 rw [e1, h1.v_eq, h2.v_eq, hrun]
 have hcap : n ≤ grownCap w n 0 e := Nat.le_add_right _ _
 have hrd : R1 K t H a w.drew S := ⟨hr.size, hr.defers.step XI (fun _ _ h _ => h) (Nat.le_refl _), hr.step.trans (Ye hr.wf []) (by simp), hr.own.step (Ye hr.wf []) hr.wf (by simp) (by simp), hr.mine, hr.env.mono XI⟩
 have hcm : n * (T.ofVal z).cells.length ≤ grownCap w n 0 e * (T.ofVal z).cells.length := Nat.mul_le_mul_right _ hcap
 have hzs : (grownCap w n 0 e - n) * (T.ofVal z).cells.length = grownCap w n 0 e * (T.ofVal z).cells.length - n * (T.ofVal z).cells.length := Nat.sub_mul _ _ _
 have hfr := hrd.fresh (dst := some kd) (d := .v (.slice (some ⟨w.heap.size, 0, none⟩) n (grownCap w n 0 e)))
  (k := ⟨Xs K.P ty, [], grownCap w n 0 e * (T.ofVal z).cells.length⟩)
  (cs := Builtin.zeroCells z.cells n ++ Builtin.zeroCells z.cells (grownCap w n 0 e - n))
  (by simp only [Array.size_append, Zz, ← hl]; omega) (by simp) (by simp; exact .nil) hd (.v _)
 rw [hee] at hfr
 have hh := h w.heap.size _ (YO hr) hcap
 rw [hee] at hh
 exact hk _ _ _ _ hh ⟨S, hfr⟩
theorem Ph {x y : Operand} {n : Nat} {k : IntKind} {d : T} {by_ : Nat} [hz : QF K.P ty d by_] (h : ∀ b c, (∀ c ∈ keys H, ¬ c = b) → n ≤ c → Qf K ops (i + 1) l ((kd, .v (.slice (some ⟨b, 0, none⟩) n c)) :: t) ((b, ⟨Xs K.P ty, [], c * d.cells.length⟩) :: H) N) (hx : t.ev x = .v (.slice none 0 0) := by exact zl) (hy : t.ev y = .v (.int .i64 n) := by exact zl)
  (hs : K.P.underlying ty' = some (.int k) := by rfl) (h0 : 0 < n := by exact zo) (hb : n * by_ ≤ 140737488355328 := by exact zo) (hm : n ≤ 9223372036854775807 := by exact zo) (hd : Nat.blt kd K.n = true := by rfl) :
  Qf K ops i (⟨some kd, .call ⟨.builtin .append, #[x, y], #[ty, ty']⟩, tp, pos, aft, none⟩ :: l) t H N := YA (V2 hx hy hs rfl h0 hb hm hd h)
theorem TE {x : Operand} {p : Option Addr} {n c : Nat} {ats : Array TypeId} (hx : t.ev x = .v (.slice p n c) := by exact zl) (ha : ats = #[ty] := by rfl) (hs : QR P ty = true := by rfl) : POp P t H ⟨dst, .call ⟨.builtin .cap, #[x], ats⟩, tp, pos, aft, g⟩ (.v (.int .i64 c)) :=
 POp.still fun S w a _ _ hr => by
  have h1 := hr x (by simp [Op.operands, Call.operands]); rw [hx] at h1
  subst ha
  refine ⟨_, ?_, .v _⟩
  obtain ⟨e, _, hu, _⟩ := YL hs
  simp [execOp, resolve, invoke, builtin, h1.v_eq, Builtin.cap_, run_underlying hu, goInt]
theorem Rx (w : World) (cs : Array Value) (e : TypeId) : (markStringish ⟨w.heap.size, 0, none⟩).run P (w.alloc (.cells cs e)) = .ok () ((w.alloc (.cells cs e)).freeze ⟨w.heap.size, cs.size, none⟩ 1) := by
 have h : (w.alloc (.cells cs e)).shape? w.heap.size = some (e, cs.size) := by
  unfold World.shape?
  rw [Zb]
 simp [markStringish, h]
theorem ED (w : World) (cs : Array Value) (e : TypeId) (b : Nat) : ((w.alloc (.cells cs e)).freeze ⟨w.heap.size, cs.size, none⟩ 1).heap[b]? = if b = w.heap.size then some (.cells cs e (cs.size, cs.size + 1)) else w.heap[b]? := by
 unfold World.freeze
 rw [if_neg (by simp)]
 simp only [Array.getElem?_modify]
 by_cases hb : b = w.heap.size
 ·subst hb
  rw [if_pos rfl, Zb]
  simp
 ·rw [if_neg (fun h => hb h.symm), if_neg hb]
  by_cases h : b < w.heap.size
  ·exact Ya w _ h
  ·rw [Array.getElem?_eq_none (by simp; omega), Array.getElem?_eq_none (by omega)]
theorem LY {S : Nat → Prop} {w : World} : ∀ (l : List UInt8), Qr S w (l.map eb) (l.map fun b => Value.int .u8 b.toNat)
 | [] => .nil
 | b :: l => .cons _ _ _ _ (.v _) (LY l)
theorem O0 : ∀ (l : List UInt8), (l.map fun b => Value.int .u8 b.toNat).flatMap (fun v => v.cells.toList) = l.map fun b => Value.int .u8 b.toNat
 | [] => rfl
 | b :: l => by rw [List.map_cons, List.flatMap_cons, O0 l]; rfl
theorem RM {x : Operand} {l : List UInt8} (hx : t.ev x = .v (.string (bs l))) (h1 : Vg P ty = true) (h2 : Zv P ty' = true) : POp P t H ⟨dst, .convert ty ty' x, tp, pos, aft, g⟩ (.sl false (l.map eb)) :=
 POp.run fun S w a hw _ hr => by
  have hv := hr x (by simp [Op.operands]); rw [hx] at hv
  obtain ⟨e, he, he2⟩ := EU h2
  have hs := IY h1
  have hlen : (bs l).size = l.length := by simp [bs, ByteArray.size]
  have hsz : (((bs l).data.map fun b => Value.int .u8 b.toNat) ++ Array.replicate (grownCap w l.length 0 e - l.length) (Value.int .u8 0)).size = grownCap w l.length 0 e := by
   have h1 : l.length ≤ grownCap w l.length 0 e := Nat.le_add_right _ _
   have h2 : (bs l).data.size = l.length := hlen
   simp [h2]; omega
  have hl0 : (((bs l).data.map fun b => Value.int .u8 b.toNat) ++ Array.replicate (grownCap w l.length 0 e - l.length) (Value.int .u8 0)).toList = (l.map fun b => Value.int .u8 b.toNat) ++ List.replicate (grownCap w l.length 0 e - l.length) (Value.int .u8 0) := by
   simp [bs]
  have hcap : l.length ≤ grownCap w l.length 0 e := Nat.le_add_right _ _
  have hrun : ∀ cs, cs = ((bs l).data.map fun b => Value.int .u8 b.toNat) ++ Array.replicate (grownCap w l.length 0 e - l.length) (Value.int .u8 0) → (Conv.stringToBytes e (bs l)).run P w = .ok (.slice (some ⟨w.heap.size, 0, none⟩) l.length (grownCap w l.length 0 e)) ((w.drew.alloc (.cells cs e)).freeze ⟨w.drew.heap.size, cs.size, none⟩ 1) := by
   intro cs hcs
   have hm := Rx (P := P) w.drew cs e
   rw [show w.drew.heap.size = w.heap.size from rfl] at hm ⊢
   have hcut : (choose (.appendCap l.length 0 e)).run P w = .ok (grownCap w l.length 0 e) w.drew := by simp [Question.forced, grownCap]
   have hnew : (newRow e cs).run P w.drew = .ok ⟨w.heap.size, 0, none⟩ (w.drew.alloc (.cells cs e)) := by simp [newRow]
   have hm' : (markStringish ⟨w.heap.size, 0, none⟩).run P (w.drew.alloc (.cells cs e)) = .ok () ((w.drew.alloc (.cells cs e)).freeze ⟨w.heap.size, cs.size, none⟩ 1) := hm
   unfold Conv.stringToBytes
   rw [Sem.run_bind, hlen, hcut, Result.andThen_ok]
   show ((do let a ← newRow e (((bs l).data.map fun b => Value.int .u8 b.toNat) ++ Array.replicate (grownCap w l.length 0 e - (bs l).size) (Value.int .u8 0)); markStringish a; pure (Value.slice (some a) (bs l).size (grownCap w l.length 0 e)) : Sem Value)).run P w.drew = _
   rw [hlen, ← hcs]
   rw [Sem.run_bind, hnew, Result.andThen_ok, Sem.run_bind, hm', Result.andThen_ok]
   rfl
  generalize ((bs l).data.map fun b => Value.int .u8 b.toNat) ++ Array.replicate (grownCap w l.length 0 e - l.length) (Value.int .u8 0) = cs at hsz hl0 hrun
  have hrun := hrun cs rfl
  have hh := ED w.drew cs e
  have hnew := (hh w.drew.heap.size).trans (if_pos rfl)
  have hold : ∀ b, b < w.heap.size → ((w.drew.alloc (.cells cs e)).freeze ⟨w.drew.heap.size, cs.size, none⟩ 1).heap[b]? = w.heap[b]? := fun b hb => (hh b).trans (if_neg (by have : w.drew.heap.size = w.heap.size := rfl; omega))
  have hfs : ((w.drew.alloc (.cells cs e)).freeze ⟨w.drew.heap.size, cs.size, none⟩ 1).heap.size = w.heap.size + 1 := by
   unfold World.freeze
   rw [if_neg (by simp)]
   simp only [Array.size_modify]
   simp
  have hst : QW [] S w (ZT S w) ((w.drew.alloc (.cells cs e)).freeze ⟨w.drew.heap.size, cs.size, none⟩ 1) :=
   ⟨rfl, rfl, rfl, by omega, fun b hb _ => hold b hb, fun b hb => .inl hb, fun b hb => hb.elim .inl fun e => .inr (.inl (Nat.le_of_eq e.symm)), fun b hb => by
    rw [hfs]; rcases hb with hb | hb
    ·exact Nat.lt_succ_of_lt (hw b hb)
    ·omega⟩
  refine ⟨.slice (some ⟨w.heap.size, 0, none⟩) l.length (grownCap w l.length 0 e), _, ZT S w, ?_, hst, ?_⟩
  rotate_left
  ·have := Rel.sl (S := ZT S w) (w := (w.drew.alloc (.cells cs e)).freeze ⟨w.drew.heap.size, cs.size, none⟩ 1) false (l.map eb) w.heap.size 0 (grownCap w l.length 0 e) (l.map fun b => Value.int .u8 b.toNat) 1 cs e _ (.inr rfl) hnew (LY l)
    ⟨by simp [Value.cells], by
     rw [hl0]
     simp only [List.drop_zero, List.length_map, Nat.mul_one]
     rw [List.take_left' (by simp)]
     exact (O0 l).symm⟩ (fun h => by cases h) (by simpa using hcap)
   simpa using this
  ·have hcv : (convert ty ty' (a.eval x)).run P w = .ok (.slice (some ⟨w.heap.size, 0, none⟩) l.length (grownCap w l.length 0 e)) ((w.drew.alloc (.cells cs e)).freeze ⟨w.drew.heap.size, cs.size, none⟩ 1) := by
    unfold convert
    rw [hv.v_eq]
    simp [run_underlying he, run_underlying hs, run_underlying he2, hrun]
   simp [execOp, hcv]
theorem PD {x : Operand} {l : List UInt8} (hx : t.ev x = .v (.string (bs l)) := by exact zl) (h1 : Vg P ty = true := by rfl) (h2 : Zv P ty' = true := by rfl) : POp P t H ⟨dst, .convert ty ty' x, tp, pos, aft, g⟩ (.sl false (l.map eb)) := RM hx h1 h2
end
section
variable {P : Program}
def Lv (K : Ctx) (Φ : T → Qd → Prop) (e : Ending) (w' : World) : Prop :=
 ∃ u S' r H', e = .returned u ∧ Φ r H' ∧ Rel S' w' r u ∧ Own S' w' H' ∧ QW K.F0 K.S0 K.w0 S' w' ∧ ∀ b ∈ keys H', b ∈ K.F0 ∨ K.w0.heap.size ≤ b
def LK (K : Ctx) (fn : Func) (c : Code) (t : Env) (H : Qd) (Φ : T → Qd → Prop) : Prop :=
 ∀ a w, R K t H a w → c.wpIn (RF K.rd) 0 K.P (bodyPostM (RF K.rd) 0 K.P fn (Lv K Φ)) a w
theorem Ul {f : FuncId} {fn : Func} {c : Code} {args : List T} {H : Qd} {Φ : T → Qd → Prop} (hf : P.funcs[f]? = some fn) (hb : fn.body = some c)
  (hn : Nat.ble args.length fn.ntmps = true)
  (h : ∀ (S0 : Nat → Prop) (w0 : World), Wf S0 w0 → LK ⟨P, fn.ntmps, S0, w0, keys H, none, JR.none, w0.heap.size, []⟩ fn c ((List.range args.length).zip args) H Φ) : FnH P f args H Φ := by
 intro S w vs hw ho hr
 have hl := hr.length
 have hn' : args.length ≤ fn.ntmps := Nat.le_of_ble_eq_true hn
 refine (callsIn_wide (n := 0)).1 (callsIn_of_wp_marks hf hb trivial ?_)
 exact h S w hw { tmps := vs.toArray ++ Array.replicate (fn.ntmps - vs.toArray.size) undef, defers := [] } w
  ⟨S, by simp; omega, ⟨Nat.le_refl _, Mks.zero, fun _ _ => trivial⟩, QW.refl _ hw, ho, fun b hb => .inl hb, Vo hr fn.ntmps⟩
section
variable {K : Ctx} {fn : Func} {t : Env} {H : Qd} {Φ : T → Qd → Prop} {x y : Code}
theorem J2 (h : Sim K x t H (fun e t' H' => e = .normal ∧ LK K fn y t' H' Φ)) : LK K fn (.seq x y) t H Φ := by
 intro a w hr
 refine wpIn_seq (wpIn_mono (h a w hr) ?_)
 rintro e a' w' ⟨t', H', ⟨rfl, hp⟩, hr'⟩
 exact hp a' w' hr'
def Jt (K : Ctx) (fn : Func) (ops : Array Oper) (y : Code) (Φ : T → Qd → Prop) (i : Nat) (l : List Oper) (t : Env) (H : Qd) : Prop :=
 (∀ j, l[j]? = ops[i + j]?) → ∀ a w, R K t H a w → wpOpsIn (RF K.rd) 0 K.P ops (Exit.then (y.wpIn (RF K.rd) 0 K.P (bodyPostM (RF K.rd) 0 K.P fn (Lv K Φ))) (bodyPostM (RF K.rd) 0 K.P fn (Lv K Φ))) (List.range' i l.length) a w
theorem ZX {id : Nat} {ops : Array Oper} (h : Jt K fn ops y Φ 0 ops.toList t H) : LK K fn (.seq (.region id ops false) y) t H Φ := by
 intro a w hr
 refine wpIn_seq (wpIn_region ?_)
 have := h (fun j => by simp) a w hr
 rw [List.range_eq_range']
 simpa using this
theorem d_e {ops : Array Oper} {i : Nat} {o : Oper} {l : List Oper} (hg : o.guard = none) (h : EOp K t H o (fun t' H' => Jt K fn ops y Φ (i + 1) l t' H')) : Jt K fn ops y Φ i (o :: l) t H := by
 intro hl a w hr
 rw [JW]
 unfold wpOpIn
 simp only [Lm hl, Xe hg a, if_true]
 exact h a w hr _ _ fun t' H' a' w' hn hr' => hn (Vv hl) a' w' hr'
theorem d_s {ops : Array Oper} {i kd : Nat} {op : Op} {tp : TypeId} {pos : String} {aft : Array Edge} {l : List Oper} {d : T} (hp : POp K.P t H ⟨some kd, op, tp, pos, aft, none⟩ d) (h : Jt K fn ops y Φ (i + 1) l ((kd, d) :: t) H) (hd : Nat.blt kd K.n = true := by rfl) :
  Jt K fn ops y Φ i (⟨some kd, op, tp, pos, aft, none⟩ :: l) t H := d_e rfl (EOp.of_pop hp hd h)
theorem DO {S : Nat → Prop} {w : World} : ∀ {vs ys : List Value}, Qr S w (vs.map T.v) ys → ys = vs
 | [], _, h => by cases h; rfl
 | v :: vs, _, h => by
  cases h with
  | cons _ y _ ys h1 h2 => rw [DO h2, h1.v_eq]
theorem Wk {ops : Array Oper} {i : Nat} {x : Operand} {tp : TypeId} {pos : String} {aft : Array Edge} {f : FuncId} (vs : List Value) (h : LK { K with D := [⟨.fn (.func f) vs.toArray, #[]⟩] } fn y t H Φ) (hD : K.D = []) (hrd : K.rd = none)
  (hx : t.ev x = .clo f [] (vs.map T.v)) : Jt K fn ops y Φ i [⟨none, .defer ⟨.value x, #[], #[]⟩, tp, pos, aft, none⟩] t H := by
 intro hl a w hr
 rw [JW]
 unfold wpOpIn
 simp only [Lm hl, Xe (o := ⟨none, .defer ⟨.value x, #[], #[]⟩, tp, pos, aft, none⟩) rfl a, if_true]
 obtain ⟨S, hr1⟩ := hr
 have hv : a.eval x = .func (.func f) #[] vs.toArray := by
  have h1 := hr1.env.ev x
  rw [hx] at h1
  generalize a.eval x = z at h1
  cases h1 with
  | clo _ _ _ us ws h2 h3 =>
   cases h2
   rw [DO h3]
 have he : (execOp a.eval ⟨none, .defer ⟨.value x, #[], #[]⟩, tp, pos, aft, none⟩).run K.P w = .ok (.defer ⟨.fn (.func f) vs.toArray, #[]⟩) w := by
  show (do let d ← resolve a.eval ⟨.value x, #[], #[]⟩ tp; pure (.defer d) : Sem Next).run K.P w = _
  unfold resolve
  simp [hv, Deferred.ofValue]
 refine ⟨fun _ _ => trivial, ?_⟩
 rw [show (RF K.rd).round = none from hrd, Oper.semAt_none, he, Oper.uponIn_defer]
 show wpOpsIn _ _ _ _ _ (List.range' (i + 1) 0) _ _
 refine h _ _ ⟨S, hr1.size, ⟨hr1.defers.low, ?_, hr1.defers.flags⟩, hr1.step, hr1.own, hr1.mine, hr1.env⟩
 obtain ⟨ms, ms0, h0, h1, h2⟩ := hr1.defers.marks
 rw [hD, List.nil_append] at h0
 refine ⟨[], ms ++ ms0, ?_, by simpa using h1, by simpa using h2⟩
 show (⟨.fn (.func f) vs.toArray, #[]⟩ : Deferred) :: a.defers = _
 rw [h0]
 rfl
theorem Z7 {fn : Func} {tmps : Array Value} {Q : Ending → World → Prop} {rest : List Deferred} {rd : Option Nat} : ∀ (ds : List Deferred) (w : World), ds.Nodup → (∀ d ∈ ds, ∃ D, d = ⟨.collected D, #[]⟩ ∧ w.heap[D]? = some (.deferred (some []))) →
  (∀ w', w'.os = w.os → w'.tape = w.tape → w'.output = w.output → w'.heap.size = w.heap.size → (∀ b, (⟨.collected b, #[]⟩ : Deferred) ∉ ds → w'.heap[b]? = w.heap[b]?) → LeavesInM (RF rd) 0 P fn tmps Q rest .returning w') →
  LeavesInM (RF rd) 0 P fn tmps Q (ds ++ rest) .returning w
 | [], w, _, _, h => h w rfl rfl rfl rfl fun _ _ => rfl
 | d :: ds, w, hn, hm, h => by
  obtain ⟨D, rfl, hk⟩ := hm d List.mem_cons_self
  have hn' := List.nodup_cons.1 hn
  refine ⟨by simp, .inl ⟨D, w.putObj D (.deferred none), rfl, run_takeDeferred hk, ?_⟩⟩
  refine Z7 ds _ hn'.2 (fun e he => ?_) fun w' h1 h2 h3 h4 h5 => ?_
  ·obtain ⟨E, rfl, hke⟩ := hm e (List.mem_cons_of_mem _ he)
   refine ⟨E, rfl, ?_⟩
   rw [World.putObj_heap_other (fun e => hn'.1 (by rw [← e]; exact he))]; exact hke
  ·refine h w' (h1.trans rfl) (h2.trans rfl) (h3.trans rfl) (by rw [h4]; simp) fun b hb => ?_
   rw [h5 b (fun hm => hb (List.mem_cons_of_mem _ hm)), World.putObj_heap_other (fun e => hb (by rw [e]; exact List.mem_cons_self))]
end
def DfH (P : Program) (f : FuncId) (vs : Array Value) (H : Qd) (Φ : Qd → Prop) : Prop :=
 ∀ (S : Nat → Prop) (w : World), Wf S w → Own S w H → CallsDIn (RF none) 0 P f vs .returning w fun e u' w' =>
  u' = .returning ∧ ∃ v S' H', e = .returned v ∧ Φ H' ∧ Own S' w' H' ∧ QW (keys H) S w S' w' ∧ ∀ b ∈ keys H', b ∈ keys H ∨ w.heap.size ≤ b
def PG (P : Program) (fn : Func) (f : FuncId) (vs : Array Value) (Φ : T → Qd → Prop) (e : Exit) (t : Env) (H : Qd) : Prop :=
 match e with
 | .normal | .ret => ∃ Φ1 : Qd → Prop, DfH P f vs H Φ1 ∧ ∀ H1, Φ1 H1 → ∃ ds r H2, YW P t H1 fn.results.toList ds ∧ Le (X6 ds) r ∧ Φ r H2 ∧ ((keys H1).Nodup → XA H1 H2)
 | _ => False
theorem U4 {K : Ctx} {fn : Func} {t : Env} {H : Qd} {Φ : T → Qd → Prop} {c : Code} {f : FuncId} {vs : Array Value} (hw0 : Wf K.S0 K.w0) (h : Sim K c t H (PG K.P fn f vs Φ)) (hf : QE K.P f = true := by kernel_rfl) (hD : K.D = [⟨.fn (.func f) vs, #[]⟩] := by rfl)
  (hrd : K.rd = none := by rfl) (hmb : K.mb = K.w0.heap.size := by rfl) : LK K fn c t H Φ := by
 intro a w hr
 refine wpIn_mono (h a w hr) ?_
 rintro e a' w' ⟨t', H', hp, S', hr'⟩
 have fin : (∃ Φ1 : Qd → Prop, DfH K.P f vs H' Φ1 ∧ ∀ H1, Φ1 H1 → ∃ ds r H2, YW K.P t' H1 fn.results.toList ds ∧ Le (X6 ds) r ∧ Φ r H2 ∧ ((keys H1).Nodup → XA H1 H2)) → LeavesInM (RF K.rd) 0 K.P fn a'.tmps (Lv K Φ) a'.defers .returning w' := by
  rintro ⟨Φ1, hdf, hres⟩
  obtain ⟨ms, ms0, hds, hnd, hmk⟩ := hr'.defers.marks
  rw [hds, hD]
  obtain ⟨hn1, hn2, hdisj⟩ := List.nodup_append.1 hnd
  let B : Nat → Prop := fun b => (⟨.collected b, #[]⟩ : Deferred) ∈ ms ++ ms0
  have hB : ∀ b, B b → K.w0.heap.size ≤ b ∧ w'.heap[b]? = some (.deferred (some [])) := fun b hb => by
   obtain ⟨D, h0, h1, h2⟩ := hmk _ hb
   cases h0
   exact ⟨hmb ▸ h1, h2⟩
  have hBc : ∀ b, B b → ∀ cs ty fz, w'.heap[b]? ≠ some (.cells cs ty fz) := fun b hb cs ty fz => by rw [(hB b hb).2]; simp
  refine Z7 ms w' hn1 (fun d hd => let ⟨D, h1, _, h3⟩ := hmk d (List.mem_append_left _ hd); ⟨D, h1, h3⟩) fun w2 e1 e2 e3 e4 e5 => ?_
  have e5' : ∀ b, ¬ B b → w2.heap[b]? = w'.heap[b]? := fun b hb => e5 b fun h => hb (List.mem_append_left _ h)
  have hm : ∀ b, (S' b ∧ ¬ B b) → (S' b ∧ ¬ B b) ∧ w2.heap[b]? = w'.heap[b]? := fun b hb => ⟨hb, e5' b hb.2⟩
  have henv2 : ZR (fun b => S' b ∧ ¬ B b) w2 t' a' := fun k => (Rel.shrink hBc (hr'.env k)).mono hm
  have hown2 : Own (fun b => S' b ∧ ¬ B b) w2 H' := ⟨hr'.own.nodup, fun b hb hS => hr'.own.apart b hb hS.1, fun p hp => by
   exact (hr'.own.has p hp).shrunk hBc (fun b hb ms c => by rw [(hB b hb).2]; simp) (fun hnb => e5' p.1 hnb) hm⟩
  have hst2 : QW K.F0 K.S0 K.w0 (fun b => S' b ∧ ¬ B b) w2 := ⟨e1.trans hr'.step.os, e2.trans hr'.step.tape, e3.trans hr'.step.output, by rw [e4]; exact hr'.step.size,
   fun b hb hn => (e5' b (fun hbm => absurd hb (Nat.not_lt.2 (hB b hbm).1))).trans (hr'.step.keep b hb hn), fun b hb => ⟨hr'.step.sub b hb, fun hbm => absurd (hw0 b hb) (Nat.not_lt.2 (hB b hbm).1)⟩, fun b hb => hr'.step.new b hb.1, fun b hb => by rw [e4]; exact hr'.step.wf b hb.1⟩
  refine ⟨by simp, .inr ⟨fun hh => Bool.noConfusion (show false = true from hh), .func f, vs, f, vs, rfl, ?_, fun _ _ => trivial, ?_⟩⟩
  ·show (callFunc f (#[] ++ vs)).run K.P w2 = _
   rw [Array.empty_append]
   exact Y5 hf vs w2
  rw [hrd]
  refine CallsDIn.mono (hdf _ w2 hst2.wf hown2) ?_
  rintro e u' w3 ⟨rfl, v, S3, H1, rfl, hΦ1, hown3, hst3, hkeys⟩
  show LeavesInM (RF none) 0 K.P fn a'.tmps (Lv K Φ) ([] ++ ms0) .returning w3
  rw [List.nil_append]
  have hmk3 : ∀ d ∈ ms0, ∃ D, d = ⟨.collected D, #[]⟩ ∧ w3.heap[D]? = some (.deferred (some [])) := fun d hd => by
   obtain ⟨D, rfl, h1, h2⟩ := hmk d (List.mem_append_right _ hd)
   refine ⟨D, rfl, ?_⟩
   have h3 : w2.heap[D]? = some (.deferred (some [])) := (e5 D fun hh => hdisj _ hh _ hd rfl).trans h2
   exact (hst3.keep D (Array.getElem?_eq_some_iff.1 h3).1 (hown2.obj h3 rfl)).trans h3
  have := Z7 (P := K.P) (fn := fn) (tmps := a'.tmps) (Q := Lv K Φ) (rest := []) (rd := none) ms0 w3 hn2 hmk3 fun w4 f1 f2 f3 f4 f5 => ?_
  ·rwa [List.append_nil] at this
  have hS3 : ∀ b, S3 b → (⟨.collected b, #[]⟩ : Deferred) ∉ ms0 := fun b hb hm0 => by
   have hBb : B b := List.mem_append_right _ hm0
   have hlt := (Array.getElem?_eq_some_iff.1 (hB b hBb).2).1
   rcases hst3.new b hb with h | h | h
   ·exact h.2 hBb
   ·omega
   ·exact hr'.own.obj (hB b hBb).2 rfl h
  have hm4 : ∀ b, S3 b → S3 b ∧ w4.heap[b]? = w3.heap[b]? := fun b hb => ⟨hb, f5 b (hS3 b hb)⟩
  have henv4 : ZR S3 w4 t' a' := (henv2.mono (hst3.mono hst2.wf hown2.apart)).mono hm4
  obtain ⟨ds, r, H2, r1, r2, r3, r4⟩ := hres H1 hΦ1
  have hle := r4 hown3.nodup
  have hown4 : Own S3 w4 H1 := ⟨hown3.nodup, hown3.apart, fun p hp => by
   obtain ⟨o, h1, h2⟩ := (hown3.has p hp).isMem
   refine (hown3.has p hp).mono (f5 p.1 fun hm0 => ?_) hm4
   obtain ⟨D, hD0, hD1⟩ := hmk3 _ hm0
   cases hD0
   rw [h1] at hD1; cases hD1; cases h2⟩
  obtain ⟨u, hu, hrel⟩ := VQ (P := K.P) henv4 hown4 r1
  have hs := hst2.trans hst3 hr'.mine
  have hst4 : QW K.F0 K.S0 K.w0 S3 w4 := ⟨f1.trans hs.os, f2.trans hs.tape, f3.trans hs.output, by rw [f4]; exact hs.size,
   fun b hb hn => (f5 b (fun hbm => absurd hb (Nat.not_lt.2 (hB b (List.mem_append_right _ hbm)).1))).trans (hs.keep b hb hn), hs.sub, hs.new, fun b hb => by rw [f4]; exact hs.wf b hb⟩
  refine ⟨u, hu, u, S3, r, H2, rfl, r3, r2 _ _ _ hrel, hown4.le hle, hst4, fun b hb => ?_⟩
  rcases hkeys b (hle.sub b hb) with h | h
  ·exact hr'.mine b h
  ·exact .inr (Nat.le_trans hst2.size h)
 cases e with
 | normal => exact fin hp
 | ret => exact fin hp
 | _ => exact hp.elim
theorem RU {fr : Frame} {cs : List Frame} (hm : fr.mode = .returning) : ∀ (ds : List Deferred) (w : World), fr.defers = ds → ds.Nodup → (∀ d ∈ ds, ∃ D, d = ⟨.collected D, #[]⟩ ∧ w.heap[D]? = some (.deferred (some []))) →
  ∃ w', StepsIn (Machine.fenced P (RF none)) P (lone fr cs w) (lone { fr with defers := [] } cs w') ∧ w'.os = w.os ∧ w'.tape = w.tape ∧ w'.output = w.output ∧ w'.heap.size = w.heap.size ∧ ∀ b, (⟨.collected b, #[]⟩ : Deferred) ∉ ds → w'.heap[b]? = w.heap[b]? := by
 intro ds
 induction ds generalizing fr with
 | nil => exact fun w hd _ _ => ⟨w, by rw [← hd]; exact StepsIn.refl _, rfl, rfl, rfl, rfl, fun _ _ => rfl⟩
 | cons d ds ih =>
  intro w hd hn hk
  obtain ⟨D, rfl, hk0⟩ := hk d List.mem_cons_self
  have hn' := List.nodup_cons.1 hn
  have hrun : fr.mode ≠ .run := by rw [hm]; simp
  have h1 := step_collected (P := P) (cs := cs) hrun hd rfl (run_takeDeferred hk0)
  have i1 : (lone fr cs w).fenced P (RF none) := fenced_out (n := 0) trivial (JL _ _) hrun hd (fun g hg => by simp [Target.leads] at hg)
  obtain ⟨w', s1, s2, s3, s4, s5, s6⟩ := ih (fr := { fr with defers := [] ++ ds }) hm (w.putObj D (.deferred none)) rfl hn'.2 (fun e he => by
   obtain ⟨E, rfl, hE⟩ := hk e (List.mem_cons_of_mem _ he)
   refine ⟨E, rfl, ?_⟩
   rw [World.putObj_heap_other (fun e => hn'.1 (by rw [← e]; exact he))]; exact hE)
  refine ⟨w', .head i1 h1 s1, s2, s3, s4, by rw [s5]; simp, fun b hb => ?_⟩
  rw [s6 b fun h => hb (List.mem_cons_of_mem _ h), World.putObj_heap_other (fun e => hb (by rw [e]; exact List.mem_cons_self))]
theorem Mv {f : FuncId} {fn : Func} {c : Code} {vs : List Value} {H : Qd} {Φ : Qd → Prop} (hf : P.funcs[f]? = some fn) (hb : fn.body = some c) (hn : Nat.ble vs.length fn.ntmps = true) (hres : fn.results = #[])
  (h : ∀ (S0 : Nat → Prop) (w0 : World), Sim ⟨P, fn.ntmps, S0, w0, keys H, none, JR.none, w0.heap.size, []⟩ c ((List.range vs.length).zip (vs.map T.v)) H (fun e _ H' => (e = .normal ∨ e = .ret) ∧ ∃ H2, Qi H' H2 ∧ Φ H2)) : DfH P f vs.toArray H Φ := by
 intro S w hw ho
 refine ⟨trivial, fun c₀ cs hu _ => ?_⟩
 let b : Frame := { (default : Frame) with fn := f, kind := .deferred, roundOf := none }
 have hn' : vs.length ≤ fn.ntmps := Nat.le_of_ble_eq_true hn
 have henter : Frame.enter P f vs.toArray .deferred = b.atR { tmps := vs.toArray ++ Array.replicate (fn.ntmps - vs.toArray.size) undef, defers := [] } [.code c] := by simp [Frame.enter, Frame.atR, hf, hb, b]
 have hc : ({ c₀ with mode := .returning } : Frame) = c₀ := by rw [← hu]
 have hraw : ∀ vs : List Value, Qr S w (vs.map T.v) vs := fun vs => by
  induction vs with
  | nil => exact .nil
  | cons v vs ih => exact .cons _ _ _ _ (.v v) ih
 have henv := Vo (hraw vs) fn.ntmps
 rw [List.length_map] at henv
 obtain ⟨e, a', w', ⟨t', H', ⟨he, H2, hfr, hΦ⟩, S', hr'⟩, harr⟩ := h S w { tmps := vs.toArray ++ Array.replicate (fn.ntmps - vs.toArray.size) undef, defers := [] } w
  ⟨S, by simp; omega, ⟨Nat.le_refl _, Mks.zero, fun _ _ => trivial⟩, QW.refl _ hw, ho, fun b hb => .inl hb, henv⟩ b [] (c₀ :: cs) rfl trivial (JL _ _)
 rw [← henter] at harr
 obtain ⟨hnd, hmk⟩ := hr'.defers.marks.nil
 have fin : ∀ todo, StepsIn (Machine.fenced P (RF none)) P (lone (Frame.enter P f vs.toArray .deferred) (c₀ :: cs) w) (lone { b.atR a' todo with mode := .returning } (c₀ :: cs) w') →
   ∃ e u' w' fr, (u' = .returning ∧ ∃ v S' H', e = Ending.returned v ∧ Φ H' ∧ Own S' w' H' ∧ QW (keys H) S w S' w' ∧ ∀ b ∈ keys H', b ∈ keys H ∨ w.heap.size ≤ b) ∧
    ComesIn (Machine.fenced P (RF none)) P (lone (Frame.enter P f vs.toArray .deferred) (c₀ :: cs) w) (lone fr ({ c₀ with mode := u' } :: cs) w') e ∧ fr.kind = .deferred ∧ fr.fn = f ∧ fr.going P w' e := by
  intro todo hsteps
  obtain ⟨w2, s1, e1, e2, e3, e4, e5⟩ := RU (P := P) (fr := { b.atR a' todo with mode := .returning }) (cs := c₀ :: cs) rfl a'.defers w' rfl hnd (fun d hd => let ⟨D, h1, _, h3⟩ := hmk d hd; ⟨D, h1, h3⟩)
  let B : Nat → Prop := fun b => (⟨.collected b, #[]⟩ : Deferred) ∈ a'.defers
  have hB : ∀ b, B b → w.heap.size ≤ b ∧ (∀ cs ty fz, w'.heap[b]? ≠ some (.cells cs ty fz)) ∧ ∀ ms c, w'.heap[b]? ≠ some (.map ms c) := fun b hbm => by
   obtain ⟨D, hD, h0, h1⟩ := hmk _ hbm
   cases hD
   exact ⟨h0, fun cs ty fz => by rw [h1]; simp, fun ms c => by rw [h1]; simp⟩
  have hm : ∀ b, (S' b ∧ ¬ B b) → (S' b ∧ ¬ B b) ∧ w2.heap[b]? = w'.heap[b]? := fun b hb => ⟨hb, e5 b hb.2⟩
  have hle := hfr.le hr'.own.nodup
  have hown : Own (fun b => S' b ∧ ¬ B b) w2 H' := ⟨hr'.own.nodup, fun b hb hS => hr'.own.apart b hb hS.1, fun p hp => by
   exact (hr'.own.has p hp).shrunk (fun b hb => (hB b hb).2.1) (fun b hb => (hB b hb).2.2) (fun hnb => e5 p.1 hnb) hm⟩
  have hst : QW (keys H) S w (fun b => S' b ∧ ¬ B b) w2 := ⟨e1.trans hr'.step.os, e2.trans hr'.step.tape, e3.trans hr'.step.output, by rw [e4]; exact hr'.step.size,
   fun b hb hn => (e5 b (fun hbm => absurd hb (Nat.not_lt.2 (hB b hbm).1))).trans (hr'.step.keep b hb hn), fun b hb => ⟨hr'.step.sub b hb, fun hbm => absurd (hw b hb) (Nat.not_lt.2 (hB b hbm).1)⟩, fun b hb => hr'.step.new b hb.1, fun b hb => by rw [e4]; exact hr'.step.wf b hb.1⟩
  refine ⟨.returned (.tuple #[]), .returning, w2, _, ⟨rfl, .tuple #[], _, H2, rfl, hΦ, hown.le hle, hst, fun b hb => hr'.mine b (hle.sub b hb)⟩, by rw [hc]; exact StepsIn.trans hsteps s1, rfl, rfl, rfl, rfl, fn, hf, ?_⟩
  simp [results, hres]
 rcases he with rfl | rfl
 ·exact fin [] (StepsIn.trans harr (.one (fenced_calm (fr := b.atR a' []) (n := 0) trivial (JL _ _) rfl) (stepR_end rfl)))
 ·obtain ⟨todo, hs⟩ := harr.1 rfl
  exact fin todo hs
section
variable {b : Frame} {a : Act} {k : List Item} {cs : List Frame} {w w' : World} {ops : Array Oper} {i : Nat} {rest : List Nat} {o : Oper}
theorem Wq (ho : ops[i]? = some o) (hg : o.guard = none) (hro : b.roundOf = none) {v : Value} (hr : (execOp a.eval o).run P w = .ok (.value v) w') :
  step P (lone (b.atR a (.inRegion ops (i :: rest) :: k)) cs w) = .next (lone (b.atR (a.put o.dst v) (.inRegion ops rest :: k)) cs w') := by
 refine step_lone_go ?_
 have hg' := stepGR_op (P := P) (b := b) (k := k) (cs := cs) (w := w) (rest := rest) ho (Xe hg a)
 rw [hro, Oper.semAt_none] at hg'
 have hfin : (b.atR a (.inRegion ops (i :: rest) :: k)).finish v = b.atR (a.put o.dst v) (.inRegion ops rest :: k) := by rw [Frame.finish_atR, ho]; rfl
 rw [hg', ← hfin]
 simp [stepG.apply, hr]
theorem U1 (ho : ops[i]? = some o) (hg : o.guard = none) (hro : b.roundOf = none) (hk : b.kind = .deferred) (hcs : recoverD cs = none) (hr : (execOp a.eval o).run P w = .ok .recover w') :
  step P (lone (b.atR a (.inRegion ops (i :: rest) :: k)) cs w) = .next (lone (b.atR (a.put o.dst .nilIface) (.inRegion ops rest :: k)) cs w') := by
 refine step_lone_go ?_
 have hg' := stepGR_op (P := P) (b := b) (k := k) (cs := cs) (w := w) (rest := rest) ho (Xe hg a)
 rw [hro, Oper.semAt_none] at hg'
 have hfin : (b.atR a (.inRegion ops (i :: rest) :: k)).finish .nilIface = b.atR (a.put o.dst .nilIface) (.inRegion ops rest :: k) := by rw [Frame.finish_atR, ho]; rfl
 have htr := (tryRecover_deferred (fr := b.atR a (.inRegion ops (i :: rest) :: k)) hk cs).trans hcs
 rw [hg', ← hfin]
 simp only [Frame.atR, hro] at htr ⊢
 simp [stepG.apply, hr, htr]
end
theorem MR {S : Nat → Prop} {w : World} {H : Qd} {a : Act} (ho : Own S w H) {i bl : Nat} {kb : Blk} (hi : H[i]? = some (bl, kb)) {rp : Value} (hd : kb.cells[0]? = some (.v rp)) {ty tp : TypeId} (hk : QP P ty = true) {x : Operand} {dst : Option Tmp} {pos : String} {aft : Array Edge} {g : Option (Nat × Bool)}
  (hv : a.eval x = .pointer (some ⟨bl, 0, none⟩)) : (execOp a.eval ⟨dst, .load ty x, tp, pos, aft, g⟩).run P w = .ok (.value rp) w := by
 obtain ⟨ty1, hT, cs, hb, hsz, hl, hrl⟩ := (ho.at hi).cases.resolve_right (by rintro ⟨_, _, rfl, _⟩; simp at hd)
 obtain ⟨y, hy, hr'⟩ := hrl.get hd
 rw [List.getElem?_take] at hy
 split at hy
 ·have hcell' : w.cell? ⟨bl, 0, none⟩ = some y := by rw [YV hb]; simpa using hy
  rw [hr'.v_eq] at hcell'
  simp [execOp, hv, Instr.loadAt, Instr.sureAddr, loadVar, JF hk w, run_load, hcell']
 ·cases hy
theorem O4 {f g : FuncId} {fn : Func} {id : Nat} {ty tp0 tp1 tp2 : TypeId} {p0 p1 p2 : String} {e0 e1 e2 : Array Edge} {ats at1 : Array TypeId} {d2 : Option Tmp} {H : Qd} {i bl : Nat} {kb : Blk} {rp : Value}
  (hf : P.funcs[f]? = some fn) (hb : fn.body = some (.region id #[⟨some 1, .load ty (.tmp 0), tp0, p0, e0, none⟩, ⟨some 2, .call ⟨.builtin .recover, #[], at1⟩, tp1, p1, e1, none⟩, ⟨d2, .call ⟨.value (.func g), #[.tmp 1, .tmp 2], ats⟩, tp2, p2, e2, none⟩] true))
  (hn : fn.ntmps = 4) (hres : fn.results = #[]) (hH : H[i]? = some (bl, kb)) (hd : kb.cells[0]? = some (.v rp)) (hk : QP P ty = true) (hc : QE P g = true) (hg : FnP P g [.v rp, .v .nilIface] (fun r => r = .tup []))
  (hord : ∀ t, Region.schedule (P.follows .mixedOrders) #[⟨some 1, .load ty (.tmp 0), tp0, p0, e0, none⟩, ⟨some 2, .call ⟨.builtin .recover, #[], at1⟩, tp1, p1, e1, none⟩, ⟨d2, .call ⟨.value (.func g), #[.tmp 1, .tmp 2], ats⟩, tp2, p2, e2, none⟩] t = [0, 1, 2] ∨
   Region.schedule (P.follows .mixedOrders) #[⟨some 1, .load ty (.tmp 0), tp0, p0, e0, none⟩, ⟨some 2, .call ⟨.builtin .recover, #[], at1⟩, tp1, p1, e1, none⟩, ⟨d2, .call ⟨.value (.func g), #[.tmp 1, .tmp 2], ats⟩, tp2, p2, e2, none⟩] t = [1, 0, 2]) :
  DfH P f #[.pointer (some ⟨bl, 0, none⟩)] H (fun H' => H' = H) := by
 intro S w hw ho
 refine ⟨trivial, fun c₀ cs hu _ => ?_⟩
 generalize hops : (#[⟨some 1, .load ty (.tmp 0), tp0, p0, e0, none⟩, ⟨some 2, .call ⟨.builtin .recover, #[], at1⟩, tp1, p1, e1, none⟩, ⟨d2, .call ⟨.value (.func g), #[.tmp 1, .tmp 2], ats⟩, tp2, p2, e2, none⟩] : Array Oper) = ops at hb hord
 have g0 : ops[0]? = some ⟨some 1, .load ty (.tmp 0), tp0, p0, e0, none⟩ := by rw [← hops]; rfl
 have g1 : ops[1]? = some ⟨some 2, .call ⟨.builtin .recover, #[], at1⟩, tp1, p1, e1, none⟩ := by rw [← hops]; rfl
 have g2 : ops[2]? = some ⟨d2, .call ⟨.value (.func g), #[.tmp 1, .tmp 2], ats⟩, tp2, p2, e2, none⟩ := by rw [← hops]; rfl
 let b : Frame := { (default : Frame) with fn := f, kind := .deferred, roundOf := none }
 have henter : Frame.enter P f #[.pointer (some ⟨bl, 0, none⟩)] .deferred = b.atR { tmps := #[.pointer (some ⟨bl, 0, none⟩), undef, undef, undef], defers := [] } [.code (.region id ops true)] := by
  simp [Frame.enter, Frame.atR, hf, hb, hn, b]
 have hc0 : ({ c₀ with mode := .returning } : Frame) = c₀ := by rw [← hu]
 have hrec : recoverD (c₀ :: cs) = none := by simp [recoverD, hu]
 have s0 := stepR_region_draw (P := P) (b := b) (a := { tmps := #[.pointer (some ⟨bl, 0, none⟩), undef, undef, undef], defers := [] }) (k := []) (cs := c₀ :: cs) (w := w) (ops := ops) (id := id)
 have ho1 : Own S w.drew H := ho.step (Ye hw []) hw (by simp) (by simp)
 have hload : ∀ a : Act, a.eval (.tmp 0) = .pointer (some ⟨bl, 0, none⟩) → (execOp a.eval ⟨some 1, .load ty (.tmp 0), tp0, p0, e0, none⟩).run P w.drew = .ok (.value rp) w.drew := fun a h => MR ho1 hH hd hk h
 have hrecv : ∀ a : Act, (execOp a.eval ⟨some 2, .call ⟨.builtin .recover, #[], at1⟩, tp1, p1, e1, none⟩).run P w.drew = .ok .recover w.drew := fun a => by rfl
 have fen : ∀ (a : Act) (j : Nat) (rest : List Nat) (o : Oper), ops[j]? = some o → (lone (b.atR a (.inRegion ops (j :: rest) :: [])) (c₀ :: cs) w.drew).fenced P (RF none) := fun a j rest o h => fenced_oper (n := 0) trivial (JL _ _) h fun _ _ => trivial
 have reach : ∀ l, (l = [0, 1, 2] ∨ l = [1, 0, 2]) → StepsIn (Machine.fenced P (RF none)) P (lone (b.atR { tmps := #[.pointer (some ⟨bl, 0, none⟩), undef, undef, undef], defers := [] } (.inRegion ops l :: [])) (c₀ :: cs) w.drew)
   (lone (b.atR { tmps := #[.pointer (some ⟨bl, 0, none⟩), rp, .nilIface, undef], defers := [] } (.inRegion ops [2] :: [])) (c₀ :: cs) w.drew) := by
  rintro l (rfl | rfl)
  ·exact .head (fen _ _ _ _ g0) (Wq g0 rfl rfl (hload _ rfl)) (.one (fen _ _ _ _ g1) (U1 g1 rfl rfl rfl hrec (hrecv _)))
  ·exact .head (fen _ _ _ _ g1) (U1 g1 rfl rfl rfl hrec (hrecv _)) (.one (fen _ _ _ _ g0) (Wq g0 rfl rfl (hload _ rfl)))
 have hp := D4 (P := P) (t := [(1, .v rp), (2, .v .nilIface)]) (H := H) (dst := d2) (tp := tp2) (pos := p2) (aft := e2) (g := none) (xs := #[.tmp 1, .tmp 2]) (ats := ats) (args := [.v rp, .v .nilIface]) hc (Q1 rfl (Q1 rfl XZ)) hg
 have hw2 : wpOpsIn (RF none) 0 P ops (fun e a' w' => e = .normal ∧ a'.defers = [] ∧ ∃ S', QW [] S w.drew S' w') [2] { tmps := #[.pointer (some ⟨bl, 0, none⟩), rp, .nilIface, undef], defers := [] } w.drew := by
  rw [wpOpsIn_cons]
  unfold wpOpIn
  simp only [g2, Xe (o := ⟨d2, .call ⟨.value (.func g), #[.tmp 1, .tmp 2], ats⟩, tp2, p2, e2, none⟩) rfl, if_true]
  refine UA none (fun c h => by cases h) (hp S w.drew _ hw ho1 (fun x hx => ?_) _ _ fun S' w' v hst _ => ?_)
  ·simp [Op.operands, Call.operands] at hx
   rcases hx with rfl | rfl | rfl <;> exact .v _
  ·exact ⟨rfl, by simp, S', hst⟩
 obtain ⟨e, a', w', ⟨rfl, hdf, S', hst⟩, harr⟩ := wp_opsIn [2] _ w.drew hw2 b [] (c₀ :: cs) rfl trivial (JL _ _)
 have hstart : StepsIn (Machine.fenced P (RF none)) P (lone (Frame.enter P f #[.pointer (some ⟨bl, 0, none⟩)] .deferred) (c₀ :: cs) w) (lone (b.atR { tmps := #[.pointer (some ⟨bl, 0, none⟩), rp, .nilIface, undef], defers := [] } (.inRegion ops [2] :: [])) (c₀ :: cs) w.drew) := by
  rw [henter]
  exact .head (fenced_calm (n := 0) trivial (JL _ _) rfl) s0 (reach _ (hord _))
 have hend := StepsIn.trans hstart (StepsIn.trans harr (.one (fenced_calm (fr := b.atR a' []) (n := 0) trivial (JL _ _) rfl) (stepR_end rfl)))
 have hst' : QW (keys H) S w S' w' := ((Ye hw (keys H)).trans hst (by simp))
 refine ⟨.returned (.tuple #[]), .returning, w', _, ⟨rfl, .tuple #[], S', H, rfl, rfl, ho1.step hst hw (by simp) (by simp), hst', fun b hb => .inl hb⟩, by rw [hc0]; exact hend, rfl, rfl, rfl, hdf, fn, hf, ?_⟩
 simp [results, hres]
end
section
variable {P : Program} {t : Env} {H : Qd} {dst : Option Tmp} {ty ty' tp : TypeId} {pos : String} {aft : Array Edge} {g : Option (Nat × Bool)}
theorem Ly {ms : Array (String × TypeId)} (w : World) {ty : TypeId} (hu : P.underlying ty = some (.interface ms)) (d : Nat) : (Op.equalIn (d + 1) ty .nilIface .nilIface).run P w = .ok true w := by
 simp [Op.equalIn, run_underlying hu]
theorem MU {ms : Array (String × TypeId)} (w : World) {ty : TypeId} (hu : P.underlying ty = some (.interface ms)) : (Op.equal ty .nilIface .nilIface).run P w = .ok true w := Ly w hu 9999
theorem PC {x : Operand} {ms : Array (String × TypeId)} (hx : t.ev x = .v .nilIface := by exact zl) (hu : P.underlying ty = some (.interface ms) := by rfl) : POp P t H ⟨dst, .binOp .eql ty x (.const .nilIface) ty', tp, pos, aft, g⟩ (.v (.bool (decide True))) :=
 Xg hx rfl fun w => by
  have := MU w hu
  simp [eqGuard, binOp, this]
end
end Go.Cap
namespace Go.Proofs.YtjbokbikkcfjjaaGreat
open Go.Cap
attribute [local irreducible] POp Qf Pw EOp Sim FnH T.gp
theorem MD (rp : Value) : FnP Tryz.prog 130 [.v rp, .v .nilIface] (fun r => r = .tup []) := by
 refine fe Tryz.func130 fun S0 w0 => ?_
 show Sim _ _ [(0, .v rp), (1, .v .nilIface)] _ _
 refine zC ?_
 refine cr <| s_ Qa <| s_ PC ?_
 refine cn ?_
 refine zC ?_
 refine ci (fun _ => ?_) (fun h => absurd trivial h)
 refine zE ?_
 exact Le.refl _
theorem AZ {H : Qd} {i bl : Nat} {kb : Blk} {rp : Value} (hH : H[i]? = some (bl, kb)) (hd : kb.cells[0]? = some (.v rp)) : DfH Tryz.prog 129 #[.pointer (some ⟨bl, 0, none⟩)] H (fun H' => H' = H) := by
 have hm : Tryz.prog.follows .mixedOrders = true := by kernel_rfl
 refine O4 (g := 130) Tryz.func129 (by rfl) (by rfl) (by rfl) hH hd (by rfl) (by kernel_rfl) (MD rp) fun t => ?_
 have h2 : t % 2 = 0 ∨ t % 2 = 1 := by omega
 unfold Region.schedule Region.linearise
 rw [hm]
 rcases h2 with h | h
 ·left
  simp [Region.linearise.go, List.range_succ, h, Region.binds, Nat.mod_one]
 ·right
  simp [Region.linearise.go, List.range_succ, h, Region.binds, Nat.mod_one]
theorem IW {H : Qd} {i bl : Nat} {kb : Blk} {rp : Value} (hH : H[i]? = some (bl, kb)) (hd : kb.cells[0]? = some (.v rp)) : DfH Tryz.prog 156 #[.pointer (some ⟨bl, 0, none⟩)] H (fun H' => H' = H) := by
 have hm : Tryz.prog.follows .mixedOrders = true := by kernel_rfl
 refine O4 (g := 130) Tryz.func156 (by rfl) (by rfl) (by rfl) hH hd (by rfl) (by kernel_rfl) (MD rp) fun t => ?_
 have h2 : t % 2 = 0 ∨ t % 2 = 1 := by omega
 unfold Region.schedule Region.linearise
 rw [hm]
 rcases h2 with h | h
 ·left
  simp [Region.linearise.go, List.range_succ, h, Region.binds, Nat.mod_one]
 ·right
  simp [Region.linearise.go, List.range_succ, h, Region.binds, Nat.mod_one]
def Jd (n : Int) : Nat := if n < 0 then 2 * (-(n + 1)).toNat + 1 else 2 * n.toNat
theorem DE {n : Int} (h0 : -9223372036854775808 ≤ n) (h1 : n ≤ 9223372036854775807) : Jd n < 18446744073709551616 := by
 unfold Jd; split <;> omega
def O9 (u : Nat) : Int := if u % 2 = 1 then -((u / 2 : Nat) : Int) - 1 else ((u / 2 : Nat) : Int)
theorem ID (n : Int) : O9 (Jd n) = n := by
 unfold O9 Jd
 split <;> split <;> omega
def Ur : Nat → Nat → List UInt8
 | 0, u => [UInt8.ofNat u]
 | k + 1, u => if 128 ≤ u then UInt8.ofNat (u % 128 + 128) :: Ur k (u / 128) else [UInt8.ofNat u]
def XM (n : Int) : List UInt8 := Ur 9 (Jd n)
theorem Ea : ∀ (k u : Nat), 1 ≤ (Ur k u).length ∧ (Ur k u).length ≤ k + 1
 | 0, u => ⟨Nat.le_refl _, Nat.le_refl _⟩
 | k + 1, u => by
  unfold Ur
  split
  ·have := Ea k (u / 128)
   simp only [List.length_cons]; omega
  ·simp
theorem Y1 {a : Int} (h0 : 0 ≤ a) (h1 : a < 18446744073709551616) : IntKind.u64.wrap a = a := by
 simp [IntKind.wrap, IntKind.bits, IntKind.signed]
 omega
theorem Om {a : Int} (h0 : 0 ≤ a) (h1 : a < 9223372036854775808) : Zo .u64 a 1 = 2 * a := by
 unfold Zo
 rw [show min (1 : Int).toNat IntKind.u64.bits = 1 by rfl, Y1 (by omega) (by omega)]
 omega
theorem T3 {a : Nat} (h1 : a < 9223372036854775808) : bOr .u64 (2 * (a : Int)) 1 = ((2 * a + 1 : Nat) : Int) := by
 unfold bOr
 have e : (BitVec.ofInt IntKind.u64.bits (2 * (a : Int)) ||| BitVec.ofInt IntKind.u64.bits 1).toNat = 2 * a + 1 := by
  rw [BitVec.toNat_or, BitVec.toNat_ofInt, BitVec.toNat_ofInt]
  show ((2 * (a : Int)) % 18446744073709551616).toNat ||| ((1 : Int) % 18446744073709551616).toNat = _
  rw [show ((2 * (a : Int)) % 18446744073709551616).toNat = 2 * a by omega, show ((1 : Int) % 18446744073709551616).toNat = 1 by rfl]
  have := Nat.two_pow_add_eq_or_of_lt (i := 1) (b := 1) (by decide) a
  rw [Nat.pow_one] at this
  exact this.symm
 rw [e]
 exact Y1 (by omega) (by omega)
theorem Rj (n : Int) (h0 : -9223372036854775808 ≤ n) (h1 : n ≤ 9223372036854775807) : FnP Tryz.prog 170 [ei n] (fun r => r = .v (.int .u64 (Jd n : Nat))) := by
 refine fe Tryz.func170 fun S0 w0 => ?_
 show Sim _ _ [(0, ei n)] _ _
 refine zC ?_
 refine cr <| s_ Qb <| zC ?_
 refine cr <| s_ Qa <| s_ Q2 <| zC ?_
 refine ci ?_ ?_
 ·intro hn
  refine zC ?_
  refine cr <| s_ Qa <| s_ Q6 <| s_ (Ox (a := n + 1) (zl)) <| s_ Yw <| s_ Uw <| s_ VV <| s_ Qb <| zC ?_
  refine zE ?_
  refine Le.of_eq ?_
  show T.v (.int .u64 (bOr .u64 (Zo .u64 (IntKind.u64.wrap (IntKind.i64.wrap (0 - (n + 1)))) 1) 1)) = _
  obtain ⟨a, ha⟩ : ∃ a : Nat, 0 - (n + 1) = (a : Int) := ⟨(0 - (n + 1)).toNat, by omega⟩
  have hw : IntKind.i64.wrap (a : Int) = (a : Int) := by
   simp [IntKind.wrap, IntKind.bits, IntKind.signed]; omega
  rw [ha, hw, Y1 (by omega) (by omega), Om (by omega) (by omega), T3 (by omega)]
  have : Jd n = 2 * a + 1 := by unfold Jd; split <;> omega
  rw [this]
 ·intro hn
  refine zC ?_
  refine cr <| s_ Qa <| s_ Yw <| s_ Uw <| s_ Qb <| zC ?_
  refine zE ?_
  refine Le.of_eq ?_
  show T.v (.int .u64 (Zo .u64 (IntKind.u64.wrap n) 1)) = _
  rw [Y1 (by omega) (by omega), Om (by omega) (by omega)]
  have : ((Jd n : Nat) : Int) = 2 * n := by unfold Jd; split <;> omega
  rw [this]
def tB : TypeId := 5
def bl (l : List UInt8) : T := .sl false (l.map eb)
def OB (l : List UInt8) (v : Value) (Hs : Qd) : Prop := OSl tB 1 (l.map eb) v Hs
theorem eb1 (l : List UInt8) : ∀ x ∈ l.map eb, x.cells.length = 1 := zk
theorem Pe (l : List UInt8) : ∀ x ∈ l.map eb, x.solid := Jj _ (fun _ => .inl rfl) _
theorem OB.len {l : List UInt8} {v : Value} {Hs : Qd} (h : OB l v Hs) : ∃ p c, v = .slice p (l.map eb).length c := OSl.len h
theorem OB.lend {l : List UInt8} {v : Value} {Hs G : Qd} (h : OB l v Hs) (hG : ∀ p ∈ Hs, p ∈ G) : QB G (.v v) (bl l) := OSl.lend h hG (eb1 l) (Pe l)
theorem MA (f : Bool) (l : List UInt8) (hl : l.length ≤ 1000000000000) : FnH Tryz.prog 127 [.sl f (l.map eb)] [] (fun r H => ∃ v, r = .v v ∧ OB l v H) := by
 refine fe Tryz.func127 fun S0 w0 => ?_
 show Sim _ _ [(0, T.sl f (l.map eb))] _ _
 refine zC ?_
 refine cr <| s_ Qb <| zC ?_
 refine cr <| s_ Qa ?_
 refine Zx 3 fun p c h1 _ => ?_
 refine s_ T2 <| zC ?_
 refine ci ?_ ?_
 ·intro hp
  have := h1 hp
  have : l = [] := by simpa using this
  subst this
  refine zC ?_
  refine cr <| s_ Qb <| zC ?_
  refine zR ?_
  exact rh kR ⟨_, rfl, Zk⟩ (Le.refl _)
 ·intro hp
  refine zC ?_
  refine cr <| s_ JT ?_
  refine Zx 5 fun q c' _ h2 => ?_
  have := h2 rfl
  subst this
  refine s_ Qa ?_
  refine Mt (ho := (Ve : OSl tB 1 [] _ [])) (A := []) (B := []) (fun _ h => by cases h) (fun v' Hs' ho => ?_)
  refine s_ Qb <| zC ?_
  refine zR ?_
  exact rh kR ⟨_, rfl, by simpa [OB] using ho⟩ (Le.refl _)
theorem ZO (f : Bool) (l : List UInt8) (hl : l.length ≤ 1000000000000) : FnP Tryz.prog 127 [.sl f (l.map eb)] (fun r => r = bl l) :=
 FnH.give (MA f l hl) (by rintro r H ⟨v, rfl, ho⟩; exact ho.lend fun _ h => h)
theorem C7 (n : Nat) (hn : n ≤ 10000000000000) : FnH Tryz.prog 178 [.v (.slice none 0 0), ei n] [] (fun r H => ∃ v, r = .v v ∧ OB [] v H) := by
 refine fe Tryz.func178 fun S0 w0 => ?_
 show Sim _ _ [(0, T.v (.slice none 0 0)), (1, ei n)] _ _
 refine zC ?_
 refine cr <| s_ Qb <| zC ?_
 refine cr <| s_ Qa <| s_ Q2 <| zC ?_
 refine ci ?_ ?_
 ·intro h; exact absurd h (by omega)
 intro _
 refine zC ?_
 refine cr <| s_ Qa <| s_ Qa <| s_ TE <| s_ Qa ?_
 (first | refine s_ QX ?_ | refine s_ QQ ?_)
 refine s_ ZF <| s_ ZF <| s_ Qb <| zC ?_
 refine cr <| s_ Qa <| s_ Ys <| zC ?_
 have e0 : (n : Int) - (((0 : Nat) : Int) - ((0 : Nat) : Int)) = n := by omega
 rw [e0]
 refine ci ?_ ?_
 ·intro h0
  have h0' : 0 < n := by omega
  refine zC ?_
  refine cr <| s_ Qa <| s_ Qa <| s_ TE <| s_ (D7 (p := none) (n := 0) (c := 0) (v := .slice none 0 0) (Nat.le_refl _) rfl) <| s_ Qa ?_
  refine Ph (n := n) (fun b c _ hc => ?_)
  refine s_ Qa ?_
  (first | refine s_ QX ?_ | refine s_ QQ ?_)
  refine s_ (D7 (p := some ⟨b, 0, none⟩) (n := n) (c := c) (j := ((0 : Nat) : Int)) (v := .slice (some ⟨b, 0, none⟩) 0 c) hc (by simp [Yq, Addr.add])) <| s_ Qb <| zC ?_
  refine zC ?_
  refine cr <| s_ Qa <| s_ Qb <| zC ?_
  refine zR ?_
  exact rh kR ⟨_, rfl, .inr ⟨b, c, rfl, by simp, rfl⟩⟩ (Le.refl _)
 ·intro h0
  refine zC ?_
  refine cr <| s_ Qa <| s_ Qb <| zC ?_
  refine zR ?_
  exact rh kR ⟨_, rfl, Zk⟩ (Le.refl _)
def Us (rows : List (Bool × List UInt8)) : List UInt8 := rows.flatMap (·.2)
def Br (p : Bool × List UInt8) : T := .sl p.1 (p.2.map eb)
theorem ME {rows : List (Bool × List UInt8)} {k : Nat} (hk : k < rows.length) : Us (rows.take (k + 1)) = Us (rows.take k) ++ (rows[k]'hk).2 := by
 unfold Us
 rw [List.take_succ_eq_append_getElem hk, List.flatMap_append]
 simp
theorem O8 {rows : List (Bool × List UInt8)} (k : Nat) : (Us (rows.take k)).length ≤ (Us rows).length := by
 conv => rhs; rw [← List.take_append_drop k rows]
 unfold Us
 rw [List.flatMap_append, List.length_append]
 omega
theorem My (f : Bool) (rows : List (Bool × List UInt8)) (hn : (Us rows).length ≤ 100000000000) (hr : rows.length ≤ 1000000) : FnP Tryz.prog 174 [.sl f (rows.map Br)] (fun r => r = bl (Us rows)) := by
 refine FnH.give (Φ := fun r H => ∃ v, r = .v v ∧ OB (Us rows) v H) ?_ (by rintro r H ⟨v, rfl, ho⟩; exact ho.lend fun _ h => h)
 refine fe Tryz.func174 fun S0 w0 => ?_
 show Sim _ _ [(0, T.sl f (rows.map Br))] _ _
 refine zC ?_
 refine cr <| s_ Qb <| zC ?_
 refine cr <| s_ Qb <| zC ?_
 refine cr <| s_ Qa ?_
 (first | refine s_ QX ?_ | refine s_ QQ ?_)
 refine s_ Qa <| zC ?_
 apply Qp (σ := Nat) (ok := fun k => k ≤ rows.length) (env := fun k => [(11, ei k), (3, ei ((Us (rows.take k)).length : Nat)), (10, ei (rows.length : Nat)), (9, .sl f (rows.map Br)), (0, .sl f (rows.map Br))]) (heap := fun _ => []) (μ := fun k => rows.length - k) (s0 := 0)
 ·exact Nat.zero_le _
 ·refine ⟨?_, ?_, ?_, eL⟩
  ·apply Qh; (exact zG)
   exact Le.refl _
  ·apply Qh; (exact zG)
   exact Le.refl _
  ·apply Qh; (exact zG)
   exact Le.of_eq (by simp [ei])
 ·exact kR
 intro k hk
 refine zC ?_
 refine cr <| s_ Q2 <| zC ?_
 refine ci ?_ ?_
 ·intro hlt
  have hlt' : k < rows.length := by omega
  have hnx := ME hlt'
  have hle := O8 (rows := rows) (k + 1)
  rw [hnx, List.length_append] at hle
  refine zC ?_
  apply cr
  (first | refine s_ (Xh hix) ?_ | refine s_ (Xh hix2) ?_ | refine s_ YM ?_ | refine s_ Y8 ?_)
  (first | refine s_ Qm ?_ | refine s_ Qj ?_)
  refine s_ Qb <| zC ?_
  refine cr <| s_ Qa <| s_ Qa ?_
  (first | refine s_ QX ?_ | refine s_ QQ ?_)
  refine s_ Q6 <| s_ Qb <| zC ?_
  refine cr <| s_ Qa <| s_ Q2 <| zC ?_
  refine ci ?_ ?_
  ·intro h; exact absurd h (by simp only [List.length_map]; omega)
  intro _
  refine zC ?_
  refine cr <| s_ Q6 <| s_ Qa <| zC ?_
  refine ⟨k + 1, by omega, (by simp only []; omega), ⟨?_, ?_, eL⟩, kR⟩
  ·apply Qh; (exact zG)
   exact Le.refl _
  ·apply Qh; (exact zG)
   exact Le.of_eq (by rw [hnx]; simp [ei])
 intro hge
 have hke : k = rows.length := by omega
 subst hke
 rw [List.take_length]
 refine zC ?_
 refine cr <| s_ Qa ?_
 refine QV (Hs := []) (Hr := []) (C7 (Us rows).length (by omega)) (.refl _) (fun r H' ⟨v, hr, ho⟩ => ?_)
 subst hr
 refine s_ Qb <| zC ?_
 refine cr <| s_ Qa ?_
 (first | refine s_ QX ?_ | refine s_ QQ ?_)
 refine s_ Qa <| zC ?_
 apply Qp (σ := Nat × Value × Qd) (ok := fun s => s.1 ≤ rows.length ∧ OB (Us (rows.take s.1)) s.2.1 s.2.2) (env := fun s => [(27, ei s.1), (6, .v s.2.1), (26, ei (rows.length : Nat)), (25, .sl f (rows.map Br))]) (heap := fun s => s.2.2) (μ := fun s => rows.length - s.1) (s0 := (0, v, H'))
 ·exact ⟨Nat.zero_le _, ho⟩
 ·refine ⟨?_, ?_, ?_, eL⟩
  ·apply Qh; (exact zG)
   exact Le.refl _
  ·apply Qh; (exact zG)
   exact Le.refl _
  ·apply Qh; (exact zG)
   exact Le.of_eq (by simp [ei])
 ·rw [List.append_nil]; exact kR
 rintro ⟨k, v, H⟩ ⟨hk, ho⟩
 simp only at hk ho
 refine zC ?_
 refine cr <| s_ Q2 <| zC ?_
 refine ci ?_ ?_
 ·intro hlt
  simp only at hlt
  have hlt' : k < rows.length := by omega
  have hnx := ME hlt'
  have hle := O8 (rows := rows) (k + 1)
  rw [hnx, List.length_append] at hle
  refine zC ?_
  apply cr
  (first | refine s_ (Xh hix) ?_ | refine s_ (Xh hix2) ?_ | refine s_ YM ?_ | refine s_ Y8 ?_)
  (first | refine s_ Qm ?_ | refine s_ Qj ?_)
  refine s_ Qb <| zC ?_
  refine cr <| s_ Qa <| s_ Qa ?_
  refine Mt (ho := ho) (A := []) (B := []) (eb1 _) (fun v' Hs' ho' => ?_) (hH := by simp)
  refine s_ Qb <| zC ?_
  refine cr <| s_ Q6 <| s_ Qa <| zC ?_
  refine ⟨(k + 1, v', Hs'), ⟨by simp only; omega, ?_⟩, (by simp only []; omega), ⟨?_, ?_, eL⟩, by simp only [List.nil_append, List.append_nil]; exact kR⟩
  ·simp only
   rw [hnx]
   unfold OB
   rw [List.map_append]
   exact ho'
  ·apply Qh; (exact zG)
   exact Le.refl _
  ·apply Qh; (exact zG)
   exact Le.refl _
 intro hge
 simp only at hge
 have hke : k = rows.length := by omega
 subst hke
 rw [List.take_length] at ho
 refine zC ?_
 refine cr <| s_ Qa <| s_ Qb <| zC ?_
 refine zR ?_
 exact rh kR ⟨v, rfl, ho⟩ (Le.refl _)
end Go.Proofs.YtjbokbikkcfjjaaGreat
