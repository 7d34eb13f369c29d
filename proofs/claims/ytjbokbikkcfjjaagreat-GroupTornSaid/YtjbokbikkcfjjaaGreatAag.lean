/-
  The rules in short: what can be looked up is looked up.
-/
import Derived.Test.YtjbokbikkcfjjaaGreatAaf
set_option maxRecDepth 16000
set_option maxHeartbeats 8000000
set_option linter.all false
namespace Go.Cap
theorem OH {α : Type} [Inhabited α] {f : α → T} {l : List α} {i : Int} (h : i.toNat < l.length) : (l.map f)[i.toNat]? = some (f (l.getD i.toNat default)) := by simp [h]
section
variable {K : Ctx} {P : Program} {t : Env} {H H' : Qc} {dst : Option Tmp} {tp : TypeId} {pos : String} {aft : Array Edge} {g : Option (Nat × Bool)} {N : Env → Qc → Prop} {Ψ : Exit → Env → Qc → Prop}
variable {ty ty' : TypeId} {x y c : Operand} {d e dx dy : T} {k k' : IntKind} {a b : Int} {op : Op} {ops : Array Oper} {i j n kg : Nat} {l : List Oper} {kd : Tmp} {p q r : Prop} {ip : Decidable p} {iq : Decidable q} {ir : Decidable r}
theorem u_ (hp : p) (h : t.ev x = T.gp p ip d := by exact zl) : t.ev x = d := TA h hp
theorem cn (h : N t H) : Qf K ops i [] t H N := IV h
theorem cq {x y : Code} (h : Sim K x t H (W4 K y Ψ)) : Sim K (.seq x y) t H Ψ := CN h
theorem ck (h : Ψ .normal t H) : Sim K .skip t H Ψ := RR h
theorem cl {l : Nat} (h : Ψ .normal t H) : Sim K (.label l) t H Ψ := Oc h
theorem cx {id : Nat} (h : Ψ (.exit id) t H) : Sim K (.exit id) t H Ψ := RU h
theorem cb {id : Nat} {c : Code} (h : Sim K c t H (MD id Ψ)) : Sim K (.block id c) t H Ψ := Od h
theorem cr {id : Nat} (h : Qf K ops 0 ops.toList t H (Ψ .normal)) : Sim K (.region id ops false) t H Ψ := D9 h
theorem ci {x y : Code} (ht : p → Sim K x t H Ψ) (hf : ¬ p → Sim K y t H Ψ) (hc : t.ev c = .v (.bool (decide p)) := by exact zl) : Sim K (.cond c x y) t H Ψ := RV hc ht hf
theorem s_ (hp : POp K.P t H ⟨some kd, op, tp, pos, aft, none⟩ d) (h : Qf K ops (i + 1) l ((kd, d) :: t) H N) (hd : Nat.blt kd K.n = true := by rfl) :
  Qf K ops i (⟨some kd, op, tp, pos, aft, none⟩ :: l) t H N := AN hp hd h
theorem gT (hp : p → POp K.P t H ⟨some kd, op, tp, pos, aft, some (j, true)⟩ d) (h : Qf K ops (i + 1) l ((kd, T.gp p inferInstance d) :: t) H N) (hj : (ops[j]?).bind (·.dst) = some kg := by rfl)
  (hb : t.get kg = .v (.bool (decide p)) := by exact zG) (hd : Nat.blt kd K.n = true := by rfl) : Qf K ops i (⟨some kd, op, tp, pos, aft, some (j, true)⟩ :: l) t H N := Bz hj hb hp hd h
theorem gF (hp : ¬ p → POp K.P t H ⟨some kd, op, tp, pos, aft, some (j, false)⟩ d) (h : Qf K ops (i + 1) l ((kd, T.gp (¬ p) inferInstance d) :: t) H N) (hj : (ops[j]?).bind (·.dst) = some kg := by rfl)
  (hb : t.get kg = .v (.bool (decide p)) := by exact zG) (hd : Nat.blt kd K.n = true := by rfl) : Qf K ops i (⟨some kd, op, tp, pos, aft, some (j, false)⟩ :: l) t H N := BA hj hb hp hd h
theorem hT (hp : p ∧ q → POp K.P t H ⟨some kd, op, tp, pos, aft, some (j, true)⟩ d) (h : Qf K ops (i + 1) l ((kd, T.gp (p ∧ q) inferInstance d) :: t) H N) (hj : (ops[j]?).bind (·.dst) = some kg := by rfl)
  (hb : t.get kg = T.gp p ip (.v (.bool (decide q))) := by exact zG) (hd : Nat.blt kd K.n = true := by rfl) : Qf K ops i (⟨some kd, op, tp, pos, aft, some (j, true)⟩ :: l) t H N := Bx hj hb hp hd h
theorem hF (hp : p ∧ ¬ q → POp K.P t H ⟨some kd, op, tp, pos, aft, some (j, false)⟩ d) (h : Qf K ops (i + 1) l ((kd, T.gp (p ∧ ¬ q) inferInstance d) :: t) H N) (hj : (ops[j]?).bind (·.dst) = some kg := by rfl)
  (hb : t.get kg = T.gp p ip (.v (.bool (decide q))) := by exact zG) (hd : Nat.blt kd K.n = true := by rfl) : Qf K ops i (⟨some kd, op, tp, pos, aft, some (j, false)⟩ :: l) t H N := By hj hb hp hd h
theorem Qa (hx : t.ev x = d := by exact zl) : POp P t H ⟨dst, .move x, tp, pos, aft, g⟩ d := Id hx
theorem Qb (hx : t.ev x = d := by exact zl) : POp P t H ⟨dst, .assign x, tp, pos, aft, g⟩ d := Eg hx
theorem YW {ir : Decidable (¬ p)} (hc : t.ev c = .v (.bool (decide p)) := by exact zl) (hx : t.ev x = .v (.bool true) := by exact zl) (hy : t.ev y = T.gp (¬ p) ir (.v (.bool (decide q))) := by exact zl) :
  POp P t H ⟨dst, .pick c x y, tp, pos, aft, g⟩ (.v (.bool (decide (p ∨ q)))) := M0 hc hx hy
theorem XX (hc : t.ev c = .v (.bool (decide p)) := by exact zl) (hx : t.ev x = T.gp p ip (.v (.bool (decide q))) := by exact zl) (hy : t.ev y = .v (.bool false) := by exact zl) :
  POp P t H ⟨dst, .pick c x y, tp, pos, aft, g⟩ (.v (.bool (decide (p ∧ q)))) := L3 hc hx hy
theorem B5 {ir : Decidable (r ∧ ¬ p)} {i2 : Decidable r} (hr : r) (hc : t.ev c = T.gp r i2 (.v (.bool (decide p))) := by exact zl) (hx : t.ev x = .v (.bool true) := by exact zl) (hy : t.ev y = T.gp (r ∧ ¬ p) ir (.v (.bool (decide q))) := by exact zl) :
  POp P t H ⟨dst, .pick c x y, tp, pos, aft, g⟩ (.v (.bool (decide (p ∨ q)))) := L2 hc hx hy hr
theorem Aa {ir : Decidable (r ∧ p)} {i2 : Decidable r} (hr : r) (hc : t.ev c = T.gp r i2 (.v (.bool (decide p))) := by exact zl) (hx : t.ev x = T.gp (r ∧ p) ir (.v (.bool (decide q))) := by exact zl) (hy : t.ev y = .v (.bool false) := by exact zl) :
  POp P t H ⟨dst, .pick c x y, tp, pos, aft, g⟩ (.v (.bool (decide (p ∧ q)))) := WR hc hx hy hr
theorem XF (hx : t.ev x = .v (.int k a) := by exact zl) (hy : t.ev y = .v (.int k b) := by exact zl) : POp P t H ⟨dst, .binOp .eql ty x y ty', tp, pos, aft, g⟩ (.v (.bool (decide (a = b)))) := C7 hx hy
theorem Yq (hx : t.ev x = .v (.int k a) := by exact zl) (hy : t.ev y = .v (.int k b) := by exact zl) : POp P t H ⟨dst, .binOp .neq ty x y ty', tp, pos, aft, g⟩ (.v (.bool (decide (¬ a = b)))) := CZ hx hy
theorem B7 {l m : List UInt8} (hx : t.ev x = .v (.string (bs l)) := by exact zl) (hy : t.ev y = .v (.string (bs m)) := by exact zl) : POp P t H ⟨dst, .binOp .eql ty x y ty', tp, pos, aft, g⟩ (.v (.bool (decide (l = m)))) := Ef hx hy
theorem B6 {l m : List UInt8} (hx : t.ev x = .v (.string (bs l)) := by exact zl) (hy : t.ev y = .v (.string (bs m)) := by exact zl) : POp P t H ⟨dst, .binOp .neq ty x y ty', tp, pos, aft, g⟩ (.v (.bool (decide (¬ l = m)))) := Ee hx hy
theorem QU (hx : t.ev x = .v (.int k a) := by exact zl) (hy : t.ev y = .v (.int k b) := by exact zl) : POp P t H ⟨dst, .binOp .lss ty x y ty', tp, pos, aft, g⟩ (.v (.bool (decide (a < b)))) := C2 hx hy
theorem Bb (hx : t.ev x = .v (.int k a) := by exact zl) (hy : t.ev y = .v (.int k b) := by exact zl) : POp P t H ⟨dst, .binOp .leq ty x y ty', tp, pos, aft, g⟩ (.v (.bool (decide (a ≤ b)))) := C3 hx hy
theorem Yu (hx : t.ev x = .v (.int k a) := by exact zl) (hy : t.ev y = .v (.int k b) := by exact zl) : POp P t H ⟨dst, .binOp .gtr ty x y ty', tp, pos, aft, g⟩ (.v (.bool (decide (b < a)))) := C5 hx hy
theorem Vo (hx : t.ev x = .v (.int k a) := by exact zl) (hy : t.ev y = .v (.int k b) := by exact zl) : POp P t H ⟨dst, .binOp .geq ty x y ty', tp, pos, aft, g⟩ (.v (.bool (decide (b ≤ a)))) := C6 hx hy
theorem QY (hx : t.ev x = .v (.int .i64 a) := by exact zl) (hy : t.ev y = .v (.int .i64 b) := by exact zl) (h : -9223372036854775808 ≤ a + b ∧ a + b ≤ 9223372036854775807 := by exact zo) :
  POp P t H ⟨dst, .binOp .add ty x y ty', tp, pos, aft, g⟩ (.v (.int .i64 (a + b))) := Oy hx hy h
theorem Zp (hx : t.ev x = .v (.int .i64 a) := by exact zl) (hy : t.ev y = .v (.int .i64 b) := by exact zl) (h : -9223372036854775808 ≤ a - b ∧ a - b ≤ 9223372036854775807 := by exact zo) :
  POp P t H ⟨dst, .binOp .sub ty x y ty', tp, pos, aft, g⟩ (.v (.int .i64 (a - b))) := Or hx hy h
theorem Aw (hx : t.ev x = .v (.int .i64 a) := by exact zl) (hy : t.ev y = .v (.int .i64 b) := by exact zl) (h : -9223372036854775808 ≤ a * b ∧ a * b ≤ 9223372036854775807 := by exact zo) :
  POp P t H ⟨dst, .binOp .mul ty x y ty', tp, pos, aft, g⟩ (.v (.int .i64 (a * b))) := Ot hx hy h
theorem Ma (hx : t.ev x = .v (.int k a) := by exact zl) (hy : t.ev y = .v (.int k b) := by exact zl) (h : b ≠ 0 := by exact zo) : POp P t H ⟨dst, .binOp .rem ty x y ty', tp, pos, aft, g⟩ (.v (.int k (a.tmod b))) := CY hx hy h
theorem YA (hx : t.ev x = .v (.bool (decide p)) := by exact zl) : POp P t H ⟨dst, .unOp .not ty x, tp, pos, aft, g⟩ (.v (.bool (decide (¬ p)))) := Ic hx
theorem Qu {f off : Nat} {ys : List T} [hf : Q6 P ty f off 1 false] (hx : t.ev x = .adr (.agg ys) := by exact zl) (hd : ys[off]? = some d := by rfl) (hl : d.isLeaf = true := by rfl) : POp P t H ⟨dst, .fieldAddr ty x f, tp, pos, aft, g⟩ (.adr d) := WT hx hd hl
theorem Qd {f b o off n : Nat} {ag : Bool} [hf : Q6 P ty f off n ag] (hx : t.ev x = .v (.pointer (some ⟨b, o, none⟩)) := by exact zl) (hn : Nat.blt 0 n = true := by rfl) :
  POp P t H ⟨dst, .fieldAddr ty x f, tp, pos, aft, g⟩ (.v (.pointer (some ⟨b, o + off, none⟩))) := Uz hx hn
theorem Qm (hx : t.ev x = .adr d := by exact zl) (hl : d.isLeaf = true := by rfl) (hk : QC P ty = true := by rfl) : POp P t H ⟨dst, .load ty x, tp, pos, aft, g⟩ d := Ie hx hl hk
theorem Y6 {ys : List T} (hx : t.ev x = .adr (.agg ys) := by exact zl) (hk : X3 P ty = some ys.length := by rfl) : POp P t H ⟨dst, .load ty x, tp, pos, aft, g⟩ (.agg ys) := L7 hx hk
theorem Ql {b o m : Nat} {ty0 : TypeId} {cells : List T} (hx : t.ev x = .v (.pointer (some ⟨b, o, none⟩)) := by exact zl) (hi : (b, (⟨ty0, cells, m⟩ : Blk)) ∈ H := by exact zm) (hd : cells[o]? = some d := by rfl) (hk : QC P ty = true := by rfl) :
  POp P t H ⟨dst, .load ty x, tp, pos, aft, g⟩ d := Ou hx hi hd hk
theorem Xf {b o n m : Nat} {ty0 : TypeId} {cells cs : List T} [hk : U9 P ty n] (hx : t.ev x = .v (.pointer (some ⟨b, o, none⟩)) := by exact zl) (hi : (b, (⟨ty0, cells, m⟩ : Blk)) ∈ H := by exact zm) (hc : Xs cells o n cs := by exact zt) :
  POp P t H ⟨dst, .load ty x, tp, pos, aft, g⟩ (.agg cs) := WS hx hi hc
theorem Ax {f off : Nat} {ys : List T} [hf : Q6 P ty f off 1 false] (hx : t.ev x = .agg ys := by exact zl) (hd : ys[off]? = some d := by rfl) : POp P t H ⟨dst, .field ty x f, tp, pos, aft, g⟩ d := Ov hx hd
theorem YE {f : Bool} {xs : List T} {i : Int} {k : IntKind} (hx : t.ev x = .sl f xs := by exact zl) (hy : t.ev y = .v (.int k i) := by exact zl) (hd : xs[i.toNat]? = some d := by first | exact Mk (by assumption) | exact Ir (zo) | exact Mk (zo) | exact OH (zo) | rfl)
  (h0 : 0 ≤ i := by exact zo) (hs : JK P ty = some d.cells.length := by rfl) (hp : Nat.blt 0 d.cells.length = true := by rfl) : POp P t H ⟨dst, .indexAddr ty x y, tp, pos, aft, g⟩ (.adr d) := J2 hx hy h0 hd hs hp
theorem ZE {b o n c k : Nat} {i : Int} {kd : IntKind} [hs : Zb P ty k] (hx : t.ev x = .v (.slice (some ⟨b, o, none⟩) n c) := by exact zl) (hy : t.ev y = .v (.int kd i) := by exact zl) (h0 : 0 ≤ i := by exact zo) (h1 : i < n := by exact zo) :
  POp P t H ⟨dst, .indexAddr ty x y, tp, pos, aft, g⟩ (.v (.pointer (some ⟨b, o + i.toNat * k, none⟩))) := ZL hx hy h0 h1
theorem QH {i : Nat} {ds : List T} (hx : t.ev x = .tup ds := by exact zl) (hi : ds[i]? = some d := by rfl) : POp P t H ⟨dst, .extract x i, tp, pos, aft, g⟩ d := M5 hx hi
theorem A9 {f : Bool} {l : List UInt8} (hx : t.ev x = .sl f (l.map eb) := by exact zl) (h1 : Zf P ty = true := by rfl) (h2 : Lr P ty' = true := by rfl) : POp P t H ⟨dst, .convert ty ty' x, tp, pos, aft, g⟩ (.v (.string (bs l))) := Ed hx h1 h2
theorem QP {f : Bool} {xs : List T} (hx : t.ev x = .sl f xs := by exact zl) (ha : QR P ty = true := by rfl) : POp P t H ⟨dst, .call ⟨.builtin .len, #[x], #[ty]⟩, tp, pos, aft, g⟩ (.v (.int .i64 xs.length)) := C4 hx ha
theorem QO {p : Option Addr} {n c : Nat} (hx : t.ev x = .v (.slice p n c) := by exact zl) (ha : QR P ty = true := by rfl) : POp P t H ⟨dst, .call ⟨.builtin .len, #[x], #[ty]⟩, tp, pos, aft, g⟩ (.v (.int .i64 n)) := M3 hx ha
theorem WU {ats : Array TypeId} (hx : t.ev x = .v (.int k a) := by exact zl) (hy : t.ev y = .v (.int k b) := by exact zl) : POp P t H ⟨dst, .call ⟨.builtin .min, #[x, y], ats⟩, tp, pos, aft, g⟩ (.v (.int k (min a b))) := C0 hx hy
theorem VW {ats : Array TypeId} (hx : t.ev x = .v (.int k a) := by exact zl) (hy : t.ev y = .v (.int k b) := by exact zl) : POp P t H ⟨dst, .call ⟨.builtin .max, #[x, y], ats⟩, tp, pos, aft, g⟩ (.v (.int k (max a b))) := C1 hx hy
theorem Tm {xs ys : List T} {f : Bool} {by_ : Nat} [hz : QL P ty d by_] (hx : t.ev x = dx := by exact zl) (hxl : Le dx (.sl true xs) := by exact zL) (hy : t.ev y = dy := by exact zl) (hyl : Le dy (.sl f ys) := by exact zL) (hs : QR P ty' = true := by rfl)
  (hkx : ∀ x ∈ xs, x.cells.length = d.cells.length := by exact zk) (hky : ∀ x ∈ ys, x.cells.length = d.cells.length := by exact zk) (hb : (xs.length + ys.length) * by_ ≤ 140737488355328 := by exact zo) (hm : xs.length + ys.length ≤ 9223372036854775807 := by exact zo) :
  POp P t H ⟨dst, .call ⟨.builtin .append, #[x, y], #[ty, ty']⟩, tp, pos, aft, g⟩ (.sl false (xs ++ ys)) := Eh hx hxl hy hyl hs hkx hky hb hm
theorem ZF {parts : Array (Nat × Operand)} {z : List T} (n : Nat) (ds : List T) [hz0 : QZ P ty z] {ps : List (Nat × T)} (ha : X3 P ty = some n := by rfl) (hok : UO P ty = true := by rfl) (hp : EvP t parts.toList ps := by exact zpv)
  (hd' : UN (Y5 P ty) z ps = some ds := by rfl) : POp P t H ⟨dst, .build ty parts, tp, pos, aft, g⟩ (.agg ds) := Lg n ds ha hok hp hd'
theorem JG {n : Nat} {parts : Array (Nat × Operand)} {by_ : Nat} {xs : List T} [hz : QL P ty d by_] (hp : UC parts.toList 0 = true := by rfl) (hn : Nat.beq parts.toList.length n = true := by rfl)
  (hb : n * d.cells.length ≤ 16777216 := by decide) (hx' : EvQ t parts.toList xs := by exact zq) (hk : ∀ x ∈ xs, x.cells.length = d.cells.length := by exact zk) : POp P t H ⟨dst, .buildSlice ty n parts, tp, pos, aft, g⟩ (.sl true xs) := VV hp hn hb hx' hk
theorem QQ {f : FuncId} {xs : Array Operand} {ats : Array TypeId} {args : List T} (hf : FnP P f args (fun r => r = d)) (hc : QE P f = true := by rfl) (ha' : EvL t xs.toList args := by exact ze) :
  POp P t H ⟨dst, .call ⟨.value (.func f), xs, ats⟩, tp, pos, aft, g⟩ d := M8 hc ha' hf
theorem Yd {z : List T} [hz : QZ K.P ty z] (h : ∀ b, (∀ c ∈ keys H, ¬ c = b) → Qf K ops (i + 1) l ((kd, .v (.pointer (some ⟨b, 0, none⟩))) :: t) ((b, ⟨ty, z, z.length⟩) :: H) N) (hd : Nat.blt kd K.n = true := by rfl) :
  Qf K ops i (⟨some kd, .alloc ty, tp, pos, aft, none⟩ :: l) t H N := YG (O9 hd h)
theorem X1 {cs : List T} (h : ∀ b, (∀ c ∈ keys H, ¬ c = b) → Qf K ops (i + 1) l ((kd, .v (.pointer (some ⟨b, 0, none⟩))) :: t) ((b, ⟨ty, cs, cs.length⟩) :: H) N) (hx : t.ev x = .agg cs := by exact zl) (hp : Nat.blt 0 cs.length = true := by rfl)
  (hd : Nat.blt kd K.n = true := by rfl) : Qf K ops i (⟨some kd, .box ty x, tp, pos, aft, none⟩ :: l) t H N := YG (GO hx hp hd h)
theorem Mx (h : ∀ b, (∀ c ∈ keys H, ¬ c = b) → Qf K ops (i + 1) l ((kd, .v (.pointer (some ⟨b, 0, none⟩))) :: t) ((b, ⟨ty, [d], 1⟩) :: H) N) (hx : t.ev x = d := by exact zl) (hl : d.isLeaf = true := by rfl)
  (hd : Nat.blt kd K.n = true := by rfl) : Qf K ops i (⟨some kd, .box ty x, tp, pos, aft, none⟩ :: l) t H N := YG (I9 hx hl hd h)
theorem Qz {b o m : Nat} {ty0 : TypeId} {cells cs : List T} (h : Qf K ops (i + 1) l t H' N) (hx : t.ev x = .v (.pointer (some ⟨b, o, none⟩)) := by exact zl) (hy : t.ev y = d := by exact zl) (hi : Jw H (b, ⟨ty0, cells, m⟩) (b, ⟨ty0, cs, m⟩) H' := by exact zr) (hc : ZB cells o d.cells cs := by exact zy)
  (hs : VN K.P ty = some d.cells.length := by rfl) (hp : Nat.blt 0 d.cells.length = true := by rfl) (hl : QG d.cells = true := by rfl) : Qf K ops i (⟨none, .store ty x y, tp, pos, aft, none⟩ :: l) t H N := YG (Wt hx hy hi hc hs hp hl h)
variable {eff : List Nat} {pend : List Xg} {al : List (Nat × Oper)} {F : Qc → Prop}
theorem ca {id : Nat} (ord eff : List Nat) (h : Qj K ops eff (Ψ .normal) (pick ops ord) t H []) (hmix : K.P.follows .mixedOrders = true := by kernel_rfl) (hc : Cu ops K.n eff ord = true := by kernel_rfl) : Sim K (.region id ops true) t H Ψ := CO ord eff hmix hc h
theorem an (h : N t H) : Qj K ops eff N [] t H pend := h
theorem a_F {o : Oper} (hg : ∀ H', F H' → GOp K.P ops t H' o d) (hF : F H) (h : Qj K ops eff N al (t.put o.dst d) H (⟨i, o, d, F⟩ :: pend)) (he : QS eff i = false) : Qj K ops eff N ((i, o) :: al) t H pend := by
 show QM K ops eff i o _ t H pend
 unfold QM
 rw [he, cond_false]
 exact ⟨d, F, hg, hF, h⟩
theorem a_ (hp : ∀ H', POp K.P t H' ⟨some kd, op, tp, pos, aft, none⟩ d) (h : Qj K ops eff N al ((kd, d) :: t) H (⟨i, ⟨some kd, op, tp, pos, aft, none⟩, d, fun _ => True⟩ :: pend)) (he : QS eff i = false := by rfl) :
  Qj K ops eff N ((i, ⟨some kd, op, tp, pos, aft, none⟩) :: al) t H pend := a_F (fun H' _ => hp H') trivial h he
theorem QJ {b o m : Nat} {ty0 : TypeId} {cells : List T} (h : Qj K ops eff N al ((kd, d) :: t) H (⟨i, ⟨some kd, .load ty x, tp, pos, aft, none⟩, d, fun H => (b, (⟨ty0, cells, m⟩ : Blk)) ∈ H⟩ :: pend)) (hx : t.ev x = .v (.pointer (some ⟨b, o, none⟩)) := by exact zl) (hm : (b, (⟨ty0, cells, m⟩ : Blk)) ∈ H := by exact zm) (hd : cells[o]? = some d := by rfl)
  (hk : QC K.P ty = true := by rfl) (he : QS eff i = false := by rfl) : Qj K ops eff N ((i, ⟨some kd, .load ty x, tp, pos, aft, none⟩) :: al) t H pend := a_F (F := fun H => (b, (⟨ty0, cells, m⟩ : Blk)) ∈ H) (fun _ h' => Ql hx h' hd hk) hm h he
theorem YC {b o n m : Nat} {ty0 : TypeId} {cells cs : List T} [hk : U9 K.P ty n] (h : Qj K ops eff N al ((kd, .agg cs) :: t) H (⟨i, ⟨some kd, .load ty x, tp, pos, aft, none⟩, .agg cs, fun H => (b, (⟨ty0, cells, m⟩ : Blk)) ∈ H⟩ :: pend)) (hx : t.ev x = .v (.pointer (some ⟨b, o, none⟩)) := by exact zl) (hm : (b, (⟨ty0, cells, m⟩ : Blk)) ∈ H := by exact zm) (hc : Xs cells o n cs := by exact zt)
  (he : QS eff i = false := by rfl) : Qj K ops eff N ((i, ⟨some kd, .load ty x, tp, pos, aft, none⟩) :: al) t H pend := a_F (F := fun H => (b, (⟨ty0, cells, m⟩ : Blk)) ∈ H) (fun _ h' => Xf hx h' hc) hm h he
theorem QF (hp : ∀ H', p → POp K.P t H' ⟨some kd, op, tp, pos, aft, some (j, true)⟩ d) (h : Qj K ops eff N al ((kd, T.gp p inferInstance d) :: t) H (⟨i, ⟨some kd, op, tp, pos, aft, some (j, true)⟩, T.gp p inferInstance d, fun _ => True⟩ :: pend))
  (hj : (ops[j]?).bind (·.dst) = some kg := by rfl) (hb : t.get kg = .v (.bool (decide p)) := by exact zG) (he : QS eff i = false := by rfl) : Qj K ops eff N ((i, ⟨some kd, op, tp, pos, aft, some (j, true)⟩) :: al) t H pend :=
 a_F (fun H' _ => ⟨kg, _, hj, hb, fun e => by rw [XD (Xt.1 e)]; exact hp H' (Xt.1 e), fun e => Yi fun h => e (Xt.2 h)⟩) trivial h he
theorem XH (hp : ∀ H', ¬ p → POp K.P t H' ⟨some kd, op, tp, pos, aft, some (j, false)⟩ d) (h : Qj K ops eff N al ((kd, T.gp (¬ p) inferInstance d) :: t) H (⟨i, ⟨some kd, op, tp, pos, aft, some (j, false)⟩, T.gp (¬ p) inferInstance d, fun _ => True⟩ :: pend))
  (hj : (ops[j]?).bind (·.dst) = some kg := by rfl) (hb : t.get kg = .v (.bool (decide p)) := by exact zG) (he : QS eff i = false := by rfl) : Qj K ops eff N ((i, ⟨some kd, op, tp, pos, aft, some (j, false)⟩) :: al) t H pend :=
 a_F (fun H' _ => ⟨kg, _, hj, hb, fun e => by rw [XD (Yy.1 e)]; exact hp H' (Yy.1 e), fun e => Yi fun h => e (Yy.2 h)⟩) trivial h he
theorem BT (hp : ∀ H', p ∧ q → POp K.P t H' ⟨some kd, op, tp, pos, aft, some (j, true)⟩ d) (h : Qj K ops eff N al ((kd, T.gp (p ∧ q) inferInstance d) :: t) H (⟨i, ⟨some kd, op, tp, pos, aft, some (j, true)⟩, T.gp (p ∧ q) inferInstance d, fun _ => True⟩ :: pend))
  (hj : (ops[j]?).bind (·.dst) = some kg := by rfl) (hb : t.get kg = T.gp p ip (.v (.bool (decide q))) := by exact zG) (he : QS eff i = false := by rfl) : Qj K ops eff N ((i, ⟨some kd, op, tp, pos, aft, some (j, true)⟩) :: al) t H pend :=
 a_F (fun H' _ => ⟨kg, _, hj, hb.trans IM, fun e => by rw [XD (JV.1 e)]; exact hp H' (JV.1 e), fun e => Yi fun h => e (JV.2 h)⟩) trivial h he
theorem U8 (hp : ∀ H', p ∧ ¬ q → POp K.P t H' ⟨some kd, op, tp, pos, aft, some (j, false)⟩ d) (h : Qj K ops eff N al ((kd, T.gp (p ∧ ¬ q) inferInstance d) :: t) H (⟨i, ⟨some kd, op, tp, pos, aft, some (j, false)⟩, T.gp (p ∧ ¬ q) inferInstance d, fun _ => True⟩ :: pend))
  (hj : (ops[j]?).bind (·.dst) = some kg := by rfl) (hb : t.get kg = T.gp p ip (.v (.bool (decide q))) := by exact zG) (he : QS eff i = false := by rfl) : Qj K ops eff N ((i, ⟨some kd, op, tp, pos, aft, some (j, false)⟩) :: al) t H pend :=
 a_F (fun H' _ => ⟨kg, _, hj, hb.trans IM, fun e => by rw [XD (Y8.1 e)]; exact hp H' (Y8.1 e), fun e => Yi fun h => e (Y8.2 h)⟩) trivial h he
theorem Zz {b o m : Nat} {ty0 : TypeId} {cells : List T} (h : Qj K ops eff N al ((kd, T.gp (p) inferInstance d) :: t) H (⟨i, ⟨some kd, .load ty x, tp, pos, aft, some (j, true)⟩, T.gp (p) inferInstance d, fun H => (b, (⟨ty0, cells, m⟩ : Blk)) ∈ H⟩ :: pend)) (hj : (ops[j]?).bind (·.dst) = some kg := by rfl) (hb : t.get kg = .v (.bool (decide p)) := by exact zG)
  (hx : p → t.ev x = .v (.pointer (some ⟨b, o, none⟩)) := by exact zU) (hm : (b, (⟨ty0, cells, m⟩ : Blk)) ∈ H := by exact zm) (hd : cells[o]? = some d := by rfl) (hk : QC K.P ty = true := by rfl) (he : QS eff i = false := by rfl) :
  Qj K ops eff N ((i, ⟨some kd, .load ty x, tp, pos, aft, some (j, true)⟩) :: al) t H pend :=
 a_F (F := fun H => (b, (⟨ty0, cells, m⟩ : Blk)) ∈ H) (fun H' h' => ⟨kg, _, hj, hb, fun e => by rw [XD (Xt.1 e)]; exact Ql (hx (Xt.1 e)) h' hd hk, fun e => Yi fun h => e (Xt.2 h)⟩) hm h he
theorem GY {b o n m : Nat} {ty0 : TypeId} {cells cs : List T} [hk : U9 K.P ty n] (h : Qj K ops eff N al ((kd, T.gp (p) inferInstance (.agg cs)) :: t) H (⟨i, ⟨some kd, .load ty x, tp, pos, aft, some (j, true)⟩, T.gp (p) inferInstance (.agg cs), fun H => (b, (⟨ty0, cells, m⟩ : Blk)) ∈ H⟩ :: pend)) (hj : (ops[j]?).bind (·.dst) = some kg := by rfl) (hb : t.get kg = .v (.bool (decide p)) := by exact zG)
  (hx : p → t.ev x = .v (.pointer (some ⟨b, o, none⟩)) := by exact zU) (hm : (b, (⟨ty0, cells, m⟩ : Blk)) ∈ H := by exact zm) (hc : Xs cells o n cs := by exact zt) (he : QS eff i = false := by rfl) :
  Qj K ops eff N ((i, ⟨some kd, .load ty x, tp, pos, aft, some (j, true)⟩) :: al) t H pend :=
 a_F (F := fun H => (b, (⟨ty0, cells, m⟩ : Blk)) ∈ H) (fun H' h' => ⟨kg, _, hj, hb, fun e => by rw [XD (Xt.1 e)]; exact Xf (hx (Xt.1 e)) h' hc, fun e => Yi fun h => e (Xt.2 h)⟩) hm h he
theorem MF {b o m : Nat} {ty0 : TypeId} {cells : List T} (h : Qj K ops eff N al ((kd, T.gp (¬ p) inferInstance d) :: t) H (⟨i, ⟨some kd, .load ty x, tp, pos, aft, some (j, false)⟩, T.gp (¬ p) inferInstance d, fun H => (b, (⟨ty0, cells, m⟩ : Blk)) ∈ H⟩ :: pend)) (hj : (ops[j]?).bind (·.dst) = some kg := by rfl) (hb : t.get kg = .v (.bool (decide p)) := by exact zG)
  (hx : ¬ p → t.ev x = .v (.pointer (some ⟨b, o, none⟩)) := by exact zU) (hm : (b, (⟨ty0, cells, m⟩ : Blk)) ∈ H := by exact zm) (hd : cells[o]? = some d := by rfl) (hk : QC K.P ty = true := by rfl) (he : QS eff i = false := by rfl) :
  Qj K ops eff N ((i, ⟨some kd, .load ty x, tp, pos, aft, some (j, false)⟩) :: al) t H pend :=
 a_F (F := fun H => (b, (⟨ty0, cells, m⟩ : Blk)) ∈ H) (fun H' h' => ⟨kg, _, hj, hb, fun e => by rw [XD (Yy.1 e)]; exact Ql (hx (Yy.1 e)) h' hd hk, fun e => Yi fun h => e (Yy.2 h)⟩) hm h he
theorem Cz {o : Oper} (hE : ∀ t0 : Env, (∀ x ∈ o.op.operands, t0.ev x = t.ev x) → EOp K t0 H o fun t' H' => ∃ d, t' = t0.put o.dst d ∧ XO ops o H' pend ∧ Qj K ops eff N al (t.put o.dst d) H' pend) (he : QS eff i = true) :
  Qj K ops eff N ((i, o) :: al) t H pend := by
 show QM K ops eff i o _ t H pend
 unfold QM
 rw [he, cond_true]
 exact fun t0 h0 a w hr Kc Q hk => hE t0 h0 a w hr Kc Q fun t' H' a' w' ⟨d, h1, h2, h3⟩ hr' => hk t' H' a' w' ⟨d, pend, h1, h2, .refl _ _ _, h3⟩ hr'
theorem WJ {o : Oper} (hE : ∀ t0 : Env, (∀ x ∈ o.op.operands, t0.ev x = t.ev x) → EOp K t0 H o fun t' H' => ∃ d pend', t' = t0.put o.dst d ∧ XO ops o H' pend ∧ XI ops o pend pend' ∧ Qj K ops eff N al (t.put o.dst d) H' pend') (he : QS eff i = true) :
  Qj K ops eff N ((i, o) :: al) t H pend := by
 show QM K ops eff i o _ t H pend
 unfold QM
 rw [he, cond_true]
 exact hE
theorem XN {b o m : Nat} {ty0 : TypeId} {cells cs : List T} (h : Qj K ops eff N al t H' pend) (hx : t.ev x = .v (.pointer (some ⟨b, o, none⟩)) := by exact zl) (hy : t.ev y = d := by exact zl) (hi : Jw H (b, ⟨ty0, cells, m⟩) (b, ⟨ty0, cs, m⟩) H' := by exact zr) (hc : ZB cells o d.cells cs := by exact zy)
  (hs : VN K.P ty = some d.cells.length := by rfl) (hp : Nat.blt 0 d.cells.length = true := by rfl) (hl : QG d.cells = true := by rfl) (hk : XO ops ⟨none, .store ty x y, tp, pos, aft, none⟩ H' pend := by exact zd) (he : QS eff i = true := by rfl) :
  Qj K ops eff N ((i, ⟨none, .store ty x y, tp, pos, aft, none⟩) :: al) t H pend :=
 Cz (fun t0 h0 => Wt ((h0 x (by simp [Op.operands])).trans hx) ((h0 y (by simp [Op.operands])).trans hy) hi hc hs hp hl ⟨.any, rfl, hk, h⟩) he
theorem EY {b o m : Nat} {ty0 : TypeId} {cells : List T} (hc : o + d.cells.length ≤ cells.length) (h : Qj K ops eff N al t H' pend) (hx : t.ev x = .v (.pointer (some ⟨b, o, none⟩)) := by exact zl) (hy : t.ev y = d := by exact zl) (hi : Jw H (b, ⟨ty0, cells, m⟩) (b, ⟨ty0, lay cells o d.cells, m⟩) H' := by exact zr)
  (hs : VN K.P ty = some d.cells.length := by rfl) (hp : Nat.blt 0 d.cells.length = true := by rfl) (hl : QG d.cells = true := by rfl) (hk : XO ops ⟨none, .store ty x y, tp, pos, aft, none⟩ H' pend := by exact zd) (he : QS eff i = true := by rfl) :
  Qj K ops eff N ((i, ⟨none, .store ty x y, tp, pos, aft, none⟩) :: al) t H pend :=
 Cz (fun t0 h0 => EK ((h0 x (by simp [Op.operands])).trans hx) ((h0 y (by simp [Op.operands])).trans hy) hi hs hp hl hc ⟨.any, rfl, hk, h⟩) he
theorem T1 {cs : List T} (h : ∀ b, (∀ c ∈ keys H, ¬ c = b) → XO ops ⟨some kd, .box ty x, tp, pos, aft, none⟩ ((b, ⟨ty, cs, cs.length⟩) :: H) pend ∧ Qj K ops eff N al ((kd, .v (.pointer (some ⟨b, 0, none⟩))) :: t) ((b, ⟨ty, cs, cs.length⟩) :: H) pend)
  (hx : t.ev x = .agg cs := by exact zl) (hp : Nat.blt 0 cs.length = true := by rfl) (hd : Nat.blt kd K.n = true := by rfl) (he : QS eff i = true := by rfl) : Qj K ops eff N ((i, ⟨some kd, .box ty x, tp, pos, aft, none⟩) :: al) t H pend :=
 Cz (fun t0 h0 => GO ((h0 x (by simp [Op.operands])).trans hx) hp hd fun b hb => ⟨_, rfl, h b hb⟩) he
theorem kN : Qh H [] := .nil H
theorem kS {p : Nat × Blk} {r r' : Qc} (hs : Qh r r') : Qh (p :: r) r' := .skip p r r' hs
theorem kK {b n : Nat} {cs cs' : List T} {r r' : Qc} (hs : Qh r r') (h : LeL cs cs' := by exact zM) (hl : cs'.length = cs.length := by rfl) : Qh ((b, ⟨ty, cs, n⟩) :: r) ((b, ⟨ty, cs', n⟩) :: r') := .keep b _ _ r r' (Cr rfl h hl rfl) hs
theorem eL {t' : Env} (h : ZD t t' := by (repeat (first | exact trivial | (apply And.intro; (apply Qi; (exact zG); (first | exact Le.refl _ | exact Le.nil _ | exact Le.full _ _ | exact Le.any _ | (apply Le.of_eq; focus (simp; done)) | (apply Le.of_eq; focus (congr 2; omega)) | (apply Le.of_eq; focus (simp [*]; done)))))))) : ZD t t' := h
theorem re {fn : Func} {Φ : T → Prop} {rs : List ResultVar} {ds : List T} (hl : Le (XW ds) d) (hp : Φ d) (hr : fn.results.toList = rs := by rfl) (h : YO P t H rs ds := by exact zrs) : Vq P fn (fun r H => H = [] ∧ Φ r) .ret t H := IZ hr h d hl hp
theorem rt {fn : Func} {rs : List ResultVar} {ds : List T} (hl : Le (XW ds) d) (hr : fn.results.toList = rs := by rfl) (h : YO P t H rs ds := by exact zrs) : Vq P fn (fun r H => H = [] ∧ r = d) .ret t H := BD hr h hl
theorem rn {fn : Func} {rs : List ResultVar} {ds : List T} (hl : Le (XW ds) d) (hr : fn.results.toList = rs := by rfl) (h : YO P t H rs ds := by exact zrs) : Vq P fn (fun r H => H = [] ∧ r = d) .normal t H := EI hr h hl
end
section
variable {P : Program} {t : Env} {H : Qc} {dst : Option Tmp} {tp : TypeId} {pos : String} {aft : Array Edge} {g : Option (Nat × Bool)} {ty : TypeId} {x y : Operand}
theorem Xd {f : Bool} {α : Type} {fn : α → T} {xs : List α} {i : Nat} {k : IntKind} (hs : i < xs.length) (hx : t.ev x = .sl f (xs.map fn) := by exact zl) (hy : t.ev y = .v (.int k i) := by exact zl)
  (h1 : JK P ty = some (fn xs[i]).cells.length := by rfl) (hp : Nat.blt 0 (fn xs[i]).cells.length = true := by rfl) : POp P t H ⟨dst, .indexAddr ty x y, tp, pos, aft, g⟩ (.adr (fn xs[i])) :=
 J2 hx hy (by omega) (Mk hs) h1 hp
end
section
variable {K : Ctx} {P : Program} {t : Env} {H H' Hr Hs G H1 : Qc} {dst : Option Tmp} {tp : TypeId} {pos : String} {aft : Array Edge} {g : Option (Nat × Bool)} {N : Env → Qc → Prop} {Ψ : Exit → Env → Qc → Prop}
variable {S : Nat → Prop} {w : World} {ty ty' : TypeId}
theorem Ze (h : H.Perm H') : (keys H).Perm (keys H') := h.map _
theorem Own.perm (h : Own S w H) (hp : H.Perm H') : Own S w H' :=
 ⟨(Ze hp).nodup_iff.1 h.nodup, fun b hb => h.apart b ((Ze hp).mem_iff.2 hb), fun p hpp => h.has p (hp.mem_iff.2 hpp)⟩
theorem R.perm {a : Act} (h : R K t H a w) (hp : H.Perm H') : R K t H' a w := by
 obtain ⟨S, h⟩ := h
 exact ⟨S, h.size, h.defers, h.step, h.own.perm hp, fun b hb => h.mine b ((Ze hp).mem_iff.2 hb), h.env⟩
theorem I6 {o : Oper} (h : EOp K t H o fun t' H' => ∃ H2, H'.Perm H2 ∧ N t' H2) : EOp K t H o N := fun a w hr Kc Q hk =>
 h a w hr Kc Q fun t' _ a' w' ⟨H2, hp, hn⟩ hr' => hk t' H2 a' w' hn (hr'.perm hp)
theorem XV {c : Code} (hp : H.Perm H') (h : Sim K c t H' Ψ) : Sim K c t H Ψ := fun a w hr => h a w (hr.perm hp)
theorem Qk : keys (H ++ H') = keys H ++ keys H' := by simp [keys]
theorem Own.left (h : Own S w (H ++ H')) : Own S w H := by
 refine ⟨?_, fun b hb => h.apart b (by rw [Qk]; exact List.mem_append_left _ hb), fun p hp => h.has p (List.mem_append_left _ hp)⟩
 have := h.nodup
 rw [Qk] at this
 exact (List.nodup_append.1 this).1
theorem Own.right (h : Own S w (H ++ H')) : Own S w H' := by
 refine ⟨?_, fun b hb => h.apart b (by rw [Qk]; exact List.mem_append_right _ hb), fun p hp => h.has p (List.mem_append_right _ hp)⟩
 have := h.nodup
 rw [Qk] at this
 exact (List.nodup_append.1 this).2.1
theorem Own.disj (h : Own S w (H ++ H')) : ∀ b ∈ keys H, b ∉ keys H' := by
 have := h.nodup
 rw [Qk] at this
 intro b h1 h2
 exact (List.nodup_append.1 this).2.2 b h1 b h2 rfl
theorem R1.called {a : Act} (hr : R1 K t (Hs ++ Hr) a w S) {S' : Nat → Prop} {w' : World} {d : T} {v : Value} (hown : Own S' w' H') (hst : QN (keys Hs) S w S' w') (hkeys : ∀ b ∈ keys H', b ∈ keys Hs ∨ w.heap.size ≤ b) (hd : Xo dst K.n = true) (hrel : Rel S' w' d v) :
  R1 K (t.put dst d) (H' ++ Hr) (a.put dst v) w' S' := by
 have hsS : ∀ b ∈ keys Hs, ¬ S b := hr.own.left.apart
 have hm := hst.mono hr.wf hsS
 refine ⟨by simp [hr.size], (hr.defers.step hm (hst.objs fun b hb => by
  obtain ⟨p, hp', rfl⟩ := List.mem_map.1 hb
  exact (hr.own.left.has p hp').isMem) hst.size).put hd, hr.step.trans hst (fun b hb => hr.mine b (by rw [Qk]; exact List.mem_append_left _ hb)), ⟨?_, ?_, ?_⟩, ?_, (hr.env.mono hm).put (by rw [hr.size]; exact hd) hrel⟩
 ·rw [Qk]
  refine List.nodup_append.2 ⟨hown.nodup, hr.own.right.nodup, fun b hb c hc' e => ?_⟩
  subst e
  rcases hkeys b hb with h1 | h1
  ·exact hr.own.disj b h1 hc'
  ·have := hr.own.right.lt b hc'; omega
 ·intro b hb hS
  rw [Qk] at hb
  rcases List.mem_append.1 hb with hb | hb
  ·exact hown.apart b hb hS
  ·rcases hst.new b hS with h1 | h1 | h1
   ·exact hr.own.right.apart b hb h1
   ·have := hr.own.right.lt b hb; omega
   ·exact hr.own.disj b h1 hb
 ·intro p hp'
  rcases List.mem_append.1 hp' with hp' | hp'
  ·exact hown.has p hp'
  ·have hk' : p.1 ∈ keys Hr := List.mem_map.2 ⟨p, hp', rfl⟩
   have h1 := hr.own.right.has p hp'
   exact h1.mono (hst.keep _ h1.lt (fun h => hr.own.disj _ h hk')) hm
 ·intro b hb
  rw [Qk] at hb
  rcases List.mem_append.1 hb with hb | hb
  ·rcases hkeys b hb with h1 | h1
   ·exact hr.mine b (by rw [Qk]; exact List.mem_append_left _ h1)
   ·have := hr.step.size; exact .inr (by omega)
  ·exact hr.mine b (by rw [Qk]; exact List.mem_append_right _ hb)
theorem YH {f : FuncId} {xs : Array Operand} {ats : Array TypeId} {args : List T} {Φ : T → Qc → Prop} (hf : FnH K.P f args Hs Φ) (hp : H.Perm (Hs ++ Hr)) (hc : QE K.P f = true) (ha' : EvL t xs.toList args)
  (hd : Xo dst K.n = true) (hn : ∀ r H', Φ r H' → N (t.put dst r) (H' ++ Hr)) : EOp K t H ⟨dst, .call ⟨.value (.func f), xs, ats⟩, tp, pos, aft, g⟩ N := by
 have ha := ha'.eq
 refine EOp.of_w (fun c e => by cases e) ?_
 intro a w hR Kc Q hk
 obtain ⟨S, hr⟩ := hR.perm hp
 unfold Oper.wp
 have e : execOp a.eval ⟨dst, .call ⟨.value (.func f), xs, ats⟩, tp, pos, aft, g⟩ = callFunc f (#[] ++ xs.map a.eval ++ #[]) := rfl
 rw [e, Zo hc]
 simp only [Oper.upon]
 have hrl : Qr S w args (xs.toList.map a.eval) := ha ▸ Z4 xs.toList fun x h => hr.env.ev x
 have := hf S w _ hr.wf hr.own.left hrl
 have e2 : (xs.toList.map a.eval).toArray = #[] ++ xs.map a.eval ++ #[] := by apply Array.ext'; simp
 rw [← e2]
 refine this.mono ?_
 rintro e w' ⟨u, S', r, H', rfl, hΦ, hrel, hown, hst, hkeys⟩
 exact hk _ _ _ _ (hn r H' hΦ) ⟨S', hr.called hown hst hkeys hd hrel⟩
def Qx (G : Qc) (x y : T) : Prop := ∀ (S : Nat → Prop) (w : World) (u : Value), Own S w G → Rel S w x u → Rel (fun b => S b ∨ b ∈ keys G) w y u
def Qg (G : Qc) (xs ys : List T) : Prop := ∀ (S : Nat → Prop) (w : World) (us : List Value), Own S w G → Qr S w xs us → Qr (fun b => S b ∨ b ∈ keys G) w ys us
theorem Qx.le {x y : T} (h : Le x y) : Qx G x y := fun S w u _ hr => (h S w u hr).mono fun _ hb => ⟨.inl hb, rfl⟩
theorem Qg.le {xs ys : List T} (h : LeL xs ys) : Qg G xs ys := fun S w u _ hr => (h S w u hr).mono fun _ hb => ⟨.inl hb, rfl⟩
theorem Qg.nil : Qg G [] [] := Qg.le LeL.nil
theorem Qg.cons {x y : T} {xs ys : List T} (h : Qx G x y) (hs : Qg G xs ys) : Qg G (x :: xs) (y :: ys) := by
 intro S w us ho hr
 cases hr with | cons _ u _ us h1 h2 => exact .cons _ _ _ _ (h S w u ho h1) (hs S w us ho h2)
theorem Qg.append {a b c d : List T} (h : Qg G a b) (h' : Qg G c d) : Qg G (a ++ c) (b ++ d) := by
 intro S w us ho hu
 have h1 := hu.take a.length
 have h2 := hu.drop a.length
 rw [List.take_left] at h1
 rw [List.drop_left] at h2
 have := (h S w _ ho h1).append (h' S w _ ho h2)
 rwa [List.take_append_drop] at this
theorem Qx.agg {xs ys : List T} (h : Qg G xs ys) : Qx G (.agg xs) (.agg ys) := by
 intro S w u ho hr
 cases hr with | agg _ vs hr => exact .agg _ _ (h S w vs ho hr)
theorem Qx.tup {xs ys : List T} (h : Qg G xs ys) : Qx G (.tup xs) (.tup ys) := by
 intro S w u ho hr
 cases hr with | tup _ vs hr => exact .tup _ _ (h S w vs ho hr)
theorem Qx.clo {f : FuncId} {fs gs cs ds : List T} (h : Qg G fs gs) (h' : Qg G cs ds) : Qx G (.clo f fs cs) (.clo f gs ds) := by
 intro S w u ho hr
 cases hr with | clo _ _ _ us vs r1 r2 => exact .clo _ _ _ _ _ (h S w us ho r1) (h' S w vs ho r2)
theorem Qx.ptr {b n : Nat} {e : TypeId} {cs : List T} {x : T} (hb : (b, (⟨e, cs, n⟩ : Blk)) ∈ G) (hx : x.isLeaf = true ∨ ∃ ys, x = .agg ys) (hc : Qg G (cs.take x.cells.length) x.cells) (hl : 0 < x.cells.length) (hl2 : x.cells.length ≤ cs.length) : Qx G (.v (.pointer (some ⟨b, 0, none⟩))) (.adr x) := by
 intro S w u ho hr
 have := hr.v_eq
 subst this
 obtain ⟨us, h1, h2, h3, h4⟩ := ho.has _ hb
 simp only at h1 h2 h3 h4
 have h5 := h4.take x.cells.length
 rw [List.take_take, Nat.min_eq_left hl2] at h5
 have h6 := hc S w _ ho h5
 have h7 := h6.length
 rcases hx with hx | ⟨ys, rfl⟩
 ·have hcx : x.cells = [x] := by
   cases x with
   | v u => cases u <;> simp_all [T.isLeaf, T.cells, Value.cells]
   | _ => simp_all [T.isLeaf, T.cells]
  rw [hcx] at h6
  simp only [List.length_singleton] at h6
  cases hu : us.toList.take 1 with
  | nil => rw [hu] at h6; cases h6
  | cons v r =>
   rw [hu] at h6
   cases h6 with
   | cons _ _ _ _ h8 h9 =>
    cases h9
    exact .adr x b 0 v us e (0, 0) (.inr (List.mem_map.2 ⟨_, hb, rfl⟩)) h1 h8 (by rw [(h8.leaf_cells hx).1]; simpa using hu)
 ·exact .adr _ b 0 (.agg (us.toList.take ys.length).toArray) us e (0, 0) (.inr (List.mem_map.2 ⟨_, hb, rfl⟩)) h1 (.agg _ _ h6) (by simp [Value.cells])
def T.solid (x : T) : Prop := x.isLeaf = true ∨ ∃ ys, x = .agg ys
theorem Z0 {α : Type} (f : α → T) (h : ∀ y, (f y).solid) (l : List α) : ∀ x ∈ l.map f, x.solid := by
 intro x hx; obtain ⟨y, _, rfl⟩ := List.mem_map.1 hx; exact h y
theorem RY {kk : Nat} {S' : Nat → Prop} : ∀ (xs : List T) (us : List Value), Qr S' w (xs.flatMap T.cells) us → (∀ x ∈ xs, x.cells.length = kk) → (∀ x ∈ xs, x.solid) →
  ∃ vs, Qr S' w xs vs ∧ (∀ v ∈ vs, v.cells.size = kk) ∧ us = vs.flatMap fun v => v.cells.toList := by
 intro xs
 induction xs with
 | nil => intro us hu _ _; cases hu; exact ⟨[], .nil, by simp, rfl⟩
 | cons x xs ih =>
  intro us hu hk2 ha2
  rw [List.flatMap_cons] at hu
  have hxk := hk2 x List.mem_cons_self
  have h3 := hu.take kk
  have h4 := hu.drop kk
  rw [List.take_append_of_le_length (by omega), List.take_of_length_le (by omega)] at h3
  rw [List.drop_append_of_le_length (by omega), List.drop_of_length_le (by omega), List.nil_append] at h4
  obtain ⟨vs, hv1, hv2, hv3⟩ := ih _ h4 (fun y hy => hk2 y (List.mem_cons_of_mem _ hy)) (fun y hy => ha2 y (List.mem_cons_of_mem _ hy))
  have hl3 := h3.length
  have hx : ∃ v, Rel S' w x v ∧ v.cells.toList = us.take kk := by
   rcases ha2 x List.mem_cons_self with hleaf | ⟨ys, rfl⟩
   ·have hcx : x.cells = [x] := by
     cases x with
     | v u => cases u <;> simp_all [T.isLeaf, T.cells, Value.cells]
     | _ => simp_all [T.isLeaf, T.cells]
    rw [hcx] at h3
    cases hul : us.take kk with
    | nil => rw [hul] at h3; cases h3
    | cons v rest =>
     rw [hul] at h3
     cases h3 with
     | cons _ _ _ _ h5 h6 => cases h6; exact ⟨v, h5, by rw [(h5.leaf_cells hleaf).1]⟩
   ·exact ⟨.agg (us.take kk).toArray, .agg _ _ h3, by simp [Value.cells]⟩
  obtain ⟨v, hv, hvc⟩ := hx
  refine ⟨v :: vs, .cons _ _ _ _ hv hv1, ?_, ?_⟩
  ·intro u hu2
   rcases List.mem_cons.1 hu2 with rfl | hu2
   ·have : u.cells.toList.length = kk := by rw [hvc, hl3, hxk]
    simpa using this
   ·exact hv2 u hu2
  ·rw [List.flatMap_cons, hvc, ← hv3, List.take_append_drop]
def OSl (e : TypeId) (k : Nat) (xs : List T) (v : Value) (Hs : Qc) : Prop :=
 (xs = [] ∧ (∃ p, v = .slice p 0 0) ∧ Hs = []) ∨ ∃ b c, v = .slice (some ⟨b, 0, none⟩) xs.length c ∧ xs.length ≤ c ∧ Hs = [(b, ⟨e, xs.flatMap T.cells, c * k⟩)]
theorem Y7 {e : TypeId} {k : Nat} : OSl e k [] (.slice none 0 0) [] := .inl ⟨rfl, ⟨_, rfl⟩, rfl⟩
theorem UF {e : TypeId} {k : Nat} {p : Option Addr} : OSl e k [] (.slice p 0 0) [] := .inl ⟨rfl, ⟨_, rfl⟩, rfl⟩
theorem OSl.len {e : TypeId} {k : Nat} {xs : List T} {v : Value} (h : OSl e k xs v Hs) : ∃ p c, v = .slice p xs.length c := by
 rcases h with ⟨rfl, ⟨p, rfl⟩, _⟩ | ⟨b, c, rfl, _⟩
 ·exact ⟨_, _, rfl⟩
 ·exact ⟨_, _, rfl⟩
theorem OSl.lends {e : TypeId} {k : Nat} {xs ys : List T} {v : Value} (h : OSl e k xs v Hs) (hG : ∀ p ∈ Hs, p ∈ G) (hl : Qg G (xs.flatMap T.cells) (ys.flatMap T.cells)) (hn : xs.length = ys.length) (hkx : ∀ x ∈ xs, x.cells.length = k) (hk : ∀ y ∈ ys, y.cells.length = k) (hs : ∀ y ∈ ys, y.solid) : Qx G (.v v) (.sl false ys) := by
 intro S w u ho hr
 have := hr.v_eq
 subst this
 rcases h with ⟨rfl, ⟨p, rfl⟩, _⟩ | ⟨b, c, rfl, hc, rfl⟩
 ·have : ys = [] := by cases ys <;> simp_all
  subst this
  exact .nil _ _ _ (by simp)
 ·have hb : (b, (⟨e, xs.flatMap T.cells, c * k⟩ : Blk)) ∈ G := hG _ List.mem_cons_self
  obtain ⟨cs, h1, h2, h3, h4⟩ := ho.has _ hb
  simp only at h1 h2 h3 h4
  have h5 := hl S w _ ho h4
  obtain ⟨vs, hv1, hv2, hv3⟩ := RY ys _ h5 hk hs
  have hvl := hv1.length
  have hfl : (xs.flatMap T.cells).length = xs.length * k := Ym xs hkx
  have hrel := Rel.sl (S := fun b => S b ∨ b ∈ keys G) (w := w) false ys b 0 c vs k cs e (0, 0) (.inr (List.mem_map.2 ⟨_, hb, rfl⟩)) h1 hv1 ⟨hv2, by rw [List.drop_zero, ← hv3, hfl, hvl, hn]⟩ (by simp) (by omega)
  rw [hvl, ← hn] at hrel
  exact hrel
theorem OSl.lend {e : TypeId} {k : Nat} {xs : List T} {v : Value} (h : OSl e k xs v Hs) (hG : ∀ p ∈ Hs, p ∈ G) (hk : ∀ y ∈ xs, y.cells.length = k) (hs : ∀ y ∈ xs, y.solid) : Qx G (.v v) (.sl false xs) :=
 h.lends hG (Qg.le (LeL.refl _)) rfl hk hk hs
def Za (G : Qc) (t : Env) : Env → Prop
 | [] => True
 | (k, d) :: r => Qx G (t.get k) d ∧ Za G t r
theorem Za.get : ∀ {rs : Env}, Za G t rs → ∀ k, Qx G (t.get k) (Env.get (rs ++ t) k)
 | [], _, k => Qx.le (Le.refl _)
 | (j, d) :: r, h, k => by
  by_cases hk : j = k
  ·subst hk
   have : Env.get (((j, d) :: r) ++ t) j = d := by simp [Env.get]
   rw [this]; exact h.1
  ·have : Env.get (((j, d) :: r) ++ t) k = Env.get (r ++ t) k := by simp [Env.get, ZQ hk]
   rw [this]; exact Za.get h.2 k
theorem CC {rs : Env} (hp : H.Perm (G ++ H1)) (hl : Za G t rs) {a : Act} (hR : R K t H a w) : R K (rs ++ t) H1 a w := by
 obtain ⟨S, hr⟩ := hR.perm hp
 have hst : QN (keys G) S w (fun b => S b ∨ b ∈ keys G) w := ⟨rfl, rfl, rfl, Nat.le_refl _, fun _ _ _ => rfl, fun _ h => .inl h, fun c hc => hc.elim .inl fun e => .inr (.inr e),
  fun c hc => hc.elim (hr.wf c) fun e => hr.own.left.lt c e⟩
 refine ⟨fun b => S b ∨ b ∈ keys G, hr.size, ⟨hr.defers.low, hr.defers.marks, fun j hj => hr.defers.flags j fun u hu => hj u (Za.get hl _ S w u hr.own.left hu)⟩, hr.step.trans hst (fun b hb => hr.mine b (by rw [Qk]; exact List.mem_append_left _ hb)), ⟨hr.own.right.nodup, fun b hb hS => ?_, fun p hp' => (hr.own.right.has p hp').mono rfl fun b hb => ⟨.inl hb, rfl⟩⟩,
  fun b hb => hr.mine b (by rw [Qk]; exact List.mem_append_right _ hb), fun k => Za.get hl k S w _ hr.own.left (hr.env k)⟩
 rcases hS with h | h
 ·exact hr.own.right.apart b hb h
 ·exact hr.own.disj b h hb
theorem Z2 {c : Code} {G H1 : Qc} (rs : Env) (hp : H.Perm (G ++ H1)) (hl : Za G t rs) (h : Sim K c (rs ++ t) H1 Ψ) : Sim K c t H Ψ := fun a w hr => h a w (CC hp hl hr)
theorem OY {ops : Array Oper} {i : Nat} {l : List Oper} {G H1 : Qc} (rs : Env) (hp : H.Perm (G ++ H1)) (hl : Za G t rs) (h : Qf K ops i l (rs ++ t) H1 N) : Qf K ops i l t H N := fun hl' a w Q hr hq => h hl' a w Q (CC hp hl hr) hq
theorem Le.slice0 (p : Option Addr) (f : Bool) : Le (.v (.slice p 0 0)) (.sl f []) := by
 intro S w u hu
 cases hu; exact .nil f p 0 (fun _ => rfl)
def T.isV : T → Bool
 | .v _ => true
 | _ => false
def T.plain : T → Bool
 | .v _ => true
 | .tup xs => xs.all T.isV
 | _ => false
theorem J9 {S S' : Nat → Prop} {w w' : World} : ∀ {xs : List T} {us : List Value}, xs.all T.isV = true → Qr S w xs us → Qr S' w' xs us
 | [], _, _, .nil => .nil
 | x :: xs, _, h, .cons _ _ _ _ h1 h2 => by
  simp only [List.all_cons, Bool.and_eq_true] at h
  refine .cons _ _ _ _ ?_ (J9 h.2 h2)
  cases x with
  | v y => have := h1.v_eq; subst this; exact .v _
  | _ => exact absurd h.1 (by simp [T.isV])
theorem Has.plain {S S' : Nat → Prop} {w : World} {b : Nat} {k : Blk} (h : Has S w b k) (hv : k.vals.all T.isV = true) : Has S' w b k := by
 rcases h.cases with ⟨ty, hT, cs, a1, a2, a3, a4⟩ | ⟨y, rfl, h1⟩
 ·obtain ⟨_, xs, n⟩ := k
  cases hT
  exact ⟨cs, a1, a2, a3, J9 hv a4⟩
 ·cases y with
  | ty => exact h1.elim
  | it => exact WL.has (y := .it ..) h1
  | map es clock =>
  obtain ⟨ms, h1, h2⟩ := h1
  refine ⟨⟨ms, h1, ?_⟩, rfl, rfl⟩
  replace hv : (es.map (·.2.1)).all T.isV = true := hv
  clear h1 h
  generalize ms.toList = l at h2
  induction h2 with
  | nil => exact .nil
  | cons k x n v es ms hx _ ih =>
   simp only [List.map_cons, List.all_cons, Bool.and_eq_true] at hv
   refine .cons k x n v es ms ?_ (ih hv.2)
   cases x with
   | v u => have := hx.v_eq; subst this; exact .v _
   | _ => simp [T.isV] at hv
theorem La {S S' : Nat → Prop} {w w' : World} {d : T} {u : Value} (h : d.plain = true) (hr : Rel S w d u) : Rel S' w' d u := by
 cases d with
 | v y => have := hr.v_eq; subst this; exact .v _
 | tup xs => cases hr with | tup _ vs h1 => exact .tup xs vs (J9 h h1)
 | _ => simp [T.plain] at h
theorem YQ {f : FuncId} {xs : Array Operand} {ats : Array TypeId} {args args' : List T} {d : T} (hpl : d.plain = true) (hf : FnP P f args' (fun r => r = d)) (hp : ∃ H1, H.Perm (G ++ H1)) (hc : QE P f = true) (ha' : EvL t xs.toList args) (hl : Qg G args args') :
  POp P t H ⟨dst, .call ⟨.value (.func f), xs, ats⟩, tp, pos, aft, g⟩ d := by
 have ha := ha'.eq
 obtain ⟨H1, hp⟩ := hp
 intro S w a hw ho hx Kc Q hk
 have ho := (ho.perm hp).left
 unfold Oper.wp
 have e : execOp a.eval ⟨dst, .call ⟨.value (.func f), xs, ats⟩, tp, pos, aft, g⟩ = callFunc f (#[] ++ xs.map a.eval ++ #[]) := rfl
 rw [e, Zo hc]
 simp only [Oper.upon]
 have hr : Qr S w args (xs.toList.map a.eval) := ha ▸ Z4 xs.toList fun x h => hx x (by simp [Op.operands, Call.operands]; exact .inr (by simpa using h))
 have hw' : Wf (fun b => S b ∨ b ∈ keys G) w := fun b hb => hb.elim (hw b) (ho.lt b)
 have := hf _ w _ hw' (Own.nil _ w) (hl S w _ ho hr)
 have e2 : (xs.toList.map a.eval).toArray = #[] ++ xs.map a.eval ++ #[] := by apply Array.ext'; simp
 rw [← e2]
 refine this.mono ?_
 rintro e w' ⟨u, S', r, H', rfl, ⟨rfl, rfl⟩, hrel, _, hst, _⟩
 exact hk S w' u ⟨hst.os, hst.tape, hst.output, hst.size, hst.keep, fun _ h => h, fun _ h => .inl h, fun b hb => Nat.lt_of_lt_of_le (hw b hb) hst.size⟩ (La hpl hrel)
theorem YR {x y : Operand} {e : TypeId} {k : Nat} {xs ys : List T} {v : Value} {A B : Qc} {f : Bool} {dy d : T} {by_ : Nat} [hz : QL K.P ty d by_] (ho : OSl e k xs v Hs) (hH : H = A ++ (Hs ++ B)) (hx : t.ev x = .v v) (hy : t.ev y = dy) (hyl : Le dy (.sl f ys)) (h0 : 0 < ys.length)
  (hkd : d.cells.length = k) (hk0 : Xk K.P ty = e) (hs : QR K.P ty' = true) (hkx : ∀ x ∈ xs, x.cells.length = k) (hky : ∀ x ∈ ys, x.cells.length = k) (hyleaf : ∀ x ∈ ys, QG x.cells = true) (hb : (xs.length + ys.length) * by_ ≤ 140737488355328) (hm : xs.length + ys.length ≤ 9223372036854775807)
  {kd : Tmp} (hd : Nat.blt kd K.n = true) (h : ∀ v' Hs', OSl e k (xs ++ ys) v' Hs' → N ((kd, .v v') :: t) (A ++ (Hs' ++ B))) : EOp K t H ⟨some kd, .call ⟨.builtin .append, #[x, y], #[ty, ty']⟩, tp, pos, aft, g⟩ N := by
 subst hkd
 rcases ho with ⟨rfl, ⟨p, rfl⟩, rfl⟩ | ⟨b, c, rfl, hc, rfl⟩
 ·refine I6 (Ww (xs := []) (ys := ys) hx (Le.slice0 p true) hy hyl hs (by simp) hky h0 (by simpa using hb) (by simpa using hm) hd fun b c hb' hc' => ?_)
  refine ⟨A ++ ([(b, ⟨e, ys.flatMap T.cells, c * d.cells.length⟩)] ++ B), ?_, ?_⟩
  ·subst hH
   rw [← hk0]
   simp only [List.nil_append, List.flatMap_nil]
   exact List.perm_middle.symm
  ·have := h (.slice (some ⟨b, 0, none⟩) ys.length c) [(b, ⟨e, ys.flatMap T.cells, c * d.cells.length⟩)] (.inr ⟨b, c, by simp, by simpa using hc', by simp⟩)
   simpa using this
 ·have hi : H[A.length]? = some (b, (⟨e, xs.flatMap T.cells, c * d.cells.length⟩ : Blk)) := by subst hH; simp
  refine Wu A.length hx hi hy hyl hs (congrArg BTy.ty hk0.symm) (Ym xs hkx) rfl hky hyleaf hb hm hd fun b' c' h1 h2 => ?_
  have e1 : H.set A.length (b', ⟨e, xs.flatMap T.cells ++ ys.flatMap T.cells, c' * d.cells.length⟩) = A ++ ([(b', ⟨e, (xs ++ ys).flatMap T.cells, c' * d.cells.length⟩)] ++ B) := by
   subst hH
   rw [List.set_append_right _ _ (Nat.le_refl _)]
   simp
  rw [e1]
  have := h (.slice (some ⟨b', 0, none⟩) (xs.length + ys.length) c') _ (.inr ⟨b', c', by simp, by simpa using h2, rfl⟩)
  exact this
variable {ops : Array Oper} {i : Nat} {l : List Oper} {kd : Tmp} {eff : List Nat} {pend : List Xg} {al : List (Nat × Oper)}
theorem BG {x y : Operand} {e : TypeId} {k : Nat} {xs ys : List T} {v : Value} {A B : Qc} {f : Bool} {dy d : T} {by_ : Nat} [hz : QL K.P ty d by_] (ho : OSl e k xs v Hs) (hkx : ∀ x ∈ xs, x.cells.length = k)
  (h : ∀ v' Hs', OSl e k (xs ++ ys) v' Hs' → Qf K ops (i + 1) l ((kd, .v v') :: t) (A ++ (Hs' ++ B)) N) (hH : H = A ++ (Hs ++ B) := by rfl) (hx : t.ev x = .v v := by exact zl) (hy : t.ev y = dy := by exact zl) (hyl : Le dy (.sl f ys) := by exact zL) (h0 : 0 < ys.length := by exact zo)
  (hkd : d.cells.length = k := by rfl) (hk0 : Xk K.P ty = e := by rfl) (hs : QR K.P ty' = true := by rfl) (hky : ∀ x ∈ ys, x.cells.length = k := by exact zk) (hyleaf : ∀ x ∈ ys, QG x.cells = true := by exact zf)
  (hb : (xs.length + ys.length) * by_ ≤ 140737488355328 := by exact zo) (hm : xs.length + ys.length ≤ 9223372036854775807 := by exact zo) (hd : Nat.blt kd K.n = true := by rfl) :
  Qf K ops i (⟨some kd, .call ⟨.builtin .append, #[x, y], #[ty, ty']⟩, tp, pos, aft, none⟩ :: l) t H N := YG (YR ho hH hx hy hyl h0 hkd hk0 hs hkx hky hyleaf hb hm hd h)
theorem A3 {x y : Operand} {e : TypeId} {k : Nat} {xs ys : List T} {v : Value} {A B : Qc} {f : Bool} {dy d : T} {by_ : Nat} [hz : QL K.P ty d by_] (ho : OSl e k xs v Hs) (hkx : ∀ x ∈ xs, x.cells.length = k)
  (h : ∀ v' Hs', OSl e k (xs ++ ys) v' Hs' → XO ops ⟨some kd, .call ⟨.builtin .append, #[x, y], #[ty, ty']⟩, tp, pos, aft, none⟩ (A ++ (Hs' ++ B)) pend ∧ ∃ pend', XI ops ⟨some kd, .call ⟨.builtin .append, #[x, y], #[ty, ty']⟩, tp, pos, aft, none⟩ pend pend' ∧ Qj K ops eff N al ((kd, .v v') :: t) (A ++ (Hs' ++ B)) pend') (hH : H = A ++ (Hs ++ B) := by rfl) (hx : t.ev x = .v v := by exact zl) (hy : t.ev y = dy := by exact zl) (hyl : Le dy (.sl f ys) := by exact zL) (h0 : 0 < ys.length := by exact zo)
  (hkd : d.cells.length = k := by rfl) (hk0 : Xk K.P ty = e := by rfl) (hs : QR K.P ty' = true := by rfl) (hky : ∀ x ∈ ys, x.cells.length = k := by exact zk) (hyleaf : ∀ x ∈ ys, QG x.cells = true := by exact zf)
  (hb : (xs.length + ys.length) * by_ ≤ 140737488355328 := by exact zo) (hm : xs.length + ys.length ≤ 9223372036854775807 := by exact zo) (hd : Nat.blt kd K.n = true := by rfl) (he : QS eff i = true := by rfl) :
  Qj K ops eff N ((i, ⟨some kd, .call ⟨.builtin .append, #[x, y], #[ty, ty']⟩, tp, pos, aft, none⟩) :: al) t H pend :=
 WJ (fun _ h1 => YR ho hH ((h1 x (by simp [Op.operands, Call.operands])).trans hx) ((h1 y (by simp [Op.operands, Call.operands])).trans hy) hyl h0 hkd hk0 hs hkx hky hyleaf hb hm hd fun v' Hs' ho' => let ⟨h1, p', h2, h3⟩ := h v' Hs' ho'; ⟨_, p', rfl, h1, h2, h3⟩) he
theorem kR : ∀ {H : Qc}, Qh H H
 | [] => .nil []
 | (b, k) :: r => .keep b k k r r (Yp.refl k) kR
theorem kH {r r' : Qc} (hs : Qh r r') : ∀ {A : Qc}, Qh (A ++ r) (A ++ r')
 | [] => hs
 | (b, k) :: A => .keep b k k _ _ (Yp.refl k) (kH hs)
theorem Az {f : FuncId} {xs : Array Operand} {ats : Array TypeId} {args args' : List T} {d : T} (hf : FnP P f args' (fun r => r = d)) (hl : Qg G args args') (hp : ∃ H1, H.Perm (G ++ H1)) (hc : QE P f = true := by rfl) (ha' : EvL t xs.toList args := by exact ze) (hpl : d.plain = true := by rfl) :
  POp P t H ⟨dst, .call ⟨.value (.func f), xs, ats⟩, tp, pos, aft, g⟩ d := YQ hpl hf hp hc ha' hl
theorem A4 {f : FuncId} {xs : Array Operand} {ats : Array TypeId} {args args' : List T} {d : T} (hf : FnP K.P f args' (fun r => r = d)) (hl : Qg G args args') (hp : ∃ H1, H.Perm (G ++ H1))
  (h : Qj K ops eff N al ((kd, d) :: t) H (⟨i, ⟨some kd, .call ⟨.value (.func f), xs, ats⟩, tp, pos, aft, none⟩, d, fun H => ∃ H1, H.Perm (G ++ H1)⟩ :: pend)) (hc : QE K.P f = true := by rfl) (ha' : EvL t xs.toList args := by exact ze) (hpl : d.plain = true := by rfl) (he : QS eff i = false := by rfl) :
  Qj K ops eff N ((i, ⟨some kd, .call ⟨.value (.func f), xs, ats⟩, tp, pos, aft, none⟩) :: al) t H pend := a_F (F := fun H => ∃ H1, H.Perm (G ++ H1)) (fun _ hp' => YQ hpl hf hp' hc ha' hl) hp h he
end
section
variable {K : Ctx} {P : Program} {t : Env} {H Hr Hs : Qc} {dst : Option Tmp} {tp : TypeId} {pos : String} {aft : Array Edge} {g : Option (Nat × Bool)} {N : Env → Qc → Prop}
variable {S : Nat → Prop} {w : World} {ty ty' : TypeId} {x y : Operand} {d : T} {k k' : IntKind} {a b : Int}
theorem EvL.rel {xs : List Operand} {ds : List T} (h : EvL t xs ds) {a : Act} (hr : ∀ x ∈ xs, Rel S w (t.ev x) (a.eval x)) : Qr S w ds (xs.map a.eval) := h.eq ▸ Z4 xs hr
theorem L5 {f : FuncId} {fs cs : Array Operand} {ds es : List T} (h1 : EvL t fs.toList ds) (h2 : EvL t cs.toList es) : POp P t H ⟨dst, .makeFunc (.func f) fs cs, tp, pos, aft, g⟩ (.clo f ds es) :=
 POp.still fun S w a _ _ hr => by
  have r1 := h1.rel (a := a) fun x hx => hr x (by simp [Op.operands]; exact .inl (by simpa using hx))
  have r2 := h2.rel (a := a) fun x hx => hr x (by simp [Op.operands]; exact .inr (by simpa using hx))
  refine ⟨_, by simp [execOp, Instr.makeFunc]; rfl, ?_⟩
  have := Rel.clo f ds es _ _ r1 r2
  have e1 : (fs.toList.map a.eval).toArray = fs.map a.eval := by apply Array.ext'; simp
  have e2 : (cs.toList.map a.eval).toArray = cs.map a.eval := by apply Array.ext'; simp
  rw [e1, e2] at this
  exact this
theorem CR {f : FuncId} (h : QE P f = true) {c : Call} {a : Act} {us vs : List Value} {x : Operand} (hc : c.callee = .value x) (hx : a.eval x = .func (.func f) us.toArray vs.toArray) (w : World) :
  (execOp a.eval ⟨dst, .call c, tp, pos, aft, g⟩).run P w = .ok (.enter f (us ++ c.args.toList.map a.eval ++ vs).toArray) w := by
 have : (execOp a.eval ⟨dst, .call c, tp, pos, aft, g⟩).run P w = (callFunc f (us.toArray ++ c.args.map a.eval ++ vs.toArray)).run P w := by
  simp [execOp, resolve, hc, hx, Deferred.ofValue, invoke]
 rw [this, Zo h]
 congr 2
 apply Array.ext'
 simp
theorem O8 {f : FuncId} {xs : Array Operand} {ats : Array TypeId} {fs cs args : List T} {Φ : T → Qc → Prop} (hx : t.ev x = .clo f fs cs) (hf : FnH K.P f (fs ++ args ++ cs) Hs Φ) (hp : H.Perm (Hs ++ Hr)) (hc : QE K.P f = true) (ha : EvL t xs.toList args)
  (hd : Xo dst K.n = true) (hn : ∀ r H', Φ r H' → N (t.put dst r) (H' ++ Hr)) : EOp K t H ⟨dst, .call ⟨.value x, xs, ats⟩, tp, pos, aft, g⟩ N := by
 refine EOp.of_w (fun c e => by cases e) ?_
 intro a w hR Kc Q hk
 obtain ⟨S, hr⟩ := hR.perm hp
 have h1 := hr.env.ev x; rw [hx] at h1
 generalize hu : a.eval x = u at h1
 cases h1 with
 | clo _ _ _ us vs r1 r2 =>
  unfold Oper.wp
  rw [CR hc rfl hu]
  simp only [Oper.upon]
  have r3 := ha.rel (a := a) fun x _ => hr.env.ev x
  refine (hf S w _ hr.wf hr.own.left ((r1.append r3).append r2)).mono ?_
  rintro e w' ⟨u, S', r, H', rfl, hΦ, hrel, hown, hst, hkeys⟩
  exact hk _ _ _ _ (hn r H' hΦ) ⟨S', hr.called hown hst hkeys hd hrel⟩
def T.there : T → Bool
 | .adr _ | .v (.pointer (some _)) | .clo .. => true
 | _ => false
theorem L4 (hx : t.ev x = d) (hd : d.there = true) : POp P t H ⟨dst, .nilCheck x, tp, pos, aft, g⟩ d :=
 POp.still fun S w a _ _ hr => by
  have h1 := hr x (by simp [Op.operands]); rw [hx] at h1
  refine ⟨a.eval x, ?_, h1⟩
  generalize hu : a.eval x = u at h1
  cases h1 with
  | adr => simp [execOp, hu]
  | clo => simp [execOp, hu]
  | v u =>
   cases u with
   | pointer p => cases p <;> simp_all [T.there, execOp]
   | _ => simp [T.there] at hd
  | _ => simp [T.there] at hd
theorem If (hx : t.ev x = .v (.int k a)) (h1 : (P.underlying ty).isSome = true) (h2 : P.underlying ty' = some (.int k')) : POp P t H ⟨dst, .convert ty ty' x, tp, pos, aft, g⟩ (.v (.int k' (k'.wrap a))) :=
 POp.still fun S w c _ _ hr => by
  have hv := hr x (by simp [Op.operands]); rw [hx] at hv
  obtain ⟨u, hu⟩ := Option.isSome_iff_exists.1 h1
  refine ⟨.int k' (k'.wrap a), ?_, .v _⟩
  have : (convert ty ty' (.int k a)).run P w = .ok (.int k' (k'.wrap a)) w := by
   unfold convert
   simp [run_underlying hu, run_underlying h2, Conv.intToInt]
  simp [execOp, hv.v_eq, this]
variable {ops : Array Oper} {i n : Nat} {l : List Oper} {kd : Tmp} {Ψ : Exit → Env → Qc → Prop} {eff : List Nat} {pend : List Xg} {al : List (Nat × Oper)}
theorem UE {f : FuncId} {fs cs : Array Operand} {ds es : List T} (h1 : EvL t fs.toList ds := by exact ze) (h2 : EvL t cs.toList es := by exact ze) : POp P t H ⟨dst, .makeFunc (.func f) fs cs, tp, pos, aft, g⟩ (.clo f ds es) := L5 h1 h2
theorem Qe (hx : t.ev x = d := by exact zl) (hd : d.there = true := by rfl) : POp P t H ⟨dst, .nilCheck x, tp, pos, aft, g⟩ d := L4 hx hd
theorem Yv (hx : t.ev x = .v (.int k a) := by exact zl) (h1 : (P.underlying ty).isSome = true := by rfl) (h2 : P.underlying ty' = some (.int k') := by rfl) : POp P t H ⟨dst, .convert ty ty' x, tp, pos, aft, g⟩ (.v (.int k' (k'.wrap a))) := If hx h1 h2
theorem VY (hx : t.ev x = .v (.int k a) := by exact zl) (hy : t.ev y = .v (.int k b) := by exact zl) : POp P t H ⟨dst, .binOp .add ty x y ty', tp, pos, aft, g⟩ (.v (.int k (k.wrap (a + b)))) := Gj hx hy
theorem Tf (hx : t.ev x = .v (.int k a) := by exact zl) (hy : t.ev y = .v (.int k b) := by exact zl) : POp P t H ⟨dst, .binOp .mul ty x y ty', tp, pos, aft, g⟩ (.v (.int k (k.wrap (a * b)))) := Gi hx hy
def WG (k : IntKind) (a b : Int) : Int := k.wrap (BitVec.ofInt k.bits a &&& BitVec.ofInt k.bits b).toNat
def bOr (k : IntKind) (a b : Int) : Int := k.wrap (BitVec.ofInt k.bits a ||| BitVec.ofInt k.bits b).toNat
def DV (k : IntKind) (a b : Int) : Int := k.wrap (BitVec.ofInt k.bits a ^^^ BitVec.ofInt k.bits b).toNat
def Zy (k : IntKind) (a b : Int) : Int := k.wrap (a * 2 ^ (min b.toNat k.bits))
def WF (k : IntKind) (a b : Int) : Int := a.fdiv (2 ^ (min b.toNat k.bits))
theorem J3 (hx : t.ev x = .v (.int k a) := by exact zl) (hy : t.ev y = .v (.int k b) := by exact zl) : POp P t H ⟨dst, .binOp .and ty x y ty', tp, pos, aft, g⟩ (.v (.int k (WG k a b))) := C9 hx hy
theorem Vg (hx : t.ev x = .v (.int k a) := by exact zl) (hy : t.ev y = .v (.int k b) := by exact zl) : POp P t H ⟨dst, .binOp .or ty x y ty', tp, pos, aft, g⟩ (.v (.int k (bOr k a b))) := As hx hy
theorem B2 (hx : t.ev x = .v (.int k a) := by exact zl) (hy : t.ev y = .v (.int k b) := by exact zl) : POp P t H ⟨dst, .binOp .xor ty x y ty', tp, pos, aft, g⟩ (.v (.int k (DV k a b))) := CU hx hy
theorem UD (hx : t.ev x = .v (.int k a) := by exact zl) (hy : t.ev y = .v (.int k' b) := by exact zl) (h : 0 ≤ b := by exact zo) : POp P t H ⟨dst, .binOp .shl ty x y ty', tp, pos, aft, g⟩ (.v (.int k (Zy k a b))) := CX hx hy h
theorem ZM (hx : t.ev x = .v (.int k a) := by exact zl) (hy : t.ev y = .v (.int k' b) := by exact zl) (h : 0 ≤ b := by exact zo) : POp P t H ⟨dst, .binOp .shr ty x y ty', tp, pos, aft, g⟩ (.v (.int k (WF k a b))) := CW hx hy h
theorem YX {b o n k : Nat} {i : Int} {kd : IntKind} [hs : BW P ty n k] (hx : t.ev x = .v (.pointer (some ⟨b, o, none⟩)) := by exact zl) (hy : t.ev y = .v (.int kd i) := by exact zl) (h0 : 0 ≤ i := by exact zo) (h1 : i < n := by exact zo) :
  POp P t H ⟨dst, .indexAddr ty x y, tp, pos, aft, g⟩ (.v (.pointer (some ⟨b, o + i.toNat * k, none⟩))) := Uy hx hy h0 h1
theorem Q2 {f : FuncId} {xs : Array Operand} {ats : Array TypeId} {args : List T} {Φ : T → Qc → Prop} (hf : FnH K.P f args Hs Φ) (hp : H.Perm (Hs ++ Hr)) (hn : ∀ r H', Φ r H' → Qf K ops (i + 1) l (t.put dst r) (H' ++ Hr) N) (hc : QE K.P f = true := by rfl) (ha' : EvL t xs.toList args := by exact ze)
  (hd : Xo dst K.n = true := by rfl) : Qf K ops i (⟨dst, .call ⟨.value (.func f), xs, ats⟩, tp, pos, aft, none⟩ :: l) t H N := UK rfl (YH hf hp hc ha' hd hn)
theorem Ug {f : FuncId} {xs : Array Operand} {ats : Array TypeId} {fs cs args : List T} {Φ : T → Qc → Prop} (hf : FnH K.P f (fs ++ args ++ cs) Hs Φ) (hp : H.Perm (Hs ++ Hr)) (hn : ∀ r H', Φ r H' → Qf K ops (i + 1) l (t.put dst r) (H' ++ Hr) N) (hx : t.ev x = .clo f fs cs := by exact zl) (hc : QE K.P f = true := by rfl) (ha : EvL t xs.toList args := by exact ze)
  (hd : Xo dst K.n = true := by rfl) : Qf K ops i (⟨dst, .call ⟨.value x, xs, ats⟩, tp, pos, aft, none⟩ :: l) t H N := UK rfl (O8 hx hf hp hc ha hd hn)
end
end Go.Cap
