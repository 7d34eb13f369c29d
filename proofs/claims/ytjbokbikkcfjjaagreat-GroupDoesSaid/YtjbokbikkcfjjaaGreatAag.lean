/-
  The rules in short: what can be looked up is looked up.
-/
import Derived.Test.YtjbokbikkcfjjaaGreatAaf
set_option maxRecDepth 16000
set_option maxHeartbeats 8000000
set_option linter.all false
namespace Go.Cap
theorem Gw {α : Type} [Inhabited α] {f : α → T} {l : List α} {i : Int} (h : i.toNat < l.length) : (l.map f)[i.toNat]? = some (f (l.getD i.toNat default)) := by simp [h]
section
variable {K : Ctx} {P : Program} {t : Env} {H H' : Qc} {dst : Option Tmp} {tp : TypeId} {pos : String} {aft : Array Edge} {g : Option (Nat × Bool)} {N : Env → Qc → Prop} {Ψ : Exit → Env → Qc → Prop}
variable {ty ty' : TypeId} {x y c : Operand} {d e dx dy : T} {k k' : IntKind} {a b : Int} {op : Op} {ops : Array Oper} {i j n kg : Nat} {l : List Oper} {kd : Tmp} {p q r : Prop} {ip : Decidable p} {iq : Decidable q} {ir : Decidable r}
theorem u_ (hp : p) (h : t.ev x = T.gp p ip d := by exact zl) : t.ev x = d := Af h hp
theorem cn (h : N t H) : Qe K ops i [] t H N := RL h
theorem cq {x y : Code} (h : Sim K x t H (Wp K y Ψ)) : Sim K (.seq x y) t H Ψ := Iz h
theorem ck (h : Ψ .normal t H) : Sim K .skip t H Ψ := OD h
theorem cl {l : Nat} (h : Ψ .normal t H) : Sim K (.label l) t H Ψ := E0 h
theorem cx {id : Nat} (h : Ψ (.exit id) t H) : Sim K (.exit id) t H Ψ := OH h
theorem cb {id : Nat} {c : Code} (h : Sim K c t H (LR id Ψ)) : Sim K (.block id c) t H Ψ := E1 h
theorem cr {id : Nat} (h : Qe K ops 0 ops.toList t H (Ψ .normal)) : Sim K (.region id ops false) t H Ψ := Dc h
theorem ci {x y : Code} (ht : p → Sim K x t H Ψ) (hf : ¬ p → Sim K y t H Ψ) (hc : t.ev c = .v (.bool (decide p)) := by exact zl) : Sim K (.cond c x y) t H Ψ := OI hc ht hf
theorem s_ (hp : POp K.P t H ⟨some kd, op, tp, pos, aft, none⟩ d) (h : Qe K ops (i + 1) l ((kd, d) :: t) H N) (hd : Nat.blt kd K.n = true := by rfl) :
  Qe K ops i (⟨some kd, op, tp, pos, aft, none⟩ :: l) t H N := Bq hp hd h
theorem gT (hp : p → POp K.P t H ⟨some kd, op, tp, pos, aft, some (j, true)⟩ d) (h : Qe K ops (i + 1) l ((kd, T.gp p inferInstance d) :: t) H N) (hj : (ops[j]?).bind (·.dst) = some kg := by rfl)
  (hb : t.get kg = .v (.bool (decide p)) := by exact zG) (hd : Nat.blt kd K.n = true := by rfl) : Qe K ops i (⟨some kd, op, tp, pos, aft, some (j, true)⟩ :: l) t H N := Cf hj hb hp hd h
theorem gF (hp : ¬ p → POp K.P t H ⟨some kd, op, tp, pos, aft, some (j, false)⟩ d) (h : Qe K ops (i + 1) l ((kd, T.gp (¬ p) inferInstance d) :: t) H N) (hj : (ops[j]?).bind (·.dst) = some kg := by rfl)
  (hb : t.get kg = .v (.bool (decide p)) := by exact zG) (hd : Nat.blt kd K.n = true := by rfl) : Qe K ops i (⟨some kd, op, tp, pos, aft, some (j, false)⟩ :: l) t H N := Cg hj hb hp hd h
theorem hT (hp : p ∧ q → POp K.P t H ⟨some kd, op, tp, pos, aft, some (j, true)⟩ d) (h : Qe K ops (i + 1) l ((kd, T.gp (p ∧ q) inferInstance d) :: t) H N) (hj : (ops[j]?).bind (·.dst) = some kg := by rfl)
  (hb : t.get kg = T.gp p ip (.v (.bool (decide q))) := by exact zG) (hd : Nat.blt kd K.n = true := by rfl) : Qe K ops i (⟨some kd, op, tp, pos, aft, some (j, true)⟩ :: l) t H N := Cd hj hb hp hd h
theorem hF (hp : p ∧ ¬ q → POp K.P t H ⟨some kd, op, tp, pos, aft, some (j, false)⟩ d) (h : Qe K ops (i + 1) l ((kd, T.gp (p ∧ ¬ q) inferInstance d) :: t) H N) (hj : (ops[j]?).bind (·.dst) = some kg := by rfl)
  (hb : t.get kg = T.gp p ip (.v (.bool (decide q))) := by exact zG) (hd : Nat.blt kd K.n = true := by rfl) : Qe K ops i (⟨some kd, op, tp, pos, aft, some (j, false)⟩ :: l) t H N := Ce hj hb hp hd h
theorem Qa (hx : t.ev x = d := by exact zl) : POp P t H ⟨dst, .move x, tp, pos, aft, g⟩ d := OY hx
theorem Qb (hx : t.ev x = d := by exact zl) : POp P t H ⟨dst, .assign x, tp, pos, aft, g⟩ d := Dj hx
theorem YD {ir : Decidable (¬ p)} (hc : t.ev c = .v (.bool (decide p)) := by exact zl) (hx : t.ev x = .v (.bool true) := by exact zl) (hy : t.ev y = T.gp (¬ p) ir (.v (.bool (decide q))) := by exact zl) :
  POp P t H ⟨dst, .pick c x y, tp, pos, aft, g⟩ (.v (.bool (decide (p ∨ q)))) := Md hc hx hy
theorem XW (hc : t.ev c = .v (.bool (decide p)) := by exact zl) (hx : t.ev x = T.gp p ip (.v (.bool (decide q))) := by exact zl) (hy : t.ev y = .v (.bool false) := by exact zl) :
  POp P t H ⟨dst, .pick c x y, tp, pos, aft, g⟩ (.v (.bool (decide (p ∧ q)))) := Lj hc hx hy
theorem CJ {ir : Decidable (r ∧ ¬ p)} {i2 : Decidable r} (hr : r) (hc : t.ev c = T.gp r i2 (.v (.bool (decide p))) := by exact zl) (hx : t.ev x = .v (.bool true) := by exact zl) (hy : t.ev y = T.gp (r ∧ ¬ p) ir (.v (.bool (decide q))) := by exact zl) :
  POp P t H ⟨dst, .pick c x y, tp, pos, aft, g⟩ (.v (.bool (decide (p ∨ q)))) := Li hc hx hy hr
theorem CQ {ir : Decidable (r ∧ p)} {i2 : Decidable r} (hr : r) (hc : t.ev c = T.gp r i2 (.v (.bool (decide p))) := by exact zl) (hx : t.ev x = T.gp (r ∧ p) ir (.v (.bool (decide q))) := by exact zl) (hy : t.ev y = .v (.bool false) := by exact zl) :
  POp P t H ⟨dst, .pick c x y, tp, pos, aft, g⟩ (.v (.bool (decide (p ∧ q)))) := Wc hc hx hy hr
theorem XB (hx : t.ev x = .v (.int k a) := by exact zl) (hy : t.ev y = .v (.int k b) := by exact zl) : POp P t H ⟨dst, .binOp .eql ty x y ty', tp, pos, aft, g⟩ (.v (.bool (decide (a = b)))) := IT hx hy
theorem XR (hx : t.ev x = .v (.int k a) := by exact zl) (hy : t.ev y = .v (.int k b) := by exact zl) : POp P t H ⟨dst, .binOp .neq ty x y ty', tp, pos, aft, g⟩ (.v (.bool (decide (¬ a = b)))) := IK hx hy
theorem CN {l m : List UInt8} (hx : t.ev x = .v (.string (bs l)) := by exact zl) (hy : t.ev y = .v (.string (bs m)) := by exact zl) : POp P t H ⟨dst, .binOp .eql ty x y ty', tp, pos, aft, g⟩ (.v (.bool (decide (l = m)))) := Di hx hy
theorem CM {l m : List UInt8} (hx : t.ev x = .v (.string (bs l)) := by exact zl) (hy : t.ev y = .v (.string (bs m)) := by exact zl) : POp P t H ⟨dst, .binOp .neq ty x y ty', tp, pos, aft, g⟩ (.v (.bool (decide (¬ l = m)))) := Dh hx hy
theorem QR (hx : t.ev x = .v (.int k a) := by exact zl) (hy : t.ev y = .v (.int k b) := by exact zl) : POp P t H ⟨dst, .binOp .lss ty x y ty', tp, pos, aft, g⟩ (.v (.bool (decide (a < b)))) := IN hx hy
theorem IX (hx : t.ev x = .v (.int k a) := by exact zl) (hy : t.ev y = .v (.int k b) := by exact zl) : POp P t H ⟨dst, .binOp .leq ty x y ty', tp, pos, aft, g⟩ (.v (.bool (decide (a ≤ b)))) := IP hx hy
theorem X0 (hx : t.ev x = .v (.int k a) := by exact zl) (hy : t.ev y = .v (.int k b) := by exact zl) : POp P t H ⟨dst, .binOp .gtr ty x y ty', tp, pos, aft, g⟩ (.v (.bool (decide (b < a)))) := IR hx hy
theorem U0 (hx : t.ev x = .v (.int k a) := by exact zl) (hy : t.ev y = .v (.int k b) := by exact zl) : POp P t H ⟨dst, .binOp .geq ty x y ty', tp, pos, aft, g⟩ (.v (.bool (decide (b ≤ a)))) := IS hx hy
theorem Q0 (hx : t.ev x = .v (.int .i64 a) := by exact zl) (hy : t.ev y = .v (.int .i64 b) := by exact zl) (h : -9223372036854775808 ≤ a + b ∧ a + b ≤ 9223372036854775807 := by exact zo) :
  POp P t H ⟨dst, .binOp .add ty x y ty', tp, pos, aft, g⟩ (.v (.int .i64 (a + b))) := Gk hx hy h
theorem Y9 (hx : t.ev x = .v (.int .i64 a) := by exact zl) (hy : t.ev y = .v (.int .i64 b) := by exact zl) (h : -9223372036854775808 ≤ a - b ∧ a - b ≤ 9223372036854775807 := by exact zo) :
  POp P t H ⟨dst, .binOp .sub ty x y ty', tp, pos, aft, g⟩ (.v (.int .i64 (a - b))) := Ge hx hy h
theorem Bb (hx : t.ev x = .v (.int .i64 a) := by exact zl) (hy : t.ev y = .v (.int .i64 b) := by exact zl) (h : -9223372036854775808 ≤ a * b ∧ a * b ≤ 9223372036854775807 := by exact zo) :
  POp P t H ⟨dst, .binOp .mul ty x y ty', tp, pos, aft, g⟩ (.v (.int .i64 (a * b))) := Gf hx hy h
theorem Gl (hx : t.ev x = .v (.int k a) := by exact zl) (hy : t.ev y = .v (.int k b) := by exact zl) (h : b ≠ 0 := by exact zo) : POp P t H ⟨dst, .binOp .rem ty x y ty', tp, pos, aft, g⟩ (.v (.int k (a.tmod b))) := IJ hx hy h
theorem YE (hx : t.ev x = .v (.bool (decide p)) := by exact zl) : POp P t H ⟨dst, .unOp .not ty x, tp, pos, aft, g⟩ (.v (.bool (decide (¬ p)))) := OX hx
theorem Qr {f off : Nat} {ys : List T} [hf : QY P ty f off 1 false] (hx : t.ev x = .adr (.agg ys) := by exact zl) (hd : ys[off]? = some d := by rfl) (hl : d.isLeaf = true := by rfl) : POp P t H ⟨dst, .fieldAddr ty x f, tp, pos, aft, g⟩ (.adr d) := We hx hd hl
theorem Qd {f b o off n : Nat} {ag : Bool} [hf : QY P ty f off n ag] (hx : t.ev x = .v (.pointer (some ⟨b, o, none⟩)) := by exact zl) (hn : Nat.blt 0 n = true := by rfl) :
  POp P t H ⟨dst, .fieldAddr ty x f, tp, pos, aft, g⟩ (.v (.pointer (some ⟨b, o + off, none⟩))) := Ub hx hn
theorem Qn (hx : t.ev x = .adr d := by exact zl) (hl : d.isLeaf = true := by rfl) (hk : QE P ty = true := by rfl) : POp P t H ⟨dst, .load ty x, tp, pos, aft, g⟩ d := OZ hx hl hk
theorem YP {ys : List T} (hx : t.ev x = .adr (.agg ys) := by exact zl) (hk : XT P ty = some ys.length := by rfl) : POp P t H ⟨dst, .load ty x, tp, pos, aft, g⟩ (.agg ys) := Ln hx hk
theorem Ql {b o m : Nat} {ty0 : TypeId} {cells : List T} (hx : t.ev x = .v (.pointer (some ⟨b, o, none⟩)) := by exact zl) (hi : (b, (⟨ty0, cells, m⟩ : Blk)) ∈ H := by exact zm) (hd : cells[o]? = some d := by rfl) (hk : QE P ty = true := by rfl) :
  POp P t H ⟨dst, .load ty x, tp, pos, aft, g⟩ d := Gg hx hi hd hk
theorem Q7 {b o n m : Nat} {ty0 : TypeId} {cells cs : List T} [hk : UJ P ty n] (hx : t.ev x = .v (.pointer (some ⟨b, o, none⟩)) := by exact zl) (hi : (b, (⟨ty0, cells, m⟩ : Blk)) ∈ H := by exact zm) (hc : Xl cells o n cs := by exact zt) :
  POp P t H ⟨dst, .load ty x, tp, pos, aft, g⟩ (.agg cs) := Wd hx hi hc
theorem BW {f off : Nat} {ys : List T} [hf : QY P ty f off 1 false] (hx : t.ev x = .agg ys := by exact zl) (hd : ys[off]? = some d := by rfl) : POp P t H ⟨dst, .field ty x f, tp, pos, aft, g⟩ d := Gh hx hd
theorem YK {f : Bool} {xs : List T} {i : Int} {k : IntKind} (hx : t.ev x = .sl f xs := by exact zl) (hy : t.ev y = .v (.int k i) := by exact zl) (hd : xs[i.toNat]? = some d := by first | exact Ly (by assumption) | exact Re (zo) | exact Ly (zo) | exact Gw (zo) | rfl)
  (h0 : 0 ≤ i := by exact zo) (hs : Js P ty = some d.cells.length := by rfl) (hp : Nat.blt 0 d.cells.length = true := by rfl) : POp P t H ⟨dst, .indexAddr ty x y, tp, pos, aft, g⟩ (.adr d) := JG hx hy h0 hd hs hp
theorem ZK {b o n c k : Nat} {i : Int} {kd : IntKind} [hs : YU P ty k] (hx : t.ev x = .v (.slice (some ⟨b, o, none⟩) n c) := by exact zl) (hy : t.ev y = .v (.int kd i) := by exact zl) (h0 : 0 ≤ i := by exact zo) (h1 : i < n := by exact zo) :
  POp P t H ⟨dst, .indexAddr ty x y, tp, pos, aft, g⟩ (.v (.pointer (some ⟨b, o + i.toNat * k, none⟩))) := Zs hx hy h0 h1
theorem QC {i : Nat} {ds : List T} (hx : t.ev x = .tup ds := by exact zl) (hi : ds[i]? = some d := by rfl) : POp P t H ⟨dst, .extract x i, tp, pos, aft, g⟩ d := Mi hx hi
theorem C8 {f : Bool} {l : List UInt8} (hx : t.ev x = .sl f (l.map eb) := by exact zl) (h1 : YY P ty = true := by rfl) (h2 : WH P ty' = true := by rfl) : POp P t H ⟨dst, .convert ty ty' x, tp, pos, aft, g⟩ (.v (.string (bs l))) := Dg hx h1 h2
theorem QP {f : Bool} {xs : List T} (hx : t.ev x = .sl f xs := by exact zl) (ha : QL P ty = true := by rfl) : POp P t H ⟨dst, .call ⟨.builtin .len, #[x], #[ty]⟩, tp, pos, aft, g⟩ (.v (.int .i64 xs.length)) := IQ hx ha
theorem QO {p : Option Addr} {n c : Nat} (hx : t.ev x = .v (.slice p n c) := by exact zl) (ha : QL P ty = true := by rfl) : POp P t H ⟨dst, .call ⟨.builtin .len, #[x], #[ty]⟩, tp, pos, aft, g⟩ (.v (.int .i64 n)) := Mg hx ha
theorem Wg {ats : Array TypeId} (hx : t.ev x = .v (.int k a) := by exact zl) (hy : t.ev y = .v (.int k b) := by exact zl) : POp P t H ⟨dst, .call ⟨.builtin .min, #[x, y], ats⟩, tp, pos, aft, g⟩ (.v (.int k (min a b))) := IL hx hy
theorem Lp {ats : Array TypeId} (hx : t.ev x = .v (.int k a) := by exact zl) (hy : t.ev y = .v (.int k b) := by exact zl) : POp P t H ⟨dst, .call ⟨.builtin .max, #[x, y], ats⟩, tp, pos, aft, g⟩ (.v (.int k (max a b))) := IM hx hy
theorem B1 {xs ys : List T} {f : Bool} {by_ : Nat} [hz : QD P ty d by_] (hx : t.ev x = dx := by exact zl) (hxl : Le dx (.sl true xs) := by exact zL) (hy : t.ev y = dy := by exact zl) (hyl : Le dy (.sl f ys) := by exact zL) (hs : QL P ty' = true := by rfl)
  (hkx : ∀ x ∈ xs, x.cells.length = d.cells.length := by exact zk) (hky : ∀ x ∈ ys, x.cells.length = d.cells.length := by exact zk) (hb : (xs.length + ys.length) * by_ ≤ 140737488355328 := by exact zo) (hm : xs.length + ys.length ≤ 9223372036854775807 := by exact zo) :
  POp P t H ⟨dst, .call ⟨.builtin .append, #[x, y], #[ty, ty']⟩, tp, pos, aft, g⟩ (.sl false (xs ++ ys)) := Dl hx hxl hy hyl hs hkx hky hb hm
theorem Zv {parts : Array (Nat × Operand)} {z : List T} (n : Nat) (ds : List T) [hz0 : QX P ty z] {ps : List (Nat × T)} (ha : XT P ty = some n := by rfl) (hok : Uo P ty = true := by rfl) (hp : EvP t parts.toList ps := by exact zpv)
  (hd' : Un (YO P ty) z ps = some ds := by rfl) : POp P t H ⟨dst, .build ty parts, tp, pos, aft, g⟩ (.agg ds) := Wz n ds ha hok hp hd'
theorem Z0 {n : Nat} {parts : Array (Nat × Operand)} {by_ : Nat} {xs : List T} [hz : QD P ty d by_] (hp : Ud parts.toList 0 = true := by rfl) (hn : Nat.beq parts.toList.length n = true := by rfl)
  (hb : n * d.cells.length ≤ 16777216 := by decide) (hx' : EvQ t parts.toList xs := by exact zq) (hk : ∀ x ∈ xs, x.cells.length = d.cells.length := by exact zk) : POp P t H ⟨dst, .buildSlice ty n parts, tp, pos, aft, g⟩ (.sl true xs) := Vs hp hn hb hx' hk
theorem QK {f : FuncId} {xs : Array Operand} {ats : Array TypeId} {args : List T} (hf : FnP P f args (fun r => r = d)) (hc : Qy P f = true := by rfl) (ha' : EvL t xs.toList args := by exact ze) :
  POp P t H ⟨dst, .call ⟨.value (.func f), xs, ats⟩, tp, pos, aft, g⟩ d := Ml hc ha' hf
theorem XX {z : List T} [hz : QX K.P ty z] (h : ∀ b, (∀ c ∈ keys H, ¬ c = b) → Qe K ops (i + 1) l ((kd, .v (.pointer (some ⟨b, 0, none⟩))) :: t) ((b, ⟨ty, z, z.length⟩) :: H) N) (hd : Nat.blt kd K.n = true := by rfl) :
  Qe K ops i (⟨some kd, .alloc ty, tp, pos, aft, none⟩ :: l) t H N := Yn (GY hd h)
theorem XN {cs : List T} (h : ∀ b, (∀ c ∈ keys H, ¬ c = b) → Qe K ops (i + 1) l ((kd, .v (.pointer (some ⟨b, 0, none⟩))) :: t) ((b, ⟨ty, cs, cs.length⟩) :: H) N) (hx : t.ev x = .agg cs := by exact zl) (hp : Nat.blt 0 cs.length = true := by rfl)
  (hd : Nat.blt kd K.n = true := by rfl) : Qe K ops i (⟨some kd, .box ty x, tp, pos, aft, none⟩ :: l) t H N := Yn (EH hx hp hd h)
theorem LM (h : ∀ b, (∀ c ∈ keys H, ¬ c = b) → Qe K ops (i + 1) l ((kd, .v (.pointer (some ⟨b, 0, none⟩))) :: t) ((b, ⟨ty, [d], 1⟩) :: H) N) (hx : t.ev x = d := by exact zl) (hl : d.isLeaf = true := by rfl)
  (hd : Nat.blt kd K.n = true := by rfl) : Qe K ops i (⟨some kd, .box ty x, tp, pos, aft, none⟩ :: l) t H N := Yn (RW hx hl hd h)
theorem Qw {b o m : Nat} {ty0 : TypeId} {cells cs : List T} (h : Qe K ops (i + 1) l t H' N) (hx : t.ev x = .v (.pointer (some ⟨b, o, none⟩)) := by exact zl) (hy : t.ev y = d := by exact zl) (hi : Jd H (b, ⟨ty0, cells, m⟩) (b, ⟨ty0, cs, m⟩) H' := by exact zr) (hc : ZA cells o d.cells cs := by exact zy)
  (hs : Vl K.P ty = some d.cells.length := by rfl) (hp : Nat.blt 0 d.cells.length = true := by rfl) (hl : QB d.cells = true := by rfl) : Qe K ops i (⟨none, .store ty x y, tp, pos, aft, none⟩ :: l) t H N := Yn (VR hx hy hi hc hs hp hl h)
variable {eff : List Nat} {pend : List Q9} {al : List (Nat × Oper)} {F : Qc → Prop}
theorem ca {id : Nat} (ord eff : List Nat) (h : Qj K ops eff (Ψ .normal) (pick ops ord) t H []) (hmix : K.P.follows .mixedOrders = true := by kernel_rfl) (hc : Ie ops K.n eff ord = true := by kernel_rfl) : Sim K (.region id ops true) t H Ψ := IA ord eff hmix hc h
theorem an (h : N t H) : Qj K ops eff N [] t H pend := h
theorem a_F {o : Oper} (hg : ∀ H', F H' → GOp K.P ops t H' o d) (hF : F H) (h : Qj K ops eff N al (t.put o.dst d) H (⟨i, o, d, F⟩ :: pend)) (he : QN eff i = false) : Qj K ops eff N ((i, o) :: al) t H pend := by
 show QH K ops eff i o _ t H pend
 unfold QH
 rw [he, cond_false]
 exact ⟨d, F, hg, hF, h⟩
theorem a_ (hp : ∀ H', POp K.P t H' ⟨some kd, op, tp, pos, aft, none⟩ d) (h : Qj K ops eff N al ((kd, d) :: t) H (⟨i, ⟨some kd, op, tp, pos, aft, none⟩, d, fun _ => True⟩ :: pend)) (he : QN eff i = false := by rfl) :
  Qj K ops eff N ((i, ⟨some kd, op, tp, pos, aft, none⟩) :: al) t H pend := a_F (fun H' _ => hp H') trivial h he
theorem QF {b o m : Nat} {ty0 : TypeId} {cells : List T} (h : Qj K ops eff N al ((kd, d) :: t) H (⟨i, ⟨some kd, .load ty x, tp, pos, aft, none⟩, d, fun H => (b, (⟨ty0, cells, m⟩ : Blk)) ∈ H⟩ :: pend)) (hx : t.ev x = .v (.pointer (some ⟨b, o, none⟩)) := by exact zl) (hm : (b, (⟨ty0, cells, m⟩ : Blk)) ∈ H := by exact zm) (hd : cells[o]? = some d := by rfl)
  (hk : QE K.P ty = true := by rfl) (he : QN eff i = false := by rfl) : Qj K ops eff N ((i, ⟨some kd, .load ty x, tp, pos, aft, none⟩) :: al) t H pend := a_F (F := fun H => (b, (⟨ty0, cells, m⟩ : Blk)) ∈ H) (fun _ h' => Ql hx h' hd hk) hm h he
theorem Yk {b o n m : Nat} {ty0 : TypeId} {cells cs : List T} [hk : UJ K.P ty n] (h : Qj K ops eff N al ((kd, .agg cs) :: t) H (⟨i, ⟨some kd, .load ty x, tp, pos, aft, none⟩, .agg cs, fun H => (b, (⟨ty0, cells, m⟩ : Blk)) ∈ H⟩ :: pend)) (hx : t.ev x = .v (.pointer (some ⟨b, o, none⟩)) := by exact zl) (hm : (b, (⟨ty0, cells, m⟩ : Blk)) ∈ H := by exact zm) (hc : Xl cells o n cs := by exact zt)
  (he : QN eff i = false := by rfl) : Qj K ops eff N ((i, ⟨some kd, .load ty x, tp, pos, aft, none⟩) :: al) t H pend := a_F (F := fun H => (b, (⟨ty0, cells, m⟩ : Blk)) ∈ H) (fun _ h' => Q7 hx h' hc) hm h he
theorem Qz (hp : ∀ H', p → POp K.P t H' ⟨some kd, op, tp, pos, aft, some (j, true)⟩ d) (h : Qj K ops eff N al ((kd, T.gp p inferInstance d) :: t) H (⟨i, ⟨some kd, op, tp, pos, aft, some (j, true)⟩, T.gp p inferInstance d, fun _ => True⟩ :: pend))
  (hj : (ops[j]?).bind (·.dst) = some kg := by rfl) (hb : t.get kg = .v (.bool (decide p)) := by exact zG) (he : QN eff i = false := by rfl) : Qj K ops eff N ((i, ⟨some kd, op, tp, pos, aft, some (j, true)⟩) :: al) t H pend :=
 a_F (fun H' _ => ⟨kg, _, hj, hb, fun e => by rw [XE (Xm.1 e)]; exact hp H' (Xm.1 e), fun e => X2 fun h => e (Xm.2 h)⟩) trivial h he
theorem Xz (hp : ∀ H', ¬ p → POp K.P t H' ⟨some kd, op, tp, pos, aft, some (j, false)⟩ d) (h : Qj K ops eff N al ((kd, T.gp (¬ p) inferInstance d) :: t) H (⟨i, ⟨some kd, op, tp, pos, aft, some (j, false)⟩, T.gp (¬ p) inferInstance d, fun _ => True⟩ :: pend))
  (hj : (ops[j]?).bind (·.dst) = some kg := by rfl) (hb : t.get kg = .v (.bool (decide p)) := by exact zG) (he : QN eff i = false := by rfl) : Qj K ops eff N ((i, ⟨some kd, op, tp, pos, aft, some (j, false)⟩) :: al) t H pend :=
 a_F (fun H' _ => ⟨kg, _, hj, hb, fun e => by rw [XE (Yg.1 e)]; exact hp H' (Yg.1 e), fun e => X2 fun h => e (Yg.2 h)⟩) trivial h he
theorem Cx (hp : ∀ H', p ∧ q → POp K.P t H' ⟨some kd, op, tp, pos, aft, some (j, true)⟩ d) (h : Qj K ops eff N al ((kd, T.gp (p ∧ q) inferInstance d) :: t) H (⟨i, ⟨some kd, op, tp, pos, aft, some (j, true)⟩, T.gp (p ∧ q) inferInstance d, fun _ => True⟩ :: pend))
  (hj : (ops[j]?).bind (·.dst) = some kg := by rfl) (hb : t.get kg = T.gp p ip (.v (.bool (decide q))) := by exact zG) (he : QN eff i = false := by rfl) : Qj K ops eff N ((i, ⟨some kd, op, tp, pos, aft, some (j, true)⟩) :: al) t H pend :=
 a_F (fun H' _ => ⟨kg, _, hj, hb.trans Rx, fun e => by rw [XE (Jz.1 e)]; exact hp H' (Jz.1 e), fun e => X2 fun h => e (Jz.2 h)⟩) trivial h he
theorem UG (hp : ∀ H', p ∧ ¬ q → POp K.P t H' ⟨some kd, op, tp, pos, aft, some (j, false)⟩ d) (h : Qj K ops eff N al ((kd, T.gp (p ∧ ¬ q) inferInstance d) :: t) H (⟨i, ⟨some kd, op, tp, pos, aft, some (j, false)⟩, T.gp (p ∧ ¬ q) inferInstance d, fun _ => True⟩ :: pend))
  (hj : (ops[j]?).bind (·.dst) = some kg := by rfl) (hb : t.get kg = T.gp p ip (.v (.bool (decide q))) := by exact zG) (he : QN eff i = false := by rfl) : Qj K ops eff N ((i, ⟨some kd, op, tp, pos, aft, some (j, false)⟩) :: al) t H pend :=
 a_F (fun H' _ => ⟨kg, _, hj, hb.trans Rx, fun e => by rw [XE (YR.1 e)]; exact hp H' (YR.1 e), fun e => X2 fun h => e (YR.2 h)⟩) trivial h he
theorem Zi {b o m : Nat} {ty0 : TypeId} {cells : List T} (h : Qj K ops eff N al ((kd, T.gp (p) inferInstance d) :: t) H (⟨i, ⟨some kd, .load ty x, tp, pos, aft, some (j, true)⟩, T.gp (p) inferInstance d, fun H => (b, (⟨ty0, cells, m⟩ : Blk)) ∈ H⟩ :: pend)) (hj : (ops[j]?).bind (·.dst) = some kg := by rfl) (hb : t.get kg = .v (.bool (decide p)) := by exact zG)
  (hx : p → t.ev x = .v (.pointer (some ⟨b, o, none⟩)) := by exact zU) (hm : (b, (⟨ty0, cells, m⟩ : Blk)) ∈ H := by exact zm) (hd : cells[o]? = some d := by rfl) (hk : QE K.P ty = true := by rfl) (he : QN eff i = false := by rfl) :
  Qj K ops eff N ((i, ⟨some kd, .load ty x, tp, pos, aft, some (j, true)⟩) :: al) t H pend :=
 a_F (F := fun H => (b, (⟨ty0, cells, m⟩ : Blk)) ∈ H) (fun H' h' => ⟨kg, _, hj, hb, fun e => by rw [XE (Xm.1 e)]; exact Ql (hx (Xm.1 e)) h' hd hk, fun e => X2 fun h => e (Xm.2 h)⟩) hm h he
theorem EO {b o n m : Nat} {ty0 : TypeId} {cells cs : List T} [hk : UJ K.P ty n] (h : Qj K ops eff N al ((kd, T.gp (p) inferInstance (.agg cs)) :: t) H (⟨i, ⟨some kd, .load ty x, tp, pos, aft, some (j, true)⟩, T.gp (p) inferInstance (.agg cs), fun H => (b, (⟨ty0, cells, m⟩ : Blk)) ∈ H⟩ :: pend)) (hj : (ops[j]?).bind (·.dst) = some kg := by rfl) (hb : t.get kg = .v (.bool (decide p)) := by exact zG)
  (hx : p → t.ev x = .v (.pointer (some ⟨b, o, none⟩)) := by exact zU) (hm : (b, (⟨ty0, cells, m⟩ : Blk)) ∈ H := by exact zm) (hc : Xl cells o n cs := by exact zt) (he : QN eff i = false := by rfl) :
  Qj K ops eff N ((i, ⟨some kd, .load ty x, tp, pos, aft, some (j, true)⟩) :: al) t H pend :=
 a_F (F := fun H => (b, (⟨ty0, cells, m⟩ : Blk)) ∈ H) (fun H' h' => ⟨kg, _, hj, hb, fun e => by rw [XE (Xm.1 e)]; exact Q7 (hx (Xm.1 e)) h' hc, fun e => X2 fun h => e (Xm.2 h)⟩) hm h he
theorem LT {b o m : Nat} {ty0 : TypeId} {cells : List T} (h : Qj K ops eff N al ((kd, T.gp (¬ p) inferInstance d) :: t) H (⟨i, ⟨some kd, .load ty x, tp, pos, aft, some (j, false)⟩, T.gp (¬ p) inferInstance d, fun H => (b, (⟨ty0, cells, m⟩ : Blk)) ∈ H⟩ :: pend)) (hj : (ops[j]?).bind (·.dst) = some kg := by rfl) (hb : t.get kg = .v (.bool (decide p)) := by exact zG)
  (hx : ¬ p → t.ev x = .v (.pointer (some ⟨b, o, none⟩)) := by exact zU) (hm : (b, (⟨ty0, cells, m⟩ : Blk)) ∈ H := by exact zm) (hd : cells[o]? = some d := by rfl) (hk : QE K.P ty = true := by rfl) (he : QN eff i = false := by rfl) :
  Qj K ops eff N ((i, ⟨some kd, .load ty x, tp, pos, aft, some (j, false)⟩) :: al) t H pend :=
 a_F (F := fun H => (b, (⟨ty0, cells, m⟩ : Blk)) ∈ H) (fun H' h' => ⟨kg, _, hj, hb, fun e => by rw [XE (Yg.1 e)]; exact Ql (hx (Yg.1 e)) h' hd hk, fun e => X2 fun h => e (Yg.2 h)⟩) hm h he
theorem Ik {o : Oper} (hE : ∀ t0 : Env, (∀ x ∈ o.op.operands, t0.ev x = t.ev x) → EOp K t0 H o fun t' H' => ∃ d, t' = t0.put o.dst d ∧ XF ops o H' pend ∧ Qj K ops eff N al (t.put o.dst d) H' pend) (he : QN eff i = true) :
  Qj K ops eff N ((i, o) :: al) t H pend := by
 show QH K ops eff i o _ t H pend
 unfold QH
 rw [he, cond_true]
 exact fun t0 h0 a w hr Kc Q hk => hE t0 h0 a w hr Kc Q fun t' H' a' w' ⟨d, h1, h2, h3⟩ hr' => hk t' H' a' w' ⟨d, pend, h1, h2, .refl _ _ _, h3⟩ hr'
theorem V3 {o : Oper} (hE : ∀ t0 : Env, (∀ x ∈ o.op.operands, t0.ev x = t.ev x) → EOp K t0 H o fun t' H' => ∃ d pend', t' = t0.put o.dst d ∧ XF ops o H' pend ∧ XA ops o pend pend' ∧ Qj K ops eff N al (t.put o.dst d) H' pend') (he : QN eff i = true) :
  Qj K ops eff N ((i, o) :: al) t H pend := by
 show QH K ops eff i o _ t H pend
 unfold QH
 rw [he, cond_true]
 exact hE
theorem XH {b o m : Nat} {ty0 : TypeId} {cells cs : List T} (h : Qj K ops eff N al t H' pend) (hx : t.ev x = .v (.pointer (some ⟨b, o, none⟩)) := by exact zl) (hy : t.ev y = d := by exact zl) (hi : Jd H (b, ⟨ty0, cells, m⟩) (b, ⟨ty0, cs, m⟩) H' := by exact zr) (hc : ZA cells o d.cells cs := by exact zy)
  (hs : Vl K.P ty = some d.cells.length := by rfl) (hp : Nat.blt 0 d.cells.length = true := by rfl) (hl : QB d.cells = true := by rfl) (hk : XF ops ⟨none, .store ty x y, tp, pos, aft, none⟩ H' pend := by exact zd) (he : QN eff i = true := by rfl) :
  Qj K ops eff N ((i, ⟨none, .store ty x y, tp, pos, aft, none⟩) :: al) t H pend :=
 Ik (fun t0 h0 => VR ((h0 x (by simp [Op.operands])).trans hx) ((h0 y (by simp [Op.operands])).trans hy) hi hc hs hp hl ⟨.any, rfl, hk, h⟩) he
theorem DU {b o m : Nat} {ty0 : TypeId} {cells : List T} (hc : o + d.cells.length ≤ cells.length) (h : Qj K ops eff N al t H' pend) (hx : t.ev x = .v (.pointer (some ⟨b, o, none⟩)) := by exact zl) (hy : t.ev y = d := by exact zl) (hi : Jd H (b, ⟨ty0, cells, m⟩) (b, ⟨ty0, lay cells o d.cells, m⟩) H' := by exact zr)
  (hs : Vl K.P ty = some d.cells.length := by rfl) (hp : Nat.blt 0 d.cells.length = true := by rfl) (hl : QB d.cells = true := by rfl) (hk : XF ops ⟨none, .store ty x y, tp, pos, aft, none⟩ H' pend := by exact zd) (he : QN eff i = true := by rfl) :
  Qj K ops eff N ((i, ⟨none, .store ty x y, tp, pos, aft, none⟩) :: al) t H pend :=
 Ik (fun t0 h0 => DF ((h0 x (by simp [Op.operands])).trans hx) ((h0 y (by simp [Op.operands])).trans hy) hi hs hp hl hc ⟨.any, rfl, hk, h⟩) he
theorem AR {cs : List T} (h : ∀ b, (∀ c ∈ keys H, ¬ c = b) → XF ops ⟨some kd, .box ty x, tp, pos, aft, none⟩ ((b, ⟨ty, cs, cs.length⟩) :: H) pend ∧ Qj K ops eff N al ((kd, .v (.pointer (some ⟨b, 0, none⟩))) :: t) ((b, ⟨ty, cs, cs.length⟩) :: H) pend)
  (hx : t.ev x = .agg cs := by exact zl) (hp : Nat.blt 0 cs.length = true := by rfl) (hd : Nat.blt kd K.n = true := by rfl) (he : QN eff i = true := by rfl) : Qj K ops eff N ((i, ⟨some kd, .box ty x, tp, pos, aft, none⟩) :: al) t H pend :=
 Ik (fun t0 h0 => EH ((h0 x (by simp [Op.operands])).trans hx) hp hd fun b hb => ⟨_, rfl, h b hb⟩) he
theorem kN : Qh H [] := .nil H
theorem kS {p : Nat × Blk} {r r' : Qc} (hs : Qh r r') : Qh (p :: r) r' := .skip p r r' hs
theorem kK {b n : Nat} {cs cs' : List T} {r r' : Qc} (hs : Qh r r') (h : LeL cs cs' := by exact zM) (hl : cs'.length = cs.length := by rfl) : Qh ((b, ⟨ty, cs, n⟩) :: r) ((b, ⟨ty, cs', n⟩) :: r') := .keep b _ _ r r' (Ic rfl h hl rfl) hs
theorem eL {t' : Env} (h : Zm t t' := by (repeat (first | exact trivial | (apply And.intro; (apply Qi; (exact zG); (first | exact Le.refl _ | exact Le.nil _ | exact Le.full _ _ | exact Le.any _ | (apply Le.of_eq; focus (simp; done)) | (apply Le.of_eq; focus (congr 2; omega)) | (apply Le.of_eq; focus (simp [*]; done)))))))) : Zm t t' := h
theorem re {fn : Func} {Φ : T → Prop} {rs : List ResultVar} {ds : List T} (hl : Le (XJ ds) d) (hp : Φ d) (hr : fn.results.toList = rs := by rfl) (h : Yv P t H rs ds := by exact zrs) : U2 P fn (fun r H => H = [] ∧ Φ r) .ret t H := RN hr h d hl hp
theorem rt {fn : Func} {rs : List ResultVar} {ds : List T} (hl : Le (XJ ds) d) (hr : fn.results.toList = rs := by rfl) (h : Yv P t H rs ds := by exact zrs) : U2 P fn (fun r H => H = [] ∧ r = d) .ret t H := Cj hr h hl
theorem rn {fn : Func} {rs : List ResultVar} {ds : List T} (hl : Le (XJ ds) d) (hr : fn.results.toList = rs := by rfl) (h : Yv P t H rs ds := by exact zrs) : U2 P fn (fun r H => H = [] ∧ r = d) .normal t H := DD hr h hl
end
section
variable {P : Program} {t : Env} {H : Qc} {dst : Option Tmp} {tp : TypeId} {pos : String} {aft : Array Edge} {g : Option (Nat × Bool)} {ty : TypeId} {x y : Operand}
theorem Xg {f : Bool} {α : Type} {fn : α → T} {xs : List α} {i : Nat} {k : IntKind} (hs : i < xs.length) (hx : t.ev x = .sl f (xs.map fn) := by exact zl) (hy : t.ev y = .v (.int k i) := by exact zl)
  (h1 : Js P ty = some (fn xs[i]).cells.length := by rfl) (hp : Nat.blt 0 (fn xs[i]).cells.length = true := by rfl) : POp P t H ⟨dst, .indexAddr ty x y, tp, pos, aft, g⟩ (.adr (fn xs[i])) :=
 JG hx hy (by omega) (Ly hs) h1 hp
end
section
variable {K : Ctx} {P : Program} {t : Env} {H H' Hr Hs G H1 : Qc} {dst : Option Tmp} {tp : TypeId} {pos : String} {aft : Array Edge} {g : Option (Nat × Bool)} {N : Env → Qc → Prop} {Ψ : Exit → Env → Qc → Prop}
variable {S : Nat → Prop} {w : World} {ty ty' : TypeId}
theorem YX (h : H.Perm H') : (keys H).Perm (keys H') := h.map _
theorem Own.perm (h : Own S w H) (hp : H.Perm H') : Own S w H' :=
 ⟨(YX hp).nodup_iff.1 h.nodup, fun b hb => h.apart b ((YX hp).mem_iff.2 hb), fun p hpp => h.has p (hp.mem_iff.2 hpp)⟩
theorem R.perm {a : Act} (h : R K t H a w) (hp : H.Perm H') : R K t H' a w := by
 obtain ⟨S, h⟩ := h
 exact ⟨S, h.size, h.defers, h.step, h.own.perm hp, fun b hb => h.mine b ((YX hp).mem_iff.2 hb), h.env⟩
theorem RT {o : Oper} (h : EOp K t H o fun t' H' => ∃ H2, H'.Perm H2 ∧ N t' H2) : EOp K t H o N := fun a w hr Kc Q hk =>
 h a w hr Kc Q fun t' _ a' w' ⟨H2, hp, hn⟩ hr' => hk t' H2 a' w' hn (hr'.perm hp)
theorem XV {c : Code} (hp : H.Perm H') (h : Sim K c t H' Ψ) : Sim K c t H Ψ := fun a w hr => h a w (hr.perm hp)
theorem Qk : keys (H ++ H') = keys H ++ keys H' := by simp [keys]
theorem Own.left (h : Own S w (H ++ H')) : Own S w H := by
 refine ⟨?_, fun b hb => h.apart b (by rw [Qk]; exact List.mem_append_left _ hb), fun p hp => h.has p (List.mem_append_left _ hp)⟩
 have := h.nodup
 rw [Qk] at this
 exact (List.nodup_append.1 this).1
theorem Own.right (h : Own S w (H ++ H')) : Own S w H' := by
 refine ⟨?_, fun b hb => h.apart b (by rw [Qk]; exact List.mem_append_right _ hb), fun p hp => h.has p (List.mem_append_right _ hp)⟩
 have := h.nodup
 rw [Qk] at this
 exact (List.nodup_append.1 this).2.1
theorem Own.disj (h : Own S w (H ++ H')) : ∀ b ∈ keys H, b ∉ keys H' := by
 have := h.nodup
 rw [Qk] at this
 intro b h1 h2
 exact (List.nodup_append.1 this).2.2 b h1 b h2 rfl
theorem R1.called {a : Act} (hr : R1 K t (Hs ++ Hr) a w S) {S' : Nat → Prop} {w' : World} {d : T} {v : Value} (hown : Own S' w' H') (hst : QI (keys Hs) S w S' w') (hkeys : ∀ b ∈ keys H', b ∈ keys Hs ∨ w.heap.size ≤ b) (hd : Xi dst K.n = true) (hrel : Rel S' w' d v) :
  R1 K (t.put dst d) (H' ++ Hr) (a.put dst v) w' S' := by
 have hsS : ∀ b ∈ keys Hs, ¬ S b := hr.own.left.apart
 have hm := hst.mono hr.wf hsS
 refine ⟨by simp [hr.size], (hr.defers.step hm (hst.objs fun b hb => by
  obtain ⟨p, hp', rfl⟩ := List.mem_map.1 hb
  exact (hr.own.left.has p hp').isMem) hst.size).put hd, hr.step.trans hst (fun b hb => hr.mine b (by rw [Qk]; exact List.mem_append_left _ hb)), ⟨?_, ?_, ?_⟩, ?_, (hr.env.mono hm).put (by rw [hr.size]; exact hd) hrel⟩
 ·rw [Qk]
  refine List.nodup_append.2 ⟨hown.nodup, hr.own.right.nodup, fun b hb c hc' e => ?_⟩
  subst e
  rcases hkeys b hb with h1 | h1
  ·exact hr.own.disj b h1 hc'
  ·have := hr.own.right.lt b hc'; omega
 ·intro b hb hS
  rw [Qk] at hb
  rcases List.mem_append.1 hb with hb | hb
  ·exact hown.apart b hb hS
  ·rcases hst.new b hS with h1 | h1 | h1
   ·exact hr.own.right.apart b hb h1
   ·have := hr.own.right.lt b hb; omega
   ·exact hr.own.disj b h1 hb
 ·intro p hp'
  rcases List.mem_append.1 hp' with hp' | hp'
  ·exact hown.has p hp'
  ·have hk' : p.1 ∈ keys Hr := List.mem_map.2 ⟨p, hp', rfl⟩
   have h1 := hr.own.right.has p hp'
   exact h1.mono (hst.keep _ h1.lt (fun h => hr.own.disj _ h hk')) hm
 ·intro b hb
  rw [Qk] at hb
  rcases List.mem_append.1 hb with hb | hb
  ·rcases hkeys b hb with h1 | h1
   ·exact hr.mine b (by rw [Qk]; exact List.mem_append_left _ h1)
   ·have := hr.step.size; exact .inr (by omega)
  ·exact hr.mine b (by rw [Qk]; exact List.mem_append_right _ hb)
theorem Yo {f : FuncId} {xs : Array Operand} {ats : Array TypeId} {args : List T} {Φ : T → Qc → Prop} (hf : FnH K.P f args Hs Φ) (hp : H.Perm (Hs ++ Hr)) (hc : Qy K.P f = true) (ha' : EvL t xs.toList args)
  (hd : Xi dst K.n = true) (hn : ∀ r H', Φ r H' → N (t.put dst r) (H' ++ Hr)) : EOp K t H ⟨dst, .call ⟨.value (.func f), xs, ats⟩, tp, pos, aft, g⟩ N := by
 have ha := ha'.eq
 refine EOp.of_w (fun c e => by cases e) ?_
 intro a w hR Kc Q hk
 obtain ⟨S, hr⟩ := hR.perm hp
 unfold Oper.wp
 have e : execOp a.eval ⟨dst, .call ⟨.value (.func f), xs, ats⟩, tp, pos, aft, g⟩ = callFunc f (#[] ++ xs.map a.eval ++ #[]) := rfl
 rw [e, Y8 hc]
 simp only [Oper.upon]
 have hrl : Qq S w args (xs.toList.map a.eval) := ha ▸ ZI xs.toList fun x h => hr.env.ev x
 have := hf S w _ hr.wf hr.own.left hrl
 have e2 : (xs.toList.map a.eval).toArray = #[] ++ xs.map a.eval ++ #[] := by apply Array.ext'; simp
 rw [← e2]
 refine this.mono ?_
 rintro e w' ⟨u, S', r, H', rfl, hΦ, hrel, hown, hst, hkeys⟩
 exact hk _ _ _ _ (hn r H' hΦ) ⟨S', hr.called hown hst hkeys hd hrel⟩
def Qu (G : Qc) (x y : T) : Prop := ∀ (S : Nat → Prop) (w : World) (u : Value), Own S w G → Rel S w x u → Rel (fun b => S b ∨ b ∈ keys G) w y u
def Qg (G : Qc) (xs ys : List T) : Prop := ∀ (S : Nat → Prop) (w : World) (us : List Value), Own S w G → Qq S w xs us → Qq (fun b => S b ∨ b ∈ keys G) w ys us
theorem Qu.le {x y : T} (h : Le x y) : Qu G x y := fun S w u _ hr => (h S w u hr).mono fun _ hb => ⟨.inl hb, rfl⟩
theorem Qg.le {xs ys : List T} (h : LeL xs ys) : Qg G xs ys := fun S w u _ hr => (h S w u hr).mono fun _ hb => ⟨.inl hb, rfl⟩
theorem Qg.nil : Qg G [] [] := Qg.le LeL.nil
theorem Qg.cons {x y : T} {xs ys : List T} (h : Qu G x y) (hs : Qg G xs ys) : Qg G (x :: xs) (y :: ys) := by
 intro S w us ho hr
 cases hr with | cons _ u _ us h1 h2 => exact .cons _ _ _ _ (h S w u ho h1) (hs S w us ho h2)
theorem Qg.append {a b c d : List T} (h : Qg G a b) (h' : Qg G c d) : Qg G (a ++ c) (b ++ d) := by
 intro S w us ho hu
 have h1 := hu.take a.length
 have h2 := hu.drop a.length
 rw [List.take_left] at h1
 rw [List.drop_left] at h2
 have := (h S w _ ho h1).append (h' S w _ ho h2)
 rwa [List.take_append_drop] at this
theorem Qu.agg {xs ys : List T} (h : Qg G xs ys) : Qu G (.agg xs) (.agg ys) := by
 intro S w u ho hr
 cases hr with | agg _ vs hr => exact .agg _ _ (h S w vs ho hr)
theorem Qu.tup {xs ys : List T} (h : Qg G xs ys) : Qu G (.tup xs) (.tup ys) := by
 intro S w u ho hr
 cases hr with | tup _ vs hr => exact .tup _ _ (h S w vs ho hr)
theorem Qu.clo {f : FuncId} {fs gs cs ds : List T} (h : Qg G fs gs) (h' : Qg G cs ds) : Qu G (.clo f fs cs) (.clo f gs ds) := by
 intro S w u ho hr
 cases hr with | clo _ _ _ us vs r1 r2 => exact .clo _ _ _ _ _ (h S w us ho r1) (h' S w vs ho r2)
theorem Qu.ptr {b n : Nat} {e : TypeId} {cs : List T} {x : T} (hb : (b, (⟨e, cs, n⟩ : Blk)) ∈ G) (hx : x.isLeaf = true ∨ ∃ ys, x = .agg ys) (hc : Qg G (cs.take x.cells.length) x.cells) (hl : 0 < x.cells.length) (hl2 : x.cells.length ≤ cs.length) : Qu G (.v (.pointer (some ⟨b, 0, none⟩))) (.adr x) := by
 intro S w u ho hr
 have := hr.v_eq
 subst this
 obtain ⟨us, h1, h2, h3, h4⟩ := ho.has _ hb
 simp only at h1 h2 h3 h4
 have h5 := h4.take x.cells.length
 rw [List.take_take, Nat.min_eq_left hl2] at h5
 have h6 := hc S w _ ho h5
 have h7 := h6.length
 rcases hx with hx | ⟨ys, rfl⟩
 ·have hcx : x.cells = [x] := by
   cases x with
   | v u => cases u <;> simp_all [T.isLeaf, T.cells, Value.cells]
   | _ => simp_all [T.isLeaf, T.cells]
  rw [hcx] at h6
  simp only [List.length_singleton] at h6
  cases hu : us.toList.take 1 with
  | nil => rw [hu] at h6; cases h6
  | cons v r =>
   rw [hu] at h6
   cases h6 with
   | cons _ _ _ _ h8 h9 =>
    cases h9
    exact .adr x b 0 v us e (0, 0) (.inr (List.mem_map.2 ⟨_, hb, rfl⟩)) h1 h8 (by rw [(h8.leaf_cells hx).1]; simpa using hu)
 ·exact .adr _ b 0 (.agg (us.toList.take ys.length).toArray) us e (0, 0) (.inr (List.mem_map.2 ⟨_, hb, rfl⟩)) h1 (.agg _ _ h6) (by simp [Value.cells])
def T.solid (x : T) : Prop := x.isLeaf = true ∨ ∃ ys, x = .agg ys
theorem ZF {α : Type} (f : α → T) (h : ∀ y, (f y).solid) (l : List α) : ∀ x ∈ l.map f, x.solid := by
 intro x hx; obtain ⟨y, _, rfl⟩ := List.mem_map.1 hx; exact h y
theorem OL {kk : Nat} {S' : Nat → Prop} : ∀ (xs : List T) (us : List Value), Qq S' w (xs.flatMap T.cells) us → (∀ x ∈ xs, x.cells.length = kk) → (∀ x ∈ xs, x.solid) →
  ∃ vs, Qq S' w xs vs ∧ (∀ v ∈ vs, v.cells.size = kk) ∧ us = vs.flatMap fun v => v.cells.toList := by
 intro xs
 induction xs with
 | nil => intro us hu _ _; cases hu; exact ⟨[], .nil, by simp, rfl⟩
 | cons x xs ih =>
  intro us hu hk2 ha2
  rw [List.flatMap_cons] at hu
  have hxk := hk2 x List.mem_cons_self
  have h3 := hu.take kk
  have h4 := hu.drop kk
  rw [List.take_append_of_le_length (by omega), List.take_of_length_le (by omega)] at h3
  rw [List.drop_append_of_le_length (by omega), List.drop_of_length_le (by omega), List.nil_append] at h4
  obtain ⟨vs, hv1, hv2, hv3⟩ := ih _ h4 (fun y hy => hk2 y (List.mem_cons_of_mem _ hy)) (fun y hy => ha2 y (List.mem_cons_of_mem _ hy))
  have hl3 := h3.length
  have hx : ∃ v, Rel S' w x v ∧ v.cells.toList = us.take kk := by
   rcases ha2 x List.mem_cons_self with hleaf | ⟨ys, rfl⟩
   ·have hcx : x.cells = [x] := by
     cases x with
     | v u => cases u <;> simp_all [T.isLeaf, T.cells, Value.cells]
     | _ => simp_all [T.isLeaf, T.cells]
    rw [hcx] at h3
    cases hul : us.take kk with
    | nil => rw [hul] at h3; cases h3
    | cons v rest =>
     rw [hul] at h3
     cases h3 with
     | cons _ _ _ _ h5 h6 => cases h6; exact ⟨v, h5, by rw [(h5.leaf_cells hleaf).1]⟩
   ·exact ⟨.agg (us.take kk).toArray, .agg _ _ h3, by simp [Value.cells]⟩
  obtain ⟨v, hv, hvc⟩ := hx
  refine ⟨v :: vs, .cons _ _ _ _ hv hv1, ?_, ?_⟩
  ·intro u hu2
   rcases List.mem_cons.1 hu2 with rfl | hu2
   ·have : u.cells.toList.length = kk := by rw [hvc, hl3, hxk]
    simpa using this
   ·exact hv2 u hu2
  ·rw [List.flatMap_cons, hvc, ← hv3, List.take_append_drop]
def OSl (e : TypeId) (k : Nat) (xs : List T) (v : Value) (Hs : Qc) : Prop :=
 (xs = [] ∧ (∃ p, v = .slice p 0 0) ∧ Hs = []) ∨ ∃ b c, v = .slice (some ⟨b, 0, none⟩) xs.length c ∧ xs.length ≤ c ∧ Hs = [(b, ⟨e, xs.flatMap T.cells, c * k⟩)]
theorem Yy {e : TypeId} {k : Nat} : OSl e k [] (.slice none 0 0) [] := .inl ⟨rfl, ⟨_, rfl⟩, rfl⟩
theorem Ug {e : TypeId} {k : Nat} {p : Option Addr} : OSl e k [] (.slice p 0 0) [] := .inl ⟨rfl, ⟨_, rfl⟩, rfl⟩
theorem OSl.len {e : TypeId} {k : Nat} {xs : List T} {v : Value} (h : OSl e k xs v Hs) : ∃ p c, v = .slice p xs.length c := by
 rcases h with ⟨rfl, ⟨p, rfl⟩, _⟩ | ⟨b, c, rfl, _⟩
 ·exact ⟨_, _, rfl⟩
 ·exact ⟨_, _, rfl⟩
theorem OSl.lends {e : TypeId} {k : Nat} {xs ys : List T} {v : Value} (h : OSl e k xs v Hs) (hG : ∀ p ∈ Hs, p ∈ G) (hl : Qg G (xs.flatMap T.cells) (ys.flatMap T.cells)) (hn : xs.length = ys.length) (hkx : ∀ x ∈ xs, x.cells.length = k) (hk : ∀ y ∈ ys, y.cells.length = k) (hs : ∀ y ∈ ys, y.solid) : Qu G (.v v) (.sl false ys) := by
 intro S w u ho hr
 have := hr.v_eq
 subst this
 rcases h with ⟨rfl, ⟨p, rfl⟩, _⟩ | ⟨b, c, rfl, hc, rfl⟩
 ·have : ys = [] := by cases ys <;> simp_all
  subst this
  exact .nil _ _ _ (by simp)
 ·have hb : (b, (⟨e, xs.flatMap T.cells, c * k⟩ : Blk)) ∈ G := hG _ List.mem_cons_self
  obtain ⟨cs, h1, h2, h3, h4⟩ := ho.has _ hb
  simp only at h1 h2 h3 h4
  have h5 := hl S w _ ho h4
  obtain ⟨vs, hv1, hv2, hv3⟩ := OL ys _ h5 hk hs
  have hvl := hv1.length
  have hfl : (xs.flatMap T.cells).length = xs.length * k := X6 xs hkx
  have hrel := Rel.sl (S := fun b => S b ∨ b ∈ keys G) (w := w) false ys b 0 c vs k cs e (0, 0) (.inr (List.mem_map.2 ⟨_, hb, rfl⟩)) h1 hv1 ⟨hv2, by rw [List.drop_zero, ← hv3, hfl, hvl, hn]⟩ (by simp) (by omega)
  rw [hvl, ← hn] at hrel
  exact hrel
theorem OSl.lend {e : TypeId} {k : Nat} {xs : List T} {v : Value} (h : OSl e k xs v Hs) (hG : ∀ p ∈ Hs, p ∈ G) (hk : ∀ y ∈ xs, y.cells.length = k) (hs : ∀ y ∈ xs, y.solid) : Qu G (.v v) (.sl false xs) :=
 h.lends hG (Qg.le (LeL.refl _)) rfl hk hk hs
def YT (G : Qc) (t : Env) : Env → Prop
 | [] => True
 | (k, d) :: r => Qu G (t.get k) d ∧ YT G t r
theorem YT.get : ∀ {rs : Env}, YT G t rs → ∀ k, Qu G (t.get k) (Env.get (rs ++ t) k)
 | [], _, k => Qu.le (Le.refl _)
 | (j, d) :: r, h, k => by
  by_cases hk : j = k
  ·subst hk
   have : Env.get (((j, d) :: r) ++ t) j = d := by simp [Env.get]
   rw [this]; exact h.1
  ·have : Env.get (((j, d) :: r) ++ t) k = Env.get (r ++ t) k := by simp [Env.get, Zw hk]
   rw [this]; exact YT.get h.2 k
theorem In {rs : Env} (hp : H.Perm (G ++ H1)) (hl : YT G t rs) {a : Act} (hR : R K t H a w) : R K (rs ++ t) H1 a w := by
 obtain ⟨S, hr⟩ := hR.perm hp
 have hst : QI (keys G) S w (fun b => S b ∨ b ∈ keys G) w := ⟨rfl, rfl, rfl, Nat.le_refl _, fun _ _ _ => rfl, fun _ h => .inl h, fun c hc => hc.elim .inl fun e => .inr (.inr e),
  fun c hc => hc.elim (hr.wf c) fun e => hr.own.left.lt c e⟩
 refine ⟨fun b => S b ∨ b ∈ keys G, hr.size, ⟨hr.defers.low, hr.defers.marks, fun j hj => hr.defers.flags j fun u hu => hj u (YT.get hl _ S w u hr.own.left hu)⟩, hr.step.trans hst (fun b hb => hr.mine b (by rw [Qk]; exact List.mem_append_left _ hb)), ⟨hr.own.right.nodup, fun b hb hS => ?_, fun p hp' => (hr.own.right.has p hp').mono rfl fun b hb => ⟨.inl hb, rfl⟩⟩,
  fun b hb => hr.mine b (by rw [Qk]; exact List.mem_append_right _ hb), fun k => YT.get hl k S w _ hr.own.left (hr.env k)⟩
 rcases hS with h | h
 ·exact hr.own.right.apart b hb h
 ·exact hr.own.disj b h hb
theorem Y6 {c : Code} {G H1 : Qc} (rs : Env) (hp : H.Perm (G ++ H1)) (hl : YT G t rs) (h : Sim K c (rs ++ t) H1 Ψ) : Sim K c t H Ψ := fun a w hr => h a w (In hp hl hr)
theorem GN {ops : Array Oper} {i : Nat} {l : List Oper} {G H1 : Qc} (rs : Env) (hp : H.Perm (G ++ H1)) (hl : YT G t rs) (h : Qe K ops i l (rs ++ t) H1 N) : Qe K ops i l t H N := fun hl' a w Q hr hq => h hl' a w Q (In hp hl hr) hq
theorem Le.slice0 (p : Option Addr) (f : Bool) : Le (.v (.slice p 0 0)) (.sl f []) := by
 intro S w u hu
 cases hu; exact .nil f p 0 (fun _ => rfl)
def T.isV : T → Bool
 | .v _ => true
 | _ => false
def T.plain : T → Bool
 | .v _ => true
 | .tup xs => xs.all T.isV
 | _ => false
theorem JN {S S' : Nat → Prop} {w w' : World} : ∀ {xs : List T} {us : List Value}, xs.all T.isV = true → Qq S w xs us → Qq S' w' xs us
 | [], _, _, .nil => .nil
 | x :: xs, _, h, .cons _ _ _ _ h1 h2 => by
  simp only [List.all_cons, Bool.and_eq_true] at h
  refine .cons _ _ _ _ ?_ (JN h.2 h2)
  cases x with
  | v y => have := h1.v_eq; subst this; exact .v _
  | _ => exact absurd h.1 (by simp [T.isV])
theorem Has.plain {S S' : Nat → Prop} {w : World} {b : Nat} {k : Blk} (h : Has S w b k) (hv : k.vals.all T.isV = true) : Has S' w b k := by
 rcases h.cases with ⟨ty, hT, cs, a1, a2, a3, a4⟩ | ⟨es, clock, rfl, ms, h1, h2⟩
 ·obtain ⟨_, xs, n⟩ := k
  cases hT
  exact ⟨cs, a1, a2, a3, JN hv a4⟩
 ·refine ⟨⟨ms, h1, ?_⟩, rfl, rfl⟩
  replace hv : (es.map (·.2.1)).all T.isV = true := hv
  clear h1 h
  generalize ms.toList = l at h2
  induction h2 with
  | nil => exact .nil
  | cons k x n v es ms hx _ ih =>
   simp only [List.map_cons, List.all_cons, Bool.and_eq_true] at hv
   refine .cons k x n v es ms ?_ (ih hv.2)
   cases x with
   | v u => have := hx.v_eq; subst this; exact .v _
   | _ => simp [T.isV] at hv
theorem Wu {S S' : Nat → Prop} {w w' : World} {d : T} {u : Value} (h : d.plain = true) (hr : Rel S w d u) : Rel S' w' d u := by
 cases d with
 | v y => have := hr.v_eq; subst this; exact .v _
 | tup xs => cases hr with | tup _ vs h1 => exact .tup xs vs (JN h h1)
 | _ => simp [T.plain] at h
theorem Yx {f : FuncId} {xs : Array Operand} {ats : Array TypeId} {args args' : List T} {d : T} (hpl : d.plain = true) (hf : FnP P f args' (fun r => r = d)) (hp : ∃ H1, H.Perm (G ++ H1)) (hc : Qy P f = true) (ha' : EvL t xs.toList args) (hl : Qg G args args') :
  POp P t H ⟨dst, .call ⟨.value (.func f), xs, ats⟩, tp, pos, aft, g⟩ d := by
 have ha := ha'.eq
 obtain ⟨H1, hp⟩ := hp
 intro S w a hw ho hx Kc Q hk
 have ho := (ho.perm hp).left
 unfold Oper.wp
 have e : execOp a.eval ⟨dst, .call ⟨.value (.func f), xs, ats⟩, tp, pos, aft, g⟩ = callFunc f (#[] ++ xs.map a.eval ++ #[]) := rfl
 rw [e, Y8 hc]
 simp only [Oper.upon]
 have hr : Qq S w args (xs.toList.map a.eval) := ha ▸ ZI xs.toList fun x h => hx x (by simp [Op.operands, Call.operands]; exact .inr (by simpa using h))
 have hw' : Wf (fun b => S b ∨ b ∈ keys G) w := fun b hb => hb.elim (hw b) (ho.lt b)
 have := hf _ w _ hw' (Own.nil _ w) (hl S w _ ho hr)
 have e2 : (xs.toList.map a.eval).toArray = #[] ++ xs.map a.eval ++ #[] := by apply Array.ext'; simp
 rw [← e2]
 refine this.mono ?_
 rintro e w' ⟨u, S', r, H', rfl, ⟨rfl, rfl⟩, hrel, _, hst, _⟩
 exact hk S w' u ⟨hst.os, hst.tape, hst.output, hst.size, hst.keep, fun _ h => h, fun _ h => .inl h, fun b hb => Nat.lt_of_lt_of_le (hw b hb) hst.size⟩ (Wu hpl hrel)
theorem Yz {x y : Operand} {e : TypeId} {k : Nat} {xs ys : List T} {v : Value} {A B : Qc} {f : Bool} {dy d : T} {by_ : Nat} [hz : QD K.P ty d by_] (ho : OSl e k xs v Hs) (hH : H = A ++ (Hs ++ B)) (hx : t.ev x = .v v) (hy : t.ev y = dy) (hyl : Le dy (.sl f ys)) (h0 : 0 < ys.length)
  (hkd : d.cells.length = k) (hk0 : Xd K.P ty = e) (hs : QL K.P ty' = true) (hkx : ∀ x ∈ xs, x.cells.length = k) (hky : ∀ x ∈ ys, x.cells.length = k) (hyleaf : ∀ x ∈ ys, QB x.cells = true) (hb : (xs.length + ys.length) * by_ ≤ 140737488355328) (hm : xs.length + ys.length ≤ 9223372036854775807)
  {kd : Tmp} (hd : Nat.blt kd K.n = true) (h : ∀ v' Hs', OSl e k (xs ++ ys) v' Hs' → N ((kd, .v v') :: t) (A ++ (Hs' ++ B))) : EOp K t H ⟨some kd, .call ⟨.builtin .append, #[x, y], #[ty, ty']⟩, tp, pos, aft, g⟩ N := by
 subst hkd
 rcases ho with ⟨rfl, ⟨p, rfl⟩, rfl⟩ | ⟨b, c, rfl, hc, rfl⟩
 ·refine RT (VU (xs := []) (ys := ys) hx (Le.slice0 p true) hy hyl hs (by simp) hky h0 (by simpa using hb) (by simpa using hm) hd fun b c hb' hc' => ?_)
  refine ⟨A ++ ([(b, ⟨e, ys.flatMap T.cells, c * d.cells.length⟩)] ++ B), ?_, ?_⟩
  ·subst hH
   rw [← hk0]
   simp only [List.nil_append, List.flatMap_nil]
   exact List.perm_middle.symm
  ·have := h (.slice (some ⟨b, 0, none⟩) ys.length c) [(b, ⟨e, ys.flatMap T.cells, c * d.cells.length⟩)] (.inr ⟨b, c, by simp, by simpa using hc', by simp⟩)
   simpa using this
 ·have hi : H[A.length]? = some (b, (⟨e, xs.flatMap T.cells, c * d.cells.length⟩ : Blk)) := by subst hH; simp
  refine VS A.length hx hi hy hyl hs (congrArg BTy.ty hk0.symm) (X6 xs hkx) rfl hky hyleaf hb hm hd fun b' c' h1 h2 => ?_
  have e1 : H.set A.length (b', ⟨e, xs.flatMap T.cells ++ ys.flatMap T.cells, c' * d.cells.length⟩) = A ++ ([(b', ⟨e, (xs ++ ys).flatMap T.cells, c' * d.cells.length⟩)] ++ B) := by
   subst hH
   rw [List.set_append_right _ _ (Nat.le_refl _)]
   simp
  rw [e1]
  have := h (.slice (some ⟨b', 0, none⟩) (xs.length + ys.length) c') _ (.inr ⟨b', c', by simp, by simpa using h2, rfl⟩)
  exact this
variable {ops : Array Oper} {i : Nat} {l : List Oper} {kd : Tmp} {eff : List Nat} {pend : List Q9} {al : List (Nat × Oper)}
theorem Cn {x y : Operand} {e : TypeId} {k : Nat} {xs ys : List T} {v : Value} {A B : Qc} {f : Bool} {dy d : T} {by_ : Nat} [hz : QD K.P ty d by_] (ho : OSl e k xs v Hs) (hkx : ∀ x ∈ xs, x.cells.length = k)
  (h : ∀ v' Hs', OSl e k (xs ++ ys) v' Hs' → Qe K ops (i + 1) l ((kd, .v v') :: t) (A ++ (Hs' ++ B)) N) (hH : H = A ++ (Hs ++ B) := by rfl) (hx : t.ev x = .v v := by exact zl) (hy : t.ev y = dy := by exact zl) (hyl : Le dy (.sl f ys) := by exact zL) (h0 : 0 < ys.length := by exact zo)
  (hkd : d.cells.length = k := by rfl) (hk0 : Xd K.P ty = e := by rfl) (hs : QL K.P ty' = true := by rfl) (hky : ∀ x ∈ ys, x.cells.length = k := by exact zk) (hyleaf : ∀ x ∈ ys, QB x.cells = true := by exact zf)
  (hb : (xs.length + ys.length) * by_ ≤ 140737488355328 := by exact zo) (hm : xs.length + ys.length ≤ 9223372036854775807 := by exact zo) (hd : Nat.blt kd K.n = true := by rfl) :
  Qe K ops i (⟨some kd, .call ⟨.builtin .append, #[x, y], #[ty, ty']⟩, tp, pos, aft, none⟩ :: l) t H N := Yn (Yz ho hH hx hy hyl h0 hkd hk0 hs hkx hky hyleaf hb hm hd h)
theorem BH {x y : Operand} {e : TypeId} {k : Nat} {xs ys : List T} {v : Value} {A B : Qc} {f : Bool} {dy d : T} {by_ : Nat} [hz : QD K.P ty d by_] (ho : OSl e k xs v Hs) (hkx : ∀ x ∈ xs, x.cells.length = k)
  (h : ∀ v' Hs', OSl e k (xs ++ ys) v' Hs' → XF ops ⟨some kd, .call ⟨.builtin .append, #[x, y], #[ty, ty']⟩, tp, pos, aft, none⟩ (A ++ (Hs' ++ B)) pend ∧ ∃ pend', XA ops ⟨some kd, .call ⟨.builtin .append, #[x, y], #[ty, ty']⟩, tp, pos, aft, none⟩ pend pend' ∧ Qj K ops eff N al ((kd, .v v') :: t) (A ++ (Hs' ++ B)) pend') (hH : H = A ++ (Hs ++ B) := by rfl) (hx : t.ev x = .v v := by exact zl) (hy : t.ev y = dy := by exact zl) (hyl : Le dy (.sl f ys) := by exact zL) (h0 : 0 < ys.length := by exact zo)
  (hkd : d.cells.length = k := by rfl) (hk0 : Xd K.P ty = e := by rfl) (hs : QL K.P ty' = true := by rfl) (hky : ∀ x ∈ ys, x.cells.length = k := by exact zk) (hyleaf : ∀ x ∈ ys, QB x.cells = true := by exact zf)
  (hb : (xs.length + ys.length) * by_ ≤ 140737488355328 := by exact zo) (hm : xs.length + ys.length ≤ 9223372036854775807 := by exact zo) (hd : Nat.blt kd K.n = true := by rfl) (he : QN eff i = true := by rfl) :
  Qj K ops eff N ((i, ⟨some kd, .call ⟨.builtin .append, #[x, y], #[ty, ty']⟩, tp, pos, aft, none⟩) :: al) t H pend :=
 V3 (fun _ h1 => Yz ho hH ((h1 x (by simp [Op.operands, Call.operands])).trans hx) ((h1 y (by simp [Op.operands, Call.operands])).trans hy) hyl h0 hkd hk0 hs hkx hky hyleaf hb hm hd fun v' Hs' ho' => let ⟨h1, p', h2, h3⟩ := h v' Hs' ho'; ⟨_, p', rfl, h1, h2, h3⟩) he
theorem kR : ∀ {H : Qc}, Qh H H
 | [] => .nil []
 | (b, k) :: r => .keep b k k r r (X9.refl k) kR
theorem kH {r r' : Qc} (hs : Qh r r') : ∀ {A : Qc}, Qh (A ++ r) (A ++ r')
 | [] => hs
 | (b, k) :: A => .keep b k k _ _ (X9.refl k) (kH hs)
theorem Be {f : FuncId} {xs : Array Operand} {ats : Array TypeId} {args args' : List T} {d : T} (hf : FnP P f args' (fun r => r = d)) (hl : Qg G args args') (hp : ∃ H1, H.Perm (G ++ H1)) (hc : Qy P f = true := by rfl) (ha' : EvL t xs.toList args := by exact ze) (hpl : d.plain = true := by rfl) :
  POp P t H ⟨dst, .call ⟨.value (.func f), xs, ats⟩, tp, pos, aft, g⟩ d := Yx hpl hf hp hc ha' hl
theorem BI {f : FuncId} {xs : Array Operand} {ats : Array TypeId} {args args' : List T} {d : T} (hf : FnP K.P f args' (fun r => r = d)) (hl : Qg G args args') (hp : ∃ H1, H.Perm (G ++ H1))
  (h : Qj K ops eff N al ((kd, d) :: t) H (⟨i, ⟨some kd, .call ⟨.value (.func f), xs, ats⟩, tp, pos, aft, none⟩, d, fun H => ∃ H1, H.Perm (G ++ H1)⟩ :: pend)) (hc : Qy K.P f = true := by rfl) (ha' : EvL t xs.toList args := by exact ze) (hpl : d.plain = true := by rfl) (he : QN eff i = false := by rfl) :
  Qj K ops eff N ((i, ⟨some kd, .call ⟨.value (.func f), xs, ats⟩, tp, pos, aft, none⟩) :: al) t H pend := a_F (F := fun H => ∃ H1, H.Perm (G ++ H1)) (fun _ hp' => Yx hpl hf hp' hc ha' hl) hp h he
end
section
variable {K : Ctx} {P : Program} {t : Env} {H Hr Hs : Qc} {dst : Option Tmp} {tp : TypeId} {pos : String} {aft : Array Edge} {g : Option (Nat × Bool)} {N : Env → Qc → Prop}
variable {S : Nat → Prop} {w : World} {ty ty' : TypeId} {x y : Operand} {d : T} {k k' : IntKind} {a b : Int}
theorem EvL.rel {xs : List Operand} {ds : List T} (h : EvL t xs ds) {a : Act} (hr : ∀ x ∈ xs, Rel S w (t.ev x) (a.eval x)) : Qq S w ds (xs.map a.eval) := h.eq ▸ ZI xs hr
theorem Ll {f : FuncId} {fs cs : Array Operand} {ds es : List T} (h1 : EvL t fs.toList ds) (h2 : EvL t cs.toList es) : POp P t H ⟨dst, .makeFunc (.func f) fs cs, tp, pos, aft, g⟩ (.clo f ds es) :=
 POp.still fun S w a _ _ hr => by
  have r1 := h1.rel (a := a) fun x hx => hr x (by simp [Op.operands]; exact .inl (by simpa using hx))
  have r2 := h2.rel (a := a) fun x hx => hr x (by simp [Op.operands]; exact .inr (by simpa using hx))
  refine ⟨_, by simp [execOp, Instr.makeFunc]; rfl, ?_⟩
  have := Rel.clo f ds es _ _ r1 r2
  have e1 : (fs.toList.map a.eval).toArray = fs.map a.eval := by apply Array.ext'; simp
  have e2 : (cs.toList.map a.eval).toArray = cs.map a.eval := by apply Array.ext'; simp
  rw [e1, e2] at this
  exact this
theorem ID {f : FuncId} (h : Qy P f = true) {c : Call} {a : Act} {us vs : List Value} {x : Operand} (hc : c.callee = .value x) (hx : a.eval x = .func (.func f) us.toArray vs.toArray) (w : World) :
  (execOp a.eval ⟨dst, .call c, tp, pos, aft, g⟩).run P w = .ok (.enter f (us ++ c.args.toList.map a.eval ++ vs).toArray) w := by
 have : (execOp a.eval ⟨dst, .call c, tp, pos, aft, g⟩).run P w = (callFunc f (us.toArray ++ c.args.map a.eval ++ vs.toArray)).run P w := by
  simp [execOp, resolve, hc, hx, Deferred.ofValue, invoke]
 rw [this, Y8 h]
 congr 2
 apply Array.ext'
 simp
theorem GX {f : FuncId} {xs : Array Operand} {ats : Array TypeId} {fs cs args : List T} {Φ : T → Qc → Prop} (hx : t.ev x = .clo f fs cs) (hf : FnH K.P f (fs ++ args ++ cs) Hs Φ) (hp : H.Perm (Hs ++ Hr)) (hc : Qy K.P f = true) (ha : EvL t xs.toList args)
  (hd : Xi dst K.n = true) (hn : ∀ r H', Φ r H' → N (t.put dst r) (H' ++ Hr)) : EOp K t H ⟨dst, .call ⟨.value x, xs, ats⟩, tp, pos, aft, g⟩ N := by
 refine EOp.of_w (fun c e => by cases e) ?_
 intro a w hR Kc Q hk
 obtain ⟨S, hr⟩ := hR.perm hp
 have h1 := hr.env.ev x; rw [hx] at h1
 generalize hu : a.eval x = u at h1
 cases h1 with
 | clo _ _ _ us vs r1 r2 =>
  unfold Oper.wp
  rw [ID hc rfl hu]
  simp only [Oper.upon]
  have r3 := ha.rel (a := a) fun x _ => hr.env.ev x
  refine (hf S w _ hr.wf hr.own.left ((r1.append r3).append r2)).mono ?_
  rintro e w' ⟨u, S', r, H', rfl, hΦ, hrel, hown, hst, hkeys⟩
  exact hk _ _ _ _ (hn r H' hΦ) ⟨S', hr.called hown hst hkeys hd hrel⟩
def T.there : T → Bool
 | .adr _ | .v (.pointer (some _)) | .clo .. => true
 | _ => false
theorem Lk (hx : t.ev x = d) (hd : d.there = true) : POp P t H ⟨dst, .nilCheck x, tp, pos, aft, g⟩ d :=
 POp.still fun S w a _ _ hr => by
  have h1 := hr x (by simp [Op.operands]); rw [hx] at h1
  refine ⟨a.eval x, ?_, h1⟩
  generalize hu : a.eval x = u at h1
  cases h1 with
  | adr => simp [execOp, hu]
  | clo => simp [execOp, hu]
  | v u =>
   cases u with
   | pointer p => cases p <;> simp_all [T.there, execOp]
   | _ => simp [T.there] at hd
  | _ => simp [T.there] at hd
theorem O0 (hx : t.ev x = .v (.int k a)) (h1 : (P.underlying ty).isSome = true) (h2 : P.underlying ty' = some (.int k')) : POp P t H ⟨dst, .convert ty ty' x, tp, pos, aft, g⟩ (.v (.int k' (k'.wrap a))) :=
 POp.still fun S w c _ _ hr => by
  have hv := hr x (by simp [Op.operands]); rw [hx] at hv
  obtain ⟨u, hu⟩ := Option.isSome_iff_exists.1 h1
  refine ⟨.int k' (k'.wrap a), ?_, .v _⟩
  have : (convert ty ty' (.int k a)).run P w = .ok (.int k' (k'.wrap a)) w := by
   unfold convert
   simp [run_underlying hu, run_underlying h2, Conv.intToInt]
  simp [execOp, hv.v_eq, this]
variable {ops : Array Oper} {i n : Nat} {l : List Oper} {kd : Tmp} {Ψ : Exit → Env → Qc → Prop} {eff : List Nat} {pend : List Q9} {al : List (Nat × Oper)}
theorem Uf {f : FuncId} {fs cs : Array Operand} {ds es : List T} (h1 : EvL t fs.toList ds := by exact ze) (h2 : EvL t cs.toList es := by exact ze) : POp P t H ⟨dst, .makeFunc (.func f) fs cs, tp, pos, aft, g⟩ (.clo f ds es) := Ll h1 h2
theorem Qf (hx : t.ev x = d := by exact zl) (hd : d.there = true := by rfl) : POp P t H ⟨dst, .nilCheck x, tp, pos, aft, g⟩ d := Lk hx hd
theorem Ya (hx : t.ev x = .v (.int k a) := by exact zl) (h1 : (P.underlying ty).isSome = true := by rfl) (h2 : P.underlying ty' = some (.int k') := by rfl) : POp P t H ⟨dst, .convert ty ty' x, tp, pos, aft, g⟩ (.v (.int k' (k'.wrap a))) := O0 hx h1 h2
theorem Vu (hx : t.ev x = .v (.int k a) := by exact zl) (hy : t.ev y = .v (.int k b) := by exact zl) : POp P t H ⟨dst, .binOp .add ty x y ty', tp, pos, aft, g⟩ (.v (.int k (k.wrap (a + b)))) := Ee hx hy
theorem BT (hx : t.ev x = .v (.int k a) := by exact zl) (hy : t.ev y = .v (.int k b) := by exact zl) : POp P t H ⟨dst, .binOp .mul ty x y ty', tp, pos, aft, g⟩ (.v (.int k (k.wrap (a * b)))) := Ed hx hy
def V0 (k : IntKind) (a b : Int) : Int := k.wrap (BitVec.ofInt k.bits a &&& BitVec.ofInt k.bits b).toNat
def bOr (k : IntKind) (a b : Int) : Int := k.wrap (BitVec.ofInt k.bits a ||| BitVec.ofInt k.bits b).toNat
def M0 (k : IntKind) (a b : Int) : Int := k.wrap (BitVec.ofInt k.bits a ^^^ BitVec.ofInt k.bits b).toNat
def Zh (k : IntKind) (a b : Int) : Int := k.wrap (a * 2 ^ (min b.toNat k.bits))
def VZ (k : IntKind) (a b : Int) : Int := a.fdiv (2 ^ (min b.toNat k.bits))
theorem JH (hx : t.ev x = .v (.int k a) := by exact zl) (hy : t.ev y = .v (.int k b) := by exact zl) : POp P t H ⟨dst, .binOp .and ty x y ty', tp, pos, aft, g⟩ (.v (.int k (V0 k a b))) := IV hx hy
theorem UU (hx : t.ev x = .v (.int k a) := by exact zl) (hy : t.ev y = .v (.int k b) := by exact zl) : POp P t H ⟨dst, .binOp .or ty x y ty', tp, pos, aft, g⟩ (.v (.int k (bOr k a b))) := C7 hx hy
theorem CG (hx : t.ev x = .v (.int k a) := by exact zl) (hy : t.ev y = .v (.int k b) := by exact zl) : POp P t H ⟨dst, .binOp .xor ty x y ty', tp, pos, aft, g⟩ (.v (.int k (M0 k a b))) := IF hx hy
theorem Ue (hx : t.ev x = .v (.int k a) := by exact zl) (hy : t.ev y = .v (.int k' b) := by exact zl) (h : 0 ≤ b := by exact zo) : POp P t H ⟨dst, .binOp .shl ty x y ty', tp, pos, aft, g⟩ (.v (.int k (Zh k a b))) := II hx hy h
theorem Zt (hx : t.ev x = .v (.int k a) := by exact zl) (hy : t.ev y = .v (.int k' b) := by exact zl) (h : 0 ≤ b := by exact zo) : POp P t H ⟨dst, .binOp .shr ty x y ty', tp, pos, aft, g⟩ (.v (.int k (VZ k a b))) := IH hx hy h
theorem YQ {b o n k : Nat} {i : Int} {kd : IntKind} [hs : CB P ty n k] (hx : t.ev x = .v (.pointer (some ⟨b, o, none⟩)) := by exact zl) (hy : t.ev y = .v (.int kd i) := by exact zl) (h0 : 0 ≤ i := by exact zo) (h1 : i < n := by exact zo) :
  POp P t H ⟨dst, .indexAddr ty x y, tp, pos, aft, g⟩ (.v (.pointer (some ⟨b, o + i.toNat * k, none⟩))) := Ua hx hy h0 h1
theorem QU {f : FuncId} {xs : Array Operand} {ats : Array TypeId} {args : List T} {Φ : T → Qc → Prop} (hf : FnH K.P f args Hs Φ) (hp : H.Perm (Hs ++ Hr)) (hn : ∀ r H', Φ r H' → Qe K ops (i + 1) l (t.put dst r) (H' ++ Hr) N) (hc : Qy K.P f = true := by rfl) (ha' : EvL t xs.toList args := by exact ze)
  (hd : Xi dst K.n = true := by rfl) : Qe K ops i (⟨dst, .call ⟨.value (.func f), xs, ats⟩, tp, pos, aft, none⟩ :: l) t H N := Uk rfl (Yo hf hp hc ha' hd hn)
theorem JV {f : FuncId} {xs : Array Operand} {ats : Array TypeId} {fs cs args : List T} {Φ : T → Qc → Prop} (hf : FnH K.P f (fs ++ args ++ cs) Hs Φ) (hp : H.Perm (Hs ++ Hr)) (hn : ∀ r H', Φ r H' → Qe K ops (i + 1) l (t.put dst r) (H' ++ Hr) N) (hx : t.ev x = .clo f fs cs := by exact zl) (hc : Qy K.P f = true := by rfl) (ha : EvL t xs.toList args := by exact ze)
  (hd : Xi dst K.n = true := by rfl) : Qe K ops i (⟨dst, .call ⟨.value x, xs, ats⟩, tp, pos, aft, none⟩ :: l) t H N := Uk rfl (GX hx hf hp hc ha hd hn)
end
end Go.Cap
