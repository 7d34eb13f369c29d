/-
  The rules in short: what can be looked up is looked up.
-/
import Derived.Test.YtjbokbikkcfjjaaGreatAag
section
namespace Go.Cap
theorem map_getI' {α : Type} [Inhabited α] {f : α → T} {l : List α} {i : Int} (h : i.toNat < l.length) : (l.map f)[i.toNat]? = some (f (l.getD i.toNat default)) := by simp [h]
section
variable {K : Ctx} {P : Program} {t : Env} {H H' : Heap} {dst : Option Tmp} {tp : TypeId} {pos : String} {aft : Array Edge} {g : Option (Nat × Bool)} {N : Env → Heap → Prop} {Ψ : Exit → Env → Heap → Prop}
variable {ty ty' : TypeId} {x y c : Operand} {d e dx dy : T} {k k' : IntKind} {a b : Int} {op : Op} {ops : Array Oper} {i j n kg : Nat} {l : List Oper} {kd : Tmp} {p q r : Prop} {ip : Decidable p} {iq : Decidable q} {ir : Decidable r}
theorem u_ (hp : p) (h : autoParam (t.ev x = T.gp p ip d) zl._auto_1) : t.ev x = d := ev_un h hp
theorem cn (h : N t H) : SimFrom K ops i [] t H N := from_nil h
theorem cq {x y : Code} (h : Sim K x t H (thenΨ K y Ψ)) : Sim K (.seq x y) t H Ψ := sim_seq h
theorem ck (h : Ψ .normal t H) : Sim K .skip t H Ψ := sim_skip h
theorem cl {l : Nat} (h : Ψ .normal t H) : Sim K (.label l) t H Ψ := sim_label h
theorem cx {id : Nat} (h : Ψ (.exit id) t H) : Sim K (.exit id) t H Ψ := sim_exit h
theorem cb {id : Nat} {c : Code} (h : Sim K c t H (blockΨ id Ψ)) : Sim K (.block id c) t H Ψ := sim_block h
theorem cr {id : Nat} (h : SimFrom K ops 0 ops.toList t H (Ψ .normal)) : Sim K (.region id ops false) t H Ψ := sim_region h
theorem ci {x y : Code} (ht : p → Sim K x t H Ψ) (hf : ¬ p → Sim K y t H Ψ) (hc : autoParam (t.ev c = .v (.bool (decide p))) zl._auto_1) : Sim K (.cond c x y) t H Ψ := sim_cond hc ht hf
-- one more operation, in the order of the text
theorem s_ (hp : POp K.P t H ⟨some kd, op, tp, pos, aft, none⟩ d) (h : SimFrom K ops (i + 1) l ((kd, d) :: t) H N) (hd : Nat.blt kd K.n = true := by rfl) :
    SimFrom K ops i (⟨some kd, op, tp, pos, aft, none⟩ :: l) t H N := from_s hp hd h
theorem gT (hp : p → POp K.P t H ⟨some kd, op, tp, pos, aft, some (j, true)⟩ d) (h : SimFrom K ops (i + 1) l ((kd, T.gp p inferInstance d) :: t) H N) (hj : (ops[j]?).bind (·.dst) = some kg := by rfl)
    (hb : autoParam (t.get kg = .v (.bool (decide p))) zG._auto_1) (hd : Nat.blt kd K.n = true := by rfl) : SimFrom K ops i (⟨some kd, op, tp, pos, aft, some (j, true)⟩ :: l) t H N := from_gT hj hb hp hd h
theorem gF (hp : ¬ p → POp K.P t H ⟨some kd, op, tp, pos, aft, some (j, false)⟩ d) (h : SimFrom K ops (i + 1) l ((kd, T.gp (¬ p) inferInstance d) :: t) H N) (hj : (ops[j]?).bind (·.dst) = some kg := by rfl)
    (hb : autoParam (t.get kg = .v (.bool (decide p))) zG._auto_1) (hd : Nat.blt kd K.n = true := by rfl) : SimFrom K ops i (⟨some kd, op, tp, pos, aft, some (j, false)⟩ :: l) t H N := from_gF hj hb hp hd h
theorem hT (hp : p ∧ q → POp K.P t H ⟨some kd, op, tp, pos, aft, some (j, true)⟩ d) (h : SimFrom K ops (i + 1) l ((kd, T.gp (p ∧ q) inferInstance d) :: t) H N) (hj : (ops[j]?).bind (·.dst) = some kg := by rfl)
    (hb : autoParam (t.get kg = T.gp p ip (.v (.bool (decide q)))) zG._auto_1) (hd : Nat.blt kd K.n = true := by rfl) : SimFrom K ops i (⟨some kd, op, tp, pos, aft, some (j, true)⟩ :: l) t H N := from_hT hj hb hp hd h
theorem hF (hp : p ∧ ¬ q → POp K.P t H ⟨some kd, op, tp, pos, aft, some (j, false)⟩ d) (h : SimFrom K ops (i + 1) l ((kd, T.gp (p ∧ ¬ q) inferInstance d) :: t) H N) (hj : (ops[j]?).bind (·.dst) = some kg := by rfl)
    (hb : autoParam (t.get kg = T.gp p ip (.v (.bool (decide q)))) zG._auto_1) (hd : Nat.blt kd K.n = true := by rfl) : SimFrom K ops i (⟨some kd, op, tp, pos, aft, some (j, false)⟩ :: l) t H N := from_hF hj hb hp hd h
-- what is yielded
theorem p_mv (hx : autoParam (t.ev x = d) zl._auto_1) : POp P t H ⟨dst, .move x, tp, pos, aft, g⟩ d := pop_move hx
theorem p_as (hx : autoParam (t.ev x = d) zl._auto_1) : POp P t H ⟨dst, .assign x, tp, pos, aft, g⟩ d := pop_assign hx
theorem p_or {ir : Decidable (¬ p)} (hc : autoParam (t.ev c = .v (.bool (decide p))) zl._auto_1) (hx : autoParam (t.ev x = .v (.bool true)) zl._auto_1) (hy : autoParam (t.ev y = T.gp (¬ p) ir (.v (.bool (decide q)))) zl._auto_1) :
    POp P t H ⟨dst, .pick c x y, tp, pos, aft, g⟩ (.v (.bool (decide (p ∨ q)))) := pop_pick_or hc hx hy
theorem p_an (hc : autoParam (t.ev c = .v (.bool (decide p))) zl._auto_1) (hx : autoParam (t.ev x = T.gp p ip (.v (.bool (decide q)))) zl._auto_1) (hy : autoParam (t.ev y = .v (.bool false)) zl._auto_1) :
    POp P t H ⟨dst, .pick c x y, tp, pos, aft, g⟩ (.v (.bool (decide (p ∧ q)))) := pop_pick_and hc hx hy
theorem p_orN {ir : Decidable (r ∧ ¬ p)} {i2 : Decidable r} (hr : r) (hc : autoParam (t.ev c = T.gp r i2 (.v (.bool (decide p)))) zl._auto_1) (hx : autoParam (t.ev x = .v (.bool true)) zl._auto_1) (hy : autoParam (t.ev y = T.gp (r ∧ ¬ p) ir (.v (.bool (decide q)))) zl._auto_1) :
    POp P t H ⟨dst, .pick c x y, tp, pos, aft, g⟩ (.v (.bool (decide (p ∨ q)))) := pop_pick_orN hc hx hy hr
theorem p_anN {ir : Decidable (r ∧ p)} {i2 : Decidable r} (hr : r) (hc : autoParam (t.ev c = T.gp r i2 (.v (.bool (decide p)))) zl._auto_1) (hx : autoParam (t.ev x = T.gp (r ∧ p) ir (.v (.bool (decide q)))) zl._auto_1) (hy : autoParam (t.ev y = .v (.bool false)) zl._auto_1) :
    POp P t H ⟨dst, .pick c x y, tp, pos, aft, g⟩ (.v (.bool (decide (p ∧ q)))) := pop_pick_andN hc hx hy hr
theorem p_eq (hx : autoParam (t.ev x = .v (.int k a)) zl._auto_1) (hy : autoParam (t.ev y = .v (.int k b)) zl._auto_1) : POp P t H ⟨dst, .binOp .eql ty x y ty', tp, pos, aft, g⟩ (.v (.bool (decide (a = b)))) := pop_eql hx hy
theorem p_ne (hx : autoParam (t.ev x = .v (.int k a)) zl._auto_1) (hy : autoParam (t.ev y = .v (.int k b)) zl._auto_1) : POp P t H ⟨dst, .binOp .neq ty x y ty', tp, pos, aft, g⟩ (.v (.bool (decide (¬ a = b)))) := pop_neq hx hy
theorem p_eqB (hx : autoParam (t.ev x = .v (.bool (decide p))) zl._auto_1) (hy : autoParam (t.ev y = .v (.bool (decide q))) zl._auto_1) (hu : P.underlying ty = some .bool := by rfl) : POp P t H ⟨dst, .binOp .eql ty x y ty', tp, pos, aft, g⟩ (.v (.bool (decide (p ↔ q)))) := pop_eqlB hx hy hu
theorem p_eqS {l m : List UInt8} (hx : autoParam (t.ev x = .v (.string (bs l))) zl._auto_1) (hy : autoParam (t.ev y = .v (.string (bs m))) zl._auto_1) : POp P t H ⟨dst, .binOp .eql ty x y ty', tp, pos, aft, g⟩ (.v (.bool (decide (l = m)))) := pop_eql_bs hx hy
theorem p_lt (hx : autoParam (t.ev x = .v (.int k a)) zl._auto_1) (hy : autoParam (t.ev y = .v (.int k b)) zl._auto_1) : POp P t H ⟨dst, .binOp .lss ty x y ty', tp, pos, aft, g⟩ (.v (.bool (decide (a < b)))) := pop_lss hx hy
theorem p_le (hx : autoParam (t.ev x = .v (.int k a)) zl._auto_1) (hy : autoParam (t.ev y = .v (.int k b)) zl._auto_1) : POp P t H ⟨dst, .binOp .leq ty x y ty', tp, pos, aft, g⟩ (.v (.bool (decide (a ≤ b)))) := pop_leq hx hy
theorem p_gt (hx : autoParam (t.ev x = .v (.int k a)) zl._auto_1) (hy : autoParam (t.ev y = .v (.int k b)) zl._auto_1) : POp P t H ⟨dst, .binOp .gtr ty x y ty', tp, pos, aft, g⟩ (.v (.bool (decide (b < a)))) := pop_gtr hx hy
theorem p_ge (hx : autoParam (t.ev x = .v (.int k a)) zl._auto_1) (hy : autoParam (t.ev y = .v (.int k b)) zl._auto_1) : POp P t H ⟨dst, .binOp .geq ty x y ty', tp, pos, aft, g⟩ (.v (.bool (decide (b ≤ a)))) := pop_geq hx hy
theorem p_ad (hx : autoParam (t.ev x = .v (.int .i64 a)) zl._auto_1) (hy : autoParam (t.ev y = .v (.int .i64 b)) zl._auto_1) (h : autoParam (-9223372036854775808 ≤ a + b ∧ a + b ≤ 9223372036854775807) zo._auto_1) :
    POp P t H ⟨dst, .binOp .add ty x y ty', tp, pos, aft, g⟩ (.v (.int .i64 (a + b))) := pop_add64 hx hy h
theorem p_su (hx : autoParam (t.ev x = .v (.int .i64 a)) zl._auto_1) (hy : autoParam (t.ev y = .v (.int .i64 b)) zl._auto_1) (h : autoParam (-9223372036854775808 ≤ a - b ∧ a - b ≤ 9223372036854775807) zo._auto_1) :
    POp P t H ⟨dst, .binOp .sub ty x y ty', tp, pos, aft, g⟩ (.v (.int .i64 (a - b))) := pop_sub64 hx hy h
theorem p_mu (hx : autoParam (t.ev x = .v (.int .i64 a)) zl._auto_1) (hy : autoParam (t.ev y = .v (.int .i64 b)) zl._auto_1) (h : autoParam (-9223372036854775808 ≤ a * b ∧ a * b ≤ 9223372036854775807) zo._auto_1) :
    POp P t H ⟨dst, .binOp .mul ty x y ty', tp, pos, aft, g⟩ (.v (.int .i64 (a * b))) := pop_mul64 hx hy h
theorem p_re (hx : autoParam (t.ev x = .v (.int k a)) zl._auto_1) (hy : autoParam (t.ev y = .v (.int k b)) zl._auto_1) (h : autoParam (b ≠ 0) zo._auto_1) : POp P t H ⟨dst, .binOp .rem ty x y ty', tp, pos, aft, g⟩ (.v (.int k (a.tmod b))) := pop_rem hx hy h
theorem p_no (hx : autoParam (t.ev x = .v (.bool (decide p))) zl._auto_1) : POp P t H ⟨dst, .unOp .not ty x, tp, pos, aft, g⟩ (.v (.bool (decide (¬ p)))) := pop_notP hx
theorem p_fa {f off : Nat} {ys : List T} [hf : FldC P ty f off 1 false] (hx : autoParam (t.ev x = .adr (.agg ys)) zl._auto_1) (hd : ys[off]? = some d := by rfl) (hl : d.isLeaf = true := by rfl) : POp P t H ⟨dst, .fieldAddr ty x f, tp, pos, aft, g⟩ (.adr d) := pop_fieldAddr hx hd hl
theorem p_fr {f b o off n : Nat} {ag : Bool} [hf : FldC P ty f off n ag] (hx : autoParam (t.ev x = .v (.pointer (some ⟨b, o, none⟩))) zl._auto_1) (hn : Nat.blt 0 n = true := by rfl) :
    POp P t H ⟨dst, .fieldAddr ty x f, tp, pos, aft, g⟩ (.v (.pointer (some ⟨b, o + off, none⟩))) := pop_fieldAddr_raw hx hn
theorem p_ld (hx : autoParam (t.ev x = .adr d) zl._auto_1) (hl : d.isLeaf = true := by rfl) (hk : leafTy P ty = true := by rfl) : POp P t H ⟨dst, .load ty x, tp, pos, aft, g⟩ d := pop_load hx hl hk
theorem p_la {ys : List T} (hx : autoParam (t.ev x = .adr (.agg ys)) zl._auto_1) (hk : aggSz P ty = some ys.length := by rfl) : POp P t H ⟨dst, .load ty x, tp, pos, aft, g⟩ (.agg ys) := pop_load_agg hx hk
theorem p_lo {b o m : Nat} {ty0 : TypeId} {cells : List T} (hx : autoParam (t.ev x = .v (.pointer (some ⟨b, o, none⟩))) zl._auto_1) (hi : autoParam ((b, (⟨ty0, cells, m⟩ : Blk)) ∈ H) zm._auto_1) (hd : cells[o]? = some d := by rfl) (hk : leafTy P ty = true := by rfl) :
    POp P t H ⟨dst, .load ty x, tp, pos, aft, g⟩ d := pop_loadO hx hi hd hk
theorem p_loa {b o n m : Nat} {ty0 : TypeId} {cells cs : List T} [hk : AggC P ty n] (hx : autoParam (t.ev x = .v (.pointer (some ⟨b, o, none⟩))) zl._auto_1) (hi : autoParam ((b, (⟨ty0, cells, m⟩ : Blk)) ∈ H) zm._auto_1) (hc : autoParam (TakeR cells o n cs) zt._auto_1) :
    POp P t H ⟨dst, .load ty x, tp, pos, aft, g⟩ (.agg cs) := pop_loadO_agg hx hi hc
theorem p_fd {f off : Nat} {ys : List T} [hf : FldC P ty f off 1 false] (hx : autoParam (t.ev x = .agg ys) zl._auto_1) (hd : ys[off]? = some d := by rfl) : POp P t H ⟨dst, .field ty x f, tp, pos, aft, g⟩ d := pop_field hx hd
theorem p_ia {f : Bool} {xs : List T} {i : Int} {k : IntKind} (hx : autoParam (t.ev x = .sl f xs) zl._auto_1) (hy : autoParam (t.ev y = .v (.int k i)) zl._auto_1) (hd : xs[i.toNat]? = some d := by first | exact map_get (by assumption) | exact map_getD (zo) | exact map_get (zo) | exact map_getI' (zo) | rfl)
    (h0 : autoParam (0 ≤ i) zo._auto_1) (hs : elemSz P ty = some d.cells.length := by rfl) (hp : Nat.blt 0 d.cells.length = true := by rfl) : POp P t H ⟨dst, .indexAddr ty x y, tp, pos, aft, g⟩ (.adr d) := pop_indexAddr hx hy h0 hd hs hp
theorem p_ir {b o n c k : Nat} {i : Int} {kd : IntKind} [hs : ElemSzC P ty k] (hx : autoParam (t.ev x = .v (.slice (some ⟨b, o, none⟩) n c)) zl._auto_1) (hy : autoParam (t.ev y = .v (.int kd i)) zl._auto_1) (h0 : autoParam (0 ≤ i) zo._auto_1) (h1 : autoParam (i < n) zo._auto_1) :
    POp P t H ⟨dst, .indexAddr ty x y, tp, pos, aft, g⟩ (.v (.pointer (some ⟨b, o + i.toNat * k, none⟩))) := pop_indexAddr_raw hx hy h0 h1
theorem p_ex {i : Nat} {ds : List T} (hx : autoParam (t.ev x = .tup ds) zl._auto_1) (hi : ds[i]? = some d := by rfl) : POp P t H ⟨dst, .extract x i, tp, pos, aft, g⟩ d := pop_extract hx hi
theorem p_st {f : Bool} {l : List UInt8} (hx : autoParam (t.ev x = .sl f (l.map eb)) zl._auto_1) (h1 : isBytesTy P ty = true := by rfl) (h2 : isStr P ty' = true := by rfl) : POp P t H ⟨dst, .convert ty ty' x, tp, pos, aft, g⟩ (.v (.string (bs l))) := pop_string hx h1 h2
theorem p_ln {f : Bool} {xs : List T} (hx : autoParam (t.ev x = .sl f xs) zl._auto_1) (ha : isSliceTy P ty = true := by rfl) : POp P t H ⟨dst, .call ⟨.builtin .len, #[x], #[ty]⟩, tp, pos, aft, g⟩ (.v (.int .i64 xs.length)) := pop_len hx ha
theorem p_lr {p : Option Addr} {n c : Nat} (hx : autoParam (t.ev x = .v (.slice p n c)) zl._auto_1) (ha : isSliceTy P ty = true := by rfl) : POp P t H ⟨dst, .call ⟨.builtin .len, #[x], #[ty]⟩, tp, pos, aft, g⟩ (.v (.int .i64 n)) := pop_len_raw hx ha
theorem p_mi {ats : Array TypeId} (hx : autoParam (t.ev x = .v (.int k a)) zl._auto_1) (hy : autoParam (t.ev y = .v (.int k b)) zl._auto_1) : POp P t H ⟨dst, .call ⟨.builtin .min, #[x, y], ats⟩, tp, pos, aft, g⟩ (.v (.int k (min a b))) := pop_min hx hy
theorem p_ma {ats : Array TypeId} (hx : autoParam (t.ev x = .v (.int k a)) zl._auto_1) (hy : autoParam (t.ev y = .v (.int k b)) zl._auto_1) : POp P t H ⟨dst, .call ⟨.builtin .max, #[x, y], ats⟩, tp, pos, aft, g⟩ (.v (.int k (max a b))) := pop_max hx hy
theorem p_ap {xs ys : List T} {f : Bool} {by_ : Nat} [hz : ElemZC P ty d by_] (hx : autoParam (t.ev x = dx) zl._auto_1) (hxl : autoParam (Le dx (.sl true xs)) zL._auto_1) (hy : autoParam (t.ev y = dy) zl._auto_1) (hyl : autoParam (Le dy (.sl f ys)) zL._auto_1) (hs : isSliceTy P ty' = true := by rfl)
    (hkx : autoParam (∀ x ∈ xs, x.cells.length = d.cells.length) zk._auto_1) (hky : autoParam (∀ x ∈ ys, x.cells.length = d.cells.length) zk._auto_1) (hb : autoParam ((xs.length + ys.length) * by_ ≤ 140737488355328) zo._auto_1) (hm : autoParam (xs.length + ys.length ≤ 9223372036854775807) zo._auto_1) :
    POp P t H ⟨dst, .call ⟨.builtin .append, #[x, y], #[ty, ty']⟩, tp, pos, aft, g⟩ (.sl false (xs ++ ys)) := pop_append hx hxl hy hyl hs hkx hky hb hm
theorem p_bd {parts : Array (Nat × Operand)} {z : List T} (n : Nat) (ds : List T) [hz0 : ZCellsC P ty z] {ps : List (Nat × T)} (ha : aggSz P ty = some n := by rfl) (hok : fieldsOk P ty = true := by rfl) (hp : autoParam (EvP t parts.toList ps) zpv._auto_1)
    (hd' : fillT (placeOf P ty) z ps = some ds := by rfl) : POp P t H ⟨dst, .build ty parts, tp, pos, aft, g⟩ (.agg ds) := pop_build n ds ha hok hp hd'
theorem p_bs {n : Nat} {parts : Array (Nat × Operand)} {by_ : Nat} {xs : List T} [hz : ElemZC P ty d by_] (hp : partsOk parts.toList 0 = true := by rfl) (hn : Nat.beq parts.toList.length n = true := by rfl)
    (hb : n * d.cells.length ≤ 16777216 := by decide) (hx' : autoParam (EvQ t parts.toList xs) zq._auto_1) (hk : autoParam (∀ x ∈ xs, x.cells.length = d.cells.length) zk._auto_1) : POp P t H ⟨dst, .buildSlice ty n parts, tp, pos, aft, g⟩ (.sl true xs) := pop_buildSlice hp hn hb hx' hk
theorem p_ca {f : FuncId} {xs : Array Operand} {ats : Array TypeId} {args : List T} (hf : FnP P f args (fun r => r = d)) (hc : callable P f = true := by rfl) (ha' : autoParam (EvL t xs.toList args) ze._auto_1) :
    POp P t H ⟨dst, .call ⟨.value (.func f), xs, ats⟩, tp, pos, aft, g⟩ d := pop_call hc ha' hf
theorem e_al {z : List T} [hz : ZCellsC K.P ty z] (h : ∀ b, (∀ c ∈ keys H, ¬ c = b) → SimFrom K ops (i + 1) l ((kd, .v (.pointer (some ⟨b, 0, none⟩))) :: t) ((b, ⟨ty, z, z.length⟩) :: H) N) (hd : Nat.blt kd K.n = true := by rfl) :
    SimFrom K ops i (⟨some kd, .alloc ty, tp, pos, aft, none⟩ :: l) t H N := from_e (eop_alloc hd h)
theorem e_bx {cs : List T} (h : ∀ b, (∀ c ∈ keys H, ¬ c = b) → SimFrom K ops (i + 1) l ((kd, .v (.pointer (some ⟨b, 0, none⟩))) :: t) ((b, ⟨ty, cs, cs.length⟩) :: H) N) (hx : autoParam (t.ev x = .agg cs) zl._auto_1) (hp : Nat.blt 0 cs.length = true := by rfl)
    (hd : Nat.blt kd K.n = true := by rfl) : SimFrom K ops i (⟨some kd, .box ty x, tp, pos, aft, none⟩ :: l) t H N := from_e (eop_box hx hp hd h)
theorem e_b1 (h : ∀ b, (∀ c ∈ keys H, ¬ c = b) → SimFrom K ops (i + 1) l ((kd, .v (.pointer (some ⟨b, 0, none⟩))) :: t) ((b, ⟨ty, [d], 1⟩) :: H) N) (hx : autoParam (t.ev x = d) zl._auto_1) (hl : d.isLeaf = true := by rfl)
    (hd : Nat.blt kd K.n = true := by rfl) : SimFrom K ops i (⟨some kd, .box ty x, tp, pos, aft, none⟩ :: l) t H N := from_e (eop_box1 hx hl hd h)
theorem e_st {b o m : Nat} {ty0 : TypeId} {cells cs : List T} (h : SimFrom K ops (i + 1) l t H' N) (hx : autoParam (t.ev x = .v (.pointer (some ⟨b, o, none⟩))) zl._auto_1) (hy : autoParam (t.ev y = d) zl._auto_1) (hi : autoParam (HRep H (b, ⟨ty0, cells, m⟩) (b, ⟨ty0, cs, m⟩) H') zr._auto_1) (hc : autoParam (LayR cells o d.cells cs) zy._auto_1)
    (hs : sizeT K.P ty = some d.cells.length := by rfl) (hp : Nat.blt 0 d.cells.length = true := by rfl) (hl : allLeaf d.cells = true := by rfl) : SimFrom K ops i (⟨none, .store ty x y, tp, pos, aft, none⟩ :: l) t H N := from_e (eop_storeO hx hy hi hc hs hp hl h)
-- a region in any order
variable {eff : List Nat} {pend : List Pend} {al : List (Nat × Oper)} {F : Heap → Prop}
theorem ca {id : Nat} (ord eff : List Nat) (h : AnyFrom K ops eff (Ψ .normal) (pick ops ord) t H []) (hmix : K.P.follows .mixedOrders = true := by kernel_rfl) (hc : anyOk ops K.n eff ord = true := by kernel_rfl) : Sim K (.region id ops true) t H Ψ := sim_any ord eff hmix hc h
theorem an (h : N t H) : AnyFrom K ops eff N [] t H pend := h
theorem a_F {o : Oper} (hg : ∀ H', F H' → GOp K.P ops t H' o d) (hF : F H) (h : AnyFrom K ops eff N al (t.put o.dst d) H (⟨i, o, d, F⟩ :: pend)) (he : memN eff i = false) : AnyFrom K ops eff N ((i, o) :: al) t H pend := by
  show AnyStep K ops eff i o _ t H pend
  unfold AnyStep
  rw [he, cond_false]
  exact ⟨d, F, hg, hF, h⟩
theorem a_ (hp : ∀ H', POp K.P t H' ⟨some kd, op, tp, pos, aft, none⟩ d) (h : AnyFrom K ops eff N al ((kd, d) :: t) H (⟨i, ⟨some kd, op, tp, pos, aft, none⟩, d, fun _ => True⟩ :: pend)) (he : memN eff i = false := by rfl) :
    AnyFrom K ops eff N ((i, ⟨some kd, op, tp, pos, aft, none⟩) :: al) t H pend := a_F (fun H' _ => hp H') trivial h he
theorem a_lo {b o m : Nat} {ty0 : TypeId} {cells : List T} (h : AnyFrom K ops eff N al ((kd, d) :: t) H (⟨i, ⟨some kd, .load ty x, tp, pos, aft, none⟩, d, fun H => (b, (⟨ty0, cells, m⟩ : Blk)) ∈ H⟩ :: pend)) (hx : autoParam (t.ev x = .v (.pointer (some ⟨b, o, none⟩))) zl._auto_1) (hm : autoParam ((b, (⟨ty0, cells, m⟩ : Blk)) ∈ H) zm._auto_1) (hd : cells[o]? = some d := by rfl)
    (hk : leafTy K.P ty = true := by rfl) (he : memN eff i = false := by rfl) : AnyFrom K ops eff N ((i, ⟨some kd, .load ty x, tp, pos, aft, none⟩) :: al) t H pend := a_F (F := fun H => (b, (⟨ty0, cells, m⟩ : Blk)) ∈ H) (fun _ h' => p_lo hx h' hd hk) hm h he
theorem a_loa {b o n m : Nat} {ty0 : TypeId} {cells cs : List T} [hk : AggC K.P ty n] (h : AnyFrom K ops eff N al ((kd, .agg cs) :: t) H (⟨i, ⟨some kd, .load ty x, tp, pos, aft, none⟩, .agg cs, fun H => (b, (⟨ty0, cells, m⟩ : Blk)) ∈ H⟩ :: pend)) (hx : autoParam (t.ev x = .v (.pointer (some ⟨b, o, none⟩))) zl._auto_1) (hm : autoParam ((b, (⟨ty0, cells, m⟩ : Blk)) ∈ H) zm._auto_1) (hc : autoParam (TakeR cells o n cs) zt._auto_1)
    (he : memN eff i = false := by rfl) : AnyFrom K ops eff N ((i, ⟨some kd, .load ty x, tp, pos, aft, none⟩) :: al) t H pend := a_F (F := fun H => (b, (⟨ty0, cells, m⟩ : Blk)) ∈ H) (fun _ h' => p_loa hx h' hc) hm h he
theorem ag_T (hp : ∀ H', p → POp K.P t H' ⟨some kd, op, tp, pos, aft, some (j, true)⟩ d) (h : AnyFrom K ops eff N al ((kd, T.gp p inferInstance d) :: t) H (⟨i, ⟨some kd, op, tp, pos, aft, some (j, true)⟩, T.gp p inferInstance d, fun _ => True⟩ :: pend))
    (hj : (ops[j]?).bind (·.dst) = some kg := by rfl) (hb : autoParam (t.get kg = .v (.bool (decide p))) zG._auto_1) (he : memN eff i = false := by rfl) : AnyFrom K ops eff N ((i, ⟨some kd, op, tp, pos, aft, some (j, true)⟩) :: al) t H pend :=
  a_F (fun H' _ => ⟨kg, _, hj, hb, fun e => by rw [gp_pos (bool_t.1 e)]; exact hp H' (bool_t.1 e), fun e => gp_neg fun h => e (bool_t.2 h)⟩) trivial h he
theorem ag_F (hp : ∀ H', ¬ p → POp K.P t H' ⟨some kd, op, tp, pos, aft, some (j, false)⟩ d) (h : AnyFrom K ops eff N al ((kd, T.gp (¬ p) inferInstance d) :: t) H (⟨i, ⟨some kd, op, tp, pos, aft, some (j, false)⟩, T.gp (¬ p) inferInstance d, fun _ => True⟩ :: pend))
    (hj : (ops[j]?).bind (·.dst) = some kg := by rfl) (hb : autoParam (t.get kg = .v (.bool (decide p))) zG._auto_1) (he : memN eff i = false := by rfl) : AnyFrom K ops eff N ((i, ⟨some kd, op, tp, pos, aft, some (j, false)⟩) :: al) t H pend :=
  a_F (fun H' _ => ⟨kg, _, hj, hb, fun e => by rw [gp_pos (bool_f.1 e)]; exact hp H' (bool_f.1 e), fun e => gp_neg fun h => e (bool_f.2 h)⟩) trivial h he
theorem ah_T (hp : ∀ H', p ∧ q → POp K.P t H' ⟨some kd, op, tp, pos, aft, some (j, true)⟩ d) (h : AnyFrom K ops eff N al ((kd, T.gp (p ∧ q) inferInstance d) :: t) H (⟨i, ⟨some kd, op, tp, pos, aft, some (j, true)⟩, T.gp (p ∧ q) inferInstance d, fun _ => True⟩ :: pend))
    (hj : (ops[j]?).bind (·.dst) = some kg := by rfl) (hb : autoParam (t.get kg = T.gp p ip (.v (.bool (decide q)))) zG._auto_1) (he : memN eff i = false := by rfl) : AnyFrom K ops eff N ((i, ⟨some kd, op, tp, pos, aft, some (j, true)⟩) :: al) t H pend :=
  a_F (fun H' _ => ⟨kg, _, hj, hb.trans gp_v, fun e => by rw [gp_pos (gbool_t.1 e)]; exact hp H' (gbool_t.1 e), fun e => gp_neg fun h => e (gbool_t.2 h)⟩) trivial h he
theorem ah_F (hp : ∀ H', p ∧ ¬ q → POp K.P t H' ⟨some kd, op, tp, pos, aft, some (j, false)⟩ d) (h : AnyFrom K ops eff N al ((kd, T.gp (p ∧ ¬ q) inferInstance d) :: t) H (⟨i, ⟨some kd, op, tp, pos, aft, some (j, false)⟩, T.gp (p ∧ ¬ q) inferInstance d, fun _ => True⟩ :: pend))
    (hj : (ops[j]?).bind (·.dst) = some kg := by rfl) (hb : autoParam (t.get kg = T.gp p ip (.v (.bool (decide q)))) zG._auto_1) (he : memN eff i = false := by rfl) : AnyFrom K ops eff N ((i, ⟨some kd, op, tp, pos, aft, some (j, false)⟩) :: al) t H pend :=
  a_F (fun H' _ => ⟨kg, _, hj, hb.trans gp_v, fun e => by rw [gp_pos (gbool_f.1 e)]; exact hp H' (gbool_f.1 e), fun e => gp_neg fun h => e (gbool_f.2 h)⟩) trivial h he
theorem ag_loT {b o m : Nat} {ty0 : TypeId} {cells : List T} (h : AnyFrom K ops eff N al ((kd, T.gp (p) inferInstance d) :: t) H (⟨i, ⟨some kd, .load ty x, tp, pos, aft, some (j, true)⟩, T.gp (p) inferInstance d, fun H => (b, (⟨ty0, cells, m⟩ : Blk)) ∈ H⟩ :: pend)) (hj : (ops[j]?).bind (·.dst) = some kg := by rfl) (hb : autoParam (t.get kg = .v (.bool (decide p))) zG._auto_1)
    (hx : autoParam (p → t.ev x = .v (.pointer (some ⟨b, o, none⟩))) zU._auto_1) (hm : autoParam ((b, (⟨ty0, cells, m⟩ : Blk)) ∈ H) zm._auto_1) (hd : cells[o]? = some d := by rfl) (hk : leafTy K.P ty = true := by rfl) (he : memN eff i = false := by rfl) :
    AnyFrom K ops eff N ((i, ⟨some kd, .load ty x, tp, pos, aft, some (j, true)⟩) :: al) t H pend :=
  a_F (F := fun H => (b, (⟨ty0, cells, m⟩ : Blk)) ∈ H) (fun H' h' => ⟨kg, _, hj, hb, fun e => by rw [gp_pos (bool_t.1 e)]; exact p_lo (hx (bool_t.1 e)) h' hd hk, fun e => gp_neg fun h => e (bool_t.2 h)⟩) hm h he
theorem ag_loaT {b o n m : Nat} {ty0 : TypeId} {cells cs : List T} [hk : AggC K.P ty n] (h : AnyFrom K ops eff N al ((kd, T.gp (p) inferInstance (.agg cs)) :: t) H (⟨i, ⟨some kd, .load ty x, tp, pos, aft, some (j, true)⟩, T.gp (p) inferInstance (.agg cs), fun H => (b, (⟨ty0, cells, m⟩ : Blk)) ∈ H⟩ :: pend)) (hj : (ops[j]?).bind (·.dst) = some kg := by rfl) (hb : autoParam (t.get kg = .v (.bool (decide p))) zG._auto_1)
    (hx : autoParam (p → t.ev x = .v (.pointer (some ⟨b, o, none⟩))) zU._auto_1) (hm : autoParam ((b, (⟨ty0, cells, m⟩ : Blk)) ∈ H) zm._auto_1) (hc : autoParam (TakeR cells o n cs) zt._auto_1) (he : memN eff i = false := by rfl) :
    AnyFrom K ops eff N ((i, ⟨some kd, .load ty x, tp, pos, aft, some (j, true)⟩) :: al) t H pend :=
  a_F (F := fun H => (b, (⟨ty0, cells, m⟩ : Blk)) ∈ H) (fun H' h' => ⟨kg, _, hj, hb, fun e => by rw [gp_pos (bool_t.1 e)]; exact p_loa (hx (bool_t.1 e)) h' hc, fun e => gp_neg fun h => e (bool_t.2 h)⟩) hm h he
theorem ag_loF {b o m : Nat} {ty0 : TypeId} {cells : List T} (h : AnyFrom K ops eff N al ((kd, T.gp (¬ p) inferInstance d) :: t) H (⟨i, ⟨some kd, .load ty x, tp, pos, aft, some (j, false)⟩, T.gp (¬ p) inferInstance d, fun H => (b, (⟨ty0, cells, m⟩ : Blk)) ∈ H⟩ :: pend)) (hj : (ops[j]?).bind (·.dst) = some kg := by rfl) (hb : autoParam (t.get kg = .v (.bool (decide p))) zG._auto_1)
    (hx : autoParam (¬ p → t.ev x = .v (.pointer (some ⟨b, o, none⟩))) zU._auto_1) (hm : autoParam ((b, (⟨ty0, cells, m⟩ : Blk)) ∈ H) zm._auto_1) (hd : cells[o]? = some d := by rfl) (hk : leafTy K.P ty = true := by rfl) (he : memN eff i = false := by rfl) :
    AnyFrom K ops eff N ((i, ⟨some kd, .load ty x, tp, pos, aft, some (j, false)⟩) :: al) t H pend :=
  a_F (F := fun H => (b, (⟨ty0, cells, m⟩ : Blk)) ∈ H) (fun H' h' => ⟨kg, _, hj, hb, fun e => by rw [gp_pos (bool_f.1 e)]; exact p_lo (hx (bool_f.1 e)) h' hd hk, fun e => gp_neg fun h => e (bool_f.2 h)⟩) hm h he
theorem a_eff {o : Oper} (hE : ∀ t0 : Env, (∀ x ∈ o.op.operands, t0.ev x = t.ev x) → EOp K t0 H o fun t' H' => ∃ d, t' = t0.put o.dst d ∧ PendOk ops o H' pend ∧ AnyFrom K ops eff N al (t.put o.dst d) H' pend) (he : memN eff i = true) :
    AnyFrom K ops eff N ((i, o) :: al) t H pend := by
  show AnyStep K ops eff i o _ t H pend
  unfold AnyStep
  rw [he, cond_true]
  exact fun t0 h0 a w hr Kc Q hk => hE t0 h0 a w hr Kc Q fun t' H' a' w' ⟨d, h1, h2, h3⟩ hr' => hk t' H' a' w' ⟨d, pend, h1, h2, .refl _ _ _, h3⟩ hr'
theorem a_effP {o : Oper} (hE : ∀ t0 : Env, (∀ x ∈ o.op.operands, t0.ev x = t.ev x) → EOp K t0 H o fun t' H' => ∃ d pend', t' = t0.put o.dst d ∧ PendOk ops o H' pend ∧ PDrop ops o pend pend' ∧ AnyFrom K ops eff N al (t.put o.dst d) H' pend') (he : memN eff i = true) :
    AnyFrom K ops eff N ((i, o) :: al) t H pend := by
  show AnyStep K ops eff i o _ t H pend
  unfold AnyStep
  rw [he, cond_true]
  exact hE
theorem a_st {b o m : Nat} {ty0 : TypeId} {cells cs : List T} (h : AnyFrom K ops eff N al t H' pend) (hx : autoParam (t.ev x = .v (.pointer (some ⟨b, o, none⟩))) zl._auto_1) (hy : autoParam (t.ev y = d) zl._auto_1) (hi : autoParam (HRep H (b, ⟨ty0, cells, m⟩) (b, ⟨ty0, cs, m⟩) H') zr._auto_1) (hc : autoParam (LayR cells o d.cells cs) zy._auto_1)
    (hs : sizeT K.P ty = some d.cells.length := by rfl) (hp : Nat.blt 0 d.cells.length = true := by rfl) (hl : allLeaf d.cells = true := by rfl) (hk : autoParam (PendOk ops ⟨none, .store ty x y, tp, pos, aft, none⟩ H' pend) zd._auto_1) (he : memN eff i = true := by rfl) :
    AnyFrom K ops eff N ((i, ⟨none, .store ty x y, tp, pos, aft, none⟩) :: al) t H pend :=
  a_eff (fun t0 h0 => eop_storeO ((h0 x (by simp [Op.operands])).trans hx) ((h0 y (by simp [Op.operands])).trans hy) hi hc hs hp hl ⟨.any, rfl, hk, h⟩) he
theorem a_ss {b o m : Nat} {ty0 : TypeId} {cells : List T} (hc : o + d.cells.length ≤ cells.length) (h : AnyFrom K ops eff N al t H' pend) (hx : autoParam (t.ev x = .v (.pointer (some ⟨b, o, none⟩))) zl._auto_1) (hy : autoParam (t.ev y = d) zl._auto_1) (hi : autoParam (HRep H (b, ⟨ty0, cells, m⟩) (b, ⟨ty0, lay cells o d.cells, m⟩) H') zr._auto_1)
    (hs : sizeT K.P ty = some d.cells.length := by rfl) (hp : Nat.blt 0 d.cells.length = true := by rfl) (hl : allLeaf d.cells = true := by rfl) (hk : autoParam (PendOk ops ⟨none, .store ty x y, tp, pos, aft, none⟩ H' pend) zd._auto_1) (he : memN eff i = true := by rfl) :
    AnyFrom K ops eff N ((i, ⟨none, .store ty x y, tp, pos, aft, none⟩) :: al) t H pend :=
  a_eff (fun t0 h0 => eop_storeS ((h0 x (by simp [Op.operands])).trans hx) ((h0 y (by simp [Op.operands])).trans hy) hi hs hp hl hc ⟨.any, rfl, hk, h⟩) he
theorem a_bx {cs : List T} (h : ∀ b, (∀ c ∈ keys H, ¬ c = b) → PendOk ops ⟨some kd, .box ty x, tp, pos, aft, none⟩ ((b, ⟨ty, cs, cs.length⟩) :: H) pend ∧ AnyFrom K ops eff N al ((kd, .v (.pointer (some ⟨b, 0, none⟩))) :: t) ((b, ⟨ty, cs, cs.length⟩) :: H) pend)
    (hx : autoParam (t.ev x = .agg cs) zl._auto_1) (hp : Nat.blt 0 cs.length = true := by rfl) (hd : Nat.blt kd K.n = true := by rfl) (he : memN eff i = true := by rfl) : AnyFrom K ops eff N ((i, ⟨some kd, .box ty x, tp, pos, aft, none⟩) :: al) t H pend :=
  a_eff (fun t0 h0 => eop_box ((h0 x (by simp [Op.operands])).trans hx) hp hd fun b hb => ⟨_, rfl, h b hb⟩) he
theorem kN : HeapFront H [] := .nil H
theorem kS {p : Nat × Blk} {r r' : Heap} (hs : HeapFront r r') : HeapFront (p :: r) r' := .skip p r r' hs
theorem kK {b n : Nat} {cs cs' : List T} {r r' : Heap} (hs : HeapFront r r') (h : autoParam (LeL cs cs') zM._auto_1) (hl : cs'.length = cs.length := by rfl) : HeapFront ((b, ⟨ty, cs, n⟩) :: r) ((b, ⟨ty, cs', n⟩) :: r') := .keep b _ _ r r' (blk_le rfl h hl rfl) hs
theorem eL {t' : Env} (h : EnvLe t t' := by (repeat (first | exact trivial | (apply And.intro; (apply le_get; ((repeat (apply gS; rfl)); exact gZ); (first | exact Le.refl _ | exact Le.nil _ | exact Le.full _ _ | exact Le.any _ | (apply Le.of_eq; focus (simp; done)) | (apply Le.of_eq; focus (congr 2; omega)) | (apply Le.of_eq; focus (simp [*]; done)))))))) : EnvLe t t' := h
-- the end
theorem re {fn : Func} {Φ : T → Prop} {rs : List ResultVar} {ds : List T} (hl : Le (packT ds) d) (hp : Φ d) (hr : fn.results.toList = rs := by rfl) (h : autoParam (ResL P t H rs ds) zrs._auto_1) : endΨ P fn (fun r H => H = [] ∧ Φ r) .ret t H := fin_retΦ hr h d hl hp
theorem rt {fn : Func} {rs : List ResultVar} {ds : List T} (hl : Le (packT ds) d) (hr : fn.results.toList = rs := by rfl) (h : autoParam (ResL P t H rs ds) zrs._auto_1) : endΨ P fn (fun r H => H = [] ∧ r = d) .ret t H := fin_ret hr h hl
theorem rn {fn : Func} {rs : List ResultVar} {ds : List T} (hl : Le (packT ds) d) (hr : fn.results.toList = rs := by rfl) (h : autoParam (ResL P t H rs ds) zrs._auto_1) : endΨ P fn (fun r H => H = [] ∧ r = d) .normal t H := fin_normal hr h hl
end
section
variable {P : Program} {t : Env} {H : Heap} {dst : Option Tmp} {tp : TypeId} {pos : String} {aft : Array Edge} {g : Option (Nat × Bool)} {ty : TypeId} {x y : Operand}
theorem p_ix {f : Bool} {α : Type} {fn : α → T} {xs : List α} {i : Nat} {k : IntKind} (hs : i < xs.length) (hx : autoParam (t.ev x = .sl f (xs.map fn)) zl._auto_1) (hy : autoParam (t.ev y = .v (.int k i)) zl._auto_1)
    (h1 : elemSz P ty = some (fn xs[i]).cells.length := by rfl) (hp : Nat.blt 0 (fn xs[i]).cells.length = true := by rfl) : POp P t H ⟨dst, .indexAddr ty x y, tp, pos, aft, g⟩ (.adr (fn xs[i])) :=
  pop_indexAddr hx hy (by omega) (map_get hs) h1 hp
end
end Go.Cap
end
