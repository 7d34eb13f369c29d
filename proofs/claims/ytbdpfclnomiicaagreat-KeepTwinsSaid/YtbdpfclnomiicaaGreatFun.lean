/-
  Function values; addresses that are not nil; numbers of one kind as of another; bits.
-/
import Derived.Test.YtbdpfclnomiicaaGreatSeg
namespace Go.Cap
section
variable {K : Ctx} {P : Program} {t : Env} {H Hr Hs : Heap} {dst : Option Tmp} {tp : TypeId} {pos : String} {aft : Array Edge} {g : Option (Nat × Bool)} {N : Env → Heap → Prop}
variable {S : Nat → Prop} {w : World} {ty ty' : TypeId} {x y : Operand} {d : T} {k k' : IntKind} {a b : Int}
theorem EvL.rel {xs : List Operand} {ds : List T} (h : EvL t xs ds) {a : Act} (hr : ∀ x ∈ xs, Rel S w (t.ev x) (a.eval x)) : RelL S w ds (xs.map a.eval) := h.eq ▸ rel_args xs hr
theorem pop_makeFunc {f : FuncId} {fs cs : Array Operand} {ds es : List T} (h1 : EvL t fs.toList ds) (h2 : EvL t cs.toList es) : POp P t H ⟨dst, .makeFunc (.func f) fs cs, tp, pos, aft, g⟩ (.clo f ds es) :=
  POp.still fun S w a _ _ hr => by
    have r1 := h1.rel (a := a) fun x hx => hr x (by simp [Op.operands]; exact .inl (by simpa using hx))
    have r2 := h2.rel (a := a) fun x hx => hr x (by simp [Op.operands]; exact .inr (by simpa using hx))
    refine ⟨_, by simp [execOp, Instr.makeFunc]; rfl, ?_⟩
    have := Rel.clo f ds es _ _ r1 r2
    have e1 : (fs.toList.map a.eval).toArray = fs.map a.eval := by apply Array.ext'; simp
    have e2 : (cs.toList.map a.eval).toArray = cs.map a.eval := by apply Array.ext'; simp
    rw [e1, e2] at this
    exact this
theorem run_clo {f : FuncId} (h : callable P f = true) {c : Call} {a : Act} {us vs : List Value} {x : Operand} (hc : c.callee = .value x) (hx : a.eval x = .func (.func f) us.toArray vs.toArray) (w : World) :
    (execOp a.eval ⟨dst, .call c, tp, pos, aft, g⟩).run P w = .ok (.enter f (us ++ c.args.toList.map a.eval ++ vs).toArray) w := by
  have : (execOp a.eval ⟨dst, .call c, tp, pos, aft, g⟩).run P w = (callFunc f (us.toArray ++ c.args.map a.eval ++ vs.toArray)).run P w := by
    simp [execOp, resolve, hc, hx, Deferred.ofValue, invoke]
  rw [this, run_call h]
  congr 2
  apply Array.ext'
  simp
theorem eop_callV {f : FuncId} {xs : Array Operand} {ats : Array TypeId} {fs cs args : List T} {Φ : T → Heap → Prop} (hx : t.ev x = .clo f fs cs) (hf : FnH K.P f (fs ++ args ++ cs) Hs Φ) (hp : H.Perm (Hs ++ Hr)) (hc : callable K.P f = true) (ha : EvL t xs.toList args)
    (hd : okDst dst K.n = true) (hn : ∀ r H', Φ r H' → N (t.put dst r) (H' ++ Hr)) : EOp K t H ⟨dst, .call ⟨.value x, xs, ats⟩, tp, pos, aft, g⟩ N := by
  refine EOp.of_w (fun c e => by cases e) ?_
  intro a w hR Kc Q hk
  obtain ⟨S, hr⟩ := hR.perm hp
  have h1 := hr.env.ev x; rw [hx] at h1
  generalize hu : a.eval x = u at h1
  cases h1 with
  | clo _ _ _ us vs r1 r2 =>
    unfold Oper.wp
    rw [run_clo hc rfl hu]
    simp only [Oper.upon]
    have r3 := ha.rel (a := a) fun x _ => hr.env.ev x
    refine (hf S w _ hr.wf hr.own.left ((r1.append r3).append r2)).mono ?_
    rintro e w' ⟨u, S', r, H', rfl, hΦ, hrel, hown, hst, hkeys⟩
    exact hk _ _ _ _ (hn r H' hΦ) ⟨S', hr.called hown hst hkeys hd hrel⟩
def T.there : T → Bool
  | .adr _ | .v (.pointer (some _)) | .clo .. => true
  | _ => false
theorem pop_nilCheck (hx : t.ev x = d) (hd : d.there = true) : POp P t H ⟨dst, .nilCheck x, tp, pos, aft, g⟩ d :=
  POp.still fun S w a _ _ hr => by
    have h1 := hr x (by simp [Op.operands]); rw [hx] at h1
    refine ⟨a.eval x, ?_, h1⟩
    generalize hu : a.eval x = u at h1
    cases h1 with
    | adr => simp [execOp, hu]
    | clo => simp [execOp, hu]
    | v u =>
      cases u with
      | pointer p => cases p <;> simp_all [T.there, execOp]
      | _ => simp [T.there] at hd
    | _ => simp [T.there] at hd
theorem pop_conv (hx : t.ev x = .v (.int k a)) (h1 : (P.underlying ty).isSome = true) (h2 : P.underlying ty' = some (.int k')) : POp P t H ⟨dst, .convert ty ty' x, tp, pos, aft, g⟩ (.v (.int k' (k'.wrap a))) :=
  POp.still fun S w c _ _ hr => by
    have hv := hr x (by simp [Op.operands]); rw [hx] at hv
    obtain ⟨u, hu⟩ := Option.isSome_iff_exists.1 h1
    refine ⟨.int k' (k'.wrap a), ?_, .v _⟩
    have : (convert ty ty' (.int k a)).run P w = .ok (.int k' (k'.wrap a)) w := by
      unfold convert
      simp [run_underlying hu, run_underlying h2, Conv.intToInt]
    simp [execOp, hv.v_eq, this]
variable {ops : Array Oper} {i n : Nat} {l : List Oper} {kd : Tmp} {Ψ : Exit → Env → Heap → Prop} {eff : List Nat} {pend : List Pend} {al : List (Nat × Oper)}
theorem p_mf {f : FuncId} {fs cs : Array Operand} {ds es : List T} (h1 : EvL t fs.toList ds := by (repeat (apply evl_cons; focus (first | ((repeat (apply eS; rfl)); exact eZ) | exact ev_int | exact ev_bool | exact ev_nil | exact ev_str | exact ev_ptr | exact ev_agg | exact ev_map | exact ev_nilf | exact ev_nili | exact ev_func))); exact evl_nil) (h2 : EvL t cs.toList es := by (repeat (apply evl_cons; focus (first | ((repeat (apply eS; rfl)); exact eZ) | exact ev_int | exact ev_bool | exact ev_nil | exact ev_str | exact ev_ptr | exact ev_agg | exact ev_map | exact ev_nilf | exact ev_nili | exact ev_func))); exact evl_nil) : POp P t H ⟨dst, .makeFunc (.func f) fs cs, tp, pos, aft, g⟩ (.clo f ds es) := pop_makeFunc h1 h2
theorem p_nc (hx : t.ev x = d := by first | ((repeat (apply eS; rfl)); exact eZ) | exact ev_int | exact ev_bool | exact ev_nil | exact ev_str | exact ev_ptr | exact ev_agg | exact ev_map | exact ev_nilf | exact ev_nili | exact ev_func) (hd : d.there = true := by rfl) : POp P t H ⟨dst, .nilCheck x, tp, pos, aft, g⟩ d := pop_nilCheck hx hd
theorem p_cv (hx : t.ev x = .v (.int k a) := by first | ((repeat (apply eS; rfl)); exact eZ) | exact ev_int | exact ev_bool | exact ev_nil | exact ev_str | exact ev_ptr | exact ev_agg | exact ev_map | exact ev_nilf | exact ev_nili | exact ev_func) (h1 : (P.underlying ty).isSome = true := by rfl) (h2 : P.underlying ty' = some (.int k') := by rfl) : POp P t H ⟨dst, .convert ty ty' x, tp, pos, aft, g⟩ (.v (.int k' (k'.wrap a))) := pop_conv hx h1 h2
theorem p_adw (hx : t.ev x = .v (.int k a) := by first | ((repeat (apply eS; rfl)); exact eZ) | exact ev_int | exact ev_bool | exact ev_nil | exact ev_str | exact ev_ptr | exact ev_agg | exact ev_map | exact ev_nilf | exact ev_nili | exact ev_func) (hy : t.ev y = .v (.int k b) := by first | ((repeat (apply eS; rfl)); exact eZ) | exact ev_int | exact ev_bool | exact ev_nil | exact ev_str | exact ev_ptr | exact ev_agg | exact ev_map | exact ev_nilf | exact ev_nili | exact ev_func) : POp P t H ⟨dst, .binOp .add ty x y ty', tp, pos, aft, g⟩ (.v (.int k (k.wrap (a + b)))) := pop_add hx hy
theorem p_muw (hx : t.ev x = .v (.int k a) := by first | ((repeat (apply eS; rfl)); exact eZ) | exact ev_int | exact ev_bool | exact ev_nil | exact ev_str | exact ev_ptr | exact ev_agg | exact ev_map | exact ev_nilf | exact ev_nili | exact ev_func) (hy : t.ev y = .v (.int k b) := by first | ((repeat (apply eS; rfl)); exact eZ) | exact ev_int | exact ev_bool | exact ev_nil | exact ev_str | exact ev_ptr | exact ev_agg | exact ev_map | exact ev_nilf | exact ev_nili | exact ev_func) : POp P t H ⟨dst, .binOp .mul ty x y ty', tp, pos, aft, g⟩ (.v (.int k (k.wrap (a * b)))) := pop_mul hx hy
def bAnd (k : IntKind) (a b : Int) : Int := k.wrap (BitVec.ofInt k.bits a &&& BitVec.ofInt k.bits b).toNat
def bOr (k : IntKind) (a b : Int) : Int := k.wrap (BitVec.ofInt k.bits a ||| BitVec.ofInt k.bits b).toNat
def bXor (k : IntKind) (a b : Int) : Int := k.wrap (BitVec.ofInt k.bits a ^^^ BitVec.ofInt k.bits b).toNat
def bShl (k : IntKind) (a b : Int) : Int := k.wrap (a * 2 ^ (min b.toNat k.bits))
def bShr (k : IntKind) (a b : Int) : Int := a.fdiv (2 ^ (min b.toNat k.bits))
theorem p_and (hx : t.ev x = .v (.int k a) := by first | ((repeat (apply eS; rfl)); exact eZ) | exact ev_int | exact ev_bool | exact ev_nil | exact ev_str | exact ev_ptr | exact ev_agg | exact ev_map | exact ev_nilf | exact ev_nili | exact ev_func) (hy : t.ev y = .v (.int k b) := by first | ((repeat (apply eS; rfl)); exact eZ) | exact ev_int | exact ev_bool | exact ev_nil | exact ev_str | exact ev_ptr | exact ev_agg | exact ev_map | exact ev_nilf | exact ev_nili | exact ev_func) : POp P t H ⟨dst, .binOp .and ty x y ty', tp, pos, aft, g⟩ (.v (.int k (bAnd k a b))) := pop_and hx hy
theorem p_oor (hx : t.ev x = .v (.int k a) := by first | ((repeat (apply eS; rfl)); exact eZ) | exact ev_int | exact ev_bool | exact ev_nil | exact ev_str | exact ev_ptr | exact ev_agg | exact ev_map | exact ev_nilf | exact ev_nili | exact ev_func) (hy : t.ev y = .v (.int k b) := by first | ((repeat (apply eS; rfl)); exact eZ) | exact ev_int | exact ev_bool | exact ev_nil | exact ev_str | exact ev_ptr | exact ev_agg | exact ev_map | exact ev_nilf | exact ev_nili | exact ev_func) : POp P t H ⟨dst, .binOp .or ty x y ty', tp, pos, aft, g⟩ (.v (.int k (bOr k a b))) := pop_or hx hy
theorem p_xor (hx : t.ev x = .v (.int k a) := by first | ((repeat (apply eS; rfl)); exact eZ) | exact ev_int | exact ev_bool | exact ev_nil | exact ev_str | exact ev_ptr | exact ev_agg | exact ev_map | exact ev_nilf | exact ev_nili | exact ev_func) (hy : t.ev y = .v (.int k b) := by first | ((repeat (apply eS; rfl)); exact eZ) | exact ev_int | exact ev_bool | exact ev_nil | exact ev_str | exact ev_ptr | exact ev_agg | exact ev_map | exact ev_nilf | exact ev_nili | exact ev_func) : POp P t H ⟨dst, .binOp .xor ty x y ty', tp, pos, aft, g⟩ (.v (.int k (bXor k a b))) := pop_xor hx hy
theorem p_shl (hx : t.ev x = .v (.int k a) := by first | ((repeat (apply eS; rfl)); exact eZ) | exact ev_int | exact ev_bool | exact ev_nil | exact ev_str | exact ev_ptr | exact ev_agg | exact ev_map | exact ev_nilf | exact ev_nili | exact ev_func) (hy : t.ev y = .v (.int k' b) := by first | ((repeat (apply eS; rfl)); exact eZ) | exact ev_int | exact ev_bool | exact ev_nil | exact ev_str | exact ev_ptr | exact ev_agg | exact ev_map | exact ev_nilf | exact ev_nili | exact ev_func) (h : 0 ≤ b := by (first | omega | (simp only [List.length_map, List.length_replicate, List.length_append, List.length_cons, List.length_nil, List.length_take, List.length_drop, Int.toNat_natCast]; omega) | (simp only [List.length_map, List.length_replicate, List.length_append, List.length_cons, List.length_nil, List.length_take, List.length_drop, Int.toNat_natCast] at *; omega))) : POp P t H ⟨dst, .binOp .shl ty x y ty', tp, pos, aft, g⟩ (.v (.int k (bShl k a b))) := pop_shl hx hy h
theorem p_shr (hx : t.ev x = .v (.int k a) := by first | ((repeat (apply eS; rfl)); exact eZ) | exact ev_int | exact ev_bool | exact ev_nil | exact ev_str | exact ev_ptr | exact ev_agg | exact ev_map | exact ev_nilf | exact ev_nili | exact ev_func) (hy : t.ev y = .v (.int k' b) := by first | ((repeat (apply eS; rfl)); exact eZ) | exact ev_int | exact ev_bool | exact ev_nil | exact ev_str | exact ev_ptr | exact ev_agg | exact ev_map | exact ev_nilf | exact ev_nili | exact ev_func) (h : 0 ≤ b := by (first | omega | (simp only [List.length_map, List.length_replicate, List.length_append, List.length_cons, List.length_nil, List.length_take, List.length_drop, Int.toNat_natCast]; omega) | (simp only [List.length_map, List.length_replicate, List.length_append, List.length_cons, List.length_nil, List.length_take, List.length_drop, Int.toNat_natCast] at *; omega))) : POp P t H ⟨dst, .binOp .shr ty x y ty', tp, pos, aft, g⟩ (.v (.int k (bShr k a b))) := pop_shr hx hy h
theorem p_ar {b o n k : Nat} {i : Int} {kd : IntKind} [hs : ArrC P ty n k] (hx : t.ev x = .v (.pointer (some ⟨b, o, none⟩)) := by first | ((repeat (apply eS; rfl)); exact eZ) | exact ev_int | exact ev_bool | exact ev_nil | exact ev_str | exact ev_ptr | exact ev_agg | exact ev_map | exact ev_nilf | exact ev_nili | exact ev_func) (hy : t.ev y = .v (.int kd i) := by first | ((repeat (apply eS; rfl)); exact eZ) | exact ev_int | exact ev_bool | exact ev_nil | exact ev_str | exact ev_ptr | exact ev_agg | exact ev_map | exact ev_nilf | exact ev_nili | exact ev_func) (h0 : 0 ≤ i := by (first | omega | (simp only [List.length_map, List.length_replicate, List.length_append, List.length_cons, List.length_nil, List.length_take, List.length_drop, Int.toNat_natCast]; omega) | (simp only [List.length_map, List.length_replicate, List.length_append, List.length_cons, List.length_nil, List.length_take, List.length_drop, Int.toNat_natCast] at *; omega))) (h1 : i < n := by (first | omega | (simp only [List.length_map, List.length_replicate, List.length_append, List.length_cons, List.length_nil, List.length_take, List.length_drop, Int.toNat_natCast]; omega) | (simp only [List.length_map, List.length_replicate, List.length_append, List.length_cons, List.length_nil, List.length_take, List.length_drop, Int.toNat_natCast] at *; omega))) :
    POp P t H ⟨dst, .indexAddr ty x y, tp, pos, aft, g⟩ (.v (.pointer (some ⟨b, o + i.toNat * k, none⟩))) := pop_indexAddr_arr hx hy h0 h1
theorem e_cH {f : FuncId} {xs : Array Operand} {ats : Array TypeId} {args : List T} {Φ : T → Heap → Prop} (hf : FnH K.P f args Hs Φ) (hp : H.Perm (Hs ++ Hr)) (hn : ∀ r H', Φ r H' → SimFrom K ops (i + 1) l (t.put dst r) (H' ++ Hr) N) (hc : callable K.P f = true := by rfl) (ha' : EvL t xs.toList args := by (repeat (apply evl_cons; focus (first | ((repeat (apply eS; rfl)); exact eZ) | exact ev_int | exact ev_bool | exact ev_nil | exact ev_str | exact ev_ptr | exact ev_agg | exact ev_map | exact ev_nilf | exact ev_nili | exact ev_func))); exact evl_nil)
    (hd : okDst dst K.n = true := by rfl) : SimFrom K ops i (⟨dst, .call ⟨.value (.func f), xs, ats⟩, tp, pos, aft, none⟩ :: l) t H N := from_op rfl (eop_callH hf hp hc ha' hd hn)
theorem e_vH {f : FuncId} {xs : Array Operand} {ats : Array TypeId} {fs cs args : List T} {Φ : T → Heap → Prop} (hf : FnH K.P f (fs ++ args ++ cs) Hs Φ) (hp : H.Perm (Hs ++ Hr)) (hn : ∀ r H', Φ r H' → SimFrom K ops (i + 1) l (t.put dst r) (H' ++ Hr) N) (hx : t.ev x = .clo f fs cs := by first | ((repeat (apply eS; rfl)); exact eZ) | exact ev_int | exact ev_bool | exact ev_nil | exact ev_str | exact ev_ptr | exact ev_agg | exact ev_map | exact ev_nilf | exact ev_nili | exact ev_func) (hc : callable K.P f = true := by rfl) (ha : EvL t xs.toList args := by (repeat (apply evl_cons; focus (first | ((repeat (apply eS; rfl)); exact eZ) | exact ev_int | exact ev_bool | exact ev_nil | exact ev_str | exact ev_ptr | exact ev_agg | exact ev_map | exact ev_nilf | exact ev_nili | exact ev_func))); exact evl_nil)
    (hd : okDst dst K.n = true := by rfl) : SimFrom K ops i (⟨dst, .call ⟨.value x, xs, ats⟩, tp, pos, aft, none⟩ :: l) t H N := from_op rfl (eop_callV hx hf hp hc ha hd hn)
theorem e_cP {f : FuncId} {xs : Array Operand} {ats : Array TypeId} {args : List T} {Φ : T → Prop} (hf : FnP K.P f args Φ) (hn : ∀ r, Φ r → SimFrom K ops (i + 1) l ((kd, r) :: t) H N) (hc : callable K.P f = true := by rfl) (ha' : EvL t xs.toList args := by (repeat (apply evl_cons; focus (first | ((repeat (apply eS; rfl)); exact eZ) | exact ev_int | exact ev_bool | exact ev_nil | exact ev_str | exact ev_ptr | exact ev_agg | exact ev_map | exact ev_nilf | exact ev_nili | exact ev_func))); exact evl_nil) (hd : Nat.blt kd K.n = true := by rfl) :
    SimFrom K ops i (⟨some kd, .call ⟨.value (.func f), xs, ats⟩, tp, pos, aft, none⟩ :: l) t H N := from_e (eop_call_pure hc ha' hf hd hn)
end
end Go.Cap
