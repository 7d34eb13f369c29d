/-
  The rules of the walk: for each kind of operation what it yields, as data.
-/
import Derived.Test.YtbdpfclnomiicaaGreatOps
namespace Go.Cap
def aggSz (P : Program) (t : TypeId) : Option Nat := match P.underlying t with
  | some (.struct _) | some (.array _ _) => (P.info? t).map (·.size)
  | _ => none
def leafTy (P : Program) (t : TypeId) : Bool := match P.underlying t with
  | some (.struct _) | some (.array _ _) | none => false
  | some _ => true
def elemSz (P : Program) (t : TypeId) : Option Nat := match P.underlying t with
  | some (.slice e) => (P.info? e).map (·.size)
  | _ => none
def elemTy (P : Program) (t : TypeId) : TypeId := match P.underlying t with
  | some (.slice e) => e
  | _ => 0
def isSliceTy (P : Program) (t : TypeId) : Bool := (elemSz P t).isSome
def arrSz (P : Program) (t : TypeId) : Option (Nat × Nat) := match P.underlying t with
  | some (.array n e) => ((P.info? e).map (·.size)).map fun s => (n, s)
  | _ => none
def isStr (P : Program) (t : TypeId) : Bool := match P.underlying t with
  | some .string => true
  | _ => false
def fld (P : Program) (s : TypeId) (f : Nat) : Option (Nat × Nat × Bool) := match P.underlying s with
  | some (.struct fs) => match fs[f]? with
    | some x => match (P.info? x.type).map (·.size), P.underlying x.type with
      | some n, some (.struct _) | some n, some (.array _ _) => some (x.offset, n, true)
      | some n, some _ => some (x.offset, n, false)
      | _, _ => none
    | none => none
  | _ => none
class FldC (P : Program) (ty f : Nat) (off n : outParam Nat) (ag : outParam Bool) : Prop where
  h : fld P ty f = some (off, n, ag)
class ElemSzC (P : Program) (ty : Nat) (n : outParam Nat) : Prop where
  h : elemSz P ty = some n
class AggC (P : Program) (ty : Nat) (n : outParam Nat) : Prop where
  h : aggSz P ty = some n
class ArrC (P : Program) (ty : Nat) (n k : outParam Nat) : Prop where
  h : arrSz P ty = some (n, k)
theorem int_beq (a b : Int) : (a == b) = decide (a = b) := by rw [Bool.eq_iff_iff]; simp
def T.isLeaf : T → Bool
  | .v (.agg _) | .agg _ | .tup _ | .any => false
  | .v (.tuple _) => false
  | _ => true
section
variable {P : Program} {t : Env} {H : Heap} {dst : Option Tmp} {tp : TypeId} {pos : String} {aft : Array Edge} {g : Option (Nat × Bool)}
variable {S : Nat → Prop} {w : World}
theorem Rel.leaf_cells {x : T} {y : Value} (h : Rel S w x y) (hl : x.isLeaf = true) : y.cells = #[y] ∧ y.oneCell' = true := by
  cases h with
  | v => cases y <;> simp_all [T.isLeaf, Value.cells, Value.oneCell']
  | nil => exact ⟨rfl, rfl⟩
  | sl => exact ⟨rfl, rfl⟩
  | adr => exact ⟨rfl, rfl⟩
  | agg => simp [T.isLeaf] at hl
  | tup => simp [T.isLeaf] at hl
  | clo => exact ⟨rfl, rfl⟩
  | any => simp [T.isLeaf] at hl
theorem Addr.add_mk (b o n : Nat) : (⟨b, o, none⟩ : Addr).add n = ⟨b, o + n, none⟩ := by
  unfold Addr.add
  split
  · subst_vars; rfl
  · rfl
theorem cell_block {b o : Nat} {cs : Array Value} {ty : TypeId} {fz : Nat × Nat} (hb : w.heap[b]? = some (.cells cs ty fz)) : w.cell? ⟨b, o, none⟩ = cs[o]? := by
  simp [World.cell?, hb]
theorem run_cells {b o n : Nat} {cs : Array Value} {ty : TypeId} {fz : Nat × Nat} (hb : w.heap[b]? = some (.cells cs ty fz)) (us : List Value) (hn : us.length = n)
    (h : (cs.toList.drop o).take n = us) : (loadCells ⟨b, o, none⟩ n).run P w = .ok us.toArray w := by
  have := run_loadCells_list (P := P) (w := w) ⟨b, o, none⟩ us (fun j v hj => by
    rw [Addr.add_mk, cell_block hb]
    subst h
    rw [List.getElem?_take, List.getElem?_drop] at hj
    split at hj
    · simpa using hj
    · cases hj)
  rw [hn] at this; exact this
theorem POp.run {o : Oper} {d : T} (h : ∀ (S : Nat → Prop) (w : World) (a : Act), Wf S w → Own S w H → (∀ x ∈ o.op.operands, Rel S w (t.ev x) (a.eval x)) →
    ∃ v w' S', (execOp a.eval o).run P w = .ok (.value v) w' ∧ Step [] S w S' w' ∧ Rel S' w' d v) : POp P t H o d := by
  intro S w a hw ho hx Kc Q hk
  obtain ⟨v, w', S', hr, hs, hd⟩ := h S w a hw ho hx
  unfold Oper.wp
  rw [hr]
  exact hk S' w' v hs hd
theorem POp.still {o : Oper} {d : T} (h : ∀ (S : Nat → Prop) (w : World) (a : Act), Wf S w → Own S w H → (∀ x ∈ o.op.operands, Rel S w (t.ev x) (a.eval x)) →
    ∃ v, (execOp a.eval o).run P w = .ok (.value v) w ∧ Rel S w d v) : POp P t H o d :=
  POp.run fun S w a hw ho hx => let ⟨v, hr, hd⟩ := h S w a hw ho hx; ⟨v, w, S, hr, Step.refl _ hw, hd⟩
theorem POp.le {o : Oper} {d d' : T} (h : POp P t H o d) (hl : Le d d') : POp P t H o d' :=
  fun S w a hw ho hx Kc Q hk => h S w a hw ho hx Kc Q fun S' w' v hs hv => hk S' w' v hs (hl _ _ _ hv)
theorem pop_move {x : Operand} {d : T} (hx : t.ev x = d) : POp P t H ⟨dst, .move x, tp, pos, aft, g⟩ d :=
  POp.still fun S w a _ _ hr => ⟨a.eval x, rfl, hx ▸ hr x (by simp [Op.operands])⟩
theorem pop_assign {x : Operand} {d : T} (hx : t.ev x = d) : POp P t H ⟨dst, .assign x, tp, pos, aft, g⟩ d :=
  POp.still fun S w a _ _ hr => ⟨a.eval x, rfl, hx ▸ hr x (by simp [Op.operands])⟩
theorem pop_pick {c x y : Operand} {b : Bool} {d e : T} (hc : t.ev c = .v (.bool b)) (hx : t.ev x = d) (hy : t.ev y = e) :
    POp P t H ⟨dst, .pick c x y, tp, pos, aft, g⟩ (bif b then d else e) :=
  POp.still fun S w a _ _ hr => by
    have h1 := hr c (by simp [Op.operands])
    rw [hc] at h1
    refine ⟨bif b then a.eval x else a.eval y, by simp only [execOp]; rw [h1.v_eq]; cases b <;> rfl, ?_⟩
    cases b
    · exact hy ▸ hr y (by simp [Op.operands])
    · exact hx ▸ hr x (by simp [Op.operands])
theorem pop_bin {op : BinOp} {ty ty' : TypeId} {x y : Operand} {u u' r : Value} (hx : t.ev x = .v u) (hy : t.ev y = .v u')
    (hrun : ∀ w, ((do eqGuard op ty x y u u'; binOp op ty u u' : Sem Value)).run P w = .ok r w) : POp P t H ⟨dst, .binOp op ty x y ty', tp, pos, aft, g⟩ (.v r) :=
  POp.still fun S w a _ _ hr => by
    have h1 := hr x (by simp [Op.operands])
    have h2 := hr y (by simp [Op.operands])
    rw [hx] at h1; rw [hy] at h2
    refine ⟨r, ?_, .v _⟩
    simp only [execOp]
    rw [h1.v_eq, h2.v_eq]
    have := hrun w
    simp only [Sem.run_bind] at this ⊢
    rw [this]; rfl
variable {x y : Operand} {ty ty' : TypeId} {k : IntKind} {a b : Int}
theorem pop_add (hx : t.ev x = .v (.int k a)) (hy : t.ev y = .v (.int k b)) : POp P t H ⟨dst, .binOp .add ty x y ty', tp, pos, aft, g⟩ (.v (.int k (k.wrap (a + b)))) :=
  pop_bin hx hy fun w => by simp [eqGuard, binOp, Op.intArith]
theorem pop_sub (hx : t.ev x = .v (.int k a)) (hy : t.ev y = .v (.int k b)) : POp P t H ⟨dst, .binOp .sub ty x y ty', tp, pos, aft, g⟩ (.v (.int k (k.wrap (a - b)))) :=
  pop_bin hx hy fun w => by simp [eqGuard, binOp, Op.intArith]
theorem pop_mul (hx : t.ev x = .v (.int k a)) (hy : t.ev y = .v (.int k b)) : POp P t H ⟨dst, .binOp .mul ty x y ty', tp, pos, aft, g⟩ (.v (.int k (k.wrap (a * b)))) :=
  pop_bin hx hy fun w => by simp [eqGuard, binOp, Op.intArith]
theorem pop_add64 (hx : t.ev x = .v (.int .i64 a)) (hy : t.ev y = .v (.int .i64 b)) (h : -9223372036854775808 ≤ a + b ∧ a + b ≤ 9223372036854775807) :
    POp P t H ⟨dst, .binOp .add ty x y ty', tp, pos, aft, g⟩ (.v (.int .i64 (a + b))) := by have := pop_add (P := P) (H := H) (dst := dst) (tp := tp) (pos := pos) (aft := aft) (g := g) (ty := ty) (ty' := ty') hx hy; rwa [IntWalk.i64_in _ h] at this
theorem pop_sub64 (hx : t.ev x = .v (.int .i64 a)) (hy : t.ev y = .v (.int .i64 b)) (h : -9223372036854775808 ≤ a - b ∧ a - b ≤ 9223372036854775807) :
    POp P t H ⟨dst, .binOp .sub ty x y ty', tp, pos, aft, g⟩ (.v (.int .i64 (a - b))) := by have := pop_sub (P := P) (H := H) (dst := dst) (tp := tp) (pos := pos) (aft := aft) (g := g) (ty := ty) (ty' := ty') hx hy; rwa [IntWalk.i64_in _ h] at this
theorem pop_mul64 (hx : t.ev x = .v (.int .i64 a)) (hy : t.ev y = .v (.int .i64 b)) (h : -9223372036854775808 ≤ a * b ∧ a * b ≤ 9223372036854775807) :
    POp P t H ⟨dst, .binOp .mul ty x y ty', tp, pos, aft, g⟩ (.v (.int .i64 (a * b))) := by have := pop_mul (P := P) (H := H) (dst := dst) (tp := tp) (pos := pos) (aft := aft) (g := g) (ty := ty) (ty' := ty') hx hy; rwa [IntWalk.i64_in _ h] at this
theorem pop_rem (hx : t.ev x = .v (.int k a)) (hy : t.ev y = .v (.int k b)) (h : b ≠ 0) : POp P t H ⟨dst, .binOp .rem ty x y ty', tp, pos, aft, g⟩ (.v (.int k (a.tmod b))) :=
  pop_bin hx hy fun w => by simp [eqGuard, binOp, Op.intDiv, h]
theorem pop_quo (hx : t.ev x = .v (.int k a)) (hy : t.ev y = .v (.int k b)) (h : b ≠ 0) : POp P t H ⟨dst, .binOp .quo ty x y ty', tp, pos, aft, g⟩ (.v (.int k (k.wrap (a.tdiv b)))) :=
  pop_bin hx hy fun w => by simp [eqGuard, binOp, Op.intDiv, h]
theorem pop_quo64 (hx : t.ev x = .v (.int .i64 a)) (hy : t.ev y = .v (.int .i64 b)) (h : -9223372036854775808 ≤ a ∧ a ≤ 9223372036854775807 ∧ 1 ≤ b) :
    POp P t H ⟨dst, .binOp .quo ty x y ty', tp, pos, aft, g⟩ (.v (.int .i64 (a.tdiv b))) := by
  have := pop_quo (P := P) (H := H) (dst := dst) (tp := tp) (pos := pos) (aft := aft) (g := g) (ty := ty) (ty' := ty') hx hy (by omega)
  rwa [IntWalk.i64_quo' _ _ h] at this
theorem pop_lss (hx : t.ev x = .v (.int k a)) (hy : t.ev y = .v (.int k b)) : POp P t H ⟨dst, .binOp .lss ty x y ty', tp, pos, aft, g⟩ (.v (.bool (decide (a < b)))) :=
  pop_bin hx hy fun w => by simp [eqGuard, binOp, Op.intCmp]
theorem pop_leq (hx : t.ev x = .v (.int k a)) (hy : t.ev y = .v (.int k b)) : POp P t H ⟨dst, .binOp .leq ty x y ty', tp, pos, aft, g⟩ (.v (.bool (decide (a ≤ b)))) :=
  pop_bin hx hy fun w => by simp [eqGuard, binOp, Op.intCmp]
theorem pop_gtr (hx : t.ev x = .v (.int k a)) (hy : t.ev y = .v (.int k b)) : POp P t H ⟨dst, .binOp .gtr ty x y ty', tp, pos, aft, g⟩ (.v (.bool (decide (b < a)))) :=
  pop_bin hx hy fun w => by simp [eqGuard, binOp, Op.intCmp]
theorem pop_geq (hx : t.ev x = .v (.int k a)) (hy : t.ev y = .v (.int k b)) : POp P t H ⟨dst, .binOp .geq ty x y ty', tp, pos, aft, g⟩ (.v (.bool (decide (b ≤ a)))) :=
  pop_bin hx hy fun w => by simp [eqGuard, binOp, Op.intCmp]
theorem pop_eql (hx : t.ev x = .v (.int k a)) (hy : t.ev y = .v (.int k b)) : POp P t H ⟨dst, .binOp .eql ty x y ty', tp, pos, aft, g⟩ (.v (.bool (decide (a = b)))) :=
  pop_bin hx hy fun w => by simp [eqGuard, binOp, Op.intCmp]; exact int_beq a b
theorem pop_neq (hx : t.ev x = .v (.int k a)) (hy : t.ev y = .v (.int k b)) : POp P t H ⟨dst, .binOp .neq ty x y ty', tp, pos, aft, g⟩ (.v (.bool (decide (¬ a = b)))) :=
  pop_bin hx hy fun w => by simp [eqGuard, binOp, Op.intCmp, bne, int_beq]
theorem pop_and (hx : t.ev x = .v (.int k a)) (hy : t.ev y = .v (.int k b)) :
    POp P t H ⟨dst, .binOp .and ty x y ty', tp, pos, aft, g⟩ (.v (.int k (k.wrap (BitVec.ofInt k.bits a &&& BitVec.ofInt k.bits b).toNat))) :=
  pop_bin hx hy fun w => by simp [eqGuard, binOp, Op.intBits]
theorem pop_or (hx : t.ev x = .v (.int k a)) (hy : t.ev y = .v (.int k b)) :
    POp P t H ⟨dst, .binOp .or ty x y ty', tp, pos, aft, g⟩ (.v (.int k (k.wrap (BitVec.ofInt k.bits a ||| BitVec.ofInt k.bits b).toNat))) :=
  pop_bin hx hy fun w => by simp [eqGuard, binOp, Op.intBits]
theorem pop_xor (hx : t.ev x = .v (.int k a)) (hy : t.ev y = .v (.int k b)) :
    POp P t H ⟨dst, .binOp .xor ty x y ty', tp, pos, aft, g⟩ (.v (.int k (k.wrap (BitVec.ofInt k.bits a ^^^ BitVec.ofInt k.bits b).toNat))) :=
  pop_bin hx hy fun w => by simp [eqGuard, binOp, Op.intBits]
theorem pop_shl {k' : IntKind} (hx : t.ev x = .v (.int k a)) (hy : t.ev y = .v (.int k' b)) (h : 0 ≤ b) :
    POp P t H ⟨dst, .binOp .shl ty x y ty', tp, pos, aft, g⟩ (.v (.int k (k.wrap (a * 2 ^ (min b.toNat k.bits))))) :=
  pop_bin hx hy fun w => by simp [eqGuard, binOp, Op.shift, Int.not_lt.2 h]
theorem pop_shr {k' : IntKind} (hx : t.ev x = .v (.int k a)) (hy : t.ev y = .v (.int k' b)) (h : 0 ≤ b) :
    POp P t H ⟨dst, .binOp .shr ty x y ty', tp, pos, aft, g⟩ (.v (.int k (a.fdiv (2 ^ (min b.toNat k.bits))))) :=
  pop_bin hx hy fun w => by simp [eqGuard, binOp, Op.shift, Int.not_lt.2 h]
theorem pop_eql_str {s s' : ByteArray} (hx : t.ev x = .v (.string s)) (hy : t.ev y = .v (.string s')) :
    POp P t H ⟨dst, .binOp .eql ty x y ty', tp, pos, aft, g⟩ (.v (.bool (s.toList == s'.toList))) :=
  pop_bin hx hy fun w => by simp [eqGuard, binOp, Op.stringOp]
theorem pop_neq_str {s s' : ByteArray} (hx : t.ev x = .v (.string s)) (hy : t.ev y = .v (.string s')) :
    POp P t H ⟨dst, .binOp .neq ty x y ty', tp, pos, aft, g⟩ (.v (.bool (!(s.toList == s'.toList)))) :=
  pop_bin hx hy fun w => by simp [eqGuard, binOp, Op.stringOp]
theorem pop_not {ty : TypeId} {x : Operand} {b : Bool} (hx : t.ev x = .v (.bool b)) : POp P t H ⟨dst, .unOp .not ty x, tp, pos, aft, g⟩ (.v (.bool !b)) :=
  POp.still fun S w a _ _ hr => by
    have h1 := hr x (by simp [Op.operands]); rw [hx] at h1
    exact ⟨.bool !b, by simp only [execOp]; rw [h1.v_eq]; rfl, .v _⟩
theorem pop_neg {ty : TypeId} {x : Operand} (hx : t.ev x = .v (.int k a)) : POp P t H ⟨dst, .unOp .neg ty x, tp, pos, aft, g⟩ (.v (.int k (k.wrap (0 - a)))) :=
  POp.still fun S w a' _ _ hr => by
    have h1 := hr x (by simp [Op.operands]); rw [hx] at h1
    exact ⟨.int k (k.wrap (0 - a)), by simp only [execOp]; rw [h1.v_eq]; rfl, .v _⟩
theorem pop_extract {x : Operand} {i : Nat} {ds : List T} {d : T} (hx : t.ev x = .tup ds) (hi : ds[i]? = some d) : POp P t H ⟨dst, .extract x i, tp, pos, aft, g⟩ d :=
  POp.still fun S w a _ _ hr => by
    have h1 := hr x (by simp [Op.operands]); rw [hx] at h1
    generalize hu : a.eval x = u at h1
    cases h1 with
    | tup _ vs h =>
      obtain ⟨u, hu', hd⟩ := h.get hi
      exact ⟨u, by simp only [execOp, hu, Instr.extract]; simp [hu'], hd⟩
theorem slice_of (h : isSliceTy P ty = true) : ∃ e i, P.underlying ty = some (.slice e) ∧ P.info? e = some i := by
  unfold isSliceTy elemSz at h
  split at h
  · rename_i e he
    cases hi : P.info? e with
    | none => rw [hi] at h; cases h
    | some i => exact ⟨e, i, he, hi⟩
  · cases h
theorem pop_len {x : Operand} {f : Bool} {xs : List T} (hx : t.ev x = .sl f xs) (ha : isSliceTy P ty = true) :
    POp P t H ⟨dst, .call ⟨.builtin .len, #[x], #[ty]⟩, tp, pos, aft, g⟩ (.v (.int .i64 xs.length)) :=
  POp.still fun S w a _ _ hr => by
    have h1 := hr x (by simp [Op.operands, Call.operands]); rw [hx] at h1
    obtain ⟨e, _, he, _⟩ := slice_of ha
    generalize hu : a.eval x = u at h1
    have hl : ∃ p c, u = .slice p xs.length c := by
      cases h1 with
      | nil => exact ⟨_, _, rfl⟩
      | sl _ _ b o cap vs k cs ty fz hs hb hr2 => exact ⟨_, _, by rw [← hr2.length]⟩
    obtain ⟨p, c, rfl⟩ := hl
    refine ⟨.int .i64 xs.length, ?_, .v _⟩
    simp [execOp, resolve, invoke, builtin, Builtin.len_, hu, run_underlying he, goInt]
theorem pop_len_str {x : Operand} {s : ByteArray} (hx : t.ev x = .v (.string s)) (ha : isStr P ty = true) :
    POp P t H ⟨dst, .call ⟨.builtin .len, #[x], #[ty]⟩, tp, pos, aft, g⟩ (.v (.int .i64 s.size)) :=
  POp.still fun S w a _ _ hr => by
    have h1 := hr x (by simp [Op.operands, Call.operands]); rw [hx] at h1
    have he : P.underlying ty = some .string := by
      unfold isStr at ha
      split at ha
      · assumption
      · cases ha
    refine ⟨.int .i64 s.size, ?_, .v _⟩
    simp [execOp, resolve, invoke, builtin, Builtin.len_, h1.v_eq, run_underlying he, goInt]
theorem pop_len_raw {x : Operand} {p : Option Addr} {n c : Nat} (hx : t.ev x = .v (.slice p n c)) (ha : isSliceTy P ty = true) :
    POp P t H ⟨dst, .call ⟨.builtin .len, #[x], #[ty]⟩, tp, pos, aft, g⟩ (.v (.int .i64 n)) :=
  POp.still fun S w a _ _ hr => by
    have h1 := hr x (by simp [Op.operands, Call.operands]); rw [hx] at h1
    obtain ⟨e, _, he, _⟩ := slice_of ha
    refine ⟨.int .i64 n, ?_, .v _⟩
    simp [execOp, resolve, invoke, builtin, Builtin.len_, h1.v_eq, run_underlying he, goInt]
theorem pop_min {x y : Operand} {ats : Array TypeId} (hx : t.ev x = .v (.int k a)) (hy : t.ev y = .v (.int k b)) :
    POp P t H ⟨dst, .call ⟨.builtin .min, #[x, y], ats⟩, tp, pos, aft, g⟩ (.v (.int k (min a b))) :=
  POp.still fun S w c _ _ hr => by
    have h1 := hr x (by simp [Op.operands, Call.operands]); rw [hx] at h1
    have h2 := hr y (by simp [Op.operands, Call.operands]); rw [hy] at h2
    refine ⟨.int k (min a b), ?_, .v _⟩
    have : (if b < a then b else a) = min a b := by rw [Int.min_def]; split <;> split <;> omega
    simp [execOp, resolve, invoke, builtin, Builtin.min_, Builtin.min2, h1.v_eq, h2.v_eq, this]
theorem pop_max {x y : Operand} {ats : Array TypeId} (hx : t.ev x = .v (.int k a)) (hy : t.ev y = .v (.int k b)) :
    POp P t H ⟨dst, .call ⟨.builtin .max, #[x, y], ats⟩, tp, pos, aft, g⟩ (.v (.int k (max a b))) :=
  POp.still fun S w c _ _ hr => by
    have h1 := hr x (by simp [Op.operands, Call.operands]); rw [hx] at h1
    have h2 := hr y (by simp [Op.operands, Call.operands]); rw [hy] at h2
    refine ⟨.int k (max a b), ?_, .v _⟩
    have : (if b > a then b else a) = max a b := by rw [Int.max_def]; split <;> split <;> omega
    simp [execOp, resolve, invoke, builtin, Builtin.max_, Builtin.max2, h1.v_eq, h2.v_eq]
    exact this
end
end Go.Cap
