/-
  More rules: bytes and text; slices cut.
-/
import Derived.Test.YtbdpfclnomiicaaGreatApp
namespace Go.Cap
theorem lenOk_nil {k : Nat} : ∀ x ∈ ([] : List T), x.cells.length = k := by simp
theorem lenOk_cons {k : Nat} {x : T} {xs : List T} (h : x.cells.length = k) (hs : ∀ x ∈ xs, x.cells.length = k) : ∀ y ∈ x :: xs, y.cells.length = k := by
  intro y hy
  rcases List.mem_cons.1 hy with rfl | hy
  · exact h
  · exact hs y hy
theorem lenOk_map {k : Nat} {α : Type} (f : α → T) (h : ∀ y, (f y).cells.length = k) (l : List α) : ∀ x ∈ l.map f, x.cells.length = k := by
  intro x hx; obtain ⟨y, _, rfl⟩ := List.mem_map.1 hx; exact h y
theorem lenOk_append {k : Nat} {xs ys : List T} (h : ∀ x ∈ xs, x.cells.length = k) (h' : ∀ x ∈ ys, x.cells.length = k) : ∀ x ∈ xs ++ ys, x.cells.length = k := by
  intro x hx; rcases List.mem_append.1 hx with hx | hx
  · exact h x hx
  · exact h' x hx
theorem lenOk_take {k n : Nat} {xs : List T} (h : ∀ x ∈ xs, x.cells.length = k) : ∀ x ∈ xs.take n, x.cells.length = k := fun x hx => h x (List.mem_of_mem_take hx)
theorem lenOk_drop {k n : Nat} {xs : List T} (h : ∀ x ∈ xs, x.cells.length = k) : ∀ x ∈ xs.drop n, x.cells.length = k := fun x hx => h x (List.mem_of_mem_drop hx)
theorem leafOk_nil : ∀ x ∈ ([] : List T), allLeaf x.cells = true := by simp
theorem leafOk_cons {x : T} {xs : List T} (h : allLeaf x.cells = true) (hs : ∀ x ∈ xs, allLeaf x.cells = true) : ∀ y ∈ x :: xs, allLeaf y.cells = true := by
  intro y hy
  rcases List.mem_cons.1 hy with rfl | hy
  · exact h
  · exact hs y hy
theorem leafOk_map {α : Type} (f : α → T) (h : ∀ y, allLeaf (f y).cells = true) (l : List α) : ∀ x ∈ l.map f, allLeaf x.cells = true := by
  intro x hx; obtain ⟨y, _, rfl⟩ := List.mem_map.1 hx; exact h y
theorem leafOk_take {n : Nat} {xs : List T} (h : ∀ x ∈ xs, allLeaf x.cells = true) : ∀ x ∈ xs.take n, allLeaf x.cells = true := fun x hx => h x (List.mem_of_mem_take hx)
theorem leafOk_drop {n : Nat} {xs : List T} (h : ∀ x ∈ xs, allLeaf x.cells = true) : ∀ x ∈ xs.drop n, allLeaf x.cells = true := fun x hx => h x (List.mem_of_mem_drop hx)
theorem leafOk_append {xs ys : List T} (h : ∀ x ∈ xs, allLeaf x.cells = true) (h' : ∀ x ∈ ys, allLeaf x.cells = true) : ∀ x ∈ xs ++ ys, allLeaf x.cells = true := by
  intro x hx; rcases List.mem_append.1 hx with hx | hx
  · exact h x hx
  · exact h' x hx
def eb (b : UInt8) : T := .v (.int .u8 b.toNat)
def bs (l : List UInt8) : ByteArray := ⟨l.toArray⟩
@[simp] theorem bs_toList (l : List UInt8) : (bs l).toList = l := ByteArray.toList_mk l
@[simp] theorem bs_size (l : List UInt8) : (bs l).size = l.length := by simp [bs, ByteArray.size]
theorem bs_inj {l m : List UInt8} (h : bs l = bs m) : l = m := by rw [← bs_toList l, ← bs_toList m, h]
section
variable {K : Ctx} {P : Program} {t : Env} {H : Heap} {dst : Option Tmp} {tp : TypeId} {pos : String} {aft : Array Edge} {g : Option (Nat × Bool)} {N : Env → Heap → Prop}
variable {S : Nat → Prop} {w : World} {ty ty' : TypeId}
def isBytesTy (P : Program) (t : TypeId) : Bool := match P.underlying t with
  | some (.slice e) => match P.underlying e with
    | some (.int .u8) => true
    | _ => false
  | _ => false
theorem bytes_of (h : isBytesTy P ty = true) : ∃ e, P.underlying ty = some (.slice e) ∧ P.underlying e = some (.int .u8) := by
  unfold isBytesTy at h
  split at h
  · rename_i e he
    split at h
    · rename_i h2; exact ⟨e, he, h2⟩
    · cases h
  · cases h
theorem str_of (h : isStr P ty = true) : P.underlying ty = some .string := by
  unfold isStr at h
  split at h
  · assumption
  · cases h
theorem foldl_push (l : List UInt8) : ∀ (s : ByteArray), ((l.map fun b => (b.toNat : Int)).foldl (fun r n => r.push (UInt8.ofNat n.toNat)) s) = ⟨(s.data.toList ++ l).toArray⟩ := by
  induction l with
  | nil => intro s; simp
  | cons b l ih =>
    intro s
    simp only [List.map_cons, List.foldl_cons]
    rw [ih]
    congr 1
    simp [ByteArray.push]
theorem rel_none {f : Bool} {xs : List T} {n c : Nat} (h : Rel S w (.sl f xs) (.slice none n c)) : xs = [] := by cases h; rfl
theorem pop_string {x : Operand} {f : Bool} {l : List UInt8} (hx : t.ev x = .sl f (l.map eb)) (h1 : isBytesTy P ty = true) (h2 : isStr P ty' = true) :
    POp P t H ⟨dst, .convert ty ty' x, tp, pos, aft, g⟩ (.v (.string (bs l))) :=
  POp.still fun S w a _ _ hr => by
    have hv := hr x (by simp [Op.operands]); rw [hx] at hv
    obtain ⟨e, he, he2⟩ := bytes_of h1
    have hs := str_of h2
    refine ⟨.string (bs l), ?_, .v _⟩
    have key : (Conv.bytesToString (a.eval x)).run P w = .ok (.string (bs l)) w := by
      generalize hu : a.eval x = u at hv
      obtain ⟨vs, hf, hrel, hk, hlen⟩ := run_firstV (P := P) (k := 1) hv (by intro x hx; obtain ⟨y, _, rfl⟩ := List.mem_map.1 hx; rfl) (by omega) l.length (by simp)
      have hvs : vs.flatMap (fun v => v.cells.toList) = (l.map fun b => (b.toNat : Int)).map (Value.int .u8) := by
        rw [List.take_of_length_le (by simp)] at hrel
        clear hf hlen hv hx hk
        induction l generalizing vs with
        | nil => cases hrel; rfl
        | cons b l ih =>
          cases hrel with
          | cons _ y _ ys h1 h2 =>
            have := Rel.v_eq h1
            subst this
            rw [List.flatMap_cons, ih _ h2]; rfl
      rw [hvs] at hf
      obtain ⟨p, c, he, hle, _⟩ := slice_shape hv
      subst he
      cases p with
      | none =>
        have : l = [] := by simpa using rel_none hv
        subst this; rfl
      | some p =>
        simp only [List.length_map] at hf ⊢
        simp only [Builtin.firstCells, Nat.mul_one] at hf
        rw [run_bytesToString w p l.length c _ hf, foldl_push]
        congr 2
    have : (convert ty ty' (a.eval x)).run P w = .ok (.string (bs l)) w := by
      unfold convert
      obtain ⟨p, c, hsh, _, _⟩ := slice_shape hv
      rw [hsh] at key ⊢
      simp only [List.length_map] at key ⊢
      simp [run_underlying he, run_underlying hs, run_underlying he2, key]
    simp [execOp, this]
theorem pop_neq_bs {x y : Operand} {l m : List UInt8} (hx : t.ev x = .v (.string (bs l))) (hy : t.ev y = .v (.string (bs m))) :
    POp P t H ⟨dst, .binOp .neq ty x y ty', tp, pos, aft, g⟩ (.v (.bool (decide (¬ l = m)))) :=
  POp.le (pop_neq_str hx hy) (Le.of_eq (by
    rw [bs_toList, bs_toList]; congr 2
    by_cases h : l = m
    · simp [h]
    · simp [h]))
theorem pop_eql_bs {x y : Operand} {l m : List UInt8} (hx : t.ev x = .v (.string (bs l))) (hy : t.ev y = .v (.string (bs m))) :
    POp P t H ⟨dst, .binOp .eql ty x y ty', tp, pos, aft, g⟩ (.v (.bool (decide (l = m)))) :=
  POp.le (pop_eql_str hx hy) (Le.of_eq (by
    rw [bs_toList, bs_toList]; congr 2
    by_cases h : l = m
    · simp [h]
    · simp [h]))
theorem rel_sub {f : Bool} {xs : List T} {u : Value} {e : TypeId} {inf : TypeInfo} (h : Rel S w (.sl f xs) u) (hk : ∀ x ∈ xs, x.cells.length = inf.size) (h0 : 0 < inf.size) {lo hi : Nat} (h1 : lo ≤ hi) (h2 : hi ≤ xs.length)
    (hu : P.underlying ty = some (.slice e)) (hi' : P.info? e = some inf) {ol oh om : Option Value} (hrun : (Instr.sliceBounds true xs.length (match u with | .slice _ _ c => c | _ => 0) ol oh om).run P w = .ok (lo, hi, match u with | .slice _ _ c => c | _ => 0) w) :
    ∃ v, (Instr.sliceAt ty u ol oh om).run P w = .ok v w ∧ Rel S w (.sl (f && Nat.beq hi xs.length) ((xs.drop lo).take (hi - lo))) v := by
  cases h with
  | nil =>
    have : lo = 0 := by simp at h2; omega
    subst this
    have : hi = 0 := by simp at h2; omega
    subst this
    simp only [List.length_nil] at hrun
    rename_i p c hf
    cases p with
    | none =>
      refine ⟨.slice none 0 c, ?_, by simp; exact .nil _ _ _ hf⟩
      simp [Instr.sliceAt, Instr.slice, run_underlying hu, hrun, run_sizeOf hi']
    | some a =>
      refine ⟨.slice (if c = 0 then some a else some (a.add 0)) 0 c, ?_, by simp; exact .nil _ _ _ hf⟩
      simp [Instr.sliceAt, Instr.slice, run_underlying hu, hrun, run_sizeOf hi']
  | sl _ _ b o cap vs k cs ty2 fz hS hb hr hg hf hc =>
    have hvl := hr.length
    rw [hvl] at hc hf ⊢
    simp only at hrun
    have hsize : ∀ v ∈ vs, v.cells.size = inf.size := (relL_cells h0 hr hk).2
    have hsub := (hr.drop lo).take (hi - lo)
    have hlen : ((vs.drop lo).take (hi - lo)).length = hi - lo := by rw [List.length_take, List.length_drop]; omega
    have hkk : vs.length = 0 ∨ k = inf.size := by
      cases vs with
      | nil => exact .inl rfl
      | cons v vs => exact .inr (by rw [← hg.1 v List.mem_cons_self, hsize v List.mem_cons_self])
    refine ⟨.slice (some (if cap = lo then ⟨b, o, none⟩ else ⟨b, o + lo * inf.size, none⟩)) (hi - lo) (cap - lo), ?_, ?_⟩
    · simp only [Instr.sliceAt, Sem.run_bind, run_underlying hu, Result.andThen_ok]
      simp only [Instr.slice, Sem.run_bind, run_underlying hu, Result.andThen_ok, hrun, run_sizeOf hi', Sem.run_pure]
      by_cases hcl : cap = lo
      · simp [hcl]
      · simp [hcl, Addr.add_mk]
    · by_cases hcl : cap = lo
      · have : hi - lo = 0 := by omega
        rw [if_pos hcl, this]
        have hz : ((vs.drop lo).take 0) = [] := by simp
        rw [this] at hsub
        rw [hz] at hsub
        refine .sl _ _ b o (cap - lo) [] k cs ty2 fz hS hb hsub ⟨by simp, by simp⟩ (fun e => by simp; omega) (by simp)
      · rw [if_neg hcl]
        have hrel := Rel.sl (S := S) (w := w) (f && Nat.beq hi xs.length) ((xs.drop lo).take (hi - lo)) b (o + lo * inf.size) (cap - lo) ((vs.drop lo).take (hi - lo)) inf.size cs ty2 fz hS hb hsub
          ⟨fun v hv => hsize v (List.mem_of_mem_drop (List.mem_of_mem_take hv)), ?_⟩ (fun e => ?_) (by omega)
        · rw [hlen] at hrel; exact hrel
        · rcases hkk with hv0 | rfl
          · have hxl : xs.length = 0 := by omega
            have : hi - lo = 0 := by omega
            simp [this]
          · rw [hlen, ← List.drop_drop]
            have hfl : ∀ (l : List Value) (n : Nat), (∀ v ∈ l, v.cells.size = inf.size) → (l.flatMap fun v => v.cells.toList).drop (n * inf.size) = (l.drop n).flatMap fun v => v.cells.toList := by
              intro l n hl
              induction l generalizing n with
              | nil => simp
              | cons x l ih =>
                cases n with
                | zero => simp
                | succ n =>
                  have hx := hl x List.mem_cons_self
                  have : x.cells.toList.length = inf.size := by rw [Array.length_toList, hx]
                  rw [List.flatMap_cons, List.drop_succ_cons, Nat.succ_mul, List.drop_append, this, List.drop_of_length_le (by omega), List.nil_append, show n * inf.size + inf.size - inf.size = n * inf.size by omega]
                  exact ih n (fun y hy => hl y (List.mem_cons_of_mem _ hy))
            have hgg := congrArg (List.drop (lo * inf.size)) hg.2
            rw [hfl vs lo hsize, List.drop_take, hvl] at hgg
            rw [← flat_takeV _ _ (fun v hv => hsize v (List.mem_of_mem_drop hv)), ← hgg, List.take_take]
            congr 1
            have e1 : (hi - lo) * inf.size = hi * inf.size - lo * inf.size := Nat.sub_mul _ _ _
            have e2 : hi * inf.size ≤ xs.length * inf.size := Nat.mul_le_mul_right _ h2
            omega
        · simp only [Bool.and_eq_true] at e
          have h3 := hf e.1
          have h4 := Nat.eq_of_beq_eq_true e.2
          rw [hlen]; omega
theorem bound_run {k : IntKind} {i : Int} {y : Nat} {code : BoundsCode} (h0 : 0 ≤ i) (h1 : i ≤ y) (w : World) : (Instr.sliceBound (.int k i) y code).run P w = .ok i.toNat w := by
  simp [Instr.sliceBound, asIntOf, h0, h1]
variable {f : Bool} {xs : List T} {dx : T} {d : T} {by_ : Nat} {x l h : Operand} {k k' : IntKind} {i j : Int}
theorem elem_size [hz : ElemZC P ty d by_] : ∃ e inf, P.underlying ty = some (.slice e) ∧ P.info? e = some inf ∧ inf.size = d.cells.length ∧ 0 < inf.size := by
  obtain ⟨e, inf, z, hu, hinf, hzz, hsz, hp, rfl, hby⟩ := elemZ_of hz.h
  exact ⟨e, inf, hu, hinf, by rw [ofVal_cells, hsz], by omega⟩
theorem pop_slice_lh (hx : t.ev x = dx) (hxl : Le dx (.sl f xs)) (hl : t.ev l = .v (.int k i)) (hh : t.ev h = .v (.int k' j)) [hz : ElemZC P ty d by_] (h0 : 0 ≤ i) (h1 : i ≤ j) (h2 : j ≤ xs.length) (hk : ∀ x ∈ xs, x.cells.length = d.cells.length) :
    POp P t H ⟨dst, .slice ty x (some l) (some h) none, tp, pos, aft, g⟩ (.sl (f && Nat.beq j.toNat xs.length) ((xs.drop i.toNat).take (j.toNat - i.toNat))) :=
  POp.still fun S w a _ _ hr => by
    have e1 := hr x (by simp [Op.operands]); rw [hx] at e1
    have e2 := hr l (by simp [Op.operands]); rw [hl] at e2
    have e3 := hr h (by simp [Op.operands]); rw [hh] at e3
    replace e1 := hxl _ _ _ e1
    obtain ⟨e, inf, hu, hinf, hs, hp⟩ := elem_size (P := P) (ty := ty) (d := d) (by_ := by_)
    obtain ⟨p, c, hsh, hle, _⟩ := slice_shape e1
    rw [hsh] at e1
    obtain ⟨v, hv, hrel⟩ := rel_sub (P := P) (ty := ty) (inf := inf) (lo := i.toNat) (hi := j.toNat) (ol := some (a.eval l)) (oh := some (a.eval h)) (om := none) e1 (by rw [hs]; exact hk) hp (by omega) (by omega) hu hinf (by
      rw [e2.v_eq, e3.v_eq]
      simp [Instr.sliceBounds, bound_run (P := P) (show 0 ≤ j by omega) (show j ≤ (c : Nat) by omega), bound_run (P := P) h0 (show i ≤ (j.toNat : Nat) by omega)])
    exact ⟨v, by simp [execOp, hsh, hv], hrel⟩
theorem pop_slice_l (hx : t.ev x = dx) (hxl : Le dx (.sl f xs)) (hl : t.ev l = .v (.int k i)) [hz : ElemZC P ty d by_] (h0 : 0 ≤ i) (h2 : i ≤ xs.length) (hk : ∀ x ∈ xs, x.cells.length = d.cells.length) :
    POp P t H ⟨dst, .slice ty x (some l) none none, tp, pos, aft, g⟩ (.sl f (xs.drop i.toNat)) :=
  POp.still fun S w a _ _ hr => by
    have e1 := hr x (by simp [Op.operands]); rw [hx] at e1
    have e2 := hr l (by simp [Op.operands]); rw [hl] at e2
    replace e1 := hxl _ _ _ e1
    obtain ⟨e, inf, hu, hinf, hs, hp⟩ := elem_size (P := P) (ty := ty) (d := d) (by_ := by_)
    obtain ⟨p, c, hsh, hle, _⟩ := slice_shape e1
    rw [hsh] at e1
    obtain ⟨v, hv, hrel⟩ := rel_sub (P := P) (ty := ty) (inf := inf) (lo := i.toNat) (hi := xs.length) (ol := some (a.eval l)) (oh := none) (om := none) e1 (by rw [hs]; exact hk) hp (by omega) (by omega) hu hinf (by
      rw [e2.v_eq]
      simp [Instr.sliceBounds, bound_run (P := P) h0 (show i ≤ (xs.length : Nat) by omega)])
    refine ⟨v, by simp [execOp, hsh, hv], ?_⟩
    have hb : Nat.beq xs.length xs.length = true := Nat.beq_refl _
    rw [hb, Bool.and_true, List.take_of_length_le (by rw [List.length_drop]; omega)] at hrel
    exact hrel
theorem pop_slice_h (hx : t.ev x = dx) (hxl : Le dx (.sl f xs)) (hh : t.ev h = .v (.int k' j)) [hz : ElemZC P ty d by_] (h1 : 0 ≤ j) (h2 : j ≤ xs.length) (hk : ∀ x ∈ xs, x.cells.length = d.cells.length) :
    POp P t H ⟨dst, .slice ty x none (some h) none, tp, pos, aft, g⟩ (.sl (f && Nat.beq j.toNat xs.length) (xs.take j.toNat)) :=
  POp.still fun S w a _ _ hr => by
    have e1 := hr x (by simp [Op.operands]); rw [hx] at e1
    have e3 := hr h (by simp [Op.operands]); rw [hh] at e3
    replace e1 := hxl _ _ _ e1
    obtain ⟨e, inf, hu, hinf, hs, hp⟩ := elem_size (P := P) (ty := ty) (d := d) (by_ := by_)
    obtain ⟨p, c, hsh, hle, _⟩ := slice_shape e1
    rw [hsh] at e1
    obtain ⟨v, hv, hrel⟩ := rel_sub (P := P) (ty := ty) (inf := inf) (lo := 0) (hi := j.toNat) (ol := none) (oh := some (a.eval h)) (om := none) e1 (by rw [hs]; exact hk) hp (by omega) (by omega) hu hinf (by
      rw [e3.v_eq]
      simp [Instr.sliceBounds, bound_run (P := P) h1 (show j ≤ (c : Nat) by omega)])
    exact ⟨v, by simp [execOp, hsh, hv], by simpa using hrel⟩
end
end Go.Cap
