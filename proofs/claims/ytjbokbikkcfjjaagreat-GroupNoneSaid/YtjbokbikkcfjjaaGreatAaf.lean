/-
  More rules: bytes and text; slices cut.
  The forms in which the walks use the rules: loops by lists of slots, regions in any order by their slots.
-/
import Derived.Test.YtjbokbikkcfjjaaGreatAae
section
namespace Go.Cap
theorem lenOk_nil {k : Nat} : ∀ x ∈ ([] : List T), x.cells.length = k := by simp
theorem lenOk_cons {k : Nat} {x : T} {xs : List T} (h : x.cells.length = k) (hs : ∀ x ∈ xs, x.cells.length = k) : ∀ y ∈ x :: xs, y.cells.length = k := by
  intro y hy
  rcases List.mem_cons.1 hy with rfl | hy
  · exact h
  · exact hs y hy
theorem lenOk_map {k : Nat} {α : Type} (f : α → T) (h : ∀ y, (f y).cells.length = k) (l : List α) : ∀ x ∈ l.map f, x.cells.length = k := by
  intro x hx; obtain ⟨y, _, rfl⟩ := List.mem_map.1 hx; exact h y
theorem lenOk_append {k : Nat} {xs ys : List T} (h : ∀ x ∈ xs, x.cells.length = k) (h' : ∀ x ∈ ys, x.cells.length = k) : ∀ x ∈ xs ++ ys, x.cells.length = k := by
  intro x hx; rcases List.mem_append.1 hx with hx | hx
  · exact h x hx
  · exact h' x hx
theorem lenOk_take {k n : Nat} {xs : List T} (h : ∀ x ∈ xs, x.cells.length = k) : ∀ x ∈ xs.take n, x.cells.length = k := fun x hx => h x (List.mem_of_mem_take hx)
theorem lenOk_drop {k n : Nat} {xs : List T} (h : ∀ x ∈ xs, x.cells.length = k) : ∀ x ∈ xs.drop n, x.cells.length = k := fun x hx => h x (List.mem_of_mem_drop hx)
theorem leafOk_nil : ∀ x ∈ ([] : List T), allLeaf x.cells = true := by simp
theorem leafOk_cons {x : T} {xs : List T} (h : allLeaf x.cells = true) (hs : ∀ x ∈ xs, allLeaf x.cells = true) : ∀ y ∈ x :: xs, allLeaf y.cells = true := by
  intro y hy
  rcases List.mem_cons.1 hy with rfl | hy
  · exact h
  · exact hs y hy
theorem leafOk_map {α : Type} (f : α → T) (h : ∀ y, allLeaf (f y).cells = true) (l : List α) : ∀ x ∈ l.map f, allLeaf x.cells = true := by
  intro x hx; obtain ⟨y, _, rfl⟩ := List.mem_map.1 hx; exact h y
theorem leafOk_take {n : Nat} {xs : List T} (h : ∀ x ∈ xs, allLeaf x.cells = true) : ∀ x ∈ xs.take n, allLeaf x.cells = true := fun x hx => h x (List.mem_of_mem_take hx)
theorem leafOk_drop {n : Nat} {xs : List T} (h : ∀ x ∈ xs, allLeaf x.cells = true) : ∀ x ∈ xs.drop n, allLeaf x.cells = true := fun x hx => h x (List.mem_of_mem_drop hx)
theorem leafOk_append {xs ys : List T} (h : ∀ x ∈ xs, allLeaf x.cells = true) (h' : ∀ x ∈ ys, allLeaf x.cells = true) : ∀ x ∈ xs ++ ys, allLeaf x.cells = true := by
  intro x hx; rcases List.mem_append.1 hx with hx | hx
  · exact h x hx
  · exact h' x hx
def eb (b : UInt8) : T := .v (.int .u8 b.toNat)
def bs (l : List UInt8) : ByteArray := ⟨l.toArray⟩
@[simp] theorem bs_toList (l : List UInt8) : (bs l).toList = l := ByteArray.toList_mk l
@[simp] theorem bs_size (l : List UInt8) : (bs l).size = l.length := by simp [bs, ByteArray.size]
theorem bs_inj {l m : List UInt8} (h : bs l = bs m) : l = m := by rw [← bs_toList l, ← bs_toList m, h]
section
variable {K : Ctx} {P : Program} {t : Env} {H : Heap} {dst : Option Tmp} {tp : TypeId} {pos : String} {aft : Array Edge} {g : Option (Nat × Bool)} {N : Env → Heap → Prop}
variable {S : Nat → Prop} {w : World} {ty ty' : TypeId}
def isBytesTy (P : Program) (t : TypeId) : Bool := match P.underlying t with
  | some (.slice e) => match P.underlying e with
    | some (.int .u8) => true
    | _ => false
  | _ => false
theorem bytes_of (h : isBytesTy P ty = true) : ∃ e, P.underlying ty = some (.slice e) ∧ P.underlying e = some (.int .u8) := by
  unfold isBytesTy at h
  split at h
  · rename_i e he
    split at h
    · rename_i h2; exact ⟨e, he, h2⟩
    · cases h
  · cases h
theorem str_of (h : isStr P ty = true) : P.underlying ty = some .string := by
  unfold isStr at h
  split at h
  · assumption
  · cases h
theorem foldl_push (l : List UInt8) : ∀ (s : ByteArray), ((l.map fun b => (b.toNat : Int)).foldl (fun r n => r.push (UInt8.ofNat n.toNat)) s) = ⟨(s.data.toList ++ l).toArray⟩ := by
  induction l with
  | nil => intro s; simp
  | cons b l ih =>
    intro s
    simp only [List.map_cons, List.foldl_cons]
    rw [ih]
    congr 1
    simp [ByteArray.push]
theorem rel_none {f : Bool} {xs : List T} {n c : Nat} (h : Rel S w (.sl f xs) (.slice none n c)) : xs = [] := by cases h; rfl
theorem pop_string {x : Operand} {f : Bool} {l : List UInt8} (hx : t.ev x = .sl f (l.map eb)) (h1 : isBytesTy P ty = true) (h2 : isStr P ty' = true) :
    POp P t H ⟨dst, .convert ty ty' x, tp, pos, aft, g⟩ (.v (.string (bs l))) :=
  POp.still fun S w a _ _ hr => by
    have hv := hr x (by simp [Op.operands]); rw [hx] at hv
    obtain ⟨e, he, he2⟩ := bytes_of h1
    have hs := str_of h2
    refine ⟨.string (bs l), ?_, .v _⟩
    have key : (Conv.bytesToString (a.eval x)).run P w = .ok (.string (bs l)) w := by
      generalize hu : a.eval x = u at hv
      obtain ⟨vs, hf, hrel, hk, hlen⟩ := run_firstV (P := P) (k := 1) hv (by intro x hx; obtain ⟨y, _, rfl⟩ := List.mem_map.1 hx; rfl) (by omega) l.length (by simp)
      have hvs : vs.flatMap (fun v => v.cells.toList) = (l.map fun b => (b.toNat : Int)).map (Value.int .u8) := by
        rw [List.take_of_length_le (by simp)] at hrel
        clear hf hlen hv hx hk
        induction l generalizing vs with
        | nil => cases hrel; rfl
        | cons b l ih =>
          cases hrel with
          | cons _ y _ ys h1 h2 =>
            have := Rel.v_eq h1
            subst this
            rw [List.flatMap_cons, ih _ h2]; rfl
      rw [hvs] at hf
      obtain ⟨p, c, he, hle, _⟩ := slice_shape hv
      subst he
      cases p with
      | none =>
        have : l = [] := by simpa using rel_none hv
        subst this; rfl
      | some p =>
        simp only [List.length_map] at hf ⊢
        simp only [Builtin.firstCells, Nat.mul_one] at hf
        rw [run_bytesToString w p l.length c _ hf, foldl_push]
        congr 2
    have : (convert ty ty' (a.eval x)).run P w = .ok (.string (bs l)) w := by
      unfold convert
      obtain ⟨p, c, hsh, _, _⟩ := slice_shape hv
      rw [hsh] at key ⊢
      simp only [List.length_map] at key ⊢
      simp [run_underlying he, run_underlying hs, run_underlying he2, key]
    simp [execOp, this]
theorem pop_eql_bs {x y : Operand} {l m : List UInt8} (hx : t.ev x = .v (.string (bs l))) (hy : t.ev y = .v (.string (bs m))) :
    POp P t H ⟨dst, .binOp .eql ty x y ty', tp, pos, aft, g⟩ (.v (.bool (decide (l = m)))) :=
  POp.le (pop_eql_str hx hy) (Le.of_eq (by
    rw [bs_toList, bs_toList]; congr 2
    by_cases h : l = m
    · simp [h]
    · simp [h]))
theorem rel_sub {f : Bool} {xs : List T} {u : Value} {e : TypeId} {inf : TypeInfo} (h : Rel S w (.sl f xs) u) (hk : ∀ x ∈ xs, x.cells.length = inf.size) (h0 : 0 < inf.size) {lo hi : Nat} (h1 : lo ≤ hi) (h2 : hi ≤ xs.length)
    (hu : P.underlying ty = some (.slice e)) (hi' : P.info? e = some inf) {ol oh om : Option Value} (hrun : (Instr.sliceBounds true xs.length (match u with | .slice _ _ c => c | _ => 0) ol oh om).run P w = .ok (lo, hi, match u with | .slice _ _ c => c | _ => 0) w) :
    ∃ v, (Instr.sliceAt ty u ol oh om).run P w = .ok v w ∧ Rel S w (.sl (f && Nat.beq hi xs.length) ((xs.drop lo).take (hi - lo))) v := by
  cases h with
  | nil =>
    have : lo = 0 := by simp at h2; omega
    subst this
    have : hi = 0 := by simp at h2; omega
    subst this
    simp only [List.length_nil] at hrun
    rename_i p c hf
    cases p with
    | none =>
      refine ⟨.slice none 0 c, ?_, by simp; exact .nil _ _ _ hf⟩
      simp [Instr.sliceAt, Instr.slice, run_underlying hu, hrun, run_sizeOf hi']
    | some a =>
      refine ⟨.slice (if c = 0 then some a else some (a.add 0)) 0 c, ?_, by simp; exact .nil _ _ _ hf⟩
      simp [Instr.sliceAt, Instr.slice, run_underlying hu, hrun, run_sizeOf hi']
  | sl _ _ b o cap vs k cs ty2 fz hS hb hr hg hf hc =>
    have hvl := hr.length
    rw [hvl] at hc hf ⊢
    simp only at hrun
    have hsize : ∀ v ∈ vs, v.cells.size = inf.size := (relL_cells h0 hr hk).2
    have hsub := (hr.drop lo).take (hi - lo)
    have hlen : ((vs.drop lo).take (hi - lo)).length = hi - lo := by rw [List.length_take, List.length_drop]; omega
    have hkk : vs.length = 0 ∨ k = inf.size := by
      cases vs with
      | nil => exact .inl rfl
      | cons v vs => exact .inr (by rw [← hg.1 v List.mem_cons_self, hsize v List.mem_cons_self])
    refine ⟨.slice (some (if cap = lo then ⟨b, o, none⟩ else ⟨b, o + lo * inf.size, none⟩)) (hi - lo) (cap - lo), ?_, ?_⟩
    · simp only [Instr.sliceAt, Sem.run_bind, run_underlying hu, Result.andThen_ok]
      simp only [Instr.slice, Sem.run_bind, run_underlying hu, Result.andThen_ok, hrun, run_sizeOf hi', Sem.run_pure]
      by_cases hcl : cap = lo
      · simp [hcl]
      · simp [hcl, Addr.add_mk]
    · by_cases hcl : cap = lo
      · have : hi - lo = 0 := by omega
        rw [if_pos hcl, this]
        have hz : ((vs.drop lo).take 0) = [] := by simp
        rw [this] at hsub
        rw [hz] at hsub
        refine .sl _ _ b o (cap - lo) [] k cs ty2 fz hS hb hsub ⟨by simp, by simp⟩ (fun e => by simp; omega) (by simp)
      · rw [if_neg hcl]
        have hrel := Rel.sl (S := S) (w := w) (f && Nat.beq hi xs.length) ((xs.drop lo).take (hi - lo)) b (o + lo * inf.size) (cap - lo) ((vs.drop lo).take (hi - lo)) inf.size cs ty2 fz hS hb hsub
          ⟨fun v hv => hsize v (List.mem_of_mem_drop (List.mem_of_mem_take hv)), ?_⟩ (fun e => ?_) (by omega)
        · rw [hlen] at hrel; exact hrel
        · rcases hkk with hv0 | rfl
          · have hxl : xs.length = 0 := by omega
            have : hi - lo = 0 := by omega
            simp [this]
          · rw [hlen, ← List.drop_drop]
            have hfl : ∀ (l : List Value) (n : Nat), (∀ v ∈ l, v.cells.size = inf.size) → (l.flatMap fun v => v.cells.toList).drop (n * inf.size) = (l.drop n).flatMap fun v => v.cells.toList := by
              intro l n hl
              induction l generalizing n with
              | nil => simp
              | cons x l ih =>
                cases n with
                | zero => simp
                | succ n =>
                  have hx := hl x List.mem_cons_self
                  have : x.cells.toList.length = inf.size := by rw [Array.length_toList, hx]
                  rw [List.flatMap_cons, List.drop_succ_cons, Nat.succ_mul, List.drop_append, this, List.drop_of_length_le (by omega), List.nil_append, show n * inf.size + inf.size - inf.size = n * inf.size by omega]
                  exact ih n (fun y hy => hl y (List.mem_cons_of_mem _ hy))
            have hgg := congrArg (List.drop (lo * inf.size)) hg.2
            rw [hfl vs lo hsize, List.drop_take, hvl] at hgg
            rw [← flat_takeV _ _ (fun v hv => hsize v (List.mem_of_mem_drop hv)), ← hgg, List.take_take]
            congr 1
            have e1 : (hi - lo) * inf.size = hi * inf.size - lo * inf.size := Nat.sub_mul _ _ _
            have e2 : hi * inf.size ≤ xs.length * inf.size := Nat.mul_le_mul_right _ h2
            omega
        · simp only [Bool.and_eq_true] at e
          have h3 := hf e.1
          have h4 := Nat.eq_of_beq_eq_true e.2
          rw [hlen]; omega
theorem bound_run {k : IntKind} {i : Int} {y : Nat} {code : BoundsCode} (h0 : 0 ≤ i) (h1 : i ≤ y) (w : World) : (Instr.sliceBound (.int k i) y code).run P w = .ok i.toNat w := by
  simp [Instr.sliceBound, asIntOf, h0, h1]
variable {f : Bool} {xs : List T} {dx : T} {d : T} {by_ : Nat} {x l h : Operand} {k k' : IntKind} {i j : Int}
theorem elem_size [hz : ElemZC P ty d by_] : ∃ e inf, P.underlying ty = some (.slice e) ∧ P.info? e = some inf ∧ inf.size = d.cells.length ∧ 0 < inf.size := by
  obtain ⟨e, inf, z, hu, hinf, hzz, hsz, hp, rfl, hby⟩ := elemZ_of hz.h
  exact ⟨e, inf, hu, hinf, by rw [ofVal_cells, hsz], by omega⟩
theorem pop_slice_lh (hx : t.ev x = dx) (hxl : Le dx (.sl f xs)) (hl : t.ev l = .v (.int k i)) (hh : t.ev h = .v (.int k' j)) [hz : ElemZC P ty d by_] (h0 : 0 ≤ i) (h1 : i ≤ j) (h2 : j ≤ xs.length) (hk : ∀ x ∈ xs, x.cells.length = d.cells.length) :
    POp P t H ⟨dst, .slice ty x (some l) (some h) none, tp, pos, aft, g⟩ (.sl (f && Nat.beq j.toNat xs.length) ((xs.drop i.toNat).take (j.toNat - i.toNat))) :=
  POp.still fun S w a _ _ hr => by
    have e1 := hr x (by simp [Op.operands]); rw [hx] at e1
    have e2 := hr l (by simp [Op.operands]); rw [hl] at e2
    have e3 := hr h (by simp [Op.operands]); rw [hh] at e3
    replace e1 := hxl _ _ _ e1
    obtain ⟨e, inf, hu, hinf, hs, hp⟩ := elem_size (P := P) (ty := ty) (d := d) (by_ := by_)
    obtain ⟨p, c, hsh, hle, _⟩ := slice_shape e1
    rw [hsh] at e1
    obtain ⟨v, hv, hrel⟩ := rel_sub (P := P) (ty := ty) (inf := inf) (lo := i.toNat) (hi := j.toNat) (ol := some (a.eval l)) (oh := some (a.eval h)) (om := none) e1 (by rw [hs]; exact hk) hp (by omega) (by omega) hu hinf (by
      rw [e2.v_eq, e3.v_eq]
      simp [Instr.sliceBounds, bound_run (P := P) (show 0 ≤ j by omega) (show j ≤ (c : Nat) by omega), bound_run (P := P) h0 (show i ≤ (j.toNat : Nat) by omega)])
    exact ⟨v, by simp [execOp, hsh, hv], hrel⟩
theorem pop_slice_l (hx : t.ev x = dx) (hxl : Le dx (.sl f xs)) (hl : t.ev l = .v (.int k i)) [hz : ElemZC P ty d by_] (h0 : 0 ≤ i) (h2 : i ≤ xs.length) (hk : ∀ x ∈ xs, x.cells.length = d.cells.length) :
    POp P t H ⟨dst, .slice ty x (some l) none none, tp, pos, aft, g⟩ (.sl f (xs.drop i.toNat)) :=
  POp.still fun S w a _ _ hr => by
    have e1 := hr x (by simp [Op.operands]); rw [hx] at e1
    have e2 := hr l (by simp [Op.operands]); rw [hl] at e2
    replace e1 := hxl _ _ _ e1
    obtain ⟨e, inf, hu, hinf, hs, hp⟩ := elem_size (P := P) (ty := ty) (d := d) (by_ := by_)
    obtain ⟨p, c, hsh, hle, _⟩ := slice_shape e1
    rw [hsh] at e1
    obtain ⟨v, hv, hrel⟩ := rel_sub (P := P) (ty := ty) (inf := inf) (lo := i.toNat) (hi := xs.length) (ol := some (a.eval l)) (oh := none) (om := none) e1 (by rw [hs]; exact hk) hp (by omega) (by omega) hu hinf (by
      rw [e2.v_eq]
      simp [Instr.sliceBounds, bound_run (P := P) h0 (show i ≤ (xs.length : Nat) by omega)])
    refine ⟨v, by simp [execOp, hsh, hv], ?_⟩
    have hb : Nat.beq xs.length xs.length = true := Nat.beq_refl _
    rw [hb, Bool.and_true, List.take_of_length_le (by rw [List.length_drop]; omega)] at hrel
    exact hrel
theorem pop_slice_h (hx : t.ev x = dx) (hxl : Le dx (.sl f xs)) (hh : t.ev h = .v (.int k' j)) [hz : ElemZC P ty d by_] (h1 : 0 ≤ j) (h2 : j ≤ xs.length) (hk : ∀ x ∈ xs, x.cells.length = d.cells.length) :
    POp P t H ⟨dst, .slice ty x none (some h) none, tp, pos, aft, g⟩ (.sl (f && Nat.beq j.toNat xs.length) (xs.take j.toNat)) :=
  POp.still fun S w a _ _ hr => by
    have e1 := hr x (by simp [Op.operands]); rw [hx] at e1
    have e3 := hr h (by simp [Op.operands]); rw [hh] at e3
    replace e1 := hxl _ _ _ e1
    obtain ⟨e, inf, hu, hinf, hs, hp⟩ := elem_size (P := P) (ty := ty) (d := d) (by_ := by_)
    obtain ⟨p, c, hsh, hle, _⟩ := slice_shape e1
    rw [hsh] at e1
    obtain ⟨v, hv, hrel⟩ := rel_sub (P := P) (ty := ty) (inf := inf) (lo := 0) (hi := j.toNat) (ol := none) (oh := some (a.eval h)) (om := none) e1 (by rw [hs]; exact hk) hp (by omega) (by omega) hu hinf (by
      rw [e3.v_eq]
      simp [Instr.sliceBounds, bound_run (P := P) h1 (show j ≤ (c : Nat) by omega)])
    exact ⟨v, by simp [execOp, hsh, hv], by simpa using hrel⟩
end
end Go.Cap
end
section
namespace Go.Cap
inductive HeapFront : Heap → Heap → Prop
  | nil (H : Heap) : HeapFront H []
  | keep (b : Nat) (k k' : Blk) (r r' : Heap) (h : BlkLe k k') (hs : HeapFront r r') : HeapFront ((b, k) :: r) ((b, k') :: r')
  | skip (p : Nat × Blk) (r r' : Heap) (hs : HeapFront r r') : HeapFront (p :: r) r'
theorem HeapFront.le {H H' : Heap} (h : HeapFront H H') (hn : (keys H).Nodup) : HeapLe H H' := by
  induction h with
  | nil H => exact HeapLe.nil _
  | keep b k k' r r' hk hr ih =>
    have hn' := List.nodup_cons.1 (show (b :: keys r).Nodup from hn)
    have ih := ih hn'.2
    refine ⟨?_, ?_⟩
    · show (b :: keys r').Nodup
      exact List.nodup_cons.2 ⟨fun hm => hn'.1 (ih.sub b hm), ih.1⟩
    · intro p hp
      rcases List.mem_cons.1 hp with rfl | hp
      · exact ⟨k, List.mem_cons_self, hk⟩
      · obtain ⟨k2, h1, h2⟩ := ih.2 p hp
        exact ⟨k2, List.mem_cons_of_mem _ h1, h2⟩
  | skip p r r' hr ih =>
    have hn' := List.nodup_cons.1 (show (p.1 :: keys r).Nodup from hn)
    have ih := ih hn'.2
    refine ⟨ih.1, fun q hq => ?_⟩
    obtain ⟨k2, h1, h2⟩ := ih.2 q hq
    exact ⟨k2, List.mem_cons_of_mem _ h1, h2⟩
def HRep (H : Heap) (p p' : Nat × Blk) (H' : Heap) : Prop := ∃ i, H[i]? = some p ∧ H' = H.set i p'
theorem hrep_here {p p' : Nat × Blk} {r : Heap} : HRep (p :: r) p p' (p' :: r) := ⟨0, rfl, rfl⟩
theorem hrep_there {p p' q : Nat × Blk} {r r' : Heap} (h : HRep r p p' r') : HRep (q :: r) p p' (q :: r') := by
  obtain ⟨i, h1, h2⟩ := h
  exact ⟨i + 1, by simpa using h1, by rw [h2]; rfl⟩
theorem hmem_here {p : Nat × Blk} {r : Heap} : p ∈ p :: r := List.mem_cons_self
theorem hmem_there {p q : Nat × Blk} {r : Heap} (h : p ∈ r) : p ∈ q :: r := List.mem_cons_of_mem _ h
theorem eZ {t : Env} {k : Tmp} {d : T} : Env.ev ((k, d) :: t) (.tmp k) = d := ev_here
theorem eS {t : Env} {j k : Tmp} {d e : T} (h : Nat.beq j k = false) (h' : Env.ev t (.tmp k) = d) : Env.ev ((j, e) :: t) (.tmp k) = d := ev_there h h'
theorem gZ {t : Env} {k : Tmp} {d : T} : Env.get ((k, d) :: t) k = d := get_here
theorem gS {t : Env} {j k : Tmp} {d e : T} (h : Nat.beq j k = false) (h' : Env.get t k = d) : Env.get ((j, e) :: t) k = d := get_there h h'
theorem hZ {p : Nat × Blk} {r : Heap} : p ∈ p :: r := hmem_here
theorem hS {p q : Nat × Blk} {r : Heap} (h : p ∈ r) : p ∈ q :: r := hmem_there h
theorem rZ {p p' : Nat × Blk} {r : Heap} : HRep (p :: r) p p' (p' :: r) := hrep_here
theorem rS {p p' q : Nat × Blk} {r r' : Heap} (h : HRep r p p' r') : HRep (q :: r) p p' (q :: r') := hrep_there h
theorem hA {A r : Heap} {p : Nat × Blk} (h : p ∈ r) : p ∈ A ++ r := List.mem_append_right _ h
theorem hrep_left {p p' : Nat × Blk} {r r' : Heap} (h : HRep r p p' r') : ∀ A : Heap, HRep (A ++ r) p p' (A ++ r')
  | [] => h
  | _ :: A => hrep_there (hrep_left h A)
theorem rA {A r r' : Heap} {p p' : Nat × Blk} (h : HRep r p p' r') : HRep (A ++ r) p p' (A ++ r') := hrep_left h A
inductive LayR : List T → Nat → List T → List T → Prop
  | nil (cs : List T) : LayR cs 0 [] cs
  | cons (c : T) (cs : List T) (d : T) (ds r : List T) (h : LayR cs 0 ds r) : LayR (c :: cs) 0 (d :: ds) (d :: r)
  | skip (c : T) (cs : List T) (o : Nat) (ds r : List T) (h : LayR cs o ds r) : LayR (c :: cs) (o + 1) ds (c :: r)
theorem LayR.eq {cs : List T} {o : Nat} {ds r : List T} (h : LayR cs o ds r) : lay cs o ds = r ∧ o + ds.length ≤ cs.length := by
  induction h with
  | nil cs => exact ⟨by simp [lay], by simp⟩
  | cons c cs d ds r h ih =>
    refine ⟨?_, by have := ih.2; simp at this ⊢; omega⟩
    rw [← ih.1]; simp [lay]
  | skip c cs o ds r h ih =>
    refine ⟨?_, by have := ih.2; simp at this ⊢; omega⟩
    rw [← ih.1]; simp [lay, show o + 1 + ds.length = (o + ds.length) + 1 by omega]
inductive TakeR : List T → Nat → Nat → List T → Prop
  | nil (cs : List T) : TakeR cs 0 0 []
  | cons (c : T) (cs : List T) (n : Nat) (r : List T) (h : TakeR cs 0 n r) : TakeR (c :: cs) 0 (n + 1) (c :: r)
  | skip (c : T) (cs : List T) (o n : Nat) (r : List T) (h : TakeR cs o n r) : TakeR (c :: cs) (o + 1) n r
theorem TakeR.eq {cs : List T} {o n : Nat} {r : List T} (h : TakeR cs o n r) : (cs.drop o).take n = r ∧ o + n ≤ cs.length := by
  induction h with
  | nil cs => exact ⟨by simp, by simp⟩
  | cons c cs n r h ih => exact ⟨by have := ih.1; simp at this ⊢; exact this, by have := ih.2; simp at this ⊢; omega⟩
  | skip c cs o n r h ih => exact ⟨by have := ih.1; simpa using this, by have := ih.2; simp at this ⊢; omega⟩
section
variable {K : Ctx} {t : Env} {H : Heap} {Ψ : Exit → Env → Heap → Prop} {N : Env → Heap → Prop} {P : Program} {ops : Array Oper}
theorem sim_to {c : Code} (t' : Env) (H' : Heap) (ht : EnvLe t t') (hH : HeapFront H H') (h : Sim K c t' H' Ψ) : Sim K c t H Ψ := sim_weaken ht hH.le h
def cutΨ (t' : Env) (H' : Heap) (Ψ : Exit → Env → Heap → Prop) : Exit → Env → Heap → Prop
  | .normal, t, H => EnvLe t t' ∧ HeapFront H H'
  | e, t, H => Ψ e t H
theorem sim_cut {c r : Code} (t' : Env) (H' : Heap) (h : Sim K c t H (cutΨ t' H' Ψ)) (h' : Sim K r t' H' Ψ) : Sim K c t H (thenΨ K r Ψ) :=
  sim_mono h (fun e t1 H1 hc => by
    cases e with
    | normal => exact sim_to t' H' hc.1 hc.2 h'
    | _ => exact hc)
theorem cutΨ_ret {t' : Env} {H' : Heap} : cutΨ t' H' Ψ .ret t H = Ψ .ret t H := rfl
def loopL {σ : Type} (ok : σ → Prop) (env : σ → Env) (heap : σ → Heap) (μ : σ → Nat) (s : σ) (Ψ : Exit → Env → Heap → Prop) : Exit → Env → Heap → Prop
  | .normal, t, H => ∃ s', ok s' ∧ μ s' < μ s ∧ EnvLe t (env s') ∧ HeapFront H (heap s')
  | e, t, H => Ψ e t H
theorem sim_loopL {σ : Type} {c : Code} (ok : σ → Prop) (env : σ → Env) (heap : σ → Heap) (μ : σ → Nat) (s0 : σ) (h0 : ok s0) (he : EnvLe t (env s0)) (hh : HeapFront H (heap s0))
    (round : ∀ s, ok s → Sim K c (env s) (heap s) (loopL ok env heap μ s Ψ)) : Sim K (.loop c) t H Ψ := by
  refine sim_loop (σ := σ) (fun s t H => ok s ∧ EnvLe t (env s) ∧ HeapFront H (heap s)) μ s0 ⟨h0, he, hh⟩ ?_
  rintro s t H ⟨h1, h2, h3⟩
  refine sim_to _ _ h2 h3 (sim_mono (round s h1) ?_)
  intro e t' H' h
  cases e with
  | normal => obtain ⟨s', a, b, c, d⟩ := h; exact ⟨s', b, a, c, d⟩
  | _ => exact h
def GSeq (P : Program) (ops : Array Oper) (H : Heap) : Env → List Oper → List T → Prop
  | t, o :: os, d :: ds => GOp P ops t H o d ∧ GSeq P ops H (t.put o.dst d) os ds
  | _, [], [] => True
  | _, _, _ => False
def DrawFrom (K : Ctx) (ops : Array Oper) (i n : Nat) (l : List Oper) (t : Env) (H : Heap) (N : Env → Heap → Prop) : Prop :=
  ∃ ds, ds.length = n ∧ GSeq K.P ops H t (l.take n) ds ∧ SimFrom K ops (i + n) (l.drop n) (putAll t (l.take n) ds) H N
theorem POp.congr {t t' : Env} {o : Oper} {d : T} (h : POp P t H o d) (he : ∀ x ∈ o.op.operands, t.ev x = t'.ev x) : POp P t' H o d :=
  fun S w a hw ho hx Kc Q hk => h S w a hw ho (fun x hxo => by rw [he x hxo]; exact hx x hxo) Kc Q hk
theorem GOp.congr {t t' : Env} {o : Oper} {d : T} (h : GOp P ops t H o d) (he : ∀ k ∈ o.looksAt ops, t.get k = t'.get k) : GOp P ops t' H o d := by
  have hev : ∀ x ∈ o.op.operands, t.ev x = t'.ev x := by
    intro x hx
    cases x with
    | tmp k => exact he k (List.mem_append_left _ (List.mem_filterMap.2 ⟨.tmp k, by simpa using hx, rfl⟩))
    | _ => rfl
  unfold GOp at *
  cases hg : o.guard with
  | none => rw [hg] at h; exact POp.congr h hev
  | some jw =>
    obtain ⟨j, want⟩ := jw
    rw [hg] at h
    obtain ⟨k, b, h1, h2, h3, h4⟩ := h
    exact ⟨k, b, h1, by rw [← he k (by unfold Oper.looksAt; rw [hg]; simp [h1])]; exact h2, fun e => POp.congr (h3 e) hev, h4⟩
@[simp] theorem lay_len {α : Type} (l : List α) (o : Nat) (xs : List α) : (lay l o xs).length = min o l.length + xs.length + (l.length - (o + xs.length)) := by simp [lay]; omega
theorem LeL.map {α : Type} (f g : α → T) (h : ∀ x, Le (f x) (g x)) (l : List α) : LeL (l.map f) (l.map g) := by
  induction l with
  | nil => exact LeL.nil
  | cons x l ih => exact LeL.cons (h x) ih
theorem lay_whole {α : Type} (l xs : List α) (h : l.length = xs.length) : lay l 0 xs = xs := by simp [lay, h]
theorem flat_map1 {α : Type} (f : α → T) (h : ∀ y, (f y).cells = [f y]) (l : List α) : (l.map f).flatMap T.cells = l.map f := by
  induction l with
  | nil => rfl
  | cons x l ih => rw [List.map_cons, List.flatMap_cons, h, ih]; rfl
theorem le_get {t : Env} {k : Nat} {e d : T} (h : t.get k = e) (h' : Le e d) : Le (t.get k) d := h ▸ h'
theorem blk_le {ty ty' : TypeId} {cs cs' : List T} {n n' : Nat} (h1 : ty = ty') (h2 : LeL cs cs') (hl : cs'.length = cs.length) (h3 : n = n') : BlkLe ⟨ty, cs, n⟩ ⟨ty', cs', n'⟩ := by
  subst h1; subst h3; exact BlkLe.cells hl h2
theorem map_get {α : Type} {f : α → T} {l : List α} {i : Nat} (h : i < l.length) : (l.map f)[(i : Int).toNat]? = some (f (l[i]'h)) := by simp [h]
theorem blockΨ_ret {id : Nat} : blockΨ id Ψ .ret t H = Ψ .ret t H := rfl
theorem thenΨ_ret {K : Ctx} {c : Code} : thenΨ K c Ψ .ret t H = Ψ .ret t H := rfl
theorem loopL_ret {σ : Type} {ok : σ → Prop} {env : σ → Env} {heap : σ → Heap} {μ : σ → Nat} {s : σ} : loopL ok env heap μ s Ψ .ret t H = Ψ .ret t H := rfl
theorem resl_nil : ResL P t H [] [] := trivial
theorem resl_tmp {k : Tmp} {rs : List ResultVar} {d : T} {ds : List T} (h : t.get k = d) (hs : ResL P t H rs ds) : ResL P t H (.tmp k :: rs) (d :: ds) := ⟨h, hs⟩
theorem fin_ret {fn : Func} {rs : List ResultVar} {ds : List T} {d : T} (hr : fn.results.toList = rs) (h : ResL P t H rs ds) (hl : Le (packT ds) d) :
    endΨ P fn (fun r H => H = [] ∧ r = d) .ret t H := ⟨ds, d, [], by rw [hr]; exact h, hl, ⟨rfl, rfl⟩, fun _ => HeapLe.nil _⟩
theorem fin_normal {fn : Func} {rs : List ResultVar} {ds : List T} {d : T} (hr : fn.results.toList = rs) (h : ResL P t H rs ds) (hl : Le (packT ds) d) :
    endΨ P fn (fun r H => H = [] ∧ r = d) .normal t H := ⟨ds, d, [], by rw [hr]; exact h, hl, ⟨rfl, rfl⟩, fun _ => HeapLe.nil _⟩
theorem fin_retΦ {fn : Func} {Φ : T → Prop} {rs : List ResultVar} {ds : List T} (hr : fn.results.toList = rs) (h : ResL P t H rs ds) (d : T) (hl : Le (packT ds) d) (hp : Φ d) :
    endΨ P fn (fun r H => H = [] ∧ Φ r) .ret t H := ⟨ds, d, [], by rw [hr]; exact h, hl, ⟨rfl, hp⟩, fun _ => HeapLe.nil _⟩
theorem tmod_fix (a n : Int) (hn : 0 < n) : (a.tmod n < 0 → a.tmod n + n = a % n) ∧ (¬ a.tmod n < 0 → a.tmod n = a % n) := by
  have h1 := Int.emod_nonneg a (show n ≠ 0 by omega)
  have h2 := Int.emod_lt_of_pos a hn
  rw [Int.tmod_eq_emod]
  split <;> constructor <;> intro h <;> omega
def T.gp (p : Prop) (i : Decidable p) (d : T) : T := bif @decide p i then d else .v undef
theorem gp_pos {p : Prop} {i : Decidable p} {d : T} (h : p) : T.gp p i d = d := by simp [T.gp, h]
theorem gp_neg {p : Prop} {i : Decidable p} {d : T} (h : ¬ p) : T.gp p i d = .v undef := by simp [T.gp, h]
theorem gp_v {p : Prop} {i : Decidable p} {v : Value} : T.gp p i (.v v) = .v (bif @decide p i then v else undef) := by by_cases h : p <;> simp [T.gp, h]
section
variable {i n : Nat} {l : List Oper} {op : Op} {tp : TypeId} {pos : String} {aft : Array Edge} {k : Tmp} {d : T} {j kg : Nat} {p q : Prop} {_ : Decidable p} {_ : Decidable q}
theorem bool_t : (Value.bool (decide p) = .bool true) ↔ p := by simp
theorem bool_f : (Value.bool (decide p) = .bool false) ↔ ¬ p := by simp
theorem gbool_t : ((bif decide p then Value.bool (decide q) else undef) = .bool true) ↔ p ∧ q := by by_cases h : p <;> simp [h, undef]
theorem gbool_f : ((bif decide p then Value.bool (decide q) else undef) = .bool false) ↔ p ∧ ¬ q := by by_cases h : p <;> simp [h, undef]
theorem from_gT (hj : (ops[j]?).bind (·.dst) = some kg) (hb : t.get kg = .v (.bool (decide p))) (hp : p → POp K.P t H ⟨some k, op, tp, pos, aft, some (j, true)⟩ d) (hd : Nat.blt k K.n = true)
    (h : SimFrom K ops (i + 1) l ((k, T.gp p inferInstance d) :: t) H N) : SimFrom K ops i (⟨some k, op, tp, pos, aft, some (j, true)⟩ :: l) t H N :=
  from_guard (e := T.gp p inferInstance d) rfl hj hb (fun e => hp (bool_t.1 e)) (fun e => gp_pos (bool_t.1 e)) (fun e => gp_neg (fun h => e (bool_t.2 h))) hd h
theorem from_gF (hj : (ops[j]?).bind (·.dst) = some kg) (hb : t.get kg = .v (.bool (decide p))) (hp : ¬ p → POp K.P t H ⟨some k, op, tp, pos, aft, some (j, false)⟩ d) (hd : Nat.blt k K.n = true)
    (h : SimFrom K ops (i + 1) l ((k, T.gp (¬ p) inferInstance d) :: t) H N) : SimFrom K ops i (⟨some k, op, tp, pos, aft, some (j, false)⟩ :: l) t H N :=
  from_guard (e := T.gp (¬ p) inferInstance d) rfl hj hb (fun e => hp (bool_f.1 e)) (fun e => gp_pos (bool_f.1 e)) (fun e => gp_neg (fun h => e (bool_f.2 h))) hd h
theorem from_hT (hj : (ops[j]?).bind (·.dst) = some kg) (hb : t.get kg = T.gp p ‹_› (.v (.bool (decide q)))) (hp : p ∧ q → POp K.P t H ⟨some k, op, tp, pos, aft, some (j, true)⟩ d) (hd : Nat.blt k K.n = true)
    (h : SimFrom K ops (i + 1) l ((k, T.gp (p ∧ q) inferInstance d) :: t) H N) : SimFrom K ops i (⟨some k, op, tp, pos, aft, some (j, true)⟩ :: l) t H N :=
  from_guard (e := T.gp (p ∧ q) inferInstance d) rfl hj (hb.trans gp_v) (fun e => hp (gbool_t.1 e)) (fun e => gp_pos (gbool_t.1 e)) (fun e => gp_neg (fun h => e (gbool_t.2 h))) hd h
theorem from_hF (hj : (ops[j]?).bind (·.dst) = some kg) (hb : t.get kg = T.gp p ‹_› (.v (.bool (decide q)))) (hp : p ∧ ¬ q → POp K.P t H ⟨some k, op, tp, pos, aft, some (j, false)⟩ d) (hd : Nat.blt k K.n = true)
    (h : SimFrom K ops (i + 1) l ((k, T.gp (p ∧ ¬ q) inferInstance d) :: t) H N) : SimFrom K ops i (⟨some k, op, tp, pos, aft, some (j, false)⟩ :: l) t H N :=
  from_guard (e := T.gp (p ∧ ¬ q) inferInstance d) rfl hj (hb.trans gp_v) (fun e => hp (gbool_f.1 e)) (fun e => gp_pos (gbool_f.1 e)) (fun e => gp_neg (fun h => e (gbool_f.2 h))) hd h
theorem ev_un {x : Operand} {ip : Decidable p} (h : t.ev x = T.gp p ip d) (hp : p) : t.ev x = d := by rw [h, gp_pos hp]
section
variable {dst : Option Tmp} {g : Option (Nat × Bool)} {c x y : Operand} {r : Prop} {_ : Decidable r}
theorem pop_pick_or {ir : Decidable (¬ p)} (hc : t.ev c = .v (.bool (decide p))) (hx : t.ev x = .v (.bool true)) (hy : t.ev y = T.gp (¬ p) ir (.v (.bool (decide q)))) :
    POp P t H ⟨dst, .pick c x y, tp, pos, aft, g⟩ (.v (.bool (decide (p ∨ q)))) :=
  POp.le (pop_pick hc hx hy) (Le.of_eq (by by_cases h : p <;> by_cases h' : q <;> simp [T.gp, h, h']))
theorem pop_pick_and {ir : Decidable p} (hc : t.ev c = .v (.bool (decide p))) (hx : t.ev x = T.gp p ir (.v (.bool (decide q)))) (hy : t.ev y = .v (.bool false)) :
    POp P t H ⟨dst, .pick c x y, tp, pos, aft, g⟩ (.v (.bool (decide (p ∧ q)))) :=
  POp.le (pop_pick hc hx hy) (Le.of_eq (by by_cases h : p <;> by_cases h' : q <;> simp [T.gp, h, h']))
theorem pop_pick_orN {ir : Decidable (r ∧ ¬ p)} {i2 : Decidable r} (hc : t.ev c = T.gp r i2 (.v (.bool (decide p)))) (hx : t.ev x = .v (.bool true)) (hy : t.ev y = T.gp (r ∧ ¬ p) ir (.v (.bool (decide q)))) (hr : r) :
    POp P t H ⟨dst, .pick c x y, tp, pos, aft, g⟩ (.v (.bool (decide (p ∨ q)))) :=
  POp.le (pop_pick (hc.trans (gp_pos hr)) hx hy) (Le.of_eq (by by_cases h : p <;> by_cases h' : q <;> simp [T.gp, h, h', hr]))
theorem pop_pick_andN {ir : Decidable (r ∧ p)} {i2 : Decidable r} (hc : t.ev c = T.gp r i2 (.v (.bool (decide p)))) (hx : t.ev x = T.gp (r ∧ p) ir (.v (.bool (decide q)))) (hy : t.ev y = .v (.bool false)) (hr : r) :
    POp P t H ⟨dst, .pick c x y, tp, pos, aft, g⟩ (.v (.bool (decide (p ∧ q)))) :=
  POp.le (pop_pick (hc.trans (gp_pos hr)) hx hy) (Le.of_eq (by by_cases h : p <;> by_cases h' : q <;> simp [T.gp, h, h', hr]))
theorem pop_eqlB {ty ty' : TypeId} (hx : t.ev x = .v (.bool (decide p))) (hy : t.ev y = .v (.bool (decide q))) (hu : P.underlying ty = some .bool) : POp P t H ⟨dst, .binOp .eql ty x y ty', tp, pos, aft, g⟩ (.v (.bool (decide (p ↔ q)))) :=
  pop_bin hx hy fun w => by
    have := run_equalIn_bool w 9999 ty (decide p) (decide q) hu
    have e : (Op.equal ty (.bool (decide p)) (.bool (decide q))).run P w = .ok (decide p == decide q) w := this
    by_cases h : p <;> by_cases h' : q <;> simp [h, h'] at e <;> simp [eqGuard, binOp, h, h', e]
theorem pop_notP {ty : TypeId} (hx : t.ev x = .v (.bool (decide p))) : POp P t H ⟨dst, .unOp .not ty x, tp, pos, aft, g⟩ (.v (.bool (decide (¬ p)))) :=
  POp.le (pop_not hx) (Le.of_eq (by by_cases h : p <;> simp [h]))
end
end
section
variable {dst : Option Tmp} {tp : TypeId} {pos : String} {aft : Array Edge} {g : Option (Nat × Bool)} {ty ty' : TypeId}
theorem pop_loadO_agg {x : Operand} {b o n m : Nat} {ty0 : TypeId} {cells cs : List T} (hx : t.ev x = .v (.pointer (some ⟨b, o, none⟩))) (hi : (b, (⟨ty0, cells, m⟩ : Blk)) ∈ H) [hk : AggC P ty n]
    (hc : TakeR cells o n cs) : POp P t H ⟨dst, .load ty x, tp, pos, aft, g⟩ (.agg cs) := by
  obtain ⟨i, hi⟩ := List.mem_iff_getElem?.1 hi
  have := pop_load_own_agg (P := P) (dst := dst) (tp := tp) (pos := pos) (aft := aft) (g := g) (ty := ty) (n := n) i hx hi (by simpa using hc.eq.2)
  simp only [hc.eq.1] at this
  exact this
theorem pop_loadO {x : Operand} {b o m : Nat} {ty0 : TypeId} {cells : List T} {d : T} (hx : t.ev x = .v (.pointer (some ⟨b, o, none⟩))) (hi : (b, (⟨ty0, cells, m⟩ : Blk)) ∈ H) (hd : cells[o]? = some d) (hk : leafTy P ty = true) :
    POp P t H ⟨dst, .load ty x, tp, pos, aft, g⟩ d := by
  obtain ⟨i, hi⟩ := List.mem_iff_getElem?.1 hi
  exact pop_load_own i hx hi hd hk
theorem eop_storeO {x y : Operand} {b o m : Nat} {ty0 : TypeId} {cells cs : List T} {d : T} {H' : Heap} (hx : t.ev x = .v (.pointer (some ⟨b, o, none⟩))) (hy : t.ev y = d)
    (hi : HRep H (b, ⟨ty0, cells, m⟩) (b, ⟨ty0, cs, m⟩) H') (hc : LayR cells o d.cells cs)
    (hs : sizeT K.P ty = some d.cells.length) (hp : Nat.blt 0 d.cells.length = true) (hl : allLeaf d.cells = true) (h : N t H') : EOp K t H ⟨none, .store ty x y, tp, pos, aft, g⟩ N := by
  obtain ⟨i, hi, rfl⟩ := hi
  refine eop_store i hx hi hy hs hp hl hc.eq.2 ?_
  simp only [hc.eq.1]
  exact h
theorem eop_storeS {x y : Operand} {b o m : Nat} {ty0 : TypeId} {cells : List T} {d : T} {H' : Heap} (hx : t.ev x = .v (.pointer (some ⟨b, o, none⟩))) (hy : t.ev y = d)
    (hi : HRep H (b, ⟨ty0, cells, m⟩) (b, ⟨ty0, lay cells o d.cells, m⟩) H')
    (hs : sizeT K.P ty = some d.cells.length) (hp : Nat.blt 0 d.cells.length = true) (hl : allLeaf d.cells = true) (hc : o + d.cells.length ≤ cells.length) (h : N t H') : EOp K t H ⟨none, .store ty x y, tp, pos, aft, g⟩ N := by
  obtain ⟨i, hi, rfl⟩ := hi
  exact eop_store i hx hi hy hs hp hl hc h
theorem eop_copyO {x y : Operand} {b o n c m : Nat} {ty0 : TypeId} {cells : List T} {f : Bool} {xs : List T} {kk : Nat} {H' : Heap} (hx : t.ev x = .v (.slice (some ⟨b, o, none⟩) n c)) (hy : t.ev y = .sl f xs)
    (hi : HRep H (b, ⟨ty0, cells, m⟩) (b, ⟨ty0, lay cells o ((xs.take (min xs.length n)).flatMap T.cells), m⟩) H')
    [hs : ElemSzC K.P ty kk] (hp : Nat.blt 0 kk = true) (hk : ∀ x ∈ xs, x.cells.length = kk) (hl : ∀ x ∈ xs, allLeaf x.cells = true) (ho : o + min xs.length n * kk ≤ cells.length) {kd : Tmp} (hd : Nat.blt kd K.n = true)
    (h : N ((kd, .v (.int .i64 (min xs.length n : Nat))) :: t) H') : EOp K t H ⟨some kd, .call ⟨.builtin .copy, #[x, y], #[ty, ty']⟩, tp, pos, aft, g⟩ N := by
  obtain ⟨i, hi, rfl⟩ := hi
  exact eop_copy i hx hy hi rfl hp hk hl ho hd h
theorem resl_cellO {k : Tmp} {ty : TypeId} {rs : List ResultVar} {ds : List T} {b n m : Nat} {ty0 : TypeId} {cells cs : List T} (h : t.get k = .v (.pointer (some ⟨b, 0, none⟩))) (hi : (b, (⟨ty0, cells, m⟩ : Blk)) ∈ H) [ha : AggC P ty n]
    (hc : TakeR cells 0 n cs) (hs : ResL P t H rs ds) : ResL P t H (.cell k ty :: rs) (.agg cs :: ds) := by
  obtain ⟨i, hi⟩ := List.mem_iff_getElem?.1 hi
  exact ⟨⟨i, b, _, h, hi, .inl ⟨n, ha.h, by simpa using ha.z, by simpa using hc.eq.2, by have := hc.eq.1; simp at this; rw [this]⟩⟩, hs⟩
theorem resl_cell1O {k : Tmp} {ty : TypeId} {rs : List ResultVar} {ds : List T} {b m : Nat} {ty0 : TypeId} {cells : List T} {d : T} (h : t.get k = .v (.pointer (some ⟨b, 0, none⟩))) (hi : (b, (⟨ty0, d :: cells, m⟩ : Blk)) ∈ H)
    (hl : leafTy P ty = true) (hs : ResL P t H rs ds) : ResL P t H (.cell k ty :: rs) (d :: ds) := by
  obtain ⟨i, hi⟩ := List.mem_iff_getElem?.1 hi
  exact ⟨⟨i, b, _, h, hi, .inr ⟨hl, rfl⟩⟩, hs⟩
end
end
end Go.Cap
end
