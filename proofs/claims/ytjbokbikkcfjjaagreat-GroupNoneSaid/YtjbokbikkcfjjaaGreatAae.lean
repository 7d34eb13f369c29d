/-
  More rules: structs and slices built, cut, copied, appended to; text and bytes.
  More rules: slices cut, copied, appended to; text and bytes.
  More rules: 'append', and slices cut.
-/
import Derived.Test.YtjbokbikkcfjjaaGreatAad
section
namespace Go.Cap
section
variable {K : Ctx} {P : Program} {t : Env} {H : Heap} {dst : Option Tmp} {tp : TypeId} {pos : String} {aft : Array Edge} {g : Option (Nat × Bool)} {N : Env → Heap → Prop}
variable {S : Nat → Prop} {w : World} {ty : TypeId}
def fillT (place : Nat → Option (Nat × Nat)) (cells : List T) : List (Nat × T) → Option (List T)
  | [] => some cells
  | (i, d) :: rest => match place i with
    | none => none
    | some (off, size) => bif Nat.beq d.cells.length size && Nat.blt 0 d.cells.length && Nat.ble (off + d.cells.length) cells.length then fillT place (lay cells off d.cells) rest else none
theorem fold_lay (us : List Value) (off : Nat) : ∀ (vs : List Value) (n : Nat) (cs : Array Value), (∀ cs' : Array Value, cs'.toList = lay cs.toList (off + n) vs → off + n + vs.length ≤ cs.size →
    ((vs.zipIdx n).foldl (fun (cs : Array Value) p => cs.setIfInBounds (off + p.2) p.1) cs) = cs')
  | [], n, cs, cs', h, _ => by
    apply Array.ext'
    simp [lay] at h
    simp [h]
  | v :: vs, n, cs, cs', h, hl => by
    simp only [List.zipIdx_cons, List.foldl_cons]
    refine fold_lay us off vs (n + 1) _ cs' ?_ (by simp at hl ⊢; omega)
    rw [h]
    have hlt : off + n < cs.size := by simp at hl; omega
    apply List.ext_getElem?
    intro m
    simp only [lay, Array.toList_setIfInBounds, List.getElem?_append, List.length_take, List.length_append, List.getElem?_take, List.getElem?_drop, List.length_set, List.getElem?_set, List.length_cons,
      Array.length_toList]
    rw [Nat.min_eq_left (show off + n ≤ cs.size by omega), Nat.min_eq_left (show off + (n + 1) ≤ cs.size by simp at hl; omega)]
    by_cases h1 : m < off + n
    · rw [if_pos (by omega), if_pos h1, if_pos h1, if_pos (by omega), if_pos (by omega), if_pos (by omega), if_neg (by omega)]
    · by_cases h2 : m = off + n
      · subst h2
        rw [if_pos (by omega), if_neg (by omega), if_pos (by omega), if_pos (by omega), if_pos (by omega), if_pos rfl, if_pos hlt]
        simp
      · by_cases h3 : m < off + n + (vs.length + 1)
        · rw [if_pos (by omega), if_neg (by omega), if_pos (by omega), if_neg (by omega)]
          rw [show m - (off + n) = (m - (off + (n + 1))) + 1 by omega, List.getElem?_cons_succ]
        · rw [if_neg (by omega), if_neg (by omega), if_neg (by omega)]
          rw [show off + n + (vs.length + 1) + (m - (off + n + (vs.length + 1))) = m by omega, show off + (n + 1) + vs.length + (m - (off + (n + 1) + vs.length)) = m by omega]
theorem fill_run {place : Nat → Option (Nat × Nat)} {a : Act} : ∀ (parts : List (Nat × Operand)) (cells : List T) (us : Array Value) (ds : List T), (∀ p ∈ parts, Rel S w (t.ev p.2) (a.eval p.2)) → RelL S w cells us.toList →
    fillT place cells (parts.map fun p => (p.1, t.ev p.2)) = some ds → ∃ us' : Array Value, Instr.fill place us (parts.map fun p => (p.1, a.eval p.2)) = some us' ∧ RelL S w ds us'.toList
  | [], cells, us, ds, _, h, hd => by simp [fillT] at hd; subst hd; exact ⟨us, rfl, h⟩
  | (i, x) :: parts, cells, us, ds, hp, h, hd => by
    simp only [List.map_cons, fillT] at hd
    simp only [List.map_cons, Instr.fill]
    cases hpl : place i with
    | none => rw [hpl] at hd; cases hd
    | some os =>
      obtain ⟨off, size⟩ := os
      rw [hpl] at hd
      simp only at hd ⊢
      cases hc : (Nat.beq (t.ev x).cells.length size && Nat.blt 0 (t.ev x).cells.length && Nat.ble (off + (t.ev x).cells.length) cells.length) with
      | false => rw [hc] at hd; cases hd
      | true =>
        rw [hc, cond_true] at hd
        simp only [Bool.and_eq_true] at hc
        obtain ⟨⟨c1, c2⟩, c3⟩ := hc
        have e1 : (t.ev x).cells.length = size := Nat.eq_of_beq_eq_true c1
        have e2 : 0 < (t.ev x).cells.length := by simpa using c2
        have e3 := Nat.le_of_ble_eq_true c3
        have hx := hp (i, x) List.mem_cons_self
        have hsz : (a.eval x).cells.size = (t.ev x).cells.length := hx.size e2
        have hul := h.length
        have hlen : us.size = cells.length := by simpa using hul
        have hcond : (decide ((a.eval x).cells.size ≠ size) || decide (off + (a.eval x).cells.size > us.size)) = false := by
          simp; exact ⟨by simpa using hsz.trans e1, by omega⟩
        rw [hcond, if_neg (by simp)]
        have hf := fold_lay [] off (a.eval x).cells.toList 0 us (lay us.toList off (a.eval x).cells.toList).toArray (by simp) (by simp; omega)
        have e4 : ((a.eval x).cells.zipIdx.foldl (fun cs p => cs.setIfInBounds (off + p.2) p.1) us) = (lay us.toList off (a.eval x).cells.toList).toArray := by
          rw [← hf, ← Array.foldl_toList]; simp
        have e5 : ((a.eval x).cells.zipIdx.foldl (fun cs (x : Value × Nat) => match x with | (c, j) => cs.setIfInBounds (off + j) c) us) = (lay us.toList off (a.eval x).cells.toList).toArray := e4
        simp only at e5 ⊢
        rw [e5]
        exact fill_run parts _ _ ds (fun p hp' => hp p (List.mem_cons_of_mem _ hp')) (by simpa using relL_lay h (hx.cells e2) off) hd
def placeOf (P : Program) (ty : TypeId) (i : Nat) : Option (Nat × Nat) := match P.underlying ty with
  | some (.struct fs) => (fs[i]?).bind fun f => (P.info? f.type).map fun inf => (f.offset, inf.size)
  | some (.array _ e) => (P.info? e).map fun inf => (i * inf.size, inf.size)
  | _ => none
def fieldsOk (P : Program) (ty : TypeId) : Bool := match P.underlying ty with
  | some (.struct fs) => fs.toList.all fun f => (P.info? f.type).isSome
  | some (.array _ e) => (P.info? e).isSome
  | _ => false
theorem pop_build {parts : Array (Nat × Operand)} {z : List T} (n : Nat) (ds : List T) [hz0 : ZCellsC P ty z] (_ : aggSz P ty = some n) {ps : List (Nat × T)} (hok : fieldsOk P ty = true) (hp : EvP t parts.toList ps) (hd' : fillT (placeOf P ty) z ps = some ds) :
    POp P t H ⟨dst, .build ty parts, tp, pos, aft, g⟩ (.agg ds) :=
  POp.still fun S w a _ _ hr => by
    have hd : fillT (placeOf P ty) z (parts.toList.map fun p => (p.1, t.ev p.2)) = some ds := by rw [hp.eq]; exact hd'
    have hz := hz0.h
    unfold zeroCellsT at hz
    cases hzt : zeroT P ty with
    | none => rw [hzt] at hz; cases hz
    | some d =>
      rw [hzt] at hz
      simp only at hz
      cases hc : Nat.blt 0 d.cells.length with
      | false => rw [hc] at hz; cases hz
      | true =>
        rw [hc, cond_true] at hz
        cases hz
        obtain ⟨i, zv, hi, hzz, rfl⟩ := zero_of hzt
        have hti : ∀ w, (typeInfo ty).run P w = .ok i w := fun w => by simp [typeInfo, hi]
        have hzr : RelL S w (T.ofVal zv).cells zv.cells.toList := (Rel.ofVal zv).cells (by simpa using hc)
        have hparts : ∀ p ∈ parts.toList, Rel S w (t.ev p.2) (a.eval p.2) := fun p hp => hr p.2 (by
          simp only [Op.operands, List.mem_toArray, List.mem_map]
          simp
          exact ⟨p.1, by simpa using hp⟩)
        obtain ⟨us, hus, hrel⟩ := fill_run (place := placeOf P ty) parts.toList _ zv.cells ds hparts hzr hd
        refine ⟨.agg us, ?_, by have := Rel.agg (S := S) (w := w) ds us.toList hrel; simpa using this⟩
        have hpl : ((parts.map fun p => (p.1, a.eval p.2)).toList) = parts.toList.map fun p => (p.1, a.eval p.2) := by simp
        unfold fieldsOk at hok
        have hz0 : ∀ w, (zeroValue ty).run P w = .ok zv w := fun w => by simp [zeroValue, hti, hzz]
        split at hok
        · rename_i fs hfs
          have hall : ∀ f ∈ fs, (P.info? f.type).isSome = true := fun f hf => List.all_eq_true.1 hok f (by simpa using hf)
          have hmap : ∀ w, (fs.mapM fun (f : Field) => (do pure (f.offset, ← sizeOf f.type) : Sem (Nat × Nat))).run P w = .ok (fs.map fun f => (f.offset, (((P.info? f.type).map (·.size)).getD 0))) w := fun w =>
            Sem.mapM_array_run _ _ P w fs fun f hf => by
              have := hall f hf
              cases hfi : P.info? f.type with
              | none => rw [hfi] at this; cases this
              | some inf => simp [run_sizeOf hfi]
          have hplace : (fun i => (fs.map fun (f : Field) => (f.offset, (((P.info? f.type).map (·.size)).getD 0)))[i]?) = placeOf P ty := by
            funext i
            unfold placeOf
            rw [hfs]
            simp only [Array.getElem?_map]
            cases hfi : fs[i]? with
            | none => rfl
            | some f =>
              have := hall f (Array.mem_of_getElem? hfi)
              cases hinf : P.info? f.type with
              | none => rw [hinf] at this; cases this
              | some inf => simp [hinf]
          have : (Instr.build ty (parts.map fun p => (p.1, a.eval p.2))).run P w = .ok (.agg us) w := by
            simp only [Instr.build, Sem.run_bind, hz0, Result.andThen_ok, run_underlying hfs, hmap, hplace, hpl, hus]
            rfl
          simp only [execOp, Sem.run_bind]
          have e : (parts.map fun x => match x with | (i, x) => (i, a.eval x)) = parts.map fun p => (p.1, a.eval p.2) := rfl
          rw [e, this]; rfl
        · rename_i n e he
          obtain ⟨inf, hinf⟩ := Option.isSome_iff_exists.1 hok
          have hplace : (fun i => some (i * inf.size, inf.size)) = placeOf P ty := by
            funext i
            unfold placeOf
            rw [he]; simp [hinf]
          have : (Instr.build ty (parts.map fun p => (p.1, a.eval p.2))).run P w = .ok (.agg us) w := by
            simp only [Instr.build, Sem.run_bind, hz0, Result.andThen_ok, run_underlying he, run_sizeOf hinf, hplace, hpl, hus]
            rfl
          simp only [execOp, Sem.run_bind]
          have e' : (parts.map fun x => match x with | (i, x) => (i, a.eval x)) = parts.map fun p => (p.1, a.eval p.2) := rfl
          rw [e', this]; rfl
        · cases hok
def partsOk : List (Nat × Operand) → Nat → Bool
  | [], _ => true
  | p :: ps, i => Nat.beq p.1 i && partsOk ps (i + 1)
theorem fill_flat {e k : Nat} {a : Act} : ∀ (parts : List (Nat × Operand)) (i : Nat) (pre : List Value) (us : Array Value) (xs : List T), partsOk parts i = true → (∀ p ∈ parts, Rel S w (t.ev p.2) (a.eval p.2)) →
    parts.map (fun p => t.ev p.2) = xs → (∀ x ∈ xs, x.cells.length = k) → 0 < k → us.size = (i + parts.length) * k → pre.length = i * k → us.toList.take (i * k) = pre →
    ∃ (us' : Array Value) (vs : List Value), Instr.fill (fun i => some (i * k, k)) us (parts.map fun p => (p.1, a.eval p.2)) = some us' ∧ RelL S w xs vs ∧ (∀ v ∈ vs, v.cells.size = k) ∧
      us'.toList = pre ++ vs.flatMap fun v => v.cells.toList
  | [], i, pre, us, xs, _, _, hx, _, _, hs, hpl, hpre => by
    subst hx
    refine ⟨us, [], rfl, .nil, by simp, ?_⟩
    rw [List.take_of_length_le (by simp at hs ⊢; omega)] at hpre
    simpa using hpre
  | (j, x) :: parts, i, pre, us, xs, hok, hp, hx, hk, h0, hs, hpl, hpre => by
    simp only [partsOk, Bool.and_eq_true] at hok
    have hj : j = i := Nat.eq_of_beq_eq_true hok.1
    subst hj
    subst hx
    have hxr := hp (j, x) List.mem_cons_self
    have hxk : (t.ev x).cells.length = k := hk _ (by simp)
    have hsz : (a.eval x).cells.size = (t.ev x).cells.length := hxr.size (by show 0 < (t.ev x).cells.length; omega)
    have hus : us.toList.length = us.size := Array.length_toList
    have hmul : (j + (parts.length + 1)) * k = j * k + k + parts.length * k := by rw [Nat.add_mul, Nat.succ_mul]; omega
    simp only [List.length_cons] at hs
    have hmul2 : (j + 1 + parts.length) * k = j * k + k + parts.length * k := by rw [Nat.add_mul, Nat.add_mul]; omega
    simp only [List.map_cons, Instr.fill]
    have hcond : (decide ((a.eval x).cells.size ≠ k) || decide (j * k + (a.eval x).cells.size > us.size)) = false := by
      simp; exact ⟨by simpa using hsz.trans hxk, by omega⟩
    rw [hcond, if_neg (by simp)]
    have hf := fold_lay [] (j * k) (a.eval x).cells.toList 0 us (lay us.toList (j * k) (a.eval x).cells.toList).toArray (by simp) (by simp; omega)
    have e4 : ((a.eval x).cells.zipIdx.foldl (fun cs (x : Value × Nat) => match x with | (c, i) => cs.setIfInBounds (j * k + i) c) us) = (lay us.toList (j * k) (a.eval x).cells.toList).toArray := by
      rw [← hf, ← Array.foldl_toList]; simp
    simp only at e4 ⊢
    rw [e4]
    have hcl : (a.eval x).cells.toList.length = k := by rw [Array.length_toList, hsz, hxk]
    have htk : (us.toList.take (j * k)).length = j * k := by rw [hpre, hpl]
    obtain ⟨us', vs, h1, h2, h3, h4⟩ := fill_flat (e := e) parts (j + 1) (pre ++ (a.eval x).cells.toList) (lay us.toList (j * k) (a.eval x).cells.toList).toArray _ hok.2 (fun p hp' => hp p (List.mem_cons_of_mem _ hp')) rfl
      (fun y hy => hk y (by simp at hy ⊢; exact .inr hy)) h0 (by simp only [List.size_toArray]; rw [lay_length (by omega)]; omega) (by rw [List.length_append, hpl, hcl, Nat.succ_mul]) (by
        simp only [lay]
        rw [List.take_append_of_le_length (by rw [List.length_append, htk, hcl, Nat.succ_mul]; omega), List.take_of_length_le (by rw [List.length_append, htk, hcl, Nat.succ_mul]; omega), hpre])
    refine ⟨us', a.eval x :: vs, h1, .cons _ _ _ _ hxr h2, ?_, ?_⟩
    · intro v hv
      rcases List.mem_cons.1 hv with rfl | hv
      · omega
      · exact h3 v hv
    · rw [h4, List.flatMap_cons, List.append_assoc]
theorem pop_buildSlice {n : Nat} {parts : Array (Nat × Operand)} {d : T} {by_ : Nat} {xs : List T} [hz : ElemZC P ty d by_] (hp : partsOk parts.toList 0 = true) (hn : Nat.beq parts.toList.length n = true)
    (hb : n * d.cells.length ≤ 16777216) (hx' : EvQ t parts.toList xs) (hk : ∀ x ∈ xs, x.cells.length = d.cells.length) : POp P t H ⟨dst, .buildSlice ty n parts, tp, pos, aft, g⟩ (.sl true xs) :=
  POp.run fun S w a hw _ hr => by
    have hx : parts.toList.map (fun p => t.ev p.2) = xs := hx'.eq
    obtain ⟨e, i, z, hu, hi, hzz, hs, h0, rfl, hby⟩ := elemZ_of hz.h
    have hl := ofVal_cells z
    have hn' : parts.toList.length = n := Nat.eq_of_beq_eq_true hn
    have hti : ∀ w, (typeInfo e).run P w = .ok i w := fun w => by simp [typeInfo, hi]
    have hz0 : ∀ w, (zeroValue e).run P w = .ok z w := fun w => by simp [zeroValue, hti, hzz]
    have hparts : ∀ p ∈ parts.toList, Rel S w (t.ev p.2) (a.eval p.2) := fun p hp => hr p.2 (by
      simp only [Op.operands, List.mem_toArray, List.mem_map]
      simp
      exact ⟨p.1, by simpa using hp⟩)
    obtain ⟨us, vs, h1, h2, h3, h4⟩ := fill_flat (e := 0) (k := z.cells.size) parts.toList 0 [] ((Array.range (n * i.size)).map (fun j => z.cells[j % z.cells.size]!)) xs hp hparts hx (fun x hx => by rw [hk x hx, hl]) h0
      (by simp [hs, ← hn']) (by simp) (by simp)
    have hvl := h2.length
    have hxl : xs.length = n := by rw [← hx]; simp [← hn']
    have hpl : ((parts.map fun p => (p.1, a.eval p.2)).toList) = parts.toList.map fun p => (p.1, a.eval p.2) := by simp
    have hrun : (Instr.buildSlice ty n (parts.map fun p => (p.1, a.eval p.2))).run P w = .ok (.slice (some ⟨w.heap.size, 0, none⟩) n n) (w.alloc (.cells us e)) := by
      have hlim : ¬ (n * i.size > 2 ^ 24) := by rw [hs, ← hl]; omega
      have e1 : (fun j => some (j * i.size, i.size)) = fun j => some (j * z.cells.size, z.cells.size) := by rw [hs]
      unfold Instr.buildSlice
      simp only [Sem.run_bind, run_underlying hu, Result.andThen_ok, run_sizeOf hi, hpl, hlim, if_false]
      by_cases hz1 : n * i.size = 0
      · have hn0 : n = 0 := by
          rcases Nat.mul_eq_zero.1 hz1 with h | h
          · exact h
          · omega
        have hp0 : parts.toList = [] := List.length_eq_zero_iff.1 (by omega)
        subst hn0
        rw [hp0] at h1 ⊢
        simp only [List.map_nil, Instr.fill, Option.some.injEq] at h1
        subst h1
        have he : ∀ f : Nat → Value, Array.map f (Array.range 0) = #[] := fun f => Array.ext (by simp) (by simp)
        simp [newRow, Instr.fill, he]
      · simp only [hz1, if_false, Sem.run_bind, hz0, Result.andThen_ok, Sem.run_pure]
        rw [e1, h1]
        simp [newRow]
    refine ⟨.slice (some ⟨w.heap.size, 0, none⟩) n n, w.alloc (.cells us e), withNew S w, ?_, step_stay hw _, ?_⟩
    · simp only [execOp, Sem.run_bind]
      have e' : (parts.map fun x => match x with | (i, x) => (i, a.eval x)) = parts.map fun p => (p.1, a.eval p.2) := rfl
      rw [e', hrun]; rfl
    · have := rel_new (f := true) (S := withNew S w) (w := w.alloc (.cells us e)) (cap := n) (k := z.cells.size) (.inr rfl) (heap_new w _) (h2.mono (mono_alloc hw _ (fun _ h => .inl h))) h3 (by
        rw [h4, List.nil_append, List.take_of_length_le]
        have : ∀ (l : List Value), (∀ v ∈ l, v.cells.size = z.cells.size) → (l.flatMap fun v => v.cells.toList).length = l.length * z.cells.size := by
          intro l
          induction l with
          | nil => simp
          | cons x l ih => intro h; rw [List.flatMap_cons, List.length_append, ih (fun y hy => h y (List.mem_cons_of_mem _ hy)), Array.length_toList, h x List.mem_cons_self, List.length_cons, Nat.succ_mul]; omega
        rw [this vs h3]; exact Nat.le_refl _) (fun _ => by omega) (by omega)
      rw [hvl, hxl] at this
      exact this
end
end Go.Cap
end
section
namespace Go.Cap
section
variable {K : Ctx} {P : Program} {t : Env} {H : Heap} {dst : Option Tmp} {tp : TypeId} {pos : String} {aft : Array Edge} {g : Option (Nat × Bool)} {N : Env → Heap → Prop}
variable {S : Nat → Prop} {w : World} {ty ty' : TypeId}
theorem flat_len {k : Nat} : ∀ (l : List Value), (∀ v ∈ l, v.cells.size = k) → (l.flatMap fun v => v.cells.toList).length = l.length * k
  | [], _ => by simp
  | x :: l, h => by
    rw [List.flatMap_cons, List.length_append, flat_len l (fun y hy => h y (List.mem_cons_of_mem _ hy)), Array.length_toList, h x List.mem_cons_self, List.length_cons, Nat.succ_mul]; omega
theorem flat_lenT {k : Nat} : ∀ (l : List T), (∀ v ∈ l, v.cells.length = k) → (l.flatMap T.cells).length = l.length * k
  | [], _ => by simp
  | x :: l, h => by
    rw [List.flatMap_cons, List.length_append, flat_lenT l (fun y hy => h y (List.mem_cons_of_mem _ hy)), h x List.mem_cons_self, List.length_cons, Nat.succ_mul]; omega
theorem relL_cells {k : Nat} (h0 : 0 < k) : ∀ {xs : List T} {vs : List Value}, RelL S w xs vs → (∀ x ∈ xs, x.cells.length = k) →
    RelL S w (xs.flatMap T.cells) (vs.flatMap fun v => v.cells.toList) ∧ ∀ v ∈ vs, v.cells.size = k
  | [], _, .nil, _ => ⟨.nil, by simp⟩
  | _ :: _, _, .cons x y xs ys h hs, hk => by
    have hx := hk x List.mem_cons_self
    obtain ⟨h1, h2⟩ := relL_cells h0 hs (fun z hz => hk z (List.mem_cons_of_mem _ hz))
    have hsz := h.size (by omega)
    refine ⟨by rw [List.flatMap_cons, List.flatMap_cons]; exact (h.cells (by omega)).append h1, fun v hv => ?_⟩
    rcases List.mem_cons.1 hv with rfl | hv
    · omega
    · exact h2 v hv
theorem flat_takeV {k : Nat} : ∀ (l : List Value) (m : Nat), (∀ v ∈ l, v.cells.size = k) → (l.flatMap fun v => v.cells.toList).take (m * k) = (l.take m).flatMap fun v => v.cells.toList
  | [], m, _ => by simp
  | x :: l, 0, _ => by simp
  | x :: l, m + 1, h => by
    have hx := h x List.mem_cons_self
    have : x.cells.toList.length = k := by rw [Array.length_toList, hx]
    rw [List.flatMap_cons, List.take_succ_cons, List.flatMap_cons, Nat.succ_mul, List.take_append, this]
    rw [List.take_of_length_le (by omega), show m * k + k - k = m * k by omega, flat_takeV l m (fun y hy => h y (List.mem_cons_of_mem _ hy))]
theorem run_firstV {f : Bool} {xs : List T} {u : Value} {k : Nat} (h : Rel S w (.sl f xs) u) (hk : ∀ x ∈ xs, x.cells.length = k) (h0 : 0 < k) (m : Nat) (hm : m ≤ xs.length) :
    ∃ vs : List Value, (Builtin.firstCells k m u).run P w = .ok (vs.flatMap fun v => v.cells.toList).toArray w ∧ RelL S w (xs.take m) vs ∧ (∀ v ∈ vs, v.cells.size = k) ∧ vs.length = m := by
  cases h with
  | nil _ p c _ =>
    have hm0 : m = 0 := by simpa using hm
    subst hm0
    refine ⟨[], ?_, by simp; exact .nil, by simp, by simp⟩
    cases p with
    | none => simp [Builtin.firstCells]
    | some a =>
      have := run_loadCells_list (P := P) (w := w) a [] (fun j v hj => by simp at hj)
      simpa [Builtin.firstCells] using this
  | sl _ _ b o cap vs k' cs ty fz hS hb hr hg hf hc =>
    obtain ⟨h1, h2⟩ := relL_cells h0 hr hk
    have hvl := hr.length
    have hmv : ∀ v ∈ vs.take m, v.cells.size = k := fun v hv => h2 v (List.mem_of_mem_take hv)
    refine ⟨vs.take m, ?_, hr.take m, hmv, by rw [List.length_take]; omega⟩
    simp only [Builtin.firstCells]
    have hl := flat_len _ hmv
    rw [List.length_take, Nat.min_eq_left (by omega)] at hl
    refine run_cells hb _ hl ?_
    rw [← flat_takeV vs m h2]
    rcases Nat.eq_zero_or_pos vs.length with hz | hz
    · have : m = 0 := by omega
      subst this; simp
    · have hk' : k' = k := by
        cases vs with
        | nil => simp at hz
        | cons v vs => rw [← hg.1 v List.mem_cons_self, h2 v List.mem_cons_self]
      subst hk'
      rw [← hg.2, List.take_take]
      congr 1
      have : m * k' ≤ vs.length * k' := Nat.mul_le_mul_right _ (by omega)
      omega
theorem run_first {f : Bool} {xs : List T} {u : Value} {k : Nat} (h : Rel S w (.sl f xs) u) (hk : ∀ x ∈ xs, x.cells.length = k) (h0 : 0 < k) (m : Nat) (hm : m ≤ xs.length) :
    ∃ us : List Value, (Builtin.firstCells k m u).run P w = .ok us.toArray w ∧ RelL S w ((xs.take m).flatMap T.cells) us ∧ us.length = m * k := by
  obtain ⟨vs, h1, h2, h3, h4⟩ := run_firstV (P := P) h hk h0 m hm
  exact ⟨_, h1, (relL_cells h0 h2 fun x hx => hk x (List.mem_of_mem_take hx)).1, by rw [flat_len vs h3, h4]⟩
theorem run_lenOf {f : Bool} {xs : List T} {u : Value} (h : Rel S w (.sl f xs) u) : (Builtin.lenOf u).run P w = .ok xs.length w := by
  cases h with
  | nil => rfl
  | sl _ _ b o cap vs k' cs ty fz hS hb hr hg hf hc => rw [← hr.length]; rfl
theorem eop_copy {x y : Operand} {b o n c : Nat} {k : Blk} {f : Bool} {xs : List T} {kk : Nat} (i : Nat) (hx : t.ev x = .v (.slice (some ⟨b, o, none⟩) n c)) (hy : t.ev y = .sl f xs) (hi : H[i]? = some (b, k)) {ty1 : TypeId} (hT : k.ty = .ty ty1)
    [hs : ElemSzC K.P ty kk] (hp : Nat.blt 0 kk = true) (hk : ∀ x ∈ xs, x.cells.length = kk) (hl : ∀ x ∈ xs, allLeaf x.cells = true) (ho : o + min xs.length n * kk ≤ k.cells.length) {kd : Tmp} (hd : Nat.blt kd K.n = true)
    (h : N ((kd, .v (.int .i64 (min xs.length n : Nat))) :: t) (H.set i (b, ⟨k.ty, lay k.cells o ((xs.take (min xs.length n)).flatMap T.cells), k.size⟩))) :
    EOp K t H ⟨some kd, .call ⟨.builtin .copy, #[x, y], #[ty, ty']⟩, tp, pos, aft, g⟩ N := by
  refine EOp.of_w (fun c e => by cases e) ?_
  intro a w ⟨S, hr⟩ Kc Q hkc
  have h1 := hr.env.ev x; rw [hx] at h1
  have h2 := hr.env.ev y; rw [hy] at h2
  have hp' : 0 < kk := by simpa using hp
  obtain ⟨cs, hb, hsz, hle, hrl⟩ := (hr.own.at hi).row hT
  obtain ⟨e, inf, hu, hinf, his⟩ := elem_of hs.h
  obtain ⟨us, hus, hrel, hul⟩ := run_first (P := K.P) h2 hk hp' (min xs.length n) (Nat.min_le_left _ _)
  have hleaf : allLeaf ((xs.take (min xs.length n)).flatMap T.cells) = true := by
    unfold allLeaf
    rw [List.all_eq_true]
    intro z hz
    obtain ⟨x', hx', hz⟩ := List.mem_flatMap.1 hz
    exact List.all_eq_true.1 (hl x' (List.mem_of_mem_take hx')) z hz
  have hst := run_storeCells (P := K.P) (o := o) hb us (by omega) (relL_leaf hrel hleaf)
  obtain ⟨s1, s2, s3, s4, s5, s6⟩ := setRow_spec (cs' := (lay cs.toList o us).toArray) hb
  have hlay : ((xs.take (min xs.length n)).flatMap T.cells).length = us.length := hrel.length.symm
  have hrun : (execOp a.eval ⟨some kd, .call ⟨.builtin .copy, #[x, y], #[ty, ty']⟩, tp, pos, aft, g⟩).run K.P w = .ok (.value (.int .i64 (min xs.length n : Nat))) (w.setRow b (lay cs.toList o us).toArray) := by
    have e1 : (execOp a.eval ⟨some kd, .call ⟨.builtin .copy, #[x, y], #[ty, ty']⟩, tp, pos, aft, g⟩).run K.P w = ((Builtin.copy_ #[ty, ty'] tp #[a.eval x, a.eval y]).run K.P w).andThen fun v w' => .ok (.value v) w' := by
      simp [execOp, resolve, invoke, builtin]
    rw [e1, h1.v_eq]
    have e2 : (Builtin.copy_ #[ty, ty'] tp #[.slice (some ⟨b, o, none⟩) n c, a.eval y]).run K.P w = .ok (.int .i64 (min xs.length n : Nat)) (w.setRow b (lay cs.toList o us).toArray) := by
      simp only [Builtin.copy_]
      simp [run_underlying hu, run_lenOf h2, run_sizeOf hinf, his]
      have : Nat.min xs.length n = min xs.length n := rfl
      rw [this, hus]
      simp [hst, goInt]
    rw [e2]; rfl
  unfold Oper.wp
  rw [hrun]
  refine hkc _ _ _ _ h ⟨S, ?_⟩
  have := hr.write hT (xs := (xs.take (min xs.length n)).flatMap T.cells) (us := us) (o := o) hi (by omega) (by rw [hlay, hul]; omega) s4 s5 s6 s3 s2 s1 (fun cs2 h2 => by rw [hb] at h2; cases h2; rfl) hrel
  exact ⟨by simp [this.size], this.defers.put (dst := some kd) hd, this.step, this.own, this.mine, this.env.put (dst := some kd) (by rw [this.size]; exact hd) (.v _)⟩
end
end Go.Cap
end
section
namespace Go.Cap
section
variable {K : Ctx} {P : Program} {t : Env} {H : Heap} {dst : Option Tmp} {tp : TypeId} {pos : String} {aft : Array Edge} {g : Option (Nat × Bool)} {N : Env → Heap → Prop}
variable {S : Nat → Prop} {w : World} {ty ty' : TypeId}
theorem run_app_new {e e' : TypeId} {i : TypeInfo} {z : Value} (hu : P.underlying ty = some (.slice e)) (hu' : P.underlying ty' = some (.slice e')) (hi : P.info? e = some i) (hz : i.zero = some z)
    {a : Option Addr} {n c m : Nat} {y : Value} {olds news : List Value}
    (hl : (Builtin.lenOf y).run P w = .ok m w) (hc : c < n + m) (hb : (n + m) * i.bytes ≤ 140737488355328) (hmx : n + m ≤ 9223372036854775807)
    (ho : (Builtin.firstCells i.size n (.slice a n c)).run P w.drew = .ok olds.toArray w.drew) (hn : (Builtin.firstCells i.size m y).run P w.drew = .ok news.toArray w.drew) :
    (Builtin.append_ #[ty, ty'] tp #[.slice a n c, y]).run P w = .ok (.slice (some ⟨w.heap.size, 0, none⟩) (n + m) (grownCap w (n + m) c e))
      (w.drew.alloc (.cells (olds.toArray ++ news.toArray ++ Builtin.zeroCells z.cells (grownCap w (n + m) c e - (n + m))) e)) := by
  have h1 : ¬ (n + m ≤ c) := by omega
  have h63' : ¬ (9223372036854775807 < ((n : Int) + (m : Int))) := by omega
  have h48' : ¬ (281474976710656 < Builtin.nextslicecap (n + m) c * i.bytes) := by have := growslice_fits hc hb; omega
  simp [Builtin.append_, run_underlying hu, run_underlying hu', sizeOf, typeInfo, zeroValue, hi, hz, hl, h1, h63', h48', Question.forced, ho, hn, newRow, grownCap]
  congr 2
  apply Array.ext'
  simp [List.append_assoc]
theorem run_app_fit {e e' : TypeId} {i : TypeInfo} (hu : P.underlying ty = some (.slice e)) (hu' : P.underlying ty' = some (.slice e')) (hi : P.info? e = some i)
    {b o n c m : Nat} {y : Value} {news : List Value} {w' : World}
    (hl : (Builtin.lenOf y).run P w = .ok m w) (hc : n + m ≤ c) (hn : (Builtin.firstCells i.size m y).run P w = .ok news.toArray w)
    (hs : (storeCells ⟨b, o + n * i.size, none⟩ news).run P w = .ok () w') :
    (Builtin.append_ #[ty, ty'] tp #[.slice (some ⟨b, o, none⟩) n c, y]).run P w = .ok (.slice (some ⟨b, o, none⟩) (n + m) c) w' := by
  simp [Builtin.append_, run_underlying hu, run_underlying hu', sizeOf, typeInfo, hi, hl, hc, hn, Addr.add_mk, hs]
theorem run_app_none {e e' : TypeId} {i : TypeInfo} (hu : P.underlying ty = some (.slice e)) (hu' : P.underlying ty' = some (.slice e')) (hi : P.info? e = some i)
    {a : Option Addr} {n c : Nat} {y : Value}
    (hl : (Builtin.lenOf y).run P w = .ok 0 w) (hc : n ≤ c) (hn : (Builtin.firstCells i.size 0 y).run P w = .ok #[] w) :
    (Builtin.append_ #[ty, ty'] tp #[.slice a n c, y]).run P w = .ok (.slice a n c) w := by
  cases a with
  | none => simp [Builtin.append_, run_underlying hu, run_underlying hu', sizeOf, typeInfo, hi, hl, hc, hn]
  | some a => simp [Builtin.append_, run_underlying hu, run_underlying hu', sizeOf, typeInfo, hi, hl, hc, hn, storeCells]
theorem slice_shape {f : Bool} {xs : List T} {u : Value} (h : Rel S w (.sl f xs) u) : ∃ a c, u = .slice a xs.length c ∧ xs.length ≤ c ∧ (f = true → c = xs.length) := by
  cases h with
  | nil _ p c hf => exact ⟨p, c, rfl, Nat.zero_le _, fun e => by rw [hf e]; rfl⟩
  | sl _ _ b o cap vs k' cs ty fz hS hb hr hg hf hc => rw [← hr.length]; exact ⟨_, _, rfl, hc, hf⟩
theorem step_drew (h : Wf S w) (F : List Nat) : Step F S w S w.drew := ⟨rfl, rfl, rfl, Nat.le_refl _, fun _ _ _ => rfl, fun _ h => h, fun _ h => .inl h, h⟩
theorem mono_drew : ∀ b, S b → S b ∧ w.drew.heap[b]? = w.heap[b]? := fun _ h => ⟨h, rfl⟩
theorem wf_drew (h : Wf S w) : Wf S w.drew := h
theorem pop_append {x y : Operand} {xs ys : List T} {f : Bool} {dx dy : T} {d : T} {by_ : Nat} (hx : t.ev x = dx) (hxl : Le dx (.sl true xs)) (hy : t.ev y = dy) (hyl : Le dy (.sl f ys)) [hz : ElemZC P ty d by_] (hs : isSliceTy P ty' = true)
    (hkx : ∀ x ∈ xs, x.cells.length = d.cells.length) (hky : ∀ x ∈ ys, x.cells.length = d.cells.length) (hb : (xs.length + ys.length) * by_ ≤ 140737488355328) (hm : xs.length + ys.length ≤ 9223372036854775807) :
    POp P t H ⟨dst, .call ⟨.builtin .append, #[x, y], #[ty, ty']⟩, tp, pos, aft, g⟩ (.sl false (xs ++ ys)) :=
  POp.run fun S w a hw _ hr => by
    have h1 := hr x (by simp [Op.operands, Call.operands]); rw [hx] at h1
    have h2 := hr y (by simp [Op.operands, Call.operands]); rw [hy] at h2
    replace h1 := hxl _ _ _ h1
    replace h2 := hyl _ _ _ h2
    obtain ⟨e, i, z, hu, hi, hzz, hsz, hp, rfl, hby⟩ := elemZ_of hz.h
    obtain ⟨e', _, hu', _⟩ := slice_of hs
    have hl := ofVal_cells z
    have hk0 : 0 < (T.ofVal z).cells.length := by omega
    obtain ⟨a1, c1, he1, hc1, hf1⟩ := slice_shape h1
    have hc1' := hf1 rfl
    have e1 : (execOp a.eval ⟨dst, .call ⟨.builtin .append, #[x, y], #[ty, ty']⟩, tp, pos, aft, g⟩).run P w = ((Builtin.append_ #[ty, ty'] tp #[a.eval x, a.eval y]).run P w).andThen fun v w' => .ok (.value v) w' := by
      simp [execOp, resolve, invoke, builtin]
    rw [e1, he1]
    rw [he1] at h1
    have hlen := run_lenOf (P := P) h2
    rcases Nat.eq_zero_or_pos ys.length with h0 | h0
    · have hys : ys = [] := List.length_eq_zero_iff.1 h0
      subst hys
      obtain ⟨us, hus, hrel, hul⟩ := run_first (P := P) h2 hky hk0 0 (Nat.zero_le _)
      have hus0 : us = [] := List.length_eq_zero_iff.1 (by omega)
      subst hus0
      rw [run_app_none hu hu' hi hlen hc1 (by rw [hsz, ← hl]; exact hus)]
      refine ⟨_, w, S, rfl, Step.refl _ hw, ?_⟩
      rw [List.append_nil]
      exact Le.full xs false _ _ _ h1
    · have h1d : Rel S w.drew (.sl true xs) (.slice a1 xs.length c1) := h1.mono mono_drew
      have h2d : Rel S w.drew (.sl f ys) (a.eval y) := h2.mono mono_drew
      obtain ⟨us, hus, hrel, hus2, hul⟩ := run_firstV (P := P) h1d hkx hk0 xs.length (Nat.le_refl _)
      obtain ⟨vs, hvs, hrelv, hvs2, hvl⟩ := run_firstV (P := P) h2d hky hk0 ys.length (Nat.le_refl _)
      rw [hl, ← hsz] at hus hvs
      have hrun := run_app_new (tp := tp) hu hu' hi hzz hlen (show c1 < xs.length + ys.length by omega) (by rw [hby]; exact hb) hm hus hvs
      rw [hrun]
      rw [List.take_length] at hrel hrelv
      have hcap : xs.length + ys.length ≤ grownCap w (xs.length + ys.length) c1 e := Nat.le_add_right _ _
      refine ⟨_, _, withNew S w.drew, rfl, Step.trans (step_drew hw []) (step_stay (wf_drew hw) _) (by simp), ?_⟩
      have hwd : w.drew.heap.size = w.heap.size := rfl
      have hkk : ∀ v ∈ us ++ vs, v.cells.size = (T.ofVal z).cells.length := fun v hv => by
        rcases List.mem_append.1 hv with h | h
        · exact hus2 v h
        · exact hvs2 v h
      have := rel_new (f := false) (S := withNew S w.drew) (cap := grownCap w (xs.length + ys.length) c1 e) (k := (T.ofVal z).cells.length) (b := w.drew.heap.size)
        (.inr rfl) (heap_new w.drew (.cells ((us.flatMap fun v => v.cells.toList).toArray ++ (vs.flatMap fun v => v.cells.toList).toArray ++ Builtin.zeroCells z.cells (grownCap w (xs.length + ys.length) c1 e - (xs.length + ys.length))) e))
        ((hrel.append hrelv).mono (mono_alloc (wf_drew hw) _ (fun _ h => .inl h))) hkk (by
          have h5 : (us ++ vs).length * (T.ofVal z).cells.length = ((us ++ vs).flatMap fun v => v.cells.toList).length := (flat_len _ hkk).symm
          rw [h5, show ((us.flatMap fun v => v.cells.toList).toArray ++ (vs.flatMap fun v => v.cells.toList).toArray ++ Builtin.zeroCells z.cells (grownCap w (xs.length + ys.length) c1 e - (xs.length + ys.length))).toList =
            ((us ++ vs).flatMap fun v => v.cells.toList) ++ (Builtin.zeroCells z.cells (grownCap w (xs.length + ys.length) c1 e - (xs.length + ys.length))).toList by simp [List.flatMap_append]]
          exact List.take_left) (by simp) (by rw [List.length_append, hul, hvl]; exact hcap)
      rw [List.length_append, hul, hvl] at this
      exact this
theorem zeroCells_size (z : Array Value) (n : Nat) : (Builtin.zeroCells z n).size = n * z.size := by simp [Builtin.zeroCells]
theorem eop_append_new {x y : Operand} {xs ys : List T} {f : Bool} {dx dy : T} {d : T} {by_ : Nat} (hx : t.ev x = dx) (hxl : Le dx (.sl true xs)) (hy : t.ev y = dy) (hyl : Le dy (.sl f ys)) [hz : ElemZC K.P ty d by_] (hs : isSliceTy K.P ty' = true)
    (hkx : ∀ x ∈ xs, x.cells.length = d.cells.length) (hky : ∀ x ∈ ys, x.cells.length = d.cells.length) (h0 : 0 < ys.length) (hb : (xs.length + ys.length) * by_ ≤ 140737488355328) (hm : xs.length + ys.length ≤ 9223372036854775807)
    {kd : Tmp} (hd : Nat.blt kd K.n = true)
    (h : ∀ b c, (∀ c ∈ keys H, ¬ c = b) → xs.length + ys.length ≤ c →
      N ((kd, .v (.slice (some ⟨b, 0, none⟩) (xs.length + ys.length) c)) :: t) ((b, ⟨elemTy K.P ty, xs.flatMap T.cells ++ ys.flatMap T.cells, c * d.cells.length⟩) :: H)) :
    EOp K t H ⟨some kd, .call ⟨.builtin .append, #[x, y], #[ty, ty']⟩, tp, pos, aft, g⟩ N := by
  refine EOp.of_w (fun c e => by cases e) ?_
  intro a w ⟨S, hr⟩ Kc Q hk
  have h1 := hr.env.ev x; rw [hx] at h1
  have h2 := hr.env.ev y; rw [hy] at h2
  replace h1 := hxl _ _ _ h1
  replace h2 := hyl _ _ _ h2
  obtain ⟨e, i, z, hu, hi, hzz, hsz, hp, rfl, hby⟩ := elemZ_of hz.h
  obtain ⟨e', _, hu', _⟩ := slice_of hs
  have hl := ofVal_cells z
  have hk0 : 0 < (T.ofVal z).cells.length := by omega
  obtain ⟨a1, c1, he1, hc1, hf1⟩ := slice_shape h1
  have hc1' := hf1 rfl
  have e1 : (execOp a.eval ⟨some kd, .call ⟨.builtin .append, #[x, y], #[ty, ty']⟩, tp, pos, aft, g⟩).run K.P w = ((Builtin.append_ #[ty, ty'] tp #[a.eval x, a.eval y]).run K.P w).andThen fun v w' => .ok (.value v) w' := by
    simp [execOp, resolve, invoke, builtin]
  have hee : elemTy K.P ty = e := by unfold elemTy; rw [hu]
  unfold Oper.wp
  rw [e1, he1]
  rw [he1] at h1
  have hlen := run_lenOf (P := K.P) h2
  have h1d : Rel S w.drew (.sl true xs) (.slice a1 xs.length c1) := h1.mono mono_drew
  have h2d : Rel S w.drew (.sl f ys) (a.eval y) := h2.mono mono_drew
  obtain ⟨us, hus, hrel, hul⟩ := run_first (P := K.P) h1d hkx hk0 xs.length (Nat.le_refl _)
  obtain ⟨vs, hvs, hrelv, hvl⟩ := run_first (P := K.P) h2d hky hk0 ys.length (Nat.le_refl _)
  rw [hl, ← hsz] at hus hvs
  have hrun := run_app_new (tp := tp) hu hu' hi hzz hlen (show c1 < xs.length + ys.length by omega) (by rw [hby]; exact hb) hm hus hvs
  rw [hrun]
  rw [List.take_length] at hrel hrelv
  have hcap : xs.length + ys.length ≤ grownCap w (xs.length + ys.length) c1 e := Nat.le_add_right _ _
  have hrd : R1 K t H a w.drew S := ⟨hr.size, hr.defers.step mono_drew (fun _ _ h _ => h) (Nat.le_refl _), hr.step.trans (step_drew hr.wf []) (by simp), hr.own.step (step_drew hr.wf []) hr.wf (by simp) (by simp), hr.mine, hr.env.mono mono_drew⟩
  have hlx := flat_lenT xs hkx
  have hly := flat_lenT ys hky
  have hsum : (xs.length + ys.length) * (T.ofVal z).cells.length = xs.length * (T.ofVal z).cells.length + ys.length * (T.ofVal z).cells.length := Nat.add_mul _ _ _
  have hcm : (xs.length + ys.length) * (T.ofVal z).cells.length ≤ grownCap w (xs.length + ys.length) c1 e * (T.ofVal z).cells.length := Nat.mul_le_mul_right _ hcap
  have hzs : (grownCap w (xs.length + ys.length) c1 e - (xs.length + ys.length)) * (T.ofVal z).cells.length = grownCap w (xs.length + ys.length) c1 e * (T.ofVal z).cells.length - (xs.length + ys.length) * (T.ofVal z).cells.length := Nat.sub_mul _ _ _
  have hfr := hrd.fresh (dst := some kd) (d := .v (.slice (some ⟨w.heap.size, 0, none⟩) (xs.length + ys.length) (grownCap w (xs.length + ys.length) c1 e)))
    (k := ⟨elemTy K.P ty, xs.flatMap T.cells ++ ys.flatMap T.cells, grownCap w (xs.length + ys.length) c1 e * (T.ofVal z).cells.length⟩)
    (cs := us.toArray ++ vs.toArray ++ Builtin.zeroCells z.cells (grownCap w (xs.length + ys.length) c1 e - (xs.length + ys.length)))
    (by simp only [Array.size_append, List.size_toArray, zeroCells_size, hul, hvl, ← hl]; omega) (by simp only [List.length_append]; omega) (by
      simp only [List.length_append, hlx, hly]
      have : (us.toArray ++ vs.toArray ++ Builtin.zeroCells z.cells (grownCap w (xs.length + ys.length) c1 e - (xs.length + ys.length))).toList = (us ++ vs) ++ (Builtin.zeroCells z.cells (grownCap w (xs.length + ys.length) c1 e - (xs.length + ys.length))).toList := by simp
      rw [this, List.take_left' (by rw [List.length_append, hul, hvl])]
      exact hrel.append hrelv) hd (.v _)
  rw [hee] at hfr
  have hh := h w.heap.size _ (fresh_ne hr) hcap
  rw [hee] at hh
  exact hk _ _ _ _ hh ⟨S, hfr⟩
theorem nodup_set {x : Nat} : ∀ {l : List Nat} {i : Nat}, l.Nodup → x ∉ l → (l.set i x).Nodup
  | [], i, h, _ => by simp
  | y :: l, 0, h, hx => by
    rw [List.set_cons_zero, List.nodup_cons]
    exact ⟨fun hm => hx (List.mem_cons_of_mem _ hm), (List.nodup_cons.1 h).2⟩
  | y :: l, i + 1, h, hx => by
    rw [List.set_cons_succ, List.nodup_cons]
    have hn := List.nodup_cons.1 h
    refine ⟨fun hm => ?_, nodup_set hn.2 (fun hm => hx (List.mem_cons_of_mem _ hm))⟩
    rcases List.mem_or_eq_of_mem_set hm with h1 | h1
    · exact hn.1 h1
    · exact hx (h1 ▸ List.mem_cons_self)
theorem R1.swap {a : Act} (h : R1 K t H a w S) {i b : Nat} {k0 : Blk} (hi : H[i]? = some (b, k0)) {ty1 : TypeId} {k : Blk} (hT : k.ty = .ty ty1) {cs : Array Value} (hs : cs.size = k.size) (hl : k.cells.length ≤ k.size) (hr : RelL S w k.cells (cs.toList.take k.cells.length))
    {d : T} {v : Value} {kd : Tmp} (hd : Nat.blt kd K.n = true) (hv : Rel S w d v) :
    R1 K ((kd, d) :: t) (H.set i (w.heap.size, k)) (a.put (some kd) v) (w.alloc (.cells cs ty1)) S := by
  have hm := mono_alloc h.wf (.cells cs ty1) (S' := S) (fun _ h => h)
  have hlt : i < H.length := (List.getElem?_eq_some_iff.1 hi).1
  have hkeys : ∀ c ∈ keys (H.set i (w.heap.size, k)), (c ∈ keys H ∧ ¬ c = w.heap.size) ∨ c = w.heap.size := by
    intro c hc
    unfold keys at hc
    rw [List.map_set] at hc
    rcases List.mem_or_eq_of_mem_set hc with h1 | h1
    · exact .inl ⟨h1, fresh_ne h c h1⟩
    · exact .inr h1
  refine ⟨by simp [h.size], (h.defers.step hm (objs_alloc w _) (by simp)).put (dst := some kd) hd, h.step.trans (step_mine h.wf _ []) (by simp), ⟨?_, ?_, ?_⟩, ?_, (h.env.mono hm).put (dst := some kd) (by rw [h.size]; exact hd) (hv.mono hm)⟩
  · unfold keys
    rw [List.map_set]
    exact nodup_set h.own.nodup (fun hm' => fresh_ne h _ hm' rfl)
  · intro c hc hS
    rcases hkeys c hc with h1 | h1
    · exact h.own.apart c h1.1 hS
    · have := h.wf c hS; omega
  · intro p hp
    rcases List.mem_or_eq_of_mem_set hp with h1 | h1
    · have h2 := h.own.has p h1
      exact h2.mono (heap_older w _ h2.lt) hm
    · subst h1
      exact Has.of hT ⟨cs, heap_new w _, hs, hl, hr.mono hm⟩
  · intro c hc
    rcases hkeys c hc with h1 | h1
    · exact h.mine c h1.1
    · exact .inr (by have := h.step.size; omega)
theorem eop_append_own {x y : Operand} {b n c : Nat} {k : Blk} {ys : List T} {f : Bool} {dy : T} {d : T} {by_ : Nat} (i : Nat) (hx : t.ev x = .v (.slice (some ⟨b, 0, none⟩) n c)) (hi : H[i]? = some (b, k)) (hy : t.ev y = dy) (hyl : Le dy (.sl f ys))
    [hz : ElemZC K.P ty d by_] (hs : isSliceTy K.P ty' = true) (hty : k.ty = .ty (elemTy K.P ty)) (hkl : k.cells.length = n * d.cells.length) (hks : k.size = c * d.cells.length)
    (hky : ∀ x ∈ ys, x.cells.length = d.cells.length) (hyleaf : ∀ x ∈ ys, allLeaf x.cells = true) (hb : (n + ys.length) * by_ ≤ 140737488355328) (hm : n + ys.length ≤ 9223372036854775807) {kd : Tmp} (hd : Nat.blt kd K.n = true)
    (h : ∀ b' c', b' = b ∨ (∀ e ∈ keys H, ¬ e = b') → n + ys.length ≤ c' →
      N ((kd, .v (.slice (some ⟨b', 0, none⟩) (n + ys.length) c')) :: t) (H.set i (b', ⟨k.ty, k.cells ++ ys.flatMap T.cells, c' * d.cells.length⟩))) :
    EOp K t H ⟨some kd, .call ⟨.builtin .append, #[x, y], #[ty, ty']⟩, tp, pos, aft, g⟩ N := by
  refine EOp.of_w (fun c e => by cases e) ?_
  intro a w ⟨S, hr⟩ Kc Q hk
  have h1 := hr.env.ev x; rw [hx] at h1
  have h2 := hr.env.ev y; rw [hy] at h2
  replace h2 := hyl _ _ _ h2
  obtain ⟨e, inf, z, hu, hinf, hzz, hsz, hp, rfl, hby⟩ := elemZ_of hz.h
  obtain ⟨e', _, hu', _⟩ := slice_of hs
  have hl := ofVal_cells z
  have hk0 : 0 < (T.ofVal z).cells.length := by omega
  have hee : elemTy K.P ty = e := by unfold elemTy; rw [hu]
  obtain ⟨cs, hbk, hcs, hcl, hrl⟩ := (hr.own.at hi).row hty
  have e1 : (execOp a.eval ⟨some kd, .call ⟨.builtin .append, #[x, y], #[ty, ty']⟩, tp, pos, aft, g⟩).run K.P w = ((Builtin.append_ #[ty, ty'] tp #[a.eval x, a.eval y]).run K.P w).andThen fun v w' => .ok (.value v) w' := by
    simp [execOp, resolve, invoke, builtin]
  unfold Oper.wp
  rw [e1, h1.v_eq]
  have hlen := run_lenOf (P := K.P) h2
  have hly := flat_lenT ys hky
  have hsum : (n + ys.length) * (T.ofVal z).cells.length = n * (T.ofVal z).cells.length + ys.length * (T.ofVal z).cells.length := Nat.add_mul _ _ _
  have hleaf : allLeaf (ys.flatMap T.cells) = true := by
    unfold allLeaf
    rw [List.all_eq_true]
    intro q hq
    obtain ⟨x', hx', hq⟩ := List.mem_flatMap.1 hq
    exact List.all_eq_true.1 (hyleaf x' hx') q hq
  have hts : cs.toList.length = cs.size := Array.length_toList
  by_cases hfit : n + ys.length ≤ c
  · have hcm : (n + ys.length) * (T.ofVal z).cells.length ≤ c * (T.ofVal z).cells.length := Nat.mul_le_mul_right _ hfit
    obtain ⟨vs, hvs, hrelv, hvl⟩ := run_first (P := K.P) h2 hky hk0 ys.length (Nat.le_refl _)
    rw [List.take_length] at hrelv
    rw [hl, ← hsz] at hvs
    have hst := run_storeCells (P := K.P) (o := 0 + n * inf.size) hbk vs (by rw [hsz, ← hl]; omega) (relL_leaf hrelv hleaf)
    rw [run_app_fit (tp := tp) hu hu' hinf hlen hfit hvs hst]
    obtain ⟨s1, s2, s3, s4, s5, s6⟩ := setRow_spec (cs' := (lay cs.toList (0 + n * inf.size) vs).toArray) hbk
    have hon : 0 + n * inf.size = k.cells.length := by rw [hkl, hsz, hl]; omega
    have hw := hr.write hty (xs := ys.flatMap T.cells) (us := vs) (o := k.cells.length) hi (Nat.le_refl _) (by omega) s4 s5 s6 s3 s2 s1 (fun cs2 h2 => by rw [hbk] at h2; cases h2; rw [hon]) hrelv
    have hlay : lay k.cells k.cells.length (ys.flatMap T.cells) = k.cells ++ ys.flatMap T.cells := by
      unfold lay
      rw [List.take_length, List.drop_of_length_le (by omega), List.append_nil]
    rw [hlay] at hw
    have hh := h b c (.inl rfl) hfit
    rw [show c * (T.ofVal z).cells.length = k.size from hks.symm] at hh
    refine hk _ _ _ _ hh ⟨S, ?_⟩
    exact ⟨by simp [hw.size], hw.defers.put (dst := some kd) hd, hw.step, hw.own, hw.mine, hw.env.put (dst := some kd) (by rw [hw.size]; exact hd) (.v _)⟩
  · have h2d : Rel S w.drew (.sl f ys) (a.eval y) := h2.mono mono_drew
    obtain ⟨vs, hvs, hrelv, hvl⟩ := run_first (P := K.P) h2d hky hk0 ys.length (Nat.le_refl _)
    rw [List.take_length] at hrelv
    rw [hl, ← hsz] at hvs
    have hold : (Builtin.firstCells inf.size n (.slice (some ⟨b, 0, none⟩) n c)).run K.P w.drew = .ok (cs.toList.take (n * inf.size)).toArray w.drew := by
      simp only [Builtin.firstCells]
      exact run_cells (w := w.drew) (b := b) (cs := cs) (ty := elemTy K.P ty) (fz := (0, 0)) hbk _ (by rw [List.length_take, hsz, ← hl]; omega) (by simp)
    have hrun := run_app_new (tp := tp) hu hu' hinf hzz hlen (show c < n + ys.length by omega) (by rw [hby]; exact hb) hm hold hvs
    rw [hrun]
    have hcap : n + ys.length ≤ grownCap w (n + ys.length) c e := Nat.le_add_right _ _
    have hrd : R1 K t H a w.drew S := ⟨hr.size, hr.defers.step mono_drew (fun _ _ h _ => h) (Nat.le_refl _), hr.step.trans (step_drew hr.wf []) (by simp), hr.own.step (step_drew hr.wf []) hr.wf (by simp) (by simp), hr.mine, hr.env.mono mono_drew⟩
    have hcm : (n + ys.length) * (T.ofVal z).cells.length ≤ grownCap w (n + ys.length) c e * (T.ofVal z).cells.length := Nat.mul_le_mul_right _ hcap
    have hzs : (grownCap w (n + ys.length) c e - (n + ys.length)) * (T.ofVal z).cells.length = grownCap w (n + ys.length) c e * (T.ofVal z).cells.length - (n + ys.length) * (T.ofVal z).cells.length := Nat.sub_mul _ _ _
    have hnk : n * inf.size = k.cells.length := by rw [hkl, hsz, hl]
    have hfr := hrd.swap (ty1 := e) (d := .v (.slice (some ⟨w.heap.size, 0, none⟩) (n + ys.length) (grownCap w (n + ys.length) c e))) hi
      (k := ⟨k.ty, k.cells ++ ys.flatMap T.cells, grownCap w (n + ys.length) c e * (T.ofVal z).cells.length⟩)
      (cs := (cs.toList.take (n * inf.size)).toArray ++ vs.toArray ++ Builtin.zeroCells z.cells (grownCap w (n + ys.length) c e - (n + ys.length)))
      (by simp only [Array.size_append, List.size_toArray, zeroCells_size, List.length_take, hvl, ← hl, hnk]; omega) (by simp only [List.length_append]; omega) (hT := hty.trans (by rw [hee])) (by
        have : ((cs.toList.take (n * inf.size)).toArray ++ vs.toArray ++ Builtin.zeroCells z.cells (grownCap w (n + ys.length) c e - (n + ys.length))).toList = (cs.toList.take (n * inf.size) ++ vs) ++ (Builtin.zeroCells z.cells (grownCap w (n + ys.length) c e - (n + ys.length))).toList := by simp
        simp only
        rw [this, List.take_left' (by simp only [List.length_append, List.length_take, hvl, hly, hnk]; omega), hnk]
        exact (hrl.mono mono_drew).append hrelv) hd (.v _)
    have hh := h w.heap.size _ (.inr (fresh_ne hr)) hcap
    rw [hee] at hty
    exact hk _ _ _ _ hh ⟨S, hfr⟩
end
end Go.Cap
end
