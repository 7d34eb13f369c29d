/-
  More rules: structs and slices built, cut, copied, appended to; text and bytes.
-/
import Derived.Test.YtbdpfclnomiicaaGreatOwn
namespace Go.Cap
section
variable {K : Ctx} {P : Program} {t : Env} {H : Heap} {dst : Option Tmp} {tp : TypeId} {pos : String} {aft : Array Edge} {g : Option (Nat × Bool)} {N : Env → Heap → Prop}
variable {S : Nat → Prop} {w : World} {ty : TypeId}
def fillT (place : Nat → Option (Nat × Nat)) (cells : List T) : List (Nat × T) → Option (List T)
  | [] => some cells
  | (i, d) :: rest => match place i with
    | none => none
    | some (off, size) => bif Nat.beq d.cells.length size && Nat.blt 0 d.cells.length && Nat.ble (off + d.cells.length) cells.length then fillT place (lay cells off d.cells) rest else none
theorem fold_lay (us : List Value) (off : Nat) : ∀ (vs : List Value) (n : Nat) (cs : Array Value), (∀ cs' : Array Value, cs'.toList = lay cs.toList (off + n) vs → off + n + vs.length ≤ cs.size →
    ((vs.zipIdx n).foldl (fun (cs : Array Value) p => cs.setIfInBounds (off + p.2) p.1) cs) = cs')
  | [], n, cs, cs', h, _ => by
    apply Array.ext'
    simp [lay] at h
    simp [h]
  | v :: vs, n, cs, cs', h, hl => by
    simp only [List.zipIdx_cons, List.foldl_cons]
    refine fold_lay us off vs (n + 1) _ cs' ?_ (by simp at hl ⊢; omega)
    rw [h]
    have hlt : off + n < cs.size := by simp at hl; omega
    apply List.ext_getElem?
    intro m
    simp only [lay, Array.toList_setIfInBounds, List.getElem?_append, List.length_take, List.length_append, List.getElem?_take, List.getElem?_drop, List.length_set, List.getElem?_set, List.length_cons,
      Array.length_toList]
    rw [Nat.min_eq_left (show off + n ≤ cs.size by omega), Nat.min_eq_left (show off + (n + 1) ≤ cs.size by simp at hl; omega)]
    by_cases h1 : m < off + n
    · rw [if_pos (by omega), if_pos h1, if_pos h1, if_pos (by omega), if_pos (by omega), if_pos (by omega), if_neg (by omega)]
    · by_cases h2 : m = off + n
      · subst h2
        rw [if_pos (by omega), if_neg (by omega), if_pos (by omega), if_pos (by omega), if_pos (by omega), if_pos rfl, if_pos hlt]
        simp
      · by_cases h3 : m < off + n + (vs.length + 1)
        · rw [if_pos (by omega), if_neg (by omega), if_pos (by omega), if_neg (by omega)]
          rw [show m - (off + n) = (m - (off + (n + 1))) + 1 by omega, List.getElem?_cons_succ]
        · rw [if_neg (by omega), if_neg (by omega), if_neg (by omega)]
          rw [show off + n + (vs.length + 1) + (m - (off + n + (vs.length + 1))) = m by omega, show off + (n + 1) + vs.length + (m - (off + (n + 1) + vs.length)) = m by omega]
theorem fill_run {place : Nat → Option (Nat × Nat)} {a : Act} : ∀ (parts : List (Nat × Operand)) (cells : List T) (us : Array Value) (ds : List T), (∀ p ∈ parts, Rel S w (t.ev p.2) (a.eval p.2)) → RelL S w cells us.toList →
    fillT place cells (parts.map fun p => (p.1, t.ev p.2)) = some ds → ∃ us' : Array Value, Instr.fill place us (parts.map fun p => (p.1, a.eval p.2)) = some us' ∧ RelL S w ds us'.toList
  | [], cells, us, ds, _, h, hd => by simp [fillT] at hd; subst hd; exact ⟨us, rfl, h⟩
  | (i, x) :: parts, cells, us, ds, hp, h, hd => by
    simp only [List.map_cons, fillT] at hd
    simp only [List.map_cons, Instr.fill]
    cases hpl : place i with
    | none => rw [hpl] at hd; cases hd
    | some os =>
      obtain ⟨off, size⟩ := os
      rw [hpl] at hd
      simp only at hd ⊢
      cases hc : (Nat.beq (t.ev x).cells.length size && Nat.blt 0 (t.ev x).cells.length && Nat.ble (off + (t.ev x).cells.length) cells.length) with
      | false => rw [hc] at hd; cases hd
      | true =>
        rw [hc, cond_true] at hd
        simp only [Bool.and_eq_true] at hc
        obtain ⟨⟨c1, c2⟩, c3⟩ := hc
        have e1 : (t.ev x).cells.length = size := Nat.eq_of_beq_eq_true c1
        have e2 : 0 < (t.ev x).cells.length := by simpa using c2
        have e3 := Nat.le_of_ble_eq_true c3
        have hx := hp (i, x) List.mem_cons_self
        have hsz : (a.eval x).cells.size = (t.ev x).cells.length := hx.size e2
        have hul := h.length
        have hlen : us.size = cells.length := by simpa using hul
        have hcond : (decide ((a.eval x).cells.size ≠ size) || decide (off + (a.eval x).cells.size > us.size)) = false := by
          simp; exact ⟨by simpa using hsz.trans e1, by omega⟩
        rw [hcond, if_neg (by simp)]
        have hf := fold_lay [] off (a.eval x).cells.toList 0 us (lay us.toList off (a.eval x).cells.toList).toArray (by simp) (by simp; omega)
        have e4 : ((a.eval x).cells.zipIdx.foldl (fun cs p => cs.setIfInBounds (off + p.2) p.1) us) = (lay us.toList off (a.eval x).cells.toList).toArray := by
          rw [← hf, ← Array.foldl_toList]; simp
        have e5 : ((a.eval x).cells.zipIdx.foldl (fun cs (x : Value × Nat) => match x with | (c, j) => cs.setIfInBounds (off + j) c) us) = (lay us.toList off (a.eval x).cells.toList).toArray := e4
        simp only at e5 ⊢
        rw [e5]
        exact fill_run parts _ _ ds (fun p hp' => hp p (List.mem_cons_of_mem _ hp')) (by simpa using relL_lay h (hx.cells e2) off) hd
def placeOf (P : Program) (ty : TypeId) (i : Nat) : Option (Nat × Nat) := match P.underlying ty with
  | some (.struct fs) => (fs[i]?).bind fun f => (P.info? f.type).map fun inf => (f.offset, inf.size)
  | some (.array _ e) => (P.info? e).map fun inf => (i * inf.size, inf.size)
  | _ => none
def fieldsOk (P : Program) (ty : TypeId) : Bool := match P.underlying ty with
  | some (.struct fs) => fs.toList.all fun f => (P.info? f.type).isSome
  | some (.array _ e) => (P.info? e).isSome
  | _ => false
theorem pop_build {parts : Array (Nat × Operand)} {z : List T} (n : Nat) (ds : List T) [hz0 : ZCellsC P ty z] (_ : aggSz P ty = some n) {ps : List (Nat × T)} (hok : fieldsOk P ty = true) (hp : EvP t parts.toList ps) (hd' : fillT (placeOf P ty) z ps = some ds) :
    POp P t H ⟨dst, .build ty parts, tp, pos, aft, g⟩ (.agg ds) :=
  POp.still fun S w a _ _ hr => by
    have hd : fillT (placeOf P ty) z (parts.toList.map fun p => (p.1, t.ev p.2)) = some ds := by rw [hp.eq]; exact hd'
    have hz := hz0.h
    unfold zeroCellsT at hz
    cases hzt : zeroT P ty with
    | none => rw [hzt] at hz; cases hz
    | some d =>
      rw [hzt] at hz
      simp only at hz
      cases hc : Nat.blt 0 d.cells.length with
      | false => rw [hc] at hz; cases hz
      | true =>
        rw [hc, cond_true] at hz
        cases hz
        obtain ⟨i, zv, hi, hzz, rfl⟩ := zero_of hzt
        have hti : ∀ w, (typeInfo ty).run P w = .ok i w := fun w => by simp [typeInfo, hi]
        have hzr : RelL S w (T.ofVal zv).cells zv.cells.toList := (Rel.ofVal zv).cells (by simpa using hc)
        have hparts : ∀ p ∈ parts.toList, Rel S w (t.ev p.2) (a.eval p.2) := fun p hp => hr p.2 (by
          simp only [Op.operands, List.mem_toArray, List.mem_map]
          simp
          exact ⟨p.1, by simpa using hp⟩)
        obtain ⟨us, hus, hrel⟩ := fill_run (place := placeOf P ty) parts.toList _ zv.cells ds hparts hzr hd
        refine ⟨.agg us, ?_, by have := Rel.agg (S := S) (w := w) ds us.toList hrel; simpa using this⟩
        have hpl : ((parts.map fun p => (p.1, a.eval p.2)).toList) = parts.toList.map fun p => (p.1, a.eval p.2) := by simp
        unfold fieldsOk at hok
        have hz0 : ∀ w, (zeroValue ty).run P w = .ok zv w := fun w => by simp [zeroValue, hti, hzz]
        split at hok
        · rename_i fs hfs
          have hall : ∀ f ∈ fs, (P.info? f.type).isSome = true := fun f hf => List.all_eq_true.1 hok f (by simpa using hf)
          have hmap : ∀ w, (fs.mapM fun (f : Field) => (do pure (f.offset, ← sizeOf f.type) : Sem (Nat × Nat))).run P w = .ok (fs.map fun f => (f.offset, (((P.info? f.type).map (·.size)).getD 0))) w := fun w =>
            Sem.mapM_array_run _ _ P w fs fun f hf => by
              have := hall f hf
              cases hfi : P.info? f.type with
              | none => rw [hfi] at this; cases this
              | some inf => simp [run_sizeOf hfi]
          have hplace : (fun i => (fs.map fun (f : Field) => (f.offset, (((P.info? f.type).map (·.size)).getD 0)))[i]?) = placeOf P ty := by
            funext i
            unfold placeOf
            rw [hfs]
            simp only [Array.getElem?_map]
            cases hfi : fs[i]? with
            | none => rfl
            | some f =>
              have := hall f (Array.mem_of_getElem? hfi)
              cases hinf : P.info? f.type with
              | none => rw [hinf] at this; cases this
              | some inf => simp [hinf]
          have : (Instr.build ty (parts.map fun p => (p.1, a.eval p.2))).run P w = .ok (.agg us) w := by
            simp only [Instr.build, Sem.run_bind, hz0, Result.andThen_ok, run_underlying hfs, hmap, hplace, hpl, hus]
            rfl
          simp only [execOp, Sem.run_bind]
          have e : (parts.map fun x => match x with | (i, x) => (i, a.eval x)) = parts.map fun p => (p.1, a.eval p.2) := rfl
          rw [e, this]; rfl
        · rename_i n e he
          obtain ⟨inf, hinf⟩ := Option.isSome_iff_exists.1 hok
          have hplace : (fun i => some (i * inf.size, inf.size)) = placeOf P ty := by
            funext i
            unfold placeOf
            rw [he]; simp [hinf]
          have : (Instr.build ty (parts.map fun p => (p.1, a.eval p.2))).run P w = .ok (.agg us) w := by
            simp only [Instr.build, Sem.run_bind, hz0, Result.andThen_ok, run_underlying he, run_sizeOf hinf, hplace, hpl, hus]
            rfl
          simp only [execOp, Sem.run_bind]
          have e' : (parts.map fun x => match x with | (i, x) => (i, a.eval x)) = parts.map fun p => (p.1, a.eval p.2) := rfl
          rw [e', this]; rfl
        · cases hok
def partsOk : List (Nat × Operand) → Nat → Bool
  | [], _ => true
  | p :: ps, i => Nat.beq p.1 i && partsOk ps (i + 1)
theorem fill_flat {e k : Nat} {a : Act} : ∀ (parts : List (Nat × Operand)) (i : Nat) (pre : List Value) (us : Array Value) (xs : List T), partsOk parts i = true → (∀ p ∈ parts, Rel S w (t.ev p.2) (a.eval p.2)) →
    parts.map (fun p => t.ev p.2) = xs → (∀ x ∈ xs, x.cells.length = k) → 0 < k → us.size = (i + parts.length) * k → pre.length = i * k → us.toList.take (i * k) = pre →
    ∃ (us' : Array Value) (vs : List Value), Instr.fill (fun i => some (i * k, k)) us (parts.map fun p => (p.1, a.eval p.2)) = some us' ∧ RelL S w xs vs ∧ (∀ v ∈ vs, v.cells.size = k) ∧
      us'.toList = pre ++ vs.flatMap fun v => v.cells.toList
  | [], i, pre, us, xs, _, _, hx, _, _, hs, hpl, hpre => by
    subst hx
    refine ⟨us, [], rfl, .nil, by simp, ?_⟩
    rw [List.take_of_length_le (by simp at hs ⊢; omega)] at hpre
    simpa using hpre
  | (j, x) :: parts, i, pre, us, xs, hok, hp, hx, hk, h0, hs, hpl, hpre => by
    simp only [partsOk, Bool.and_eq_true] at hok
    have hj : j = i := Nat.eq_of_beq_eq_true hok.1
    subst hj
    subst hx
    have hxr := hp (j, x) List.mem_cons_self
    have hxk : (t.ev x).cells.length = k := hk _ (by simp)
    have hsz : (a.eval x).cells.size = (t.ev x).cells.length := hxr.size (by show 0 < (t.ev x).cells.length; omega)
    have hus : us.toList.length = us.size := Array.length_toList
    have hmul : (j + (parts.length + 1)) * k = j * k + k + parts.length * k := by rw [Nat.add_mul, Nat.succ_mul]; omega
    simp only [List.length_cons] at hs
    have hmul2 : (j + 1 + parts.length) * k = j * k + k + parts.length * k := by rw [Nat.add_mul, Nat.add_mul]; omega
    simp only [List.map_cons, Instr.fill]
    have hcond : (decide ((a.eval x).cells.size ≠ k) || decide (j * k + (a.eval x).cells.size > us.size)) = false := by
      simp; exact ⟨by simpa using hsz.trans hxk, by omega⟩
    rw [hcond, if_neg (by simp)]
    have hf := fold_lay [] (j * k) (a.eval x).cells.toList 0 us (lay us.toList (j * k) (a.eval x).cells.toList).toArray (by simp) (by simp; omega)
    have e4 : ((a.eval x).cells.zipIdx.foldl (fun cs (x : Value × Nat) => match x with | (c, i) => cs.setIfInBounds (j * k + i) c) us) = (lay us.toList (j * k) (a.eval x).cells.toList).toArray := by
      rw [← hf, ← Array.foldl_toList]; simp
    simp only at e4 ⊢
    rw [e4]
    have hcl : (a.eval x).cells.toList.length = k := by rw [Array.length_toList, hsz, hxk]
    have htk : (us.toList.take (j * k)).length = j * k := by rw [hpre, hpl]
    obtain ⟨us', vs, h1, h2, h3, h4⟩ := fill_flat (e := e) parts (j + 1) (pre ++ (a.eval x).cells.toList) (lay us.toList (j * k) (a.eval x).cells.toList).toArray _ hok.2 (fun p hp' => hp p (List.mem_cons_of_mem _ hp')) rfl
      (fun y hy => hk y (by simp at hy ⊢; exact .inr hy)) h0 (by simp only [List.size_toArray]; rw [lay_length (by omega)]; omega) (by rw [List.length_append, hpl, hcl, Nat.succ_mul]) (by
        simp only [lay]
        rw [List.take_append_of_le_length (by rw [List.length_append, htk, hcl, Nat.succ_mul]; omega), List.take_of_length_le (by rw [List.length_append, htk, hcl, Nat.succ_mul]; omega), hpre])
    refine ⟨us', a.eval x :: vs, h1, .cons _ _ _ _ hxr h2, ?_, ?_⟩
    · intro v hv
      rcases List.mem_cons.1 hv with rfl | hv
      · omega
      · exact h3 v hv
    · rw [h4, List.flatMap_cons, List.append_assoc]
theorem pop_buildSlice {n : Nat} {parts : Array (Nat × Operand)} {d : T} {by_ : Nat} {xs : List T} [hz : ElemZC P ty d by_] (hp : partsOk parts.toList 0 = true) (hn : Nat.beq parts.toList.length n = true)
    (hb : n * d.cells.length ≤ 16777216) (hx' : EvQ t parts.toList xs) (hk : ∀ x ∈ xs, x.cells.length = d.cells.length) : POp P t H ⟨dst, .buildSlice ty n parts, tp, pos, aft, g⟩ (.sl true xs) :=
  POp.run fun S w a hw _ hr => by
    have hx : parts.toList.map (fun p => t.ev p.2) = xs := hx'.eq
    obtain ⟨e, i, z, hu, hi, hzz, hs, h0, rfl, hby⟩ := elemZ_of hz.h
    have hl := ofVal_cells z
    have hn' : parts.toList.length = n := Nat.eq_of_beq_eq_true hn
    have hti : ∀ w, (typeInfo e).run P w = .ok i w := fun w => by simp [typeInfo, hi]
    have hz0 : ∀ w, (zeroValue e).run P w = .ok z w := fun w => by simp [zeroValue, hti, hzz]
    have hparts : ∀ p ∈ parts.toList, Rel S w (t.ev p.2) (a.eval p.2) := fun p hp => hr p.2 (by
      simp only [Op.operands, List.mem_toArray, List.mem_map]
      simp
      exact ⟨p.1, by simpa using hp⟩)
    obtain ⟨us, vs, h1, h2, h3, h4⟩ := fill_flat (e := 0) (k := z.cells.size) parts.toList 0 [] ((Array.range (n * i.size)).map (fun j => z.cells[j % z.cells.size]!)) xs hp hparts hx (fun x hx => by rw [hk x hx, hl]) h0
      (by simp [hs, ← hn']) (by simp) (by simp)
    have hvl := h2.length
    have hxl : xs.length = n := by rw [← hx]; simp [← hn']
    have hpl : ((parts.map fun p => (p.1, a.eval p.2)).toList) = parts.toList.map fun p => (p.1, a.eval p.2) := by simp
    have hrun : (Instr.buildSlice ty n (parts.map fun p => (p.1, a.eval p.2))).run P w = .ok (.slice (some ⟨w.heap.size, 0, none⟩) n n) (w.alloc (.cells us e)) := by
      have hlim : ¬ (n * i.size > 2 ^ 24) := by rw [hs, ← hl]; omega
      have e1 : (fun j => some (j * i.size, i.size)) = fun j => some (j * z.cells.size, z.cells.size) := by rw [hs]
      unfold Instr.buildSlice
      simp only [Sem.run_bind, run_underlying hu, Result.andThen_ok, run_sizeOf hi, hpl, hlim, if_false]
      by_cases hz1 : n * i.size = 0
      · have hn0 : n = 0 := by
          rcases Nat.mul_eq_zero.1 hz1 with h | h
          · exact h
          · omega
        have hp0 : parts.toList = [] := List.length_eq_zero_iff.1 (by omega)
        subst hn0
        rw [hp0] at h1 ⊢
        simp only [List.map_nil, Instr.fill, Option.some.injEq] at h1
        subst h1
        have he : ∀ f : Nat → Value, Array.map f (Array.range 0) = #[] := fun f => Array.ext (by simp) (by simp)
        simp [newRow, Instr.fill, he]
      · simp only [hz1, if_false, Sem.run_bind, hz0, Result.andThen_ok, Sem.run_pure]
        rw [e1, h1]
        simp [newRow]
    refine ⟨.slice (some ⟨w.heap.size, 0, none⟩) n n, w.alloc (.cells us e), withNew S w, ?_, step_stay hw _, ?_⟩
    · simp only [execOp, Sem.run_bind]
      have e' : (parts.map fun x => match x with | (i, x) => (i, a.eval x)) = parts.map fun p => (p.1, a.eval p.2) := rfl
      rw [e', hrun]; rfl
    · have := rel_new (f := true) (S := withNew S w) (w := w.alloc (.cells us e)) (cap := n) (k := z.cells.size) (.inr rfl) (heap_new w _) (h2.mono (mono_alloc hw _ (fun _ h => .inl h))) h3 (by
        rw [h4, List.nil_append, List.take_of_length_le]
        have : ∀ (l : List Value), (∀ v ∈ l, v.cells.size = z.cells.size) → (l.flatMap fun v => v.cells.toList).length = l.length * z.cells.size := by
          intro l
          induction l with
          | nil => simp
          | cons x l ih => intro h; rw [List.flatMap_cons, List.length_append, ih (fun y hy => h y (List.mem_cons_of_mem _ hy)), Array.length_toList, h x List.mem_cons_self, List.length_cons, Nat.succ_mul]; omega
        rw [this vs h3]; exact Nat.le_refl _) (fun _ => by omega) (by omega)
      rw [hvl, hxl] at this
      exact this
end
end Go.Cap
