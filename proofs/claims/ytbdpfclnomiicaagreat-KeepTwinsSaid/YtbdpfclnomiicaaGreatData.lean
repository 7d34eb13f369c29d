/-
  The rules for data: addresses into memory that stays, what is read there, structs and slices as data.
-/
import Derived.Test.YtbdpfclnomiicaaGreatRules
namespace Go.Cap
section
variable {P : Program} {t : Env} {H : Heap} {dst : Option Tmp} {tp : TypeId} {pos : String} {aft : Array Edge} {g : Option (Nat × Bool)}
variable {S : Nat → Prop} {w : World} {ty : TypeId}
theorem agg_of {n : Nat} (h : aggSz P ty = some n) : (∀ w, (isAgg ty).run P w = .ok true w) ∧ ∃ i, P.info? ty = some i ∧ i.size = n := by
  unfold aggSz at h
  have key : ∀ d, P.underlying ty = some d → (match d with | .struct _ | .array _ _ => true | _ => false) = true → ∀ w, (isAgg ty).run P w = .ok true w := by
    intro d hd hm w
    unfold isAgg
    simp [run_underlying hd]
    cases d <;> simp_all
  split at h
  · rename_i hu
    refine ⟨key _ hu rfl, ?_⟩
    cases hi : P.info? ty with
    | none => rw [hi] at h; cases h
    | some i => rw [hi] at h; exact ⟨i, rfl, by simpa using h⟩
  · rename_i hu
    refine ⟨key _ hu rfl, ?_⟩
    cases hi : P.info? ty with
    | none => rw [hi] at h; cases h
    | some i => rw [hi] at h; exact ⟨i, rfl, by simpa using h⟩
  · cases h
theorem leaf_of (h : leafTy P ty = true) : ∀ w, (isAgg ty).run P w = .ok false w := by
  unfold leafTy at h
  intro w
  split at h
  · cases h
  · cases h
  · cases h
  · rename_i d hd h1 h2
    unfold isAgg
    simp [run_underlying h2]
theorem run_sizeOf {i : TypeInfo} (hi : P.info? ty = some i) (w : World) : (sizeOf ty).run P w = .ok i.size w := by
  simp [sizeOf, typeInfo, hi]
theorem elem_of {n : Nat} (h : elemSz P ty = some n) : ∃ e i, P.underlying ty = some (.slice e) ∧ P.info? e = some i ∧ i.size = n := by
  unfold elemSz at h
  split at h
  · rename_i e he
    cases hi : P.info? e with
    | none => rw [hi] at h; cases h
    | some i => rw [hi] at h; exact ⟨e, i, he, hi, by simpa using h⟩
  · cases h
theorem arr_of {n s : Nat} (h : arrSz P ty = some (n, s)) : ∃ e i, P.underlying ty = some (.array n e) ∧ P.info? e = some i ∧ i.size = s := by
  unfold arrSz at h
  split at h
  · rename_i m e he
    cases hi : P.info? e with
    | none => rw [hi] at h; cases h
    | some i => rw [hi] at h; simp at h; exact ⟨e, i, by rw [← h.1]; exact he, hi, h.2⟩
  · cases h
theorem fld_of {f off n : Nat} {ag : Bool} (h : fld P ty f = some (off, n, ag)) : ∃ fs x i, P.underlying ty = some (.struct fs) ∧ fs[f]? = some x ∧ x.offset = off ∧
    P.info? x.type = some i ∧ i.size = n ∧ (if ag then aggSz P x.type = some n else leafTy P x.type = true) := by
  unfold fld at h
  split at h
  · rename_i fs hfs
    split at h
    · rename_i x hx
      cases hi : P.info? x.type with
      | none => rw [hi] at h; simp at h
      | some i =>
        rw [hi] at h
        refine ⟨fs, x, i, hfs, hx, ?_⟩
        cases hu : P.underlying x.type with
        | none => rw [hu] at h; simp at h
        | some d =>
          rw [hu] at h
          cases d <;> (simp at h; obtain ⟨h1, h2, h3⟩ := h; subst h3; refine ⟨h1, hi, h2, ?_⟩; simp [aggSz, leafTy, hu, hi, h2])
    · cases h
  · cases h
theorem pop_load_agg {x : Operand} {ys : List T} (hx : t.ev x = .adr (.agg ys)) (hk : aggSz P ty = some ys.length) :
    POp P t H ⟨dst, .load ty x, tp, pos, aft, g⟩ (.agg ys) :=
  POp.still fun S w a _ _ hr => by
    have h1 := hr x (by simp [Op.operands]); rw [hx] at h1
    generalize hu : a.eval x = u at h1
    obtain ⟨hag, i, hi, hs⟩ := agg_of hk
    cases h1 with
    | adr _ b o y cs ty' fz hS hb hr' hg =>
      cases hr' with
      | agg _ vs hvs =>
        refine ⟨.agg vs.toArray, ?_, .agg _ _ hvs⟩
        have hl : vs.length = ys.length := hvs.length
        have := run_cells (P := P) (w := w) (n := ys.length) hb vs hl (by simpa [Value.cells, hl] using hg)
        simp [execOp, hu, Instr.loadAt, Instr.sureAddr, loadVar, hag w, run_sizeOf hi, hs, this]
theorem pop_load {x : Operand} {d : T} (hx : t.ev x = .adr d) (hl : d.isLeaf = true) (hk : leafTy P ty = true) : POp P t H ⟨dst, .load ty x, tp, pos, aft, g⟩ d :=
  POp.still fun S w a _ _ hr => by
    have h1 := hr x (by simp [Op.operands]); rw [hx] at h1
    generalize hu : a.eval x = u at h1
    cases h1 with
    | adr _ b o y cs ty' fz hS hb hr' hg =>
      refine ⟨y, ?_, hr'⟩
      have hc := (hr'.leaf_cells hl).1
      rw [hc] at hg
      have hcell : cs[o]? = some y := by
        have := congrArg (fun l => l[0]?) hg
        simpa [List.getElem?_take, List.getElem?_drop] using this
      have hcell' : w.cell? ⟨b, o, none⟩ = some y := by rw [cell_block hb]; exact hcell
      simp [execOp, hu, Instr.loadAt, Instr.sureAddr, loadVar, leaf_of hk w, run_load, hcell']
theorem pop_fieldAddr {x : Operand} {f off : Nat} {ys : List T} {d : T} (hx : t.ev x = .adr (.agg ys)) [hf : FldC P ty f off 1 false] (hd : ys[off]? = some d)
    (hl : d.isLeaf = true) : POp P t H ⟨dst, .fieldAddr ty x f, tp, pos, aft, g⟩ (.adr d) :=
  POp.still fun S w a _ _ hr => by
    have h1 := hr x (by simp [Op.operands]); rw [hx] at h1
    generalize hu : a.eval x = u at h1
    obtain ⟨fs, fx, i, hus, hfx, hoff, hi, hsz, _⟩ := fld_of hf.h
    cases h1 with
    | adr _ b o y cs ty' fz hS hb hr' hg =>
      cases hr' with
      | agg _ vs hvs =>
        obtain ⟨y, hy, hdy⟩ := hvs.get hd
        refine ⟨.pointer (some ⟨b, o + off, none⟩), ?_, ?_⟩
        · simp [execOp, hu, Instr.fieldAt, run_underlying hus, hfx, Instr.sureAddr, fieldPlace, run_sizeOf hi, hsz, hoff, Addr.add_mk]
        · refine .adr d b (o + off) y cs ty' fz hS hb hdy ?_
          rw [(hdy.leaf_cells hl).1]
          simp [Value.cells] at hg
          have h2 : vs[off]? = some y := hy
          rw [← hg] at h2
          rw [List.getElem?_take, List.getElem?_drop] at h2
          split at h2
          · have h3 : off < (cs.toList.drop o).length := by
              rw [List.length_drop]
              have := (List.getElem?_eq_some_iff.1 h2).1
              omega
            rw [← List.drop_drop]
            have h4 : ((cs.toList.drop o).drop off)[0]? = some y := by rw [List.getElem?_drop, List.getElem?_drop]; simpa using h2
            cases hz : (cs.toList.drop o).drop off with
            | nil => rw [hz] at h4; simp at h4
            | cons z zs => rw [hz] at h4; simp at h4; subst h4; simp
          · cases h2
theorem pop_fieldAddr_agg {x : Operand} {f off n : Nat} {ys : List T} (hx : t.ev x = .adr (.agg ys)) [hf : FldC P ty f off n true] (hn : 0 < n) (hd : off + n ≤ ys.length) :
    POp P t H ⟨dst, .fieldAddr ty x f, tp, pos, aft, g⟩ (.adr (.agg ((ys.drop off).take n))) :=
  POp.still fun S w a _ _ hr => by
    have h1 := hr x (by simp [Op.operands]); rw [hx] at h1
    generalize hu : a.eval x = u at h1
    obtain ⟨fs, fx, i, hus, hfx, hoff, hi, hsz, _⟩ := fld_of hf.h
    cases h1 with
    | adr _ b o y cs ty' fz hS hb hr' hg =>
      cases hr' with
      | agg _ vs hvs =>
        refine ⟨.pointer (some ⟨b, o + off, none⟩), ?_, ?_⟩
        · have : ¬ n = 0 := by omega
          simp [execOp, hu, Instr.fieldAt, run_underlying hus, hfx, Instr.sureAddr, fieldPlace, run_sizeOf hi, hsz, hoff, Addr.add_mk, this]
        · refine .adr _ b (o + off) (.agg ((vs.drop off).take n).toArray) cs ty' fz hS hb (.agg _ _ ((hvs.drop off).take n)) ?_
          have hl := hvs.length
          simp [Value.cells] at hg ⊢
          rw [← List.drop_drop]
          have e : (List.drop off (List.take vs.length (List.drop o cs.toList))).take n = (List.drop off vs).take n := congrArg (fun l => (l.drop off).take n) hg
          rw [List.drop_take, List.take_take, Nat.min_eq_left (by omega)] at e
          rw [Nat.min_eq_left (by omega)]
          exact e
theorem flat_take {k : Nat} {ys : List Value} : ∀ {vs : List Value} {i : Nat} {y : Value}, vs[i]? = some y → (∀ v ∈ vs, v.cells.size = k) →
    ((vs.flatMap fun v => v.cells.toList).drop (i * k)).take k = y.cells.toList
  | [], i, y, h, _ => by simp at h
  | v :: vs, 0, y, h, hk => by
    simp at h; subst h
    have := hk v List.mem_cons_self
    simp only [List.flatMap_cons, Nat.zero_mul, List.drop_zero]
    rw [List.take_append_of_le_length (by simp [this]), List.take_of_length_le (by simp [this])]
  | v :: vs, i + 1, y, h, hk => by
    have hv := hk v List.mem_cons_self
    have ih := flat_take (k := k) (ys := ys) (vs := vs) (i := i) (y := y) (by simpa using h) (fun u hu => hk u (List.mem_cons_of_mem _ hu))
    simp only [List.flatMap_cons]
    rw [show (i + 1) * k = k + i * k by rw [Nat.succ_mul]; omega, ← List.drop_drop, List.drop_append_of_le_length (by simp [hv]), List.drop_of_length_le (l := v.cells.toList) (by simp [hv]),
      List.nil_append]
    exact ih
theorem pop_indexAddr {x y : Operand} {f : Bool} {xs : List T} {i : Int} {d : T} {k : IntKind} (hx : t.ev x = .sl f xs) (hy : t.ev y = .v (.int k i)) (h0 : 0 ≤ i) (hd : xs[i.toNat]? = some d)
    (hs : elemSz P ty = some d.cells.length) (hp : Nat.blt 0 d.cells.length = true) : POp P t H ⟨dst, .indexAddr ty x y, tp, pos, aft, g⟩ (.adr d) :=
  POp.still fun S w a _ _ hr => by
    have h1 := hr x (by simp [Op.operands]); rw [hx] at h1
    have h2 := hr y (by simp [Op.operands]); rw [hy] at h2
    obtain ⟨e, inf, hu, hi, hsz⟩ := elem_of hs
    have hp' : 0 < d.cells.length := by simpa using hp
    generalize hv : a.eval x = u at h1
    cases h1 with
    | nil => simp at hd
    | sl _ _ b o cap vs k' cs ty' fz hS hb hr' hg hf hc =>
      obtain ⟨z, hz, hdz⟩ := hr'.get hd
      have hlt : i < (vs.length : Int) := by
        have := (List.getElem?_eq_some_iff.1 hz).1
        omega
      have hkz : z.cells.size = k' := hg.1 z (List.mem_of_getElem? hz)
      have hkd : z.cells.size = d.cells.length := hdz.size hp'
      refine ⟨.pointer (some ⟨b, o + i.toNat * k', none⟩), ?_, .adr d b (o + i.toNat * k') z cs ty' fz hS hb hdz ?_⟩
      · simp [execOp, hv, h2.v_eq, Instr.indexAt, asIntOf, run_underlying hu, run_sizeOf hi, hsz, h0, hlt, Addr.add_mk, ← hkd, hkz]
      · rw [hkz]
        have e := flat_take (k := k') (ys := []) hz hg.1
        rw [← e, ← hg.2, ← List.drop_drop, List.drop_take, List.take_take]
        congr 1
        have : i.toNat < vs.length := (List.getElem?_eq_some_iff.1 hz).1
        have h5 : (i.toNat + 1) * k' ≤ vs.length * k' := Nat.mul_le_mul_right _ this
        rw [Nat.succ_mul] at h5
        omega
theorem pop_field {x : Operand} {f off : Nat} {ys : List T} {d : T} (hx : t.ev x = .agg ys) [hf : FldC P ty f off 1 false] (hd : ys[off]? = some d) :
    POp P t H ⟨dst, .field ty x f, tp, pos, aft, g⟩ d :=
  POp.still fun S w a _ _ hr => by
    have h1 := hr x (by simp [Op.operands]); rw [hx] at h1
    generalize hu : a.eval x = u at h1
    obtain ⟨fs, fx, i, hus, hfx, hoff, hi, hsz, hag⟩ := fld_of hf.h
    cases h1 with
    | agg _ vs hvs =>
      obtain ⟨y, hy, hdy⟩ := hvs.get hd
      refine ⟨y, ?_, hdy⟩
      simp [execOp, hu, Instr.field, run_underlying hus, hfx, asAgg, part, leaf_of hag w, hoff, hy]
end
end Go.Cap
