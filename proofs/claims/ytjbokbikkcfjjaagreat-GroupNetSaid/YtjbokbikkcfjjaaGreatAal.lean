/-
  Values of plain types (numbers, bits, strings; structs and arrays of such), told from each other: cell by cell.
  Maps of one's own: made, looked up, written to.
  What the type table says, type by type (laid by my own program).
  Replicas as data: entries, nodes, messages.
-/
import Derived.Test.YtjbokbikkcfjjaaGreatAak
import Derived.ChangeKeysEq
import Derived.MapKept
import Derived.Test.YtjbokbikkcfjjaaGreatProg
import Derived.Test.YtjbokbikkcfjjaaGreatAaj
section
set_option maxRecDepth 4000
namespace Go.Cap
inductive CK where
  | int (k : IntKind)
  | bool
  | str
  deriving DecidableEq
def CK.fits : CK → Value → Bool
  | .int k, .int k' _ => decide (k = k')
  | .bool, .bool _ => true
  | .str, .string _ => true
  | _, _ => false
def fitsL : List CK → List Value → Bool
  | [], [] => true
  | k :: ks, v :: vs => k.fits v && fitsL ks vs
  | _, _ => false
def flatFs (fl : TypeId → Option (List CK)) (sz : TypeId → Option Nat) : List Field → Nat → Option (List CK)
  | [], _ => some []
  | f :: fs, o => match fl f.type, sz f.type, f.name != "_" && Nat.beq f.offset o with
    | some ks, some n, true => bif Nat.beq n ks.length then (flatFs fl sz fs (o + n)).map (ks ++ ·) else none
    | _, _, _ => none
def flatTy (P : Program) : Nat → TypeId → Option (List CK)
  | 0, _ => none
  | m + 1, t => match P.underlying t with
    | some .bool => some [.bool]
    | some (.int k) => some [.int k]
    | some .string => some [.str]
    | some (.array n e) => match flatTy P m e, (P.info? e).map (·.size) with
      | some ks, some s => bif Nat.beq s ks.length then some (List.replicate n ks).flatten else none
      | _, _ => none
    | some (.struct fs) => bif P.stoodInHeld t then none else flatFs (flatTy P m) (fun e => (P.info? e).map (·.size)) fs.toList 0
    | _ => none
theorem fits_len : ∀ {ks : List CK} {vs : List Value}, fitsL ks vs = true → vs.length = ks.length
  | [], [], _ => rfl
  | _ :: ks, _ :: vs, h => by simp only [fitsL, Bool.and_eq_true] at h; simp [fits_len h.2]
  | [], _ :: _, h => by cases h
  | _ :: _, [], h => by cases h
theorem fits_app : ∀ {ks ks' : List CK} {vs : List Value}, fitsL (ks ++ ks') vs = true → fitsL ks (vs.take ks.length) = true ∧ fitsL ks' (vs.drop ks.length) = true
  | [], ks', vs, h => by simpa [fitsL] using h
  | k :: ks, ks', [], h => by cases h
  | k :: ks, ks', v :: vs, h => by
    simp only [List.cons_append, fitsL, Bool.and_eq_true] at h
    have := fits_app h.2
    simp [fitsL, h.1, this.1, this.2]
def Shp (P : Program) (t : TypeId) (v : Value) (as : List Value) : Prop := (leafTy P t = true ∧ as = [v]) ∨ ((∃ n, aggSz P t = some n) ∧ v = .agg as.toArray)
theorem flat_some {P : Program} {m : Nat} {t : TypeId} {ks : List CK} (h : flatTy P m t = some ks) : (leafTy P t = true ∧ ks.length = 1) ∨ aggSz P t = (P.info? t).map (·.size) := by
  cases m with
  | zero => cases h
  | succ m =>
    unfold flatTy at h
    split at h <;> rename_i hu
    · simp only [Option.some.injEq] at h; subst h; exact .inl ⟨by simp [leafTy, hu], rfl⟩
    · simp only [Option.some.injEq] at h; subst h; exact .inl ⟨by simp [leafTy, hu], rfl⟩
    · simp only [Option.some.injEq] at h; subst h; exact .inl ⟨by simp [leafTy, hu], rfl⟩
    · exact .inr (by simp [aggSz, hu])
    · exact .inr (by simp [aggSz, hu])
    · cases h
section
variable {P : Program} {w : World}
theorem run_part_flat {m : Nat} {e : TypeId} {ks : List CK} {xs : Array Value} {off n : Nat} (h : flatTy P m e = some ks) (hs : (P.info? e).map (·.size) = some n) (hn : n = ks.length) (hf : fitsL ks ((xs.toList.drop off).take n) = true) :
    ∃ a, (part e xs off).run P w = .ok a w ∧ Shp P e a ((xs.toList.drop off).take n) := by
  have hl := fits_len hf
  rcases flat_some h with ⟨h1, h2⟩ | h1
  · have hn1 : n = 1 := by omega
    subst hn1
    cases hd : xs.toList.drop off with
    | nil => rw [hd] at hl; simp at hl; omega
    | cons v r =>
      have hv : xs[off]? = some v := by
        have : (xs.toList.drop off)[0]? = some v := by rw [hd]; rfl
        simpa using this
      exact ⟨v, run_part1 xs off v h1 hv, .inl ⟨h1, by simp⟩⟩
  · rw [hs] at h1
    obtain ⟨hag, j, hj, hj'⟩ := agg_of h1
    refine ⟨.agg (xs.extract off (off + n)), ?_, .inr ⟨⟨n, h1⟩, ?_⟩⟩
    · simp [part, hag w, run_sizeOf hj, hj']
    · congr 1
      apply Array.ext'
      simp [List.extract]
def EqFlat (P : Program) (dd : Nat) (t : TypeId) (ks : List CK) : Prop := ∀ (w : World) (x y : Value) (as bs : List Value), Shp P t x as → Shp P t y bs → fitsL ks as = true → fitsL ks bs = true →
  ∃ r : Bool, (Op.equalIn dd t x y).run P w = .ok r w ∧ (r = true ↔ as = bs)
theorem list_split {as bs : List Value} {n : Nat} : as = bs ↔ as.take n = bs.take n ∧ as.drop n = bs.drop n :=
  ⟨fun h => by rw [h]; exact ⟨rfl, rfl⟩, fun ⟨h1, h2⟩ => by rw [← List.take_append_drop n as, ← List.take_append_drop n bs, h1, h2]⟩
theorem run_fs {m d : Nat} (ih : ∀ t ks, flatTy P m t = some ks → EqFlat P d t ks) (xs ys : Array Value) : ∀ (fs : List Field) (o : Nat) (ks : List CK), flatFs (flatTy P m) (fun e => (P.info? e).map (·.size)) fs o = some ks →
    fitsL ks (xs.toList.drop o) = true → fitsL ks (ys.toList.drop o) = true → ∃ r : Bool, (Op.eqFields d xs ys fs).run P w = .ok r w ∧ (r = true ↔ xs.toList.drop o = ys.toList.drop o)
  | [], o, ks, h, hx, hy => by
    simp only [flatFs, Option.some.injEq] at h
    subst h
    have h1 := fits_len hx
    have h2 := fits_len hy
    rw [List.length_nil] at h1 h2
    rw [List.length_eq_zero_iff] at h1 h2
    exact ⟨true, by simp [Op.eqFields], by rw [h1, h2]; simp⟩
  | f :: fs, o, ks, h, hx, hy => by
    unfold flatFs at h
    split at h
    · rename_i k1 n hk1 hn hc
      cases hb : Nat.beq n k1.length with
      | false => rw [hb] at h; cases h
      | true =>
        rw [hb] at h
        simp only [cond_true, Option.map_eq_some_iff] at h
        obtain ⟨k2, hk2, rfl⟩ := h
        have hnl := Nat.eq_of_beq_eq_true hb
        simp only [Bool.and_eq_true] at hc
        have hoff := Nat.eq_of_beq_eq_true hc.2
        have hne : ¬ f.name = "_" := by simpa using hc.1
        have ⟨x1, x2⟩ := fits_app hx
        have ⟨y1, y2⟩ := fits_app hy
        rw [← hnl] at x1 x2 y1 y2
        rw [List.drop_drop] at x2 y2
        obtain ⟨a, pa, sa⟩ := run_part_flat (w := w) hk1 hn hnl x1
        obtain ⟨b, pb, sb⟩ := run_part_flat (w := w) hk1 hn hnl y1
        obtain ⟨r, hr, hiff⟩ := ih _ _ hk1 w a b _ _ sa sb x1 y1
        obtain ⟨r', hr', hiff'⟩ := run_fs ih xs ys fs (o + n) k2 hk2 x2 y2
        rw [hoff.symm] at hiff pa pb sa sb hiff' ⊢
        cases r with
        | false =>
          refine ⟨false, by simp [Op.eqFields, hne, pa, pb, hr], by simp; intro e; have := hiff.2 (by rw [e]); simp at this⟩
        | true =>
          refine ⟨r', by simp [Op.eqFields, hne, pa, pb, hr, hr'], ?_⟩
          rw [hiff', list_split (n := n) (as := xs.toList.drop f.offset), List.drop_drop, List.drop_drop]
          exact ⟨fun h => ⟨hiff.1 rfl, h⟩, fun h => h.2⟩
    · cases h
theorem run_items {m d : Nat} {e : TypeId} {ks : List CK} {n : Nat} (hk : flatTy P m e = some ks) (hn : (P.info? e).map (·.size) = some n) (hnl : n = ks.length) (ih : EqFlat P d e ks) (xs ys : Array Value) : ∀ (k i : Nat),
    fitsL (List.replicate k ks).flatten (xs.toList.drop (i * n)) = true → fitsL (List.replicate k ks).flatten (ys.toList.drop (i * n)) = true → ∃ r : Bool, (Op.eqItems d e n xs ys (List.range' i k)).run P w = .ok r w ∧ (r = true ↔ xs.toList.drop (i * n) = ys.toList.drop (i * n))
  | 0, i, hx, hy => by
    have h1 := fits_len hx
    have h2 := fits_len hy
    simp only [List.replicate_zero, List.flatten_nil, List.length_nil] at h1 h2
    rw [List.length_eq_zero_iff] at h1 h2
    exact ⟨true, by simp [Op.eqItems], by rw [h1, h2]; simp⟩
  | k + 1, i, hx, hy => by
    rw [List.replicate_succ, List.flatten_cons] at hx hy
    have ⟨x1, x2⟩ := fits_app hx
    have ⟨y1, y2⟩ := fits_app hy
    rw [← hnl] at x1 x2 y1 y2
    rw [List.drop_drop, ← Nat.succ_mul] at x2 y2
    obtain ⟨a, pa, sa⟩ := run_part_flat (w := w) hk hn hnl x1
    obtain ⟨b, pb, sb⟩ := run_part_flat (w := w) hk hn hnl y1
    obtain ⟨r, hr, hiff⟩ := ih w a b _ _ sa sb x1 y1
    obtain ⟨r', hr', hiff'⟩ := run_items hk hn hnl ih xs ys k (i + 1) x2 y2
    rw [List.range'_succ]
    cases r with
    | false =>
      refine ⟨false, by simp [Op.eqItems, pa, pb, hr], by simp; intro e; have := hiff.2 (by rw [e]); simp at this⟩
    | true =>
      refine ⟨r', by simp [Op.eqItems, pa, pb, hr, hr'], ?_⟩
      rw [hiff', list_split (n := n) (as := xs.toList.drop (i * n)), List.drop_drop, List.drop_drop, ← Nat.succ_mul]
      exact ⟨fun h => ⟨hiff.1 rfl, h⟩, fun h => h.2⟩
theorem run_flat (d : Nat) : ∀ (m : Nat) (t : TypeId) (ks : List CK), flatTy P m t = some ks → EqFlat P (d + m) t ks
  | 0, t, ks, h => by cases h
  | m + 1, t, ks, h => by
    intro w x y as bs sx sy fx fy
    have hleaf : leafTy P t = true → (∃ v, x = v ∧ as = [v]) ∧ ∃ v, y = v ∧ bs = [v] := by
      intro hl
      refine ⟨sx.elim (fun h => ⟨x, rfl, h.2⟩) fun h => ?_, sy.elim (fun h => ⟨y, rfl, h.2⟩) fun h => ?_⟩
      · obtain ⟨⟨n, h⟩, _⟩ := h
        exact absurd hl (by unfold aggSz at h; unfold leafTy; split at h <;> simp_all)
      · obtain ⟨⟨n, h⟩, _⟩ := h
        exact absurd hl (by unfold aggSz at h; unfold leafTy; split at h <;> simp_all)
    have hagg : leafTy P t = false → x = .agg as.toArray ∧ y = .agg bs.toArray := by
      intro hl
      exact ⟨sx.elim (fun h => by rw [h.1] at hl; cases hl) (·.2), sy.elim (fun h => by rw [h.1] at hl; cases hl) (·.2)⟩
    unfold flatTy at h
    split at h <;> rename_i hu
    · simp only [Option.some.injEq] at h; subst h
      obtain ⟨⟨x, rfl, rfl⟩, ⟨y, rfl, rfl⟩⟩ := hleaf (by simp [leafTy, hu])
      cases x <;> simp [fitsL, CK.fits] at fx
      cases y <;> simp [fitsL, CK.fits] at fy
      rename_i a b
      exact ⟨a == b, run_equalIn_bool w (d + m) t a b hu, by simp⟩
    · rename_i k
      simp only [Option.some.injEq] at h; subst h
      obtain ⟨⟨x, rfl, rfl⟩, ⟨y, rfl, rfl⟩⟩ := hleaf (by simp [leafTy, hu])
      cases x <;> simp [fitsL, CK.fits] at fx
      cases y <;> simp [fitsL, CK.fits] at fy
      subst fx
      subst fy
      rename_i a b
      exact ⟨a == b, run_equalIn_int w (d + m) t _ _ a b hu, by simp⟩
    · simp only [Option.some.injEq] at h; subst h
      obtain ⟨⟨x, rfl, rfl⟩, ⟨y, rfl, rfl⟩⟩ := hleaf (by simp [leafTy, hu])
      cases x <;> simp [fitsL, CK.fits] at fx
      cases y <;> simp [fitsL, CK.fits] at fy
      rename_i a b
      refine ⟨a.toList == b.toList, run_equalIn_string w (d + m) t a b hu, ?_⟩
      have ha : a = bs a.data.toList := by cases a; simp [bs]
      have hb : b = bs b.data.toList := by cases b; simp [bs]
      rw [ha, hb, bs_toList, bs_toList]
      constructor
      · intro h; rw [eq_of_beq h]
      · intro h
        simp only [List.cons.injEq, Value.string.injEq, and_true] at h
        rw [bs_inj h]; exact beq_self_eq_true _
    · rename_i n e
      split at h
      · rename_i ks' s hk hs
        cases hb : Nat.beq s ks'.length with
        | false => rw [hb] at h; cases h
        | true =>
          rw [hb] at h
          simp only [cond_true, Option.some.injEq] at h
          subst h
          obtain ⟨rfl, rfl⟩ := hagg (by simp [leafTy, hu])
          obtain ⟨i, hi, his⟩ : ∃ i, P.info? e = some i ∧ i.size = s := by
            cases hi : P.info? e with
            | none => rw [hi] at hs; cases hs
            | some i => rw [hi] at hs; simp at hs; exact ⟨i, rfl, hs⟩
          have hce : P.cellsOf e = s := by simp [Program.cellsOf, hi, his]
          obtain ⟨r, h1, h2⟩ := run_items (w := w) hk hs (Nat.eq_of_beq_eq_true hb) (run_flat d m e ks' hk) as.toArray bs.toArray n 0 (by simpa using fx) (by simpa using fy)
          refine ⟨r, ?_, by simpa using h2⟩
          show (Op.equalIn (d + m + 1) t _ _).run P w = _
          rw [run_equalIn_array w (d + m) _ _ hu hi, hce, List.range_eq_range']
          exact h1
      · cases h
    · rename_i fs
      cases hh : P.stoodInHeld t with
      | true => rw [hh] at h; cases h
      | false =>
        rw [hh] at h
        simp only [cond_false] at h
        obtain ⟨rfl, rfl⟩ := hagg (by simp [leafTy, hu])
        have hfo : P.fieldsOf t = fs := by simp [Program.fieldsOf, hu]
        obtain ⟨r, h1, h2⟩ := run_fs (w := w) (fun t ks => run_flat d m t ks) as.toArray bs.toArray fs.toList 0 ks h (by simpa using fx) (by simpa using fy)
        refine ⟨r, ?_, by simpa using h2⟩
        show (Op.equalIn (d + m + 1) t _ _).run P w = _
        rw [run_equalIn_struct w (d + m) t _ _ (by rw [hfo]; exact hu) hh, hfo]
        exact h1
    · cases h
end
section
variable {P : Program} {t : Env} {H : Heap} {dst : Option Tmp} {tp : TypeId} {pos : String} {aft : Array Edge} {g : Option (Nat × Bool)} {ty ty' : TypeId} {x y : Operand} {as bs' : List Value} {S : Nat → Prop} {w : World}
theorem run_eq_flat {m n : Nat} {ks : List CK} (hf : flatTy P m ty = some ks) (hm : Nat.ble m 10000 = true) (ha : aggSz P ty = some n) (fa : fitsL ks as = true) (fb : fitsL ks bs' = true) :
    (Op.equal ty (.agg as.toArray) (.agg bs'.toArray)).run P w = .ok (@decide (as = bs') (Classical.propDecidable _)) w := by
  have hm' := Nat.le_of_ble_eq_true hm
  obtain ⟨d, hd⟩ : ∃ d, 10000 = d + m := ⟨10000 - m, by omega⟩
  obtain ⟨r, h1, h2⟩ := run_flat d m ty ks hf w (.agg as.toArray) (.agg bs'.toArray) as bs' (.inr ⟨⟨n, ha⟩, rfl⟩) (.inr ⟨⟨n, ha⟩, rfl⟩) fa fb
  have e : (Op.equal ty (.agg as.toArray) (.agg bs'.toArray)).run P w = .ok r w := by
    show (Op.equalIn 10000 ty _ _).run P w = _
    rw [hd]; exact h1
  rw [e]
  congr 1
  by_cases hp : as = bs' <;> simp [hp] at h2 ⊢ <;> exact h2
theorem pop_eq_flat {xs ys : List T} {m n : Nat} {ks : List CK} (hf : flatTy P m ty = some ks) (hm : Nat.ble m 10000 = true) (ha : aggSz P ty = some n) (hg : P.eqGuardType P.depth ty = false) (hx' : t.ev x = .agg xs) (hy' : t.ev y = .agg ys) (hxs : Vals xs as) (hys : Vals ys bs') (fa : fitsL ks as = true) (fb : fitsL ks bs' = true) :
    POp P t H ⟨dst, .binOp .eql ty x y ty', tp, pos, aft, g⟩ (.v (.bool (@decide (as = bs') (Classical.propDecidable _)))) :=
  POp.still fun S w a _ _ hr => by
    have h1 := hr x (by simp [Op.operands]); rw [hx', hxs.eq] at h1
    have h2 := hr y (by simp [Op.operands]); rw [hy', hys.eq] at h2
    obtain ⟨us, e1, h1⟩ := h1.agg_inv
    obtain ⟨vs, e2, h2⟩ := h2.agg_inv
    rw [relL_vals h1] at e1
    rw [relL_vals h2] at e2
    refine ⟨_, ?_, .v _⟩
    simp only [execOp, e1, e2]
    simp [eqGuard, binOp, run_eq_flat (w := w) hf hm ha fa fb, hg]
theorem pop_ne_flat {xs ys : List T} {m n : Nat} {ks : List CK} (hf : flatTy P m ty = some ks) (hm : Nat.ble m 10000 = true) (ha : aggSz P ty = some n) (hg : P.eqGuardType P.depth ty = false) (hx' : t.ev x = .agg xs) (hy' : t.ev y = .agg ys) (hxs : Vals xs as) (hys : Vals ys bs') (fa : fitsL ks as = true) (fb : fitsL ks bs' = true) :
    POp P t H ⟨dst, .binOp .neq ty x y ty', tp, pos, aft, g⟩ (.v (.bool (@decide (¬ as = bs') (Classical.propDecidable _)))) :=
  POp.still fun S w a _ _ hr => by
    have h1 := hr x (by simp [Op.operands]); rw [hx', hxs.eq] at h1
    have h2 := hr y (by simp [Op.operands]); rw [hy', hys.eq] at h2
    obtain ⟨us, e1, h1⟩ := h1.agg_inv
    obtain ⟨vs, e2, h2⟩ := h2.agg_inv
    rw [relL_vals h1] at e1
    rw [relL_vals h2] at e2
    refine ⟨_, ?_, .v _⟩
    simp only [execOp, e1, e2]
    simp [eqGuard, binOp, run_eq_flat (w := w) hf hm ha fa fb, hg]
theorem p_eqD {xs ys : List T} {n : Nat} (m : Nat) (ks : List CK) (hg : P.eqGuardType P.depth ty = false) (hx : autoParam (t.ev x = .agg xs) zl._auto_1) (hy : autoParam (t.ev y = .agg ys) zl._auto_1) (hxs : Vals xs as := by (repeat (first | exact Vals.nil | apply Vals.cons))) (hys : Vals ys bs' := by (repeat (first | exact Vals.nil | apply Vals.cons)))
    (hf : flatTy P m ty = some ks := by kernel_rfl) (hm : Nat.ble m 10000 = true := by rfl) (ha : aggSz P ty = some n := by rfl) (fa : fitsL ks as = true := by rfl) (fb : fitsL ks bs' = true := by rfl) :
    POp P t H ⟨dst, .binOp .eql ty x y ty', tp, pos, aft, g⟩ (.v (.bool (@decide (as = bs') (Classical.propDecidable _)))) := pop_eq_flat hf hm ha hg hx hy hxs hys fa fb
theorem p_neD {xs ys : List T} {n : Nat} (m : Nat) (ks : List CK) (hg : P.eqGuardType P.depth ty = false) (hx : autoParam (t.ev x = .agg xs) zl._auto_1) (hy : autoParam (t.ev y = .agg ys) zl._auto_1) (hxs : Vals xs as := by (repeat (first | exact Vals.nil | apply Vals.cons))) (hys : Vals ys bs' := by (repeat (first | exact Vals.nil | apply Vals.cons)))
    (hf : flatTy P m ty = some ks := by kernel_rfl) (hm : Nat.ble m 10000 = true := by rfl) (ha : aggSz P ty = some n := by rfl) (fa : fitsL ks as = true := by rfl) (fb : fitsL ks bs' = true := by rfl) :
    POp P t H ⟨dst, .binOp .neq ty x y ty', tp, pos, aft, g⟩ (.v (.bool (@decide (¬ as = bs') (Classical.propDecidable _)))) := pop_ne_flat hf hm ha hg hx hy hxs hys fa fb
end
end Go.Cap
end
section
namespace Go.Cap
class MapC (P : Program) (ty : Nat) (kt et : outParam Nat) (kd : outParam TypeDesc) (z : outParam T) : Prop where
  h : P.underlying ty = some (.map kt et)
  hk : P.underlying kt = some kd
  hz : zeroT P et = some z
def keq : Value → Value → Bool
  | .int k a, .int k' b => decide (k = k') && decide (a = b)
  | .bool a, .bool b => a == b
  | .string a, .string b => decide (a.data = b.data)
  | _, _ => false
theorem keq_eq {a b : Value} (h : keq a b = true) : a = b := by
  cases a <;> cases b <;> simp_all [keq]
  rename_i x y
  obtain ⟨x⟩ := x
  obtain ⟨y⟩ := y
  simp_all
theorem keq_self {kd : TypeDesc} {k : Value} (h : MapKept.IsKey kd k) : keq k k = true := by
  cases kd <;> cases k <;> simp_all [keq, MapKept.IsKey]
def mget : List (Value × T × Nat) → Value → Option T
  | [], _ => none
  | e :: es, k => if keq e.1 k then some e.2.1 else mget es k
def mset : List (Value × T × Nat) → Value → T → List (Value × T × Nat)
  | [], _, _ => []
  | e :: es, k, x => if keq e.1 k then (k, x, e.2.2) :: es else e :: mset es k x
def mput (es : List (Value × T × Nat)) (clock : Nat) (k : Value) (x : T) : BTy :=
  match mget es k with
  | some _ => .map (mset es k x) clock
  | none => .map (es ++ [(k, x, clock)]) (clock + 1)
section
variable {S : Nat → Prop} {w : World}
theorem Ents.keys {es : List (Value × T × Nat)} {ms : List MapEntry} (h : Ents S w es ms) : ms.map (·.key) = es.map (·.1) := by
  induction h with
  | nil => rfl
  | cons k x n v es ms _ _ ih => simp [ih]
theorem Ents.none {es : List (Value × T × Nat)} {ms : List MapEntry} (h : Ents S w es ms) {k : Value} (hn : ∀ x ∈ ms, x.key ≠ k) : mget es k = none := by
  induction h with
  | nil => rfl
  | cons k' x n v es ms _ _ ih =>
    have h1 : ¬ keq k' k = true := fun h0 => hn _ List.mem_cons_self (keq_eq h0)
    rw [mget, if_neg h1]
    exact ih fun x hx => hn x (List.mem_cons_of_mem _ hx)
theorem HasM.has {b clock : Nat} {es : List (Value × T × Nat)} (h : HasM S w b es clock) : Has S w b ⟨.map es clock, [], 0⟩ := ⟨h, rfl, rfl⟩
theorem Ents.at {kd : TypeDesc} {es : List (Value × T × Nat)} {ms : List MapEntry} (h : Ents S w es ms) {k : Value} (hI : MapKept.IsKey kd k) (hnd : (ms.map (·.key)).Nodup) {j : Nat} {e : MapEntry} (hj : ms[j]? = some e) (he : e.key = k) : ∃ x, mget es k = some x ∧ Rel S w x e.val := by
  induction h generalizing j with
  | nil => simp at hj
  | cons k' x n v es ms h1 hs ih =>
    cases j with
    | zero => simp at hj; subst hj; exact ⟨x, by rw [mget, if_pos (show keq k' k = true by rw [show k' = k from he]; exact keq_self hI)], h1⟩
    | succ j =>
      simp at hj hnd
      have hne : ¬ keq k' k = true := fun e0 => hnd.1 e (List.mem_of_getElem? hj) (by rw [he, keq_eq e0])
      obtain ⟨y, h2, h3⟩ := ih hnd.2 hj
      exact ⟨y, by rw [mget, if_neg hne, h2], h3⟩
end
structure KeysOk (kd : TypeDesc) (es : List (Value × T × Nat)) : Prop where
  is : ∀ e ∈ es, MapKept.IsKey kd e.1
  nd : (es.map (·.1)).Nodup
theorem KeysOk.nil (kd : TypeDesc) : KeysOk kd [] := ⟨by simp, by simp⟩
section
variable {S : Nat → Prop} {P : Program} {w : World} {ty kt et : Nat} {kd : TypeDesc} {z : T}
theorem run_lookup_own (hm : MapC P ty kt et kd z) {b clock : Nat} {es : List (Value × T × Nat)} {ms : Array MapEntry} (hb : w.heap[b]? = some (.map ms clock)) (hE : Ents S w es ms.toList) (hK : KeysOk kd es) {k : Value} (hk : MapKept.IsKey kd k) :
    ∃ v, (Instr.lookup ty (.map (some b)) k false).run P w = .ok v w ∧ Rel S w ((mget es k).getD z) v := by
  have hkeys := hE.keys
  have hks : ∀ x ∈ ms.toList, MapKept.IsKey kd x.key := fun x hx => by
    have : x.key ∈ es.map (·.1) := by rw [← hkeys]; exact List.mem_map.2 ⟨x, hx, rfl⟩
    obtain ⟨e, h1, h2⟩ := List.mem_map.1 this
    rw [← h2]; exact hK.is e h1
  have hck := MapKept.run_checkKey (w := w) hm.hk hk ms.isEmpty 9999
  rcases MapKept.findNow_spec hk ms.toList 0 hks with ⟨h1, h2⟩ | ⟨j, e, h1, h2, h3⟩
  · obtain ⟨i, zv, hi, hzz, rfl⟩ := zero_of hm.hz
    refine ⟨zv, ?_, ?_⟩
    · have hz : (zeroValue et).run P w = .ok zv w := by simp [zeroValue, typeInfo, hi, hzz]
      simp only [Instr.lookup, Sem.run_bind, run_underlying hm.h, Result.andThen_ok, MapKept.run_getObj_map hb, Sem.run_pure, hck, MapKept.run_findKey hm.hk h1, hz]
      simp
    · rw [hE.none h2]; exact Rel.ofVal zv
  · obtain ⟨x, h4, h5⟩ := hE.at hk (by rw [hkeys]; exact hK.nd) h2 h3
    refine ⟨e.val, ?_, by rw [h4]; exact h5⟩
    simp only [Instr.lookup, Sem.run_bind, run_underlying hm.h, Result.andThen_ok, MapKept.run_getObj_map hb, Sem.run_pure, hck, MapKept.run_findKey hm.hk h1]
    simp
end
section
variable {K : Ctx} {P : Program} {t : Env} {H : Heap} {N : Env → Heap → Prop} {ops : Array Oper} {i : Nat} {l : List Oper} {dst : Option Tmp} {ty kt et tp : TypeId} {pos : String} {aft : Array Edge} {g : Option (Nat × Bool)} {x y u : Operand} {kd : TypeDesc} {z d : T} {kt0 : Tmp} {S : Nat → Prop} {w : World}
theorem p_lk {b clock : Nat} {es : List (Value × T × Nat)} {k : Value} [hm : MapC P ty kt et kd z] (hK : KeysOk kd es) (hx : autoParam (t.ev x = .v (.map (some b))) zl._auto_1) (hy : autoParam (t.ev y = .v k) zl._auto_1) (hi : autoParam ((b, (⟨.map es clock, [], 0⟩ : Blk)) ∈ H) zm._auto_1) (hI : MapKept.IsKey kd k := by rfl) :
    POp P t H ⟨dst, .lookup ty x y false, tp, pos, aft, g⟩ ((mget es k).getD z) :=
  POp.still fun S w a _ ho hr => by
    have h1 := hr x (by simp [Op.operands]); rw [hx] at h1
    have h2 := hr y (by simp [Op.operands]); rw [hy] at h2
    obtain ⟨⟨ms, hb, hE⟩, _, _⟩ := ho.has _ hi
    obtain ⟨v, hrun, hrel⟩ := run_lookup_own hm hb hE hK hI
    exact ⟨v, by simp [execOp, h1.v_eq, h2.v_eq, hrun], hrel⟩
theorem eop_mkmap {kd : Tmp} (hd : Nat.blt kd K.n = true) (h : ∀ b, (∀ c ∈ keys H, ¬ c = b) → N ((kd, .v (.map (some b))) :: t) ((b, ⟨.map [] 0, [], 0⟩) :: H)) : EOp K t H ⟨some kd, .makeMap ty none, tp, pos, aft, g⟩ N := by
  refine EOp.of_w (fun c e => by cases e) ?_
  intro a w ⟨S, hr⟩ Kc Q hk
  have hrun : (execOp a.eval ⟨some kd, .makeMap ty none, tp, pos, aft, g⟩).run K.P w = .ok (.value (.map (some w.heap.size))) (w.alloc (.map #[] 0)) := by
    simp [execOp, Instr.makeMap]
  unfold Oper.wp
  rw [hrun]
  exact hk _ _ _ _ (h w.heap.size (fresh_ne hr)) ⟨S, hr.fresh0 (dst := some kd) (show Has S _ _ ⟨.map [] 0, [], 0⟩ from ⟨⟨#[], heap_new w _, .nil⟩, rfl, rfl⟩) hd (.v _)⟩
theorem eop_mapset {b clock : Nat} {es : List (Value × T × Nat)} {k : Value} {kd : TypeDesc} {z d : T} (i : Nat) (hi : H[i]? = some (b, ⟨.map es clock, [], 0⟩)) [hm : MapC K.P ty kt et kd z] (hK : KeysOk kd es) (hI : MapKept.IsKey kd k) (hx : t.ev x = .v (.map (some b))) (hy : t.ev y = .v k) (hu : t.ev u = d)
    (h : N t (H.set i (b, ⟨mput es clock k d, [], 0⟩))) : EOp K t H ⟨none, .mapUpdate ty x y u, tp, pos, aft, g⟩ N := by
  refine EOp.of_w (fun c e => by cases e) ?_
  intro a w ⟨S, hr⟩ Kc Q hkc
  have h1 := hr.env.ev x; rw [hx] at h1
  have h2 := hr.env.ev y; rw [hy] at h2
  have h3 := hr.env.ev u; rw [hu] at h3
  obtain ⟨⟨ms, hb, hE⟩, _, _⟩ := hr.own.at hi
  have hbk : b ∈ keys H := List.mem_map.2 ⟨_, List.mem_of_getElem? hi, rfl⟩
  have hnS : ¬ S b := hr.own.apart b hbk
  have hkeys := hE.keys
  have hks : ∀ x ∈ ms.toList, MapKept.IsKey kd x.key := fun x hx => by
    have : x.key ∈ es.map (·.1) := by rw [← hkeys]; exact List.mem_map.2 ⟨x, hx, rfl⟩
    obtain ⟨e, h1, h2⟩ := List.mem_map.1 this
    rw [← h2]; exact hK.is e h1
  have hck := MapKept.run_checkKey (w := w) hm.hk hI false 9999
  have hne : ∀ (o' : Obj) (c : Nat), ¬ c = b → (w.heap.setIfInBounds b o')[c]? = w.heap[c]? := fun o' c hc => (MapKept.heap_set (o' := o') hb).2 c hc
  have hmo : ∀ (o' : Obj) c, S c → S c ∧ (w.heap.setIfInBounds b o')[c]? = w.heap[c]? := fun o' c hc => ⟨hc, hne o' c fun e => hnS (e ▸ hc)⟩
  unfold Oper.wp
  rcases MapKept.findNow_spec hI ms.toList 0 hks with ⟨f1, f2⟩ | ⟨j, e, f1, f2, f3⟩
  · have hrun : (execOp a.eval ⟨none, .mapUpdate ty x y u, tp, pos, aft, g⟩).run K.P w = .ok .skip { w with heap := w.heap.setIfInBounds b (.map (ms.push ⟨k, a.eval u, clock⟩) (clock + 1)) } := by
      simp [execOp, h1.v_eq, h2.v_eq, Instr.mapUpdate, run_underlying hm.h, MapKept.run_getObj_map hb, hck, MapKept.run_findKey hm.hk f1, MapKept.run_setObj_map _ hb]
    rw [hrun]
    have hg := hE.none f2
    have he : mput es clock k d = .map (es ++ [(k, d, clock)]) (clock + 1) := by unfold mput; rw [hg]
    rw [he] at h
    refine hkc _ _ _ _ h ⟨S, hr.turn hi rfl rfl rfl (by simp) (hne _) (HasM.has ⟨_, (MapKept.heap_set hb).1, ?_⟩)⟩
    rw [Array.toList_push]
    exact (hE.push clock h3).mono (w' := { w with heap := _ }) (hmo _)
  · have hj : ms[0 + j]? = some e := by rw [Nat.zero_add]; simpa using f2
    have hrun : (execOp a.eval ⟨none, .mapUpdate ty x y u, tp, pos, aft, g⟩).run K.P w = .ok .skip { w with heap := w.heap.setIfInBounds b (.map (ms.modify (0 + j) fun e => { e with key := k, val := a.eval u }) clock) } := by
      simp only [execOp, h1.v_eq, h2.v_eq, Instr.mapUpdate, Sem.run_bind, run_underlying hm.h, Result.andThen_ok, MapKept.run_getObj_map hb, hck, MapKept.run_findKey hm.hk f1, hj, Option.map_some, Option.getD_some, f3, MapKept.run_keyThatStays hI, MapKept.run_setObj_map _ hb]
      simp
    rw [hrun]
    obtain ⟨x0, hg, _⟩ := hE.at hI (by rw [hkeys]; exact hK.nd) f2 f3
    have he : mput es clock k d = .map (mset es k d) clock := by unfold mput; rw [hg]
    rw [he] at h
    refine hkc _ _ _ _ h ⟨S, hr.turn hi rfl rfl rfl (by simp) (hne _) (HasM.has ⟨_, (MapKept.heap_set hb).1, ?_⟩)⟩
    have := hE.set hI (by rw [hkeys]; exact hK.nd) f2 f3 h3
    rw [Nat.zero_add, Array.toList_modify]
    exact this.mono (w' := { w with heap := _ }) (hmo _)
theorem e_mkm {kd : Tmp} (h : ∀ b, (∀ c ∈ keys H, ¬ c = b) → SimFrom K ops (i + 1) l ((kd, .v (.map (some b))) :: t) ((b, ⟨.map [] 0, [], 0⟩) :: H) N) (hd : Nat.blt kd K.n = true := by rfl) : SimFrom K ops i (⟨some kd, .makeMap ty none, tp, pos, aft, none⟩ :: l) t H N := from_e (eop_mkmap hd h)
theorem e_mu {H' : Heap} {b clock : Nat} {es : List (Value × T × Nat)} {k : Value} [hm : MapC K.P ty kt et kd z] (hK : KeysOk kd es) (h : SimFrom K ops (i + 1) l t H' N) (hx : autoParam (t.ev x = .v (.map (some b))) zl._auto_1) (hy : autoParam (t.ev y = .v k) zl._auto_1) (hu : autoParam (t.ev u = d) zl._auto_1) (hi : autoParam (HRep H (b, ⟨.map es clock, [], 0⟩) (b, ⟨mput es clock k d, [], 0⟩) H') zr._auto_1) (hI : MapKept.IsKey kd k := by rfl) :
    SimFrom K ops i (⟨none, .mapUpdate ty x y u, tp, pos, aft, none⟩ :: l) t H N := by
  obtain ⟨j, hj, rfl⟩ := hi
  exact from_e (eop_mapset j hj hK hI hx hy hu h)
theorem run_eq_pp {fs : Array Field} {f : Field} {r : List Field} {e : TypeId} {a : Addr} {us vs : List Value} (hu : P.underlying ty = some (.struct fs)) (hh : P.stoodInHeld ty = false) (hfs : fs.toList = f :: r) (hn : f.name ≠ "_") (ho : f.offset = 0) (hp : P.underlying f.type = some (.pointer e)) :
    (Op.equal ty (.agg (.pointer (some a) :: us).toArray) (.agg (.pointer none :: vs).toArray)).run P w = .ok false w := by
  have hfo : P.fieldsOf ty = fs := by simp [Program.fieldsOf, hu]
  have hl : leafTy P f.type = true := by simp [leafTy, hp]
  have p1 := run_part1 (P := P) (w := w) (.pointer (some a) :: us).toArray f.offset (.pointer (some a)) hl (by simp [ho])
  have p2 := run_part1 (P := P) (w := w) (.pointer none :: vs).toArray f.offset (.pointer none) hl (by simp [ho])
  show (Op.equalIn (9999 + 1) ty _ _).run P w = _
  rw [run_equalIn_struct w 9999 ty _ _ (by rw [hfo]; exact hu) hh, hfo, hfs]
  have h3 : (Op.equalIn 9999 f.type (.pointer (some a)) (.pointer none)).run P w = .ok false w := by
    show (Op.equalIn (9998 + 1) f.type (.pointer (some a)) (.pointer none)).run P w = _
    generalize 9998 = d
    simp [Op.equalIn, run_underlying hp]
  generalize 9999 = d at h3 ⊢
  simp [Op.eqFields, hn, p1, p2, h3]
theorem p_neP {ty' : TypeId} {xs ys : List T} {a : Addr} {fs : Array Field} {f : Field} {r : List Field} {e : TypeId} (hg : P.eqGuardType P.depth ty = false) (hx : autoParam (t.ev x = .agg (.v (.pointer (some a)) :: xs)) zl._auto_1) (hy : autoParam (t.ev y = .agg (.v (.pointer none) :: ys)) zl._auto_1)
    (hu : P.underlying ty = some (.struct fs) := by rfl) (hh : P.stoodInHeld ty = false := by kernel_rfl) (hfs : fs.toList = f :: r := by rfl) (hn : f.name ≠ "_" := by decide) (ho : f.offset = 0 := by rfl) (hp : P.underlying f.type = some (.pointer e) := by rfl) :
    POp P t H ⟨dst, .binOp .neq ty x y ty', tp, pos, aft, g⟩ (.v (.bool (decide True))) :=
  POp.still fun S w a _ _ hr => by
    have h1 := hr x (by simp [Op.operands]); rw [hx] at h1
    have h2 := hr y (by simp [Op.operands]); rw [hy] at h2
    obtain ⟨us, e1, h1⟩ := h1.agg_inv
    obtain ⟨vs, e2, h2⟩ := h2.agg_inv
    cases h1 with
    | cons _ u1 _ us h1 h1' =>
      cases h2 with
      | cons _ v1 _ vs h2 h2' =>
        have f1 := h1.v_eq
        have f2 := h2.v_eq
        subst f1 f2
        refine ⟨_, ?_, .v _⟩
        simp only [execOp, e1, e2]
        simp [eqGuard, binOp, run_eq_pp (w := w) (us := us) (vs := vs) hu hh hfs hn ho hp, hg]
end
end Go.Cap
end
section
set_option maxRecDepth 10000
namespace Go.Proofs.YtjbokbikkcfjjaaGreat
open Go.Cap
instance : ZCellsC Tryz.prog 3 [.v (.int .i64 0)] := ⟨by rfl⟩
instance : ElemZC Tryz.prog 22 (.v (.int .i64 0)) 8 := ⟨by rfl⟩
instance : ZCellsC Tryz.prog 25 [.v (.int .i64 0)] := ⟨by rfl⟩
instance : ZCellsC Tryz.prog 34 [.v (.slice none 0 0)] := ⟨by rfl⟩
instance : ElemSzC Tryz.prog 34 1 := ⟨by rfl⟩
instance : ElemZC Tryz.prog 34 (.v (.int .u8 0)) 1 := ⟨by rfl⟩
instance : ElemSzC Tryz.prog 41 3 := ⟨by rfl⟩
instance : ElemZC Tryz.prog 41 (.agg [.v (.int .i64 0), .v (.int .i64 0), .v (.string .empty)]) 32 := ⟨by rfl⟩
instance : AggC Tryz.prog 42 5 := ⟨by rfl, by rfl⟩
instance : ArrC Tryz.prog 42 5 1 := ⟨by rfl⟩
instance : ZCellsC Tryz.prog 44 [.v (.int .i64 0), .v (.int .i64 0), .v (.int .i64 0), .v (.int .i64 0), .v (.int .i64 0), .v (.int .i64 0), .v (.string .empty), .v (.slice none 0 0), .v (.int .i64 0), .v (.int .i64 0), .v (.int .i64 0), .v (.int .i64 0), .v (.int .i64 0), .v (.int .i64 0), .v (.int .i64 0), .v (.int .i64 0), .v (.int .i64 0), .v (.int .i64 0), .v (.int .i64 0), .v (.int .i64 0), .v (.int .i64 0), .v (.int .i64 0)] := ⟨by rfl⟩
instance : AggC Tryz.prog 44 22 := ⟨by rfl, by rfl⟩
instance : FldC Tryz.prog 44 0 0 1 false := ⟨by rfl⟩
instance : FldC Tryz.prog 44 1 1 1 false := ⟨by rfl⟩
instance : FldC Tryz.prog 44 2 2 1 false := ⟨by rfl⟩
instance : FldC Tryz.prog 44 3 3 1 false := ⟨by rfl⟩
instance : FldC Tryz.prog 44 4 4 1 false := ⟨by rfl⟩
instance : FldC Tryz.prog 44 5 5 1 false := ⟨by rfl⟩
instance : FldC Tryz.prog 44 6 6 1 false := ⟨by rfl⟩
instance : FldC Tryz.prog 44 7 7 1 false := ⟨by rfl⟩
instance : FldC Tryz.prog 44 8 8 1 false := ⟨by rfl⟩
instance : FldC Tryz.prog 44 9 9 1 false := ⟨by rfl⟩
instance : FldC Tryz.prog 44 10 10 1 false := ⟨by rfl⟩
instance : FldC Tryz.prog 44 11 11 1 false := ⟨by rfl⟩
instance : FldC Tryz.prog 44 12 12 5 true := ⟨by rfl⟩
instance : FldC Tryz.prog 44 13 17 5 true := ⟨by rfl⟩
instance : MapC Tryz.prog 66 3 4 (.int .i64) (.v (.bool false)) := ⟨by rfl, by rfl, by rfl⟩
instance : ZCellsC Tryz.prog 68 [.v (.pointer none), .v (.pointer none)] := ⟨by rfl⟩
instance : AggC Tryz.prog 68 2 := ⟨by rfl, by rfl⟩
instance : FldC Tryz.prog 68 0 0 1 false := ⟨by rfl⟩
instance : FldC Tryz.prog 68 1 1 1 false := ⟨by rfl⟩
instance : ArrC Tryz.prog 69 5 2 := ⟨by rfl⟩
instance : ElemSzC Tryz.prog 70 11 := ⟨by rfl⟩
instance : ElemZC Tryz.prog 70 (.agg [.v (.int .i64 0), .v (.int .i64 0), .v (.int .i64 0), .v (.int .i64 0), .v (.int .i64 0), .v (.int .i64 0), .v (.int .i64 0), .v (.int .i64 0), .v (.bool false), .v (.slice none 0 0), .v (.string .empty)]) 112 := ⟨by rfl⟩
instance : ZCellsC Tryz.prog 72 [.v (.int .i64 0), .v (.pointer none), .v (.pointer none), .v (.pointer none), .v (.pointer none), .v (.pointer none), .v (.pointer none), .v (.pointer none), .v (.pointer none), .v (.pointer none), .v (.pointer none), .v (.map none), .v (.slice none 0 0)] := ⟨by rfl⟩
instance : FldC Tryz.prog 72 1 1 10 true := ⟨by rfl⟩
instance : FldC Tryz.prog 72 2 11 1 false := ⟨by rfl⟩
instance : FldC Tryz.prog 72 3 12 1 false := ⟨by rfl⟩
instance : ZCellsC Tryz.prog 76 [.v (.int .i64 0), .v (.int .i64 0), .v (.int .i64 0), .v (.int .i64 0), .v (.int .i64 0), .v (.int .i64 0), .v (.int .i64 0), .v (.int .i64 0), .v (.bool false), .v (.slice none 0 0), .v (.string .empty)] := ⟨by rfl⟩
instance : AggC Tryz.prog 76 11 := ⟨by rfl, by rfl⟩
instance : FldC Tryz.prog 76 0 0 1 false := ⟨by rfl⟩
instance : FldC Tryz.prog 76 1 1 1 false := ⟨by rfl⟩
instance : FldC Tryz.prog 76 2 2 1 false := ⟨by rfl⟩
instance : FldC Tryz.prog 76 3 3 1 false := ⟨by rfl⟩
instance : FldC Tryz.prog 76 4 4 1 false := ⟨by rfl⟩
instance : FldC Tryz.prog 76 5 5 1 false := ⟨by rfl⟩
instance : FldC Tryz.prog 76 6 6 1 false := ⟨by rfl⟩
instance : FldC Tryz.prog 76 7 7 1 false := ⟨by rfl⟩
instance : FldC Tryz.prog 76 8 8 1 false := ⟨by rfl⟩
instance : FldC Tryz.prog 76 9 9 1 false := ⟨by rfl⟩
instance : FldC Tryz.prog 76 10 10 1 false := ⟨by rfl⟩
instance : ZCellsC Tryz.prog 84 [.v (.int .i64 0), .v (.int .i64 0), .v (.string .empty)] := ⟨by rfl⟩
instance : AggC Tryz.prog 84 3 := ⟨by rfl, by rfl⟩
instance : FldC Tryz.prog 84 0 0 1 false := ⟨by rfl⟩
instance : FldC Tryz.prog 84 1 1 1 false := ⟨by rfl⟩
instance : FldC Tryz.prog 84 2 2 1 false := ⟨by rfl⟩
instance : FldC Tryz.prog 87 0 0 1 false := ⟨by rfl⟩
instance : FldC Tryz.prog 87 1 1 1 false := ⟨by rfl⟩
instance : FldC Tryz.prog 87 2 2 1 false := ⟨by rfl⟩
instance : ZCellsC Tryz.prog 89 [.v (.int .i64 0), .v (.int .i64 0), .v (.bool false), .v (.slice none 0 0), .v (.int .i64 0), .v (.slice none 0 0), .v (.int .i64 0)] := ⟨by rfl⟩
instance : FldC Tryz.prog 89 0 0 3 true := ⟨by rfl⟩
instance : FldC Tryz.prog 89 1 3 1 false := ⟨by rfl⟩
instance : FldC Tryz.prog 89 2 4 1 false := ⟨by rfl⟩
instance : FldC Tryz.prog 89 3 5 1 false := ⟨by rfl⟩
instance : FldC Tryz.prog 89 4 6 1 false := ⟨by rfl⟩
instance : ZCellsC Tryz.prog 91 [.v (.pointer none)] := ⟨by rfl⟩
instance : ZCellsC Tryz.prog 93 [.v (.pointer none), .v (.int .i64 0), .v (.int .i64 0), .v (.int .i64 0), .v (.int .i64 0), .v (.int .i64 0), .v (.int .i64 0), .v (.string .empty), .v (.slice none 0 0), .v (.int .i64 0), .v (.int .i64 0), .v (.int .i64 0), .v (.int .i64 0), .v (.int .i64 0), .v (.int .i64 0), .v (.int .i64 0), .v (.int .i64 0), .v (.int .i64 0), .v (.int .i64 0), .v (.int .i64 0), .v (.int .i64 0), .v (.int .i64 0), .v (.int .i64 0)] := ⟨by rfl⟩
instance : FldC Tryz.prog 93 0 0 1 false := ⟨by rfl⟩
instance : FldC Tryz.prog 93 1 1 22 true := ⟨by rfl⟩
instance : ZCellsC Tryz.prog 95 [.v (.pointer none), .v (.int .i64 0), .v (.int .i64 0), .v (.int .i64 0), .v (.int .i64 0), .v (.int .i64 0), .v (.int .i64 0), .v (.string .empty), .v (.slice none 0 0), .v (.int .i64 0), .v (.int .i64 0), .v (.int .i64 0), .v (.int .i64 0), .v (.int .i64 0), .v (.int .i64 0), .v (.int .i64 0), .v (.int .i64 0), .v (.int .i64 0), .v (.int .i64 0), .v (.int .i64 0), .v (.int .i64 0), .v (.int .i64 0), .v (.int .i64 0)] := ⟨by rfl⟩
instance : FldC Tryz.prog 95 0 0 23 true := ⟨by rfl⟩
instance : ZCellsC Tryz.prog 117 [.v (.slice none 0 0)] := ⟨by rfl⟩
instance : ElemZC Tryz.prog 117 (.v (.slice none 0 0)) 24 := ⟨by rfl⟩
instance : ZCellsC Tryz.prog 157 [.v (.pointer none), .v (.int .i64 0)] := ⟨by rfl⟩
instance : FldC Tryz.prog 157 0 0 1 false := ⟨by rfl⟩
instance : FldC Tryz.prog 157 1 1 1 false := ⟨by rfl⟩
instance : ZCellsC Tryz.prog 167 [.v (.int .i64 0), .v (.int .i64 0), .v (.int .i64 0), .v (.int .i64 0), .v (.int .i64 0), .v (.int .i64 0), .v (.string .empty), .v (.slice none 0 0), .v (.int .i64 0), .v (.int .i64 0), .v (.int .i64 0), .v (.int .i64 0), .v (.int .i64 0), .v (.int .i64 0), .v (.int .i64 0), .v (.int .i64 0), .v (.int .i64 0), .v (.int .i64 0), .v (.int .i64 0), .v (.int .i64 0), .v (.int .i64 0), .v (.int .i64 0), .v (.slice none 0 0)] := ⟨by rfl⟩
instance : FldC Tryz.prog 167 0 0 22 true := ⟨by rfl⟩
instance : FldC Tryz.prog 167 1 22 1 false := ⟨by rfl⟩
instance : ZCellsC Tryz.prog 179 [.v (.slice none 0 0), .v (.int .i64 0)] := ⟨by rfl⟩
instance : FldC Tryz.prog 179 0 0 1 false := ⟨by rfl⟩
instance : FldC Tryz.prog 179 1 1 1 false := ⟨by rfl⟩
instance : ZCellsC Tryz.prog 191 [.v (.int .u32 0)] := ⟨by rfl⟩
instance : ZCellsC Tryz.prog 200 [.v (.int .i64 0), .v (.int .i64 0), .v (.int .i64 0), .v (.int .i64 0), .v (.int .i64 0), .v (.int .i64 0), .v (.int .i64 0), .v (.int .i64 0), .v (.int .i64 0), .v (.int .i64 0), .v (.int .i64 0), .v (.int .i64 0), .v (.int .i64 0), .v (.int .i64 0), .v (.int .i64 0), .v (.int .i64 0), .v (.int .i64 0), .v (.int .i64 0), .v (.int .i64 0), .v (.int .i64 0)] := ⟨by rfl⟩
instance : AggC Tryz.prog 200 20 := ⟨by rfl, by rfl⟩
end Go.Proofs.YtjbokbikkcfjjaaGreat
end
section
set_option maxRecDepth 4000
namespace Go.Proofs.YtjbokbikkcfjjaaGreat
open Go.Cap
def ei (n : Int) : T := .v (.int .i64 n)
def es (s : List UInt8) : T := .v (.string (bs s))
def eB (b : Bool) : T := .v (.bool b)
structure En where
  term : Int
  conf : Int
  cmd : List UInt8
  deriving DecidableEq, Inhabited
def een (e : En) : T := .agg [ei e.term, ei e.conf, es e.cmd]
def eens (l : List En) : T := .sl false (l.map een)
structure F5 where
  a : Int
  b : Int
  c : Int
  d : Int
  e : Int
  deriving DecidableEq, Inhabited
def F5.get (f : F5) : Nat → Int
  | 0 => f.a
  | 1 => f.b
  | 2 => f.c
  | 3 => f.d
  | _ => f.e
def F5.set (f : F5) (i : Nat) (v : Int) : F5 := match i with
  | 0 => { f with a := v }
  | 1 => { f with b := v }
  | 2 => { f with c := v }
  | 3 => { f with d := v }
  | _ => { f with e := v }
def F5.all (v : Int) : F5 := ⟨v, v, v, v, v⟩
structure Nd where
  id : Int
  term : Int
  vote : Int
  base : Int
  baseTerm : Int
  baseConf : Int
  snap : List UInt8
  log : List En
  commit : Int
  role : Int
  wait : Int
  votes : Int
  next : F5
  mtch : F5
  deriving DecidableEq, Inhabited
def nodeC (n : Nd) (lg : T) : List T := [ei n.id, ei n.term, ei n.vote, ei n.base, ei n.baseTerm, ei n.baseConf, es n.snap, lg, ei n.commit, ei n.role, ei n.wait, ei n.votes,
  ei n.next.a, ei n.next.b, ei n.next.c, ei n.next.d, ei n.next.e, ei n.mtch.a, ei n.mtch.b, ei n.mtch.c, ei n.mtch.d, ei n.mtch.e]
def nd (n : Nd) : T := .agg (nodeC n (eens n.log))
structure Ms where
  kind : Int
  frm : Int
  to : Int
  term : Int
  index : Int
  logTerm : Int
  commit : Int
  conf : Int
  yes : Bool
  entries : List En
  snap : List UInt8
  deriving DecidableEq, Inhabited
def msC (m : Ms) (es' : T) : List T := [ei m.kind, ei m.frm, ei m.to, ei m.term, ei m.index, ei m.logTerm, ei m.commit, ei m.conf, eB m.yes, es', es m.snap]
def ms (m : Ms) : T := .agg (msC m (eens m.entries))
def mss (l : List Ms) : T := .sl false (l.map ms)
-- the last entry with members
def lc (l : List En) : Nat → Option (Nat × Int)
  | 0 => none
  | k + 1 => if (l.getD k default).conf ≠ 0 then some (k, (l.getD k default).conf) else lc l k
def confF (n : Nd) : Int × Int := match lc n.log n.log.length with
  | some (k, c) => (n.base + k + 1, c)
  | none => (n.base, n.baseConf)
def down (l : List En) (k : Nat) : List (Nat × En) := (List.range k).map fun j => (l.length - 1 - j, l.getD (l.length - 1 - j) default)
theorem down_succ (l : List En) (k : Nat) : down l (k + 1) = down l k ++ [(l.length - 1 - k, l.getD (l.length - 1 - k) default)] := by simp [down, List.range_succ]
theorem lc_down (l : List En) : ∀ (m k : Nat), m + k = l.length → (∀ p ∈ down l k, p.2.conf = 0) → lc l l.length = lc l m
  | m, 0, h, _ => by have : m = l.length := by omega
                     rw [this]
  | m, k + 1, h, h0 => by
    have h1 := lc_down l (m + 1) k (by omega) (fun p hp => h0 p (by rw [down_succ]; exact List.mem_append_left _ hp))
    have h2 := h0 _ (by rw [down_succ]; exact List.mem_append_right _ (List.mem_singleton.2 rfl))
    have e : l.length - 1 - k = m := by omega
    rw [e] at h2
    rw [h1, lc, if_neg (by simpa using h2)]
end Go.Proofs.YtjbokbikkcfjjaaGreat
end
