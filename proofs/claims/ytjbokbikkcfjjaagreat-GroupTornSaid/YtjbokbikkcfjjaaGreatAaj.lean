/-
  Values of plain types (numbers, bits, strings; structs and arrays of such), told from each other: cell by cell.
-/
import Derived.Test.YtjbokbikkcfjjaaGreatAai
import Derived.ChangeKeysEq
set_option maxRecDepth 16000
set_option maxHeartbeats 8000000
set_option linter.all false
namespace Go.Cap
inductive CK where
 | int (k : IntKind)
 | bool
 | str
 deriving DecidableEq
def CK.fits : CK → Value → Bool
 | .int k, .int k' _ => decide (k = k')
 | .bool, .bool _ => true
 | .str, .string _ => true
 | _, _ => false
def Xm : List CK → List Value → Bool
 | [], [] => true
 | k :: ks, v :: vs => k.fits v && Xm ks vs
 | _, _ => false
def Wp (fl : TypeId → Option (List CK)) (sz : TypeId → Option Nat) : List Field → Nat → Option (List CK)
 | [], _ => some []
 | f :: fs, o => match fl f.type, sz f.type, f.name != "_" && Nat.beq f.offset o with
  | some ks, some n, true => bif Nat.beq n ks.length then (Wp fl sz fs (o + n)).map (ks ++ ·) else none
  | _, _, _ => none
def Ya (P : Program) : Nat → TypeId → Option (List CK)
 | 0, _ => none
 | m + 1, t => match P.underlying t with
  | some .bool => some [.bool]
  | some (.int k) => some [.int k]
  | some .string => some [.str]
  | some (.array n e) => match Ya P m e, (P.info? e).map (·.size) with
   | some ks, some s => bif Nat.beq s ks.length then some (List.replicate n ks).flatten else none
   | _, _ => none
  | some (.struct fs) => bif P.stoodInHeld t then none else Wp (Ya P m) (fun e => (P.info? e).map (·.size)) fs.toList 0
  | _ => none
theorem Z7 : ∀ {ks : List CK} {vs : List Value}, Xm ks vs = true → vs.length = ks.length
 | [], [], _ => rfl
 | _ :: ks, _ :: vs, h => by simp only [Xm, Bool.and_eq_true] at h; simp [Z7 h.2]
 | [], _ :: _, h => by cases h
 | _ :: _, [], h => by cases h
theorem JJ : ∀ {ks ks' : List CK} {vs : List Value}, Xm (ks ++ ks') vs = true → Xm ks (vs.take ks.length) = true ∧ Xm ks' (vs.drop ks.length) = true
 | [], ks', vs, h => by simpa [Xm] using h
 | k :: ks, ks', [], h => by cases h
 | k :: ks, ks', v :: vs, h => by
  simp only [List.cons_append, Xm, Bool.and_eq_true] at h
  have := JJ h.2
  simp [Xm, h.1, this.1, this.2]
def Shp (P : Program) (t : TypeId) (v : Value) (as : List Value) : Prop := (QC P t = true ∧ as = [v]) ∨ ((∃ n, X3 P t = some n) ∧ v = .agg as.toArray)
theorem O2 {P : Program} {m : Nat} {t : TypeId} {ks : List CK} (h : Ya P m t = some ks) : (QC P t = true ∧ ks.length = 1) ∨ X3 P t = (P.info? t).map (·.size) := by
 cases m with
 | zero => cases h
 | succ m =>
  unfold Ya at h
  split at h <;> rename_i hu
  ·simp only [Option.some.injEq] at h; subst h; exact .inl ⟨by simp [QC, hu], rfl⟩
  ·simp only [Option.some.injEq] at h; subst h; exact .inl ⟨by simp [QC, hu], rfl⟩
  ·simp only [Option.some.injEq] at h; subst h; exact .inl ⟨by simp [QC, hu], rfl⟩
  ·exact .inr (by simp [X3, hu])
  ·exact .inr (by simp [X3, hu])
  ·cases h
section
variable {P : Program} {w : World}
theorem YP {m : Nat} {e : TypeId} {ks : List CK} {xs : Array Value} {off n : Nat} (h : Ya P m e = some ks) (hs : (P.info? e).map (·.size) = some n) (hn : n = ks.length) (hf : Xm ks ((xs.toList.drop off).take n) = true) :
  ∃ a, (part e xs off).run P w = .ok a w ∧ Shp P e a ((xs.toList.drop off).take n) := by
 have hl := Z7 hf
 rcases O2 h with ⟨h1, h2⟩ | h1
 ·have hn1 : n = 1 := by omega
  subst hn1
  cases hd : xs.toList.drop off with
  | nil => rw [hd] at hl; simp at hl; omega
  | cons v r =>
   have hv : xs[off]? = some v := by
    have : (xs.toList.drop off)[0]? = some v := by rw [hd]; rfl
    simpa using this
   exact ⟨v, X6 xs off v h1 hv, .inl ⟨h1, by simp⟩⟩
 ·rw [hs] at h1
  obtain ⟨hag, j, hj, hj'⟩ := ME h1
  refine ⟨.agg (xs.extract off (off + n)), ?_, .inr ⟨⟨n, h1⟩, ?_⟩⟩
  ·simp [part, hag w, Qy hj, hj']
  ·congr 1
   apply Array.ext'
   simp [List.extract]
def E1 (P : Program) (dd : Nat) (t : TypeId) (ks : List CK) : Prop := ∀ (w : World) (x y : Value) (as bs : List Value), Shp P t x as → Shp P t y bs → Xm ks as = true → Xm ks bs = true →
 ∃ r : Bool, (Op.equalIn dd t x y).run P w = .ok r w ∧ (r = true ↔ as = bs)
theorem V7 {as bs : List Value} {n : Nat} : as = bs ↔ as.take n = bs.take n ∧ as.drop n = bs.drop n :=
 ⟨fun h => by rw [h]; exact ⟨rfl, rfl⟩, fun ⟨h1, h2⟩ => by rw [← List.take_append_drop n as, ← List.take_append_drop n bs, h1, h2]⟩
theorem RX {m d : Nat} (ih : ∀ t ks, Ya P m t = some ks → E1 P d t ks) (xs ys : Array Value) : ∀ (fs : List Field) (o : Nat) (ks : List CK), Wp (Ya P m) (fun e => (P.info? e).map (·.size)) fs o = some ks →
  Xm ks (xs.toList.drop o) = true → Xm ks (ys.toList.drop o) = true → ∃ r : Bool, (Op.eqFields d xs ys fs).run P w = .ok r w ∧ (r = true ↔ xs.toList.drop o = ys.toList.drop o)
 | [], o, ks, h, hx, hy => by
  simp only [Wp, Option.some.injEq] at h
  subst h
  have h1 := Z7 hx
  have h2 := Z7 hy
  rw [List.length_nil] at h1 h2
  rw [List.length_eq_zero_iff] at h1 h2
  exact ⟨true, by simp [Op.eqFields], by rw [h1, h2]; simp⟩
 | f :: fs, o, ks, h, hx, hy => by
  unfold Wp at h
  split at h
  ·rename_i k1 n hk1 hn hc
   cases hb : Nat.beq n k1.length with
   | false => rw [hb] at h; cases h
   | true =>
    rw [hb] at h
    simp only [cond_true, Option.map_eq_some_iff] at h
    obtain ⟨k2, hk2, rfl⟩ := h
    have hnl := Nat.eq_of_beq_eq_true hb
    simp only [Bool.and_eq_true] at hc
    have hoff := Nat.eq_of_beq_eq_true hc.2
    have hne : ¬ f.name = "_" := by simpa using hc.1
    have ⟨x1, x2⟩ := JJ hx
    have ⟨y1, y2⟩ := JJ hy
    rw [← hnl] at x1 x2 y1 y2
    rw [List.drop_drop] at x2 y2
    obtain ⟨a, pa, sa⟩ := YP (w := w) hk1 hn hnl x1
    obtain ⟨b, pb, sb⟩ := YP (w := w) hk1 hn hnl y1
    obtain ⟨r, hr, hiff⟩ := ih _ _ hk1 w a b _ _ sa sb x1 y1
    obtain ⟨r', hr', hiff'⟩ := RX ih xs ys fs (o + n) k2 hk2 x2 y2
    rw [hoff.symm] at hiff pa pb sa sb hiff' ⊢
    cases r with
    | false =>
     refine ⟨false, by simp [Op.eqFields, hne, pa, pb, hr], by simp; intro e; have := hiff.2 (by rw [e]); simp at this⟩
    | true =>
     refine ⟨r', by simp [Op.eqFields, hne, pa, pb, hr, hr'], ?_⟩
     rw [hiff', V7 (n := n) (as := xs.toList.drop f.offset), List.drop_drop, List.drop_drop]
     exact ⟨fun h => ⟨hiff.1 rfl, h⟩, fun h => h.2⟩
  ·cases h
theorem W8 {m d : Nat} {e : TypeId} {ks : List CK} {n : Nat} (hk : Ya P m e = some ks) (hn : (P.info? e).map (·.size) = some n) (hnl : n = ks.length) (ih : E1 P d e ks) (xs ys : Array Value) : ∀ (k i : Nat),
  Xm (List.replicate k ks).flatten (xs.toList.drop (i * n)) = true → Xm (List.replicate k ks).flatten (ys.toList.drop (i * n)) = true → ∃ r : Bool, (Op.eqItems d e n xs ys (List.range' i k)).run P w = .ok r w ∧ (r = true ↔ xs.toList.drop (i * n) = ys.toList.drop (i * n))
 | 0, i, hx, hy => by
  have h1 := Z7 hx
  have h2 := Z7 hy
  simp only [List.replicate_zero, List.flatten_nil, List.length_nil] at h1 h2
  rw [List.length_eq_zero_iff] at h1 h2
  exact ⟨true, by simp [Op.eqItems], by rw [h1, h2]; simp⟩
 | k + 1, i, hx, hy => by
  rw [List.replicate_succ, List.flatten_cons] at hx hy
  have ⟨x1, x2⟩ := JJ hx
  have ⟨y1, y2⟩ := JJ hy
  rw [← hnl] at x1 x2 y1 y2
  rw [List.drop_drop, ← Nat.succ_mul] at x2 y2
  obtain ⟨a, pa, sa⟩ := YP (w := w) hk hn hnl x1
  obtain ⟨b, pb, sb⟩ := YP (w := w) hk hn hnl y1
  obtain ⟨r, hr, hiff⟩ := ih w a b _ _ sa sb x1 y1
  obtain ⟨r', hr', hiff'⟩ := W8 hk hn hnl ih xs ys k (i + 1) x2 y2
  rw [List.range'_succ]
  cases r with
  | false =>
   refine ⟨false, by simp [Op.eqItems, pa, pb, hr], by simp; intro e; have := hiff.2 (by rw [e]); simp at this⟩
  | true =>
   refine ⟨r', by simp [Op.eqItems, pa, pb, hr, hr'], ?_⟩
   rw [hiff', V7 (n := n) (as := xs.toList.drop (i * n)), List.drop_drop, List.drop_drop, ← Nat.succ_mul]
   exact ⟨fun h => ⟨hiff.1 rfl, h⟩, fun h => h.2⟩
theorem VR (d : Nat) : ∀ (m : Nat) (t : TypeId) (ks : List CK), Ya P m t = some ks → E1 P (d + m) t ks
 | 0, t, ks, h => by cases h
 | m + 1, t, ks, h => by
  intro w x y as bs sx sy fx fy
  have hleaf : QC P t = true → (∃ v, x = v ∧ as = [v]) ∧ ∃ v, y = v ∧ bs = [v] := by
   intro hl
   refine ⟨sx.elim (fun h => ⟨x, rfl, h.2⟩) fun h => ?_, sy.elim (fun h => ⟨y, rfl, h.2⟩) fun h => ?_⟩
   ·obtain ⟨⟨n, h⟩, _⟩ := h
    exact absurd hl (by unfold X3 at h; unfold QC; split at h <;> simp_all)
   ·obtain ⟨⟨n, h⟩, _⟩ := h
    exact absurd hl (by unfold X3 at h; unfold QC; split at h <;> simp_all)
  have hagg : QC P t = false → x = .agg as.toArray ∧ y = .agg bs.toArray := by
   intro hl
   exact ⟨sx.elim (fun h => by rw [h.1] at hl; cases hl) (·.2), sy.elim (fun h => by rw [h.1] at hl; cases hl) (·.2)⟩
  unfold Ya at h
  split at h <;> rename_i hu
  ·simp only [Option.some.injEq] at h; subst h
   obtain ⟨⟨x, rfl, rfl⟩, ⟨y, rfl, rfl⟩⟩ := hleaf (by simp [QC, hu])
   cases x <;> simp [Xm, CK.fits] at fx
   cases y <;> simp [Xm, CK.fits] at fy
   rename_i a b
   exact ⟨a == b, run_equalIn_bool w (d + m) t a b hu, by simp⟩
  ·rename_i k
   simp only [Option.some.injEq] at h; subst h
   obtain ⟨⟨x, rfl, rfl⟩, ⟨y, rfl, rfl⟩⟩ := hleaf (by simp [QC, hu])
   cases x <;> simp [Xm, CK.fits] at fx
   cases y <;> simp [Xm, CK.fits] at fy
   subst fx
   subst fy
   rename_i a b
   exact ⟨a == b, run_equalIn_int w (d + m) t _ _ a b hu, by simp⟩
  ·simp only [Option.some.injEq] at h; subst h
   obtain ⟨⟨x, rfl, rfl⟩, ⟨y, rfl, rfl⟩⟩ := hleaf (by simp [QC, hu])
   cases x <;> simp [Xm, CK.fits] at fx
   cases y <;> simp [Xm, CK.fits] at fy
   rename_i a b
   refine ⟨a.toList == b.toList, run_equalIn_string w (d + m) t a b hu, ?_⟩
   have ha : a = bs a.data.toList := by cases a; simp [bs]
   have hb : b = bs b.data.toList := by cases b; simp [bs]
   rw [ha, hb, Yn, Yn]
   constructor
   ·intro h; rw [eq_of_beq h]
   ·intro h
    simp only [List.cons.injEq, Value.string.injEq, and_true] at h
    rw [Cq h]; exact beq_self_eq_true _
  ·rename_i n e
   split at h
   ·rename_i ks' s hk hs
    cases hb : Nat.beq s ks'.length with
    | false => rw [hb] at h; cases h
    | true =>
     rw [hb] at h
     simp only [cond_true, Option.some.injEq] at h
     subst h
     obtain ⟨rfl, rfl⟩ := hagg (by simp [QC, hu])
     obtain ⟨i, hi, his⟩ : ∃ i, P.info? e = some i ∧ i.size = s := by
      cases hi : P.info? e with
      | none => rw [hi] at hs; cases hs
      | some i => rw [hi] at hs; simp at hs; exact ⟨i, rfl, hs⟩
     have hce : P.cellsOf e = s := by simp [Program.cellsOf, hi, his]
     obtain ⟨r, h1, h2⟩ := W8 (w := w) hk hs (Nat.eq_of_beq_eq_true hb) (VR d m e ks' hk) as.toArray bs.toArray n 0 (by simpa using fx) (by simpa using fy)
     refine ⟨r, ?_, by simpa using h2⟩
     show (Op.equalIn (d + m + 1) t _ _).run P w = _
     rw [run_equalIn_array w (d + m) _ _ hu hi, hce, List.range_eq_range']
     exact h1
   ·cases h
  ·rename_i fs
   cases hh : P.stoodInHeld t with
   | true => rw [hh] at h; cases h
   | false =>
    rw [hh] at h
    simp only [cond_false] at h
    obtain ⟨rfl, rfl⟩ := hagg (by simp [QC, hu])
    have hfo : P.fieldsOf t = fs := by simp [Program.fieldsOf, hu]
    obtain ⟨r, h1, h2⟩ := RX (w := w) (fun t ks => VR d m t ks) as.toArray bs.toArray fs.toList 0 ks h (by simpa using fx) (by simpa using fy)
    refine ⟨r, ?_, by simpa using h2⟩
    show (Op.equalIn (d + m + 1) t _ _).run P w = _
    rw [run_equalIn_struct w (d + m) t _ _ (by rw [hfo]; exact hu) hh, hfo]
    exact h1
  ·cases h
end
section
variable {P : Program} {t : Env} {H : Qc} {dst : Option Tmp} {tp : TypeId} {pos : String} {aft : Array Edge} {g : Option (Nat × Bool)} {ty ty' : TypeId} {x y : Operand} {as bs' : List Value} {S : Nat → Prop} {w : World}
theorem JE {m n : Nat} {ks : List CK} (hf : Ya P m ty = some ks) (hm : Nat.ble m 10000 = true) (ha : X3 P ty = some n) (fa : Xm ks as = true) (fb : Xm ks bs' = true) :
  (Op.equal ty (.agg as.toArray) (.agg bs'.toArray)).run P w = .ok (@decide (as = bs') (Classical.propDecidable _)) w := by
 have hm' := Nat.le_of_ble_eq_true hm
 obtain ⟨d, hd⟩ : ∃ d, 10000 = d + m := ⟨10000 - m, by omega⟩
 obtain ⟨r, h1, h2⟩ := VR d m ty ks hf w (.agg as.toArray) (.agg bs'.toArray) as bs' (.inr ⟨⟨n, ha⟩, rfl⟩) (.inr ⟨⟨n, ha⟩, rfl⟩) fa fb
 have e : (Op.equal ty (.agg as.toArray) (.agg bs'.toArray)).run P w = .ok r w := by
  show (Op.equalIn 10000 ty _ _).run P w = _
  rw [hd]; exact h1
 rw [e]
 congr 1
 by_cases hp : as = bs' <;> simp [hp] at h2 ⊢ <;> exact h2
theorem M7 {xs ys : List T} {m n : Nat} {ks : List CK} (hf : Ya P m ty = some ks) (hm : Nat.ble m 10000 = true) (ha : X3 P ty = some n) (hg : P.eqGuardType P.depth ty = false) (hx' : t.ev x = .agg xs) (hy' : t.ev y = .agg ys) (hxs : ZT xs as) (hys : ZT ys bs') (fa : Xm ks as = true) (fb : Xm ks bs' = true) :
  POp P t H ⟨dst, .binOp .eql ty x y ty', tp, pos, aft, g⟩ (.v (.bool (@decide (as = bs') (Classical.propDecidable _)))) :=
 POp.still fun S w a _ _ hr => by
  have h1 := hr x (by simp [Op.operands]); rw [hx', hxs.eq] at h1
  have h2 := hr y (by simp [Op.operands]); rw [hy', hys.eq] at h2
  obtain ⟨us, e1, h1⟩ := h1.agg_inv
  obtain ⟨vs, e2, h2⟩ := h2.agg_inv
  rw [Z5 h1] at e1
  rw [Z5 h2] at e2
  refine ⟨_, ?_, .v _⟩
  simp only [execOp, e1, e2]
  simp [eqGuard, binOp, JE (w := w) hf hm ha fa fb, hg]
theorem M2 {xs ys : List T} {m n : Nat} {ks : List CK} (hf : Ya P m ty = some ks) (hm : Nat.ble m 10000 = true) (ha : X3 P ty = some n) (hg : P.eqGuardType P.depth ty = false) (hx' : t.ev x = .agg xs) (hy' : t.ev y = .agg ys) (hxs : ZT xs as) (hys : ZT ys bs') (fa : Xm ks as = true) (fb : Xm ks bs' = true) :
  POp P t H ⟨dst, .binOp .neq ty x y ty', tp, pos, aft, g⟩ (.v (.bool (@decide (¬ as = bs') (Classical.propDecidable _)))) :=
 POp.still fun S w a _ _ hr => by
  have h1 := hr x (by simp [Op.operands]); rw [hx', hxs.eq] at h1
  have h2 := hr y (by simp [Op.operands]); rw [hy', hys.eq] at h2
  obtain ⟨us, e1, h1⟩ := h1.agg_inv
  obtain ⟨vs, e2, h2⟩ := h2.agg_inv
  rw [Z5 h1] at e1
  rw [Z5 h2] at e2
  refine ⟨_, ?_, .v _⟩
  simp only [execOp, e1, e2]
  simp [eqGuard, binOp, JE (w := w) hf hm ha fa fb, hg]
theorem B8 {xs ys : List T} {n : Nat} (m : Nat) (ks : List CK) (hg : P.eqGuardType P.depth ty = false) (hx : t.ev x = .agg xs := by exact zl) (hy : t.ev y = .agg ys := by exact zl) (hxs : ZT xs as := by (repeat (first | exact ZT.nil | apply ZT.cons))) (hys : ZT ys bs' := by (repeat (first | exact ZT.nil | apply ZT.cons)))
  (hf : Ya P m ty = some ks := by kernel_rfl) (hm : Nat.ble m 10000 = true := by rfl) (ha : X3 P ty = some n := by rfl) (fa : Xm ks as = true := by rfl) (fb : Xm ks bs' = true := by rfl) :
  POp P t H ⟨dst, .binOp .eql ty x y ty', tp, pos, aft, g⟩ (.v (.bool (@decide (as = bs') (Classical.propDecidable _)))) := M7 hf hm ha hg hx hy hxs hys fa fb
theorem Tc {xs ys : List T} {n : Nat} (m : Nat) (ks : List CK) (hg : P.eqGuardType P.depth ty = false) (hx : t.ev x = .agg xs := by exact zl) (hy : t.ev y = .agg ys := by exact zl) (hxs : ZT xs as := by (repeat (first | exact ZT.nil | apply ZT.cons))) (hys : ZT ys bs' := by (repeat (first | exact ZT.nil | apply ZT.cons)))
  (hf : Ya P m ty = some ks := by kernel_rfl) (hm : Nat.ble m 10000 = true := by rfl) (ha : X3 P ty = some n := by rfl) (fa : Xm ks as = true := by rfl) (fb : Xm ks bs' = true := by rfl) :
  POp P t H ⟨dst, .binOp .neq ty x y ty', tp, pos, aft, g⟩ (.v (.bool (@decide (¬ as = bs') (Classical.propDecidable _)))) := M2 hf hm ha hg hx hy hxs hys fa fb
end
end Go.Cap
