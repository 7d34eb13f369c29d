/-
  code.Reader: a reader's bytes are taken from the front.
  code.Reader's faces: Int, Text.
  keep.read: a text out of its pieces (one at most here).
  keep.text: a text in its pieces (one at most here): slices.Chunk, Collect.
-/
import Derived.Test.YtjbokbikkcfjjaaGreatAap
import Derived.Test.YtjbokbikkcfjjaaGreatAao
section
set_option maxRecDepth 16000
namespace Go.Cap
section
variable {P : Program} {t : Env} {H : Heap} {dst : Option Tmp} {tp : TypeId} {pos : String} {aft : Array Edge} {g : Option (Nat × Bool)} {ty : TypeId} {x l' h' m' : Operand} {dx : T} {f : Bool} {xs : List T} {k k' k2 : IntKind} {i j m : Int} {d : T} {by_ kk : Nat}
theorem rel_front {S : Nat → Prop} {w : World} {p : Option Addr} {n c hi : Nat} (h : Rel S w (.sl f xs) (.slice p n c)) (h2 : hi ≤ xs.length) (hk : ∀ x ∈ xs, x.cells.length = kk) (h0 : 0 < kk) : Rel S w (.sl true (xs.take hi)) (.slice p hi hi) := by
  cases h with
  | nil =>
    have : hi = 0 := by simpa using h2
    subst this
    simp only [List.take_zero]
    exact .nil _ _ _ (fun _ => rfl)
  | sl _ _ b o cap vs k cs ty2 fz hS hb hr hg hf hc =>
    have hvl := hr.length
    have hlen : (vs.take hi).length = hi := by rw [List.length_take]; omega
    have := Rel.sl (S := S) (w := w) true (xs.take hi) b o hi (vs.take hi) k cs ty2 fz hS hb (hr.take hi) ⟨fun v hv => hg.1 v (List.mem_of_mem_take hv), by
      rw [← flat_takeV _ _ hg.1, ← hg.2, List.take_take, hlen]
      congr 1
      have : hi * k ≤ vs.length * k := Nat.mul_le_mul_right _ (by omega)
      omega⟩ (fun _ => hlen.symm) (by omega)
    rwa [hlen] at this
theorem pop_slice_lhm {l h mx : Operand} (hx : t.ev x = dx) (hxl : Le dx (.sl f xs)) (hl : t.ev l = .v (.int k i)) (hh : t.ev h = .v (.int k' j)) (hm : t.ev mx = .v (.int k2 j)) [hz : ElemZC P ty d by_] (h0 : 0 ≤ i) (h1 : i ≤ j) (h2 : j ≤ xs.length) (hk : ∀ x ∈ xs, x.cells.length = d.cells.length) :
    POp P t H ⟨dst, .slice ty x (some l) (some h) (some mx), tp, pos, aft, g⟩ (.sl true ((xs.drop i.toNat).take (j.toNat - i.toNat))) :=
  POp.still fun S w a _ _ hr => by
    have e1 := hr x (by simp [Op.operands]); rw [hx] at e1
    have e2 := hr l (by simp [Op.operands]); rw [hl] at e2
    have e3 := hr h (by simp [Op.operands]); rw [hh] at e3
    have e4 := hr mx (by simp [Op.operands]); rw [hm] at e4
    replace e1 := hxl _ _ _ e1
    obtain ⟨e, inf, hu, hinf, hs, hp⟩ := elem_size (P := P) (ty := ty) (d := d) (by_ := by_)
    obtain ⟨p, c, hsh, hle, _⟩ := slice_shape e1
    rw [hsh] at e1
    have hf := rel_front (hi := j.toNat) e1 (by omega) (by rw [← hs] at hk; exact hk) hp
    have hb1 : (Instr.sliceBounds true xs.length c (some (a.eval l)) (some (a.eval h)) (some (a.eval mx))).run P w = .ok (i.toNat, j.toNat, j.toNat) w := by
      rw [e2.v_eq, e3.v_eq, e4.v_eq]
      simp [Instr.sliceBounds, bound_run (P := P) (show 0 ≤ j by omega) (show j ≤ (c : Nat) by omega), bound_run (P := P) (show 0 ≤ j by omega) (show j ≤ (j.toNat : Nat) by omega), bound_run (P := P) h0 (show i ≤ (j.toNat : Nat) by omega)]
    have hb2 : (Instr.sliceBounds true j.toNat j.toNat (some (a.eval l)) (some (a.eval h)) none).run P w = .ok (i.toNat, j.toNat, j.toNat) w := by
      rw [e2.v_eq, e3.v_eq]
      simp [Instr.sliceBounds, bound_run (P := P) (show 0 ≤ j by omega) (show j ≤ (j.toNat : Nat) by omega), bound_run (P := P) h0 (show i ≤ (j.toNat : Nat) by omega)]
    have hlen : (xs.take j.toNat).length = j.toNat := by rw [List.length_take]; omega
    obtain ⟨v, hv, hrel⟩ := rel_sub (P := P) (ty := ty) (inf := inf) (lo := i.toNat) (hi := j.toNat) (ol := some (a.eval l)) (oh := some (a.eval h)) (om := none) hf (by rw [hs]; exact fun x hx => hk x (List.mem_of_mem_take hx)) hp (by omega) (by omega) hu hinf (by
      rw [hlen]; exact hb2)
    have heq : (Instr.sliceAt ty (.slice p xs.length c) (some (a.eval l)) (some (a.eval h)) (some (a.eval mx))).run P w = (Instr.sliceAt ty (.slice p j.toNat j.toNat) (some (a.eval l)) (some (a.eval h)) none).run P w := by
      simp [Instr.sliceAt, Instr.slice, run_underlying hu, hb1, hb2]
    rw [← heq] at hv
    refine ⟨v, by simp [execOp, hsh, hv], ?_⟩
    have hb : Nat.beq j.toNat (xs.take j.toNat).length = true := by rw [hlen]; exact Nat.beq_refl _
    have e5 : ((xs.take j.toNat).drop i.toNat).take (j.toNat - i.toNat) = (xs.drop i.toNat).take (j.toNat - i.toNat) := by
      rw [List.drop_take, List.take_take, Nat.min_self]
    rw [hb, Bool.and_true, e5] at hrel
    exact hrel
theorem p_s0l [hz : ElemZC P ty d by_] (hx : autoParam (t.ev x = dx) zl._auto_1) (hxl : autoParam (Le dx (.sl false xs)) zL._auto_1) (hl : autoParam (t.ev l' = .v (.int k i)) zl._auto_1) (h0 : autoParam (0 ≤ i) zo._auto_1) (h2 : autoParam (i ≤ xs.length) zo._auto_1) (hk : autoParam (∀ x ∈ xs, x.cells.length = d.cells.length) zk._auto_1) :
    POp P t H ⟨dst, .slice ty x (some l') none none, tp, pos, aft, g⟩ (.sl false (xs.drop i.toNat)) := pop_slice_l hx hxl hl h0 h2 hk
theorem p_s0h [hz : ElemZC P ty d by_] (hx : autoParam (t.ev x = dx) zl._auto_1) (hxl : autoParam (Le dx (.sl false xs)) zL._auto_1) (hl : autoParam (t.ev l' = .v (.int k i)) zl._auto_1) (h0 : autoParam (0 ≤ i) zo._auto_1) (h2 : autoParam (i ≤ xs.length) zo._auto_1) (hk : autoParam (∀ x ∈ xs, x.cells.length = d.cells.length) zk._auto_1) :
    POp P t H ⟨dst, .slice ty x none (some l') none, tp, pos, aft, g⟩ (.sl false (xs.take i.toNat)) := pop_slice_h hx hxl hl h0 h2 hk
end
end Go.Cap
namespace Go.Proofs.YtjbokbikkcfjjaaGreat
open Go.Cap
set_option linter.unusedSimpArgs false
set_option linter.unusedVariables false
attribute [local irreducible] POp SimFrom DrawFrom EOp Sim FnH T.gp
def tR : TypeId := 179
def RdH (b : Nat) (l : List UInt8) : Heap := [(b, ⟨tR, [bl l, ei 0], 2⟩)]
theorem newR_fn (f : Bool) (l : List UInt8) (hl : l.length ≤ 1000000000000) : FnH Tryz.prog 97 [.sl f (l.map eb)] [] (fun r H => ∃ b, r = pW b ∧ H = RdH b l) := by
  have hc := cloneB_fnD f l hl
  refine fn_enter Tryz.func97 (by rfl) (by rfl) ?_
  intro S0 w0
  show Sim _ _ [(0, T.sl f (l.map eb))] _ _
  refine zC ?_
  apply cr
  refine s_ p_as ?_
  refine zC ?_
  apply cr
  refine s_ p_mv ?_
  refine s_ (p_ca (hc)) ?_
  refine s_ (p_bd 2 [_, _]) ?_
  refine e_bx fun b6 _ => ?_
  refine s_ p_as ?_
  refine zC ?_
  refine zR ?_
  exact rh kR ⟨_, rfl, rfl⟩ (Le.refl _)
theorem rtake_fn {b : Nat} {l : List UInt8} (n : Nat) (hn : n ≤ l.length) (hl : l.length ≤ 1000000000000) : FnH Tryz.prog 155 [pW b, ei n] (RdH b l) (fun r H => r = bl (l.take n) ∧ H = RdH b (l.drop n)) := by
  refine fn_enter Tryz.func155 (by rfl) (by rfl) ?_
  intro S0 w0
  show Sim _ _ [(0, pW b), (1, ei n)] _ _
  unfold RdH bl
  refine zC ?_
  apply cr
  refine s_ p_as ?_
  refine zC ?_
  apply cr
  refine s_ p_mv ?_
  refine s_ p_mv ?_
  refine s_ p_nc ?_
  refine s_ p_fr ?_
  refine s_ p_lo ?_
  (first | refine s_ p_ln ?_ | refine s_ p_lr ?_)
  refine s_ p_gt ?_
  refine zC ?_
  refine ci ?_ ?_
  · intro h; exact absurd h (by simp only [List.length_map]; omega)
  intro _
  refine zC ?_
  apply cr
  refine s_ p_mv ?_
  refine s_ p_nc ?_
  refine s_ p_fr ?_
  refine s_ p_lo ?_
  refine s_ p_mv ?_
  refine s_ p_s0h ?_
  refine s_ p_as ?_
  refine zC ?_
  apply cr
  refine s_ p_mv ?_
  refine s_ p_mv ?_
  refine s_ p_nc ?_
  refine s_ p_fr ?_
  refine s_ p_lo ?_
  refine s_ p_mv ?_
  refine s_ p_s0l ?_
  refine s_ p_nc ?_
  refine s_ p_fr ?_
  refine e_st ?_
  refine zC ?_
  apply cr
  refine s_ p_mv ?_
  refine s_ p_as ?_
  refine zC ?_
  refine zR ?_
  refine rh kR ⟨rfl, ?_⟩ ?_
  · simp [RdH, bl]
  · exact Le.of_eq (by simp [packT, bl])
theorem byte_back (u : Nat) : (UInt8.ofNat (u % 128 + 128)).toNat = u % 128 + 128 := by
  have key : ∀ i : Fin 128, (UInt8.ofNat (i.val + 128)).toNat = i.val + 128 := by decide +kernel
  exact key ⟨u % 128, Nat.mod_lt _ (by omega)⟩
theorem byte_back0 {u : Nat} (h : u < 128) : (UInt8.ofNat u).toNat = u := by
  have key : ∀ i : Fin 128, (UInt8.ofNat i.val).toNat = i.val := by decide +kernel
  exact key ⟨u, h⟩
theorem leb_next (k w : Nat) (hk : k = 0 → w < 128) : ∃ c tl, lebF k w = c :: tl ∧ c.toNat % 128 = w % 128 ∧ (c.toNat < 128 ↔ w < 128) ∧ (c.toNat = 0 → w = 0) ∧ (w ≤ 1 → c.toNat ≤ 1) ∧ (w < 128 → tl = []) ∧ (128 ≤ w → tl = lebF (k - 1) (w / 128)) := by
  by_cases hw : w < 128
  · refine ⟨_, _, lebF_small hw, ?_⟩
    have := byte_back0 hw
    exact ⟨by omega, by omega, by omega, by omega, fun _ => rfl, by omega⟩
  · cases k with
    | zero => exact absurd (hk rfl) hw
    | succ k =>
      refine ⟨_, _, lebF_big (by omega), ?_⟩
      have := byte_back w
      exact ⟨by omega, by omega, by omega, by omega, by omega, fun _ => rfl⟩
theorem num_step {U j : Nat} {c : UInt8} (hU : U < 18446744073709551616) (hj : j ≤ 9) (hc : c.toNat % 128 = U / 2 ^ (7 * j) % 128) :
    bOr .u64 ((U % 2 ^ (7 * j) : Nat) : Int) (bShl .u64 (IntKind.u64.wrap ((c.toNat : Int).tmod 128)) (7 * (j : Int))) = ((U % 2 ^ (7 * (j + 1)) : Nat) : Int) := by
  have e1 : (c.toNat : Int).tmod 128 = ((c.toNat % 128 : Nat) : Int) := rfl
  have hp : 2 ^ (7 * (j + 1)) = 2 ^ (7 * j) * 128 := by rw [show 7 * (j + 1) = 7 * j + 7 by omega, Nat.pow_add]
  have hsum : U % 2 ^ (7 * (j + 1)) = U % 2 ^ (7 * j) + 2 ^ (7 * j) * (c.toNat % 128) := by rw [hp, Nat.mod_mul, hc]
  have hlt : U % 2 ^ (7 * j) < 2 ^ (7 * j) := Nat.mod_lt _ (Nat.pow_pos (by omega))
  have hle : U % 2 ^ (7 * (j + 1)) ≤ U := Nat.mod_le _ _
  generalize U % 2 ^ (7 * (j + 1)) = R at *
  generalize U % 2 ^ (7 * j) = A at *
  generalize c.toNat % 128 = x at *
  rw [e1, wrap_u64 (by omega) (by omega)]
  have e2 : bShl .u64 (x : Int) (7 * (j : Int)) = ((2 ^ (7 * j) * x : Nat) : Int) := by
    unfold bShl
    rw [show min (7 * (j : Int)).toNat IntKind.u64.bits = 7 * j by simp only [IntKind.bits]; omega]
    have : (x : Int) * 2 ^ (7 * j) = ((2 ^ (7 * j) * x : Nat) : Int) := by push_cast; rw [Int.mul_comm]
    rw [this, wrap_u64 (by omega) (by omega)]
  rw [e2]
  unfold bOr
  have e3 : (BitVec.ofInt IntKind.u64.bits (A : Int) ||| BitVec.ofInt IntKind.u64.bits ((2 ^ (7 * j) * x : Nat) : Int)).toNat = R := by
    rw [BitVec.toNat_or, BitVec.toNat_ofInt, BitVec.toNat_ofInt]
    show ((A : Int) % 18446744073709551616).toNat ||| (((2 ^ (7 * j) * x : Nat) : Int) % 18446744073709551616).toNat = _
    rw [show ((A : Int) % 18446744073709551616).toNat = A by omega, show (((2 ^ (7 * j) * x : Nat) : Int) % 18446744073709551616).toNat = 2 ^ (7 * j) * x by omega, Nat.or_comm,
      ← Nat.two_pow_add_eq_or_of_lt hlt x]
    omega
  rw [e3]
  exact wrap_u64 (by omega) (by omega)
theorem div_next (U j : Nat) : U / 2 ^ (7 * (j + 1)) = U / 2 ^ (7 * j) / 128 := by
  rw [Nat.div_div_eq_div_mul, show 7 * (j + 1) = 7 * j + 7 by omega, Nat.pow_add]
theorem shr_one (u : Nat) : bShr .u64 (u : Int) 1 = ((u / 2 : Nat) : Int) := by
  unfold bShr
  rw [show min (1 : Int).toNat IntKind.u64.bits = 1 by rfl, show (2 : Int) ^ 1 = 2 by rfl, Int.fdiv_eq_ediv_of_nonneg _ (by omega)]
  omega
theorem wrap_i64 {a : Int} (h0 : -9223372036854775808 ≤ a) (h1 : a ≤ 9223372036854775807) : IntKind.i64.wrap a = a := by
  simp [IntKind.wrap, IntKind.bits, IntKind.signed]
  omega
theorem number_fn {b : Nat} {l rest : List UInt8} (n : Int) (h0 : -9223372036854775808 ≤ n) (h1 : n ≤ 9223372036854775807) (hl : l = intB n ++ rest) (hr : l.length ≤ 1000000000000) : FnH Tryz.prog 131 [pW b] (RdH b l) (fun r H => r = ei n ∧ H = RdH b rest) := by
  subst hl
  have hU := turnF_lt h0 h1
  have hbk := back_turn n
  generalize hUU : turnF n = U at hU hbk
  refine fn_enter Tryz.func131 (by rfl) (by rfl) ?_
  intro S0 w0
  show Sim _ _ [(0, pW b)] (RdH b (intB n ++ rest)) _
  refine zC ?_
  apply cr
  refine s_ p_as ?_
  refine zC ?_
  apply cr
  refine s_ p_as ?_
  refine zC ?_
  apply cr
  refine s_ p_as ?_
  refine zC ?_
  apply sim_loopL (σ := Nat × List UInt8) (ok := fun s => s.1 ≤ 9 ∧ (0 < s.1 → 1 ≤ U / 2 ^ (7 * s.1)) ∧ s.2 = lebF (9 - s.1) (U / 2 ^ (7 * s.1)) ++ rest ∧ s.2.length ≤ 1000000000000) (env := fun s => [(4, ei s.1), (3, .v (.int .u64 (U % 2 ^ (7 * s.1) : Nat))), (0, pW b)]) (heap := fun s => RdH b s.2) (μ := fun s => 10 - s.1) (s0 := (0, intB n ++ rest))
  · refine ⟨Nat.zero_le _, fun h => absurd h (by simp only; omega), ?_, hr⟩
    simp only [intB, hUU]
    simp
  · refine ⟨?_, ?_, eL⟩
    · apply le_get; ((repeat (apply gS; rfl)); exact gZ)
      exact Le.refl _
    · apply le_get; ((repeat (apply gS; rfl)); exact gZ)
      exact Le.of_eq (by simp [Nat.mod_one])
  · exact kR
  rintro ⟨j, l⟩ ⟨hj, hw1, hll, hr⟩
  simp only at hj hw1 hll hr
  subst hll
  show Sim _ _ [(4, ei j), (3, .v (.int .u64 (U % 2 ^ (7 * j) : Nat))), (0, pW b)] (RdH b (lebF (9 - j) (U / 2 ^ (7 * j)) ++ rest)) _
  have hw9 : 9 - j = 0 → U / 2 ^ (7 * j) < 128 := fun h => by
    have : j = 9 := by omega
    subst this
    omega
  obtain ⟨c, tl, hc, c1, c2, c3, c4, c5, c6⟩ := leb_next (9 - j) (U / 2 ^ (7 * j)) hw9
  rw [hc] at hr ⊢
  refine zC ?_
  apply cr
  refine s_ p_mv ?_
  refine e_cHA (rtake_fn (b := b) (l := c :: tl ++ rest) 1 (by simp) hr) (fun r H' ⟨hr1, hr2⟩ => ?_)
  subst hr1 hr2
  show SimFrom _ _ _ _ ((9, bl [c]) :: _) (RdH b (tl ++ rest)) _
  refine s_ (p_ia (d := eb c) (hd := rfl)) ?_
  (first | refine s_ p_ld ?_ | refine s_ p_lo ?_)
  refine s_ p_as ?_
  refine zC ?_
  apply cr
  refine s_ p_mv ?_
  refine s_ p_eq ?_
  refine s_ p_mv ?_
  refine gT (fun hg => p_mv) ?_
  refine gT (fun hg => p_gt (hx := u_ hg)) ?_
  refine s_ p_an ?_
  refine s_ p_mv ?_
  refine gF (fun hg => p_mv) ?_
  refine gF (fun hg => p_gt (hx := u_ hg)) ?_
  refine gF (fun hg => p_mv (hx := u_ hg)) ?_
  refine hT (fun hg => p_mv) ?_
  refine hT (fun hg => p_eq (hx := u_ hg)) ?_
  refine gF (fun hg => p_anN hg) ?_
  refine s_ p_or ?_
  refine zC ?_
  refine ci ?_ ?_
  · intro h
    have hcn : (c.toNat : Int) = 0 → c.toNat = 0 := by omega
    rcases h with ⟨h1, h2⟩ | ⟨h1, h2⟩
    · have hj9 : j = 9 := by omega
      subst hj9
      have := c4 (by omega)
      omega
    · have := c3 (by omega)
      have := hw1 (by omega)
      omega
  intro _
  refine zC ?_
  apply cr
  refine s_ p_mv ?_
  refine s_ p_mv ?_
  refine s_ p_re ?_
  refine s_ p_cv ?_
  refine s_ p_mv ?_
  refine s_ p_mu ?_
  refine s_ p_shl ?_
  refine s_ p_oor ?_
  rw [num_step hU hj c1]
  refine s_ p_as ?_
  refine zC ?_
  apply cr
  refine s_ p_mv ?_
  refine s_ p_lt ?_
  refine zC ?_
  refine ci ?_ ?_
  · intro hlt
    have hlt' : U / 2 ^ (7 * j) < 128 := c2.1 (by omega)
    have hmod : U % 2 ^ (7 * (j + 1)) = U := Nat.mod_eq_of_lt (by
      have := div_next U j
      rw [Nat.div_eq_of_lt hlt'] at this
      exact (Nat.div_eq_zero_iff.1 this).resolve_left (by have : 0 < 2 ^ (7 * (j + 1)) := Nat.pow_pos (by omega); omega))
    rw [hmod, c5 hlt', List.nil_append]
    refine zC ?_
    apply cr
    refine s_ p_mv ?_
    refine s_ p_re ?_
    refine s_ p_eq ?_
    refine zC ?_
    refine ci ?_ ?_
    · intro hodd
      have hodd' : U % 2 = 1 := by
        rw [show (U : Int).tmod 2 = ((U % 2 : Nat) : Int) from rfl] at hodd
        omega
      unfold backF at hbk
      rw [if_pos hodd'] at hbk
      refine zC ?_
      apply cr
      refine s_ p_mv ?_
      refine s_ p_shr ?_
      rw [shr_one]
      refine s_ p_cv ?_
      rw [wrap_i64 (a := ((U / 2 : Nat) : Int)) (by omega) (by omega)]
      refine s_ (pop_neg (a := ((U / 2 : Nat) : Int)) (zl)) ?_
      rw [wrap_i64 (a := 0 - ((U / 2 : Nat) : Int)) (by omega) (by omega)]
      refine s_ p_su ?_
      refine s_ p_as ?_
      refine zC ?_
      refine zR ?_
      refine rh kR ⟨rfl, rfl⟩ ?_
      exact Le.of_eq (by simp only [packT, ei]; congr 2; omega)
    · intro hodd
      have hodd' : ¬ U % 2 = 1 := by
        rw [show (U : Int).tmod 2 = ((U % 2 : Nat) : Int) from rfl] at hodd
        omega
      unfold backF at hbk
      rw [if_neg hodd'] at hbk
      refine zC ?_
      apply cr
      refine s_ p_mv ?_
      refine s_ p_shr ?_
      rw [shr_one]
      refine s_ p_cv ?_
      rw [wrap_i64 (a := ((U / 2 : Nat) : Int)) (by omega) (by omega)]
      refine s_ p_as ?_
      refine zC ?_
      refine zR ?_
      refine rh kR ⟨rfl, rfl⟩ ?_
      exact Le.of_eq (by simp only [packT, ei]; congr 2)
  · intro hge
    have hge' : 128 ≤ U / 2 ^ (7 * j) := by
      have : ¬ U / 2 ^ (7 * j) < 128 := fun h => hge (by have := c2.2 h; omega)
      omega
    have hdn := div_next U j
    rw [c6 hge'] at hc ⊢
    refine zC ?_
    apply cr
    refine s_ p_mv ?_
    refine s_ p_ad ?_
    refine s_ p_as ?_
    refine zC ?_
    refine ⟨(j + 1, lebF (9 - j - 1) (U / 2 ^ (7 * j) / 128) ++ rest), ⟨?_, ?_, ?_, ?_⟩, (by simp only []; omega), ⟨?_, eL⟩, kR⟩
    · simp only; omega
    · simp only; rw [hdn]; omega
    · simp only; rw [hdn, show 9 - (j + 1) = 9 - j - 1 by omega]
    · simp only
      rw [c6 hge', List.cons_append, List.length_cons] at hr
      omega
    · apply le_get; ((repeat (apply gS; rfl)); exact gZ)
      exact Le.refl _
end Go.Proofs.YtjbokbikkcfjjaaGreat
end
section
set_option maxRecDepth 16000
namespace Go.Proofs.YtjbokbikkcfjjaaGreat
open Go.Cap
set_option linter.unusedSimpArgs false
set_option linter.unusedVariables false
attribute [local irreducible] POp SimFrom DrawFrom EOp Sim FnH T.gp
attribute [local irreducible] SimD SimFromD
theorem intR_fn {b : Nat} {l rest : List UInt8} (n : Int) (h0 : -9223372036854775808 ≤ n) (h1 : n ≤ 9223372036854775807) (hl : l = intB n ++ rest) (hr : l.length ≤ 1000000000000) : FnH Tryz.prog 98 [pW b] (RdH b l) (fun r H => r = ei n ∧ H = RdH b rest) := by
  have hn := number_fn (b := b) n h0 h1 hl hr
  refine fn_enterD Tryz.func98 (by rfl) (by rfl) ?_
  intro S0 w0 hw0
  show SimD _ _ _ [(0, pW b)] (RdH b l) _
  refine simD_seq ?_
  refine zC ?_
  apply cr
  refine e_b1 fun b1 _ => ?_
  refine s_ p_as ?_
  refine zC ?_
  refine ⟨rfl, ?_⟩
  refine simD_region ?_
  refine d_s p_mf ?_
  refine d_defer [.pointer (some ⟨b1, 0, none⟩)] ?_ rfl rfl (zl)
  refine simD_end hw0 ?_
  unfold RdH
  refine zC ?_
  apply cr
  refine s_ p_lo ?_
  refine s_ p_mf ?_
  refine s_ p_as ?_
  refine zC ?_
  apply cr
  refine s_ p_lo ?_
  refine s_ p_nc ?_
  refine s_ p_fr ?_
  refine s_ p_lo ?_
  refine s_ p_eq ?_
  refine zC ?_
  refine ci ?_ ?_
  · intro _
    refine zC ?_
    apply cr
    refine s_ p_mv ?_
    refine e_vH (fs := [pW b]) (args := []) (cs := []) hn (Hr := [_]) (List.Perm.swap _ _ _) (fun r H' ⟨hr1, hr2⟩ => ?_)
    subst hr1 hr2
    refine from_perm (List.Perm.swap _ _ _) ?_
    refine s_ p_as ?_
    refine zC ?_
    apply cr
    refine s_ p_mv ?_
    refine s_ p_as ?_
    refine zC ?_
    refine zC ?_
    apply sim_ret
    refine ⟨_, int1_fn (i := 0) rfl rfl, ?_⟩
    rintro H1 rfl
    exact ⟨_, _, _, zrs, Le.refl _, ⟨rfl, rfl⟩, (HeapFront.skip _ _ _ kR).le⟩
  · intro h; exact absurd rfl h
theorem textR_fn {b : Nat} {l s rest : List UInt8} (hs : s.length ≤ 65535) (hl : l = intB s.length ++ s ++ rest) (hr : l.length ≤ 1000000000000) : FnH Tryz.prog 132 [pW b] (RdH b l) (fun r H => r = bl s ∧ H = RdH b rest) := by
  have hn := number_fn (b := b) (l := l) (rest := s ++ rest) (s.length : Nat) (by omega) (by omega) (by rw [hl, List.append_assoc]) hr
  have hlen : (s ++ rest).length ≤ 1000000000000 := by rw [hl] at hr; simp only [List.length_append] at hr ⊢; omega
  have ht := rtake_fn (b := b) (l := s ++ rest) s.length (by simp) hlen
  rw [List.take_left' rfl, List.drop_left' rfl] at ht
  have hc := cloneB_fnD false s (by omega)
  refine fn_enterD Tryz.func132 (by rfl) (by rfl) ?_
  intro S0 w0 hw0
  show SimD _ _ _ [(0, pW b)] (RdH b l) _
  refine simD_seq ?_
  refine zC ?_
  apply cr
  refine e_b1 fun b1 _ => ?_
  refine s_ p_as ?_
  refine zC ?_
  refine ⟨rfl, ?_⟩
  refine simD_region ?_
  refine d_s p_mf ?_
  refine d_defer [.pointer (some ⟨b1, 0, none⟩)] ?_ rfl rfl (zl)
  refine simD_end hw0 ?_
  unfold RdH
  refine zC ?_
  apply cr
  refine s_ p_lo ?_
  refine s_ p_nc ?_
  refine s_ p_fr ?_
  refine s_ p_lo ?_
  refine s_ p_ne ?_
  refine zC ?_
  refine ci ?_ ?_
  · intro h; exact absurd rfl h
  intro _
  refine zC ?_
  apply cr
  refine s_ p_lo ?_
  refine e_cH (Hr := [_]) hn (List.Perm.swap _ _ _) (fun r H' ⟨hr1, hr2⟩ => ?_)
  subst hr1 hr2
  refine from_perm (List.Perm.swap _ _ _) ?_
  refine s_ p_as ?_
  refine zC ?_
  apply cr
  refine s_ p_mv ?_
  refine s_ p_lt ?_
  refine s_ p_mv ?_
  refine gF (fun hg => p_mv) ?_
  refine gF (fun hg => p_gt (hx := u_ hg)) ?_
  refine s_ p_or ?_
  refine zC ?_
  refine ci ?_ ?_
  · intro h; exact absurd h (by omega)
  intro _
  refine zC ?_
  apply cr
  refine s_ p_lo ?_
  refine s_ p_mv ?_
  refine e_cH (Hr := [_]) ht (List.Perm.swap _ _ _) (fun r H' ⟨hr1, hr2⟩ => ?_)
  subst hr1 hr2
  refine from_perm (List.Perm.swap _ _ _) ?_
  refine s_ (p_ca (hc)) ?_
  refine s_ p_as ?_
  refine zC ?_
  refine zC ?_
  apply sim_ret
  refine ⟨_, text1_fn (i := 0) rfl rfl, ?_⟩
  rintro H1 rfl
  exact ⟨_, _, _, zrs, Le.refl _, ⟨rfl, rfl⟩, (HeapFront.skip _ _ _ kR).le⟩
end Go.Proofs.YtjbokbikkcfjjaaGreat
end
section
set_option maxRecDepth 16000
namespace Go.Proofs.YtjbokbikkcfjjaaGreat
open Go.Cap
set_option linter.unusedSimpArgs false
set_option linter.unusedVariables false
attribute [local irreducible] POp SimFrom DrawFrom EOp Sim FnH T.gp
def txtB (s : List UInt8) : List UInt8 := if s = [] then intB 0 else intB 1 ++ (intB s.length ++ s)
theorem txtB_len (s : List UInt8) : (txtB s).length ≤ 20 + s.length := by
  have h0 := intB_len 0
  have h1 := intB_len 1
  have h2 := intB_len s.length
  unfold txtB
  split
  · omega
  · simp only [List.length_append]; omega
theorem read_fn {b : Nat} {l s rest : List UInt8} (hs : s.length ≤ 60000) (hl : l = txtB s ++ rest) (hr : l.length ≤ 1000000000) : FnH Tryz.prog 99 [pW b] (RdH b l) (fun r H => r = es s ∧ H = RdH b rest) := by
  refine fn_enter Tryz.func99 (by rfl) (by rfl) ?_
  intro S0 w0
  show Sim _ _ [(0, pW b)] (RdH b l) _
  by_cases hs0 : s = []
  · subst hs0
    have hi := intR_fn (b := b) (l := l) (rest := rest) 0 (by omega) (by omega) (by rw [hl, txtB, if_pos rfl]) (by omega)
    refine zC ?_
    apply cr
    refine s_ p_as ?_
    refine zC ?_
    apply cr
    refine s_ p_as ?_
    refine zC ?_
    apply cr
    refine s_ p_mv ?_
    refine e_cHA hi (fun r H' ⟨hr1, hr2⟩ => ?_)
    subst hr1 hr2
    refine s_ p_mv ?_
    refine zC ?_
    apply sim_loopL (σ := Unit) (ok := fun _ => True) (env := fun _ => [(6, ei 0), (5, ei 0), (3, .sl true (([] : List UInt8).map eb))]) (heap := fun _ => RdH b rest) (μ := fun _ => 0) (s0 := ())
    · trivial
    · refine ⟨?_, ?_, ?_, trivial⟩
      · apply le_get; ((repeat (apply gS; rfl)); exact gZ)
        exact Le.refl _
      · apply le_get; ((repeat (apply gS; rfl)); exact gZ)
        exact Le.refl _
      · apply le_get; ((repeat (apply gS; rfl)); exact gZ)
        exact Le.slice0 _ _
    · exact kR
    rintro ⟨⟩ _
    refine zC ?_
    apply cr
    refine s_ p_lt ?_
    refine zC ?_
    refine ci ?_ ?_
    · intro h; exact absurd h (by omega)
    intro _
    refine zC ?_
    apply cr
    refine s_ p_mv ?_
    refine s_ (p_st (l := [])) ?_
    refine s_ p_as ?_
    refine zC ?_
    refine zR ?_
    exact rh kR ⟨rfl, rfl⟩ (Le.refl _)
  · have hl1 : l = intB 1 ++ (intB s.length ++ s ++ rest) := by rw [hl, txtB, if_neg hs0]; simp
    have hi := intR_fn (b := b) (l := l) (rest := intB s.length ++ s ++ rest) 1 (by omega) (by omega) hl1 (by omega)
    have ht := textR_fn (b := b) (l := intB s.length ++ s ++ rest) (s := s) (rest := rest) (by omega) rfl (by rw [hl1, List.length_append] at hr; omega)
    refine zC ?_
    apply cr
    refine s_ p_as ?_
    refine zC ?_
    apply cr
    refine s_ p_as ?_
    refine zC ?_
    apply cr
    refine s_ p_mv ?_
    refine e_cHA hi (fun r H' ⟨hr1, hr2⟩ => ?_)
    subst hr1 hr2
    refine s_ p_mv ?_
    refine zC ?_
    apply sim_loopL (σ := Bool) (ok := fun _ => True) (env := fun k => [(6, ei (cond k 1 0)), (3, cond k (bl s) (.sl true (([] : List UInt8).map eb))), (5, ei 1), (0, pW b)]) (heap := fun k => RdH b (cond k rest (intB s.length ++ s ++ rest))) (μ := fun k => cond k 0 1) (s0 := false)
    · trivial
    · refine ⟨?_, ?_, eL⟩
      · apply le_get; ((repeat (apply gS; rfl)); exact gZ)
        exact Le.refl _
      · apply le_get; ((repeat (apply gS; rfl)); exact gZ)
        exact Le.slice0 _ _
    · exact kR
    rintro k _
    cases k with
    | false =>
      show Sim _ _ [(6, ei 0), (3, .sl true (([] : List UInt8).map eb)), (5, ei 1), (0, pW b)] (RdH b (intB s.length ++ s ++ rest)) _
      refine zC ?_
      apply cr
      refine s_ p_lt ?_
      refine zC ?_
      refine ci ?_ ?_
      · intro _
        refine zC ?_
        apply cr
        refine s_ p_mv ?_
        refine s_ p_mv ?_
        refine e_cHA ht (fun r H' ⟨hr1, hr2⟩ => ?_)
        subst hr1 hr2
        refine s_ (p_ap (xs := []) (ys := s.map eb) (f := false)) ?_
        refine s_ p_as ?_
        refine zC ?_
        apply cr
        refine s_ p_ad ?_
        refine s_ p_mv ?_
        refine zC ?_
        refine ⟨true, trivial, (by decide), ⟨?_, ?_, eL⟩, kR⟩
        · apply le_get; ((repeat (apply gS; rfl)); exact gZ)
          exact Le.refl _
        · apply le_get; ((repeat (apply gS; rfl)); exact gZ)
          exact Le.refl _
      · intro h; exact absurd h (by omega)
    | true =>
      show Sim _ _ [(6, ei 1), (3, bl s), (5, ei 1), (0, pW b)] (RdH b rest) _
      refine zC ?_
      apply cr
      refine s_ p_lt ?_
      refine zC ?_
      refine ci ?_ ?_
      · intro h; exact absurd h (by omega)
      intro _
      refine zC ?_
      apply cr
      refine s_ p_mv ?_
      refine s_ p_st ?_
      refine s_ p_as ?_
      refine zC ?_
      refine zR ?_
      exact rh kR ⟨rfl, rfl⟩ (Le.refl _)
end Go.Proofs.YtjbokbikkcfjjaaGreat
end
section
set_option maxRecDepth 16000
namespace Go.Cap
section
variable {P : Program} {t : Env} {H : Heap} {dst : Option Tmp} {tp : TypeId} {pos : String} {aft : Array Edge} {g : Option (Nat × Bool)} {ty : TypeId} {x l' h' m' : Operand} {dx : T} {f : Bool} {xs ys : List T} {k k' k2 : IntKind} {i j m : Int} {d : T} {by_ kk : Nat}
theorem p_s0mE (he : (xs.drop i.toNat).take (j.toNat - i.toNat) = ys) [hz : ElemZC P ty d by_] (hx : autoParam (t.ev x = dx) zl._auto_1) (hxl : autoParam (Le dx (.sl f xs)) zL._auto_1) (hl : autoParam (t.ev l' = .v (.int k i)) zl._auto_1) (hh : autoParam (t.ev h' = .v (.int k' j)) zl._auto_1) (hm : autoParam (t.ev m' = .v (.int k2 j)) zl._auto_1) (h0 : autoParam (0 ≤ i) zo._auto_1) (h1 : autoParam (i ≤ j) zo._auto_1) (h2 : autoParam (j ≤ xs.length) zo._auto_1) (hk : autoParam (∀ x ∈ xs, x.cells.length = d.cells.length) zk._auto_1) :
    POp P t H ⟨dst, .slice ty x (some l') (some h') (some m'), tp, pos, aft, g⟩ (.sl true ys) := he ▸ pop_slice_lhm hx hxl hl hh hm h0 h1 h2 hk
theorem p_s0lE (he : xs.drop i.toNat = ys) [hz : ElemZC P ty d by_] (hx : autoParam (t.ev x = dx) zl._auto_1) (hxl : autoParam (Le dx (.sl false xs)) zL._auto_1) (hl : autoParam (t.ev l' = .v (.int k i)) zl._auto_1) (h0 : autoParam (0 ≤ i) zo._auto_1) (h2 : autoParam (i ≤ xs.length) zo._auto_1) (hk : autoParam (∀ x ∈ xs, x.cells.length = d.cells.length) zk._auto_1) :
    POp P t H ⟨dst, .slice ty x (some l') none none, tp, pos, aft, g⟩ (.sl false ys) := he ▸ pop_slice_l hx hxl hl h0 h2 hk
theorem p_s0hE (he : xs.take i.toNat = ys) [hz : ElemZC P ty d by_] (hx : autoParam (t.ev x = dx) zl._auto_1) (hxl : autoParam (Le dx (.sl false xs)) zL._auto_1) (hl : autoParam (t.ev l' = .v (.int k i)) zl._auto_1) (h0 : autoParam (0 ≤ i) zo._auto_1) (h2 : autoParam (i ≤ xs.length) zo._auto_1) (hk : autoParam (∀ x ∈ xs, x.cells.length = d.cells.length) zk._auto_1) :
    POp P t H ⟨dst, .slice ty x none (some l') none, tp, pos, aft, g⟩ (.sl false ys) := he ▸ pop_slice_h hx hxl hl h0 h2 hk
theorem p_s0bE (he : (xs.drop i.toNat).take (j.toNat - i.toNat) = ys) [hz : ElemZC P ty d by_] (hx : autoParam (t.ev x = dx) zl._auto_1) (hxl : autoParam (Le dx (.sl false xs)) zL._auto_1) (hl : autoParam (t.ev l' = .v (.int k i)) zl._auto_1) (hh : autoParam (t.ev h' = .v (.int k' j)) zl._auto_1) (h0 : autoParam (0 ≤ i) zo._auto_1) (h1 : autoParam (i ≤ j) zo._auto_1) (h2 : autoParam (j ≤ xs.length) zo._auto_1) (hk : autoParam (∀ x ∈ xs, x.cells.length = d.cells.length) zk._auto_1) :
    POp P t H ⟨dst, .slice ty x (some l') (some h') none, tp, pos, aft, g⟩ (.sl false ys) := he ▸ pop_slice_lh hx hxl hl hh h0 h1 h2 hk
end
end Go.Cap
namespace Go.Proofs.YtjbokbikkcfjjaaGreat
open Go.Cap
set_option linter.unusedSimpArgs false
set_option linter.unusedVariables false
attribute [local irreducible] POp SimFrom DrawFrom EOp Sim FnH T.gp
def bt (l : List UInt8) : T := .sl true (l.map eb)
def pcs (s : List UInt8) : List (List UInt8) := if s = [] then [] else [s]
theorem chunk_it (s : List UInt8) (hs : s.length ≤ 60000) : ItC Tryz.prog 177 [.adr (.sl false (s.map eb)), .adr (ei 60000)] (fun p : List UInt8 => [bt p]) (fun xs => xs = pcs s) (fun pre => s ≠ [] ∧ pre = [s]) := by
  refine it_enter Tryz.func177 (by rfl) (by rfl) (by rfl) ?_
  intro c l' r I Ix Hx S w hlen _ _ hK h0 hY
  show Sim _ _ [(Tryz.f177.ntmps, .v undef), (0, .v (.func (.yield l') #[] #[])), (1, .adr (.sl false (s.map eb))), (2, .adr (ei 60000))] _ _
  refine zC ?_
  apply cr
  refine s_ p_as ?_
  refine zC ?_
  apply sim_loopL (σ := Bool × Heap) (ok := fun st => (st.1 = true → s ≠ []) ∧ I (cond st.1 [s] []) st.2) (env := fun st => [(4, ei (cond st.1 60000 0)), (Tryz.f177.ntmps, .v undef), (0, .v (.func (.yield l') #[] #[])), (1, .adr (.sl false (s.map eb))), (2, .adr (ei 60000))])
    (heap := fun st => st.2) (μ := fun st => cond st.1 0 1) (s0 := (false, Hx))
  · exact ⟨by simp, h0⟩
  · exact eL
  · exact kR
  rintro ⟨k, H⟩ ⟨hk, hI⟩
  simp only at hk hI
  cases k with
  | false =>
    show Sim _ _ [(4, ei 0), (Tryz.f177.ntmps, .v undef), (0, .v (.func (.yield l') #[] #[])), (1, .adr (.sl false (s.map eb))), (2, .adr (ei 60000))] H _
    refine zC ?_
    apply cr
    refine s_ p_mv ?_
    refine s_ p_ld ?_
    (first | refine s_ p_ln ?_ | refine s_ p_lr ?_)
    refine s_ p_lt ?_
    refine zC ?_
    refine ci ?_ ?_
    · intro hlt
      have hne : s ≠ [] := by rintro rfl; simp at hlt
      have hyc := hY [] s H hI ⟨hne, rfl⟩
      refine zC ?_
      refine ca [0, 1, 2, 3, 4, 5, 6] [] ?_
      refine a_ (fun _ => p_ld) ?_
      refine a_ (fun _ => p_ld) ?_
      refine a_ (fun _ => p_mv) ?_
      refine a_ (fun _ => p_s0l) ?_
      (first | refine a_ (fun _ => p_ln) ?_ | refine a_ (fun _ => p_lr) ?_)
      refine a_ (fun _ => p_mi) ?_
      refine a_ (fun _ => p_as) ?_
      apply an
      refine zC ?_
      have e1 : 0 + min (60000 : Int) ((((s.map eb).drop (0 : Int).toNat).length : Nat) : Int) = ((s.length : Nat) : Int) := by simp; omega
      refine zC ?_
      apply cr
      refine s_ p_mv ?_
      refine s_ p_ld ?_
      refine s_ p_mv ?_
      refine s_ p_mv ?_
      refine s_ p_mv ?_
      refine s_ p_ad ?_
      refine s_ p_mv ?_
      refine s_ p_mv ?_
      refine s_ p_ad ?_
      rw [e1]
      refine s_ (p_s0mE (xs := s.map eb) (ys := s.map eb) (i := 0) (j := ((s.length : Nat) : Int)) (by simp [List.take_of_length_le])) ?_
      refine e_yi (Hr := []) hyc (by simp) (hlen _) hK (fun H' hI' => ?_) (fun H' hI' => ?_)
      · simp only [if_true] at hI'
        refine s_ p_no ?_
        refine zC ?_
        refine ci ?_ ?_
        · intro h; exact absurd trivial h
        intro _
        refine zC ?_
        apply cr
        refine s_ p_mv ?_
        refine s_ p_ld ?_
        refine s_ p_ad ?_
        refine s_ p_as ?_
        refine zC ?_
        refine ⟨(true, H'), ⟨fun _ => hne, hI'⟩, (by show 0 < 1; omega), ⟨?_, eL⟩, by rw [List.append_nil]; exact kR⟩
        apply le_get; ((repeat (apply gS; rfl)); exact gZ)
        exact Le.refl _
      · simp only [Bool.false_eq_true, if_false] at hI'
        refine s_ p_no ?_
        refine zC ?_
        refine ci ?_ ?_
        · intro _
          refine zC ?_
          apply sim_ret
          simp only [blockΨ_ret, thenΨ_ret, loopL_ret]
          rw [List.append_nil]
          exact it_stop ⟨hne, rfl⟩ hI'
        · intro h; exact absurd (fun h => h) h
    · intro hge
      have hs0 : s = [] := by
        have : s.length = 0 := by simp only [List.length_map] at hge; omega
        exact List.length_eq_zero_iff.1 this
      refine zC ?_
      exact it_doneN (xs := []) (by rw [pcs, if_pos hs0]) hI
  | true =>
    show Sim _ _ [(4, ei 60000), (Tryz.f177.ntmps, .v undef), (0, .v (.func (.yield l') #[] #[])), (1, .adr (.sl false (s.map eb))), (2, .adr (ei 60000))] H _
    refine zC ?_
    apply cr
    refine s_ p_mv ?_
    refine s_ p_ld ?_
    (first | refine s_ p_ln ?_ | refine s_ p_lr ?_)
    refine s_ p_lt ?_
    refine zC ?_
    refine ci ?_ ?_
    · intro h; exact absurd h (by simp only [List.length_map]; omega)
    intro _
    refine zC ?_
    exact it_doneN (xs := [s]) (by rw [pcs, if_neg (hk rfl)]) hI
theorem chunk_fn (s : List UInt8) : FnP Tryz.prog 172 [.sl false (s.map eb), ei 60000] (fun r => r = .clo 177 [] [.adr (.sl false (s.map eb)), .adr (ei 60000)]) := by
  refine fn_enter Tryz.func172 (by rfl) (by rfl) ?_
  intro S0 w0
  show Sim _ _ [(0, T.sl false (s.map eb)), (1, ei 60000)] _ _
  refine zC ?_
  apply cr
  refine e_b1 fun b2 _ => ?_
  refine e_b1 fun b3 _ => ?_
  refine s_ p_as ?_
  refine zC ?_
  apply cr
  refine s_ p_lo ?_
  refine s_ p_lt ?_
  refine zC ?_
  refine ci ?_ ?_
  · intro h; exact absurd h (by omega)
  intro _
  refine zC ?_
  apply cr
  refine s_ p_mf ?_
  refine s_ p_as ?_
  refine zC ?_
  refine sim_lend (G := [_, _]) (H1 := []) [(4, .clo 177 [] [.adr (.sl false (s.map eb)), .adr (ei 60000)])] (by simp; rfl) ⟨?_, trivial⟩ ?_
  · refine (show Env.get _ _ = _ from gZ) ▸ Lends.clo LendsL.nil (LendsL.cons (Lends.ptr (List.mem_cons_of_mem _ List.mem_cons_self) (.inl rfl) ?_ (by simp [T.cells]) (by simp [T.cells])) (LendsL.cons (Lends.ptr List.mem_cons_self (.inl rfl) ?_ (by simp [T.cells, ei, Value.cells]) (by simp [T.cells, ei, Value.cells])) LendsL.nil))
    · exact LendsL.le (LeL.refl _)
    · exact LendsL.le (LeL.refl _)
  · refine zE ?_
    exact Le.refl _
def tBB : TypeId := 34
def OBB (l : List (List UInt8)) (v : Value) (Hs : Heap) : Prop := OSl tBB 1 (l.map bt) v Hs
theorem bt1 (l : List (List UInt8)) : ∀ x ∈ l.map bt, x.cells.length = 1 := zk
theorem bt_ok (l : List (List UInt8)) : ∀ x ∈ l.map bt, x.solid := solid_map _ (fun _ => .inl rfl) _
theorem OBB.len {l : List (List UInt8)} {v : Value} {Hs : Heap} (h : OBB l v Hs) : ∃ p c, v = .slice p (l.map bt).length c := OSl.len h
theorem appSeq_fn (s : List UInt8) (hs : s.length ≤ 60000) : FnH Tryz.prog 176 [.v (.slice none 0 0), .clo 177 [] [.adr (.sl false (s.map eb)), .adr (ei 60000)]] [] (fun r H => ∃ v, r = .v v ∧ OBB (pcs s) v H) := by
  refine fn_enter Tryz.func176 (by rfl) (by rfl) ?_
  intro S0 w0
  show Sim _ _ [(0, T.v (.slice none 0 0)), (1, T.clo 177 [] [.adr (.sl false (s.map eb)), .adr (ei 60000)])] _ _
  refine zC ?_
  apply cr
  refine e_b1 fun b2 _ => ?_
  refine s_ p_as ?_
  refine zC ?_
  apply cr
  refine s_ p_mv ?_
  refine zC ?_
  refine sim_range (chunk_it s hs) (by ((repeat (apply eS; rfl)); exact eZ)) (by rfl) rfl (fun (pre : List (List UInt8)) (H : Heap) => pre.length ≤ 1 ∧ ∃ v Hs, OBB pre v Hs ∧ H = (b2, ⟨117, [.v v], 1⟩) :: (Hs ++ []))
    (fun _ _ => False) .ret .ret (.inl ⟨rfl, rfl⟩) (fun _ => rfl) (by rfl) ⟨by simp, _, [], osl_nil, rfl⟩ ?_ ?_ ?_
  · rintro pre x H1 ⟨hpl, v, Hs, ho, rfl⟩ ⟨hne, hsp⟩ l' S1 w1
    have hpl2 : pre.length = 0 := by have := congrArg List.length hsp; simp at this; simp [this]
    obtain ⟨p, c, rfl⟩ := ho.len
    simp only [putPs]
    refine zC ?_
    apply cr
    refine s_ p_as ?_
    refine zC ?_
    refine ⟨rfl, fun S2 w2 mk => ?_⟩
    refine zC ?_
    apply cr
    refine s_ p_lo ?_
    refine s_ p_mv ?_
    refine s_ p_bs ?_
    refine e_os (ho := ho) (A := [_]) (B := []) (ys := [bt x]) (f := true) (bt1 _) (fun v' Hs' ho' => ?_)
    obtain ⟨p', c', rfl⟩ := ho'.len
    refine e_st ?_
    refine zC ?_
    refine ⟨_, kR, .inl ⟨rfl, by rw [List.length_append]; simp only [List.length_singleton]; omega, _, Hs', by unfold OBB; rw [List.map_append]; exact ho', rfl⟩⟩
  · rintro xs H' rfl ⟨hpl, v, Hs, ho, rfl⟩
    obtain ⟨p, c, rfl⟩ := ho.len
    refine zC ?_
    refine zC ?_
    apply cr
    refine s_ p_lo ?_
    refine s_ p_as ?_
    refine zC ?_
    refine zR ?_
    refine rh (.skip _ _ _ kR) ⟨_, rfl, by rw [List.append_nil]; exact ho⟩ (Le.refl _)
  · rintro pre H' _ h
    exact h.elim
theorem collect_fn (s : List UInt8) (hs : s.length ≤ 60000) : FnP Tryz.prog 171 [.clo 177 [] [.adr (.sl false (s.map eb)), .adr (ei 60000)]] (fun r => r = .sl false ((pcs s).map bt)) := by
  refine FnH.give (Φ := fun r H => ∃ v, r = .v v ∧ OBB (pcs s) v H) ?_ (by rintro r H ⟨v, rfl, ho⟩; exact OSl.lend ho (fun _ h => h) (bt1 _) (bt_ok _))
  refine fn_enter Tryz.func171 (by rfl) (by rfl) ?_
  intro S0 w0
  show Sim _ _ [(0, T.clo 177 [] [.adr (.sl false (s.map eb)), .adr (ei 60000)])] _ _
  refine zC ?_
  apply cr
  refine s_ p_as ?_
  refine zC ?_
  apply cr
  refine s_ p_mv ?_
  refine e_cHA (appSeq_fn s hs) (fun r H' ⟨v, hr, ho⟩ => ?_)
  subst hr
  refine s_ p_as ?_
  refine zC ?_
  refine zR ?_
  exact rh kR ⟨_, rfl, ho⟩ (Le.refl _)
theorem text_fn (f : Bool) (b s : List UInt8) (hs : s.length ≤ 60000) (hb : b.length ≤ 1000000000) : FnP Tryz.prog 165 [.sl f (b.map eb), es s] (fun r => r = bl (b ++ txtB s)) := by
  have hc := chunk_fn s
  have hcl := collect_fn s hs
  have hi := int_fn f b ((pcs s).length : Nat) (by unfold pcs; split <;> simp) (by unfold pcs; split <;> simp) (by omega)
  refine fn_enter Tryz.func165 (by rfl) (by rfl) ?_
  intro S0 w0
  show Sim _ _ [(0, T.sl f (b.map eb)), (1, es s)] _ _
  refine zC ?_
  apply cr
  refine s_ p_as ?_
  refine zC ?_
  apply cr
  refine s_ p_mv ?_
  refine s_ p_by ?_
  refine s_ (p_ca (hc)) ?_
  refine s_ (p_ca (hcl)) ?_
  refine s_ p_as ?_
  refine zC ?_
  refine zC ?_
  apply cr
  refine s_ p_mv ?_
  refine s_ p_mv ?_
  (first | refine s_ p_ln ?_ | refine s_ p_lr ?_)
  rw [List.length_map]
  refine s_ (p_ca (hi)) ?_
  refine s_ p_as ?_
  refine zC ?_
  apply cr
  refine s_ p_mv ?_
  (first | refine s_ p_ln ?_ | refine s_ p_lr ?_)
  refine s_ p_mv ?_
  refine zC ?_
  by_cases hs0 : s = []
  · subst hs0
    apply sim_loopL (σ := Unit) (ok := fun _ => True) (env := fun _ => [(18, ei 0), (17, ei 0), (0, bl (b ++ intB 0))]) (heap := fun _ => []) (μ := fun _ => 0) (s0 := ())
    · trivial
    · exact eL
    · exact kR
    rintro ⟨⟩ _
    refine zC ?_
    apply cr
    refine s_ p_lt ?_
    refine zC ?_
    refine ci ?_ ?_
    · intro h; exact absurd h (by omega)
    intro _
    refine zC ?_
    apply cr
    refine s_ p_mv ?_
    refine s_ p_as ?_
    refine zC ?_
    refine zE ?_
    rw [txtB, if_pos rfl]
    exact Le.refl _
  · have hi1 := intB_len 1
    have ht := codeText_fn false true (b ++ intB 1) s (by simp only [List.length_append]; omega) (by omega)
    have hp : pcs s = [s] := if_neg hs0
    rw [hp]
    apply sim_loopL (σ := Bool) (ok := fun _ => True) (env := fun k => [(18, ei (cond k 1 0)), (0, bl (b ++ intB 1 ++ cond k (intB s.length ++ s) [])), (17, ei 1), (16, .sl false [bt s])]) (heap := fun _ => []) (μ := fun k => cond k 0 1) (s0 := false)
    · trivial
    · refine ⟨?_, ?_, eL⟩
      · apply le_get; ((repeat (apply gS; rfl)); exact gZ)
        exact Le.refl _
      · apply le_get; ((repeat (apply gS; rfl)); exact gZ)
        exact Le.of_eq (by simp)
    · exact kR
    rintro k _
    cases k with
    | false =>
      show Sim _ _ [(18, ei 0), (0, bl (b ++ intB 1 ++ [])), (17, ei 1), (16, .sl false [bt s])] _ _
      rw [List.append_nil]
      refine zC ?_
      apply cr
      refine s_ p_lt ?_
      refine zC ?_
      refine ci ?_ ?_
      · intro _
        refine zC ?_
        apply cr
        (first | refine s_ (p_ix hix) ?_ | refine s_ (p_ix hix2) ?_ | refine s_ p_ia ?_ | refine s_ p_ir ?_)
        (first | refine s_ p_ld ?_ | refine s_ p_lo ?_)
        refine s_ p_as ?_
        refine zC ?_
        apply cr
        refine s_ p_mv ?_
        refine s_ p_mv ?_
        refine s_ (p_ca (ht)) ?_
        refine s_ p_as ?_
        refine zC ?_
        apply cr
        refine s_ p_ad ?_
        refine s_ p_mv ?_
        refine zC ?_
        refine ⟨true, trivial, (by show 0 < 1; omega), ⟨?_, ?_, eL⟩, kR⟩
        · apply le_get; ((repeat (apply gS; rfl)); exact gZ)
          exact Le.refl _
        · apply le_get; ((repeat (apply gS; rfl)); exact gZ)
          exact Le.of_eq (by simp)
      · intro h; exact absurd h (by omega)
    | true =>
      show Sim _ _ [(18, ei 1), (0, bl (b ++ intB 1 ++ (intB s.length ++ s))), (17, ei 1), (16, .sl false [bt s])] _ _
      refine zC ?_
      apply cr
      refine s_ p_lt ?_
      refine zC ?_
      refine ci ?_ ?_
      · intro h; exact absurd h (by omega)
      intro _
      refine zC ?_
      apply cr
      refine s_ p_mv ?_
      refine s_ p_as ?_
      refine zC ?_
      refine zE ?_
      rw [txtB, if_neg hs0]
      exact Le.of_eq (by simp [packT])
end Go.Proofs.YtjbokbikkcfjjaaGreat
end
