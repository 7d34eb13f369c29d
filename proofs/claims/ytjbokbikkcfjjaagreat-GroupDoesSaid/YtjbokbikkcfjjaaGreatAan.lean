/-
  code.Reader: a reader's bytes are taken from the front.
-/
import Derived.Test.YtjbokbikkcfjjaaGreatAam
set_option maxRecDepth 16000
set_option maxHeartbeats 8000000
set_option linter.all false
namespace Go.Cap
section
variable {P : Program} {t : Env} {H : Qc} {dst : Option Tmp} {tp : TypeId} {pos : String} {aft : Array Edge} {g : Option (Nat × Bool)} {ty : TypeId} {x l' h' m' : Operand} {dx : T} {f : Bool} {xs : List T} {k k' k2 : IntKind} {i j m : Int} {d : T} {by_ kk : Nat}
theorem E7 {S : Nat → Prop} {w : World} {p : Option Addr} {n c hi : Nat} (h : Rel S w (.sl f xs) (.slice p n c)) (h2 : hi ≤ xs.length) (hk : ∀ x ∈ xs, x.cells.length = kk) (h0 : 0 < kk) : Rel S w (.sl true (xs.take hi)) (.slice p hi hi) := by
 cases h with
 | nil =>
  have : hi = 0 := by simpa using h2
  subst this
  simp only [List.take_zero]
  exact .nil _ _ _ (fun _ => rfl)
 | sl _ _ b o cap vs k cs ty2 fz hS hb hr hg hf hc =>
  have hvl := hr.length
  have hlen : (vs.take hi).length = hi := by rw [List.length_take]; omega
  have := Rel.sl (S := S) (w := w) true (xs.take hi) b o hi (vs.take hi) k cs ty2 fz hS hb (hr.take hi) ⟨fun v hv => hg.1 v (List.mem_of_mem_take hv), by
   rw [← Z5 _ _ hg.1, ← hg.2, List.take_take, hlen]
   congr 1
   have : hi * k ≤ vs.length * k := Nat.mul_le_mul_right _ (by omega)
   omega⟩ (fun _ => hlen.symm) (by omega)
  rwa [hlen] at this
theorem Wb {l h mx : Operand} (hx : t.ev x = dx) (hxl : Le dx (.sl f xs)) (hl : t.ev l = .v (.int k i)) (hh : t.ev h = .v (.int k' j)) (hm : t.ev mx = .v (.int k2 j)) [hz : QD P ty d by_] (h0 : 0 ≤ i) (h1 : i ≤ j) (h2 : j ≤ xs.length) (hk : ∀ x ∈ xs, x.cells.length = d.cells.length) :
  POp P t H ⟨dst, .slice ty x (some l) (some h) (some mx), tp, pos, aft, g⟩ (.sl true ((xs.drop i.toNat).take (j.toNat - i.toNat))) :=
 POp.still fun S w a _ _ hr => by
  have e1 := hr x (by simp [Op.operands]); rw [hx] at e1
  have e2 := hr l (by simp [Op.operands]); rw [hl] at e2
  have e3 := hr h (by simp [Op.operands]); rw [hh] at e3
  have e4 := hr mx (by simp [Op.operands]); rw [hm] at e4
  replace e1 := hxl _ _ _ e1
  obtain ⟨e, inf, hu, hinf, hs, hp⟩ := Yp (P := P) (ty := ty) (d := d) (by_ := by_)
  obtain ⟨p, c, hsh, hle, _⟩ := Xq e1
  rw [hsh] at e1
  have hf := E7 (hi := j.toNat) e1 (by omega) (by rw [← hs] at hk; exact hk) hp
  have hb1 : (Instr.sliceBounds true xs.length c (some (a.eval l)) (some (a.eval h)) (some (a.eval mx))).run P w = .ok (i.toNat, j.toNat, j.toNat) w := by
   rw [e2.v_eq, e3.v_eq, e4.v_eq]
   simp [Instr.sliceBounds, Xh (P := P) (show 0 ≤ j by omega) (show j ≤ (c : Nat) by omega), Xh (P := P) (show 0 ≤ j by omega) (show j ≤ (j.toNat : Nat) by omega), Xh (P := P) h0 (show i ≤ (j.toNat : Nat) by omega)]
  have hb2 : (Instr.sliceBounds true j.toNat j.toNat (some (a.eval l)) (some (a.eval h)) none).run P w = .ok (i.toNat, j.toNat, j.toNat) w := by
   rw [e2.v_eq, e3.v_eq]
   simp [Instr.sliceBounds, Xh (P := P) (show 0 ≤ j by omega) (show j ≤ (j.toNat : Nat) by omega), Xh (P := P) h0 (show i ≤ (j.toNat : Nat) by omega)]
  have hlen : (xs.take j.toNat).length = j.toNat := by rw [List.length_take]; omega
  obtain ⟨v, hv, hrel⟩ := J7 (P := P) (ty := ty) (inf := inf) (lo := i.toNat) (hi := j.toNat) (ol := some (a.eval l)) (oh := some (a.eval h)) (om := none) hf (by rw [hs]; exact fun x hx => hk x (List.mem_of_mem_take hx)) hp (by omega) (by omega) hu hinf (by
   rw [hlen]; exact hb2)
  have heq : (Instr.sliceAt ty (.slice p xs.length c) (some (a.eval l)) (some (a.eval h)) (some (a.eval mx))).run P w = (Instr.sliceAt ty (.slice p j.toNat j.toNat) (some (a.eval l)) (some (a.eval h)) none).run P w := by
   simp [Instr.sliceAt, Instr.slice, run_underlying hu, hb1, hb2]
  rw [← heq] at hv
  refine ⟨v, by simp [execOp, hsh, hv], ?_⟩
  have hb : Nat.beq j.toNat (xs.take j.toNat).length = true := by rw [hlen]; exact Nat.beq_refl _
  have e5 : ((xs.take j.toNat).drop i.toNat).take (j.toNat - i.toNat) = (xs.drop i.toNat).take (j.toNat - i.toNat) := by
   rw [List.drop_take, List.take_take, Nat.min_self]
  rw [hb, Bool.and_true, e5] at hrel
  exact hrel
theorem CH [hz : QD P ty d by_] (hx : t.ev x = dx := by exact zl) (hxl : Le dx (.sl false xs) := by exact zL) (hl : t.ev l' = .v (.int k i) := by exact zl) (h0 : 0 ≤ i := by exact zo) (h2 : i ≤ xs.length := by exact zo) (hk : ∀ x ∈ xs, x.cells.length = d.cells.length := by exact zk) :
  POp P t H ⟨dst, .slice ty x (some l') none none, tp, pos, aft, g⟩ (.sl false (xs.drop i.toNat)) := UQ hx hxl hl h0 h2 hk
theorem CI [hz : QD P ty d by_] (hx : t.ev x = dx := by exact zl) (hxl : Le dx (.sl false xs) := by exact zL) (hl : t.ev l' = .v (.int k i) := by exact zl) (h0 : 0 ≤ i := by exact zo) (h2 : i ≤ xs.length := by exact zo) (hk : ∀ x ∈ xs, x.cells.length = d.cells.length := by exact zk) :
  POp P t H ⟨dst, .slice ty x none (some l') none, tp, pos, aft, g⟩ (.sl false (xs.take i.toNat)) := UR hx hxl hl h0 h2 hk
end
end Go.Cap
namespace Go.Proofs.YtjbokbikkcfjjaaGreat
open Go.Cap
attribute [local irreducible] POp Qe AD EOp Sim FnH T.gp
def tR : TypeId := 179
def RdH (b : Nat) (l : List UInt8) : Qc := [(b, ⟨tR, [bl l, ei 0], 2⟩)]
theorem I0 (f : Bool) (l : List UInt8) (hl : l.length ≤ 1000000000000) : FnH Tryz.prog 97 [.sl f (l.map eb)] [] (fun r H => ∃ b, r = pW b ∧ H = RdH b l) := by
 have hc := Zg f l hl
 refine fe Tryz.func97 fun S0 w0 => ?_
 show Sim _ _ [(0, T.sl f (l.map eb))] _ _
 refine zC ?_
 refine cr <| s_ Qb <| zC ?_
 refine cr <| s_ Qa <| s_ (QK (hc)) <| s_ (Zv 2 [_, _]) ?_
 refine XN fun b6 _ => ?_
 refine s_ Qb <| zC ?_
 refine zR ?_
 exact rh kR ⟨_, rfl, rfl⟩ (Le.refl _)
theorem L6 {b : Nat} {l : List UInt8} (n : Nat) (hn : n ≤ l.length) (hl : l.length ≤ 1000000000000) : FnH Tryz.prog 155 [pW b, ei n] (RdH b l) (fun r H => r = bl (l.take n) ∧ H = RdH b (l.drop n)) := by
 refine fe Tryz.func155 fun S0 w0 => ?_
 show Sim _ _ [(0, pW b), (1, ei n)] _ _
 unfold RdH bl
 refine zC ?_
 refine cr <| s_ Qb <| zC ?_
 refine cr <| s_ Qa <| s_ Qa <| s_ Qf <| s_ Qd <| s_ Ql ?_
 (first | refine s_ QP ?_ | refine s_ QO ?_)
 refine s_ X0 <| zC ?_
 refine ci ?_ ?_
 ·intro h; exact absurd h (by simp only [List.length_map]; omega)
 intro _
 refine zC ?_
 refine cr <| s_ Qa <| s_ Qf <| s_ Qd <| s_ Ql <| s_ Qa <| s_ CI <| s_ Qb <| zC ?_
 refine cr <| s_ Qa <| s_ Qa <| s_ Qf <| s_ Qd <| s_ Ql <| s_ Qa <| s_ CH <| s_ Qf <| s_ Qd <| Qw ?_
 refine zC ?_
 refine cr <| s_ Qa <| s_ Qb <| zC ?_
 refine zR ?_
 refine rh kR ⟨rfl, ?_⟩ ?_
 ·simp [RdH, bl]
 ·exact Le.of_eq (by simp [XJ, bl])
theorem Oa (u : Nat) : (UInt8.ofNat (u % 128 + 128)).toNat = u % 128 + 128 := by
 have key : ∀ i : Fin 128, (UInt8.ofNat (i.val + 128)).toNat = i.val + 128 := by decide +kernel
 exact key ⟨u % 128, Nat.mod_lt _ (by omega)⟩
theorem DP {u : Nat} (h : u < 128) : (UInt8.ofNat u).toNat = u := by
 have key : ∀ i : Fin 128, (UInt8.ofNat i.val).toNat = i.val := by decide +kernel
 exact key ⟨u, h⟩
theorem Rg (k w : Nat) (hk : k = 0 → w < 128) : ∃ c tl, JC k w = c :: tl ∧ c.toNat % 128 = w % 128 ∧ (c.toNat < 128 ↔ w < 128) ∧ (c.toNat = 0 → w = 0) ∧ (w ≤ 1 → c.toNat ≤ 1) ∧ (w < 128 → tl = []) ∧ (128 ≤ w → tl = JC (k - 1) (w / 128)) := by
 by_cases hw : w < 128
 ·refine ⟨_, _, VB hw, ?_⟩
  have := DP hw
  exact ⟨by omega, by omega, by omega, by omega, fun _ => rfl, by omega⟩
 ·cases k with
  | zero => exact absurd (hk rfl) hw
  | succ k =>
   refine ⟨_, _, Mq (by omega), ?_⟩
   have := Oa w
   exact ⟨by omega, by omega, by omega, by omega, by omega, fun _ => rfl⟩
theorem O7 {U j : Nat} {c : UInt8} (hU : U < 18446744073709551616) (hj : j ≤ 9) (hc : c.toNat % 128 = U / 2 ^ (7 * j) % 128) :
  bOr .u64 ((U % 2 ^ (7 * j) : Nat) : Int) (Zh .u64 (IntKind.u64.wrap ((c.toNat : Int).tmod 128)) (7 * (j : Int))) = ((U % 2 ^ (7 * (j + 1)) : Nat) : Int) := by
 have e1 : (c.toNat : Int).tmod 128 = ((c.toNat % 128 : Nat) : Int) := rfl
 have hp : 2 ^ (7 * (j + 1)) = 2 ^ (7 * j) * 128 := by rw [show 7 * (j + 1) = 7 * j + 7 by omega, Nat.pow_add]
 have hsum : U % 2 ^ (7 * (j + 1)) = U % 2 ^ (7 * j) + 2 ^ (7 * j) * (c.toNat % 128) := by rw [hp, Nat.mod_mul, hc]
 have hlt : U % 2 ^ (7 * j) < 2 ^ (7 * j) := Nat.mod_lt _ (Nat.pow_pos (by omega))
 have hle : U % 2 ^ (7 * (j + 1)) ≤ U := Nat.mod_le _ _
 generalize U % 2 ^ (7 * (j + 1)) = R at *
 generalize U % 2 ^ (7 * j) = A at *
 generalize c.toNat % 128 = x at *
 rw [e1, Y3 (by omega) (by omega)]
 have e2 : Zh .u64 (x : Int) (7 * (j : Int)) = ((2 ^ (7 * j) * x : Nat) : Int) := by
  unfold Zh
  rw [show min (7 * (j : Int)).toNat IntKind.u64.bits = 7 * j by simp only [IntKind.bits]; omega]
  have : (x : Int) * 2 ^ (7 * j) = ((2 ^ (7 * j) * x : Nat) : Int) := by push_cast; rw [Int.mul_comm]
  rw [this, Y3 (by omega) (by omega)]
 rw [e2]
 unfold bOr
 have e3 : (BitVec.ofInt IntKind.u64.bits (A : Int) ||| BitVec.ofInt IntKind.u64.bits ((2 ^ (7 * j) * x : Nat) : Int)).toNat = R := by
  rw [BitVec.toNat_or, BitVec.toNat_ofInt, BitVec.toNat_ofInt]
  show ((A : Int) % 18446744073709551616).toNat ||| (((2 ^ (7 * j) * x : Nat) : Int) % 18446744073709551616).toNat = _
  rw [show ((A : Int) % 18446744073709551616).toNat = A by omega, show (((2 ^ (7 * j) * x : Nat) : Int) % 18446744073709551616).toNat = 2 ^ (7 * j) * x by omega, Nat.or_comm,
   ← Nat.two_pow_add_eq_or_of_lt hlt x]
  omega
 rw [e3]
 exact Y3 (by omega) (by omega)
theorem MO (U j : Nat) : U / 2 ^ (7 * (j + 1)) = U / 2 ^ (7 * j) / 128 := by
 rw [Nat.div_div_eq_div_mul, show 7 * (j + 1) = 7 * j + 7 by omega, Nat.pow_add]
theorem D5 (u : Nat) : VZ .u64 (u : Int) 1 = ((u / 2 : Nat) : Int) := by
 unfold VZ
 rw [show min (1 : Int).toNat IntKind.u64.bits = 1 by rfl, show (2 : Int) ^ 1 = 2 by rfl, Int.fdiv_eq_ediv_of_nonneg _ (by omega)]
 omega
theorem YA {a : Int} (h0 : -9223372036854775808 ≤ a) (h1 : a ≤ 9223372036854775807) : IntKind.i64.wrap a = a := by
 simp [IntKind.wrap, IntKind.bits, IntKind.signed]
 omega
theorem WB {b : Nat} {l rest : List UInt8} (n : Int) (h0 : -9223372036854775808 ≤ n) (h1 : n ≤ 9223372036854775807) (hl : l = Xv n ++ rest) (hr : l.length ≤ 1000000000000) : FnH Tryz.prog 131 [pW b] (RdH b l) (fun r H => r = ei n ∧ H = RdH b rest) := by
 subst hl
 have hU := LW h0 h1
 have hbk := Ob n
 generalize hUU : ZC n = U at hU hbk
 refine fe Tryz.func131 fun S0 w0 => ?_
 show Sim _ _ [(0, pW b)] (RdH b (Xv n ++ rest)) _
 refine zC ?_
 refine cr <| s_ Qb <| zC ?_
 refine cr <| s_ Qb <| zC ?_
 refine cr <| s_ Qb <| zC ?_
 apply Qo (σ := Nat × List UInt8) (ok := fun s => s.1 ≤ 9 ∧ (0 < s.1 → 1 ≤ U / 2 ^ (7 * s.1)) ∧ s.2 = JC (9 - s.1) (U / 2 ^ (7 * s.1)) ++ rest ∧ s.2.length ≤ 1000000000000) (env := fun s => [(4, ei s.1), (3, .v (.int .u64 (U % 2 ^ (7 * s.1) : Nat))), (0, pW b)]) (heap := fun s => RdH b s.2) (μ := fun s => 10 - s.1) (s0 := (0, Xv n ++ rest))
 ·refine ⟨Nat.zero_le _, fun h => absurd h (by simp only; omega), ?_, hr⟩
  simp only [Xv, hUU]
  simp
 ·refine ⟨?_, ?_, eL⟩
  ·apply Qi; (exact zG)
   exact Le.refl _
  ·apply Qi; (exact zG)
   exact Le.of_eq (by simp [Nat.mod_one])
 ·exact kR
 rintro ⟨j, l⟩ ⟨hj, hw1, hll, hr⟩
 simp only at hj hw1 hll hr
 subst hll
 show Sim _ _ [(4, ei j), (3, .v (.int .u64 (U % 2 ^ (7 * j) : Nat))), (0, pW b)] (RdH b (JC (9 - j) (U / 2 ^ (7 * j)) ++ rest)) _
 have hw9 : 9 - j = 0 → U / 2 ^ (7 * j) < 128 := fun h => by
  have : j = 9 := by omega
  subst this
  omega
 obtain ⟨c, tl, hc, c1, c2, c3, c4, c5, c6⟩ := Rg (9 - j) (U / 2 ^ (7 * j)) hw9
 rw [hc] at hr ⊢
 refine zC ?_
 refine cr <| s_ Qa ?_
 refine QJ (L6 (b := b) (l := c :: tl ++ rest) 1 (by simp) hr) (fun r H' ⟨hr1, hr2⟩ => ?_)
 subst hr1 hr2
 show Qe _ _ _ _ ((9, bl [c]) :: _) (RdH b (tl ++ rest)) _
 refine s_ (YK (d := eb c) (hd := rfl)) ?_
 (first | refine s_ Qn ?_ | refine s_ Ql ?_)
 refine s_ Qb <| zC ?_
 refine cr <| s_ Qa <| s_ XB <| s_ Qa <| gT (fun hg => Qa) ?_
 refine gT (fun hg => X0 (hx := u_ hg)) ?_
 refine s_ XW <| s_ Qa <| gF (fun hg => Qa) ?_
 refine gF (fun hg => X0 (hx := u_ hg)) ?_
 refine gF (fun hg => Qa (hx := u_ hg)) ?_
 refine hT (fun hg => Qa) ?_
 refine hT (fun hg => XB (hx := u_ hg)) ?_
 refine gF (fun hg => CQ hg) ?_
 refine s_ YD <| zC ?_
 refine ci ?_ ?_
 ·intro h
  have hcn : (c.toNat : Int) = 0 → c.toNat = 0 := by omega
  rcases h with ⟨h1, h2⟩ | ⟨h1, h2⟩
  ·have hj9 : j = 9 := by omega
   subst hj9
   have := c4 (by omega)
   omega
  ·have := c3 (by omega)
   have := hw1 (by omega)
   omega
 intro _
 refine zC ?_
 refine cr <| s_ Qa <| s_ Qa <| s_ Gl <| s_ Ya <| s_ Qa <| s_ Bb <| s_ Ue <| s_ UU ?_
 rw [O7 hU hj c1]
 refine s_ Qb <| zC ?_
 refine cr <| s_ Qa <| s_ QR <| zC ?_
 refine ci ?_ ?_
 ·intro hlt
  have hlt' : U / 2 ^ (7 * j) < 128 := c2.1 (by omega)
  have hmod : U % 2 ^ (7 * (j + 1)) = U := Nat.mod_eq_of_lt (by
   have := MO U j
   rw [Nat.div_eq_of_lt hlt'] at this
   exact (Nat.div_eq_zero_iff.1 this).resolve_left (by have : 0 < 2 ^ (7 * (j + 1)) := Nat.pow_pos (by omega); omega))
  rw [hmod, c5 hlt', List.nil_append]
  refine zC ?_
  refine cr <| s_ Qa <| s_ Gl <| s_ XB <| zC ?_
  refine ci ?_ ?_
  ·intro hodd
   have hodd' : U % 2 = 1 := by
    rw [show (U : Int).tmod 2 = ((U % 2 : Nat) : Int) from rfl] at hodd
    omega
   unfold EN at hbk
   rw [if_pos hodd'] at hbk
   refine zC ?_
   refine cr <| s_ Qa <| s_ Zt ?_
   rw [D5]
   refine s_ Ya ?_
   rw [YA (a := ((U / 2 : Nat) : Int)) (by omega) (by omega)]
   refine s_ (Ec (a := ((U / 2 : Nat) : Int)) (zl)) ?_
   rw [YA (a := 0 - ((U / 2 : Nat) : Int)) (by omega) (by omega)]
   refine s_ Y9 <| s_ Qb <| zC ?_
   refine zR ?_
   refine rh kR ⟨rfl, rfl⟩ ?_
   exact Le.of_eq (by simp only [XJ, ei]; congr 2; omega)
  ·intro hodd
   have hodd' : ¬ U % 2 = 1 := by
    rw [show (U : Int).tmod 2 = ((U % 2 : Nat) : Int) from rfl] at hodd
    omega
   unfold EN at hbk
   rw [if_neg hodd'] at hbk
   refine zC ?_
   refine cr <| s_ Qa <| s_ Zt ?_
   rw [D5]
   refine s_ Ya ?_
   rw [YA (a := ((U / 2 : Nat) : Int)) (by omega) (by omega)]
   refine s_ Qb <| zC ?_
   refine zR ?_
   refine rh kR ⟨rfl, rfl⟩ ?_
   exact Le.of_eq (by simp only [XJ, ei]; congr 2)
 ·intro hge
  have hge' : 128 ≤ U / 2 ^ (7 * j) := by
   have : ¬ U / 2 ^ (7 * j) < 128 := fun h => hge (by have := c2.2 h; omega)
   omega
  have hdn := MO U j
  rw [c6 hge'] at hc ⊢
  refine zC ?_
  refine cr <| s_ Qa <| s_ Q0 <| s_ Qb <| zC ?_
  refine ⟨(j + 1, JC (9 - j - 1) (U / 2 ^ (7 * j) / 128) ++ rest), ⟨?_, ?_, ?_, ?_⟩, (by simp only []; omega), ⟨?_, eL⟩, kR⟩
  ·simp only; omega
  ·simp only; rw [hdn]; omega
  ·simp only; rw [hdn, show 9 - (j + 1) = 9 - j - 1 by omega]
  ·simp only
   rw [c6 hge', List.cons_append, List.length_cons] at hr
   omega
  ·apply Qi; (exact zG)
   exact Le.refl _
end Go.Proofs.YtjbokbikkcfjjaaGreat
namespace Go.Proofs.YtjbokbikkcfjjaaGreat
open Go.Cap
attribute [local irreducible] Wm ZQ
theorem Uh {b : Nat} {l rest : List UInt8} (n : Int) (h0 : -9223372036854775808 ≤ n) (h1 : n ≤ 9223372036854775807) (hl : l = Xv n ++ rest) (hr : l.length ≤ 1000000000000) : FnH Tryz.prog 98 [pW b] (RdH b l) (fun r H => r = ei n ∧ H = RdH b rest) := by
 have hn := WB (b := b) n h0 h1 hl hr
 refine JA Tryz.func98 (by rfl) (by rfl) ?_
 intro S0 w0 hw0
 show Wm _ _ _ [(0, pW b)] (RdH b l) _
 refine Jm ?_
 refine zC ?_
 apply cr
 refine LM fun b1 _ => ?_
 refine s_ Qb <| zC ?_
 refine ⟨rfl, ?_⟩
 refine Zr ?_
 refine d_s Uf ?_
 refine Vf [.pointer (some ⟨b1, 0, none⟩)] ?_ rfl rfl (zl)
 refine J6 hw0 ?_
 unfold RdH
 refine zC ?_
 refine cr <| s_ Ql <| s_ Uf <| s_ Qb <| zC ?_
 refine cr <| s_ Ql <| s_ Qf <| s_ Qd <| s_ Ql <| s_ XB <| zC ?_
 refine ci ?_ ?_
 ·intro _
  refine zC ?_
  refine cr <| s_ Qa ?_
  refine JV (fs := [pW b]) (args := []) (cs := []) hn (Hr := [_]) (List.Perm.swap _ _ _) (fun r H' ⟨hr1, hr2⟩ => ?_)
  subst hr1 hr2
  refine QG (List.Perm.swap _ _ _) ?_
  refine s_ Qb <| zC ?_
  refine cr <| s_ Qa <| s_ Qb <| zC ?_
  refine zC ?_
  apply Yc
  refine ⟨_, I9 (i := 0) rfl rfl, ?_⟩
  rintro H1 rfl
  exact ⟨_, _, _, zrs, Le.refl _, ⟨rfl, rfl⟩, (Qh.skip _ _ _ kR).le⟩
 ·intro h; exact absurd rfl h
theorem Ou {b : Nat} {l s rest : List UInt8} (hs : s.length ≤ 65535) (hl : l = Xv s.length ++ s ++ rest) (hr : l.length ≤ 1000000000000) : FnH Tryz.prog 132 [pW b] (RdH b l) (fun r H => r = bl s ∧ H = RdH b rest) := by
 have hn := WB (b := b) (l := l) (rest := s ++ rest) (s.length : Nat) (by omega) (by omega) (by rw [hl, List.append_assoc]) hr
 have hlen : (s ++ rest).length ≤ 1000000000000 := by rw [hl] at hr; simp only [List.length_append] at hr ⊢; omega
 have ht := L6 (b := b) (l := s ++ rest) s.length (by simp) hlen
 rw [List.take_left' rfl, List.drop_left' rfl] at ht
 have hc := Zg false s (by omega)
 refine JA Tryz.func132 (by rfl) (by rfl) ?_
 intro S0 w0 hw0
 show Wm _ _ _ [(0, pW b)] (RdH b l) _
 refine Jm ?_
 refine zC ?_
 apply cr
 refine LM fun b1 _ => ?_
 refine s_ Qb <| zC ?_
 refine ⟨rfl, ?_⟩
 refine Zr ?_
 refine d_s Uf ?_
 refine Vf [.pointer (some ⟨b1, 0, none⟩)] ?_ rfl rfl (zl)
 refine J6 hw0 ?_
 unfold RdH
 refine zC ?_
 refine cr <| s_ Ql <| s_ Qf <| s_ Qd <| s_ Ql <| s_ XR <| zC ?_
 refine ci ?_ ?_
 ·intro h; exact absurd rfl h
 intro _
 refine zC ?_
 refine cr <| s_ Ql ?_
 refine QU (Hr := [_]) hn (List.Perm.swap _ _ _) (fun r H' ⟨hr1, hr2⟩ => ?_)
 subst hr1 hr2
 refine QG (List.Perm.swap _ _ _) ?_
 refine s_ Qb <| zC ?_
 refine cr <| s_ Qa <| s_ QR <| s_ Qa <| gF (fun hg => Qa) ?_
 refine gF (fun hg => X0 (hx := u_ hg)) ?_
 refine s_ YD <| zC ?_
 refine ci ?_ ?_
 ·intro h; exact absurd h (by omega)
 intro _
 refine zC ?_
 refine cr <| s_ Ql <| s_ Qa ?_
 refine QU (Hr := [_]) ht (List.Perm.swap _ _ _) (fun r H' ⟨hr1, hr2⟩ => ?_)
 subst hr1 hr2
 refine QG (List.Perm.swap _ _ _) ?_
 refine s_ (QK (hc)) <| s_ Qb <| zC ?_
 refine zC ?_
 apply Yc
 refine ⟨_, Ov (i := 0) rfl rfl, ?_⟩
 rintro H1 rfl
 exact ⟨_, _, _, zrs, Le.refl _, ⟨rfl, rfl⟩, (Qh.skip _ _ _ kR).le⟩
end Go.Proofs.YtjbokbikkcfjjaaGreat
namespace Go.Proofs.YtjbokbikkcfjjaaGreat
open Go.Cap
attribute [local irreducible] POp Qe AD EOp Sim FnH T.gp
def Y5 (s : List UInt8) : List UInt8 := if s = [] then Xv 0 else Xv 1 ++ (Xv s.length ++ s)
theorem J1 (s : List UInt8) : (Y5 s).length ≤ 20 + s.length := by
 have h0 := Xb 0
 have h1 := Xb 1
 have h2 := Xb s.length
 unfold Y5
 split
 ·omega
 ·simp only [List.length_append]; omega
theorem D9 {b : Nat} {l s rest : List UInt8} (hs : s.length ≤ 60000) (hl : l = Y5 s ++ rest) (hr : l.length ≤ 1000000000) : FnH Tryz.prog 99 [pW b] (RdH b l) (fun r H => r = es s ∧ H = RdH b rest) := by
 refine fe Tryz.func99 fun S0 w0 => ?_
 show Sim _ _ [(0, pW b)] (RdH b l) _
 by_cases hs0 : s = []
 ·subst hs0
  have hi := Uh (b := b) (l := l) (rest := rest) 0 (by omega) (by omega) (by rw [hl, Y5, if_pos rfl]) (by omega)
  refine zC ?_
  refine cr <| s_ Qb <| zC ?_
  refine cr <| s_ Qb <| zC ?_
  refine cr <| s_ Qa ?_
  refine QJ hi (fun r H' ⟨hr1, hr2⟩ => ?_)
  subst hr1 hr2
  refine s_ Qa <| zC ?_
  apply Qo (σ := Unit) (ok := fun _ => True) (env := fun _ => [(6, ei 0), (5, ei 0), (3, .sl true (([] : List UInt8).map eb))]) (heap := fun _ => RdH b rest) (μ := fun _ => 0) (s0 := ())
  ·trivial
  ·refine ⟨?_, ?_, ?_, trivial⟩
   ·apply Qi; (exact zG)
    exact Le.refl _
   ·apply Qi; (exact zG)
    exact Le.refl _
   ·apply Qi; (exact zG)
    exact Le.slice0 _ _
  ·exact kR
  rintro ⟨⟩ _
  refine zC ?_
  refine cr <| s_ QR <| zC ?_
  refine ci ?_ ?_
  ·intro h; exact absurd h (by omega)
  intro _
  refine zC ?_
  refine cr <| s_ Qa <| s_ (C8 (l := [])) <| s_ Qb <| zC ?_
  refine zR ?_
  exact rh kR ⟨rfl, rfl⟩ (Le.refl _)
 ·have hl1 : l = Xv 1 ++ (Xv s.length ++ s ++ rest) := by rw [hl, Y5, if_neg hs0]; simp
  have hi := Uh (b := b) (l := l) (rest := Xv s.length ++ s ++ rest) 1 (by omega) (by omega) hl1 (by omega)
  have ht := Ou (b := b) (l := Xv s.length ++ s ++ rest) (s := s) (rest := rest) (by omega) rfl (by rw [hl1, List.length_append] at hr; omega)
  refine zC ?_
  refine cr <| s_ Qb <| zC ?_
  refine cr <| s_ Qb <| zC ?_
  refine cr <| s_ Qa ?_
  refine QJ hi (fun r H' ⟨hr1, hr2⟩ => ?_)
  subst hr1 hr2
  refine s_ Qa <| zC ?_
  apply Qo (σ := Bool) (ok := fun _ => True) (env := fun k => [(6, ei (cond k 1 0)), (3, cond k (bl s) (.sl true (([] : List UInt8).map eb))), (5, ei 1), (0, pW b)]) (heap := fun k => RdH b (cond k rest (Xv s.length ++ s ++ rest))) (μ := fun k => cond k 0 1) (s0 := false)
  ·trivial
  ·refine ⟨?_, ?_, eL⟩
   ·apply Qi; (exact zG)
    exact Le.refl _
   ·apply Qi; (exact zG)
    exact Le.slice0 _ _
  ·exact kR
  rintro k _
  cases k with
  | false =>
   show Sim _ _ [(6, ei 0), (3, .sl true (([] : List UInt8).map eb)), (5, ei 1), (0, pW b)] (RdH b (Xv s.length ++ s ++ rest)) _
   refine zC ?_
   refine cr <| s_ QR <| zC ?_
   refine ci ?_ ?_
   ·intro _
    refine zC ?_
    refine cr <| s_ Qa <| s_ Qa ?_
    refine QJ ht (fun r H' ⟨hr1, hr2⟩ => ?_)
    subst hr1 hr2
    refine s_ (B1 (xs := []) (ys := s.map eb) (f := false)) <| s_ Qb <| zC ?_
    refine cr <| s_ Q0 <| s_ Qa <| zC ?_
    refine ⟨true, trivial, (by decide), ⟨?_, ?_, eL⟩, kR⟩
    ·apply Qi; (exact zG)
     exact Le.refl _
    ·apply Qi; (exact zG)
     exact Le.refl _
   ·intro h; exact absurd h (by omega)
  | true =>
   show Sim _ _ [(6, ei 1), (3, bl s), (5, ei 1), (0, pW b)] (RdH b rest) _
   refine zC ?_
   refine cr <| s_ QR <| zC ?_
   refine ci ?_ ?_
   ·intro h; exact absurd h (by omega)
   intro _
   refine zC ?_
   refine cr <| s_ Qa <| s_ C8 <| s_ Qb <| zC ?_
   refine zR ?_
   exact rh kR ⟨rfl, rfl⟩ (Le.refl _)
end Go.Proofs.YtjbokbikkcfjjaaGreat
namespace Go.Cap
section
variable {P : Program} {t : Env} {H : Qc} {dst : Option Tmp} {tp : TypeId} {pos : String} {aft : Array Edge} {g : Option (Nat × Bool)} {ty : TypeId} {x l' h' m' : Operand} {dx : T} {f : Bool} {xs ys : List T} {k k' k2 : IntKind} {i j m : Int} {d : T} {by_ kk : Nat}
theorem C9 (he : (xs.drop i.toNat).take (j.toNat - i.toNat) = ys) [hz : QD P ty d by_] (hx : t.ev x = dx := by exact zl) (hxl : Le dx (.sl f xs) := by exact zL) (hl : t.ev l' = .v (.int k i) := by exact zl) (hh : t.ev h' = .v (.int k' j) := by exact zl) (hm : t.ev m' = .v (.int k2 j) := by exact zl) (h0 : 0 ≤ i := by exact zo) (h1 : i ≤ j := by exact zo) (h2 : j ≤ xs.length := by exact zo) (hk : ∀ x ∈ xs, x.cells.length = d.cells.length := by exact zk) :
  POp P t H ⟨dst, .slice ty x (some l') (some h') (some m'), tp, pos, aft, g⟩ (.sl true ys) := he ▸ Wb hx hxl hl hh hm h0 h1 h2 hk
theorem UA (he : xs.drop i.toNat = ys) [hz : QD P ty d by_] (hx : t.ev x = dx := by exact zl) (hxl : Le dx (.sl false xs) := by exact zL) (hl : t.ev l' = .v (.int k i) := by exact zl) (h0 : 0 ≤ i := by exact zo) (h2 : i ≤ xs.length := by exact zo) (hk : ∀ x ∈ xs, x.cells.length = d.cells.length := by exact zk) :
  POp P t H ⟨dst, .slice ty x (some l') none none, tp, pos, aft, g⟩ (.sl false ys) := he ▸ UQ hx hxl hl h0 h2 hk
theorem O3 (he : xs.take i.toNat = ys) [hz : QD P ty d by_] (hx : t.ev x = dx := by exact zl) (hxl : Le dx (.sl false xs) := by exact zL) (hl : t.ev l' = .v (.int k i) := by exact zl) (h0 : 0 ≤ i := by exact zo) (h2 : i ≤ xs.length := by exact zo) (hk : ∀ x ∈ xs, x.cells.length = d.cells.length := by exact zk) :
  POp P t H ⟨dst, .slice ty x none (some l') none, tp, pos, aft, g⟩ (.sl false ys) := he ▸ UR hx hxl hl h0 h2 hk
theorem Ba (he : (xs.drop i.toNat).take (j.toNat - i.toNat) = ys) [hz : QD P ty d by_] (hx : t.ev x = dx := by exact zl) (hxl : Le dx (.sl false xs) := by exact zL) (hl : t.ev l' = .v (.int k i) := by exact zl) (hh : t.ev h' = .v (.int k' j) := by exact zl) (h0 : 0 ≤ i := by exact zo) (h1 : i ≤ j := by exact zo) (h2 : j ≤ xs.length := by exact zo) (hk : ∀ x ∈ xs, x.cells.length = d.cells.length := by exact zk) :
  POp P t H ⟨dst, .slice ty x (some l') (some h') none, tp, pos, aft, g⟩ (.sl false ys) := he ▸ Lh hx hxl hl hh h0 h1 h2 hk
end
end Go.Cap
namespace Go.Proofs.YtjbokbikkcfjjaaGreat
open Go.Cap
attribute [local irreducible] POp Qe AD EOp Sim FnH T.gp
def bt (l : List UInt8) : T := .sl true (l.map eb)
def pcs (s : List UInt8) : List (List UInt8) := if s = [] then [] else [s]
theorem R9 (s : List UInt8) (hs : s.length ≤ 60000) : ItC Tryz.prog 177 [.adr (.sl false (s.map eb)), .adr (ei 60000)] (fun p : List UInt8 => [bt p]) (fun xs => xs = pcs s) (fun pre => s ≠ [] ∧ pre = [s]) := by
 refine MC Tryz.func177 (by rfl) (by rfl) (by rfl) ?_
 intro c l' r I Ix Hx S w hlen _ _ hK h0 hY
 show Sim _ _ [(Tryz.f177.ntmps, .v undef), (0, .v (.func (.yield l') #[] #[])), (1, .adr (.sl false (s.map eb))), (2, .adr (ei 60000))] _ _
 refine zC ?_
 refine cr <| s_ Qb <| zC ?_
 apply Qo (σ := Bool × Qc) (ok := fun st => (st.1 = true → s ≠ []) ∧ I (cond st.1 [s] []) st.2) (env := fun st => [(4, ei (cond st.1 60000 0)), (Tryz.f177.ntmps, .v undef), (0, .v (.func (.yield l') #[] #[])), (1, .adr (.sl false (s.map eb))), (2, .adr (ei 60000))])
  (heap := fun st => st.2) (μ := fun st => cond st.1 0 1) (s0 := (false, Hx))
 ·exact ⟨by simp, h0⟩
 ·exact eL
 ·exact kR
 rintro ⟨k, H⟩ ⟨hk, hI⟩
 simp only at hk hI
 cases k with
 | false =>
  show Sim _ _ [(4, ei 0), (Tryz.f177.ntmps, .v undef), (0, .v (.func (.yield l') #[] #[])), (1, .adr (.sl false (s.map eb))), (2, .adr (ei 60000))] H _
  refine zC ?_
  refine cr <| s_ Qa <| s_ Qn ?_
  (first | refine s_ QP ?_ | refine s_ QO ?_)
  refine s_ QR <| zC ?_
  refine ci ?_ ?_
  ·intro hlt
   have hne : s ≠ [] := by rintro rfl; simp at hlt
   have hyc := hY [] s H hI ⟨hne, rfl⟩
   refine zC ?_
   refine ca [0, 1, 2, 3, 4, 5, 6] [] <| a_ (fun _ => Qn) <| a_ (fun _ => Qn) <| a_ (fun _ => Qa) <| a_ (fun _ => CH) ?_
   (first | refine a_ (fun _ => QP) ?_ | refine a_ (fun _ => QO) ?_)
   refine a_ (fun _ => Wg) <| a_ (fun _ => Qb) ?_
   apply an
   refine zC ?_
   have e1 : 0 + min (60000 : Int) ((((s.map eb).drop (0 : Int).toNat).length : Nat) : Int) = ((s.length : Nat) : Int) := by simp; omega
   refine zC ?_
   refine cr <| s_ Qa <| s_ Qn <| s_ Qa <| s_ Qa <| s_ Qa <| s_ Q0 <| s_ Qa <| s_ Qa <| s_ Q0 ?_
   rw [e1]
   refine s_ (C9 (xs := s.map eb) (ys := s.map eb) (i := 0) (j := ((s.length : Nat) : Int)) (by simp [List.take_of_length_le])) ?_
   refine Ah (Hr := []) hyc (by simp) (hlen _) hK (fun H' hI' => ?_) (fun H' hI' => ?_)
   ·simp only [if_true] at hI'
    refine s_ YE <| zC ?_
    refine ci ?_ ?_
    ·intro h; exact absurd trivial h
    intro _
    refine zC ?_
    refine cr <| s_ Qa <| s_ Qn <| s_ Q0 <| s_ Qb <| zC ?_
    refine ⟨(true, H'), ⟨fun _ => hne, hI'⟩, (by show 0 < 1; omega), ⟨?_, eL⟩, by rw [List.append_nil]; exact kR⟩
    apply Qi; (exact zG)
    exact Le.refl _
   ·simp only [Bool.false_eq_true, if_false] at hI'
    refine s_ YE <| zC ?_
    refine ci ?_ ?_
    ·intro _
     refine zC ?_
     apply Yc
     simp only [Yt, YV, Jw]
     rw [List.append_nil]
     exact Ey ⟨hne, rfl⟩ hI'
    ·intro h; exact absurd (fun h => h) h
  ·intro hge
   have hs0 : s = [] := by
    have : s.length = 0 := by simp only [List.length_map] at hge; omega
    exact List.length_eq_zero_iff.1 this
   refine zC ?_
   exact VF (xs := []) (by rw [pcs, if_pos hs0]) hI
 | true =>
  show Sim _ _ [(4, ei 60000), (Tryz.f177.ntmps, .v undef), (0, .v (.func (.yield l') #[] #[])), (1, .adr (.sl false (s.map eb))), (2, .adr (ei 60000))] H _
  refine zC ?_
  refine cr <| s_ Qa <| s_ Qn ?_
  (first | refine s_ QP ?_ | refine s_ QO ?_)
  refine s_ QR <| zC ?_
  refine ci ?_ ?_
  ·intro h; exact absurd h (by simp only [List.length_map]; omega)
  intro _
  refine zC ?_
  exact VF (xs := [s]) (by rw [pcs, if_neg (hk rfl)]) hI
theorem Ia (s : List UInt8) : FnP Tryz.prog 172 [.sl false (s.map eb), ei 60000] (fun r => r = .clo 177 [] [.adr (.sl false (s.map eb)), .adr (ei 60000)]) := by
 refine fe Tryz.func172 fun S0 w0 => ?_
 show Sim _ _ [(0, T.sl false (s.map eb)), (1, ei 60000)] _ _
 refine zC ?_
 apply cr
 refine LM fun b2 _ => ?_
 refine LM fun b3 _ => ?_
 refine s_ Qb <| zC ?_
 refine cr <| s_ Ql <| s_ QR <| zC ?_
 refine ci ?_ ?_
 ·intro h; exact absurd h (by omega)
 intro _
 refine zC ?_
 refine cr <| s_ Uf <| s_ Qb <| zC ?_
 refine Y6 (G := [_, _]) (H1 := []) [(4, .clo 177 [] [.adr (.sl false (s.map eb)), .adr (ei 60000)])] (by simp; rfl) ⟨?_, trivial⟩ ?_
 ·refine (show Env.get _ _ = _ from gZ) ▸ Qu.clo Qg.nil (Qg.cons (Qu.ptr (List.mem_cons_of_mem _ List.mem_cons_self) (.inl rfl) ?_ (by simp [T.cells]) (by simp [T.cells])) (Qg.cons (Qu.ptr List.mem_cons_self (.inl rfl) ?_ (by simp [T.cells, ei, Value.cells]) (by simp [T.cells, ei, Value.cells])) Qg.nil))
  ·exact Qg.le (LeL.refl _)
  ·exact Qg.le (LeL.refl _)
 ·refine zE ?_
  exact Le.refl _
def tBB : TypeId := 34
def OBB (l : List (List UInt8)) (v : Value) (Hs : Qc) : Prop := OSl tBB 1 (l.map bt) v Hs
theorem bt1 (l : List (List UInt8)) : ∀ x ∈ l.map bt, x.cells.length = 1 := zk
theorem Aw (l : List (List UInt8)) : ∀ x ∈ l.map bt, x.solid := ZF _ (fun _ => .inl rfl) _
theorem OBB.len {l : List (List UInt8)} {v : Value} {Hs : Qc} (h : OBB l v Hs) : ∃ p c, v = .slice p (l.map bt).length c := OSl.len h
theorem Oe (s : List UInt8) (hs : s.length ≤ 60000) : FnH Tryz.prog 176 [.v (.slice none 0 0), .clo 177 [] [.adr (.sl false (s.map eb)), .adr (ei 60000)]] [] (fun r H => ∃ v, r = .v v ∧ OBB (pcs s) v H) := by
 refine fe Tryz.func176 fun S0 w0 => ?_
 show Sim _ _ [(0, T.v (.slice none 0 0)), (1, T.clo 177 [] [.adr (.sl false (s.map eb)), .adr (ei 60000)])] _ _
 refine zC ?_
 apply cr
 refine LM fun b2 _ => ?_
 refine s_ Qb <| zC ?_
 refine cr <| s_ Qa <| zC ?_
 refine Ws (R9 s hs) (by ((repeat (apply eS; rfl)); exact eZ)) (by rfl) rfl (fun (pre : List (List UInt8)) (H : Qc) => pre.length ≤ 1 ∧ ∃ v Hs, OBB pre v Hs ∧ H = (b2, ⟨117, [.v v], 1⟩) :: (Hs ++ []))
  (fun _ _ => False) .ret .ret (.inl ⟨rfl, rfl⟩) (fun _ => rfl) (by rfl) ⟨by simp, _, [], Yy, rfl⟩ ?_ ?_ ?_
 ·rintro pre x H1 ⟨hpl, v, Hs, ho, rfl⟩ ⟨hne, hsp⟩ l' S1 w1
  have hpl2 : pre.length = 0 := by have := congrArg List.length hsp; simp at this; simp [this]
  obtain ⟨p, c, rfl⟩ := ho.len
  simp only [Vq]
  refine zC ?_
  refine cr <| s_ Qb <| zC ?_
  refine ⟨rfl, fun S2 w2 mk => ?_⟩
  refine zC ?_
  refine cr <| s_ Ql <| s_ Qa <| s_ Z0 ?_
  refine Cn (ho := ho) (A := [_]) (B := []) (ys := [bt x]) (f := true) (bt1 _) (fun v' Hs' ho' => ?_)
  obtain ⟨p', c', rfl⟩ := ho'.len
  refine Qw ?_
  refine zC ?_
  refine ⟨_, kR, .inl ⟨rfl, by rw [List.length_append]; simp only [List.length_singleton]; omega, _, Hs', by unfold OBB; rw [List.map_append]; exact ho', rfl⟩⟩
 ·rintro xs H' rfl ⟨hpl, v, Hs, ho, rfl⟩
  obtain ⟨p, c, rfl⟩ := ho.len
  refine zC ?_
  refine zC ?_
  refine cr <| s_ Ql <| s_ Qb <| zC ?_
  refine zR ?_
  refine rh (.skip _ _ _ kR) ⟨_, rfl, by rw [List.append_nil]; exact ho⟩ (Le.refl _)
 ·rintro pre H' _ h
  exact h.elim
theorem DN (s : List UInt8) (hs : s.length ≤ 60000) : FnP Tryz.prog 171 [.clo 177 [] [.adr (.sl false (s.map eb)), .adr (ei 60000)]] (fun r => r = .sl false ((pcs s).map bt)) := by
 refine FnH.give (Φ := fun r H => ∃ v, r = .v v ∧ OBB (pcs s) v H) ?_ (by rintro r H ⟨v, rfl, ho⟩; exact OSl.lend ho (fun _ h => h) (bt1 _) (Aw _))
 refine fe Tryz.func171 fun S0 w0 => ?_
 show Sim _ _ [(0, T.clo 177 [] [.adr (.sl false (s.map eb)), .adr (ei 60000)])] _ _
 refine zC ?_
 refine cr <| s_ Qb <| zC ?_
 refine cr <| s_ Qa ?_
 refine QJ (Oe s hs) (fun r H' ⟨v, hr, ho⟩ => ?_)
 subst hr
 refine s_ Qb <| zC ?_
 refine zR ?_
 exact rh kR ⟨_, rfl, ho⟩ (Le.refl _)
theorem D2 (f : Bool) (b s : List UInt8) (hs : s.length ≤ 60000) (hb : b.length ≤ 1000000000) : FnP Tryz.prog 165 [.sl f (b.map eb), es s] (fun r => r = bl (b ++ Y5 s)) := by
 have hc := Ia s
 have hcl := DN s hs
 have hi := VG f b ((pcs s).length : Nat) (by unfold pcs; split <;> simp) (by unfold pcs; split <;> simp) (by omega)
 refine fe Tryz.func165 fun S0 w0 => ?_
 show Sim _ _ [(0, T.sl f (b.map eb)), (1, es s)] _ _
 refine zC ?_
 refine cr <| s_ Qb <| zC ?_
 refine cr <| s_ Qa <| s_ AK <| s_ (QK (hc)) <| s_ (QK (hcl)) <| s_ Qb <| zC ?_
 refine zC ?_
 refine cr <| s_ Qa <| s_ Qa ?_
 (first | refine s_ QP ?_ | refine s_ QO ?_)
 rw [List.length_map]
 refine s_ (QK (hi)) <| s_ Qb <| zC ?_
 refine cr <| s_ Qa ?_
 (first | refine s_ QP ?_ | refine s_ QO ?_)
 refine s_ Qa <| zC ?_
 by_cases hs0 : s = []
 ·subst hs0
  apply Qo (σ := Unit) (ok := fun _ => True) (env := fun _ => [(18, ei 0), (17, ei 0), (0, bl (b ++ Xv 0))]) (heap := fun _ => []) (μ := fun _ => 0) (s0 := ())
  ·trivial
  ·exact eL
  ·exact kR
  rintro ⟨⟩ _
  refine zC ?_
  refine cr <| s_ QR <| zC ?_
  refine ci ?_ ?_
  ·intro h; exact absurd h (by omega)
  intro _
  refine zC ?_
  refine cr <| s_ Qa <| s_ Qb <| zC ?_
  refine zE ?_
  rw [Y5, if_pos rfl]
  exact Le.refl _
 ·have hi1 := Xb 1
  have ht := MV false true (b ++ Xv 1) s (by simp only [List.length_append]; omega) (by omega)
  have hp : pcs s = [s] := if_neg hs0
  rw [hp]
  apply Qo (σ := Bool) (ok := fun _ => True) (env := fun k => [(18, ei (cond k 1 0)), (0, bl (b ++ Xv 1 ++ cond k (Xv s.length ++ s) [])), (17, ei 1), (16, .sl false [bt s])]) (heap := fun _ => []) (μ := fun k => cond k 0 1) (s0 := false)
  ·trivial
  ·refine ⟨?_, ?_, eL⟩
   ·apply Qi; (exact zG)
    exact Le.refl _
   ·apply Qi; (exact zG)
    exact Le.of_eq (by simp)
  ·exact kR
  rintro k _
  cases k with
  | false =>
   show Sim _ _ [(18, ei 0), (0, bl (b ++ Xv 1 ++ [])), (17, ei 1), (16, .sl false [bt s])] _ _
   rw [List.append_nil]
   refine zC ?_
   refine cr <| s_ QR <| zC ?_
   refine ci ?_ ?_
   ·intro _
    refine zC ?_
    apply cr
    (first | refine s_ (Xg hix) ?_ | refine s_ (Xg hix2) ?_ | refine s_ YK ?_ | refine s_ ZK ?_)
    (first | refine s_ Qn ?_ | refine s_ Ql ?_)
    refine s_ Qb <| zC ?_
    refine cr <| s_ Qa <| s_ Qa <| s_ (QK (ht)) <| s_ Qb <| zC ?_
    refine cr <| s_ Q0 <| s_ Qa <| zC ?_
    refine ⟨true, trivial, (by show 0 < 1; omega), ⟨?_, ?_, eL⟩, kR⟩
    ·apply Qi; (exact zG)
     exact Le.refl _
    ·apply Qi; (exact zG)
     exact Le.of_eq (by simp)
   ·intro h; exact absurd h (by omega)
  | true =>
   show Sim _ _ [(18, ei 1), (0, bl (b ++ Xv 1 ++ (Xv s.length ++ s))), (17, ei 1), (16, .sl false [bt s])] _ _
   refine zC ?_
   refine cr <| s_ QR <| zC ?_
   refine ci ?_ ?_
   ·intro h; exact absurd h (by omega)
   intro _
   refine zC ?_
   refine cr <| s_ Qa <| s_ Qb <| zC ?_
   refine zE ?_
   rw [Y5, if_neg hs0]
   exact Le.of_eq (by simp [XJ])
end Go.Proofs.YtjbokbikkcfjjaaGreat
