/-
  Numbers as bytes, in plain words.
-/
import Derived.Test.YtjbokbikkcfjjaaGreatAao
set_option maxRecDepth 16000
set_option maxHeartbeats 8000000
set_option linter.all false
namespace Go.Proofs.YtjbokbikkcfjjaaGreat
open Go.Cap
attribute [local irreducible] POp Qf TO EOp Sim FnH T.gp
def ZW (n : Int) : Nat := if n < 0 then 2 * (-(n + 1)).toNat + 1 else 2 * n.toNat
theorem MK {n : Int} (h0 : -9223372036854775808 ≤ n) (h1 : n ≤ 9223372036854775807) : ZW n < 18446744073709551616 := by
 unfold ZW; split <;> omega
def GX (u : Nat) : Int := if u % 2 = 1 then -((u / 2 : Nat) : Int) - 1 else ((u / 2 : Nat) : Int)
theorem Ro (n : Int) : GX (ZW n) = n := by
 unfold GX ZW
 split <;> split <;> omega
def JY : Nat → Nat → List UInt8
 | 0, u => [UInt8.ofNat u]
 | k + 1, u => if 128 ≤ u then UInt8.ofNat (u % 128 + 128) :: JY k (u / 128) else [UInt8.ofNat u]
def Xz (n : Int) : List UInt8 := JY 9 (ZW n)
theorem Dc : ∀ (k u : Nat), 1 ≤ (JY k u).length ∧ (JY k u).length ≤ k + 1
 | 0, u => ⟨Nat.le_refl _, Nat.le_refl _⟩
 | k + 1, u => by
  unfold JY
  split
  ·have := Dc k (u / 128)
   simp only [List.length_cons]; omega
  ·simp
theorem Zk {a : Int} (h0 : 0 ≤ a) (h1 : a < 18446744073709551616) : IntKind.u64.wrap a = a := by
 simp [IntKind.wrap, IntKind.bits, IntKind.signed]
 omega
theorem Ga {a : Int} (h0 : 0 ≤ a) (h1 : a < 9223372036854775808) : Zy .u64 a 1 = 2 * a := by
 unfold Zy
 rw [show min (1 : Int).toNat IntKind.u64.bits = 1 by rfl, Zk (by omega) (by omega)]
 omega
theorem AA {a : Nat} (h1 : a < 9223372036854775808) : bOr .u64 (2 * (a : Int)) 1 = ((2 * a + 1 : Nat) : Int) := by
 unfold bOr
 have e : (BitVec.ofInt IntKind.u64.bits (2 * (a : Int)) ||| BitVec.ofInt IntKind.u64.bits 1).toNat = 2 * a + 1 := by
  rw [BitVec.toNat_or, BitVec.toNat_ofInt, BitVec.toNat_ofInt]
  show ((2 * (a : Int)) % 18446744073709551616).toNat ||| ((1 : Int) % 18446744073709551616).toNat = _
  rw [show ((2 * (a : Int)) % 18446744073709551616).toNat = 2 * a by omega, show ((1 : Int) % 18446744073709551616).toNat = 1 by rfl]
  have := Nat.two_pow_add_eq_or_of_lt (i := 1) (b := 1) (by decide) a
  rw [Nat.pow_one] at this
  exact this.symm
 rw [e]
 exact Zk (by omega) (by omega)
theorem G4 (n : Int) (h0 : -9223372036854775808 ≤ n) (h1 : n ≤ 9223372036854775807) : FnP Tryz.prog 170 [ei n] (fun r => r = .v (.int .u64 (ZW n : Nat))) := by
 refine fe Tryz.func170 fun S0 w0 => ?_
 show Sim _ _ [(0, ei n)] _ _
 refine zC ?_
 refine cr <| s_ Qb <| zC ?_
 refine cr <| s_ Qa <| s_ QU <| zC ?_
 refine ci ?_ ?_
 ·intro hn
  refine zC ?_
  refine cr <| s_ Qa <| s_ QY <| s_ (Gh (a := n + 1) (zl)) <| s_ Yv <| s_ UD <| s_ Vg <| s_ Qb <| zC ?_
  refine zE ?_
  refine Le.of_eq ?_
  show T.v (.int .u64 (bOr .u64 (Zy .u64 (IntKind.u64.wrap (IntKind.i64.wrap (0 - (n + 1)))) 1) 1)) = _
  obtain ⟨a, ha⟩ : ∃ a : Nat, 0 - (n + 1) = (a : Int) := ⟨(0 - (n + 1)).toNat, by omega⟩
  have hw : IntKind.i64.wrap (a : Int) = (a : Int) := by
   simp [IntKind.wrap, IntKind.bits, IntKind.signed]; omega
  rw [ha, hw, Zk (by omega) (by omega), Ga (by omega) (by omega), AA (by omega)]
  have : ZW n = 2 * a + 1 := by unfold ZW; split <;> omega
  rw [this]
 ·intro hn
  refine zC ?_
  refine cr <| s_ Qa <| s_ Yv <| s_ UD <| s_ Qb <| zC ?_
  refine zE ?_
  refine Le.of_eq ?_
  show T.v (.int .u64 (Zy .u64 (IntKind.u64.wrap n) 1)) = _
  rw [Zk (by omega) (by omega), Ga (by omega) (by omega)]
  have : ((ZW n : Nat) : Int) = 2 * n := by unfold ZW; split <;> omega
  rw [this]
def tB : TypeId := 5
def bl (l : List UInt8) : T := .sl false (l.map eb)
def OB (l : List UInt8) (v : Value) (Hs : Qc) : Prop := OSl tB 1 (l.map eb) v Hs
theorem eb1 (l : List UInt8) : ∀ x ∈ l.map eb, x.cells.length = 1 := zk
theorem TB (l : List UInt8) : ∀ x ∈ l.map eb, x.solid := Z0 _ (fun _ => .inl rfl) _
theorem OB.len {l : List UInt8} {v : Value} {Hs : Qc} (h : OB l v Hs) : ∃ p c, v = .slice p (l.map eb).length c := OSl.len h
theorem OB.lend {l : List UInt8} {v : Value} {Hs G : Qc} (h : OB l v Hs) (hG : ∀ p ∈ Hs, p ∈ G) : Qx G (.v v) (bl l) := OSl.lend h hG (eb1 l) (TB l)
theorem LI (f : Bool) (l : List UInt8) (hl : l.length ≤ 1000000000000) : FnH Tryz.prog 127 [.sl f (l.map eb)] [] (fun r H => ∃ v, r = .v v ∧ OB l v H) := by
 refine fe Tryz.func127 fun S0 w0 => ?_
 show Sim _ _ [(0, T.sl f (l.map eb))] _ _
 refine zC ?_
 refine cr <| s_ Qb <| zC ?_
 refine cr <| s_ Qa ?_
 refine Zh 3 fun p c h1 _ => ?_
 refine s_ Ay <| zC ?_
 refine ci ?_ ?_
 ·intro hp
  have := h1 hp
  have : l = [] := by simpa using this
  subst this
  refine zC ?_
  refine cr <| s_ Qb <| zC ?_
  refine zR ?_
  exact rh kR ⟨_, rfl, Y7⟩ (Le.refl _)
 ·intro hp
  refine zC ?_
  refine cr <| s_ JG ?_
  refine Zh 5 fun q c' _ h2 => ?_
  have := h2 rfl
  subst this
  refine s_ Qa ?_
  refine LE (ho := (UF : OSl tB 1 [] _ [])) (A := []) (B := []) (fun _ h => by cases h) (fun v' Hs' ho => ?_)
  refine s_ Qb <| zC ?_
  refine zR ?_
  exact rh kR ⟨_, rfl, by simpa [OB] using ho⟩ (Le.refl _)
theorem Zx (f : Bool) (l : List UInt8) (hl : l.length ≤ 1000000000000) : FnP Tryz.prog 127 [.sl f (l.map eb)] (fun r => r = bl l) :=
 FnH.give (LI f l hl) (by rintro r H ⟨v, rfl, ho⟩; exact ho.lend fun _ h => h)
theorem IL (n : Nat) (hn : n ≤ 10000000000000) : FnH Tryz.prog 178 [.v (.slice none 0 0), ei n] [] (fun r H => ∃ v, r = .v v ∧ OB [] v H) := by
 refine fe Tryz.func178 fun S0 w0 => ?_
 show Sim _ _ [(0, T.v (.slice none 0 0)), (1, ei n)] _ _
 refine zC ?_
 refine cr <| s_ Qb <| zC ?_
 refine cr <| s_ Qa <| s_ QU <| zC ?_
 refine ci ?_ ?_
 ·intro h; exact absurd h (by omega)
 intro _
 refine zC ?_
 refine cr <| s_ Qa <| s_ Qa <| s_ B9 <| s_ Qa ?_
 (first | refine s_ QP ?_ | refine s_ QO ?_)
 refine s_ Zp <| s_ Zp <| s_ Qb <| zC ?_
 refine cr <| s_ Qa <| s_ Yu <| zC ?_
 have e0 : (n : Int) - (((0 : Nat) : Int) - ((0 : Nat) : Int)) = n := by omega
 rw [e0]
 refine ci ?_ ?_
 ·intro h0
  have h0' : 0 < n := by omega
  refine zC ?_
  refine cr <| s_ Qa <| s_ Qa <| s_ B9 <| s_ (Gk (p := none) (n := 0) (c := 0) (v := .slice none 0 0) (Nat.le_refl _) rfl) <| s_ Qa ?_
  refine TE (n := n) (fun b c _ hc => ?_)
  refine s_ Qa ?_
  (first | refine s_ QP ?_ | refine s_ QO ?_)
  refine s_ (Gk (p := some ⟨b, 0, none⟩) (n := n) (c := c) (j := ((0 : Nat) : Int)) (v := .slice (some ⟨b, 0, none⟩) 0 c) hc (by simp [JX, Addr.add])) <| s_ Qb <| zC ?_
  refine zC ?_
  refine cr <| s_ Qa <| s_ Qb <| zC ?_
  refine zR ?_
  exact rh kR ⟨_, rfl, .inr ⟨b, c, rfl, by simp, rfl⟩⟩ (Le.refl _)
 ·intro h0
  refine zC ?_
  refine cr <| s_ Qa <| s_ Qb <| zC ?_
  refine zR ?_
  exact rh kR ⟨_, rfl, Y7⟩ (Le.refl _)
def JZ (rows : List (Bool × List UInt8)) : List UInt8 := rows.flatMap (·.2)
def I4 (p : Bool × List UInt8) : T := .sl p.1 (p.2.map eb)
theorem LL {rows : List (Bool × List UInt8)} {k : Nat} (hk : k < rows.length) : JZ (rows.take (k + 1)) = JZ (rows.take k) ++ (rows[k]'hk).2 := by
 unfold JZ
 rw [List.take_succ_eq_append_getElem hk, List.flatMap_append]
 simp
theorem GU {rows : List (Bool × List UInt8)} (k : Nat) : (JZ (rows.take k)).length ≤ (JZ rows).length := by
 conv => rhs; rw [← List.take_append_drop k rows]
 unfold JZ
 rw [List.flatMap_append, List.length_append]
 omega
theorem LG (f : Bool) (rows : List (Bool × List UInt8)) (hn : (JZ rows).length ≤ 100000000000) (hr : rows.length ≤ 1000000) : FnP Tryz.prog 174 [.sl f (rows.map I4)] (fun r => r = bl (JZ rows)) := by
 refine FnH.give (Φ := fun r H => ∃ v, r = .v v ∧ OB (JZ rows) v H) ?_ (by rintro r H ⟨v, rfl, ho⟩; exact ho.lend fun _ h => h)
 refine fe Tryz.func174 fun S0 w0 => ?_
 show Sim _ _ [(0, T.sl f (rows.map I4))] _ _
 refine zC ?_
 refine cr <| s_ Qb <| zC ?_
 refine cr <| s_ Qb <| zC ?_
 refine cr <| s_ Qa ?_
 (first | refine s_ QP ?_ | refine s_ QO ?_)
 refine s_ Qa <| zC ?_
 apply Qo (σ := Nat) (ok := fun k => k ≤ rows.length) (env := fun k => [(11, ei k), (3, ei ((JZ (rows.take k)).length : Nat)), (10, ei (rows.length : Nat)), (9, .sl f (rows.map I4)), (0, .sl f (rows.map I4))]) (heap := fun _ => []) (μ := fun k => rows.length - k) (s0 := 0)
 ·exact Nat.zero_le _
 ·refine ⟨?_, ?_, ?_, eL⟩
  ·apply Qi; (exact zG)
   exact Le.refl _
  ·apply Qi; (exact zG)
   exact Le.refl _
  ·apply Qi; (exact zG)
   exact Le.of_eq (by simp [ei])
 ·exact kR
 intro k hk
 refine zC ?_
 refine cr <| s_ QU <| zC ?_
 refine ci ?_ ?_
 ·intro hlt
  have hlt' : k < rows.length := by omega
  have hnx := LL hlt'
  have hle := GU (rows := rows) (k + 1)
  rw [hnx, List.length_append] at hle
  refine zC ?_
  apply cr
  (first | refine s_ (Xd hix) ?_ | refine s_ (Xd hix2) ?_ | refine s_ YE ?_ | refine s_ ZE ?_)
  (first | refine s_ Qm ?_ | refine s_ Ql ?_)
  refine s_ Qb <| zC ?_
  refine cr <| s_ Qa <| s_ Qa ?_
  (first | refine s_ QP ?_ | refine s_ QO ?_)
  refine s_ QY <| s_ Qb <| zC ?_
  refine cr <| s_ Qa <| s_ QU <| zC ?_
  refine ci ?_ ?_
  ·intro h; exact absurd h (by simp only [List.length_map]; omega)
  intro _
  refine zC ?_
  refine cr <| s_ QY <| s_ Qa <| zC ?_
  refine ⟨k + 1, by omega, (by simp only []; omega), ⟨?_, ?_, eL⟩, kR⟩
  ·apply Qi; (exact zG)
   exact Le.refl _
  ·apply Qi; (exact zG)
   exact Le.of_eq (by rw [hnx]; simp [ei])
 intro hge
 have hke : k = rows.length := by omega
 subst hke
 rw [List.take_length]
 refine zC ?_
 refine cr <| s_ Qa ?_
 refine Q2 (Hs := []) (Hr := []) (IL (JZ rows).length (by omega)) (.refl _) (fun r H' ⟨v, hr, ho⟩ => ?_)
 subst hr
 refine s_ Qb <| zC ?_
 refine cr <| s_ Qa ?_
 (first | refine s_ QP ?_ | refine s_ QO ?_)
 refine s_ Qa <| zC ?_
 apply Qo (σ := Nat × Value × Qc) (ok := fun s => s.1 ≤ rows.length ∧ OB (JZ (rows.take s.1)) s.2.1 s.2.2) (env := fun s => [(27, ei s.1), (6, .v s.2.1), (26, ei (rows.length : Nat)), (25, .sl f (rows.map I4))]) (heap := fun s => s.2.2) (μ := fun s => rows.length - s.1) (s0 := (0, v, H'))
 ·exact ⟨Nat.zero_le _, ho⟩
 ·refine ⟨?_, ?_, ?_, eL⟩
  ·apply Qi; (exact zG)
   exact Le.refl _
  ·apply Qi; (exact zG)
   exact Le.refl _
  ·apply Qi; (exact zG)
   exact Le.of_eq (by simp [ei])
 ·rw [List.append_nil]; exact kR
 rintro ⟨k, v, H⟩ ⟨hk, ho⟩
 simp only at hk ho
 refine zC ?_
 refine cr <| s_ QU <| zC ?_
 refine ci ?_ ?_
 ·intro hlt
  simp only at hlt
  have hlt' : k < rows.length := by omega
  have hnx := LL hlt'
  have hle := GU (rows := rows) (k + 1)
  rw [hnx, List.length_append] at hle
  refine zC ?_
  apply cr
  (first | refine s_ (Xd hix) ?_ | refine s_ (Xd hix2) ?_ | refine s_ YE ?_ | refine s_ ZE ?_)
  (first | refine s_ Qm ?_ | refine s_ Ql ?_)
  refine s_ Qb <| zC ?_
  refine cr <| s_ Qa <| s_ Qa ?_
  refine LE (ho := ho) (A := []) (B := []) (eb1 _) (fun v' Hs' ho' => ?_) (hH := by simp)
  refine s_ Qb <| zC ?_
  refine cr <| s_ QY <| s_ Qa <| zC ?_
  refine ⟨(k + 1, v', Hs'), ⟨by simp only; omega, ?_⟩, (by simp only []; omega), ⟨?_, ?_, eL⟩, by simp only [List.nil_append, List.append_nil]; exact kR⟩
  ·simp only
   rw [hnx]
   unfold OB
   rw [List.map_append]
   exact ho'
  ·apply Qi; (exact zG)
   exact Le.refl _
  ·apply Qi; (exact zG)
   exact Le.refl _
 intro hge
 simp only at hge
 have hke : k = rows.length := by omega
 subst hke
 rw [List.take_length] at ho
 refine zC ?_
 refine cr <| s_ Qa <| s_ Qb <| zC ?_
 refine zR ?_
 exact rh kR ⟨v, rfl, ho⟩ (Le.refl _)
theorem Dd {k u : Nat} (h : 128 ≤ u) : JY (k + 1) u = UInt8.ofNat (u % 128 + 128) :: JY k (u / 128) := by rw [JY, if_pos h]
theorem V8 {k u : Nat} (h : u < 128) : JY k u = [UInt8.ofNat u] := by
 cases k with
 | zero => rfl
 | succ k => rw [JY, if_neg (by omega)]
theorem Rl (u : Nat) : bOr .u8 (IntKind.u8.wrap ((u : Int).tmod 128)) 128 = ((UInt8.ofNat (u % 128 + 128)).toNat : Int) := by
 have key : ∀ i : Fin 128, bOr .u8 (IntKind.u8.wrap ((i.val : Nat) : Int)) 128 = ((UInt8.ofNat (i.val + 128)).toNat : Int) := by decide +kernel
 have h := key ⟨u % 128, Nat.mod_lt _ (by omega)⟩
 rw [show (u : Int).tmod 128 = ((u % 128 : Nat) : Int) from rfl]
 exact h
theorem Rm {u : Nat} (h : u < 128) : IntKind.u8.wrap (u : Int) = ((UInt8.ofNat u).toNat : Int) := by
 have key : ∀ i : Fin 128, IntKind.u8.wrap ((i.val : Nat) : Int) = ((UInt8.ofNat i.val).toNat : Int) := by decide +kernel
 exact key ⟨u, h⟩
theorem Oe (u : Nat) : WF .u64 (u : Int) 7 = ((u / 128 : Nat) : Int) := by
 unfold WF
 rw [show min (7 : Int).toNat IntKind.u64.bits = 7 by rfl, show (2 : Int) ^ 7 = 128 by rfl, Int.fdiv_eq_ediv_of_nonneg _ (by omega)]
 omega
theorem R9 (k : Nat) : 2 ^ (7 * (k + 1 + 1)) = 2 ^ (7 * (k + 1)) * 128 := by
 rw [show 7 * (k + 1 + 1) = 7 * (k + 1) + 7 by omega, Nat.pow_add]
theorem Xi (n : Int) : 1 ≤ (Xz n).length ∧ (Xz n).length ≤ 10 := Dc 9 (ZW n)
structure T3 where
 k : Nat
 u : Nat
 out : List UInt8
 v : Value
 H : Qc
theorem We (f : Bool) (b : List UInt8) (n : Int) (h0 : -9223372036854775808 ≤ n) (h1 : n ≤ 9223372036854775807) (hl : b.length ≤ 100000000000) : FnP Tryz.prog 164 [.sl f (b.map eb), ei n] (fun r => r = bl (b ++ Xz n)) := by
 have hlen := Xi n
 have htl := MK h0 h1
 refine fe Tryz.func164 fun S0 w0 => ?_
 show Sim _ _ [(0, T.sl f (b.map eb)), (1, ei n)] _ _
 refine zC ?_
 refine cr <| s_ Qb <| zC ?_
 refine cr <| s_ Qa ?_
 refine Q2 (Hs := []) (Hr := []) (LI f b (by omega)) (.refl _) (fun r H ⟨v, hr, ho⟩ => ?_)
 subst hr
 refine s_ Qb <| zC ?_
 refine cr <| s_ Qa <| s_ (QQ (G4 n h0 h1)) <| s_ Qb <| zC ?_
 apply Qo (σ := T3) (ok := fun s => OB s.out s.v s.H ∧ s.out ++ JY s.k s.u = b ++ Xz n ∧ s.u < 2 ^ (7 * (s.k + 1))) (env := fun s => [(6, .v (.int .u64 s.u)), (5, .v s.v)]) (heap := fun s => s.H) (μ := fun s => s.k) (s0 := ⟨9, ZW n, b, v, H⟩)
 ·exact ⟨ho, rfl, by simp only; omega⟩
 ·exact eL
 ·rw [List.append_nil]; exact kR
 rintro ⟨k, u, out, v, H⟩ ⟨ho, he, hu⟩
 simp only at ho he hu
 show Sim _ _ [(6, .v (.int .u64 u)), (5, .v v)] H _
 have hol : out.length ≤ 100000000010 := by
  have := congrArg List.length he
  simp only [List.length_append] at this
  omega
 refine zC ?_
 refine cr <| s_ Qa <| s_ Vo <| zC ?_
 refine ci ?_ ?_
 ·intro hge
  have hge' : 128 ≤ u := by omega
  cases k with
  | zero => exact absurd hu (by omega)
  | succ k =>
   refine zC ?_
   refine cr <| s_ Qa <| s_ Qa <| s_ Ma <| s_ Yv <| s_ Vg ?_
   rw [Rl u]
   refine s_ JG ?_
   refine LE (ho := ho) (A := []) (B := []) (ys := [eb (UInt8.ofNat (u % 128 + 128))]) (f := true) (eb1 _) (fun v' Hs' ho' => ?_) (hH := by simp)
   refine s_ Qb <| zC ?_
   refine cr <| s_ Qa <| s_ ZM ?_
   rw [Oe u]
   refine s_ Qb <| zC ?_
   refine ⟨⟨k, u / 128, out ++ [UInt8.ofNat (u % 128 + 128)], v', Hs'⟩, ⟨?_, ?_, ?_⟩, (by simp only []; omega), eL, by simp only [List.nil_append, List.append_nil]; exact kR⟩
   ·simp only
    unfold OB
    rw [List.map_append]
    exact ho'
   ·simp only
    rw [← he, Dd hge', List.append_assoc]
    rfl
   ·simp only
    rw [R9] at hu
    exact Nat.div_lt_of_lt_mul (by omega)
 ·intro hlt
  have hlt' : u < 128 := by omega
  refine zC ?_
  refine cr <| s_ Qa <| s_ Qa <| s_ Yv ?_
  rw [Rm hlt']
  refine s_ JG ?_
  refine LE (ho := ho) (A := []) (B := []) (ys := [eb (UInt8.ofNat u)]) (f := true) (eb1 _) (fun v' Hs' ho' => ?_) (hH := by simp)
  rw [V8 hlt'] at he
  have ho2 : OB (b ++ Xz n) v' Hs' := by rw [← he]; unfold OB; rw [List.map_append]; exact ho'
  refine QI (FnH.lend (G := Hs') (Qg.cons (ho2.lend fun _ h => h) Qg.nil) (Zx false (b ++ Xz n) (by simp only [List.length_append]; omega))) (fun r H' ⟨hr1, hr2⟩ => ?_)
  subst hr1 hr2
  refine s_ Qb <| zC ?_
  refine zE ?_
  exact Le.refl _
theorem DN (f g : Bool) (b s : List UInt8) (hb : b.length ≤ 10000000000) (hs : s.length ≤ 10000000000) : FnP Tryz.prog 173 [.sl f (b.map eb), .sl g (s.map eb)] (fun r => r = bl (b ++ Xz s.length ++ s)) := by
 have hlen := Xi s.length
 have hi := We f b (s.length : Nat) (by omega) (by omega) (by omega)
 have hc := LG true [(false, b ++ Xz s.length), (g, s)] (by simp [JZ]; omega) (by simp)
 refine fe Tryz.func173 fun S0 w0 => ?_
 show Sim _ _ [(0, T.sl f (b.map eb)), (1, T.sl g (s.map eb))] _ _
 refine zC ?_
 refine cr <| s_ Qb <| zC ?_
 refine cr <| s_ Qa <| s_ Qa ?_
 (first | refine s_ QP ?_ | refine s_ QO ?_)
 rw [List.length_map]
 refine s_ (QQ (hi)) <| s_ Qa <| s_ JG <| s_ (QQ (hc)) <| s_ Qb <| zC ?_
 refine zE ?_
 exact Le.of_eq (by simp [JZ, bl]; rfl)
end Go.Proofs.YtjbokbikkcfjjaaGreat
namespace Go.Cap
section
variable {K : Ctx} {t : Env} {H : Qc} {N : Env → Qc → Prop} {ty ty' tp : TypeId} {pos : String} {aft : Array Edge} {g : Option (Nat × Bool)} {ops : Array Oper} {i : Nat} {l : List Oper} {kd : Tmp} {eff : List Nat} {pend : List Xg} {al : List (Nat × Oper)}
theorem Ts {c : Code} {Ψ : Exit → Env → Qc → Prop} {G H1 : Qc} {d : T} (k : Nat) (x : T) (hl : Qx G d x) (hp : H.Perm (G ++ H1)) (h : Sim K c ((k, x) :: t) H1 Ψ) (hg : t.get k = d := by rfl) : Sim K c t H Ψ :=
 Z2 (G := G) (H1 := H1) [(k, x)] hp ⟨hg ▸ hl, trivial⟩ h
end
section
variable {P : Program} {t : Env} {H : Qc} {dst : Option Tmp} {tp : TypeId} {pos : String} {aft : Array Edge} {g : Option (Nat × Bool)} {ty : TypeId} {x l' h' m' : Operand} {dx : T} {f : Bool} {xs : List T} {k k' k2 : IntKind} {i j m : Int} {d : T} {by_ kk : Nat}
theorem Ok {S : Nat → Prop} {w : World} {p : Option Addr} {n c hi : Nat} (h : Rel S w (.sl f xs) (.slice p n c)) (h2 : hi ≤ xs.length) (hk : ∀ x ∈ xs, x.cells.length = kk) (h0 : 0 < kk) : Rel S w (.sl true (xs.take hi)) (.slice p hi hi) := by
 cases h with
 | nil =>
  have : hi = 0 := by simpa using h2
  subst this
  simp only [List.take_zero]
  exact .nil _ _ _ (fun _ => rfl)
 | sl _ _ b o cap vs k cs ty2 fz hS hb hr hg hf hc =>
  have hvl := hr.length
  have hlen : (vs.take hi).length = hi := by rw [List.length_take]; omega
  have := Rel.sl (S := S) (w := w) true (xs.take hi) b o hi (vs.take hi) k cs ty2 fz hS hb (hr.take hi) ⟨fun v hv => hg.1 v (List.mem_of_mem_take hv), by
   rw [← Jn _ _ hg.1, ← hg.2, List.take_take, hlen]
   congr 1
   have : hi * k ≤ vs.length * k := Nat.mul_le_mul_right _ (by omega)
   omega⟩ (fun _ => hlen.symm) (by omega)
  rwa [hlen] at this
theorem WQ {l h mx : Operand} (hx : t.ev x = dx) (hxl : Le dx (.sl f xs)) (hl : t.ev l = .v (.int k i)) (hh : t.ev h = .v (.int k' j)) (hm : t.ev mx = .v (.int k2 j)) [hz : QL P ty d by_] (h0 : 0 ≤ i) (h1 : i ≤ j) (h2 : j ≤ xs.length) (hk : ∀ x ∈ xs, x.cells.length = d.cells.length) :
  POp P t H ⟨dst, .slice ty x (some l) (some h) (some mx), tp, pos, aft, g⟩ (.sl true ((xs.drop i.toNat).take (j.toNat - i.toNat))) :=
 POp.still fun S w a _ _ hr => by
  have e1 := hr x (by simp [Op.operands]); rw [hx] at e1
  have e2 := hr l (by simp [Op.operands]); rw [hl] at e2
  have e3 := hr h (by simp [Op.operands]); rw [hh] at e3
  have e4 := hr mx (by simp [Op.operands]); rw [hm] at e4
  replace e1 := hxl _ _ _ e1
  obtain ⟨e, inf, hu, hinf, hs, hp⟩ := YI (P := P) (ty := ty) (d := d) (by_ := by_)
  obtain ⟨p, c, hsh, hle, _⟩ := Xw e1
  rw [hsh] at e1
  have hf := Ok (hi := j.toNat) e1 (by omega) (by rw [← hs] at hk; exact hk) hp
  have hb1 : (Instr.sliceBounds true xs.length c (some (a.eval l)) (some (a.eval h)) (some (a.eval mx))).run P w = .ok (i.toNat, j.toNat, j.toNat) w := by
   rw [e2.v_eq, e3.v_eq, e4.v_eq]
   simp [Instr.sliceBounds, Xn (P := P) (show 0 ≤ j by omega) (show j ≤ (c : Nat) by omega), Xn (P := P) (show 0 ≤ j by omega) (show j ≤ (j.toNat : Nat) by omega), Xn (P := P) h0 (show i ≤ (j.toNat : Nat) by omega)]
  have hb2 : (Instr.sliceBounds true j.toNat j.toNat (some (a.eval l)) (some (a.eval h)) none).run P w = .ok (i.toNat, j.toNat, j.toNat) w := by
   rw [e2.v_eq, e3.v_eq]
   simp [Instr.sliceBounds, Xn (P := P) (show 0 ≤ j by omega) (show j ≤ (j.toNat : Nat) by omega), Xn (P := P) h0 (show i ≤ (j.toNat : Nat) by omega)]
  have hlen : (xs.take j.toNat).length = j.toNat := by rw [List.length_take]; omega
  obtain ⟨v, hv, hrel⟩ := Uv (P := P) (ty := ty) (inf := inf) (lo := i.toNat) (hi := j.toNat) (ol := some (a.eval l)) (oh := some (a.eval h)) (om := none) hf (by rw [hs]; exact fun x hx => hk x (List.mem_of_mem_take hx)) hp (by omega) (by omega) hu hinf (by
   rw [hlen]; exact hb2)
  have heq : (Instr.sliceAt ty (.slice p xs.length c) (some (a.eval l)) (some (a.eval h)) (some (a.eval mx))).run P w = (Instr.sliceAt ty (.slice p j.toNat j.toNat) (some (a.eval l)) (some (a.eval h)) none).run P w := by
   simp [Instr.sliceAt, Instr.slice, run_underlying hu, hb1, hb2]
  rw [← heq] at hv
  refine ⟨v, by simp [execOp, hsh, hv], ?_⟩
  have hb : Nat.beq j.toNat (xs.take j.toNat).length = true := by rw [hlen]; exact Nat.beq_refl _
  have e5 : ((xs.take j.toNat).drop i.toNat).take (j.toNat - i.toNat) = (xs.drop i.toNat).take (j.toNat - i.toNat) := by
   rw [List.drop_take, List.take_take, Nat.min_self]
  rw [hb, Bool.and_true, e5] at hrel
  exact hrel
theorem B3 [hz : QL P ty d by_] (hx : t.ev x = dx := by exact zl) (hxl : Le dx (.sl false xs) := by exact zL) (hl : t.ev l' = .v (.int k i) := by exact zl) (h0 : 0 ≤ i := by exact zo) (h2 : i ≤ xs.length := by exact zo) (hk : ∀ x ∈ xs, x.cells.length = d.cells.length := by exact zk) :
  POp P t H ⟨dst, .slice ty x (some l') none none, tp, pos, aft, g⟩ (.sl false (xs.drop i.toNat)) := Vd hx hxl hl h0 h2 hk
theorem B4 [hz : QL P ty d by_] (hx : t.ev x = dx := by exact zl) (hxl : Le dx (.sl false xs) := by exact zL) (hl : t.ev l' = .v (.int k i) := by exact zl) (h0 : 0 ≤ i := by exact zo) (h2 : i ≤ xs.length := by exact zo) (hk : ∀ x ∈ xs, x.cells.length = d.cells.length := by exact zk) :
  POp P t H ⟨dst, .slice ty x none (some l') none, tp, pos, aft, g⟩ (.sl false (xs.take i.toNat)) := Ve hx hxl hl h0 h2 hk
end
end Go.Cap
namespace Go.Proofs.YtjbokbikkcfjjaaGreat
open Go.Cap
attribute [local irreducible] POp Qf TO EOp Sim FnH T.gp
def tR : TypeId := 179
def RdH (b : Nat) (l : List UInt8) : Qc := [(b, ⟨tR, [bl l, ei 0], 2⟩)]
theorem Bg (f : Bool) (l : List UInt8) (hl : l.length ≤ 1000000000000) : FnH Tryz.prog 97 [.sl f (l.map eb)] [] (fun r H => ∃ b, r = pW b ∧ H = RdH b l) := by
 have hc := Zx f l hl
 refine fe Tryz.func97 fun S0 w0 => ?_
 show Sim _ _ [(0, T.sl f (l.map eb))] _ _
 refine zC ?_
 refine cr <| s_ Qb <| zC ?_
 refine cr <| s_ Qa <| s_ (QQ (hc)) <| s_ (ZF 2 [_, _]) ?_
 refine X1 fun b6 _ => ?_
 refine s_ Qb <| zC ?_
 refine zR ?_
 exact rh kR ⟨_, rfl, rfl⟩ (Le.refl _)
theorem MT {b : Nat} {l : List UInt8} (n : Nat) (hn : n ≤ l.length) (hl : l.length ≤ 1000000000000) : FnH Tryz.prog 155 [pW b, ei n] (RdH b l) (fun r H => r = bl (l.take n) ∧ H = RdH b (l.drop n)) := by
 refine fe Tryz.func155 fun S0 w0 => ?_
 show Sim _ _ [(0, pW b), (1, ei n)] _ _
 unfold RdH bl
 refine zC ?_
 refine cr <| s_ Qb <| zC ?_
 refine cr <| s_ Qa <| s_ Qa <| s_ Qe <| s_ Qd <| s_ Ql ?_
 (first | refine s_ QP ?_ | refine s_ QO ?_)
 refine s_ Yu <| zC ?_
 refine ci ?_ ?_
 ·intro h; exact absurd h (by simp only [List.length_map]; omega)
 intro _
 refine zC ?_
 refine cr <| s_ Qa <| s_ Qe <| s_ Qd <| s_ Ql <| s_ Qa <| s_ B4 <| s_ Qb <| zC ?_
 refine cr <| s_ Qa <| s_ Qa <| s_ Qe <| s_ Qd <| s_ Ql <| s_ Qa <| s_ B3 <| s_ Qe <| s_ Qd <| Qz ?_
 refine zC ?_
 refine cr <| s_ Qa <| s_ Qb <| zC ?_
 refine zR ?_
 refine rh kR ⟨rfl, ?_⟩ ?_
 ·simp [RdH, bl]
 ·exact Le.of_eq (by simp [XW, bl])
theorem Rn (u : Nat) : (UInt8.ofNat (u % 128 + 128)).toNat = u % 128 + 128 := by
 have key : ∀ i : Fin 128, (UInt8.ofNat (i.val + 128)).toNat = i.val + 128 := by decide +kernel
 exact key ⟨u % 128, Nat.mod_lt _ (by omega)⟩
theorem ET {u : Nat} (h : u < 128) : (UInt8.ofNat u).toNat = u := by
 have key : ∀ i : Fin 128, (UInt8.ofNat i.val).toNat = i.val := by decide +kernel
 exact key ⟨u, h⟩
theorem It (k w : Nat) (hk : k = 0 → w < 128) : ∃ c tl, JY k w = c :: tl ∧ c.toNat % 128 = w % 128 ∧ (c.toNat < 128 ↔ w < 128) ∧ (c.toNat = 0 → w = 0) ∧ (w ≤ 1 → c.toNat ≤ 1) ∧ (w < 128 → tl = []) ∧ (128 ≤ w → tl = JY (k - 1) (w / 128)) := by
 by_cases hw : w < 128
 ·refine ⟨_, _, V8 hw, ?_⟩
  have := ET hw
  exact ⟨by omega, by omega, by omega, by omega, fun _ => rfl, by omega⟩
 ·cases k with
  | zero => exact absurd (hk rfl) hw
  | succ k =>
   refine ⟨_, _, Dd (by omega), ?_⟩
   have := Rn w
   exact ⟨by omega, by omega, by omega, by omega, by omega, fun _ => rfl⟩
theorem Im {U j : Nat} {c : UInt8} (hU : U < 18446744073709551616) (hj : j ≤ 9) (hc : c.toNat % 128 = U / 2 ^ (7 * j) % 128) :
  bOr .u64 ((U % 2 ^ (7 * j) : Nat) : Int) (Zy .u64 (IntKind.u64.wrap ((c.toNat : Int).tmod 128)) (7 * (j : Int))) = ((U % 2 ^ (7 * (j + 1)) : Nat) : Int) := by
 have e1 : (c.toNat : Int).tmod 128 = ((c.toNat % 128 : Nat) : Int) := rfl
 have hp : 2 ^ (7 * (j + 1)) = 2 ^ (7 * j) * 128 := by rw [show 7 * (j + 1) = 7 * j + 7 by omega, Nat.pow_add]
 have hsum : U % 2 ^ (7 * (j + 1)) = U % 2 ^ (7 * j) + 2 ^ (7 * j) * (c.toNat % 128) := by rw [hp, Nat.mod_mul, hc]
 have hlt : U % 2 ^ (7 * j) < 2 ^ (7 * j) := Nat.mod_lt _ (Nat.pow_pos (by omega))
 have hle : U % 2 ^ (7 * (j + 1)) ≤ U := Nat.mod_le _ _
 generalize U % 2 ^ (7 * (j + 1)) = R at *
 generalize U % 2 ^ (7 * j) = A at *
 generalize c.toNat % 128 = x at *
 rw [e1, Zk (by omega) (by omega)]
 have e2 : Zy .u64 (x : Int) (7 * (j : Int)) = ((2 ^ (7 * j) * x : Nat) : Int) := by
  unfold Zy
  rw [show min (7 * (j : Int)).toNat IntKind.u64.bits = 7 * j by simp only [IntKind.bits]; omega]
  have : (x : Int) * 2 ^ (7 * j) = ((2 ^ (7 * j) * x : Nat) : Int) := by push_cast; rw [Int.mul_comm]
  rw [this, Zk (by omega) (by omega)]
 rw [e2]
 unfold bOr
 have e3 : (BitVec.ofInt IntKind.u64.bits (A : Int) ||| BitVec.ofInt IntKind.u64.bits ((2 ^ (7 * j) * x : Nat) : Int)).toNat = R := by
  rw [BitVec.toNat_or, BitVec.toNat_ofInt, BitVec.toNat_ofInt]
  show ((A : Int) % 18446744073709551616).toNat ||| (((2 ^ (7 * j) * x : Nat) : Int) % 18446744073709551616).toNat = _
  rw [show ((A : Int) % 18446744073709551616).toNat = A by omega, show (((2 ^ (7 * j) * x : Nat) : Int) % 18446744073709551616).toNat = 2 ^ (7 * j) * x by omega, Nat.or_comm,
   ← Nat.two_pow_add_eq_or_of_lt hlt x]
  omega
 rw [e3]
 exact Zk (by omega) (by omega)
theorem DH (U j : Nat) : U / 2 ^ (7 * (j + 1)) = U / 2 ^ (7 * j) / 128 := by
 rw [Nat.div_div_eq_div_mul, show 7 * (j + 1) = 7 * j + 7 by omega, Nat.pow_add]
theorem E9 (u : Nat) : WF .u64 (u : Int) 1 = ((u / 2 : Nat) : Int) := by
 unfold WF
 rw [show min (1 : Int).toNat IntKind.u64.bits = 1 by rfl, show (2 : Int) ^ 1 = 2 by rfl, Int.fdiv_eq_ediv_of_nonneg _ (by omega)]
 omega
theorem YS {a : Int} (h0 : -9223372036854775808 ≤ a) (h1 : a ≤ 9223372036854775807) : IntKind.i64.wrap a = a := by
 simp [IntKind.wrap, IntKind.bits, IntKind.signed]
 omega
theorem Lk {b : Nat} {l rest : List UInt8} (n : Int) (h0 : -9223372036854775808 ≤ n) (h1 : n ≤ 9223372036854775807) (hl : l = Xz n ++ rest) (hr : l.length ≤ 1000000000000) : FnH Tryz.prog 131 [pW b] (RdH b l) (fun r H => r = ei n ∧ H = RdH b rest) := by
 subst hl
 have hU := MK h0 h1
 have hbk := Ro n
 generalize hUU : ZW n = U at hU hbk
 refine fe Tryz.func131 fun S0 w0 => ?_
 show Sim _ _ [(0, pW b)] (RdH b (Xz n ++ rest)) _
 refine zC ?_
 refine cr <| s_ Qb <| zC ?_
 refine cr <| s_ Qb <| zC ?_
 refine cr <| s_ Qb <| zC ?_
 apply Qo (σ := Nat × List UInt8) (ok := fun s => s.1 ≤ 9 ∧ (0 < s.1 → 1 ≤ U / 2 ^ (7 * s.1)) ∧ s.2 = JY (9 - s.1) (U / 2 ^ (7 * s.1)) ++ rest ∧ s.2.length ≤ 1000000000000) (env := fun s => [(4, ei s.1), (3, .v (.int .u64 (U % 2 ^ (7 * s.1) : Nat))), (0, pW b)]) (heap := fun s => RdH b s.2) (μ := fun s => 10 - s.1) (s0 := (0, Xz n ++ rest))
 ·refine ⟨Nat.zero_le _, fun h => absurd h (by simp only; omega), ?_, hr⟩
  simp only [Xz, hUU]
  simp
 ·refine ⟨?_, ?_, eL⟩
  ·apply Qi; (exact zG)
   exact Le.refl _
  ·apply Qi; (exact zG)
   exact Le.of_eq (by simp [Nat.mod_one])
 ·exact kR
 rintro ⟨j, l⟩ ⟨hj, hw1, hll, hr⟩
 simp only at hj hw1 hll hr
 subst hll
 show Sim _ _ [(4, ei j), (3, .v (.int .u64 (U % 2 ^ (7 * j) : Nat))), (0, pW b)] (RdH b (JY (9 - j) (U / 2 ^ (7 * j)) ++ rest)) _
 have hw9 : 9 - j = 0 → U / 2 ^ (7 * j) < 128 := fun h => by
  have : j = 9 := by omega
  subst this
  omega
 obtain ⟨c, tl, hc, c1, c2, c3, c4, c5, c6⟩ := It (9 - j) (U / 2 ^ (7 * j)) hw9
 rw [hc] at hr ⊢
 refine zC ?_
 refine cr <| s_ Qa ?_
 refine QI (MT (b := b) (l := c :: tl ++ rest) 1 (by simp) hr) (fun r H' ⟨hr1, hr2⟩ => ?_)
 subst hr1 hr2
 show Qf _ _ _ _ ((9, bl [c]) :: _) (RdH b (tl ++ rest)) _
 refine s_ (YE (d := eb c) (hd := rfl)) ?_
 (first | refine s_ Qm ?_ | refine s_ Ql ?_)
 refine s_ Qb <| zC ?_
 refine cr <| s_ Qa <| s_ XF <| s_ Qa <| gT (fun hg => Qa) ?_
 refine gT (fun hg => Yu (hx := u_ hg)) ?_
 refine s_ XX <| s_ Qa <| gF (fun hg => Qa) ?_
 refine gF (fun hg => Yu (hx := u_ hg)) ?_
 refine gF (fun hg => Qa (hx := u_ hg)) ?_
 refine hT (fun hg => Qa) ?_
 refine hT (fun hg => XF (hx := u_ hg)) ?_
 refine gF (fun hg => Aa hg) ?_
 refine s_ YW <| zC ?_
 refine ci ?_ ?_
 ·intro h
  have hcn : (c.toNat : Int) = 0 → c.toNat = 0 := by omega
  rcases h with ⟨h1, h2⟩ | ⟨h1, h2⟩
  ·have hj9 : j = 9 := by omega
   subst hj9
   have := c4 (by omega)
   omega
  ·have := c3 (by omega)
   have := hw1 (by omega)
   omega
 intro _
 refine zC ?_
 refine cr <| s_ Qa <| s_ Qa <| s_ Ma <| s_ Yv <| s_ Qa <| s_ Aw <| s_ UD <| s_ Vg ?_
 rw [Im hU hj c1]
 refine s_ Qb <| zC ?_
 refine cr <| s_ Qa <| s_ QU <| zC ?_
 refine ci ?_ ?_
 ·intro hlt
  have hlt' : U / 2 ^ (7 * j) < 128 := c2.1 (by omega)
  have hmod : U % 2 ^ (7 * (j + 1)) = U := Nat.mod_eq_of_lt (by
   have := DH U j
   rw [Nat.div_eq_of_lt hlt'] at this
   exact (Nat.div_eq_zero_iff.1 this).resolve_left (by have : 0 < 2 ^ (7 * (j + 1)) := Nat.pow_pos (by omega); omega))
  rw [hmod, c5 hlt', List.nil_append]
  refine zC ?_
  refine cr <| s_ Qa <| s_ Ma <| s_ XF <| zC ?_
  refine ci ?_ ?_
  ·intro hodd
   have hodd' : U % 2 = 1 := by
    rw [show (U : Int).tmod 2 = ((U % 2 : Nat) : Int) from rfl] at hodd
    omega
   unfold GX at hbk
   rw [if_pos hodd'] at hbk
   refine zC ?_
   refine cr <| s_ Qa <| s_ ZM ?_
   rw [E9]
   refine s_ Yv ?_
   rw [YS (a := ((U / 2 : Nat) : Int)) (by omega) (by omega)]
   refine s_ (Gh (a := ((U / 2 : Nat) : Int)) (zl)) ?_
   rw [YS (a := 0 - ((U / 2 : Nat) : Int)) (by omega) (by omega)]
   refine s_ Zp <| s_ Qb <| zC ?_
   refine zR ?_
   refine rh kR ⟨rfl, rfl⟩ ?_
   exact Le.of_eq (by simp only [XW, ei]; congr 2; omega)
  ·intro hodd
   have hodd' : ¬ U % 2 = 1 := by
    rw [show (U : Int).tmod 2 = ((U % 2 : Nat) : Int) from rfl] at hodd
    omega
   unfold GX at hbk
   rw [if_neg hodd'] at hbk
   refine zC ?_
   refine cr <| s_ Qa <| s_ ZM ?_
   rw [E9]
   refine s_ Yv ?_
   rw [YS (a := ((U / 2 : Nat) : Int)) (by omega) (by omega)]
   refine s_ Qb <| zC ?_
   refine zR ?_
   refine rh kR ⟨rfl, rfl⟩ ?_
   exact Le.of_eq (by simp only [XW, ei]; congr 2)
 ·intro hge
  have hge' : 128 ≤ U / 2 ^ (7 * j) := by
   have : ¬ U / 2 ^ (7 * j) < 128 := fun h => hge (by have := c2.2 h; omega)
   omega
  have hdn := DH U j
  rw [c6 hge'] at hc ⊢
  refine zC ?_
  refine cr <| s_ Qa <| s_ QY <| s_ Qb <| zC ?_
  refine ⟨(j + 1, JY (9 - j - 1) (U / 2 ^ (7 * j) / 128) ++ rest), ⟨?_, ?_, ?_, ?_⟩, (by simp only []; omega), ⟨?_, eL⟩, kR⟩
  ·simp only; omega
  ·simp only; rw [hdn]; omega
  ·simp only; rw [hdn, show 9 - (j + 1) = 9 - j - 1 by omega]
  ·simp only
   rw [c6 hge', List.cons_append, List.length_cons] at hr
   omega
  ·apply Qi; (exact zG)
   exact Le.refl _
end Go.Proofs.YtjbokbikkcfjjaaGreat
namespace Go.Proofs.YtjbokbikkcfjjaaGreat
open Go.Cap
attribute [local irreducible] WZ Z9
theorem UH {b : Nat} {l rest : List UInt8} (n : Int) (h0 : -9223372036854775808 ≤ n) (h1 : n ≤ 9223372036854775807) (hl : l = Xz n ++ rest) (hr : l.length ≤ 1000000000000) : FnH Tryz.prog 98 [pW b] (RdH b l) (fun r H => r = ei n ∧ H = RdH b rest) := by
 have hn := Lk (b := b) n h0 h1 hl hr
 refine JW Tryz.func98 (by rfl) (by rfl) ?_
 intro S0 w0 hw0
 show WZ _ _ _ [(0, pW b)] (RdH b l) _
 refine JC ?_
 refine zC ?_
 apply cr
 refine Mx fun b1 _ => ?_
 refine s_ Qb <| zC ?_
 refine ⟨rfl, ?_⟩
 refine ZK ?_
 refine d_s UE ?_
 refine VC [.pointer (some ⟨b1, 0, none⟩)] ?_ rfl rfl (zl)
 refine Uu hw0 ?_
 unfold RdH
 refine zC ?_
 refine cr <| s_ Ql <| s_ UE <| s_ Qb <| zC ?_
 refine cr <| s_ Ql <| s_ Qe <| s_ Qd <| s_ Ql <| s_ XF <| zC ?_
 refine ci ?_ ?_
 ·intro _
  refine zC ?_
  refine cr <| s_ Qa ?_
  refine Ug (fs := [pW b]) (args := []) (cs := []) hn (Hr := [_]) (List.Perm.swap _ _ _) (fun r H' ⟨hr1, hr2⟩ => ?_)
  subst hr1 hr2
  refine QA (List.Perm.swap _ _ _) ?_
  refine s_ Qb <| zC ?_
  refine cr <| s_ Qa <| s_ Qb <| zC ?_
  refine zC ?_
  apply Yt
  refine ⟨_, Br (i := 0) rfl rfl, ?_⟩
  rintro H1 rfl
  exact ⟨_, _, _, zrs, Le.refl _, ⟨rfl, rfl⟩, (Qh.skip _ _ _ kR).le⟩
 ·intro h; exact absurd rfl h
theorem RG {b : Nat} {l s rest : List UInt8} (hs : s.length ≤ 65535) (hl : l = Xz s.length ++ s ++ rest) (hr : l.length ≤ 1000000000000) : FnH Tryz.prog 132 [pW b] (RdH b l) (fun r H => r = bl s ∧ H = RdH b rest) := by
 have hn := Lk (b := b) (l := l) (rest := s ++ rest) (s.length : Nat) (by omega) (by omega) (by rw [hl, List.append_assoc]) hr
 have hlen : (s ++ rest).length ≤ 1000000000000 := by rw [hl] at hr; simp only [List.length_append] at hr ⊢; omega
 have ht := MT (b := b) (l := s ++ rest) s.length (by simp) hlen
 rw [List.take_left' rfl, List.drop_left' rfl] at ht
 have hc := Zx false s (by omega)
 refine JW Tryz.func132 (by rfl) (by rfl) ?_
 intro S0 w0 hw0
 show WZ _ _ _ [(0, pW b)] (RdH b l) _
 refine JC ?_
 refine zC ?_
 apply cr
 refine Mx fun b1 _ => ?_
 refine s_ Qb <| zC ?_
 refine ⟨rfl, ?_⟩
 refine ZK ?_
 refine d_s UE ?_
 refine VC [.pointer (some ⟨b1, 0, none⟩)] ?_ rfl rfl (zl)
 refine Uu hw0 ?_
 unfold RdH
 refine zC ?_
 refine cr <| s_ Ql <| s_ Qe <| s_ Qd <| s_ Ql <| s_ Yq <| zC ?_
 refine ci ?_ ?_
 ·intro h; exact absurd rfl h
 intro _
 refine zC ?_
 refine cr <| s_ Ql ?_
 refine Q2 (Hr := [_]) hn (List.Perm.swap _ _ _) (fun r H' ⟨hr1, hr2⟩ => ?_)
 subst hr1 hr2
 refine QA (List.Perm.swap _ _ _) ?_
 refine s_ Qb <| zC ?_
 refine cr <| s_ Qa <| s_ QU <| s_ Qa <| gF (fun hg => Qa) ?_
 refine gF (fun hg => Yu (hx := u_ hg)) ?_
 refine s_ YW <| zC ?_
 refine ci ?_ ?_
 ·intro h; exact absurd h (by omega)
 intro _
 refine zC ?_
 refine cr <| s_ Ql <| s_ Qa ?_
 refine Q2 (Hr := [_]) ht (List.Perm.swap _ _ _) (fun r H' ⟨hr1, hr2⟩ => ?_)
 subst hr1 hr2
 refine QA (List.Perm.swap _ _ _) ?_
 refine s_ (QQ (hc)) <| s_ Qb <| zC ?_
 refine zC ?_
 apply Yt
 refine ⟨_, RH (i := 0) rfl rfl, ?_⟩
 rintro H1 rfl
 exact ⟨_, _, _, zrs, Le.refl _, ⟨rfl, rfl⟩, (Qh.skip _ _ _ kR).le⟩
end Go.Proofs.YtjbokbikkcfjjaaGreat
namespace Go.Proofs.YtjbokbikkcfjjaaGreat
open Go.Cap
attribute [local irreducible] POp Qf TO EOp Sim FnH T.gp
def Zl (s : List UInt8) : List UInt8 := if s = [] then Xz 0 else Xz 1 ++ (Xz s.length ++ s)
theorem Uo (s : List UInt8) : (Zl s).length ≤ 20 + s.length := by
 have h0 := Xi 0
 have h1 := Xi 1
 have h2 := Xi s.length
 unfold Zl
 split
 ·omega
 ·simp only [List.length_append]; omega
theorem Gd {b : Nat} {l s rest : List UInt8} (hs : s.length ≤ 60000) (hl : l = Zl s ++ rest) (hr : l.length ≤ 1000000000) : FnH Tryz.prog 99 [pW b] (RdH b l) (fun r H => r = es s ∧ H = RdH b rest) := by
 refine fe Tryz.func99 fun S0 w0 => ?_
 show Sim _ _ [(0, pW b)] (RdH b l) _
 by_cases hs0 : s = []
 ·subst hs0
  have hi := UH (b := b) (l := l) (rest := rest) 0 (by omega) (by omega) (by rw [hl, Zl, if_pos rfl]) (by omega)
  refine zC ?_
  refine cr <| s_ Qb <| zC ?_
  refine cr <| s_ Qb <| zC ?_
  refine cr <| s_ Qa ?_
  refine QI hi (fun r H' ⟨hr1, hr2⟩ => ?_)
  subst hr1 hr2
  refine s_ Qa <| zC ?_
  apply Qo (σ := Unit) (ok := fun _ => True) (env := fun _ => [(6, ei 0), (5, ei 0), (3, .sl true (([] : List UInt8).map eb))]) (heap := fun _ => RdH b rest) (μ := fun _ => 0) (s0 := ())
  ·trivial
  ·refine ⟨?_, ?_, ?_, trivial⟩
   ·apply Qi; (exact zG)
    exact Le.refl _
   ·apply Qi; (exact zG)
    exact Le.refl _
   ·apply Qi; (exact zG)
    exact Le.slice0 _ _
  ·exact kR
  rintro ⟨⟩ _
  refine zC ?_
  refine cr <| s_ QU <| zC ?_
  refine ci ?_ ?_
  ·intro h; exact absurd h (by omega)
  intro _
  refine zC ?_
  refine cr <| s_ Qa <| s_ (A9 (l := [])) <| s_ Qb <| zC ?_
  refine zR ?_
  exact rh kR ⟨rfl, rfl⟩ (Le.refl _)
 ·have hl1 : l = Xz 1 ++ (Xz s.length ++ s ++ rest) := by rw [hl, Zl, if_neg hs0]; simp
  have hi := UH (b := b) (l := l) (rest := Xz s.length ++ s ++ rest) 1 (by omega) (by omega) hl1 (by omega)
  have ht := RG (b := b) (l := Xz s.length ++ s ++ rest) (s := s) (rest := rest) (by omega) rfl (by rw [hl1, List.length_append] at hr; omega)
  refine zC ?_
  refine cr <| s_ Qb <| zC ?_
  refine cr <| s_ Qb <| zC ?_
  refine cr <| s_ Qa ?_
  refine QI hi (fun r H' ⟨hr1, hr2⟩ => ?_)
  subst hr1 hr2
  refine s_ Qa <| zC ?_
  apply Qo (σ := Bool) (ok := fun _ => True) (env := fun k => [(6, ei (cond k 1 0)), (3, cond k (bl s) (.sl true (([] : List UInt8).map eb))), (5, ei 1), (0, pW b)]) (heap := fun k => RdH b (cond k rest (Xz s.length ++ s ++ rest))) (μ := fun k => cond k 0 1) (s0 := false)
  ·trivial
  ·refine ⟨?_, ?_, eL⟩
   ·apply Qi; (exact zG)
    exact Le.refl _
   ·apply Qi; (exact zG)
    exact Le.slice0 _ _
  ·exact kR
  rintro k _
  cases k with
  | false =>
   show Sim _ _ [(6, ei 0), (3, .sl true (([] : List UInt8).map eb)), (5, ei 1), (0, pW b)] (RdH b (Xz s.length ++ s ++ rest)) _
   refine zC ?_
   refine cr <| s_ QU <| zC ?_
   refine ci ?_ ?_
   ·intro _
    refine zC ?_
    refine cr <| s_ Qa <| s_ Qa ?_
    refine QI ht (fun r H' ⟨hr1, hr2⟩ => ?_)
    subst hr1 hr2
    refine s_ (Tm (xs := []) (ys := s.map eb) (f := false)) <| s_ Qb <| zC ?_
    refine cr <| s_ QY <| s_ Qa <| zC ?_
    refine ⟨true, trivial, (by decide), ⟨?_, ?_, eL⟩, kR⟩
    ·apply Qi; (exact zG)
     exact Le.refl _
    ·apply Qi; (exact zG)
     exact Le.refl _
   ·intro h; exact absurd h (by omega)
  | true =>
   show Sim _ _ [(6, ei 1), (3, bl s), (5, ei 1), (0, pW b)] (RdH b rest) _
   refine zC ?_
   refine cr <| s_ QU <| zC ?_
   refine ci ?_ ?_
   ·intro h; exact absurd h (by omega)
   intro _
   refine zC ?_
   refine cr <| s_ Qa <| s_ A9 <| s_ Qb <| zC ?_
   refine zR ?_
   exact rh kR ⟨rfl, rfl⟩ (Le.refl _)
end Go.Proofs.YtjbokbikkcfjjaaGreat
namespace Go.Cap
section
variable {P : Program} {t : Env} {H : Qc} {dst : Option Tmp} {tp : TypeId} {pos : String} {aft : Array Edge} {g : Option (Nat × Bool)} {ty : TypeId} {x l' h' m' : Operand} {dx : T} {f : Bool} {xs ys : List T} {k k' k2 : IntKind} {i j m : Int} {d : T} {by_ kk : Nat}
theorem Au (he : (xs.drop i.toNat).take (j.toNat - i.toNat) = ys) [hz : QL P ty d by_] (hx : t.ev x = dx := by exact zl) (hxl : Le dx (.sl f xs) := by exact zL) (hl : t.ev l' = .v (.int k i) := by exact zl) (hh : t.ev h' = .v (.int k' j) := by exact zl) (hm : t.ev m' = .v (.int k2 j) := by exact zl) (h0 : 0 ≤ i := by exact zo) (h1 : i ≤ j := by exact zo) (h2 : j ≤ xs.length := by exact zo) (hk : ∀ x ∈ xs, x.cells.length = d.cells.length := by exact zk) :
  POp P t H ⟨dst, .slice ty x (some l') (some h') (some m'), tp, pos, aft, g⟩ (.sl true ys) := he ▸ WQ hx hxl hl hh hm h0 h1 h2 hk
theorem UY (he : xs.drop i.toNat = ys) [hz : QL P ty d by_] (hx : t.ev x = dx := by exact zl) (hxl : Le dx (.sl false xs) := by exact zL) (hl : t.ev l' = .v (.int k i) := by exact zl) (h0 : 0 ≤ i := by exact zo) (h2 : i ≤ xs.length := by exact zo) (hk : ∀ x ∈ xs, x.cells.length = d.cells.length := by exact zk) :
  POp P t H ⟨dst, .slice ty x (some l') none none, tp, pos, aft, g⟩ (.sl false ys) := he ▸ Vd hx hxl hl h0 h2 hk
theorem Ei (he : xs.take i.toNat = ys) [hz : QL P ty d by_] (hx : t.ev x = dx := by exact zl) (hxl : Le dx (.sl false xs) := by exact zL) (hl : t.ev l' = .v (.int k i) := by exact zl) (h0 : 0 ≤ i := by exact zo) (h2 : i ≤ xs.length := by exact zo) (hk : ∀ x ∈ xs, x.cells.length = d.cells.length := by exact zk) :
  POp P t H ⟨dst, .slice ty x none (some l') none, tp, pos, aft, g⟩ (.sl false ys) := he ▸ Ve hx hxl hl h0 h2 hk
theorem Av (he : (xs.drop i.toNat).take (j.toNat - i.toNat) = ys) [hz : QL P ty d by_] (hx : t.ev x = dx := by exact zl) (hxl : Le dx (.sl false xs) := by exact zL) (hl : t.ev l' = .v (.int k i) := by exact zl) (hh : t.ev h' = .v (.int k' j) := by exact zl) (h0 : 0 ≤ i := by exact zo) (h1 : i ≤ j := by exact zo) (h2 : j ≤ xs.length := by exact zo) (hk : ∀ x ∈ xs, x.cells.length = d.cells.length := by exact zk) :
  POp P t H ⟨dst, .slice ty x (some l') (some h') none, tp, pos, aft, g⟩ (.sl false ys) := he ▸ L1 hx hxl hl hh h0 h1 h2 hk
end
end Go.Cap
namespace Go.Proofs.YtjbokbikkcfjjaaGreat
open Go.Cap
attribute [local irreducible] POp Qf TO EOp Sim FnH T.gp
def bt (l : List UInt8) : T := .sl true (l.map eb)
def pcs (s : List UInt8) : List (List UInt8) := if s = [] then [] else [s]
theorem Cm (s : List UInt8) (hs : s.length ≤ 60000) : ItC Tryz.prog 177 [.adr (.sl false (s.map eb)), .adr (ei 60000)] (fun p : List UInt8 => [bt p]) (fun xs => xs = pcs s) (fun pre => s ≠ [] ∧ pre = [s]) := by
 refine Do Tryz.func177 (by rfl) (by rfl) (by rfl) ?_
 intro c l' r I Ix Hx S w hlen _ _ hK h0 hY
 show Sim _ _ [(Tryz.f177.ntmps, .v undef), (0, .v (.func (.yield l') #[] #[])), (1, .adr (.sl false (s.map eb))), (2, .adr (ei 60000))] _ _
 refine zC ?_
 refine cr <| s_ Qb <| zC ?_
 apply Qo (σ := Bool × Qc) (ok := fun st => (st.1 = true → s ≠ []) ∧ I (cond st.1 [s] []) st.2) (env := fun st => [(4, ei (cond st.1 60000 0)), (Tryz.f177.ntmps, .v undef), (0, .v (.func (.yield l') #[] #[])), (1, .adr (.sl false (s.map eb))), (2, .adr (ei 60000))])
  (heap := fun st => st.2) (μ := fun st => cond st.1 0 1) (s0 := (false, Hx))
 ·exact ⟨by simp, h0⟩
 ·exact eL
 ·exact kR
 rintro ⟨k, H⟩ ⟨hk, hI⟩
 simp only at hk hI
 cases k with
 | false =>
  show Sim _ _ [(4, ei 0), (Tryz.f177.ntmps, .v undef), (0, .v (.func (.yield l') #[] #[])), (1, .adr (.sl false (s.map eb))), (2, .adr (ei 60000))] H _
  refine zC ?_
  refine cr <| s_ Qa <| s_ Qm ?_
  (first | refine s_ QP ?_ | refine s_ QO ?_)
  refine s_ QU <| zC ?_
  refine ci ?_ ?_
  ·intro hlt
   have hne : s ≠ [] := by rintro rfl; simp at hlt
   have hyc := hY [] s H hI ⟨hne, rfl⟩
   refine zC ?_
   refine ca [0, 1, 2, 3, 4, 5, 6] [] <| a_ (fun _ => Qm) <| a_ (fun _ => Qm) <| a_ (fun _ => Qa) <| a_ (fun _ => B3) ?_
   (first | refine a_ (fun _ => QP) ?_ | refine a_ (fun _ => QO) ?_)
   refine a_ (fun _ => WU) <| a_ (fun _ => Qb) ?_
   apply an
   refine zC ?_
   have e1 : 0 + min (60000 : Int) ((((s.map eb).drop (0 : Int).toNat).length : Nat) : Int) = ((s.length : Nat) : Int) := by simp; omega
   refine zC ?_
   refine cr <| s_ Qa <| s_ Qm <| s_ Qa <| s_ Qa <| s_ Qa <| s_ QY <| s_ Qa <| s_ Qa <| s_ QY ?_
   rw [e1]
   refine s_ (Au (xs := s.map eb) (ys := s.map eb) (i := 0) (j := ((s.length : Nat) : Int)) (by simp [List.take_of_length_le])) ?_
   refine TC (Hr := []) hyc (by simp) (hlen _) hK (fun H' hI' => ?_) (fun H' hI' => ?_)
   ·simp only [if_true] at hI'
    refine s_ YA <| zC ?_
    refine ci ?_ ?_
    ·intro h; exact absurd trivial h
    intro _
    refine zC ?_
    refine cr <| s_ Qa <| s_ Qm <| s_ QY <| s_ Qb <| zC ?_
    refine ⟨(true, H'), ⟨fun _ => hne, hI'⟩, (by show 0 < 1; omega), ⟨?_, eL⟩, by rw [List.append_nil]; exact kR⟩
    apply Qi; (exact zG)
    exact Le.refl _
   ·simp only [Bool.false_eq_true, if_false] at hI'
    refine s_ YA <| zC ?_
    refine ci ?_ ?_
    ·intro _
     refine zC ?_
     apply Yt
     simp only [YL, Zc, JS]
     rw [List.append_nil]
     exact GE ⟨hne, rfl⟩ hI'
    ·intro h; exact absurd (fun h => h) h
  ·intro hge
   have hs0 : s = [] := by
    have : s.length = 0 := by simp only [List.length_map] at hge; omega
    exact List.length_eq_zero_iff.1 this
   refine zC ?_
   exact Wd (xs := []) (by rw [pcs, if_pos hs0]) hI
 | true =>
  show Sim _ _ [(4, ei 60000), (Tryz.f177.ntmps, .v undef), (0, .v (.func (.yield l') #[] #[])), (1, .adr (.sl false (s.map eb))), (2, .adr (ei 60000))] H _
  refine zC ?_
  refine cr <| s_ Qa <| s_ Qm ?_
  (first | refine s_ QP ?_ | refine s_ QO ?_)
  refine s_ QU <| zC ?_
  refine ci ?_ ?_
  ·intro h; exact absurd h (by simp only [List.length_map]; omega)
  intro _
  refine zC ?_
  exact Wd (xs := [s]) (by rw [pcs, if_neg (hk rfl)]) hI
theorem Cn (s : List UInt8) : FnP Tryz.prog 172 [.sl false (s.map eb), ei 60000] (fun r => r = .clo 177 [] [.adr (.sl false (s.map eb)), .adr (ei 60000)]) := by
 refine fe Tryz.func172 fun S0 w0 => ?_
 show Sim _ _ [(0, T.sl false (s.map eb)), (1, ei 60000)] _ _
 refine zC ?_
 apply cr
 refine Mx fun b2 _ => ?_
 refine Mx fun b3 _ => ?_
 refine s_ Qb <| zC ?_
 refine cr <| s_ Ql <| s_ QU <| zC ?_
 refine ci ?_ ?_
 ·intro h; exact absurd h (by omega)
 intro _
 refine zC ?_
 refine cr <| s_ UE <| s_ Qb <| zC ?_
 refine Z2 (G := [_, _]) (H1 := []) [(4, .clo 177 [] [.adr (.sl false (s.map eb)), .adr (ei 60000)])] (by simp; rfl) ⟨?_, trivial⟩ ?_
 ·refine (show Env.get _ _ = _ from gZ) ▸ Qx.clo Qg.nil (Qg.cons (Qx.ptr (List.mem_cons_of_mem _ List.mem_cons_self) (.inl rfl) ?_ (by simp [T.cells]) (by simp [T.cells])) (Qg.cons (Qx.ptr List.mem_cons_self (.inl rfl) ?_ (by simp [T.cells, ei, Value.cells]) (by simp [T.cells, ei, Value.cells])) Qg.nil))
  ·exact Qg.le (LeL.refl _)
  ·exact Qg.le (LeL.refl _)
 ·refine zE ?_
  exact Le.refl _
def tBB : TypeId := 34
def OBB (l : List (List UInt8)) (v : Value) (Hs : Qc) : Prop := OSl tBB 1 (l.map bt) v Hs
theorem bt1 (l : List (List UInt8)) : ∀ x ∈ l.map bt, x.cells.length = 1 := zk
theorem TH (l : List (List UInt8)) : ∀ x ∈ l.map bt, x.solid := Z0 _ (fun _ => .inl rfl) _
theorem OBB.len {l : List (List UInt8)} {v : Value} {Hs : Qc} (h : OBB l v Hs) : ∃ p c, v = .slice p (l.map bt).length c := OSl.len h
theorem Rp (s : List UInt8) (hs : s.length ≤ 60000) : FnH Tryz.prog 176 [.v (.slice none 0 0), .clo 177 [] [.adr (.sl false (s.map eb)), .adr (ei 60000)]] [] (fun r H => ∃ v, r = .v v ∧ OBB (pcs s) v H) := by
 refine fe Tryz.func176 fun S0 w0 => ?_
 show Sim _ _ [(0, T.v (.slice none 0 0)), (1, T.clo 177 [] [.adr (.sl false (s.map eb)), .adr (ei 60000)])] _ _
 refine zC ?_
 apply cr
 refine Mx fun b2 _ => ?_
 refine s_ Qb <| zC ?_
 refine cr <| s_ Qa <| zC ?_
 refine W7 (Cm s hs) (by ((repeat (apply eS; rfl)); exact eZ)) (by rfl) rfl (fun (pre : List (List UInt8)) (H : Qc) => pre.length ≤ 1 ∧ ∃ v Hs, OBB pre v Hs ∧ H = (b2, ⟨117, [.v v], 1⟩) :: (Hs ++ []))
  (fun _ _ => False) .ret .ret (.inl ⟨rfl, rfl⟩) (fun _ => rfl) (by rfl) ⟨by simp, _, [], Y7, rfl⟩ ?_ ?_ ?_
 ·rintro pre x H1 ⟨hpl, v, Hs, ho, rfl⟩ ⟨hne, hsp⟩ l' S1 w1
  have hpl2 : pre.length = 0 := by have := congrArg List.length hsp; simp at this; simp [this]
  obtain ⟨p, c, rfl⟩ := ho.len
  simp only [VT]
  refine zC ?_
  refine cr <| s_ Qb <| zC ?_
  refine ⟨rfl, fun S2 w2 mk => ?_⟩
  refine zC ?_
  refine cr <| s_ Ql <| s_ Qa <| s_ JG ?_
  refine BG (ho := ho) (A := [_]) (B := []) (ys := [bt x]) (f := true) (bt1 _) (fun v' Hs' ho' => ?_)
  obtain ⟨p', c', rfl⟩ := ho'.len
  refine Qz ?_
  refine zC ?_
  refine ⟨_, kR, .inl ⟨rfl, by rw [List.length_append]; simp only [List.length_singleton]; omega, _, Hs', by unfold OBB; rw [List.map_append]; exact ho', rfl⟩⟩
 ·rintro xs H' rfl ⟨hpl, v, Hs, ho, rfl⟩
  obtain ⟨p, c, rfl⟩ := ho.len
  refine zC ?_
  refine zC ?_
  refine cr <| s_ Ql <| s_ Qb <| zC ?_
  refine zR ?_
  refine rh (.skip _ _ _ kR) ⟨_, rfl, by rw [List.append_nil]; exact ho⟩ (Le.refl _)
 ·rintro pre H' _ h
  exact h.elim
theorem ER (s : List UInt8) (hs : s.length ≤ 60000) : FnP Tryz.prog 171 [.clo 177 [] [.adr (.sl false (s.map eb)), .adr (ei 60000)]] (fun r => r = .sl false ((pcs s).map bt)) := by
 refine FnH.give (Φ := fun r H => ∃ v, r = .v v ∧ OBB (pcs s) v H) ?_ (by rintro r H ⟨v, rfl, ho⟩; exact OSl.lend ho (fun _ h => h) (bt1 _) (TH _))
 refine fe Tryz.func171 fun S0 w0 => ?_
 show Sim _ _ [(0, T.clo 177 [] [.adr (.sl false (s.map eb)), .adr (ei 60000)])] _ _
 refine zC ?_
 refine cr <| s_ Qb <| zC ?_
 refine cr <| s_ Qa ?_
 refine QI (Rp s hs) (fun r H' ⟨v, hr, ho⟩ => ?_)
 subst hr
 refine s_ Qb <| zC ?_
 refine zR ?_
 exact rh kR ⟨_, rfl, ho⟩ (Le.refl _)
theorem E4 (f : Bool) (b s : List UInt8) (hs : s.length ≤ 60000) (hb : b.length ≤ 1000000000) : FnP Tryz.prog 165 [.sl f (b.map eb), es s] (fun r => r = bl (b ++ Zl s)) := by
 have hc := Cn s
 have hcl := ER s hs
 have hi := We f b ((pcs s).length : Nat) (by unfold pcs; split <;> simp) (by unfold pcs; split <;> simp) (by omega)
 refine fe Tryz.func165 fun S0 w0 => ?_
 show Sim _ _ [(0, T.sl f (b.map eb)), (1, es s)] _ _
 refine zC ?_
 refine cr <| s_ Qb <| zC ?_
 refine cr <| s_ Qa <| s_ TV <| s_ (QQ (hc)) <| s_ (QQ (hcl)) <| s_ Qb <| zC ?_
 refine zC ?_
 refine cr <| s_ Qa <| s_ Qa ?_
 (first | refine s_ QP ?_ | refine s_ QO ?_)
 rw [List.length_map]
 refine s_ (QQ (hi)) <| s_ Qb <| zC ?_
 refine cr <| s_ Qa ?_
 (first | refine s_ QP ?_ | refine s_ QO ?_)
 refine s_ Qa <| zC ?_
 by_cases hs0 : s = []
 ·subst hs0
  apply Qo (σ := Unit) (ok := fun _ => True) (env := fun _ => [(18, ei 0), (17, ei 0), (0, bl (b ++ Xz 0))]) (heap := fun _ => []) (μ := fun _ => 0) (s0 := ())
  ·trivial
  ·exact eL
  ·exact kR
  rintro ⟨⟩ _
  refine zC ?_
  refine cr <| s_ QU <| zC ?_
  refine ci ?_ ?_
  ·intro h; exact absurd h (by omega)
  intro _
  refine zC ?_
  refine cr <| s_ Qa <| s_ Qb <| zC ?_
  refine zE ?_
  rw [Zl, if_pos rfl]
  exact Le.refl _
 ·have hi1 := Xi 1
  have ht := DN false true (b ++ Xz 1) s (by simp only [List.length_append]; omega) (by omega)
  have hp : pcs s = [s] := if_neg hs0
  rw [hp]
  apply Qo (σ := Bool) (ok := fun _ => True) (env := fun k => [(18, ei (cond k 1 0)), (0, bl (b ++ Xz 1 ++ cond k (Xz s.length ++ s) [])), (17, ei 1), (16, .sl false [bt s])]) (heap := fun _ => []) (μ := fun k => cond k 0 1) (s0 := false)
  ·trivial
  ·refine ⟨?_, ?_, eL⟩
   ·apply Qi; (exact zG)
    exact Le.refl _
   ·apply Qi; (exact zG)
    exact Le.of_eq (by simp)
  ·exact kR
  rintro k _
  cases k with
  | false =>
   show Sim _ _ [(18, ei 0), (0, bl (b ++ Xz 1 ++ [])), (17, ei 1), (16, .sl false [bt s])] _ _
   rw [List.append_nil]
   refine zC ?_
   refine cr <| s_ QU <| zC ?_
   refine ci ?_ ?_
   ·intro _
    refine zC ?_
    apply cr
    (first | refine s_ (Xd hix) ?_ | refine s_ (Xd hix2) ?_ | refine s_ YE ?_ | refine s_ ZE ?_)
    (first | refine s_ Qm ?_ | refine s_ Ql ?_)
    refine s_ Qb <| zC ?_
    refine cr <| s_ Qa <| s_ Qa <| s_ (QQ (ht)) <| s_ Qb <| zC ?_
    refine cr <| s_ QY <| s_ Qa <| zC ?_
    refine ⟨true, trivial, (by show 0 < 1; omega), ⟨?_, ?_, eL⟩, kR⟩
    ·apply Qi; (exact zG)
     exact Le.refl _
    ·apply Qi; (exact zG)
     exact Le.of_eq (by simp)
   ·intro h; exact absurd h (by omega)
  | true =>
   show Sim _ _ [(18, ei 1), (0, bl (b ++ Xz 1 ++ (Xz s.length ++ s))), (17, ei 1), (16, .sl false [bt s])] _ _
   refine zC ?_
   refine cr <| s_ QU <| zC ?_
   refine ci ?_ ?_
   ·intro h; exact absurd h (by omega)
   intro _
   refine zC ?_
   refine cr <| s_ Qa <| s_ Qb <| zC ?_
   refine zE ?_
   rw [Zl, if_neg hs0]
   exact Le.of_eq (by simp [XW])
end Go.Proofs.YtjbokbikkcfjjaaGreat
