/-
  Package code: numbers, texts, readers.
-/
import Derived.Test.YtjbokbikkcfjjaaGreatAal
set_option maxRecDepth 16000
set_option maxHeartbeats 8000000
set_option linter.all false
namespace Go.Cap
section
variable {P : Program} {t : Env} {H : Qd} {dst : Option Tmp} {ty ty' tp : TypeId} {pos : String} {aft : Array Edge} {g : Option (Nat × Bool)}
theorem MS {ms : Array (String × TypeId)} (w : World) {ty : TypeId} (hu : P.underlying ty = some (.interface ms)) (d : Nat) : (Op.equalIn (d + 1) ty .nilIface .nilIface).run P w = .ok true w := by
 simp [Op.equalIn, run_underlying hu]
theorem D8 {ms : Array (String × TypeId)} (w : World) {ty : TypeId} (hu : P.underlying ty = some (.interface ms)) : (Op.equal ty .nilIface .nilIface).run P w = .ok true w := MS w hu 9999
theorem SV {x : Operand} {ms : Array (String × TypeId)} (hx : t.ev x = .v .nilIface := by exact zl) (hu : P.underlying ty = some (.interface ms) := by rfl) : POp P t H ⟨dst, .binOp .eql ty x (.const .nilIface) ty', tp, pos, aft, g⟩ (.v (.bool (decide True))) :=
 Xx hx rfl fun w => by
  have := D8 w hu
  simp [eqGuard, binOp, this]
end
end Go.Cap
namespace Go.Proofs.YtjbokbikkcfjjaaGreat
open Go.Cap
attribute [local irreducible] POp Qi SO EOp Sim FnH T.gp
theorem DT (rp : Value) : FnP Tryz.prog 130 [.v rp, .v .nilIface] (fun r => r = .tup []) := by
 refine fe Tryz.func130 fun S0 w0 => ?_
 show Sim _ _ [(0, .v rp), (1, .v .nilIface)] _ _
 refine zC ?_
 refine cr <| s_ Qa <| s_ SV ?_
 refine cn ?_
 refine zC ?_
 refine ci (fun _ => ?_) (fun h => absurd trivial h)
 refine zE ?_
 exact Le.refl _
theorem PZ {H : Qd} {i bl : Nat} {kb : Blk} {rp : Value} (hH : H[i]? = some (bl, kb)) (hd : kb.cells[0]? = some (.v rp)) : DfH Tryz.prog 129 #[.pointer (some ⟨bl, 0, none⟩)] H (fun H' => H' = H) := by
 have hm : Tryz.prog.follows .mixedOrders = true := by kernel_rfl
 refine I3 (g := 130) Tryz.func129 (by rfl) (by rfl) (by rfl) hH hd (by rfl) (by kernel_rfl) (DT rp) fun t => ?_
 have h2 : t % 2 = 0 ∨ t % 2 = 1 := by omega
 unfold Region.schedule Region.linearise
 rw [hm]
 rcases h2 with h | h
 ·left
  simp [Region.linearise.go, List.range_succ, h, Region.binds, Nat.mod_one]
 ·right
  simp [Region.linearise.go, List.range_succ, h, Region.binds, Nat.mod_one]
theorem At {H : Qd} {i bl : Nat} {kb : Blk} {rp : Value} (hH : H[i]? = some (bl, kb)) (hd : kb.cells[0]? = some (.v rp)) : DfH Tryz.prog 156 #[.pointer (some ⟨bl, 0, none⟩)] H (fun H' => H' = H) := by
 have hm : Tryz.prog.follows .mixedOrders = true := by kernel_rfl
 refine I3 (g := 130) Tryz.func156 (by rfl) (by rfl) (by rfl) hH hd (by rfl) (by kernel_rfl) (DT rp) fun t => ?_
 have h2 : t % 2 = 0 ∨ t % 2 = 1 := by omega
 unfold Region.schedule Region.linearise
 rw [hm]
 rcases h2 with h | h
 ·left
  simp [Region.linearise.go, List.range_succ, h, Region.binds, Nat.mod_one]
 ·right
  simp [Region.linearise.go, List.range_succ, h, Region.binds, Nat.mod_one]
def JP (n : Int) : Nat := if n < 0 then 2 * (-(n + 1)).toNat + 1 else 2 * n.toNat
theorem E7 {n : Int} (h0 : -9223372036854775808 ≤ n) (h1 : n ≤ 9223372036854775807) : JP n < 18446744073709551616 := by
 unfold JP; split <;> omega
def I8 (u : Nat) : Int := if u % 2 = 1 then -((u / 2 : Nat) : Int) - 1 else ((u / 2 : Nat) : Int)
theorem BS (n : Int) : I8 (JP n) = n := by
 unfold I8 JP
 split <;> split <;> omega
def Vo : Nat → Nat → List UInt8
 | 0, u => [UInt8.ofNat u]
 | k + 1, u => if 128 ≤ u then UInt8.ofNat (u % 128 + 128) :: Vo k (u / 128) else [UInt8.ofNat u]
def Yg (n : Int) : List UInt8 := Vo 9 (JP n)
theorem GR : ∀ (k u : Nat), 1 ≤ (Vo k u).length ∧ (Vo k u).length ≤ k + 1
 | 0, u => ⟨Nat.le_refl _, Nat.le_refl _⟩
 | k + 1, u => by
  unfold Vo
  split
  ·have := GR k (u / 128)
   simp only [List.length_cons]; omega
  ·simp
theorem ZH {a : Int} (h0 : 0 ≤ a) (h1 : a < 18446744073709551616) : IntKind.u64.wrap a = a := by
 simp [IntKind.wrap, IntKind.bits, IntKind.signed]
 omega
theorem Ii {a : Int} (h0 : 0 ≤ a) (h1 : a < 9223372036854775808) : ZP .u64 a 1 = 2 * a := by
 unfold ZP
 rw [show min (1 : Int).toNat IntKind.u64.bits = 1 by rfl, ZH (by omega) (by omega)]
 omega
theorem Ks {a : Nat} (h1 : a < 9223372036854775808) : bOr .u64 (2 * (a : Int)) 1 = ((2 * a + 1 : Nat) : Int) := by
 unfold bOr
 have e : (BitVec.ofInt IntKind.u64.bits (2 * (a : Int)) ||| BitVec.ofInt IntKind.u64.bits 1).toNat = 2 * a + 1 := by
  rw [BitVec.toNat_or, BitVec.toNat_ofInt, BitVec.toNat_ofInt]
  show ((2 * (a : Int)) % 18446744073709551616).toNat ||| ((1 : Int) % 18446744073709551616).toNat = _
  rw [show ((2 * (a : Int)) % 18446744073709551616).toNat = 2 * a by omega, show ((1 : Int) % 18446744073709551616).toNat = 1 by rfl]
  have := Nat.two_pow_add_eq_or_of_lt (i := 1) (b := 1) (by decide) a
  rw [Nat.pow_one] at this
  exact this.symm
 rw [e]
 exact ZH (by omega) (by omega)
theorem Cl (n : Int) (h0 : -9223372036854775808 ≤ n) (h1 : n ≤ 9223372036854775807) : FnP Tryz.prog 170 [ei n] (fun r => r = .v (.int .u64 (JP n : Nat))) := by
 refine fe Tryz.func170 fun S0 w0 => ?_
 show Sim _ _ [(0, ei n)] _ _
 refine zC ?_
 refine cr <| s_ Qb <| zC ?_
 refine cr <| s_ Qa <| s_ QN <| zC ?_
 refine ci ?_ ?_
 ·intro hn
  refine zC ?_
  refine cr <| s_ Qa <| s_ QQ <| s_ (Iq (a := n + 1) (zl)) <| s_ YG <| s_ J0 <| s_ Vx <| s_ Qb <| zC ?_
  refine zE ?_
  refine Le.of_eq ?_
  show T.v (.int .u64 (bOr .u64 (ZP .u64 (IntKind.u64.wrap (IntKind.i64.wrap (0 - (n + 1)))) 1) 1)) = _
  obtain ⟨a, ha⟩ : ∃ a : Nat, 0 - (n + 1) = (a : Int) := ⟨(0 - (n + 1)).toNat, by omega⟩
  have hw : IntKind.i64.wrap (a : Int) = (a : Int) := by
   simp [IntKind.wrap, IntKind.bits, IntKind.signed]; omega
  rw [ha, hw, ZH (by omega) (by omega), Ii (by omega) (by omega), Ks (by omega)]
  have : JP n = 2 * a + 1 := by unfold JP; split <;> omega
  rw [this]
 ·intro hn
  refine zC ?_
  refine cr <| s_ Qa <| s_ YG <| s_ J0 <| s_ Qb <| zC ?_
  refine zE ?_
  refine Le.of_eq ?_
  show T.v (.int .u64 (ZP .u64 (IntKind.u64.wrap n) 1)) = _
  rw [ZH (by omega) (by omega), Ii (by omega) (by omega)]
  have : ((JP n : Nat) : Int) = 2 * n := by unfold JP; split <;> omega
  rw [this]
def tB : TypeId := 5
def bl (l : List UInt8) : T := .sl false (l.map eb)
def OB (l : List UInt8) (v : Value) (Hs : Qd) : Prop := OSl tB 1 (l.map eb) v Hs
theorem eb1 (l : List UInt8) : ∀ x ∈ l.map eb, x.cells.length = 1 := zk
theorem Sq (l : List UInt8) : ∀ x ∈ l.map eb, x.solid := JX _ (fun _ => .inl rfl) _
theorem OB.len {l : List UInt8} {v : Value} {Hs : Qd} (h : OB l v Hs) : ∃ p c, v = .slice p (l.map eb).length c := OSl.len h
theorem OB.lend {l : List UInt8} {v : Value} {Hs G : Qd} (h : OB l v Hs) (hG : ∀ p ∈ Hs, p ∈ G) : QJ G (.v v) (bl l) := OSl.lend h hG (eb1 l) (Sq l)
theorem DS (f : Bool) (l : List UInt8) (hl : l.length ≤ 1000000000000) : FnH Tryz.prog 127 [.sl f (l.map eb)] [] (fun r H => ∃ v, r = .v v ∧ OB l v H) := by
 refine fe Tryz.func127 fun S0 w0 => ?_
 show Sim _ _ [(0, T.sl f (l.map eb))] _ _
 refine zC ?_
 refine cr <| s_ Qb <| zC ?_
 refine cr <| s_ Qa ?_
 refine Zj 3 fun p c h1 _ => ?_
 refine s_ Kq <| zC ?_
 refine ci ?_ ?_
 ·intro hp
  have := h1 hp
  have : l = [] := by simpa using this
  subst this
  refine zC ?_
  refine cr <| s_ Qb <| zC ?_
  refine zR ?_
  exact rh kR ⟨_, rfl, YE⟩ (Le.refl _)
 ·intro hp
  refine zC ?_
  refine cr <| s_ XS ?_
  refine Zj 5 fun q c' _ h2 => ?_
  have := h2 rfl
  subst this
  refine s_ Qa ?_
  refine MG (ho := (J2 : OSl tB 1 [] _ [])) (A := []) (B := []) (fun _ h => by cases h) (fun v' Hs' ho => ?_)
  refine s_ Qb <| zC ?_
  refine zR ?_
  exact rh kR ⟨_, rfl, by simpa [OB] using ho⟩ (Le.refl _)
theorem Jo (f : Bool) (l : List UInt8) (hl : l.length ≤ 1000000000000) : FnP Tryz.prog 127 [.sl f (l.map eb)] (fun r => r = bl l) :=
 FnH.give (DS f l hl) (by rintro r H ⟨v, rfl, ho⟩; exact ho.lend fun _ h => h)
theorem TT (n : Nat) (hn : n ≤ 10000000000000) : FnH Tryz.prog 178 [.v (.slice none 0 0), ei n] [] (fun r H => ∃ v, r = .v v ∧ OB [] v H) := by
 refine fe Tryz.func178 fun S0 w0 => ?_
 show Sim _ _ [(0, T.v (.slice none 0 0)), (1, ei n)] _ _
 refine zC ?_
 refine cr <| s_ Qb <| zC ?_
 refine cr <| s_ Qa <| s_ QN <| zC ?_
 refine ci ?_ ?_
 ·intro h; exact absurd h (by omega)
 intro _
 refine zC ?_
 refine cr <| s_ Qa <| s_ Qa <| s_ HQ <| s_ Qa ?_
 (first | refine s_ QS ?_ | refine s_ QP ?_)
 refine s_ Yr <| s_ Yr <| s_ Qb <| zC ?_
 refine cr <| s_ Qa <| s_ XX <| zC ?_
 have e0 : (n : Int) - (((0 : Nat) : Int) - ((0 : Nat) : Int)) = n := by omega
 rw [e0]
 refine ci ?_ ?_
 ·intro h0
  have h0' : 0 < n := by omega
  refine zC ?_
  refine cr <| s_ Qa <| s_ Qa <| s_ HQ <| s_ (Di (p := none) (n := 0) (c := 0) (v := .slice none 0 0) (Nat.le_refl _) rfl) <| s_ Qa ?_
  refine Sv (n := n) (fun b c _ hc => ?_)
  refine s_ Qa ?_
  (first | refine s_ QS ?_ | refine s_ QP ?_)
  refine s_ (Di (p := some ⟨b, 0, none⟩) (n := n) (c := c) (j := ((0 : Nat) : Int)) (v := .slice (some ⟨b, 0, none⟩) 0 c) hc (by simp [YV, Addr.add])) <| s_ Qb <| zC ?_
  refine zC ?_
  refine cr <| s_ Qa <| s_ Qb <| zC ?_
  refine zR ?_
  exact rh kR ⟨_, rfl, .inr ⟨b, c, rfl, by simp, rfl⟩⟩ (Le.refl _)
 ·intro h0
  refine zC ?_
  refine cr <| s_ Qa <| s_ Qb <| zC ?_
  refine zR ?_
  exact rh kR ⟨_, rfl, YE⟩ (Le.refl _)
def Vp (rows : List (Bool × List UInt8)) : List UInt8 := rows.flatMap (·.2)
def Nf (p : Bool × List UInt8) : T := .sl p.1 (p.2.map eb)
theorem DU {rows : List (Bool × List UInt8)} {k : Nat} (hk : k < rows.length) : Vp (rows.take (k + 1)) = Vp (rows.take k) ++ (rows[k]'hk).2 := by
 unfold Vp
 rw [List.take_succ_eq_append_getElem hk, List.flatMap_append]
 simp
theorem I6 {rows : List (Bool × List UInt8)} (k : Nat) : (Vp (rows.take k)).length ≤ (Vp rows).length := by
 conv => rhs; rw [← List.take_append_drop k rows]
 unfold Vp
 rw [List.flatMap_append, List.length_append]
 omega
theorem DP (f : Bool) (rows : List (Bool × List UInt8)) (hn : (Vp rows).length ≤ 100000000000) (hr : rows.length ≤ 1000000) : FnP Tryz.prog 174 [.sl f (rows.map Nf)] (fun r => r = bl (Vp rows)) := by
 refine FnH.give (Φ := fun r H => ∃ v, r = .v v ∧ OB (Vp rows) v H) ?_ (by rintro r H ⟨v, rfl, ho⟩; exact ho.lend fun _ h => h)
 refine fe Tryz.func174 fun S0 w0 => ?_
 show Sim _ _ [(0, T.sl f (rows.map Nf))] _ _
 refine zC ?_
 refine cr <| s_ Qb <| zC ?_
 refine cr <| s_ Qb <| zC ?_
 refine cr <| s_ Qa ?_
 (first | refine s_ QS ?_ | refine s_ QP ?_)
 refine s_ Qa <| zC ?_
 apply Qm (σ := Nat) (ok := fun k => k ≤ rows.length) (env := fun k => [(11, ei k), (3, ei ((Vp (rows.take k)).length : Nat)), (10, ei (rows.length : Nat)), (9, .sl f (rows.map Nf)), (0, .sl f (rows.map Nf))]) (heap := fun _ => []) (μ := fun k => rows.length - k) (s0 := 0)
 ·exact Nat.zero_le _
 ·refine ⟨?_, ?_, ?_, eL⟩
  ·apply Qh; (exact zG)
   exact Le.refl _
  ·apply Qh; (exact zG)
   exact Le.refl _
  ·apply Qh; (exact zG)
   exact Le.of_eq (by simp [ei])
 ·exact kR
 intro k hk
 refine zC ?_
 refine cr <| s_ QN <| zC ?_
 refine ci ?_ ?_
 ·intro hlt
  have hlt' : k < rows.length := by omega
  have hnx := DU hlt'
  have hle := I6 (rows := rows) (k + 1)
  rw [hnx, List.length_append] at hle
  refine zC ?_
  apply cr
  (first | refine s_ (Q4 hix) ?_ | refine s_ (Q4 hix2) ?_ | refine s_ Yd ?_ | refine s_ Ys ?_)
  (first | refine s_ Qf ?_ | refine s_ Ql ?_)
  refine s_ Qb <| zC ?_
  refine cr <| s_ Qa <| s_ Qa ?_
  (first | refine s_ QS ?_ | refine s_ QP ?_)
  refine s_ QQ <| s_ Qb <| zC ?_
  refine cr <| s_ Qa <| s_ QN <| zC ?_
  refine ci ?_ ?_
  ·intro h; exact absurd h (by simp only [List.length_map]; omega)
  intro _
  refine zC ?_
  refine cr <| s_ QQ <| s_ Qa <| zC ?_
  refine ⟨k + 1, by omega, (by simp only []; omega), ⟨?_, ?_, eL⟩, kR⟩
  ·apply Qh; (exact zG)
   exact Le.refl _
  ·apply Qh; (exact zG)
   exact Le.of_eq (by rw [hnx]; simp [ei])
 intro hge
 have hke : k = rows.length := by omega
 subst hke
 rw [List.take_length]
 refine zC ?_
 refine cr <| s_ Qa ?_
 refine Q1 (Hs := []) (Hr := []) (TT (Vp rows).length (by omega)) (.refl _) (fun r H' ⟨v, hr, ho⟩ => ?_)
 subst hr
 refine s_ Qb <| zC ?_
 refine cr <| s_ Qa ?_
 (first | refine s_ QS ?_ | refine s_ QP ?_)
 refine s_ Qa <| zC ?_
 apply Qm (σ := Nat × Value × Qd) (ok := fun s => s.1 ≤ rows.length ∧ OB (Vp (rows.take s.1)) s.2.1 s.2.2) (env := fun s => [(27, ei s.1), (6, .v s.2.1), (26, ei (rows.length : Nat)), (25, .sl f (rows.map Nf))]) (heap := fun s => s.2.2) (μ := fun s => rows.length - s.1) (s0 := (0, v, H'))
 ·exact ⟨Nat.zero_le _, ho⟩
 ·refine ⟨?_, ?_, ?_, eL⟩
  ·apply Qh; (exact zG)
   exact Le.refl _
  ·apply Qh; (exact zG)
   exact Le.refl _
  ·apply Qh; (exact zG)
   exact Le.of_eq (by simp [ei])
 ·rw [List.append_nil]; exact kR
 rintro ⟨k, v, H⟩ ⟨hk, ho⟩
 simp only at hk ho
 refine zC ?_
 refine cr <| s_ QN <| zC ?_
 refine ci ?_ ?_
 ·intro hlt
  simp only at hlt
  have hlt' : k < rows.length := by omega
  have hnx := DU hlt'
  have hle := I6 (rows := rows) (k + 1)
  rw [hnx, List.length_append] at hle
  refine zC ?_
  apply cr
  (first | refine s_ (Q4 hix) ?_ | refine s_ (Q4 hix2) ?_ | refine s_ Yd ?_ | refine s_ Ys ?_)
  (first | refine s_ Qf ?_ | refine s_ Ql ?_)
  refine s_ Qb <| zC ?_
  refine cr <| s_ Qa <| s_ Qa ?_
  refine MG (ho := ho) (A := []) (B := []) (eb1 _) (fun v' Hs' ho' => ?_) (hH := by simp)
  refine s_ Qb <| zC ?_
  refine cr <| s_ QQ <| s_ Qa <| zC ?_
  refine ⟨(k + 1, v', Hs'), ⟨by simp only; omega, ?_⟩, (by simp only []; omega), ⟨?_, ?_, eL⟩, by simp only [List.nil_append, List.append_nil]; exact kR⟩
  ·simp only
   rw [hnx]
   unfold OB
   rw [List.map_append]
   exact ho'
  ·apply Qh; (exact zG)
   exact Le.refl _
  ·apply Qh; (exact zG)
   exact Le.refl _
 intro hge
 simp only at hge
 have hke : k = rows.length := by omega
 subst hke
 rw [List.take_length] at ho
 refine zC ?_
 refine cr <| s_ Qa <| s_ Qb <| zC ?_
 refine zR ?_
 exact rh kR ⟨v, rfl, ho⟩ (Le.refl _)
theorem GS {k u : Nat} (h : 128 ≤ u) : Vo (k + 1) u = UInt8.ofNat (u % 128 + 128) :: Vo k (u / 128) := by rw [Vo, if_pos h]
theorem Mf {k u : Nat} (h : u < 128) : Vo k u = [UInt8.ofNat u] := by
 cases k with
 | zero => rfl
 | succ k => rw [Vo, if_neg (by omega)]
theorem BK (u : Nat) : bOr .u8 (IntKind.u8.wrap ((u : Int).tmod 128)) 128 = ((UInt8.ofNat (u % 128 + 128)).toNat : Int) := by
 have key : ∀ i : Fin 128, bOr .u8 (IntKind.u8.wrap ((i.val : Nat) : Int)) 128 = ((UInt8.ofNat (i.val + 128)).toNat : Int) := by decide +kernel
 have h := key ⟨u % 128, Nat.mod_lt _ (by omega)⟩
 rw [show (u : Int).tmod 128 = ((u % 128 : Nat) : Int) from rfl]
 exact h
theorem BL {u : Nat} (h : u < 128) : IntKind.u8.wrap (u : Int) = ((UInt8.ofNat u).toNat : Int) := by
 have key : ∀ i : Fin 128, IntKind.u8.wrap ((i.val : Nat) : Int) = ((UInt8.ofNat i.val).toNat : Int) := by decide +kernel
 exact key ⟨u, h⟩
theorem Cy (u : Nat) : Vq .u64 (u : Int) 7 = ((u / 128 : Nat) : Int) := by
 unfold Vq
 rw [show min (7 : Int).toNat IntKind.u64.bits = 7 by rfl, show (2 : Int) ^ 7 = 128 by rfl, Int.fdiv_eq_ediv_of_nonneg _ (by omega)]
 omega
theorem A9 (k : Nat) : 2 ^ (7 * (k + 1 + 1)) = 2 ^ (7 * (k + 1)) * 128 := by
 rw [show 7 * (k + 1 + 1) = 7 * (k + 1) + 7 by omega, Nat.pow_add]
theorem XP (n : Int) : 1 ≤ (Yg n).length ∧ (Yg n).length ≤ 10 := GR 9 (JP n)
structure Fb where
 k : Nat
 u : Nat
 out : List UInt8
 v : Value
 H : Qd
theorem Mk (f : Bool) (b : List UInt8) (n : Int) (h0 : -9223372036854775808 ≤ n) (h1 : n ≤ 9223372036854775807) (hl : b.length ≤ 100000000000) : FnP Tryz.prog 164 [.sl f (b.map eb), ei n] (fun r => r = bl (b ++ Yg n)) := by
 have hlen := XP n
 have htl := E7 h0 h1
 refine fe Tryz.func164 fun S0 w0 => ?_
 show Sim _ _ [(0, T.sl f (b.map eb)), (1, ei n)] _ _
 refine zC ?_
 refine cr <| s_ Qb <| zC ?_
 refine cr <| s_ Qa ?_
 refine Q1 (Hs := []) (Hr := []) (DS f b (by omega)) (.refl _) (fun r H ⟨v, hr, ho⟩ => ?_)
 subst hr
 refine s_ Qb <| zC ?_
 refine cr <| s_ Qa <| s_ (Qr (Cl n h0 h1)) <| s_ Qb <| zC ?_
 apply Qm (σ := Fb) (ok := fun s => OB s.out s.v s.H ∧ s.out ++ Vo s.k s.u = b ++ Yg n ∧ s.u < 2 ^ (7 * (s.k + 1))) (env := fun s => [(6, .v (.int .u64 s.u)), (5, .v s.v)]) (heap := fun s => s.H) (μ := fun s => s.k) (s0 := ⟨9, JP n, b, v, H⟩)
 ·exact ⟨ho, rfl, by simp only; omega⟩
 ·exact eL
 ·rw [List.append_nil]; exact kR
 rintro ⟨k, u, out, v, H⟩ ⟨ho, he, hu⟩
 simp only at ho he hu
 show Sim _ _ [(6, .v (.int .u64 u)), (5, .v v)] H _
 have hol : out.length ≤ 100000000010 := by
  have := congrArg List.length he
  simp only [List.length_append] at this
  omega
 refine zC ?_
 refine cr <| s_ Qa <| s_ ZL <| zC ?_
 refine ci ?_ ?_
 ·intro hge
  have hge' : 128 ≤ u := by omega
  cases k with
  | zero => exact absurd hu (by omega)
  | succ k =>
   refine zC ?_
   refine cr <| s_ Qa <| s_ Qa <| s_ WN <| s_ YG <| s_ Vx ?_
   rw [BK u]
   refine s_ XS ?_
   refine MG (ho := ho) (A := []) (B := []) (ys := [eb (UInt8.ofNat (u % 128 + 128))]) (f := true) (eb1 _) (fun v' Hs' ho' => ?_) (hH := by simp)
   refine s_ Qb <| zC ?_
   refine cr <| s_ Qa <| s_ ZR ?_
   rw [Cy u]
   refine s_ Qb <| zC ?_
   refine ⟨⟨k, u / 128, out ++ [UInt8.ofNat (u % 128 + 128)], v', Hs'⟩, ⟨?_, ?_, ?_⟩, (by simp only []; omega), eL, by simp only [List.nil_append, List.append_nil]; exact kR⟩
   ·simp only
    unfold OB
    rw [List.map_append]
    exact ho'
   ·simp only
    rw [← he, GS hge', List.append_assoc]
    rfl
   ·simp only
    rw [A9] at hu
    exact Nat.div_lt_of_lt_mul (by omega)
 ·intro hlt
  have hlt' : u < 128 := by omega
  refine zC ?_
  refine cr <| s_ Qa <| s_ Qa <| s_ YG ?_
  rw [BL hlt']
  refine s_ XS ?_
  refine MG (ho := ho) (A := []) (B := []) (ys := [eb (UInt8.ofNat u)]) (f := true) (eb1 _) (fun v' Hs' ho' => ?_) (hH := by simp)
  rw [Mf hlt'] at he
  have ho2 : OB (b ++ Yg n) v' Hs' := by rw [← he]; unfold OB; rw [List.map_append]; exact ho'
  refine QY (FnH.lend (G := Hs') (Qk.cons (ho2.lend fun _ h => h) Qk.nil) (Jo false (b ++ Yg n) (by simp only [List.length_append]; omega))) (fun r H' ⟨hr1, hr2⟩ => ?_)
  subst hr1 hr2
  refine s_ Qb <| zC ?_
  refine zE ?_
  exact Le.refl _
theorem OC (f g : Bool) (b s : List UInt8) (hb : b.length ≤ 10000000000) (hs : s.length ≤ 10000000000) : FnP Tryz.prog 173 [.sl f (b.map eb), .sl g (s.map eb)] (fun r => r = bl (b ++ Yg s.length ++ s)) := by
 have hlen := XP s.length
 have hi := Mk f b (s.length : Nat) (by omega) (by omega) (by omega)
 have hc := DP true [(false, b ++ Yg s.length), (g, s)] (by simp [Vp]; omega) (by simp)
 refine fe Tryz.func173 fun S0 w0 => ?_
 show Sim _ _ [(0, T.sl f (b.map eb)), (1, T.sl g (s.map eb))] _ _
 refine zC ?_
 refine cr <| s_ Qb <| zC ?_
 refine cr <| s_ Qa <| s_ Qa ?_
 (first | refine s_ QS ?_ | refine s_ QP ?_)
 rw [List.length_map]
 refine s_ (Qr (hi)) <| s_ Qa <| s_ XS <| s_ (Qr (hc)) <| s_ Qb <| zC ?_
 refine zE ?_
 exact Le.of_eq (by simp [Vp, bl]; rfl)
end Go.Proofs.YtjbokbikkcfjjaaGreat
namespace Go.Cap
section
variable {K : Ctx} {t : Env} {H : Qd} {N : Env → Qd → Prop} {ty ty' tp : TypeId} {pos : String} {aft : Array Edge} {g : Option (Nat × Bool)} {ops : Array Oper} {i : Nat} {l : List Oper} {kd : Tmp} {eff : List Nat} {pend : List Xs} {al : List (Nat × Oper)}
theorem Vz {x y : Operand} {e : TypeId} {k : Nat} {xs ys : List T} {f : Bool} {dx dy d : T} {by_ : Nat} [hz : QB K.P ty d by_] (hx : t.ev x = dx) (hxl : Le dx (.sl true xs)) (hy : t.ev y = dy) (hyl : Le dy (.sl f ys)) (h0 : 0 < ys.length)
  (hkd : d.cells.length = k) (hk0 : Xc K.P ty = e) (hs : QE K.P ty' = true) (hkx : ∀ x ∈ xs, x.cells.length = k) (hky : ∀ x ∈ ys, x.cells.length = k) (hb : (xs.length + ys.length) * by_ ≤ 140737488355328) (hm : xs.length + ys.length ≤ 9223372036854775807)
  (hd : Nat.blt kd K.n = true) (h : ∀ v' Hs', OSl e k (xs ++ ys) v' Hs' → N ((kd, .v v') :: t) (Hs' ++ H)) : EOp K t H ⟨some kd, .call ⟨.builtin .append, #[x, y], #[ty, ty']⟩, tp, pos, aft, g⟩ N := by
 subst hkd hk0
 refine UV hx hxl hy hyl hs hkx hky h0 hb hm hd fun b c _ hc => ?_
 have := h (.slice (some ⟨b, 0, none⟩) (xs.length + ys.length) c) [(b, ⟨Xc K.P ty, (xs ++ ys).flatMap T.cells, c * d.cells.length⟩)] (.inr ⟨b, c, by simp, by simpa using hc, rfl⟩)
 simpa using this
theorem St {x y : Operand} {e : TypeId} {k : Nat} {xs ys : List T} {f : Bool} {dx dy d : T} {by_ : Nat} [hz : QB K.P ty d by_]
  (h : ∀ v' Hs', OSl e k (xs ++ ys) v' Hs' → Qi K ops (i + 1) l ((kd, .v v') :: t) (Hs' ++ H) N) (hx : t.ev x = dx := by exact zl) (hxl : Le dx (.sl true xs) := by exact zL) (hy : t.ev y = dy := by exact zl) (hyl : Le dy (.sl f ys) := by exact zL) (h0 : 0 < ys.length := by exact zo)
  (hkd : d.cells.length = k := by rfl) (hk0 : Xc K.P ty = e := by rfl) (hs : QE K.P ty' = true := by rfl) (hkx : ∀ x ∈ xs, x.cells.length = k := by exact zk) (hky : ∀ x ∈ ys, x.cells.length = k := by exact zk)
  (hb : (xs.length + ys.length) * by_ ≤ 140737488355328 := by exact zo) (hm : xs.length + ys.length ≤ 9223372036854775807 := by exact zo) (hd : Nat.blt kd K.n = true := by rfl) :
  Qi K ops i (⟨some kd, .call ⟨.builtin .append, #[x, y], #[ty, ty']⟩, tp, pos, aft, none⟩ :: l) t H N := Yw (Vz hx hxl hy hyl h0 hkd hk0 hs hkx hky hb hm hd h)
theorem SI {x y : Operand} {e : TypeId} {k : Nat} {xs ys : List T} {f : Bool} {dx dy d : T} {by_ : Nat} [hz : QB K.P ty d by_]
  (h : ∀ v' Hs', OSl e k (xs ++ ys) v' Hs' → XU ops ⟨some kd, .call ⟨.builtin .append, #[x, y], #[ty, ty']⟩, tp, pos, aft, none⟩ (Hs' ++ H) pend ∧ ∃ pend', Yf ops ⟨some kd, .call ⟨.builtin .append, #[x, y], #[ty, ty']⟩, tp, pos, aft, none⟩ pend pend' ∧ Qo K ops eff N al ((kd, .v v') :: t) (Hs' ++ H) pend') (hx : t.ev x = dx := by exact zl) (hxl : Le dx (.sl true xs) := by exact zL) (hy : t.ev y = dy := by exact zl) (hyl : Le dy (.sl f ys) := by exact zL) (h0 : 0 < ys.length := by exact zo)
  (hkd : d.cells.length = k := by rfl) (hk0 : Xc K.P ty = e := by rfl) (hs : QE K.P ty' = true := by rfl) (hkx : ∀ x ∈ xs, x.cells.length = k := by exact zk) (hky : ∀ x ∈ ys, x.cells.length = k := by exact zk)
  (hb : (xs.length + ys.length) * by_ ≤ 140737488355328 := by exact zo) (hm : xs.length + ys.length ≤ 9223372036854775807 := by exact zo) (hd : Nat.blt kd K.n = true := by rfl) (he : Q3 eff i = true := by rfl) :
  Qo K ops eff N ((i, ⟨some kd, .call ⟨.builtin .append, #[x, y], #[ty, ty']⟩, tp, pos, aft, none⟩) :: al) t H pend :=
 U1 (fun _ h1 => Vz ((h1 x (by simp [Op.operands, Call.operands])).trans hx) hxl ((h1 y (by simp [Op.operands, Call.operands])).trans hy) hyl h0 hkd hk0 hs hkx hky hb hm hd fun v' Hs' ho' => let ⟨h1, p', h2, h3⟩ := h v' Hs' ho'; ⟨_, p', rfl, h1, h2, h3⟩) he
theorem R.gets {t t' : Env} {a : Act} {w : World} (he : ∀ k, t.get k = t'.get k) (h : R K t H a w) : R K t' H a w := by
 obtain ⟨S, h⟩ := h
 exact ⟨S, h.size, h.defers.env (fun j => he _), h.step, h.own, h.mine, fun k => by rw [← he k]; exact h.env k⟩
theorem MC {x y : Operand} {e : TypeId} {k : Nat} {xs ys : List T} {v : Value} {Hs A B : Qd} {f : Bool} {dy d : T} {by_ : Nat} [hz : QB K.P ty d by_] (ho : OSl e k xs v Hs) (hH : H = A ++ (Hs ++ B)) (hx : t.ev x = .v v) (hy : t.ev y = dy) (hyl : Le dy (.sl f ys)) (h0 : 0 < ys.length)
  (hkd : d.cells.length = k) (hk0 : Xc K.P ty = e) (hs : QE K.P ty' = true) (hkx : ∀ x ∈ xs, x.cells.length = k) (hky : ∀ x ∈ ys, x.cells.length = k) (hyleaf : ∀ x ∈ ys, Qx x.cells = true) (hb : (xs.length + ys.length) * by_ ≤ 140737488355328) (hm : xs.length + ys.length ≤ 9223372036854775807)
  (hsol : ∀ x ∈ xs ++ ys, x.solid) (hd : Nat.blt kd K.n = true) (h : N ((kd, .sl false (xs ++ ys)) :: t) (A ++ B)) : EOp K t H ⟨some kd, .call ⟨.builtin .append, #[x, y], #[ty, ty']⟩, tp, pos, aft, g⟩ N := by
 have h1 := Ye (N := fun t' H' => ∃ v' Hs', OSl e k (xs ++ ys) v' Hs' ∧ t' = (kd, .v v') :: t ∧ H' = A ++ (Hs' ++ B)) (tp := tp) (pos := pos) (aft := aft) (g := g) ho hH hx hy hyl h0 hkd hk0 hs hkx hky hyleaf hb hm hd fun v' Hs' ho' => ⟨v', Hs', ho', rfl, rfl⟩
 intro a w hr Kc Q hk
 refine h1 a w hr Kc Q fun t' H' a' w' ⟨v', Hs', ho', e1, e2⟩ hr' => ?_
 subst e1 e2
 refine hk _ _ a' w' h ?_
 have hp : (A ++ (Hs' ++ B)).Perm (Hs' ++ (A ++ B)) := by
  rw [← List.append_assoc, ← List.append_assoc]
  exact List.Perm.append_right _ List.perm_append_comm
 have hl := OSl.lend (G := Hs') ho' (fun _ h => h) (fun y hy => by rcases List.mem_append.1 hy with h | h; exact hkx y h; exact hky y h) hsol
 have h2 := R3 (rs := [(kd, .sl false (xs ++ ys))]) hp ⟨by simpa [Env.get] using hl, trivial⟩ hr'
 refine R.gets (fun j => ?_) h2
 show Env.get ((kd, _) :: (kd, _) :: t) j = Env.get ((kd, _) :: t) j
 simp only [Env.get]
 cases Nat.beq kd j <;> rfl
theorem H8 {x y : Operand} {e : TypeId} {k : Nat} {xs ys : List T} {v : Value} {Hs A B : Qd} {f : Bool} {dy d : T} {by_ : Nat} [hz : QB K.P ty d by_] (ho : OSl e k xs v Hs) (hkx : ∀ x ∈ xs, x.cells.length = k) (hsol : ∀ x ∈ xs ++ ys, x.solid)
  (h : XU ops ⟨some kd, .call ⟨.builtin .append, #[x, y], #[ty, ty']⟩, tp, pos, aft, none⟩ (A ++ B) pend ∧ ∃ pend', Yf ops ⟨some kd, .call ⟨.builtin .append, #[x, y], #[ty, ty']⟩, tp, pos, aft, none⟩ pend pend' ∧ Qo K ops eff N al ((kd, .sl false (xs ++ ys)) :: t) (A ++ B) pend') (hH : H = A ++ (Hs ++ B) := by rfl) (hx : t.ev x = .v v := by exact zl) (hy : t.ev y = dy := by exact zl) (hyl : Le dy (.sl f ys) := by exact zL) (h0 : 0 < ys.length := by exact zo)
  (hkd : d.cells.length = k := by rfl) (hk0 : Xc K.P ty = e := by rfl) (hs : QE K.P ty' = true := by rfl) (hky : ∀ x ∈ ys, x.cells.length = k := by exact zk) (hyleaf : ∀ x ∈ ys, Qx x.cells = true := by exact zf)
  (hb : (xs.length + ys.length) * by_ ≤ 140737488355328 := by exact zo) (hm : xs.length + ys.length ≤ 9223372036854775807 := by exact zo) (hd : Nat.blt kd K.n = true := by rfl) (he : Q3 eff i = true := by rfl) :
  Qo K ops eff N ((i, ⟨some kd, .call ⟨.builtin .append, #[x, y], #[ty, ty']⟩, tp, pos, aft, none⟩) :: al) t H pend :=
 U1 (fun _ h1 => MC ho hH ((h1 x (by simp [Op.operands, Call.operands])).trans hx) ((h1 y (by simp [Op.operands, Call.operands])).trans hy) hyl h0 hkd hk0 hs hkx hky hyleaf hb hm hsol hd (let ⟨h1, p', h2, h3⟩ := h; ⟨_, p', rfl, h1, h2, h3⟩)) he
theorem GQ {c : Code} {Ψ : Exit → Env → Qd → Prop} {G H1 : Qd} {d : T} (k : Nat) (x : T) (hl : QJ G d x) (hp : H.Perm (G ++ H1)) (h : Sim K c ((k, x) :: t) H1 Ψ) (hg : t.get k = d := by rfl) : Sim K c t H Ψ :=
 ZJ (G := G) (H1 := H1) [(k, x)] hp ⟨hg ▸ hl, trivial⟩ h
theorem Tj {P : Program} {dst : Option Tmp} {x l' : Operand} {dx : T} {f : Bool} {xs : List T} {k : IntKind} {i : Int} {d : T} {by_ : Nat} [hz : QB P ty d by_] (hx : t.ev x = dx := by exact zl) (hxl : Le dx (.sl f xs) := by exact zL) (hl : t.ev l' = .v (.int k i) := by exact zl) (h0 : 0 ≤ i := by exact zo) (h2 : i ≤ xs.length := by exact zo) (hk : ∀ x ∈ xs, x.cells.length = d.cells.length := by exact zk) :
  POp P t H ⟨dst, .slice ty x (some l') none none, tp, pos, aft, g⟩ (.sl f (xs.drop i.toNat)) := UM hx hxl hl h0 h2 hk
theorem K3 {P : Program} {dst : Option Tmp} {x l' : Operand} {dx : T} {f : Bool} {xs : List T} {k : IntKind} {i : Int} {d : T} {by_ : Nat} [hz : QB P ty d by_] (hx : t.ev x = dx := by exact zl) (hxl : Le dx (.sl f xs) := by exact zL) (hl : t.ev l' = .v (.int k i) := by exact zl) (h0 : 0 ≤ i := by exact zo) (h2 : i ≤ xs.length := by exact zo) (hk : ∀ x ∈ xs, x.cells.length = d.cells.length := by exact zk) :
  POp P t H ⟨dst, .slice ty x none (some l') none, tp, pos, aft, g⟩ (.sl (f && Nat.beq i.toNat xs.length) (xs.take i.toNat)) := UN hx hxl hl h0 h2 hk
theorem Ss {x y : Operand} {e : TypeId} {k : Nat} {xs ys : List T} {p : Option Addr} {n c : Nat} {Hs A B : Qd} {f : Bool} {dy d : T} {by_ : Nat} [hz : QB K.P ty d by_] (ho : OSl e k xs (.slice p n c) Hs) (hkx : ∀ x ∈ xs, x.cells.length = k) (jj : Nat)
  (h : ∀ v' Hs', OSl e k (xs.take jj ++ ys) v' Hs' → Qi K ops (i + 1) l ((kd, .v v') :: t) (A ++ (Hs' ++ B)) N) (hH : H = A ++ (Hs ++ B) := by rfl) (hx : t.ev x = .v (.slice p (min jj xs.length) c) := by exact zl) (hy : t.ev y = dy := by exact zl) (hyl : Le dy (.sl f ys) := by exact zL) (h0 : 0 < ys.length := by exact zo)
  (hkd : d.cells.length = k := by rfl) (hk0 : Xc K.P ty = e := by rfl) (hs : QE K.P ty' = true := by rfl) (hky : ∀ x ∈ ys, x.cells.length = k := by exact zk) (hyleaf : ∀ x ∈ ys, Qx x.cells = true := by exact zf)
  (hb : (xs.length + ys.length) * by_ ≤ 140737488355328 := by exact zo) (hm : xs.length + ys.length ≤ 9223372036854775807 := by exact zo) (hd : Nat.blt kd K.n = true := by rfl) :
  Qi K ops i (⟨some kd, .call ⟨.builtin .append, #[x, y], #[ty, ty']⟩, tp, pos, aft, none⟩ :: l) t H N := by
 obtain ⟨Hs', hF, ho'⟩ := OSl.take ho hkx jj
 have hlen : (xs.take jj).length ≤ xs.length := by simp; omega
 have hb' : ((xs.take jj).length + ys.length) * by_ ≤ 140737488355328 := Nat.le_trans (Nat.mul_le_mul_right _ (by omega)) hb
 exact Yw (DH (by rw [hH]; exact kH hF.app) (Ye ho' rfl hx hy hyl h0 hkd hk0 hs (fun x hx => hkx x (List.mem_of_mem_take hx)) hky hyleaf hb' (by omega) hd h))
end
end Go.Cap
namespace Go.Proofs.YtjbokbikkcfjjaaGreat
open Go.Cap
attribute [local irreducible] POp Qi SO EOp Sim FnH T.gp
theorem Ht (l : List En) (hl : l.length ≤ 4611686018427387904) : ItC Tryz.prog 124 [.adr (XZ l)] (fun p : Nat × En => [ei p.1, een p.2]) (fun xs => xs = MH l l.length) (fun pre => ∃ k, k ≤ l.length ∧ pre = MH l k) := by
 refine G4 Tryz.func124 (by rfl) (by rfl) (by rfl) ?_
 intro c l' r I Ix Hx S w hlen _ _ hK h0 hY
 show Sim _ _ [(Tryz.f124.ntmps, .v undef), (0, .v (.func (.yield l') #[] #[])), (1, .adr (.sl false (l.map een)))] _ _
 refine zC ?_
 apply cr
 (first | refine s_ Qf ?_ | refine s_ Ql ?_)
 (first | refine s_ QS ?_ | refine s_ QP ?_)
 refine s_ Yr <| s_ Qb <| zC ?_
 apply Qm (σ := Nat × Qd) (ok := fun s => s.1 ≤ l.length ∧ I (MH l s.1) s.2) (env := fun s => [(3, .v (.int .i64 ((l.length : Int) - 1 - s.1))), (Tryz.f124.ntmps, .v undef), (0, .v (.func (.yield l') #[] #[])), (1, .adr (.sl false (l.map een)))])
  (heap := fun s => s.2) (μ := fun s => l.length - s.1) (s0 := (0, Hx))
 ·exact ⟨by simp, h0⟩
 ·refine ⟨?_, eL⟩
  apply Qh; (exact zG)
  exact Le.of_eq (by simp)
 ·exact kR
 rintro ⟨k, H⟩ ⟨hk, hI⟩
 simp only at hk hI
 refine zC ?_
 refine cr <| s_ Qa <| s_ ZL <| zC ?_
 refine ci ?_ ?_
 ·intro hge
  have hix : l.length - 1 - k < l.length := by omega
  have hcast : (l.length : Int) - 1 - k = ((l.length - 1 - k : Nat) : Int) := by omega
  rw [hcast]
  have hget : l.getD (l.length - 1 - k) default = l[l.length - 1 - k] := by simp [hix]
  have hyc := hY (MH l k) (l.length - 1 - k, l[l.length - 1 - k]) H hI ⟨k + 1, by omega, by rw [Z9, hget]⟩
  refine zC ?_
  refine cr <| s_ Qa <| s_ Qa ?_
  (first | refine s_ Qf ?_ | refine s_ Ql ?_)
  refine s_ Qa ?_
  (first | refine s_ (Q4 hix) ?_ | refine s_ (Q4 hix2) ?_ | refine s_ Yd ?_ | refine s_ Ys ?_)
  (first | refine s_ XN ?_ | refine s_ Qw ?_)
  refine Sr (Hr := []) hyc (by simp) (hlen _) hK (fun H' hI' => ?_) (fun H' hI' => ?_)
  ·simp only [if_true] at hI'
   refine s_ Yb <| zC ?_
   refine ci ?_ ?_
   ·intro h; exact absurd trivial h
   intro _
   refine zC ?_
   refine cr <| s_ Qa <| s_ Yr <| s_ Qb <| zC ?_
   refine ⟨(k + 1, H'), ⟨by simp only; omega, ?_⟩, (by simp only []; omega), ⟨?_, eL⟩, by rw [List.append_nil]; exact kR⟩
   ·simp only
    rw [Z9, hget]; exact hI'
   ·apply Qh; (exact zG)
    exact Le.of_eq (by congr 2; simp only; omega)
  ·simp only [Bool.false_eq_true, if_false] at hI'
   refine s_ Yb <| zC ?_
   refine ci ?_ ?_
   ·intro _
    refine zC ?_
    apply YW
    simp only [YS, Ze, Z5]
    rw [List.append_nil]
    exact IS ⟨k + 1, by omega, by rw [Z9, hget]⟩ hI'
   ·intro h; exact absurd (fun h => h) h
 ·intro hge
  have hk2 : k = l.length := by omega
  subst hk2
  refine zC ?_
  exact Mj rfl hI
theorem Hv (f : Bool) (xs : List T) : FnP Tryz.prog 90 [.sl f xs] (fun r => r = .clo 124 [] [.adr (.sl f xs)]) := by
 refine fe Tryz.func90 fun S0 w0 => ?_
 show Sim _ _ [(0, T.sl f xs)] _ _
 refine zC ?_
 apply cr
 refine EN fun b1 _ => ?_
 refine s_ Qb <| zC ?_
 refine cr <| s_ Wd <| s_ Qb <| zC ?_
 refine ZJ (G := [_]) (H1 := []) [(2, .clo 124 [] [.adr (.sl f xs)])] (by simp; rfl) ⟨?_, trivial⟩ ?_
 ·refine (show Env.get _ _ = _ from gZ) ▸ QJ.clo Qk.nil (Qk.cons (QJ.ptr List.mem_cons_self (.inl rfl) ?_ (by simp [T.cells]) (by simp [T.cells])) Qk.nil)
  exact Qk.le (LeL.refl _)
 ·refine zE ?_
  exact Le.refl _
theorem Ns {l : List En} {k : Nat} (hk : k ≤ l.length) {p : Nat × En} (h : p ∈ MH l k) : p.1 < l.length := by
 obtain ⟨j, hj, rfl⟩ := List.mem_map.1 h
 have := List.mem_range.1 hj
 simp only; omega
theorem RH {l : List En} {k : Nat} (hk : k ≤ l.length) {ini : List (Nat × En)} {last : Nat × En} (h : ini ++ [last] = MH l k) (hz : ∀ p ∈ ini, p.2.conf = 0) (hl : last.2.conf ≠ 0) : lc l l.length = some (last.1, last.2.conf) := by
 cases k with
 | zero => simp [MH] at h
 | succ k =>
  rw [Z9] at h
  obtain ⟨h1, h2⟩ := List.append_inj' h rfl
  have h3 : last = (l.length - 1 - k, l.getD (l.length - 1 - k) default) := by simpa using h2
  rw [Ey l (l.length - k) k (by omega) (by rw [← h1]; exact hz)]
  have e : l.length - k = (l.length - 1 - k) + 1 := by omega
  rw [e, lc]
  rw [h3] at hl
  simp only at hl
  rw [if_pos hl, h3]
theorem EQ (n : Nd) (hl : n.log.length ≤ 1000000000) (hb1 : -1000000000000 ≤ n.base) (hb2 : n.base ≤ 1000000000000) : FnP Tryz.prog 64 [.adr (nd n)] (fun r => r = .tup [ei (QA n).1, ei (QA n).2]) := by
 have cbk := Hv false (n.log.map een)
 refine fe Tryz.func64 fun S0 w0 => ?_
 show Sim _ _ [(0, T.adr (.agg (Qg n (.sl false (n.log.map een)))))] _ _
 refine zC ?_
 apply cr
 refine EN fun b1 _ => ?_
 refine Xt fun b2 _ => ?_
 refine Xt fun b3 _ => ?_
 refine zC ?_
 refine cr <| s_ Ql <| s_ Qe ?_
 (first | refine s_ Qj ?_ | refine s_ Qc ?_)
 (first | refine s_ Qf ?_ | refine s_ Ql ?_)
 refine s_ (Qr (cbk)) <| zC ?_
 refine M9 (Ht n.log (by omega)) (by ((repeat (apply eS; rfl)); exact eZ)) (by rfl) rfl (fun (pre : List (Nat × En)) (H : Qd) => (∀ p ∈ pre, p.2.conf = 0) ∧ H = [(b3, ⟨3, [ei 0], 1⟩), (b2, ⟨3, [ei 0], 1⟩), (b1, ⟨147, [.adr (.agg (Qg n (.sl false (n.log.map een))))], 1⟩)])
  (fun (pre : List (Nat × En)) (H : Qd) => ∃ ini last, pre = ini ++ [last] ∧ (∀ p ∈ ini, p.2.conf = 0) ∧ last.2.conf ≠ 0 ∧ H = [(b3, ⟨3, [ei last.2.conf], 1⟩), (b2, ⟨3, [ei (n.base + last.1 + 1)], 1⟩), (b1, ⟨147, [.adr (.agg (Qg n (.sl false (n.log.map een))))], 1⟩)])
  .ret .ret (.inl ⟨rfl, rfl⟩) (fun _ => rfl) (by rfl) ⟨by simp, rfl⟩ ?_ ?_ ?_
 ·rintro pre x H1 ⟨hz, rfl⟩ ⟨k, hk, hsp⟩ l' S1 w1
  have hx1 : x.1 < n.log.length := Ns hk (by rw [← hsp]; simp)
  simp only [LW]
  refine zC ?_
  refine cr <| s_ Qb <| zC ?_
  apply cr
  refine Xt fun b5 _ => ?_
  refine Qn ?_
  refine zC ?_
  refine ⟨rfl, fun S2 w2 mk => ?_⟩
  refine zC ?_
  refine cr <| s_ Qc <| s_ Ql <| s_ XE <| zC ?_
  refine ci ?_ ?_
  ·intro hne
   refine zC ?_
   refine ca [0, 1, 2, 3, 4, 5, 6, 7, 8, 9, 10] [9, 10] <| Qv ?_
   refine a_ (fun _ => Qe) ?_
   (first | refine a_ (fun _ => Qj) ?_ | refine a_ (fun _ => Qc) ?_)
   (first | refine a_ (fun _ => Qf) ?_ | refine Qv ?_)
   refine a_ (fun _ => Qa) <| a_ (fun _ => QQ) <| a_ (fun _ => QQ) <| a_ (fun _ => Qc) <| Qv ?_
   refine Q2 ?_
   refine Q2 ?_
   apply an
   refine zC ?_
   refine zC ?_
   apply YW
   simp only [YS, Ze]
   exact ⟨_, kS kR, .inr ⟨rfl, pre, x, rfl, hz, hne, rfl⟩⟩
  ·intro he
   refine zC ?_
   exact ⟨_, kS kR, .inl ⟨rfl, by intro p hp; rcases List.mem_append.1 hp with h | h; exact hz p h; rw [List.mem_singleton.1 h]; simpa using he, rfl⟩⟩
 ·rintro xs H' rfl ⟨hz, rfl⟩
  have hlc : lc n.log n.log.length = none := by rw [Ey n.log 0 n.log.length (by omega) hz]; rfl
  refine zC ?_
  refine zC ?_
  refine ca [0, 1, 2, 3, 4, 5, 6, 7, 8, 9] [8, 9] <| Qv ?_
  refine a_ (fun _ => Qe) ?_
  (first | refine a_ (fun _ => Qj) ?_ | refine a_ (fun _ => Qc) ?_)
  (first | refine a_ (fun _ => Qf) ?_ | refine Qv ?_)
  refine Qv ?_
  refine a_ (fun _ => Qe) ?_
  (first | refine a_ (fun _ => Qj) ?_ | refine a_ (fun _ => Qc) ?_)
  (first | refine a_ (fun _ => Qf) ?_ | refine Qv ?_)
  refine Q2 ?_
  refine Q2 ?_
  apply an
  refine zC ?_
  refine zC ?_
  refine zE ?_
  simp only [QA, hlc]; exact Le.refl _
 ·rintro pre H' ⟨k, hk, rfl⟩ ⟨ini, last, h1, hz, hne, rfl⟩
  have hlc := RH hk h1.symm hz hne
  simp only [YS, Ze]
  refine rt ?_
  simp only [QA, hlc]; exact Le.refl _
def J3 (x : Int) : Int := ((List.range 5).filter x.toNat.testBit).length
def isF (conf id : Int) : Bool := conf.toNat.testBit id.toNat
def UB (a b : Int) : Int := (a.toNat &&& b.toNat : Nat)
def XK (conf some : Int) : Bool := decide (J3 conf < 2 * J3 (UB conf some))
def XG (id conf : Int) : Nd := ⟨id, 0, -1, 0, 0, conf, [], [], 0, 0, 0, 0, .all 0, .all 0⟩
def termF (n : Nd) (i : Int) : Int := if n.base + 1 ≤ i ∧ i < n.base + 1 + n.log.length then (n.log.getD (i - n.base - 1).toNat default).term else n.baseTerm
def Qq (n : Nd) : Int := n.base + n.log.length
theorem Wp {x : Int} (h0 : 0 ≤ x) (h1 : x ≤ 31) : ∃ i : Fin 32, x = (i.val : Int) := ⟨⟨x.toNat, by omega⟩, by simp only; omega⟩
theorem X4 {K : Ctx} {t : Env} {b m : Nat} {e : TypeId} {cs : List T} {H1 : Qd} {Ψ : Exit → Env → Qd → Prop} {c : Code} (k : Nat) (hl : 0 < cs.length) (h : Sim K c ((k, .adr (.agg cs)) :: t) H1 Ψ) (hg : t.get k = .v (.pointer (some ⟨b, 0, none⟩)) := by rfl) : Sim K c t ((b, ⟨e, cs, m⟩) :: H1) Ψ := by
 have hcs : (T.agg cs).cells = cs := by simp [T.cells]
 refine ZJ (G := [_]) (H1 := H1) [(k, .adr (.agg cs))] (by simp; rfl) ⟨?_, trivial⟩ h
 rw [hg]
 refine QJ.ptr List.mem_cons_self (.inr ⟨_, rfl⟩) ?_ (by rwa [hcs]) (by rw [hcs]; exact Nat.le_refl _)
 rw [hcs]
 exact Qk.le (by rw [List.take_length]; exact LeL.refl _)
theorem MM {p : Int → Prop} (h : ∀ i : Fin 32, p (i.val : Int)) {x : Int} (h0 : 0 ≤ x) (h1 : x ≤ 31) : p x := by
 obtain ⟨i, rfl⟩ := Wp h0 h1; exact h i
theorem Zn {x : Int} (h0 : 0 ≤ x) (h1 : x ≤ 31) : IntKind.u64.wrap x = x := MM (p := fun x => IntKind.u64.wrap x = x) (by decide) h0 h1
theorem IB {x : Int} (h0 : 0 ≤ x) (h1 : x ≤ 31) : 0 ≤ J3 x ∧ J3 x ≤ 5 := MM (p := fun x => 0 ≤ J3 x ∧ J3 x ≤ 5) (by decide) h0 h1
theorem NM {x y : Int} (h0 : 0 ≤ x) (h1 : x ≤ 31) (h2 : 0 ≤ y) (h3 : y ≤ 31) : Vr .i64 x y = UB x y ∧ 0 ≤ UB x y ∧ UB x y ≤ 31 :=
 MM (p := fun x => Vr .i64 x y = UB x y ∧ 0 ≤ UB x y ∧ UB x y ≤ 31) (fun i => MM (p := fun y => Vr .i64 i y = UB i y ∧ 0 ≤ UB i y ∧ UB i y ≤ 31) (by revert i; decide) h2 h3) h0 h1
theorem HX {x y : Int} (h0 : 0 ≤ x) (h1 : x ≤ 31) (h2 : 0 ≤ y) (h3 : y < 5) : decide (Vr .i64 (Vq .i64 x y) 1 = 1) = isF x y :=
 MM (p := fun x => decide (Vr .i64 (Vq .i64 x y) 1 = 1) = isF x y) (fun i => MM (p := fun y => decide (Vr .i64 (Vq .i64 i y) 1 = 1) = isF i y) (by revert i; decide) h2 (by omega)) h0 h1
theorem CX (x : Int) (h0 : 0 ≤ x) (h1 : x ≤ 31) : FnP Tryz.prog 150 [.v (.int .u64 x)] (fun r => r = ei (J3 x)) := by
 refine fe Tryz.func150 fun S0 w0 => ?_
 show Sim _ _ [(0, T.v (.int .u64 x))] _ _
 refine zC ?_
 refine cr <| s_ Qb <| zC ?_
 refine cr <| s_ Qa <| s_ ZR <| s_ J1 <| s_ Qa <| s_ J1 <| s_ L0 <| s_ Qb <| zC ?_
 refine cr <| s_ Qa <| s_ ZR <| s_ J1 <| s_ Qa <| s_ J1 <| s_ L0 <| s_ Qb <| zC ?_
 refine cr <| s_ Qa <| s_ ZR <| s_ Qa <| s_ L0 <| s_ J1 <| s_ Qb <| zC ?_
 refine cr <| s_ Qa <| s_ Qa <| s_ ZR <| s_ L0 <| s_ Qb <| zC ?_
 refine cr <| s_ Qa <| s_ Qa <| s_ ZR <| s_ L0 <| s_ Qb <| zC ?_
 refine cr <| s_ Qa <| s_ Qa <| s_ ZR <| s_ L0 <| s_ Qb <| zC ?_
 refine cr <| s_ Qa <| s_ YG <| s_ J1 <| s_ Qb <| zC ?_
 refine zE ?_
 obtain ⟨i, rfl⟩ := Wp h0 h1
 refine Le.of_eq (congrArg (fun z => T.v (.int .i64 z)) ?_)
 revert i; decide
theorem Eo (x : Int) (h0 : 0 ≤ x) (h1 : x ≤ 31) : FnP Tryz.prog 109 [.v (.int .u64 x)] (fun r => r = ei (J3 x)) := by
 have h64 := CX x h0 h1
 refine fe Tryz.func109 fun S0 w0 => ?_
 show Sim _ _ [(0, T.v (.int .u64 x))] _ _
 refine zC ?_
 refine cr <| s_ Qb <| zC ?_
 refine ci (p := False) (fun h => h.elim) (fun _ => ?_) (by rfl)
 refine zC ?_
 refine cr <| s_ Qa <| s_ (Qr (h64)) <| s_ Qb <| zC ?_
 refine zE ?_
 exact Le.refl _
def big : Int := 1000000000000
theorem Tx (id conf : Int) (h0 : 0 ≤ id) (h1 : id < 5) (h2 : 0 ≤ conf) (h3 : conf ≤ 31) : FnP Tryz.prog 66 [ei id, ei conf] (fun r => r = nd (XG id conf)) := by
 refine fe Tryz.func66 fun S0 w0 => ?_
 show Sim _ _ [(0, ei id), (1, ei conf)] _ _
 have ht : id.tmod 5 = id := Int.tmod_eq_of_lt h0 h1
 have ht2 : (id.tmod 5 + 5).tmod 5 = id := by rw [ht, Int.tmod_eq_emod_of_nonneg (by omega)]; omega
 have hc : Vr .i64 conf 31 = conf := MM (p := fun x => Vr .i64 x 31 = x) (by decide) h2 h3
 refine zC ?_
 apply cr
 refine Xt fun b4 _ => ?_
 refine zC ?_
 refine cr <| s_ Qa <| s_ WN <| s_ QQ <| s_ WN <| s_ Qa <| s_ J1 <| s_ (YH 22 [_, _, _, _, _, _, _, _, _, _, _, _, _, _, _, _, _, _, _, _, _, _]) <| Qn ?_
 refine zC ?_
 refine zE ?_
 simp only [ht2, hc]
 show Le (.agg _) (.agg (Qg _ _))
 exact zL
theorem HW (conf id : Int) (h0 : 0 ≤ id) (h1 : id < 5) (h2 : 0 ≤ conf) (h3 : conf ≤ 31) : FnP Tryz.prog 107 [ei conf, ei id] (fun r => r = eB (isF conf id)) := by
 refine fe Tryz.func107 fun S0 w0 => ?_
 show Sim _ _ [(0, ei conf), (1, ei id)] _ _
 have hw := Zn h0 (by omega)
 refine zC ?_
 refine cr <| s_ Qb <| zC ?_
 refine cr <| s_ Qa <| s_ Qa <| s_ YG <| s_ ZR <| s_ J1 <| s_ Q5 <| s_ Qb <| zC ?_
 refine zE ?_
 rw [Zn h0 (by omega), HX h2 h3 h0 h1]
 exact Le.refl _
theorem Eu (conf some : Int) (h0 : 0 ≤ some) (h1 : some ≤ 31) (h2 : 0 ≤ conf) (h3 : conf ≤ 31) : FnP Tryz.prog 146 [ei conf, ei some] (fun r => r = eB (XK conf some)) := by
 have hb := NM h2 h3 h0 h1
 have o1 := Eo (UB conf some) hb.2.1 hb.2.2
 have o2 := Eo conf h2 h3
 have l1 := IB hb.2.1 hb.2.2
 have l2 : J3 (IntKind.u64.wrap (Vr .i64 conf some)) = J3 (UB conf some) := by rw [hb.1, Zn hb.2.1 hb.2.2]
 have w1 := Zn hb.2.1 hb.2.2
 have w2 := Zn h2 h3
 rw [← w1, ← hb.1, l2] at o1
 rw [← w2] at o2
 refine fe Tryz.func146 fun S0 w0 => ?_
 show Sim _ _ [(0, ei conf), (1, ei some)] _ _
 refine zC ?_
 refine cr <| s_ Qb <| zC ?_
 refine cr <| s_ Qa <| s_ Qa <| s_ J1 <| s_ YG <| s_ (Qr (o1)) <| s_ Tl <| s_ Qa <| s_ YG <| s_ (Qr (o2)) <| s_ XX <| s_ Qb <| zC ?_
 refine zE ?_
 rw [w2]
 exact Le.refl _
theorem VZ (n : Nd) (i : Int) (hl : n.log.length ≤ 1000000000) (hb1 : -big ≤ n.base) (hb2 : n.base ≤ big) (hi1 : -big ≤ i) (hi2 : i ≤ big) : FnP Tryz.prog 110 [.adr (nd n), ei i] (fun r => r = ei (termF n i)) := by
 refine fe Tryz.func110 fun S0 w0 => ?_
 show Sim _ _ [(0, T.adr (.agg (Qg n (.sl false (n.log.map een))))), (1, ei i)] _ _
 simp only [big] at hb1 hb2 hi1 hi2
 refine zC ?_
 refine cr <| s_ Qb <| zC ?_
 refine cr <| s_ Qa <| s_ Qa <| s_ Qe ?_
 (first | refine s_ Qj ?_ | refine s_ Qc ?_)
 (first | refine s_ Qf ?_ | refine s_ Ql ?_)
 refine s_ Yr <| s_ Yr <| s_ Qb <| zC ?_
 refine cr <| s_ Qa <| s_ ZL <| s_ Qa <| gT (fun hg => Qa) ?_
 refine gT (fun hg => Qa) ?_
 refine gT (fun hg => Qe (hx := u_ hg)) ?_
 (first | refine gT (fun hg => Qj (hx := u_ hg)) ?_ | refine gT (fun hg => Qc (hx := u_ hg)) ?_)
 (first | refine gT (fun hg => Qf (hx := u_ hg)) ?_ | refine gT (fun hg => Ql (hx := u_ hg)) ?_)
 (first | refine gT (fun hg => QS (hx := u_ hg)) ?_ | refine gT (fun hg => QP (hx := u_ hg)) ?_)
 refine gT (fun hg => QN (hx := u_ hg) (hy := u_ hg)) ?_
 refine s_ Xv <| zC ?_
 refine ci ?_ ?_
 ·intro hc
  simp only [List.length_map] at hc
  refine zC ?_
  refine cr <| s_ Qa <| s_ Qe ?_
  (first | refine s_ Qj ?_ | refine s_ Qc ?_)
  (first | refine s_ Qf ?_ | refine s_ Ql ?_)
  refine s_ Qa ?_
  (first | refine s_ (Q4 hix) ?_ | refine s_ (Q4 hix2) ?_ | refine s_ Yd ?_ | refine s_ Ys ?_)
  (first | refine s_ Qj ?_ | refine s_ Qc ?_)
  (first | refine s_ Qf ?_ | refine s_ Ql ?_)
  refine s_ Qb <| zC ?_
  refine zE ?_
  rw [termF, if_pos (by omega)]
  exact Le.refl _
 ·intro hc
  simp only [List.length_map] at hc
  refine zC ?_
  refine cr <| s_ Qa <| s_ Qe ?_
  (first | refine s_ Qj ?_ | refine s_ Qc ?_)
  (first | refine s_ Qf ?_ | refine s_ Ql ?_)
  refine s_ Qb <| zC ?_
  refine zE ?_
  rw [termF, if_neg (by omega)]
  exact Le.refl _
theorem Um (n : Nd) (hl : n.log.length ≤ 1000000000) (hb1 : -100000000000 ≤ n.base) (hb2 : n.base ≤ 100000000000) : FnP Tryz.prog 143 [nd n] (fun r => r = .tup [ei (Qq n), ei (termF n (Qq n))]) := by
 have ht := VZ n (Qq n) hl (by simp only [big]; omega) (by simp only [big]; omega) (by simp only [big, Qq]; omega) (by simp only [big, Qq]; omega)
 have hlf : Qq n = n.base + ((n.log.map een).length : Nat) := by simp [Qq]
 rw [hlf] at ht ⊢
 refine fe Tryz.func143 fun S0 w0 => ?_
 show Sim _ _ [(0, T.agg (Qg n (.sl false (n.log.map een))))] _ _
 refine zC ?_
 apply cr
 refine Xk fun b1 _ => ?_
 refine s_ Qb <| s_ Qb <| zC ?_
 refine X4 1 (by simp [Qg]) ?_
 refine zC ?_
 refine cr <| s_ Qj <| s_ Qf <| s_ Qj <| s_ Qf ?_
 (first | refine s_ QS ?_ | refine s_ QP ?_)
 refine s_ QQ <| s_ Qb <| zC ?_
 refine cr <| s_ Qa <| s_ Qa <| s_ (Qr (ht)) <| s_ Qb <| s_ Qb <| zC ?_
 refine zE ?_
 exact Le.refl _
theorem LK (n : Nd) (hl : n.log.length ≤ 1000000000) (hb1 : -1000000000000 ≤ n.base) (hb2 : n.base ≤ 1000000000000) : FnP Tryz.prog 32 [nd n] (fun r => r = ei (QA n).2) := by
 have ht := EQ n hl hb1 hb2
 refine fe Tryz.func32 fun S0 w0 => ?_
 show Sim _ _ [(0, T.agg (Qg n (.sl false (n.log.map een))))] _ _
 refine zC ?_
 apply cr
 refine Xk fun b1 _ => ?_
 refine s_ Qb <| zC ?_
 refine X4 1 (by simp [Qg]) ?_
 refine zC ?_
 refine cr <| s_ (Qr (ht)) <| s_ Qa <| s_ Qt <| s_ Qt <| s_ Qb <| s_ Qb <| zC ?_
 refine cr <| s_ Qa <| s_ Qb <| zC ?_
 refine zE ?_
 exact Le.refl _
end Go.Proofs.YtjbokbikkcfjjaaGreat
