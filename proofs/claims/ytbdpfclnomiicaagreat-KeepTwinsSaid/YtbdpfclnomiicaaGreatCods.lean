/-
  Package code: numbers, texts, readers.
  Numbers as bytes, in plain words.
-/
import Derived.Test.YtbdpfclnomiicaaGreatRep
import Derived.Test.YtbdpfclnomiicaaGreatDefer
section
set_option maxRecDepth 16000
namespace Go.Cap
variable {P : Program} {t : Env} {H : Heap} {dst : Option Tmp} {ty ty' tp : TypeId} {pos : String} {aft : Array Edge} {g : Option (Nat × Bool)}
theorem run_eq_iface0 {ms : Array (String × TypeId)} (w : World) {ty : TypeId} (hu : P.underlying ty = some (.interface ms)) (d : Nat) : (Op.equalIn (d + 1) ty .nilIface .nilIface).run P w = .ok true w := by
  simp [Op.equalIn, run_underlying hu]
theorem run_eq_iface {ms : Array (String × TypeId)} (w : World) {ty : TypeId} (hu : P.underlying ty = some (.interface ms)) : (Op.equal ty .nilIface .nilIface).run P w = .ok true w := run_eq_iface0 w hu 9999
theorem p_eI {x : Operand} {ms : Array (String × TypeId)} (hx : t.ev x = .v .nilIface := by first | ((repeat (apply eS; rfl)); exact eZ) | exact ev_int | exact ev_bool | exact ev_nil | exact ev_str | exact ev_ptr | exact ev_agg | exact ev_map | exact ev_nilf | exact ev_nili | exact ev_func) (hu : P.underlying ty = some (.interface ms) := by rfl) : POp P t H ⟨dst, .binOp .eql ty x (.const .nilIface) ty', tp, pos, aft, g⟩ (.v (.bool (decide True))) :=
  pop_bin hx rfl fun w => by
    have := run_eq_iface w hu
    simp [eqGuard, binOp, this]
end Go.Cap
namespace Go.Proofs.YtbdpfclnomiicaaGreat
open Go.Cap
set_option linter.unusedSimpArgs false
set_option linter.unusedVariables false
attribute [local irreducible] POp SimFrom DrawFrom EOp Sim FnH T.gp
theorem caught_fn (rp : Value) : FnP Tryz.prog 71 [.v rp, .v .nilIface] (fun r => r = .tup []) := by
  refine fn_enter Tryz.func71 (by rfl) (by rfl) ?_
  intro S0 w0
  show Sim _ _ [(0, .v rp), (1, .v .nilIface)] _ _
  (repeat (first | apply cn | apply cq | apply cb | apply ck | apply cl | apply cx))
  apply cr
  refine s_ p_mv ?_
  refine s_ p_eI ?_
  refine cn ?_
  (repeat (first | apply cn | apply cq | apply cb | apply ck | apply cl | apply cx))
  refine ci (fun _ => ?_) (fun h => absurd trivial h)
  (apply sim_ret; (try simp only [blockΨ_ret, thenΨ_ret, loopL_ret, cutΨ_ret, cutE_ret]); first | refine rt ?_ | refine rn ?_)
  exact Le.refl _
theorem int1_fn {H : Heap} {i bl : Nat} {kb : Blk} {rp : Value} (hH : H[i]? = some (bl, kb)) (hd : kb.cells[0]? = some (.v rp)) : DfH Tryz.prog 70 #[.pointer (some ⟨bl, 0, none⟩)] H (fun H' => H' = H) := by
  have hm : Tryz.prog.follows .mixedOrders = true := by kernel_rfl
  refine dfH_rec (g := 71) Tryz.func70 (by rfl) (by rfl) (by rfl) hH hd (by rfl) (by kernel_rfl) (caught_fn rp) fun t => ?_
  have h2 : t % 2 = 0 ∨ t % 2 = 1 := by omega
  unfold Region.schedule Region.linearise
  rw [hm]
  rcases h2 with h | h
  · left
    simp [Region.linearise.go, List.range_succ, h, Region.binds, Nat.mod_one]
  · right
    simp [Region.linearise.go, List.range_succ, h, Region.binds, Nat.mod_one]
theorem text1_fn {H : Heap} {i bl : Nat} {kb : Blk} {rp : Value} (hH : H[i]? = some (bl, kb)) (hd : kb.cells[0]? = some (.v rp)) : DfH Tryz.prog 91 #[.pointer (some ⟨bl, 0, none⟩)] H (fun H' => H' = H) := by
  have hm : Tryz.prog.follows .mixedOrders = true := by kernel_rfl
  refine dfH_rec (g := 71) Tryz.func91 (by rfl) (by rfl) (by rfl) hH hd (by rfl) (by kernel_rfl) (caught_fn rp) fun t => ?_
  have h2 : t % 2 = 0 ∨ t % 2 = 1 := by omega
  unfold Region.schedule Region.linearise
  rw [hm]
  rcases h2 with h | h
  · left
    simp [Region.linearise.go, List.range_succ, h, Region.binds, Nat.mod_one]
  · right
    simp [Region.linearise.go, List.range_succ, h, Region.binds, Nat.mod_one]
end Go.Proofs.YtbdpfclnomiicaaGreat
end
section
set_option maxRecDepth 16000
namespace Go.Proofs.YtbdpfclnomiicaaGreat
open Go.Cap
set_option linter.unusedSimpArgs false
set_option linter.unusedVariables false
attribute [local irreducible] POp SimFrom DrawFrom EOp Sim FnH T.gp
def turnF (n : Int) : Nat := if n < 0 then 2 * (-(n + 1)).toNat + 1 else 2 * n.toNat
theorem turnF_lt {n : Int} (h0 : -9223372036854775808 ≤ n) (h1 : n ≤ 9223372036854775807) : turnF n < 18446744073709551616 := by
  unfold turnF; split <;> omega
def backF (u : Nat) : Int := if u % 2 = 1 then -((u / 2 : Nat) : Int) - 1 else ((u / 2 : Nat) : Int)
theorem back_turn (n : Int) : backF (turnF n) = n := by
  unfold backF turnF
  split <;> split <;> omega
def lebF : Nat → Nat → List UInt8
  | 0, u => [UInt8.ofNat u]
  | k + 1, u => if 128 ≤ u then UInt8.ofNat (u % 128 + 128) :: lebF k (u / 128) else [UInt8.ofNat u]
def intB (n : Int) : List UInt8 := lebF 9 (turnF n)
theorem lebF_len : ∀ (k u : Nat), 1 ≤ (lebF k u).length ∧ (lebF k u).length ≤ k + 1
  | 0, u => ⟨Nat.le_refl _, Nat.le_refl _⟩
  | k + 1, u => by
    unfold lebF
    split
    · have := lebF_len k (u / 128)
      simp only [List.length_cons]; omega
    · simp
theorem wrap_u64 {a : Int} (h0 : 0 ≤ a) (h1 : a < 18446744073709551616) : IntKind.u64.wrap a = a := by
  simp [IntKind.wrap, IntKind.bits, IntKind.signed]
  omega
theorem shl_one {a : Int} (h0 : 0 ≤ a) (h1 : a < 9223372036854775808) : bShl .u64 a 1 = 2 * a := by
  unfold bShl
  rw [show min (1 : Int).toNat IntKind.u64.bits = 1 by rfl, wrap_u64 (by omega) (by omega)]
  omega
theorem or_one {a : Nat} (h1 : a < 9223372036854775808) : bOr .u64 (2 * (a : Int)) 1 = ((2 * a + 1 : Nat) : Int) := by
  unfold bOr
  have e : (BitVec.ofInt IntKind.u64.bits (2 * (a : Int)) ||| BitVec.ofInt IntKind.u64.bits 1).toNat = 2 * a + 1 := by
    rw [BitVec.toNat_or, BitVec.toNat_ofInt, BitVec.toNat_ofInt]
    show ((2 * (a : Int)) % 18446744073709551616).toNat ||| ((1 : Int) % 18446744073709551616).toNat = _
    rw [show ((2 * (a : Int)) % 18446744073709551616).toNat = 2 * a by omega, show ((1 : Int) % 18446744073709551616).toNat = 1 by rfl]
    have := Nat.two_pow_add_eq_or_of_lt (i := 1) (b := 1) (by decide) a
    rw [Nat.pow_one] at this
    exact this.symm
  rw [e]
  exact wrap_u64 (by omega) (by omega)
theorem turned_fn (n : Int) (h0 : -9223372036854775808 ≤ n) (h1 : n ≤ 9223372036854775807) : FnP Tryz.prog 102 [ei n] (fun r => r = .v (.int .u64 (turnF n : Nat))) := by
  refine fn_enter Tryz.func102 (by rfl) (by rfl) ?_
  intro S0 w0
  show Sim _ _ [(0, ei n)] _ _
  (repeat (first | apply cn | apply cq | apply cb | apply ck | apply cl | apply cx))
  apply cr
  refine s_ p_as ?_
  (repeat (first | apply cn | apply cq | apply cb | apply ck | apply cl | apply cx))
  apply cr
  refine s_ p_mv ?_
  refine s_ p_lt ?_
  (repeat (first | apply cn | apply cq | apply cb | apply ck | apply cl | apply cx))
  refine ci ?_ ?_
  · intro hn
    (repeat (first | apply cn | apply cq | apply cb | apply ck | apply cl | apply cx))
    apply cr
    refine s_ p_mv ?_
    refine s_ p_ad ?_
    refine s_ (pop_neg (a := n + 1) (by first | ((repeat (apply eS; rfl)); exact eZ) | exact ev_int | exact ev_bool | exact ev_nil | exact ev_str | exact ev_ptr | exact ev_agg | exact ev_map | exact ev_nilf | exact ev_nili | exact ev_func)) ?_
    refine s_ p_cv ?_
    refine s_ p_shl ?_
    refine s_ p_oor ?_
    refine s_ p_as ?_
    (repeat (first | apply cn | apply cq | apply cb | apply ck | apply cl | apply cx))
    (apply sim_ret; (try simp only [blockΨ_ret, thenΨ_ret, loopL_ret, cutΨ_ret, cutE_ret]); first | refine rt ?_ | refine rn ?_)
    refine Le.of_eq ?_
    show T.v (.int .u64 (bOr .u64 (bShl .u64 (IntKind.u64.wrap (IntKind.i64.wrap (0 - (n + 1)))) 1) 1)) = _
    obtain ⟨a, ha⟩ : ∃ a : Nat, 0 - (n + 1) = (a : Int) := ⟨(0 - (n + 1)).toNat, by omega⟩
    have hw : IntKind.i64.wrap (a : Int) = (a : Int) := by
      simp [IntKind.wrap, IntKind.bits, IntKind.signed]; omega
    rw [ha, hw, wrap_u64 (by omega) (by omega), shl_one (by omega) (by omega), or_one (by omega)]
    have : turnF n = 2 * a + 1 := by unfold turnF; split <;> omega
    rw [this]
  · intro hn
    (repeat (first | apply cn | apply cq | apply cb | apply ck | apply cl | apply cx))
    apply cr
    refine s_ p_mv ?_
    refine s_ p_cv ?_
    refine s_ p_shl ?_
    refine s_ p_as ?_
    (repeat (first | apply cn | apply cq | apply cb | apply ck | apply cl | apply cx))
    (apply sim_ret; (try simp only [blockΨ_ret, thenΨ_ret, loopL_ret, cutΨ_ret, cutE_ret]); first | refine rt ?_ | refine rn ?_)
    refine Le.of_eq ?_
    show T.v (.int .u64 (bShl .u64 (IntKind.u64.wrap n) 1)) = _
    rw [wrap_u64 (by omega) (by omega), shl_one (by omega) (by omega)]
    have : ((turnF n : Nat) : Int) = 2 * n := by unfold turnF; split <;> omega
    rw [this]
end Go.Proofs.YtbdpfclnomiicaaGreat
end
