/-
  Package code: numbers, texts, readers.
  Numbers as bytes, in plain words.
  Bytes: slices.Clone, Grow, Concat; a number's, a text's bytes behind others.
  code.Int, code.Text: a number's, a text's bytes behind others.
  Appended to a full slice: what comes back is one's own.
  replica: the members, by the log: a range over slices.Backward.
-/
import Derived.Test.YtjbokbikkcfjjaaGreatAal
import Derived.Test.YtjbokbikkcfjjaaGreatAam
import Derived.Test.YtjbokbikkcfjjaaGreatAak
section
set_option maxRecDepth 16000
namespace Go.Cap
variable {P : Program} {t : Env} {H : Heap} {dst : Option Tmp} {ty ty' tp : TypeId} {pos : String} {aft : Array Edge} {g : Option (Nat × Bool)}
theorem run_eq_iface0 {ms : Array (String × TypeId)} (w : World) {ty : TypeId} (hu : P.underlying ty = some (.interface ms)) (d : Nat) : (Op.equalIn (d + 1) ty .nilIface .nilIface).run P w = .ok true w := by
  simp [Op.equalIn, run_underlying hu]
theorem run_eq_iface {ms : Array (String × TypeId)} (w : World) {ty : TypeId} (hu : P.underlying ty = some (.interface ms)) : (Op.equal ty .nilIface .nilIface).run P w = .ok true w := run_eq_iface0 w hu 9999
theorem p_eI {x : Operand} {ms : Array (String × TypeId)} (hx : autoParam (t.ev x = .v .nilIface) zl._auto_1) (hu : P.underlying ty = some (.interface ms) := by rfl) : POp P t H ⟨dst, .binOp .eql ty x (.const .nilIface) ty', tp, pos, aft, g⟩ (.v (.bool (decide True))) :=
  pop_bin hx rfl fun w => by
    have := run_eq_iface w hu
    simp [eqGuard, binOp, this]
end Go.Cap
namespace Go.Proofs.YtjbokbikkcfjjaaGreat
open Go.Cap
set_option linter.unusedSimpArgs false
set_option linter.unusedVariables false
attribute [local irreducible] POp SimFrom DrawFrom EOp Sim FnH T.gp
theorem caught_fn (rp : Value) : FnP Tryz.prog 130 [.v rp, .v .nilIface] (fun r => r = .tup []) := by
  refine fn_enter Tryz.func130 (by rfl) (by rfl) ?_
  intro S0 w0
  show Sim _ _ [(0, .v rp), (1, .v .nilIface)] _ _
  refine zC ?_
  apply cr
  refine s_ p_mv ?_
  refine s_ p_eI ?_
  refine cn ?_
  refine zC ?_
  refine ci (fun _ => ?_) (fun h => absurd trivial h)
  refine zE ?_
  exact Le.refl _
theorem int1_fn {H : Heap} {i bl : Nat} {kb : Blk} {rp : Value} (hH : H[i]? = some (bl, kb)) (hd : kb.cells[0]? = some (.v rp)) : DfH Tryz.prog 129 #[.pointer (some ⟨bl, 0, none⟩)] H (fun H' => H' = H) := by
  have hm : Tryz.prog.follows .mixedOrders = true := by kernel_rfl
  refine dfH_rec (g := 130) Tryz.func129 (by rfl) (by rfl) (by rfl) hH hd (by rfl) (by kernel_rfl) (caught_fn rp) fun t => ?_
  have h2 : t % 2 = 0 ∨ t % 2 = 1 := by omega
  unfold Region.schedule Region.linearise
  rw [hm]
  rcases h2 with h | h
  · left
    simp [Region.linearise.go, List.range_succ, h, Region.binds, Nat.mod_one]
  · right
    simp [Region.linearise.go, List.range_succ, h, Region.binds, Nat.mod_one]
theorem text1_fn {H : Heap} {i bl : Nat} {kb : Blk} {rp : Value} (hH : H[i]? = some (bl, kb)) (hd : kb.cells[0]? = some (.v rp)) : DfH Tryz.prog 156 #[.pointer (some ⟨bl, 0, none⟩)] H (fun H' => H' = H) := by
  have hm : Tryz.prog.follows .mixedOrders = true := by kernel_rfl
  refine dfH_rec (g := 130) Tryz.func156 (by rfl) (by rfl) (by rfl) hH hd (by rfl) (by kernel_rfl) (caught_fn rp) fun t => ?_
  have h2 : t % 2 = 0 ∨ t % 2 = 1 := by omega
  unfold Region.schedule Region.linearise
  rw [hm]
  rcases h2 with h | h
  · left
    simp [Region.linearise.go, List.range_succ, h, Region.binds, Nat.mod_one]
  · right
    simp [Region.linearise.go, List.range_succ, h, Region.binds, Nat.mod_one]
end Go.Proofs.YtjbokbikkcfjjaaGreat
end
section
set_option maxRecDepth 16000
namespace Go.Proofs.YtjbokbikkcfjjaaGreat
open Go.Cap
set_option linter.unusedSimpArgs false
set_option linter.unusedVariables false
attribute [local irreducible] POp SimFrom DrawFrom EOp Sim FnH T.gp
def turnF (n : Int) : Nat := if n < 0 then 2 * (-(n + 1)).toNat + 1 else 2 * n.toNat
theorem turnF_lt {n : Int} (h0 : -9223372036854775808 ≤ n) (h1 : n ≤ 9223372036854775807) : turnF n < 18446744073709551616 := by
  unfold turnF; split <;> omega
def backF (u : Nat) : Int := if u % 2 = 1 then -((u / 2 : Nat) : Int) - 1 else ((u / 2 : Nat) : Int)
theorem back_turn (n : Int) : backF (turnF n) = n := by
  unfold backF turnF
  split <;> split <;> omega
def lebF : Nat → Nat → List UInt8
  | 0, u => [UInt8.ofNat u]
  | k + 1, u => if 128 ≤ u then UInt8.ofNat (u % 128 + 128) :: lebF k (u / 128) else [UInt8.ofNat u]
def intB (n : Int) : List UInt8 := lebF 9 (turnF n)
theorem lebF_len : ∀ (k u : Nat), 1 ≤ (lebF k u).length ∧ (lebF k u).length ≤ k + 1
  | 0, u => ⟨Nat.le_refl _, Nat.le_refl _⟩
  | k + 1, u => by
    unfold lebF
    split
    · have := lebF_len k (u / 128)
      simp only [List.length_cons]; omega
    · simp
theorem wrap_u64 {a : Int} (h0 : 0 ≤ a) (h1 : a < 18446744073709551616) : IntKind.u64.wrap a = a := by
  simp [IntKind.wrap, IntKind.bits, IntKind.signed]
  omega
theorem shl_one {a : Int} (h0 : 0 ≤ a) (h1 : a < 9223372036854775808) : bShl .u64 a 1 = 2 * a := by
  unfold bShl
  rw [show min (1 : Int).toNat IntKind.u64.bits = 1 by rfl, wrap_u64 (by omega) (by omega)]
  omega
theorem or_one {a : Nat} (h1 : a < 9223372036854775808) : bOr .u64 (2 * (a : Int)) 1 = ((2 * a + 1 : Nat) : Int) := by
  unfold bOr
  have e : (BitVec.ofInt IntKind.u64.bits (2 * (a : Int)) ||| BitVec.ofInt IntKind.u64.bits 1).toNat = 2 * a + 1 := by
    rw [BitVec.toNat_or, BitVec.toNat_ofInt, BitVec.toNat_ofInt]
    show ((2 * (a : Int)) % 18446744073709551616).toNat ||| ((1 : Int) % 18446744073709551616).toNat = _
    rw [show ((2 * (a : Int)) % 18446744073709551616).toNat = 2 * a by omega, show ((1 : Int) % 18446744073709551616).toNat = 1 by rfl]
    have := Nat.two_pow_add_eq_or_of_lt (i := 1) (b := 1) (by decide) a
    rw [Nat.pow_one] at this
    exact this.symm
  rw [e]
  exact wrap_u64 (by omega) (by omega)
theorem turned_fn (n : Int) (h0 : -9223372036854775808 ≤ n) (h1 : n ≤ 9223372036854775807) : FnP Tryz.prog 170 [ei n] (fun r => r = .v (.int .u64 (turnF n : Nat))) := by
  refine fn_enter Tryz.func170 (by rfl) (by rfl) ?_
  intro S0 w0
  show Sim _ _ [(0, ei n)] _ _
  refine zC ?_
  apply cr
  refine s_ p_as ?_
  refine zC ?_
  apply cr
  refine s_ p_mv ?_
  refine s_ p_lt ?_
  refine zC ?_
  refine ci ?_ ?_
  · intro hn
    refine zC ?_
    apply cr
    refine s_ p_mv ?_
    refine s_ p_ad ?_
    refine s_ (pop_neg (a := n + 1) (zl)) ?_
    refine s_ p_cv ?_
    refine s_ p_shl ?_
    refine s_ p_oor ?_
    refine s_ p_as ?_
    refine zC ?_
    refine zE ?_
    refine Le.of_eq ?_
    show T.v (.int .u64 (bOr .u64 (bShl .u64 (IntKind.u64.wrap (IntKind.i64.wrap (0 - (n + 1)))) 1) 1)) = _
    obtain ⟨a, ha⟩ : ∃ a : Nat, 0 - (n + 1) = (a : Int) := ⟨(0 - (n + 1)).toNat, by omega⟩
    have hw : IntKind.i64.wrap (a : Int) = (a : Int) := by
      simp [IntKind.wrap, IntKind.bits, IntKind.signed]; omega
    rw [ha, hw, wrap_u64 (by omega) (by omega), shl_one (by omega) (by omega), or_one (by omega)]
    have : turnF n = 2 * a + 1 := by unfold turnF; split <;> omega
    rw [this]
  · intro hn
    refine zC ?_
    apply cr
    refine s_ p_mv ?_
    refine s_ p_cv ?_
    refine s_ p_shl ?_
    refine s_ p_as ?_
    refine zC ?_
    refine zE ?_
    refine Le.of_eq ?_
    show T.v (.int .u64 (bShl .u64 (IntKind.u64.wrap n) 1)) = _
    rw [wrap_u64 (by omega) (by omega), shl_one (by omega) (by omega)]
    have : ((turnF n : Nat) : Int) = 2 * n := by unfold turnF; split <;> omega
    rw [this]
end Go.Proofs.YtjbokbikkcfjjaaGreat
end
section
set_option maxRecDepth 16000
namespace Go.Proofs.YtjbokbikkcfjjaaGreat
open Go.Cap
set_option linter.unusedSimpArgs false
set_option linter.unusedVariables false
attribute [local irreducible] POp SimFrom DrawFrom EOp Sim FnH T.gp
def tB : TypeId := 5
def bl (l : List UInt8) : T := .sl false (l.map eb)
def OB (l : List UInt8) (v : Value) (Hs : Heap) : Prop := OSl tB 1 (l.map eb) v Hs
theorem eb1 (l : List UInt8) : ∀ x ∈ l.map eb, x.cells.length = 1 := zk
theorem eb_ok (l : List UInt8) : ∀ x ∈ l.map eb, x.solid := solid_map _ (fun _ => .inl rfl) _
theorem OB.lend {l : List UInt8} {v : Value} {Hs G : Heap} (h : OB l v Hs) (hG : ∀ p ∈ Hs, p ∈ G) : Lends G (.v v) (bl l) := OSl.lend h hG (eb1 l) (eb_ok l)
theorem cloneB_fn (f : Bool) (l : List UInt8) (hl : l.length ≤ 1000000000000) : FnH Tryz.prog 127 [.sl f (l.map eb)] [] (fun r H => ∃ v, r = .v v ∧ OB l v H) := by
  refine fn_enter Tryz.func127 (by rfl) (by rfl) ?_
  intro S0 w0
  show Sim _ _ [(0, T.sl f (l.map eb))] _ _
  refine zC ?_
  apply cr
  refine s_ p_as ?_
  refine zC ?_
  apply cr
  refine s_ p_mv ?_
  refine from_name 3 fun p c h1 _ => ?_
  refine s_ p_en ?_
  refine zC ?_
  refine ci ?_ ?_
  · intro hp
    have := h1 hp
    have : l = [] := by simpa using this
    subst this
    refine zC ?_
    apply cr
    refine s_ p_as ?_
    refine zC ?_
    refine zR ?_
    exact rh kR ⟨_, rfl, osl_nil⟩ (Le.refl _)
  · intro hp
    refine zC ?_
    apply cr
    refine s_ p_bs ?_
    refine from_name 5 fun q c' _ h2 => ?_
    have := h2 rfl
    subst this
    refine s_ p_mv ?_
    refine e_osA (ho := (osl_nil' : OSl tB 1 [] _ [])) (A := []) (B := []) (fun _ h => nomatch h) (fun v' Hs' ho => ?_)
    refine s_ p_as ?_
    refine zC ?_
    refine zR ?_
    exact rh kR ⟨_, rfl, by simpa [OB] using ho⟩ (Le.refl _)
theorem cloneB_fnD (f : Bool) (l : List UInt8) (hl : l.length ≤ 1000000000000) : FnP Tryz.prog 127 [.sl f (l.map eb)] (fun r => r = bl l) :=
  FnH.give (cloneB_fn f l hl) (by rintro r H ⟨v, rfl, ho⟩; exact ho.lend fun _ h => h)
theorem growB_fn (n : Nat) (hn : n ≤ 10000000000000) : FnH Tryz.prog 178 [.v (.slice none 0 0), ei n] [] (fun r H => ∃ v, r = .v v ∧ OB [] v H) := by
  refine fn_enter Tryz.func178 (by rfl) (by rfl) ?_
  intro S0 w0
  show Sim _ _ [(0, T.v (.slice none 0 0)), (1, ei n)] _ _
  refine zC ?_
  apply cr
  refine s_ p_as ?_
  refine zC ?_
  apply cr
  refine s_ p_mv ?_
  refine s_ p_lt ?_
  refine zC ?_
  refine ci ?_ ?_
  · intro h; exact absurd h (by omega)
  intro _
  refine zC ?_
  apply cr
  refine s_ p_mv ?_
  refine s_ p_mv ?_
  refine s_ p_cap ?_
  refine s_ p_mv ?_
  (first | refine s_ p_ln ?_ | refine s_ p_lr ?_)
  refine s_ p_su ?_
  refine s_ p_su ?_
  refine s_ p_as ?_
  refine zC ?_
  apply cr
  refine s_ p_mv ?_
  refine s_ p_gt ?_
  refine zC ?_
  have e0 : (n : Int) - (((0 : Nat) : Int) - ((0 : Nat) : Int)) = n := by omega
  rw [e0]
  refine ci ?_ ?_
  · intro h0
    have h0' : 0 < n := by omega
    refine zC ?_
    apply cr
    refine s_ p_mv ?_
    refine s_ p_mv ?_
    refine s_ p_cap ?_
    refine s_ (p_sbh (p := none) (n := 0) (c := 0) (v := .slice none 0 0) (Nat.le_refl _) rfl) ?_
    refine s_ p_mv ?_
    refine e_mk0 (n := n) (fun b c _ hc => ?_)
    refine s_ p_mv ?_
    (first | refine s_ p_ln ?_ | refine s_ p_lr ?_)
    refine s_ (p_sbh (p := some ⟨b, 0, none⟩) (n := n) (c := c) (j := ((0 : Nat) : Int)) (v := .slice (some ⟨b, 0, none⟩) 0 c) hc (by simp [subV, Addr.add])) ?_
    refine s_ p_as ?_
    refine zC ?_
    refine zC ?_
    apply cr
    refine s_ p_mv ?_
    refine s_ p_as ?_
    refine zC ?_
    refine zR ?_
    exact rh kR ⟨_, rfl, .inr ⟨b, c, rfl, by simp, rfl⟩⟩ (Le.refl _)
  · intro h0
    refine zC ?_
    apply cr
    refine s_ p_mv ?_
    refine s_ p_as ?_
    refine zC ?_
    refine zR ?_
    exact rh kR ⟨_, rfl, osl_nil⟩ (Le.refl _)
def catL (rows : List (Bool × List UInt8)) : List UInt8 := rows.flatMap (·.2)
def erow (p : Bool × List UInt8) : T := .sl p.1 (p.2.map eb)
theorem catL_next {rows : List (Bool × List UInt8)} {k : Nat} (hk : k < rows.length) : catL (rows.take (k + 1)) = catL (rows.take k) ++ (rows[k]'hk).2 := by
  unfold catL
  rw [List.take_succ_eq_append_getElem hk, List.flatMap_append]
  simp
theorem catL_le {rows : List (Bool × List UInt8)} (k : Nat) : (catL (rows.take k)).length ≤ (catL rows).length := by
  conv => rhs; rw [← List.take_append_drop k rows]
  unfold catL
  rw [List.flatMap_append, List.length_append]
  omega
theorem concat_fn (f : Bool) (rows : List (Bool × List UInt8)) (hn : (catL rows).length ≤ 100000000000) (hr : rows.length ≤ 1000000) : FnP Tryz.prog 174 [.sl f (rows.map erow)] (fun r => r = bl (catL rows)) := by
  refine FnH.give (Φ := fun r H => ∃ v, r = .v v ∧ OB (catL rows) v H) ?_ (by rintro r H ⟨v, rfl, ho⟩; exact ho.lend fun _ h => h)
  refine fn_enter Tryz.func174 (by rfl) (by rfl) ?_
  intro S0 w0
  show Sim _ _ [(0, T.sl f (rows.map erow))] _ _
  refine zC ?_
  apply cr
  refine s_ p_as ?_
  refine zC ?_
  apply cr
  refine s_ p_as ?_
  refine zC ?_
  apply cr
  refine s_ p_mv ?_
  (first | refine s_ p_ln ?_ | refine s_ p_lr ?_)
  refine s_ p_mv ?_
  refine zC ?_
  apply sim_loopL (σ := Nat) (ok := fun k => k ≤ rows.length) (env := fun k => [(11, ei k), (3, ei ((catL (rows.take k)).length : Nat)), (10, ei (rows.length : Nat)), (9, .sl f (rows.map erow)), (0, .sl f (rows.map erow))]) (heap := fun _ => []) (μ := fun k => rows.length - k) (s0 := 0)
  · exact Nat.zero_le _
  · refine ⟨?_, ?_, ?_, eL⟩
    · apply le_get; ((repeat (apply gS; rfl)); exact gZ)
      exact Le.refl _
    · apply le_get; ((repeat (apply gS; rfl)); exact gZ)
      exact Le.refl _
    · apply le_get; ((repeat (apply gS; rfl)); exact gZ)
      exact Le.of_eq (by simp [ei])
  · exact kR
  intro k hk
  refine zC ?_
  apply cr
  refine s_ p_lt ?_
  refine zC ?_
  refine ci ?_ ?_
  · intro hlt
    have hlt' : k < rows.length := by omega
    have hnx := catL_next hlt'
    have hle := catL_le (rows := rows) (k + 1)
    rw [hnx, List.length_append] at hle
    refine zC ?_
    apply cr
    (first | refine s_ (p_ix hix) ?_ | refine s_ (p_ix hix2) ?_ | refine s_ p_ia ?_ | refine s_ p_ir ?_)
    (first | refine s_ p_ld ?_ | refine s_ p_lo ?_)
    refine s_ p_as ?_
    refine zC ?_
    apply cr
    refine s_ p_mv ?_
    refine s_ p_mv ?_
    (first | refine s_ p_ln ?_ | refine s_ p_lr ?_)
    refine s_ p_ad ?_
    refine s_ p_as ?_
    refine zC ?_
    apply cr
    refine s_ p_mv ?_
    refine s_ p_lt ?_
    refine zC ?_
    refine ci ?_ ?_
    · intro h; exact absurd h (by simp only [List.length_map]; omega)
    intro _
    refine zC ?_
    apply cr
    refine s_ p_ad ?_
    refine s_ p_mv ?_
    refine zC ?_
    refine ⟨k + 1, by omega, (by simp only []; omega), ⟨?_, ?_, eL⟩, kR⟩
    · apply le_get; ((repeat (apply gS; rfl)); exact gZ)
      exact Le.refl _
    · apply le_get; ((repeat (apply gS; rfl)); exact gZ)
      exact Le.of_eq (by rw [hnx]; simp [ei])
  intro hge
  have hke : k = rows.length := by omega
  subst hke
  rw [List.take_length]
  refine zC ?_
  apply cr
  refine s_ p_mv ?_
  refine e_cH (Hs := []) (Hr := []) (growB_fn (catL rows).length (by omega)) (.refl _) (fun r H' ⟨v, hr, ho⟩ => ?_)
  subst hr
  refine s_ p_as ?_
  refine zC ?_
  apply cr
  refine s_ p_mv ?_
  (first | refine s_ p_ln ?_ | refine s_ p_lr ?_)
  refine s_ p_mv ?_
  refine zC ?_
  apply sim_loopL (σ := Nat × Value × Heap) (ok := fun s => s.1 ≤ rows.length ∧ OB (catL (rows.take s.1)) s.2.1 s.2.2) (env := fun s => [(27, ei s.1), (6, .v s.2.1), (26, ei (rows.length : Nat)), (25, .sl f (rows.map erow))]) (heap := fun s => s.2.2) (μ := fun s => rows.length - s.1) (s0 := (0, v, H'))
  · exact ⟨Nat.zero_le _, ho⟩
  · refine ⟨?_, ?_, ?_, eL⟩
    · apply le_get; ((repeat (apply gS; rfl)); exact gZ)
      exact Le.refl _
    · apply le_get; ((repeat (apply gS; rfl)); exact gZ)
      exact Le.refl _
    · apply le_get; ((repeat (apply gS; rfl)); exact gZ)
      exact Le.of_eq (by simp [ei])
  · rw [List.append_nil]; exact kR
  rintro ⟨k, v, H⟩ ⟨hk, ho⟩
  simp only at hk ho
  refine zC ?_
  apply cr
  refine s_ p_lt ?_
  refine zC ?_
  refine ci ?_ ?_
  · intro hlt
    simp only at hlt
    have hlt' : k < rows.length := by omega
    have hnx := catL_next hlt'
    have hle := catL_le (rows := rows) (k + 1)
    rw [hnx, List.length_append] at hle
    refine zC ?_
    apply cr
    (first | refine s_ (p_ix hix) ?_ | refine s_ (p_ix hix2) ?_ | refine s_ p_ia ?_ | refine s_ p_ir ?_)
    (first | refine s_ p_ld ?_ | refine s_ p_lo ?_)
    refine s_ p_as ?_
    refine zC ?_
    apply cr
    refine s_ p_mv ?_
    refine s_ p_mv ?_
    refine e_osA (ho := ho) (A := []) (B := []) (eb1 _) (fun v' Hs' ho' => ?_) (hH := by simp)
    refine s_ p_as ?_
    refine zC ?_
    apply cr
    refine s_ p_ad ?_
    refine s_ p_mv ?_
    refine zC ?_
    refine ⟨(k + 1, v', Hs'), ⟨by simp only; omega, ?_⟩, (by simp only []; omega), ⟨?_, ?_, eL⟩, by simp only [List.nil_append, List.append_nil]; exact kR⟩
    · simp only
      rw [hnx]
      unfold OB
      rw [List.map_append]
      exact ho'
    · apply le_get; ((repeat (apply gS; rfl)); exact gZ)
      exact Le.refl _
    · apply le_get; ((repeat (apply gS; rfl)); exact gZ)
      exact Le.refl _
  intro hge
  simp only at hge
  have hke : k = rows.length := by omega
  subst hke
  rw [List.take_length] at ho
  refine zC ?_
  apply cr
  refine s_ p_mv ?_
  refine s_ p_as ?_
  refine zC ?_
  refine zR ?_
  exact rh kR ⟨v, rfl, ho⟩ (Le.refl _)
end Go.Proofs.YtjbokbikkcfjjaaGreat
end
section
set_option maxRecDepth 16000
namespace Go.Proofs.YtjbokbikkcfjjaaGreat
open Go.Cap
set_option linter.unusedSimpArgs false
set_option linter.unusedVariables false
attribute [local irreducible] POp SimFrom DrawFrom EOp Sim FnH T.gp
theorem lebF_big {k u : Nat} (h : 128 ≤ u) : lebF (k + 1) u = UInt8.ofNat (u % 128 + 128) :: lebF k (u / 128) := by rw [lebF, if_pos h]
theorem lebF_small {k u : Nat} (h : u < 128) : lebF k u = [UInt8.ofNat u] := by
  cases k with
  | zero => rfl
  | succ k => rw [lebF, if_neg (by omega)]
theorem byte_more (u : Nat) : bOr .u8 (IntKind.u8.wrap ((u : Int).tmod 128)) 128 = ((UInt8.ofNat (u % 128 + 128)).toNat : Int) := by
  have key : ∀ i : Fin 128, bOr .u8 (IntKind.u8.wrap ((i.val : Nat) : Int)) 128 = ((UInt8.ofNat (i.val + 128)).toNat : Int) := by decide +kernel
  have h := key ⟨u % 128, Nat.mod_lt _ (by omega)⟩
  rw [show (u : Int).tmod 128 = ((u % 128 : Nat) : Int) from rfl]
  exact h
theorem byte_last {u : Nat} (h : u < 128) : IntKind.u8.wrap (u : Int) = ((UInt8.ofNat u).toNat : Int) := by
  have key : ∀ i : Fin 128, IntKind.u8.wrap ((i.val : Nat) : Int) = ((UInt8.ofNat i.val).toNat : Int) := by decide +kernel
  exact key ⟨u, h⟩
theorem shr_seven (u : Nat) : bShr .u64 (u : Int) 7 = ((u / 128 : Nat) : Int) := by
  unfold bShr
  rw [show min (7 : Int).toNat IntKind.u64.bits = 7 by rfl, show (2 : Int) ^ 7 = 128 by rfl, Int.fdiv_eq_ediv_of_nonneg _ (by omega)]
  omega
theorem pow_next (k : Nat) : 2 ^ (7 * (k + 1 + 1)) = 2 ^ (7 * (k + 1)) * 128 := by
  rw [show 7 * (k + 1 + 1) = 7 * (k + 1) + 7 by omega, Nat.pow_add]
theorem intB_len (n : Int) : 1 ≤ (intB n).length ∧ (intB n).length ≤ 10 := lebF_len 9 (turnF n)
structure IntS where
  k : Nat
  u : Nat
  out : List UInt8
  v : Value
  H : Heap
theorem int_fn (f : Bool) (b : List UInt8) (n : Int) (h0 : -9223372036854775808 ≤ n) (h1 : n ≤ 9223372036854775807) (hl : b.length ≤ 100000000000) : FnP Tryz.prog 164 [.sl f (b.map eb), ei n] (fun r => r = bl (b ++ intB n)) := by
  have hlen := intB_len n
  have htl := turnF_lt h0 h1
  refine fn_enter Tryz.func164 (by rfl) (by rfl) ?_
  intro S0 w0
  show Sim _ _ [(0, T.sl f (b.map eb)), (1, ei n)] _ _
  refine zC ?_
  apply cr
  refine s_ p_as ?_
  refine zC ?_
  apply cr
  refine s_ p_mv ?_
  refine e_cH (Hs := []) (Hr := []) (cloneB_fn f b (by omega)) (.refl _) (fun r H ⟨v, hr, ho⟩ => ?_)
  subst hr
  refine s_ p_as ?_
  refine zC ?_
  apply cr
  refine s_ p_mv ?_
  refine s_ (p_ca (turned_fn n h0 h1)) ?_
  refine s_ p_as ?_
  refine zC ?_
  apply sim_loopL (σ := IntS) (ok := fun s => OB s.out s.v s.H ∧ s.out ++ lebF s.k s.u = b ++ intB n ∧ s.u < 2 ^ (7 * (s.k + 1))) (env := fun s => [(6, .v (.int .u64 s.u)), (5, .v s.v)]) (heap := fun s => s.H) (μ := fun s => s.k) (s0 := ⟨9, turnF n, b, v, H⟩)
  · exact ⟨ho, rfl, by simp only; omega⟩
  · exact eL
  · rw [List.append_nil]; exact kR
  rintro ⟨k, u, out, v, H⟩ ⟨ho, he, hu⟩
  simp only at ho he hu
  show Sim _ _ [(6, .v (.int .u64 u)), (5, .v v)] H _
  have hol : out.length ≤ 100000000010 := by
    have := congrArg List.length he
    simp only [List.length_append] at this
    omega
  refine zC ?_
  apply cr
  refine s_ p_mv ?_
  refine s_ p_ge ?_
  refine zC ?_
  refine ci ?_ ?_
  · intro hge
    have hge' : 128 ≤ u := by omega
    cases k with
    | zero => exact absurd hu (by omega)
    | succ k =>
      refine zC ?_
      apply cr
      refine s_ p_mv ?_
      refine s_ p_mv ?_
      refine s_ p_re ?_
      refine s_ p_cv ?_
      refine s_ p_oor ?_
      rw [byte_more u]
      refine s_ p_bs ?_
      refine e_osA (ho := ho) (A := []) (B := []) (ys := [eb (UInt8.ofNat (u % 128 + 128))]) (f := true) (eb1 _) (fun v' Hs' ho' => ?_) (hH := by simp)
      refine s_ p_as ?_
      refine zC ?_
      apply cr
      refine s_ p_mv ?_
      refine s_ p_shr ?_
      rw [shr_seven u]
      refine s_ p_as ?_
      refine zC ?_
      refine ⟨⟨k, u / 128, out ++ [UInt8.ofNat (u % 128 + 128)], v', Hs'⟩, ⟨?_, ?_, ?_⟩, (by simp only []; omega), eL, by simp only [List.nil_append, List.append_nil]; exact kR⟩
      · simp only
        unfold OB
        rw [List.map_append]
        exact ho'
      · simp only
        rw [← he, lebF_big hge', List.append_assoc]
        rfl
      · simp only
        rw [pow_next] at hu
        exact Nat.div_lt_of_lt_mul (by omega)
  · intro hlt
    have hlt' : u < 128 := by omega
    refine zC ?_
    apply cr
    refine s_ p_mv ?_
    refine s_ p_mv ?_
    refine s_ p_cv ?_
    rw [byte_last hlt']
    refine s_ p_bs ?_
    refine e_osA (ho := ho) (A := []) (B := []) (ys := [eb (UInt8.ofNat u)]) (f := true) (eb1 _) (fun v' Hs' ho' => ?_) (hH := by simp)
    rw [lebF_small hlt'] at he
    have ho2 : OB (b ++ intB n) v' Hs' := by rw [← he]; unfold OB; rw [List.map_append]; exact ho'
    refine e_cHA (FnH.lend (G := Hs') (LendsL.cons (ho2.lend fun _ h => h) LendsL.nil) (cloneB_fnD false (b ++ intB n) (by simp only [List.length_append]; omega))) (fun r H' ⟨hr1, hr2⟩ => ?_)
    subst hr1 hr2
    refine s_ p_as ?_
    refine zC ?_
    refine zE ?_
    exact Le.refl _
theorem codeText_fn (f g : Bool) (b s : List UInt8) (hb : b.length ≤ 10000000000) (hs : s.length ≤ 10000000000) : FnP Tryz.prog 173 [.sl f (b.map eb), .sl g (s.map eb)] (fun r => r = bl (b ++ intB s.length ++ s)) := by
  have hlen := intB_len s.length
  have hi := int_fn f b (s.length : Nat) (by omega) (by omega) (by omega)
  have hc := concat_fn true [(false, b ++ intB s.length), (g, s)] (by simp [catL]; omega) (by simp)
  refine fn_enter Tryz.func173 (by rfl) (by rfl) ?_
  intro S0 w0
  show Sim _ _ [(0, T.sl f (b.map eb)), (1, T.sl g (s.map eb))] _ _
  refine zC ?_
  apply cr
  refine s_ p_as ?_
  refine zC ?_
  apply cr
  refine s_ p_mv ?_
  refine s_ p_mv ?_
  (first | refine s_ p_ln ?_ | refine s_ p_lr ?_)
  rw [List.length_map]
  refine s_ (p_ca (hi)) ?_
  refine s_ p_mv ?_
  refine s_ p_bs ?_
  refine s_ (p_ca (hc)) ?_
  refine s_ p_as ?_
  refine zC ?_
  refine zE ?_
  exact Le.of_eq (by simp [catL, bl]; rfl)
end Go.Proofs.YtjbokbikkcfjjaaGreat
end
section
namespace Go.Cap
variable {K : Ctx} {t : Env} {H : Heap} {N : Env → Heap → Prop} {ty ty' tp : TypeId} {pos : String} {aft : Array Edge} {g : Option (Nat × Bool)} {ops : Array Oper} {i : Nat} {l : List Oper} {kd : Tmp} {eff : List Nat} {pend : List Pend} {al : List (Nat × Oper)}
theorem lendG {c : Code} {Ψ : Exit → Env → Heap → Prop} {G H1 : Heap} {d : T} (k : Nat) (x : T) (hl : Lends G d x) (hp : H.Perm (G ++ H1)) (h : Sim K c ((k, x) :: t) H1 Ψ) (hg : t.get k = d := by rfl) : Sim K c t H Ψ :=
  sim_lend (G := G) (H1 := H1) [(k, x)] hp ⟨hg ▸ hl, trivial⟩ h
end Go.Cap
end
section
set_option maxRecDepth 4000
namespace Go.Proofs.YtjbokbikkcfjjaaGreat
open Go.Cap
set_option linter.unusedSimpArgs false
set_option linter.unusedVariables false
attribute [local irreducible] POp SimFrom DrawFrom EOp Sim FnH T.gp
set_option maxHeartbeats 1000000 in
theorem back_it (l : List En) (hl : l.length ≤ 4611686018427387904) : ItC Tryz.prog 124 [.adr (eens l)] (fun p : Nat × En => [ei p.1, een p.2]) (fun xs => xs = down l l.length) (fun pre => ∃ k, k ≤ l.length ∧ pre = down l k) := by
  refine it_enter Tryz.func124 (by rfl) (by rfl) (by rfl) ?_
  intro c l' r I Ix Hx S w hlen _ _ hK h0 hY
  show Sim _ _ [(Tryz.f124.ntmps, .v undef), (0, .v (.func (.yield l') #[] #[])), (1, .adr (.sl false (l.map een)))] _ _
  refine zC ?_
  apply cr
  (first | refine s_ p_ld ?_ | refine s_ p_lo ?_)
  (first | refine s_ p_ln ?_ | refine s_ p_lr ?_)
  refine s_ p_su ?_
  refine s_ p_as ?_
  refine zC ?_
  apply sim_loopL (σ := Nat × Heap) (ok := fun s => s.1 ≤ l.length ∧ I (down l s.1) s.2) (env := fun s => [(3, .v (.int .i64 ((l.length : Int) - 1 - s.1))), (Tryz.f124.ntmps, .v undef), (0, .v (.func (.yield l') #[] #[])), (1, .adr (.sl false (l.map een)))])
    (heap := fun s => s.2) (μ := fun s => l.length - s.1) (s0 := (0, Hx))
  · exact ⟨by simp, h0⟩
  · refine ⟨?_, eL⟩
    apply le_get; ((repeat (apply gS; rfl)); exact gZ)
    exact Le.of_eq (by simp)
  · exact kR
  rintro ⟨k, H⟩ ⟨hk, hI⟩
  simp only at hk hI
  refine zC ?_
  apply cr
  refine s_ p_mv ?_
  refine s_ p_ge ?_
  refine zC ?_
  refine ci ?_ ?_
  · intro hge
    have hix : l.length - 1 - k < l.length := by omega
    have hcast : (l.length : Int) - 1 - k = ((l.length - 1 - k : Nat) : Int) := by omega
    rw [hcast]
    have hget : l.getD (l.length - 1 - k) default = l[l.length - 1 - k] := by simp [hix]
    have hyc := hY (down l k) (l.length - 1 - k, l[l.length - 1 - k]) H hI ⟨k + 1, by omega, by rw [down_succ, hget]⟩
    refine zC ?_
    apply cr
    refine s_ p_mv ?_
    refine s_ p_mv ?_
    (first | refine s_ p_ld ?_ | refine s_ p_lo ?_)
    refine s_ p_mv ?_
    (first | refine s_ (p_ix hix) ?_ | refine s_ (p_ix hix2) ?_ | refine s_ p_ia ?_ | refine s_ p_ir ?_)
    (first | refine s_ p_la ?_ | refine s_ p_loa ?_)
    refine e_yi (Hr := []) hyc (by simp) (hlen _) hK (fun H' hI' => ?_) (fun H' hI' => ?_)
    · simp only [if_true] at hI'
      refine s_ p_no ?_
      refine zC ?_
      refine ci ?_ ?_
      · intro h; exact absurd trivial h
      intro _
      refine zC ?_
      apply cr
      refine s_ p_mv ?_
      refine s_ p_su ?_
      refine s_ p_as ?_
      refine zC ?_
      refine ⟨(k + 1, H'), ⟨by simp only; omega, ?_⟩, (by simp only []; omega), ⟨?_, eL⟩, by rw [List.append_nil]; exact kR⟩
      · simp only
        rw [down_succ, hget]; exact hI'
      · apply le_get; ((repeat (apply gS; rfl)); exact gZ)
        exact Le.of_eq (by congr 2; simp only; omega)
    · simp only [Bool.false_eq_true, if_false] at hI'
      refine s_ p_no ?_
      refine zC ?_
      refine ci ?_ ?_
      · intro _
        refine zC ?_
        apply sim_ret
        simp only [blockΨ_ret, thenΨ_ret, loopL_ret]
        rw [List.append_nil]
        exact it_stop ⟨k + 1, by omega, by rw [down_succ, hget]⟩ hI'
      · intro h; exact absurd (fun h => h) h
  · intro hge
    have hk2 : k = l.length := by omega
    subst hk2
    refine zC ?_
    exact it_doneN rfl hI
theorem back_fn (f : Bool) (xs : List T) : FnP Tryz.prog 90 [.sl f xs] (fun r => r = .clo 124 [] [.adr (.sl f xs)]) := by
  refine fn_enter Tryz.func90 (by rfl) (by rfl) ?_
  intro S0 w0
  show Sim _ _ [(0, T.sl f xs)] _ _
  refine zC ?_
  apply cr
  refine e_b1 fun b1 _ => ?_
  refine s_ p_as ?_
  refine zC ?_
  apply cr
  refine s_ p_mf ?_
  refine s_ p_as ?_
  refine zC ?_
  refine sim_lend (G := [_]) (H1 := []) [(2, .clo 124 [] [.adr (.sl f xs)])] (by simp; rfl) ⟨?_, trivial⟩ ?_
  · refine (show Env.get _ _ = _ from gZ) ▸ Lends.clo LendsL.nil (LendsL.cons (Lends.ptr List.mem_cons_self (.inl rfl) ?_ (by simp [T.cells]) (by simp [T.cells])) LendsL.nil)
    exact LendsL.le (LeL.refl _)
  · refine zE ?_
    exact Le.refl _
theorem down_mem {l : List En} {k : Nat} (hk : k ≤ l.length) {p : Nat × En} (h : p ∈ down l k) : p.1 < l.length := by
  obtain ⟨j, hj, rfl⟩ := List.mem_map.1 h
  have := List.mem_range.1 hj
  simp only; omega
theorem down_split {l : List En} {k : Nat} (hk : k ≤ l.length) {ini : List (Nat × En)} {last : Nat × En} (h : ini ++ [last] = down l k) (hz : ∀ p ∈ ini, p.2.conf = 0) (hl : last.2.conf ≠ 0) : lc l l.length = some (last.1, last.2.conf) := by
  cases k with
  | zero => simp [down] at h
  | succ k =>
    rw [down_succ] at h
    obtain ⟨h1, h2⟩ := List.append_inj' h rfl
    have h3 : last = (l.length - 1 - k, l.getD (l.length - 1 - k) default) := by simpa using h2
    rw [lc_down l (l.length - k) k (by omega) (by rw [← h1]; exact hz)]
    have e : l.length - k = (l.length - 1 - k) + 1 := by omega
    rw [e, lc]
    rw [h3] at hl
    simp only at hl
    rw [if_pos hl, h3]
set_option maxHeartbeats 4000000 in
theorem conf_fn (n : Nd) (hl : n.log.length ≤ 1000000000) (hb1 : -1000000000000 ≤ n.base) (hb2 : n.base ≤ 1000000000000) : FnP Tryz.prog 64 [.adr (nd n)] (fun r => r = .tup [ei (confF n).1, ei (confF n).2]) := by
  have cbk := back_fn false (n.log.map een)
  refine fn_enter Tryz.func64 (by rfl) (by rfl) ?_
  intro S0 w0
  show Sim _ _ [(0, T.adr (.agg (nodeC n (.sl false (n.log.map een)))))] _ _
  refine zC ?_
  apply cr
  refine e_b1 fun b1 _ => ?_
  refine e_al fun b2 _ => ?_
  refine e_al fun b3 _ => ?_
  refine zC ?_
  apply cr
  refine s_ p_lo ?_
  refine s_ p_nc ?_
  (first | refine s_ p_fa ?_ | refine s_ p_fr ?_)
  (first | refine s_ p_ld ?_ | refine s_ p_lo ?_)
  refine s_ (p_ca (cbk)) ?_
  refine zC ?_
  refine sim_range (back_it n.log (by omega)) (by ((repeat (apply eS; rfl)); exact eZ)) (by rfl) rfl (fun (pre : List (Nat × En)) (H : Heap) => (∀ p ∈ pre, p.2.conf = 0) ∧ H = [(b3, ⟨3, [ei 0], 1⟩), (b2, ⟨3, [ei 0], 1⟩), (b1, ⟨147, [.adr (.agg (nodeC n (.sl false (n.log.map een))))], 1⟩)])
    (fun (pre : List (Nat × En)) (H : Heap) => ∃ ini last, pre = ini ++ [last] ∧ (∀ p ∈ ini, p.2.conf = 0) ∧ last.2.conf ≠ 0 ∧ H = [(b3, ⟨3, [ei last.2.conf], 1⟩), (b2, ⟨3, [ei (n.base + last.1 + 1)], 1⟩), (b1, ⟨147, [.adr (.agg (nodeC n (.sl false (n.log.map een))))], 1⟩)])
    .ret .ret (.inl ⟨rfl, rfl⟩) (fun _ => rfl) (by rfl) ⟨by simp, rfl⟩ ?_ ?_ ?_
  · rintro pre x H1 ⟨hz, rfl⟩ ⟨k, hk, hsp⟩ l' S1 w1
    have hx1 : x.1 < n.log.length := down_mem hk (by rw [← hsp]; simp)
    simp only [putPs]
    refine zC ?_
    apply cr
    refine s_ p_as ?_
    refine zC ?_
    apply cr
    refine e_al fun b5 _ => ?_
    refine e_st ?_
    refine zC ?_
    refine ⟨rfl, fun S2 w2 mk => ?_⟩
    refine zC ?_
    apply cr
    refine s_ p_fr ?_
    refine s_ p_lo ?_
    refine s_ p_ne ?_
    refine zC ?_
    refine ci ?_ ?_
    · intro hne
      refine zC ?_
      refine ca [0, 1, 2, 3, 4, 5, 6, 7, 8, 9, 10] [9, 10] ?_
      refine a_lo ?_
      refine a_ (fun _ => p_nc) ?_
      (first | refine a_ (fun _ => p_fa) ?_ | refine a_ (fun _ => p_fr) ?_)
      (first | refine a_ (fun _ => p_ld) ?_ | refine a_lo ?_)
      refine a_ (fun _ => p_mv) ?_
      refine a_ (fun _ => p_ad) ?_
      refine a_ (fun _ => p_ad) ?_
      refine a_ (fun _ => p_fr) ?_
      refine a_lo ?_
      refine a_st ?_
      refine a_st ?_
      apply an
      refine zC ?_
      refine zC ?_
      apply sim_ret
      simp only [blockΨ_ret, thenΨ_ret]
      exact ⟨_, kS kR, .inr ⟨rfl, pre, x, rfl, hz, hne, rfl⟩⟩
    · intro he
      refine zC ?_
      exact ⟨_, kS kR, .inl ⟨rfl, by intro p hp; rcases List.mem_append.1 hp with h | h; exact hz p h; rw [List.mem_singleton.1 h]; simpa using he, rfl⟩⟩
  · rintro xs H' rfl ⟨hz, rfl⟩
    have hlc : lc n.log n.log.length = none := by rw [lc_down n.log 0 n.log.length (by omega) hz]; rfl
    refine zC ?_
    refine zC ?_
    refine ca [0, 1, 2, 3, 4, 5, 6, 7, 8, 9] [8, 9] ?_
    refine a_lo ?_
    refine a_ (fun _ => p_nc) ?_
    (first | refine a_ (fun _ => p_fa) ?_ | refine a_ (fun _ => p_fr) ?_)
    (first | refine a_ (fun _ => p_ld) ?_ | refine a_lo ?_)
    refine a_lo ?_
    refine a_ (fun _ => p_nc) ?_
    (first | refine a_ (fun _ => p_fa) ?_ | refine a_ (fun _ => p_fr) ?_)
    (first | refine a_ (fun _ => p_ld) ?_ | refine a_lo ?_)
    refine a_st ?_
    refine a_st ?_
    apply an
    refine zC ?_
    refine zC ?_
    refine zE ?_
    simp only [confF, hlc]; exact Le.refl _
  · rintro pre H' ⟨k, hk, rfl⟩ ⟨ini, last, h1, hz, hne, rfl⟩
    have hlc := down_split hk h1.symm hz hne
    simp only [blockΨ_ret, thenΨ_ret]
    refine rt ?_
    simp only [confF, hlc]; exact Le.refl _
end Go.Proofs.YtjbokbikkcfjjaaGreat
end
