/-
  replica: small functions of a node.
-/
import Derived.Test.YtbdpfclnomiicaaGreatConf
set_option maxRecDepth 4000
namespace Go.Proofs.YtbdpfclnomiicaaGreat
open Go.Cap
set_option linter.unusedSimpArgs false
set_option linter.unusedVariables false
attribute [local irreducible] POp SimFrom DrawFrom EOp Sim FnH T.gp
-- how many of five bits
def ones (x : Int) : Int := ((List.range 5).filter x.toNat.testBit).length
def isF (conf id : Int) : Bool := conf.toNat.testBit id.toNat
def andI (a b : Int) : Int := (a.toNat &&& b.toNat : Nat)
def mostF (conf some : Int) : Bool := decide (ones conf < 2 * ones (andI conf some))
def newF (id conf : Int) : Nd := ⟨id, 0, -1, 0, 0, conf, [], [], 0, 0, 0, 0, .all 0, .all 0⟩
def termF (n : Nd) (i : Int) : Int := if n.base + 1 ≤ i ∧ i < n.base + 1 + n.log.length then (n.log.getD (i - n.base - 1).toNat default).term else n.baseTerm
def lastF (n : Nd) : Int := n.base + n.log.length
theorem fin32 {x : Int} (h0 : 0 ≤ x) (h1 : x ≤ 31) : ∃ i : Fin 32, x = (i.val : Int) := ⟨⟨x.toNat, by omega⟩, by simp only; omega⟩
theorem lend1 {K : Ctx} {t : Env} {b m : Nat} {e : TypeId} {cs : List T} {H1 : Heap} {Ψ : Exit → Env → Heap → Prop} {c : Code} (k : Nat) (hl : 0 < cs.length) (h : Sim K c ((k, .adr (.agg cs)) :: t) H1 Ψ) (hg : t.get k = .v (.pointer (some ⟨b, 0, none⟩)) := by rfl) : Sim K c t ((b, ⟨e, cs, m⟩) :: H1) Ψ := by
  have hcs : (T.agg cs).cells = cs := by simp [T.cells]
  refine sim_lend (G := [_]) (H1 := H1) [(k, .adr (.agg cs))] (by simp; rfl) ⟨?_, trivial⟩ h
  rw [hg]
  refine Lends.ptr List.mem_cons_self (.inr ⟨_, rfl⟩) ?_ (by rwa [hcs]) (by rw [hcs]; exact Nat.le_refl _)
  rw [hcs]
  exact LendsL.le (by rw [List.take_length]; exact LeL.refl _)
theorem all32 {p : Int → Prop} (h : ∀ i : Fin 32, p (i.val : Int)) {x : Int} (h0 : 0 ≤ x) (h1 : x ≤ 31) : p x := by
  obtain ⟨i, rfl⟩ := fin32 h0 h1; exact h i
theorem wrap32 {x : Int} (h0 : 0 ≤ x) (h1 : x ≤ 31) : IntKind.u64.wrap x = x := all32 (p := fun x => IntKind.u64.wrap x = x) (by decide) h0 h1
theorem ones_bd {x : Int} (h0 : 0 ≤ x) (h1 : x ≤ 31) : 0 ≤ ones x ∧ ones x ≤ 5 := all32 (p := fun x => 0 ≤ ones x ∧ ones x ≤ 5) (by decide) h0 h1
theorem and_bd {x y : Int} (h0 : 0 ≤ x) (h1 : x ≤ 31) (h2 : 0 ≤ y) (h3 : y ≤ 31) : bAnd .i64 x y = andI x y ∧ 0 ≤ andI x y ∧ andI x y ≤ 31 :=
  all32 (p := fun x => bAnd .i64 x y = andI x y ∧ 0 ≤ andI x y ∧ andI x y ≤ 31) (fun i => all32 (p := fun y => bAnd .i64 i y = andI i y ∧ 0 ≤ andI i y ∧ andI i y ≤ 31) (by revert i; decide) h2 h3) h0 h1
theorem is_eq {x y : Int} (h0 : 0 ≤ x) (h1 : x ≤ 31) (h2 : 0 ≤ y) (h3 : y < 5) : decide (bAnd .i64 (bShr .i64 x y) 1 = 1) = isF x y :=
  all32 (p := fun x => decide (bAnd .i64 (bShr .i64 x y) 1 = 1) = isF x y) (fun i => all32 (p := fun y => decide (bAnd .i64 (bShr .i64 i y) 1 = 1) = isF i y) (by revert i; decide) h2 (by omega)) h0 h1
theorem ones64_fn (x : Int) (h0 : 0 ≤ x) (h1 : x ≤ 31) : FnP Tryz.prog 83 [.v (.int .u64 x)] (fun r => r = ei (ones x)) := by
  refine fn_enter Tryz.func83 (by rfl) (by rfl) ?_
  intro S0 w0
  show Sim _ _ [(0, T.v (.int .u64 x))] _ _
  (repeat (first | apply cn | apply cq | apply cb | apply ck | apply cl | apply cx))
  apply cr
  refine s_ p_as ?_
  (repeat (first | apply cn | apply cq | apply cb | apply ck | apply cl | apply cx))
  apply cr
  refine s_ p_mv ?_
  refine s_ p_shr ?_
  refine s_ p_and ?_
  refine s_ p_mv ?_
  refine s_ p_and ?_
  refine s_ p_adw ?_
  refine s_ p_as ?_
  (repeat (first | apply cn | apply cq | apply cb | apply ck | apply cl | apply cx))
  apply cr
  refine s_ p_mv ?_
  refine s_ p_shr ?_
  refine s_ p_and ?_
  refine s_ p_mv ?_
  refine s_ p_and ?_
  refine s_ p_adw ?_
  refine s_ p_as ?_
  (repeat (first | apply cn | apply cq | apply cb | apply ck | apply cl | apply cx))
  apply cr
  refine s_ p_mv ?_
  refine s_ p_shr ?_
  refine s_ p_mv ?_
  refine s_ p_adw ?_
  refine s_ p_and ?_
  refine s_ p_as ?_
  (repeat (first | apply cn | apply cq | apply cb | apply ck | apply cl | apply cx))
  apply cr
  refine s_ p_mv ?_
  refine s_ p_mv ?_
  refine s_ p_shr ?_
  refine s_ p_adw ?_
  refine s_ p_as ?_
  (repeat (first | apply cn | apply cq | apply cb | apply ck | apply cl | apply cx))
  apply cr
  refine s_ p_mv ?_
  refine s_ p_mv ?_
  refine s_ p_shr ?_
  refine s_ p_adw ?_
  refine s_ p_as ?_
  (repeat (first | apply cn | apply cq | apply cb | apply ck | apply cl | apply cx))
  apply cr
  refine s_ p_mv ?_
  refine s_ p_mv ?_
  refine s_ p_shr ?_
  refine s_ p_adw ?_
  refine s_ p_as ?_
  (repeat (first | apply cn | apply cq | apply cb | apply ck | apply cl | apply cx))
  apply cr
  refine s_ p_mv ?_
  refine s_ p_cv ?_
  refine s_ p_and ?_
  refine s_ p_as ?_
  (repeat (first | apply cn | apply cq | apply cb | apply ck | apply cl | apply cx))
  (apply sim_ret; (try simp only [blockΨ_ret, thenΨ_ret, loopL_ret, cutΨ_ret, cutE_ret]); first | refine rt ?_ | refine rn ?_)
  obtain ⟨i, rfl⟩ := fin32 h0 h1
  refine Le.of_eq (congrArg (fun z => T.v (.int .i64 z)) ?_)
  revert i; decide
theorem ones_fn (x : Int) (h0 : 0 ≤ x) (h1 : x ≤ 31) : FnP Tryz.prog 63 [.v (.int .u64 x)] (fun r => r = ei (ones x)) := by
  have h64 := ones64_fn x h0 h1
  refine fn_enter Tryz.func63 (by rfl) (by rfl) ?_
  intro S0 w0
  show Sim _ _ [(0, T.v (.int .u64 x))] _ _
  (repeat (first | apply cn | apply cq | apply cb | apply ck | apply cl | apply cx))
  apply cr
  refine s_ p_as ?_
  (repeat (first | apply cn | apply cq | apply cb | apply ck | apply cl | apply cx))
  refine ci (p := False) (fun h => h.elim) (fun _ => ?_) (by rfl)
  (repeat (first | apply cn | apply cq | apply cb | apply ck | apply cl | apply cx))
  apply cr
  refine s_ p_mv ?_
  refine s_ (p_ca (h64)) ?_
  refine s_ p_as ?_
  (repeat (first | apply cn | apply cq | apply cb | apply ck | apply cl | apply cx))
  (apply sim_ret; (try simp only [blockΨ_ret, thenΨ_ret, loopL_ret, cutΨ_ret, cutE_ret]); first | refine rt ?_ | refine rn ?_)
  exact Le.refl _
def big : Int := 1000000000000
theorem new_fn (id conf : Int) (h0 : 0 ≤ id) (h1 : id < 5) (h2 : 0 ≤ conf) (h3 : conf ≤ 31) : FnP Tryz.prog 12 [ei id, ei conf] (fun r => r = nd (newF id conf)) := by
  refine fn_enter Tryz.func12 (by rfl) (by rfl) ?_
  intro S0 w0
  show Sim _ _ [(0, ei id), (1, ei conf)] _ _
  have ht : id.tmod 5 = id := Int.tmod_eq_of_lt h0 h1
  have ht2 : (id.tmod 5 + 5).tmod 5 = id := by rw [ht, Int.tmod_eq_emod_of_nonneg (by omega)]; omega
  have hc : bAnd .i64 conf 31 = conf := all32 (p := fun x => bAnd .i64 x 31 = x) (by decide) h2 h3
  (repeat (first | apply cn | apply cq | apply cb | apply ck | apply cl | apply cx))
  apply cr
  refine e_al fun b4 _ => ?_
  (repeat (first | apply cn | apply cq | apply cb | apply ck | apply cl | apply cx))
  apply cr
  refine s_ p_mv ?_
  refine s_ p_re ?_
  refine s_ p_ad ?_
  refine s_ p_re ?_
  refine s_ p_mv ?_
  refine s_ p_and ?_
  refine s_ (p_bd 22 [_, _, _, _, _, _, _, _, _, _, _, _, _, _, _, _, _, _, _, _, _, _]) ?_
  refine e_st ?_
  (repeat (first | apply cn | apply cq | apply cb | apply ck | apply cl | apply cx))
  (apply sim_ret; (try simp only [blockΨ_ret, thenΨ_ret, loopL_ret, cutΨ_ret, cutE_ret]); first | refine rt ?_ | refine rn ?_)
  simp only [ht2, hc]
  show Le (.agg _) (.agg (nodeC _ _))
  (first | exact Le.refl _ | exact Le.nil _ | exact Le.full _ _ | exact Le.any _ | (apply Le.agg; (repeat (apply LeL.cons; (first | exact Le.refl _ | exact Le.nil _ | exact Le.full _ _ | exact Le.any _))); exact LeL.nil) | (apply Le.tup; (repeat (apply LeL.cons; (first | exact Le.refl _ | exact Le.nil _ | exact Le.full _ _ | exact Le.any _ | (apply Le.agg; (repeat (apply LeL.cons; (first | exact Le.refl _ | exact Le.nil _ | exact Le.full _ _ | exact Le.any _))); exact LeL.nil)))); exact LeL.nil))
theorem is_fn (conf id : Int) (h0 : 0 ≤ id) (h1 : id < 5) (h2 : 0 ≤ conf) (h3 : conf ≤ 31) : FnP Tryz.prog 52 [ei conf, ei id] (fun r => r = eB (isF conf id)) := by
  refine fn_enter Tryz.func52 (by rfl) (by rfl) ?_
  intro S0 w0
  show Sim _ _ [(0, ei conf), (1, ei id)] _ _
  have hw := wrap32 h0 (by omega)
  (repeat (first | apply cn | apply cq | apply cb | apply ck | apply cl | apply cx))
  apply cr
  refine s_ p_as ?_
  (repeat (first | apply cn | apply cq | apply cb | apply ck | apply cl | apply cx))
  apply cr
  refine s_ p_mv ?_
  refine s_ p_mv ?_
  refine s_ p_cv ?_
  refine s_ p_shr ?_
  refine s_ p_and ?_
  refine s_ p_eq ?_
  refine s_ p_as ?_
  (repeat (first | apply cn | apply cq | apply cb | apply ck | apply cl | apply cx))
  (apply sim_ret; (try simp only [blockΨ_ret, thenΨ_ret, loopL_ret, cutΨ_ret, cutE_ret]); first | refine rt ?_ | refine rn ?_)
  rw [wrap32 h0 (by omega), is_eq h2 h3 h0 h1]
  exact Le.refl _
theorem most_fn (conf some : Int) (h0 : 0 ≤ some) (h1 : some ≤ 31) (h2 : 0 ≤ conf) (h3 : conf ≤ 31) : FnP Tryz.prog 75 [ei conf, ei some] (fun r => r = eB (mostF conf some)) := by
  have hb := and_bd h2 h3 h0 h1
  have o1 := ones_fn (andI conf some) hb.2.1 hb.2.2
  have o2 := ones_fn conf h2 h3
  have l1 := ones_bd hb.2.1 hb.2.2
  have l2 : ones (IntKind.u64.wrap (bAnd .i64 conf some)) = ones (andI conf some) := by rw [hb.1, wrap32 hb.2.1 hb.2.2]
  have w1 := wrap32 hb.2.1 hb.2.2
  have w2 := wrap32 h2 h3
  rw [← w1, ← hb.1, l2] at o1
  rw [← w2] at o2
  refine fn_enter Tryz.func75 (by rfl) (by rfl) ?_
  intro S0 w0
  show Sim _ _ [(0, ei conf), (1, ei some)] _ _
  (repeat (first | apply cn | apply cq | apply cb | apply ck | apply cl | apply cx))
  apply cr
  refine s_ p_as ?_
  (repeat (first | apply cn | apply cq | apply cb | apply ck | apply cl | apply cx))
  apply cr
  refine s_ p_mv ?_
  refine s_ p_mv ?_
  refine s_ p_and ?_
  refine s_ p_cv ?_
  refine s_ (p_ca (o1)) ?_
  refine s_ p_mu ?_
  refine s_ p_mv ?_
  refine s_ p_cv ?_
  refine s_ (p_ca (o2)) ?_
  refine s_ p_gt ?_
  refine s_ p_as ?_
  (repeat (first | apply cn | apply cq | apply cb | apply ck | apply cl | apply cx))
  (apply sim_ret; (try simp only [blockΨ_ret, thenΨ_ret, loopL_ret, cutΨ_ret, cutE_ret]); first | refine rt ?_ | refine rn ?_)
  rw [w2]
  exact Le.refl _
theorem term_fn (n : Nd) (i : Int) (hl : n.log.length ≤ 1000000000) (hb1 : -big ≤ n.base) (hb2 : n.base ≤ big) (hi1 : -big ≤ i) (hi2 : i ≤ big) : FnP Tryz.prog 64 [.adr (nd n), ei i] (fun r => r = ei (termF n i)) := by
  refine fn_enter Tryz.func64 (by rfl) (by rfl) ?_
  intro S0 w0
  show Sim _ _ [(0, T.adr (.agg (nodeC n (.sl false (n.log.map een))))), (1, ei i)] _ _
  simp only [big] at hb1 hb2 hi1 hi2
  (repeat (first | apply cn | apply cq | apply cb | apply ck | apply cl | apply cx))
  apply cr
  refine s_ p_as ?_
  (repeat (first | apply cn | apply cq | apply cb | apply ck | apply cl | apply cx))
  apply cr
  refine s_ p_mv ?_
  refine s_ p_mv ?_
  refine s_ p_nc ?_
  (first | refine s_ p_fa ?_ | refine s_ p_fr ?_)
  (first | refine s_ p_ld ?_ | refine s_ p_lo ?_)
  refine s_ p_su ?_
  refine s_ p_su ?_
  refine s_ p_as ?_
  (repeat (first | apply cn | apply cq | apply cb | apply ck | apply cl | apply cx))
  apply cr
  refine s_ p_mv ?_
  refine s_ p_ge ?_
  refine s_ p_mv ?_
  refine gT (fun hg => p_mv) ?_
  refine gT (fun hg => p_mv) ?_
  refine gT (fun hg => p_nc (hx := u_ hg)) ?_
  (first | refine gT (fun hg => p_fa (hx := u_ hg)) ?_ | refine gT (fun hg => p_fr (hx := u_ hg)) ?_)
  (first | refine gT (fun hg => p_ld (hx := u_ hg)) ?_ | refine gT (fun hg => p_lo (hx := u_ hg)) ?_)
  (first | refine gT (fun hg => p_ln (hx := u_ hg)) ?_ | refine gT (fun hg => p_lr (hx := u_ hg)) ?_)
  refine gT (fun hg => p_lt (hx := u_ hg) (hy := u_ hg)) ?_
  refine s_ p_an ?_
  (repeat (first | apply cn | apply cq | apply cb | apply ck | apply cl | apply cx))
  refine ci ?_ ?_
  · intro hc
    simp only [List.length_map] at hc
    (repeat (first | apply cn | apply cq | apply cb | apply ck | apply cl | apply cx))
    apply cr
    refine s_ p_mv ?_
    refine s_ p_nc ?_
    (first | refine s_ p_fa ?_ | refine s_ p_fr ?_)
    (first | refine s_ p_ld ?_ | refine s_ p_lo ?_)
    refine s_ p_mv ?_
    (first | refine s_ (p_ix hix) ?_ | refine s_ (p_ix hix2) ?_ | refine s_ p_ia ?_ | refine s_ p_ir ?_)
    (first | refine s_ p_fa ?_ | refine s_ p_fr ?_)
    (first | refine s_ p_ld ?_ | refine s_ p_lo ?_)
    refine s_ p_as ?_
    (repeat (first | apply cn | apply cq | apply cb | apply ck | apply cl | apply cx))
    (apply sim_ret; (try simp only [blockΨ_ret, thenΨ_ret, loopL_ret, cutΨ_ret, cutE_ret]); first | refine rt ?_ | refine rn ?_)
    rw [termF, if_pos (by omega)]
    exact Le.refl _
  · intro hc
    simp only [List.length_map] at hc
    (repeat (first | apply cn | apply cq | apply cb | apply ck | apply cl | apply cx))
    apply cr
    refine s_ p_mv ?_
    refine s_ p_nc ?_
    (first | refine s_ p_fa ?_ | refine s_ p_fr ?_)
    (first | refine s_ p_ld ?_ | refine s_ p_lo ?_)
    refine s_ p_as ?_
    (repeat (first | apply cn | apply cq | apply cb | apply ck | apply cl | apply cx))
    (apply sim_ret; (try simp only [blockΨ_ret, thenΨ_ret, loopL_ret, cutΨ_ret, cutE_ret]); first | refine rt ?_ | refine rn ?_)
    rw [termF, if_neg (by omega)]
    exact Le.refl _
theorem last_fn (n : Nd) (hl : n.log.length ≤ 1000000000) (hb1 : -100000000000 ≤ n.base) (hb2 : n.base ≤ 100000000000) : FnP Tryz.prog 54 [nd n] (fun r => r = .tup [ei (lastF n), ei (termF n (lastF n))]) := by
  have ht := term_fn n (lastF n) hl (by simp only [big]; omega) (by simp only [big]; omega) (by simp only [big, lastF]; omega) (by simp only [big, lastF]; omega)
  have hlf : lastF n = n.base + ((n.log.map een).length : Nat) := by simp [lastF]
  rw [hlf] at ht ⊢
  refine fn_enter Tryz.func54 (by rfl) (by rfl) ?_
  intro S0 w0
  show Sim _ _ [(0, T.agg (nodeC n (.sl false (n.log.map een))))] _ _
  (repeat (first | apply cn | apply cq | apply cb | apply ck | apply cl | apply cx))
  apply cr
  refine e_bx fun b1 _ => ?_
  refine s_ p_as ?_
  refine s_ p_as ?_
  (repeat (first | apply cn | apply cq | apply cb | apply ck | apply cl | apply cx))
  refine lend1 1 (by simp [nodeC]) ?_
  (repeat (first | apply cn | apply cq | apply cb | apply ck | apply cl | apply cx))
  apply cr
  refine s_ p_fa ?_
  refine s_ p_ld ?_
  refine s_ p_fa ?_
  refine s_ p_ld ?_
  (first | refine s_ p_ln ?_ | refine s_ p_lr ?_)
  refine s_ p_ad ?_
  refine s_ p_as ?_
  (repeat (first | apply cn | apply cq | apply cb | apply ck | apply cl | apply cx))
  apply cr
  refine s_ p_mv ?_
  refine s_ p_mv ?_
  refine s_ (p_ca (ht)) ?_
  refine s_ p_as ?_
  refine s_ p_as ?_
  (repeat (first | apply cn | apply cq | apply cb | apply ck | apply cl | apply cx))
  (apply sim_ret; (try simp only [blockΨ_ret, thenΨ_ret, loopL_ret, cutΨ_ret, cutE_ret]); first | refine rt ?_ | refine rn ?_)
  exact Le.refl _
theorem Conf_fn (n : Nd) (hl : n.log.length ≤ 1000000000) (hb1 : -1000000000000 ≤ n.base) (hb2 : n.base ≤ 1000000000000) : FnP Tryz.prog 32 [nd n] (fun r => r = ei (confF n).2) := by
  have ht := conf_fn n hl hb1 hb2
  refine fn_enter Tryz.func32 (by rfl) (by rfl) ?_
  intro S0 w0
  show Sim _ _ [(0, T.agg (nodeC n (.sl false (n.log.map een))))] _ _
  (repeat (first | apply cn | apply cq | apply cb | apply ck | apply cl | apply cx))
  apply cr
  refine e_bx fun b1 _ => ?_
  refine s_ p_as ?_
  (repeat (first | apply cn | apply cq | apply cb | apply ck | apply cl | apply cx))
  refine lend1 1 (by simp [nodeC]) ?_
  (repeat (first | apply cn | apply cq | apply cb | apply ck | apply cl | apply cx))
  apply cr
  refine s_ (p_ca (ht)) ?_
  refine s_ p_mv ?_
  refine s_ p_ex ?_
  refine s_ p_ex ?_
  refine s_ p_as ?_
  refine s_ p_as ?_
  (repeat (first | apply cn | apply cq | apply cb | apply ck | apply cl | apply cx))
  apply cr
  refine s_ p_mv ?_
  refine s_ p_as ?_
  (repeat (first | apply cn | apply cq | apply cb | apply ck | apply cl | apply cx))
  (apply sim_ret; (try simp only [blockΨ_ret, thenΨ_ret, loopL_ret, cutΨ_ret, cutE_ret]); first | refine rt ?_ | refine rn ?_)
  exact Le.refl _
end Go.Proofs.YtbdpfclnomiicaaGreat
