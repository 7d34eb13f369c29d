/-
  The laws' own small functions: within, bits, known, lead.
-/
import Derived.Test.YtppaabahbjgihaaCompact
set_option maxRecDepth 4000
namespace Go.Proofs.Ytppaabahbjgihaa
open Go.Cap
set_option linter.unusedSimpArgs false
set_option linter.unusedVariables false
attribute [local irreducible] POp SimFrom DrawFrom EOp Sim FnH T.gp
/-- A node with an empty log that is nil. -/
def nd0 (n : Nd) : T := .agg (nodeC n (.v (.slice none 0 0)))
theorem node_le0 (n : Nd) : LeL (nodeC n (.v (.slice none 0 0))) (nodeC n (.sl false (([] : List En).map een))) := by
  unfold nodeC
  repeat (first | exact LeL.nil | (refine LeL.cons (Le.refl _) ?_) | (refine LeL.cons (Le.nil _) ?_))
theorem nd0_le (n : Nd) (h : n.log = []) : Le (nd0 n) (nd n) := by
  unfold nd0 nd eens
  rw [h]
  exact Le.agg (node_le0 n)
theorem new_fn' (id conf : Int) (h0 : 0 ≤ id) (h1 : id < 5) (h2 : 0 ≤ conf) (h3 : conf ≤ 31) : FnP Try.prog 14 [ei id, ei conf] (fun r => r = nd0 (newF id conf)) := by
  refine fn_enter Try.func14 (by rfl) (by rfl) ?_
  intro S0 w0
  show Sim _ _ [(0, ei id), (1, ei conf)] _ _
  have ht : id.tmod 5 = id := Int.tmod_eq_of_lt h0 h1
  have ht2 : (id.tmod 5 + 5).tmod 5 = id := by rw [ht, Int.tmod_eq_emod_of_nonneg (by omega)]; omega
  have hc : bAnd .i64 conf 31 = conf := all32 (p := fun x => bAnd .i64 x 31 = x) (by decide) h2 h3
  (repeat (first | apply cn | apply cq | apply cb | apply ck | apply cl | apply cx))
  apply cr
  refine e_al fun b4 _ => ?_
  (repeat (first | apply cn | apply cq | apply cb | apply ck | apply cl | apply cx))
  apply cr
  refine s_ p_mv ?_
  refine s_ p_re ?_
  refine s_ p_ad ?_
  refine s_ p_re ?_
  refine s_ p_mv ?_
  refine s_ p_and ?_
  refine s_ (p_bd 22 [_, _, _, _, _, _, _, _, _, _, _, _, _, _, _, _, _, _, _, _, _, _]) ?_
  refine e_st ?_
  (repeat (first | apply cn | apply cq | apply cb | apply ck | apply cl | apply cx))
  (apply sim_ret; (try simp only [blockΨ_ret, thenΨ_ret, loopL_ret, cutΨ_ret, cutE_ret]); first | refine rt ?_ | refine rn ?_)
  simp only [ht2, hc]
  exact Le.refl _
theorem tmod_bd (a : Int) {k : Int} (hk : 0 < k) : -k < a.tmod k ∧ a.tmod k < k := by
  have h1 := Int.tmod_lt_of_pos a hk
  have h2 := Int.lt_tmod_of_pos a hk
  exact ⟨h2, h1⟩
theorem tmod_fix (a : Int) {k : Int} (hk : 0 < k) : (if a.tmod k < 0 then a.tmod k + k else a.tmod k) = a % k := by
  rw [Int.tmod_eq_emod]
  have h0 := Int.emod_nonneg a (Int.ne_of_gt hk)
  have h1 := Int.emod_lt_of_pos a hk
  split <;> rename_i h
  · rw [if_neg (by omega)]; omega
  · have h2 : (k.natAbs : Int) = k := by omega
    rw [h2]
    rw [if_pos (by omega)]; omega
theorem within_fn (a k : Int) (hk : 0 < k) (hk1 : k ≤ 4611686018427387904) : FnP Try.prog 13 [ei a, ei k] (fun r => r = ei (a % k)) := by
  have hb := tmod_bd a hk
  have hf := tmod_fix a hk
  refine fn_enter Try.func13 (by rfl) (by rfl) ?_
  intro S0 w0
  show Sim _ _ [(0, ei a), (1, ei k)] _ _
  (repeat (first | apply cn | apply cq | apply cb | apply ck | apply cl | apply cx))
  apply cr
  refine s_ p_as ?_
  (repeat (first | apply cn | apply cq | apply cb | apply ck | apply cl | apply cx))
  apply cr
  refine s_ p_mv ?_
  refine s_ p_mv ?_
  refine s_ p_re ?_
  refine s_ p_as ?_
  (repeat (first | apply cn | apply cq | apply cb | apply ck | apply cl | apply cx))
  apply cr
  refine s_ p_mv ?_
  refine s_ p_lt ?_
  (repeat (first | apply cn | apply cq | apply cb | apply ck | apply cl | apply cx))
  refine ci ?_ ?_
  · intro hn
    rw [if_pos hn] at hf
    (repeat (first | apply cn | apply cq | apply cb | apply ck | apply cl | apply cx))
    apply cr
    refine s_ p_mv ?_
    refine s_ p_mv ?_
    refine s_ p_ad ?_
    refine s_ p_as ?_
    (repeat (first | apply cn | apply cq | apply cb | apply ck | apply cl | apply cx))
    apply cr
    refine s_ p_mv ?_
    refine s_ p_as ?_
    (repeat (first | apply cn | apply cq | apply cb | apply ck | apply cl | apply cx))
    (apply sim_ret; (try simp only [blockΨ_ret, thenΨ_ret, loopL_ret, cutΨ_ret, cutE_ret]); first | refine rt ?_ | refine rn ?_)
    rw [hf]
    exact Le.refl _
  · intro hn
    rw [if_neg hn] at hf
    (repeat (first | apply cn | apply cq | apply cb | apply ck | apply cl | apply cx))
    apply cr
    refine s_ p_mv ?_
    refine s_ p_as ?_
    (repeat (first | apply cn | apply cq | apply cb | apply ck | apply cl | apply cx))
    (apply sim_ret; (try simp only [blockΨ_ret, thenΨ_ret, loopL_ret, cutΨ_ret, cutE_ret]); first | refine rt ?_ | refine rn ?_)
    rw [hf]
    exact Le.refl _
/-- How many of the first k bits. -/
def onesK (x : Int) : Nat → Int
  | 0 => 0
  | k + 1 => onesK x k + bAnd .i64 (bShr .i64 x (IntKind.u64.wrap k)) 1
theorem onesK_eq {x : Int} (h0 : 0 ≤ x) (h1 : x ≤ 31) : onesK x 5 = ones x ∧ ∀ k ≤ 5, 0 ≤ onesK x k ∧ onesK x k ≤ k ∧ 0 ≤ bAnd .i64 (bShr .i64 x (IntKind.u64.wrap k)) 1 ∧ bAnd .i64 (bShr .i64 x (IntKind.u64.wrap k)) 1 ≤ 1 := by
  have key : ∀ i : Fin 32, onesK i.val 5 = ones i.val ∧ ∀ k : Fin 6, 0 ≤ onesK i.val k.val ∧ onesK i.val k.val ≤ k.val ∧ 0 ≤ bAnd .i64 (bShr .i64 i.val (IntKind.u64.wrap (k.val : Nat))) 1 ∧ bAnd .i64 (bShr .i64 i.val (IntKind.u64.wrap (k.val : Nat))) 1 ≤ 1 := by decide +kernel
  obtain ⟨i, rfl⟩ := fin32 h0 h1
  exact ⟨(key i).1, fun k hk => (key i).2 ⟨k, by omega⟩⟩
theorem bits_fn (x : Int) (h0 : 0 ≤ x) (h1 : x ≤ 31) : FnP Try.prog 16 [ei x] (fun r => r = ei (ones x)) := by
  have ho := onesK_eq h0 h1
  refine fn_enter Try.func16 (by rfl) (by rfl) ?_
  intro S0 w0
  show Sim _ _ [(0, ei x)] _ _
  (repeat (first | apply cn | apply cq | apply cb | apply ck | apply cl | apply cx))
  apply cr
  refine s_ p_as ?_
  (repeat (first | apply cn | apply cq | apply cb | apply ck | apply cl | apply cx))
  apply cr
  refine s_ p_as ?_
  (repeat (first | apply cn | apply cq | apply cb | apply ck | apply cl | apply cx))
  apply cr
  refine s_ p_as ?_
  (repeat (first | apply cn | apply cq | apply cb | apply ck | apply cl | apply cx))
  apply sim_loopL (σ := Nat) (ok := fun k => k ≤ 5) (env := fun k => [(4, ei (k : Nat)), (3, ei (onesK x k)), (0, ei x)]) (heap := fun _ => []) (μ := fun k => 5 - k) (s0 := 0)
  · exact Nat.zero_le _
  · exact eL
  · exact kR
  intro k hk
  (repeat (first | apply cn | apply cq | apply cb | apply ck | apply cl | apply cx))
  apply cr
  refine s_ p_mv ?_
  refine s_ p_lt ?_
  (repeat (first | apply cn | apply cq | apply cb | apply ck | apply cl | apply cx))
  refine ci ?_ ?_
  · intro hlt
    have hk5 : k < 5 := by omega
    have hb := ho.2 k hk
    have hwk : IntKind.u64.wrap (k : Nat) = k := wrap32 (by omega) (by omega)
    (repeat (first | apply cn | apply cq | apply cb | apply ck | apply cl | apply cx))
    apply cr
    refine s_ p_mv ?_
    refine s_ p_mv ?_
    refine s_ p_mv ?_
    refine s_ p_cv ?_
    refine s_ p_shr ?_
    refine s_ p_and ?_
    refine s_ p_ad ?_
    refine s_ p_as ?_
    (repeat (first | apply cn | apply cq | apply cb | apply ck | apply cl | apply cx))
    apply cr
    refine s_ p_mv ?_
    refine s_ p_ad ?_
    refine s_ p_as ?_
    (repeat (first | apply cn | apply cq | apply cb | apply ck | apply cl | apply cx))
    exact ⟨k + 1, hk5, by show 5 - (k + 1) < 5 - k; omega, ⟨le_get (by rfl) (Le.refl _), le_get (by ((repeat (apply gS; rfl)); exact gZ)) (Le.refl _), eL⟩, kR⟩
  · intro hlt
    have : k = 5 := by omega
    subst this
    (repeat (first | apply cn | apply cq | apply cb | apply ck | apply cl | apply cx))
    apply cr
    refine s_ p_mv ?_
    refine s_ p_as ?_
    (repeat (first | apply cn | apply cq | apply cb | apply ck | apply cl | apply cx))
    (apply sim_ret; (try simp only [blockΨ_ret, thenΨ_ret, loopL_ret, cutΨ_ret, cutE_ret]); first | refine rt ?_ | refine rn ?_)
    rw [ho.1]
    exact Le.refl _
theorem new_bd {id conf : Int} (h0 : 0 ≤ id) (h1 : id < 5) (h2 : 0 ≤ conf) (h3 : conf ≤ 31) : Bd (newF id conf) := ⟨h0, h1, by simp [newF], by simp [newF], by simp [newF], h2, h3⟩
theorem b_true {p : Prop} {i : Decidable p} (h : p) : Le (packT [.v (.bool (@decide p i))]) (.v (.bool true)) := Le.of_eq (by rw [decide_eq_true h]; rfl)
theorem b_false {p : Prop} {i : Decidable p} (h : ¬ p) : Le (packT [.v (.bool (@decide p i))]) (.v (.bool false)) := Le.of_eq (by rw [decide_eq_false h]; rfl)
def waitN (n : Nd) (k : Int) : Nd := { n with wait := k }
theorem known_tick : ∀ k : Fin 4, tickF (waitN (newF 0 7) (k.val : Nat)) = (waitN (newF 0 7) ((k.val + 1 : Nat) : Int), []) := by decide +kernel
def known5 : Nd := standN (waitN (newF 0 7) 5)
def ask5 (to : Int) : Ms := sendF known5 to (askM 0 0)
theorem known_five : tickF (waitN (newF 0 7) 4) = (known5, [ask5 1, ask5 2]) := by decide +kernel
set_option maxHeartbeats 1000000 in
theorem known_fn : FnP Try.prog 12 [] (fun r => r = .v (.bool true)) := by
  have hb := new_bd (id := 0) (conf := 7) (by omega) (by omega) (by omega) (by omega)
  have hN := new_fn' 0 7 (by omega) (by omega) (by omega) (by omega)
  have hx : ∀ i, (newF 0 7).next.get i ≤ 100000000000 := fun i => by rw [show (newF 0 7).next = .all 0 from rfl, F5.get_all]; omega
  refine fn_enter Try.func12 (by rfl) (by rfl) ?_
  intro S0 w0
  show Sim _ _ [] _ _
  (repeat (first | apply cn | apply cq | apply cb | apply ck | apply cl | apply cx))
  apply cr
  refine s_ p_as ?_
  (repeat (first | apply cn | apply cq | apply cb | apply ck | apply cl | apply cx))
  apply cr
  refine s_ (p_ca (hN)) ?_
  refine e_al fun b1 _ => ?_
  refine e_st ?_
  (repeat (first | apply cn | apply cq | apply cb | apply ck | apply cl | apply cx))
  apply cr
  refine s_ p_as ?_
  (repeat (first | apply cn | apply cq | apply cb | apply ck | apply cl | apply cx))
  apply sim_loopL (σ := Nat) (ok := fun k => k ≤ 4) (env := fun k => [(2, ei (k : Nat)), (1, .v (.pointer (some ⟨b1, 0, none⟩)))]) (heap := fun k => [(b1, ⟨29, nodeC (waitN (newF 0 7) (k : Nat)) (.sl false (([] : List En).map een)), 22⟩)]) (μ := fun k => 4 - k) (s0 := 0)
  · exact Nat.zero_le _
  · exact eL
  · exact kK kN (node_le0 _) (by rfl)
  intro k hk
  (repeat (first | apply cn | apply cq | apply cb | apply ck | apply cl | apply cx))
  apply cr
  refine s_ p_mv ?_
  refine s_ p_lt ?_
  (repeat (first | apply cn | apply cq | apply cb | apply ck | apply cl | apply cx))
  refine ci ?_ ?_
  · intro hlt
    have hk4 : k < 4 := by omega
    have ht := tick_fn (n := waitN (newF 0 7) (k : Nat)) hb.of (by simp [waitN, newF]) (by simp [waitN, newF]) (by simp [waitN, newF]) (by simp only [waitN]; omega) (by simp only [waitN]; omega) hx
    rw [known_tick ⟨k, hk4⟩] at ht
    (repeat (first | apply cn | apply cq | apply cb | apply ck | apply cl | apply cx))
    apply cr
    refine s_ p_loa ?_
    refine s_ (p_cl (ht)) ?_
    refine s_ p_mv ?_
    refine s_ p_ex ?_
    refine s_ p_ex ?_
    refine e_al fun b3 _ => ?_
    refine e_st ?_
    refine s_ p_as ?_
    (repeat (first | apply cn | apply cq | apply cb | apply ck | apply cl | apply cx))
    apply cr
    refine s_ p_mv ?_
    (first | refine s_ p_ln ?_ | refine s_ p_lr ?_)
    refine s_ p_ne ?_
    (repeat (first | apply cn | apply cq | apply cb | apply ck | apply cl | apply cx))
    refine ci (fun h => absurd rfl h) ?_
    intro _
    (repeat (first | apply cn | apply cq | apply cb | apply ck | apply cl | apply cx))
    apply cr
    refine s_ p_loa ?_
    refine e_st ?_
    (repeat (first | apply cn | apply cq | apply cb | apply ck | apply cl | apply cx))
    apply cr
    refine s_ p_mv ?_
    refine s_ p_ad ?_
    refine s_ p_as ?_
    (repeat (first | apply cn | apply cq | apply cb | apply ck | apply cl | apply cx))
    exact ⟨k + 1, hk4, by show 4 - (k + 1) < 4 - k; omega, ⟨le_get (by rfl) (Le.refl _), eL⟩, kS kR⟩
  · intro hlt
    have : k = 4 := by omega
    subst this
    have ht := tick_fn (n := waitN (newF 0 7) 4) hb.of (by simp [waitN, newF]) (by simp [waitN, newF]) (by simp [waitN, newF]) (by simp only [waitN]; omega) (by simp only [waitN]; omega) hx
    rw [known_five] at ht
    (repeat (first | apply cn | apply cq | apply cb | apply ck | apply cl | apply cx))
    apply cr
    refine s_ p_loa ?_
    refine s_ (p_cl (ht)) ?_
    refine s_ p_mv ?_
    refine s_ p_ex ?_
    refine s_ p_ex ?_
    refine e_al fun b5 _ => ?_
    refine e_st ?_
    refine s_ p_as ?_
    (repeat (first | apply cn | apply cq | apply cb | apply ck | apply cl | apply cx))
    apply cr
    refine s_ p_mv ?_
    (first | refine s_ p_ln ?_ | refine s_ p_lr ?_)
    refine s_ p_eq ?_
    refine s_ p_mv ?_
    refine gT (fun hg => p_mv) ?_
    (first | refine gT (fun hg => p_ix hix (hx := u_ hg)) ?_ | refine gT (fun hg => p_ix hix2 (hx := u_ hg)) ?_ | refine gT (fun hg => p_ia (hx := u_ hg)) ?_ | refine gT (fun hg => p_ir (hx := u_ hg)) ?_)
    (first | refine gT (fun hg => p_fa (hx := u_ hg)) ?_ | refine gT (fun hg => p_fr (hx := u_ hg)) ?_)
    (first | refine gT (fun hg => p_ld (hx := u_ hg)) ?_ | refine gT (fun hg => p_lo (hx := u_ hg)) ?_)
    refine gT (fun hg => p_eq (hx := u_ hg)) ?_
    refine s_ p_an ?_
    refine s_ p_mv ?_
    refine gT (fun hg => p_fr) ?_
    refine gT (fun hg => p_lo (hx := u_ hg)) ?_
    refine gT (fun hg => p_eq (hx := u_ hg)) ?_
    refine s_ p_an ?_
    refine s_ p_mv ?_
    refine gT (fun hg => p_fr) ?_
    refine gT (fun hg => p_lo (hx := u_ hg)) ?_
    refine gT (fun hg => p_eq (hx := u_ hg)) ?_
    refine s_ p_an ?_
    refine s_ p_as ?_
    (repeat (first | apply cn | apply cq | apply cb | apply ck | apply cl | apply cx))
    (apply sim_ret; (try simp only [blockΨ_ret, thenΨ_ret, loopL_ret, cutΨ_ret, cutE_ret]); first | refine rt ?_ | refine rn ?_)
    exact b_true ⟨⟨⟨rfl, rfl⟩, rfl⟩, rfl⟩
end Go.Proofs.Ytppaabahbjgihaa
