/-
  ReplicaChanges: members change by one at a time.
-/
import Derived.Test.YtppaabahbjgihaaSnaps
set_option maxRecDepth 4000
namespace Go.Proofs.Ytppaabahbjgihaa
open Go.Cap
set_option linter.unusedSimpArgs false
set_option linter.unusedVariables false
attribute [local irreducible] POp SimFrom DrawFrom EOp Sim FnH T.gp
def cfI (i : Nat) : Int := (i : Int) - 16
def fineP (c : Int) : Prop := (1 ≤ c ∧ c ≤ 31) ∧ ones (bXor .i64 c 31) = 1
instance (c : Int) : Decidable (fineP c) := by unfold fineP; infer_instance
def chX (c : Int) : Nd := { atS 0 3 with log := [⟨1, 0, []⟩, ⟨1, c, []⟩], mtch := ⟨2, 1, 1, 0, 0⟩ }
def yK (c : Int) : Nat → Nd
  | 0 => chX c
  | p + 1 => (takeF (yK c p) (okM (p + 1) 2)).1
def oneI (c : Int) (a : Nat) : Int := bXor .i64 c (bShl .i64 1 (IntKind.u64.wrap a))
theorem ch_early : changeF (ledP 0) 30 = (ledP 0, 0, 23) ∧ okB (ledP 0) = true := by decide +kernel
theorem ch_one : ∀ i : Fin 64, changeF (atS 0 3) (cfI i.val) = (if fineP (cfI i.val) then (chX (cfI i.val), 2, 0) else (atS 0 3, 0, 1)) := by decide +kernel
theorem ch_two : ∀ i : Fin 64, fineP (cfI i.val) → (confF (chX (cfI i.val))).2 = cfI i.val ∧ ∀ p : Fin 5, okB (yK (cfI i.val) p.val) = true := by decide +kernel
theorem ch_three : ∀ i : Fin 64, ∀ a : Fin 5, fineP (cfI i.val) → (changeF (chX (cfI i.val)) (oneI (cfI i.val) a.val)).2.2 = 23 ∧ (yK (cfI i.val) 4).commit = 2 ∧ (bAnd .i64 (cfI i.val) 1 = 0 → (yK (cfI i.val) 4).role = 0 ∧ (changeF (yK (cfI i.val) 4) (oneI (cfI i.val) a.val)).2.2 = 21)
    ∧ (¬ bAnd .i64 (cfI i.val) 1 = 0 → (changeF (yK (cfI i.val) 4) (oneI (cfI i.val) a.val)).2.2 = 0) := by decide +kernel
theorem xor_bd {c : Int} (h : 1 ≤ c ∧ c ≤ 31) : 0 ≤ bXor .i64 c 31 ∧ bXor .i64 c 31 ≤ 31 := by
  have key : ∀ i : Fin 32, 0 ≤ bXor .i64 i.val 31 ∧ bXor .i64 i.val 31 ≤ 31 := by decide +kernel
  obtain ⟨i, rfl⟩ := fin32 (x := c) (by omega) h.2
  exact key i
set_option maxHeartbeats 4000000 in
theorem changes_fn (conf0 : Int) (done : Bool) (again : Int) : FnP Try.prog 6 [ei conf0, eB done, ei again] (fun r => r = .v (.bool true)) := by
  have hk := known_fn
  have hw1 := within_fn conf0 64 (by omega) (by omega)
  have hw5 := within_fn again 5 (by omega) (by omega)
  have hc : 0 ≤ conf0 % 64 ∧ conf0 % 64 < 64 := by omega
  have hle := lead_fn0 0 (by omega) (by omega)
  have hbd : eB done = .v (.bool (decide (done = true))) := by rw [← bool_dec]; rfl
  have hat := atS_take ⟨0, by omega⟩
  rw [hbd]
  refine fn_enter Try.func6 (by rfl) (by rfl) ?_
  intro S0 w0
  show Sim _ _ [(0, ei conf0), (1, .v (.bool (decide (done = true)))), (2, ei again)] _ _
  have g0 := change_ok ch_early.2 ch_early.1
  (repeat (first | apply cn | apply cq | apply cb | apply ck | apply cl | apply cx))
  apply cr
  refine s_ p_as ?_
  (repeat (first | apply cn | apply cq | apply cb | apply ck | apply cl | apply cx))
  apply cr
  refine s_ (p_ca (hk)) ?_
  refine s_ p_noB ?_
  refine cn ?_
  (repeat (first | apply cn | apply cq | apply cb | apply ck | apply cl | apply cx))
  refine ci (p := False) (fun h => h.elim) (fun _ => ?_)
  (repeat (first | apply cn | apply cq | apply cb | apply ck | apply cl | apply cx))
  apply cr
  refine s_ (p_cl (hle)) ?_
  refine e_al fun b7 _ => ?_
  refine e_st ?_
  (repeat (first | apply cn | apply cq | apply cb | apply ck | apply cl | apply cx))
  apply cr
  refine s_ p_loa ?_
  refine s_ (p_cl (g0)) ?_
  refine s_ p_mv ?_
  refine s_ p_ex ?_
  refine s_ p_ex ?_
  refine s_ p_ex ?_
  refine e_al fun b8 _ => ?_
  refine e_st ?_
  refine s_ p_as ?_
  refine s_ p_as ?_
  (repeat (first | apply cn | apply cq | apply cb | apply ck | apply cl | apply cx))
  apply cr
  refine s_ p_mv ?_
  refine s_ (p_ca (hw1)) ?_
  refine s_ p_su ?_
  refine s_ p_as ?_
  (repeat (first | apply cn | apply cq | apply cb | apply ck | apply cl | apply cx))
  generalize conf0 % 64 = C0 at hc ⊢
  obtain ⟨i, rfl⟩ : ∃ i : Nat, C0 = (i : Int) := ⟨C0.toNat, by omega⟩
  have hi64 : i < 64 := by omega
  rw [show (i : Int) - 16 = cfI i from rfl]
  (repeat (first | apply cn | apply cq | apply cb | apply ck | apply cl | apply cx))
  apply cr
  refine s_ p_as ?_
  (repeat (first | apply cn | apply cq | apply cb | apply ck | apply cl | apply cx))
  apply sim_loopL (σ := Nat) (ok := fun k => 1 ≤ k ∧ k ≤ 3) (env := fun k => [(11, ei (k : Nat)), (10, ei 23), (7, pN b7), (0, ei (cfI i)), (1, .v (.bool (decide (done = true)))), (2, ei again)]) (heap := fun k => [(b7, ⟨nB, nodeC (atS 0 k) (eens (atS 0 k).log), 22⟩)]) (μ := fun k => 3 - k) (s0 := 1)
  · exact ⟨by decide, by decide⟩
  · exact eL
  · exact kS kR
  rintro k ⟨hk1, hk3⟩
  (repeat (first | apply cn | apply cq | apply cb | apply ck | apply cl | apply cx))
  apply cr
  refine s_ p_mv ?_
  refine s_ p_lt ?_
  (repeat (first | apply cn | apply cq | apply cb | apply ck | apply cl | apply cx))
  refine ci ?_ ?_
  · intro hlt
    rcases (by omega : k = 1 ∨ k = 2) with rfl | rfl
    · have ht := take_ok (n := atS 0 1) (m := okM 1 ((0 : Nat) + 1)) hat.2.2.1 hat.1 (by simp [okM]) (by simp [okM]) (by simp [okM])
      (repeat (first | apply cn | apply cq | apply cb | apply ck | apply cl | apply cx))
      apply cr
      refine s_ p_loa ?_
      refine s_ p_mv ?_
      refine s_ (p_bd 11 [_, _, _, _, _, _, _, _, _, _, _]) ?_
      refine s_ (p_cl (ht)) ?_
      refine s_ p_mv ?_
      refine s_ p_ex ?_
      refine s_ p_ex ?_
      refine e_st ?_
      (repeat (first | apply cn | apply cq | apply cb | apply ck | apply cl | apply cx))
      apply cr
      refine s_ p_mv ?_
      refine s_ p_ad ?_
      refine s_ p_as ?_
      (repeat (first | apply cn | apply cq | apply cb | apply ck | apply cl | apply cx))
      exact ⟨2, by decide, by decide, ⟨le_get (by rfl) (Le.refl _), eL⟩, kR⟩
    · have ht := take_ok (n := atS 0 2) (m := okM 2 ((0 : Nat) + 1)) hat.2.2.2.1 hat.2.1 (by simp [okM]) (by simp [okM]) (by simp [okM])
      (repeat (first | apply cn | apply cq | apply cb | apply ck | apply cl | apply cx))
      apply cr
      refine s_ p_loa ?_
      refine s_ p_mv ?_
      refine s_ (p_bd 11 [_, _, _, _, _, _, _, _, _, _, _]) ?_
      refine s_ (p_cl (ht)) ?_
      refine s_ p_mv ?_
      refine s_ p_ex ?_
      refine s_ p_ex ?_
      refine e_st ?_
      (repeat (first | apply cn | apply cq | apply cb | apply ck | apply cl | apply cx))
      apply cr
      refine s_ p_mv ?_
      refine s_ p_ad ?_
      refine s_ p_as ?_
      (repeat (first | apply cn | apply cq | apply cb | apply ck | apply cl | apply cx))
      exact ⟨3, by decide, by decide, ⟨le_get (by rfl) (Le.refl _), eL⟩, kR⟩
  · intro hlt
    have : k = 3 := by omega
    subst this
    have h1 := ch_one ⟨i, hi64⟩
    have h2 := ch_two ⟨i, hi64⟩
    have h3 := fun a => ch_three ⟨i, hi64⟩ a
    dsimp only at h1 h2 h3
    have hbits : 1 ≤ cfI i ∧ cfI i ≤ 31 → FnP Try.prog 16 [ei (bXor .i64 (cfI i) 31)] (fun r => r = ei (ones (bXor .i64 (cfI i) 31))) := fun h => bits_fn _ (xor_bd h).1 (xor_bd h).2
    by_cases hfine : fineP (cfI i)
    · rw [if_pos hfine] at h1
      have g1 := change_ok hat.2.2.2.2 h1
      (repeat (first | apply cn | apply cq | apply cb | apply ck | apply cl | apply cx))
      apply cr
      refine s_ p_loa ?_
      refine s_ p_mv ?_
      refine s_ (p_cl (g1)) ?_
      refine s_ p_mv ?_
      refine s_ p_ex ?_
      refine s_ p_ex ?_
      refine s_ p_ex ?_
      refine e_al fun b12 _ => ?_
      refine e_st ?_
      refine s_ p_as ?_
      refine s_ p_as ?_
      (repeat (first | apply cn | apply cq | apply cb | apply ck | apply cl | apply cx))
      apply cr
      refine s_ p_mv ?_
      refine s_ p_ge ?_
      refine s_ p_mv ?_
      refine gT (fun hg => p_mv) ?_
      refine gT (fun hg => p_le (hx := u_ hg)) ?_
      refine s_ p_an ?_
      refine s_ p_mv ?_
      refine gT (fun hg => p_mv) ?_
      refine gT (fun hg => p_xor (hx := u_ hg)) ?_
      refine gT (p := 1 ≤ cfI i ∧ cfI i ≤ 31) (fun hg => p_ca (hbits hg) (ha' := by apply evl_cons (u_ hg); exact evl_nil)) ?_
      refine gT (fun hg => p_eq (hx := u_ hg)) ?_
      refine s_ p_an ?_
      refine s_ p_as ?_
      (repeat (first | apply cn | apply cq | apply cb | apply ck | apply cl | apply cx))
      apply cr
      refine s_ p_mv ?_
      refine s_ p_ne ?_
      refine s_ p_mv ?_
      refine gF (fun hg => p_mv) ?_
      refine gF (fun hg => p_no (hx := u_ hg)) ?_
      refine s_ p_or ?_
      (repeat (first | apply cn | apply cq | apply cb | apply ck | apply cl | apply cx))
      refine ci ?_ ?_
      · intro h
        exfalso
        rcases h with h | h
        · exact h rfl
        · exact h hfine
      intro _
      have h2 := h2 hfine
      have ho0 := OkB.of (h2.2 0)
      have hC := Conf_fn (chX (cfI i)) (bd_len _ ho0.bd) (by have := ho0.bd.base0; simp only [yK] at this; omega) (by have := ho0.bd.base1; simp only [yK] at this; omega)
      have hag : 0 ≤ again % 5 ∧ again % 5 < 5 := by omega
      have hwa : IntKind.u64.wrap (again % 5) = again % 5 := wrap32 hag.1 (by omega)
      (repeat (first | apply cn | apply cq | apply cb | apply ck | apply cl | apply cx))
      apply cr
      refine s_ p_mv ?_
      refine s_ p_ne ?_
      refine s_ p_mv ?_
      refine gF (fun hg => p_mv) ?_
      refine gF (fun hg => p_ne (hx := u_ hg)) ?_
      refine s_ p_or ?_
      refine s_ p_mv ?_
      refine gF (fun hg => p_loa) ?_
      refine gF (fun hg => p_cl (hC) (ha' := by apply evl_cons (u_ hg); exact evl_nil)) ?_
      refine gF (fun hg => p_mv) ?_
      refine gF (fun hg => p_ne (hx := u_ hg) (hy := u_ hg)) ?_
      refine s_ p_or ?_
      refine s_ p_mv ?_
      refine gF (fun hg => p_fr) ?_
      refine gF (fun hg => p_lo (hx := u_ hg)) ?_
      (first | refine gF (fun hg => p_ix hix (hx := u_ hg)) ?_ | refine gF (fun hg => p_ix hix2 (hx := u_ hg)) ?_ | refine gF (fun hg => p_ia (hx := u_ hg)) ?_ | refine gF (fun hg => p_ir (hx := u_ hg)) ?_)
      (first | refine gF (fun hg => p_fa (hx := u_ hg)) ?_ | refine gF (fun hg => p_fr (hx := u_ hg)) ?_)
      (first | refine gF (fun hg => p_ld (hx := u_ hg)) ?_ | refine gF (fun hg => p_lo (hx := u_ hg)) ?_)
      refine gF (fun hg => p_mv) ?_
      refine gF (fun hg => p_ne (hx := u_ hg) (hy := u_ hg)) ?_
      refine s_ p_or ?_
      refine s_ p_mv ?_
      refine gF (fun hg => p_fr) ?_
      refine gF (fun hg => p_lo (hx := u_ hg)) ?_
      refine gF (fun hg => p_ne (hx := u_ hg)) ?_
      refine s_ p_or ?_
      (repeat (first | apply cn | apply cq | apply cb | apply ck | apply cl | apply cx))
      refine ci ?_ ?_
      · intro h
        exfalso
        rcases h with (((h | h) | h) | h) | h
        · exact h rfl
        · exact h rfl
        · exact h h2.1
        · exact h rfl
        · exact h rfl
      intro _
      (repeat (first | apply cn | apply cq | apply cb | apply ck | apply cl | apply cx))
      apply cr
      refine s_ p_mv ?_
      refine s_ p_mv ?_
      refine s_ (p_ca (hw5)) ?_
      refine s_ p_cv ?_
      refine s_ p_shl ?_
      refine s_ p_xor ?_
      refine s_ p_as ?_
      (repeat (first | apply cn | apply cq | apply cb | apply ck | apply cl | apply cx))
      apply cr
      refine s_ p_mv ?_
      (repeat (first | apply cn | apply cq | apply cb | apply ck | apply cl | apply cx))
      generalize again % 5 = A0 at hag ⊢
      obtain ⟨a, rfl⟩ : ∃ a : Nat, A0 = (a : Int) := ⟨A0.toNat, by omega⟩
      have ha5 : a < 5 := by omega
      have h3 := h3 ⟨a, ha5⟩ hfine
      dsimp only at h3
      rw [show bXor .i64 (cfI i) (bShl .i64 1 (IntKind.u64.wrap a)) = oneI (cfI i) a from rfl]
      refine ci ?_ ?_
      · intro _
        (repeat (first | apply cn | apply cq | apply cb | apply ck | apply cl | apply cx))
        apply cr
        refine s_ p_loa ?_
        refine e_al fun b17 _ => ?_
        refine e_st ?_
        (repeat (first | apply cn | apply cq | apply cb | apply ck | apply cl | apply cx))
        apply cr
        refine s_ p_as ?_
        (repeat (first | apply cn | apply cq | apply cb | apply ck | apply cl | apply cx))
        apply sim_loopL (σ := Nat) (ok := fun p => p ≤ 4) (env := fun p => [(18, ei ((p : Nat) + 1)), (17, pN b17), (16, ei (oneI (cfI i) a)), (0, ei (cfI i))]) (heap := fun p => [(b17, ⟨nB, nodeC (yK (cfI i) p) (eens (yK (cfI i) p).log), 22⟩)]) (μ := fun p => 4 - p) (s0 := 0)
        · exact Nat.zero_le _
        · exact eL
        · exact .keep _ _ _ _ _ (BlkLe.refl _) kN
        intro p hp
        (repeat (first | apply cn | apply cq | apply cb | apply ck | apply cl | apply cx))
        apply cr
        refine s_ p_mv ?_
        refine s_ p_lt ?_
        (repeat (first | apply cn | apply cq | apply cb | apply ck | apply cl | apply cx))
        refine ci ?_ ?_
        · intro hlt
          have hp4 : p < 4 := by omega
          have ht := take_ok (n := yK (cfI i) p) (m := okM (p + 1) 2) (h2.2 ⟨p, by omega⟩) rfl (by simp [okM]) (by simp [okM]) (by simp [okM])
          (repeat (first | apply cn | apply cq | apply cb | apply ck | apply cl | apply cx))
          apply cr
          refine s_ p_loa ?_
          refine s_ p_mv ?_
          refine s_ (p_bd 11 [_, _, _, _, _, _, _, _, _, _, _]) ?_
          refine s_ (p_cl (ht)) ?_
          refine s_ p_mv ?_
          refine s_ p_ex ?_
          refine s_ p_ex ?_
          refine e_st ?_
          (repeat (first | apply cn | apply cq | apply cb | apply ck | apply cl | apply cx))
          apply cr
          refine s_ p_mv ?_
          refine s_ p_ad ?_
          refine s_ p_as ?_
          (repeat (first | apply cn | apply cq | apply cb | apply ck | apply cl | apply cx))
          exact ⟨p + 1, hp4, by show 4 - (p + 1) < 4 - p; omega, ⟨le_get (by rfl) (Le.refl _), eL⟩, kR⟩
        · intro hlt
          have : p = 4 := by omega
          subst this
          have g3 := change_ok (n := yK (cfI i) 4) (c := oneI (cfI i) a) (h2.2 4) rfl
          (repeat (first | apply cn | apply cq | apply cb | apply ck | apply cl | apply cx))
          apply cr
          refine s_ p_loa ?_
          refine s_ p_mv ?_
          refine s_ (p_cl (g3)) ?_
          refine s_ p_mv ?_
          refine s_ p_ex ?_
          refine s_ p_ex ?_
          refine s_ p_ex ?_
          refine e_al fun b19 _ => ?_
          refine e_st ?_
          refine s_ p_as ?_
          refine s_ p_as ?_
          (repeat (first | apply cn | apply cq | apply cb | apply ck | apply cl | apply cx))
          apply cr
          refine s_ p_mv ?_
          refine s_ p_and ?_
          refine s_ p_eq ?_
          (repeat (first | apply cn | apply cq | apply cb | apply ck | apply cl | apply cx))
          refine ci ?_ ?_
          · intro h0
            (repeat (first | apply cn | apply cq | apply cb | apply ck | apply cl | apply cx))
            apply cr
            refine s_ p_fr ?_
            refine s_ p_lo ?_
            refine s_ p_eq ?_
            refine s_ p_mv ?_
            refine gT (fun hg => p_mv) ?_
            refine gT (fun hg => p_eq (hx := u_ hg)) ?_
            refine s_ p_an ?_
            refine s_ p_mv ?_
            refine gT (fun hg => p_fr) ?_
            refine gT (fun hg => p_lo (hx := u_ hg)) ?_
            refine gT (fun hg => p_eq (hx := u_ hg)) ?_
            refine s_ p_an ?_
            refine s_ p_as ?_
            (repeat (first | apply cn | apply cq | apply cb | apply ck | apply cl | apply cx))
            (apply sim_ret; (try simp only [blockΨ_ret, thenΨ_ret, loopL_ret, cutΨ_ret, cutE_ret]); first | refine rt ?_ | refine rn ?_)
            exact b_true ⟨⟨(h3.2.2.1 h0).1, (h3.2.2.1 h0).2⟩, h3.2.1⟩
          · intro h0
            (repeat (first | apply cn | apply cq | apply cb | apply ck | apply cl | apply cx))
            apply cr
            refine s_ p_fr ?_
            refine s_ p_lo ?_
            refine s_ p_eq ?_
            refine s_ p_mv ?_
            refine gT (fun hg => p_mv) ?_
            refine gT (fun hg => p_eq (hx := u_ hg)) ?_
            refine s_ p_an ?_
            refine s_ p_as ?_
            (repeat (first | apply cn | apply cq | apply cb | apply ck | apply cl | apply cx))
            (apply sim_ret; (try simp only [blockΨ_ret, thenΨ_ret, loopL_ret, cutΨ_ret, cutE_ret]); first | refine rt ?_ | refine rn ?_)
            exact b_true ⟨h3.2.1, h3.2.2.2 h0⟩
      · intro _
        have g3 := change_ok (n := chX (cfI i)) (c := oneI (cfI i) a) (h2.2 0) rfl
        (repeat (first | apply cn | apply cq | apply cb | apply ck | apply cl | apply cx))
        apply cr
        refine s_ p_loa ?_
        refine s_ p_mv ?_
        refine s_ (p_cl (g3)) ?_
        refine s_ p_mv ?_
        refine s_ p_ex ?_
        refine s_ p_ex ?_
        refine s_ p_ex ?_
        refine e_al fun b22 _ => ?_
        refine e_st ?_
        refine s_ p_as ?_
        refine s_ p_as ?_
        (repeat (first | apply cn | apply cq | apply cb | apply ck | apply cl | apply cx))
        apply cr
        refine s_ p_mv ?_
        refine s_ p_eq ?_
        refine s_ p_as ?_
        (repeat (first | apply cn | apply cq | apply cb | apply ck | apply cl | apply cx))
        (apply sim_ret; (try simp only [blockΨ_ret, thenΨ_ret, loopL_ret, cutΨ_ret, cutE_ret]); first | refine rt ?_ | refine rn ?_)
        exact b_true h3.1
    · rw [if_neg hfine] at h1
      have g1 := change_ok hat.2.2.2.2 h1
      have g2 := same_fn (atS 0 3) (atS 0 3) (by decide) (by decide)
      (repeat (first | apply cn | apply cq | apply cb | apply ck | apply cl | apply cx))
      apply cr
      refine s_ p_loa ?_
      refine s_ p_mv ?_
      refine s_ (p_cl (g1)) ?_
      refine s_ p_mv ?_
      refine s_ p_ex ?_
      refine s_ p_ex ?_
      refine s_ p_ex ?_
      refine e_al fun b12 _ => ?_
      refine e_st ?_
      refine s_ p_as ?_
      refine s_ p_as ?_
      (repeat (first | apply cn | apply cq | apply cb | apply ck | apply cl | apply cx))
      apply cr
      refine s_ p_mv ?_
      refine s_ p_ge ?_
      refine s_ p_mv ?_
      refine gT (fun hg => p_mv) ?_
      refine gT (fun hg => p_le (hx := u_ hg)) ?_
      refine s_ p_an ?_
      refine s_ p_mv ?_
      refine gT (fun hg => p_mv) ?_
      refine gT (fun hg => p_xor (hx := u_ hg)) ?_
      refine gT (p := 1 ≤ cfI i ∧ cfI i ≤ 31) (fun hg => p_ca (hbits hg) (ha' := by apply evl_cons (u_ hg); exact evl_nil)) ?_
      refine gT (fun hg => p_eq (hx := u_ hg)) ?_
      refine s_ p_an ?_
      refine s_ p_as ?_
      (repeat (first | apply cn | apply cq | apply cb | apply ck | apply cl | apply cx))
      apply cr
      refine s_ p_mv ?_
      refine s_ p_ne ?_
      refine s_ p_mv ?_
      refine gF (fun hg => p_mv) ?_
      refine gF (fun hg => p_no (hx := u_ hg)) ?_
      refine s_ p_or ?_
      (repeat (first | apply cn | apply cq | apply cb | apply ck | apply cl | apply cx))
      refine ci ?_ ?_
      · intro _
        (repeat (first | apply cn | apply cq | apply cb | apply ck | apply cl | apply cx))
        apply cr
        refine s_ p_mv ?_
        refine s_ p_eq ?_
        refine s_ p_mv ?_
        refine gT (fun hg => p_mv) ?_
        refine gT (fun hg => p_eq (hx := u_ hg)) ?_
        refine s_ p_an ?_
        refine s_ p_mv ?_
        refine gT (fun hg => p_mv) ?_
        refine gT (fun hg => p_eq (hx := u_ hg)) ?_
        refine s_ p_an ?_
        refine s_ p_mv ?_
        refine gT (fun hg => p_loa) ?_
        refine gT (fun hg => p_loa) ?_
        refine gT (fun hg => p_cl (g2) (ha' := by apply evl_cons (u_ hg); apply evl_cons (u_ hg); exact evl_nil)) ?_
        refine s_ p_an ?_
        refine s_ p_as ?_
        (repeat (first | apply cn | apply cq | apply cb | apply ck | apply cl | apply cx))
        (apply sim_ret; (try simp only [blockΨ_ret, thenΨ_ret, loopL_ret, cutΨ_ret, cutE_ret]); first | refine rt ?_ | refine rn ?_)
        exact b_true (by refine ⟨⟨⟨?_, ?_⟩, ?_⟩, ?_⟩ <;> first | rfl | trivial)
      · intro h
        exact absurd (.inr hfine) h
end Go.Proofs.Ytppaabahbjgihaa
