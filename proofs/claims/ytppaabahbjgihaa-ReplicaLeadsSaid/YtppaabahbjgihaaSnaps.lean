/-
  ReplicaSnaps: a leader that laid a snapshot sends it, with its members, to who is behind it.
-/
import Derived.Test.YtppaabahbjgihaaOkB
set_option maxRecDepth 4000
namespace Go.Proofs.Ytppaabahbjgihaa
open Go.Cap
set_option linter.unusedSimpArgs false
set_option linter.unusedVariables false
attribute [local irreducible] POp SimFrom DrawFrom EOp Sim FnH T.gp
def snapS : List UInt8 := [115, 110, 97, 112]
def snC (c u : Nat) : Nd := (compactF (atS c 3) u snapS).1
def newS (behind : Bool) : Nd := { newF 3 31 with term := 1, log := if behind then [⟨1, 0, []⟩] else [] }
def snY (c u : Nat) (b : Bool) : Nd × List Ms := takeF (newS b) (oweF (snC c u) 3)
theorem sn_one : ∀ c : Fin 7, ∀ u : Fin 8, 1 ≤ c.val → 1 ≤ u.val → u.val ≤ c.val + 1 → compactF (atS c.val 3) u.val snapS = (snC c.val u.val, 0) ∧ compactF (snC c.val u.val) u.val [97, 103, 97, 105, 110] = (snC c.val u.val, 1) ∧ compactF (snC c.val u.val) (c.val + 2) [102, 97, 114] = (snC c.val u.val, 1)
    ∧ tickF (snC c.val u.val) = (snC c.val u.val, [oweF (snC c.val u.val) 1, oweF (snC c.val u.val) 2, oweF (snC c.val u.val) 3, oweF (snC c.val u.val) 4]) ∧ okB (snC c.val u.val) = true ∧ (snC c.val u.val).base = u.val ∧ (((snC c.val u.val).log.length : Nat) : Int) = c.val + 1 - u.val := by decide +kernel
theorem sn_two : ∀ c : Fin 7, ∀ u : Fin 8, 1 ≤ c.val → 1 ≤ u.val → u.val ≤ c.val + 1 → (oweF (snC c.val u.val) 3).to = 3 ∧ (oweF (snC c.val u.val) 3).kind = 5 ∧ (oweF (snC c.val u.val) 3).index = u.val ∧ (oweF (snC c.val u.val) 3).snap = snapS ∧ (oweF (snC c.val u.val) 3).conf = 31 ∧ (oweF (snC c.val u.val) 3).entries = [] ∧ (oweF (snC c.val u.val) 1).kind = 3 ∧ (oweF (snC c.val u.val) 1).index = c.val + 1 := by decide +kernel
def snR (c u : Nat) (b : Bool) : Ms := (snY c u b).2.getD 0 default
theorem sn_three : ∀ c : Fin 7, ∀ u : Fin 8, ∀ b : Bool, 1 ≤ c.val → 1 ≤ u.val → u.val ≤ c.val + 1 → takeF (newS b) (oweF (snC c.val u.val) 3) = ((snY c.val u.val b).1, [snR c.val u.val b]) ∧ okB (newS b) = true ∧ (snR c.val u.val b).yes = true ∧ (snR c.val u.val b).index = u.val
    ∧ (snY c.val u.val b).1.base = u.val ∧ (snY c.val u.val b).1.commit = u.val ∧ (snY c.val u.val b).1.snap = snapS ∧ (snY c.val u.val b).1.baseTerm = 1 ∧ (snY c.val u.val b).1.baseConf = 31 ∧ (snY c.val u.val b).1.role = 0 := by decide +kernel
theorem mss1_dec (m : Ms) : mss [m] = .sl false [.agg [ei m.kind, ei m.frm, ei m.to, ei m.term, ei m.index, ei m.logTerm, ei m.commit, ei m.conf, .v (.bool (decide (m.yes = true))), eens m.entries, es m.snap]] := by
  rw [mss, List.map_cons, List.map_nil, ms_dec]
set_option maxHeartbeats 4000000 in
theorem snaps_fn (cmds0 upto0 : Int) (behind : Bool) : FnP Try.prog 7 [ei cmds0, ei upto0, eB behind] (fun r => r = .v (.bool true)) := by
  have hk := known_fn
  have hw1 := within_fn cmds0 6 (by omega) (by omega)
  have hc : 1 ≤ 1 + cmds0 % 6 ∧ 1 + cmds0 % 6 < 7 := by omega
  have hle := lead_fn0 (1 + cmds0 % 6) (by omega) (by omega)
  have hbd : eB behind = .v (.bool (decide (behind = true))) := by rw [← bool_dec]; rfl
  have hN := new_fn' 3 31 (by omega) (by omega) (by omega) (by omega)
  rw [hbd]
  refine fn_enter Try.func7 (by rfl) (by rfl) ?_
  intro S0 w0
  show Sim _ _ [(0, ei cmds0), (1, ei upto0), (2, .v (.bool (decide (behind = true))))] _ _
  (repeat (first | apply cn | apply cq | apply cb | apply ck | apply cl | apply cx))
  apply cr
  refine s_ p_as ?_
  (repeat (first | apply cn | apply cq | apply cb | apply ck | apply cl | apply cx))
  apply cr
  refine s_ (p_ca (hk)) ?_
  refine s_ p_noB ?_
  refine cn ?_
  (repeat (first | apply cn | apply cq | apply cb | apply ck | apply cl | apply cx))
  refine ci (p := False) (fun h => h.elim) (fun _ => ?_)
  (repeat (first | apply cn | apply cq | apply cb | apply ck | apply cl | apply cx))
  apply cr
  refine s_ p_mv ?_
  refine s_ (p_ca (hw1)) ?_
  refine s_ p_ad ?_
  refine s_ p_as ?_
  (repeat (first | apply cn | apply cq | apply cb | apply ck | apply cl | apply cx))
  generalize 1 + cmds0 % 6 = C0 at hc hle ⊢
  obtain ⟨c, rfl⟩ : ∃ c : Nat, C0 = (c : Int) := ⟨C0.toNat, by omega⟩
  have hc7 : c < 7 := by omega
  have hc1 : 1 ≤ c := by omega
  rw [Int.toNat_natCast] at hle
  (repeat (first | apply cn | apply cq | apply cb | apply ck | apply cl | apply cx))
  apply cr
  refine s_ p_mv ?_
  refine s_ (p_ca (hle)) ?_
  refine e_al fun b7 _ => ?_
  refine e_st ?_
  (repeat (first | apply cn | apply cq | apply cb | apply ck | apply cl | apply cx))
  apply cr
  refine s_ p_as ?_
  (repeat (first | apply cn | apply cq | apply cb | apply ck | apply cl | apply cx))
  have hat := atS_take ⟨c, by omega⟩
  apply sim_loopL (σ := Nat) (ok := fun k => 1 ≤ k ∧ k ≤ 3) (env := fun k => [(8, ei (k : Nat)), (7, pN b7), (0, ei c), (1, ei upto0), (2, .v (.bool (decide (behind = true))))]) (heap := fun k => [(b7, ⟨nB, nodeC (atS c k) (eens (atS c k).log), 22⟩)]) (μ := fun k => 3 - k) (s0 := 1)
  · exact ⟨by decide, by decide⟩
  · exact eL
  · exact kR
  rintro k ⟨hk1, hk3⟩
  (repeat (first | apply cn | apply cq | apply cb | apply ck | apply cl | apply cx))
  apply cr
  refine s_ p_mv ?_
  refine s_ p_lt ?_
  (repeat (first | apply cn | apply cq | apply cb | apply ck | apply cl | apply cx))
  refine ci ?_ ?_
  · intro hlt
    rcases (by omega : k = 1 ∨ k = 2) with rfl | rfl
    · have ht := take_ok (n := atS c 1) (m := okM 1 (c + 1)) hat.2.2.1 hat.1 (by simp only [okM]; omega) (by simp only [okM]; omega) (by simp [okM])
      (repeat (first | apply cn | apply cq | apply cb | apply ck | apply cl | apply cx))
      apply cr
      refine s_ p_loa ?_
      refine s_ p_mv ?_
      refine s_ p_mv ?_
      refine s_ p_ad ?_
      refine s_ (p_bd 11 [_, _, _, _, _, _, _, _, _, _, _]) ?_
      refine s_ (p_cl (ht)) ?_
      refine s_ p_mv ?_
      refine s_ p_ex ?_
      refine s_ p_ex ?_
      refine e_st ?_
      (repeat (first | apply cn | apply cq | apply cb | apply ck | apply cl | apply cx))
      apply cr
      refine s_ p_mv ?_
      refine s_ p_ad ?_
      refine s_ p_as ?_
      (repeat (first | apply cn | apply cq | apply cb | apply ck | apply cl | apply cx))
      exact ⟨2, by decide, by decide, ⟨le_get (by rfl) (Le.refl _), eL⟩, kR⟩
    · have ht := take_ok (n := atS c 2) (m := okM 2 (c + 1)) hat.2.2.2.1 hat.2.1 (by simp only [okM]; omega) (by simp only [okM]; omega) (by simp [okM])
      (repeat (first | apply cn | apply cq | apply cb | apply ck | apply cl | apply cx))
      apply cr
      refine s_ p_loa ?_
      refine s_ p_mv ?_
      refine s_ p_mv ?_
      refine s_ p_ad ?_
      refine s_ (p_bd 11 [_, _, _, _, _, _, _, _, _, _, _]) ?_
      refine s_ (p_cl (ht)) ?_
      refine s_ p_mv ?_
      refine s_ p_ex ?_
      refine s_ p_ex ?_
      refine e_st ?_
      (repeat (first | apply cn | apply cq | apply cb | apply ck | apply cl | apply cx))
      apply cr
      refine s_ p_mv ?_
      refine s_ p_ad ?_
      refine s_ p_as ?_
      (repeat (first | apply cn | apply cq | apply cb | apply ck | apply cl | apply cx))
      exact ⟨3, by decide, by decide, ⟨le_get (by rfl) (Le.refl _), eL⟩, kR⟩
  · intro hlt
    have : k = 3 := by omega
    subst this
    have hw2 := within_fn upto0 (c + 1) (by omega) (by omega)
    have hu : 1 ≤ 1 + upto0 % ((c : Int) + 1) ∧ 1 + upto0 % ((c : Int) + 1) ≤ c + 1 := ⟨by have := Int.emod_nonneg upto0 (show (c : Int) + 1 ≠ 0 by omega); omega, by have := Int.emod_lt_of_pos upto0 (show 0 < (c : Int) + 1 by omega); omega⟩
    (repeat (first | apply cn | apply cq | apply cb | apply ck | apply cl | apply cx))
    apply cr
    refine s_ p_mv ?_
    refine s_ p_mv ?_
    refine s_ p_ad ?_
    refine s_ (p_ca (hw2)) ?_
    refine s_ p_ad ?_
    refine s_ p_as ?_
    (repeat (first | apply cn | apply cq | apply cb | apply ck | apply cl | apply cx))
    generalize 1 + upto0 % ((c : Int) + 1) = U0 at hu ⊢
    obtain ⟨u, rfl⟩ : ∃ u : Nat, U0 = (u : Int) := ⟨U0.toNat, by omega⟩
    have h1 := sn_one ⟨c, hc7⟩ ⟨u, by omega⟩ hc1 (by show 1 ≤ u; omega) (by show u ≤ c + 1; omega)
    have h2 := sn_two ⟨c, hc7⟩ ⟨u, by omega⟩ hc1 (by show 1 ≤ u; omega) (by show u ≤ c + 1; omega)
    have h3 := fun b => sn_three ⟨c, hc7⟩ ⟨u, by omega⟩ b hc1 (by show 1 ≤ u; omega) (by show u ≤ c + 1; omega)
    dsimp only at h1 h2 h3
    have g1 := compact_ok hat.2.2.2.2 h1.1 (by omega) (by omega)
    have g2 := compact_ok h1.2.2.2.2.1 h1.2.1 (by omega) (by omega)
    have g3 := compact_ok h1.2.2.2.2.1 h1.2.2.1 (by omega) (by omega)
    have g4 := tick_ok h1.2.2.2.2.1 h1.2.2.2.1
    have g5 := same_fn (snC c u) (snC c u) (by have := (OkB.of h1.2.2.2.2.1).len; omega) (by have := (OkB.of h1.2.2.2.2.1).len; omega)
    (repeat (first | apply cn | apply cq | apply cb | apply ck | apply cl | apply cx))
    apply cr
    refine s_ p_loa ?_
    refine s_ p_mv ?_
    refine s_ (p_cl (g1)) ?_
    refine s_ p_mv ?_
    refine s_ p_ex ?_
    refine s_ p_ex ?_
    refine e_al fun b9 _ => ?_
    refine e_st ?_
    refine s_ p_as ?_
    (repeat (first | apply cn | apply cq | apply cb | apply ck | apply cl | apply cx))
    apply cr
    refine s_ p_loa ?_
    refine s_ p_mv ?_
    refine s_ (p_cl (g2)) ?_
    refine s_ p_mv ?_
    refine s_ p_ex ?_
    refine s_ p_ex ?_
    refine e_al fun b11 _ => ?_
    refine e_st ?_
    refine s_ p_as ?_
    (repeat (first | apply cn | apply cq | apply cb | apply ck | apply cl | apply cx))
    apply cr
    refine s_ p_loa ?_
    refine s_ p_mv ?_
    refine s_ p_ad ?_
    refine s_ (p_cl (g3)) ?_
    refine s_ p_mv ?_
    refine s_ p_ex ?_
    refine s_ p_ex ?_
    refine e_al fun b13 _ => ?_
    refine e_st ?_
    refine s_ p_as ?_
    (repeat (first | apply cn | apply cq | apply cb | apply ck | apply cl | apply cx))
    apply cr
    refine s_ p_loa ?_
    refine s_ (p_cl (g4)) ?_
    refine s_ p_mv ?_
    refine s_ p_ex ?_
    refine s_ p_ex ?_
    refine e_al fun b15 _ => ?_
    refine e_st ?_
    refine s_ p_as ?_
    (repeat (first | apply cn | apply cq | apply cb | apply ck | apply cl | apply cx))
    apply cr
    refine s_ p_mv ?_
    refine s_ p_ne ?_
    refine s_ p_mv ?_
    refine gF (fun hg => p_mv) ?_
    refine gF (fun hg => p_ne (hx := u_ hg)) ?_
    refine s_ p_or ?_
    refine s_ p_mv ?_
    refine gF (fun hg => p_mv) ?_
    refine gF (fun hg => p_ne (hx := u_ hg)) ?_
    refine s_ p_or ?_
    refine s_ p_mv ?_
    refine gF (fun hg => p_fr) ?_
    refine gF (fun hg => p_lo (hx := u_ hg)) ?_
    refine gF (fun hg => p_mv) ?_
    refine gF (fun hg => p_ne (hx := u_ hg) (hy := u_ hg)) ?_
    refine s_ p_or ?_
    refine s_ p_mv ?_
    refine gF (fun hg => p_fr) ?_
    refine gF (fun hg => p_lo (hx := u_ hg)) ?_
    (first | refine gF (fun hg => p_ln (hx := u_ hg)) ?_ | refine gF (fun hg => p_lr (hx := u_ hg)) ?_)
    refine gF (fun hg => p_mv) ?_
    refine gF (fun hg => p_ad (hx := u_ hg)) ?_
    refine gF (fun hg => p_mv) ?_
    refine gF (fun hg => p_su (hx := u_ hg) (hy := u_ hg)) ?_
    refine gF (fun hg => p_ne (hx := u_ hg) (hy := u_ hg)) ?_
    refine s_ p_or ?_
    refine s_ p_mv ?_
    refine gF (fun hg => p_mv) ?_
    (first | refine gF (fun hg => p_ln (hx := u_ hg)) ?_ | refine gF (fun hg => p_lr (hx := u_ hg)) ?_)
    refine gF (fun hg => p_ne (hx := u_ hg)) ?_
    refine s_ p_or ?_
    refine s_ p_mv ?_
    refine gF (fun hg => p_loa) ?_
    refine gF (fun hg => p_loa) ?_
    refine gF (fun hg => p_cl (g5) (ha' := by apply evl_cons (u_ hg); apply evl_cons (u_ hg); exact evl_nil)) ?_
    refine gF (fun hg => p_no (hx := u_ hg)) ?_
    refine s_ p_or ?_
    (repeat (first | apply cn | apply cq | apply cb | apply ck | apply cl | apply cx))
    refine ci ?_ ?_
    · intro h
      exfalso
      rcases h with (((((h | h) | h) | h) | h) | h) | h
      · exact h rfl
      · exact h rfl
      · exact h rfl
      · exact h h1.2.2.2.2.2.1
      · exact h (by rw [List.length_map]; exact h1.2.2.2.2.2.2)
      · exact h rfl
      · exact h rfl
    intro _
    (repeat (first | apply cn | apply cq | apply cb | apply ck | apply cl | apply cx))
    apply cr
    refine s_ p_mv ?_
    (first | refine s_ (p_ix hix) ?_ | refine s_ (p_ix hix2) ?_ | refine s_ p_ia ?_ | refine s_ p_ir ?_)
    (first | refine s_ p_fa ?_ | refine s_ p_fr ?_)
    (first | refine s_ p_ld ?_ | refine s_ p_lo ?_)
    refine s_ p_ne ?_
    refine s_ p_mv ?_
    refine gF (fun hg => p_mv) ?_
    (first | refine gF (fun hg => p_ix hix (hx := u_ hg)) ?_ | refine gF (fun hg => p_ix hix2 (hx := u_ hg)) ?_ | refine gF (fun hg => p_ia (hx := u_ hg)) ?_ | refine gF (fun hg => p_ir (hx := u_ hg)) ?_)
    (first | refine gF (fun hg => p_fa (hx := u_ hg)) ?_ | refine gF (fun hg => p_fr (hx := u_ hg)) ?_)
    (first | refine gF (fun hg => p_ld (hx := u_ hg)) ?_ | refine gF (fun hg => p_lo (hx := u_ hg)) ?_)
    refine gF (fun hg => p_ne (hx := u_ hg)) ?_
    refine s_ p_or ?_
    refine s_ p_mv ?_
    refine gF (fun hg => p_mv) ?_
    (first | refine gF (fun hg => p_ix hix (hx := u_ hg)) ?_ | refine gF (fun hg => p_ix hix2 (hx := u_ hg)) ?_ | refine gF (fun hg => p_ia (hx := u_ hg)) ?_ | refine gF (fun hg => p_ir (hx := u_ hg)) ?_)
    (first | refine gF (fun hg => p_fa (hx := u_ hg)) ?_ | refine gF (fun hg => p_fr (hx := u_ hg)) ?_)
    (first | refine gF (fun hg => p_ld (hx := u_ hg)) ?_ | refine gF (fun hg => p_lo (hx := u_ hg)) ?_)
    refine gF (fun hg => p_mv) ?_
    refine gF (fun hg => p_ne (hx := u_ hg) (hy := u_ hg)) ?_
    refine s_ p_or ?_
    refine s_ p_mv ?_
    refine gF (fun hg => p_mv) ?_
    (first | refine gF (fun hg => p_ix hix (hx := u_ hg)) ?_ | refine gF (fun hg => p_ix hix2 (hx := u_ hg)) ?_ | refine gF (fun hg => p_ia (hx := u_ hg)) ?_ | refine gF (fun hg => p_ir (hx := u_ hg)) ?_)
    (first | refine gF (fun hg => p_fa (hx := u_ hg)) ?_ | refine gF (fun hg => p_fr (hx := u_ hg)) ?_)
    (first | refine gF (fun hg => p_ld (hx := u_ hg)) ?_ | refine gF (fun hg => p_lo (hx := u_ hg)) ?_)
    refine gF (fun hg => p_neS (hx := u_ hg)) ?_
    refine s_ p_or ?_
    refine s_ p_mv ?_
    refine gF (fun hg => p_mv) ?_
    (first | refine gF (fun hg => p_ix hix (hx := u_ hg)) ?_ | refine gF (fun hg => p_ix hix2 (hx := u_ hg)) ?_ | refine gF (fun hg => p_ia (hx := u_ hg)) ?_ | refine gF (fun hg => p_ir (hx := u_ hg)) ?_)
    (first | refine gF (fun hg => p_fa (hx := u_ hg)) ?_ | refine gF (fun hg => p_fr (hx := u_ hg)) ?_)
    (first | refine gF (fun hg => p_ld (hx := u_ hg)) ?_ | refine gF (fun hg => p_lo (hx := u_ hg)) ?_)
    refine gF (fun hg => p_ne (hx := u_ hg)) ?_
    refine s_ p_or ?_
    refine s_ p_mv ?_
    refine gF (fun hg => p_mv) ?_
    (first | refine gF (fun hg => p_ix hix (hx := u_ hg)) ?_ | refine gF (fun hg => p_ix hix2 (hx := u_ hg)) ?_ | refine gF (fun hg => p_ia (hx := u_ hg)) ?_ | refine gF (fun hg => p_ir (hx := u_ hg)) ?_)
    (first | refine gF (fun hg => p_fa (hx := u_ hg)) ?_ | refine gF (fun hg => p_fr (hx := u_ hg)) ?_)
    (first | refine gF (fun hg => p_ld (hx := u_ hg)) ?_ | refine gF (fun hg => p_lo (hx := u_ hg)) ?_)
    refine gF (fun hg => p_ne (hx := u_ hg)) ?_
    refine s_ p_or ?_
    refine s_ p_mv ?_
    refine gF (fun hg => p_mv) ?_
    (first | refine gF (fun hg => p_ix hix (hx := u_ hg)) ?_ | refine gF (fun hg => p_ix hix2 (hx := u_ hg)) ?_ | refine gF (fun hg => p_ia (hx := u_ hg)) ?_ | refine gF (fun hg => p_ir (hx := u_ hg)) ?_)
    (first | refine gF (fun hg => p_fa (hx := u_ hg)) ?_ | refine gF (fun hg => p_fr (hx := u_ hg)) ?_)
    (first | refine gF (fun hg => p_ld (hx := u_ hg)) ?_ | refine gF (fun hg => p_lo (hx := u_ hg)) ?_)
    refine gF (fun hg => p_mv) ?_
    refine gF (fun hg => p_ad (hx := u_ hg)) ?_
    refine gF (fun hg => p_ne (hx := u_ hg) (hy := u_ hg)) ?_
    refine s_ p_or ?_
    (repeat (first | apply cn | apply cq | apply cb | apply ck | apply cl | apply cx))
    refine ci ?_ ?_
    · intro h
      exfalso
      rcases h with (((((h | h) | h) | h) | h) | h) | h
      · exact h h2.1
      · exact h h2.2.1
      · exact h h2.2.2.1
      · exact h h2.2.2.2.1
      · exact h h2.2.2.2.2.1
      · exact h h2.2.2.2.2.2.2.1
      · exact h h2.2.2.2.2.2.2.2
    intro _
    have hent := h2.2.2.2.2.2.1
    (repeat (first | apply cn | apply cq | apply cb | apply ck | apply cl | apply cx))
    apply cr
    refine s_ (p_ca (hN)) ?_
    refine e_al fun b17 _ => ?_
    refine e_st ?_
    (repeat (first | apply cn | apply cq | apply cb | apply ck | apply cl | apply cx))
    apply cr
    refine s_ p_fr ?_
    refine e_st ?_
    (repeat (first | apply cn | apply cq | apply cb | apply ck | apply cl | apply cx))
    apply cr
    refine s_ p_mv ?_
    (repeat (first | apply cn | apply cq | apply cb | apply ck | apply cl | apply cx))
    refine ci ?_ ?_
    · intro hb
      have h4 := h3 true
      have htk := take_ok h4.2.1 h4.1 (by omega) (by omega) (by rw [hent]; simp)
      rw [show mss ((snY c u true).1, [snR c u true]).2 = _ from mss1_dec (snR c u true)] at htk
      (repeat (first | apply cn | apply cq | apply cb | apply ck | apply cl | apply cx))
      apply cr
      refine s_ (p_bd 3 [_, _, _]) ?_
      refine s_ p_bs ?_
      refine s_ p_fr ?_
      refine e_st ?_
      (repeat (first | apply cn | apply cq | apply cb | apply ck | apply cl | apply cx))
      (repeat (first | apply cn | apply cq | apply cb | apply ck | apply cl | apply cx))
      refine ca [0, 1, 2, 3, 4, 5, 6, 7, 8, 9, 10] [8, 9] ?_
      refine a_loa ?_
      refine a_ (fun _ => p_mv) ?_
      (first | refine a_ (fun _ => p_ix hix) ?_ | refine a_ (fun _ => p_ix hix2) ?_ | refine a_ (fun _ => p_ia) ?_ | refine a_ (fun _ => p_ir) ?_)
      (first | refine a_ (fun _ => p_la) ?_ | refine a_loa ?_)
      refine a_ (fun _ => p_cl (htk)) ?_
      refine a_ (fun _ => p_mv) ?_
      refine a_ (fun _ => p_ex) ?_
      refine a_ (fun _ => p_ex) ?_
      refine a_al fun b18 _ => ⟨by (repeat (first | exact trivial | (apply And.intro; focus (intro hb; first | exact trivial | exact noB hb rfl | (repeat (first | exact hZ | apply hS | apply hA)))))), ?_⟩
      refine a_st ?_
      refine a_ (fun _ => p_as) ?_
      apply an
      (repeat (first | apply cn | apply cq | apply cb | apply ck | apply cl | apply cx))
      apply cr
      refine s_ p_mv ?_
      (first | refine s_ p_ln ?_ | refine s_ p_lr ?_)
      refine s_ p_eq ?_
      refine s_ p_mv ?_
      refine gT (fun hg => p_mv) ?_
      (first | refine gT (fun hg => p_ix hix (hx := u_ hg)) ?_ | refine gT (fun hg => p_ix hix2 (hx := u_ hg)) ?_ | refine gT (fun hg => p_ia (hx := u_ hg)) ?_ | refine gT (fun hg => p_ir (hx := u_ hg)) ?_)
      (first | refine gT (fun hg => p_fa (hx := u_ hg)) ?_ | refine gT (fun hg => p_fr (hx := u_ hg)) ?_)
      (first | refine gT (fun hg => p_ld (hx := u_ hg)) ?_ | refine gT (fun hg => p_lo (hx := u_ hg)) ?_)
      refine s_ p_an ?_
      refine s_ p_mv ?_
      refine gT (fun hg => p_mv) ?_
      (first | refine gT (fun hg => p_ix hix (hx := u_ hg)) ?_ | refine gT (fun hg => p_ix hix2 (hx := u_ hg)) ?_ | refine gT (fun hg => p_ia (hx := u_ hg)) ?_ | refine gT (fun hg => p_ir (hx := u_ hg)) ?_)
      (first | refine gT (fun hg => p_fa (hx := u_ hg)) ?_ | refine gT (fun hg => p_fr (hx := u_ hg)) ?_)
      (first | refine gT (fun hg => p_ld (hx := u_ hg)) ?_ | refine gT (fun hg => p_lo (hx := u_ hg)) ?_)
      refine gT (fun hg => p_mv) ?_
      refine gT (fun hg => p_eq (hx := u_ hg) (hy := u_ hg)) ?_
      refine s_ p_an ?_
      refine s_ p_mv ?_
      refine gT (fun hg => p_fr) ?_
      refine gT (fun hg => p_lo (hx := u_ hg)) ?_
      refine gT (fun hg => p_mv) ?_
      refine gT (fun hg => p_eq (hx := u_ hg) (hy := u_ hg)) ?_
      refine s_ p_an ?_
      refine s_ p_mv ?_
      refine gT (fun hg => p_fr) ?_
      refine gT (fun hg => p_lo (hx := u_ hg)) ?_
      refine gT (fun hg => p_mv) ?_
      refine gT (fun hg => p_eq (hx := u_ hg) (hy := u_ hg)) ?_
      refine s_ p_an ?_
      refine s_ p_mv ?_
      refine gT (fun hg => p_fr) ?_
      refine gT (fun hg => p_lo (hx := u_ hg)) ?_
      refine gT (fun hg => p_eqS (hx := u_ hg)) ?_
      refine s_ p_an ?_
      refine s_ p_mv ?_
      refine gT (fun hg => p_fr) ?_
      refine gT (fun hg => p_lo (hx := u_ hg)) ?_
      refine gT (fun hg => p_eq (hx := u_ hg)) ?_
      refine s_ p_an ?_
      refine s_ p_mv ?_
      refine gT (fun hg => p_fr) ?_
      refine gT (fun hg => p_lo (hx := u_ hg)) ?_
      refine gT (fun hg => p_eq (hx := u_ hg)) ?_
      refine s_ p_an ?_
      refine s_ p_mv ?_
      refine gT (fun hg => p_fr) ?_
      refine gT (fun hg => p_lo (hx := u_ hg)) ?_
      refine gT (fun hg => p_eq (hx := u_ hg)) ?_
      refine s_ p_an ?_
      refine s_ p_as ?_
      (repeat (first | apply cn | apply cq | apply cb | apply ck | apply cl | apply cx))
      (apply sim_ret; (try simp only [blockΨ_ret, thenΨ_ret, loopL_ret, cutΨ_ret, cutE_ret]); first | refine rt ?_ | refine rn ?_)
      refine b_true ?_
      exact ⟨⟨⟨⟨⟨⟨⟨⟨rfl, h4.2.2.1⟩, h4.2.2.2.1⟩, h4.2.2.2.2.1⟩, h4.2.2.2.2.2.1⟩, h4.2.2.2.2.2.2.1⟩, h4.2.2.2.2.2.2.2.1⟩, h4.2.2.2.2.2.2.2.2.1⟩, h4.2.2.2.2.2.2.2.2.2⟩
    · intro hb
      have h4 := h3 false
      have htk := take_ok h4.2.1 h4.1 (by omega) (by omega) (by rw [hent]; simp)
      rw [show mss ((snY c u false).1, [snR c u false]).2 = _ from mss1_dec (snR c u false)] at htk
      (repeat (first | apply cn | apply cq | apply cb | apply ck | apply cl | apply cx))
      refine ca [0, 1, 2, 3, 4, 5, 6, 7, 8, 9, 10] [8, 9] ?_
      refine a_loa ?_
      refine a_ (fun _ => p_mv) ?_
      (first | refine a_ (fun _ => p_ix hix) ?_ | refine a_ (fun _ => p_ix hix2) ?_ | refine a_ (fun _ => p_ia) ?_ | refine a_ (fun _ => p_ir) ?_)
      (first | refine a_ (fun _ => p_la) ?_ | refine a_loa ?_)
      refine a_ (fun _ => p_cl (htk)) ?_
      refine a_ (fun _ => p_mv) ?_
      refine a_ (fun _ => p_ex) ?_
      refine a_ (fun _ => p_ex) ?_
      refine a_al fun b18 _ => ⟨by (repeat (first | exact trivial | (apply And.intro; focus (intro hb; first | exact trivial | exact noB hb rfl | (repeat (first | exact hZ | apply hS | apply hA)))))), ?_⟩
      refine a_st ?_
      refine a_ (fun _ => p_as) ?_
      apply an
      (repeat (first | apply cn | apply cq | apply cb | apply ck | apply cl | apply cx))
      apply cr
      refine s_ p_mv ?_
      (first | refine s_ p_ln ?_ | refine s_ p_lr ?_)
      refine s_ p_eq ?_
      refine s_ p_mv ?_
      refine gT (fun hg => p_mv) ?_
      (first | refine gT (fun hg => p_ix hix (hx := u_ hg)) ?_ | refine gT (fun hg => p_ix hix2 (hx := u_ hg)) ?_ | refine gT (fun hg => p_ia (hx := u_ hg)) ?_ | refine gT (fun hg => p_ir (hx := u_ hg)) ?_)
      (first | refine gT (fun hg => p_fa (hx := u_ hg)) ?_ | refine gT (fun hg => p_fr (hx := u_ hg)) ?_)
      (first | refine gT (fun hg => p_ld (hx := u_ hg)) ?_ | refine gT (fun hg => p_lo (hx := u_ hg)) ?_)
      refine s_ p_an ?_
      refine s_ p_mv ?_
      refine gT (fun hg => p_mv) ?_
      (first | refine gT (fun hg => p_ix hix (hx := u_ hg)) ?_ | refine gT (fun hg => p_ix hix2 (hx := u_ hg)) ?_ | refine gT (fun hg => p_ia (hx := u_ hg)) ?_ | refine gT (fun hg => p_ir (hx := u_ hg)) ?_)
      (first | refine gT (fun hg => p_fa (hx := u_ hg)) ?_ | refine gT (fun hg => p_fr (hx := u_ hg)) ?_)
      (first | refine gT (fun hg => p_ld (hx := u_ hg)) ?_ | refine gT (fun hg => p_lo (hx := u_ hg)) ?_)
      refine gT (fun hg => p_mv) ?_
      refine gT (fun hg => p_eq (hx := u_ hg) (hy := u_ hg)) ?_
      refine s_ p_an ?_
      refine s_ p_mv ?_
      refine gT (fun hg => p_fr) ?_
      refine gT (fun hg => p_lo (hx := u_ hg)) ?_
      refine gT (fun hg => p_mv) ?_
      refine gT (fun hg => p_eq (hx := u_ hg) (hy := u_ hg)) ?_
      refine s_ p_an ?_
      refine s_ p_mv ?_
      refine gT (fun hg => p_fr) ?_
      refine gT (fun hg => p_lo (hx := u_ hg)) ?_
      refine gT (fun hg => p_mv) ?_
      refine gT (fun hg => p_eq (hx := u_ hg) (hy := u_ hg)) ?_
      refine s_ p_an ?_
      refine s_ p_mv ?_
      refine gT (fun hg => p_fr) ?_
      refine gT (fun hg => p_lo (hx := u_ hg)) ?_
      refine gT (fun hg => p_eqS (hx := u_ hg)) ?_
      refine s_ p_an ?_
      refine s_ p_mv ?_
      refine gT (fun hg => p_fr) ?_
      refine gT (fun hg => p_lo (hx := u_ hg)) ?_
      refine gT (fun hg => p_eq (hx := u_ hg)) ?_
      refine s_ p_an ?_
      refine s_ p_mv ?_
      refine gT (fun hg => p_fr) ?_
      refine gT (fun hg => p_lo (hx := u_ hg)) ?_
      refine gT (fun hg => p_eq (hx := u_ hg)) ?_
      refine s_ p_an ?_
      refine s_ p_mv ?_
      refine gT (fun hg => p_fr) ?_
      refine gT (fun hg => p_lo (hx := u_ hg)) ?_
      refine gT (fun hg => p_eq (hx := u_ hg)) ?_
      refine s_ p_an ?_
      refine s_ p_as ?_
      (repeat (first | apply cn | apply cq | apply cb | apply ck | apply cl | apply cx))
      (apply sim_ret; (try simp only [blockΨ_ret, thenΨ_ret, loopL_ret, cutΨ_ret, cutE_ret]); first | refine rt ?_ | refine rn ?_)
      refine b_true ?_
      exact ⟨⟨⟨⟨⟨⟨⟨⟨rfl, h4.2.2.1⟩, h4.2.2.2.1⟩, h4.2.2.2.2.1⟩, h4.2.2.2.2.2.1⟩, h4.2.2.2.2.2.2.1⟩, h4.2.2.2.2.2.2.2.1⟩, h4.2.2.2.2.2.2.2.2.1⟩, h4.2.2.2.2.2.2.2.2.2⟩
end Go.Proofs.Ytppaabahbjgihaa
