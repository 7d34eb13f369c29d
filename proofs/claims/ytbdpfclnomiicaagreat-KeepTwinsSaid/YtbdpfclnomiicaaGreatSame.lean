/-
  replica: two nodes told from each other.
-/
import Derived.Test.YtbdpfclnomiicaaGreatTake
import Derived.Test.YtbdpfclnomiicaaGreatEqv
set_option maxRecDepth 4000
namespace Go.Proofs.YtbdpfclnomiicaaGreat
open Go.Cap
set_option linter.unusedSimpArgs false
set_option linter.unusedVariables false
attribute [local irreducible] POp SimFrom DrawFrom EOp Sim FnH T.gp
def eenV (e : En) : List Value := [.int .i64 e.term, .int .i64 e.conf, .string (bs e.cmd)]
theorem eenV_inj {a b : En} : eenV a = eenV b ↔ a = b := by
  constructor
  · intro h
    simp only [eenV, List.cons.injEq, Value.int.injEq, Value.string.injEq, true_and, and_true] at h
    cases a; cases b
    simp only at h
    rw [h.1, h.2.1, bs_inj h.2.2]
  · intro h; rw [h]
set_option maxHeartbeats 1000000 in
theorem equal_fn (f f' : Bool) (l m : List En) (hl : l.length ≤ 1000000000) (hm : m.length ≤ 1000000000) : FnP Tryz.prog 35 [.sl f (l.map een), .sl f' (m.map een)] (fun r => r = .v (.bool (decide (l = m)))) := by
  refine fn_enter Tryz.func35 (by rfl) (by rfl) ?_
  intro S0 w0
  show Sim _ _ [(0, T.sl f (l.map een)), (1, T.sl f' (m.map een))] _ _
  (repeat (first | apply cn | apply cq | apply cb | apply ck | apply cl | apply cx))
  apply cr
  refine s_ p_as ?_
  (repeat (first | apply cn | apply cq | apply cb | apply ck | apply cl | apply cx))
  apply cr
  refine s_ p_mv ?_
  (first | refine s_ p_ln ?_ | refine s_ p_lr ?_)
  refine s_ p_mv ?_
  (first | refine s_ p_ln ?_ | refine s_ p_lr ?_)
  refine s_ p_ne ?_
  (repeat (first | apply cn | apply cq | apply cb | apply ck | apply cl | apply cx))
  refine ci ?_ ?_
  · intro hne
    (repeat (first | apply cn | apply cq | apply cb | apply ck | apply cl | apply cx))
    apply cr
    refine s_ p_as ?_
    (repeat (first | apply cn | apply cq | apply cb | apply ck | apply cl | apply cx))
    (apply sim_ret; (try simp only [blockΨ_ret, thenΨ_ret, loopL_ret, cutΨ_ret, cutE_ret]); first | refine rt ?_ | refine rn ?_)
    refine Le.of_eq ?_
    rw [show decide (l = m) = false from decide_eq_false (fun h => hne (by rw [h]))]
    rfl
  intro hne
  have hlen : l.length = m.length := by simp only [List.length_map] at hne; omega
  (repeat (first | apply cn | apply cq | apply cb | apply ck | apply cl | apply cx))
  apply cr
  refine s_ p_mv ?_
  (first | refine s_ p_ln ?_ | refine s_ p_lr ?_)
  refine s_ p_mv ?_
  (repeat (first | apply cn | apply cq | apply cb | apply ck | apply cl | apply cx))
  apply sim_loopL (σ := Nat) (ok := fun k => k ≤ l.length ∧ l.take k = m.take k) (env := fun k => [(13, ei (k : Nat)), (12, ei ((l.map een).length : Nat)), (0, T.sl f (l.map een)), (1, T.sl f' (m.map een))]) (heap := fun _ => []) (μ := fun k => l.length - k) (s0 := 0)
  · exact ⟨Nat.zero_le _, by simp⟩
  · exact eL
  · exact kR
  rintro k ⟨hk, htk⟩
  (repeat (first | apply cn | apply cq | apply cb | apply ck | apply cl | apply cx))
  apply cr
  refine s_ p_lt ?_
  (repeat (first | apply cn | apply cq | apply cb | apply ck | apply cl | apply cx))
  refine ci ?_ ?_
  · intro hlt
    simp only [List.length_map] at hlt
    have hkl : k < l.length := by omega
    have hkm : k < m.length := by omega
    have hix := hkl
    have hix2 := hkm
    (repeat (first | apply cn | apply cq | apply cb | apply ck | apply cl | apply cx))
    apply cr
    refine s_ p_mv ?_
    refine s_ p_as ?_
    (repeat (first | apply cn | apply cq | apply cb | apply ck | apply cl | apply cx))
    refine ca [0, 1, 2, 3, 4, 5, 6, 7, 8] [] ?_
    refine a_ (fun _ => p_mv) ?_
    refine a_ (fun _ => p_mv) ?_
    (first | refine a_ (fun _ => p_ix hix) ?_ | refine a_ (fun _ => p_ix hix2) ?_ | refine a_ (fun _ => p_ia) ?_ | refine a_ (fun _ => p_ir) ?_)
    (first | refine a_ (fun _ => p_la) ?_ | refine a_loa ?_)
    refine a_ (fun _ => p_mv) ?_
    refine a_ (fun _ => p_mv) ?_
    (first | refine a_ (fun _ => p_ix hix) ?_ | refine a_ (fun _ => p_ix hix2) ?_ | refine a_ (fun _ => p_ia) ?_ | refine a_ (fun _ => p_ir) ?_)
    (first | refine a_ (fun _ => p_la) ?_ | refine a_loa ?_)
    refine a_ (fun _ => p_neD 2 [.int .i64, .int .i64, .str] Tryz.eqGuardType62) ?_
    apply an
    (repeat (first | apply cn | apply cq | apply cb | apply ck | apply cl | apply cx))
    refine ci ?_ ?_
    · intro hd
      (repeat (first | apply cn | apply cq | apply cb | apply ck | apply cl | apply cx))
      apply cr
      refine s_ p_as ?_
      (repeat (first | apply cn | apply cq | apply cb | apply ck | apply cl | apply cx))
      (apply sim_ret; (try simp only [blockΨ_ret, thenΨ_ret, loopL_ret, cutΨ_ret, cutE_ret]); first | refine rt ?_ | refine rn ?_)
      refine Le.of_eq ?_
      rw [show decide (l = m) = false from decide_eq_false (fun h => hd (by subst h; rfl))]
      rfl
    · intro hd
      have he : l[k] = m[k] := eenV_inj.1 (Classical.not_not.1 hd)
      (repeat (first | apply cn | apply cq | apply cb | apply ck | apply cl | apply cx))
      apply cr
      refine s_ p_ad ?_
      refine s_ p_mv ?_
      (repeat (first | apply cn | apply cq | apply cb | apply ck | apply cl | apply cx))
      refine ⟨k + 1, ⟨by omega, ?_⟩, by show l.length - (k + 1) < l.length - k; omega, ⟨le_get (by rfl) (Le.refl _), eL⟩, kR⟩
      rw [List.take_succ_eq_append_getElem hkl, List.take_succ_eq_append_getElem hkm, htk, he]
  · intro hlt
    simp only [List.length_map] at hlt
    have hkl : k = l.length := by omega
    have he : l = m := by
      have := htk
      rwa [hkl, List.take_length, hlen, List.take_length] at this
    (repeat (first | apply cn | apply cq | apply cb | apply ck | apply cl | apply cx))
    apply cr
    refine s_ p_as ?_
    (repeat (first | apply cn | apply cq | apply cb | apply ck | apply cl | apply cx))
    (apply sim_ret; (try simp only [blockΨ_ret, thenΨ_ret, loopL_ret, cutΨ_ret, cutE_ret]); first | refine rt ?_ | refine rn ?_)
    refine Le.of_eq ?_
    rw [show decide (l = m) = true from decide_eq_true he]
    rfl
def numC (n : Nd) : List T := [ei n.id, ei n.term, ei n.vote, ei n.base, ei n.baseTerm, ei n.baseConf, ei n.commit, ei n.role, ei n.wait, ei n.votes] ++ (f5C n.next ++ f5C n.mtch)
set_option maxHeartbeats 4000000 in
theorem of_fn (n : Nd) : FnP Tryz.prog 34 [nd n] (fun r => r = .agg (numC n)) := by
  refine fn_enter Tryz.func34 (by rfl) (by rfl) ?_
  intro S0 w0
  show Sim _ _ [(0, T.agg (nodeC n (.sl false (n.log.map een))))] _ _
  (repeat (first | apply cn | apply cq | apply cb | apply ck | apply cl | apply cx))
  apply cr
  refine e_bx fun b1 _ => ?_
  refine e_al fun b2 _ => ?_
  (repeat (first | apply cn | apply cq | apply cb | apply ck | apply cl | apply cx))
  refine sim_perm (List.Perm.swap _ _ _) ?_
  refine lend1 1 (by simp [nodeC]) ?_
  (repeat (first | apply cn | apply cq | apply cb | apply ck | apply cl | apply cx))
  apply cr
  refine s_ p_fa ?_
  refine s_ p_ld ?_
  refine s_ p_fa ?_
  refine s_ p_ld ?_
  refine s_ p_fa ?_
  refine s_ p_ld ?_
  refine s_ p_fa ?_
  refine s_ p_ld ?_
  refine s_ p_fa ?_
  refine s_ p_ld ?_
  refine s_ p_fa ?_
  refine s_ p_ld ?_
  refine s_ p_fa ?_
  refine s_ p_ld ?_
  refine s_ p_fa ?_
  refine s_ p_ld ?_
  refine s_ p_fa ?_
  refine s_ p_ld ?_
  refine s_ p_fa ?_
  refine s_ p_ld ?_
  refine s_ p_faA ?_
  refine s_ p_la ?_
  refine s_ p_faA ?_
  refine s_ p_la ?_
  refine s_ (p_bR 20) ?_
  refine e_st ?_
  (repeat (first | apply cn | apply cq | apply cb | apply ck | apply cl | apply cx))
  (apply sim_ret; (try simp only [blockΨ_ret, thenΨ_ret, loopL_ret, cutΨ_ret, cutE_ret]); first | refine rt ?_ | refine rn ?_)
  exact Le.refl _
theorem same_iff (a b : Nd) : ((numC a).map (fun x => match x with | .v y => y | _ => undef) = (numC b).map (fun x => match x with | .v y => y | _ => undef) ∧ a.snap = b.snap) ∧ a.log = b.log ↔ a = b := by
  constructor
  · rintro ⟨⟨h, h1⟩, h2⟩
    obtain ⟨_, _, _, _, _, _, _, _, _, _, _, _, ⟨_, _, _, _, _⟩, ⟨_, _, _, _, _⟩⟩ := a
    obtain ⟨_, _, _, _, _, _, _, _, _, _, _, _, ⟨_, _, _, _, _⟩, ⟨_, _, _, _, _⟩⟩ := b
    simp only [numC, f5C, ei, List.map_cons, List.map_nil, List.cons_append, List.nil_append, List.cons.injEq, Value.int.injEq, true_and, and_true] at h
    simp only at h1 h2
    simp only [Nd.mk.injEq, F5.mk.injEq]
    simp_all
  · rintro rfl; simp
set_option maxHeartbeats 1000000 in
theorem same_fn (a b : Nd) (ha : a.log.length ≤ 1000000000) (hb : b.log.length ≤ 1000000000) : FnP Tryz.prog 15 [nd a, nd b] (fun r => r = .v (.bool (decide (a = b)))) := by
  have h1 := of_fn a
  have h2 := of_fn b
  have he := equal_fn false false a.log b.log ha hb
  refine fn_enter Tryz.func15 (by rfl) (by rfl) ?_
  intro S0 w0
  show Sim _ _ [(0, T.agg (nodeC a (.sl false (a.log.map een)))), (1, T.agg (nodeC b (.sl false (b.log.map een))))] _ _
  (repeat (first | apply cn | apply cq | apply cb | apply ck | apply cl | apply cx))
  apply cr
  refine e_bx fun b2 _ => ?_
  refine e_bx fun b3 _ => ?_
  refine s_ p_as ?_
  (repeat (first | apply cn | apply cq | apply cb | apply ck | apply cl | apply cx))
  refine lend1 3 (by simp [nodeC]) ?_
  refine lend1 2 (by simp [nodeC]) ?_
  (repeat (first | apply cn | apply cq | apply cb | apply ck | apply cl | apply cx))
  refine ca [0, 1, 2, 3, 4, 5, 6, 7, 8, 9, 10, 11, 12, 13, 14, 15, 16, 17, 18, 19] [] ?_
  refine a_ (fun _ => p_la) ?_
  refine a_ (fun _ => p_ca (h1)) ?_
  refine a_ (fun _ => p_la) ?_
  refine a_ (fun _ => p_ca (h2)) ?_
  refine a_ (fun _ => p_eqD 3 [.int .i64, .int .i64, .int .i64, .int .i64, .int .i64, .int .i64, .int .i64, .int .i64, .int .i64, .int .i64, .int .i64, .int .i64, .int .i64, .int .i64, .int .i64, .int .i64, .int .i64, .int .i64, .int .i64, .int .i64] Tryz.eqGuardType88) ?_
  refine a_ (fun _ => p_mv) ?_
  refine ag_T (fun _ hg => p_fa) ?_
  refine ag_T (fun _ hg => p_ld (hx := u_ hg)) ?_
  refine ag_T (fun _ hg => p_fa) ?_
  refine ag_T (fun _ hg => p_ld (hx := u_ hg)) ?_
  refine ag_T (fun _ hg => p_eqS (hx := u_ hg) (hy := u_ hg)) ?_
  refine a_ (fun _ => p_an) ?_
  refine a_ (fun _ => p_mv) ?_
  refine ag_T (fun _ hg => p_fa) ?_
  refine ag_T (fun _ hg => p_ld (hx := u_ hg)) ?_
  refine ag_T (fun _ hg => p_fa) ?_
  refine ag_T (fun _ hg => p_ld (hx := u_ hg)) ?_
  refine ag_T (fun _ hg => p_ca (he) (ha' := by apply evl_cons (u_ hg); apply evl_cons (u_ hg); exact evl_nil)) ?_
  refine a_ (fun _ => p_an) ?_
  refine a_ (fun _ => p_as) ?_
  apply an
  (repeat (first | apply cn | apply cq | apply cb | apply ck | apply cl | apply cx))
  (apply sim_ret; (try simp only [blockΨ_ret, thenΨ_ret, loopL_ret, cutΨ_ret, cutE_ret]); first | refine rt ?_ | refine rn ?_)
  refine Le.of_eq (congrArg (fun z => T.v (.bool z)) ?_)
  rw [decide_eq_decide]
  exact same_iff a b
end Go.Proofs.YtbdpfclnomiicaaGreat
