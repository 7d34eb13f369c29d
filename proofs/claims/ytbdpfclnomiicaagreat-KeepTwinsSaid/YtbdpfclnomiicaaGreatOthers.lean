/-
  replica: something for each other member.
-/
import Derived.Test.YtbdpfclnomiicaaGreatWork
set_option maxRecDepth 4000
namespace Go.Proofs.YtbdpfclnomiicaaGreat
open Go.Cap
set_option linter.unusedSimpArgs false
set_option linter.unusedVariables false
attribute [local irreducible] POp SimFrom DrawFrom EOp Sim FnH T.gp
def memF (n : Nd) (to : Nat) : Bool := decide (¬ (to : Int) = n.id) && isF (confF n).2 to
def toAll (n : Nd) (F : Int → Ms) (k : Nat) : List Ms := ((List.range k).filter (memF n)).map fun (i : Nat) => F (i : Int)
theorem toAll_succ (n : Nd) (F : Int → Ms) (k : Nat) : toAll n F (k + 1) = toAll n F k ++ (if memF n k then [F k] else []) := by
  unfold toAll
  rw [List.range_succ, List.filter_append, List.map_append]
  by_cases h : memF n k <;> simp [h]
theorem toAll_len (n : Nd) (F : Int → Ms) (k : Nat) : (toAll n F k).length ≤ k := by
  unfold toAll
  rw [List.length_map]
  exact Nat.le_trans (List.length_filter_le _ _) (Nat.le_of_eq (List.length_range))
structure Bd (n : Nd) : Prop where
  id0 : 0 ≤ n.id
  id5 : n.id < 5
  log : n.log.length ≤ 100000000
  base0 : -10000000000 ≤ n.base
  base1 : n.base ≤ 10000000000
  conf0 : 0 ≤ (confF n).2
  conf1 : (confF n).2 ≤ 31
set_option maxHeartbeats 2000000 in
theorem others_fn {b : Nat} {n : Nd} {out : List Ms} {H Hc : Heap} (F : Int → Ms) (f : FuncId) (fs cs : List T) (hcall : callable Tryz.prog f = true) (hn : Bd n) (ho : out.length ≤ 900) (hw : WkH b n out H)
    (hdo : ∀ (to : Int) (out : List Ms) (H : Heap), 0 ≤ to → to < 5 → out.length ≤ 905 → WkH b n out H → FnH Tryz.prog f (fs ++ [ei to] ++ cs) (H ++ Hc) (fun _ H' => ∃ H1, H' = H1 ++ Hc ∧ WkH b n (out ++ [F to]) H1)) :
    FnH Tryz.prog 49 [pW b, .clo f fs cs] (H ++ Hc) (fun r H' => r = .tup [] ∧ ∃ H1, H' = H1 ++ Hc ∧ WkH b n (out ++ toAll n F 5) H1) := by
  have hC := Conf_fn n (by have := hn.log; omega) (by have := hn.base0; omega) (by have := hn.base1; omega)
  refine fn_enter Tryz.func49 (by rfl) (by rfl) ?_
  intro S0 w0
  show Sim _ _ [(0, pW b), (1, T.clo f fs cs)] _ _
  obtain ⟨vl, vo, Hl, Ho, h1, h2, rfl⟩ := hw
  obtain ⟨p, c, rfl⟩ := h1.len
  obtain ⟨q, d, rfl⟩ := h2.len
  (repeat (first | apply cn | apply cq | apply cb | apply ck | apply cl | apply cx))
  apply cr
  refine s_ p_mv ?_
  refine s_ p_nc ?_
  refine s_ p_fr ?_
  refine s_ p_loa ?_
  refine s_ (p_cLA hC (LendsL.cons (Lends.agg (node_lends n (h1.lend (by intro p hp; simp [hp])))) LendsL.nil)) ?_
  refine s_ p_as ?_
  (repeat (first | apply cn | apply cq | apply cb | apply ck | apply cl | apply cx))
  apply cr
  refine s_ p_mv ?_
  (repeat (first | apply cn | apply cq | apply cb | apply ck | apply cl | apply cx))
  apply sim_loopL (σ := Nat × Heap) (ok := fun s => s.1 ≤ 5 ∧ WkH b n (out ++ toAll n F s.1) s.2) (env := fun s => [(11, ei (s.1 : Nat)), (4, ei (confF n).2), (0, pW b), (1, T.clo f fs cs)])
    (heap := fun s => s.2 ++ Hc) (μ := fun s => 5 - s.1) (s0 := (0, (b, ⟨tW, wkC n (.slice p (n.log.map een).length c) (.slice q (out.map ms).length d), 23⟩) :: (Hl ++ (Ho ++ []))))
  · exact ⟨by simp, _, _, Hl, Ho, h1, by simpa [toAll] using h2, rfl⟩
  · exact eL
  · exact kR
  rintro ⟨k, H⟩ ⟨hk, hw⟩
  simp only at hk hw
  (repeat (first | apply cn | apply cq | apply cb | apply ck | apply cl | apply cx))
  apply cr
  refine s_ p_lt ?_
  (repeat (first | apply cn | apply cq | apply cb | apply ck | apply cl | apply cx))
  refine ci ?_ ?_
  · intro hlt
    simp only at hlt
    have hlen := toAll_len n F k
    have hd := hdo k _ H (by omega) (by omega) (by rw [List.length_append]; omega) hw
    have hi : FnP Tryz.prog 52 [ei (confF n).2, ei k] (fun r => r = .v (.bool (decide (isF (confF n).2 k = true)))) := by
      have := is_fn (confF n).2 k (by omega) (by omega) hn.conf0 hn.conf1
      simpa [eB] using this
    obtain ⟨vl', vo', Hl', Ho', g1, g2, rfl⟩ := hw
    obtain ⟨p', c', rfl⟩ := g1.len
    obtain ⟨q', d', rfl⟩ := g2.len
    (repeat (first | apply cn | apply cq | apply cb | apply ck | apply cl | apply cx))
    apply cr
    refine s_ p_mv ?_
    refine s_ p_as ?_
    (repeat (first | apply cn | apply cq | apply cb | apply ck | apply cl | apply cx))
    apply cr
    refine s_ p_mv ?_
    refine s_ p_mv ?_
    refine s_ p_nc ?_
    refine s_ p_fr ?_
    refine s_ p_fr ?_
    refine s_ p_lo ?_
    refine s_ p_ne ?_
    refine s_ p_mv ?_
    refine gT (fun hg => p_mv) ?_
    refine gT (fun hg => p_mv) ?_
    refine gT (fun hg => p_ca (hi) (ha' := by apply evl_cons (u_ hg); apply evl_cons (u_ hg); exact evl_nil)) ?_
    refine s_ p_an ?_
    (repeat (first | apply cn | apply cq | apply cb | apply ck | apply cl | apply cx))
    refine ci ?_ ?_
    · intro hm
      (repeat (first | apply cn | apply cq | apply cb | apply ck | apply cl | apply cx))
      apply cr
      refine s_ p_mv ?_
      refine s_ p_mv ?_
      refine e_vH hd perm0 (fun r H' hH' => ?_) (hc := hcall)
      obtain ⟨H1, rfl, hw1⟩ := hH'
      
      (repeat (first | apply cn | apply cq | apply cb | apply ck | apply cl | apply cx))
      apply cr
      refine s_ p_ad ?_
      refine s_ p_mv ?_
      (repeat (first | apply cn | apply cq | apply cb | apply ck | apply cl | apply cx))
      refine ⟨(k + 1, H1), ⟨by simp only; omega, ?_⟩, (by simp only []; omega), ⟨?_, eL⟩, by rw [List.append_nil]; exact kR⟩
      · simp only
        rw [toAll_succ, if_pos (by unfold memF; simp only [Bool.and_eq_true, decide_eq_true_eq]; exact hm), ← List.append_assoc]
        exact hw1
      · apply le_get; ((repeat (apply gS; rfl)); exact gZ)
        exact Le.of_eq (by congr 2)
    · intro hm
      (repeat (first | apply cn | apply cq | apply cb | apply ck | apply cl | apply cx))
      apply cr
      refine s_ p_ad ?_
      refine s_ p_mv ?_
      (repeat (first | apply cn | apply cq | apply cb | apply ck | apply cl | apply cx))
      refine ⟨(k + 1, _), ⟨by simp only; omega, ?_⟩, (by simp only []; omega), ⟨?_, eL⟩, kR⟩
      · simp only
        rw [toAll_succ, if_neg (by unfold memF; simp only [Bool.and_eq_true, decide_eq_true_eq]; exact hm), List.append_nil]
        exact ⟨_, _, Hl', Ho', g1, g2, rfl⟩
      · apply le_get; ((repeat (apply gS; rfl)); exact gZ)
        exact Le.of_eq (by congr 2)
  · intro hlt
    simp only at hlt
    have : k = 5 := by omega
    subst this
    (repeat (first | apply cn | apply cq | apply cb | apply ck | apply cl | apply cx))
    exact rhn kR ⟨rfl, H, rfl, hw⟩ (Le.refl _)
end Go.Proofs.YtbdpfclnomiicaaGreat
