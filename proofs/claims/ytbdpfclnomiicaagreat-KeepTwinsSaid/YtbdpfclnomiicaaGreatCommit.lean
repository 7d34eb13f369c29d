/-
  replica: what most members hold is committed.
-/
import Derived.Test.YtbdpfclnomiicaaGreatLead
import Derived.Test.YtbdpfclnomiicaaGreatUp
set_option maxRecDepth 4000
namespace Go.Proofs.YtbdpfclnomiicaaGreat
open Go.Cap
set_option linter.unusedSimpArgs false
set_option linter.unusedVariables false
attribute [local irreducible] POp SimFrom DrawFrom EOp Sim FnH T.gp
def someF (f : F5) (idx : Int) : Nat → Int
  | 0 => 0
  | k + 1 => someF f idx k + (if idx ≤ f.get k then 2 ^ k else 0)
theorem some_bd (f : F5) (idx : Int) : ∀ k, 0 ≤ someF f idx k ∧ someF f idx k < 2 ^ k
  | 0 => by simp [someF]
  | k + 1 => by
    have := some_bd f idx k
    rw [someF, Int.pow_succ]
    split <;> omega
theorem some_or {x : Int} : ∀ {k : Nat}, k < 5 → 0 ≤ x → x < 2 ^ k → bOr .i64 x (bShl .i64 1 (IntKind.u64.wrap k)) = x + 2 ^ k := by
  have key : ∀ k : Fin 5, ∀ i : Fin 32, (i.val : Int) < 2 ^ k.val → bOr .i64 i.val (bShl .i64 1 (IntKind.u64.wrap (k.val : Nat))) = i.val + 2 ^ k.val := by decide
  intro k hk h0 h1
  have h2 : (2 : Int) ^ k ≤ 16 := by
    rcases (by omega : k = 0 ∨ k = 1 ∨ k = 2 ∨ k = 3 ∨ k = 4) with rfl | rfl | rfl | rfl | rfl <;> decide
  obtain ⟨i, rfl⟩ := fin32 h0 (by omega)
  exact key ⟨k, hk⟩ i h1
def f5C (f : F5) : List T := [ei f.a, ei f.b, ei f.c, ei f.d, ei f.e]
theorem f5_at (f : F5) {k : Nat} (hk : k < 5) : (f5C f)[(k : Int).toNat]? = some (ei (f.get k)) := by
  rcases (by omega : k = 0 ∨ k = 1 ∨ k = 2 ∨ k = 3 ∨ k = 4) with rfl | rfl | rfl | rfl | rfl <;> rfl
def cmtF (n : Nd) (conf : Int) : Nat → Int
  | 0 => n.commit
  | k + 1 => if (n.log.getD k default).term = n.term ∧ mostF conf (someF n.mtch (n.base + k + 1) 5) then max (cmtF n conf k) (n.base + k + 1) else cmtF n conf k
def commitF (n : Nd) : Nd :=
  if ¬ isF (confF n).2 n.id ∧ (confF n).1 ≤ cmtF n (confF n).2 n.log.length then { n with commit := cmtF n (confF n).2 n.log.length, role := 0, wait := 0 } else { n with commit := cmtF n (confF n).2 n.log.length }
theorem een_get (l : List En) {k : Nat} (h : k < l.length) : (l.map een)[k]? = some (een (l.getD k default)) := by simp [h]
theorem is_fn' (conf id : Int) (h0 : 0 ≤ id) (h1 : id < 5) (h2 : 0 ≤ conf) (h3 : conf ≤ 31) : FnP Tryz.prog 52 [ei conf, ei id] (fun r => r = .v (.bool (decide (isF conf id = true)))) := by
  have := is_fn conf id h0 h1 h2 h3
  simpa [eB] using this
set_option maxHeartbeats 2000000 in
theorem commit_fn {b : Nat} {n : Nd} {out : List Ms} {H : Heap} (hn : Bd n) (hw : WkH b n out H) :
    FnH Tryz.prog 80 [pW b] H (fun r H' => r = .tup [] ∧ WkH b (commitF n) out H') := by
  have hC := conf_fn n (by have := hn.log; omega) (by have := hn.base0; omega) (by have := hn.base1; omega)
  have hlog := hn.log
  have hb0 := hn.base0
  have hb1 := hn.base1
  refine fn_enter Tryz.func80 (by rfl) (by rfl) ?_
  intro S0 w0
  show Sim _ _ [(0, pW b)] _ _
  obtain ⟨vl, vo, Hl, Ho, h1, h2, rfl⟩ := hw
  obtain ⟨p, c, rfl⟩ := h1.len
  obtain ⟨q, d, rfl⟩ := h2.len
  (repeat (first | apply cn | apply cq | apply cb | apply ck | apply cl | apply cx))
  apply cr
  refine s_ p_mv ?_
  refine s_ p_nc ?_
  refine s_ p_fr ?_
  refine s_ (p_cLA hC (LendsL.cons (nd_ptr h1 (by intro p hp; simp [hp]) List.mem_cons_self) LendsL.nil)) ?_
  refine s_ p_mv ?_
  refine s_ p_ex ?_
  refine s_ p_ex ?_
  refine s_ p_as ?_
  refine s_ p_as ?_
  (repeat (first | apply cn | apply cq | apply cb | apply ck | apply cl | apply cx))
  apply cr
  refine s_ p_mv ?_
  refine s_ p_nc ?_
  refine s_ p_fr ?_
  refine s_ p_fr ?_
  refine s_ p_lo ?_
  (first | refine s_ p_ln ?_ | refine s_ p_lr ?_)
  refine s_ p_mv ?_
  (repeat (first | apply cn | apply cq | apply cb | apply ck | apply cl | apply cx))
  have hc0 := hn.conf0
  have hc1 := hn.conf1
  generalize hcf : (confF n).2 = conf at hc0 hc1 ⊢
  generalize hat : (confF n).1 = at_
  apply sim_loopL (σ := Nat) (ok := fun k => k ≤ n.log.length) (env := fun k => [(23, ei (k : Nat)), (22, ei ((n.log.map een).length : Nat)), (21, .v (.slice p (n.log.map een).length c)), (2, ei at_), (3, ei conf), (0, pW b)])
    (heap := fun k => (b, ⟨tW, wkC { n with commit := cmtF n conf k } (.slice p (n.log.map een).length c) (.slice q (out.map ms).length d), 23⟩) :: (Hl ++ (Ho ++ []))) (μ := fun k => n.log.length - k) (s0 := 0)
  · exact Nat.zero_le _
  · exact eL
  · exact kR
  intro k hk
  (repeat (first | apply cn | apply cq | apply cb | apply ck | apply cl | apply cx))
  apply cr
  refine s_ p_lt ?_
  (repeat (first | apply cn | apply cq | apply cb | apply ck | apply cl | apply cx))
  refine ci ?_ ?_
  · intro hlt
    simp only [List.length_map] at hlt
    have hkl : k < n.log.length := by omega
    have hrow : ∃ bl, p = some ⟨bl, 0, none⟩ ∧ Hl = [(bl, (⟨tE, (n.log.map een).flatMap T.cells, c * 3⟩ : Blk))] := by
      rcases h1 with ⟨h, _⟩ | ⟨bl, c', e, _, rfl⟩
      · have : n.log = [] := by simpa using h
        rw [this] at hkl; simp at hkl
      · cases e; exact ⟨bl, rfl, rfl⟩
    obtain ⟨bl, rfl, rfl⟩ := hrow
    (repeat (first | apply cn | apply cq | apply cb | apply ck | apply cl | apply cx))
    apply cr
    refine s_ p_mv ?_
    (first | refine s_ (p_ix hix) ?_ | refine s_ (p_ix hix2) ?_ | refine s_ p_ia ?_ | refine s_ p_ir ?_)
    refine s_ (p_loa (hc := TakeR.flat (een3 n.log) (een_get n.log hkl))) ?_
    refine e_al fun b5 _ => ?_
    refine s_ p_as ?_
    refine e_st ?_
    (repeat (first | apply cn | apply cq | apply cb | apply ck | apply cl | apply cx))
    apply cr
    refine s_ p_mv ?_
    refine s_ p_nc ?_
    refine s_ p_fr ?_
    refine s_ p_fr ?_
    refine s_ p_lo ?_
    refine s_ p_mv ?_
    refine s_ p_ad ?_
    refine s_ p_ad ?_
    refine s_ p_as ?_
    refine s_ p_as ?_
    (repeat (first | apply cn | apply cq | apply cb | apply ck | apply cl | apply cx))
    apply cr
    refine s_ p_mv ?_
    refine s_ p_nc ?_
    refine s_ p_fr ?_
    refine s_ p_fr ?_
    refine s_ p_loa ?_
    refine s_ p_mv ?_
    (repeat (first | apply cn | apply cq | apply cb | apply ck | apply cl | apply cx))
    apply sim_loopL (σ := Nat) (ok := fun j => j ≤ 5) (env := fun j => [(41, ei (j : Nat)), (40, .agg (f5C n.mtch)), (7, ei (someF n.mtch (n.base + k + 1) j)), (6, ei (n.base + k + 1)), (5, .v (.pointer (some ⟨b5, 0, none⟩))), (23, ei (k : Nat)), (22, ei ((n.log.map een).length : Nat)), (21, .v (.slice (some ⟨bl, 0, none⟩) (n.log.map een).length c)), (2, ei at_), (3, ei conf), (0, pW b)])
      (heap := fun _ => (b5, ⟨tE, (een (n.log.getD k default)).cells, 3⟩) :: (b, ⟨tW, wkC { n with commit := cmtF n conf k } (.slice (some ⟨bl, 0, none⟩) (n.log.map een).length c) (.slice q (out.map ms).length d), 23⟩) :: ([(bl, (⟨tE, (n.log.map een).flatMap T.cells, c * 3⟩ : Blk))] ++ (Ho ++ []))) (μ := fun j => 5 - j) (s0 := 0)
    · exact Nat.zero_le _
    · exact eL
    · exact kR
    · intro j hj
      (repeat (first | apply cn | apply cq | apply cb | apply ck | apply cl | apply cx))
      apply cr
      refine s_ p_lt ?_
      (repeat (first | apply cn | apply cq | apply cb | apply ck | apply cl | apply cx))
      refine ci ?_ ?_
      · intro hj5
        have hj5' : j < 5 := by omega
        have ix_a := f5_at n.mtch hj5'
        have hbd := some_bd n.mtch (n.base + k + 1) j
        have hwj := wrap32 (x := (j : Nat)) (by omega) (by omega)
        have hor := some_or hj5' hbd.1 hbd.2
        (repeat (first | apply cn | apply cq | apply cb | apply ck | apply cl | apply cx))
        apply cr
        refine s_ p_mv ?_
        refine s_ (p_iv (by first | exact ix_a | rfl)) ?_
        refine s_ p_as ?_
        refine s_ p_as ?_
        (repeat (first | apply cn | apply cq | apply cb | apply ck | apply cl | apply cx))
        apply cr
        refine s_ p_mv ?_
        refine s_ p_mv ?_
        refine s_ p_ge ?_
        (repeat (first | apply cn | apply cq | apply cb | apply ck | apply cl | apply cx))
        refine ci ?_ ?_
        · intro hge
          have hs : someF n.mtch (n.base + k + 1) (j + 1) = bOr .i64 (someF n.mtch (n.base + k + 1) j) (bShl .i64 1 (IntKind.u64.wrap j)) := by rw [hor, someF, if_pos hge]
          (repeat (first | apply cn | apply cq | apply cb | apply ck | apply cl | apply cx))
          apply cr
          refine s_ p_mv ?_
          refine s_ p_mv ?_
          refine s_ p_cv ?_
          refine s_ p_shl ?_
          refine s_ p_oor ?_
          refine s_ p_as ?_
          (repeat (first | apply cn | apply cq | apply cb | apply ck | apply cl | apply cx))
          apply cr
          refine s_ p_ad ?_
          refine s_ p_mv ?_
          (repeat (first | apply cn | apply cq | apply cb | apply ck | apply cl | apply cx))
          exact ⟨j + 1, by omega, by show 5 - (j + 1) < 5 - j; omega, ⟨le_get (by rfl) (Le.refl _), le_get (by ((repeat (apply gS; rfl)); exact gZ)) (Le.refl _), le_get (by ((repeat (apply gS; rfl)); exact gZ)) (Le.of_eq (by rw [hs]; rfl)), eL⟩, kR⟩
        · intro hge
          have hs : someF n.mtch (n.base + k + 1) (j + 1) = someF n.mtch (n.base + k + 1) j := by rw [someF, if_neg hge]; omega
          (repeat (first | apply cn | apply cq | apply cb | apply ck | apply cl | apply cx))
          apply cr
          refine s_ p_ad ?_
          refine s_ p_mv ?_
          (repeat (first | apply cn | apply cq | apply cb | apply ck | apply cl | apply cx))
          exact ⟨j + 1, by omega, by show 5 - (j + 1) < 5 - j; omega, ⟨le_get (by rfl) (Le.refl _), le_get (by ((repeat (apply gS; rfl)); exact gZ)) (Le.refl _), le_get (by ((repeat (apply gS; rfl)); exact gZ)) (Le.of_eq (by rw [hs])), eL⟩, kR⟩
      · intro hj5
        have : j = 5 := by omega
        subst this
        have hm5 := some_bd n.mtch (n.base + k + 1) 5
        have hmost := most_fn conf (someF n.mtch (n.base + k + 1) 5) hm5.1 (by omega) hc0 hc1
        (repeat (first | apply cn | apply cq | apply cb | apply ck | apply cl | apply cx))
        refine ca [0, 1, 2, 3, 4, 5, 6, 7, 8, 9, 10, 11, 12] [] ?_
        refine a_ (fun _ => p_fr) ?_
        refine a_lo ?_
        refine a_ (fun _ => p_mv) ?_
        refine a_ (fun _ => p_nc) ?_
        refine a_ (fun _ => p_fr) ?_
        refine a_ (fun _ => p_fr) ?_
        refine a_lo ?_
        refine a_ (fun _ => p_eq) ?_
        refine a_ (fun _ => p_mv) ?_
        refine ag_T (fun _ hg => p_mv) ?_
        refine ag_T (fun _ hg => p_mv) ?_
        refine ag_T (fun _ hg => p_ca (hmost) (ha' := by apply evl_cons (u_ hg); apply evl_cons (u_ hg); exact evl_nil)) ?_
        refine a_ (fun _ => p_an) ?_
        apply an
        (repeat (first | apply cn | apply cq | apply cb | apply ck | apply cl | apply cx))
        refine ci ?_ ?_
        · intro hc
          (repeat (first | apply cn | apply cq | apply cb | apply ck | apply cl | apply cx))
          apply cr
          refine s_ p_mv ?_
          refine s_ p_mv ?_
          refine s_ p_nc ?_
          refine s_ p_fr ?_
          refine s_ p_fr ?_
          refine s_ p_lo ?_
          refine s_ p_mv ?_
          refine s_ p_ma ?_
          refine s_ p_nc ?_
          refine s_ p_fr ?_
          refine s_ p_fr ?_
          refine e_st ?_
          (repeat (first | apply cn | apply cq | apply cb | apply ck | apply cl | apply cx))
          apply cr
          refine s_ p_ad ?_
          refine s_ p_mv ?_
          (repeat (first | apply cn | apply cq | apply cb | apply ck | apply cl | apply cx))
          refine ⟨k + 1, by omega, by show n.log.length - (k + 1) < n.log.length - k; omega, ⟨le_get (by rfl) (Le.refl _), eL⟩, ?_⟩
          have hs : cmtF n conf (k + 1) = max (cmtF n conf k) (n.base + k + 1) := by rw [cmtF, if_pos ⟨hc.1, decide_eq_true hc.2⟩]
          dsimp only
          rw [hs]
          exact kS kR
        · intro hc
          (repeat (first | apply cn | apply cq | apply cb | apply ck | apply cl | apply cx))
          apply cr
          refine s_ p_ad ?_
          refine s_ p_mv ?_
          (repeat (first | apply cn | apply cq | apply cb | apply ck | apply cl | apply cx))
          refine ⟨k + 1, by omega, by show n.log.length - (k + 1) < n.log.length - k; omega, ⟨le_get (by rfl) (Le.refl _), eL⟩, ?_⟩
          have hs : cmtF n conf (k + 1) = cmtF n conf k := by rw [cmtF, if_neg fun h => hc ⟨h.1, of_decide_eq_true h.2⟩]
          dsimp only
          rw [hs]
          exact kS kR
  · intro hlt
    simp only [List.length_map] at hlt
    have : k = n.log.length := by omega
    subst this
    have hi := is_fn' conf n.id hn.id0 hn.id5 hc0 hc1
    (repeat (first | apply cn | apply cq | apply cb | apply ck | apply cl | apply cx))
    apply cr
    refine s_ p_mv ?_
    refine s_ p_mv ?_
    refine s_ p_nc ?_
    refine s_ p_fr ?_
    refine s_ p_fr ?_
    refine s_ p_lo ?_
    refine s_ (p_ca (hi)) ?_
    refine s_ p_no ?_
    refine s_ p_mv ?_
    refine gT (fun hg => p_mv) ?_
    refine gT (fun hg => p_mv) ?_
    refine gT (fun hg => p_nc (hx := u_ hg)) ?_
    refine gT (fun hg => p_fr (hx := u_ hg)) ?_
    refine gT (fun hg => p_fr (hx := u_ hg)) ?_
    refine gT (fun hg => p_lo (hx := u_ hg)) ?_
    refine gT (fun hg => p_le (hx := u_ hg) (hy := u_ hg)) ?_
    refine s_ p_an ?_
    (repeat (first | apply cn | apply cq | apply cb | apply ck | apply cl | apply cx))
    refine ci ?_ ?_
    · intro hc
      (repeat (first | apply cn | apply cq | apply cb | apply ck | apply cl | apply cx))
      apply cr
      refine s_ p_mv ?_
      refine s_ p_mv ?_
      refine s_ p_nc ?_
      refine s_ p_fr ?_
      refine s_ p_fr ?_
      refine e_st ?_
      refine s_ p_nc ?_
      refine s_ p_fr ?_
      refine s_ p_fr ?_
      refine e_st ?_
      (repeat (first | apply cn | apply cq | apply cb | apply ck | apply cl | apply cx))
      refine rhn kR ⟨rfl, ?_⟩ (Le.refl _)
      have e : commitF n = { n with commit := cmtF n conf n.log.length, role := 0, wait := 0 } := by rw [commitF, hcf, hat, if_pos hc]
      rw [e]
      exact ⟨_, _, Hl, Ho, h1, h2, rfl⟩
    · intro hc
      (repeat (first | apply cn | apply cq | apply cb | apply ck | apply cl | apply cx))
      refine rhn kR ⟨rfl, ?_⟩ (Le.refl _)
      have e : commitF n = { n with commit := cmtF n conf n.log.length } := by rw [commitF, hcf, hat, if_neg hc]
      rw [e]
      exact ⟨_, _, Hl, Ho, h1, h2, rfl⟩
end Go.Proofs.YtbdpfclnomiicaaGreat
