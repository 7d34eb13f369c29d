/-
  replica: the members, by the log: a range over slices.Backward.
-/
import Derived.Test.YtbdpfclnomiicaaGreatRep
set_option maxRecDepth 4000
namespace Go.Proofs.YtbdpfclnomiicaaGreat
open Go.Cap
set_option linter.unusedSimpArgs false
set_option linter.unusedVariables false
attribute [local irreducible] POp SimFrom DrawFrom EOp Sim FnH T.gp
set_option maxHeartbeats 1000000 in
theorem back_it (l : List En) (hl : l.length ≤ 4611686018427387904) : ItC Tryz.prog 92 [.adr (eens l)] (fun p : Nat × En => [ei p.1, een p.2]) (fun xs => xs = down l l.length) (fun pre => ∃ k, k ≤ l.length ∧ pre = down l k) := by
  refine it_enter Tryz.func92 (by rfl) (by rfl) (by rfl) ?_
  intro c l' r I Ix Hx S w hlen _ _ hK h0 hY
  show Sim _ _ [(Tryz.f92.ntmps, .v undef), (0, .v (.func (.yield l') #[] #[])), (1, .adr (.sl false (l.map een)))] _ _
  (repeat (first | apply cn | apply cq | apply cb | apply ck | apply cl | apply cx))
  apply cr
  (first | refine s_ p_ld ?_ | refine s_ p_lo ?_)
  (first | refine s_ p_ln ?_ | refine s_ p_lr ?_)
  refine s_ p_su ?_
  refine s_ p_as ?_
  (repeat (first | apply cn | apply cq | apply cb | apply ck | apply cl | apply cx))
  apply sim_loopL (σ := Nat × Heap) (ok := fun s => s.1 ≤ l.length ∧ I (down l s.1) s.2) (env := fun s => [(3, .v (.int .i64 ((l.length : Int) - 1 - s.1))), (Tryz.f92.ntmps, .v undef), (0, .v (.func (.yield l') #[] #[])), (1, .adr (.sl false (l.map een)))])
    (heap := fun s => s.2) (μ := fun s => l.length - s.1) (s0 := (0, Hx))
  · exact ⟨by simp, h0⟩
  · refine ⟨?_, eL⟩
    apply le_get; ((repeat (apply gS; rfl)); exact gZ)
    exact Le.of_eq (by simp)
  · exact kR
  rintro ⟨k, H⟩ ⟨hk, hI⟩
  simp only at hk hI
  (repeat (first | apply cn | apply cq | apply cb | apply ck | apply cl | apply cx))
  apply cr
  refine s_ p_mv ?_
  refine s_ p_ge ?_
  (repeat (first | apply cn | apply cq | apply cb | apply ck | apply cl | apply cx))
  refine ci ?_ ?_
  · intro hge
    have hix : l.length - 1 - k < l.length := by omega
    have hcast : (l.length : Int) - 1 - k = ((l.length - 1 - k : Nat) : Int) := by omega
    rw [hcast]
    have hget : l.getD (l.length - 1 - k) default = l[l.length - 1 - k] := by simp [hix]
    have hyc := hY (down l k) (l.length - 1 - k, l[l.length - 1 - k]) H hI ⟨k + 1, by omega, by rw [down_succ, hget]⟩
    (repeat (first | apply cn | apply cq | apply cb | apply ck | apply cl | apply cx))
    apply cr
    refine s_ p_mv ?_
    refine s_ p_mv ?_
    (first | refine s_ p_ld ?_ | refine s_ p_lo ?_)
    refine s_ p_mv ?_
    (first | refine s_ (p_ix hix) ?_ | refine s_ (p_ix hix2) ?_ | refine s_ p_ia ?_ | refine s_ p_ir ?_)
    (first | refine s_ p_la ?_ | refine s_ p_loa ?_)
    refine e_yi (Hr := []) hyc (by simp) (hlen _) hK (fun H' hI' => ?_) (fun H' hI' => ?_)
    · simp only [if_true] at hI'
      refine s_ p_no ?_
      (repeat (first | apply cn | apply cq | apply cb | apply ck | apply cl | apply cx))
      refine ci ?_ ?_
      · intro h; exact absurd trivial h
      intro _
      (repeat (first | apply cn | apply cq | apply cb | apply ck | apply cl | apply cx))
      apply cr
      refine s_ p_mv ?_
      refine s_ p_su ?_
      refine s_ p_as ?_
      (repeat (first | apply cn | apply cq | apply cb | apply ck | apply cl | apply cx))
      refine ⟨(k + 1, H'), ⟨by simp only; omega, ?_⟩, (by simp only []; omega), ⟨?_, eL⟩, by rw [List.append_nil]; exact kR⟩
      · simp only
        rw [down_succ, hget]; exact hI'
      · apply le_get; ((repeat (apply gS; rfl)); exact gZ)
        exact Le.of_eq (by congr 2; simp only; omega)
    · simp only [Bool.false_eq_true, if_false] at hI'
      refine s_ p_no ?_
      (repeat (first | apply cn | apply cq | apply cb | apply ck | apply cl | apply cx))
      refine ci ?_ ?_
      · intro _
        (repeat (first | apply cn | apply cq | apply cb | apply ck | apply cl | apply cx))
        apply sim_ret
        simp only [blockΨ_ret, thenΨ_ret, loopL_ret]
        rw [List.append_nil]
        exact it_stop ⟨k + 1, by omega, by rw [down_succ, hget]⟩ hI'
      · intro h; exact absurd (fun h => h) h
  · intro hge
    have hk2 : k = l.length := by omega
    subst hk2
    (repeat (first | apply cn | apply cq | apply cb | apply ck | apply cl | apply cx))
    exact it_doneN rfl hI
theorem back_fn (f : Bool) (xs : List T) : FnP Tryz.prog 81 [.sl f xs] (fun r => r = .clo 92 [] [.adr (.sl f xs)]) := by
  refine fn_enter Tryz.func81 (by rfl) (by rfl) ?_
  intro S0 w0
  show Sim _ _ [(0, T.sl f xs)] _ _
  (repeat (first | apply cn | apply cq | apply cb | apply ck | apply cl | apply cx))
  apply cr
  refine e_b1 fun b1 _ => ?_
  refine s_ p_as ?_
  (repeat (first | apply cn | apply cq | apply cb | apply ck | apply cl | apply cx))
  apply cr
  refine s_ p_mf ?_
  refine s_ p_as ?_
  (repeat (first | apply cn | apply cq | apply cb | apply ck | apply cl | apply cx))
  refine sim_lend (G := [_]) (H1 := []) [(2, .clo 92 [] [.adr (.sl f xs)])] (by simp; rfl) ⟨?_, trivial⟩ ?_
  · refine (show Env.get _ _ = _ from gZ) ▸ Lends.clo LendsL.nil (LendsL.cons (Lends.ptr List.mem_cons_self (.inl rfl) ?_ (by simp [T.cells]) (by simp [T.cells])) LendsL.nil)
    exact LendsL.le (LeL.refl _)
  · (apply sim_ret; (try simp only [blockΨ_ret, thenΨ_ret, loopL_ret, cutΨ_ret, cutE_ret]); first | refine rt ?_ | refine rn ?_)
    exact Le.refl _
theorem down_mem {l : List En} {k : Nat} (hk : k ≤ l.length) {p : Nat × En} (h : p ∈ down l k) : p.1 < l.length := by
  obtain ⟨j, hj, rfl⟩ := List.mem_map.1 h
  have := List.mem_range.1 hj
  simp only; omega
theorem down_split {l : List En} {k : Nat} (hk : k ≤ l.length) {ini : List (Nat × En)} {last : Nat × En} (h : ini ++ [last] = down l k) (hz : ∀ p ∈ ini, p.2.conf = 0) (hl : last.2.conf ≠ 0) : lc l l.length = some (last.1, last.2.conf) := by
  cases k with
  | zero => simp [down] at h
  | succ k =>
    rw [down_succ] at h
    obtain ⟨h1, h2⟩ := List.append_inj' h rfl
    have h3 : last = (l.length - 1 - k, l.getD (l.length - 1 - k) default) := by simpa using h2
    rw [lc_down l (l.length - k) k (by omega) (by rw [← h1]; exact hz)]
    have e : l.length - k = (l.length - 1 - k) + 1 := by omega
    rw [e, lc]
    rw [h3] at hl
    simp only at hl
    rw [if_pos hl, h3]
set_option maxHeartbeats 4000000 in
theorem conf_fn (n : Nd) (hl : n.log.length ≤ 1000000000) (hb1 : -1000000000000 ≤ n.base) (hb2 : n.base ≤ 1000000000000) : FnP Tryz.prog 62 [.adr (nd n)] (fun r => r = .tup [ei (confF n).1, ei (confF n).2]) := by
  have cbk := back_fn false (n.log.map een)
  refine fn_enter Tryz.func62 (by rfl) (by rfl) ?_
  intro S0 w0
  show Sim _ _ [(0, T.adr (.agg (nodeC n (.sl false (n.log.map een)))))] _ _
  (repeat (first | apply cn | apply cq | apply cb | apply ck | apply cl | apply cx))
  apply cr
  refine e_b1 fun b1 _ => ?_
  refine e_al fun b2 _ => ?_
  refine e_al fun b3 _ => ?_
  (repeat (first | apply cn | apply cq | apply cb | apply ck | apply cl | apply cx))
  apply cr
  refine s_ p_lo ?_
  refine s_ p_nc ?_
  (first | refine s_ p_fa ?_ | refine s_ p_fr ?_)
  (first | refine s_ p_ld ?_ | refine s_ p_lo ?_)
  refine s_ (p_ca (cbk)) ?_
  (repeat (first | apply cn | apply cq | apply cb | apply ck | apply cl | apply cx))
  refine sim_range (back_it n.log (by omega)) (by ((repeat (apply eS; rfl)); exact eZ)) (by rfl) rfl (fun (pre : List (Nat × En)) (H : Heap) => (∀ p ∈ pre, p.2.conf = 0) ∧ H = [(b3, ⟨3, [ei 0], 1⟩), (b2, ⟨3, [ei 0], 1⟩), (b1, ⟨130, [.adr (.agg (nodeC n (.sl false (n.log.map een))))], 1⟩)])
    (fun (pre : List (Nat × En)) (H : Heap) => ∃ ini last, pre = ini ++ [last] ∧ (∀ p ∈ ini, p.2.conf = 0) ∧ last.2.conf ≠ 0 ∧ H = [(b3, ⟨3, [ei last.2.conf], 1⟩), (b2, ⟨3, [ei (n.base + last.1 + 1)], 1⟩), (b1, ⟨130, [.adr (.agg (nodeC n (.sl false (n.log.map een))))], 1⟩)])
    .ret .ret (.inl ⟨rfl, rfl⟩) (fun _ => rfl) (by rfl) ⟨by simp, rfl⟩ ?_ ?_ ?_
  · rintro pre x H1 ⟨hz, rfl⟩ ⟨k, hk, hsp⟩ l' S1 w1
    have hx1 : x.1 < n.log.length := down_mem hk (by rw [← hsp]; simp)
    simp only [putPs]
    (repeat (first | apply cn | apply cq | apply cb | apply ck | apply cl | apply cx))
    apply cr
    refine s_ p_as ?_
    (repeat (first | apply cn | apply cq | apply cb | apply ck | apply cl | apply cx))
    apply cr
    refine e_al fun b5 _ => ?_
    refine e_st ?_
    (repeat (first | apply cn | apply cq | apply cb | apply ck | apply cl | apply cx))
    refine ⟨rfl, fun S2 w2 mk => ?_⟩
    (repeat (first | apply cn | apply cq | apply cb | apply ck | apply cl | apply cx))
    apply cr
    refine s_ p_fr ?_
    refine s_ p_lo ?_
    refine s_ p_ne ?_
    (repeat (first | apply cn | apply cq | apply cb | apply ck | apply cl | apply cx))
    refine ci ?_ ?_
    · intro hne
      (repeat (first | apply cn | apply cq | apply cb | apply ck | apply cl | apply cx))
      refine ca [0, 1, 2, 3, 4, 5, 6, 7, 8, 9, 10] [9, 10] ?_
      refine a_lo ?_
      refine a_ (fun _ => p_nc) ?_
      (first | refine a_ (fun _ => p_fa) ?_ | refine a_ (fun _ => p_fr) ?_)
      (first | refine a_ (fun _ => p_ld) ?_ | refine a_lo ?_)
      refine a_ (fun _ => p_mv) ?_
      refine a_ (fun _ => p_ad) ?_
      refine a_ (fun _ => p_ad) ?_
      refine a_ (fun _ => p_fr) ?_
      refine a_lo ?_
      refine a_st ?_
      refine a_st ?_
      apply an
      (repeat (first | apply cn | apply cq | apply cb | apply ck | apply cl | apply cx))
      (repeat (first | apply cn | apply cq | apply cb | apply ck | apply cl | apply cx))
      apply sim_ret
      simp only [blockΨ_ret, thenΨ_ret]
      exact ⟨_, kS kR, .inr ⟨rfl, pre, x, rfl, hz, hne, rfl⟩⟩
    · intro he
      (repeat (first | apply cn | apply cq | apply cb | apply ck | apply cl | apply cx))
      exact ⟨_, kS kR, .inl ⟨rfl, by intro p hp; rcases List.mem_append.1 hp with h | h; exact hz p h; rw [List.mem_singleton.1 h]; simpa using he, rfl⟩⟩
  · rintro xs H' rfl ⟨hz, rfl⟩
    have hlc : lc n.log n.log.length = none := by rw [lc_down n.log 0 n.log.length (by omega) hz]; rfl
    (repeat (first | apply cn | apply cq | apply cb | apply ck | apply cl | apply cx))
    (repeat (first | apply cn | apply cq | apply cb | apply ck | apply cl | apply cx))
    refine ca [0, 1, 2, 3, 4, 5, 6, 7, 8, 9] [8, 9] ?_
    refine a_lo ?_
    refine a_ (fun _ => p_nc) ?_
    (first | refine a_ (fun _ => p_fa) ?_ | refine a_ (fun _ => p_fr) ?_)
    (first | refine a_ (fun _ => p_ld) ?_ | refine a_lo ?_)
    refine a_lo ?_
    refine a_ (fun _ => p_nc) ?_
    (first | refine a_ (fun _ => p_fa) ?_ | refine a_ (fun _ => p_fr) ?_)
    (first | refine a_ (fun _ => p_ld) ?_ | refine a_lo ?_)
    refine a_st ?_
    refine a_st ?_
    apply an
    (repeat (first | apply cn | apply cq | apply cb | apply ck | apply cl | apply cx))
    (repeat (first | apply cn | apply cq | apply cb | apply ck | apply cl | apply cx))
    (apply sim_ret; (try simp only [blockΨ_ret, thenΨ_ret, loopL_ret, cutΨ_ret, cutE_ret]); first | refine rt ?_ | refine rn ?_)
    simp only [confF, hlc]; exact Le.refl _
  · rintro pre H' ⟨k, hk, rfl⟩ ⟨ini, last, h1, hz, hne, rfl⟩
    have hlc := down_split hk h1.symm hz hne
    simp only [blockΨ_ret, thenΨ_ret]
    refine rt ?_
    simp only [confF, hlc]; exact Le.refl _
end Go.Proofs.YtbdpfclnomiicaaGreat
