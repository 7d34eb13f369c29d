/-
  The document's chapter 14: rows told from rows, chains from chains.
-/
import Derived.Test.YthndbbjkkehjeaaLowA
set_option maxRecDepth 4000
namespace Go.Proofs.Ythndbbjkkehjeaa
open Go.Cap
set_option linter.unusedSimpArgs false
set_option linter.unusedVariables false
attribute [local irreducible] POp SimFrom DrawFrom EOp Sim FnH T.gp
theorem Po.ext' {p q : Po} (h1 : p.at_ = q.at_) (h2 : p.bytes = q.bytes) : p = q := by cases p; cases q; simp_all
theorem Lo.ext' {p q : Lo} (h1 : p.height = q.height) (h2 : p.posts = q.posts) (h3 : p.forced = q.forced) : p = q := by cases p; cases q; simp_all
instance : DecidableEq Po := fun p q => decidable_of_iff (p.at_ = q.at_ ∧ p.bytes = q.bytes) ⟨fun h => Po.ext' h.1 h.2, fun h => by subst h; exact ⟨rfl, rfl⟩⟩
theorem take_snoc_eq {l m : List Po} {i : Nat} (h : l.take i = m.take i) (h1 : i < l.length) (h2 : i < m.length) (he : l[i] = m[i]) : l.take (i + 1) = m.take (i + 1) := by
  rw [List.take_succ_eq_append_getElem h1, List.take_succ_eq_append_getElem h2, h, he]
set_option maxHeartbeats 400000 in
theorem rows_fn (l m : List Po) (h1 : Fit l) (h2 : Fit m) : FnP Try.prog 21 [eps l, eps m] (fun r => r = .v (.bool (decide (l = m)))) := by
  have hl := h1.len
  have hm := h2.len
  refine fn_enter Try.func21 (by rfl) (by rfl) ?_
  intro S0 w0
  show Sim _ _ [(0, T.sl false (l.map ep)), (1, T.sl false (m.map ep))] _ _
  (repeat (first | apply from_nil | apply sim_seq | apply sim_skip | apply sim_block | apply sim_label | apply sim_exit))
  apply sim_region
  apply from_s; apply pop_assign; exact ev_bool; rfl
  (repeat (first | apply from_nil | apply sim_seq | apply sim_skip | apply sim_block | apply sim_label | apply sim_exit))
  (repeat (first | apply from_nil | apply sim_seq | apply sim_skip | apply sim_block | apply sim_label | apply sim_exit))
  apply sim_region
  apply from_s; apply pop_move; ((repeat (apply eS; rfl)); exact eZ); rfl
  apply from_s; (first | (apply pop_len; ((repeat (apply eS; rfl)); exact eZ); rfl) | (apply pop_len_raw; ((repeat (apply eS; rfl)); exact eZ); rfl)); rfl
  apply from_s; apply pop_move; ((repeat (apply eS; rfl)); exact eZ); rfl
  apply from_s; (first | (apply pop_len; ((repeat (apply eS; rfl)); exact eZ); rfl) | (apply pop_len_raw; ((repeat (apply eS; rfl)); exact eZ); rfl)); rfl
  apply from_s; apply pop_neq; ((repeat (apply eS; rfl)); exact eZ); ((repeat (apply eS; rfl)); exact eZ); rfl
  (repeat (first | apply from_nil | apply sim_seq | apply sim_skip | apply sim_block | apply sim_label | apply sim_exit))
  apply sim_cond; ((repeat (apply eS; rfl)); exact eZ)
  · intro h
    simp only [List.length_map] at h
    (repeat (first | apply from_nil | apply sim_seq | apply sim_skip | apply sim_block | apply sim_label | apply sim_exit))
    apply sim_region
    apply from_s; apply pop_assign; exact ev_bool; rfl
    (repeat (first | apply from_nil | apply sim_seq | apply sim_skip | apply sim_block | apply sim_label | apply sim_exit))
    (apply sim_ret; (try simp only [blockΨ_ret, thenΨ_ret, loopL_ret, cutΨ_ret]); ((first | apply fin_ret | apply fin_normal); rfl; (repeat (first | exact resl_nil | (apply resl_tmp; ((repeat (apply gS; rfl)); exact gZ)) | (apply resl_cellO; ((repeat (apply gS; rfl)); exact gZ); (repeat (first | exact hZ | apply hS)); ((repeat (apply TakeR.skip)); (repeat (apply TakeR.cons)); exact TakeR.nil _)) | (apply resl_cell1O; ((repeat (apply gS; rfl)); exact gZ); (repeat (first | exact hZ | apply hS)); rfl)))))
    exact Le.of_eq (by have : ¬ l = m := fun e => h (by rw [e]); simp [this, packT])
  intro h
  simp only [List.length_map, Classical.not_not] at h
  have hlm : l.length = m.length := by omega
  (repeat (first | apply from_nil | apply sim_seq | apply sim_skip | apply sim_block | apply sim_label | apply sim_exit))
  apply sim_region
  apply from_s; apply pop_assign; exact ev_int; rfl
  (repeat (first | apply from_nil | apply sim_seq | apply sim_skip | apply sim_block | apply sim_label | apply sim_exit))
  apply sim_loopL (σ := Nat) (ok := fun i => i ≤ l.length ∧ l.take i = m.take i) (env := fun i => [(5, .v (.int .i64 i)), (0, .sl false (l.map ep)), (1, .sl false (m.map ep))])
    (heap := fun i => []) (μ := fun i => l.length - i) (s0 := 0)
  · exact ⟨by omega, rfl⟩
  · (repeat (first | exact trivial | (apply And.intro; (apply le_get; ((repeat (apply gS; rfl)); exact gZ); (first | exact Le.refl _ | exact Le.nil _ | exact Le.full _ _ | exact Le.any _ | (apply Le.of_eq; focus (simp; done)) | (apply Le.of_eq; focus (congr 2; omega)) | (apply Le.of_eq; focus (simp [*]; done)))))))
  · exact HeapFront.nil _
  rintro i ⟨hi, he⟩
  (repeat (first | apply from_nil | apply sim_seq | apply sim_skip | apply sim_block | apply sim_label | apply sim_exit))
  apply sim_region
  apply from_s; apply pop_move; ((repeat (apply eS; rfl)); exact eZ); rfl
  apply from_s; apply pop_move; ((repeat (apply eS; rfl)); exact eZ); rfl
  apply from_s; (first | (apply pop_len; ((repeat (apply eS; rfl)); exact eZ); rfl) | (apply pop_len_raw; ((repeat (apply eS; rfl)); exact eZ); rfl)); rfl
  apply from_s; apply pop_lss; ((repeat (apply eS; rfl)); exact eZ); ((repeat (apply eS; rfl)); exact eZ); rfl
  (repeat (first | apply from_nil | apply sim_seq | apply sim_skip | apply sim_block | apply sim_label | apply sim_exit))
  apply sim_cond; ((repeat (apply eS; rfl)); exact eZ)
  · intro hlt
    simp only [List.length_map] at hlt
    have hix : i < l.length := by omega
    have hix2 : i < m.length := by omega
    have hbi := h1.each (l[i]) (List.getElem_mem hix)
    have hbj := h2.each (m[i]) (List.getElem_mem hix2)
    (repeat (first | apply from_nil | apply sim_seq | apply sim_skip | apply sim_block | apply sim_label | apply sim_exit))
    apply sim_rdraw 26; kernel_rfl; rfl; kernel_rfl
    apply draw_s; apply pop_move; ((repeat (apply eS; rfl)); exact eZ)
    apply draw_s; apply pop_move; ((repeat (apply eS; rfl)); exact eZ)
    apply draw_s; (first | (apply pop_indexAddr; ((repeat (apply eS; rfl)); exact eZ); ((repeat (apply eS; rfl)); exact eZ); (first | omega | (simp only [List.length_map, List.length_replicate, List.length_append, List.length_cons, List.length_nil, List.length_take, List.length_drop, Int.toNat_natCast]; omega) | (simp only [List.length_map, List.length_replicate, List.length_append, List.length_cons, List.length_nil, List.length_take, List.length_drop, Int.toNat_natCast] at *; omega)); (first | exact map_get hix | exact map_get hix2 | exact map_get (by (first | omega | (simp only [List.length_map, List.length_replicate, List.length_append, List.length_cons, List.length_nil, List.length_take, List.length_drop, Int.toNat_natCast]; omega) | (simp only [List.length_map, List.length_replicate, List.length_append, List.length_cons, List.length_nil, List.length_take, List.length_drop, Int.toNat_natCast] at *; omega))) | rfl); rfl; rfl) | (apply pop_indexAddr_raw; ((repeat (apply eS; rfl)); exact eZ); ((repeat (apply eS; rfl)); exact eZ); (first | omega | (simp only [List.length_map, List.length_replicate, List.length_append, List.length_cons, List.length_nil, List.length_take, List.length_drop, Int.toNat_natCast]; omega) | (simp only [List.length_map, List.length_replicate, List.length_append, List.length_cons, List.length_nil, List.length_take, List.length_drop, Int.toNat_natCast] at *; omega)); (first | omega | (simp only [List.length_map, List.length_replicate, List.length_append, List.length_cons, List.length_nil, List.length_take, List.length_drop, Int.toNat_natCast]; omega) | (simp only [List.length_map, List.length_replicate, List.length_append, List.length_cons, List.length_nil, List.length_take, List.length_drop, Int.toNat_natCast] at *; omega))))
    apply draw_s; apply pop_fieldAddr; ((repeat (apply eS; rfl)); exact eZ); rfl; rfl
    apply draw_s; apply pop_load; ((repeat (apply eS; rfl)); exact eZ); rfl; rfl
    apply draw_s; apply pop_move; ((repeat (apply eS; rfl)); exact eZ)
    apply draw_s; apply pop_move; ((repeat (apply eS; rfl)); exact eZ)
    apply draw_s; (first | (apply pop_indexAddr; ((repeat (apply eS; rfl)); exact eZ); ((repeat (apply eS; rfl)); exact eZ); (first | omega | (simp only [List.length_map, List.length_replicate, List.length_append, List.length_cons, List.length_nil, List.length_take, List.length_drop, Int.toNat_natCast]; omega) | (simp only [List.length_map, List.length_replicate, List.length_append, List.length_cons, List.length_nil, List.length_take, List.length_drop, Int.toNat_natCast] at *; omega)); (first | exact map_get hix | exact map_get hix2 | exact map_get (by (first | omega | (simp only [List.length_map, List.length_replicate, List.length_append, List.length_cons, List.length_nil, List.length_take, List.length_drop, Int.toNat_natCast]; omega) | (simp only [List.length_map, List.length_replicate, List.length_append, List.length_cons, List.length_nil, List.length_take, List.length_drop, Int.toNat_natCast] at *; omega))) | rfl); rfl; rfl) | (apply pop_indexAddr_raw; ((repeat (apply eS; rfl)); exact eZ); ((repeat (apply eS; rfl)); exact eZ); (first | omega | (simp only [List.length_map, List.length_replicate, List.length_append, List.length_cons, List.length_nil, List.length_take, List.length_drop, Int.toNat_natCast]; omega) | (simp only [List.length_map, List.length_replicate, List.length_append, List.length_cons, List.length_nil, List.length_take, List.length_drop, Int.toNat_natCast] at *; omega)); (first | omega | (simp only [List.length_map, List.length_replicate, List.length_append, List.length_cons, List.length_nil, List.length_take, List.length_drop, Int.toNat_natCast]; omega) | (simp only [List.length_map, List.length_replicate, List.length_append, List.length_cons, List.length_nil, List.length_take, List.length_drop, Int.toNat_natCast] at *; omega))))
    apply draw_s; apply pop_fieldAddr; ((repeat (apply eS; rfl)); exact eZ); rfl; rfl
    apply draw_s; apply pop_load; ((repeat (apply eS; rfl)); exact eZ); rfl; rfl
    apply draw_s; apply pop_neq; ((repeat (apply eS; rfl)); exact eZ); ((repeat (apply eS; rfl)); exact eZ)
    apply draw_s; apply pop_move; ((repeat (apply eS; rfl)); exact eZ)
    apply draw_gF; rfl; ((repeat (apply gS; rfl)); exact gZ); (intro hg; apply pop_move; ((repeat (apply eS; rfl)); exact eZ))
    apply draw_gF; rfl; ((repeat (apply gS; rfl)); exact gZ); (intro hg; apply pop_move; ((repeat (apply eS; rfl)); exact eZ))
    apply draw_gF; rfl; ((repeat (apply gS; rfl)); exact gZ); (intro hg; (first | (apply pop_indexAddr; (apply ev_un; ((repeat (apply eS; rfl)); exact eZ); exact hg); (apply ev_un; ((repeat (apply eS; rfl)); exact eZ); exact hg); (first | omega | (simp only [List.length_map, List.length_replicate, List.length_append, List.length_cons, List.length_nil, List.length_take, List.length_drop, Int.toNat_natCast]; omega) | (simp only [List.length_map, List.length_replicate, List.length_append, List.length_cons, List.length_nil, List.length_take, List.length_drop, Int.toNat_natCast] at *; omega)); (first | exact map_get hix | exact map_get hix2 | exact map_get (by (first | omega | (simp only [List.length_map, List.length_replicate, List.length_append, List.length_cons, List.length_nil, List.length_take, List.length_drop, Int.toNat_natCast]; omega) | (simp only [List.length_map, List.length_replicate, List.length_append, List.length_cons, List.length_nil, List.length_take, List.length_drop, Int.toNat_natCast] at *; omega))) | rfl); rfl; rfl) | (apply pop_indexAddr_raw; (apply ev_un; ((repeat (apply eS; rfl)); exact eZ); exact hg); (apply ev_un; ((repeat (apply eS; rfl)); exact eZ); exact hg); (first | omega | (simp only [List.length_map, List.length_replicate, List.length_append, List.length_cons, List.length_nil, List.length_take, List.length_drop, Int.toNat_natCast]; omega) | (simp only [List.length_map, List.length_replicate, List.length_append, List.length_cons, List.length_nil, List.length_take, List.length_drop, Int.toNat_natCast] at *; omega)); (first | omega | (simp only [List.length_map, List.length_replicate, List.length_append, List.length_cons, List.length_nil, List.length_take, List.length_drop, Int.toNat_natCast]; omega) | (simp only [List.length_map, List.length_replicate, List.length_append, List.length_cons, List.length_nil, List.length_take, List.length_drop, Int.toNat_natCast] at *; omega)))))
    apply draw_gF; rfl; ((repeat (apply gS; rfl)); exact gZ); (intro hg; apply pop_fieldAddr; (apply ev_un; ((repeat (apply eS; rfl)); exact eZ); exact hg); rfl; rfl)
    apply draw_gF; rfl; ((repeat (apply gS; rfl)); exact gZ); (intro hg; apply pop_load; (apply ev_un; ((repeat (apply eS; rfl)); exact eZ); exact hg); rfl; rfl)
    apply draw_gF; rfl; ((repeat (apply gS; rfl)); exact gZ); (intro hg; apply pop_string; (apply ev_un; ((repeat (apply eS; rfl)); exact eZ); exact hg); rfl; rfl)
    apply draw_gF; rfl; ((repeat (apply gS; rfl)); exact gZ); (intro hg; apply pop_move; ((repeat (apply eS; rfl)); exact eZ))
    apply draw_gF; rfl; ((repeat (apply gS; rfl)); exact gZ); (intro hg; apply pop_move; ((repeat (apply eS; rfl)); exact eZ))
    apply draw_gF; rfl; ((repeat (apply gS; rfl)); exact gZ); (intro hg; (first | (apply pop_indexAddr; (apply ev_un; ((repeat (apply eS; rfl)); exact eZ); exact hg); (apply ev_un; ((repeat (apply eS; rfl)); exact eZ); exact hg); (first | omega | (simp only [List.length_map, List.length_replicate, List.length_append, List.length_cons, List.length_nil, List.length_take, List.length_drop, Int.toNat_natCast]; omega) | (simp only [List.length_map, List.length_replicate, List.length_append, List.length_cons, List.length_nil, List.length_take, List.length_drop, Int.toNat_natCast] at *; omega)); (first | exact map_get hix | exact map_get hix2 | exact map_get (by (first | omega | (simp only [List.length_map, List.length_replicate, List.length_append, List.length_cons, List.length_nil, List.length_take, List.length_drop, Int.toNat_natCast]; omega) | (simp only [List.length_map, List.length_replicate, List.length_append, List.length_cons, List.length_nil, List.length_take, List.length_drop, Int.toNat_natCast] at *; omega))) | rfl); rfl; rfl) | (apply pop_indexAddr_raw; (apply ev_un; ((repeat (apply eS; rfl)); exact eZ); exact hg); (apply ev_un; ((repeat (apply eS; rfl)); exact eZ); exact hg); (first | omega | (simp only [List.length_map, List.length_replicate, List.length_append, List.length_cons, List.length_nil, List.length_take, List.length_drop, Int.toNat_natCast]; omega) | (simp only [List.length_map, List.length_replicate, List.length_append, List.length_cons, List.length_nil, List.length_take, List.length_drop, Int.toNat_natCast] at *; omega)); (first | omega | (simp only [List.length_map, List.length_replicate, List.length_append, List.length_cons, List.length_nil, List.length_take, List.length_drop, Int.toNat_natCast]; omega) | (simp only [List.length_map, List.length_replicate, List.length_append, List.length_cons, List.length_nil, List.length_take, List.length_drop, Int.toNat_natCast] at *; omega)))))
    apply draw_gF; rfl; ((repeat (apply gS; rfl)); exact gZ); (intro hg; apply pop_fieldAddr; (apply ev_un; ((repeat (apply eS; rfl)); exact eZ); exact hg); rfl; rfl)
    apply draw_gF; rfl; ((repeat (apply gS; rfl)); exact gZ); (intro hg; apply pop_load; (apply ev_un; ((repeat (apply eS; rfl)); exact eZ); exact hg); rfl; rfl)
    apply draw_gF; rfl; ((repeat (apply gS; rfl)); exact gZ); (intro hg; apply pop_string; (apply ev_un; ((repeat (apply eS; rfl)); exact eZ); exact hg); rfl; rfl)
    apply draw_gF; rfl; ((repeat (apply gS; rfl)); exact gZ); (intro hg; apply pop_neq_bs; (apply ev_un; ((repeat (apply eS; rfl)); exact eZ); exact hg); (apply ev_un; ((repeat (apply eS; rfl)); exact eZ); exact hg))
    apply draw_s; apply pop_pick_or; ((repeat (apply eS; rfl)); exact eZ); exact ev_bool; ((repeat (apply eS; rfl)); exact eZ)
    apply draw_end
    (repeat (first | apply from_nil | apply sim_seq | apply sim_skip | apply sim_block | apply sim_label | apply sim_exit))
    apply sim_cond; ((repeat (apply eS; rfl)); exact eZ)
    · intro hne
      (repeat (first | apply from_nil | apply sim_seq | apply sim_skip | apply sim_block | apply sim_label | apply sim_exit))
      apply sim_region
      apply from_s; apply pop_assign; exact ev_bool; rfl
      (repeat (first | apply from_nil | apply sim_seq | apply sim_skip | apply sim_block | apply sim_label | apply sim_exit))
      (apply sim_ret; (try simp only [blockΨ_ret, thenΨ_ret, loopL_ret, cutΨ_ret]); ((first | apply fin_ret | apply fin_normal); rfl; (repeat (first | exact resl_nil | (apply resl_tmp; ((repeat (apply gS; rfl)); exact gZ)) | (apply resl_cellO; ((repeat (apply gS; rfl)); exact gZ); (repeat (first | exact hZ | apply hS)); ((repeat (apply TakeR.skip)); (repeat (apply TakeR.cons)); exact TakeR.nil _)) | (apply resl_cell1O; ((repeat (apply gS; rfl)); exact gZ); (repeat (first | exact hZ | apply hS)); rfl)))))
      refine Le.of_eq ?_
      have : ¬ l = m := by
        intro e; subst e
        rcases hne with h | h <;> exact h rfl
      simp [this, packT]
    · intro heq
      have heq' : l[i] = m[i] := Po.ext' (Classical.not_not.1 fun h => heq (.inl h)) (Classical.not_not.1 fun h => heq (.inr h))
      (repeat (first | apply from_nil | apply sim_seq | apply sim_skip | apply sim_block | apply sim_label | apply sim_exit))
      apply sim_region
      apply from_s; apply pop_move; ((repeat (apply eS; rfl)); exact eZ); rfl
      apply from_s; apply pop_add64; ((repeat (apply eS; rfl)); exact eZ); exact ev_int; (first | omega | (simp only [List.length_map, List.length_replicate, List.length_append, List.length_cons, List.length_nil, List.length_take, List.length_drop, Int.toNat_natCast]; omega) | (simp only [List.length_map, List.length_replicate, List.length_append, List.length_cons, List.length_nil, List.length_take, List.length_drop, Int.toNat_natCast] at *; omega)); rfl
      apply from_s; apply pop_assign; ((repeat (apply eS; rfl)); exact eZ); rfl
      (repeat (first | apply from_nil | apply sim_seq | apply sim_skip | apply sim_block | apply sim_label | apply sim_exit))
      refine ⟨i + 1, ⟨by omega, take_snoc_eq he hix hix2 heq'⟩, (by simp only []; omega), ?_, HeapFront.nil _⟩
      (repeat (first | exact trivial | (apply And.intro; (apply le_get; ((repeat (apply gS; rfl)); exact gZ); (first | exact Le.refl _ | exact Le.nil _ | exact Le.full _ _ | exact Le.any _ | (apply Le.of_eq; focus (simp; done)) | (apply Le.of_eq; focus (congr 2; omega)) | (apply Le.of_eq; focus (simp [*]; done)))))))
  · intro hge
    simp only [List.length_map] at hge
    (repeat (first | apply from_nil | apply sim_seq | apply sim_skip | apply sim_block | apply sim_label | apply sim_exit))
    apply sim_region
    apply from_s; apply pop_assign; exact ev_bool; rfl
    (repeat (first | apply from_nil | apply sim_seq | apply sim_skip | apply sim_block | apply sim_label | apply sim_exit))
    (apply sim_ret; (try simp only [blockΨ_ret, thenΨ_ret, loopL_ret, cutΨ_ret]); ((first | apply fin_ret | apply fin_normal); rfl; (repeat (first | exact resl_nil | (apply resl_tmp; ((repeat (apply gS; rfl)); exact gZ)) | (apply resl_cellO; ((repeat (apply gS; rfl)); exact gZ); (repeat (first | exact hZ | apply hS)); ((repeat (apply TakeR.skip)); (repeat (apply TakeR.cons)); exact TakeR.nil _)) | (apply resl_cell1O; ((repeat (apply gS; rfl)); exact gZ); (repeat (first | exact hZ | apply hS)); rfl)))))
    refine Le.of_eq ?_
    have : l = m := by
      have e := he
      rwa [List.take_of_length_le (by omega), List.take_of_length_le (by omega)] at e
    simp [this, packT]
theorem same_fn (l m : Lo) (h1 : Fit l.posts) (h2 : Fit l.forced) (h3 : Fit m.posts) (h4 : Fit m.forced) :
    FnP Try.prog 10 [el l, el m] (fun r => r = .v (.bool (decide (((l.height = m.height) ∧ l.posts = m.posts) ∧ l.forced = m.forced)))) := by
  have c1 := rows_fn l.posts m.posts h1 h3
  have c2 := rows_fn l.forced m.forced h2 h4
  refine fn_enter Try.func10 (by rfl) (by rfl) ?_
  intro S0 w0
  show Sim _ _ [(0, .agg [.v (.int .i64 l.height), eps l.posts, eps l.forced]), (1, .agg [.v (.int .i64 m.height), eps m.posts, eps m.forced])] _ _
  (repeat (first | apply from_nil | apply sim_seq | apply sim_skip | apply sim_block | apply sim_label | apply sim_exit))
  apply sim_region
  apply from_e; apply eop_box; ((repeat (apply eS; rfl)); exact eZ); rfl; rfl; intro b2 _
  apply from_e; apply eop_box; ((repeat (apply eS; rfl)); exact eZ); rfl; rfl; intro b3 _
  apply from_s; apply pop_assign; exact ev_bool; rfl
  (repeat (first | apply from_nil | apply sim_seq | apply sim_skip | apply sim_block | apply sim_label | apply sim_exit))
  (repeat (first | apply from_nil | apply sim_seq | apply sim_skip | apply sim_block | apply sim_label | apply sim_exit))
  apply sim_region
  apply from_s; apply pop_fieldAddr_raw; ((repeat (apply eS; rfl)); exact eZ); rfl; rfl
  apply from_s; apply pop_loadO; ((repeat (apply eS; rfl)); exact eZ); (repeat (first | exact hZ | apply hS)); rfl; rfl; rfl
  apply from_s; apply pop_fieldAddr_raw; ((repeat (apply eS; rfl)); exact eZ); rfl; rfl
  apply from_s; apply pop_loadO; ((repeat (apply eS; rfl)); exact eZ); (repeat (first | exact hZ | apply hS)); rfl; rfl; rfl
  apply from_s; apply pop_eql; ((repeat (apply eS; rfl)); exact eZ); ((repeat (apply eS; rfl)); exact eZ); rfl
  apply from_s; apply pop_move; ((repeat (apply eS; rfl)); exact eZ); rfl
  apply from_gT; rfl; ((repeat (apply gS; rfl)); exact gZ); (intro hg; apply pop_fieldAddr_raw; ((repeat (apply eS; rfl)); exact eZ); rfl); rfl
  apply from_gT; rfl; ((repeat (apply gS; rfl)); exact gZ); (intro hg; apply pop_loadO; (apply ev_un; ((repeat (apply eS; rfl)); exact eZ); exact hg); (repeat (first | exact hZ | apply hS)); rfl; rfl); rfl
  apply from_gT; rfl; ((repeat (apply gS; rfl)); exact gZ); (intro hg; apply pop_fieldAddr_raw; ((repeat (apply eS; rfl)); exact eZ); rfl); rfl
  apply from_gT; rfl; ((repeat (apply gS; rfl)); exact gZ); (intro hg; apply pop_loadO; (apply ev_un; ((repeat (apply eS; rfl)); exact eZ); exact hg); (repeat (first | exact hZ | apply hS)); rfl; rfl); rfl
  apply from_gT; rfl; ((repeat (apply gS; rfl)); exact gZ); (intro hg; apply pop_call; rfl; (apply evl_cons; (apply ev_un; ((repeat (apply eS; rfl)); exact eZ); exact hg); apply evl_cons; (apply ev_un; ((repeat (apply eS; rfl)); exact eZ); exact hg); exact evl_nil); apply FnP.args (c1); exact LeL.refl _); rfl
  apply from_s; apply pop_pick_and; ((repeat (apply eS; rfl)); exact eZ); ((repeat (apply eS; rfl)); exact eZ); exact ev_bool; rfl
  apply from_s; apply pop_move; ((repeat (apply eS; rfl)); exact eZ); rfl
  apply from_gT; rfl; ((repeat (apply gS; rfl)); exact gZ); (intro hg; apply pop_fieldAddr_raw; ((repeat (apply eS; rfl)); exact eZ); rfl); rfl
  apply from_gT; rfl; ((repeat (apply gS; rfl)); exact gZ); (intro hg; apply pop_loadO; (apply ev_un; ((repeat (apply eS; rfl)); exact eZ); exact hg); (repeat (first | exact hZ | apply hS)); rfl; rfl); rfl
  apply from_gT; rfl; ((repeat (apply gS; rfl)); exact gZ); (intro hg; apply pop_fieldAddr_raw; ((repeat (apply eS; rfl)); exact eZ); rfl); rfl
  apply from_gT; rfl; ((repeat (apply gS; rfl)); exact gZ); (intro hg; apply pop_loadO; (apply ev_un; ((repeat (apply eS; rfl)); exact eZ); exact hg); (repeat (first | exact hZ | apply hS)); rfl; rfl); rfl
  apply from_gT; rfl; ((repeat (apply gS; rfl)); exact gZ); (intro hg; apply pop_call; rfl; (apply evl_cons; (apply ev_un; ((repeat (apply eS; rfl)); exact eZ); exact hg); apply evl_cons; (apply ev_un; ((repeat (apply eS; rfl)); exact eZ); exact hg); exact evl_nil); apply FnP.args (c2); exact LeL.refl _); rfl
  apply from_s; apply pop_pick_and; ((repeat (apply eS; rfl)); exact eZ); ((repeat (apply eS; rfl)); exact eZ); exact ev_bool; rfl
  apply from_s; apply pop_assign; ((repeat (apply eS; rfl)); exact eZ); rfl
  (repeat (first | apply from_nil | apply sim_seq | apply sim_skip | apply sim_block | apply sim_label | apply sim_exit))
  (apply sim_ret; (try simp only [blockΨ_ret, thenΨ_ret, loopL_ret, cutΨ_ret]); ((first | apply fin_ret | apply fin_normal); rfl; (repeat (first | exact resl_nil | (apply resl_tmp; ((repeat (apply gS; rfl)); exact gZ)) | (apply resl_cellO; ((repeat (apply gS; rfl)); exact gZ); (repeat (first | exact hZ | apply hS)); ((repeat (apply TakeR.skip)); (repeat (apply TakeR.cons)); exact TakeR.nil _)) | (apply resl_cell1O; ((repeat (apply gS; rfl)); exact gZ); (repeat (first | exact hZ | apply hS)); rfl)))))
  exact Le.refl _
end Go.Proofs.Ythndbbjkkehjeaa
