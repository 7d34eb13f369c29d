/-
  lower: the faces.
-/
import Derived.Test.YthndbbjkkehjeaaLowA
set_option maxRecDepth 4000
namespace Go.Proofs.Ythndbbjkkehjeaa
open Go.Cap
set_option linter.unusedSimpArgs false
set_option linter.unusedVariables false
attribute [local irreducible] POp SimFrom DrawFrom EOp Sim FnH T.gp
theorem posts_fn : FnP Try.prog 19 [] (fun r => r = .agg [.v (.int .i64 4000), .v (.int .i64 300)]) := by
  refine fn_enter Try.func19 (by rfl) (by rfl) ?_
  intro S0 w0
  show Sim _ _ [] _ _
  (repeat (first | apply from_nil | apply sim_seq | apply sim_skip | apply sim_block | apply sim_label | apply sim_exit))
  apply sim_region
  apply from_e; apply eop_alloc; rfl; intro b0 _
  (repeat (first | apply from_nil | apply sim_seq | apply sim_skip | apply sim_block | apply sim_label | apply sim_exit))
  (repeat (first | apply from_nil | apply sim_seq | apply sim_skip | apply sim_block | apply sim_label | apply sim_exit))
  apply sim_region
  apply from_s; apply pop_build 2 [_, _]; rfl; rfl; (apply evp_cons; exact ev_int; apply evp_cons; exact ev_int;  exact evp_nil); rfl; rfl
  apply from_e; apply eop_storeO; ((repeat (apply eS; rfl)); exact eZ); ((repeat (apply eS; rfl)); exact eZ); (repeat (first | exact rZ | apply rS)); ((repeat (apply LayR.skip)); (repeat (apply LayR.cons)); exact LayR.nil _); rfl; rfl; rfl
  (repeat (first | apply from_nil | apply sim_seq | apply sim_skip | apply sim_block | apply sim_label | apply sim_exit))
  (apply sim_ret; (try simp only [blockΨ_ret, thenΨ_ret, loopL_ret, cutΨ_ret]); ((first | apply fin_ret | apply fin_normal); rfl; (repeat (first | exact resl_nil | (apply resl_tmp; ((repeat (apply gS; rfl)); exact gZ)) | (apply resl_cellO; ((repeat (apply gS; rfl)); exact gZ); (repeat (first | exact hZ | apply hS)); ((repeat (apply TakeR.skip)); (repeat (apply TakeR.cons)); exact TakeR.nil _)) | (apply resl_cell1O; ((repeat (apply gS; rfl)); exact gZ); (repeat (first | exact hZ | apply hS)); rfl)))))
  exact Le.refl _
theorem within_fn (a n : Int) (hn : 0 < n) (h1 : n ≤ 1000000) : FnP Try.prog 7 [.v (.int .i64 a), .v (.int .i64 n)] (fun r => r = .v (.int .i64 (a % n))) := by
  refine fn_enter Try.func7 (by rfl) (by rfl) ?_
  intro S0 w0
  show Sim _ _ [(0, _), (1, _)] _ _
  (repeat (first | apply from_nil | apply sim_seq | apply sim_skip | apply sim_block | apply sim_label | apply sim_exit))
  apply sim_region
  apply from_s; apply pop_assign; exact ev_int; rfl
  (repeat (first | apply from_nil | apply sim_seq | apply sim_skip | apply sim_block | apply sim_label | apply sim_exit))
  (repeat (first | apply from_nil | apply sim_seq | apply sim_skip | apply sim_block | apply sim_label | apply sim_exit))
  apply sim_region
  apply from_s; apply pop_move; ((repeat (apply eS; rfl)); exact eZ); rfl
  apply from_s; apply pop_move; ((repeat (apply eS; rfl)); exact eZ); rfl
  apply from_s; apply pop_rem; ((repeat (apply eS; rfl)); exact eZ); ((repeat (apply eS; rfl)); exact eZ); omega; rfl
  apply from_s; apply pop_assign; ((repeat (apply eS; rfl)); exact eZ); rfl
  (repeat (first | apply from_nil | apply sim_seq | apply sim_skip | apply sim_block | apply sim_label | apply sim_exit))
  (repeat (first | apply from_nil | apply sim_seq | apply sim_skip | apply sim_block | apply sim_label | apply sim_exit))
  apply sim_region
  apply from_s; apply pop_move; ((repeat (apply eS; rfl)); exact eZ); rfl
  apply from_s; apply pop_lss; ((repeat (apply eS; rfl)); exact eZ); exact ev_int; rfl
  (repeat (first | apply from_nil | apply sim_seq | apply sim_skip | apply sim_block | apply sim_label | apply sim_exit))
  have hmod := tmod_fix a n hn
  have h3 := Int.emod_nonneg a (show n ≠ 0 by omega)
  have h4 := Int.emod_lt_of_pos a hn
  apply sim_cond; ((repeat (apply eS; rfl)); exact eZ)
  · intro hlt
    have hm := hmod.1 hlt
    (repeat (first | apply from_nil | apply sim_seq | apply sim_skip | apply sim_block | apply sim_label | apply sim_exit))
    apply sim_region
    apply from_s; apply pop_move; ((repeat (apply eS; rfl)); exact eZ); rfl
    apply from_s; apply pop_move; ((repeat (apply eS; rfl)); exact eZ); rfl
    apply from_s; apply pop_add64; ((repeat (apply eS; rfl)); exact eZ); ((repeat (apply eS; rfl)); exact eZ); (first | omega | (simp only [List.length_map, List.length_replicate, List.length_append, List.length_cons, List.length_nil, List.length_take, List.length_drop, Int.toNat_natCast]; omega) | (simp only [List.length_map, List.length_replicate, List.length_append, List.length_cons, List.length_nil, List.length_take, List.length_drop, Int.toNat_natCast] at *; omega)); rfl
    apply from_s; apply pop_assign; ((repeat (apply eS; rfl)); exact eZ); rfl
    (repeat (first | apply from_nil | apply sim_seq | apply sim_skip | apply sim_block | apply sim_label | apply sim_exit))
    (repeat (first | apply from_nil | apply sim_seq | apply sim_skip | apply sim_block | apply sim_label | apply sim_exit))
    apply sim_region
    apply from_s; apply pop_move; ((repeat (apply eS; rfl)); exact eZ); rfl
    apply from_s; apply pop_assign; ((repeat (apply eS; rfl)); exact eZ); rfl
    (repeat (first | apply from_nil | apply sim_seq | apply sim_skip | apply sim_block | apply sim_label | apply sim_exit))
    (apply sim_ret; (try simp only [blockΨ_ret, thenΨ_ret, loopL_ret, cutΨ_ret]); ((first | apply fin_ret | apply fin_normal); rfl; (repeat (first | exact resl_nil | (apply resl_tmp; ((repeat (apply gS; rfl)); exact gZ)) | (apply resl_cellO; ((repeat (apply gS; rfl)); exact gZ); (repeat (first | exact hZ | apply hS)); ((repeat (apply TakeR.skip)); (repeat (apply TakeR.cons)); exact TakeR.nil _)) | (apply resl_cell1O; ((repeat (apply gS; rfl)); exact gZ); (repeat (first | exact hZ | apply hS)); rfl)))))
    exact Le.of_eq (by show T.v _ = T.v _; rw [hm])
  · intro hge
    have hm := hmod.2 hge
    (repeat (first | apply from_nil | apply sim_seq | apply sim_skip | apply sim_block | apply sim_label | apply sim_exit))
    apply sim_region
    apply from_s; apply pop_move; ((repeat (apply eS; rfl)); exact eZ); rfl
    apply from_s; apply pop_assign; ((repeat (apply eS; rfl)); exact eZ); rfl
    (repeat (first | apply from_nil | apply sim_seq | apply sim_skip | apply sim_block | apply sim_label | apply sim_exit))
    (apply sim_ret; (try simp only [blockΨ_ret, thenΨ_ret, loopL_ret, cutΨ_ret]); ((first | apply fin_ret | apply fin_normal); rfl; (repeat (first | exact resl_nil | (apply resl_tmp; ((repeat (apply gS; rfl)); exact gZ)) | (apply resl_cellO; ((repeat (apply gS; rfl)); exact gZ); (repeat (first | exact hZ | apply hS)); ((repeat (apply TakeR.skip)); (repeat (apply TakeR.cons)); exact TakeR.nil _)) | (apply resl_cell1O; ((repeat (apply gS; rfl)); exact gZ); (repeat (first | exact hZ | apply hS)); rfl)))))
    exact Le.of_eq (by show T.v _ = T.v _; rw [hm])
theorem forced_fn : FnP Try.prog 20 [] (fun r => r = .agg [.v (.int .i64 200), .v (.int .i64 60)]) := by
  refine fn_enter Try.func20 (by rfl) (by rfl) ?_
  intro S0 w0
  show Sim _ _ [] _ _
  (repeat (first | apply from_nil | apply sim_seq | apply sim_skip | apply sim_block | apply sim_label | apply sim_exit))
  apply sim_region
  apply from_e; apply eop_alloc; rfl; intro b0 _
  (repeat (first | apply from_nil | apply sim_seq | apply sim_skip | apply sim_block | apply sim_label | apply sim_exit))
  (repeat (first | apply from_nil | apply sim_seq | apply sim_skip | apply sim_block | apply sim_label | apply sim_exit))
  apply sim_region
  apply from_s; apply pop_build 2 [_, _]; rfl; rfl; (apply evp_cons; exact ev_int; apply evp_cons; exact ev_int;  exact evp_nil); rfl; rfl
  apply from_e; apply eop_storeO; ((repeat (apply eS; rfl)); exact eZ); ((repeat (apply eS; rfl)); exact eZ); (repeat (first | exact rZ | apply rS)); ((repeat (apply LayR.skip)); (repeat (apply LayR.cons)); exact LayR.nil _); rfl; rfl; rfl
  (repeat (first | apply from_nil | apply sim_seq | apply sim_skip | apply sim_block | apply sim_label | apply sim_exit))
  (apply sim_ret; (try simp only [blockΨ_ret, thenΨ_ret, loopL_ret, cutΨ_ret]); ((first | apply fin_ret | apply fin_normal); rfl; (repeat (first | exact resl_nil | (apply resl_tmp; ((repeat (apply gS; rfl)); exact gZ)) | (apply resl_cellO; ((repeat (apply gS; rfl)); exact gZ); (repeat (first | exact hZ | apply hS)); ((repeat (apply TakeR.skip)); (repeat (apply TakeR.cons)); exact TakeR.nil _)) | (apply resl_cell1O; ((repeat (apply gS; rfl)); exact gZ); (repeat (first | exact hZ | apply hS)); rfl)))))
  exact Le.refl _
theorem own_fn (l : Lo) (h1 : Fit l.posts) (h2 : Fit l.forced) : FnP Try.prog 17 [el l] (fun r => r = el l) := by
  refine fn_enter Try.func17 (by rfl) (by rfl) ?_
  intro S0 w0
  show Sim _ _ [(0, .agg [.v (.int .i64 l.height), eps l.posts, eps l.forced])] _ _
  have r1 := row_fn l.posts (by have := h1.len; omega) h1.each
  have r2 := row_fn l.forced (by have := h2.len; omega) h2.each
  (repeat (first | apply from_nil | apply sim_seq | apply sim_skip | apply sim_block | apply sim_label | apply sim_exit))
  apply sim_region
  apply from_e; apply eop_box; ((repeat (apply eS; rfl)); exact eZ); rfl; rfl; intro b1 _
  apply from_e; apply eop_alloc; rfl; intro b2 _
  (repeat (first | apply from_nil | apply sim_seq | apply sim_skip | apply sim_block | apply sim_label | apply sim_exit))
  (repeat (first | apply from_nil | apply sim_seq | apply sim_skip | apply sim_block | apply sim_label | apply sim_exit))
  apply sim_rdraw 9; kernel_rfl; rfl; kernel_rfl
  apply draw_s; apply pop_fieldAddr_raw; ((repeat (apply eS; rfl)); exact eZ); rfl
  apply draw_s; apply pop_loadO; ((repeat (apply eS; rfl)); exact eZ); (repeat (first | exact hZ | apply hS)); rfl; rfl
  apply draw_s; apply pop_fieldAddr_raw; ((repeat (apply eS; rfl)); exact eZ); rfl
  apply draw_s; apply pop_loadO; ((repeat (apply eS; rfl)); exact eZ); (repeat (first | exact hZ | apply hS)); rfl; rfl
  apply draw_s; apply pop_call; rfl; (apply evl_cons; ((repeat (apply eS; rfl)); exact eZ); exact evl_nil); apply FnP.args (r1); exact LeL.refl _
  apply draw_s; apply pop_fieldAddr_raw; ((repeat (apply eS; rfl)); exact eZ); rfl
  apply draw_s; apply pop_loadO; ((repeat (apply eS; rfl)); exact eZ); (repeat (first | exact hZ | apply hS)); rfl; rfl
  apply draw_s; apply pop_call; rfl; (apply evl_cons; ((repeat (apply eS; rfl)); exact eZ); exact evl_nil); apply FnP.args (r2); exact LeL.refl _
  apply draw_s; apply pop_build 3 [_, _, _]; rfl; rfl; (apply evp_cons; ((repeat (apply eS; rfl)); exact eZ); apply evp_cons; ((repeat (apply eS; rfl)); exact eZ); apply evp_cons; ((repeat (apply eS; rfl)); exact eZ);  exact evp_nil); rfl
  apply draw_end
  apply from_e; apply eop_storeO; ((repeat (apply eS; rfl)); exact eZ); ((repeat (apply eS; rfl)); exact eZ); (repeat (first | exact rZ | apply rS)); ((repeat (apply LayR.skip)); (repeat (apply LayR.cons)); exact LayR.nil _); rfl; rfl; rfl
  (repeat (first | apply from_nil | apply sim_seq | apply sim_skip | apply sim_block | apply sim_label | apply sim_exit))
  (apply sim_ret; (try simp only [blockΨ_ret, thenΨ_ret, loopL_ret, cutΨ_ret]); ((first | apply fin_ret | apply fin_normal); rfl; (repeat (first | exact resl_nil | (apply resl_tmp; ((repeat (apply gS; rfl)); exact gZ)) | (apply resl_cellO; ((repeat (apply gS; rfl)); exact gZ); (repeat (first | exact hZ | apply hS)); ((repeat (apply TakeR.skip)); (repeat (apply TakeR.cons)); exact TakeR.nil _)) | (apply resl_cell1O; ((repeat (apply gS; rfl)); exact gZ); (repeat (first | exact hZ | apply hS)); rfl)))))
  (first | exact Le.refl _ | exact Le.nil _ | exact Le.full _ _ | exact Le.any _ | (apply Le.agg; (repeat (apply LeL.cons; (first | exact Le.refl _ | exact Le.nil _ | exact Le.full _ _ | exact Le.any _))); exact LeL.nil) | (apply Le.tup; (repeat (apply LeL.cons; (first | exact Le.refl _ | exact Le.nil _ | exact Le.full _ _ | exact Le.any _ | (apply Le.agg; (repeat (apply LeL.cons; (first | exact Le.refl _ | exact Le.nil _ | exact Le.full _ _ | exact Le.any _))); exact LeL.nil)))); exact LeL.nil))
def putF (l : List Po) (b : List UInt8) (at_ long many : Int) : List Po × Int :=
  if long < (b.length : Int) then (l, 5) else if many ≤ (l.length : Int) then (l, 4) else (l ++ [⟨at_, b⟩], 0)
theorem put_fn (l : List Po) (b : List UInt8) (at_ long many : Int) (h1 : Fit l) (h2 : b.length ≤ 1000000) (hm : many ≤ 10000) :
    FnP Try.prog 18 [eps l, ebs b, .v (.int .i64 at_), .agg [.v (.int .i64 long), .v (.int .i64 many)]]
      (fun r => r = .tup [eps (putF l b at_ long many).1, .v (.int .i64 (putF l b at_ long many).2)]) := by
  have r1 := row_fn l (by have := h1.len; omega) h1.each
  refine fn_enter Try.func18 (by rfl) (by rfl) ?_
  intro S0 w0
  show Sim _ _ [(0, _), (1, _), (2, _), (3, _)] _ _
  (repeat (first | apply from_nil | apply sim_seq | apply sim_skip | apply sim_block | apply sim_label | apply sim_exit))
  apply sim_region
  apply from_e; apply eop_box; ((repeat (apply eS; rfl)); exact eZ); rfl; rfl; intro b7 _
  apply from_s; apply pop_assign; exact ev_nil; rfl
  apply from_s; apply pop_assign; exact ev_int; rfl
  (repeat (first | apply from_nil | apply sim_seq | apply sim_skip | apply sim_block | apply sim_label | apply sim_exit))
  (repeat (first | apply from_nil | apply sim_seq | apply sim_skip | apply sim_block | apply sim_label | apply sim_exit))
  apply sim_region
  apply from_s; apply pop_move; ((repeat (apply eS; rfl)); exact eZ); rfl
  apply from_s; (first | (apply pop_len; ((repeat (apply eS; rfl)); exact eZ); rfl) | (apply pop_len_raw; ((repeat (apply eS; rfl)); exact eZ); rfl)); rfl
  apply from_s; apply pop_fieldAddr_raw; ((repeat (apply eS; rfl)); exact eZ); rfl; rfl
  apply from_s; apply pop_loadO; ((repeat (apply eS; rfl)); exact eZ); (repeat (first | exact hZ | apply hS)); rfl; rfl; rfl
  apply from_s; apply pop_gtr; ((repeat (apply eS; rfl)); exact eZ); ((repeat (apply eS; rfl)); exact eZ); rfl
  apply from_s; apply pop_assign; ((repeat (apply eS; rfl)); exact eZ); rfl
  (repeat (first | apply from_nil | apply sim_seq | apply sim_skip | apply sim_block | apply sim_label | apply sim_exit))
  apply sim_cond; ((repeat (apply eS; rfl)); exact eZ)
  · intro h
    rw [List.length_map] at h
    (repeat (first | apply from_nil | apply sim_seq | apply sim_skip | apply sim_block | apply sim_label | apply sim_exit))
    apply sim_region
    apply from_s; apply pop_move; ((repeat (apply eS; rfl)); exact eZ); rfl
    apply from_s; apply pop_assign; ((repeat (apply eS; rfl)); exact eZ); rfl
    apply from_s; apply pop_assign; exact ev_int; rfl
    (repeat (first | apply from_nil | apply sim_seq | apply sim_skip | apply sim_block | apply sim_label | apply sim_exit))
    (apply sim_ret; (try simp only [blockΨ_ret, thenΨ_ret, loopL_ret, cutΨ_ret]); ((first | apply fin_ret | apply fin_normal); rfl; (repeat (first | exact resl_nil | (apply resl_tmp; ((repeat (apply gS; rfl)); exact gZ)) | (apply resl_cellO; ((repeat (apply gS; rfl)); exact gZ); (repeat (first | exact hZ | apply hS)); ((repeat (apply TakeR.skip)); (repeat (apply TakeR.cons)); exact TakeR.nil _)) | (apply resl_cell1O; ((repeat (apply gS; rfl)); exact gZ); (repeat (first | exact hZ | apply hS)); rfl)))))
    simp only [putF, if_pos h]; (first | exact Le.refl _ | exact Le.nil _ | exact Le.full _ _ | exact Le.any _ | (apply Le.agg; (repeat (apply LeL.cons; (first | exact Le.refl _ | exact Le.nil _ | exact Le.full _ _ | exact Le.any _))); exact LeL.nil) | (apply Le.tup; (repeat (apply LeL.cons; (first | exact Le.refl _ | exact Le.nil _ | exact Le.full _ _ | exact Le.any _ | (apply Le.agg; (repeat (apply LeL.cons; (first | exact Le.refl _ | exact Le.nil _ | exact Le.full _ _ | exact Le.any _))); exact LeL.nil)))); exact LeL.nil))
  intro h
  rw [List.length_map] at h
  (repeat (first | apply from_nil | apply sim_seq | apply sim_skip | apply sim_block | apply sim_label | apply sim_exit))
  apply sim_region
  apply from_s; apply pop_move; ((repeat (apply eS; rfl)); exact eZ); rfl
  apply from_s; (first | (apply pop_len; ((repeat (apply eS; rfl)); exact eZ); rfl) | (apply pop_len_raw; ((repeat (apply eS; rfl)); exact eZ); rfl)); rfl
  apply from_s; apply pop_fieldAddr_raw; ((repeat (apply eS; rfl)); exact eZ); rfl; rfl
  apply from_s; apply pop_loadO; ((repeat (apply eS; rfl)); exact eZ); (repeat (first | exact hZ | apply hS)); rfl; rfl; rfl
  apply from_s; apply pop_geq; ((repeat (apply eS; rfl)); exact eZ); ((repeat (apply eS; rfl)); exact eZ); rfl
  apply from_s; apply pop_assign; ((repeat (apply eS; rfl)); exact eZ); rfl
  (repeat (first | apply from_nil | apply sim_seq | apply sim_skip | apply sim_block | apply sim_label | apply sim_exit))
  apply sim_cond; ((repeat (apply eS; rfl)); exact eZ)
  · intro h'
    rw [List.length_map] at h'
    (repeat (first | apply from_nil | apply sim_seq | apply sim_skip | apply sim_block | apply sim_label | apply sim_exit))
    apply sim_region
    apply from_s; apply pop_move; ((repeat (apply eS; rfl)); exact eZ); rfl
    apply from_s; apply pop_assign; ((repeat (apply eS; rfl)); exact eZ); rfl
    apply from_s; apply pop_assign; exact ev_int; rfl
    (repeat (first | apply from_nil | apply sim_seq | apply sim_skip | apply sim_block | apply sim_label | apply sim_exit))
    (apply sim_ret; (try simp only [blockΨ_ret, thenΨ_ret, loopL_ret, cutΨ_ret]); ((first | apply fin_ret | apply fin_normal); rfl; (repeat (first | exact resl_nil | (apply resl_tmp; ((repeat (apply gS; rfl)); exact gZ)) | (apply resl_cellO; ((repeat (apply gS; rfl)); exact gZ); (repeat (first | exact hZ | apply hS)); ((repeat (apply TakeR.skip)); (repeat (apply TakeR.cons)); exact TakeR.nil _)) | (apply resl_cell1O; ((repeat (apply gS; rfl)); exact gZ); (repeat (first | exact hZ | apply hS)); rfl)))))
    simp only [putF, if_neg h, if_pos h']; (first | exact Le.refl _ | exact Le.nil _ | exact Le.full _ _ | exact Le.any _ | (apply Le.agg; (repeat (apply LeL.cons; (first | exact Le.refl _ | exact Le.nil _ | exact Le.full _ _ | exact Le.any _))); exact LeL.nil) | (apply Le.tup; (repeat (apply LeL.cons; (first | exact Le.refl _ | exact Le.nil _ | exact Le.full _ _ | exact Le.any _ | (apply Le.agg; (repeat (apply LeL.cons; (first | exact Le.refl _ | exact Le.nil _ | exact Le.full _ _ | exact Le.any _))); exact LeL.nil)))); exact LeL.nil))
  intro h'
  rw [List.length_map] at h'
  have hln := h1.len
  (repeat (first | apply from_nil | apply sim_seq | apply sim_skip | apply sim_block | apply sim_label | apply sim_exit))
  apply sim_region
  apply from_s; apply pop_move; ((repeat (apply eS; rfl)); exact eZ); rfl
  apply from_s; apply pop_call; rfl; (apply evl_cons; ((repeat (apply eS; rfl)); exact eZ); exact evl_nil); apply FnP.args (r1); exact LeL.refl _; rfl
  apply from_s; apply pop_move; ((repeat (apply eS; rfl)); exact eZ); rfl
  apply from_s; apply pop_move; ((repeat (apply eS; rfl)); exact eZ); rfl
  apply from_s; apply pop_build 2 [_, _]; rfl; rfl; (apply evp_cons; ((repeat (apply eS; rfl)); exact eZ); apply evp_cons; ((repeat (apply eS; rfl)); exact eZ);  exact evp_nil); rfl; rfl
  apply from_s; apply pop_buildSlice; rfl; rfl; decide; (apply evq_cons; ((repeat (apply eS; rfl)); exact eZ);  exact evq_nil); (repeat (first | exact lenOk_nil | (apply lenOk_map; intro _; rfl) | apply lenOk_append | apply lenOk_take | apply lenOk_drop | (apply lenOk_cons; rfl))); rfl
  apply from_s; apply pop_append; ((repeat (apply eS; rfl)); exact eZ); (first | exact Le.refl _ | exact Le.nil _ | exact Le.full _ _ | exact Le.any _ | (apply Le.agg; (repeat (apply LeL.cons; (first | exact Le.refl _ | exact Le.nil _ | exact Le.full _ _ | exact Le.any _))); exact LeL.nil) | (apply Le.tup; (repeat (apply LeL.cons; (first | exact Le.refl _ | exact Le.nil _ | exact Le.full _ _ | exact Le.any _ | (apply Le.agg; (repeat (apply LeL.cons; (first | exact Le.refl _ | exact Le.nil _ | exact Le.full _ _ | exact Le.any _))); exact LeL.nil)))); exact LeL.nil)); ((repeat (apply eS; rfl)); exact eZ); (first | exact Le.refl _ | exact Le.nil _ | exact Le.full _ _ | exact Le.any _ | (apply Le.agg; (repeat (apply LeL.cons; (first | exact Le.refl _ | exact Le.nil _ | exact Le.full _ _ | exact Le.any _))); exact LeL.nil) | (apply Le.tup; (repeat (apply LeL.cons; (first | exact Le.refl _ | exact Le.nil _ | exact Le.full _ _ | exact Le.any _ | (apply Le.agg; (repeat (apply LeL.cons; (first | exact Le.refl _ | exact Le.nil _ | exact Le.full _ _ | exact Le.any _))); exact LeL.nil)))); exact LeL.nil)); rfl; (repeat (first | exact lenOk_nil | (apply lenOk_map; intro _; rfl) | apply lenOk_append | apply lenOk_take | apply lenOk_drop | (apply lenOk_cons; rfl))); (repeat (first | exact lenOk_nil | (apply lenOk_map; intro _; rfl) | apply lenOk_append | apply lenOk_take | apply lenOk_drop | (apply lenOk_cons; rfl))); (first | omega | (simp only [List.length_map, List.length_replicate, List.length_append, List.length_cons, List.length_nil, List.length_take, List.length_drop, Int.toNat_natCast]; omega) | (simp only [List.length_map, List.length_replicate, List.length_append, List.length_cons, List.length_nil, List.length_take, List.length_drop, Int.toNat_natCast] at *; omega)); (first | omega | (simp only [List.length_map, List.length_replicate, List.length_append, List.length_cons, List.length_nil, List.length_take, List.length_drop, Int.toNat_natCast]; omega) | (simp only [List.length_map, List.length_replicate, List.length_append, List.length_cons, List.length_nil, List.length_take, List.length_drop, Int.toNat_natCast] at *; omega)); rfl
  have hf2 : Fit (l ++ [⟨at_, b⟩]) := ⟨by simp; omega, fun p hp => by
    rcases List.mem_append.1 hp with hp | hp
    · exact h1.each p hp
    · simp at hp; subst hp; exact h2⟩
  (apply from_s; apply pop_call; rfl; (repeat (apply evl_cons; (first | exact eZ | exact ev_int | exact ev_bool | exact ev_nil | exact ev_str | exact ev_ptr | exact ev_agg | exact ev_map | exact ev_func | ((repeat (apply eS; rfl)); exact eZ)))); exact evl_nil; apply FnP.args (row_fn (l ++ [⟨at_, b⟩]) (by have := hf2.len; omega) hf2.each))
  · exact LeL.cons (Le.of_eq (by simp [eps, ep])) LeL.nil
  rfl
  apply from_s; apply pop_assign; ((repeat (apply eS; rfl)); exact eZ); rfl
  apply from_s; apply pop_assign; exact ev_int; rfl
  (repeat (first | apply from_nil | apply sim_seq | apply sim_skip | apply sim_block | apply sim_label | apply sim_exit))
  (apply sim_ret; (try simp only [blockΨ_ret, thenΨ_ret, loopL_ret, cutΨ_ret]); ((first | apply fin_ret | apply fin_normal); rfl; (repeat (first | exact resl_nil | (apply resl_tmp; ((repeat (apply gS; rfl)); exact gZ)) | (apply resl_cellO; ((repeat (apply gS; rfl)); exact gZ); (repeat (first | exact hZ | apply hS)); ((repeat (apply TakeR.skip)); (repeat (apply TakeR.cons)); exact TakeR.nil _)) | (apply resl_cell1O; ((repeat (apply gS; rfl)); exact gZ); (repeat (first | exact hZ | apply hS)); rfl)))))
  simp only [putF, if_neg h, if_neg h']
  (first | exact Le.refl _ | exact Le.nil _ | exact Le.full _ _ | exact Le.any _ | (apply Le.agg; (repeat (apply LeL.cons; (first | exact Le.refl _ | exact Le.nil _ | exact Le.full _ _ | exact Le.any _))); exact LeL.nil) | (apply Le.tup; (repeat (apply LeL.cons; (first | exact Le.refl _ | exact Le.nil _ | exact Le.full _ _ | exact Le.any _ | (apply Le.agg; (repeat (apply LeL.cons; (first | exact Le.refl _ | exact Le.nil _ | exact Le.full _ _ | exact Le.any _))); exact LeL.nil)))); exact LeL.nil))
def postF (l : Lo) (b : List UInt8) : Lo × Int := ({ l with posts := (putF l.posts b (l.height + 1) 4000 300).1 }, (putF l.posts b (l.height + 1) 4000 300).2)
def forceF (l : Lo) (b : List UInt8) : Lo × Int := ({ l with forced := (putF l.forced b (l.height + 1) 200 60).1 }, (putF l.forced b (l.height + 1) 200 60).2)
def nextF (l : Lo) (n : Int) : Lo × Int := if n < 0 ∨ 50 < n then (l, 1) else if 1073741824 - n < l.height then (l, 11) else ({ l with height := l.height + n }, 0)
structure FitL (l : Lo) : Prop where
  posts : Fit l.posts
  forced : Fit l.forced
  low : -1000000000000 ≤ l.height
  high : l.height ≤ 1000000000000
theorem post_fn (l : Lo) (b : List UInt8) (h : FitL l) (hb : b.length ≤ 1000000) : FnP Try.prog 8 [el l, ebs b] (fun r => r = .tup [el (postF l b).1, .v (.int .i64 (postF l b).2)]) := by
  have r1 := own_fn l h.posts h.forced
  have r2 := put_fn l.posts b (l.height + 1) 4000 300 h.posts hb (by omega)
  have h1 := h.low
  have h2 := h.high
  refine fn_enter Try.func8 (by rfl) (by rfl) ?_
  intro S0 w0
  show Sim _ _ [(0, .agg [.v (.int .i64 l.height), eps l.posts, eps l.forced]), (1, _)] _ _
  (repeat (first | apply from_nil | apply sim_seq | apply sim_skip | apply sim_block | apply sim_label | apply sim_exit))
  apply sim_region
  apply from_e; apply eop_box; ((repeat (apply eS; rfl)); exact eZ); rfl; rfl; intro b2 _
  apply from_e; apply eop_alloc; rfl; intro b4 _
  apply from_s; apply pop_assign; exact ev_int; rfl
  (repeat (first | apply from_nil | apply sim_seq | apply sim_skip | apply sim_block | apply sim_label | apply sim_exit))
  (repeat (first | apply from_nil | apply sim_seq | apply sim_skip | apply sim_block | apply sim_label | apply sim_exit))
  apply sim_region
  apply from_s; apply pop_loadO_agg; ((repeat (apply eS; rfl)); exact eZ); (repeat (first | exact hZ | apply hS)); ((repeat (apply TakeR.skip)); (repeat (apply TakeR.cons)); exact TakeR.nil _); rfl
  apply from_s; apply pop_call; rfl; (apply evl_cons; ((repeat (apply eS; rfl)); exact eZ); exact evl_nil); apply FnP.args (r1); exact LeL.refl _; rfl
  apply from_e; apply eop_storeO; ((repeat (apply eS; rfl)); exact eZ); ((repeat (apply eS; rfl)); exact eZ); (repeat (first | exact rZ | apply rS)); ((repeat (apply LayR.skip)); (repeat (apply LayR.cons)); exact LayR.nil _); rfl; rfl; rfl
  (repeat (first | apply from_nil | apply sim_seq | apply sim_skip | apply sim_block | apply sim_label | apply sim_exit))
  (repeat (first | apply from_nil | apply sim_seq | apply sim_skip | apply sim_block | apply sim_label | apply sim_exit))
  apply sim_rdraw 13; kernel_rfl; rfl; kernel_rfl
  apply draw_s; apply pop_fieldAddr_raw; ((repeat (apply eS; rfl)); exact eZ); rfl
  apply draw_s; apply pop_loadO; ((repeat (apply eS; rfl)); exact eZ); (repeat (first | exact hZ | apply hS)); rfl; rfl
  apply draw_s; apply pop_move; ((repeat (apply eS; rfl)); exact eZ)
  apply draw_s; apply pop_fieldAddr_raw; ((repeat (apply eS; rfl)); exact eZ); rfl
  apply draw_s; apply pop_loadO; ((repeat (apply eS; rfl)); exact eZ); (repeat (first | exact hZ | apply hS)); rfl; rfl
  apply draw_s; apply pop_add64; ((repeat (apply eS; rfl)); exact eZ); exact ev_int; (first | omega | (simp only [List.length_map, List.length_replicate, List.length_append, List.length_cons, List.length_nil, List.length_take, List.length_drop, Int.toNat_natCast]; omega) | (simp only [List.length_map, List.length_replicate, List.length_append, List.length_cons, List.length_nil, List.length_take, List.length_drop, Int.toNat_natCast] at *; omega))
  apply draw_s; apply pop_call; rfl; (exact evl_nil); apply FnP.args (posts_fn); exact LeL.refl _
  apply draw_s; apply pop_call; rfl; (apply evl_cons; ((repeat (apply eS; rfl)); exact eZ); apply evl_cons; ((repeat (apply eS; rfl)); exact eZ); apply evl_cons; ((repeat (apply eS; rfl)); exact eZ); apply evl_cons; ((repeat (apply eS; rfl)); exact eZ); exact evl_nil); apply FnP.args (r2); exact LeL.refl _
  apply draw_s; apply pop_move; ((repeat (apply eS; rfl)); exact eZ)
  apply draw_s; apply pop_extract; ((repeat (apply eS; rfl)); exact eZ); rfl
  apply draw_s; apply pop_extract; ((repeat (apply eS; rfl)); exact eZ); rfl
  apply draw_s; apply pop_assign; ((repeat (apply eS; rfl)); exact eZ)
  apply draw_s; apply pop_assign; ((repeat (apply eS; rfl)); exact eZ)
  apply draw_end
  (repeat (first | apply from_nil | apply sim_seq | apply sim_skip | apply sim_block | apply sim_label | apply sim_exit))
  (repeat (first | apply from_nil | apply sim_seq | apply sim_skip | apply sim_block | apply sim_label | apply sim_exit))
  apply sim_region
  apply from_s; apply pop_move; ((repeat (apply eS; rfl)); exact eZ); rfl
  apply from_s; apply pop_fieldAddr_raw; ((repeat (apply eS; rfl)); exact eZ); rfl; rfl
  apply from_e; apply eop_storeO; ((repeat (apply eS; rfl)); exact eZ); ((repeat (apply eS; rfl)); exact eZ); (repeat (first | exact rZ | apply rS)); ((repeat (apply LayR.skip)); (repeat (apply LayR.cons)); exact LayR.nil _); rfl; rfl; rfl
  (repeat (first | apply from_nil | apply sim_seq | apply sim_skip | apply sim_block | apply sim_label | apply sim_exit))
  (repeat (first | apply from_nil | apply sim_seq | apply sim_skip | apply sim_block | apply sim_label | apply sim_exit))
  apply sim_region
  apply from_s; apply pop_loadO_agg; ((repeat (apply eS; rfl)); exact eZ); (repeat (first | exact hZ | apply hS)); ((repeat (apply TakeR.skip)); (repeat (apply TakeR.cons)); exact TakeR.nil _); rfl
  apply from_s; apply pop_move; ((repeat (apply eS; rfl)); exact eZ); rfl
  apply from_e; apply eop_storeO; ((repeat (apply eS; rfl)); exact eZ); ((repeat (apply eS; rfl)); exact eZ); (repeat (first | exact rZ | apply rS)); ((repeat (apply LayR.skip)); (repeat (apply LayR.cons)); exact LayR.nil _); rfl; rfl; rfl
  apply from_s; apply pop_assign; ((repeat (apply eS; rfl)); exact eZ); rfl
  (repeat (first | apply from_nil | apply sim_seq | apply sim_skip | apply sim_block | apply sim_label | apply sim_exit))
  (apply sim_ret; (try simp only [blockΨ_ret, thenΨ_ret, loopL_ret, cutΨ_ret]); ((first | apply fin_ret | apply fin_normal); rfl; (repeat (first | exact resl_nil | (apply resl_tmp; ((repeat (apply gS; rfl)); exact gZ)) | (apply resl_cellO; ((repeat (apply gS; rfl)); exact gZ); (repeat (first | exact hZ | apply hS)); ((repeat (apply TakeR.skip)); (repeat (apply TakeR.cons)); exact TakeR.nil _)) | (apply resl_cell1O; ((repeat (apply gS; rfl)); exact gZ); (repeat (first | exact hZ | apply hS)); rfl)))))
  (first | exact Le.refl _ | exact Le.nil _ | exact Le.full _ _ | exact Le.any _ | (apply Le.agg; (repeat (apply LeL.cons; (first | exact Le.refl _ | exact Le.nil _ | exact Le.full _ _ | exact Le.any _))); exact LeL.nil) | (apply Le.tup; (repeat (apply LeL.cons; (first | exact Le.refl _ | exact Le.nil _ | exact Le.full _ _ | exact Le.any _ | (apply Le.agg; (repeat (apply LeL.cons; (first | exact Le.refl _ | exact Le.nil _ | exact Le.full _ _ | exact Le.any _))); exact LeL.nil)))); exact LeL.nil))
theorem force_fn (l : Lo) (b : List UInt8) (h : FitL l) (hb : b.length ≤ 1000000) : FnP Try.prog 9 [el l, ebs b] (fun r => r = .tup [el (forceF l b).1, .v (.int .i64 (forceF l b).2)]) := by
  have r1 := own_fn l h.posts h.forced
  have r2 := put_fn l.forced b (l.height + 1) 200 60 h.forced hb (by omega)
  have h1 := h.low
  have h2 := h.high
  refine fn_enter Try.func9 (by rfl) (by rfl) ?_
  intro S0 w0
  show Sim _ _ [(0, .agg [.v (.int .i64 l.height), eps l.posts, eps l.forced]), (1, _)] _ _
  (repeat (first | apply from_nil | apply sim_seq | apply sim_skip | apply sim_block | apply sim_label | apply sim_exit))
  apply sim_region
  apply from_e; apply eop_box; ((repeat (apply eS; rfl)); exact eZ); rfl; rfl; intro b2 _
  apply from_e; apply eop_alloc; rfl; intro b4 _
  apply from_s; apply pop_assign; exact ev_int; rfl
  (repeat (first | apply from_nil | apply sim_seq | apply sim_skip | apply sim_block | apply sim_label | apply sim_exit))
  (repeat (first | apply from_nil | apply sim_seq | apply sim_skip | apply sim_block | apply sim_label | apply sim_exit))
  apply sim_region
  apply from_s; apply pop_loadO_agg; ((repeat (apply eS; rfl)); exact eZ); (repeat (first | exact hZ | apply hS)); ((repeat (apply TakeR.skip)); (repeat (apply TakeR.cons)); exact TakeR.nil _); rfl
  apply from_s; apply pop_call; rfl; (apply evl_cons; ((repeat (apply eS; rfl)); exact eZ); exact evl_nil); apply FnP.args (r1); exact LeL.refl _; rfl
  apply from_e; apply eop_storeO; ((repeat (apply eS; rfl)); exact eZ); ((repeat (apply eS; rfl)); exact eZ); (repeat (first | exact rZ | apply rS)); ((repeat (apply LayR.skip)); (repeat (apply LayR.cons)); exact LayR.nil _); rfl; rfl; rfl
  (repeat (first | apply from_nil | apply sim_seq | apply sim_skip | apply sim_block | apply sim_label | apply sim_exit))
  (repeat (first | apply from_nil | apply sim_seq | apply sim_skip | apply sim_block | apply sim_label | apply sim_exit))
  apply sim_rdraw 13; kernel_rfl; rfl; kernel_rfl
  apply draw_s; apply pop_fieldAddr_raw; ((repeat (apply eS; rfl)); exact eZ); rfl
  apply draw_s; apply pop_loadO; ((repeat (apply eS; rfl)); exact eZ); (repeat (first | exact hZ | apply hS)); rfl; rfl
  apply draw_s; apply pop_move; ((repeat (apply eS; rfl)); exact eZ)
  apply draw_s; apply pop_fieldAddr_raw; ((repeat (apply eS; rfl)); exact eZ); rfl
  apply draw_s; apply pop_loadO; ((repeat (apply eS; rfl)); exact eZ); (repeat (first | exact hZ | apply hS)); rfl; rfl
  apply draw_s; apply pop_add64; ((repeat (apply eS; rfl)); exact eZ); exact ev_int; (first | omega | (simp only [List.length_map, List.length_replicate, List.length_append, List.length_cons, List.length_nil, List.length_take, List.length_drop, Int.toNat_natCast]; omega) | (simp only [List.length_map, List.length_replicate, List.length_append, List.length_cons, List.length_nil, List.length_take, List.length_drop, Int.toNat_natCast] at *; omega))
  apply draw_s; apply pop_call; rfl; (exact evl_nil); apply FnP.args (forced_fn); exact LeL.refl _
  apply draw_s; apply pop_call; rfl; (apply evl_cons; ((repeat (apply eS; rfl)); exact eZ); apply evl_cons; ((repeat (apply eS; rfl)); exact eZ); apply evl_cons; ((repeat (apply eS; rfl)); exact eZ); apply evl_cons; ((repeat (apply eS; rfl)); exact eZ); exact evl_nil); apply FnP.args (r2); exact LeL.refl _
  apply draw_s; apply pop_move; ((repeat (apply eS; rfl)); exact eZ)
  apply draw_s; apply pop_extract; ((repeat (apply eS; rfl)); exact eZ); rfl
  apply draw_s; apply pop_extract; ((repeat (apply eS; rfl)); exact eZ); rfl
  apply draw_s; apply pop_assign; ((repeat (apply eS; rfl)); exact eZ)
  apply draw_s; apply pop_assign; ((repeat (apply eS; rfl)); exact eZ)
  apply draw_end
  (repeat (first | apply from_nil | apply sim_seq | apply sim_skip | apply sim_block | apply sim_label | apply sim_exit))
  (repeat (first | apply from_nil | apply sim_seq | apply sim_skip | apply sim_block | apply sim_label | apply sim_exit))
  apply sim_region
  apply from_s; apply pop_move; ((repeat (apply eS; rfl)); exact eZ); rfl
  apply from_s; apply pop_fieldAddr_raw; ((repeat (apply eS; rfl)); exact eZ); rfl; rfl
  apply from_e; apply eop_storeO; ((repeat (apply eS; rfl)); exact eZ); ((repeat (apply eS; rfl)); exact eZ); (repeat (first | exact rZ | apply rS)); ((repeat (apply LayR.skip)); (repeat (apply LayR.cons)); exact LayR.nil _); rfl; rfl; rfl
  (repeat (first | apply from_nil | apply sim_seq | apply sim_skip | apply sim_block | apply sim_label | apply sim_exit))
  (repeat (first | apply from_nil | apply sim_seq | apply sim_skip | apply sim_block | apply sim_label | apply sim_exit))
  apply sim_region
  apply from_s; apply pop_loadO_agg; ((repeat (apply eS; rfl)); exact eZ); (repeat (first | exact hZ | apply hS)); ((repeat (apply TakeR.skip)); (repeat (apply TakeR.cons)); exact TakeR.nil _); rfl
  apply from_s; apply pop_move; ((repeat (apply eS; rfl)); exact eZ); rfl
  apply from_e; apply eop_storeO; ((repeat (apply eS; rfl)); exact eZ); ((repeat (apply eS; rfl)); exact eZ); (repeat (first | exact rZ | apply rS)); ((repeat (apply LayR.skip)); (repeat (apply LayR.cons)); exact LayR.nil _); rfl; rfl; rfl
  apply from_s; apply pop_assign; ((repeat (apply eS; rfl)); exact eZ); rfl
  (repeat (first | apply from_nil | apply sim_seq | apply sim_skip | apply sim_block | apply sim_label | apply sim_exit))
  (apply sim_ret; (try simp only [blockΨ_ret, thenΨ_ret, loopL_ret, cutΨ_ret]); ((first | apply fin_ret | apply fin_normal); rfl; (repeat (first | exact resl_nil | (apply resl_tmp; ((repeat (apply gS; rfl)); exact gZ)) | (apply resl_cellO; ((repeat (apply gS; rfl)); exact gZ); (repeat (first | exact hZ | apply hS)); ((repeat (apply TakeR.skip)); (repeat (apply TakeR.cons)); exact TakeR.nil _)) | (apply resl_cell1O; ((repeat (apply gS; rfl)); exact gZ); (repeat (first | exact hZ | apply hS)); rfl)))))
  (first | exact Le.refl _ | exact Le.nil _ | exact Le.full _ _ | exact Le.any _ | (apply Le.agg; (repeat (apply LeL.cons; (first | exact Le.refl _ | exact Le.nil _ | exact Le.full _ _ | exact Le.any _))); exact LeL.nil) | (apply Le.tup; (repeat (apply LeL.cons; (first | exact Le.refl _ | exact Le.nil _ | exact Le.full _ _ | exact Le.any _ | (apply Le.agg; (repeat (apply LeL.cons; (first | exact Le.refl _ | exact Le.nil _ | exact Le.full _ _ | exact Le.any _))); exact LeL.nil)))); exact LeL.nil))
theorem next_fn (l : Lo) (n : Int) (h : FitL l) : FnP Try.prog 15 [el l, .v (.int .i64 n)] (fun r => r = .tup [el (nextF l n).1, .v (.int .i64 (nextF l n).2)]) := by
  have r1 := own_fn l h.posts h.forced
  have h1 := h.low
  have h2 := h.high
  refine fn_enter Try.func15 (by rfl) (by rfl) ?_
  intro S0 w0
  show Sim _ _ [(0, .agg [.v (.int .i64 l.height), eps l.posts, eps l.forced]), (1, _)] _ _
  (repeat (first | apply from_nil | apply sim_seq | apply sim_skip | apply sim_block | apply sim_label | apply sim_exit))
  apply sim_region
  apply from_e; apply eop_box; ((repeat (apply eS; rfl)); exact eZ); rfl; rfl; intro b2 _
  apply from_e; apply eop_alloc; rfl; intro b4 _
  apply from_s; apply pop_assign; exact ev_int; rfl
  (repeat (first | apply from_nil | apply sim_seq | apply sim_skip | apply sim_block | apply sim_label | apply sim_exit))
  (repeat (first | apply from_nil | apply sim_seq | apply sim_skip | apply sim_block | apply sim_label | apply sim_exit))
  apply sim_region
  apply from_s; apply pop_loadO_agg; ((repeat (apply eS; rfl)); exact eZ); (repeat (first | exact hZ | apply hS)); ((repeat (apply TakeR.skip)); (repeat (apply TakeR.cons)); exact TakeR.nil _); rfl
  apply from_s; apply pop_call; rfl; (apply evl_cons; ((repeat (apply eS; rfl)); exact eZ); exact evl_nil); apply FnP.args (r1); exact LeL.refl _; rfl
  apply from_e; apply eop_storeO; ((repeat (apply eS; rfl)); exact eZ); ((repeat (apply eS; rfl)); exact eZ); (repeat (first | exact rZ | apply rS)); ((repeat (apply LayR.skip)); (repeat (apply LayR.cons)); exact LayR.nil _); rfl; rfl; rfl
  (repeat (first | apply from_nil | apply sim_seq | apply sim_skip | apply sim_block | apply sim_label | apply sim_exit))
  (repeat (first | apply from_nil | apply sim_seq | apply sim_skip | apply sim_block | apply sim_label | apply sim_exit))
  apply sim_region
  apply from_s; apply pop_move; ((repeat (apply eS; rfl)); exact eZ); rfl
  apply from_s; apply pop_lss; ((repeat (apply eS; rfl)); exact eZ); exact ev_int; rfl
  apply from_s; apply pop_move; ((repeat (apply eS; rfl)); exact eZ); rfl
  apply from_gF; rfl; ((repeat (apply gS; rfl)); exact gZ); (intro hg; apply pop_move; ((repeat (apply eS; rfl)); exact eZ)); rfl
  apply from_gF; rfl; ((repeat (apply gS; rfl)); exact gZ); (intro hg; apply pop_gtr; (apply ev_un; ((repeat (apply eS; rfl)); exact eZ); exact hg); exact ev_int); rfl
  apply from_s; apply pop_pick_or; ((repeat (apply eS; rfl)); exact eZ); exact ev_bool; ((repeat (apply eS; rfl)); exact eZ); rfl
  apply from_s; apply pop_assign; ((repeat (apply eS; rfl)); exact eZ); rfl
  (repeat (first | apply from_nil | apply sim_seq | apply sim_skip | apply sim_block | apply sim_label | apply sim_exit))
  apply sim_cond; ((repeat (apply eS; rfl)); exact eZ)
  · intro hc
    (repeat (first | apply from_nil | apply sim_seq | apply sim_skip | apply sim_block | apply sim_label | apply sim_exit))
    apply sim_region
    apply from_s; apply pop_loadO_agg; ((repeat (apply eS; rfl)); exact eZ); (repeat (first | exact hZ | apply hS)); ((repeat (apply TakeR.skip)); (repeat (apply TakeR.cons)); exact TakeR.nil _); rfl
    apply from_e; apply eop_storeO; ((repeat (apply eS; rfl)); exact eZ); ((repeat (apply eS; rfl)); exact eZ); (repeat (first | exact rZ | apply rS)); ((repeat (apply LayR.skip)); (repeat (apply LayR.cons)); exact LayR.nil _); rfl; rfl; rfl
    apply from_s; apply pop_assign; exact ev_int; rfl
    (repeat (first | apply from_nil | apply sim_seq | apply sim_skip | apply sim_block | apply sim_label | apply sim_exit))
    (apply sim_ret; (try simp only [blockΨ_ret, thenΨ_ret, loopL_ret, cutΨ_ret]); ((first | apply fin_ret | apply fin_normal); rfl; (repeat (first | exact resl_nil | (apply resl_tmp; ((repeat (apply gS; rfl)); exact gZ)) | (apply resl_cellO; ((repeat (apply gS; rfl)); exact gZ); (repeat (first | exact hZ | apply hS)); ((repeat (apply TakeR.skip)); (repeat (apply TakeR.cons)); exact TakeR.nil _)) | (apply resl_cell1O; ((repeat (apply gS; rfl)); exact gZ); (repeat (first | exact hZ | apply hS)); rfl)))))
    simp only [nextF, if_pos hc]; (first | exact Le.refl _ | exact Le.nil _ | exact Le.full _ _ | exact Le.any _ | (apply Le.agg; (repeat (apply LeL.cons; (first | exact Le.refl _ | exact Le.nil _ | exact Le.full _ _ | exact Le.any _))); exact LeL.nil) | (apply Le.tup; (repeat (apply LeL.cons; (first | exact Le.refl _ | exact Le.nil _ | exact Le.full _ _ | exact Le.any _ | (apply Le.agg; (repeat (apply LeL.cons; (first | exact Le.refl _ | exact Le.nil _ | exact Le.full _ _ | exact Le.any _))); exact LeL.nil)))); exact LeL.nil))
  intro hc
  (repeat (first | apply from_nil | apply sim_seq | apply sim_skip | apply sim_block | apply sim_label | apply sim_exit))
  apply sim_region
  apply from_s; apply pop_fieldAddr_raw; ((repeat (apply eS; rfl)); exact eZ); rfl; rfl
  apply from_s; apply pop_loadO; ((repeat (apply eS; rfl)); exact eZ); (repeat (first | exact hZ | apply hS)); rfl; rfl; rfl
  apply from_s; apply pop_move; ((repeat (apply eS; rfl)); exact eZ); rfl
  apply from_s; apply pop_sub64; exact ev_int; ((repeat (apply eS; rfl)); exact eZ); (first | omega | (simp only [List.length_map, List.length_replicate, List.length_append, List.length_cons, List.length_nil, List.length_take, List.length_drop, Int.toNat_natCast]; omega) | (simp only [List.length_map, List.length_replicate, List.length_append, List.length_cons, List.length_nil, List.length_take, List.length_drop, Int.toNat_natCast] at *; omega)); rfl
  apply from_s; apply pop_gtr; ((repeat (apply eS; rfl)); exact eZ); ((repeat (apply eS; rfl)); exact eZ); rfl
  apply from_s; apply pop_assign; ((repeat (apply eS; rfl)); exact eZ); rfl
  (repeat (first | apply from_nil | apply sim_seq | apply sim_skip | apply sim_block | apply sim_label | apply sim_exit))
  apply sim_cond; ((repeat (apply eS; rfl)); exact eZ)
  · intro hc'
    (repeat (first | apply from_nil | apply sim_seq | apply sim_skip | apply sim_block | apply sim_label | apply sim_exit))
    apply sim_region
    apply from_s; apply pop_loadO_agg; ((repeat (apply eS; rfl)); exact eZ); (repeat (first | exact hZ | apply hS)); ((repeat (apply TakeR.skip)); (repeat (apply TakeR.cons)); exact TakeR.nil _); rfl
    apply from_e; apply eop_storeO; ((repeat (apply eS; rfl)); exact eZ); ((repeat (apply eS; rfl)); exact eZ); (repeat (first | exact rZ | apply rS)); ((repeat (apply LayR.skip)); (repeat (apply LayR.cons)); exact LayR.nil _); rfl; rfl; rfl
    apply from_s; apply pop_assign; exact ev_int; rfl
    (repeat (first | apply from_nil | apply sim_seq | apply sim_skip | apply sim_block | apply sim_label | apply sim_exit))
    (apply sim_ret; (try simp only [blockΨ_ret, thenΨ_ret, loopL_ret, cutΨ_ret]); ((first | apply fin_ret | apply fin_normal); rfl; (repeat (first | exact resl_nil | (apply resl_tmp; ((repeat (apply gS; rfl)); exact gZ)) | (apply resl_cellO; ((repeat (apply gS; rfl)); exact gZ); (repeat (first | exact hZ | apply hS)); ((repeat (apply TakeR.skip)); (repeat (apply TakeR.cons)); exact TakeR.nil _)) | (apply resl_cell1O; ((repeat (apply gS; rfl)); exact gZ); (repeat (first | exact hZ | apply hS)); rfl)))))
    simp only [nextF, if_neg hc, if_pos hc']; (first | exact Le.refl _ | exact Le.nil _ | exact Le.full _ _ | exact Le.any _ | (apply Le.agg; (repeat (apply LeL.cons; (first | exact Le.refl _ | exact Le.nil _ | exact Le.full _ _ | exact Le.any _))); exact LeL.nil) | (apply Le.tup; (repeat (apply LeL.cons; (first | exact Le.refl _ | exact Le.nil _ | exact Le.full _ _ | exact Le.any _ | (apply Le.agg; (repeat (apply LeL.cons; (first | exact Le.refl _ | exact Le.nil _ | exact Le.full _ _ | exact Le.any _))); exact LeL.nil)))); exact LeL.nil))
  intro hc'
  (repeat (first | apply from_nil | apply sim_seq | apply sim_skip | apply sim_block | apply sim_label | apply sim_exit))
  apply sim_region
  apply from_s; apply pop_fieldAddr_raw; ((repeat (apply eS; rfl)); exact eZ); rfl; rfl
  apply from_s; apply pop_loadO; ((repeat (apply eS; rfl)); exact eZ); (repeat (first | exact hZ | apply hS)); rfl; rfl; rfl
  apply from_s; apply pop_move; ((repeat (apply eS; rfl)); exact eZ); rfl
  apply from_s; apply pop_add64; ((repeat (apply eS; rfl)); exact eZ); ((repeat (apply eS; rfl)); exact eZ); (first | omega | (simp only [List.length_map, List.length_replicate, List.length_append, List.length_cons, List.length_nil, List.length_take, List.length_drop, Int.toNat_natCast]; omega) | (simp only [List.length_map, List.length_replicate, List.length_append, List.length_cons, List.length_nil, List.length_take, List.length_drop, Int.toNat_natCast] at *; omega)); rfl
  apply from_s; apply pop_fieldAddr_raw; ((repeat (apply eS; rfl)); exact eZ); rfl; rfl
  apply from_e; apply eop_storeO; ((repeat (apply eS; rfl)); exact eZ); ((repeat (apply eS; rfl)); exact eZ); (repeat (first | exact rZ | apply rS)); ((repeat (apply LayR.skip)); (repeat (apply LayR.cons)); exact LayR.nil _); rfl; rfl; rfl
  (repeat (first | apply from_nil | apply sim_seq | apply sim_skip | apply sim_block | apply sim_label | apply sim_exit))
  (repeat (first | apply from_nil | apply sim_seq | apply sim_skip | apply sim_block | apply sim_label | apply sim_exit))
  apply sim_region
  apply from_s; apply pop_loadO_agg; ((repeat (apply eS; rfl)); exact eZ); (repeat (first | exact hZ | apply hS)); ((repeat (apply TakeR.skip)); (repeat (apply TakeR.cons)); exact TakeR.nil _); rfl
  apply from_e; apply eop_storeO; ((repeat (apply eS; rfl)); exact eZ); ((repeat (apply eS; rfl)); exact eZ); (repeat (first | exact rZ | apply rS)); ((repeat (apply LayR.skip)); (repeat (apply LayR.cons)); exact LayR.nil _); rfl; rfl; rfl
  apply from_s; apply pop_assign; exact ev_int; rfl
  (repeat (first | apply from_nil | apply sim_seq | apply sim_skip | apply sim_block | apply sim_label | apply sim_exit))
  (apply sim_ret; (try simp only [blockΨ_ret, thenΨ_ret, loopL_ret, cutΨ_ret]); ((first | apply fin_ret | apply fin_normal); rfl; (repeat (first | exact resl_nil | (apply resl_tmp; ((repeat (apply gS; rfl)); exact gZ)) | (apply resl_cellO; ((repeat (apply gS; rfl)); exact gZ); (repeat (first | exact hZ | apply hS)); ((repeat (apply TakeR.skip)); (repeat (apply TakeR.cons)); exact TakeR.nil _)) | (apply resl_cell1O; ((repeat (apply gS; rfl)); exact gZ); (repeat (first | exact hZ | apply hS)); rfl)))))
  simp only [nextF, if_neg hc, if_neg hc']; (first | exact Le.refl _ | exact Le.nil _ | exact Le.full _ _ | exact Le.any _ | (apply Le.agg; (repeat (apply LeL.cons; (first | exact Le.refl _ | exact Le.nil _ | exact Le.full _ _ | exact Le.any _))); exact LeL.nil) | (apply Le.tup; (repeat (apply LeL.cons; (first | exact Le.refl _ | exact Le.nil _ | exact Le.full _ _ | exact Le.any _ | (apply Le.agg; (repeat (apply LeL.cons; (first | exact Le.refl _ | exact Le.nil _ | exact Le.full _ _ | exact Le.any _))); exact LeL.nil)))); exact LeL.nil))
end Go.Proofs.Ythndbbjkkehjeaa
