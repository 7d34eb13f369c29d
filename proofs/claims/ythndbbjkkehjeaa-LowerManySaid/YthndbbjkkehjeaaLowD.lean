/-
  Chapter 14: the example; many posts.
-/
import Derived.Test.YthndbbjkkehjeaaLowB
import Derived.Test.YthndbbjkkehjeaaLowC
set_option maxRecDepth 4000
namespace Go.Proofs.Ythndbbjkkehjeaa
open Go.Cap
set_option linter.unusedSimpArgs false
set_option linter.unusedVariables false
attribute [local irreducible] POp SimFrom DrawFrom EOp Sim FnH T.gp
theorem fit_nil : Fit [] := ⟨by simp, by simp⟩
def lo0 : Lo := ⟨0, [], []⟩
def lo1 : Lo := ⟨0, [⟨1, [1]⟩], []⟩
def lo2 : Lo := ⟨1, [⟨1, [1]⟩], []⟩
theorem fit_one : Fit [⟨1, [1]⟩] := ⟨by simp, by simp⟩
theorem known_fn : FnP Try.prog 6 [] (fun r => r = .v (.bool (decide True))) := by
  have p : FnP Try.prog 8 [el lo0, ebs [1]] (fun r => r = .tup [el lo1, .v (.int .i64 0)]) := post_fn lo0 [1] ⟨fit_nil, fit_nil, by decide, by decide⟩ (by decide)
  have q : FnP Try.prog 15 [el lo1, .v (.int .i64 1)] (fun r => r = .tup [el lo2, .v (.int .i64 0)]) := next_fn lo1 1 ⟨fit_one, fit_nil, by decide, by decide⟩
  refine fn_enter Try.func6 (by rfl) (by rfl) ?_
  intro S0 w0
  show Sim _ _ [] _ _
  (repeat (first | apply from_nil | apply sim_seq | apply sim_skip | apply sim_block | apply sim_label | apply sim_exit))
  apply sim_region
  apply from_s; apply pop_assign; exact ev_bool; rfl
  (repeat (first | apply from_nil | apply sim_seq | apply sim_skip | apply sim_block | apply sim_label | apply sim_exit))
  (repeat (first | apply from_nil | apply sim_seq | apply sim_skip | apply sim_block | apply sim_label | apply sim_exit))
  apply sim_region
  apply from_s; apply pop_build 3 [_, _, _]; rfl; rfl; ( exact evp_nil); rfl; rfl
  apply from_s; apply pop_buildSlice; rfl; rfl; decide; (apply evq_cons; exact ev_int;  exact evq_nil); (repeat (first | exact lenOk_nil | (apply lenOk_map; intro _; rfl) | apply lenOk_append | apply lenOk_take | apply lenOk_drop | (apply lenOk_cons; rfl))); rfl
  apply from_s; apply pop_call; rfl; (apply evl_cons; ((repeat (apply eS; rfl)); exact eZ); apply evl_cons; ((repeat (apply eS; rfl)); exact eZ); exact evl_nil); apply FnP.args (p); ((repeat (apply LeL.cons; (first | exact Le.refl _ | exact Le.nil _ | exact Le.full _ _ | exact Le.any _ | (apply Le.agg; (repeat (apply LeL.cons; (first | exact Le.refl _ | exact Le.nil _ | exact Le.full _ _ | exact Le.any _))); exact LeL.nil) | (apply Le.tup; (repeat (apply LeL.cons; (first | exact Le.refl _ | exact Le.nil _ | exact Le.full _ _ | exact Le.any _ | (apply Le.agg; (repeat (apply LeL.cons; (first | exact Le.refl _ | exact Le.nil _ | exact Le.full _ _ | exact Le.any _))); exact LeL.nil)))); exact LeL.nil)))); exact LeL.nil); rfl
  apply from_s; apply pop_move; ((repeat (apply eS; rfl)); exact eZ); rfl
  apply from_s; apply pop_extract; ((repeat (apply eS; rfl)); exact eZ); rfl; rfl
  apply from_s; apply pop_extract; ((repeat (apply eS; rfl)); exact eZ); rfl; rfl
  apply from_e; apply eop_alloc; rfl; intro b1 _
  apply from_e; apply eop_storeO; ((repeat (apply eS; rfl)); exact eZ); ((repeat (apply eS; rfl)); exact eZ); (repeat (first | exact rZ | apply rS)); ((repeat (apply LayR.skip)); (repeat (apply LayR.cons)); exact LayR.nil _); rfl; rfl; rfl
  apply from_s; apply pop_assign; ((repeat (apply eS; rfl)); exact eZ); rfl
  (repeat (first | apply from_nil | apply sim_seq | apply sim_skip | apply sim_block | apply sim_label | apply sim_exit))
  (repeat (first | apply from_nil | apply sim_seq | apply sim_skip | apply sim_block | apply sim_label | apply sim_exit))
  apply sim_region
  apply from_s; apply pop_loadO_agg; ((repeat (apply eS; rfl)); exact eZ); (repeat (first | exact hZ | apply hS)); ((repeat (apply TakeR.skip)); (repeat (apply TakeR.cons)); exact TakeR.nil _); rfl
  apply from_s; apply pop_call; rfl; (apply evl_cons; ((repeat (apply eS; rfl)); exact eZ); apply evl_cons; exact ev_int; exact evl_nil); apply FnP.args (q); exact LeL.refl _; rfl
  apply from_s; apply pop_move; ((repeat (apply eS; rfl)); exact eZ); rfl
  apply from_s; apply pop_extract; ((repeat (apply eS; rfl)); exact eZ); rfl; rfl
  apply from_s; apply pop_extract; ((repeat (apply eS; rfl)); exact eZ); rfl; rfl
  apply from_e; apply eop_storeO; ((repeat (apply eS; rfl)); exact eZ); ((repeat (apply eS; rfl)); exact eZ); (repeat (first | exact rZ | apply rS)); ((repeat (apply LayR.skip)); (repeat (apply LayR.cons)); exact LayR.nil _); rfl; rfl; rfl
  apply from_s; apply pop_assign; ((repeat (apply eS; rfl)); exact eZ); rfl
  (repeat (first | apply from_nil | apply sim_seq | apply sim_skip | apply sim_block | apply sim_label | apply sim_exit))
  (repeat (first | apply from_nil | apply sim_seq | apply sim_skip | apply sim_block | apply sim_label | apply sim_exit))
  apply sim_region
  apply from_s; apply pop_move; ((repeat (apply eS; rfl)); exact eZ); rfl
  apply from_s; apply pop_eql; ((repeat (apply eS; rfl)); exact eZ); exact ev_int; rfl
  apply from_s; apply pop_move; ((repeat (apply eS; rfl)); exact eZ); rfl
  apply from_gT; rfl; ((repeat (apply gS; rfl)); exact gZ); (intro hg; apply pop_move; ((repeat (apply eS; rfl)); exact eZ)); rfl
  apply from_gT; rfl; ((repeat (apply gS; rfl)); exact gZ); (intro hg; apply pop_eql; (apply ev_un; ((repeat (apply eS; rfl)); exact eZ); exact hg); exact ev_int); rfl
  apply from_s; apply pop_pick_and; ((repeat (apply eS; rfl)); exact eZ); ((repeat (apply eS; rfl)); exact eZ); exact ev_bool; rfl
  apply from_s; apply pop_move; ((repeat (apply eS; rfl)); exact eZ); rfl
  apply from_gT; rfl; ((repeat (apply gS; rfl)); exact gZ); (intro hg; apply pop_fieldAddr_raw; ((repeat (apply eS; rfl)); exact eZ); rfl); rfl
  apply from_gT; rfl; ((repeat (apply gS; rfl)); exact gZ); (intro hg; apply pop_loadO; (apply ev_un; ((repeat (apply eS; rfl)); exact eZ); exact hg); (repeat (first | exact hZ | apply hS)); rfl; rfl); rfl
  apply from_gT; rfl; ((repeat (apply gS; rfl)); exact gZ); (intro hg; apply pop_eql; (apply ev_un; ((repeat (apply eS; rfl)); exact eZ); exact hg); exact ev_int); rfl
  apply from_s; apply pop_pick_and; ((repeat (apply eS; rfl)); exact eZ); ((repeat (apply eS; rfl)); exact eZ); exact ev_bool; rfl
  apply from_s; apply pop_move; ((repeat (apply eS; rfl)); exact eZ); rfl
  apply from_gT; rfl; ((repeat (apply gS; rfl)); exact gZ); (intro hg; apply pop_fieldAddr_raw; ((repeat (apply eS; rfl)); exact eZ); rfl); rfl
  apply from_gT; rfl; ((repeat (apply gS; rfl)); exact gZ); (intro hg; apply pop_loadO; (apply ev_un; ((repeat (apply eS; rfl)); exact eZ); exact hg); (repeat (first | exact hZ | apply hS)); rfl; rfl); rfl
  apply from_gT; rfl; ((repeat (apply gS; rfl)); exact gZ); (intro hg; (first | (apply pop_len; (apply ev_un; ((repeat (apply eS; rfl)); exact eZ); exact hg); rfl) | (apply pop_len_raw; (apply ev_un; ((repeat (apply eS; rfl)); exact eZ); exact hg); rfl))); rfl
  apply from_gT; rfl; ((repeat (apply gS; rfl)); exact gZ); (intro hg; apply pop_eql; (apply ev_un; ((repeat (apply eS; rfl)); exact eZ); exact hg); exact ev_int); rfl
  apply from_s; apply pop_pick_and; ((repeat (apply eS; rfl)); exact eZ); ((repeat (apply eS; rfl)); exact eZ); exact ev_bool; rfl
  apply from_s; apply pop_move; ((repeat (apply eS; rfl)); exact eZ); rfl
  apply from_gT; rfl; ((repeat (apply gS; rfl)); exact gZ); (intro hg; apply pop_fieldAddr_raw; ((repeat (apply eS; rfl)); exact eZ); rfl); rfl
  apply from_gT; rfl; ((repeat (apply gS; rfl)); exact gZ); (intro hg; apply pop_loadO; (apply ev_un; ((repeat (apply eS; rfl)); exact eZ); exact hg); (repeat (first | exact hZ | apply hS)); rfl; rfl); rfl
  apply from_gT; rfl; ((repeat (apply gS; rfl)); exact gZ); (intro hg; (first | (apply pop_indexAddr; (apply ev_un; ((repeat (apply eS; rfl)); exact eZ); exact hg); exact ev_int; (first | omega | (simp only [List.length_map, List.length_replicate, List.length_append, List.length_cons, List.length_nil, List.length_take, List.length_drop, Int.toNat_natCast]; omega) | (simp only [List.length_map, List.length_replicate, List.length_append, List.length_cons, List.length_nil, List.length_take, List.length_drop, Int.toNat_natCast] at *; omega)); (first | exact map_get hix | exact map_get hix2 | exact map_get (by (first | omega | (simp only [List.length_map, List.length_replicate, List.length_append, List.length_cons, List.length_nil, List.length_take, List.length_drop, Int.toNat_natCast]; omega) | (simp only [List.length_map, List.length_replicate, List.length_append, List.length_cons, List.length_nil, List.length_take, List.length_drop, Int.toNat_natCast] at *; omega))) | rfl); rfl; rfl) | (apply pop_indexAddr_raw; (apply ev_un; ((repeat (apply eS; rfl)); exact eZ); exact hg); exact ev_int; (first | omega | (simp only [List.length_map, List.length_replicate, List.length_append, List.length_cons, List.length_nil, List.length_take, List.length_drop, Int.toNat_natCast]; omega) | (simp only [List.length_map, List.length_replicate, List.length_append, List.length_cons, List.length_nil, List.length_take, List.length_drop, Int.toNat_natCast] at *; omega)); (first | omega | (simp only [List.length_map, List.length_replicate, List.length_append, List.length_cons, List.length_nil, List.length_take, List.length_drop, Int.toNat_natCast]; omega) | (simp only [List.length_map, List.length_replicate, List.length_append, List.length_cons, List.length_nil, List.length_take, List.length_drop, Int.toNat_natCast] at *; omega))))); rfl
  apply from_gT; rfl; ((repeat (apply gS; rfl)); exact gZ); (intro hg; apply pop_fieldAddr; (apply ev_un; ((repeat (apply eS; rfl)); exact eZ); exact hg); rfl; rfl); rfl
  apply from_gT; rfl; ((repeat (apply gS; rfl)); exact gZ); (intro hg; apply pop_load; (apply ev_un; ((repeat (apply eS; rfl)); exact eZ); exact hg); rfl; rfl); rfl
  apply from_gT; rfl; ((repeat (apply gS; rfl)); exact gZ); (intro hg; apply pop_eql; (apply ev_un; ((repeat (apply eS; rfl)); exact eZ); exact hg); exact ev_int); rfl
  apply from_s; apply pop_pick_and; ((repeat (apply eS; rfl)); exact eZ); ((repeat (apply eS; rfl)); exact eZ); exact ev_bool; rfl
  apply from_s; apply pop_assign; ((repeat (apply eS; rfl)); exact eZ); rfl
  (repeat (first | apply from_nil | apply sim_seq | apply sim_skip | apply sim_block | apply sim_label | apply sim_exit))
  (apply sim_ret; (try simp only [blockΨ_ret, thenΨ_ret, loopL_ret, cutΨ_ret]); ((first | apply fin_ret | apply fin_normal); rfl; (repeat (first | exact resl_nil | (apply resl_tmp; ((repeat (apply gS; rfl)); exact gZ)) | (apply resl_cellO; ((repeat (apply gS; rfl)); exact gZ); (repeat (first | exact hZ | apply hS)); ((repeat (apply TakeR.skip)); (repeat (apply TakeR.cons)); exact TakeR.nil _)) | (apply resl_cell1O; ((repeat (apply gS; rfl)); exact gZ); (repeat (first | exact hZ | apply hS)); rfl)))))
  exact Le.of_eq (by rfl)
def lowMost (f : Bool) : Nat := if f = true then 60 else 300
def lowK (f : Bool) (k : Nat) : Lo := if f = true then ⟨0, [], List.replicate (min k 60) ⟨1, []⟩⟩ else ⟨0, List.replicate (min k 300) ⟨1, []⟩, []⟩
theorem fit_rep (n : Nat) (h : n ≤ 300) : Fit (List.replicate n ⟨1, []⟩) := ⟨by simp; omega, fun p hp => by rw [(List.mem_replicate.1 hp).2]; simp⟩
theorem lowK_fit (f : Bool) (k : Nat) : FitL (lowK f k) := by
  cases f <;> exact ⟨by first | exact fit_rep _ (by omega) | exact fit_nil, by first | exact fit_nil | exact fit_rep _ (by omega), by simp [lowK], by simp [lowK]⟩
theorem rep_snoc {α : Type} (n : Nat) (x : α) : List.replicate n x ++ [x] = List.replicate (n + 1) x := by rw [List.replicate_succ']
theorem putF_step (k most : Nat) (long : Int) (hl : 0 ≤ long) :
    putF (List.replicate (min k most) ⟨1, []⟩) [] 1 long most = (List.replicate (min (k + 1) most) ⟨1, []⟩, if k < most then 0 else 4) := by
  unfold putF
  rw [if_neg (by simp; omega)]
  by_cases h : k < most
  · rw [if_neg (by simp; omega), if_pos h, rep_snoc, show min k most + 1 = min (k + 1) most by omega]
  · rw [if_pos (by simp; omega), if_neg h, show min k most = min (k + 1) most by omega]
theorem step_post (k : Nat) : postF (lowK false k) [] = (lowK false (k + 1), if k < 300 then 0 else 4) := by
  have := putF_step k 300 4000 (by omega)
  simp only [postF, lowK, Bool.false_eq_true, if_false, Int.zero_add]
  rw [show ((300 : Int)) = ((300 : Nat) : Int) by rfl, this]
theorem step_force (k : Nat) : forceF (lowK true k) [] = (lowK true (k + 1), if k < 60 then 0 else 4) := by
  have := putF_step k 60 200 (by omega)
  simp only [forceF, lowK, if_true, Int.zero_add]
  rw [show ((60 : Int)) = ((60 : Nat) : Int) by rfl, this]
theorem lowK_same (f : Bool) (k : Nat) (h : lowMost f ≤ k) : lowK f (k + 1) = lowK f k := by
  cases f
  · have h : 300 ≤ k := h
    simp only [lowK, Bool.false_eq_true, if_false]; rw [show min (k + 1) 300 = min k 300 by omega]
  · have h : 60 ≤ k := h
    simp only [lowK, if_true]; rw [show min (k + 1) 60 = min k 60 by omega]
def elc (l : Lo) : List T := [.v (.int .i64 l.height), eps l.posts, eps l.forced]
set_option maxHeartbeats 1000000 in
theorem many_fn (f : Bool) (n : Int) : FnP Try.prog 3 [.v (.bool (decide (f = true))), .v (.int .i64 n)] (fun r => r = .v (.bool true)) := by
  have hn3 : 0 ≤ n % 3 ∧ n % 3 < 3 := by omega
  have cw := within_fn n 3 (by omega) (by omega)
  refine fn_enter Try.func3 (by rfl) (by rfl) ?_
  intro S0 w0
  show Sim _ _ [(0, _), (1, _)] _ _
  (repeat (first | apply from_nil | apply sim_seq | apply sim_skip | apply sim_block | apply sim_label | apply sim_exit))
  apply sim_region
  apply from_s; apply pop_assign; exact ev_bool; rfl
  (repeat (first | apply from_nil | apply sim_seq | apply sim_skip | apply sim_block | apply sim_label | apply sim_exit))
  (repeat (first | apply from_nil | apply sim_seq | apply sim_skip | apply sim_block | apply sim_label | apply sim_exit))
  apply sim_region
  apply from_s; apply pop_call; rfl; (exact evl_nil); apply FnP.args (known_fn); exact LeL.refl _; rfl
  apply from_s; apply pop_notP; ((repeat (apply eS; rfl)); exact eZ); rfl
  (repeat (first | apply from_nil | apply sim_seq | apply sim_skip | apply sim_block | apply sim_label | apply sim_exit))
  apply sim_cond; ((repeat (apply eS; rfl)); exact eZ)
  · intro h; exact absurd trivial h
  intro _
  (repeat (first | apply from_nil | apply sim_seq | apply sim_skip | apply sim_block | apply sim_label | apply sim_exit))
  apply sim_region
  apply from_s; apply pop_build 3 [_, _, _]; rfl; rfl; ( exact evp_nil); rfl; rfl
  apply from_e; apply eop_alloc; rfl; intro b5 _
  apply from_e; apply eop_storeO; ((repeat (apply eS; rfl)); exact eZ); ((repeat (apply eS; rfl)); exact eZ); (repeat (first | exact rZ | apply rS)); ((repeat (apply LayR.skip)); (repeat (apply LayR.cons)); exact LayR.nil _); rfl; rfl; rfl
  (repeat (first | apply from_nil | apply sim_seq | apply sim_skip | apply sim_block | apply sim_label | apply sim_exit))
  (repeat (first | apply from_nil | apply sim_seq | apply sim_skip | apply sim_block | apply sim_label | apply sim_exit))
  apply sim_region
  apply from_s; apply pop_assign; exact ev_int; rfl
  (repeat (first | apply from_nil | apply sim_seq | apply sim_skip | apply sim_block | apply sim_label | apply sim_exit))
  (repeat (first | apply from_nil | apply sim_seq | apply sim_skip | apply sim_block | apply sim_label | apply sim_exit))
  apply sim_region
  apply from_s; apply pop_move; ((repeat (apply eS; rfl)); exact eZ); rfl
  (repeat (first | apply from_nil | apply sim_seq | apply sim_skip | apply sim_block | apply sim_label | apply sim_exit))
  apply sim_cut [(0, .v (.bool (decide (f = true)))), (1, .v (.int .i64 n)), (5, .v (.pointer (some ⟨b5, 0, none⟩))), (6, .v (.int .i64 (lowMost f)))] [(b5, ⟨25, elc lo0, 3⟩)]
  · apply sim_cond; ((repeat (apply eS; rfl)); exact eZ)
    · intro h
      have hm : (lowMost f : Int) = 60 := by simp [lowMost, h]
      (repeat (first | apply from_nil | apply sim_seq | apply sim_skip | apply sim_block | apply sim_label | apply sim_exit))
      apply sim_region
      apply from_s; apply pop_assign; exact ev_int; rfl
      (repeat (first | apply from_nil | apply sim_seq | apply sim_skip | apply sim_block | apply sim_label | apply sim_exit))
      exact ⟨by (repeat (first | exact trivial | (apply And.intro; (apply le_get; ((repeat (apply gS; rfl)); exact gZ); (first | exact Le.refl _ | exact Le.nil _ | exact Le.full _ _ | exact Le.any _ | (apply Le.of_eq; focus (simp; done)) | (apply Le.of_eq; focus (congr 2; omega)) | (apply Le.of_eq; focus (simp [*]; done))))))), HeapFront.keep _ _ _ _ _ (blk_le rfl (by ((repeat (apply LeL.cons; (first | exact Le.refl _ | exact Le.nil _ | exact Le.full _ _ | exact Le.any _ | (apply Le.agg; (repeat (apply LeL.cons; (first | exact Le.refl _ | exact Le.nil _ | exact Le.full _ _ | exact Le.any _))); exact LeL.nil) | (apply Le.tup; (repeat (apply LeL.cons; (first | exact Le.refl _ | exact Le.nil _ | exact Le.full _ _ | exact Le.any _ | (apply Le.agg; (repeat (apply LeL.cons; (first | exact Le.refl _ | exact Le.nil _ | exact Le.full _ _ | exact Le.any _))); exact LeL.nil)))); exact LeL.nil)))); exact LeL.nil)) rfl rfl) (HeapFront.nil _)⟩
    · intro h
      have hm : (lowMost f : Int) = 300 := by simp [lowMost, h]
      (repeat (first | apply from_nil | apply sim_seq | apply sim_skip | apply sim_block | apply sim_label | apply sim_exit))
      exact ⟨by (repeat (first | exact trivial | (apply And.intro; (apply le_get; ((repeat (apply gS; rfl)); exact gZ); (first | exact Le.refl _ | exact Le.nil _ | exact Le.full _ _ | exact Le.any _ | (apply Le.of_eq; focus (simp; done)) | (apply Le.of_eq; focus (congr 2; omega)) | (apply Le.of_eq; focus (simp [*]; done))))))), HeapFront.keep _ _ _ _ _ (blk_le rfl (by ((repeat (apply LeL.cons; (first | exact Le.refl _ | exact Le.nil _ | exact Le.full _ _ | exact Le.any _ | (apply Le.agg; (repeat (apply LeL.cons; (first | exact Le.refl _ | exact Le.nil _ | exact Le.full _ _ | exact Le.any _))); exact LeL.nil) | (apply Le.tup; (repeat (apply LeL.cons; (first | exact Le.refl _ | exact Le.nil _ | exact Le.full _ _ | exact Le.any _ | (apply Le.agg; (repeat (apply LeL.cons; (first | exact Le.refl _ | exact Le.nil _ | exact Le.full _ _ | exact Le.any _))); exact LeL.nil)))); exact LeL.nil)))); exact LeL.nil)) rfl rfl) (HeapFront.nil _)⟩
  have hmo : lowMost f = 60 ∨ lowMost f = 300 := by cases f <;> simp [lowMost]
  (repeat (first | apply from_nil | apply sim_seq | apply sim_skip | apply sim_block | apply sim_label | apply sim_exit))
  apply sim_region
  apply from_s; apply pop_assign; exact ev_int; rfl
  (repeat (first | apply from_nil | apply sim_seq | apply sim_skip | apply sim_block | apply sim_label | apply sim_exit))
  apply sim_loopL (σ := Nat) (ok := fun k => (k : Int) ≤ lowMost f + n % 3) (env := fun k => [(0, .v (.bool (decide (f = true)))), (1, .v (.int .i64 n)), (5, .v (.pointer (some ⟨b5, 0, none⟩))), (6, .v (.int .i64 (lowMost f))), (7, .v (.int .i64 k))])
    (heap := fun k => [(b5, ⟨25, elc (lowK f k), 3⟩)]) (μ := fun k => 310 - k) (s0 := 0)
  · simp; omega
  · (repeat (first | exact trivial | (apply And.intro; (apply le_get; ((repeat (apply gS; rfl)); exact gZ); (first | exact Le.refl _ | exact Le.nil _ | exact Le.full _ _ | exact Le.any _ | (apply Le.of_eq; focus (simp; done)) | (apply Le.of_eq; focus (congr 2; omega)) | (apply Le.of_eq; focus (simp [*]; done)))))))
  · apply HeapFront.keep _ _ _ _ _ (blk_eq rfl ?_ rfl) (HeapFront.nil _)
    cases f <;> rfl
  intro k hk
  (repeat (first | apply from_nil | apply sim_seq | apply sim_skip | apply sim_block | apply sim_label | apply sim_exit))
  apply sim_region
  apply from_s; apply pop_move; ((repeat (apply eS; rfl)); exact eZ); rfl
  apply from_s; apply pop_move; ((repeat (apply eS; rfl)); exact eZ); rfl
  apply from_s; apply pop_move; ((repeat (apply eS; rfl)); exact eZ); rfl
  apply from_s; apply pop_call; rfl; (apply evl_cons; ((repeat (apply eS; rfl)); exact eZ); apply evl_cons; exact ev_int; exact evl_nil); apply FnP.args (cw); exact LeL.refl _; rfl
  apply from_s; apply pop_add64; ((repeat (apply eS; rfl)); exact eZ); ((repeat (apply eS; rfl)); exact eZ); (first | omega | (simp only [List.length_map, List.length_replicate, List.length_append, List.length_cons, List.length_nil, List.length_take, List.length_drop, Int.toNat_natCast]; omega) | (simp only [List.length_map, List.length_replicate, List.length_append, List.length_cons, List.length_nil, List.length_take, List.length_drop, Int.toNat_natCast] at *; omega)); rfl
  apply from_s; apply pop_lss; ((repeat (apply eS; rfl)); exact eZ); ((repeat (apply eS; rfl)); exact eZ); rfl
  (repeat (first | apply from_nil | apply sim_seq | apply sim_skip | apply sim_block | apply sim_label | apply sim_exit))
  have hst : el lo0 = el lo0 := rfl
  apply sim_cond; ((repeat (apply eS; rfl)); exact eZ)
  · intro hlt
    have cp := post_fn (lowK f k) [] (lowK_fit f k) (by simp)
    have cf := force_fn (lowK f k) [] (lowK_fit f k) (by simp)
    have cs := same_fn (lowK f (k + 1)) (lowK f k) (lowK_fit f _).posts (lowK_fit f _).forced (lowK_fit f _).posts (lowK_fit f _).forced
    (repeat (first | apply from_nil | apply sim_seq | apply sim_skip | apply sim_block | apply sim_label | apply sim_exit))
    (repeat (first | apply from_nil | apply sim_seq | apply sim_skip | apply sim_block | apply sim_label | apply sim_exit))
    apply sim_region
    apply from_s; apply pop_loadO_agg; ((repeat (apply eS; rfl)); exact eZ); (repeat (first | exact hZ | apply hS)); ((repeat (apply TakeR.skip)); (repeat (apply TakeR.cons)); exact TakeR.nil _); rfl
    apply from_s; apply pop_call; rfl; (apply evl_cons; ((repeat (apply eS; rfl)); exact eZ); apply evl_cons; exact ev_nil; exact evl_nil); apply FnP.args (cp); ((repeat (apply LeL.cons; (first | exact Le.refl _ | exact Le.nil _ | exact Le.full _ _ | exact Le.any _ | (apply Le.agg; (repeat (apply LeL.cons; (first | exact Le.refl _ | exact Le.nil _ | exact Le.full _ _ | exact Le.any _))); exact LeL.nil) | (apply Le.tup; (repeat (apply LeL.cons; (first | exact Le.refl _ | exact Le.nil _ | exact Le.full _ _ | exact Le.any _ | (apply Le.agg; (repeat (apply LeL.cons; (first | exact Le.refl _ | exact Le.nil _ | exact Le.full _ _ | exact Le.any _))); exact LeL.nil)))); exact LeL.nil)))); exact LeL.nil); rfl
    apply from_s; apply pop_move; ((repeat (apply eS; rfl)); exact eZ); rfl
    apply from_s; apply pop_extract; ((repeat (apply eS; rfl)); exact eZ); rfl; rfl
    apply from_s; apply pop_extract; ((repeat (apply eS; rfl)); exact eZ); rfl; rfl
    apply from_e; apply eop_alloc; rfl; intro b8 _
    apply from_e; apply eop_storeO; ((repeat (apply eS; rfl)); exact eZ); ((repeat (apply eS; rfl)); exact eZ); (repeat (first | exact rZ | apply rS)); ((repeat (apply LayR.skip)); (repeat (apply LayR.cons)); exact LayR.nil _); rfl; rfl; rfl
    apply from_s; apply pop_assign; ((repeat (apply eS; rfl)); exact eZ); rfl
    (repeat (first | apply from_nil | apply sim_seq | apply sim_skip | apply sim_block | apply sim_label | apply sim_exit))
    (repeat (first | apply from_nil | apply sim_seq | apply sim_skip | apply sim_block | apply sim_label | apply sim_exit))
    apply sim_region
    apply from_s; apply pop_move; ((repeat (apply eS; rfl)); exact eZ); rfl
    (repeat (first | apply from_nil | apply sim_seq | apply sim_skip | apply sim_block | apply sim_label | apply sim_exit))
    apply sim_cut [(0, .v (.bool (decide (f = true)))), (1, .v (.int .i64 n)), (5, .v (.pointer (some ⟨b5, 0, none⟩))), (6, .v (.int .i64 (lowMost f))), (7, .v (.int .i64 k)), (8, .v (.pointer (some ⟨b8, 0, none⟩))), (9, .v (.int .i64 (if k < lowMost f then 0 else 4)))]
      [(b8, ⟨25, elc (lowK f (k + 1)), 3⟩), (b5, ⟨25, elc (lowK f k), 3⟩)]
    · apply sim_cond; ((repeat (apply eS; rfl)); exact eZ)
      · intro h
        subst h
        (repeat (first | apply from_nil | apply sim_seq | apply sim_skip | apply sim_block | apply sim_label | apply sim_exit))
        apply sim_region
        apply from_s; apply pop_loadO_agg; ((repeat (apply eS; rfl)); exact eZ); (repeat (first | exact hZ | apply hS)); ((repeat (apply TakeR.skip)); (repeat (apply TakeR.cons)); exact TakeR.nil _); rfl
        apply from_s; apply pop_call; rfl; (apply evl_cons; ((repeat (apply eS; rfl)); exact eZ); apply evl_cons; exact ev_nil; exact evl_nil); apply FnP.args (cf); ((repeat (apply LeL.cons; (first | exact Le.refl _ | exact Le.nil _ | exact Le.full _ _ | exact Le.any _ | (apply Le.agg; (repeat (apply LeL.cons; (first | exact Le.refl _ | exact Le.nil _ | exact Le.full _ _ | exact Le.any _))); exact LeL.nil) | (apply Le.tup; (repeat (apply LeL.cons; (first | exact Le.refl _ | exact Le.nil _ | exact Le.full _ _ | exact Le.any _ | (apply Le.agg; (repeat (apply LeL.cons; (first | exact Le.refl _ | exact Le.nil _ | exact Le.full _ _ | exact Le.any _))); exact LeL.nil)))); exact LeL.nil)))); exact LeL.nil); rfl
        apply from_s; apply pop_move; ((repeat (apply eS; rfl)); exact eZ); rfl
        apply from_s; apply pop_extract; ((repeat (apply eS; rfl)); exact eZ); rfl; rfl
        apply from_s; apply pop_extract; ((repeat (apply eS; rfl)); exact eZ); rfl; rfl
        apply from_e; apply eop_storeO; ((repeat (apply eS; rfl)); exact eZ); ((repeat (apply eS; rfl)); exact eZ); (repeat (first | exact rZ | apply rS)); ((repeat (apply LayR.skip)); (repeat (apply LayR.cons)); exact LayR.nil _); rfl; rfl; rfl
        apply from_s; apply pop_assign; ((repeat (apply eS; rfl)); exact eZ); rfl
        (repeat (first | apply from_nil | apply sim_seq | apply sim_skip | apply sim_block | apply sim_label | apply sim_exit))
        refine ⟨?_, ?_⟩
        · simp only [step_force]; (repeat (first | exact trivial | (apply And.intro; (apply le_get; ((repeat (apply gS; rfl)); exact gZ); (first | exact Le.refl _ | exact Le.nil _ | exact Le.full _ _ | exact Le.any _ | (apply Le.of_eq; focus (simp; done)) | (apply Le.of_eq; focus (congr 2; omega)) | (apply Le.of_eq; focus (simp [*]; done)))))))
        · simp only [step_force]; exact HeapFront.keep _ _ _ _ _ (blk_le rfl (by ((repeat (apply LeL.cons; (first | exact Le.refl _ | exact Le.nil _ | exact Le.full _ _ | exact Le.any _ | (apply Le.agg; (repeat (apply LeL.cons; (first | exact Le.refl _ | exact Le.nil _ | exact Le.full _ _ | exact Le.any _))); exact LeL.nil) | (apply Le.tup; (repeat (apply LeL.cons; (first | exact Le.refl _ | exact Le.nil _ | exact Le.full _ _ | exact Le.any _ | (apply Le.agg; (repeat (apply LeL.cons; (first | exact Le.refl _ | exact Le.nil _ | exact Le.full _ _ | exact Le.any _))); exact LeL.nil)))); exact LeL.nil)))); exact LeL.nil)) rfl rfl) (HeapFront.keep _ _ _ _ _ (blk_le rfl (by ((repeat (apply LeL.cons; (first | exact Le.refl _ | exact Le.nil _ | exact Le.full _ _ | exact Le.any _ | (apply Le.agg; (repeat (apply LeL.cons; (first | exact Le.refl _ | exact Le.nil _ | exact Le.full _ _ | exact Le.any _))); exact LeL.nil) | (apply Le.tup; (repeat (apply LeL.cons; (first | exact Le.refl _ | exact Le.nil _ | exact Le.full _ _ | exact Le.any _ | (apply Le.agg; (repeat (apply LeL.cons; (first | exact Le.refl _ | exact Le.nil _ | exact Le.full _ _ | exact Le.any _))); exact LeL.nil)))); exact LeL.nil)))); exact LeL.nil)) rfl rfl) (HeapFront.nil _))
      · intro h
        have hf : f = false := by simpa using h
        subst hf
        (repeat (first | apply from_nil | apply sim_seq | apply sim_skip | apply sim_block | apply sim_label | apply sim_exit))
        refine ⟨?_, ?_⟩
        · simp only [step_post]; (repeat (first | exact trivial | (apply And.intro; (apply le_get; ((repeat (apply gS; rfl)); exact gZ); (first | exact Le.refl _ | exact Le.nil _ | exact Le.full _ _ | exact Le.any _ | (apply Le.of_eq; focus (simp; done)) | (apply Le.of_eq; focus (congr 2; omega)) | (apply Le.of_eq; focus (simp [*]; done)))))))
        · simp only [step_post]; exact HeapFront.keep _ _ _ _ _ (blk_le rfl (by ((repeat (apply LeL.cons; (first | exact Le.refl _ | exact Le.nil _ | exact Le.full _ _ | exact Le.any _ | (apply Le.agg; (repeat (apply LeL.cons; (first | exact Le.refl _ | exact Le.nil _ | exact Le.full _ _ | exact Le.any _))); exact LeL.nil) | (apply Le.tup; (repeat (apply LeL.cons; (first | exact Le.refl _ | exact Le.nil _ | exact Le.full _ _ | exact Le.any _ | (apply Le.agg; (repeat (apply LeL.cons; (first | exact Le.refl _ | exact Le.nil _ | exact Le.full _ _ | exact Le.any _))); exact LeL.nil)))); exact LeL.nil)))); exact LeL.nil)) rfl rfl) (HeapFront.keep _ _ _ _ _ (blk_le rfl (by ((repeat (apply LeL.cons; (first | exact Le.refl _ | exact Le.nil _ | exact Le.full _ _ | exact Le.any _ | (apply Le.agg; (repeat (apply LeL.cons; (first | exact Le.refl _ | exact Le.nil _ | exact Le.full _ _ | exact Le.any _))); exact LeL.nil) | (apply Le.tup; (repeat (apply LeL.cons; (first | exact Le.refl _ | exact Le.nil _ | exact Le.full _ _ | exact Le.any _ | (apply Le.agg; (repeat (apply LeL.cons; (first | exact Le.refl _ | exact Le.nil _ | exact Le.full _ _ | exact Le.any _))); exact LeL.nil)))); exact LeL.nil)))); exact LeL.nil)) rfl rfl) (HeapFront.nil _))
    (repeat (first | apply from_nil | apply sim_seq | apply sim_skip | apply sim_block | apply sim_label | apply sim_exit))
    apply sim_region
    apply from_s; apply pop_move; ((repeat (apply eS; rfl)); exact eZ); rfl
    apply from_s; apply pop_eql; ((repeat (apply eS; rfl)); exact eZ); exact ev_int; rfl
    apply from_s; apply pop_move; ((repeat (apply eS; rfl)); exact eZ); rfl
    apply from_s; apply pop_move; ((repeat (apply eS; rfl)); exact eZ); rfl
    apply from_s; apply pop_lss; ((repeat (apply eS; rfl)); exact eZ); ((repeat (apply eS; rfl)); exact eZ); rfl
    apply from_s; apply pop_neqB; ((repeat (apply eS; rfl)); exact eZ); ((repeat (apply eS; rfl)); exact eZ); rfl; rfl
    apply from_s; apply pop_move; ((repeat (apply eS; rfl)); exact eZ); rfl
    apply from_gF; rfl; ((repeat (apply gS; rfl)); exact gZ); (intro hg; apply pop_move; ((repeat (apply eS; rfl)); exact eZ)); rfl
    apply from_gF; rfl; ((repeat (apply gS; rfl)); exact gZ); (intro hg; apply pop_neq; (apply ev_un; ((repeat (apply eS; rfl)); exact eZ); exact hg); exact ev_int); rfl
    apply from_gF; rfl; ((repeat (apply gS; rfl)); exact gZ); (intro hg; apply pop_move; (apply ev_un; ((repeat (apply eS; rfl)); exact eZ); exact hg)); rfl
    apply from_hT; rfl; ((repeat (apply gS; rfl)); exact gZ); (intro hg; apply pop_move; ((repeat (apply eS; rfl)); exact eZ)); rfl
    apply from_hT; rfl; ((repeat (apply gS; rfl)); exact gZ); (intro hg; apply pop_neq; (apply ev_un; ((repeat (apply eS; rfl)); exact eZ); exact hg); exact ev_int); rfl
    apply from_hT; rfl; ((repeat (apply gS; rfl)); exact gZ); (intro hg; apply pop_move; (apply ev_un; ((repeat (apply eS; rfl)); exact eZ); exact hg)); rfl
    apply from_hF; rfl; ((repeat (apply gS; rfl)); exact gZ); (intro hg; apply pop_loadO_agg; ((repeat (apply eS; rfl)); exact eZ); (repeat (first | exact hZ | apply hS)); ((repeat (apply TakeR.skip)); (repeat (apply TakeR.cons)); exact TakeR.nil _)); rfl
    apply from_hF; rfl; ((repeat (apply gS; rfl)); exact gZ); (intro hg; apply pop_loadO_agg; ((repeat (apply eS; rfl)); exact eZ); (repeat (first | exact hZ | apply hS)); ((repeat (apply TakeR.skip)); (repeat (apply TakeR.cons)); exact TakeR.nil _)); rfl
    apply from_hF; rfl; ((repeat (apply gS; rfl)); exact gZ); (intro hg; apply pop_call; rfl; (apply evl_cons; (apply ev_un; ((repeat (apply eS; rfl)); exact eZ); exact hg); apply evl_cons; (apply ev_un; ((repeat (apply eS; rfl)); exact eZ); exact hg); exact evl_nil); apply FnP.args (cs); exact LeL.refl _); rfl
    apply from_hF; rfl; ((repeat (apply gS; rfl)); exact gZ); (intro hg; apply pop_notP; (apply ev_un; ((repeat (apply eS; rfl)); exact eZ); exact hg)); rfl
    apply from_hT; rfl; ((repeat (apply gS; rfl)); exact gZ); (intro hg; apply pop_pick_orN; ((repeat (apply eS; rfl)); exact eZ); exact ev_bool; ((repeat (apply eS; rfl)); exact eZ); exact hg); rfl
    apply from_gF; rfl; ((repeat (apply gS; rfl)); exact gZ); (intro hg; apply pop_pick_andN; ((repeat (apply eS; rfl)); exact eZ); ((repeat (apply eS; rfl)); exact eZ); exact ev_bool; exact hg); rfl
    apply from_s; apply pop_pick_or; ((repeat (apply eS; rfl)); exact eZ); exact ev_bool; ((repeat (apply eS; rfl)); exact eZ); rfl
    (repeat (first | apply from_nil | apply sim_seq | apply sim_skip | apply sim_block | apply sim_label | apply sim_exit))
    apply sim_cond; ((repeat (apply eS; rfl)); exact eZ)
    · intro h
      exfalso
      by_cases hkm : k < lowMost f
      · simp [hkm] at h
      · have hs := lowK_same f k (by omega)
        simp [hkm, hs] at h
    intro _
    (repeat (first | apply from_nil | apply sim_seq | apply sim_skip | apply sim_block | apply sim_label | apply sim_exit))
    apply sim_region
    apply from_s; apply pop_loadO_agg; ((repeat (apply eS; rfl)); exact eZ); (repeat (first | exact hZ | apply hS)); ((repeat (apply TakeR.skip)); (repeat (apply TakeR.cons)); exact TakeR.nil _); rfl
    apply from_e; apply eop_storeO; ((repeat (apply eS; rfl)); exact eZ); ((repeat (apply eS; rfl)); exact eZ); (repeat (first | exact rZ | apply rS)); ((repeat (apply LayR.skip)); (repeat (apply LayR.cons)); exact LayR.nil _); rfl; rfl; rfl
    (repeat (first | apply from_nil | apply sim_seq | apply sim_skip | apply sim_block | apply sim_label | apply sim_exit))
    (repeat (first | apply from_nil | apply sim_seq | apply sim_skip | apply sim_block | apply sim_label | apply sim_exit))
    apply sim_region
    apply from_s; apply pop_move; ((repeat (apply eS; rfl)); exact eZ); rfl
    apply from_s; apply pop_add64; ((repeat (apply eS; rfl)); exact eZ); exact ev_int; (first | omega | (simp only [List.length_map, List.length_replicate, List.length_append, List.length_cons, List.length_nil, List.length_take, List.length_drop, Int.toNat_natCast]; omega) | (simp only [List.length_map, List.length_replicate, List.length_append, List.length_cons, List.length_nil, List.length_take, List.length_drop, Int.toNat_natCast] at *; omega)); rfl
    apply from_s; apply pop_assign; ((repeat (apply eS; rfl)); exact eZ); rfl
    (repeat (first | apply from_nil | apply sim_seq | apply sim_skip | apply sim_block | apply sim_label | apply sim_exit))
    refine ⟨k + 1, by omega, (by simp only []; omega), ?_, HeapFront.skip _ _ _ (HeapFront.keep _ _ _ _ _ (blk_le rfl (by ((repeat (apply LeL.cons; (first | exact Le.refl _ | exact Le.nil _ | exact Le.full _ _ | exact Le.any _ | (apply Le.agg; (repeat (apply LeL.cons; (first | exact Le.refl _ | exact Le.nil _ | exact Le.full _ _ | exact Le.any _))); exact LeL.nil) | (apply Le.tup; (repeat (apply LeL.cons; (first | exact Le.refl _ | exact Le.nil _ | exact Le.full _ _ | exact Le.any _ | (apply Le.agg; (repeat (apply LeL.cons; (first | exact Le.refl _ | exact Le.nil _ | exact Le.full _ _ | exact Le.any _))); exact LeL.nil)))); exact LeL.nil)))); exact LeL.nil)) rfl rfl) (HeapFront.nil _))⟩
    (repeat (first | exact trivial | (apply And.intro; (apply le_get; ((repeat (apply gS; rfl)); exact gZ); (first | exact Le.refl _ | exact Le.nil _ | exact Le.full _ _ | exact Le.any _ | (apply Le.of_eq; focus (simp; done)) | (apply Le.of_eq; focus (congr 2; omega)) | (apply Le.of_eq; focus (simp [*]; done)))))))
  · intro hge
    have hfp := (lowK_fit f k).posts.len
    have hff := (lowK_fit f k).forced.len
    (repeat (first | apply from_nil | apply sim_seq | apply sim_skip | apply sim_block | apply sim_label | apply sim_exit))
    apply sim_region
    apply from_s; apply pop_fieldAddr_raw; ((repeat (apply eS; rfl)); exact eZ); rfl; rfl
    apply from_s; apply pop_loadO; ((repeat (apply eS; rfl)); exact eZ); (repeat (first | exact hZ | apply hS)); rfl; rfl; rfl
    apply from_s; (first | (apply pop_len; ((repeat (apply eS; rfl)); exact eZ); rfl) | (apply pop_len_raw; ((repeat (apply eS; rfl)); exact eZ); rfl)); rfl
    apply from_s; apply pop_fieldAddr_raw; ((repeat (apply eS; rfl)); exact eZ); rfl; rfl
    apply from_s; apply pop_loadO; ((repeat (apply eS; rfl)); exact eZ); (repeat (first | exact hZ | apply hS)); rfl; rfl; rfl
    apply from_s; (first | (apply pop_len; ((repeat (apply eS; rfl)); exact eZ); rfl) | (apply pop_len_raw; ((repeat (apply eS; rfl)); exact eZ); rfl)); rfl
    apply from_s; apply pop_add64; ((repeat (apply eS; rfl)); exact eZ); ((repeat (apply eS; rfl)); exact eZ); (first | omega | (simp only [List.length_map, List.length_replicate, List.length_append, List.length_cons, List.length_nil, List.length_take, List.length_drop, Int.toNat_natCast]; omega) | (simp only [List.length_map, List.length_replicate, List.length_append, List.length_cons, List.length_nil, List.length_take, List.length_drop, Int.toNat_natCast] at *; omega)); rfl
    apply from_s; apply pop_move; ((repeat (apply eS; rfl)); exact eZ); rfl
    apply from_s; apply pop_eql; ((repeat (apply eS; rfl)); exact eZ); ((repeat (apply eS; rfl)); exact eZ); rfl
    apply from_s; apply pop_assign; ((repeat (apply eS; rfl)); exact eZ); rfl
    (repeat (first | apply from_nil | apply sim_seq | apply sim_skip | apply sim_block | apply sim_label | apply sim_exit))
    (apply sim_ret; (try simp only [blockΨ_ret, thenΨ_ret, loopL_ret, cutΨ_ret]); ((first | apply fin_ret | apply fin_normal); rfl; (repeat (first | exact resl_nil | (apply resl_tmp; ((repeat (apply gS; rfl)); exact gZ)) | (apply resl_cellO; ((repeat (apply gS; rfl)); exact gZ); (repeat (first | exact hZ | apply hS)); ((repeat (apply TakeR.skip)); (repeat (apply TakeR.cons)); exact TakeR.nil _)) | (apply resl_cell1O; ((repeat (apply gS; rfl)); exact gZ); (repeat (first | exact hZ | apply hS)); rfl)))))
    have hl : (lowK f k).posts.length + (lowK f k).forced.length = lowMost f := by
      cases f
      · simp [lowK, lowMost] at *; omega
      · simp [lowK, lowMost] at *; omega
    refine Le.of_eq ?_
    simp only [packT, List.length_map]
    rw [decide_eq_true (by omega)]
end Go.Proofs.Ythndbbjkkehjeaa
