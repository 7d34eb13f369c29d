/-
  lower: bytes, rows, chains of their own.
-/
import Derived.Test.YthndbbjkkehjeaaTypes
set_option maxRecDepth 4000
namespace Go.Proofs.Ythndbbjkkehjeaa
open Go.Cap
set_option linter.unusedSimpArgs false
set_option linter.unusedVariables false
attribute [local irreducible] POp SimFrom DrawFrom EOp Sim FnH T.gp
def ei (n : Int) : T := .v (.int .i64 n)
def ebs (l : List UInt8) : T := .sl false (l.map eb)
set_option maxHeartbeats 400000 in
theorem bytes_fn (l : List UInt8) (hl : l.length ≤ 1000000) : FnP Try.prog 26 [ebs l] (fun r => r = .sl true (l.map eb)) := by
  refine fn_enter Try.func26 (by rfl) (by rfl) ?_
  intro S0 w0
  show Sim _ _ [(0, T.sl false (l.map eb))] _ _
  (repeat (first | apply cn | apply cq | apply cb | apply ck | apply cl | apply cx))
  apply cr
  refine s_ p_as ?_
  (repeat (first | apply cn | apply cq | apply cb | apply ck | apply cl | apply cx))
  apply cr
  refine s_ p_mv ?_
  (first | refine s_ p_ln ?_ | refine s_ p_lr ?_)
  apply from_e; apply eop_make; ((repeat (apply eS; rfl)); exact eZ); ((repeat (apply eS; rfl)); exact eZ); (first | omega | (simp only [List.length_map, List.length_replicate, List.length_append, List.length_cons, List.length_nil, List.length_take, List.length_drop, Int.toNat_natCast]; omega) | (simp only [List.length_map, List.length_replicate, List.length_append, List.length_cons, List.length_nil, List.length_take, List.length_drop, Int.toNat_natCast] at *; omega)); (first | omega | (simp only [List.length_map, List.length_replicate, List.length_append, List.length_cons, List.length_nil, List.length_take, List.length_drop, Int.toNat_natCast]; omega) | (simp only [List.length_map, List.length_replicate, List.length_append, List.length_cons, List.length_nil, List.length_take, List.length_drop, Int.toNat_natCast] at *; omega)); (first | omega | (simp only [List.length_map, List.length_replicate, List.length_append, List.length_cons, List.length_nil, List.length_take, List.length_drop, Int.toNat_natCast]; omega) | (simp only [List.length_map, List.length_replicate, List.length_append, List.length_cons, List.length_nil, List.length_take, List.length_drop, Int.toNat_natCast] at *; omega)); (first | omega | (simp only [List.length_map, List.length_replicate, List.length_append, List.length_cons, List.length_nil, List.length_take, List.length_drop, Int.toNat_natCast]; omega) | (simp only [List.length_map, List.length_replicate, List.length_append, List.length_cons, List.length_nil, List.length_take, List.length_drop, Int.toNat_natCast] at *; omega)); rfl
  intro b1 _
  refine s_ p_as ?_
  (repeat (first | apply cn | apply cq | apply cb | apply ck | apply cl | apply cx))
  apply cr
  refine s_ p_mv ?_
  refine s_ p_mv ?_
  apply from_e; apply eop_copyO; ((repeat (apply eS; rfl)); exact eZ); ((repeat (apply eS; rfl)); exact eZ); (repeat (first | exact rZ | apply rS)); rfl; (repeat (first | exact lenOk_nil | (apply lenOk_map; intro _; rfl) | apply lenOk_append | apply lenOk_take | apply lenOk_drop | (apply lenOk_cons; rfl))); (repeat (first | exact leafOk_nil | (apply leafOk_map; intro _; rfl) | apply leafOk_append | apply leafOk_take | apply leafOk_drop | (apply leafOk_cons; rfl)))
  · simp [len_flat, T.cells, Value.cells]
  · rfl
  (repeat (first | apply cn | apply cq | apply cb | apply ck | apply cl | apply cx))
  apply cr
  refine s_ p_mv ?_
  refine s_ p_as ?_
  (repeat (first | apply cn | apply cq | apply cb | apply ck | apply cl | apply cx))
  apply sim_freezeO (j := 2) (kk := 1) (f := true) (xs := l.map eb); ((repeat (apply eS; rfl)); exact eZ); (repeat (first | exact dZ | apply dS))
  · simp
  · (repeat (first | exact lenOk_nil | (apply lenOk_map; intro _; rfl) | apply lenOk_append | apply lenOk_take | apply lenOk_drop | (apply lenOk_cons; rfl)))
  · rw [show ((l.map eb).take (min (l.map eb).length ((l.map eb).length : Int).toNat)) = l.map eb by rw [List.take_of_length_le (by simp)], flat_map1 eb (fun _ => rfl)]
    rw [lay_whole _ _ (by rw [len_flat]; simp [T.cells, Value.cells]), List.take_of_length_le (by simp)]
  · intro x hx; obtain ⟨y, _, rfl⟩ := List.mem_map.1 hx; exact .inl rfl
  · intro _; rfl
  · exact Nat.le_refl _
  (apply sim_ret; (try simp only [blockΨ_ret, thenΨ_ret, loopL_ret, cutΨ_ret, cutE_ret]); first | refine rt ?_ | refine rn ?_)
  exact Le.refl _

structure Po where
  at_ : Int
  bytes : List UInt8
def ep (p : Po) : T := .agg [.v (.int .i64 p.at_), ebs p.bytes]
def eps (l : List Po) : T := .sl false (l.map ep)
def epcs (l : List Po) : List T := l.flatMap fun p => (ep p).cells
theorem epcs_len (l : List Po) : (epcs l).length = l.length * 2 := by
  unfold epcs
  induction l with
  | nil => rfl
  | cons x l ih => rw [List.flatMap_cons, List.length_append, ih]; simp [ep, T.cells]; omega
theorem epcs_snoc (l : List Po) (i : Nat) (h : i < l.length) : epcs (l.take (i + 1)) = epcs (l.take i) ++ (ep l[i]).cells := by
  unfold epcs
  rw [List.take_succ_eq_append_getElem h, List.flatMap_append]; simp
def zp : List T := [T.v (.int .i64 0), .v (.slice none 0 0)]
set_option maxHeartbeats 400000 in
theorem row_fn (l : List Po) (hl : l.length ≤ 1000000) (hb : ∀ p ∈ l, p.bytes.length ≤ 1000000) : FnP Try.prog 25 [eps l] (fun r => r = .sl true (l.map ep)) := by
  refine fn_enter Try.func25 (by rfl) (by rfl) ?_
  intro S0 w0
  show Sim _ _ [(0, T.sl false (l.map ep))] _ _
  (repeat (first | apply cn | apply cq | apply cb | apply ck | apply cl | apply cx))
  apply cr
  refine s_ p_as ?_
  (repeat (first | apply cn | apply cq | apply cb | apply ck | apply cl | apply cx))
  apply cr
  refine s_ p_mv ?_
  (first | refine s_ p_ln ?_ | refine s_ p_lr ?_)
  apply from_e; apply eop_make; ((repeat (apply eS; rfl)); exact eZ); ((repeat (apply eS; rfl)); exact eZ); (first | omega | (simp only [List.length_map, List.length_replicate, List.length_append, List.length_cons, List.length_nil, List.length_take, List.length_drop, Int.toNat_natCast]; omega) | (simp only [List.length_map, List.length_replicate, List.length_append, List.length_cons, List.length_nil, List.length_take, List.length_drop, Int.toNat_natCast] at *; omega)); (first | omega | (simp only [List.length_map, List.length_replicate, List.length_append, List.length_cons, List.length_nil, List.length_take, List.length_drop, Int.toNat_natCast]; omega) | (simp only [List.length_map, List.length_replicate, List.length_append, List.length_cons, List.length_nil, List.length_take, List.length_drop, Int.toNat_natCast] at *; omega)); (first | omega | (simp only [List.length_map, List.length_replicate, List.length_append, List.length_cons, List.length_nil, List.length_take, List.length_drop, Int.toNat_natCast]; omega) | (simp only [List.length_map, List.length_replicate, List.length_append, List.length_cons, List.length_nil, List.length_take, List.length_drop, Int.toNat_natCast] at *; omega)); (first | omega | (simp only [List.length_map, List.length_replicate, List.length_append, List.length_cons, List.length_nil, List.length_take, List.length_drop, Int.toNat_natCast]; omega) | (simp only [List.length_map, List.length_replicate, List.length_append, List.length_cons, List.length_nil, List.length_take, List.length_drop, Int.toNat_natCast] at *; omega)); rfl
  intro b1 _
  refine s_ p_as ?_
  (repeat (first | apply cn | apply cq | apply cb | apply ck | apply cl | apply cx))
  apply cr
  refine s_ p_mv ?_
  (first | refine s_ p_ln ?_ | refine s_ p_lr ?_)
  refine s_ p_mv ?_
  (repeat (first | apply cn | apply cq | apply cb | apply ck | apply cl | apply cx))
  apply sim_loopL (σ := Nat) (ok := fun i => i ≤ l.length) (env := fun i => [(11, .v (.int .i64 i)), (10, .v (.int .i64 l.length)), (9, .sl false (l.map ep)), (3, .v (.slice (some ⟨b1, 0, none⟩) l.length l.length))])
    (heap := fun i => [(b1, ⟨34, epcs (l.take i) ++ (List.replicate (l.length - i) zp).flatten, l.length * 2⟩)]) (μ := fun i => l.length - i) (s0 := 0)
  · omega
  · exact eL
  · apply HeapFront.keep _ _ _ _ _ (blk_eq rfl ?_ ?_) (HeapFront.nil _)
    · simp [T.cells, epcs, zp]
    · simp [T.cells]
  intro i hi
  (repeat (first | apply cn | apply cq | apply cb | apply ck | apply cl | apply cx))
  apply cr
  refine s_ p_lt ?_
  (repeat (first | apply cn | apply cq | apply cb | apply ck | apply cl | apply cx))
  refine ci ?_ ?_
  · intro hlt
    have hix : i < l.length := by omega
    have hbi := hb (l[i]) (List.getElem_mem (by omega))
    have hpl : (epcs (l.take i)).length = i * 2 := by rw [epcs_len, List.length_take]; omega
    (repeat (first | apply cn | apply cq | apply cb | apply ck | apply cl | apply cx))
    apply cr
    refine s_ p_mv ?_
    (first | refine s_ (p_ix hix) ?_ | refine s_ (p_ix hix2) ?_ | refine s_ p_ia ?_ | refine s_ p_ir ?_)
    (first | refine s_ p_la ?_ | refine s_ p_loa ?_)
    refine e_al fun b5 _ => ?_
    refine s_ p_as ?_
    refine e_st ?_
    (repeat (first | apply cn | apply cq | apply cb | apply ck | apply cl | apply cx))
    refine ca [0, 1, 2, 3, 4, 5, 6, 7, 8, 9] [9] ?_
    refine a_ (fun _ => p_mv) ?_
    refine a_ (fun _ => p_mv) ?_
    refine a_ (fun _ => p_fr) ?_
    refine a_lo ?_
    refine a_ (fun _ => p_fr) ?_
    refine a_lo ?_
    refine a_ (fun _ => p_ca (bytes_fn _ hbi)) ?_
    refine a_ (fun _ => p_bd 2 [_, _]) ?_
    refine a_ (fun _ => p_ir) ?_
    refine a_ss ?_ ?_
    · simp [hpl, len_flat, zp, T.cells]; omega
    apply an
    (repeat (first | apply cn | apply cq | apply cb | apply ck | apply cl | apply cx))
    apply cr
    refine s_ p_ad ?_
    refine s_ p_mv ?_
    (repeat (first | apply cn | apply cq | apply cb | apply ck | apply cl | apply cx))
    refine ⟨i + 1, by omega, (by simp only []; omega), ?_, HeapFront.skip _ _ _ (HeapFront.keep _ _ _ _ _ (blk_le rfl ?_ ?_ rfl) (HeapFront.nil _))⟩
    · exact eL
    · show LeL (lay (epcs (l.take i) ++ (List.replicate (l.length - i) zp).flatten) (0 + (i : Int).toNat * 2) [_, _]) _
      rw [show l.length - i = (l.length - (i + 1)) + 1 by omega, show 0 + (i : Int).toNat * 2 = (epcs (l.take i)).length by omega, lay_next _ zp _ _ (by rfl), epcs_snoc l i hix]
      refine LeL.append (LeL.append (LeL.refl _) ?_) (LeL.refl _)
      exact LeL.cons (Le.refl _) (LeL.cons (Le.full _ _) LeL.nil)
    · show _ = (lay (epcs (l.take i) ++ (List.replicate (l.length - i) zp).flatten) (0 + (i : Int).toNat * 2) [_, _]).length
      rw [epcs_snoc l i hix]
      simp [hpl, len_flat, zp, T.cells, ep]; omega
  · intro hge
    have : i = l.length := by omega
    subst this
    (repeat (first | apply cn | apply cq | apply cb | apply ck | apply cl | apply cx))
    apply cr
    refine s_ p_mv ?_
    refine s_ p_as ?_
    (repeat (first | apply cn | apply cq | apply cb | apply ck | apply cl | apply cx))
    apply sim_freezeO (j := 2) (kk := 2) (f := true) (xs := l.map ep); ((repeat (apply eS; rfl)); exact eZ); (repeat (first | exact dZ | apply dS))
    · simp
    · (repeat (first | exact lenOk_nil | (apply lenOk_map; intro _; rfl) | apply lenOk_append | apply lenOk_take | apply lenOk_drop | (apply lenOk_cons; rfl)))
    · rw [List.take_of_length_le (Nat.le_refl l.length), Nat.sub_self, List.take_left' (epcs_len l), List.flatMap_map]; rfl
    · intro x hx; obtain ⟨y, _, rfl⟩ := List.mem_map.1 hx; exact .inr ⟨_, rfl⟩
    · intro _; rfl
    · exact Nat.le_refl _
    (apply sim_ret; (try simp only [blockΨ_ret, thenΨ_ret, loopL_ret, cutΨ_ret, cutE_ret]); first | refine rt ?_ | refine rn ?_)
    exact Le.refl _
structure Lo where
  height : Int
  posts : List Po
  forced : List Po
def el (l : Lo) : T := .agg [.v (.int .i64 l.height), eps l.posts, eps l.forced]
structure Fit (l : List Po) : Prop where
  len : l.length ≤ 100000
  each : ∀ p ∈ l, p.bytes.length ≤ 1000000
end Go.Proofs.Ythndbbjkkehjeaa
