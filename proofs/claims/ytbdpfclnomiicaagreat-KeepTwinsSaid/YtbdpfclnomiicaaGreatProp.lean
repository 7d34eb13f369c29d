/-
  replica: Wake, Propose, Change, Compact.
-/
import Derived.Test.YtbdpfclnomiicaaGreatSame
set_option maxRecDepth 4000
namespace Go.Proofs.YtbdpfclnomiicaaGreat
open Go.Cap
set_option linter.unusedSimpArgs false
set_option linter.unusedVariables false
attribute [local irreducible] POp SimFrom DrawFrom EOp Sim FnH T.gp
theorem clone_fnD (f : Bool) (l : List En) (hl : l.length ≤ 1000000000) : FnP Tryz.prog 23 [.sl f (l.map een)] (fun r => r = eens l) :=
  FnH.give (clone_fn f l hl) (by rintro r H ⟨v, rfl, ho⟩; exact ho.lend fun _ h => h)
def wakeF (n : Nd) : Nd := { n with role := 0, wait := 0, votes := 0, next := .all 0, mtch := .all 0 }
theorem wake_fn (n : Nd) (hl : n.log.length ≤ 1000000000) : FnP Tryz.prog 13 [nd n] (fun r => r = nd (wakeF n)) := by
  have hc := clone_fnD false n.log hl
  refine fn_enter Tryz.func13 (by rfl) (by rfl) ?_
  intro S0 w0
  show Sim _ _ [(0, T.agg (nodeC n (.sl false (n.log.map een))))] _ _
  (repeat (first | apply cn | apply cq | apply cb | apply ck | apply cl | apply cx))
  apply cr
  refine e_bx fun b1 _ => ?_
  refine e_al fun b2 _ => ?_
  (repeat (first | apply cn | apply cq | apply cb | apply ck | apply cl | apply cx))
  refine sim_perm (List.Perm.swap _ _ _) ?_
  refine lend1 1 (by simp [nodeC]) ?_
  (repeat (first | apply cn | apply cq | apply cb | apply ck | apply cl | apply cx))
  refine ca [0, 1, 2, 3, 4, 5, 6, 7, 8, 9, 10, 11, 12, 13, 14, 15, 16, 17, 18, 19, 20] [20] ?_
  refine a_ (fun _ => p_fa) ?_
  refine a_ (fun _ => p_ld) ?_
  refine a_ (fun _ => p_fa) ?_
  refine a_ (fun _ => p_ld) ?_
  refine a_ (fun _ => p_fa) ?_
  refine a_ (fun _ => p_ld) ?_
  refine a_ (fun _ => p_fa) ?_
  refine a_ (fun _ => p_ld) ?_
  refine a_ (fun _ => p_fa) ?_
  refine a_ (fun _ => p_ld) ?_
  refine a_ (fun _ => p_fa) ?_
  refine a_ (fun _ => p_ld) ?_
  refine a_ (fun _ => p_fa) ?_
  refine a_ (fun _ => p_ld) ?_
  refine a_ (fun _ => p_fa) ?_
  refine a_ (fun _ => p_ld) ?_
  refine a_ (fun _ => p_ca (hc)) ?_
  refine a_ (fun _ => p_fa) ?_
  refine a_ (fun _ => p_ld) ?_
  refine a_ (fun _ => p_bR 22) ?_
  refine a_st ?_
  apply an
  (repeat (first | apply cn | apply cq | apply cb | apply ck | apply cl | apply cx))
  (apply sim_ret; (try simp only [blockΨ_ret, thenΨ_ret, loopL_ret, cutΨ_ret, cutE_ret]); first | refine rt ?_ | refine rn ?_)
  exact Le.refl _
def propF (n : Nd) (cmd : List UInt8) : Nd × Int × Int := if ¬ n.role = 2 then (n, 0, 21) else if cmd = [] then (n, 0, 1) else (putF n ⟨0, 0, cmd⟩, n.base + (n.log.length + 1), 0)
set_option maxHeartbeats 1000000 in
theorem prop_fn {n : Nd} (cmd : List UInt8) (hn : Bd n) (hl : n.log.length < 100000000) : FnP Tryz.prog 29 [nd n, es cmd] (fun r => r = .tup [nd (propF n cmd).1, ei (propF n cmd).2.1, ei (propF n cmd).2.2]) := by
  have hW := work_fn n (bd_len n hn)
  refine fn_enter Tryz.func29 (by rfl) (by rfl) ?_
  intro S0 w0
  show Sim _ _ [(0, T.agg (nodeC n (.sl false (n.log.map een)))), (1, es cmd)] _ _
  (repeat (first | apply cn | apply cq | apply cb | apply ck | apply cl | apply cx))
  apply cr
  refine e_bx fun b2 _ => ?_
  refine e_al fun b4 _ => ?_
  refine s_ p_as ?_
  refine s_ p_as ?_
  (repeat (first | apply cn | apply cq | apply cb | apply ck | apply cl | apply cx))
  refine sim_perm (List.Perm.swap _ _ _) ?_
  refine lend1 2 (by simp [nodeC]) ?_
  (repeat (first | apply cn | apply cq | apply cb | apply ck | apply cl | apply cx))
  apply cr
  refine s_ p_la ?_
  refine e_cH (Hs := []) (Hr := [_]) hW (.refl _) (fun r H' ⟨b, hr, hw⟩ => ?_)
  subst hr
  have hw' := hw
  obtain ⟨vl, vo, Hl, Ho, h1, h2, rfl⟩ := hw
  obtain ⟨p, c, rfl⟩ := h1.len
  obtain ⟨q, d, rfl⟩ := h2.len
  refine s_ p_as ?_
  (repeat (first | apply cn | apply cq | apply cb | apply ck | apply cl | apply cx))
  apply cr
  refine s_ p_mv ?_
  refine s_ p_nc ?_
  refine s_ p_fr ?_
  refine s_ p_fr ?_
  refine s_ p_lo ?_
  refine s_ p_ne ?_
  refine s_ p_as ?_
  (repeat (first | apply cn | apply cq | apply cb | apply ck | apply cl | apply cx))
  refine ci ?_ ?_
  · intro hr
    (repeat (first | apply cn | apply cq | apply cb | apply ck | apply cl | apply cx))
    apply cr
    refine s_ p_mv ?_
    refine s_ p_nc ?_
    refine s_ p_fr ?_
    refine s_ p_loa ?_
    refine from_lend1 (G := (b, _) :: (Hl ++ (Ho ++ []))) (H1 := [_]) 20 (nd n) (Lends.agg (node_lends n (h1.lend (by intro p hp; simp [hp])))) ?_ (.refl _)
    refine e_st ?_
    refine s_ p_as ?_
    refine s_ p_as ?_
    (repeat (first | apply cn | apply cq | apply cb | apply ck | apply cl | apply cx))
    (repeat (first | apply cn | apply cq | apply cb | apply ck | apply cl | apply cx))
    (apply sim_ret; (try simp only [blockΨ_ret, thenΨ_ret, loopL_ret, cutΨ_ret, cutE_ret]); first | refine rt ?_ | refine rn ?_)
    rw [propF, if_pos hr]
    exact Le.refl _
  intro hr
  (repeat (first | apply cn | apply cq | apply cb | apply ck | apply cl | apply cx))
  apply cr
  refine s_ p_mv ?_
  refine s_ p_eqS ?_
  refine s_ p_as ?_
  (repeat (first | apply cn | apply cq | apply cb | apply ck | apply cl | apply cx))
  refine ci ?_ ?_
  · intro hc
    (repeat (first | apply cn | apply cq | apply cb | apply ck | apply cl | apply cx))
    apply cr
    refine s_ p_mv ?_
    refine s_ p_nc ?_
    refine s_ p_fr ?_
    refine s_ p_loa ?_
    refine from_lend1 (G := (b, _) :: (Hl ++ (Ho ++ []))) (H1 := [_]) 27 (nd n) (Lends.agg (node_lends n (h1.lend (by intro p hp; simp [hp])))) ?_ (.refl _)
    refine e_st ?_
    refine s_ p_as ?_
    refine s_ p_as ?_
    (repeat (first | apply cn | apply cq | apply cb | apply ck | apply cl | apply cx))
    (repeat (first | apply cn | apply cq | apply cb | apply ck | apply cl | apply cx))
    (apply sim_ret; (try simp only [blockΨ_ret, thenΨ_ret, loopL_ret, cutΨ_ret, cutE_ret]); first | refine rt ?_ | refine rn ?_)
    rw [propF, if_neg hr, if_pos hc]
    exact Le.refl _
  intro hc
  (repeat (first | apply cn | apply cq | apply cb | apply ck | apply cl | apply cx))
  apply cr
  refine s_ p_mv ?_
  refine s_ p_mv ?_
  refine s_ (p_bd 3 [_, _, _]) ?_
  refine e_cH (FnH.of_le ?_ (put_fn ⟨0, 0, cmd⟩ hn hl (by simp) (by simp) hw')) (.refl _) (fun r H' ⟨hr1, hr2⟩ => ?_)
  · ((repeat (apply LeL.cons; (first | exact Le.refl _ | exact Le.nil _ | exact Le.full _ _ | exact Le.any _ | (apply Le.agg; (repeat (apply LeL.cons; (first | exact Le.refl _ | exact Le.nil _ | exact Le.full _ _ | exact Le.any _))); exact LeL.nil) | (apply Le.tup; (repeat (apply LeL.cons; (first | exact Le.refl _ | exact Le.nil _ | exact Le.full _ _ | exact Le.any _ | (apply Le.agg; (repeat (apply LeL.cons; (first | exact Le.refl _ | exact Le.nil _ | exact Le.full _ _ | exact Le.any _))); exact LeL.nil)))); exact LeL.nil)))); exact LeL.nil)
  subst hr1 hr2
  refine s_ p_ex ?_
  refine s_ p_ex ?_
  refine s_ p_ex ?_
  refine e_st ?_
  refine s_ p_as ?_
  refine s_ p_as ?_
  (repeat (first | apply cn | apply cq | apply cb | apply ck | apply cl | apply cx))
  (apply sim_ret; (try simp only [blockΨ_ret, thenΨ_ret, loopL_ret, cutΨ_ret, cutE_ret]); first | refine rt ?_ | refine rn ?_)
  rw [propF, if_neg hr, if_neg hc]
  exact Le.refl _
def xorI (a b : Int) : Int := (a.toNat ^^^ b.toNat : Nat)
theorem xor_eq {x y : Int} (h0 : 0 ≤ x) (h1 : x ≤ 31) (h2 : 0 ≤ y) (h3 : y ≤ 31) : IntKind.u64.wrap (bXor .i64 x y) = xorI x y ∧ 0 ≤ xorI x y ∧ xorI x y ≤ 31 := by
  have key : ∀ i : Fin 32, ∀ j : Fin 32, IntKind.u64.wrap (bXor .i64 i.val j.val) = xorI i.val j.val ∧ 0 ≤ xorI i.val j.val ∧ xorI i.val j.val ≤ 31 := by decide +kernel
  obtain ⟨i, rfl⟩ := fin32 h0 h1
  obtain ⟨j, rfl⟩ := fin32 h2 h3
  exact key i j
def changeF (n : Nd) (conf : Int) : Nd × Int × Int := if ¬ n.role = 2 then (n, 0, 21) else if (conf < 1 ∨ 31 < conf) ∨ ¬ ones (xorI conf (confF n).2) = 1 then (n, 0, 1) else
  if n.commit < (confF n).1 ∨ ¬ termF n n.commit = n.term then (n, 0, 23) else (putF n ⟨0, conf, []⟩, n.base + (n.log.length + 1), 0)
set_option maxHeartbeats 1000000 in
theorem change_fn {n : Nd} (conf : Int) (hn : Bd n) (hl : n.log.length < 100000000) (hc0 : -big ≤ n.commit) (hc1 : n.commit ≤ big) : FnP Tryz.prog 31 [nd n, ei conf] (fun r => r = .tup [nd (changeF n conf).1, ei (changeF n conf).2.1, ei (changeF n conf).2.2]) := by
  have hW := work_fn n (bd_len n hn)
  have hb0 := hn.base0
  have hb1 := hn.base1
  have hC := conf_fn n (bd_len n hn) (by omega) (by omega)
  have hT := term_fn n n.commit (bd_len n hn) (by simp only [big]; omega) (by simp only [big]; omega) hc0 hc1
  refine fn_enter Tryz.func31 (by rfl) (by rfl) ?_
  intro S0 w0
  show Sim _ _ [(0, T.agg (nodeC n (.sl false (n.log.map een)))), (1, ei conf)] _ _
  (repeat (first | apply cn | apply cq | apply cb | apply ck | apply cl | apply cx))
  apply cr
  refine e_bx fun b2 _ => ?_
  refine e_al fun b4 _ => ?_
  refine s_ p_as ?_
  refine s_ p_as ?_
  (repeat (first | apply cn | apply cq | apply cb | apply ck | apply cl | apply cx))
  refine sim_perm (List.Perm.swap _ _ _) ?_
  refine lend1 2 (by simp [nodeC]) ?_
  (repeat (first | apply cn | apply cq | apply cb | apply ck | apply cl | apply cx))
  apply cr
  refine s_ p_la ?_
  refine e_cH (Hs := []) (Hr := [_]) hW (.refl _) (fun r H' ⟨b, hr, hw⟩ => ?_)
  subst hr
  have hw' := hw
  obtain ⟨vl, vo, Hl, Ho, h1, h2, rfl⟩ := hw
  obtain ⟨p, c, rfl⟩ := h1.len
  obtain ⟨q, d, rfl⟩ := h2.len
  refine s_ p_as ?_
  (repeat (first | apply cn | apply cq | apply cb | apply ck | apply cl | apply cx))
  apply cr
  refine s_ p_mv ?_
  refine s_ p_nc ?_
  refine s_ p_fr ?_
  refine s_ (p_cL (G := (b, _) :: (Hl ++ (Ho ++ []))) hC (LendsL.cons (nd_ptr h1 (by intro p hp; simp [hp]) List.mem_cons_self) LendsL.nil) ⟨[_], .refl _⟩) ?_
  refine s_ p_mv ?_
  refine s_ p_ex ?_
  refine s_ p_ex ?_
  refine s_ p_as ?_
  refine s_ p_as ?_
  (repeat (first | apply cn | apply cq | apply cb | apply ck | apply cl | apply cx))
  apply cr
  refine s_ p_mv ?_
  refine s_ p_nc ?_
  refine s_ p_fr ?_
  refine s_ p_fr ?_
  refine s_ p_lo ?_
  refine s_ p_ne ?_
  refine s_ p_as ?_
  (repeat (first | apply cn | apply cq | apply cb | apply ck | apply cl | apply cx))
  refine ci ?_ ?_
  · intro hr
    (repeat (first | apply cn | apply cq | apply cb | apply ck | apply cl | apply cx))
    apply cr
    refine s_ p_mv ?_
    refine s_ p_nc ?_
    refine s_ p_fr ?_
    refine s_ p_loa ?_
    refine from_lend1 (G := (b, _) :: (Hl ++ (Ho ++ []))) (H1 := [_]) 29 (nd n) (Lends.agg (node_lends n (h1.lend (by intro p hp; simp [hp])))) ?_ (.refl _)
    refine e_st ?_
    refine s_ p_as ?_
    refine s_ p_as ?_
    (repeat (first | apply cn | apply cq | apply cb | apply ck | apply cl | apply cx))
    (repeat (first | apply cn | apply cq | apply cb | apply ck | apply cl | apply cx))
    (apply sim_ret; (try simp only [blockΨ_ret, thenΨ_ret, loopL_ret, cutΨ_ret, cutE_ret]); first | refine rt ?_ | refine rn ?_)
    rw [changeF, if_pos hr]
    exact Le.refl _
  intro hr
  have hones : ¬ (conf < 1 ∨ 31 < conf) → FnP Tryz.prog 63 [.v (.int .u64 (IntKind.u64.wrap (bXor .i64 conf (confF n).2)))] (fun r => r = ei (ones (xorI conf (confF n).2))) := by
    intro h
    have hx := xor_eq (x := conf) (y := (confF n).2) (by omega) (by omega) hn.conf0 hn.conf1
    rw [hx.1]
    exact ones_fn _ hx.2.1 hx.2.2
  (repeat (first | apply cn | apply cq | apply cb | apply ck | apply cl | apply cx))
  apply cr
  refine s_ p_mv ?_
  refine s_ p_lt ?_
  refine s_ p_mv ?_
  refine gF (fun hg => p_mv) ?_
  refine gF (fun hg => p_gt (hx := u_ hg)) ?_
  refine s_ p_or ?_
  refine s_ p_mv ?_
  refine gF (fun hg => p_mv) ?_
  refine gF (fun hg => p_mv) ?_
  refine gF (fun hg => p_xor (hx := u_ hg) (hy := u_ hg)) ?_
  refine gF (fun hg => p_cv (hx := u_ hg)) ?_
  refine gF (p := conf < 1 ∨ 31 < conf) (fun hg => p_ca (hones hg) (ha' := by refine evl_cons (u_ hg) ?_; exact evl_nil)) ?_
  refine gF (fun hg => p_ne (hx := u_ hg)) ?_
  refine s_ p_or ?_
  refine s_ p_as ?_
  (repeat (first | apply cn | apply cq | apply cb | apply ck | apply cl | apply cx))
  refine ci ?_ ?_
  · intro hc
    (repeat (first | apply cn | apply cq | apply cb | apply ck | apply cl | apply cx))
    apply cr
    refine s_ p_mv ?_
    refine s_ p_nc ?_
    refine s_ p_fr ?_
    refine s_ p_loa ?_
    refine from_lend1 (G := (b, _) :: (Hl ++ (Ho ++ []))) (H1 := [_]) 48 (nd n) (Lends.agg (node_lends n (h1.lend (by intro p hp; simp [hp])))) ?_ (.refl _)
    refine e_st ?_
    refine s_ p_as ?_
    refine s_ p_as ?_
    (repeat (first | apply cn | apply cq | apply cb | apply ck | apply cl | apply cx))
    (repeat (first | apply cn | apply cq | apply cb | apply ck | apply cl | apply cx))
    (apply sim_ret; (try simp only [blockΨ_ret, thenΨ_ret, loopL_ret, cutΨ_ret, cutE_ret]); first | refine rt ?_ | refine rn ?_)
    rw [changeF, if_neg hr, if_pos hc]
    exact Le.refl _
  intro hc
  (repeat (first | apply cn | apply cq | apply cb | apply ck | apply cl | apply cx))
  refine ca [0, 1, 2, 3, 4, 5, 6, 7, 8, 9, 10, 11, 12, 13, 14, 15, 16, 17, 18, 19, 20, 21, 22, 23, 24] [] ?_
  refine a_ (fun _ => p_mv) ?_
  refine a_ (fun _ => p_mv) ?_
  refine a_ (fun _ => p_nc) ?_
  refine a_ (fun _ => p_fr) ?_
  refine a_ (fun _ => p_fr) ?_
  refine a_lo ?_
  refine a_ (fun _ => p_gt) ?_
  refine a_ (fun _ => p_mv) ?_
  refine ag_F (fun _ hg => p_mv) ?_
  refine ag_F (fun _ hg => p_nc (hx := u_ hg)) ?_
  refine ag_F (fun _ hg => p_fr (hx := u_ hg)) ?_
  refine ag_F (fun _ hg => p_mv) ?_
  refine ag_F (fun _ hg => p_nc (hx := u_ hg)) ?_
  refine ag_F (fun _ hg => p_fr (hx := u_ hg)) ?_
  refine ag_F (fun _ hg => p_fr (hx := u_ hg)) ?_
  refine ag_loF ?_
  refine ag_cLF (G := (b, _) :: (Hl ++ (Ho ++ []))) (fun _ => hT) (fun _ => LendsL.cons (nd_ptr h1 (by intro p hp; simp [hp]) List.mem_cons_self) (LendsL.cons (Lends.le (Le.refl _)) LendsL.nil)) ⟨[_], .refl _⟩ ?_ (fun hg => by refine evl_cons (u_ hg) (evl_cons (u_ hg) evl_nil))
  refine ag_F (fun _ hg => p_mv) ?_
  refine ag_F (fun _ hg => p_nc (hx := u_ hg)) ?_
  refine ag_F (fun _ hg => p_fr (hx := u_ hg)) ?_
  refine ag_F (fun _ hg => p_fr (hx := u_ hg)) ?_
  refine ag_loF ?_
  refine ag_F (fun _ hg => p_ne (hx := u_ hg) (hy := u_ hg)) ?_
  refine a_ (fun _ => p_or) ?_
  refine a_ (fun _ => p_as) ?_
  apply an
  (repeat (first | apply cn | apply cq | apply cb | apply ck | apply cl | apply cx))
  refine ci ?_ ?_
  · intro he
    (repeat (first | apply cn | apply cq | apply cb | apply ck | apply cl | apply cx))
    apply cr
    refine s_ p_mv ?_
    refine s_ p_nc ?_
    refine s_ p_fr ?_
    refine s_ p_loa ?_
    refine from_lend1 (G := (b, _) :: (Hl ++ (Ho ++ []))) (H1 := [_]) 77 (nd n) (Lends.agg (node_lends n (h1.lend (by intro p hp; simp [hp])))) ?_ (.refl _)
    refine e_st ?_
    refine s_ p_as ?_
    refine s_ p_as ?_
    (repeat (first | apply cn | apply cq | apply cb | apply ck | apply cl | apply cx))
    (repeat (first | apply cn | apply cq | apply cb | apply ck | apply cl | apply cx))
    (apply sim_ret; (try simp only [blockΨ_ret, thenΨ_ret, loopL_ret, cutΨ_ret, cutE_ret]); first | refine rt ?_ | refine rn ?_)
    rw [changeF, if_neg hr, if_neg hc, if_pos he]
    exact Le.refl _
  intro he
  (repeat (first | apply cn | apply cq | apply cb | apply ck | apply cl | apply cx))
  apply cr
  refine s_ p_mv ?_
  refine s_ p_mv ?_
  refine s_ (p_bd 3 [_, _, _]) ?_
  refine e_cH (FnH.of_le ?_ (put_fn ⟨0, conf, []⟩ hn hl (by simp only; omega) (by simp only; omega) hw')) (.refl _) (fun r H' ⟨hr1, hr2⟩ => ?_)
  · ((repeat (apply LeL.cons; (first | exact Le.refl _ | exact Le.nil _ | exact Le.full _ _ | exact Le.any _ | (apply Le.agg; (repeat (apply LeL.cons; (first | exact Le.refl _ | exact Le.nil _ | exact Le.full _ _ | exact Le.any _))); exact LeL.nil) | (apply Le.tup; (repeat (apply LeL.cons; (first | exact Le.refl _ | exact Le.nil _ | exact Le.full _ _ | exact Le.any _ | (apply Le.agg; (repeat (apply LeL.cons; (first | exact Le.refl _ | exact Le.nil _ | exact Le.full _ _ | exact Le.any _))); exact LeL.nil)))); exact LeL.nil)))); exact LeL.nil)
  subst hr1 hr2
  refine s_ p_ex ?_
  refine s_ p_ex ?_
  refine s_ p_ex ?_
  refine e_st ?_
  refine s_ p_as ?_
  refine s_ p_as ?_
  (repeat (first | apply cn | apply cq | apply cb | apply ck | apply cl | apply cx))
  (apply sim_ret; (try simp only [blockΨ_ret, thenΨ_ret, loopL_ret, cutΨ_ret, cutE_ret]); first | refine rt ?_ | refine rn ?_)
  rw [changeF, if_neg hr, if_neg hc, if_neg he]
  exact Le.refl _
end Go.Proofs.YtbdpfclnomiicaaGreat
