/-
  Chapter 19's laws: a message that another one may send.
  Chapter 19's laws: same, over the same messages; few.
  Chapter 19's laws: few.
  replica: Take, where the index is of no matter.
  Chapter 19 in plain words: a message taken.
  Chapter 19's laws: an act, at a kept replica and upon a node.
  Acts of chapter 19, read of memory.
-/
import Derived.Test.YtbdpfclnomiicaaGreatPows
import Derived.Test.YtbdpfclnomiicaaGreatTrees
import Derived.Test.YtbdpfclnomiicaaGreatTake
import Derived.Test.YtbdpfclnomiicaaGreatBridge
import Derived.Test.YtbdpfclnomiicaaGreatRead
section
set_option maxRecDepth 16000
namespace Go.Cap
section
variable {P : Program} {t : Env} {H : Heap} {dst : Option Tmp} {tp : TypeId} {pos : String} {aft : Array Edge} {g : Option (Nat × Bool)} {ty ty' : TypeId} {x y : Operand} {l m : List UInt8}
theorem bs_append (l m : List UInt8) : bs l ++ bs m = bs (l ++ m) := by
  apply ByteArray.ext
  simp [bs]
theorem p_cat (hx : t.ev x = .v (.string (bs l)) := by first | ((repeat (apply eS; rfl)); exact eZ) | exact ev_int | exact ev_bool | exact ev_nil | exact ev_str | exact ev_ptr | exact ev_agg | exact ev_map | exact ev_nilf | exact ev_nili | exact ev_func) (hy : t.ev y = .v (.string (bs m)) := by first | ((repeat (apply eS; rfl)); exact eZ) | exact ev_int | exact ev_bool | exact ev_nil | exact ev_str | exact ev_ptr | exact ev_agg | exact ev_map | exact ev_nilf | exact ev_nili | exact ev_func) (h : l.length + m.length ≤ 9223372036854775807 := by (first | omega | (simp only [List.length_map, List.length_replicate, List.length_append, List.length_cons, List.length_nil, List.length_take, List.length_drop, Int.toNat_natCast]; omega) | (simp only [List.length_map, List.length_replicate, List.length_append, List.length_cons, List.length_nil, List.length_take, List.length_drop, Int.toNat_natCast] at *; omega))) : POp P t H ⟨dst, .binOp .add ty x y ty', tp, pos, aft, g⟩ (.v (.string (bs (l ++ m)))) :=
  pop_bin hx hy fun w => by
    have h1 : (bs l).size = l.length := by simp [bs, ByteArray.size]
    have h2 : (bs m).size = m.length := by simp [bs, ByteArray.size]
    have h3 : ¬ ((((bs l).size + (bs m).size : Nat) : Int) > 9223372036854775807) := by rw [h1, h2]; omega
    have h4 : IntKind.i64.max = 9223372036854775807 := rfl
    simp only [eqGuard, binOp, Op.stringOp, h4]
    rw [if_neg h3, bs_append]
    simp
end
end Go.Cap
namespace Go.Proofs.YtbdpfclnomiicaaGreat
open Go.Cap
set_option linter.unusedSimpArgs false
set_option linter.unusedVariables false
attribute [local irreducible] POp SimFrom DrawFrom EOp Sim FnH T.gp
structure Ak where
  kind : Int
  n : Int
  m : Ms
  cmd : List UInt8
def akT (a : Ak) : T := .agg ([ei a.kind, ei a.n] ++ msC a.m (eens a.m.entries) ++ [es a.cmd])
structure AkOk (a : Ak) : Prop where
  cmd : a.cmd.length ≤ 60
  len : a.m.entries.length ≤ 9
  ents : ∀ e ∈ a.m.entries, e.cmd.length ≤ 60
structure MsgOk (n : Nd) (m : Ms) (s : Nat) : Prop where
  kind0 : 1 ≤ m.kind
  kind1 : m.kind ≤ 4
  frm0 : 0 ≤ m.frm
  frm1 : m.frm < 5
  to : m.to = n.id
  term0 : 1 ≤ m.term
  term1 : m.term ≤ s + 3
  idx : ¬ m.kind = 2 → 0 ≤ m.index ∧ m.index ≤ s + 2
  len : m.entries.length ≤ 9
  com : m.kind = 3 → 0 ≤ m.commit ∧ m.commit ≤ s
  ents : m.kind = 3 → m.entries.length ≤ 3 ∧ ∀ e ∈ m.entries, e.term = m.term ∧ e.conf = 0 ∧ e.cmd.length ≤ 61
theorem termF_bd {n : Nd} {s : Nat} (h : Nk n s) (i : Int) : 0 ≤ termF n i ∧ termF n i ≤ s := by
  have hb := h.baseTerm
  unfold termF
  split
  · rename_i hr
    have hbb := h.base
    have hlt : (i - n.base - 1).toNat < n.log.length := by omega
    have hm : n.log.getD (i - n.base - 1).toNat default ∈ n.log := by
      rw [List.getD_eq_getElem?_getD, List.getElem?_eq_getElem hlt]
      exact List.getElem_mem hlt
    have := h.ents _ hm
    exact ⟨this.t0, this.t1⟩
  · omega
theorem ms_lends {G : Heap} (m : Ms) {x y : T} (h : Lends G x y) : LendsL G (msC m x) (msC m y) := by
  unfold msC
  repeat (first | exact LendsL.nil | (refine LendsL.cons (Lends.le (Le.refl _)) ?_) | (refine LendsL.cons h ?_))
set_option maxHeartbeats 8000000 in
theorem mess_fn (a : Ak) (n : Nd) (s : Nat) (ha : AkOk a) (hn : Nk n s) (hs : s ≤ 900) : ∃ m, FnP Tryz.prog 26 [akT a, nd n] (fun r => r = ms m) ∧ MsgOk n m s := by
  have hid0 := hn.id0
  have hid5 := hn.id5
  have ht0 := hn.term0
  have ht1 := hn.term1
  have hll := hn.len
  have hbase := hn.base
  have hL := last_fn n (by omega) (by omega) (by omega)
  have hlast : lastF n = n.log.length := by unfold lastF; omega
  have htm := termF_bd hn (lastF n)
  obtain ⟨tm, htmm⟩ : ∃ tm, tm = termF n (lastF n) := ⟨_, rfl⟩
  rw [← htmm] at hL htm
  rw [hlast] at hL
  have w1 := within_fn a.m.frm 4 (by omega) (by omega)
  have w2 := within_fn a.m.kind 4 (by omega) (by omega)
  have w3 := within_fn a.m.term 5 (by omega) (by omega)
  have f0 := Int.emod_nonneg a.m.frm (show (4 : Int) ≠ 0 by omega)
  have f1 := Int.emod_lt_of_pos a.m.frm (show (0 : Int) < 4 by omega)
  have k0 := Int.emod_nonneg a.m.kind (show (4 : Int) ≠ 0 by omega)
  have k1 := Int.emod_lt_of_pos a.m.kind (show (0 : Int) < 4 by omega)
  have t0 := Int.emod_nonneg a.m.term (show (5 : Int) ≠ 0 by omega)
  have t1 := Int.emod_lt_of_pos a.m.term (show (0 : Int) < 5 by omega)
  obtain ⟨fr, hfr⟩ : ∃ fr, fr = (n.id + 1 + a.m.frm % 4).tmod 5 := ⟨_, rfl⟩
  have hfr0 : 0 ≤ fr ∧ fr < 5 := by rw [hfr]; exact ⟨Int.tmod_nonneg _ (by omega), Int.tmod_lt_of_pos _ (by omega)⟩
  obtain ⟨te, hte⟩ : ∃ te, te = max n.term 1 + (a.m.term % 5).tdiv 4 := ⟨_, rfl⟩
  have htd : 0 ≤ (a.m.term % 5).tdiv 4 ∧ (a.m.term % 5).tdiv 4 ≤ 1 := by
    obtain ⟨q, hq⟩ := Int.eq_ofNat_of_zero_le t0
    rw [hq] at t1 ⊢
    have : ((q : Int)).tdiv 4 = ((q / 4 : Nat) : Int) := rfl
    rw [this]; omega
  have hte0 : 1 ≤ te ∧ te ≤ s + 2 := by omega
  obtain ⟨kk, hkk⟩ : ∃ kk, kk = 1 + a.m.kind % 4 := ⟨_, rfl⟩
  have hb4 : kk = 1 ∨ kk = 2 ∨ kk = 3 ∨ kk = 4 := by omega
  have w4 := within_fn a.m.index 3 (by omega) (by omega)
  have w5 := within_fn a.m.logTerm 2 (by omega) (by omega)
  have w7 := within_fn a.m.index ((n.log.length : Int) + 1) (by omega) (by omega)
  have i0 := Int.emod_nonneg a.m.index (show (3 : Int) ≠ 0 by omega)
  have i1 := Int.emod_lt_of_pos a.m.index (show (0 : Int) < 3 by omega)
  have j0 := Int.emod_nonneg a.m.logTerm (show (2 : Int) ≠ 0 by omega)
  have j1 := Int.emod_lt_of_pos a.m.logTerm (show (0 : Int) < 2 by omega)
  have l0 := Int.emod_nonneg a.m.index (show ((n.log.length : Int) + 1) ≠ 0 by omega)
  have l1 := Int.emod_lt_of_pos a.m.index (show (0 : Int) < (n.log.length : Int) + 1 by omega)
  have hae := ha.len
  rcases hb4 with hk | hk | hk | hk
  · refine ⟨⟨1, fr, n.id, te, (n.log.length : Int) + a.m.index % 3, max tm 0 + a.m.logTerm % 2, a.m.commit, 0, a.m.yes, a.m.entries, []⟩, ?_, ⟨by simp, by simp, hfr0.1, hfr0.2, rfl, hte0.1, by simp only; omega, fun _ => by simp only; omega, hae, fun h => by simp at h, fun h => by simp at h⟩⟩
    refine fn_enter Tryz.func26 (by rfl) (by rfl) ?_
    intro S0 w0
    show Sim _ _ [(0, T.agg [ei a.kind, ei a.n, ei a.m.kind, ei a.m.frm, ei a.m.to, ei a.m.term, ei a.m.index, ei a.m.logTerm, ei a.m.commit, ei a.m.conf, eB a.m.yes, eens a.m.entries, es a.m.snap, es a.cmd]), (1, T.agg (nodeC n (.sl false (n.log.map een))))] _ _
    (repeat (first | apply cn | apply cq | apply cb | apply ck | apply cl | apply cx))
    apply cr
    refine e_bx fun b2 _ => ?_
    refine e_bx fun b3 _ => ?_
    refine e_al fun b4 _ => ?_
    (repeat (first | apply cn | apply cq | apply cb | apply ck | apply cl | apply cx))
    apply cr
    refine s_ p_fr ?_
    refine s_ p_loa ?_
    refine e_al fun b5 _ => ?_
    refine e_st ?_
    (repeat (first | apply cn | apply cq | apply cb | apply ck | apply cl | apply cx))
    (repeat (first | apply cn | apply cq | apply cb | apply ck | apply cl | apply cx))
    refine ca [0, 1, 2, 3, 4, 5, 6, 7, 8, 9, 10, 11, 12, 13] [11, 13] ?_
    refine a_ (fun _ => p_fr) ?_
    refine a_lo ?_
    refine a_ (fun _ => p_ad) ?_
    refine a_ (fun _ => p_fr) ?_
    refine a_lo ?_
    refine a_ (fun _ => p_ca (w1)) ?_
    refine a_ (fun _ => p_ad) ?_
    refine a_ (fun _ => p_re) ?_
    refine a_ (fun _ => p_fr) ?_
    refine a_lo ?_
    refine a_ (fun _ => p_fr) ?_
    refine a_st ?_
    refine a_ (fun _ => p_fr) ?_
    refine a_st ?_
    apply an
    (repeat (first | apply cn | apply cq | apply cb | apply ck | apply cl | apply cx))
    rw [← hfr]
    (repeat (first | apply cn | apply cq | apply cb | apply ck | apply cl | apply cx))
    refine ca [0, 1, 2, 3, 4, 5, 6, 7, 8, 9, 10, 11, 12, 13, 14, 15] [13, 15] ?_
    refine a_ (fun _ => p_fr) ?_
    refine a_lo ?_
    refine a_ (fun _ => p_ca (w2)) ?_
    refine a_ (fun _ => p_ad) ?_
    refine a_ (fun _ => p_fr) ?_
    refine a_lo ?_
    refine a_ (fun _ => p_ma) ?_
    refine a_ (fun _ => p_fr) ?_
    refine a_lo ?_
    refine a_ (fun _ => p_ca (w3)) ?_
    (first | refine a_ (fun _ => p_qu) ?_ | refine a_ (fun _ => p_quw) ?_)
    refine a_ (fun _ => p_ad) ?_
    refine a_ (fun _ => p_fr) ?_
    refine a_st ?_
    refine a_ (fun _ => p_fr) ?_
    refine a_st ?_
    apply an
    (repeat (first | apply cn | apply cq | apply cb | apply ck | apply cl | apply cx))
    rw [← hte, ← hkk, hk]
    (repeat (first | apply cn | apply cq | apply cb | apply ck | apply cl | apply cx))
    apply cr
    refine s_ p_loa ?_
    refine s_ (p_ca (hL)) ?_
    refine s_ p_mv ?_
    refine s_ p_ex ?_
    refine s_ p_ex ?_
    refine s_ p_as ?_
    refine s_ p_as ?_
    (repeat (first | apply cn | apply cq | apply cb | apply ck | apply cl | apply cx))
    (repeat (first | apply cn | apply cq | apply cb | apply ck | apply cl | apply cx))
    apply cr
    refine s_ p_fr ?_
    refine s_ p_lo ?_
    (repeat (first | apply cn | apply cq | apply cb | apply ck | apply cl | apply cx))
    (repeat (first | apply cn | apply cq | apply cb | apply ck | apply cl | apply cx))
    apply cr
    refine s_ p_eq ?_
    refine s_ p_as ?_
    (repeat (first | apply cn | apply cq | apply cb | apply ck | apply cl | apply cx))
    refine ci ?_ ?_
    rotate_left
    · intro h; exact absurd rfl h
    intro _
    (repeat (first | apply cn | apply cq | apply cb | apply ck | apply cl | apply cx))
    refine ca [0, 1, 2, 3, 4, 5, 6, 7, 8, 9, 10, 11, 12, 13, 14] [12, 14] ?_
    refine a_ (fun _ => p_mv) ?_
    refine a_ (fun _ => p_fr) ?_
    refine a_lo ?_
    refine a_ (fun _ => p_ca (w4)) ?_
    refine a_ (fun _ => p_ad) ?_
    refine a_ (fun _ => p_mv) ?_
    refine a_ (fun _ => p_ma) ?_
    refine a_ (fun _ => p_fr) ?_
    refine a_lo ?_
    refine a_ (fun _ => p_ca (w5)) ?_
    refine a_ (fun _ => p_ad) ?_
    refine a_ (fun _ => p_fr) ?_
    refine a_st ?_
    refine a_ (fun _ => p_fr) ?_
    refine a_st ?_
    apply an
    (repeat (first | apply cn | apply cq | apply cb | apply ck | apply cl | apply cx))
    (repeat (first | apply cn | apply cq | apply cb | apply ck | apply cl | apply cx))
    (repeat (first | apply cn | apply cq | apply cb | apply ck | apply cl | apply cx))
    apply cr
    refine s_ p_fr ?_
    refine e_st ?_
    refine s_ p_fr ?_
    refine e_st ?_
    (repeat (first | apply cn | apply cq | apply cb | apply ck | apply cl | apply cx))
    apply cr
    refine s_ p_loa ?_
    refine e_st ?_
    (repeat (first | apply cn | apply cq | apply cb | apply ck | apply cl | apply cx))
    (apply sim_ret; (try simp only [blockΨ_ret, thenΨ_ret, loopL_ret, cutΨ_ret, cutE_ret]); first | refine rt ?_ | refine rn ?_)
    exact Le.refl _
  · refine ⟨⟨2, fr, n.id, te, a.m.index, a.m.logTerm, a.m.commit, 0, a.m.yes, a.m.entries, []⟩, ?_, ⟨by simp, by simp, hfr0.1, hfr0.2, rfl, hte0.1, by simp only; omega, fun h => absurd rfl h, hae, fun h => by simp at h, fun h => by simp at h⟩⟩
    refine fn_enter Tryz.func26 (by rfl) (by rfl) ?_
    intro S0 w0
    show Sim _ _ [(0, T.agg [ei a.kind, ei a.n, ei a.m.kind, ei a.m.frm, ei a.m.to, ei a.m.term, ei a.m.index, ei a.m.logTerm, ei a.m.commit, ei a.m.conf, eB a.m.yes, eens a.m.entries, es a.m.snap, es a.cmd]), (1, T.agg (nodeC n (.sl false (n.log.map een))))] _ _
    (repeat (first | apply cn | apply cq | apply cb | apply ck | apply cl | apply cx))
    apply cr
    refine e_bx fun b2 _ => ?_
    refine e_bx fun b3 _ => ?_
    refine e_al fun b4 _ => ?_
    (repeat (first | apply cn | apply cq | apply cb | apply ck | apply cl | apply cx))
    apply cr
    refine s_ p_fr ?_
    refine s_ p_loa ?_
    refine e_al fun b5 _ => ?_
    refine e_st ?_
    (repeat (first | apply cn | apply cq | apply cb | apply ck | apply cl | apply cx))
    (repeat (first | apply cn | apply cq | apply cb | apply ck | apply cl | apply cx))
    refine ca [0, 1, 2, 3, 4, 5, 6, 7, 8, 9, 10, 11, 12, 13] [11, 13] ?_
    refine a_ (fun _ => p_fr) ?_
    refine a_lo ?_
    refine a_ (fun _ => p_ad) ?_
    refine a_ (fun _ => p_fr) ?_
    refine a_lo ?_
    refine a_ (fun _ => p_ca (w1)) ?_
    refine a_ (fun _ => p_ad) ?_
    refine a_ (fun _ => p_re) ?_
    refine a_ (fun _ => p_fr) ?_
    refine a_lo ?_
    refine a_ (fun _ => p_fr) ?_
    refine a_st ?_
    refine a_ (fun _ => p_fr) ?_
    refine a_st ?_
    apply an
    (repeat (first | apply cn | apply cq | apply cb | apply ck | apply cl | apply cx))
    rw [← hfr]
    (repeat (first | apply cn | apply cq | apply cb | apply ck | apply cl | apply cx))
    refine ca [0, 1, 2, 3, 4, 5, 6, 7, 8, 9, 10, 11, 12, 13, 14, 15] [13, 15] ?_
    refine a_ (fun _ => p_fr) ?_
    refine a_lo ?_
    refine a_ (fun _ => p_ca (w2)) ?_
    refine a_ (fun _ => p_ad) ?_
    refine a_ (fun _ => p_fr) ?_
    refine a_lo ?_
    refine a_ (fun _ => p_ma) ?_
    refine a_ (fun _ => p_fr) ?_
    refine a_lo ?_
    refine a_ (fun _ => p_ca (w3)) ?_
    (first | refine a_ (fun _ => p_qu) ?_ | refine a_ (fun _ => p_quw) ?_)
    refine a_ (fun _ => p_ad) ?_
    refine a_ (fun _ => p_fr) ?_
    refine a_st ?_
    refine a_ (fun _ => p_fr) ?_
    refine a_st ?_
    apply an
    (repeat (first | apply cn | apply cq | apply cb | apply ck | apply cl | apply cx))
    rw [← hte, ← hkk, hk]
    (repeat (first | apply cn | apply cq | apply cb | apply ck | apply cl | apply cx))
    apply cr
    refine s_ p_loa ?_
    refine s_ (p_ca (hL)) ?_
    refine s_ p_mv ?_
    refine s_ p_ex ?_
    refine s_ p_ex ?_
    refine s_ p_as ?_
    refine s_ p_as ?_
    (repeat (first | apply cn | apply cq | apply cb | apply ck | apply cl | apply cx))
    (repeat (first | apply cn | apply cq | apply cb | apply ck | apply cl | apply cx))
    apply cr
    refine s_ p_fr ?_
    refine s_ p_lo ?_
    (repeat (first | apply cn | apply cq | apply cb | apply ck | apply cl | apply cx))
    (repeat (first | apply cn | apply cq | apply cb | apply ck | apply cl | apply cx))
    apply cr
    refine s_ p_eq ?_
    refine s_ p_as ?_
    (repeat (first | apply cn | apply cq | apply cb | apply ck | apply cl | apply cx))
    refine ci ?_ ?_
    · intro h; exact absurd h (by omega)
    intro _
    (repeat (first | apply cn | apply cq | apply cb | apply ck | apply cl | apply cx))
    apply cr
    refine s_ p_eq ?_
    refine s_ p_as ?_
    (repeat (first | apply cn | apply cq | apply cb | apply ck | apply cl | apply cx))
    refine ci ?_ ?_
    · intro h; exact absurd h (by omega)
    intro _
    (repeat (first | apply cn | apply cq | apply cb | apply ck | apply cl | apply cx))
    apply cr
    refine s_ p_eq ?_
    refine s_ p_as ?_
    (repeat (first | apply cn | apply cq | apply cb | apply ck | apply cl | apply cx))
    refine ci ?_ ?_
    · intro h; exact absurd h (by omega)
    intro _
    (repeat (first | apply cn | apply cq | apply cb | apply ck | apply cl | apply cx))
    (repeat (first | apply cn | apply cq | apply cb | apply ck | apply cl | apply cx))
    apply cr
    refine s_ p_fr ?_
    refine e_st ?_
    refine s_ p_fr ?_
    refine e_st ?_
    (repeat (first | apply cn | apply cq | apply cb | apply ck | apply cl | apply cx))
    apply cr
    refine s_ p_loa ?_
    refine e_st ?_
    (repeat (first | apply cn | apply cq | apply cb | apply ck | apply cl | apply cx))
    (apply sim_ret; (try simp only [blockΨ_ret, thenΨ_ret, loopL_ret, cutΨ_ret, cutE_ret]); first | refine rt ?_ | refine rn ?_)
    exact Le.refl _
  · have w8 := within_fn a.m.commit ((n.log.length : Int) + 1) (by omega) (by omega)
    have m0 := Int.emod_nonneg a.m.commit (show ((n.log.length : Int) + 1) ≠ 0 by omega)
    have m1 := Int.emod_lt_of_pos a.m.commit (show (0 : Int) < (n.log.length : Int) + 1 by omega)
    have hc0 := hn.com0
    have hc1 := hn.com1
    obtain ⟨cm, hcm⟩ : ∃ cm, cm = max n.commit (min ((n.log.length : Nat) : Int) (a.m.commit % ((n.log.length : Int) + 1))) := ⟨_, rfl⟩
    have hcm0 : 0 ≤ cm ∧ cm ≤ s := by omega
    obtain ⟨mk3, hmk⟩ : ∃ mk3 : Int → List En, mk3 = fun t => (a.m.entries.take 3).map fun e => ⟨t, 0, 101 :: e.cmd⟩ := ⟨_, rfl⟩
    obtain ⟨tf, htf⟩ : ∃ tf : Int, tf = if n.role = 2 ∧ te = n.term then te + 1 else te := ⟨_, rfl⟩
    have htf0 : 1 ≤ tf ∧ tf ≤ s + 3 := by rw [htf]; split <;> omega
    obtain ⟨M3, hM3⟩ : ∃ M3 : Ms, M3 = ⟨3, fr, n.id, tf, (n.log.length : Nat), tm, cm, 0, a.m.yes, mk3 tf, []⟩ := ⟨_, rfl⟩
    have hml : ∀ t, (mk3 t).length = min 3 a.m.entries.length := fun t => by rw [hmk]; simp [List.length_take]
    have hmg : ∀ t k (hk : k < (mk3 t).length) (hk' : k < a.m.entries.length), (mk3 t)[k] = ⟨t, 0, 101 :: a.m.entries[k].cmd⟩ := fun t k hk hk' => by subst hmk; simp
    refine ⟨M3, ?_, ?_⟩
    rotate_left
    · rw [hM3]
      refine ⟨by simp, by simp, hfr0.1, hfr0.2, rfl, htf0.1, htf0.2, fun _ => by simp only; omega, by simp only [hml]; omega, fun _ => hcm0, fun _ => ⟨by simp only [hml]; omega, ?_⟩⟩
      intro e he
      simp only [hmk] at he
      obtain ⟨e', he', rfl⟩ := List.mem_map.1 he
      exact ⟨rfl, rfl, by have := ha.ents e' (List.mem_of_mem_take he'); simp only [List.length_cons]; omega⟩
    refine FnH.give (Φ := fun r H => ∃ v, r = .agg (msC M3 (.v v)) ∧ OE M3.entries v H) ?_ (by rintro r H ⟨v, rfl, ho⟩; exact Lends.agg (ms_lends _ (ho.lend fun _ h => h)))
    refine fn_enter Tryz.func26 (by rfl) (by rfl) ?_
    intro S0 w0
    show Sim _ _ [(0, T.agg [ei a.kind, ei a.n, ei a.m.kind, ei a.m.frm, ei a.m.to, ei a.m.term, ei a.m.index, ei a.m.logTerm, ei a.m.commit, ei a.m.conf, eB a.m.yes, eens a.m.entries, es a.m.snap, es a.cmd]), (1, T.agg (nodeC n (.sl false (n.log.map een))))] _ _
    (repeat (first | apply cn | apply cq | apply cb | apply ck | apply cl | apply cx))
    apply cr
    refine e_bx fun b2 _ => ?_
    refine e_bx fun b3 _ => ?_
    refine e_al fun b4 _ => ?_
    (repeat (first | apply cn | apply cq | apply cb | apply ck | apply cl | apply cx))
    apply cr
    refine s_ p_fr ?_
    refine s_ p_loa ?_
    refine e_al fun b5 _ => ?_
    refine e_st ?_
    (repeat (first | apply cn | apply cq | apply cb | apply ck | apply cl | apply cx))
    (repeat (first | apply cn | apply cq | apply cb | apply ck | apply cl | apply cx))
    refine ca [0, 1, 2, 3, 4, 5, 6, 7, 8, 9, 10, 11, 12, 13] [11, 13] ?_
    refine a_ (fun _ => p_fr) ?_
    refine a_lo ?_
    refine a_ (fun _ => p_ad) ?_
    refine a_ (fun _ => p_fr) ?_
    refine a_lo ?_
    refine a_ (fun _ => p_ca (w1)) ?_
    refine a_ (fun _ => p_ad) ?_
    refine a_ (fun _ => p_re) ?_
    refine a_ (fun _ => p_fr) ?_
    refine a_lo ?_
    refine a_ (fun _ => p_fr) ?_
    refine a_st ?_
    refine a_ (fun _ => p_fr) ?_
    refine a_st ?_
    apply an
    (repeat (first | apply cn | apply cq | apply cb | apply ck | apply cl | apply cx))
    rw [← hfr]
    (repeat (first | apply cn | apply cq | apply cb | apply ck | apply cl | apply cx))
    refine ca [0, 1, 2, 3, 4, 5, 6, 7, 8, 9, 10, 11, 12, 13, 14, 15] [13, 15] ?_
    refine a_ (fun _ => p_fr) ?_
    refine a_lo ?_
    refine a_ (fun _ => p_ca (w2)) ?_
    refine a_ (fun _ => p_ad) ?_
    refine a_ (fun _ => p_fr) ?_
    refine a_lo ?_
    refine a_ (fun _ => p_ma) ?_
    refine a_ (fun _ => p_fr) ?_
    refine a_lo ?_
    refine a_ (fun _ => p_ca (w3)) ?_
    (first | refine a_ (fun _ => p_qu) ?_ | refine a_ (fun _ => p_quw) ?_)
    refine a_ (fun _ => p_ad) ?_
    refine a_ (fun _ => p_fr) ?_
    refine a_st ?_
    refine a_ (fun _ => p_fr) ?_
    refine a_st ?_
    apply an
    (repeat (first | apply cn | apply cq | apply cb | apply ck | apply cl | apply cx))
    rw [← hte, ← hkk, hk]
    (repeat (first | apply cn | apply cq | apply cb | apply ck | apply cl | apply cx))
    apply cr
    refine s_ p_loa ?_
    refine s_ (p_ca (hL)) ?_
    refine s_ p_mv ?_
    refine s_ p_ex ?_
    refine s_ p_ex ?_
    refine s_ p_as ?_
    refine s_ p_as ?_
    (repeat (first | apply cn | apply cq | apply cb | apply ck | apply cl | apply cx))
    (repeat (first | apply cn | apply cq | apply cb | apply ck | apply cl | apply cx))
    apply cr
    refine s_ p_fr ?_
    refine s_ p_lo ?_
    (repeat (first | apply cn | apply cq | apply cb | apply ck | apply cl | apply cx))
    (repeat (first | apply cn | apply cq | apply cb | apply ck | apply cl | apply cx))
    apply cr
    refine s_ p_eq ?_
    refine s_ p_as ?_
    (repeat (first | apply cn | apply cq | apply cb | apply ck | apply cl | apply cx))
    refine ci ?_ ?_
    · intro h; exact absurd h (by omega)
    intro _
    (repeat (first | apply cn | apply cq | apply cb | apply ck | apply cl | apply cx))
    apply cr
    refine s_ p_eq ?_
    refine s_ p_as ?_
    (repeat (first | apply cn | apply cq | apply cb | apply ck | apply cl | apply cx))
    refine ci ?_ ?_
    rotate_left
    · intro h; exact absurd rfl h
    intro _
    (repeat (first | apply cn | apply cq | apply cb | apply ck | apply cl | apply cx))
    apply cr
    refine s_ p_mv ?_
    refine s_ p_mv ?_
    refine s_ p_fr ?_
    refine e_st ?_
    refine s_ p_fr ?_
    refine e_st ?_
    (repeat (first | apply cn | apply cq | apply cb | apply ck | apply cl | apply cx))
    refine ca [0, 1, 2, 3, 4, 5, 6, 7, 8, 9, 10, 11] [11] ?_
    refine a_ (fun _ => p_fr) ?_
    refine a_lo ?_
    refine a_ (fun _ => p_mv) ?_
    refine a_ (fun _ => p_fr) ?_
    refine a_lo ?_
    refine a_ (fun _ => p_mv) ?_
    refine a_ (fun _ => p_ad) ?_
    refine a_ (fun _ => p_ca (w8)) ?_
    refine a_ (fun _ => p_mi) ?_
    refine a_ (fun _ => p_ma) ?_
    refine a_ (fun _ => p_fr) ?_
    refine a_st ?_
    apply an
    (repeat (first | apply cn | apply cq | apply cb | apply ck | apply cl | apply cx))
    rw [← hcm]
    (repeat (first | apply cn | apply cq | apply cb | apply ck | apply cl | apply cx))
    apply cr
    refine s_ p_as ?_
    (repeat (first | apply cn | apply cq | apply cb | apply ck | apply cl | apply cx))
    apply cr
    refine s_ p_as ?_
    (repeat (first | apply cn | apply cq | apply cb | apply ck | apply cl | apply cx))
    apply sim_loopL (σ := Nat × Value × Heap) (ok := fun s => s.1 ≤ min 3 a.m.entries.length ∧ OE ((mk3 te).take s.1) s.2.1 s.2.2) (env := fun s => [(9, ei s.1), (8, .v s.2.1), (5, pW b5), (3, pW b3), (4, pW b4), (45, ei 3)])
      (heap := fun s => (b5, ⟨tM, [ei 3, ei fr, ei n.id, ei te, ei (n.log.length : Nat), ei tm, ei cm, ei a.m.conf, eB a.m.yes, eens a.m.entries, es a.m.snap], 11⟩) :: (b4, ⟨tM, [ei 0, ei 0, ei 0, ei 0, ei 0, ei 0, ei 0, ei 0, eB false, .v (.slice none 0 0), es []], 11⟩) :: (b3, ⟨tN, nodeC n (.sl false (n.log.map een)), 22⟩) :: (s.2.2 ++ [])) (μ := fun s => a.m.entries.length - s.1) (s0 := (0, .slice none 0 0, []))
    · exact ⟨Nat.zero_le _, osl_nil⟩
    · exact eL
    · exact kK (kK (kK (.skip _ _ _ kR)))
    rintro ⟨k, v, H⟩ ⟨hk, ho⟩
    simp only at hk ho
    show Sim _ _ [(9, ei k), (8, .v v), (5, pW b5), (3, pW b3), (4, pW b4), (45, ei 3)] ((b5, ⟨tM, [ei 3, ei fr, ei n.id, ei te, ei (n.log.length : Nat), ei tm, ei cm, ei a.m.conf, eB a.m.yes, eens a.m.entries, es a.m.snap], 11⟩) :: (b4, ⟨tM, [ei 0, ei 0, ei 0, ei 0, ei 0, ei 0, ei 0, ei 0, eB false, .v (.slice none 0 0), es []], 11⟩) :: (b3, ⟨tN, nodeC n (.sl false (n.log.map een)), 22⟩) :: (H ++ [])) _
    have htl : ((mk3 te).take k).length ≤ 9 := by rw [List.length_take, hml]; omega
    (repeat (first | apply cn | apply cq | apply cb | apply ck | apply cl | apply cx))
    apply cr
    refine s_ p_mv ?_
    refine s_ p_fr ?_
    refine s_ p_lo ?_
    (first | refine s_ p_ln ?_ | refine s_ p_lr ?_)
    refine s_ p_lt ?_
    refine s_ p_mv ?_
    refine gT (fun hg => p_mv) ?_
    refine gT (fun hg => p_lt (hx := u_ hg)) ?_
    refine s_ p_an ?_
    (repeat (first | apply cn | apply cq | apply cb | apply ck | apply cl | apply cx))
    refine ci ?_ ?_
    · intro hlt
      have hix : k < a.m.entries.length := by simp only [List.length_map] at hlt; omega
      have hk3 : k < (mk3 te).length := by rw [hml]; omega
      have hcl := ha.ents _ (List.getElem_mem hix)
      (repeat (first | apply cn | apply cq | apply cb | apply ck | apply cl | apply cx))
      refine ct [0, 1, 2, 3, 4, 5, 6, 7, 8, 9, 10, 11] [12, 13] ?_
      refine t_ (fun _ => p_mv) ?_
      refine t_ (fun _ => p_fr) ?_
      refine t_lo ?_
      refine t_ (fun _ => p_fr) ?_
      refine t_lo ?_
      refine t_ (fun _ => p_mv) ?_
      (first | refine t_ (fun _ => p_ix hix) ?_ | refine t_ (fun _ => p_ix hix2) ?_ | refine t_ (fun _ => p_ia) ?_ | refine t_ (fun _ => p_ir) ?_)
      refine t_ (fun _ => p_fa) ?_
      refine t_ (fun _ => p_ld) ?_
      refine t_ (fun _ => p_cat) ?_
      refine t_ (fun _ => p_bd 3 [_, _, _]) ?_
      refine t_ (fun _ => p_bs) ?_
      intro p hp hr
      rcases List.mem_cons.1 hp with rfl | hp
      · clear hp hr
        refine t_os (ho := ho) (A := [_, _, _]) (B := []) (ys := [een ⟨te, 0, 101 :: a.m.entries[k].cmd⟩]) (f := true) (een3 _) (fun v' Hs' ho' => ⟨by (repeat (first | exact trivial | (apply And.intro; focus (intro hb; first | exact trivial | exact noB hb rfl | (repeat (first | exact hZ | apply hS | apply hA)))))), ?_⟩)
        intro p hp hr
        rcases List.mem_cons.1 hp with rfl | hp
        · clear hp hr
          refine t_as ⟨by (repeat (first | exact trivial | (apply And.intro; focus (intro hb; first | exact trivial | exact noB hb rfl | (repeat (first | exact hZ | apply hS | apply hA)))))), ?_⟩
          refine tree0 ?_
          (repeat (first | apply cn | apply cq | apply cb | apply ck | apply cl | apply cx))
          (repeat (first | apply cn | apply cq | apply cb | apply ck | apply cl | apply cx))
          apply cr
          refine s_ p_mv ?_
          refine s_ p_ad ?_
          refine s_ p_as ?_
          (repeat (first | apply cn | apply cq | apply cb | apply ck | apply cl | apply cx))
          refine ⟨(k + 1, v', Hs'), ⟨by simp only; omega, ?_⟩, (by simp only []; omega), ⟨?_, ?_, eL⟩, kR⟩
          · simp only
            rw [List.take_succ_eq_append_getElem hk3, hmg te k hk3 hix]
            unfold OE
            rw [List.map_append]
            exact ho'
          · apply le_get; ((repeat (apply gS; rfl)); exact gZ)
            exact Le.refl _
          · apply le_get; ((repeat (apply gS; rfl)); exact gZ)
            exact Le.refl _
        · exact (List.not_mem_nil hp).elim
      · rcases List.mem_cons.1 hp with rfl | hp
        · exact tno hr
        · exact (List.not_mem_nil hp).elim
    intro hge
    have hke : k = (mk3 te).length := by
      rw [hml]
      have : ¬ (k < a.m.entries.length ∧ k < 3) := fun h => hge (by simp only [List.length_map]; omega)
      omega
    subst hke
    rw [List.take_length] at ho
    have htl9 : (mk3 te).length ≤ 9 := by rw [hml]; omega
    obtain ⟨p, c, rfl⟩ := ho.len
    (repeat (first | apply cn | apply cq | apply cb | apply ck | apply cl | apply cx))
    apply cr
    refine s_ p_mv ?_
    refine s_ p_fr ?_
    refine e_st ?_
    (repeat (first | apply cn | apply cq | apply cb | apply ck | apply cl | apply cx))
    apply cr
    refine s_ p_fr ?_
    refine s_ p_lo ?_
    refine s_ p_eq ?_
    refine s_ p_mv ?_
    refine gT (fun hg => p_fr) ?_
    refine gT (fun hg => p_lo (hx := u_ hg)) ?_
    refine gT (fun hg => p_fr) ?_
    refine gT (fun hg => p_lo (hx := u_ hg)) ?_
    refine gT (fun hg => p_eq (hx := u_ hg) (hy := u_ hg)) ?_
    refine s_ p_an ?_
    (repeat (first | apply cn | apply cq | apply cb | apply ck | apply cl | apply cx))
    refine ci ?_ ?_
    · intro hld
      have hld' : n.role = 2 ∧ te = n.term := hld
      have htf' : tf = te + 1 := by rw [htf, if_pos hld']
      (repeat (first | apply cn | apply cq | apply cb | apply ck | apply cl | apply cx))
      apply cr
      refine s_ p_fr ?_
      refine s_ p_lo ?_
      refine s_ p_ad ?_
      refine s_ p_fr ?_
      refine e_st ?_
      (repeat (first | apply cn | apply cq | apply cb | apply ck | apply cl | apply cx))
      apply cr
      refine s_ p_as ?_
      (repeat (first | apply cn | apply cq | apply cb | apply ck | apply cl | apply cx))
      apply sim_loopL (σ := Nat × Heap) (ok := fun s => s.1 ≤ (mk3 te).length ∧ OE ((mk3 tf).take s.1 ++ (mk3 te).drop s.1) (.slice p ((mk3 te).map een).length c) s.2) (env := fun s => [(10, ei s.1), (8, .v (.slice p ((mk3 te).map een).length c)), (5, pW b5), (4, pW b4)])
        (heap := fun s => (b5, ⟨tM, [ei 3, ei fr, ei n.id, ei tf, ei (n.log.length : Nat), ei tm, ei cm, ei a.m.conf, eB a.m.yes, .v (.slice p ((mk3 te).map een).length c), es a.m.snap], 11⟩) :: (b4, ⟨tM, [ei 0, ei 0, ei 0, ei 0, ei 0, ei 0, ei 0, ei 0, eB false, .v (.slice none 0 0), es []], 11⟩) :: s.2) (μ := fun s => (mk3 te).length - s.1) (s0 := (0, H))
      · exact ⟨Nat.zero_le _, by simpa using ho⟩
      · exact eL
      · rw [htf', List.append_nil]; exact kK (kK (.skip _ _ _ kR))
      rintro ⟨k, H⟩ ⟨hk, ho⟩
      simp only at hk ho
      show Sim _ _ [(10, ei k), (8, .v (.slice p ((mk3 te).map een).length c)), (5, pW b5), (4, pW b4)] ((b5, ⟨tM, [ei 3, ei fr, ei n.id, ei tf, ei (n.log.length : Nat), ei tm, ei cm, ei a.m.conf, eB a.m.yes, .v (.slice p ((mk3 te).map een).length c), es a.m.snap], 11⟩) :: (b4, ⟨tM, [ei 0, ei 0, ei 0, ei 0, ei 0, ei 0, ei 0, ei 0, eB false, .v (.slice none 0 0), es []], 11⟩) :: H) _
      (repeat (first | apply cn | apply cq | apply cb | apply ck | apply cl | apply cx))
      apply cr
      refine s_ p_mv ?_
      refine s_ p_mv ?_
      (first | refine s_ p_ln ?_ | refine s_ p_lr ?_)
      refine s_ p_lt ?_
      (repeat (first | apply cn | apply cq | apply cb | apply ck | apply cl | apply cx))
      refine ci ?_ ?_
      · intro hlt
        have hkt : k < (mk3 te).length := by simp only [List.length_map] at hlt; omega
        have hktf : k < (mk3 tf).length := by rw [hml] at hkt ⊢; exact hkt
        have hix : k < a.m.entries.length := by rw [hml] at hkt; omega
        have hXl : ((mk3 tf).take k ++ (mk3 te).drop k).length = (mk3 te).length := by rw [List.length_append, List.length_take, List.length_drop]; omega
        have hXk : ((mk3 tf).take k ++ (mk3 te).drop k).map een = ((mk3 tf).take k).map een ++ een ⟨te, 0, 101 :: a.m.entries[k].cmd⟩ :: ((mk3 te).drop (k + 1)).map een := by
          rw [List.map_append, List.drop_eq_getElem_cons hkt, List.map_cons, hmg te k hkt hix]
        have hX' : ((mk3 tf).take (k + 1) ++ (mk3 te).drop (k + 1)).map een = ((mk3 tf).take k).map een ++ een ⟨tf, 0, 101 :: a.m.entries[k].cmd⟩ :: ((mk3 te).drop (k + 1)).map een := by
          rw [List.take_succ_eq_append_getElem hktf, hmg tf k hktf hix]
          simp
        have htkl : (((mk3 tf).take k).map een).length = k := by rw [List.length_map, List.length_take]; omega
        have ho' := ho
        rcases ho' with ⟨h0, _⟩ | ⟨bl, c', he, hcc, rfl⟩
        · exfalso
          have := congrArg List.length h0
          rw [List.length_map, hXl, List.length_nil] at this
          omega
        · have hpe : p = some ⟨bl, 0, none⟩ ∧ c = c' := by
            simp only [Value.slice.injEq] at he
            exact ⟨he.1, he.2.2⟩
          obtain ⟨rfl, rfl⟩ := hpe
          have hfl := flat_lay (kk := 3) (off := 0) (dc := [ei tf]) (x' := een ⟨tf, 0, 101 :: a.m.entries[k].cmd⟩) (((mk3 tf).take k ++ (mk3 te).drop k).map een) k (een3 _) (by rw [List.length_map, hXl]; exact hkt) (by simp) (by
            simp only [hXk]
            rw [List.getElem_append_right (by omega)]
            simp only [htkl, Nat.sub_self]
            rfl)
          have hset : (((mk3 tf).take k ++ (mk3 te).drop k).map een).set k (een ⟨tf, 0, 101 :: a.m.entries[k].cmd⟩) = ((mk3 tf).take (k + 1) ++ (mk3 te).drop (k + 1)).map een := by
            rw [hXk, hX', List.set_append_right _ _ (by omega), htkl, Nat.sub_self]
            rfl
          rw [hset] at hfl
          have hcl : ((((mk3 tf).take k ++ (mk3 te).drop k).map een).flatMap T.cells).length = (mk3 te).length * 3 := by
            rw [flat_lenT _ (een3 _), List.length_map, hXl]
          have hk3 : (k + 1) * 3 ≤ (mk3 te).length * 3 := Nat.mul_le_mul_right 3 hkt
          (repeat (first | apply cn | apply cq | apply cb | apply ck | apply cl | apply cx))
          apply cr
          refine s_ p_mv ?_
          refine s_ p_mv ?_
          refine s_ p_fr ?_
          refine s_ p_lo ?_
          (first | refine s_ (p_ix hix) ?_ | refine s_ (p_ix hix2) ?_ | refine s_ p_ia ?_ | refine s_ p_ir ?_)
          (first | refine s_ p_fa ?_ | refine s_ p_fr ?_)
          refine e_ss ?_ ?_
          · show 0 + ((k : Nat) : Int).toNat * 3 + 0 + 1 ≤ _
            rw [hcl, Int.toNat_natCast]; omega
          rw [show 0 + ((k : Nat) : Int).toNat * 3 + 0 = k * 3 + 0 by simp, show (ei tf).cells = [ei tf] from rfl, hfl]
          
          (repeat (first | apply cn | apply cq | apply cb | apply ck | apply cl | apply cx))
          apply cr
          refine s_ p_mv ?_
          refine s_ p_ad ?_
          refine s_ p_as ?_
          (repeat (first | apply cn | apply cq | apply cb | apply ck | apply cl | apply cx))
          refine ⟨(k + 1, _), ⟨by simp only; omega, ?_⟩, (by simp only []; omega), ⟨?_, eL⟩, kR⟩
          · have hXl' : ((mk3 tf).take (k + 1) ++ (mk3 te).drop (k + 1)).length = (mk3 te).length := by rw [List.length_append, List.length_take, List.length_drop]; omega
            refine .inr ⟨bl, c, ?_, ?_, rfl⟩
            · simp only
              rw [List.length_map, List.length_map, hXl']
            · simp only
              rw [List.length_map, hXl']
              rw [List.length_map, hXl] at hcc
              exact hcc
          · apply le_get; ((repeat (apply gS; rfl)); exact gZ)
            exact Le.refl _
      intro hge
      have hke : k = (mk3 te).length := by simp only [List.length_map] at hge; omega
      subst hke
      have hfin : (mk3 tf).take (mk3 te).length ++ (mk3 te).drop (mk3 te).length = mk3 tf := by
        rw [List.drop_length, List.append_nil, hml, ← hml tf, List.take_length]
      rw [hfin] at ho
      (repeat (first | apply cn | apply cq | apply cb | apply ck | apply cl | apply cx))
      (repeat (first | apply cn | apply cq | apply cb | apply ck | apply cl | apply cx))
      apply cr
      refine s_ p_fr ?_
      refine e_st ?_
      refine s_ p_fr ?_
      refine e_st ?_
      (repeat (first | apply cn | apply cq | apply cb | apply ck | apply cl | apply cx))
      apply cr
      refine s_ p_loa ?_
      refine e_st ?_
      (repeat (first | apply cn | apply cq | apply cb | apply ck | apply cl | apply cx))
      (apply sim_ret; (try simp only [blockΨ_ret, thenΨ_ret, loopL_ret, cutΨ_ret, cutE_ret]))
      refine rh (.skip _ _ _ (.skip _ _ _ kR)) ⟨.slice p (List.map een (mk3 te)).length c, rfl, ?_⟩ ?_
      · rw [hM3]; exact ho
      · rw [hM3]; exact Le.refl _
    · intro hld
      have hld' : ¬ (n.role = 2 ∧ te = n.term) := hld
      have htf' : tf = te := by rw [htf, if_neg hld']
      (repeat (first | apply cn | apply cq | apply cb | apply ck | apply cl | apply cx))
      (repeat (first | apply cn | apply cq | apply cb | apply ck | apply cl | apply cx))
      apply cr
      refine s_ p_fr ?_
      refine e_st ?_
      refine s_ p_fr ?_
      refine e_st ?_
      (repeat (first | apply cn | apply cq | apply cb | apply ck | apply cl | apply cx))
      apply cr
      refine s_ p_loa ?_
      refine e_st ?_
      (repeat (first | apply cn | apply cq | apply cb | apply ck | apply cl | apply cx))
      (apply sim_ret; (try simp only [blockΨ_ret, thenΨ_ret, loopL_ret, cutΨ_ret, cutE_ret]))
      rw [htf'] at hM3
      refine rh (.skip _ _ _ (.skip _ _ _ (.skip _ _ _ kR))) ⟨.slice p (List.map een (mk3 te)).length c, rfl, ?_⟩ ?_
      · rw [hM3, List.append_nil]; exact ho
      · rw [hM3]; exact Le.refl _
  · refine ⟨⟨4, fr, n.id, te, a.m.index % ((n.log.length : Int) + 1), a.m.logTerm, a.m.commit, 0, a.m.yes, a.m.entries, []⟩, ?_, ⟨by simp, by simp, hfr0.1, hfr0.2, rfl, hte0.1, by simp only; omega, fun _ => by simp only; omega, hae, fun h => by simp at h, fun h => by simp at h⟩⟩
    refine fn_enter Tryz.func26 (by rfl) (by rfl) ?_
    intro S0 w0
    show Sim _ _ [(0, T.agg [ei a.kind, ei a.n, ei a.m.kind, ei a.m.frm, ei a.m.to, ei a.m.term, ei a.m.index, ei a.m.logTerm, ei a.m.commit, ei a.m.conf, eB a.m.yes, eens a.m.entries, es a.m.snap, es a.cmd]), (1, T.agg (nodeC n (.sl false (n.log.map een))))] _ _
    (repeat (first | apply cn | apply cq | apply cb | apply ck | apply cl | apply cx))
    apply cr
    refine e_bx fun b2 _ => ?_
    refine e_bx fun b3 _ => ?_
    refine e_al fun b4 _ => ?_
    (repeat (first | apply cn | apply cq | apply cb | apply ck | apply cl | apply cx))
    apply cr
    refine s_ p_fr ?_
    refine s_ p_loa ?_
    refine e_al fun b5 _ => ?_
    refine e_st ?_
    (repeat (first | apply cn | apply cq | apply cb | apply ck | apply cl | apply cx))
    (repeat (first | apply cn | apply cq | apply cb | apply ck | apply cl | apply cx))
    refine ca [0, 1, 2, 3, 4, 5, 6, 7, 8, 9, 10, 11, 12, 13] [11, 13] ?_
    refine a_ (fun _ => p_fr) ?_
    refine a_lo ?_
    refine a_ (fun _ => p_ad) ?_
    refine a_ (fun _ => p_fr) ?_
    refine a_lo ?_
    refine a_ (fun _ => p_ca (w1)) ?_
    refine a_ (fun _ => p_ad) ?_
    refine a_ (fun _ => p_re) ?_
    refine a_ (fun _ => p_fr) ?_
    refine a_lo ?_
    refine a_ (fun _ => p_fr) ?_
    refine a_st ?_
    refine a_ (fun _ => p_fr) ?_
    refine a_st ?_
    apply an
    (repeat (first | apply cn | apply cq | apply cb | apply ck | apply cl | apply cx))
    rw [← hfr]
    (repeat (first | apply cn | apply cq | apply cb | apply ck | apply cl | apply cx))
    refine ca [0, 1, 2, 3, 4, 5, 6, 7, 8, 9, 10, 11, 12, 13, 14, 15] [13, 15] ?_
    refine a_ (fun _ => p_fr) ?_
    refine a_lo ?_
    refine a_ (fun _ => p_ca (w2)) ?_
    refine a_ (fun _ => p_ad) ?_
    refine a_ (fun _ => p_fr) ?_
    refine a_lo ?_
    refine a_ (fun _ => p_ma) ?_
    refine a_ (fun _ => p_fr) ?_
    refine a_lo ?_
    refine a_ (fun _ => p_ca (w3)) ?_
    (first | refine a_ (fun _ => p_qu) ?_ | refine a_ (fun _ => p_quw) ?_)
    refine a_ (fun _ => p_ad) ?_
    refine a_ (fun _ => p_fr) ?_
    refine a_st ?_
    refine a_ (fun _ => p_fr) ?_
    refine a_st ?_
    apply an
    (repeat (first | apply cn | apply cq | apply cb | apply ck | apply cl | apply cx))
    rw [← hte, ← hkk, hk]
    (repeat (first | apply cn | apply cq | apply cb | apply ck | apply cl | apply cx))
    apply cr
    refine s_ p_loa ?_
    refine s_ (p_ca (hL)) ?_
    refine s_ p_mv ?_
    refine s_ p_ex ?_
    refine s_ p_ex ?_
    refine s_ p_as ?_
    refine s_ p_as ?_
    (repeat (first | apply cn | apply cq | apply cb | apply ck | apply cl | apply cx))
    (repeat (first | apply cn | apply cq | apply cb | apply ck | apply cl | apply cx))
    apply cr
    refine s_ p_fr ?_
    refine s_ p_lo ?_
    (repeat (first | apply cn | apply cq | apply cb | apply ck | apply cl | apply cx))
    (repeat (first | apply cn | apply cq | apply cb | apply ck | apply cl | apply cx))
    apply cr
    refine s_ p_eq ?_
    refine s_ p_as ?_
    (repeat (first | apply cn | apply cq | apply cb | apply ck | apply cl | apply cx))
    refine ci ?_ ?_
    · intro h; exact absurd h (by omega)
    intro _
    (repeat (first | apply cn | apply cq | apply cb | apply ck | apply cl | apply cx))
    apply cr
    refine s_ p_eq ?_
    refine s_ p_as ?_
    (repeat (first | apply cn | apply cq | apply cb | apply ck | apply cl | apply cx))
    refine ci ?_ ?_
    · intro h; exact absurd h (by omega)
    intro _
    (repeat (first | apply cn | apply cq | apply cb | apply ck | apply cl | apply cx))
    apply cr
    refine s_ p_eq ?_
    refine s_ p_as ?_
    (repeat (first | apply cn | apply cq | apply cb | apply ck | apply cl | apply cx))
    refine ci ?_ ?_
    rotate_left
    · intro h; exact absurd rfl h
    intro _
    (repeat (first | apply cn | apply cq | apply cb | apply ck | apply cl | apply cx))
    apply cr
    refine s_ p_fr ?_
    refine s_ p_lo ?_
    refine s_ p_mv ?_
    refine s_ p_ad ?_
    refine s_ (p_ca (w7)) ?_
    refine s_ p_fr ?_
    refine e_st ?_
    (repeat (first | apply cn | apply cq | apply cb | apply ck | apply cl | apply cx))
    (repeat (first | apply cn | apply cq | apply cb | apply ck | apply cl | apply cx))
    (repeat (first | apply cn | apply cq | apply cb | apply ck | apply cl | apply cx))
    apply cr
    refine s_ p_fr ?_
    refine e_st ?_
    refine s_ p_fr ?_
    refine e_st ?_
    (repeat (first | apply cn | apply cq | apply cb | apply ck | apply cl | apply cx))
    apply cr
    refine s_ p_loa ?_
    refine e_st ?_
    (repeat (first | apply cn | apply cq | apply cb | apply ck | apply cl | apply cx))
    (apply sim_ret; (try simp only [blockΨ_ret, thenΨ_ret, loopL_ret, cutΨ_ret, cutE_ret]); first | refine rt ?_ | refine rn ?_)
    exact Le.refl _
end Go.Proofs.YtbdpfclnomiicaaGreat
end
section
set_option maxRecDepth 16000
namespace Go.Proofs.YtbdpfclnomiicaaGreat
open Go.Cap
set_option linter.unusedSimpArgs false
set_option linter.unusedVariables false
attribute [local irreducible] POp SimFrom DrawFrom EOp Sim FnH T.gp
set_option maxHeartbeats 8000000 in
theorem same19_fn (l : List Ms) (hl : l.length ≤ 1000000) (hle : ∀ m ∈ l, m.entries.length ≤ 1000000) : FnP Tryz.prog 25 [mss l, mss l] (fun r => r = .v (.bool true)) := by
  refine fn_enter Tryz.func25 (by rfl) (by rfl) ?_
  intro S0 w0
  show Sim _ _ [(0, .sl false (l.map ms)), (1, .sl false (l.map ms))] _ _
  (repeat (first | apply cn | apply cq | apply cb | apply ck | apply cl | apply cx))
  apply cr
  refine s_ p_as ?_
  (repeat (first | apply cn | apply cq | apply cb | apply ck | apply cl | apply cx))
  apply cr
  refine s_ p_mv ?_
  (first | refine s_ p_ln ?_ | refine s_ p_lr ?_)
  refine s_ p_mv ?_
  (first | refine s_ p_ln ?_ | refine s_ p_lr ?_)
  refine s_ p_ne ?_
  (repeat (first | apply cn | apply cq | apply cb | apply ck | apply cl | apply cx))
  refine ci ?_ ?_
  · intro h; exact absurd rfl h
  intro _
  (repeat (first | apply cn | apply cq | apply cb | apply ck | apply cl | apply cx))
  apply cr
  refine s_ p_as ?_
  (repeat (first | apply cn | apply cq | apply cb | apply ck | apply cl | apply cx))
  apply sim_loopL (σ := Nat) (ok := fun k => k ≤ l.length) (env := fun k => [(5, ei k), (0, .sl false (l.map ms)), (1, .sl false (l.map ms))]) (heap := fun _ => []) (μ := fun k => l.length - k) (s0 := 0)
  · exact Nat.zero_le _
  · exact eL
  · exact kR
  intro k hk
  (repeat (first | apply cn | apply cq | apply cb | apply ck | apply cl | apply cx))
  apply cr
  refine s_ p_mv ?_
  refine s_ p_mv ?_
  (first | refine s_ p_ln ?_ | refine s_ p_lr ?_)
  refine s_ p_lt ?_
  (repeat (first | apply cn | apply cq | apply cb | apply ck | apply cl | apply cx))
  refine ci ?_ ?_
  · intro hlt
    have hix : k < l.length := by simp only [List.length_map] at hlt; omega
    have hme := hle _ (List.getElem_mem hix)
    have hix0 := hix
    generalize hx : l[k] = x at hme
    (repeat (first | apply cn | apply cq | apply cb | apply ck | apply cl | apply cx))
    refine sim_cutP (σ := Nat × Nat) (ok := fun _ => True) (env := fun s => [(7, pW s.2), (6, pW s.1), (5, ei k), (0, .sl false (l.map ms)), (1, .sl false (l.map ms))]) (heap := fun s => [(s.2, ⟨tM, msC x (eens x.entries), 11⟩), (s.1, ⟨tM, msC x (eens x.entries), 11⟩)]) ?_ ?_
    · refine ct [0, 1, 2, 3, 4, 5, 6, 7] [8, 9, 10, 11] ?_
      refine t_ (fun _ => p_mv) ?_
      refine t_ (fun _ => p_mv) ?_
      refine t_ (fun _ => p_ix hix) ?_
      refine t_ (fun _ => p_la) ?_
      refine t_ (fun _ => p_mv) ?_
      refine t_ (fun _ => p_mv) ?_
      refine t_ (fun _ => p_ix hix) ?_
      refine t_ (fun _ => p_la) ?_
      rw [hx]
      intro p hp hr
      rcases List.mem_cons.1 hp with rfl | hp
      · clear hp hr
        refine t_al fun b6 _ => ⟨by (repeat (first | exact trivial | (apply And.intro; focus (intro hb; first | exact trivial | exact noB hb rfl | (repeat (first | exact hZ | apply hS | apply hA)))))), ?_⟩
        intro p hp hr
        rcases List.mem_cons.1 hp with rfl | hp
        · clear hp hr
          refine t_al fun b7 _ => ⟨by (repeat (first | exact trivial | (apply And.intro; focus (intro hb; first | exact trivial | exact noB hb rfl | (repeat (first | exact hZ | apply hS | apply hA)))))), ?_⟩
          intro p hp hr
          rcases List.mem_cons.1 hp with rfl | hp
          · clear hp hr
            refine t_st ?_
            intro p hp hr
            rcases List.mem_cons.1 hp with rfl | hp
            · clear hp hr
              refine t_st ?_
              exact ⟨(b6, b7), _, trivial, eL, .refl _, kR⟩
            exact (List.not_mem_nil hp).elim
          rcases List.mem_cons.1 hp with rfl | hp
          · exact tno hr
          exact (List.not_mem_nil hp).elim
        rcases List.mem_cons.1 hp with rfl | hp
        · clear hp hr
          refine t_st ?_
          intro p hp hr
          rcases List.mem_cons.1 hp with rfl | hp
          · clear hp hr
            refine t_al fun b7 _ => ⟨by (repeat (first | exact trivial | (apply And.intro; focus (intro hb; first | exact trivial | exact noB hb rfl | (repeat (first | exact hZ | apply hS | apply hA)))))), ?_⟩
            intro p hp hr
            rcases List.mem_cons.1 hp with rfl | hp
            · clear hp hr
              refine t_st ?_
              exact ⟨(b6, b7), _, trivial, eL, .refl _, kR⟩
            exact (List.not_mem_nil hp).elim
          rcases List.mem_cons.1 hp with rfl | hp
          · exact tno hr
          exact (List.not_mem_nil hp).elim
        rcases List.mem_cons.1 hp with rfl | hp
        · exact tno hr
        exact (List.not_mem_nil hp).elim
      rcases List.mem_cons.1 hp with rfl | hp
      · clear hp hr
        refine t_al fun b7 _ => ⟨by (repeat (first | exact trivial | (apply And.intro; focus (intro hb; first | exact trivial | exact noB hb rfl | (repeat (first | exact hZ | apply hS | apply hA)))))), ?_⟩
        intro p hp hr
        rcases List.mem_cons.1 hp with rfl | hp
        · clear hp hr
          refine t_al fun b6 _ => ⟨by (repeat (first | exact trivial | (apply And.intro; focus (intro hb; first | exact trivial | exact noB hb rfl | (repeat (first | exact hZ | apply hS | apply hA)))))), ?_⟩
          intro p hp hr
          rcases List.mem_cons.1 hp with rfl | hp
          · clear hp hr
            refine t_st ?_
            intro p hp hr
            rcases List.mem_cons.1 hp with rfl | hp
            · clear hp hr
              refine t_st ?_
              exact ⟨(b6, b7), _, trivial, eL, .swap _ _ _, kR⟩
            exact (List.not_mem_nil hp).elim
          rcases List.mem_cons.1 hp with rfl | hp
          · exact tno hr
          exact (List.not_mem_nil hp).elim
        rcases List.mem_cons.1 hp with rfl | hp
        · exact tno hr
        rcases List.mem_cons.1 hp with rfl | hp
        · exact tno hr
        exact (List.not_mem_nil hp).elim
      rcases List.mem_cons.1 hp with rfl | hp
      · exact tno hr
      rcases List.mem_cons.1 hp with rfl | hp
      · exact tno hr
      exact (List.not_mem_nil hp).elim
    rintro ⟨b6, b7⟩ _
    obtain ⟨q, iq, hq⟩ := dead_is x.yes
    show Sim _ _ [(7, pW b7), (6, pW b6), (5, ei k), (0, .sl false (l.map ms)), (1, .sl false (l.map ms))] [(b7, ⟨tM, [ei x.kind, ei x.frm, ei x.to, ei x.term, ei x.index, ei x.logTerm, ei x.commit, ei x.conf, .v (.bool x.yes), .sl false (x.entries.map een), es x.snap], 11⟩), (b6, ⟨tM, [ei x.kind, ei x.frm, ei x.to, ei x.term, ei x.index, ei x.logTerm, ei x.commit, ei x.conf, .v (.bool x.yes), .sl false (x.entries.map een), es x.snap], 11⟩)] _
    rw [hq]
    (repeat (first | apply cn | apply cq | apply cb | apply ck | apply cl | apply cx))
    apply cr
    refine s_ p_fr ?_
    refine s_ p_lo ?_
    refine s_ p_fr ?_
    refine s_ p_lo ?_
    refine s_ p_ne ?_
    refine s_ p_mv ?_
    refine gF (fun hg => p_fr) ?_
    refine gF (fun hg => p_lo (hx := u_ hg)) ?_
    refine gF (fun hg => p_fr) ?_
    refine gF (fun hg => p_lo (hx := u_ hg)) ?_
    refine gF (fun hg => p_ne (hx := u_ hg) (hy := u_ hg)) ?_
    refine s_ p_or ?_
    refine s_ p_mv ?_
    refine gF (fun hg => p_fr) ?_
    refine gF (fun hg => p_lo (hx := u_ hg)) ?_
    refine gF (fun hg => p_fr) ?_
    refine gF (fun hg => p_lo (hx := u_ hg)) ?_
    refine gF (fun hg => p_ne (hx := u_ hg) (hy := u_ hg)) ?_
    refine s_ p_or ?_
    refine s_ p_mv ?_
    refine gF (fun hg => p_fr) ?_
    refine gF (fun hg => p_lo (hx := u_ hg)) ?_
    refine gF (fun hg => p_fr) ?_
    refine gF (fun hg => p_lo (hx := u_ hg)) ?_
    refine gF (fun hg => p_ne (hx := u_ hg) (hy := u_ hg)) ?_
    refine s_ p_or ?_
    refine s_ p_mv ?_
    refine gF (fun hg => p_fr) ?_
    refine gF (fun hg => p_lo (hx := u_ hg)) ?_
    refine gF (fun hg => p_fr) ?_
    refine gF (fun hg => p_lo (hx := u_ hg)) ?_
    refine gF (fun hg => p_ne (hx := u_ hg) (hy := u_ hg)) ?_
    refine s_ p_or ?_
    refine s_ p_mv ?_
    refine gF (fun hg => p_fr) ?_
    refine gF (fun hg => p_lo (hx := u_ hg)) ?_
    refine gF (fun hg => p_fr) ?_
    refine gF (fun hg => p_lo (hx := u_ hg)) ?_
    refine gF (fun hg => p_ne (hx := u_ hg) (hy := u_ hg)) ?_
    refine s_ p_or ?_
    refine s_ p_mv ?_
    refine gF (fun hg => p_fr) ?_
    refine gF (fun hg => p_lo (hx := u_ hg)) ?_
    refine gF (fun hg => p_fr) ?_
    refine gF (fun hg => p_lo (hx := u_ hg)) ?_
    refine gF (fun hg => p_ne (hx := u_ hg) (hy := u_ hg)) ?_
    refine s_ p_or ?_
    refine s_ p_mv ?_
    refine gF (fun hg => p_fr) ?_
    refine gF (fun hg => p_lo (hx := u_ hg)) ?_
    refine gF (fun hg => p_fr) ?_
    refine gF (fun hg => p_lo (hx := u_ hg)) ?_
    refine gF (fun hg => p_ne (hx := u_ hg) (hy := u_ hg)) ?_
    refine s_ p_or ?_
    refine s_ p_mv ?_
    refine gF (fun hg => p_fr) ?_
    refine gF (fun hg => p_lo (hx := u_ hg)) ?_
    refine gF (fun hg => p_fr) ?_
    refine gF (fun hg => p_lo (hx := u_ hg)) ?_
    refine gF (fun hg => p_neB (hx := u_ hg) (hy := u_ hg)) ?_
    refine s_ p_or ?_
    refine s_ p_mv ?_
    refine gF (fun hg => p_fr) ?_
    refine gF (fun hg => p_lo (hx := u_ hg)) ?_
    refine gF (fun hg => p_fr) ?_
    refine gF (fun hg => p_lo (hx := u_ hg)) ?_
    refine gF (fun hg => p_neS (hx := u_ hg) (hy := u_ hg)) ?_
    refine s_ p_or ?_
    refine s_ p_mv ?_
    refine gF (fun hg => p_fr) ?_
    refine gF (fun hg => p_lo (hx := u_ hg)) ?_
    (first | refine gF (fun hg => p_ln (hx := u_ hg)) ?_ | refine gF (fun hg => p_lr (hx := u_ hg)) ?_)
    refine gF (fun hg => p_fr) ?_
    refine gF (fun hg => p_lo (hx := u_ hg)) ?_
    (first | refine gF (fun hg => p_ln (hx := u_ hg)) ?_ | refine gF (fun hg => p_lr (hx := u_ hg)) ?_)
    refine gF (fun hg => p_ne (hx := u_ hg) (hy := u_ hg)) ?_
    refine s_ p_or ?_
    (repeat (first | apply cn | apply cq | apply cb | apply ck | apply cl | apply cx))
    refine ci ?_ ?_
    · intro h; simp at h
    intro _
    (repeat (first | apply cn | apply cq | apply cb | apply ck | apply cl | apply cx))
    apply cr
    refine s_ p_as ?_
    (repeat (first | apply cn | apply cq | apply cb | apply ck | apply cl | apply cx))
    apply sim_loopL (σ := Nat) (ok := fun j => j ≤ x.entries.length) (env := fun j => [(8, ei j), (7, pW b7), (6, pW b6), (5, ei k), (0, .sl false (l.map ms)), (1, .sl false (l.map ms))]) (heap := fun _ => [(b7, ⟨tM, [ei x.kind, ei x.frm, ei x.to, ei x.term, ei x.index, ei x.logTerm, ei x.commit, ei x.conf, .v (.bool (decide q)), .sl false (x.entries.map een), es x.snap], 11⟩), (b6, ⟨tM, [ei x.kind, ei x.frm, ei x.to, ei x.term, ei x.index, ei x.logTerm, ei x.commit, ei x.conf, .v (.bool (decide q)), .sl false (x.entries.map een), es x.snap], 11⟩)]) (μ := fun j => x.entries.length - j) (s0 := 0)
    · exact Nat.zero_le _
    · exact eL
    · exact kR
    intro j hj
    clear hix
    (repeat (first | apply cn | apply cq | apply cb | apply ck | apply cl | apply cx))
    apply cr
    refine s_ p_mv ?_
    refine s_ p_fr ?_
    refine s_ p_lo ?_
    (first | refine s_ p_ln ?_ | refine s_ p_lr ?_)
    refine s_ p_lt ?_
    (repeat (first | apply cn | apply cq | apply cb | apply ck | apply cl | apply cx))
    refine ci ?_ ?_
    · intro hlt
      have hix : j < x.entries.length := by simp only [List.length_map] at hlt; omega
      (repeat (first | apply cn | apply cq | apply cb | apply ck | apply cl | apply cx))
      refine ca [0, 1, 2, 3, 4, 5, 6, 7, 8, 9, 10] [] ?_
      refine a_ (fun _ => p_fr) ?_
      refine a_lo ?_
      refine a_ (fun _ => p_mv) ?_
      (first | refine a_ (fun _ => p_ix hix) ?_ | refine a_ (fun _ => p_ix hix2) ?_ | refine a_ (fun _ => p_ia) ?_ | refine a_ (fun _ => p_ir) ?_)
      (first | refine a_ (fun _ => p_la) ?_ | refine a_loa ?_)
      refine a_ (fun _ => p_fr) ?_
      refine a_lo ?_
      refine a_ (fun _ => p_mv) ?_
      (first | refine a_ (fun _ => p_ix hix) ?_ | refine a_ (fun _ => p_ix hix2) ?_ | refine a_ (fun _ => p_ia) ?_ | refine a_ (fun _ => p_ir) ?_)
      (first | refine a_ (fun _ => p_la) ?_ | refine a_loa ?_)
      refine a_ (fun _ => p_neD 2 [.int .i64, .int .i64, .str] Tryz.eqGuardType62) ?_
      apply an
      (repeat (first | apply cn | apply cq | apply cb | apply ck | apply cl | apply cx))
      refine ci ?_ ?_
      · intro h; exact absurd rfl h
      intro _
      (repeat (first | apply cn | apply cq | apply cb | apply ck | apply cl | apply cx))
      apply cr
      refine s_ p_mv ?_
      refine s_ p_ad ?_
      refine s_ p_as ?_
      (repeat (first | apply cn | apply cq | apply cb | apply ck | apply cl | apply cx))
      refine ⟨j + 1, hix, (by simp only []; omega), ⟨?_, eL⟩, kR⟩
      apply le_get; ((repeat (apply gS; rfl)); exact gZ)
      exact Le.refl _
    intro hge
    (repeat (first | apply cn | apply cq | apply cb | apply ck | apply cl | apply cx))
    (repeat (first | apply cn | apply cq | apply cb | apply ck | apply cl | apply cx))
    apply cr
    refine s_ p_mv ?_
    refine s_ p_ad ?_
    refine s_ p_as ?_
    (repeat (first | apply cn | apply cq | apply cb | apply ck | apply cl | apply cx))
    refine ⟨k + 1, by omega, (by simp only []; omega), ⟨?_, eL⟩, .nil _⟩
    apply le_get; ((repeat (apply gS; rfl)); exact gZ)
    exact Le.refl _
  · intro hge
    (repeat (first | apply cn | apply cq | apply cb | apply ck | apply cl | apply cx))
    apply cr
    refine s_ p_as ?_
    (repeat (first | apply cn | apply cq | apply cb | apply ck | apply cl | apply cx))
    (apply sim_ret; (try simp only [blockΨ_ret, thenΨ_ret, loopL_ret, cutΨ_ret, cutE_ret]); first | refine rt ?_ | refine rn ?_)
    exact Le.refl _
end Go.Proofs.YtbdpfclnomiicaaGreat
end
section
set_option maxRecDepth 16000
namespace Go.Proofs.YtbdpfclnomiicaaGreat
open Go.Cap
set_option linter.unusedSimpArgs false
set_option linter.unusedVariables false
attribute [local irreducible] POp SimFrom DrawFrom EOp Sim FnH T.gp
theorem bs_size (l : List UInt8) : (bs l).size = l.length := by simp [bs, ByteArray.size]
def AkF (a : Ak) : Prop := a.cmd.length ≤ 60 ∧ a.m.entries.length ≤ 9 ∧ ∀ e ∈ a.m.entries, e.cmd.length ≤ 60
def Few (l : List Ak) : Prop := (∀ a ∈ l, AkF a) ∧ l.length ≤ 80
set_option maxHeartbeats 8000000 in
theorem few_fn (f : Bool) (l : List Ak) (hl : l.length ≤ 9223372036854775807) (hle : ∀ a ∈ l, a.m.entries.length ≤ 9223372036854775807) : FnP Tryz.prog 8 [.sl f (l.map akT)] (fun r => ∃ b : Bool, r = .v (.bool b) ∧ (b = true → Few l)) := by
  refine fn_enter Tryz.func8 (by rfl) (by rfl) ?_
  intro S0 w0
  show Sim _ _ [(0, .sl f (l.map akT))] _ _
  (repeat (first | apply cn | apply cq | apply cb | apply ck | apply cl | apply cx))
  apply cr
  refine s_ p_as ?_
  (repeat (first | apply cn | apply cq | apply cb | apply ck | apply cl | apply cx))
  apply cr
  refine s_ p_as ?_
  (repeat (first | apply cn | apply cq | apply cb | apply ck | apply cl | apply cx))
  apply sim_loopL (σ := Nat) (ok := fun k => k ≤ l.length ∧ ∀ j (hj : j < l.length), j < k → AkF l[j]) (env := fun k => [(3, ei k), (0, .sl f (l.map akT))]) (heap := fun _ => []) (μ := fun k => l.length - k) (s0 := 0)
  · exact ⟨Nat.zero_le _, fun j _ h => by omega⟩
  · exact eL
  · exact kR
  rintro k ⟨hk, hg⟩
  (repeat (first | apply cn | apply cq | apply cb | apply ck | apply cl | apply cx))
  apply cr
  refine s_ p_mv ?_
  refine s_ p_mv ?_
  (first | refine s_ p_ln ?_ | refine s_ p_lr ?_)
  refine s_ p_lt ?_
  (repeat (first | apply cn | apply cq | apply cb | apply ck | apply cl | apply cx))
  refine ci ?_ ?_
  · intro hlt
    have hix : k < l.length := by simp only [List.length_map] at hlt; omega
    have hlk := hle _ (List.getElem_mem hix)
    have hix' : k < (l.map akT).length := by rw [List.length_map]; exact hix
    (repeat (first | apply cn | apply cq | apply cb | apply ck | apply cl | apply cx))
    apply cr
    refine s_ p_mv ?_
    refine s_ p_mv ?_
    (first | refine s_ (p_ix hix) ?_ | refine s_ (p_ix hix2) ?_ | refine s_ p_ia ?_)
    refine s_ p_fa ?_
    refine s_ p_ld ?_
    refine s_ p_ls ?_
    refine s_ p_gt ?_
    refine s_ p_mv ?_
    refine gF (fun hg => p_mv) ?_
    refine gF (fun hg => p_mv) ?_
    (first | refine gF (fun hg => p_ix hix (hx := u_ hg) (hy := u_ hg)) ?_ | refine gF (fun hg => p_ix hix2 (hx := u_ hg) (hy := u_ hg)) ?_ | refine gF (fun hg => p_ia (hx := u_ hg) (hy := u_ hg)) ?_)
    refine gF (fun hg => p_faA (hx := u_ hg)) ?_
    refine gF (fun hg => p_fa (hx := u_ hg)) ?_
    refine gF (fun hg => p_ld (hx := u_ hg)) ?_
    refine gF (fun hg => p_ls (hx := u_ hg)) ?_
    refine gF (fun hg => p_gt (hx := u_ hg)) ?_
    refine s_ p_or ?_
    refine s_ p_mv ?_
    refine gF (fun hg => p_mv) ?_
    refine gF (fun hg => p_mv) ?_
    (first | refine gF (fun hg => p_ix hix (hx := u_ hg) (hy := u_ hg)) ?_ | refine gF (fun hg => p_ix hix2 (hx := u_ hg) (hy := u_ hg)) ?_ | refine gF (fun hg => p_ia (hx := u_ hg) (hy := u_ hg)) ?_)
    refine gF (fun hg => p_faA (hx := u_ hg)) ?_
    refine gF (fun hg => p_fa (hx := u_ hg)) ?_
    refine gF (fun hg => p_ld (hx := u_ hg)) ?_
    (first | refine gF (fun hg => p_ln (hx := u_ hg)) ?_ | refine gF (fun hg => p_lr (hx := u_ hg)) ?_)
    refine gF (fun hg => p_gt (hx := u_ hg)) ?_
    refine s_ p_or ?_
    (repeat (first | apply cn | apply cq | apply cb | apply ck | apply cl | apply cx))
    refine ci ?_ ?_
    · intro _
      (repeat (first | apply cn | apply cq | apply cb | apply ck | apply cl | apply cx))
      apply cr
      refine s_ p_as ?_
      (repeat (first | apply cn | apply cq | apply cb | apply ck | apply cl | apply cx))
      apply sim_ret; (try simp only [blockΨ_ret, thenΨ_ret, loopL_ret, cutΨ_ret, cutE_ret])
      exact re (Le.refl _) ⟨false, rfl, fun h => by cases h⟩
    intro hc
    (repeat (first | apply cn | apply cq | apply cb | apply ck | apply cl | apply cx))
    apply cr
    refine s_ p_as ?_
    (repeat (first | apply cn | apply cq | apply cb | apply ck | apply cl | apply cx))
    apply sim_loopL (σ := Nat) (ok := fun i => i ≤ l[k].m.entries.length ∧ ∀ j (hj : j < l[k].m.entries.length), j < i → l[k].m.entries[j].cmd.length ≤ 60) (env := fun i => [(4, ei i), (3, ei k), (0, .sl f (l.map akT))]) (heap := fun _ => []) (μ := fun i => l[k].m.entries.length - i) (s0 := 0)
    · exact ⟨Nat.zero_le _, fun j _ h => by omega⟩
    · exact eL
    · exact kR
    rintro i ⟨hi, hgi⟩
    (repeat (first | apply cn | apply cq | apply cb | apply ck | apply cl | apply cx))
    apply cr
    refine s_ p_mv ?_
    refine s_ p_mv ?_
    refine s_ p_mv ?_
    (first | refine s_ (p_ix hix) ?_ | refine s_ (p_ix hix2) ?_ | refine s_ p_ia ?_)
    refine s_ p_faA ?_
    refine s_ p_fa ?_
    refine s_ p_ld ?_
    (first | refine s_ p_ln ?_ | refine s_ p_lr ?_)
    refine s_ p_lt ?_
    (repeat (first | apply cn | apply cq | apply cb | apply ck | apply cl | apply cx))
    refine ci ?_ ?_
    · intro hlt2
      have hix2 : i < l[k].m.entries.length := by simp only [List.length_map] at hlt2; omega
      (repeat (first | apply cn | apply cq | apply cb | apply ck | apply cl | apply cx))
      apply cr
      refine s_ p_mv ?_
      refine s_ p_mv ?_
      (first | refine s_ (p_ix hix) ?_ | refine s_ (p_ix hix2) ?_ | refine s_ p_ia ?_)
      refine s_ p_faA ?_
      refine s_ p_fa ?_
      refine s_ p_ld ?_
      refine s_ p_mv ?_
      (first | refine s_ (p_ix hix) ?_ | refine s_ (p_ix hix2) ?_ | refine s_ p_ia ?_)
      refine s_ p_fa ?_
      refine s_ p_ld ?_
      refine s_ p_ls ?_
      refine s_ p_gt ?_
      (repeat (first | apply cn | apply cq | apply cb | apply ck | apply cl | apply cx))
      refine ci ?_ ?_
      · intro _
        (repeat (first | apply cn | apply cq | apply cb | apply ck | apply cl | apply cx))
        apply cr
        refine s_ p_as ?_
        (repeat (first | apply cn | apply cq | apply cb | apply ck | apply cl | apply cx))
        apply sim_ret; (try simp only [blockΨ_ret, thenΨ_ret, loopL_ret, cutΨ_ret, cutE_ret])
        exact re (Le.refl _) ⟨false, rfl, fun h => by cases h⟩
      intro hcm
      (repeat (first | apply cn | apply cq | apply cb | apply ck | apply cl | apply cx))
      apply cr
      refine s_ p_mv ?_
      refine s_ p_ad ?_
      refine s_ p_as ?_
      (repeat (first | apply cn | apply cq | apply cb | apply ck | apply cl | apply cx))
      refine ⟨i + 1, ⟨hix2, ?_⟩, (by simp only []; omega), ⟨?_, eL⟩, kR⟩
      · intro j hj hji
        by_cases hje : j = i
        · subst hje
          rw [bs_size] at hcm
          omega
        · exact hgi j hj (by omega)
      · apply le_get; ((repeat (apply gS; rfl)); exact gZ)
        exact Le.refl _
    intro hge2
    have hie : i = l[k].m.entries.length := by simp only [List.length_map] at hge2; omega
    (repeat (first | apply cn | apply cq | apply cb | apply ck | apply cl | apply cx))
    (repeat (first | apply cn | apply cq | apply cb | apply ck | apply cl | apply cx))
    apply cr
    refine s_ p_mv ?_
    refine s_ p_ad ?_
    refine s_ p_as ?_
    (repeat (first | apply cn | apply cq | apply cb | apply ck | apply cl | apply cx))
    refine ⟨k + 1, ⟨hix, ?_⟩, (by simp only []; omega), ⟨?_, eL⟩, kR⟩
    · intro j hj hjk
      by_cases hje : j = k
      · subst hje
        rw [bs_size, bs_size, List.length_map] at hc
        refine ⟨by omega, by omega, fun e he => ?_⟩
        obtain ⟨q, hq, rfl⟩ := List.getElem_of_mem he
        exact hgi q hq (by omega)
      · exact hg j hj (by omega)
    · apply le_get; ((repeat (apply gS; rfl)); exact gZ)
      exact Le.refl _
  · intro hge
    have hke : k = l.length := by simp only [List.length_map] at hge; omega
    (repeat (first | apply cn | apply cq | apply cb | apply ck | apply cl | apply cx))
    apply cr
    refine s_ p_mv ?_
    (first | refine s_ p_ln ?_ | refine s_ p_lr ?_)
    refine s_ p_le ?_
    refine s_ p_as ?_
    (repeat (first | apply cn | apply cq | apply cb | apply ck | apply cl | apply cx))
    apply sim_ret; (try simp only [blockΨ_ret, thenΨ_ret, loopL_ret, cutΨ_ret, cutE_ret])
    refine re (Le.refl _) ⟨_, rfl, fun h => ?_⟩
    have h80 := of_decide_eq_true h
    rw [List.length_map] at h80
    refine ⟨fun a ha => ?_, by omega⟩
    obtain ⟨q, hq, rfl⟩ := List.getElem_of_mem ha
    exact hg q hq (by omega)
end Go.Proofs.YtbdpfclnomiicaaGreat
end
section
set_option maxRecDepth 4000
namespace Go.Proofs.YtbdpfclnomiicaaGreat
open Go.Cap
set_option linter.unusedSimpArgs false
set_option linter.unusedVariables false
attribute [local irreducible] POp SimFrom DrawFrom EOp Sim FnH T.gp
set_option maxHeartbeats 8000000 in
theorem take_fnG {n : Nd} {m : Ms} (hn : Bd n) (hN : NBd n) (hM : badF n m ∨ m.kind = 2 ∨ MBd n m) : FnP Tryz.prog 27 [nd n, ms m] (fun r => r = .tup [nd (takeF n m).1, mss (takeF n m).2]) := by
  have hW := work_fn n (bd_len n hn)
  refine fn_enter Tryz.func27 (by rfl) (by rfl) ?_
  intro S0 w0
  show Sim _ _ [(0, T.agg (nodeC n (.sl false (n.log.map een)))), (1, T.agg (msC m (eens m.entries)))] _ _
  (repeat (first | apply cn | apply cq | apply cb | apply ck | apply cl | apply cx))
  apply cr
  refine e_bx fun b2 _ => ?_
  refine e_bx fun b3 _ => ?_
  refine e_al fun b4 _ => ?_
  refine s_ p_as ?_
  (repeat (first | apply cn | apply cq | apply cb | apply ck | apply cl | apply cx))
  refine sim_perm (List.perm_append_comm (l₁ := [_])) ?_
  refine lend1 3 (by simp [msC]) ?_
  refine lend1 2 (by simp [nodeC]) ?_
  (repeat (first | apply cn | apply cq | apply cb | apply ck | apply cl | apply cx))
  apply cr
  refine s_ p_la ?_
  refine e_cH (Hs := []) (Hr := [_]) hW (.refl _) (fun r H' ⟨b, hr, hw⟩ => ?_)
  subst hr
  have hw' := hw
  obtain ⟨vl, vo, Hl, Ho, h1, h2, rfl⟩ := hw
  obtain ⟨p, c, rfl⟩ := h1.len
  obtain ⟨q, d, rfl⟩ := h2.len
  refine s_ p_as ?_
  (repeat (first | apply cn | apply cq | apply cb | apply ck | apply cl | apply cx))
  refine ca [0, 1, 2, 3, 4, 5, 6, 7, 8, 9, 10, 11, 12, 13, 14, 15, 16, 17, 18, 19, 20, 21, 22, 23, 24, 25, 26, 27, 28] [] ?_
  refine a_ (fun _ => p_fa) ?_
  refine a_ (fun _ => p_ld) ?_
  refine a_ (fun _ => p_lt) ?_
  refine a_ (fun _ => p_mv) ?_
  refine ag_F (fun _ hg => p_fa) ?_
  refine ag_F (fun _ hg => p_ld (hx := u_ hg)) ?_
  refine ag_F (fun _ hg => p_ge (hx := u_ hg)) ?_
  refine a_ (fun _ => p_or) ?_
  refine a_ (fun _ => p_mv) ?_
  refine ag_F (fun _ hg => p_fa) ?_
  refine ag_F (fun _ hg => p_ld (hx := u_ hg)) ?_
  refine ag_F (fun _ hg => p_mv) ?_
  refine ag_F (fun _ hg => p_nc (hx := u_ hg)) ?_
  refine ag_F (fun _ hg => p_fr (hx := u_ hg)) ?_
  refine ag_F (fun _ hg => p_fr (hx := u_ hg)) ?_
  refine ag_loF ?_
  refine ag_F (fun _ hg => p_eq (hx := u_ hg) (hy := u_ hg)) ?_
  refine a_ (fun _ => p_or) ?_
  refine a_ (fun _ => p_mv) ?_
  refine ag_F (fun _ hg => p_fa) ?_
  refine ag_F (fun _ hg => p_ld (hx := u_ hg)) ?_
  refine ag_F (fun _ hg => p_mv) ?_
  refine ag_F (fun _ hg => p_nc (hx := u_ hg)) ?_
  refine ag_F (fun _ hg => p_fr (hx := u_ hg)) ?_
  refine ag_F (fun _ hg => p_fr (hx := u_ hg)) ?_
  refine ag_loF ?_
  refine ag_F (fun _ hg => p_ne (hx := u_ hg) (hy := u_ hg)) ?_
  refine a_ (fun _ => p_or) ?_
  refine a_ (fun _ => p_as) ?_
  apply an
  (repeat (first | apply cn | apply cq | apply cb | apply ck | apply cl | apply cx))
  refine ci ?_ ?_
  · intro hb
    (repeat (first | apply cn | apply cq | apply cb | apply ck | apply cl | apply cx))
    apply cr
    refine s_ p_mv ?_
    refine e_cH (done_fn (bd_len n hn) hw') (.refl _) (fun r H' ⟨hr, hr2⟩ => ?_)
    subst hr hr2
    refine s_ p_ex ?_
    refine s_ p_ex ?_
    refine e_st ?_
    refine s_ p_as ?_
    (repeat (first | apply cn | apply cq | apply cb | apply ck | apply cl | apply cx))
    (apply sim_ret; (try simp only [blockΨ_ret, thenΨ_ret, loopL_ret, cutΨ_ret, cutE_ret]); first | refine rt ?_ | refine rn ?_)
    have hbad : badF n m := .inl hb
    rw [takeF, if_pos hbad]
    exact Le.refl _
  intro hb
  (repeat (first | apply cn | apply cq | apply cb | apply ck | apply cl | apply cx))
  apply cr
  refine s_ p_fa ?_
  refine s_ p_ld ?_
  refine s_ p_lt ?_
  refine s_ p_mv ?_
  refine gF (fun hg => p_fa) ?_
  refine gF (fun hg => p_ld (hx := u_ hg)) ?_
  refine gF (fun hg => p_gt (hx := u_ hg)) ?_
  refine s_ p_or ?_
  refine s_ p_mv ?_
  refine gF (fun hg => p_fa) ?_
  refine gF (fun hg => p_ld (hx := u_ hg)) ?_
  refine gF (fun hg => p_lt (hx := u_ hg)) ?_
  refine s_ p_or ?_
  refine s_ p_mv ?_
  refine gF (fun hg => p_fa) ?_
  refine gF (fun hg => p_ld (hx := u_ hg)) ?_
  refine gF (fun hg => p_gt (hx := u_ hg)) ?_
  refine s_ p_or ?_
  refine s_ p_as ?_
  (repeat (first | apply cn | apply cq | apply cb | apply ck | apply cl | apply cx))
  refine ci ?_ ?_
  · intro hb2
    (repeat (first | apply cn | apply cq | apply cb | apply ck | apply cl | apply cx))
    apply cr
    refine s_ p_mv ?_
    refine e_cH (done_fn (bd_len n hn) hw') (.refl _) (fun r H' ⟨hr, hr2⟩ => ?_)
    subst hr hr2
    refine s_ p_ex ?_
    refine s_ p_ex ?_
    refine e_st ?_
    refine s_ p_as ?_
    (repeat (first | apply cn | apply cq | apply cb | apply ck | apply cl | apply cx))
    (apply sim_ret; (try simp only [blockΨ_ret, thenΨ_ret, loopL_ret, cutΨ_ret, cutE_ret]); first | refine rt ?_ | refine rn ?_)
    have hbad : badF n m := .inr hb2
    rw [takeF, if_pos hbad]
    exact Le.refl _
  intro hb2
  have hbad : ¬ badF n m := fun h => h.elim hb hb2
  have hM' : m.kind = 2 ∨ MBd n m := hM.resolve_left hbad
  have hfr : 0 ≤ m.frm ∧ m.frm < 5 := by omega
  have hu := hn.up m
  have hNu := hN.up m
  have hlu := hNu.log
  have hv0 := hNu.v0
  have hv1 := hNu.v1
  have hx0 := hNu.x0
  have hx1 := hNu.x1
  have hm0 := hNu.m0
  have hm1 := hNu.m1
  (repeat (first | apply cn | apply cq | apply cb | apply ck | apply cl | apply cx))
  refine ca [0, 1, 2, 3, 4, 5, 6, 7] [] ?_
  refine a_ (fun _ => p_fa) ?_
  refine a_ (fun _ => p_ld) ?_
  refine a_ (fun _ => p_mv) ?_
  refine a_ (fun _ => p_nc) ?_
  refine a_ (fun _ => p_fr) ?_
  refine a_ (fun _ => p_fr) ?_
  refine a_lo ?_
  refine a_ (fun _ => p_gt) ?_
  apply an
  (repeat (first | apply cn | apply cq | apply cb | apply ck | apply cl | apply cx))
  show Sim _ _ _ _ (thenΨ _ _ _)
  refine sim_cut [(6, pW b), (3, .adr (.agg (msC m (eens m.entries)))), (4, .v (.pointer (some ⟨b4, 0, none⟩)))] ((b, ⟨tW, wkC (upN n m) (.slice p (n.log.map een).length c) (.slice q (List.length ([].map ms)) d), 23⟩) :: (Hl ++ (Ho ++ [])) ++ [(b4, (⟨36, nodeC zeroN (.v (.slice none 0 0)), 22⟩ : Blk))]) ?_ ?_
  · refine ci ?_ ?_
    · intro hgt
      (repeat (first | apply cn | apply cq | apply cb | apply ck | apply cl | apply cx))
      apply cr
      refine s_ p_mv ?_
      refine s_ p_mv ?_
      refine s_ p_mv ?_
      refine s_ p_mv ?_
      refine s_ p_fa ?_
      refine s_ p_ld ?_
      refine s_ p_nc ?_
      refine s_ p_fr ?_
      refine s_ p_fr ?_
      refine e_st ?_
      refine s_ p_nc ?_
      refine s_ p_fr ?_
      refine s_ p_fr ?_
      refine e_st ?_
      refine s_ p_nc ?_
      refine s_ p_fr ?_
      refine s_ p_fr ?_
      refine e_st ?_
      refine s_ p_nc ?_
      refine s_ p_fr ?_
      refine s_ p_fr ?_
      refine e_st ?_
      (repeat (first | apply cn | apply cq | apply cb | apply ck | apply cl | apply cx))
      have hgt' : n.term < m.term := hgt
      have e : upN n m = { n with term := m.term, vote := -1, role := 0, votes := 0 } := by rw [upN, if_pos hgt']
      rw [e]
      exact ⟨eL, kR⟩
    · intro hgt
      (repeat (first | apply cn | apply cq | apply cb | apply ck | apply cl | apply cx))
      have hgt' : ¬ n.term < m.term := hgt
      have e : upN n m = n := by rw [upN, if_neg hgt']
      rw [e]
      exact ⟨eL, kR⟩
  have hlog : (upN n m).log = n.log := by
    obtain ⟨_, _, _, _, e, _⟩ := upN_eq n m
    rw [e]
  have hw : WkH b (upN n m) [] ((b, ⟨tW, wkC (upN n m) (.slice p (n.log.map een).length c) (.slice q (List.length (([] : List Ms).map ms)) d), 23⟩) :: (Hl ++ (Ho ++ []))) := ⟨_, _, Hl, Ho, by rw [hlog]; exact h1, h2, rfl⟩
  (repeat (first | apply cn | apply cq | apply cb | apply ck | apply cl | apply cx))
  apply cr
  refine s_ p_fa ?_
  refine s_ p_ld ?_
  (repeat (first | apply cn | apply cq | apply cb | apply ck | apply cl | apply cx))
  apply cr
  refine s_ p_eq ?_
  refine s_ p_as ?_
  (repeat (first | apply cn | apply cq | apply cb | apply ck | apply cl | apply cx))
  refine ci ?_ ?_
  · intro hk1
    (repeat (first | apply cn | apply cq | apply cb | apply ck | apply cl | apply cx))
    apply cr
    refine s_ p_mv ?_
    refine s_ p_la ?_
    refine e_cH (vote_fn m hu (by simp) hw) (.refl _) (fun r H' ⟨hr, h3⟩ => ?_)
    subst hr
    (repeat (first | apply cn | apply cq | apply cb | apply ck | apply cl | apply cx))
    (repeat (first | apply cn | apply cq | apply cb | apply ck | apply cl | apply cx))
    (repeat (first | apply cn | apply cq | apply cb | apply ck | apply cl | apply cx))
    apply cr
    refine s_ p_mv ?_
    refine e_cH (done_fn (bd_len _ (voteF_bd m hu)) h3) (.refl _) (fun r H' ⟨hr, hr2⟩ => ?_)
    subst hr hr2
    refine s_ p_ex ?_
    refine s_ p_ex ?_
    refine e_st ?_
    refine s_ p_as ?_
    (repeat (first | apply cn | apply cq | apply cb | apply ck | apply cl | apply cx))
    (apply sim_ret; (try simp only [blockΨ_ret, thenΨ_ret, loopL_ret, cutΨ_ret, cutE_ret]); first | refine rt ?_ | refine rn ?_)
    rw [takeF, if_neg hbad, actF, if_pos hk1]
    exact Le.refl _
  · intro hk1
    (repeat (first | apply cn | apply cq | apply cb | apply ck | apply cl | apply cx))
    apply cr
    refine s_ p_eq ?_
    refine s_ p_as ?_
    (repeat (first | apply cn | apply cq | apply cb | apply ck | apply cl | apply cx))
    refine ci ?_ ?_
    · intro hk2
      (repeat (first | apply cn | apply cq | apply cb | apply ck | apply cl | apply cx))
      apply cr
      refine s_ p_mv ?_
      refine s_ p_la ?_
      refine e_cH (voted_fn m hu hlu hv0 hv1 (by omega) (by omega) (by simp) hw) (.refl _) (fun r H' ⟨hr, h3⟩ => ?_)
      subst hr
      (repeat (first | apply cn | apply cq | apply cb | apply ck | apply cl | apply cx))
      (repeat (first | apply cn | apply cq | apply cb | apply ck | apply cl | apply cx))
      (repeat (first | apply cn | apply cq | apply cb | apply ck | apply cl | apply cx))
      apply cr
      refine s_ p_mv ?_
      refine e_cH (done_fn (bd_len _ (votedF_bd m hu hlu)) h3) (.refl _) (fun r H' ⟨hr, hr2⟩ => ?_)
      subst hr hr2
      refine s_ p_ex ?_
      refine s_ p_ex ?_
      refine e_st ?_
      refine s_ p_as ?_
      (repeat (first | apply cn | apply cq | apply cb | apply ck | apply cl | apply cx))
      (apply sim_ret; (try simp only [blockΨ_ret, thenΨ_ret, loopL_ret, cutΨ_ret, cutE_ret]); first | refine rt ?_ | refine rn ?_)
      rw [takeF, if_neg hbad, actF, if_neg hk1, if_pos hk2]
      exact Le.refl _
    · intro hk2
      have hM : MBd n m := hM'.resolve_left hk2
      have hMu := hM.up
      have hle := hMu.es
      have hi0 := hM.i0
      have hi1 := hM.i1
      (repeat (first | apply cn | apply cq | apply cb | apply ck | apply cl | apply cx))
      apply cr
      refine s_ p_eq ?_
      refine s_ p_as ?_
      (repeat (first | apply cn | apply cq | apply cb | apply ck | apply cl | apply cx))
      refine ci ?_ ?_
      · intro hk3
        (repeat (first | apply cn | apply cq | apply cb | apply ck | apply cl | apply cx))
        apply cr
        refine s_ p_mv ?_
        refine s_ p_la ?_
        refine e_cH (add_fn m hu hle hi0 hi1 (by simp) hw) (.refl _) (fun r H' ⟨hr, h3⟩ => ?_)
        subst hr
        (repeat (first | apply cn | apply cq | apply cb | apply ck | apply cl | apply cx))
        (repeat (first | apply cn | apply cq | apply cb | apply ck | apply cl | apply cx))
        (repeat (first | apply cn | apply cq | apply cb | apply ck | apply cl | apply cx))
        apply cr
        refine s_ p_mv ?_
        refine e_cH (done_fn (by have := addF_len hle; omega) h3) (.refl _) (fun r H' ⟨hr, hr2⟩ => ?_)
        subst hr hr2
        refine s_ p_ex ?_
        refine s_ p_ex ?_
        refine e_st ?_
        refine s_ p_as ?_
        (repeat (first | apply cn | apply cq | apply cb | apply ck | apply cl | apply cx))
        (apply sim_ret; (try simp only [blockΨ_ret, thenΨ_ret, loopL_ret, cutΨ_ret, cutE_ret]); first | refine rt ?_ | refine rn ?_)
        rw [takeF, if_neg hbad, actF, if_neg hk1, if_neg hk2, if_pos hk3]
        exact Le.refl _
      · intro hk3
        (repeat (first | apply cn | apply cq | apply cb | apply ck | apply cl | apply cx))
        apply cr
        refine s_ p_eq ?_
        refine s_ p_as ?_
        (repeat (first | apply cn | apply cq | apply cb | apply ck | apply cl | apply cx))
        refine ci ?_ ?_
        · intro hk4
          (repeat (first | apply cn | apply cq | apply cb | apply ck | apply cl | apply cx))
          apply cr
          refine s_ p_mv ?_
          refine s_ p_la ?_
          refine e_cH (heard_fn m hu (by omega) (by omega) (hx0 _) (hx1 _) (hm0 _) (hm1 _) (by omega) (by omega) (by simp) hw) (.refl _) (fun r H' ⟨hr, h3⟩ => ?_)
          subst hr
          (repeat (first | apply cn | apply cq | apply cb | apply ck | apply cl | apply cx))
          (repeat (first | apply cn | apply cq | apply cb | apply ck | apply cl | apply cx))
          (repeat (first | apply cn | apply cq | apply cb | apply ck | apply cl | apply cx))
          apply cr
          refine s_ p_mv ?_
          refine e_cH (done_fn (bd_len _ (heardF_bd m hu)) h3) (.refl _) (fun r H' ⟨hr, hr2⟩ => ?_)
          subst hr hr2
          refine s_ p_ex ?_
          refine s_ p_ex ?_
          refine e_st ?_
          refine s_ p_as ?_
          (repeat (first | apply cn | apply cq | apply cb | apply ck | apply cl | apply cx))
          (apply sim_ret; (try simp only [blockΨ_ret, thenΨ_ret, loopL_ret, cutΨ_ret, cutE_ret]); first | refine rt ?_ | refine rn ?_)
          rw [takeF, if_neg hbad, actF, if_neg hk1, if_neg hk2, if_neg hk3, if_pos hk4]
          exact Le.refl _
        · intro hk4
          (repeat (first | apply cn | apply cq | apply cb | apply ck | apply cl | apply cx))
          apply cr
          refine s_ p_eq ?_
          refine s_ p_as ?_
          (repeat (first | apply cn | apply cq | apply cb | apply ck | apply cl | apply cx))
          refine ci ?_ ?_
          · intro hk5
            (repeat (first | apply cn | apply cq | apply cb | apply ck | apply cl | apply cx))
            apply cr
            refine s_ p_mv ?_
            refine s_ p_la ?_
            refine e_cH (snap_fn m hu (by omega) (by omega) (by simp) hw) (.refl _) (fun r H' ⟨hr, h3⟩ => ?_)
            subst hr
            (repeat (first | apply cn | apply cq | apply cb | apply ck | apply cl | apply cx))
            (repeat (first | apply cn | apply cq | apply cb | apply ck | apply cl | apply cx))
            (repeat (first | apply cn | apply cq | apply cb | apply ck | apply cl | apply cx))
            apply cr
            refine s_ p_mv ?_
            refine e_cH (done_fn (by have := snapF_len (n := upN n m) (m := m) hu.log; omega) h3) (.refl _) (fun r H' ⟨hr, hr2⟩ => ?_)
            subst hr hr2
            refine s_ p_ex ?_
            refine s_ p_ex ?_
            refine e_st ?_
            refine s_ p_as ?_
            (repeat (first | apply cn | apply cq | apply cb | apply ck | apply cl | apply cx))
            (apply sim_ret; (try simp only [blockΨ_ret, thenΨ_ret, loopL_ret, cutΨ_ret, cutE_ret]); first | refine rt ?_ | refine rn ?_)
            rw [takeF, if_neg hbad, actF, if_neg hk1, if_neg hk2, if_neg hk3, if_neg hk4]
            exact Le.refl _
          · intro hk5
            exfalso
            exact hb2 (by omega)
end Go.Proofs.YtbdpfclnomiicaaGreat
end
section
set_option maxRecDepth 16000
namespace Go.Proofs.YtbdpfclnomiicaaGreat
open Go.Cap
set_option linter.unusedSimpArgs false
set_option linter.unusedVariables false
attribute [local irreducible] POp SimFrom DrawFrom EOp Sim FnH T.gp
theorem upN_id (n : Nd) (m : Ms) : (upN n m).id = n.id := by
  unfold upN
  split <;> rfl
theorem Nk.up {n : Nd} {m : Ms} {s : Nat} (h : Nk n s) (h0 : 1 ≤ m.term) (h1 : m.term ≤ s + 3) : Nk (upN n m) (s + 3) := by
  have g := h.le (r := s + 3) (by omega)
  unfold upN
  split
  · exact ⟨g.id0, g.id5, g.base, g.baseTerm, g.conf0, g.conf1, g.snap, by simp only; omega, by simp only; omega, Int.le_refl _, by simp, g.len, g.ents, g.com0, g.com1, g.wait0, g.wait1, Int.le_refl _, by simp, g.next0, g.next1, g.mtch0, g.mtch1⟩
  · exact g
theorem Nk.vote {n : Nd} {m : Ms} {s : Nat} (h : Nk n s) (hf0 : 0 ≤ m.frm) (hf1 : m.frm < 5) : Nk (voteF n m) s := by
  unfold voteF
  split
  · exact ⟨h.id0, h.id5, h.base, h.baseTerm, h.conf0, h.conf1, h.snap, h.term0, h.term1, by show -1 ≤ m.frm; omega, by show m.frm ≤ 5; omega, h.len, h.ents, h.com0, h.com1, Int.le_refl _, by show (0 : Int) ≤ _; omega, h.votes0, h.votes1, h.next0, h.next1, h.mtch0, h.mtch1⟩
  · exact h
theorem or_votes {v f : Int} (h0 : 0 ≤ v) (h1 : v ≤ 31) (f0 : 0 ≤ f) (f1 : f < 5) : 0 ≤ orI v (2 ^ f.toNat) ∧ orI v (2 ^ f.toNat) ≤ 31 := by
  have key : ∀ i : Fin 32, ∀ j : Fin 5, 0 ≤ orI (i.val : Int) (2 ^ j.val) ∧ orI (i.val : Int) (2 ^ j.val) ≤ 31 := by decide +kernel
  obtain ⟨i, hi⟩ := Int.eq_ofNat_of_zero_le h0
  have := key ⟨i, by omega⟩ ⟨f.toNat, by omega⟩
  rw [hi]; exact this
theorem Nk.voted {n : Nd} {m : Ms} {s : Nat} (h : Nk n s) (hf0 : 0 ≤ m.frm) (hf1 : m.frm < 5) : Nk (votedF n m).1 (s + 1) := by
  have ho := or_votes h.votes0 h.votes1 hf0 hf1
  have hc : Nk (countN n m) s := ⟨h.id0, h.id5, h.base, h.baseTerm, h.conf0, h.conf1, h.snap, h.term0, h.term1, h.vote0, h.vote1, h.len, h.ents, h.com0, h.com1, h.wait0, h.wait1, ho.1, ho.2, h.next0, h.next1, h.mtch0, h.mtch1⟩
  unfold votedF
  split
  · exact h.le (by omega)
  · split
    · exact hc.lead
    · exact hc.le (by omega)
theorem Nk.quiet {n : Nd} {s : Nat} (h : Nk n s) : Nk (quietN n) s :=
  ⟨h.id0, h.id5, h.base, h.baseTerm, h.conf0, h.conf1, h.snap, h.term0, h.term1, h.vote0, h.vote1, h.len, h.ents, h.com0, h.com1, Int.le_refl _, by show (0 : Int) ≤ _; omega, h.votes0, h.votes1, h.next0, h.next1, h.mtch0, h.mtch1⟩
theorem layK_ents {n : Nd} {m : Ms} {s : Nat} (h : ∀ e ∈ n.log, Ek e s) (hm : ∀ e ∈ m.entries, Ek e s) : ∀ i ≤ m.entries.length, ∀ e ∈ layK n m i, Ek e s
  | 0, _, e, he => h e he
  | i + 1, hi, e, he => by
    have ih := layK_ents h hm i (by omega)
    unfold layK at he
    split at he
    · exact ih e he
    · rcases List.mem_append.1 he with he | he
      · exact ih e (List.mem_of_mem_take he)
      · rw [List.mem_singleton.1 he]
        have : m.entries.getD i default ∈ m.entries := by
          rw [List.getD_eq_getElem?_getD, List.getElem?_eq_getElem (show i < m.entries.length by omega)]
          exact List.getElem_mem _
        exact hm _ this
theorem Nk.add {n : Nd} {m : Ms} {s : Nat} (h : Nk n s) (hl : m.entries.length ≤ 3) (hm : ∀ e ∈ m.entries, Ek e (s + 3)) (hc0 : 0 ≤ m.commit) (hc1 : m.commit ≤ s) (hi0 : 0 ≤ m.index) : Nk (addF n m).1 (s + 3) := by
  have g := h.le (r := s + 3) (by omega)
  have hll := layK_len n m m.entries.length
  have hnl := h.len
  have c0 := h.com0
  have c1 := h.com1
  unfold addF
  split
  · exact g
  · split
    · exact g.quiet
    · split
      · exact g.quiet
      · have q := g.quiet
        exact ⟨q.id0, q.id5, q.base, q.baseTerm, q.conf0, q.conf1, q.snap, q.term0, q.term1, q.vote0, q.vote1, by show (layK n m m.entries.length).length ≤ _; omega, layK_ents g.ents hm _ (Nat.le_refl _), by show 0 ≤ max n.commit (min m.commit (m.index + m.entries.length)); omega,
          by show max n.commit (min m.commit (m.index + m.entries.length)) ≤ _; omega, q.wait0, q.wait1, q.votes0, q.votes1, q.next0, q.next1, q.mtch0, q.mtch1⟩
theorem Nk.heard {n : Nd} {m : Ms} {s : Nat} (h : Nk n s) (hi0 : 0 ≤ m.index) (hi1 : m.index ≤ s) : Nk (heardF n m).1 (s + 1) := by
  have g := h.le (r := s + 1) (by omega)
  have m0 := h.mtch0 m.frm.toNat
  have m1 := h.mtch1 m.frm.toNat
  have x0 := h.next0 m.frm.toNat
  have x1 := h.next1 m.frm.toNat
  have hag : Nk (agreeN n m) (s + 1) := by
    refine ⟨g.id0, g.id5, g.base, g.baseTerm, g.conf0, g.conf1, g.snap, g.term0, g.term1, g.vote0, g.vote1, g.len, g.ents, g.com0, g.com1, g.wait0, g.wait1, g.votes0, g.votes1, ?_, ?_, ?_, ?_⟩
    · intro i; show 0 ≤ (n.next.set m.frm.toNat (max (n.mtch.get m.frm.toNat) m.index + 1)).get i
      rcases F5.gs n.next m.frm.toNat i (max (n.mtch.get m.frm.toNat) m.index + 1) with e | e <;> rw [e]
      · omega
      · exact h.next0 i
    · intro i; show (n.next.set m.frm.toNat (max (n.mtch.get m.frm.toNat) m.index + 1)).get i ≤ _
      rcases F5.gs n.next m.frm.toNat i (max (n.mtch.get m.frm.toNat) m.index + 1) with e | e <;> rw [e]
      · omega
      · exact g.next1 i
    · intro i; show 0 ≤ (n.mtch.set m.frm.toNat (max (n.mtch.get m.frm.toNat) m.index)).get i
      rcases F5.gs n.mtch m.frm.toNat i (max (n.mtch.get m.frm.toNat) m.index) with e | e <;> rw [e]
      · omega
      · exact h.mtch0 i
    · intro i; show (n.mtch.set m.frm.toNat (max (n.mtch.get m.frm.toNat) m.index)).get i ≤ _
      rcases F5.gs n.mtch m.frm.toNat i (max (n.mtch.get m.frm.toNat) m.index) with e | e <;> rw [e]
      · omega
      · exact g.mtch1 i
  have hbk : Nk (backN n m) (s + 1) := by
    refine ⟨g.id0, g.id5, g.base, g.baseTerm, g.conf0, g.conf1, g.snap, g.term0, g.term1, g.vote0, g.vote1, g.len, g.ents, g.com0, g.com1, g.wait0, g.wait1, g.votes0, g.votes1, ?_, ?_, g.mtch0, g.mtch1⟩
    · intro i; show 0 ≤ (n.next.set m.frm.toNat (max (max (min (n.next.get m.frm.toNat - 1) (m.index + 1)) 1) (n.mtch.get m.frm.toNat + 1))).get i
      rcases F5.gs n.next m.frm.toNat i (max (max (min (n.next.get m.frm.toNat - 1) (m.index + 1)) 1) (n.mtch.get m.frm.toNat + 1)) with e | e <;> rw [e]
      · omega
      · exact h.next0 i
    · intro i; show (n.next.set m.frm.toNat (max (max (min (n.next.get m.frm.toNat - 1) (m.index + 1)) 1) (n.mtch.get m.frm.toNat + 1))).get i ≤ _
      rcases F5.gs n.next m.frm.toNat i (max (max (min (n.next.get m.frm.toNat - 1) (m.index + 1)) 1) (n.mtch.get m.frm.toNat + 1)) with e | e <;> rw [e]
      · omega
      · exact g.next1 i
  unfold heardF
  split
  · exact g
  · split
    · exact hag.commit
    · split
      · exact hbk
      · exact hbk
theorem Nk.take {n : Nd} {m : Ms} {s : Nat} (h : Nk n s) (hm : MsgOk n m s) : Nk (takeF n m).1 (s + 6) := by
  have hu := h.up hm.term0 hm.term1
  have ht := hm.term1
  unfold takeF
  split
  · exact h.le (by omega)
  · unfold actF
    split
    · exact (hu.vote hm.frm0 hm.frm1).le (by omega)
    · split
      · exact (hu.voted hm.frm0 hm.frm1).le (by omega)
      · rename_i h1 h2
        have hix := hm.idx h2
        split
        · rename_i h3
          obtain ⟨hel, hee⟩ := hm.ents h3
          obtain ⟨c0, c1⟩ := hm.com h3
          have := hu.add hel (fun e he => ⟨by have := (hee e he).1; have := hm.term0; omega, by have := (hee e he).1; omega, by have := (hee e he).2.1; omega, by have := (hee e he).2.1; omega, (hee e he).2.2⟩) c0 (by omega) hix.1
          exact this
        · rename_i h3
          split
          · exact (hu.heard hix.1 (by omega)).le (by omega)
          · rename_i h4
            have := hm.kind0
            have := hm.kind1
            omega
theorem nk_take_fn {n : Nd} {m : Ms} {s : Nat} (h : Nk n s) (hm : MsgOk n m s) (hs : s ≤ 900) : FnP Tryz.prog 27 [nd n, ms m] (fun r => r = .tup [nd (takeF n m).1, mss (takeF n m).2]) := by
  have hl := h.len
  have he := hm.len
  refine take_fnG (h.bd (by omega)) (h.nbd (by omega)) (.inr ?_)
  by_cases h2 : m.kind = 2
  · exact .inl h2
  · have := hm.idx h2
    exact .inr ⟨by omega, by omega, by omega⟩
theorem take_id (n : Nd) (m : Ms) (h0 : 1 ≤ m.kind) (h : m.kind ≤ 4) : (takeF n m).1.id = n.id := by
  unfold takeF
  split
  · rfl
  · unfold actF
    split
    · rw [← upN_id n m]; unfold voteF; split <;> rfl
    · split
      · rw [← upN_id n m]; unfold votedF
        split
        · rfl
        · split
          · exact lead_id _
          · rfl
      · split
        · rw [← upN_id n m]; unfold addF
          split
          · rfl
          · split
            · rfl
            · split <;> rfl
        · split
          · rw [← upN_id n m]; unfold heardF
            split
            · rfl
            · split
              · exact commit_id _
              · split <;> rfl
          · rename_i h1 h2 h3 h4 h5
            omega
def Short (l : List Ms) : Prop := l.length ≤ 10 ∧ ∀ m ∈ l, m.entries.length ≤ 8
theorem toAll_mem (n : Nd) (F : Int → Ms) : ∀ k m, m ∈ toAll n F k → ∃ to, m = F to
  | 0, m, h => by cases h
  | k + 1, m, h => by
    rw [toAll_succ] at h
    rcases List.mem_append.1 h with h | h
    · exact toAll_mem n F k m h
    · split at h
      · exact ⟨_, List.mem_singleton.1 h⟩
      · cases h
theorem owe_short (n : Nd) (to : Int) : (oweF n to).entries.length ≤ 8 := by
  unfold oweF sendF
  split
  · simp
  · simp only [List.length_take]; omega
theorem toAll_short (n : Nd) (F : Int → Ms) (h : ∀ to, (F to).entries.length ≤ 8) : Short (toAll n F 5) := by
  refine ⟨by have := toAll_len n F 5; omega, fun m hm => ?_⟩
  obtain ⟨to, rfl⟩ := toAll_mem n F 5 m hm
  exact h to
theorem short_nil : Short [] := ⟨by simp, by simp⟩
theorem short_one {m : Ms} (h : m.entries.length ≤ 8) : Short [m] := ⟨by simp, fun x hx => by rw [List.mem_singleton.1 hx]; exact h⟩
theorem stand_short (n : Nd) : Short (standF n).2 := by
  unfold standF
  split
  · exact toAll_short _ _ fun to => owe_short _ _
  · refine toAll_short (standN n) (fun to => sendF (standN n) to (askM (lastF n) (termF n (lastF n)))) fun to => ?_
    simp [sendF, askM]
theorem tick_short (n : Nd) : Short (tickF n).2 := by
  unfold tickF
  split
  · exact toAll_short _ _ fun to => owe_short _ _
  · split
    · exact short_nil
    · split
      · exact stand_short _
      · exact short_nil
theorem take_short (n : Nd) (m : Ms) (h0 : 1 ≤ m.kind) (h : m.kind ≤ 4) : Short (takeF n m).2 := by
  unfold takeF
  split
  · exact short_nil
  · unfold actF
    split
    · exact short_one (by simp [sendF, votedM])
    · split
      · unfold votedF
        split
        · exact short_nil
        · split
          · exact toAll_short _ _ fun to => owe_short _ _
          · exact short_nil
      · split
        · unfold addF
          split
          · exact short_one (by simp [sendF, addedM])
          · split
            · exact short_one (by simp [sendF, addedM])
            · split <;> exact short_one (by simp [sendF, addedM])
        · split
          · unfold heardF
            split
            · exact short_nil
            · split
              · exact short_nil
              · split
                · exact short_one (owe_short _ _)
                · exact short_nil
          · omega
end Go.Proofs.YtbdpfclnomiicaaGreat
end
section
set_option maxRecDepth 16000
namespace Go.Proofs.YtbdpfclnomiicaaGreat
open Go.Cap
set_option linter.unusedSimpArgs false
set_option linter.unusedVariables false
attribute [local irreducible] POp SimFrom DrawFrom EOp Sim FnH T.gp
structure Act19 (n x : Nd) (w : Int) (s : Nat) : Prop where
  nk : Nk x (s + 6)
  id : x.id = n.id
def nB19 : TypeId := 36
def zC19 : List T := [ei 0, ei 0, ei 0, ei 0, ei 0, ei 0, es [], T.v (.slice none 0 0), ei 0, ei 0, ei 0, ei 0, ei 0, ei 0, ei 0, ei 0, ei 0, ei 0, ei 0, ei 0, ei 0, ei 0]
def doT (K : Kp) (x : Nd) (w : Int) : T := .tup [nd x, ei (keepF K x w).2, ei w, .v (.bool true)]
theorem shortT {l : List Ms} (h : Short l) : FnP Tryz.prog 25 [mss l, mss l] (fun r => r = .v (.bool (decide True))) := by
  have := same19_fn l (by have := h.1; omega) (fun m hm => by have := h.2 m hm; omega)
  simpa using this
theorem keepF_err (K : Kp) (t : Nd) {e : Int} (h : ¬ e = 0) : keepF K t e = (K, e) := if_pos h
set_option maxHeartbeats 8000000 in
theorem do_fn (a : Ak) (n : Nd) (s : Nat) (ha : AkOk a) (hn : Nk n s) (hs : s ≤ 800) : ∃ x w, Act19 n x w s ∧ ∀ (bk bj bd : Nat) (K : Kp), K.N = n → KpOk K → FnH Tryz.prog 14 [akT a, pW bk, nd n] (KpH bk bj bd K) (fun r H => r = doT K x w ∧ H = KpH bk bj bd (keepF K x w).1) := by
  have w17 := within_fn a.kind 17 (by omega) (by omega)
  have hnl := hn.len
  have recOf : ∀ {x : Nd}, Nk x (s + 6) → (recB x 0).length ≤ 4000000 := fun h => by have := h.rec_; omega
  obtain ⟨j, hj⟩ : ∃ j, j = a.kind % 17 := ⟨_, rfl⟩
  by_cases h5 : j ≤ 5
  · have ht := hn.tick
    refine ⟨(tickF n).1, 0, ⟨ht.le (by omega), tick_id n⟩, ?_⟩
    have hsh := tick_short n
    have hT := nk_tick_fn hn (by omega)
    generalize tickF n = r at ht hsh hT
    obtain ⟨x, l⟩ := r
    simp only at ht hsh hT
    intro bk bj bd K hKN hK
    have hx := ht.le (r := s + 6) (by omega)
    have hkT := kTick_fn bk bj bd K (t := x) (l := l) (by rw [hKN]; exact hT) hK (hx.sz (by omega)) (recOf hx)
    rw [doT]
    rw [sentT] at hkT
    obtain ⟨⟨K', e⟩, hke⟩ : ∃ w, keepF K x 0 = w := ⟨_, rfl⟩
    rw [hke] at hkT ⊢
    simp only at hkT ⊢
    have fS := shortT hsh
    refine fn_enter Tryz.func14 (by rfl) (by rfl) ?_
    intro S0 w0
    show Sim _ _ [(0, T.agg [ei a.kind, ei a.n, ei a.m.kind, ei a.m.frm, ei a.m.to, ei a.m.term, ei a.m.index, ei a.m.logTerm, ei a.m.commit, ei a.m.conf, eB a.m.yes, eens a.m.entries, es a.m.snap, es a.cmd]), (1, pW bk), (2, T.agg (nodeC n (.sl false (n.log.map een))))] _ _
    (repeat (first | apply cn | apply cq | apply cb | apply ck | apply cl | apply cx))
    apply cr
    refine e_bx fun b3 _ => ?_
    refine e_bx fun b5 _ => ?_
    refine e_al fun b6 _ => ?_
    refine s_ p_as ?_
    refine s_ p_as ?_
    refine s_ p_as ?_
    (repeat (first | apply cn | apply cq | apply cb | apply ck | apply cl | apply cx))
    (repeat (first | apply cn | apply cq | apply cb | apply ck | apply cl | apply cx))
    apply cr
    refine s_ p_fr ?_
    refine s_ p_lo ?_
    refine s_ (p_ca (w17)) ?_
    refine s_ p_as ?_
    (repeat (first | apply cn | apply cq | apply cb | apply ck | apply cl | apply cx))
    rw [← hj]
    (repeat (first | apply cn | apply cq | apply cb | apply ck | apply cl | apply cx))
    apply cr
    refine s_ p_mv ?_
    refine s_ p_le ?_
    refine s_ p_as ?_
    (repeat (first | apply cn | apply cq | apply cb | apply ck | apply cl | apply cx))
    refine ci ?_ ?_
    rotate_left
    · intro h; exact absurd h5 h
    intro _
    (repeat (first | apply cn | apply cq | apply cb | apply ck | apply cl | apply cx))
    apply cr
    refine s_ p_loa ?_
    refine s_ (p_ca (hT)) ?_
    refine s_ p_mv ?_
    refine s_ p_ex ?_
    refine s_ p_ex ?_
    refine e_al fun b11 _ => ?_
    refine e_st ?_
    refine s_ p_as ?_
    (repeat (first | apply cn | apply cq | apply cb | apply ck | apply cl | apply cx))
    (repeat (first | apply cn | apply cq | apply cb | apply ck | apply cl | apply cx))
    apply cr
    refine s_ p_mv ?_
    refine e_cH (Hr := [_, _, _, _]) hkT (List.perm_append_comm (l₁ := [_, _, _, _])) (fun r H' ⟨hr1, hr2⟩ => ?_)
    subst hr1 hr2
    refine from_perm (List.perm_append_comm (l₂ := [_, _, _, _])) ?_
    refine s_ p_mv ?_
    refine s_ p_ex ?_
    refine s_ p_ex ?_
    refine s_ p_as ?_
    refine s_ p_as ?_
    (repeat (first | apply cn | apply cq | apply cb | apply ck | apply cl | apply cx))
    by_cases he : e = 0
    · rw [if_pos he]
      (repeat (first | apply cn | apply cq | apply cb | apply ck | apply cl | apply cx))
      refine ca [0, 1, 2, 3, 4, 5, 6, 7, 8, 9, 10, 11, 12, 13, 14, 15, 16, 17, 18, 19, 20, 21] [18] ?_
      refine a_loa ?_
      refine a_ (fun _ => p_mv) ?_
      refine a_ (fun _ => p_mv) ?_
      refine a_ (fun _ => p_ne) ?_
      refine a_ (fun _ => p_mv) ?_
      refine ag_T (fun _ hg => p_mv) ?_
      (first | refine ag_T (fun _ hg => p_ln (hx := u_ hg)) ?_ | refine ag_T (fun _ hg => p_lr (hx := u_ hg)) ?_)
      refine ag_T (fun _ hg => p_eq (hx := u_ hg)) ?_
      refine a_ (fun _ => p_an) ?_
      refine a_ (fun _ => p_mv) ?_
      refine ag_F (fun _ hg => p_mv) ?_
      refine ag_F (fun _ hg => p_eq (hx := u_ hg)) ?_
      refine ag_F (fun _ hg => p_mv (hx := u_ hg)) ?_
      refine ah_T (fun _ hg => p_mv) ?_
      refine ah_T (fun _ hg => p_mv) ?_
      refine ah_T (fun _ hg => p_ca (fS) (ha' := by apply evl_cons (u_ hg); apply evl_cons (u_ hg); exact evl_nil)) ?_
      refine ag_F (fun _ hg => p_anN hg) ?_
      refine a_ (fun _ => p_or) ?_
      refine a_st ?_
      refine a_ (fun _ => p_as) ?_
      refine a_ (fun _ => p_as) ?_
      refine a_ (fun _ => p_as) ?_
      apply an
      (repeat (first | apply cn | apply cq | apply cb | apply ck | apply cl | apply cx))
      (apply sim_ret; (try simp only [blockΨ_ret, thenΨ_ret, loopL_ret, cutΨ_ret, cutE_ret]))
      refine rh (H' := KpH bk bj bd K') (.skip _ _ _ (.skip _ _ _ (.skip _ _ _ (.skip _ _ _ kR)))) ⟨rfl, rfl⟩ ?_
      refine Le.tup (LeL.cons (Le.refl _) (LeL.cons (Le.refl _) (LeL.cons (Le.refl _) (LeL.cons (Le.of_eq ?_) LeL.nil))))
      exact congrArg (fun b => T.v (.bool b)) (decide_eq_true (.inr ⟨he, trivial⟩))
    · rw [if_neg he]
      (repeat (first | apply cn | apply cq | apply cb | apply ck | apply cl | apply cx))
      refine ca [0, 1, 2, 3, 4, 5, 6, 7, 8, 9, 10, 11, 12, 13, 14, 15, 16, 17, 18, 19, 20, 21] [18] ?_
      refine a_loa ?_
      refine a_ (fun _ => p_mv) ?_
      refine a_ (fun _ => p_mv) ?_
      refine a_ (fun _ => p_ne) ?_
      refine a_ (fun _ => p_mv) ?_
      refine ag_T (fun _ hg => p_mv) ?_
      (first | refine ag_T (fun _ hg => p_ln (hx := u_ hg)) ?_ | refine ag_T (fun _ hg => p_lr (hx := u_ hg)) ?_)
      refine ag_T (fun _ hg => p_eq (hx := u_ hg)) ?_
      refine a_ (fun _ => p_an) ?_
      refine a_ (fun _ => p_mv) ?_
      refine ag_F (fun _ hg => p_mv) ?_
      refine ag_F (fun _ hg => p_eq (hx := u_ hg)) ?_
      refine ag_F (fun _ hg => p_mv (hx := u_ hg)) ?_
      refine ah_T (fun _ hg => p_mv) ?_
      refine ah_T (fun _ hg => p_mv) ?_
      refine ah_T (d := .v (.bool (decide False))) (fun _ hg => absurd hg.2 he) ?_
      refine ag_F (fun _ hg => p_anN hg) ?_
      refine a_ (fun _ => p_or) ?_
      refine a_st ?_
      refine a_ (fun _ => p_as) ?_
      refine a_ (fun _ => p_as) ?_
      refine a_ (fun _ => p_as) ?_
      apply an
      (repeat (first | apply cn | apply cq | apply cb | apply ck | apply cl | apply cx))
      (apply sim_ret; (try simp only [blockΨ_ret, thenΨ_ret, loopL_ret, cutΨ_ret, cutE_ret]))
      refine rh (H' := KpH bk bj bd K') (.skip _ _ _ (.skip _ _ _ (.skip _ _ _ (.skip _ _ _ kR)))) ⟨rfl, rfl⟩ ?_
      refine Le.tup (LeL.cons (Le.refl _) (LeL.cons (Le.refl _) (LeL.cons (Le.refl _) (LeL.cons (Le.of_eq ?_) LeL.nil))))
      exact congrArg (fun b => T.v (.bool b)) (decide_eq_true (.inl ⟨he, rfl⟩))
  by_cases h11 : j ≤ 11
  · obtain ⟨m, hmf, hmo⟩ := mess_fn a n s ha hn (by omega)
    have ht := hn.take hmo
    refine ⟨(takeF n m).1, 0, ⟨ht, take_id n m hmo.kind0 hmo.kind1⟩, ?_⟩
    have hsh := take_short n m hmo.kind0 hmo.kind1
    have hT := nk_take_fn hn hmo (by omega)
    generalize takeF n m = r at ht hsh hT
    obtain ⟨x, l⟩ := r
    simp only at ht hsh hT
    intro bk bj bd K hKN hK
    have hkT := kTake_fn bk bj bd K m (t := x) (l := l) (by rw [hKN]; exact hT) hK (ht.sz (by omega)) (recOf ht)
    rw [doT]
    rw [sentT] at hkT
    obtain ⟨⟨K', e⟩, hke⟩ : ∃ w, keepF K x 0 = w := ⟨_, rfl⟩
    rw [hke] at hkT ⊢
    simp only at hkT ⊢
    have fS := shortT hsh
    refine fn_enter Tryz.func14 (by rfl) (by rfl) ?_
    intro S0 w0
    show Sim _ _ [(0, T.agg [ei a.kind, ei a.n, ei a.m.kind, ei a.m.frm, ei a.m.to, ei a.m.term, ei a.m.index, ei a.m.logTerm, ei a.m.commit, ei a.m.conf, eB a.m.yes, eens a.m.entries, es a.m.snap, es a.cmd]), (1, pW bk), (2, T.agg (nodeC n (.sl false (n.log.map een))))] _ _
    (repeat (first | apply cn | apply cq | apply cb | apply ck | apply cl | apply cx))
    apply cr
    refine e_bx fun b3 _ => ?_
    refine e_bx fun b5 _ => ?_
    refine e_al fun b6 _ => ?_
    refine s_ p_as ?_
    refine s_ p_as ?_
    refine s_ p_as ?_
    (repeat (first | apply cn | apply cq | apply cb | apply ck | apply cl | apply cx))
    (repeat (first | apply cn | apply cq | apply cb | apply ck | apply cl | apply cx))
    apply cr
    refine s_ p_fr ?_
    refine s_ p_lo ?_
    refine s_ (p_ca (w17)) ?_
    refine s_ p_as ?_
    (repeat (first | apply cn | apply cq | apply cb | apply ck | apply cl | apply cx))
    rw [← hj]
    (repeat (first | apply cn | apply cq | apply cb | apply ck | apply cl | apply cx))
    apply cr
    refine s_ p_mv ?_
    refine s_ p_le ?_
    refine s_ p_as ?_
    (repeat (first | apply cn | apply cq | apply cb | apply ck | apply cl | apply cx))
    refine ci ?_ ?_
    · intro h; exact absurd h h5
    intro _
    (repeat (first | apply cn | apply cq | apply cb | apply ck | apply cl | apply cx))
    apply cr
    refine s_ p_mv ?_
    refine s_ p_le ?_
    refine s_ p_as ?_
    (repeat (first | apply cn | apply cq | apply cb | apply ck | apply cl | apply cx))
    refine ci ?_ ?_
    rotate_left
    · intro h; exact absurd h11 h
    intro _
    (repeat (first | apply cn | apply cq | apply cb | apply ck | apply cl | apply cx))
    apply cr
    refine s_ p_loa ?_
    refine s_ p_loa ?_
    refine s_ (p_ca (hmf)) ?_
    refine e_al fun b15 _ => ?_
    refine e_st ?_
    (repeat (first | apply cn | apply cq | apply cb | apply ck | apply cl | apply cx))
    (repeat (first | apply cn | apply cq | apply cb | apply ck | apply cl | apply cx))
    apply cr
    refine s_ p_loa ?_
    refine s_ p_loa ?_
    refine s_ (p_ca (hT)) ?_
    refine s_ p_mv ?_
    refine s_ p_ex ?_
    refine s_ p_ex ?_
    refine e_al fun b16 _ => ?_
    refine e_st ?_
    refine s_ p_as ?_
    (repeat (first | apply cn | apply cq | apply cb | apply ck | apply cl | apply cx))
    (repeat (first | apply cn | apply cq | apply cb | apply ck | apply cl | apply cx))
    apply cr
    refine s_ p_mv ?_
    refine s_ p_loa ?_
    refine e_cH (Hr := [_, _, _, _, _]) hkT (List.perm_append_comm (l₁ := [_, _, _, _, _])) (fun r H' ⟨hr1, hr2⟩ => ?_)
    subst hr1 hr2
    refine from_perm (List.perm_append_comm (l₂ := [_, _, _, _, _])) ?_
    refine s_ p_mv ?_
    refine s_ p_ex ?_
    refine s_ p_ex ?_
    refine s_ p_as ?_
    refine s_ p_as ?_
    (repeat (first | apply cn | apply cq | apply cb | apply ck | apply cl | apply cx))
    by_cases he : e = 0
    · rw [if_pos he]
      (repeat (first | apply cn | apply cq | apply cb | apply ck | apply cl | apply cx))
      refine ca [0, 1, 2, 3, 4, 5, 6, 7, 8, 9, 10, 11, 12, 13, 14, 15, 16, 17, 18, 19, 20, 21] [18] ?_
      refine a_loa ?_
      refine a_ (fun _ => p_mv) ?_
      refine a_ (fun _ => p_mv) ?_
      refine a_ (fun _ => p_ne) ?_
      refine a_ (fun _ => p_mv) ?_
      refine ag_T (fun _ hg => p_mv) ?_
      (first | refine ag_T (fun _ hg => p_ln (hx := u_ hg)) ?_ | refine ag_T (fun _ hg => p_lr (hx := u_ hg)) ?_)
      refine ag_T (fun _ hg => p_eq (hx := u_ hg)) ?_
      refine a_ (fun _ => p_an) ?_
      refine a_ (fun _ => p_mv) ?_
      refine ag_F (fun _ hg => p_mv) ?_
      refine ag_F (fun _ hg => p_eq (hx := u_ hg)) ?_
      refine ag_F (fun _ hg => p_mv (hx := u_ hg)) ?_
      refine ah_T (fun _ hg => p_mv) ?_
      refine ah_T (fun _ hg => p_mv) ?_
      refine ah_T (fun _ hg => p_ca (fS) (ha' := by apply evl_cons (u_ hg); apply evl_cons (u_ hg); exact evl_nil)) ?_
      refine ag_F (fun _ hg => p_anN hg) ?_
      refine a_ (fun _ => p_or) ?_
      refine a_st ?_
      refine a_ (fun _ => p_as) ?_
      refine a_ (fun _ => p_as) ?_
      refine a_ (fun _ => p_as) ?_
      apply an
      (repeat (first | apply cn | apply cq | apply cb | apply ck | apply cl | apply cx))
      (apply sim_ret; (try simp only [blockΨ_ret, thenΨ_ret, loopL_ret, cutΨ_ret, cutE_ret]))
      refine rh (H' := KpH bk bj bd K') (.skip _ _ _ (.skip _ _ _ (.skip _ _ _ (.skip _ _ _ (.skip _ _ _ kR))))) ⟨rfl, rfl⟩ ?_
      refine Le.tup (LeL.cons (Le.refl _) (LeL.cons (Le.refl _) (LeL.cons (Le.refl _) (LeL.cons (Le.of_eq ?_) LeL.nil))))
      exact congrArg (fun b => T.v (.bool b)) (decide_eq_true (.inr ⟨he, trivial⟩))
    · rw [if_neg he]
      (repeat (first | apply cn | apply cq | apply cb | apply ck | apply cl | apply cx))
      refine ca [0, 1, 2, 3, 4, 5, 6, 7, 8, 9, 10, 11, 12, 13, 14, 15, 16, 17, 18, 19, 20, 21] [18] ?_
      refine a_loa ?_
      refine a_ (fun _ => p_mv) ?_
      refine a_ (fun _ => p_mv) ?_
      refine a_ (fun _ => p_ne) ?_
      refine a_ (fun _ => p_mv) ?_
      refine ag_T (fun _ hg => p_mv) ?_
      (first | refine ag_T (fun _ hg => p_ln (hx := u_ hg)) ?_ | refine ag_T (fun _ hg => p_lr (hx := u_ hg)) ?_)
      refine ag_T (fun _ hg => p_eq (hx := u_ hg)) ?_
      refine a_ (fun _ => p_an) ?_
      refine a_ (fun _ => p_mv) ?_
      refine ag_F (fun _ hg => p_mv) ?_
      refine ag_F (fun _ hg => p_eq (hx := u_ hg)) ?_
      refine ag_F (fun _ hg => p_mv (hx := u_ hg)) ?_
      refine ah_T (fun _ hg => p_mv) ?_
      refine ah_T (fun _ hg => p_mv) ?_
      refine ah_T (d := .v (.bool (decide False))) (fun _ hg => absurd hg.2 he) ?_
      refine ag_F (fun _ hg => p_anN hg) ?_
      refine a_ (fun _ => p_or) ?_
      refine a_st ?_
      refine a_ (fun _ => p_as) ?_
      refine a_ (fun _ => p_as) ?_
      refine a_ (fun _ => p_as) ?_
      apply an
      (repeat (first | apply cn | apply cq | apply cb | apply ck | apply cl | apply cx))
      (apply sim_ret; (try simp only [blockΨ_ret, thenΨ_ret, loopL_ret, cutΨ_ret, cutE_ret]))
      refine rh (H' := KpH bk bj bd K') (.skip _ _ _ (.skip _ _ _ (.skip _ _ _ (.skip _ _ _ (.skip _ _ _ kR))))) ⟨rfl, rfl⟩ ?_
      refine Le.tup (LeL.cons (Le.refl _) (LeL.cons (Le.refl _) (LeL.cons (Le.refl _) (LeL.cons (Le.of_eq ?_) LeL.nil))))
      exact congrArg (fun b => T.v (.bool b)) (decide_eq_true (.inl ⟨he, rfl⟩))
  by_cases h13 : j ≤ 13
  · have ht := hn.prop a.cmd (by have := ha.cmd; omega)
    have hid := prop_id n a.cmd
    have hT := prop_fn a.cmd (hn.bd (by omega)) (by omega)
    generalize propF n a.cmd = r at ht hT hid
    obtain ⟨x, i, w⟩ := r
    simp only at ht hT hid
    refine ⟨x, w, ⟨ht.le (by omega), hid⟩, ?_⟩
    intro bk bj bd K hKN hK
    have hx := ht.le (r := s + 6) (by omega)
    have hkT := kProp_fn bk bj bd K a.cmd (t := x) (i := i) (e := w) (by rw [hKN]; exact hT) hK (hx.sz (by omega)) (recOf hx)
    rw [doT]
    rw [putT] at hkT
    obtain ⟨⟨K', e⟩, hke⟩ : ∃ v, keepF K x w = v := ⟨_, rfl⟩
    rw [hke] at hkT ⊢
    simp only at hkT ⊢
    refine fn_enter Tryz.func14 (by rfl) (by rfl) ?_
    intro S0 w0
    show Sim _ _ [(0, T.agg [ei a.kind, ei a.n, ei a.m.kind, ei a.m.frm, ei a.m.to, ei a.m.term, ei a.m.index, ei a.m.logTerm, ei a.m.commit, ei a.m.conf, eB a.m.yes, eens a.m.entries, es a.m.snap, es a.cmd]), (1, pW bk), (2, T.agg (nodeC n (.sl false (n.log.map een))))] _ _
    (repeat (first | apply cn | apply cq | apply cb | apply ck | apply cl | apply cx))
    apply cr
    refine e_bx fun b3 _ => ?_
    refine e_bx fun b5 _ => ?_
    refine e_al fun b6 _ => ?_
    refine s_ p_as ?_
    refine s_ p_as ?_
    refine s_ p_as ?_
    (repeat (first | apply cn | apply cq | apply cb | apply ck | apply cl | apply cx))
    (repeat (first | apply cn | apply cq | apply cb | apply ck | apply cl | apply cx))
    apply cr
    refine s_ p_fr ?_
    refine s_ p_lo ?_
    refine s_ (p_ca (w17)) ?_
    refine s_ p_as ?_
    (repeat (first | apply cn | apply cq | apply cb | apply ck | apply cl | apply cx))
    rw [← hj]
    (repeat (first | apply cn | apply cq | apply cb | apply ck | apply cl | apply cx))
    apply cr
    refine s_ p_mv ?_
    refine s_ p_le ?_
    refine s_ p_as ?_
    (repeat (first | apply cn | apply cq | apply cb | apply ck | apply cl | apply cx))
    refine ci ?_ ?_
    · intro h; exact absurd h h5
    intro _
    (repeat (first | apply cn | apply cq | apply cb | apply ck | apply cl | apply cx))
    apply cr
    refine s_ p_mv ?_
    refine s_ p_le ?_
    refine s_ p_as ?_
    (repeat (first | apply cn | apply cq | apply cb | apply ck | apply cl | apply cx))
    refine ci ?_ ?_
    · intro h; exact absurd h h11
    intro _
    (repeat (first | apply cn | apply cq | apply cb | apply ck | apply cl | apply cx))
    apply cr
    refine s_ p_mv ?_
    refine s_ p_le ?_
    refine s_ p_as ?_
    (repeat (first | apply cn | apply cq | apply cb | apply ck | apply cl | apply cx))
    refine ci ?_ ?_
    rotate_left
    · intro h; exact absurd h13 h
    intro _
    (repeat (first | apply cn | apply cq | apply cb | apply ck | apply cl | apply cx))
    apply cr
    refine s_ p_loa ?_
    refine s_ p_fr ?_
    refine s_ p_lo ?_
    refine s_ (p_ca (hT)) ?_
    refine s_ p_mv ?_
    refine s_ p_ex ?_
    refine s_ p_ex ?_
    refine s_ p_ex ?_
    refine e_al fun b20 _ => ?_
    refine e_st ?_
    refine s_ p_as ?_
    refine s_ p_as ?_
    (repeat (first | apply cn | apply cq | apply cb | apply ck | apply cl | apply cx))
    (repeat (first | apply cn | apply cq | apply cb | apply ck | apply cl | apply cx))
    apply cr
    refine s_ p_mv ?_
    refine s_ p_fr ?_
    refine s_ p_lo ?_
    refine e_cH (Hr := [_, _, _, _]) hkT (List.perm_append_comm (l₁ := [_, _, _, _])) (fun r H' ⟨hr1, hr2⟩ => ?_)
    subst hr1 hr2
    refine from_perm (List.perm_append_comm (l₂ := [_, _, _, _])) ?_
    refine s_ p_mv ?_
    refine s_ p_ex ?_
    refine s_ p_ex ?_
    refine s_ p_as ?_
    refine s_ p_as ?_
    (repeat (first | apply cn | apply cq | apply cb | apply ck | apply cl | apply cx))
    by_cases he : e = 0
    · rw [if_pos he]
      (repeat (first | apply cn | apply cq | apply cb | apply ck | apply cl | apply cx))
      apply cr
      refine s_ p_loa ?_
      refine s_ p_mv ?_
      refine s_ p_mv ?_
      refine s_ p_mv ?_
      refine s_ p_ne ?_
      refine s_ p_mv ?_
      refine gT (fun hg => p_mv) ?_
      refine gT (fun hg => p_eq (hx := u_ hg)) ?_
      refine s_ p_an ?_
      refine s_ p_mv ?_
      refine gF (fun hg => p_mv) ?_
      refine gF (fun hg => p_mv) ?_
      refine gF (fun hg => p_eq (hx := u_ hg) (hy := u_ hg)) ?_
      refine s_ p_or ?_
      refine e_st ?_
      refine s_ p_as ?_
      refine s_ p_as ?_
      refine s_ p_as ?_
      (repeat (first | apply cn | apply cq | apply cb | apply ck | apply cl | apply cx))
      (apply sim_ret; (try simp only [blockΨ_ret, thenΨ_ret, loopL_ret, cutΨ_ret, cutE_ret]))
      refine rh (H' := KpH bk bj bd K') (.skip _ _ _ (.skip _ _ _ (.skip _ _ _ (.skip _ _ _ kR)))) ⟨rfl, rfl⟩ ?_
      refine Le.tup (LeL.cons (Le.refl _) (LeL.cons (Le.refl _) (LeL.cons (Le.refl _) (LeL.cons (Le.of_eq ?_) LeL.nil))))
      exact congrArg (fun b => T.v (.bool b)) (decide_eq_true (.inr trivial))
    · rw [if_neg he]
      (repeat (first | apply cn | apply cq | apply cb | apply ck | apply cl | apply cx))
      apply cr
      refine s_ p_loa ?_
      refine s_ p_mv ?_
      refine s_ p_mv ?_
      refine s_ p_mv ?_
      refine s_ p_ne ?_
      refine s_ p_mv ?_
      refine gT (fun hg => p_mv) ?_
      refine gT (fun hg => p_eq (hx := u_ hg)) ?_
      refine s_ p_an ?_
      refine s_ p_mv ?_
      refine gF (fun hg => p_mv) ?_
      refine gF (fun hg => p_mv) ?_
      refine gF (fun hg => p_eq (hx := u_ hg) (hy := u_ hg)) ?_
      refine s_ p_or ?_
      refine e_st ?_
      refine s_ p_as ?_
      refine s_ p_as ?_
      refine s_ p_as ?_
      (repeat (first | apply cn | apply cq | apply cb | apply ck | apply cl | apply cx))
      (apply sim_ret; (try simp only [blockΨ_ret, thenΨ_ret, loopL_ret, cutΨ_ret, cutE_ret]))
      refine rh (H' := KpH bk bj bd K') (.skip _ _ _ (.skip _ _ _ (.skip _ _ _ (.skip _ _ _ kR)))) ⟨rfl, rfl⟩ ?_
      refine Le.tup (LeL.cons (Le.refl _) (LeL.cons (Le.refl _) (LeL.cons (Le.refl _) (LeL.cons (Le.of_eq ?_) LeL.nil))))
      exact congrArg (fun b => T.v (.bool b)) (decide_eq_true (.inl ⟨he, trivial⟩))
  · have w5 := within_fn a.n 5 (by omega) (by omega)
    have hw0 : 0 ≤ IntKind.u64.wrap (a.n % 5) := by rw [IntKind.wrap]; simp [IntKind.bits, IntKind.signed]; omega
    have hC := Conf_fn n (by omega) (by have := (hn.bd (by omega)).base0; omega) (by have := (hn.bd (by omega)).base1; omega)
    obtain ⟨cf, hcf⟩ : ∃ cf, cf = bXor .i64 (confF n).2 (bShl .i64 1 (IntKind.u64.wrap (a.n % 5))) := ⟨_, rfl⟩
    have ht := hn.change cf
    have hid := change_id n cf
    have hT := change_fn cf (hn.bd (by omega)) (by omega) (by have := hn.com0; simp only [big]; omega) (by have := hn.com1; simp only [big]; omega)
    generalize changeF n cf = r at ht hT hid
    obtain ⟨x, i, w⟩ := r
    simp only at ht hT hid
    refine ⟨x, w, ⟨ht.le (by omega), hid⟩, ?_⟩
    intro bk bj bd K hKN hK
    have hx := ht.le (r := s + 6) (by omega)
    have hkT := kChange_fn bk bj bd K cf (t := x) (i := i) (e := w) (by rw [hKN]; exact hT) hK (hx.sz (by omega)) (recOf hx)
    rw [doT]
    rw [putT] at hkT
    obtain ⟨⟨K', e⟩, hke⟩ : ∃ v, keepF K x w = v := ⟨_, rfl⟩
    rw [hke] at hkT ⊢
    simp only at hkT ⊢
    rw [hcf] at hT hkT
    refine fn_enter Tryz.func14 (by rfl) (by rfl) ?_
    intro S0 w0
    show Sim _ _ [(0, T.agg [ei a.kind, ei a.n, ei a.m.kind, ei a.m.frm, ei a.m.to, ei a.m.term, ei a.m.index, ei a.m.logTerm, ei a.m.commit, ei a.m.conf, eB a.m.yes, eens a.m.entries, es a.m.snap, es a.cmd]), (1, pW bk), (2, T.agg (nodeC n (.sl false (n.log.map een))))] _ _
    (repeat (first | apply cn | apply cq | apply cb | apply ck | apply cl | apply cx))
    apply cr
    refine e_bx fun b3 _ => ?_
    refine e_bx fun b5 _ => ?_
    refine e_al fun b6 _ => ?_
    refine s_ p_as ?_
    refine s_ p_as ?_
    refine s_ p_as ?_
    (repeat (first | apply cn | apply cq | apply cb | apply ck | apply cl | apply cx))
    (repeat (first | apply cn | apply cq | apply cb | apply ck | apply cl | apply cx))
    apply cr
    refine s_ p_fr ?_
    refine s_ p_lo ?_
    refine s_ (p_ca (w17)) ?_
    refine s_ p_as ?_
    (repeat (first | apply cn | apply cq | apply cb | apply ck | apply cl | apply cx))
    rw [← hj]
    (repeat (first | apply cn | apply cq | apply cb | apply ck | apply cl | apply cx))
    apply cr
    refine s_ p_mv ?_
    refine s_ p_le ?_
    refine s_ p_as ?_
    (repeat (first | apply cn | apply cq | apply cb | apply ck | apply cl | apply cx))
    refine ci ?_ ?_
    · intro h; exact absurd h h5
    intro _
    (repeat (first | apply cn | apply cq | apply cb | apply ck | apply cl | apply cx))
    apply cr
    refine s_ p_mv ?_
    refine s_ p_le ?_
    refine s_ p_as ?_
    (repeat (first | apply cn | apply cq | apply cb | apply ck | apply cl | apply cx))
    refine ci ?_ ?_
    · intro h; exact absurd h h11
    intro _
    (repeat (first | apply cn | apply cq | apply cb | apply ck | apply cl | apply cx))
    apply cr
    refine s_ p_mv ?_
    refine s_ p_le ?_
    refine s_ p_as ?_
    (repeat (first | apply cn | apply cq | apply cb | apply ck | apply cl | apply cx))
    refine ci ?_ ?_
    · intro h; exact absurd h h13
    intro _
    (repeat (first | apply cn | apply cq | apply cb | apply ck | apply cl | apply cx))
    refine ca [0, 1, 2, 3, 4, 5, 6, 7, 8, 9, 10, 11, 12, 13, 14, 15, 16, 17] [14, 15] ?_
    refine a_loa ?_
    refine a_loa ?_
    refine a_ (fun _ => p_ca (hC)) ?_
    refine a_ (fun _ => p_fr) ?_
    refine a_lo ?_
    refine a_ (fun _ => p_ca (w5)) ?_
    refine a_ (fun _ => p_cv) ?_
    refine a_ (fun _ => p_shl) ?_
    refine a_ (fun _ => p_xor) ?_
    refine a_ (fun _ => p_ca (hT)) ?_
    refine a_ (fun _ => p_mv) ?_
    refine a_ (fun _ => p_ex) ?_
    refine a_ (fun _ => p_ex) ?_
    refine a_ (fun _ => p_ex) ?_
    refine a_al fun b25 _ => ⟨by (repeat (first | exact trivial | (apply And.intro; focus (intro hb; first | exact trivial | exact noB hb rfl | (repeat (first | exact hZ | apply hS | apply hA)))))), ?_⟩
    refine a_st ?_
    refine a_ (fun _ => p_as) ?_
    refine a_ (fun _ => p_as) ?_
    apply an
    (repeat (first | apply cn | apply cq | apply cb | apply ck | apply cl | apply cx))
    refine sim_cutP (σ := Unit) (ok := fun _ => True) (env := fun _ => [(29, ei e), (28, ei (if e = 0 then i else 0)), (27, ei w), (26, ei i), (25, pW b25), (6, pW b6)]) (heap := fun _ => (b25, ⟨nB19, nodeC x (eens x.log), 22⟩) :: (b6, ⟨nB19, zC19, 22⟩) :: KpH bk bj bd K') ?_ (fun _ _ => ?_)
    · refine ct [0, 1, 2, 3, 4, 5, 6, 7, 8] [9, 10, 11, 12, 13, 14] ?_
      refine t_ (fun _ => p_mv) ?_
      refine t_loaD ?_
      refine t_ (fun _ => p_ca (hC)) ?_
      refine t_ (fun _ => p_fr) ?_
      refine t_lo ?_
      refine t_ (fun _ => p_ca (w5)) ?_
      refine t_ (fun _ => p_cv) ?_
      refine t_ (fun _ => p_shl) ?_
      refine t_ (fun _ => p_xor) ?_
      intro p hp hr
      rcases List.mem_cons.1 hp with rfl | hp
      · clear hp hr
        refine t_cHr (Hr := [_, _, _, _]) hkT (List.perm_append_comm (l₁ := [_, _, _, _])) (fun r H' ⟨hr1, hr2⟩ => ⟨?_, ?_⟩)
        · subst hr1 hr2; exact by (repeat (first | exact trivial | (apply And.intro; focus (intro hb; first | exact trivial | exact noB hb rfl | (repeat (first | exact hZ | apply hS | apply hA))))))
        subst hr1 hr2
        intro p hp hr
        rcases List.mem_cons.1 hp with rfl | hp
        · clear hp hr
          refine t_p p_mv ⟨by (repeat (first | exact trivial | (apply And.intro; focus (intro hb; first | exact trivial | exact noB hb rfl | (repeat (first | exact hZ | apply hS | apply hA)))))), ?_⟩
          intro p hp hr
          rcases List.mem_cons.1 hp with rfl | hp
          · clear hp hr
            refine t_p p_ex ⟨by (repeat (first | exact trivial | (apply And.intro; focus (intro hb; first | exact trivial | exact noB hb rfl | (repeat (first | exact hZ | apply hS | apply hA)))))), ?_⟩
            intro p hp hr
            rcases List.mem_cons.1 hp with rfl | hp
            · clear hp hr
              refine t_p p_ex ⟨by (repeat (first | exact trivial | (apply And.intro; focus (intro hb; first | exact trivial | exact noB hb rfl | (repeat (first | exact hZ | apply hS | apply hA)))))), ?_⟩
              intro p hp hr
              rcases List.mem_cons.1 hp with rfl | hp
              · clear hp hr
                refine t_p p_as ⟨by (repeat (first | exact trivial | (apply And.intro; focus (intro hb; first | exact trivial | exact noB hb rfl | (repeat (first | exact hZ | apply hS | apply hA)))))), ?_⟩
                intro p hp hr
                rcases List.mem_cons.1 hp with rfl | hp
                · clear hp hr
                  refine t_p p_as ⟨by (repeat (first | exact trivial | (apply And.intro; focus (intro hb; first | exact trivial | exact noB hb rfl | (repeat (first | exact hZ | apply hS | apply hA)))))), ?_⟩
                  exact ⟨(), _, trivial, eL, List.perm_append_comm (l₁ := KpH bk bj bd K'), .keep _ _ _ _ _ (BlkLe.refl _) (.keep _ _ _ _ _ (BlkLe.refl _) (.skip _ _ _ (.skip _ _ _ kR)))⟩
                exact (List.not_mem_nil hp).elim
              rcases List.mem_cons.1 hp with rfl | hp
              · exact tno hr
              exact (List.not_mem_nil hp).elim
            rcases List.mem_cons.1 hp with rfl | hp
            · clear hp hr
              refine t_p p_as ⟨by (repeat (first | exact trivial | (apply And.intro; focus (intro hb; first | exact trivial | exact noB hb rfl | (repeat (first | exact hZ | apply hS | apply hA)))))), ?_⟩
              intro p hp hr
              rcases List.mem_cons.1 hp with rfl | hp
              · clear hp hr
                refine t_p p_ex ⟨by (repeat (first | exact trivial | (apply And.intro; focus (intro hb; first | exact trivial | exact noB hb rfl | (repeat (first | exact hZ | apply hS | apply hA)))))), ?_⟩
                intro p hp hr
                rcases List.mem_cons.1 hp with rfl | hp
                · clear hp hr
                  refine t_p p_as ⟨by (repeat (first | exact trivial | (apply And.intro; focus (intro hb; first | exact trivial | exact noB hb rfl | (repeat (first | exact hZ | apply hS | apply hA)))))), ?_⟩
                  exact ⟨(), _, trivial, eL, List.perm_append_comm (l₁ := KpH bk bj bd K'), .keep _ _ _ _ _ (BlkLe.refl _) (.keep _ _ _ _ _ (BlkLe.refl _) (.skip _ _ _ (.skip _ _ _ kR)))⟩
                exact (List.not_mem_nil hp).elim
              rcases List.mem_cons.1 hp with rfl | hp
              · exact tno hr
              exact (List.not_mem_nil hp).elim
            rcases List.mem_cons.1 hp with rfl | hp
            · exact tno hr
            exact (List.not_mem_nil hp).elim
          rcases List.mem_cons.1 hp with rfl | hp
          · clear hp hr
            refine t_p p_ex ⟨by (repeat (first | exact trivial | (apply And.intro; focus (intro hb; first | exact trivial | exact noB hb rfl | (repeat (first | exact hZ | apply hS | apply hA)))))), ?_⟩
            intro p hp hr
            rcases List.mem_cons.1 hp with rfl | hp
            · clear hp hr
              refine t_p p_ex ⟨by (repeat (first | exact trivial | (apply And.intro; focus (intro hb; first | exact trivial | exact noB hb rfl | (repeat (first | exact hZ | apply hS | apply hA)))))), ?_⟩
              intro p hp hr
              rcases List.mem_cons.1 hp with rfl | hp
              · clear hp hr
                refine t_p p_as ⟨by (repeat (first | exact trivial | (apply And.intro; focus (intro hb; first | exact trivial | exact noB hb rfl | (repeat (first | exact hZ | apply hS | apply hA)))))), ?_⟩
                intro p hp hr
                rcases List.mem_cons.1 hp with rfl | hp
                · clear hp hr
                  refine t_p p_as ⟨by (repeat (first | exact trivial | (apply And.intro; focus (intro hb; first | exact trivial | exact noB hb rfl | (repeat (first | exact hZ | apply hS | apply hA)))))), ?_⟩
                  exact ⟨(), _, trivial, eL, List.perm_append_comm (l₁ := KpH bk bj bd K'), .keep _ _ _ _ _ (BlkLe.refl _) (.keep _ _ _ _ _ (BlkLe.refl _) (.skip _ _ _ (.skip _ _ _ kR)))⟩
                exact (List.not_mem_nil hp).elim
              rcases List.mem_cons.1 hp with rfl | hp
              · exact tno hr
              exact (List.not_mem_nil hp).elim
            rcases List.mem_cons.1 hp with rfl | hp
            · exact tno hr
            rcases List.mem_cons.1 hp with rfl | hp
            · exact tno hr
            exact (List.not_mem_nil hp).elim
          rcases List.mem_cons.1 hp with rfl | hp
          · exact tno hr
          rcases List.mem_cons.1 hp with rfl | hp
          · exact tno hr
          exact (List.not_mem_nil hp).elim
        rcases List.mem_cons.1 hp with rfl | hp
        · exact tno hr
        rcases List.mem_cons.1 hp with rfl | hp
        · exact tno hr
        rcases List.mem_cons.1 hp with rfl | hp
        · exact tno hr
        rcases List.mem_cons.1 hp with rfl | hp
        · exact tno hr
        exact (List.not_mem_nil hp).elim
      rcases List.mem_cons.1 hp with rfl | hp
      · exact tno hr
      rcases List.mem_cons.1 hp with rfl | hp
      · exact tno hr
      rcases List.mem_cons.1 hp with rfl | hp
      · exact tno hr
      rcases List.mem_cons.1 hp with rfl | hp
      · exact tno hr
      rcases List.mem_cons.1 hp with rfl | hp
      · exact tno hr
      exact (List.not_mem_nil hp).elim
    (repeat (first | apply cn | apply cq | apply cb | apply ck | apply cl | apply cx))
    by_cases he : e = 0
    · rw [if_pos he]
      (repeat (first | apply cn | apply cq | apply cb | apply ck | apply cl | apply cx))
      apply cr
      refine s_ p_loa ?_
      refine s_ p_mv ?_
      refine s_ p_mv ?_
      refine s_ p_mv ?_
      refine s_ p_ne ?_
      refine s_ p_mv ?_
      refine gT (fun hg => p_mv) ?_
      refine gT (fun hg => p_eq (hx := u_ hg)) ?_
      refine s_ p_an ?_
      refine s_ p_mv ?_
      refine gF (fun hg => p_mv) ?_
      refine gF (fun hg => p_mv) ?_
      refine gF (fun hg => p_eq (hx := u_ hg) (hy := u_ hg)) ?_
      refine s_ p_or ?_
      refine e_st ?_
      refine s_ p_as ?_
      refine s_ p_as ?_
      refine s_ p_as ?_
      (repeat (first | apply cn | apply cq | apply cb | apply ck | apply cl | apply cx))
      (apply sim_ret; (try simp only [blockΨ_ret, thenΨ_ret, loopL_ret, cutΨ_ret, cutE_ret]))
      refine rh (H' := KpH bk bj bd K') (.skip _ _ _ (.skip _ _ _ kR)) ⟨rfl, rfl⟩ ?_
      refine Le.tup (LeL.cons (Le.refl _) (LeL.cons (Le.refl _) (LeL.cons (Le.refl _) (LeL.cons (Le.of_eq ?_) LeL.nil))))
      exact congrArg (fun b => T.v (.bool b)) (decide_eq_true (.inr trivial))
    · rw [if_neg he]
      (repeat (first | apply cn | apply cq | apply cb | apply ck | apply cl | apply cx))
      apply cr
      refine s_ p_loa ?_
      refine s_ p_mv ?_
      refine s_ p_mv ?_
      refine s_ p_mv ?_
      refine s_ p_ne ?_
      refine s_ p_mv ?_
      refine gT (fun hg => p_mv) ?_
      refine gT (fun hg => p_eq (hx := u_ hg)) ?_
      refine s_ p_an ?_
      refine s_ p_mv ?_
      refine gF (fun hg => p_mv) ?_
      refine gF (fun hg => p_mv) ?_
      refine gF (fun hg => p_eq (hx := u_ hg) (hy := u_ hg)) ?_
      refine s_ p_or ?_
      refine e_st ?_
      refine s_ p_as ?_
      refine s_ p_as ?_
      refine s_ p_as ?_
      (repeat (first | apply cn | apply cq | apply cb | apply ck | apply cl | apply cx))
      (apply sim_ret; (try simp only [blockΨ_ret, thenΨ_ret, loopL_ret, cutΨ_ret, cutE_ret]))
      refine rh (H' := KpH bk bj bd K') (.skip _ _ _ (.skip _ _ _ kR)) ⟨rfl, rfl⟩ ?_
      refine Le.tup (LeL.cons (Le.refl _) (LeL.cons (Le.refl _) (LeL.cons (Le.refl _) (LeL.cons (Le.of_eq ?_) LeL.nil))))
      exact congrArg (fun b => T.v (.bool b)) (decide_eq_true (.inl ⟨he, trivial⟩))
end Go.Proofs.YtbdpfclnomiicaaGreat
end
section
set_option maxRecDepth 10000
namespace Go.Proofs.YtbdpfclnomiicaaGreat
open Go.Cap
open Go.ChangeShapes Go.WideShapes Go.ChangeAt
section
variable {H : Type} {enc : TypeId × Value → H} {w : World}
theorem dec_i : Dec enc Tryz.prog w 3 (fun n : Int => [ei n]) (fun _ => True) := (dec_int (k := .i64) (by rfl)).imp fun _ _ => trivial
theorem dec_s : Dec enc Tryz.prog w 9 (fun l : List UInt8 => [es l]) (fun l => l.length ≤ maxLen) := dec_str (by rfl)
theorem dec_b : Dec enc Tryz.prog w 4 (fun b : Bool => [eB b]) (fun _ => True) := dec_bool (by rfl)
theorem dec_en : Dec enc Tryz.prog w 62 (fun a : En => [ei a.term, ei a.conf, es a.cmd]) (fun a => a.cmd.length ≤ maxLen) :=
  Dec.map (dec_struct (by rfl) (by rfl) (decf_cons (k := 1) (by rfl) (by rfl) dec_i (decf_cons (k := 1) (by rfl) (by rfl) dec_i (decf_cons (k := 1) (by rfl) (by rfl) dec_s decf_nil)))) (fun a => En.mk a.1 a.2.1 a.2.2.1) (fun _ => rfl) (fun _ h => h.2.2.1)
theorem dec_ens : Dec enc Tryz.prog w 33 (fun l : List En => [eens l]) (fun l => l.length ≤ maxLen) :=
  (dec_slice (g := een) (e := 62) (k := 3) (by rfl) (by rfl) (by omega) dec_en (fun _ => .inl rfl)).imp fun _ h => h.1
theorem dec_msg : Dec enc Tryz.prog w 39 (fun m : Ms => msC m (eens m.entries)) (fun m => m.entries.length ≤ maxLen ∧ m.snap.length ≤ maxLen) :=
  Dec.map (dec_struct (by rfl) (by rfl) (decf_cons (k := 1) (by rfl) (by rfl) dec_i (decf_cons (k := 1) (by rfl) (by rfl) dec_i (decf_cons (k := 1) (by rfl) (by rfl) dec_i (decf_cons (k := 1) (by rfl) (by rfl) dec_i (decf_cons (k := 1) (by rfl) (by rfl) dec_i (decf_cons (k := 1) (by rfl) (by rfl) dec_i
    (decf_cons (k := 1) (by rfl) (by rfl) dec_i (decf_cons (k := 1) (by rfl) (by rfl) dec_i (decf_cons (k := 1) (by rfl) (by rfl) dec_b (decf_cons (k := 1) (by rfl) (by rfl) dec_ens (decf_cons (k := 1) (by rfl) (by rfl) dec_s decf_nil))))))))))))
    (fun a => Ms.mk a.1 a.2.1 a.2.2.1 a.2.2.2.1 a.2.2.2.2.1 a.2.2.2.2.2.1 a.2.2.2.2.2.2.1 a.2.2.2.2.2.2.2.1 a.2.2.2.2.2.2.2.2.1 a.2.2.2.2.2.2.2.2.2.1 a.2.2.2.2.2.2.2.2.2.2.1) (fun _ => rfl) (fun _ h => ⟨h.2.2.2.2.2.2.2.2.2.1, h.2.2.2.2.2.2.2.2.2.2.1⟩)
theorem dec_ak : Dec enc Tryz.prog w 41 (fun a : Ak => [ei a.kind, ei a.n] ++ msC a.m (eens a.m.entries) ++ [es a.cmd]) (fun a => a.m.entries.length ≤ maxLen) :=
  Dec.map (dec_struct (by rfl) (by rfl) (decf_cons (k := 1) (by rfl) (by rfl) dec_i (decf_cons (k := 1) (by rfl) (by rfl) dec_i (decf_cons (k := 11) (by rfl) (by rfl) dec_msg (decf_cons (k := 1) (by rfl) (by rfl) dec_s decf_nil))))) (fun a => Ak.mk a.1 a.2.1 a.2.2.1 a.2.2.2.1) (fun _ => rfl) (fun a h => by have h1 := h.2.2.1; exact h1.1)
theorem dec_acts : Dec enc Tryz.prog w 22 (fun l : List Ak => [T.sl false (l.map akT)]) (fun l => l.length ≤ maxLen ∧ ∀ a ∈ l, a.m.entries.length ≤ maxLen) :=
  dec_slice (g := akT) (e := 41) (k := 14) (by rfl) (by rfl) (by omega) dec_ak (fun _ => .inl rfl)
end
end Go.Proofs.YtbdpfclnomiicaaGreat
end
