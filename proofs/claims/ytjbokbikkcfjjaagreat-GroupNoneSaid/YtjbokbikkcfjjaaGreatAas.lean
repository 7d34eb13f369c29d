/-
  keep.lay: what a record says, laid over a node.
  replica: something for each other member.
  replica: answers of a worker.
  replica: what most members hold is committed.
  replica: one leads.
-/
import Derived.Test.YtjbokbikkcfjjaaGreatAar
import Derived.Test.YtjbokbikkcfjjaaGreatAap
import Derived.Test.YtjbokbikkcfjjaaGreatAak
section
set_option maxRecDepth 16000
namespace Go.Proofs.YtjbokbikkcfjjaaGreat
open Go.Cap
set_option linter.unusedSimpArgs false
set_option linter.unusedVariables false
attribute [local irreducible] POp SimFrom DrawFrom EOp Sim FnH T.gp
def layF (n m : Nd) (from_ : Nat) : Nd := { n with term := m.term, vote := m.vote, base := m.base, baseTerm := m.baseTerm, baseConf := m.baseConf, commit := m.commit, snap := m.snap, log := n.log.take from_ ++ m.log.drop from_ }
def leftB (m : Nd) (from_ k : Nat) : List UInt8 := intsB ((headB m from_).drop k) ++ (txtB m.snap ++ (m.log.drop from_).flatMap entB)
theorem leftB_next (m : Nd) (from_ : Nat) {k : Nat} (hk : k < 8) : leftB m from_ k = intB ((headB m from_)[k]'hk) ++ leftB m from_ (k + 1) := by
  unfold leftB intsB
  rw [List.drop_eq_getElem_cons (show k < (headB m from_).length from hk), List.flatMap_cons, List.append_assoc]
  rfl
theorem leftB_len {m : Nd} (hm : Sz m) (from_ k : Nat) : (leftB m from_ k).length ≤ 900000000 := by
  have h1 := intsB_len ((headB m from_).drop k)
  have h2 := txtB_len m.snap
  have h3 := ents_len (m.log.drop from_) fun e he => (hm.ents e (List.mem_of_mem_drop he)).2.2
  have h4 : (m.log.drop from_).length ≤ 10000 := by rw [List.length_drop]; have := hm.len; omega
  have h5 : ((headB m from_).drop k).length ≤ 8 := by rw [List.length_drop]; simp [headB]
  have := hm.snap
  unfold leftB
  simp only [List.length_append]; omega
theorem head_w {n : Nd} (hn : Sz n) {from_ : Nat} (hf : from_ ≤ n.log.length) : ∀ x ∈ headB n from_, w64 x := by
  have hlen := hn.len
  intro x hx
  simp only [headB, List.mem_cons, List.not_mem_nil, or_false] at hx
  rcases hx with rfl | rfl | rfl | rfl | rfl | rfl | rfl | rfl
  · exact hn.term
  · exact hn.vote
  · exact hn.base
  · exact hn.baseTerm
  · exact hn.baseConf
  · exact hn.commit
  · constructor <;> omega
  · constructor <;> omega
set_option maxHeartbeats 4000000 in
theorem lay_fn (f : Bool) (n m : Nd) (from_ : Nat) (hm : Sz m) (hf : from_ ≤ m.log.length) (hl : n.log.length ≤ 10000) : FnP Tryz.prog 67 [nd n, .sl f ((recB m from_).map eb)] (fun r => r = nd (layF n m from_)) := by
  have hmlen := hm.len
  have hI : ∀ b k (hk : k < 8), FnH Tryz.prog 98 [pW b] (RdH b (leftB m from_ k)) (fun r H => r = ei ((headB m from_)[k]'hk) ∧ H = RdH b (leftB m from_ (k + 1))) := fun b k hk => by
    have hw := head_w hm hf _ (List.getElem_mem (show k < (headB m from_).length from hk))
    exact intR_fn (b := b) _ (by have := hw.1; omega) (by have := hw.2; omega) (leftB_next m from_ hk) (by have := leftB_len hm from_ k; omega)
  obtain ⟨l, hll⟩ : ∃ l, l = m.log.drop from_ := ⟨_, rfl⟩
  have hlen : l.length = m.log.length - from_ := by rw [hll, List.length_drop]
  have hents : ∀ e ∈ l, w64 e.term ∧ w64 e.conf ∧ e.cmd.length ≤ 60000 := fun e he => hm.ents e (by rw [hll] at he; exact List.mem_of_mem_drop he)
  have hbig : ∀ k, ((l.drop k).flatMap entB).length ≤ 600400000 := fun k => by
    have h3 := ents_len (l.drop k) fun e he => (hents e (List.mem_of_mem_drop he)).2.2
    have h4 : (l.drop k).length ≤ 10000 := by rw [List.length_drop]; omega
    omega
  have hcons : ∀ k (hk : k < l.length), (l.drop k).flatMap entB = intB l[k].term ++ (intB l[k].conf ++ (txtB l[k].cmd ++ (l.drop (k + 1)).flatMap entB)) := fun k hk => by
    rw [List.drop_eq_getElem_cons hk, List.flatMap_cons]
    simp only [entB, List.append_assoc]
  have hE1 : ∀ b k (hk : k < l.length), FnH Tryz.prog 98 [pW b] (RdH b ((l.drop k).flatMap entB)) (fun r H => r = ei l[k].term ∧ H = RdH b (intB l[k].conf ++ (txtB l[k].cmd ++ (l.drop (k + 1)).flatMap entB))) := fun b k hk => by
    have hw := (hents _ (List.getElem_mem hk)).1
    exact intR_fn (b := b) _ (by have := hw.1; omega) (by have := hw.2; omega) (hcons k hk) (by have := hbig k; omega)
  have hE2 : ∀ b k (hk : k < l.length), FnH Tryz.prog 98 [pW b] (RdH b (intB l[k].conf ++ (txtB l[k].cmd ++ (l.drop (k + 1)).flatMap entB))) (fun r H => r = ei l[k].conf ∧ H = RdH b (txtB l[k].cmd ++ (l.drop (k + 1)).flatMap entB)) := fun b k hk => by
    have hw := (hents _ (List.getElem_mem hk)).2.1
    exact intR_fn (b := b) _ (by have := hw.1; omega) (by have := hw.2; omega) rfl (by have := hbig k; rw [hcons k hk, List.length_append] at this; omega)
  have hE3 : ∀ b k (hk : k < l.length), FnH Tryz.prog 99 [pW b] (RdH b (txtB l[k].cmd ++ (l.drop (k + 1)).flatMap entB)) (fun r H => r = es l[k].cmd ∧ H = RdH b ((l.drop (k + 1)).flatMap entB)) := fun b k hk => by
    have hw := (hents _ (List.getElem_mem hk)).2.2
    exact read_fn (b := b) hw rfl (by have := hbig k; rw [hcons k hk, List.length_append, List.length_append] at this; omega)
  have hR : ∀ b, FnH Tryz.prog 99 [pW b] (RdH b (leftB m from_ 8)) (fun r H => r = es m.snap ∧ H = RdH b ((l.drop 0).flatMap entB)) := fun b =>
    read_fn (b := b) hm.snap (by rw [hll]; rfl) (by have := leftB_len hm from_ 8; omega)
  have hN := newR_fn f (recB m from_) (by have := leftB_len hm from_ 0; simp only [recB, leftB, List.drop_zero, List.length_append] at this ⊢; omega)
  have hrec : recB m from_ = leftB m from_ 0 := by simp [recB, leftB]
  rw [hrec] at hN ⊢
  refine FnH.give (Φ := fun r H => ∃ vl, r = .agg (nodeC (layF n m from_) (.v vl)) ∧ OE (layF n m from_).log vl H) ?_ (by rintro r H ⟨v, rfl, ho⟩; exact Lends.agg (node_lends _ (ho.lend fun _ h => h)))
  refine fn_enter Tryz.func67 (by rfl) (by rfl) ?_
  intro S0 w0
  show Sim _ _ [(0, T.agg (nodeC n (.sl false (n.log.map een)))), (1, .sl f ((leftB m from_ 0).map eb))] _ _
  refine zC ?_
  apply cr
  refine e_bx fun b2 _ => ?_
  refine e_al fun b4 _ => ?_
  refine zC ?_
  apply cr
  refine s_ p_mv ?_
  refine e_cH (Hs := []) (Hr := [_, _]) hN (.refl _) (fun r H' ⟨b, hr1, hr2⟩ => ?_)
  subst hr1 hr2
  refine s_ p_as ?_
  refine zC ?_
  apply cr
  refine s_ p_mv ?_
  refine s_ p_mf ?_
  refine s_ p_as ?_
  refine zC ?_
  apply cr
  refine s_ p_mv ?_
  refine e_vH (fs := [pW b]) (args := []) (cs := []) (hI b 0 (by omega)) (Hr := [_, _]) (.refl _) (fun r H' ⟨hr1, hr2⟩ => ?_)
  obtain rfl : r = ei m.term := hr1
  subst hr2
  refine s_ p_mv ?_
  refine e_vH (fs := [pW b]) (args := []) (cs := []) (hI b 1 (by omega)) (Hr := [_, _]) (.refl _) (fun r H' ⟨hr1, hr2⟩ => ?_)
  obtain rfl : r = ei m.vote := hr1
  subst hr2
  refine s_ p_mv ?_
  refine e_vH (fs := [pW b]) (args := []) (cs := []) (hI b 2 (by omega)) (Hr := [_, _]) (.refl _) (fun r H' ⟨hr1, hr2⟩ => ?_)
  obtain rfl : r = ei m.base := hr1
  subst hr2
  refine s_ p_mv ?_
  refine e_vH (fs := [pW b]) (args := []) (cs := []) (hI b 3 (by omega)) (Hr := [_, _]) (.refl _) (fun r H' ⟨hr1, hr2⟩ => ?_)
  obtain rfl : r = ei m.baseTerm := hr1
  subst hr2
  refine s_ p_mv ?_
  refine e_vH (fs := [pW b]) (args := []) (cs := []) (hI b 4 (by omega)) (Hr := [_, _]) (.refl _) (fun r H' ⟨hr1, hr2⟩ => ?_)
  obtain rfl : r = ei m.baseConf := hr1
  subst hr2
  refine s_ p_mv ?_
  refine e_vH (fs := [pW b]) (args := []) (cs := []) (hI b 5 (by omega)) (Hr := [_, _]) (.refl _) (fun r H' ⟨hr1, hr2⟩ => ?_)
  obtain rfl : r = ei m.commit := hr1
  subst hr2
  refine s_ p_fr ?_
  refine e_st ?_
  refine s_ p_fr ?_
  refine e_st ?_
  refine s_ p_fr ?_
  refine e_st ?_
  refine s_ p_fr ?_
  refine e_st ?_
  refine s_ p_fr ?_
  refine e_st ?_
  refine s_ p_fr ?_
  refine e_st ?_
  refine zC ?_
  apply cr
  refine s_ p_mv ?_
  refine e_vH (fs := [pW b]) (args := []) (cs := []) (hI b 6 (by omega)) (Hr := [_, _]) (.refl _) (fun r H' ⟨hr1, hr2⟩ => ?_)
  obtain rfl : r = ei ((from_ : Nat) : Int) := hr1
  subst hr2
  refine s_ p_mv ?_
  refine e_vH (fs := [pW b]) (args := []) (cs := []) (hI b 7 (by omega)) (Hr := [_, _]) (.refl _) (fun r H' ⟨hr1, hr2⟩ => ?_)
  obtain rfl : r = ei ((m.log.length : Nat) : Int) := hr1
  subst hr2
  refine s_ p_as ?_
  refine s_ p_as ?_
  refine zC ?_
  apply cr
  refine s_ p_mv ?_
  refine e_cH (hR b) (Hr := [_, _]) (.refl _) (fun r H' ⟨hr1, hr2⟩ => ?_)
  subst hr1 hr2
  refine s_ p_fr ?_
  refine e_st ?_
  refine zC ?_
  apply cr
  refine s_ p_fr ?_
  refine s_ p_lo ?_
  refine s_ p_mv ?_
  refine s_ p_ma ?_
  refine s_ p_fr ?_
  refine s_ p_lo ?_
  (first | refine s_ p_ln ?_ | refine s_ p_lr ?_)
  refine s_ p_mi ?_
  have e1 : min (max ((from_ : Nat) : Int) 0) (((n.log.map een).length : Nat) : Int) = ((min from_ n.log.length : Nat) : Int) := by rw [List.length_map]; omega
  rw [e1]
  refine s_ (p_s0hE (i := ((min from_ n.log.length : Nat) : Int)) (xs := n.log.map een) (ys := (n.log.take from_).map een) (by rw [Int.toNat_natCast, ← List.map_take, List.take_eq_take_iff.2]; omega)) ?_
  have htk : (n.log.take from_).length ≤ 10000 := by rw [List.length_take]; omega
  refine e_cH (Hs := []) (Hr := RdH b ((l.drop 0).flatMap entB) ++ [_, _]) (clone_fn false (n.log.take from_) (by omega)) (.refl _) (fun r Hl ⟨v, hr, ho⟩ => ?_)
  subst hr
  refine from_perm (H' := RdH b ((l.drop 0).flatMap entB) ++ (_ :: _ :: Hl)) (List.perm_append_comm.trans (by rw [List.append_assoc]; exact .refl _)) ?_
  obtain ⟨p, c, rfl⟩ := ho.len
  refine s_ p_fr ?_
  refine e_st ?_
  refine zC ?_
  apply cr
  refine s_ p_mv ?_
  refine s_ p_mv ?_
  refine s_ p_su ?_
  refine s_ p_mv ?_
  refine zC ?_
  have hcnt : ((m.log.length : Nat) : Int) - ((from_ : Nat) : Int) = ((l.length : Nat) : Int) := by rw [hlen]; omega
  rw [hcnt]
  apply sim_loopL (σ := Nat × Value × Heap) (ok := fun s => s.1 ≤ l.length ∧ OE (n.log.take from_ ++ l.take s.1) s.2.1 s.2.2) (env := fun s => [(53, ei s.1), (52, ei (l.length : Nat)), (6, .clo 98 [pW b] []), (5, pW b), (2, pW b2), (4, pW b4)])
    (heap := fun s => RdH b ((l.drop s.1).flatMap entB) ++ ((b4, ⟨44, nodeC ⟨0, 0, 0, 0, 0, 0, [], [], 0, 0, 0, 0, .all 0, .all 0⟩ (.v (.slice none 0 0)), 22⟩) :: (b2, ⟨44, nodeC (layF n m from_) (.v s.2.1), 22⟩) :: s.2.2)) (μ := fun s => l.length - s.1) (s0 := (0, .slice p ((n.log.take from_).map een).length c, Hl))
  · exact ⟨Nat.zero_le _, by rw [List.take_zero, List.append_nil]; exact ho⟩
  · exact eL
  · exact kR
  rintro ⟨k, v, Hl⟩ ⟨hk, ho⟩
  simp only at hk ho
  show Sim _ _ [(53, ei k), (52, ei (l.length : Nat)), (6, .clo 98 [pW b] []), (5, pW b), (2, pW b2), (4, pW b4)] (RdH b ((l.drop k).flatMap entB) ++ ((b4, ⟨44, nodeC ⟨0, 0, 0, 0, 0, 0, [], [], 0, 0, 0, 0, .all 0, .all 0⟩ (.v (.slice none 0 0)), 22⟩) :: (b2, ⟨44, nodeC (layF n m from_) (.v v), 22⟩) :: Hl)) _
  have hol : (n.log.take from_ ++ l.take k).length ≤ 20000 := by rw [List.length_append, List.length_take, List.length_take]; omega
  obtain ⟨p, c, rfl⟩ := ho.len
  refine zC ?_
  apply cr
  refine s_ p_lt ?_
  refine zC ?_
  refine ci ?_ ?_
  · intro hlt
    have hlt' : k < l.length := by omega
    refine zC ?_
    apply cr
    refine s_ p_mv ?_
    refine e_vH (fs := [pW b]) (args := []) (cs := []) (hE1 b k hlt') (Hr := _ :: _ :: Hl) (.refl _) (fun r H' ⟨hr1, hr2⟩ => ?_)
    subst hr1 hr2
    refine s_ p_mv ?_
    refine e_vH (fs := [pW b]) (args := []) (cs := []) (hE2 b k hlt') (Hr := _ :: _ :: Hl) (.refl _) (fun r H' ⟨hr1, hr2⟩ => ?_)
    subst hr1 hr2
    refine s_ (p_bd 3 [_, _, _]) ?_
    refine e_al fun b9 _ => ?_
    refine e_st ?_
    refine zC ?_
    apply cr
    refine s_ p_mv ?_
    refine e_cH (hE3 b k hlt') (Hr := _ :: _ :: _ :: Hl) List.perm_middle.symm (fun r H' ⟨hr1, hr2⟩ => ?_)
    subst hr1 hr2
    refine s_ p_fr ?_
    refine e_st ?_
    refine zC ?_
    apply cr
    refine s_ p_fr ?_
    refine s_ p_lo ?_
    refine s_ p_loa ?_
    refine s_ p_bs ?_
    refine e_os (ho := ho) (A := RdH b ((l.drop (k + 1)).flatMap entB) ++ [_, _, _]) (B := []) (ys := [een l[k]]) (f := true) (een3 _) (fun v' Hs' ho' => ?_) (hH := by simp; rfl)
    refine from_perm (H' := RdH b ((l.drop (k + 1)).flatMap entB) ++ (_ :: _ :: _ :: Hs')) (by rw [List.append_nil, List.append_assoc]; exact .refl _) ?_
    obtain ⟨p', c', rfl⟩ := ho'.len
    refine s_ p_fr ?_
    refine e_st ?_
    refine zC ?_
    apply cr
    refine s_ p_ad ?_
    refine s_ p_mv ?_
    refine zC ?_
    refine ⟨(k + 1, _, Hs'), ⟨by simp only; omega, ?_⟩, (by simp only []; omega), ⟨?_, eL⟩, .keep _ _ _ _ _ (BlkLe.refl _) (.skip _ _ _ kR)⟩
    · simp only
      rw [List.take_succ_eq_append_getElem hlt', ← List.append_assoc]
      unfold OE
      rw [List.map_append]
      exact ho'
    · apply le_get; ((repeat (apply gS; rfl)); exact gZ)
      exact Le.refl _
  intro hge
  have hke : k = l.length := by omega
  subst hke
  have h2 : (layF n m from_).log = n.log.take from_ ++ l.take l.length := by rw [List.take_length, hll]; rfl
  refine zC ?_
  apply cr
  refine s_ p_loa ?_
  refine e_st ?_
  refine zC ?_
  refine zR ?_
  refine rh (.skip _ _ _ (.skip _ _ _ (.skip _ _ _ kR))) ⟨_, rfl, ?_⟩ (Le.refl _)
  rw [h2]
  exact ho
end Go.Proofs.YtjbokbikkcfjjaaGreat
end
section
set_option maxRecDepth 4000
namespace Go.Proofs.YtjbokbikkcfjjaaGreat
open Go.Cap
set_option linter.unusedSimpArgs false
set_option linter.unusedVariables false
attribute [local irreducible] POp SimFrom DrawFrom EOp Sim FnH T.gp
def memF (n : Nd) (to : Nat) : Bool := decide (¬ (to : Int) = n.id) && isF (confF n).2 to
def toAll (n : Nd) (F : Int → Ms) (k : Nat) : List Ms := ((List.range k).filter (memF n)).map fun (i : Nat) => F (i : Int)
theorem toAll_succ (n : Nd) (F : Int → Ms) (k : Nat) : toAll n F (k + 1) = toAll n F k ++ (if memF n k then [F k] else []) := by
  unfold toAll
  rw [List.range_succ, List.filter_append, List.map_append]
  by_cases h : memF n k <;> simp [h]
theorem toAll_len (n : Nd) (F : Int → Ms) (k : Nat) : (toAll n F k).length ≤ k := by
  unfold toAll
  rw [List.length_map]
  exact Nat.le_trans (List.length_filter_le _ _) (Nat.le_of_eq (List.length_range))
structure Bd (n : Nd) : Prop where
  id0 : 0 ≤ n.id
  id5 : n.id < 5
  log : n.log.length ≤ 100000000
  base0 : -10000000000 ≤ n.base
  base1 : n.base ≤ 10000000000
  conf0 : 0 ≤ (confF n).2
  conf1 : (confF n).2 ≤ 31
set_option maxHeartbeats 2000000 in
theorem others_fn {b : Nat} {n : Nd} {out : List Ms} {H Hc : Heap} (F : Int → Ms) (f : FuncId) (fs cs : List T) (hcall : callable Tryz.prog f = true) (hn : Bd n) (ho : out.length ≤ 900) (hw : WkH b n out H)
    (hdo : ∀ (to : Int) (out : List Ms) (H : Heap), 0 ≤ to → to < 5 → out.length ≤ 905 → WkH b n out H → FnH Tryz.prog f (fs ++ [ei to] ++ cs) (H ++ Hc) (fun _ H' => ∃ H1, H' = H1 ++ Hc ∧ WkH b n (out ++ [F to]) H1)) :
    FnH Tryz.prog 104 [pW b, .clo f fs cs] (H ++ Hc) (fun r H' => r = .tup [] ∧ ∃ H1, H' = H1 ++ Hc ∧ WkH b n (out ++ toAll n F 5) H1) := by
  have hC := Conf_fn n (by have := hn.log; omega) (by have := hn.base0; omega) (by have := hn.base1; omega)
  refine fn_enter Tryz.func104 (by rfl) (by rfl) ?_
  intro S0 w0
  show Sim _ _ [(0, pW b), (1, T.clo f fs cs)] _ _
  obtain ⟨vl, vo, Hl, Ho, h1, h2, rfl⟩ := hw
  obtain ⟨p, c, rfl⟩ := h1.len
  obtain ⟨q, d, rfl⟩ := h2.len
  refine zC ?_
  apply cr
  refine s_ p_mv ?_
  refine s_ p_nc ?_
  refine s_ p_fr ?_
  refine s_ p_loa ?_
  refine s_ (p_cLA hC (LendsL.cons (Lends.agg (node_lends n (h1.lend (by intro p hp; simp [hp])))) LendsL.nil)) ?_
  refine s_ p_as ?_
  refine zC ?_
  apply cr
  refine s_ p_mv ?_
  refine zC ?_
  apply sim_loopL (σ := Nat × Heap) (ok := fun s => s.1 ≤ 5 ∧ WkH b n (out ++ toAll n F s.1) s.2) (env := fun s => [(11, ei (s.1 : Nat)), (4, ei (confF n).2), (0, pW b), (1, T.clo f fs cs)])
    (heap := fun s => s.2 ++ Hc) (μ := fun s => 5 - s.1) (s0 := (0, (b, ⟨tW, wkC n (.slice p (n.log.map een).length c) (.slice q (out.map ms).length d), 23⟩) :: (Hl ++ (Ho ++ []))))
  · exact ⟨by simp, _, _, Hl, Ho, h1, by simpa [toAll] using h2, rfl⟩
  · exact eL
  · exact kR
  rintro ⟨k, H⟩ ⟨hk, hw⟩
  simp only at hk hw
  refine zC ?_
  apply cr
  refine s_ p_lt ?_
  refine zC ?_
  refine ci ?_ ?_
  · intro hlt
    simp only at hlt
    have hlen := toAll_len n F k
    have hd := hdo k _ H (by omega) (by omega) (by rw [List.length_append]; omega) hw
    have hi : FnP Tryz.prog 107 [ei (confF n).2, ei k] (fun r => r = .v (.bool (decide (isF (confF n).2 k = true)))) := by
      have := is_fn (confF n).2 k (by omega) (by omega) hn.conf0 hn.conf1
      simpa [eB] using this
    obtain ⟨vl', vo', Hl', Ho', g1, g2, rfl⟩ := hw
    obtain ⟨p', c', rfl⟩ := g1.len
    obtain ⟨q', d', rfl⟩ := g2.len
    refine zC ?_
    apply cr
    refine s_ p_mv ?_
    refine s_ p_as ?_
    refine zC ?_
    apply cr
    refine s_ p_mv ?_
    refine s_ p_mv ?_
    refine s_ p_nc ?_
    refine s_ p_fr ?_
    refine s_ p_fr ?_
    refine s_ p_lo ?_
    refine s_ p_ne ?_
    refine s_ p_mv ?_
    refine gT (fun hg => p_mv) ?_
    refine gT (fun hg => p_mv) ?_
    refine gT (fun hg => p_ca (hi) (ha' := by apply evl_cons (u_ hg); apply evl_cons (u_ hg); exact evl_nil)) ?_
    refine s_ p_an ?_
    refine zC ?_
    refine ci ?_ ?_
    · intro hm
      refine zC ?_
      apply cr
      refine s_ p_mv ?_
      refine s_ p_mv ?_
      refine e_vH hd perm0 (fun r H' hH' => ?_) (hc := hcall)
      obtain ⟨H1, rfl, hw1⟩ := hH'
      
      refine zC ?_
      apply cr
      refine s_ p_ad ?_
      refine s_ p_mv ?_
      refine zC ?_
      refine ⟨(k + 1, H1), ⟨by simp only; omega, ?_⟩, (by simp only []; omega), ⟨?_, eL⟩, by rw [List.append_nil]; exact kR⟩
      · simp only
        rw [toAll_succ, if_pos (by unfold memF; simp only [Bool.and_eq_true, decide_eq_true_eq]; exact hm), ← List.append_assoc]
        exact hw1
      · apply le_get; ((repeat (apply gS; rfl)); exact gZ)
        exact Le.of_eq (by congr 2)
    · intro hm
      refine zC ?_
      apply cr
      refine s_ p_ad ?_
      refine s_ p_mv ?_
      refine zC ?_
      refine ⟨(k + 1, _), ⟨by simp only; omega, ?_⟩, (by simp only []; omega), ⟨?_, eL⟩, kR⟩
      · simp only
        rw [toAll_succ, if_neg (by unfold memF; simp only [Bool.and_eq_true, decide_eq_true_eq]; exact hm), List.append_nil]
        exact ⟨_, _, Hl', Ho', g1, g2, rfl⟩
      · apply le_get; ((repeat (apply gS; rfl)); exact gZ)
        exact Le.of_eq (by congr 2)
  · intro hlt
    simp only at hlt
    have : k = 5 := by omega
    subst this
    refine zC ?_
    exact rhn kR ⟨rfl, H, rfl, hw⟩ (Le.refl _)
end Go.Proofs.YtjbokbikkcfjjaaGreat
end
section
set_option maxRecDepth 4000
namespace Go.Proofs.YtjbokbikkcfjjaaGreat
open Go.Cap
set_option linter.unusedSimpArgs false
set_option linter.unusedVariables false
attribute [local irreducible] POp SimFrom DrawFrom EOp Sim FnH T.gp
def addedM (yes : Bool) (index : Int) : Ms := ⟨4, 0, 0, 0, index, 0, 0, 0, yes, [], []⟩
theorem added_fn {b : Nat} {n : Nd} {out : List Ms} {H : Heap} (to : Int) (yes : Bool) (index : Int) (hb : out.length ≤ 1000) (hw : WkH b n out H) :
    FnH Tryz.prog 158 [pW b, ei to, eB yes, ei index] H (fun r H' => r = .tup [] ∧ WkH b n (out ++ [sendF n to (addedM yes index)]) H') := by
  refine fn_enter Tryz.func158 (by rfl) (by rfl) ?_
  intro S0 w0
  show Sim _ _ [(0, pW b), (1, ei to), (2, eB yes), (3, ei index)] _ _
  refine zC ?_
  apply cr
  refine s_ p_mv ?_
  refine s_ p_mv ?_
  refine s_ p_mv ?_
  refine s_ p_mv ?_
  refine s_ (p_bd 11 [_, _, _, _, _, _, _, _, _, _, _]) ?_
  refine e_cHA (FnH.of_le ?_ (send_fn to (addedM yes index) hb hw)) (fun r H' ⟨hr, h3⟩ => ?_)
  · ((repeat (apply LeL.cons; (first | exact Le.refl _ | exact Le.nil _ | exact Le.full _ _ | exact Le.any _ | (apply Le.agg; (repeat (apply LeL.cons; (first | exact Le.refl _ | exact Le.nil _ | exact Le.full _ _ | exact Le.any _))); exact LeL.nil) | (apply Le.tup; (repeat (apply LeL.cons; (first | exact Le.refl _ | exact Le.nil _ | exact Le.full _ _ | exact Le.any _ | (apply Le.agg; (repeat (apply LeL.cons; (first | exact Le.refl _ | exact Le.nil _ | exact Le.full _ _ | exact Le.any _))); exact LeL.nil)))); exact LeL.nil)))); exact LeL.nil)
  · subst hr
    refine zC ?_
    exact rhn kR ⟨rfl, h3⟩ (Le.refl _)
theorem follow_fn {b : Nat} {n : Nd} {out : List Ms} {H : Heap} (m : Ms) (hb : out.length ≤ 1000) (hw : WkH b n out H) :
    FnH Tryz.prog 157 [pW b, ms m] H (fun r H' => if m.term < n.term then r = eB false ∧ WkH b n (out ++ [sendF n m.frm (addedM false 0)]) H' else r = eB true ∧ WkH b { n with role := 0, wait := 0 } out H') := by
  have hw' := hw
  obtain ⟨vl, vo, Hl, Ho, h1, h2, rfl⟩ := hw
  obtain ⟨p, c, rfl⟩ := h1.len
  obtain ⟨q, d, rfl⟩ := h2.len
  refine fn_enter Tryz.func157 (by rfl) (by rfl) ?_
  intro S0 w0
  show Sim _ _ [(0, pW b), (1, T.agg (msC m (eens m.entries)))] _ _
  refine zC ?_
  apply cr
  refine e_bx fun b3 _ => ?_
  refine s_ p_as ?_
  refine zC ?_
  refine ca [0, 1, 2, 3, 4, 5, 6, 7] [] ?_
  refine a_ (fun _ => p_fr) ?_
  refine a_lo ?_
  refine a_ (fun _ => p_mv) ?_
  refine a_ (fun _ => p_nc) ?_
  refine a_ (fun _ => p_fr) ?_
  refine a_ (fun _ => p_fr) ?_
  refine a_lo ?_
  refine a_ (fun _ => p_lt) ?_
  apply an
  refine zC ?_
  refine ci ?_ ?_
  · intro hlt
    refine zC ?_
    apply cr
    refine s_ p_mv ?_
    refine s_ p_fr ?_
    refine s_ p_lo ?_
    refine e_cH (Hr := [_]) (added_fn m.frm false 0 hb hw') (List.perm_append_comm (l₁ := [_])) (fun r H' ⟨hr, h3⟩ => ?_)
    subst hr
    
    refine zC ?_
    apply cr
    refine s_ p_as ?_
    refine zC ?_
    refine zR ?_
    refine rhp (List.perm_append_comm (l₂ := [_])) (.skip _ _ _ kR) ?_ (Le.refl _)
    rw [if_pos hlt]
    exact ⟨rfl, h3⟩
  · intro hlt
    refine zC ?_
    apply cr
    refine s_ p_mv ?_
    refine s_ p_mv ?_
    refine s_ p_nc ?_
    refine s_ p_fr ?_
    refine s_ p_fr ?_
    refine e_st ?_
    refine s_ p_nc ?_
    refine s_ p_fr ?_
    refine s_ p_fr ?_
    refine e_st ?_
    refine zC ?_
    apply cr
    refine s_ p_as ?_
    refine zC ?_
    refine zR ?_
    refine rh (.skip _ _ _ kR) ?_ (Le.refl _)
    rw [if_neg hlt]
    exact ⟨rfl, _, _, Hl, Ho, h1, h2, rfl⟩
end Go.Proofs.YtjbokbikkcfjjaaGreat
end
section
set_option maxRecDepth 4000
namespace Go.Proofs.YtjbokbikkcfjjaaGreat
open Go.Cap
set_option linter.unusedSimpArgs false
set_option linter.unusedVariables false
attribute [local irreducible] POp SimFrom DrawFrom EOp Sim FnH T.gp
def someF (f : F5) (idx : Int) : Nat → Int
  | 0 => 0
  | k + 1 => someF f idx k + (if idx ≤ f.get k then 2 ^ k else 0)
theorem some_bd (f : F5) (idx : Int) : ∀ k, 0 ≤ someF f idx k ∧ someF f idx k < 2 ^ k
  | 0 => by simp [someF]
  | k + 1 => by
    have := some_bd f idx k
    rw [someF, Int.pow_succ]
    split <;> omega
theorem some_or {x : Int} : ∀ {k : Nat}, k < 5 → 0 ≤ x → x < 2 ^ k → bOr .i64 x (bShl .i64 1 (IntKind.u64.wrap k)) = x + 2 ^ k := by
  have key : ∀ k : Fin 5, ∀ i : Fin 32, (i.val : Int) < 2 ^ k.val → bOr .i64 i.val (bShl .i64 1 (IntKind.u64.wrap (k.val : Nat))) = i.val + 2 ^ k.val := by decide
  intro k hk h0 h1
  have h2 : (2 : Int) ^ k ≤ 16 := by
    rcases (by omega : k = 0 ∨ k = 1 ∨ k = 2 ∨ k = 3 ∨ k = 4) with rfl | rfl | rfl | rfl | rfl <;> decide
  obtain ⟨i, rfl⟩ := fin32 h0 (by omega)
  exact key ⟨k, hk⟩ i h1
def f5C (f : F5) : List T := [ei f.a, ei f.b, ei f.c, ei f.d, ei f.e]
theorem f5_at (f : F5) {k : Nat} (hk : k < 5) : (f5C f)[(k : Int).toNat]? = some (ei (f.get k)) := by
  rcases (by omega : k = 0 ∨ k = 1 ∨ k = 2 ∨ k = 3 ∨ k = 4) with rfl | rfl | rfl | rfl | rfl <;> rfl
def cmtF (n : Nd) (conf : Int) : Nat → Int
  | 0 => n.commit
  | k + 1 => if (n.log.getD k default).term = n.term ∧ mostF conf (someF n.mtch (n.base + k + 1) 5) then max (cmtF n conf k) (n.base + k + 1) else cmtF n conf k
def commitF (n : Nd) : Nd :=
  if ¬ isF (confF n).2 n.id ∧ (confF n).1 ≤ cmtF n (confF n).2 n.log.length then { n with commit := cmtF n (confF n).2 n.log.length, role := 0, wait := 0 } else { n with commit := cmtF n (confF n).2 n.log.length }
theorem een_get (l : List En) {k : Nat} (h : k < l.length) : (l.map een)[k]? = some (een (l.getD k default)) := by simp [h]
theorem is_fn' (conf id : Int) (h0 : 0 ≤ id) (h1 : id < 5) (h2 : 0 ≤ conf) (h3 : conf ≤ 31) : FnP Tryz.prog 107 [ei conf, ei id] (fun r => r = .v (.bool (decide (isF conf id = true)))) := by
  have := is_fn conf id h0 h1 h2 h3
  simpa [eB] using this
set_option maxHeartbeats 2000000 in
theorem commit_fn {b : Nat} {n : Nd} {out : List Ms} {H : Heap} (hn : Bd n) (hw : WkH b n out H) :
    FnH Tryz.prog 144 [pW b] H (fun r H' => r = .tup [] ∧ WkH b (commitF n) out H') := by
  have hC := conf_fn n (by have := hn.log; omega) (by have := hn.base0; omega) (by have := hn.base1; omega)
  have hlog := hn.log
  have hb0 := hn.base0
  have hb1 := hn.base1
  refine fn_enter Tryz.func144 (by rfl) (by rfl) ?_
  intro S0 w0
  show Sim _ _ [(0, pW b)] _ _
  obtain ⟨vl, vo, Hl, Ho, h1, h2, rfl⟩ := hw
  obtain ⟨p, c, rfl⟩ := h1.len
  obtain ⟨q, d, rfl⟩ := h2.len
  refine zC ?_
  apply cr
  refine s_ p_mv ?_
  refine s_ p_nc ?_
  refine s_ p_fr ?_
  refine s_ (p_cLA hC (LendsL.cons (nd_ptr h1 (by intro p hp; simp [hp]) List.mem_cons_self) LendsL.nil)) ?_
  refine s_ p_mv ?_
  refine s_ p_ex ?_
  refine s_ p_ex ?_
  refine s_ p_as ?_
  refine s_ p_as ?_
  refine zC ?_
  apply cr
  refine s_ p_mv ?_
  refine s_ p_nc ?_
  refine s_ p_fr ?_
  refine s_ p_fr ?_
  refine s_ p_lo ?_
  (first | refine s_ p_ln ?_ | refine s_ p_lr ?_)
  refine s_ p_mv ?_
  refine zC ?_
  have hc0 := hn.conf0
  have hc1 := hn.conf1
  generalize hcf : (confF n).2 = conf at hc0 hc1 ⊢
  generalize hat : (confF n).1 = at_
  apply sim_loopL (σ := Nat) (ok := fun k => k ≤ n.log.length) (env := fun k => [(23, ei (k : Nat)), (22, ei ((n.log.map een).length : Nat)), (21, .v (.slice p (n.log.map een).length c)), (2, ei at_), (3, ei conf), (0, pW b)])
    (heap := fun k => (b, ⟨tW, wkC { n with commit := cmtF n conf k } (.slice p (n.log.map een).length c) (.slice q (out.map ms).length d), 23⟩) :: (Hl ++ (Ho ++ []))) (μ := fun k => n.log.length - k) (s0 := 0)
  · exact Nat.zero_le _
  · exact eL
  · exact kR
  intro k hk
  refine zC ?_
  apply cr
  refine s_ p_lt ?_
  refine zC ?_
  refine ci ?_ ?_
  · intro hlt
    simp only [List.length_map] at hlt
    have hkl : k < n.log.length := by omega
    have hrow : ∃ bl, p = some ⟨bl, 0, none⟩ ∧ Hl = [(bl, (⟨tE, (n.log.map een).flatMap T.cells, c * 3⟩ : Blk))] := by
      rcases h1 with ⟨h, _⟩ | ⟨bl, c', e, _, rfl⟩
      · have : n.log = [] := by simpa using h
        rw [this] at hkl; simp at hkl
      · cases e; exact ⟨bl, rfl, rfl⟩
    obtain ⟨bl, rfl, rfl⟩ := hrow
    refine zC ?_
    apply cr
    refine s_ p_mv ?_
    (first | refine s_ (p_ix hix) ?_ | refine s_ (p_ix hix2) ?_ | refine s_ p_ia ?_ | refine s_ p_ir ?_)
    refine s_ (p_loa (hc := TakeR.flat (een3 n.log) (een_get n.log hkl))) ?_
    refine e_al fun b5 _ => ?_
    refine s_ p_as ?_
    refine e_st ?_
    refine zC ?_
    apply cr
    refine s_ p_mv ?_
    refine s_ p_nc ?_
    refine s_ p_fr ?_
    refine s_ p_fr ?_
    refine s_ p_lo ?_
    refine s_ p_mv ?_
    refine s_ p_ad ?_
    refine s_ p_ad ?_
    refine s_ p_as ?_
    refine s_ p_as ?_
    refine zC ?_
    apply cr
    refine s_ p_mv ?_
    refine s_ p_nc ?_
    refine s_ p_fr ?_
    refine s_ p_fr ?_
    refine s_ p_loa ?_
    refine s_ p_mv ?_
    refine zC ?_
    apply sim_loopL (σ := Nat) (ok := fun j => j ≤ 5) (env := fun j => [(41, ei (j : Nat)), (40, .agg (f5C n.mtch)), (7, ei (someF n.mtch (n.base + k + 1) j)), (6, ei (n.base + k + 1)), (5, .v (.pointer (some ⟨b5, 0, none⟩))), (23, ei (k : Nat)), (22, ei ((n.log.map een).length : Nat)), (21, .v (.slice (some ⟨bl, 0, none⟩) (n.log.map een).length c)), (2, ei at_), (3, ei conf), (0, pW b)])
      (heap := fun _ => (b5, ⟨tE, (een (n.log.getD k default)).cells, 3⟩) :: (b, ⟨tW, wkC { n with commit := cmtF n conf k } (.slice (some ⟨bl, 0, none⟩) (n.log.map een).length c) (.slice q (out.map ms).length d), 23⟩) :: ([(bl, (⟨tE, (n.log.map een).flatMap T.cells, c * 3⟩ : Blk))] ++ (Ho ++ []))) (μ := fun j => 5 - j) (s0 := 0)
    · exact Nat.zero_le _
    · exact eL
    · exact kR
    · intro j hj
      refine zC ?_
      apply cr
      refine s_ p_lt ?_
      refine zC ?_
      refine ci ?_ ?_
      · intro hj5
        have hj5' : j < 5 := by omega
        have ix_a := f5_at n.mtch hj5'
        have hbd := some_bd n.mtch (n.base + k + 1) j
        have hwj := wrap32 (x := (j : Nat)) (by omega) (by omega)
        have hor := some_or hj5' hbd.1 hbd.2
        refine zC ?_
        apply cr
        refine s_ p_mv ?_
        refine s_ (p_iv (by first | exact ix_a | rfl)) ?_
        refine s_ p_as ?_
        refine s_ p_as ?_
        refine zC ?_
        apply cr
        refine s_ p_mv ?_
        refine s_ p_mv ?_
        refine s_ p_ge ?_
        refine zC ?_
        refine ci ?_ ?_
        · intro hge
          have hs : someF n.mtch (n.base + k + 1) (j + 1) = bOr .i64 (someF n.mtch (n.base + k + 1) j) (bShl .i64 1 (IntKind.u64.wrap j)) := by rw [hor, someF, if_pos hge]
          refine zC ?_
          apply cr
          refine s_ p_mv ?_
          refine s_ p_mv ?_
          refine s_ p_cv ?_
          refine s_ p_shl ?_
          refine s_ p_oor ?_
          refine s_ p_as ?_
          refine zC ?_
          apply cr
          refine s_ p_ad ?_
          refine s_ p_mv ?_
          refine zC ?_
          exact ⟨j + 1, by omega, by show 5 - (j + 1) < 5 - j; omega, ⟨le_get (by rfl) (Le.refl _), le_get (by ((repeat (apply gS; rfl)); exact gZ)) (Le.refl _), le_get (by ((repeat (apply gS; rfl)); exact gZ)) (Le.of_eq (by rw [hs]; rfl)), eL⟩, kR⟩
        · intro hge
          have hs : someF n.mtch (n.base + k + 1) (j + 1) = someF n.mtch (n.base + k + 1) j := by rw [someF, if_neg hge]; omega
          refine zC ?_
          apply cr
          refine s_ p_ad ?_
          refine s_ p_mv ?_
          refine zC ?_
          exact ⟨j + 1, by omega, by show 5 - (j + 1) < 5 - j; omega, ⟨le_get (by rfl) (Le.refl _), le_get (by ((repeat (apply gS; rfl)); exact gZ)) (Le.refl _), le_get (by ((repeat (apply gS; rfl)); exact gZ)) (Le.of_eq (by rw [hs])), eL⟩, kR⟩
      · intro hj5
        have : j = 5 := by omega
        subst this
        have hm5 := some_bd n.mtch (n.base + k + 1) 5
        have hmost := most_fn conf (someF n.mtch (n.base + k + 1) 5) hm5.1 (by omega) hc0 hc1
        refine zC ?_
        refine ca [0, 1, 2, 3, 4, 5, 6, 7, 8, 9, 10, 11, 12] [] ?_
        refine a_ (fun _ => p_fr) ?_
        refine a_lo ?_
        refine a_ (fun _ => p_mv) ?_
        refine a_ (fun _ => p_nc) ?_
        refine a_ (fun _ => p_fr) ?_
        refine a_ (fun _ => p_fr) ?_
        refine a_lo ?_
        refine a_ (fun _ => p_eq) ?_
        refine a_ (fun _ => p_mv) ?_
        refine ag_T (fun _ hg => p_mv) ?_
        refine ag_T (fun _ hg => p_mv) ?_
        refine ag_T (fun _ hg => p_ca (hmost) (ha' := by apply evl_cons (u_ hg); apply evl_cons (u_ hg); exact evl_nil)) ?_
        refine a_ (fun _ => p_an) ?_
        apply an
        refine zC ?_
        refine ci ?_ ?_
        · intro hc
          refine zC ?_
          apply cr
          refine s_ p_mv ?_
          refine s_ p_mv ?_
          refine s_ p_nc ?_
          refine s_ p_fr ?_
          refine s_ p_fr ?_
          refine s_ p_lo ?_
          refine s_ p_mv ?_
          refine s_ p_ma ?_
          refine s_ p_nc ?_
          refine s_ p_fr ?_
          refine s_ p_fr ?_
          refine e_st ?_
          refine zC ?_
          apply cr
          refine s_ p_ad ?_
          refine s_ p_mv ?_
          refine zC ?_
          refine ⟨k + 1, by omega, by show n.log.length - (k + 1) < n.log.length - k; omega, ⟨le_get (by rfl) (Le.refl _), eL⟩, ?_⟩
          have hs : cmtF n conf (k + 1) = max (cmtF n conf k) (n.base + k + 1) := by rw [cmtF, if_pos ⟨hc.1, decide_eq_true hc.2⟩]
          dsimp only
          rw [hs]
          exact kS kR
        · intro hc
          refine zC ?_
          apply cr
          refine s_ p_ad ?_
          refine s_ p_mv ?_
          refine zC ?_
          refine ⟨k + 1, by omega, by show n.log.length - (k + 1) < n.log.length - k; omega, ⟨le_get (by rfl) (Le.refl _), eL⟩, ?_⟩
          have hs : cmtF n conf (k + 1) = cmtF n conf k := by rw [cmtF, if_neg fun h => hc ⟨h.1, of_decide_eq_true h.2⟩]
          dsimp only
          rw [hs]
          exact kS kR
  · intro hlt
    simp only [List.length_map] at hlt
    have : k = n.log.length := by omega
    subst this
    have hi := is_fn' conf n.id hn.id0 hn.id5 hc0 hc1
    refine zC ?_
    apply cr
    refine s_ p_mv ?_
    refine s_ p_mv ?_
    refine s_ p_nc ?_
    refine s_ p_fr ?_
    refine s_ p_fr ?_
    refine s_ p_lo ?_
    refine s_ (p_ca (hi)) ?_
    refine s_ p_no ?_
    refine s_ p_mv ?_
    refine gT (fun hg => p_mv) ?_
    refine gT (fun hg => p_mv) ?_
    refine gT (fun hg => p_nc (hx := u_ hg)) ?_
    refine gT (fun hg => p_fr (hx := u_ hg)) ?_
    refine gT (fun hg => p_fr (hx := u_ hg)) ?_
    refine gT (fun hg => p_lo (hx := u_ hg)) ?_
    refine gT (fun hg => p_le (hx := u_ hg) (hy := u_ hg)) ?_
    refine s_ p_an ?_
    refine zC ?_
    refine ci ?_ ?_
    · intro hc
      refine zC ?_
      apply cr
      refine s_ p_mv ?_
      refine s_ p_mv ?_
      refine s_ p_nc ?_
      refine s_ p_fr ?_
      refine s_ p_fr ?_
      refine e_st ?_
      refine s_ p_nc ?_
      refine s_ p_fr ?_
      refine s_ p_fr ?_
      refine e_st ?_
      refine zC ?_
      refine rhn kR ⟨rfl, ?_⟩ (Le.refl _)
      have e : commitF n = { n with commit := cmtF n conf n.log.length, role := 0, wait := 0 } := by rw [commitF, hcf, hat, if_pos hc]
      rw [e]
      exact ⟨_, _, Hl, Ho, h1, h2, rfl⟩
    · intro hc
      refine zC ?_
      refine rhn kR ⟨rfl, ?_⟩ (Le.refl _)
      have e : commitF n = { n with commit := cmtF n conf n.log.length } := by rw [commitF, hcf, hat, if_neg hc]
      rw [e]
      exact ⟨_, _, Hl, Ho, h1, h2, rfl⟩
end Go.Proofs.YtjbokbikkcfjjaaGreat
end
section
set_option maxRecDepth 4000
namespace Go.Proofs.YtjbokbikkcfjjaaGreat
open Go.Cap
set_option linter.unusedSimpArgs false
set_option linter.unusedVariables false
attribute [local irreducible] POp SimFrom DrawFrom EOp Sim FnH T.gp
def fillF (f : F5) (v : Int) : Nat → F5
  | 0 => f
  | k + 1 => (fillF f v k).set k v
def leadN (n : Nd) : Nd := { n with role := 2, log := n.log ++ [⟨n.term, 0, []⟩], next := .all (n.base + (n.log.length + 1)), mtch := (F5.all 0).set n.id.toNat (n.base + (n.log.length + 1)) }
def leadF (n : Nd) : Nd := commitF (leadN n)
theorem lc_app0 (l : List En) (e : En) : ∀ k, k ≤ l.length → lc (l ++ [e]) k = lc l k
  | 0, _ => rfl
  | k + 1, h => by
    have hk : k < l.length := by omega
    have : (l ++ [e]).getD k default = l.getD k default := by simp [List.getD_eq_getElem?_getD, List.getElem?_append_left hk]
    rw [lc, lc, this, lc_app0 l e k (by omega)]
theorem conf_app (n : Nd) (e : En) (he : e.conf = 0) (r : Int) (f g : F5) : confF { n with role := r, log := n.log ++ [e], next := f, mtch := g } = confF n := by
  have h1 : lc (n.log ++ [e]) (n.log ++ [e]).length = lc n.log n.log.length := by
    rw [List.length_append, List.length_singleton, lc]
    have : (n.log ++ [e]).getD n.log.length default = e := by simp [List.getD_eq_getElem?_getD]
    rw [this, if_neg (by simpa using he), lc_app0 _ _ _ (Nat.le_refl _)]
  simp only [confF, h1]
theorem commitF_eq (n : Nd) : ∃ c r w, commitF n = { n with commit := c, role := r, wait := w } := by
  unfold commitF
  split <;> exact ⟨_, _, _, rfl⟩
theorem Bd.commit {n : Nd} (h : Bd n) : Bd (commitF n) := by
  obtain ⟨c, r, w, e⟩ := commitF_eq n
  rw [e]
  exact ⟨h.id0, h.id5, h.log, h.base0, h.base1, h.conf0, h.conf1⟩
theorem Bd.lead {n : Nd} (h : Bd n) (hl : n.log.length < 100000000) : Bd (leadN n) := by
  have hc : confF (leadN n) = confF n := conf_app n _ rfl _ _ _
  exact ⟨h.id0, h.id5, by simp [leadN]; omega, h.base0, h.base1, by rw [hc]; exact h.conf0, by rw [hc]; exact h.conf1⟩
theorem ei_cells (v : Int) : (ei v).cells.length = 1 := rfl
theorem wkC_len (n : Nd) (vl vo : Value) : (wkC n vl vo).length = 23 := rfl
theorem lay_nextF {n : Nd} {vl vo : Value} {k : Nat} (hk : k < 5) (v : Int) : lay (wkC n vl vo) (0 + 0 + 12 + (k : Int).toNat * 1) (T.v (.int .i64 v)).cells = wkC { n with next := n.next.set k v } vl vo := by
  rcases (by omega : k = 0 ∨ k = 1 ∨ k = 2 ∨ k = 3 ∨ k = 4) with rfl | rfl | rfl | rfl | rfl <;> rfl
theorem lay_mtchF {n : Nd} {vl vo : Value} {k : Nat} (hk : k < 5) (v : Int) : lay (wkC n vl vo) (0 + 0 + 17 + (k : Int).toNat * 1) (T.v (.int .i64 v)).cells = wkC { n with mtch := n.mtch.set k v } vl vo := by
  rcases (by omega : k = 0 ∨ k = 1 ∨ k = 2 ∨ k = 3 ∨ k = 4) with rfl | rfl | rfl | rfl | rfl <;> rfl
theorem owes_fn {b : Nat} {n : Nd} {out : List Ms} {H : Heap} (hn : Bd n) (hx : ∀ i, n.next.get i ≤ 100000000000) (ho : out.length ≤ 900) (hw : WkH b n out H) :
    FnH Tryz.prog 104 [pW b, .clo 105 [pW b] []] H (fun r H' => r = .tup [] ∧ WkH b n (out ++ toAll n (oweF n) 5) H') := by
  have hO := others_fn (Hc := []) (oweF n) 105 [pW b] [] (by rfl) hn ho hw (fun to out' H2 h0 h5 ho2 hw2 => by
    have := owe_fn to h0 h5 (by have := hn.log; omega) (by have := hn.base0; omega) (by have := hn.base1; omega) (hx _) (by omega) hw2
    have := this.mono (Φ' := fun _ H' => ∃ H1, H' = H1 ++ [] ∧ WkH b n (out' ++ [oweF n to]) H1) fun r H' h => ⟨H', by simp, h.2⟩
    rw [← List.append_nil H2] at this
    exact this)
  rw [List.append_nil] at hO
  exact hO.mono fun r H' ⟨h1, H1, h2, h3⟩ => ⟨h1, by rw [h2, List.append_nil]; exact h3⟩
theorem F5.get_all (v : Int) (i : Nat) : (F5.all v).get i = v := by
  unfold F5.get F5.all
  split <;> rfl
theorem leadF_next {n : Nd} {i : Nat} : (leadF n).next.get i = n.base + (n.log.length + 1) := by
  obtain ⟨c, r, w, e⟩ := commitF_eq (leadN n)
  rw [leadF, e]
  exact F5.get_all _ _
set_option maxHeartbeats 2000000 in
theorem lead_fn {b : Nat} {n : Nd} {out : List Ms} {H : Heap} (hn : Bd n) (hl : n.log.length < 100000000) (ho : out.length ≤ 900) (hw : WkH b n out H) :
    FnH Tryz.prog 147 [pW b] H (fun r H' => r = .tup [] ∧ WkH b (leadF n) (out ++ toAll (leadF n) (oweF (leadF n)) 5) H') := by
  have hb0 := hn.base0
  have hb1 := hn.base1
  have hi0 := hn.id0
  have hi5 := hn.id5
  refine fn_enter Tryz.func147 (by rfl) (by rfl) ?_
  intro S0 w0
  show Sim _ _ [(0, pW b)] _ _
  obtain ⟨vl, vo, Hl, Ho, h1, h2, rfl⟩ := hw
  obtain ⟨p, c, rfl⟩ := h1.len
  obtain ⟨q, d, rfl⟩ := h2.len
  refine zC ?_
  apply cr
  refine s_ p_mv ?_
  refine s_ p_nc ?_
  refine s_ p_fr ?_
  refine s_ p_fr ?_
  refine e_st ?_
  refine zC ?_
  refine zC ?_
  refine ca [0, 1, 2, 3, 4, 5, 6, 7, 8, 9, 10, 11, 12, 13, 14, 15, 16, 17] [13, 17] ?_
  refine a_ (fun _ => p_mv) ?_
  refine a_ (fun _ => p_mv) ?_
  refine a_ (fun _ => p_nc) ?_
  refine a_ (fun _ => p_fr) ?_
  refine a_ (fun _ => p_fr) ?_
  refine a_lo ?_
  refine a_ (fun _ => p_mv) ?_
  refine a_ (fun _ => p_nc) ?_
  refine a_ (fun _ => p_fr) ?_
  refine a_ (fun _ => p_fr) ?_
  refine a_lo ?_
  refine a_ (fun _ => p_bd 3 [_, _, _]) ?_
  refine a_ (fun _ => p_bs) ?_
  refine a_os (ho := h1) (A := [_]) (B := Ho ++ []) (een3 n.log) (fun v' Hl' h1' => ⟨zd, ?_⟩)
  refine zD ?_
  have h1 : OE (n.log ++ [⟨n.term, 0, []⟩]) v' Hl' := by unfold OE; rw [List.map_append]; exact h1'
  clear h1'
  obtain ⟨p, c, rfl⟩ := h1.len
  refine a_ (fun _ => p_nc) ?_
  refine a_ (fun _ => p_fr) ?_
  refine a_ (fun _ => p_fr) ?_
  refine a_st ?_
  apply an
  refine zC ?_
  have hL := last_fn { n with role := 2, log := n.log ++ [⟨n.term, 0, []⟩] } (by simp; omega) (by simp only; omega) (by simp only; omega)
  refine zC ?_
  apply cr
  refine s_ p_mv ?_
  refine s_ p_nc ?_
  refine s_ p_fr ?_
  refine s_ p_loa ?_
  refine s_ (p_cLA hL (LendsL.cons (Lends.agg (node_lends _ (h1.lend (by intro p hp; simp [hp])))) LendsL.nil)) ?_
  refine s_ p_mv ?_
  refine s_ p_ex ?_
  refine s_ p_ex ?_
  refine s_ p_as ?_
  refine s_ p_as ?_
  refine zC ?_
  apply cr
  refine s_ p_mv ?_
  refine zC ?_
  have hLF : lastF { n with role := 2, log := n.log ++ [⟨n.term, 0, []⟩] } = n.base + (n.log.length + 1) := by simp [lastF]
  rw [hLF]
  generalize hv : n.base + (n.log.length + 1) = v
  apply sim_loopL (σ := Nat) (ok := fun k => k ≤ 5) (env := fun k => [(34, ei (k : Nat)), (2, ei v), (0, pW b)])
    (heap := fun k => (b, ⟨tW, wkC { n with role := 2, log := n.log ++ [⟨n.term, 0, []⟩], next := fillF n.next v k, mtch := fillF n.mtch 0 k } (.slice p ((n.log ++ [(⟨n.term, 0, []⟩ : En)]).map een).length c) (.slice q (out.map ms).length d), 23⟩) :: (Hl' ++ (Ho ++ []))) (μ := fun k => 5 - k) (s0 := 0)
  · exact Nat.zero_le _
  · exact eL
  · exact kR
  · intro k hk
    refine zC ?_
    apply cr
    refine s_ p_lt ?_
    refine zC ?_
    refine ci ?_ ?_
    · intro hlt
      have hk5 : k < 5 := by omega
      refine zC ?_
      apply cr
      refine s_ p_mv ?_
      refine s_ p_as ?_
      refine zC ?_
      refine ca [0, 1, 2, 3, 4, 5, 6, 7, 8, 10, 11, 12, 9, 13, 14] [9, 14] ?_
      refine a_ (fun _ => p_mv) ?_
      refine a_ (fun _ => p_mv) ?_
      refine a_ (fun _ => p_mv) ?_
      refine a_ (fun _ => p_mv) ?_
      refine a_ (fun _ => p_mv) ?_
      refine a_ (fun _ => p_nc) ?_
      refine a_ (fun _ => p_fr) ?_
      refine a_ (fun _ => p_fr) ?_
      refine a_ (fun _ => p_ar) ?_
      refine a_ (fun _ => p_nc) ?_
      refine a_ (fun _ => p_fr) ?_
      refine a_ (fun _ => p_fr) ?_
      refine a_ss ?_ ?_
      · simp only [wkC_len, ei_cells]; omega
      refine a_ (fun _ => p_ar) ?_
      refine a_ss ?_ ?_
      · simp only [wkC_len, ei_cells, lay_len, Value.cells, T.cells, List.length_map]; simp; omega
      apply an
      refine zC ?_
      apply cr
      refine s_ p_ad ?_
      refine s_ p_mv ?_
      refine zC ?_
      refine ⟨k + 1, by omega, by show 5 - (k + 1) < 5 - k; omega, ⟨le_get (by rfl) (Le.refl _), eL⟩, ?_⟩
      show HeapFront ((b, ⟨_, lay (lay _ _ (T.v (.int .i64 v)).cells) _ (T.v (.int .i64 0)).cells, _⟩) :: _) _
      rw [lay_nextF hk5, lay_mtchF hk5]
      exact kR
    · intro hlt
      have : k = 5 := by omega
      subst this
      refine zC ?_
      refine ca [0, 1, 2, 3, 4, 5, 6, 7, 8, 9, 10, 11] [11] ?_
      refine a_ (fun _ => p_mv) ?_
      refine a_ (fun _ => p_mv) ?_
      refine a_ (fun _ => p_nc) ?_
      refine a_ (fun _ => p_fr) ?_
      refine a_ (fun _ => p_fr) ?_
      refine a_lo ?_
      refine a_ (fun _ => p_mv) ?_
      refine a_ (fun _ => p_nc) ?_
      refine a_ (fun _ => p_fr) ?_
      refine a_ (fun _ => p_fr) ?_
      refine a_ (fun _ => p_ar) ?_
      refine a_ss ?_ ?_
      · simp only [wkC_len, ei_cells]; omega
      apply an
      refine zC ?_
      have hm : lay (wkC { n with role := 2, log := n.log ++ [⟨n.term, 0, []⟩], next := fillF n.next v 5, mtch := fillF n.mtch 0 5 } (.slice p ((n.log ++ [(⟨n.term, 0, []⟩ : En)]).map een).length c) (.slice q (out.map ms).length d)) (0 + 0 + 17 + n.id.toNat * 1) (ei v).cells = wkC (leadN n) (.slice p ((n.log ++ [(⟨n.term, 0, []⟩ : En)]).map een).length c) (.slice q (out.map ms).length d) := by
        obtain ⟨i, hi⟩ : ∃ i : Nat, n.id = (i : Int) := ⟨n.id.toNat, by omega⟩
        rw [leadN, hv, hi]
        rcases (by omega : i = 0 ∨ i = 1 ∨ i = 2 ∨ i = 3 ∨ i = 4) with rfl | rfl | rfl | rfl | rfl <;> rfl
      have hw : WkH b (leadN n) out ((b, ⟨tW, lay (wkC { n with role := 2, log := n.log ++ [⟨n.term, 0, []⟩], next := fillF n.next v 5, mtch := fillF n.mtch 0 5 } (.slice p ((n.log ++ [(⟨n.term, 0, []⟩ : En)]).map een).length c) (.slice q (out.map ms).length d)) (0 + 0 + 17 + n.id.toNat * 1) (ei v).cells, 23⟩) :: (Hl' ++ (Ho ++ []))) := by
        rw [hm]
        exact ⟨_, _, Hl', Ho, h1, h2, rfl⟩
      have hnl := hn.lead hl
      have hnc := hnl.commit
      refine zC ?_
      apply cr
      refine s_ p_mv ?_
      refine e_cHA (commit_fn hnl hw) (fun r H' ⟨hr, hw'⟩ => ?_)
      subst hr
      
      refine zC ?_
      apply cr
      refine s_ p_mv ?_
      refine s_ p_mv ?_
      refine s_ p_mf ?_
      refine e_cHA (owes_fn hnc (fun i => by have := leadF_next (n := n) (i := i); unfold leadF at this; rw [this]; omega) ho hw') (fun r H' ⟨hr, hw''⟩ => ?_)
      subst hr
      refine zC ?_
      exact rhn kR ⟨rfl, hw''⟩ (Le.refl _)
end Go.Proofs.YtjbokbikkcfjjaaGreat
end
