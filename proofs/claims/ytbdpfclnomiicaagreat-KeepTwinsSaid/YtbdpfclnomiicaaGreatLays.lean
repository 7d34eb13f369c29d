/-
  keep.bytes: what a node keeps, as bytes.
  keep.lay: what a record says, laid over a node.
-/
import Derived.Test.YtbdpfclnomiicaaGreatRdr
import Derived.Test.YtbdpfclnomiicaaGreatTrees
section
set_option maxRecDepth 16000
namespace Go.Proofs.YtbdpfclnomiicaaGreat
open Go.Cap
set_option linter.unusedSimpArgs false
set_option linter.unusedVariables false
attribute [local irreducible] POp SimFrom DrawFrom EOp Sim FnH T.gp
def intsB (l : List Int) : List UInt8 := l.flatMap intB
def entB (e : En) : List UInt8 := intB e.term ++ intB e.conf ++ txtB e.cmd
def headB (n : Nd) (from_ : Nat) : List Int := [n.term, n.vote, n.base, n.baseTerm, n.baseConf, n.commit, from_, n.log.length]
def recB (n : Nd) (from_ : Nat) : List UInt8 := intsB (headB n from_) ++ txtB n.snap ++ (n.log.drop from_).flatMap entB
def w64 (x : Int) : Prop := -4000000000000000000 ≤ x ∧ x ≤ 4000000000000000000
structure Sz (n : Nd) : Prop where
  term : w64 n.term
  vote : w64 n.vote
  base : w64 n.base
  baseTerm : w64 n.baseTerm
  baseConf : w64 n.baseConf
  commit : w64 n.commit
  snap : n.snap.length ≤ 60000
  len : n.log.length ≤ 10000
  ents : ∀ e ∈ n.log, w64 e.term ∧ w64 e.conf ∧ e.cmd.length ≤ 60000
theorem entB_len {e : En} (h : e.cmd.length ≤ 60000) : (entB e).length ≤ 60040 := by
  have h1 := intB_len e.term
  have h2 := intB_len e.conf
  have h3 := txtB_len e.cmd
  unfold entB
  simp only [List.length_append]; omega
theorem ents_len : ∀ (l : List En), (∀ e ∈ l, e.cmd.length ≤ 60000) → (l.flatMap entB).length ≤ 60040 * l.length
  | [], _ => by simp
  | e :: l, h => by
    have h1 := entB_len (h e List.mem_cons_self)
    have h2 := ents_len l fun x hx => h x (List.mem_cons_of_mem _ hx)
    simp only [List.flatMap_cons, List.length_append, List.length_cons]; omega
theorem intsB_len : ∀ (l : List Int), (intsB l).length ≤ 10 * l.length
  | [] => by simp [intsB]
  | x :: l => by
    have h1 := intB_len x
    have h2 := intsB_len l
    simp only [intsB, List.flatMap_cons, List.length_append, List.length_cons] at h2 ⊢; omega
theorem intsB_next (l : List Int) {k : Nat} (hk : k < l.length) : intsB (l.take (k + 1)) = intsB (l.take k) ++ intB l[k] := by
  unfold intsB
  rw [List.take_succ_eq_append_getElem hk, List.flatMap_append]
  simp
theorem ents_next (l : List En) {k : Nat} (hk : k < l.length) : (l.take (k + 1)).flatMap entB = (l.take k).flatMap entB ++ entB l[k] := by
  rw [List.take_succ_eq_append_getElem hk, List.flatMap_append]
  simp
set_option maxHeartbeats 1000000 in
theorem bytes_fn (n : Nd) (from_ : Nat) (hn : Sz n) (hf : from_ ≤ n.log.length) : FnP Tryz.prog 86 [nd n, ei from_] (fun r => r = bl (recB n from_)) := by
  have hlen := hn.len
  have hw : ∀ x ∈ headB n from_, w64 x := by
    intro x hx
    simp only [headB, List.mem_cons, List.not_mem_nil, or_false] at hx
    rcases hx with rfl | rfl | rfl | rfl | rfl | rfl | rfl | rfl
    · exact hn.term
    · exact hn.vote
    · exact hn.base
    · exact hn.baseTerm
    · exact hn.baseConf
    · exact hn.commit
    · constructor <;> omega
    · constructor <;> omega
  have hhl : (headB n from_).length = 8 := rfl
  have hil : ∀ k, (intsB ((headB n from_).take k)).length ≤ 80 := fun k => by
    have := intsB_len ((headB n from_).take k)
    simp only [List.length_take, hhl] at this
    omega
  refine fn_enter Tryz.func86 (by rfl) (by rfl) ?_
  intro S0 w0
  show Sim _ _ [(0, T.agg (nodeC n (.sl false (n.log.map een)))), (1, ei from_)] _ _
  (repeat (first | apply cn | apply cq | apply cb | apply ck | apply cl | apply cx))
  apply cr
  refine e_bx fun b2 _ => ?_
  refine s_ p_as ?_
  (repeat (first | apply cn | apply cq | apply cb | apply ck | apply cl | apply cx))
  apply cr
  refine s_ p_as ?_
  (repeat (first | apply cn | apply cq | apply cb | apply ck | apply cl | apply cx))
  apply cr
  refine s_ p_fr ?_
  refine s_ p_lo ?_
  refine s_ p_fr ?_
  refine s_ p_lo ?_
  refine s_ p_fr ?_
  refine s_ p_lo ?_
  refine s_ p_fr ?_
  refine s_ p_lo ?_
  refine s_ p_fr ?_
  refine s_ p_lo ?_
  refine s_ p_fr ?_
  refine s_ p_lo ?_
  refine s_ p_mv ?_
  refine s_ p_fr ?_
  refine s_ p_lo ?_
  (first | refine s_ p_ln ?_ | refine s_ p_lr ?_)
  refine s_ p_bs ?_
  (first | refine s_ p_ln ?_ | refine s_ p_lr ?_)
  refine s_ p_mv ?_
  (repeat (first | apply cn | apply cq | apply cb | apply ck | apply cl | apply cx))
  apply sim_loopL (σ := Nat) (ok := fun k => k ≤ 8) (env := fun k => [(28, ei k), (5, bl (intsB ((headB n from_).take k))), (27, ei 8), (26, .sl true ((headB n from_).map ei)), (1, ei from_), (2, pW b2)]) (heap := fun _ => [(b2, ⟨36, nodeC n (.sl false (n.log.map een)), 22⟩)]) (μ := fun k => 8 - k) (s0 := 0)
  · exact Nat.zero_le _
  · refine ⟨?_, ?_, ?_, ?_, eL⟩
    · apply le_get; ((repeat (apply gS; rfl)); exact gZ)
      exact Le.refl _
    · apply le_get; ((repeat (apply gS; rfl)); exact gZ)
      exact Le.slice0 _ _
    · apply le_get; ((repeat (apply gS; rfl)); exact gZ)
      exact Le.refl _
    · apply le_get; ((repeat (apply gS; rfl)); exact gZ)
      exact Le.of_eq (by simp [headB, ei])
  · exact kR
  intro k hk
  (repeat (first | apply cn | apply cq | apply cb | apply ck | apply cl | apply cx))
  apply cr
  refine s_ p_lt ?_
  (repeat (first | apply cn | apply cq | apply cb | apply ck | apply cl | apply cx))
  refine ci ?_ ?_
  · intro hlt
    have hlt' : k < (headB n from_).length := by rw [hhl]; omega
    have hwk := hw _ (List.getElem_mem hlt')
    have hi := int_fn false (intsB ((headB n from_).take k)) (headB n from_)[k] (by have := hwk.1; omega) (by have := hwk.2; omega) (by have := hil k; omega)
    (repeat (first | apply cn | apply cq | apply cb | apply ck | apply cl | apply cx))
    apply cr
    (first | refine s_ (p_ix hix) ?_ | refine s_ (p_ix hix2) ?_ | refine s_ p_ia ?_ | refine s_ p_ir ?_)
    (first | refine s_ p_ld ?_ | refine s_ p_lo ?_)
    refine s_ p_as ?_
    (repeat (first | apply cn | apply cq | apply cb | apply ck | apply cl | apply cx))
    apply cr
    refine s_ p_mv ?_
    refine s_ p_mv ?_
    refine s_ (p_ca (hi)) ?_
    refine s_ p_as ?_
    (repeat (first | apply cn | apply cq | apply cb | apply ck | apply cl | apply cx))
    (repeat (first | apply cn | apply cq | apply cb | apply ck | apply cl | apply cx))
    apply cr
    refine s_ p_ad ?_
    refine s_ p_mv ?_
    (repeat (first | apply cn | apply cq | apply cb | apply ck | apply cl | apply cx))
    refine ⟨k + 1, by omega, (by simp only []; omega), ⟨?_, ?_, eL⟩, kR⟩
    · apply le_get; ((repeat (apply gS; rfl)); exact gZ)
      exact Le.refl _
    · apply le_get; ((repeat (apply gS; rfl)); exact gZ)
      rw [intsB_next _ hlt']
      exact Le.refl _
  intro hge
  have hk8 : k = 8 := by omega
  subst hk8
  have hb80 := hil 8
  rw [show (headB n from_).take 8 = headB n from_ from rfl] at hb80 ⊢
  have htx := text_fn false (intsB (headB n from_)) n.snap hn.snap (by omega)
  have htl := txtB_len n.snap
  have hsn := hn.snap
  obtain ⟨l, hl⟩ : ∃ l, l = n.log.drop from_ := ⟨_, rfl⟩
  have hll : l.length ≤ 10000 := by rw [hl, List.length_drop]; omega
  have hents : ∀ e ∈ l, w64 e.term ∧ w64 e.conf ∧ e.cmd.length ≤ 60000 := fun e he => hn.ents e (by rw [hl] at he; exact List.mem_of_mem_drop he)
  (repeat (first | apply cn | apply cq | apply cb | apply ck | apply cl | apply cx))
  apply cr
  refine s_ p_mv ?_
  refine s_ p_fr ?_
  refine s_ p_lo ?_
  refine s_ (p_ca (htx)) ?_
  refine s_ p_as ?_
  (repeat (first | apply cn | apply cq | apply cb | apply ck | apply cl | apply cx))
  (repeat (first | apply cn | apply cq | apply cb | apply ck | apply cl | apply cx))
  apply cr
  refine s_ p_fr ?_
  refine s_ p_lo ?_
  refine s_ p_mv ?_
  refine s_ (p_s0lE (i := ((from_ : Nat) : Int)) (xs := n.log.map een) (ys := l.map een) (by rw [hl, List.map_drop]; rfl)) ?_
  (first | refine s_ p_ln ?_ | refine s_ p_lr ?_)
  refine s_ p_mv ?_
  (repeat (first | apply cn | apply cq | apply cb | apply ck | apply cl | apply cx))
  apply sim_loopL (σ := Nat) (ok := fun k => k ≤ l.length) (env := fun k => [(45, ei k), (5, bl (intsB (headB n from_) ++ txtB n.snap ++ (l.take k).flatMap entB)), (44, ei (l.length : Nat)), (43, .sl false (l.map een))]) (heap := fun _ => []) (μ := fun k => l.length - k) (s0 := 0)
  · exact Nat.zero_le _
  · refine ⟨?_, ?_, ?_, eL⟩
    · apply le_get; ((repeat (apply gS; rfl)); exact gZ)
      exact Le.refl _
    · apply le_get; ((repeat (apply gS; rfl)); exact gZ)
      exact Le.of_eq (by simp)
    · apply le_get; ((repeat (apply gS; rfl)); exact gZ)
      exact Le.of_eq (by simp [ei])
  · exact .nil _
  intro k hk
  (repeat (first | apply cn | apply cq | apply cb | apply ck | apply cl | apply cx))
  apply cr
  refine s_ p_lt ?_
  (repeat (first | apply cn | apply cq | apply cb | apply ck | apply cl | apply cx))
  refine ci ?_ ?_
  · intro hlt
    have hlt' : k < l.length := by omega
    have hacc : (intsB (headB n from_) ++ txtB n.snap ++ (l.take k).flatMap entB).length ≤ 800000000 := by
      have := ents_len (l.take k) fun e he => (hents e (List.mem_of_mem_take he)).2.2
      have h2 : (l.take k).length ≤ 10000 := by rw [List.length_take]; omega
      simp only [List.length_append]; omega
    obtain ⟨w1, w2, w3⟩ := hents _ (List.getElem_mem hlt')
    have hnx := ents_next l hlt'
    generalize hA : intsB (headB n from_) ++ txtB n.snap ++ (l.take k).flatMap entB = A at hacc ⊢
    have hi1 := int_fn false A l[k].term (by have := w1.1; omega) (by have := w1.2; omega) (by omega)
    have hl1 := intB_len l[k].term
    have hl2 := intB_len l[k].conf
    have hi2 := int_fn false (A ++ intB l[k].term) l[k].conf (by have := w2.1; omega) (by have := w2.2; omega) (by simp only [List.length_append]; omega)
    have ht := text_fn false (A ++ intB l[k].term ++ intB l[k].conf) l[k].cmd w3 (by simp only [List.length_append]; omega)
    (repeat (first | apply cn | apply cq | apply cb | apply ck | apply cl | apply cx))
    apply cr
    (first | refine s_ (p_ix hix) ?_ | refine s_ (p_ix hix2) ?_ | refine s_ p_ia ?_ | refine s_ p_ir ?_)
    (first | refine s_ p_la ?_ | refine s_ p_loa ?_)
    refine e_al fun b9 _ => ?_
    refine e_st ?_
    (repeat (first | apply cn | apply cq | apply cb | apply ck | apply cl | apply cx))
    (repeat (first | apply cn | apply cq | apply cb | apply ck | apply cl | apply cx))
    refine ct [0, 1, 2, 3, 4, 5, 6, 7, 8, 9] [10] ?_
    refine t_ (fun _ => p_mv) ?_
    refine t_ (fun _ => p_fr) ?_
    refine t_lo ?_
    refine t_ (fun _ => p_ca (hi1)) ?_
    refine t_ (fun _ => p_fr) ?_
    refine t_lo ?_
    refine t_ (fun _ => p_ca (hi2)) ?_
    refine t_ (fun _ => p_fr) ?_
    refine t_lo ?_
    refine t_ (fun _ => p_ca (ht)) ?_
    refine t_as1 ⟨by (repeat (first | exact trivial | (apply And.intro; focus (intro hb; first | exact trivial | exact noB hb rfl | (repeat (first | exact hZ | apply hS | apply hA)))))), ?_⟩
    (repeat (first | apply cn | apply cq | apply cb | apply ck | apply cl | apply cx))
    (repeat (first | apply cn | apply cq | apply cb | apply ck | apply cl | apply cx))
    apply cr
    refine s_ p_ad ?_
    refine s_ p_mv ?_
    (repeat (first | apply cn | apply cq | apply cb | apply ck | apply cl | apply cx))
    refine ⟨k + 1, by omega, (by simp only []; omega), ⟨?_, ?_, eL⟩, .nil _⟩
    · apply le_get; ((repeat (apply gS; rfl)); exact gZ)
      exact Le.refl _
    · apply le_get; ((repeat (apply gS; rfl)); exact gZ)
      rw [hnx, ← hA]
      exact Le.of_eq (by simp [bl, entB])
  intro hge
  have hke : k = l.length := by omega
  subst hke
  rw [List.take_length]
  (repeat (first | apply cn | apply cq | apply cb | apply ck | apply cl | apply cx))
  apply cr
  refine s_ p_mv ?_
  refine s_ p_as ?_
  (repeat (first | apply cn | apply cq | apply cb | apply ck | apply cl | apply cx))
  (apply sim_ret; (try simp only [blockΨ_ret, thenΨ_ret, loopL_ret, cutΨ_ret, cutE_ret]); first | refine rt ?_ | refine rn ?_)
  rw [recB, hl]
  exact Le.refl _
end Go.Proofs.YtbdpfclnomiicaaGreat
end
section
set_option maxRecDepth 16000
namespace Go.Proofs.YtbdpfclnomiicaaGreat
open Go.Cap
set_option linter.unusedSimpArgs false
set_option linter.unusedVariables false
attribute [local irreducible] POp SimFrom DrawFrom EOp Sim FnH T.gp
def layF (n m : Nd) (from_ : Nat) : Nd := { n with term := m.term, vote := m.vote, base := m.base, baseTerm := m.baseTerm, baseConf := m.baseConf, commit := m.commit, snap := m.snap, log := n.log.take from_ ++ m.log.drop from_ }
def leftB (m : Nd) (from_ k : Nat) : List UInt8 := intsB ((headB m from_).drop k) ++ (txtB m.snap ++ (m.log.drop from_).flatMap entB)
theorem leftB_next (m : Nd) (from_ : Nat) {k : Nat} (hk : k < 8) : leftB m from_ k = intB ((headB m from_)[k]'hk) ++ leftB m from_ (k + 1) := by
  unfold leftB intsB
  rw [List.drop_eq_getElem_cons (show k < (headB m from_).length from hk), List.flatMap_cons, List.append_assoc]
  rfl
theorem leftB_len {m : Nd} (hm : Sz m) (from_ k : Nat) : (leftB m from_ k).length ≤ 900000000 := by
  have h1 := intsB_len ((headB m from_).drop k)
  have h2 := txtB_len m.snap
  have h3 := ents_len (m.log.drop from_) fun e he => (hm.ents e (List.mem_of_mem_drop he)).2.2
  have h4 : (m.log.drop from_).length ≤ 10000 := by rw [List.length_drop]; have := hm.len; omega
  have h5 : ((headB m from_).drop k).length ≤ 8 := by rw [List.length_drop]; simp [headB]
  have := hm.snap
  unfold leftB
  simp only [List.length_append]; omega
theorem head_w {n : Nd} (hn : Sz n) {from_ : Nat} (hf : from_ ≤ n.log.length) : ∀ x ∈ headB n from_, w64 x := by
  have hlen := hn.len
  intro x hx
  simp only [headB, List.mem_cons, List.not_mem_nil, or_false] at hx
  rcases hx with rfl | rfl | rfl | rfl | rfl | rfl | rfl | rfl
  · exact hn.term
  · exact hn.vote
  · exact hn.base
  · exact hn.baseTerm
  · exact hn.baseConf
  · exact hn.commit
  · constructor <;> omega
  · constructor <;> omega
set_option maxHeartbeats 4000000 in
theorem lay_fn (f : Bool) (n m : Nd) (from_ : Nat) (hm : Sz m) (hf : from_ ≤ m.log.length) (hl : n.log.length ≤ 10000) : FnP Tryz.prog 22 [nd n, .sl f ((recB m from_).map eb)] (fun r => r = nd (layF n m from_)) := by
  have hmlen := hm.len
  have hI : ∀ b k (hk : k < 8), FnH Tryz.prog 46 [pW b] (RdH b (leftB m from_ k)) (fun r H => r = ei ((headB m from_)[k]'hk) ∧ H = RdH b (leftB m from_ (k + 1))) := fun b k hk => by
    have hw := head_w hm hf _ (List.getElem_mem (show k < (headB m from_).length from hk))
    exact intR_fn (b := b) _ (by have := hw.1; omega) (by have := hw.2; omega) (leftB_next m from_ hk) (by have := leftB_len hm from_ k; omega)
  obtain ⟨l, hll⟩ : ∃ l, l = m.log.drop from_ := ⟨_, rfl⟩
  have hlen : l.length = m.log.length - from_ := by rw [hll, List.length_drop]
  have hents : ∀ e ∈ l, w64 e.term ∧ w64 e.conf ∧ e.cmd.length ≤ 60000 := fun e he => hm.ents e (by rw [hll] at he; exact List.mem_of_mem_drop he)
  have hbig : ∀ k, ((l.drop k).flatMap entB).length ≤ 600400000 := fun k => by
    have h3 := ents_len (l.drop k) fun e he => (hents e (List.mem_of_mem_drop he)).2.2
    have h4 : (l.drop k).length ≤ 10000 := by rw [List.length_drop]; omega
    omega
  have hcons : ∀ k (hk : k < l.length), (l.drop k).flatMap entB = intB l[k].term ++ (intB l[k].conf ++ (txtB l[k].cmd ++ (l.drop (k + 1)).flatMap entB)) := fun k hk => by
    rw [List.drop_eq_getElem_cons hk, List.flatMap_cons]
    simp only [entB, List.append_assoc]
  have hE1 : ∀ b k (hk : k < l.length), FnH Tryz.prog 46 [pW b] (RdH b ((l.drop k).flatMap entB)) (fun r H => r = ei l[k].term ∧ H = RdH b (intB l[k].conf ++ (txtB l[k].cmd ++ (l.drop (k + 1)).flatMap entB))) := fun b k hk => by
    have hw := (hents _ (List.getElem_mem hk)).1
    exact intR_fn (b := b) _ (by have := hw.1; omega) (by have := hw.2; omega) (hcons k hk) (by have := hbig k; omega)
  have hE2 : ∀ b k (hk : k < l.length), FnH Tryz.prog 46 [pW b] (RdH b (intB l[k].conf ++ (txtB l[k].cmd ++ (l.drop (k + 1)).flatMap entB))) (fun r H => r = ei l[k].conf ∧ H = RdH b (txtB l[k].cmd ++ (l.drop (k + 1)).flatMap entB)) := fun b k hk => by
    have hw := (hents _ (List.getElem_mem hk)).2.1
    exact intR_fn (b := b) _ (by have := hw.1; omega) (by have := hw.2; omega) rfl (by have := hbig k; rw [hcons k hk, List.length_append] at this; omega)
  have hE3 : ∀ b k (hk : k < l.length), FnH Tryz.prog 47 [pW b] (RdH b (txtB l[k].cmd ++ (l.drop (k + 1)).flatMap entB)) (fun r H => r = es l[k].cmd ∧ H = RdH b ((l.drop (k + 1)).flatMap entB)) := fun b k hk => by
    have hw := (hents _ (List.getElem_mem hk)).2.2
    exact read_fn (b := b) hw rfl (by have := hbig k; rw [hcons k hk, List.length_append, List.length_append] at this; omega)
  have hR : ∀ b, FnH Tryz.prog 47 [pW b] (RdH b (leftB m from_ 8)) (fun r H => r = es m.snap ∧ H = RdH b ((l.drop 0).flatMap entB)) := fun b =>
    read_fn (b := b) hm.snap (by rw [hll]; rfl) (by have := leftB_len hm from_ 8; omega)
  have hN := newR_fn f (recB m from_) (by have := leftB_len hm from_ 0; simp only [recB, leftB, List.drop_zero, List.length_append] at this ⊢; omega)
  have hrec : recB m from_ = leftB m from_ 0 := by simp [recB, leftB]
  rw [hrec] at hN ⊢
  refine FnH.give (Φ := fun r H => ∃ vl, r = .agg (nodeC (layF n m from_) (.v vl)) ∧ OE (layF n m from_).log vl H) ?_ (by rintro r H ⟨v, rfl, ho⟩; exact Lends.agg (node_lends _ (ho.lend fun _ h => h)))
  refine fn_enter Tryz.func22 (by rfl) (by rfl) ?_
  intro S0 w0
  show Sim _ _ [(0, T.agg (nodeC n (.sl false (n.log.map een)))), (1, .sl f ((leftB m from_ 0).map eb))] _ _
  (repeat (first | apply cn | apply cq | apply cb | apply ck | apply cl | apply cx))
  apply cr
  refine e_bx fun b2 _ => ?_
  refine e_al fun b4 _ => ?_
  (repeat (first | apply cn | apply cq | apply cb | apply ck | apply cl | apply cx))
  apply cr
  refine s_ p_mv ?_
  refine e_cH (Hs := []) (Hr := [_, _]) hN (.refl _) (fun r H' ⟨b, hr1, hr2⟩ => ?_)
  subst hr1 hr2
  refine s_ p_as ?_
  (repeat (first | apply cn | apply cq | apply cb | apply ck | apply cl | apply cx))
  apply cr
  refine s_ p_mv ?_
  refine s_ p_mf ?_
  refine s_ p_as ?_
  (repeat (first | apply cn | apply cq | apply cb | apply ck | apply cl | apply cx))
  apply cr
  refine s_ p_mv ?_
  refine e_vH (fs := [pW b]) (args := []) (cs := []) (hI b 0 (by omega)) (Hr := [_, _]) (.refl _) (fun r H' ⟨hr1, hr2⟩ => ?_)
  obtain rfl : r = ei m.term := hr1
  subst hr2
  refine s_ p_mv ?_
  refine e_vH (fs := [pW b]) (args := []) (cs := []) (hI b 1 (by omega)) (Hr := [_, _]) (.refl _) (fun r H' ⟨hr1, hr2⟩ => ?_)
  obtain rfl : r = ei m.vote := hr1
  subst hr2
  refine s_ p_mv ?_
  refine e_vH (fs := [pW b]) (args := []) (cs := []) (hI b 2 (by omega)) (Hr := [_, _]) (.refl _) (fun r H' ⟨hr1, hr2⟩ => ?_)
  obtain rfl : r = ei m.base := hr1
  subst hr2
  refine s_ p_mv ?_
  refine e_vH (fs := [pW b]) (args := []) (cs := []) (hI b 3 (by omega)) (Hr := [_, _]) (.refl _) (fun r H' ⟨hr1, hr2⟩ => ?_)
  obtain rfl : r = ei m.baseTerm := hr1
  subst hr2
  refine s_ p_mv ?_
  refine e_vH (fs := [pW b]) (args := []) (cs := []) (hI b 4 (by omega)) (Hr := [_, _]) (.refl _) (fun r H' ⟨hr1, hr2⟩ => ?_)
  obtain rfl : r = ei m.baseConf := hr1
  subst hr2
  refine s_ p_mv ?_
  refine e_vH (fs := [pW b]) (args := []) (cs := []) (hI b 5 (by omega)) (Hr := [_, _]) (.refl _) (fun r H' ⟨hr1, hr2⟩ => ?_)
  obtain rfl : r = ei m.commit := hr1
  subst hr2
  refine s_ p_fr ?_
  refine e_st ?_
  refine s_ p_fr ?_
  refine e_st ?_
  refine s_ p_fr ?_
  refine e_st ?_
  refine s_ p_fr ?_
  refine e_st ?_
  refine s_ p_fr ?_
  refine e_st ?_
  refine s_ p_fr ?_
  refine e_st ?_
  (repeat (first | apply cn | apply cq | apply cb | apply ck | apply cl | apply cx))
  apply cr
  refine s_ p_mv ?_
  refine e_vH (fs := [pW b]) (args := []) (cs := []) (hI b 6 (by omega)) (Hr := [_, _]) (.refl _) (fun r H' ⟨hr1, hr2⟩ => ?_)
  obtain rfl : r = ei ((from_ : Nat) : Int) := hr1
  subst hr2
  refine s_ p_mv ?_
  refine e_vH (fs := [pW b]) (args := []) (cs := []) (hI b 7 (by omega)) (Hr := [_, _]) (.refl _) (fun r H' ⟨hr1, hr2⟩ => ?_)
  obtain rfl : r = ei ((m.log.length : Nat) : Int) := hr1
  subst hr2
  refine s_ p_as ?_
  refine s_ p_as ?_
  (repeat (first | apply cn | apply cq | apply cb | apply ck | apply cl | apply cx))
  apply cr
  refine s_ p_mv ?_
  refine e_cH (hR b) (Hr := [_, _]) (.refl _) (fun r H' ⟨hr1, hr2⟩ => ?_)
  subst hr1 hr2
  refine s_ p_fr ?_
  refine e_st ?_
  (repeat (first | apply cn | apply cq | apply cb | apply ck | apply cl | apply cx))
  apply cr
  refine s_ p_fr ?_
  refine s_ p_lo ?_
  refine s_ p_mv ?_
  refine s_ p_ma ?_
  refine s_ p_fr ?_
  refine s_ p_lo ?_
  (first | refine s_ p_ln ?_ | refine s_ p_lr ?_)
  refine s_ p_mi ?_
  have e1 : min (max ((from_ : Nat) : Int) 0) (((n.log.map een).length : Nat) : Int) = ((min from_ n.log.length : Nat) : Int) := by rw [List.length_map]; omega
  rw [e1]
  refine s_ (p_s0hE (i := ((min from_ n.log.length : Nat) : Int)) (xs := n.log.map een) (ys := (n.log.take from_).map een) (by rw [Int.toNat_natCast, ← List.map_take, List.take_eq_take_iff.2]; omega)) ?_
  have htk : (n.log.take from_).length ≤ 10000 := by rw [List.length_take]; omega
  refine e_cH (Hs := []) (Hr := RdH b ((l.drop 0).flatMap entB) ++ [_, _]) (clone_fn false (n.log.take from_) (by omega)) (.refl _) (fun r Hl ⟨v, hr, ho⟩ => ?_)
  subst hr
  refine from_perm (H' := RdH b ((l.drop 0).flatMap entB) ++ (_ :: _ :: Hl)) (List.perm_append_comm.trans (by rw [List.append_assoc]; exact .refl _)) ?_
  obtain ⟨p, c, rfl⟩ := ho.len
  refine s_ p_fr ?_
  refine e_st ?_
  (repeat (first | apply cn | apply cq | apply cb | apply ck | apply cl | apply cx))
  apply cr
  refine s_ p_mv ?_
  refine s_ p_mv ?_
  refine s_ p_su ?_
  refine s_ p_mv ?_
  (repeat (first | apply cn | apply cq | apply cb | apply ck | apply cl | apply cx))
  have hcnt : ((m.log.length : Nat) : Int) - ((from_ : Nat) : Int) = ((l.length : Nat) : Int) := by rw [hlen]; omega
  rw [hcnt]
  apply sim_loopL (σ := Nat × Value × Heap) (ok := fun s => s.1 ≤ l.length ∧ OE (n.log.take from_ ++ l.take s.1) s.2.1 s.2.2) (env := fun s => [(53, ei s.1), (52, ei (l.length : Nat)), (6, .clo 46 [pW b] []), (5, pW b), (2, pW b2), (4, pW b4)])
    (heap := fun s => RdH b ((l.drop s.1).flatMap entB) ++ ((b4, ⟨36, nodeC ⟨0, 0, 0, 0, 0, 0, [], [], 0, 0, 0, 0, .all 0, .all 0⟩ (.v (.slice none 0 0)), 22⟩) :: (b2, ⟨36, nodeC (layF n m from_) (.v s.2.1), 22⟩) :: s.2.2)) (μ := fun s => l.length - s.1) (s0 := (0, .slice p ((n.log.take from_).map een).length c, Hl))
  · exact ⟨Nat.zero_le _, by rw [List.take_zero, List.append_nil]; exact ho⟩
  · exact eL
  · exact kR
  rintro ⟨k, v, Hl⟩ ⟨hk, ho⟩
  simp only at hk ho
  show Sim _ _ [(53, ei k), (52, ei (l.length : Nat)), (6, .clo 46 [pW b] []), (5, pW b), (2, pW b2), (4, pW b4)] (RdH b ((l.drop k).flatMap entB) ++ ((b4, ⟨36, nodeC ⟨0, 0, 0, 0, 0, 0, [], [], 0, 0, 0, 0, .all 0, .all 0⟩ (.v (.slice none 0 0)), 22⟩) :: (b2, ⟨36, nodeC (layF n m from_) (.v v), 22⟩) :: Hl)) _
  have hol : (n.log.take from_ ++ l.take k).length ≤ 20000 := by rw [List.length_append, List.length_take, List.length_take]; omega
  obtain ⟨p, c, rfl⟩ := ho.len
  (repeat (first | apply cn | apply cq | apply cb | apply ck | apply cl | apply cx))
  apply cr
  refine s_ p_lt ?_
  (repeat (first | apply cn | apply cq | apply cb | apply ck | apply cl | apply cx))
  refine ci ?_ ?_
  · intro hlt
    have hlt' : k < l.length := by omega
    (repeat (first | apply cn | apply cq | apply cb | apply ck | apply cl | apply cx))
    apply cr
    refine s_ p_mv ?_
    refine e_vH (fs := [pW b]) (args := []) (cs := []) (hE1 b k hlt') (Hr := _ :: _ :: Hl) (.refl _) (fun r H' ⟨hr1, hr2⟩ => ?_)
    subst hr1 hr2
    refine s_ p_mv ?_
    refine e_vH (fs := [pW b]) (args := []) (cs := []) (hE2 b k hlt') (Hr := _ :: _ :: Hl) (.refl _) (fun r H' ⟨hr1, hr2⟩ => ?_)
    subst hr1 hr2
    refine s_ (p_bd 3 [_, _, _]) ?_
    refine e_al fun b9 _ => ?_
    refine e_st ?_
    (repeat (first | apply cn | apply cq | apply cb | apply ck | apply cl | apply cx))
    apply cr
    refine s_ p_mv ?_
    refine e_cH (hE3 b k hlt') (Hr := _ :: _ :: _ :: Hl) List.perm_middle.symm (fun r H' ⟨hr1, hr2⟩ => ?_)
    subst hr1 hr2
    refine s_ p_fr ?_
    refine e_st ?_
    (repeat (first | apply cn | apply cq | apply cb | apply ck | apply cl | apply cx))
    apply cr
    refine s_ p_fr ?_
    refine s_ p_lo ?_
    refine s_ p_loa ?_
    refine s_ p_bs ?_
    refine e_os (ho := ho) (A := RdH b ((l.drop (k + 1)).flatMap entB) ++ [_, _, _]) (B := []) (ys := [een l[k]]) (f := true) (een3 _) (fun v' Hs' ho' => ?_) (hH := by simp; rfl)
    refine from_perm (H' := RdH b ((l.drop (k + 1)).flatMap entB) ++ (_ :: _ :: _ :: Hs')) (by rw [List.append_nil, List.append_assoc]; exact .refl _) ?_
    obtain ⟨p', c', rfl⟩ := ho'.len
    refine s_ p_fr ?_
    refine e_st ?_
    (repeat (first | apply cn | apply cq | apply cb | apply ck | apply cl | apply cx))
    apply cr
    refine s_ p_ad ?_
    refine s_ p_mv ?_
    (repeat (first | apply cn | apply cq | apply cb | apply ck | apply cl | apply cx))
    refine ⟨(k + 1, _, Hs'), ⟨by simp only; omega, ?_⟩, (by simp only []; omega), ⟨?_, eL⟩, .keep _ _ _ _ _ (BlkLe.refl _) (.skip _ _ _ kR)⟩
    · simp only
      rw [List.take_succ_eq_append_getElem hlt', ← List.append_assoc]
      unfold OE
      rw [List.map_append]
      exact ho'
    · apply le_get; ((repeat (apply gS; rfl)); exact gZ)
      exact Le.refl _
  intro hge
  have hke : k = l.length := by omega
  subst hke
  have h2 : (layF n m from_).log = n.log.take from_ ++ l.take l.length := by rw [List.take_length, hll]; rfl
  (repeat (first | apply cn | apply cq | apply cb | apply ck | apply cl | apply cx))
  apply cr
  refine s_ p_loa ?_
  refine e_st ?_
  (repeat (first | apply cn | apply cq | apply cb | apply ck | apply cl | apply cx))
  (apply sim_ret; (try simp only [blockΨ_ret, thenΨ_ret, loopL_ret, cutΨ_ret, cutE_ret]))
  refine rh (.skip _ _ _ (.skip _ _ _ (.skip _ _ _ kR))) ⟨_, rfl, ?_⟩ (Le.refl _)
  rw [h2]
  exact ho
end Go.Proofs.YtbdpfclnomiicaaGreat
end
