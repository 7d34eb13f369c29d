/-
  replica: one leads.
-/
import Derived.Test.YtbdpfclnomiicaaGreatCommit
set_option maxRecDepth 4000
namespace Go.Proofs.YtbdpfclnomiicaaGreat
open Go.Cap
set_option linter.unusedSimpArgs false
set_option linter.unusedVariables false
attribute [local irreducible] POp SimFrom DrawFrom EOp Sim FnH T.gp
def fillF (f : F5) (v : Int) : Nat → F5
  | 0 => f
  | k + 1 => (fillF f v k).set k v
def leadN (n : Nd) : Nd := { n with role := 2, log := n.log ++ [⟨n.term, 0, []⟩], next := .all (n.base + (n.log.length + 1)), mtch := (F5.all 0).set n.id.toNat (n.base + (n.log.length + 1)) }
def leadF (n : Nd) : Nd := commitF (leadN n)
theorem lc_app0 (l : List En) (e : En) : ∀ k, k ≤ l.length → lc (l ++ [e]) k = lc l k
  | 0, _ => rfl
  | k + 1, h => by
    have hk : k < l.length := by omega
    have : (l ++ [e]).getD k default = l.getD k default := by simp [List.getD_eq_getElem?_getD, List.getElem?_append_left hk]
    rw [lc, lc, this, lc_app0 l e k (by omega)]
theorem conf_app (n : Nd) (e : En) (he : e.conf = 0) (r : Int) (f g : F5) : confF { n with role := r, log := n.log ++ [e], next := f, mtch := g } = confF n := by
  have h1 : lc (n.log ++ [e]) (n.log ++ [e]).length = lc n.log n.log.length := by
    rw [List.length_append, List.length_singleton, lc]
    have : (n.log ++ [e]).getD n.log.length default = e := by simp [List.getD_eq_getElem?_getD]
    rw [this, if_neg (by simpa using he), lc_app0 _ _ _ (Nat.le_refl _)]
  simp only [confF, h1]
theorem commitF_eq (n : Nd) : ∃ c r w, commitF n = { n with commit := c, role := r, wait := w } := by
  unfold commitF
  split <;> exact ⟨_, _, _, rfl⟩
theorem Bd.commit {n : Nd} (h : Bd n) : Bd (commitF n) := by
  obtain ⟨c, r, w, e⟩ := commitF_eq n
  rw [e]
  exact ⟨h.id0, h.id5, h.log, h.base0, h.base1, h.conf0, h.conf1⟩
theorem Bd.lead {n : Nd} (h : Bd n) (hl : n.log.length < 100000000) : Bd (leadN n) := by
  have hc : confF (leadN n) = confF n := conf_app n _ rfl _ _ _
  exact ⟨h.id0, h.id5, by simp [leadN]; omega, h.base0, h.base1, by rw [hc]; exact h.conf0, by rw [hc]; exact h.conf1⟩
theorem ei_cells (v : Int) : (ei v).cells.length = 1 := rfl
theorem wkC_len (n : Nd) (vl vo : Value) : (wkC n vl vo).length = 23 := rfl
theorem lay_nextF {n : Nd} {vl vo : Value} {k : Nat} (hk : k < 5) (v : Int) : lay (wkC n vl vo) (0 + 0 + 12 + (k : Int).toNat * 1) (T.v (.int .i64 v)).cells = wkC { n with next := n.next.set k v } vl vo := by
  rcases (by omega : k = 0 ∨ k = 1 ∨ k = 2 ∨ k = 3 ∨ k = 4) with rfl | rfl | rfl | rfl | rfl <;> rfl
theorem lay_mtchF {n : Nd} {vl vo : Value} {k : Nat} (hk : k < 5) (v : Int) : lay (wkC n vl vo) (0 + 0 + 17 + (k : Int).toNat * 1) (T.v (.int .i64 v)).cells = wkC { n with mtch := n.mtch.set k v } vl vo := by
  rcases (by omega : k = 0 ∨ k = 1 ∨ k = 2 ∨ k = 3 ∨ k = 4) with rfl | rfl | rfl | rfl | rfl <;> rfl
theorem owes_fn {b : Nat} {n : Nd} {out : List Ms} {H : Heap} (hn : Bd n) (hx : ∀ i, n.next.get i ≤ 100000000000) (ho : out.length ≤ 900) (hw : WkH b n out H) :
    FnH Tryz.prog 49 [pW b, .clo 50 [pW b] []] H (fun r H' => r = .tup [] ∧ WkH b n (out ++ toAll n (oweF n) 5) H') := by
  have hO := others_fn (Hc := []) (oweF n) 50 [pW b] [] (by rfl) hn ho hw (fun to out' H2 h0 h5 ho2 hw2 => by
    have := owe_fn to h0 h5 (by have := hn.log; omega) (by have := hn.base0; omega) (by have := hn.base1; omega) (hx _) (by omega) hw2
    have := this.mono (Φ' := fun _ H' => ∃ H1, H' = H1 ++ [] ∧ WkH b n (out' ++ [oweF n to]) H1) fun r H' h => ⟨H', by simp, h.2⟩
    rw [← List.append_nil H2] at this
    exact this)
  rw [List.append_nil] at hO
  exact hO.mono fun r H' ⟨h1, H1, h2, h3⟩ => ⟨h1, by rw [h2, List.append_nil]; exact h3⟩
theorem F5.get_all (v : Int) (i : Nat) : (F5.all v).get i = v := by
  unfold F5.get F5.all
  split <;> rfl
theorem leadF_next {n : Nd} {i : Nat} : (leadF n).next.get i = n.base + (n.log.length + 1) := by
  obtain ⟨c, r, w, e⟩ := commitF_eq (leadN n)
  rw [leadF, e]
  exact F5.get_all _ _
set_option maxHeartbeats 2000000 in
theorem lead_fn {b : Nat} {n : Nd} {out : List Ms} {H : Heap} (hn : Bd n) (hl : n.log.length < 100000000) (ho : out.length ≤ 900) (hw : WkH b n out H) :
    FnH Tryz.prog 76 [pW b] H (fun r H' => r = .tup [] ∧ WkH b (leadF n) (out ++ toAll (leadF n) (oweF (leadF n)) 5) H') := by
  have hb0 := hn.base0
  have hb1 := hn.base1
  have hi0 := hn.id0
  have hi5 := hn.id5
  refine fn_enter Tryz.func76 (by rfl) (by rfl) ?_
  intro S0 w0
  show Sim _ _ [(0, pW b)] _ _
  obtain ⟨vl, vo, Hl, Ho, h1, h2, rfl⟩ := hw
  obtain ⟨p, c, rfl⟩ := h1.len
  obtain ⟨q, d, rfl⟩ := h2.len
  (repeat (first | apply cn | apply cq | apply cb | apply ck | apply cl | apply cx))
  apply cr
  refine s_ p_mv ?_
  refine s_ p_nc ?_
  refine s_ p_fr ?_
  refine s_ p_fr ?_
  refine e_st ?_
  (repeat (first | apply cn | apply cq | apply cb | apply ck | apply cl | apply cx))
  (repeat (first | apply cn | apply cq | apply cb | apply ck | apply cl | apply cx))
  refine ca [0, 1, 2, 3, 4, 5, 6, 7, 8, 9, 10, 11, 12, 13, 14, 15, 16, 17] [13, 17] ?_
  refine a_ (fun _ => p_mv) ?_
  refine a_ (fun _ => p_mv) ?_
  refine a_ (fun _ => p_nc) ?_
  refine a_ (fun _ => p_fr) ?_
  refine a_ (fun _ => p_fr) ?_
  refine a_lo ?_
  refine a_ (fun _ => p_mv) ?_
  refine a_ (fun _ => p_nc) ?_
  refine a_ (fun _ => p_fr) ?_
  refine a_ (fun _ => p_fr) ?_
  refine a_lo ?_
  refine a_ (fun _ => p_bd 3 [_, _, _]) ?_
  refine a_ (fun _ => p_bs) ?_
  refine a_os (ho := h1) (A := [_]) (B := Ho ++ []) (een3 n.log) (fun v' Hl' h1' => ⟨by (repeat (first | exact trivial | (apply And.intro; focus (intro hb; first | exact trivial | exact noB hb rfl | (repeat (first | exact hZ | apply hS | apply hA)))))), ?_⟩)
  (apply Exists.intro; apply And.intro; (focus (repeat (first | exact PDrop.nil | apply PDrop.dropL rfl | apply PDrop.keep))))
  have h1 : OE (n.log ++ [⟨n.term, 0, []⟩]) v' Hl' := by unfold OE; rw [List.map_append]; exact h1'
  clear h1'
  obtain ⟨p, c, rfl⟩ := h1.len
  refine a_ (fun _ => p_nc) ?_
  refine a_ (fun _ => p_fr) ?_
  refine a_ (fun _ => p_fr) ?_
  refine a_st ?_
  apply an
  (repeat (first | apply cn | apply cq | apply cb | apply ck | apply cl | apply cx))
  have hL := last_fn { n with role := 2, log := n.log ++ [⟨n.term, 0, []⟩] } (by simp; omega) (by simp only; omega) (by simp only; omega)
  (repeat (first | apply cn | apply cq | apply cb | apply ck | apply cl | apply cx))
  apply cr
  refine s_ p_mv ?_
  refine s_ p_nc ?_
  refine s_ p_fr ?_
  refine s_ p_loa ?_
  refine s_ (p_cLA hL (LendsL.cons (Lends.agg (node_lends _ (h1.lend (by intro p hp; simp [hp])))) LendsL.nil)) ?_
  refine s_ p_mv ?_
  refine s_ p_ex ?_
  refine s_ p_ex ?_
  refine s_ p_as ?_
  refine s_ p_as ?_
  (repeat (first | apply cn | apply cq | apply cb | apply ck | apply cl | apply cx))
  apply cr
  refine s_ p_mv ?_
  (repeat (first | apply cn | apply cq | apply cb | apply ck | apply cl | apply cx))
  have hLF : lastF { n with role := 2, log := n.log ++ [⟨n.term, 0, []⟩] } = n.base + (n.log.length + 1) := by simp [lastF]
  rw [hLF]
  generalize hv : n.base + (n.log.length + 1) = v
  apply sim_loopL (σ := Nat) (ok := fun k => k ≤ 5) (env := fun k => [(34, ei (k : Nat)), (2, ei v), (0, pW b)])
    (heap := fun k => (b, ⟨tW, wkC { n with role := 2, log := n.log ++ [⟨n.term, 0, []⟩], next := fillF n.next v k, mtch := fillF n.mtch 0 k } (.slice p ((n.log ++ [(⟨n.term, 0, []⟩ : En)]).map een).length c) (.slice q (out.map ms).length d), 23⟩) :: (Hl' ++ (Ho ++ []))) (μ := fun k => 5 - k) (s0 := 0)
  · exact Nat.zero_le _
  · exact eL
  · exact kR
  · intro k hk
    (repeat (first | apply cn | apply cq | apply cb | apply ck | apply cl | apply cx))
    apply cr
    refine s_ p_lt ?_
    (repeat (first | apply cn | apply cq | apply cb | apply ck | apply cl | apply cx))
    refine ci ?_ ?_
    · intro hlt
      have hk5 : k < 5 := by omega
      (repeat (first | apply cn | apply cq | apply cb | apply ck | apply cl | apply cx))
      apply cr
      refine s_ p_mv ?_
      refine s_ p_as ?_
      (repeat (first | apply cn | apply cq | apply cb | apply ck | apply cl | apply cx))
      refine ca [0, 1, 2, 3, 4, 5, 6, 7, 8, 10, 11, 12, 9, 13, 14] [9, 14] ?_
      refine a_ (fun _ => p_mv) ?_
      refine a_ (fun _ => p_mv) ?_
      refine a_ (fun _ => p_mv) ?_
      refine a_ (fun _ => p_mv) ?_
      refine a_ (fun _ => p_mv) ?_
      refine a_ (fun _ => p_nc) ?_
      refine a_ (fun _ => p_fr) ?_
      refine a_ (fun _ => p_fr) ?_
      refine a_ (fun _ => p_ar) ?_
      refine a_ (fun _ => p_nc) ?_
      refine a_ (fun _ => p_fr) ?_
      refine a_ (fun _ => p_fr) ?_
      refine a_ss ?_ ?_
      · simp only [wkC_len, ei_cells]; omega
      refine a_ (fun _ => p_ar) ?_
      refine a_ss ?_ ?_
      · simp only [wkC_len, ei_cells, lay_len, Value.cells, T.cells, List.length_map]; simp; omega
      apply an
      (repeat (first | apply cn | apply cq | apply cb | apply ck | apply cl | apply cx))
      apply cr
      refine s_ p_ad ?_
      refine s_ p_mv ?_
      (repeat (first | apply cn | apply cq | apply cb | apply ck | apply cl | apply cx))
      refine ⟨k + 1, by omega, by show 5 - (k + 1) < 5 - k; omega, ⟨le_get (by rfl) (Le.refl _), eL⟩, ?_⟩
      show HeapFront ((b, ⟨_, lay (lay _ _ (T.v (.int .i64 v)).cells) _ (T.v (.int .i64 0)).cells, _⟩) :: _) _
      rw [lay_nextF hk5, lay_mtchF hk5]
      exact kR
    · intro hlt
      have : k = 5 := by omega
      subst this
      (repeat (first | apply cn | apply cq | apply cb | apply ck | apply cl | apply cx))
      refine ca [0, 1, 2, 3, 4, 5, 6, 7, 8, 9, 10, 11] [11] ?_
      refine a_ (fun _ => p_mv) ?_
      refine a_ (fun _ => p_mv) ?_
      refine a_ (fun _ => p_nc) ?_
      refine a_ (fun _ => p_fr) ?_
      refine a_ (fun _ => p_fr) ?_
      refine a_lo ?_
      refine a_ (fun _ => p_mv) ?_
      refine a_ (fun _ => p_nc) ?_
      refine a_ (fun _ => p_fr) ?_
      refine a_ (fun _ => p_fr) ?_
      refine a_ (fun _ => p_ar) ?_
      refine a_ss ?_ ?_
      · simp only [wkC_len, ei_cells]; omega
      apply an
      (repeat (first | apply cn | apply cq | apply cb | apply ck | apply cl | apply cx))
      have hm : lay (wkC { n with role := 2, log := n.log ++ [⟨n.term, 0, []⟩], next := fillF n.next v 5, mtch := fillF n.mtch 0 5 } (.slice p ((n.log ++ [(⟨n.term, 0, []⟩ : En)]).map een).length c) (.slice q (out.map ms).length d)) (0 + 0 + 17 + n.id.toNat * 1) (ei v).cells = wkC (leadN n) (.slice p ((n.log ++ [(⟨n.term, 0, []⟩ : En)]).map een).length c) (.slice q (out.map ms).length d) := by
        obtain ⟨i, hi⟩ : ∃ i : Nat, n.id = (i : Int) := ⟨n.id.toNat, by omega⟩
        rw [leadN, hv, hi]
        rcases (by omega : i = 0 ∨ i = 1 ∨ i = 2 ∨ i = 3 ∨ i = 4) with rfl | rfl | rfl | rfl | rfl <;> rfl
      have hw : WkH b (leadN n) out ((b, ⟨tW, lay (wkC { n with role := 2, log := n.log ++ [⟨n.term, 0, []⟩], next := fillF n.next v 5, mtch := fillF n.mtch 0 5 } (.slice p ((n.log ++ [(⟨n.term, 0, []⟩ : En)]).map een).length c) (.slice q (out.map ms).length d)) (0 + 0 + 17 + n.id.toNat * 1) (ei v).cells, 23⟩) :: (Hl' ++ (Ho ++ []))) := by
        rw [hm]
        exact ⟨_, _, Hl', Ho, h1, h2, rfl⟩
      have hnl := hn.lead hl
      have hnc := hnl.commit
      (repeat (first | apply cn | apply cq | apply cb | apply ck | apply cl | apply cx))
      apply cr
      refine s_ p_mv ?_
      refine e_cHA (commit_fn hnl hw) (fun r H' ⟨hr, hw'⟩ => ?_)
      subst hr
      
      (repeat (first | apply cn | apply cq | apply cb | apply ck | apply cl | apply cx))
      apply cr
      refine s_ p_mv ?_
      refine s_ p_mv ?_
      refine s_ p_mf ?_
      refine e_cHA (owes_fn hnc (fun i => by have := leadF_next (n := n) (i := i); unfold leadF at this; rw [this]; omega) ho hw') (fun r H' ⟨hr, hw''⟩ => ?_)
      subst hr
      (repeat (first | apply cn | apply cq | apply cb | apply ck | apply cl | apply cx))
      exact rhn kR ⟨rfl, hw''⟩ (Le.refl _)
end Go.Proofs.YtbdpfclnomiicaaGreat
