/-
  replica: entries laid by one that follows.
-/
import Derived.Test.YtbdpfclnomiicaaGreatHeard
set_option maxRecDepth 4000
namespace Go.Proofs.YtbdpfclnomiicaaGreat
open Go.Cap
set_option linter.unusedSimpArgs false
set_option linter.unusedVariables false
attribute [local irreducible] POp SimFrom DrawFrom EOp Sim FnH T.gp
def quietN (n : Nd) : Nd := { n with role := 0, wait := 0 }
theorem follow_fn' {b : Nat} {n : Nd} {out : List Ms} {H : Heap} (m : Ms) (hb : out.length ≤ 1000) (hw : WkH b n out H) :
    FnH Tryz.prog 78 [pW b, ms m] H (fun r H' => r = .v (.bool (decide (¬ m.term < n.term))) ∧ WkH b (if m.term < n.term then n else quietN n) (if m.term < n.term then out ++ [sendF n m.frm (addedM false 0)] else out) H') :=
  (follow_fn m hb hw).mono fun r H' h => by
    by_cases hlt : m.term < n.term
    · rw [if_pos hlt] at h
      rw [if_pos hlt, if_pos hlt]
      exact ⟨by rw [h.1]; simp [hlt, eB], h.2⟩
    · rw [if_neg hlt] at h
      rw [if_neg hlt, if_neg hlt]
      exact ⟨by rw [h.1]; simp [hlt, eB], h.2⟩
def layK (n : Nd) (m : Ms) : Nat → List En
  | 0 => n.log
  | i + 1 => if m.index - n.base + i < (layK n m i).length ∧ ((layK n m i).getD (m.index - n.base + i).toNat default).term = (m.entries.getD i default).term then layK n m i
    else (layK n m i).take (min (m.index - n.base + i) (layK n m i).length).toNat ++ [m.entries.getD i default]
theorem layK_len (n : Nd) (m : Ms) : ∀ i, (layK n m i).length ≤ n.log.length + i
  | 0 => Nat.le_refl _
  | i + 1 => by
    have := layK_len n m i
    rw [layK]
    split
    · omega
    · simp; omega
def addN (n : Nd) (m : Ms) : Nd := { quietN n with log := layK n m m.entries.length, commit := max n.commit (min m.commit (m.index + m.entries.length)) }
def addF (n : Nd) (m : Ms) : Nd × List Ms := if m.term < n.term then (n, [sendF n m.frm (addedM false 0)]) else
  if m.index < n.base then (quietN n, [sendF (quietN n) m.frm (addedM true n.base)]) else
  if lastF n < m.index ∨ ¬ termF n m.index = m.logTerm then (quietN n, [sendF (quietN n) m.frm (addedM false (min (lastF n) (m.index - 1)))]) else
  (addN n m, [sendF (addN n m) m.frm (addedM true (m.index + m.entries.length))])
theorem flat_at {k : Nat} {xs : List T} {i j : Nat} {x d : T} (hk : ∀ y ∈ xs, y.cells.length = k) (h : xs[i]? = some x) (hj : j < k) (hd : x.cells[j]? = some d) : (xs.flatMap T.cells)[0 + i * k + j]? = some d := by
  have ⟨h1, h2⟩ := flat_get hk h
  have h3 : (((xs.flatMap T.cells).drop (i * k)).take k)[j]? = some d := by rw [h1, hd]
  rw [List.getElem?_take, if_pos hj, List.getElem?_drop] at h3
  rw [Nat.zero_add]
  exact h3
theorem OE.at {l : List En} {p : Option Addr} {n c : Nat} {Hs : Heap} (h : OE l (.slice p n c) Hs) : ∃ bl, 0 < l.length → p = some ⟨bl, 0, none⟩ ∧ (bl, (⟨tE, (l.map een).flatMap T.cells, c * 3⟩ : Blk)) ∈ Hs := by
  rcases h with ⟨h, _⟩ | ⟨bl, c', e, _, rfl⟩
  · have : l = [] := by simpa using h
    exact ⟨0, fun h => by rw [this] at h; simp at h⟩
  · cases e; exact ⟨bl, fun _ => ⟨rfl, List.mem_singleton.2 rfl⟩⟩
theorem OE.sub0 {l : List En} {p : Option Addr} {n c : Nat} {Hs : Heap} (h : OE l (.slice p n c) Hs) (j : Nat) : subV 3 p c 0 j = .slice p j c := by
  rcases h with ⟨_, ⟨q, e⟩, _⟩ | ⟨bl, c', e, _, _⟩
  · cases e; cases p <;> rfl
  · cases e
    unfold subV
    by_cases hc : c = 0 <;> simp [hc, Addr.add_mk]
set_option maxHeartbeats 4000000 in
theorem add_fn {b : Nat} {n : Nd} {out : List Ms} {H : Heap} (m : Ms) (hn : Bd n) (hl : n.log.length + m.entries.length ≤ 100000000) (hi0 : -50000000000 ≤ m.index) (hi1 : m.index ≤ 50000000000) (ho : out.length ≤ 900) (hw : WkH b n out H) :
    FnH Tryz.prog 57 [pW b, ms m] H (fun r H' => r = .tup [] ∧ WkH b (addF n m).1 (out ++ (addF n m).2) H') := by
  have hb0 := hn.base0
  have hb1 := hn.base1
  have hlog := hn.log
  have hL := last_fn (quietN n) (by show n.log.length ≤ _; omega) (by show _ ≤ n.base; omega) (by show n.base ≤ _; omega)
  refine fn_enter Tryz.func57 (by rfl) (by rfl) ?_
  intro S0 w0
  show Sim _ _ [(0, pW b), (1, T.agg (msC m (eens m.entries)))] _ _
  (repeat (first | apply cn | apply cq | apply cb | apply ck | apply cl | apply cx))
  apply cr
  refine e_bx fun b3 _ => ?_
  (repeat (first | apply cn | apply cq | apply cb | apply ck | apply cl | apply cx))
  refine lend1 3 (by simp [msC]) ?_
  (repeat (first | apply cn | apply cq | apply cb | apply ck | apply cl | apply cx))
  apply cr
  refine s_ p_mv ?_
  refine s_ p_la ?_
  refine e_cHA (follow_fn' m (by omega) hw) (fun r H' ⟨hr, hw⟩ => ?_)
  subst hr
  refine s_ p_no ?_
  (repeat (first | apply cn | apply cq | apply cb | apply ck | apply cl | apply cx))
  refine ci ?_ ?_
  · intro hc
    have hlt : m.term < n.term := Decidable.not_not.1 hc
    rw [if_pos hlt, if_pos hlt] at hw
    (apply sim_ret; (try simp only [blockΨ_ret, thenΨ_ret, loopL_ret, cutΨ_ret, cutE_ret]))
    refine rh kR ⟨rfl, ?_⟩ (Le.refl _)
    rw [addF, if_pos hlt]
    exact hw
  intro hc
  have hlt : ¬ m.term < n.term := fun h => hc (fun h' => h' h)
  rw [if_neg hlt, if_neg hlt] at hw
  have hw1 := hw
  obtain ⟨vl, vo, Hl, Ho, h1, h2, rfl⟩ := hw
  obtain ⟨p, c, rfl⟩ := h1.len
  obtain ⟨q, d, rfl⟩ := h2.len
  (repeat (first | apply cn | apply cq | apply cb | apply ck | apply cl | apply cx))
  apply cr
  refine s_ p_mv ?_
  refine s_ p_nc ?_
  refine s_ p_fr ?_
  refine s_ p_loa ?_
  refine s_ (p_cLA hL (LendsL.cons (Lends.agg (node_lends (quietN n) (h1.lend (by intro p hp; simp [hp])))) LendsL.nil)) ?_
  refine s_ p_mv ?_
  refine s_ p_ex ?_
  refine s_ p_ex ?_
  refine s_ p_as ?_
  refine s_ p_as ?_
  (repeat (first | apply cn | apply cq | apply cb | apply ck | apply cl | apply cx))
  refine ca [0, 1, 2, 3, 4, 5, 6, 7, 8] [] ?_
  refine a_ (fun _ => p_fa) ?_
  refine a_ (fun _ => p_ld) ?_
  refine a_ (fun _ => p_mv) ?_
  refine a_ (fun _ => p_nc) ?_
  refine a_ (fun _ => p_fr) ?_
  refine a_ (fun _ => p_fr) ?_
  refine a_lo ?_
  refine a_ (fun _ => p_lt) ?_
  refine a_ (fun _ => p_as) ?_
  apply an
  (repeat (first | apply cn | apply cq | apply cb | apply ck | apply cl | apply cx))
  refine ci ?_ ?_
  · intro hlo
    (repeat (first | apply cn | apply cq | apply cb | apply ck | apply cl | apply cx))
    refine ca [0, 1, 2, 3, 4, 5, 6, 7, 8] [8] ?_
    refine a_ (fun _ => p_mv) ?_
    refine a_ (fun _ => p_fa) ?_
    refine a_ (fun _ => p_ld) ?_
    refine a_ (fun _ => p_mv) ?_
    refine a_ (fun _ => p_nc) ?_
    refine a_ (fun _ => p_fr) ?_
    refine a_ (fun _ => p_fr) ?_
    refine a_lo ?_
    refine a_cH (FnH.of_le ?_ (added_fn m.frm true n.base (by omega) hw1)) (fun r H' ⟨hr, h3⟩ => ⟨by (repeat (first | exact trivial | (apply And.intro; focus (intro hb; first | exact trivial | exact noB hb rfl | (repeat (first | exact hZ | apply hS | apply hA)))))), ?_⟩)
    · ((repeat (apply LeL.cons; (first | exact Le.refl _ | exact Le.nil _ | exact Le.full _ _ | exact Le.any _ | (apply Le.agg; (repeat (apply LeL.cons; (first | exact Le.refl _ | exact Le.nil _ | exact Le.full _ _ | exact Le.any _))); exact LeL.nil) | (apply Le.tup; (repeat (apply LeL.cons; (first | exact Le.refl _ | exact Le.nil _ | exact Le.full _ _ | exact Le.any _ | (apply Le.agg; (repeat (apply LeL.cons; (first | exact Le.refl _ | exact Le.nil _ | exact Le.full _ _ | exact Le.any _))); exact LeL.nil)))); exact LeL.nil)))); exact LeL.nil)
    · (apply Exists.intro; apply And.intro; (focus (repeat (first | exact PDrop.nil | apply PDrop.dropL rfl | apply PDrop.keep))))
      subst hr
      apply an
      (repeat (first | apply cn | apply cq | apply cb | apply ck | apply cl | apply cx))
      (apply sim_ret; (try simp only [blockΨ_ret, thenΨ_ret, loopL_ret, cutΨ_ret, cutE_ret]))
      refine rh kR ⟨rfl, ?_⟩ (Le.refl _)
      have hlo' : m.index < n.base := hlo
      rw [addF, if_neg hlt, if_pos hlo']
      exact h3
  intro hlo
  have hlo' : ¬ m.index < n.base := hlo
  have hT := term_fn (quietN n) m.index (by show n.log.length ≤ _; omega) (by simp only [big]; show _ ≤ n.base; omega) (by simp only [big]; show n.base ≤ _; omega) (by simp only [big]; omega) (by simp only [big]; omega)
  (repeat (first | apply cn | apply cq | apply cb | apply ck | apply cl | apply cx))
  refine ca [0, 1, 2, 3, 4, 5, 6, 7, 8, 9, 10, 11, 12, 13, 14, 15] [] ?_
  refine a_ (fun _ => p_fa) ?_
  refine a_ (fun _ => p_ld) ?_
  refine a_ (fun _ => p_mv) ?_
  refine a_ (fun _ => p_gt) ?_
  refine a_ (fun _ => p_mv) ?_
  refine ag_F (fun _ hg => p_mv) ?_
  refine ag_F (fun _ hg => p_nc (hx := u_ hg)) ?_
  refine ag_F (fun _ hg => p_fr (hx := u_ hg)) ?_
  refine ag_F (fun _ hg => p_fa) ?_
  refine ag_F (fun _ hg => p_ld (hx := u_ hg)) ?_
  refine ag_cLF (G := (b, _) :: (Hl ++ (Ho ++ []))) (fun _ => hT) (fun _ => LendsL.cons (nd_ptr (n := quietN n) h1 (by intro p hp; simp [hp]) List.mem_cons_self) (LendsL.cons (Lends.le (Le.refl _)) LendsL.nil)) ⟨[], perm0⟩ ?_ (fun hg => by refine evl_cons (u_ hg) (evl_cons (u_ hg) evl_nil))
  refine ag_F (fun _ hg => p_fa) ?_
  refine ag_F (fun _ hg => p_ld (hx := u_ hg)) ?_
  refine ag_F (fun _ hg => p_ne (hx := u_ hg) (hy := u_ hg)) ?_
  refine a_ (fun _ => p_or) ?_
  refine a_ (fun _ => p_as) ?_
  apply an
  (repeat (first | apply cn | apply cq | apply cb | apply ck | apply cl | apply cx))
  refine ci ?_ ?_
  · intro hno
    (repeat (first | apply cn | apply cq | apply cb | apply ck | apply cl | apply cx))
    apply cr
    refine s_ p_mv ?_
    refine s_ p_fa ?_
    refine s_ p_ld ?_
    refine s_ p_mv ?_
    refine s_ p_fa ?_
    refine s_ p_ld ?_
    refine s_ p_su ?_
    refine s_ p_mi ?_
    refine e_cHA (FnH.of_le ?_ (added_fn m.frm false (min (lastF n) (m.index - 1)) (by omega) hw1)) (fun r H' ⟨hr, h3⟩ => ?_)
    · ((repeat (apply LeL.cons; (first | exact Le.refl _ | exact Le.nil _ | exact Le.full _ _ | exact Le.any _ | (apply Le.agg; (repeat (apply LeL.cons; (first | exact Le.refl _ | exact Le.nil _ | exact Le.full _ _ | exact Le.any _))); exact LeL.nil) | (apply Le.tup; (repeat (apply LeL.cons; (first | exact Le.refl _ | exact Le.nil _ | exact Le.full _ _ | exact Le.any _ | (apply Le.agg; (repeat (apply LeL.cons; (first | exact Le.refl _ | exact Le.nil _ | exact Le.full _ _ | exact Le.any _))); exact LeL.nil)))); exact LeL.nil)))); exact LeL.nil)
    · subst hr
      (repeat (first | apply cn | apply cq | apply cb | apply ck | apply cl | apply cx))
      (apply sim_ret; (try simp only [blockΨ_ret, thenΨ_ret, loopL_ret, cutΨ_ret, cutE_ret]))
      refine rh kR ⟨rfl, ?_⟩ (Le.refl _)
      have hno' : lastF n < m.index ∨ ¬ termF n m.index = m.logTerm := hno
      rw [addF, if_neg hlt, if_neg hlo', if_pos hno']
      exact h3
  intro hno
  have hno' : ¬ (lastF n < m.index ∨ ¬ termF n m.index = m.logTerm) := hno
  (repeat (first | apply cn | apply cq | apply cb | apply ck | apply cl | apply cx))
  apply cr
  refine s_ p_fa ?_
  refine s_ p_ld ?_
  (first | refine s_ p_ln ?_ | refine s_ p_lr ?_)
  refine s_ p_mv ?_
  (repeat (first | apply cn | apply cq | apply cb | apply ck | apply cl | apply cx))
  apply sim_loopL (σ := Nat × Heap) (ok := fun s => s.1 ≤ m.entries.length ∧ WkH b { quietN n with log := layK n m s.1 } out s.2) (env := fun s => [(68, ei (s.1 : Nat)), (67, ei ((m.entries.map een).length : Nat)), (66, eens m.entries), (3, .adr (.agg (msC m (eens m.entries)))), (0, pW b)])
    (heap := fun s => s.2) (μ := fun s => m.entries.length - s.1) (s0 := (0, (b, ⟨tW, wkC (quietN n) (.slice p (n.log.map een).length c) (.slice q (out.map ms).length d), 23⟩) :: (Hl ++ (Ho ++ []))))
  · exact ⟨Nat.zero_le _, hw1⟩
  · exact eL
  · exact kR
  rintro ⟨i, H⟩ ⟨hi, hw⟩
  simp only at hi hw
  clear h1 h2 hw1
  obtain ⟨vl, vo, Hl, Ho, h1, h2, rfl⟩ := hw
  simp only at h1
  obtain ⟨p, c, rfl⟩ := h1.len
  obtain ⟨q, d, rfl⟩ := h2.len
  have hlk := layK_len n m i
  have hqb : (quietN n).base = n.base := rfl
  (repeat (first | apply cn | apply cq | apply cb | apply ck | apply cl | apply cx))
  apply cr
  refine s_ p_lt ?_
  (repeat (first | apply cn | apply cq | apply cb | apply ck | apply cl | apply cx))
  refine ci ?_ ?_
  · intro hlt2
    simp only [List.length_map] at hlt2
    have hix : i < m.entries.length := by omega
    have hge : m.entries.getD i default = m.entries[i] := by simp [hix]
    (repeat (first | apply cn | apply cq | apply cb | apply ck | apply cl | apply cx))
    apply cr
    refine s_ p_mv ?_
    (first | refine s_ (p_ix hix) ?_ | refine s_ (p_ix hix2) ?_ | refine s_ p_ia ?_ | refine s_ p_ir ?_)
    (first | refine s_ p_la ?_ | refine s_ p_loa ?_)
    refine e_al fun b7 _ => ?_
    refine s_ p_as ?_
    refine e_st ?_
    (repeat (first | apply cn | apply cq | apply cb | apply ck | apply cl | apply cx))
    refine ca [0, 1, 2, 3, 4, 5, 6, 7, 8, 9, 10] [] ?_
    refine a_ (fun _ => p_fa) ?_
    refine a_ (fun _ => p_ld) ?_
    refine a_ (fun _ => p_mv) ?_
    refine a_ (fun _ => p_nc) ?_
    refine a_ (fun _ => p_fr) ?_
    refine a_ (fun _ => p_fr) ?_
    refine a_lo ?_
    refine a_ (fun _ => p_su) ?_
    refine a_ (fun _ => p_mv) ?_
    refine a_ (fun _ => p_ad) ?_
    refine a_ (fun _ => p_as) ?_
    apply an
    (repeat (first | apply cn | apply cq | apply cb | apply ck | apply cl | apply cx))
    rw [hqb]
    generalize hk : m.index - n.base + (i : Nat) = k
    have hk0 : 0 ≤ k := by omega
    obtain ⟨bl, hbl⟩ := h1.at
    (repeat (first | apply cn | apply cq | apply cb | apply ck | apply cl | apply cx))
    refine ca [0, 1, 2, 3, 4, 5, 6, 7, 8, 9, 10, 11, 12, 13, 14, 15, 16, 17, 18, 19, 20, 21] [] ?_
    refine a_ (fun _ => p_mv) ?_
    refine a_ (fun _ => p_mv) ?_
    refine a_ (fun _ => p_nc) ?_
    refine a_ (fun _ => p_fr) ?_
    refine a_ (fun _ => p_fr) ?_
    refine a_lo ?_
    (first | refine a_ (fun _ => p_ln) ?_ | refine a_ (fun _ => p_lr) ?_)
    refine a_ (fun _ => p_lt) ?_
    refine a_ (fun _ => p_mv) ?_
    refine ag_T (fun _ hg => p_mv) ?_
    refine ag_T (fun _ hg => p_nc (hx := u_ hg)) ?_
    refine ag_T (fun _ hg => p_fr (hx := u_ hg)) ?_
    refine ag_T (fun _ hg => p_fr (hx := u_ hg)) ?_
    refine ag_loT ?_
    refine ag_T (fun _ hg => p_mv) ?_
    have hkl : k < (((layK n m i).map een).length : Nat) → k.toNat < (layK n m i).length := fun h => by rw [List.length_map] at h; omega
    refine ag_T (p := k < (((layK n m i).map een).length : Nat)) (fun _ hg => p_irG (hbl (by have := hkl hg; omega)).1 (hx := u_ hg) (hy := u_ hg)) ?_
    refine ag_T (fun _ hg => p_fr (hx := u_ hg)) ?_
    refine ag_loTc (p := k < (((layK n m i).map een).length : Nat)) (b := bl) (fun hg => List.mem_cons_of_mem _ (List.mem_cons_of_mem _ (List.mem_append_left _ (hbl (by have := hkl hg; omega)).2))) (fun hg => flat_at (k := 3) (j := 0) (een3 _) (een_get _ (hkl hg)) (by decide) rfl) ?_
    refine ag_T (fun _ hg => p_fr) ?_
    refine ag_loT ?_
    refine ag_T (fun _ hg => p_eq (hx := u_ hg) (hy := u_ hg)) ?_
    refine a_ (fun _ => p_an) ?_
    apply an
    (repeat (first | apply cn | apply cq | apply cb | apply ck | apply cl | apply cx))
    refine ci ?_ ?_
    · intro hsame
      have hs : layK n m (i + 1) = layK n m i := by rw [layK, hk, hge, if_pos ⟨by have := hsame.1; rw [List.length_map] at this; exact this, hsame.2⟩]
      (repeat (first | apply cn | apply cq | apply cb | apply ck | apply cl | apply cx))
      apply cr
      refine s_ p_ad ?_
      refine s_ p_mv ?_
      (repeat (first | apply cn | apply cq | apply cb | apply ck | apply cl | apply cx))
      refine ⟨(i + 1, _), ⟨hix, ?_⟩, by show m.entries.length - (i + 1) < m.entries.length - i; omega, ⟨le_get (by rfl) (Le.refl _), eL⟩, kS kR⟩
      simp only
      rw [hs]
      exact ⟨_, _, Hl, Ho, h1, h2, rfl⟩
    · intro hdiff
      have hs : layK n m (i + 1) = (layK n m i).take (min k (layK n m i).length).toNat ++ [m.entries[i]] := by
        rw [layK, hk, hge, if_neg fun h => hdiff ⟨by rw [List.length_map]; exact h.1, h.2⟩]
      have hcap : ((layK n m i).map een).length ≤ c := OSl.cap h1
      (repeat (first | apply cn | apply cq | apply cb | apply ck | apply cl | apply cx))
      refine ca [0, 1, 2, 3, 4, 5, 6, 7, 8, 9, 10, 11, 12, 13, 14, 15, 16, 17, 18, 19, 20, 21] [17, 21] ?_
      refine a_ (fun _ => p_mv) ?_
      refine a_ (fun _ => p_mv) ?_
      refine a_ (fun _ => p_nc) ?_
      refine a_ (fun _ => p_fr) ?_
      refine a_ (fun _ => p_fr) ?_
      refine a_lo ?_
      refine a_ (fun _ => p_mv) ?_
      refine a_ (fun _ => p_mv) ?_
      refine a_ (fun _ => p_nc) ?_
      refine a_ (fun _ => p_fr) ?_
      refine a_ (fun _ => p_fr) ?_
      refine a_lo ?_
      (first | refine a_ (fun _ => p_ln) ?_ | refine a_ (fun _ => p_lr) ?_)
      refine a_ (fun _ => p_mi) ?_
      refine a_ (fun _ => p_sbh (v := .slice p (min k (((layK n m i).map een).length : Nat)).toNat c) hcap (by exact h1.sub0 _)) ?_
      refine a_loa ?_
      refine a_ (fun _ => p_bs) ?_
      refine a_osT (A := [_, _]) (B := Ho ++ []) (ys := [een m.entries[i]]) h1 (een3 _) (min k ((layK n m i).length : Nat)).toNat (fun v' Hl' h1' => ⟨by (repeat (first | exact trivial | (apply And.intro; focus (intro hb; first | exact trivial | exact noB hb rfl | (repeat (first | exact hZ | apply hS | apply hA)))))), ?_⟩) (hx := ?_)
      · (apply Exists.intro; apply And.intro; (focus (repeat (first | exact PDrop.nil | apply PDrop.dropL rfl | apply PDrop.keep))))
        have h1 : OE ((layK n m i).take (min k (layK n m i).length).toNat ++ [m.entries[i]]) v' Hl' := by unfold OE; rw [List.map_append, List.map_take]; exact h1'
        clear h1'
        obtain ⟨p, c, rfl⟩ := h1.len
        refine a_ (fun _ => p_nc) ?_
        refine a_ (fun _ => p_fr) ?_
        refine a_ (fun _ => p_fr) ?_
        refine a_st ?_
        apply an
        (repeat (first | apply cn | apply cq | apply cb | apply ck | apply cl | apply cx))
        apply cr
        refine s_ p_ad ?_
        refine s_ p_mv ?_
        (repeat (first | apply cn | apply cq | apply cb | apply ck | apply cl | apply cx))
        refine ⟨(i + 1, _), ⟨hix, ?_⟩, by show m.entries.length - (i + 1) < m.entries.length - i; omega, ⟨le_get (by rfl) (Le.refl _), eL⟩, kS kR⟩
        simp only
        rw [hs]
        exact ⟨_, _, Hl', Ho, h1, h2, rfl⟩
      · refine Eq.trans (by first | ((repeat (apply eS; rfl)); exact eZ) | exact ev_int | exact ev_bool | exact ev_nil | exact ev_str | exact ev_ptr | exact ev_agg | exact ev_map | exact ev_nilf | exact ev_nili | exact ev_func) ?_
        have e : (min k (((layK n m i).map een).length : Nat)).toNat = min (min k ((layK n m i).length : Nat)).toNat ((layK n m i).map een).length := by rw [List.length_map]; omega
        rw [e]
  · intro hlt2
    simp only [List.length_map] at hlt2
    have : i = m.entries.length := by omega
    subst this
    have hel : ((m.entries.map een).length : Int) = (m.entries.length : Int) := by simp
    (repeat (first | apply cn | apply cq | apply cb | apply ck | apply cl | apply cx))
    apply cr
    refine s_ p_fa ?_
    refine s_ p_ld ?_
    refine s_ p_fa ?_
    refine s_ p_ld ?_
    (first | refine s_ p_ln ?_ | refine s_ p_lr ?_)
    refine s_ p_ad ?_
    refine s_ p_as ?_
    (repeat (first | apply cn | apply cq | apply cb | apply ck | apply cl | apply cx))
    refine ca [0, 1, 2, 3, 4, 5, 6, 7, 8, 9, 10, 11, 12, 13, 14] [14] ?_
    refine a_ (fun _ => p_mv) ?_
    refine a_ (fun _ => p_mv) ?_
    refine a_ (fun _ => p_nc) ?_
    refine a_ (fun _ => p_fr) ?_
    refine a_ (fun _ => p_fr) ?_
    refine a_lo ?_
    refine a_ (fun _ => p_fa) ?_
    refine a_ (fun _ => p_ld) ?_
    refine a_ (fun _ => p_mv) ?_
    refine a_ (fun _ => p_mi) ?_
    refine a_ (fun _ => p_ma) ?_
    refine a_ (fun _ => p_nc) ?_
    refine a_ (fun _ => p_fr) ?_
    refine a_ (fun _ => p_fr) ?_
    refine a_st ?_
    apply an
    (repeat (first | apply cn | apply cq | apply cb | apply ck | apply cl | apply cx))
    apply cr
    refine s_ p_mv ?_
    refine s_ p_fa ?_
    refine s_ p_ld ?_
    refine s_ p_mv ?_
    rw [hel]
    refine e_cHA (FnH.of_le ?_ (added_fn m.frm true (m.index + m.entries.length) (by omega) (show WkH b (addN n m) out _ from ⟨_, _, Hl, Ho, h1, h2, rfl⟩))) (fun r H' ⟨hr, h3⟩ => ?_)
    · ((repeat (apply LeL.cons; (first | exact Le.refl _ | exact Le.nil _ | exact Le.full _ _ | exact Le.any _ | (apply Le.agg; (repeat (apply LeL.cons; (first | exact Le.refl _ | exact Le.nil _ | exact Le.full _ _ | exact Le.any _))); exact LeL.nil) | (apply Le.tup; (repeat (apply LeL.cons; (first | exact Le.refl _ | exact Le.nil _ | exact Le.full _ _ | exact Le.any _ | (apply Le.agg; (repeat (apply LeL.cons; (first | exact Le.refl _ | exact Le.nil _ | exact Le.full _ _ | exact Le.any _))); exact LeL.nil)))); exact LeL.nil)))); exact LeL.nil)
    · subst hr
      (repeat (first | apply cn | apply cq | apply cb | apply ck | apply cl | apply cx))
      refine rhn kR ⟨rfl, ?_⟩ (Le.refl _)
      rw [addF, if_neg hlt, if_neg hlo', if_neg hno']
      exact h3
end Go.Proofs.YtbdpfclnomiicaaGreat
