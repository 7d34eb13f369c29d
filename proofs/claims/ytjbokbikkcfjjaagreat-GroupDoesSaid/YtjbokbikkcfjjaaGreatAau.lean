/-
  replica: entries laid by one that follows.
  replica: a snapshot, laid by one that follows.
  replica: Tick.
-/
import Derived.Test.YtjbokbikkcfjjaaGreatAat
section
set_option maxRecDepth 4000
namespace Go.Proofs.YtjbokbikkcfjjaaGreat
open Go.Cap
set_option linter.unusedSimpArgs false
set_option linter.unusedVariables false
attribute [local irreducible] POp SimFrom DrawFrom EOp Sim FnH T.gp
def quietN (n : Nd) : Nd := { n with role := 0, wait := 0 }
theorem follow_fn' {b : Nat} {n : Nd} {out : List Ms} {H : Heap} (m : Ms) (hb : out.length ≤ 1000) (hw : WkH b n out H) :
    FnH Tryz.prog 157 [pW b, ms m] H (fun r H' => r = .v (.bool (decide (¬ m.term < n.term))) ∧ WkH b (if m.term < n.term then n else quietN n) (if m.term < n.term then out ++ [sendF n m.frm (addedM false 0)] else out) H') :=
  (follow_fn m hb hw).mono fun r H' h => by
    by_cases hlt : m.term < n.term
    · rw [if_pos hlt] at h
      rw [if_pos hlt, if_pos hlt]
      exact ⟨by rw [h.1]; simp [hlt, eB], h.2⟩
    · rw [if_neg hlt] at h
      rw [if_neg hlt, if_neg hlt]
      exact ⟨by rw [h.1]; simp [hlt, eB], h.2⟩
def layK (n : Nd) (m : Ms) : Nat → List En
  | 0 => n.log
  | i + 1 => if m.index - n.base + i < (layK n m i).length ∧ ((layK n m i).getD (m.index - n.base + i).toNat default).term = (m.entries.getD i default).term then layK n m i
    else (layK n m i).take (min (m.index - n.base + i) (layK n m i).length).toNat ++ [m.entries.getD i default]
theorem layK_len (n : Nd) (m : Ms) : ∀ i, (layK n m i).length ≤ n.log.length + i
  | 0 => Nat.le_refl _
  | i + 1 => by
    have := layK_len n m i
    rw [layK]
    split
    · omega
    · simp; omega
def addN (n : Nd) (m : Ms) : Nd := { quietN n with log := layK n m m.entries.length, commit := max n.commit (min m.commit (m.index + m.entries.length)) }
def addF (n : Nd) (m : Ms) : Nd × List Ms := if m.term < n.term then (n, [sendF n m.frm (addedM false 0)]) else
  if m.index < n.base then (quietN n, [sendF (quietN n) m.frm (addedM true n.base)]) else
  if lastF n < m.index ∨ ¬ termF n m.index = m.logTerm then (quietN n, [sendF (quietN n) m.frm (addedM false (min (lastF n) (m.index - 1)))]) else
  (addN n m, [sendF (addN n m) m.frm (addedM true (m.index + m.entries.length))])
theorem flat_at {k : Nat} {xs : List T} {i j : Nat} {x d : T} (hk : ∀ y ∈ xs, y.cells.length = k) (h : xs[i]? = some x) (hj : j < k) (hd : x.cells[j]? = some d) : (xs.flatMap T.cells)[0 + i * k + j]? = some d := by
  have ⟨h1, h2⟩ := flat_get hk h
  have h3 : (((xs.flatMap T.cells).drop (i * k)).take k)[j]? = some d := by rw [h1, hd]
  rw [List.getElem?_take, if_pos hj, List.getElem?_drop] at h3
  rw [Nat.zero_add]
  exact h3
theorem OE.at {l : List En} {p : Option Addr} {n c : Nat} {Hs : Heap} (h : OE l (.slice p n c) Hs) : ∃ bl, 0 < l.length → p = some ⟨bl, 0, none⟩ ∧ (bl, (⟨tE, (l.map een).flatMap T.cells, c * 3⟩ : Blk)) ∈ Hs := by
  rcases h with ⟨h, _⟩ | ⟨bl, c', e, _, rfl⟩
  · have : l = [] := by simpa using h
    exact ⟨0, fun h => by rw [this] at h; simp at h⟩
  · cases e; exact ⟨bl, fun _ => ⟨rfl, List.mem_singleton.2 rfl⟩⟩
theorem OE.sub0 {l : List En} {p : Option Addr} {n c : Nat} {Hs : Heap} (h : OE l (.slice p n c) Hs) (j : Nat) : subV 3 p c 0 j = .slice p j c := by
  rcases h with ⟨_, ⟨q, e⟩, _⟩ | ⟨bl, c', e, _, _⟩
  · cases e; cases p <;> rfl
  · cases e
    unfold subV
    by_cases hc : c = 0 <;> simp [hc, Addr.add_mk]
set_option maxHeartbeats 4000000 in
theorem add_fn {b : Nat} {n : Nd} {out : List Ms} {H : Heap} (m : Ms) (hn : Bd n) (hl : n.log.length + m.entries.length ≤ 100000000) (hi0 : -50000000000 ≤ m.index) (hi1 : m.index ≤ 50000000000) (ho : out.length ≤ 900) (hw : WkH b n out H) :
    FnH Tryz.prog 135 [pW b, ms m] H (fun r H' => r = .tup [] ∧ WkH b (addF n m).1 (out ++ (addF n m).2) H') := by
  have hb0 := hn.base0
  have hb1 := hn.base1
  have hlog := hn.log
  have hL := last_fn (quietN n) (by show n.log.length ≤ _; omega) (by show _ ≤ n.base; omega) (by show n.base ≤ _; omega)
  refine fn_enter Tryz.func135 (by rfl) (by rfl) ?_
  intro S0 w0
  show Sim _ _ [(0, pW b), (1, T.agg (msC m (eens m.entries)))] _ _
  refine zC ?_
  apply cr
  refine e_bx fun b3 _ => ?_
  refine zC ?_
  refine lend1 3 (by simp [msC]) ?_
  refine zC ?_
  apply cr
  refine s_ p_mv ?_
  refine s_ p_la ?_
  refine e_cHA (follow_fn' m (by omega) hw) (fun r H' ⟨hr, hw⟩ => ?_)
  subst hr
  refine s_ p_no ?_
  refine zC ?_
  refine ci ?_ ?_
  · intro hc
    have hlt : m.term < n.term := Decidable.not_not.1 hc
    rw [if_pos hlt, if_pos hlt] at hw
    refine zR ?_
    refine rh kR ⟨rfl, ?_⟩ (Le.refl _)
    rw [addF, if_pos hlt]
    exact hw
  intro hc
  have hlt : ¬ m.term < n.term := fun h => hc (fun h' => h' h)
  rw [if_neg hlt, if_neg hlt] at hw
  have hw1 := hw
  obtain ⟨vl, vo, Hl, Ho, h1, h2, rfl⟩ := hw
  obtain ⟨p, c, rfl⟩ := h1.len
  obtain ⟨q, d, rfl⟩ := h2.len
  refine zC ?_
  apply cr
  refine s_ p_mv ?_
  refine s_ p_nc ?_
  refine s_ p_fr ?_
  refine s_ p_loa ?_
  refine s_ (p_cLA hL (LendsL.cons (Lends.agg (node_lends (quietN n) (h1.lend (by intro p hp; simp [hp])))) LendsL.nil)) ?_
  refine s_ p_mv ?_
  refine s_ p_ex ?_
  refine s_ p_ex ?_
  refine s_ p_as ?_
  refine s_ p_as ?_
  refine zC ?_
  refine ca [0, 1, 2, 3, 4, 5, 6, 7, 8] [] ?_
  refine a_ (fun _ => p_fa) ?_
  refine a_ (fun _ => p_ld) ?_
  refine a_ (fun _ => p_mv) ?_
  refine a_ (fun _ => p_nc) ?_
  refine a_ (fun _ => p_fr) ?_
  refine a_ (fun _ => p_fr) ?_
  refine a_lo ?_
  refine a_ (fun _ => p_lt) ?_
  refine a_ (fun _ => p_as) ?_
  apply an
  refine zC ?_
  refine ci ?_ ?_
  · intro hlo
    refine zC ?_
    refine ca [0, 1, 2, 3, 4, 5, 6, 7, 8] [8] ?_
    refine a_ (fun _ => p_mv) ?_
    refine a_ (fun _ => p_fa) ?_
    refine a_ (fun _ => p_ld) ?_
    refine a_ (fun _ => p_mv) ?_
    refine a_ (fun _ => p_nc) ?_
    refine a_ (fun _ => p_fr) ?_
    refine a_ (fun _ => p_fr) ?_
    refine a_lo ?_
    refine a_cH (FnH.of_le ?_ (added_fn m.frm true n.base (by omega) hw1)) (fun r H' ⟨hr, h3⟩ => ⟨zd, ?_⟩)
    · ((repeat (apply LeL.cons; (first | exact Le.refl _ | exact Le.nil _ | exact Le.full _ _ | exact Le.any _ | (apply Le.agg; (repeat (apply LeL.cons; (first | exact Le.refl _ | exact Le.nil _ | exact Le.full _ _ | exact Le.any _))); exact LeL.nil) | (apply Le.tup; (repeat (apply LeL.cons; (first | exact Le.refl _ | exact Le.nil _ | exact Le.full _ _ | exact Le.any _ | (apply Le.agg; (repeat (apply LeL.cons; (first | exact Le.refl _ | exact Le.nil _ | exact Le.full _ _ | exact Le.any _))); exact LeL.nil)))); exact LeL.nil)))); exact LeL.nil)
    · refine zD ?_
      subst hr
      apply an
      refine zC ?_
      refine zR ?_
      refine rh kR ⟨rfl, ?_⟩ (Le.refl _)
      have hlo' : m.index < n.base := hlo
      rw [addF, if_neg hlt, if_pos hlo']
      exact h3
  intro hlo
  have hlo' : ¬ m.index < n.base := hlo
  have hT := term_fn (quietN n) m.index (by show n.log.length ≤ _; omega) (by simp only [big]; show _ ≤ n.base; omega) (by simp only [big]; show n.base ≤ _; omega) (by simp only [big]; omega) (by simp only [big]; omega)
  refine zC ?_
  refine ca [0, 1, 2, 3, 4, 5, 6, 7, 8, 9, 10, 11, 12, 13, 14, 15] [] ?_
  refine a_ (fun _ => p_fa) ?_
  refine a_ (fun _ => p_ld) ?_
  refine a_ (fun _ => p_mv) ?_
  refine a_ (fun _ => p_gt) ?_
  refine a_ (fun _ => p_mv) ?_
  refine ag_F (fun _ hg => p_mv) ?_
  refine ag_F (fun _ hg => p_nc (hx := u_ hg)) ?_
  refine ag_F (fun _ hg => p_fr (hx := u_ hg)) ?_
  refine ag_F (fun _ hg => p_fa) ?_
  refine ag_F (fun _ hg => p_ld (hx := u_ hg)) ?_
  refine ag_cLF (G := (b, _) :: (Hl ++ (Ho ++ []))) (fun _ => hT) (fun _ => LendsL.cons (nd_ptr (n := quietN n) h1 (by intro p hp; simp [hp]) List.mem_cons_self) (LendsL.cons (Lends.le (Le.refl _)) LendsL.nil)) ⟨[], perm0⟩ ?_ (fun hg => by refine evl_cons (u_ hg) (evl_cons (u_ hg) evl_nil))
  refine ag_F (fun _ hg => p_fa) ?_
  refine ag_F (fun _ hg => p_ld (hx := u_ hg)) ?_
  refine ag_F (fun _ hg => p_ne (hx := u_ hg) (hy := u_ hg)) ?_
  refine a_ (fun _ => p_or) ?_
  refine a_ (fun _ => p_as) ?_
  apply an
  refine zC ?_
  refine ci ?_ ?_
  · intro hno
    refine zC ?_
    apply cr
    refine s_ p_mv ?_
    refine s_ p_fa ?_
    refine s_ p_ld ?_
    refine s_ p_mv ?_
    refine s_ p_fa ?_
    refine s_ p_ld ?_
    refine s_ p_su ?_
    refine s_ p_mi ?_
    refine e_cHA (FnH.of_le ?_ (added_fn m.frm false (min (lastF n) (m.index - 1)) (by omega) hw1)) (fun r H' ⟨hr, h3⟩ => ?_)
    · ((repeat (apply LeL.cons; (first | exact Le.refl _ | exact Le.nil _ | exact Le.full _ _ | exact Le.any _ | (apply Le.agg; (repeat (apply LeL.cons; (first | exact Le.refl _ | exact Le.nil _ | exact Le.full _ _ | exact Le.any _))); exact LeL.nil) | (apply Le.tup; (repeat (apply LeL.cons; (first | exact Le.refl _ | exact Le.nil _ | exact Le.full _ _ | exact Le.any _ | (apply Le.agg; (repeat (apply LeL.cons; (first | exact Le.refl _ | exact Le.nil _ | exact Le.full _ _ | exact Le.any _))); exact LeL.nil)))); exact LeL.nil)))); exact LeL.nil)
    · subst hr
      refine zC ?_
      refine zR ?_
      refine rh kR ⟨rfl, ?_⟩ (Le.refl _)
      have hno' : lastF n < m.index ∨ ¬ termF n m.index = m.logTerm := hno
      rw [addF, if_neg hlt, if_neg hlo', if_pos hno']
      exact h3
  intro hno
  have hno' : ¬ (lastF n < m.index ∨ ¬ termF n m.index = m.logTerm) := hno
  refine zC ?_
  apply cr
  refine s_ p_fa ?_
  refine s_ p_ld ?_
  (first | refine s_ p_ln ?_ | refine s_ p_lr ?_)
  refine s_ p_mv ?_
  refine zC ?_
  apply sim_loopL (σ := Nat × Heap) (ok := fun s => s.1 ≤ m.entries.length ∧ WkH b { quietN n with log := layK n m s.1 } out s.2) (env := fun s => [(68, ei (s.1 : Nat)), (67, ei ((m.entries.map een).length : Nat)), (66, eens m.entries), (3, .adr (.agg (msC m (eens m.entries)))), (0, pW b)])
    (heap := fun s => s.2) (μ := fun s => m.entries.length - s.1) (s0 := (0, (b, ⟨tW, wkC (quietN n) (.slice p (n.log.map een).length c) (.slice q (out.map ms).length d), 23⟩) :: (Hl ++ (Ho ++ []))))
  · exact ⟨Nat.zero_le _, hw1⟩
  · exact eL
  · exact kR
  rintro ⟨i, H⟩ ⟨hi, hw⟩
  simp only at hi hw
  clear h1 h2 hw1
  obtain ⟨vl, vo, Hl, Ho, h1, h2, rfl⟩ := hw
  simp only at h1
  obtain ⟨p, c, rfl⟩ := h1.len
  obtain ⟨q, d, rfl⟩ := h2.len
  have hlk := layK_len n m i
  have hqb : (quietN n).base = n.base := rfl
  refine zC ?_
  apply cr
  refine s_ p_lt ?_
  refine zC ?_
  refine ci ?_ ?_
  · intro hlt2
    simp only [List.length_map] at hlt2
    have hix : i < m.entries.length := by omega
    have hge : m.entries.getD i default = m.entries[i] := by simp [hix]
    refine zC ?_
    apply cr
    refine s_ p_mv ?_
    (first | refine s_ (p_ix hix) ?_ | refine s_ (p_ix hix2) ?_ | refine s_ p_ia ?_ | refine s_ p_ir ?_)
    (first | refine s_ p_la ?_ | refine s_ p_loa ?_)
    refine e_al fun b7 _ => ?_
    refine s_ p_as ?_
    refine e_st ?_
    refine zC ?_
    refine ca [0, 1, 2, 3, 4, 5, 6, 7, 8, 9, 10] [] ?_
    refine a_ (fun _ => p_fa) ?_
    refine a_ (fun _ => p_ld) ?_
    refine a_ (fun _ => p_mv) ?_
    refine a_ (fun _ => p_nc) ?_
    refine a_ (fun _ => p_fr) ?_
    refine a_ (fun _ => p_fr) ?_
    refine a_lo ?_
    refine a_ (fun _ => p_su) ?_
    refine a_ (fun _ => p_mv) ?_
    refine a_ (fun _ => p_ad) ?_
    refine a_ (fun _ => p_as) ?_
    apply an
    refine zC ?_
    rw [hqb]
    generalize hk : m.index - n.base + (i : Nat) = k
    have hk0 : 0 ≤ k := by omega
    obtain ⟨bl, hbl⟩ := h1.at
    refine zC ?_
    refine ca [0, 1, 2, 3, 4, 5, 6, 7, 8, 9, 10, 11, 12, 13, 14, 15, 16, 17, 18, 19, 20, 21] [] ?_
    refine a_ (fun _ => p_mv) ?_
    refine a_ (fun _ => p_mv) ?_
    refine a_ (fun _ => p_nc) ?_
    refine a_ (fun _ => p_fr) ?_
    refine a_ (fun _ => p_fr) ?_
    refine a_lo ?_
    (first | refine a_ (fun _ => p_ln) ?_ | refine a_ (fun _ => p_lr) ?_)
    refine a_ (fun _ => p_lt) ?_
    refine a_ (fun _ => p_mv) ?_
    refine ag_T (fun _ hg => p_mv) ?_
    refine ag_T (fun _ hg => p_nc (hx := u_ hg)) ?_
    refine ag_T (fun _ hg => p_fr (hx := u_ hg)) ?_
    refine ag_T (fun _ hg => p_fr (hx := u_ hg)) ?_
    refine ag_loT ?_
    refine ag_T (fun _ hg => p_mv) ?_
    have hkl : k < (((layK n m i).map een).length : Nat) → k.toNat < (layK n m i).length := fun h => by rw [List.length_map] at h; omega
    refine ag_T (p := k < (((layK n m i).map een).length : Nat)) (fun _ hg => p_irG (hbl (by have := hkl hg; omega)).1 (hx := u_ hg) (hy := u_ hg)) ?_
    refine ag_T (fun _ hg => p_fr (hx := u_ hg)) ?_
    refine ag_loTc (p := k < (((layK n m i).map een).length : Nat)) (b := bl) (fun hg => List.mem_cons_of_mem _ (List.mem_cons_of_mem _ (List.mem_append_left _ (hbl (by have := hkl hg; omega)).2))) (fun hg => flat_at (k := 3) (j := 0) (een3 _) (een_get _ (hkl hg)) (by decide) rfl) ?_
    refine ag_T (fun _ hg => p_fr) ?_
    refine ag_loT ?_
    refine ag_T (fun _ hg => p_eq (hx := u_ hg) (hy := u_ hg)) ?_
    refine a_ (fun _ => p_an) ?_
    apply an
    refine zC ?_
    refine ci ?_ ?_
    · intro hsame
      have hs : layK n m (i + 1) = layK n m i := by rw [layK, hk, hge, if_pos ⟨by have := hsame.1; rw [List.length_map] at this; exact this, hsame.2⟩]
      refine zC ?_
      apply cr
      refine s_ p_ad ?_
      refine s_ p_mv ?_
      refine zC ?_
      refine ⟨(i + 1, _), ⟨hix, ?_⟩, by show m.entries.length - (i + 1) < m.entries.length - i; omega, ⟨le_get (by rfl) (Le.refl _), eL⟩, kS kR⟩
      simp only
      rw [hs]
      exact ⟨_, _, Hl, Ho, h1, h2, rfl⟩
    · intro hdiff
      have hs : layK n m (i + 1) = (layK n m i).take (min k (layK n m i).length).toNat ++ [m.entries[i]] := by
        rw [layK, hk, hge, if_neg fun h => hdiff ⟨by rw [List.length_map]; exact h.1, h.2⟩]
      have hcap : ((layK n m i).map een).length ≤ c := OSl.cap h1
      refine zC ?_
      refine ca [0, 1, 2, 3, 4, 5, 6, 7, 8, 9, 10, 11, 12, 13, 14, 15, 16, 17, 18, 19, 20, 21] [17, 21] ?_
      refine a_ (fun _ => p_mv) ?_
      refine a_ (fun _ => p_mv) ?_
      refine a_ (fun _ => p_nc) ?_
      refine a_ (fun _ => p_fr) ?_
      refine a_ (fun _ => p_fr) ?_
      refine a_lo ?_
      refine a_ (fun _ => p_mv) ?_
      refine a_ (fun _ => p_mv) ?_
      refine a_ (fun _ => p_nc) ?_
      refine a_ (fun _ => p_fr) ?_
      refine a_ (fun _ => p_fr) ?_
      refine a_lo ?_
      (first | refine a_ (fun _ => p_ln) ?_ | refine a_ (fun _ => p_lr) ?_)
      refine a_ (fun _ => p_mi) ?_
      refine a_ (fun _ => p_sbh (v := .slice p (min k (((layK n m i).map een).length : Nat)).toNat c) hcap (by exact h1.sub0 _)) ?_
      refine a_loa ?_
      refine a_ (fun _ => p_bs) ?_
      refine a_osT (A := [_, _]) (B := Ho ++ []) (ys := [een m.entries[i]]) h1 (een3 _) (min k ((layK n m i).length : Nat)).toNat (fun v' Hl' h1' => ⟨zd, ?_⟩) (hx := ?_)
      · refine zD ?_
        have h1 : OE ((layK n m i).take (min k (layK n m i).length).toNat ++ [m.entries[i]]) v' Hl' := by unfold OE; rw [List.map_append, List.map_take]; exact h1'
        clear h1'
        obtain ⟨p, c, rfl⟩ := h1.len
        refine a_ (fun _ => p_nc) ?_
        refine a_ (fun _ => p_fr) ?_
        refine a_ (fun _ => p_fr) ?_
        refine a_st ?_
        apply an
        refine zC ?_
        apply cr
        refine s_ p_ad ?_
        refine s_ p_mv ?_
        refine zC ?_
        refine ⟨(i + 1, _), ⟨hix, ?_⟩, by show m.entries.length - (i + 1) < m.entries.length - i; omega, ⟨le_get (by rfl) (Le.refl _), eL⟩, kS kR⟩
        simp only
        rw [hs]
        exact ⟨_, _, Hl', Ho, h1, h2, rfl⟩
      · refine Eq.trans (zl) ?_
        have e : (min k (((layK n m i).map een).length : Nat)).toNat = min (min k ((layK n m i).length : Nat)).toNat ((layK n m i).map een).length := by rw [List.length_map]; omega
        rw [e]
  · intro hlt2
    simp only [List.length_map] at hlt2
    have : i = m.entries.length := by omega
    subst this
    have hel : ((m.entries.map een).length : Int) = (m.entries.length : Int) := by simp
    refine zC ?_
    apply cr
    refine s_ p_fa ?_
    refine s_ p_ld ?_
    refine s_ p_fa ?_
    refine s_ p_ld ?_
    (first | refine s_ p_ln ?_ | refine s_ p_lr ?_)
    refine s_ p_ad ?_
    refine s_ p_as ?_
    refine zC ?_
    refine ca [0, 1, 2, 3, 4, 5, 6, 7, 8, 9, 10, 11, 12, 13, 14] [14] ?_
    refine a_ (fun _ => p_mv) ?_
    refine a_ (fun _ => p_mv) ?_
    refine a_ (fun _ => p_nc) ?_
    refine a_ (fun _ => p_fr) ?_
    refine a_ (fun _ => p_fr) ?_
    refine a_lo ?_
    refine a_ (fun _ => p_fa) ?_
    refine a_ (fun _ => p_ld) ?_
    refine a_ (fun _ => p_mv) ?_
    refine a_ (fun _ => p_mi) ?_
    refine a_ (fun _ => p_ma) ?_
    refine a_ (fun _ => p_nc) ?_
    refine a_ (fun _ => p_fr) ?_
    refine a_ (fun _ => p_fr) ?_
    refine a_st ?_
    apply an
    refine zC ?_
    apply cr
    refine s_ p_mv ?_
    refine s_ p_fa ?_
    refine s_ p_ld ?_
    refine s_ p_mv ?_
    rw [hel]
    refine e_cHA (FnH.of_le ?_ (added_fn m.frm true (m.index + m.entries.length) (by omega) (show WkH b (addN n m) out _ from ⟨_, _, Hl, Ho, h1, h2, rfl⟩))) (fun r H' ⟨hr, h3⟩ => ?_)
    · ((repeat (apply LeL.cons; (first | exact Le.refl _ | exact Le.nil _ | exact Le.full _ _ | exact Le.any _ | (apply Le.agg; (repeat (apply LeL.cons; (first | exact Le.refl _ | exact Le.nil _ | exact Le.full _ _ | exact Le.any _))); exact LeL.nil) | (apply Le.tup; (repeat (apply LeL.cons; (first | exact Le.refl _ | exact Le.nil _ | exact Le.full _ _ | exact Le.any _ | (apply Le.agg; (repeat (apply LeL.cons; (first | exact Le.refl _ | exact Le.nil _ | exact Le.full _ _ | exact Le.any _))); exact LeL.nil)))); exact LeL.nil)))); exact LeL.nil)
    · subst hr
      refine zC ?_
      refine rhn kR ⟨rfl, ?_⟩ (Le.refl _)
      rw [addF, if_neg hlt, if_neg hlo', if_neg hno']
      exact h3
end Go.Proofs.YtjbokbikkcfjjaaGreat
end
section
set_option maxRecDepth 4000
namespace Go.Proofs.YtjbokbikkcfjjaaGreat
open Go.Cap
set_option linter.unusedSimpArgs false
set_option linter.unusedVariables false
attribute [local irreducible] POp SimFrom DrawFrom EOp Sim FnH T.gp
def restF (n : Nd) (m : Ms) : List En := if (m.index ≤ lastF n ∧ n.base < m.index) ∧ termF n m.index = m.logTerm then n.log.drop (m.index - n.base).toNat else []
def snapN (n : Nd) (m : Ms) : Nd := { quietN n with log := restF n m, base := m.index, baseTerm := m.logTerm, baseConf := m.conf, snap := m.snap, commit := m.index }
def snapF (n : Nd) (m : Ms) : Nd × List Ms := if m.term < n.term then (n, [sendF n m.frm (addedM false 0)]) else
  if n.commit < m.index then (snapN n m, [sendF (snapN n m) m.frm (addedM true (max m.index n.commit))]) else (quietN n, [sendF (quietN n) m.frm (addedM true (max m.index n.commit))])
theorem kApp {H B : Heap} (h : HeapFront B []) : HeapFront (H ++ B) H := by
  induction H with
  | nil => exact h
  | cons p H ih => exact .keep _ _ _ _ _ (BlkLe.refl _) ih
set_option maxHeartbeats 4000000 in
theorem snap_fn {b : Nat} {n : Nd} {out : List Ms} {H : Heap} (m : Ms) (hn : Bd n) (hi0 : -50000000000 ≤ m.index) (hi1 : m.index ≤ 50000000000) (ho : out.length ≤ 900) (hw : WkH b n out H) :
    FnH Tryz.prog 137 [pW b, ms m] H (fun r H' => r = .tup [] ∧ WkH b (snapF n m).1 (out ++ (snapF n m).2) H') := by
  have hb0 := hn.base0
  have hb1 := hn.base1
  have hlog := hn.log
  have hL := last_fn (quietN n) (by show n.log.length ≤ _; omega) (by show _ ≤ n.base; omega) (by show n.base ≤ _; omega)
  refine fn_enter Tryz.func137 (by rfl) (by rfl) ?_
  intro S0 w0
  show Sim _ _ [(0, pW b), (1, T.agg (msC m (eens m.entries)))] _ _
  refine zC ?_
  apply cr
  refine e_bx fun b3 _ => ?_
  refine zC ?_
  refine lend1 3 (by simp [msC]) ?_
  refine zC ?_
  apply cr
  refine s_ p_mv ?_
  refine s_ p_la ?_
  refine e_cHA (follow_fn' m (by omega) hw) (fun r H' ⟨hr, hw⟩ => ?_)
  subst hr
  refine s_ p_no ?_
  refine zC ?_
  refine ci ?_ ?_
  · intro hc
    have hlt : m.term < n.term := Decidable.not_not.1 hc
    rw [if_pos hlt, if_pos hlt] at hw
    refine zR ?_
    refine rh kR ⟨rfl, ?_⟩ (Le.refl _)
    rw [snapF, if_pos hlt]
    exact hw
  intro hc
  have hlt : ¬ m.term < n.term := fun h => hc (fun h' => h' h)
  rw [if_neg hlt, if_neg hlt] at hw
  have hw1 := hw
  obtain ⟨vl, vo, Hl, Ho, h1, h2, rfl⟩ := hw
  obtain ⟨p, c, rfl⟩ := h1.len
  obtain ⟨q, d, rfl⟩ := h2.len
  have hqb : (quietN n).base = n.base := rfl
  have hcap : (n.log.map een).length ≤ c := OSl.cap h1
  refine zC ?_
  apply cr
  refine s_ p_mv ?_
  refine s_ p_nc ?_
  refine s_ p_fr ?_
  refine s_ p_fr ?_
  refine s_ p_lo ?_
  refine s_ p_as ?_
  refine zC ?_
  refine ca [0, 1, 2, 3, 4, 5, 6, 7] [] ?_
  refine a_ (fun _ => p_fa) ?_
  refine a_ (fun _ => p_ld) ?_
  refine a_ (fun _ => p_mv) ?_
  refine a_ (fun _ => p_nc) ?_
  refine a_ (fun _ => p_fr) ?_
  refine a_ (fun _ => p_fr) ?_
  refine a_lo ?_
  refine a_ (fun _ => p_gt) ?_
  apply an
  refine zC ?_
  refine ci ?_ ?_
  · intro hgt
    refine zC ?_
    apply cr
    refine s_ p_mv ?_
    refine s_ p_nc ?_
    refine s_ p_fr ?_
    refine s_ p_loa ?_
    refine s_ (p_cLA hL (LendsL.cons (Lends.agg (node_lends (quietN n) (h1.lend (by intro p hp; simp [hp])))) LendsL.nil)) ?_
    have hT := term_fn (quietN n) m.index (by show n.log.length ≤ _; omega) (by simp only [big]; show _ ≤ n.base; omega) (by simp only [big]; show n.base ≤ _; omega) (by simp only [big]; omega) (by simp only [big]; omega)
    refine s_ p_mv ?_
    refine s_ p_ex ?_
    refine s_ p_ex ?_
    refine s_ p_as ?_
    refine s_ p_as ?_
    refine zC ?_
    apply cr
    refine s_ p_as ?_
    refine zC ?_
    refine ca [0, 1, 2, 3, 4, 5, 6, 7, 8, 9, 10, 11, 12, 13, 14, 15, 16, 17, 18, 19, 20, 21, 22, 23, 24] [] ?_
    refine a_ (fun _ => p_fa) ?_
    refine a_ (fun _ => p_ld) ?_
    refine a_ (fun _ => p_mv) ?_
    refine a_ (fun _ => p_le) ?_
    refine a_ (fun _ => p_mv) ?_
    refine ag_T (fun _ hg => p_fa) ?_
    refine ag_T (fun _ hg => p_ld (hx := u_ hg)) ?_
    refine ag_T (fun _ hg => p_mv) ?_
    refine ag_T (fun _ hg => p_nc (hx := u_ hg)) ?_
    refine ag_T (fun _ hg => p_fr (hx := u_ hg)) ?_
    refine ag_T (fun _ hg => p_fr (hx := u_ hg)) ?_
    refine ag_loT ?_
    refine ag_T (fun _ hg => p_gt (hx := u_ hg) (hy := u_ hg)) ?_
    refine a_ (fun _ => p_an) ?_
    refine a_ (fun _ => p_mv) ?_
    refine ag_T (fun _ hg => p_mv) ?_
    refine ag_T (fun _ hg => p_nc (hx := u_ hg)) ?_
    refine ag_T (fun _ hg => p_fr (hx := u_ hg)) ?_
    refine ag_T (fun _ hg => p_fa) ?_
    refine ag_T (fun _ hg => p_ld (hx := u_ hg)) ?_
    refine ag_cLT (G := (b, _) :: (Hl ++ (Ho ++ []))) (fun _ => hT) (fun _ => LendsL.cons (nd_ptr (n := quietN n) h1 (by intro p hp; simp [hp]) List.mem_cons_self) (LendsL.cons (Lends.le (Le.refl _)) LendsL.nil)) ⟨[], perm0⟩ ?_ (fun hg => by refine evl_cons (u_ hg) (evl_cons (u_ hg) evl_nil))
    refine ag_T (fun _ hg => p_fa) ?_
    refine ag_T (fun _ hg => p_ld (hx := u_ hg)) ?_
    refine ag_T (fun _ hg => p_eq (hx := u_ hg) (hy := u_ hg)) ?_
    refine a_ (fun _ => p_an) ?_
    apply an
    refine zC ?_
    refine ci ?_ ?_
    · intro hr
      have hr' : (m.index ≤ lastF n ∧ n.base < m.index) ∧ termF n m.index = m.logTerm := hr
      have hrest : restF n m = n.log.drop (m.index - n.base).toNat := by rw [restF, if_pos hr']
      have hlf : lastF n = n.base + n.log.length := rfl
      obtain ⟨lo, hlo⟩ : ∃ lo : Nat, (lo : Int) = m.index - n.base := ⟨(m.index - n.base).toNat, by omega⟩
      have hlol : lo ≤ n.log.length := by omega
      have hs5 := (h1.sle (G := (b, ⟨tW, wkC (quietN n) (.slice p (n.log.map een).length c) (.slice q (out.map ms).length d), 23⟩) :: (Hl ++ (Ho ++ []))) (by intro p hp; simp [hp]))
      have hs5' := SlE.sub hs5 (lo := lo) (hi := n.log.length) hlol (Nat.le_refl _)
      rw [List.take_of_length_le (by simp [quietN])] at hs5'
      obtain ⟨p5, c5, e5, hc5, hl5⟩ := hs5'
      refine zC ?_
      refine ca [0, 1, 2, 3, 4, 5, 6, 7, 8, 9, 10, 11, 12, 13, 14] [] ?_
      refine a_ (fun _ => p_mv) ?_
      refine a_ (fun _ => p_nc) ?_
      refine a_ (fun _ => p_fr) ?_
      refine a_ (fun _ => p_fr) ?_
      refine a_lo ?_
      refine a_ (fun _ => p_fa) ?_
      refine a_ (fun _ => p_ld) ?_
      refine a_ (fun _ => p_mv) ?_
      refine a_ (fun _ => p_nc) ?_
      refine a_ (fun _ => p_fr) ?_
      refine a_ (fun _ => p_fr) ?_
      refine a_lo ?_
      refine a_ (fun _ => p_su) ?_
      rw [hqb, ← hlo]
      refine a_ (fun _ => p_sbl (v := .slice p5 (n.log.drop lo).length c5) hcap (by rw [List.length_map, Int.toNat_natCast]; exact e5)) ?_
      refine a_ (fun _ => p_as) ?_
      apply an
      refine zC ?_
      have hrl : restF n m = n.log.drop lo := by rw [hrest, ← hlo, Int.toNat_natCast]
      refine zC ?_
      apply cr
      refine s_ p_mv ?_
      refine s_ p_mv ?_
      refine e_cLA (clone_fn false (n.log.drop lo) (by first | (simp; done) | (simp; omega))) (LendsL.cons ((e5 ▸ hl5)) LendsL.nil) OE.of ?_
      rintro r H1 ⟨v, rfl, ho⟩
      obtain ⟨p8, c8, rfl⟩ := ho.len
      refine from_perm (List.perm_middle) ?_
      refine s_ p_nc ?_
      refine s_ p_fr ?_
      refine s_ p_fr ?_
      refine e_st ?_
      refine zC ?_
      refine ca [0, 1, 2, 3, 4, 5, 6, 7, 8, 9, 10, 11, 12, 13, 14, 15, 16, 17, 18, 19, 20, 21, 22, 23, 24, 25, 26, 27, 28, 29, 30, 31, 32, 33, 34] [18, 22, 26, 30, 34] ?_
      refine a_ (fun _ => p_mv) ?_
      refine a_ (fun _ => p_mv) ?_
      refine a_ (fun _ => p_mv) ?_
      refine a_ (fun _ => p_mv) ?_
      refine a_ (fun _ => p_mv) ?_
      refine a_ (fun _ => p_fa) ?_
      refine a_ (fun _ => p_ld) ?_
      refine a_ (fun _ => p_fa) ?_
      refine a_ (fun _ => p_ld) ?_
      refine a_ (fun _ => p_fa) ?_
      refine a_ (fun _ => p_ld) ?_
      refine a_ (fun _ => p_fa) ?_
      refine a_ (fun _ => p_ld) ?_
      refine a_ (fun _ => p_fa) ?_
      refine a_ (fun _ => p_ld) ?_
      refine a_ (fun _ => p_nc) ?_
      refine a_ (fun _ => p_fr) ?_
      refine a_ (fun _ => p_fr) ?_
      refine a_st ?_
      refine a_ (fun _ => p_nc) ?_
      refine a_ (fun _ => p_fr) ?_
      refine a_ (fun _ => p_fr) ?_
      refine a_st ?_
      refine a_ (fun _ => p_nc) ?_
      refine a_ (fun _ => p_fr) ?_
      refine a_ (fun _ => p_fr) ?_
      refine a_st ?_
      refine a_ (fun _ => p_nc) ?_
      refine a_ (fun _ => p_fr) ?_
      refine a_ (fun _ => p_fr) ?_
      refine a_st ?_
      refine a_ (fun _ => p_nc) ?_
      refine a_ (fun _ => p_fr) ?_
      refine a_ (fun _ => p_fr) ?_
      refine a_st ?_
      apply an
      refine zC ?_
      apply cr
      refine s_ p_mv ?_
      refine s_ p_fa ?_
      refine s_ p_ld ?_
      refine s_ p_fa ?_
      refine s_ p_ld ?_
      refine s_ p_mv ?_
      refine s_ p_ma ?_
      refine e_cH (Hs := (b, _) :: (H1 ++ (Ho ++ []))) (Hr := Hl) (FnH.of_le ?_ (added_fn m.frm true (max m.index n.commit) (by omega) (show WkH b (snapN n m) out ((b, ⟨tW, wkC (snapN n m) (.slice p8 _ c8) (.slice q (out.map ms).length d), 23⟩) :: (H1 ++ (Ho ++ []))) from ⟨_, _, H1, Ho, (by rw [show (snapN n m).log = n.log.drop lo from hrl]; exact ho), h2, rfl⟩))) ?_ (fun r H' ⟨hr, h3⟩ => ?_)
      · ((repeat (apply LeL.cons; (first | exact Le.refl _ | exact Le.nil _ | exact Le.full _ _ | exact Le.any _ | (apply Le.agg; (repeat (apply LeL.cons; (first | exact Le.refl _ | exact Le.nil _ | exact Le.full _ _ | exact Le.any _))); exact LeL.nil) | (apply Le.tup; (repeat (apply LeL.cons; (first | exact Le.refl _ | exact Le.nil _ | exact Le.full _ _ | exact Le.any _ | (apply Le.agg; (repeat (apply LeL.cons; (first | exact Le.refl _ | exact Le.nil _ | exact Le.full _ _ | exact Le.any _))); exact LeL.nil)))); exact LeL.nil)))); exact LeL.nil)
      · refine .cons _ ?_
        show List.Perm _ ((H1 ++ (Ho ++ [])) ++ Hl)
        rw [List.append_assoc]
        refine .append_left _ ?_
        exact List.perm_append_comm
      · subst hr
        refine zC ?_
        refine rhn (H' := H') (kApp kN) ⟨rfl, ?_⟩ (Le.refl _)
        have hgt' : n.commit < m.index := hgt
        rw [snapF, if_neg hlt, if_pos hgt']
        exact h3
    · intro hr
      have hr' : ¬ ((m.index ≤ lastF n ∧ n.base < m.index) ∧ termF n m.index = m.logTerm) := hr
      have hrl : restF n m = [] := by rw [restF, if_neg hr']
      refine zC ?_
      apply cr
      refine s_ p_mv ?_
      refine s_ p_mv ?_
      refine e_cLA (clone_fn false [] (by first | (simp; done) | (simp; omega))) (LendsL.cons (Lends.le (Le.nil _)) LendsL.nil) OE.of ?_
      rintro r H1 ⟨v, rfl, ho⟩
      obtain ⟨p8, c8, rfl⟩ := ho.len
      refine from_perm (List.perm_middle) ?_
      refine s_ p_nc ?_
      refine s_ p_fr ?_
      refine s_ p_fr ?_
      refine e_st ?_
      refine zC ?_
      refine ca [0, 1, 2, 3, 4, 5, 6, 7, 8, 9, 10, 11, 12, 13, 14, 15, 16, 17, 18, 19, 20, 21, 22, 23, 24, 25, 26, 27, 28, 29, 30, 31, 32, 33, 34] [18, 22, 26, 30, 34] ?_
      refine a_ (fun _ => p_mv) ?_
      refine a_ (fun _ => p_mv) ?_
      refine a_ (fun _ => p_mv) ?_
      refine a_ (fun _ => p_mv) ?_
      refine a_ (fun _ => p_mv) ?_
      refine a_ (fun _ => p_fa) ?_
      refine a_ (fun _ => p_ld) ?_
      refine a_ (fun _ => p_fa) ?_
      refine a_ (fun _ => p_ld) ?_
      refine a_ (fun _ => p_fa) ?_
      refine a_ (fun _ => p_ld) ?_
      refine a_ (fun _ => p_fa) ?_
      refine a_ (fun _ => p_ld) ?_
      refine a_ (fun _ => p_fa) ?_
      refine a_ (fun _ => p_ld) ?_
      refine a_ (fun _ => p_nc) ?_
      refine a_ (fun _ => p_fr) ?_
      refine a_ (fun _ => p_fr) ?_
      refine a_st ?_
      refine a_ (fun _ => p_nc) ?_
      refine a_ (fun _ => p_fr) ?_
      refine a_ (fun _ => p_fr) ?_
      refine a_st ?_
      refine a_ (fun _ => p_nc) ?_
      refine a_ (fun _ => p_fr) ?_
      refine a_ (fun _ => p_fr) ?_
      refine a_st ?_
      refine a_ (fun _ => p_nc) ?_
      refine a_ (fun _ => p_fr) ?_
      refine a_ (fun _ => p_fr) ?_
      refine a_st ?_
      refine a_ (fun _ => p_nc) ?_
      refine a_ (fun _ => p_fr) ?_
      refine a_ (fun _ => p_fr) ?_
      refine a_st ?_
      apply an
      refine zC ?_
      apply cr
      refine s_ p_mv ?_
      refine s_ p_fa ?_
      refine s_ p_ld ?_
      refine s_ p_fa ?_
      refine s_ p_ld ?_
      refine s_ p_mv ?_
      refine s_ p_ma ?_
      refine e_cH (Hs := (b, _) :: (H1 ++ (Ho ++ []))) (Hr := Hl) (FnH.of_le ?_ (added_fn m.frm true (max m.index n.commit) (by omega) (show WkH b (snapN n m) out ((b, ⟨tW, wkC (snapN n m) (.slice p8 _ c8) (.slice q (out.map ms).length d), 23⟩) :: (H1 ++ (Ho ++ []))) from ⟨_, _, H1, Ho, (by rw [show (snapN n m).log = [] from hrl]; exact ho), h2, rfl⟩))) ?_ (fun r H' ⟨hr, h3⟩ => ?_)
      · ((repeat (apply LeL.cons; (first | exact Le.refl _ | exact Le.nil _ | exact Le.full _ _ | exact Le.any _ | (apply Le.agg; (repeat (apply LeL.cons; (first | exact Le.refl _ | exact Le.nil _ | exact Le.full _ _ | exact Le.any _))); exact LeL.nil) | (apply Le.tup; (repeat (apply LeL.cons; (first | exact Le.refl _ | exact Le.nil _ | exact Le.full _ _ | exact Le.any _ | (apply Le.agg; (repeat (apply LeL.cons; (first | exact Le.refl _ | exact Le.nil _ | exact Le.full _ _ | exact Le.any _))); exact LeL.nil)))); exact LeL.nil)))); exact LeL.nil)
      · refine .cons _ ?_
        show List.Perm _ ((H1 ++ (Ho ++ [])) ++ Hl)
        rw [List.append_assoc]
        refine .append_left _ ?_
        exact List.perm_append_comm
      · subst hr
        refine zC ?_
        refine rhn (H' := H') (kApp kN) ⟨rfl, ?_⟩ (Le.refl _)
        have hgt' : n.commit < m.index := hgt
        rw [snapF, if_neg hlt, if_pos hgt']
        exact h3
  · intro hgt
    refine zC ?_
    apply cr
    refine s_ p_mv ?_
    refine s_ p_fa ?_
    refine s_ p_ld ?_
    refine s_ p_fa ?_
    refine s_ p_ld ?_
    refine s_ p_mv ?_
    refine s_ p_ma ?_
    refine e_cHA (FnH.of_le ?_ (added_fn m.frm true (max m.index n.commit) (by omega) hw1)) (fun r H' ⟨hr, h3⟩ => ?_)
    · ((repeat (apply LeL.cons; (first | exact Le.refl _ | exact Le.nil _ | exact Le.full _ _ | exact Le.any _ | (apply Le.agg; (repeat (apply LeL.cons; (first | exact Le.refl _ | exact Le.nil _ | exact Le.full _ _ | exact Le.any _))); exact LeL.nil) | (apply Le.tup; (repeat (apply LeL.cons; (first | exact Le.refl _ | exact Le.nil _ | exact Le.full _ _ | exact Le.any _ | (apply Le.agg; (repeat (apply LeL.cons; (first | exact Le.refl _ | exact Le.nil _ | exact Le.full _ _ | exact Le.any _))); exact LeL.nil)))); exact LeL.nil)))); exact LeL.nil)
    · subst hr
      refine zC ?_
      refine rhn kR ⟨rfl, ?_⟩ (Le.refl _)
      have hgt' : ¬ n.commit < m.index := hgt
      rw [snapF, if_neg hlt, if_neg hgt']
      exact h3
end Go.Proofs.YtjbokbikkcfjjaaGreat
end
section
set_option maxRecDepth 4000
namespace Go.Proofs.YtjbokbikkcfjjaaGreat
open Go.Cap
set_option linter.unusedSimpArgs false
set_option linter.unusedVariables false
attribute [local irreducible] POp SimFrom DrawFrom EOp Sim FnH T.gp
def tickF (n : Nd) : Nd × List Ms := if n.role = 2 then (n, toAll n (oweF n) 5) else if ¬ isF (confF n).2 n.id = true then (n, []) else
  if 5 + 3 * n.id ≤ n.wait + 1 ∧ n.term < 1073741824 then standF { n with wait := n.wait + 1 } else ({ n with wait := n.wait + 1 }, [])
theorem bd_len (n : Nd) (h : Bd n) : n.log.length ≤ 1000000000 := by have := h.log; omega
theorem lead_bd {n : Nd} (hn : Bd n) (hl : n.log.length < 100000000) : Bd (leadF n) := (hn.lead hl).commit
theorem stand_bd {n : Nd} (hn : Bd n) (hl : n.log.length < 100000000) : Bd (standF n).1 := by
  unfold standF
  split
  · exact lead_bd hn.stand hl
  · exact hn.stand
set_option maxHeartbeats 2000000 in
theorem tick_fn {n : Nd} (hn : Bd n) (hl : n.log.length < 100000000) (ht0 : 0 ≤ n.term) (ht1 : n.term ≤ 1000000000000) (hw0 : 0 ≤ n.wait) (hw1 : n.wait ≤ 1000000000) (hx : ∀ i, n.next.get i ≤ 100000000000) :
    FnP Tryz.prog 76 [nd n] (fun r => r = .tup [nd (tickF n).1, mss (tickF n).2]) := by
  have hC := Conf_fn n (bd_len n hn) (by have := hn.base0; omega) (by have := hn.base1; omega)
  have hI := is_fn' (confF n).2 n.id hn.id0 hn.id5 hn.conf0 hn.conf1
  have hW := work_fn n (bd_len n hn)
  have hi0 := hn.id0
  have hi5 := hn.id5
  refine fn_enter Tryz.func76 (by rfl) (by rfl) ?_
  intro S0 w0
  show Sim _ _ [(0, T.agg (nodeC n (.sl false (n.log.map een))))] _ _
  refine zC ?_
  apply cr
  refine e_bx fun b1 _ => ?_
  refine e_al fun b2 _ => ?_
  refine s_ p_as ?_
  refine zC ?_
  refine sim_perm (List.Perm.swap _ _ _) ?_
  refine lend1 1 (by simp [nodeC]) ?_
  refine zC ?_
  apply cr
  refine s_ p_la ?_
  refine e_cH (Hs := []) (Hr := [_]) hW (.refl _) (fun r H' ⟨b, hr, hw⟩ => ?_)
  subst hr
  have hw' := hw
  obtain ⟨vl, vo, Hl, Ho, h1, h2, rfl⟩ := hw
  obtain ⟨p, c, rfl⟩ := h1.len
  obtain ⟨q, d, rfl⟩ := h2.len
  refine s_ p_as ?_
  refine zC ?_
  apply cr
  refine s_ p_mv ?_
  refine s_ p_nc ?_
  refine s_ p_fr ?_
  refine s_ p_fr ?_
  refine s_ p_lo ?_
  refine s_ p_eq ?_
  refine zC ?_
  refine ci ?_ ?_
  · intro hr
    refine zC ?_
    apply cr
    refine s_ p_mv ?_
    refine s_ p_mv ?_
    refine s_ p_mf ?_
    refine e_cH (owes_fn hn hx (by simp) hw') (.refl _) (fun r H' ⟨hr, h3⟩ => ?_)
    subst hr
    
    refine zC ?_
    apply cr
    refine s_ p_mv ?_
    refine e_cH (done_fn (bd_len n hn) h3) (.refl _) (fun r H' ⟨hr, hr2⟩ => ?_)
    subst hr hr2
    refine s_ p_ex ?_
    refine s_ p_ex ?_
    refine e_st ?_
    refine s_ p_as ?_
    refine zC ?_
    refine zE ?_
    rw [tickF, if_pos hr]
    exact Le.refl _
  · intro hr
    refine zC ?_
    refine ca [0, 1, 2, 3, 4, 5] [] ?_
    refine a_ (fun _ => p_la) ?_
    refine a_ (fun _ => p_ca (hC)) ?_
    refine a_ (fun _ => p_fa) ?_
    refine a_ (fun _ => p_ld) ?_
    refine a_ (fun _ => p_ca (hI)) ?_
    refine a_ (fun _ => p_no) ?_
    apply an
    refine zC ?_
    refine ci ?_ ?_
    · intro hm
      refine zC ?_
      apply cr
      refine s_ p_mv ?_
      refine e_cH (done_fn (bd_len n hn) hw') (.refl _) (fun r H' ⟨hr, hr2⟩ => ?_)
      subst hr hr2
      refine s_ p_ex ?_
      refine s_ p_ex ?_
      refine e_st ?_
      refine s_ p_as ?_
      refine zC ?_
      refine zE ?_
      rw [tickF, if_neg hr, if_pos hm]
      exact Le.refl _
    · intro hm
      have hn1 : Bd { n with wait := n.wait + 1 } := hn.of
      refine zC ?_
      apply cr
      refine s_ p_mv ?_
      refine s_ p_nc ?_
      refine s_ p_fr ?_
      refine s_ p_fr ?_
      refine s_ p_lo ?_
      refine s_ p_ad ?_
      refine s_ p_nc ?_
      refine s_ p_fr ?_
      refine s_ p_fr ?_
      refine e_st ?_
      refine zC ?_
      refine ca [0, 1, 2, 3, 4, 5, 6, 7, 8, 9, 10, 11, 12, 13, 14, 15, 16, 17, 18, 19, 20] [] ?_
      refine a_ (fun _ => p_mv) ?_
      refine a_ (fun _ => p_nc) ?_
      refine a_ (fun _ => p_fr) ?_
      refine a_ (fun _ => p_fr) ?_
      refine a_lo ?_
      refine a_ (fun _ => p_mv) ?_
      refine a_ (fun _ => p_nc) ?_
      refine a_ (fun _ => p_fr) ?_
      refine a_ (fun _ => p_fr) ?_
      refine a_lo ?_
      refine a_ (fun _ => p_mu) ?_
      refine a_ (fun _ => p_ad) ?_
      refine a_ (fun _ => p_ge) ?_
      refine a_ (fun _ => p_mv) ?_
      refine ag_T (fun _ hg => p_mv) ?_
      refine ag_T (fun _ hg => p_nc (hx := u_ hg)) ?_
      refine ag_T (fun _ hg => p_fr (hx := u_ hg)) ?_
      refine ag_T (fun _ hg => p_fr (hx := u_ hg)) ?_
      refine ag_loT ?_
      refine ag_T (fun _ hg => p_lt (hx := u_ hg)) ?_
      refine a_ (fun _ => p_an) ?_
      apply an
      refine zC ?_
      refine ci ?_ ?_
      · intro hs
        refine zC ?_
        apply cr
        refine s_ p_mv ?_
        refine e_cH (stand_fn hn1 hl ht0 (by simp only; omega) (by simp) (show WkH b { n with wait := n.wait + 1 } [] _ from ⟨_, _, Hl, Ho, h1, h2, rfl⟩)) (.refl _) (fun r H' ⟨hr, h3⟩ => ?_)
        subst hr
        
        refine zC ?_
        apply cr
        refine s_ p_mv ?_
        refine e_cH (done_fn (bd_len _ (stand_bd hn1 hl)) h3) (.refl _) (fun r H' ⟨hr, hr2⟩ => ?_)
        subst hr hr2
        refine s_ p_ex ?_
        refine s_ p_ex ?_
        refine e_st ?_
        refine s_ p_as ?_
        refine zC ?_
        refine zE ?_
        have hs' : 5 + 3 * n.id ≤ n.wait + 1 ∧ n.term < 1073741824 := hs
        rw [tickF, if_neg hr, if_neg hm, if_pos hs']
        exact Le.refl _
      · intro hs
        refine zC ?_
        apply cr
        refine s_ p_mv ?_
        refine e_cH (done_fn (bd_len _ hn1) (show WkH b { n with wait := n.wait + 1 } [] _ from ⟨_, _, Hl, Ho, h1, h2, rfl⟩)) (.refl _) (fun r H' ⟨hr, hr2⟩ => ?_)
        subst hr hr2
        refine s_ p_ex ?_
        refine s_ p_ex ?_
        refine e_st ?_
        refine s_ p_as ?_
        refine zC ?_
        refine zE ?_
        have hs' : ¬ (5 + 3 * n.id ≤ n.wait + 1 ∧ n.term < 1073741824) := hs
        rw [tickF, if_neg hr, if_neg hm, if_neg hs']
        exact Le.refl _
end Go.Proofs.YtjbokbikkcfjjaaGreat
end
