/-
  ReplicaVotes: a node votes once in a term.
-/
import Derived.Test.YtlnloanphgeofaaLawB
set_option maxRecDepth 4000
namespace Go.Proofs.Ytlnloanphgeofaa
open Go.Cap
set_option linter.unusedSimpArgs false
set_option linter.unusedVariables false
attribute [local irreducible] POp SimFrom DrawFrom EOp Sim FnH T.gp
def lastK (l : List Int) : Nat → Int
  | 0 => 0
  | k + 1 => lastK l k + l.getD k 0 % 2
def logK (l : List Int) : Nat → List En
  | 0 => []
  | k + 1 => logK l k ++ [⟨min (max (lastK l (k + 1)) 1) 5, 0, []⟩]
theorem lastK_bd (l : List Int) : ∀ k, 0 ≤ lastK l k ∧ lastK l k ≤ k
  | 0 => by simp [lastK]
  | k + 1 => by
    have := lastK_bd l k
    rw [lastK]; omega
theorem logK_len (l : List Int) : ∀ k, (logK l k).length = k
  | 0 => rfl
  | k + 1 => by rw [logK, List.length_append, logK_len l k]; rfl
theorem logK_term (l : List Int) : ∀ (k : Nat), ∀ e ∈ logK l k, 1 ≤ e.term ∧ e.term ≤ 5 ∧ e.conf = 0
  | 0 => by simp [logK]
  | k + 1 => by
    intro e he
    rw [logK] at he
    rcases List.mem_append.1 he with h | h
    · exact logK_term l k e h
    · rw [List.mem_singleton.1 h]; exact ⟨by simp only; omega, by simp only; omega, rfl⟩
theorem lc_none : ∀ (l : List En), (∀ e ∈ l, e.conf = 0) → ∀ k, k ≤ l.length → lc l k = none
  | _, _, 0, _ => rfl
  | l, h, k + 1, hk => by
    have : l.getD k default ∈ l := by
      have hk' : k < l.length := by omega
      simp [hk']
    rw [lc, if_neg (by rw [h _ this]; simp), lc_none l h k (by omega)]
def votN (l : List Int) (k : Nat) (t : Int) : Nd := { newF 0 7 with term := t, log := logK l k }
theorem votN_bd (l : List Int) {k : Nat} (t : Int) (hk : k ≤ 8) : Bd (votN l k t) := by
  have hc : confF (votN l k t) = (0, 7) := by
    have : lc (logK l k) (logK l k).length = none := lc_none _ (fun e he => (logK_term l k e he).2.2) _ (Nat.le_refl _)
    simp only [confF, votN, this, newF]
  have hl := logK_len l k
  exact ⟨by simp [votN, newF], by simp [votN, newF], by simp only [votN]; omega, by simp [votN, newF], by simp [votN, newF], by rw [hc]; decide, by rw [hc]; decide⟩
theorem zero_nbd {n : Nd} (hl : n.log.length < 100000000) (hv : n.votes = 0) (hx : n.next = .all 0) (hm : n.mtch = .all 0) : NBd n :=
  ⟨hl, by omega, by omega, fun i => by rw [hx, F5.get_all]; omega, fun i => by rw [hx, F5.get_all]; omega, fun i => by rw [hm, F5.get_all]; omega, fun i => by rw [hm, F5.get_all]; omega⟩
def askF (f t i lt : Int) : Ms := ⟨1, f, 0, t, i, lt, 0, 0, false, [], []⟩
def n6 (l : List Int) (k : Nat) : Nd := { votN l k 5 with term := 6, vote := -1, role := 0, votes := 0 }
def votX (l : List Int) (k : Nat) (i t : Int) : Nd := voteF (n6 l k) (askF 1 6 i t)
theorem vot_one (l : List Int) (k : Nat) {i t : Int} (hi : 0 ≤ i ∧ i < 10) (ht : 0 ≤ t ∧ t < 7) : takeF (votN l k 5) (askF 1 6 i t) = (votX l k i t, [sendF (votX l k i t) 1 (votedM (yesF (n6 l k) (askF 1 6 i t)))]) := by
  have hb : ¬ badF (votN l k 5) (askF 1 6 i t) := by simp [badF, askF, votN, newF]
  have hu : upN (votN l k 5) (askF 1 6 i t) = n6 l k := by rw [upN, if_pos (by simp [votN, askF])]; rfl
  rw [takeF, if_neg hb, hu, actF, if_pos (show (askF 1 6 i t).kind = 1 from rfl)]
  rfl
theorem voteF_keeps (n : Nd) (m : Ms) : (voteF n m).id = n.id ∧ (voteF n m).term = n.term ∧ (voteF n m).log = n.log ∧ (voteF n m).votes = n.votes ∧ (voteF n m).next = n.next ∧ (voteF n m).mtch = n.mtch ∧ (voteF n m).base = n.base ∧ (voteF n m).baseTerm = n.baseTerm ∧ (voteF n m).vote = if yesF n m then m.frm else n.vote := by
  unfold voteF
  by_cases h : yesF n m <;> simp [h]
theorem vot_take {x : Nd} {f t i lt : Int} (hid : x.id = 0) (hf : f = 1 ∨ f = 2) (h0 : 0 ≤ t) (h1 : t ≤ x.term) (h2 : t ≤ 1000) : takeF x (askF f t i lt) = (voteF x (askF f t i lt), [sendF (voteF x (askF f t i lt)) f (votedM (yesF x (askF f t i lt)))]) := by
  have hb : ¬ badF x (askF f t i lt) := by rcases hf with rfl | rfl <;> simp [badF, askF, hid] <;> omega
  have hu : upN x (askF f t i lt) = x := by rw [upN, if_neg (by simp only [askF]; omega)]
  rw [takeF, if_neg hb, hu, actF, if_pos (show (askF f t i lt).kind = 1 from rfl)]
  rfl
theorem vot_le (l : List Int) (k : Nat) {x : Nd} (hx : x.log = logK l k) (hb : x.baseTerm = 0) : termF x (lastF x) ≤ 5 := by
  unfold termF
  split
  · rename_i h
    have hk : (lastF x - x.base - 1).toNat < (logK l k).length := by rw [← hx]; omega
    have hm : x.log.getD (lastF x - x.base - 1).toNat default ∈ logK l k := by rw [hx, List.getD_eq_getElem?_getD, List.getElem?_eq_getElem hk]; exact List.getElem_mem _
    exact (logK_term l k _ hm).2.1
  · omega
set_option maxHeartbeats 4000000 in
theorem votes_fn (mine : List Int) (index term : Int) (twice : Bool) (_hl : mine.length ≤ 9223372036854775807) : FnP Try.prog 3 [.sl false (mine.map ei), ei index, ei term, eB twice] (fun r => r = .v (.bool true)) := by
  have hN := new_fn' 0 7 (by omega) (by omega) (by omega) (by omega)
  have htw : eB twice = .v (.bool (decide (twice = true))) := by rw [← bool_dec]; rfl
  have hk := known_fn
  rw [htw]
  refine fn_enter Try.func3 (by rfl) (by rfl) ?_
  intro S0 w0
  show Sim _ _ [(0, T.sl false (mine.map ei)), (1, ei index), (2, ei term), (3, .v (.bool (decide (twice = true))))] _ _
  (repeat (first | apply cn | apply cq | apply cb | apply ck | apply cl | apply cx))
  apply cr
  refine s_ p_as ?_
  (repeat (first | apply cn | apply cq | apply cb | apply ck | apply cl | apply cx))
  apply cr
  refine s_ (p_ca (hk)) ?_
  refine s_ p_noB ?_
  refine cn ?_
  (repeat (first | apply cn | apply cq | apply cb | apply ck | apply cl | apply cx))
  refine ci (p := False) (fun h => h.elim) (fun _ => ?_)
  (repeat (first | apply cn | apply cq | apply cb | apply ck | apply cl | apply cx))
  apply cr
  refine s_ (p_ca (hN)) ?_
  refine e_al fun b9 _ => ?_
  refine e_st ?_
  (repeat (first | apply cn | apply cq | apply cb | apply ck | apply cl | apply cx))
  apply cr
  refine s_ p_as ?_
  (repeat (first | apply cn | apply cq | apply cb | apply ck | apply cl | apply cx))
  apply cr
  refine s_ p_as ?_
  (repeat (first | apply cn | apply cq | apply cb | apply ck | apply cl | apply cx))
  apply sim_loopL (σ := Nat × Heap) (ok := fun s => s.1 ≤ mine.length ∧ s.1 ≤ 8 ∧ ∃ vl Hl, OE (logK mine s.1) vl Hl ∧ s.2 = (b9, ⟨nB, nodeC (votN mine s.1 0) (.v vl), 22⟩) :: (Hl ++ []))
    (env := fun s => [(11, ei (s.1 : Nat)), (10, ei (lastK mine s.1)), (9, pN b9), (0, T.sl false (mine.map ei)), (1, ei index), (2, ei term), (3, .v (.bool (decide (twice = true))))]) (heap := fun s => s.2) (μ := fun s => mine.length - s.1) (s0 := (0, [(b9, ⟨nB, nodeC (votN mine 0 0) (.v (.slice none 0 0)), 22⟩)]))
  · exact ⟨Nat.zero_le _, Nat.zero_le _, _, [], osl_nil, rfl⟩
  · exact eL
  · exact kR
  rintro ⟨k, H⟩ ⟨hk, hk8, vl, Hl, h1, hH⟩
  simp only at hk hk8 h1 hH
  subst hH
  obtain ⟨p, c, rfl⟩ := h1.len
  have hlk := logK_len mine k
  have hla := lastK_bd mine k
  have hbn := votN_bd mine 5 hk8
  (repeat (first | apply cn | apply cq | apply cb | apply ck | apply cl | apply cx))
  apply cr
  refine s_ p_mv ?_
  refine s_ p_mv ?_
  (first | refine s_ p_ln ?_ | refine s_ p_lr ?_)
  refine s_ p_lt ?_
  refine s_ p_mv ?_
  refine gT (fun hg => p_mv) ?_
  refine gT (fun hg => p_lt (hx := u_ hg)) ?_
  refine s_ p_an ?_
  (repeat (first | apply cn | apply cq | apply cb | apply ck | apply cl | apply cx))
  refine ci ?_ ?_
  · intro hlt
    have hix : k < mine.length := by have := hlt.1; simp only [List.length_map] at this; omega
    have hk8' : k < 8 := by omega
    have hw := within_fn (mine[k]) 2 (by omega) (by omega)
    (repeat (first | apply cn | apply cq | apply cb | apply ck | apply cl | apply cx))
    apply cr
    refine s_ p_mv ?_
    refine s_ p_mv ?_
    refine s_ p_mv ?_
    (first | refine s_ (p_ix hix) ?_ | refine s_ (p_ix hix2) ?_ | refine s_ p_ia ?_ | refine s_ p_ir ?_)
    (first | refine s_ p_ld ?_ | refine s_ p_lo ?_)
    refine s_ (p_ca (hw)) ?_
    refine s_ p_ad ?_
    refine s_ p_as ?_
    (repeat (first | apply cn | apply cq | apply cb | apply ck | apply cl | apply cx))
    have hg : mine.getD k 0 = mine[k] := by simp [hix]
    have e1 : lastK mine k + mine[k] % 2 = lastK mine (k + 1) := by rw [lastK, hg]
    rw [e1]
    have hla1 := lastK_bd mine (k + 1)
    (repeat (first | apply cn | apply cq | apply cb | apply ck | apply cl | apply cx))
    apply cr
    refine s_ p_fr ?_
    refine s_ p_lo ?_
    refine s_ p_mv ?_
    refine s_ p_ma ?_
    refine s_ p_mi ?_
    refine s_ (p_bd 3 [_, _, _]) ?_
    refine s_ p_bs ?_
    refine e_os (ho := h1) (A := [_]) (B := []) (een3 _) (fun v' Hl' h1' => ?_)
    have h1 : OE (logK mine (k + 1)) v' Hl' := by unfold OE; rw [logK, List.map_append]; exact h1'
    clear h1'
    obtain ⟨p, c, rfl⟩ := h1.len
    refine s_ p_fr ?_
    refine e_st ?_
    (repeat (first | apply cn | apply cq | apply cb | apply ck | apply cl | apply cx))
    apply cr
    refine s_ p_mv ?_
    refine s_ p_ad ?_
    refine s_ p_as ?_
    (repeat (first | apply cn | apply cq | apply cb | apply ck | apply cl | apply cx))
    exact ⟨(k + 1, _), ⟨by simp only; omega, by simp only; omega, _, Hl', h1, rfl⟩, by show mine.length - (k + 1) < mine.length - k; omega, ⟨le_get (by rfl) (Le.refl _), eL⟩, kR⟩
  · intro _
    have hL := last_fn (votN mine k 5) (bd_len _ hbn) (by simp [votN, newF]) (by simp [votN, newF])
    have hw10 := within_fn index 10 (by omega) (by omega)
    have hw7 := within_fn term 7 (by omega) (by omega)
    have hi : 0 ≤ index % 10 ∧ index % 10 < 10 := by omega
    have ht7 : 0 ≤ term % 7 ∧ term % 7 < 7 := by omega
    have hnb : NBd (votN mine k 5) := zero_nbd (by simp only [votN]; omega) rfl rfl rfl
    have ht1 := take_fn (n := votN mine k 5) (m := askF 1 6 (index % 10) (term % 7)) hbn hnb (.inr ⟨by simp only [askF]; omega, by simp only [askF]; omega, by simp only [askF, votN, List.length_nil]; omega⟩)
    rw [vot_one mine k hi ht7] at ht1
    (repeat (first | apply cn | apply cq | apply cb | apply ck | apply cl | apply cx))
    apply cr
    refine s_ p_fr ?_
    refine e_st ?_
    (repeat (first | apply cn | apply cq | apply cb | apply ck | apply cl | apply cx))
    apply cr
    refine s_ p_loa ?_
    refine s_ (p_cLA hL (LendsL.cons (Lends.agg (node_lends (votN mine k 5) (h1.lend (by intro p hp; simpa using .inr hp)))) LendsL.nil)) ?_
    refine s_ p_mv ?_
    refine s_ p_ex ?_
    refine s_ p_ex ?_
    refine s_ p_as ?_
    refine s_ p_as ?_
    (repeat (first | apply cn | apply cq | apply cb | apply ck | apply cl | apply cx))
    apply cr
    refine s_ p_mv ?_
    refine s_ (p_ca (hw10)) ?_
    refine s_ p_mv ?_
    refine s_ (p_ca (hw7)) ?_
    refine s_ p_as ?_
    refine s_ p_as ?_
    (repeat (first | apply cn | apply cq | apply cb | apply ck | apply cl | apply cx))
    (repeat (first | apply cn | apply cq | apply cb | apply ck | apply cl | apply cx))
    apply cr
    refine s_ p_loa ?_
    refine from_lend1 (G := (b9, _) :: (Hl ++ [])) (H1 := []) 62 (nd (votN mine k 5)) (Lends.agg (node_lends (votN mine k 5) (h1.lend (by intro p hp; simpa using .inr hp)))) ?_ perm0
    refine s_ p_mv ?_
    refine s_ p_mv ?_
    refine s_ (p_bd 11 [_, _, _, _, _, _, _, _, _, _, _]) ?_
    refine s_ (p_cl (ht1)) ?_
    refine s_ p_mv ?_
    refine s_ p_ex ?_
    refine s_ p_ex ?_
    refine e_al fun b14 _ => ?_
    refine e_st ?_
    refine s_ p_as ?_
    (repeat (first | apply cn | apply cq | apply cb | apply ck | apply cl | apply cx))
    apply cr
    refine s_ p_mv ?_
    refine s_ p_mv ?_
    refine s_ p_gt ?_
    refine s_ p_mv ?_
    refine gF (fun hg => p_mv) ?_
    refine gF (fun hg => p_mv) ?_
    refine gF (fun hg => p_eq (hx := u_ hg) (hy := u_ hg)) ?_
    refine gF (fun hg => p_mv (hx := u_ hg)) ?_
    refine hT (fun hg => p_mv) ?_
    refine hT (fun hg => p_mv) ?_
    refine hT (fun hg => p_ge (hx := u_ hg) (hy := u_ hg)) ?_
    refine gF (fun hg => p_anN hg) ?_
    refine s_ p_or ?_
    refine s_ p_as ?_
    (repeat (first | apply cn | apply cq | apply cb | apply ck | apply cl | apply cx))
    apply cr
    refine s_ p_mv ?_
    (first | refine s_ p_ln ?_ | refine s_ p_lr ?_)
    refine s_ p_ne ?_
    refine s_ p_mv ?_
    refine gF (fun hg => p_mv) ?_
    (first | refine gF (fun hg => p_ix hix (hx := u_ hg)) ?_ | refine gF (fun hg => p_ix hix2 (hx := u_ hg)) ?_ | refine gF (fun hg => p_ia (hx := u_ hg)) ?_ | refine gF (fun hg => p_ir (hx := u_ hg)) ?_)
    (first | refine gF (fun hg => p_fa (hx := u_ hg)) ?_ | refine gF (fun hg => p_fr (hx := u_ hg)) ?_)
    (first | refine gF (fun hg => p_ld (hx := u_ hg)) ?_ | refine gF (fun hg => p_lo (hx := u_ hg)) ?_)
    refine gF (fun hg => p_ne (hx := u_ hg)) ?_
    refine s_ p_or ?_
    refine s_ p_mv ?_
    refine gF (fun hg => p_mv) ?_
    (first | refine gF (fun hg => p_ix hix (hx := u_ hg)) ?_ | refine gF (fun hg => p_ix hix2 (hx := u_ hg)) ?_ | refine gF (fun hg => p_ia (hx := u_ hg)) ?_ | refine gF (fun hg => p_ir (hx := u_ hg)) ?_)
    (first | refine gF (fun hg => p_fa (hx := u_ hg)) ?_ | refine gF (fun hg => p_fr (hx := u_ hg)) ?_)
    (first | refine gF (fun hg => p_ld (hx := u_ hg)) ?_ | refine gF (fun hg => p_lo (hx := u_ hg)) ?_)
    refine gF (fun hg => p_mv) ?_
    refine gF (fun hg => p_neB (hx := u_ hg) (hy := u_ hg)) ?_
    refine s_ p_or ?_
    refine s_ p_mv ?_
    refine gF (fun hg => p_mv) ?_
    (first | refine gF (fun hg => p_ix hix (hx := u_ hg)) ?_ | refine gF (fun hg => p_ix hix2 (hx := u_ hg)) ?_ | refine gF (fun hg => p_ia (hx := u_ hg)) ?_ | refine gF (fun hg => p_ir (hx := u_ hg)) ?_)
    (first | refine gF (fun hg => p_fa (hx := u_ hg)) ?_ | refine gF (fun hg => p_fr (hx := u_ hg)) ?_)
    (first | refine gF (fun hg => p_ld (hx := u_ hg)) ?_ | refine gF (fun hg => p_lo (hx := u_ hg)) ?_)
    refine gF (fun hg => p_ne (hx := u_ hg)) ?_
    refine s_ p_or ?_
    refine s_ p_mv ?_
    refine gF (fun hg => p_fr) ?_
    refine gF (fun hg => p_lo (hx := u_ hg)) ?_
    refine gF (fun hg => p_ne (hx := u_ hg)) ?_
    refine s_ p_or ?_
    (repeat (first | apply cn | apply cq | apply cb | apply ck | apply cl | apply cx))
    have hX := voteF_keeps (n6 mine k) (askF 1 6 (index % 10) (term % 7))
    rw [show voteF (n6 mine k) (askF 1 6 (index % 10) (term % 7)) = votX mine k (index % 10) (term % 7) from rfl] at hX
    have hyes : yesF (n6 mine k) (askF 1 6 (index % 10) (term % 7)) = true ↔ (termF (votN mine k 5) (lastF (votN mine k 5)) < term % 7 ∨ term % 7 = termF (votN mine k 5) (lastF (votN mine k 5)) ∧ lastF (votN mine k 5) ≤ index % 10) := by
      rw [yesF, decide_eq_true_iff]
      exact ⟨fun h => h.2, fun h => ⟨⟨rfl, .inl rfl⟩, h⟩⟩
    generalize hx : votX mine k (index % 10) (term % 7) = x at hX ⊢
    refine ci ?_ ?_
    · intro hc
      exfalso
      rcases hc with (((h | h) | h) | h) | h
      · exact h rfl
      · exact h rfl
      · refine h (Iff.trans ?_ hyes)
        rw [yesF, decide_eq_true_iff]
      · exact h hX.2.1
      · exact h hX.2.1
    intro _
    (repeat (first | apply cn | apply cq | apply cb | apply ck | apply cl | apply cx))
    apply cr
    refine s_ p_as ?_
    (repeat (first | apply cn | apply cq | apply cb | apply ck | apply cl | apply cx))
    apply cr
    refine s_ p_mv ?_
    (repeat (first | apply cn | apply cq | apply cb | apply ck | apply cl | apply cx))
    show Sim _ _ _ _ (thenΨ _ _ _)
    refine sim_cut [(17, ei (if twice = true then 1 else 2)), (16, .v (.bool (decide (termF (votN mine k 5) (lastF (votN mine k 5)) < term % 7 ∨ term % 7 = termF (votN mine k 5) (lastF (votN mine k 5)) ∧ lastF (votN mine k 5) ≤ index % 10)))), (14, pN b14), (3, .v (.bool (decide (twice = true))))] [(b14, ⟨nB, nodeC x (eens x.log), 22⟩)] ?_ ?_
    · refine ci ?_ ?_
      · intro h
        (repeat (first | apply cn | apply cq | apply cb | apply ck | apply cl | apply cx))
        apply cr
        refine s_ p_as ?_
        (repeat (first | apply cn | apply cq | apply cb | apply ck | apply cl | apply cx))
        rw [if_pos h]
        exact ⟨eL, kR⟩
      · intro h
        (repeat (first | apply cn | apply cq | apply cb | apply ck | apply cl | apply cx))
        rw [if_neg h]
        exact ⟨eL, kR⟩
    have hbx : Bd x := by rw [← hx]; exact voteF_bd _ hbn.of
    have hnx : NBd x := zero_nbd (by rw [hX.2.2.1]; show (logK mine k).length < _; omega) (by rw [hX.2.2.2.1]; rfl) (by rw [hX.2.2.2.2.1]; rfl) (by rw [hX.2.2.2.2.2.1]; rfl)
    have hxl : x.log = logK mine k := hX.2.2.1
    have hxt : x.term = 6 := hX.2.1
    have hxi : x.id = 0 := hX.1
    have hle := vot_le mine k (x := x) hxl (by rw [hX.2.2.2.2.2.2.2.1]; rfl)
    have hff : (if twice = true then (1 : Int) else 2) = 1 ∨ (if twice = true then (1 : Int) else 2) = 2 := by by_cases h : twice = true <;> simp [h]
    generalize hf : (if twice = true then (1 : Int) else 2) = f at hff ⊢
    have ht2 := take_fn (n := x) (m := askF f 6 9 6) hbx hnx (.inr ⟨by simp [askF], by simp [askF], by simp only [askF, List.length_nil]; have := hbx.log; omega⟩)
    rw [vot_take hxi hff (by omega) (by omega) (by omega)] at ht2
    have ht3 := take_fn (n := x) (m := askF 1 5 9 5) hbx hnx (.inr ⟨by simp [askF], by simp [askF], by simp only [askF, List.length_nil]; have := hbx.log; omega⟩)
    rw [vot_take hxi (.inl rfl) (by omega) (by omega) (by omega)] at ht3
    (repeat (first | apply cn | apply cq | apply cb | apply ck | apply cl | apply cx))
    apply cr
    refine s_ p_loa ?_
    refine s_ p_mv ?_
    refine s_ (p_bd 11 [_, _, _, _, _, _, _, _, _, _, _]) ?_
    refine s_ (p_cl (ht2)) ?_
    refine s_ p_mv ?_
    refine s_ p_ex ?_
    refine s_ p_ex ?_
    refine e_al fun b18 _ => ?_
    refine e_st ?_
    refine s_ p_as ?_
    (repeat (first | apply cn | apply cq | apply cb | apply ck | apply cl | apply cx))
    apply cr
    refine s_ p_loa ?_
    refine s_ (p_bd 11 [_, _, _, _, _, _, _, _, _, _, _]) ?_
    refine s_ (p_cl (ht3)) ?_
    refine s_ p_mv ?_
    refine s_ p_ex ?_
    refine s_ p_ex ?_
    refine e_al fun b20 _ => ?_
    refine e_st ?_
    refine s_ p_as ?_
    (repeat (first | apply cn | apply cq | apply cb | apply ck | apply cl | apply cx))
    apply cr
    refine s_ p_mv ?_
    (first | refine s_ p_ln ?_ | refine s_ p_lr ?_)
    refine s_ p_eq ?_
    refine s_ p_mv ?_
    refine gT (fun hg => p_mv) ?_
    (first | refine gT (fun hg => p_ix hix (hx := u_ hg)) ?_ | refine gT (fun hg => p_ix hix2 (hx := u_ hg)) ?_ | refine gT (fun hg => p_ia (hx := u_ hg)) ?_ | refine gT (fun hg => p_ir (hx := u_ hg)) ?_)
    (first | refine gT (fun hg => p_fa (hx := u_ hg)) ?_ | refine gT (fun hg => p_fr (hx := u_ hg)) ?_)
    (first | refine gT (fun hg => p_ld (hx := u_ hg)) ?_ | refine gT (fun hg => p_lo (hx := u_ hg)) ?_)
    refine gT (fun hg => p_mv) ?_
    refine gT (fun hg => p_mv (hx := u_ hg)) ?_
    refine hF (fun hg => p_mv) ?_
    refine hF (fun hg => p_no (hx := u_ hg)) ?_
    refine gT (fun hg => p_orN hg) ?_
    refine gT (fun hg => p_eqB (hx := u_ hg) (hy := u_ hg)) ?_
    refine s_ p_an ?_
    refine s_ p_mv ?_
    refine gT (fun hg => p_mv) ?_
    (first | refine gT (fun hg => p_ln (hx := u_ hg)) ?_ | refine gT (fun hg => p_lr (hx := u_ hg)) ?_)
    refine gT (fun hg => p_eq (hx := u_ hg)) ?_
    refine s_ p_an ?_
    refine s_ p_mv ?_
    refine gT (fun hg => p_mv) ?_
    (first | refine gT (fun hg => p_ix hix (hx := u_ hg)) ?_ | refine gT (fun hg => p_ix hix2 (hx := u_ hg)) ?_ | refine gT (fun hg => p_ia (hx := u_ hg)) ?_ | refine gT (fun hg => p_ir (hx := u_ hg)) ?_)
    (first | refine gT (fun hg => p_fa (hx := u_ hg)) ?_ | refine gT (fun hg => p_fr (hx := u_ hg)) ?_)
    (first | refine gT (fun hg => p_ld (hx := u_ hg)) ?_ | refine gT (fun hg => p_lo (hx := u_ hg)) ?_)
    refine gT (fun hg => p_no (hx := u_ hg)) ?_
    refine s_ p_an ?_
    refine s_ p_mv ?_
    refine gT (fun hg => p_mv) ?_
    (first | refine gT (fun hg => p_ix hix (hx := u_ hg)) ?_ | refine gT (fun hg => p_ix hix2 (hx := u_ hg)) ?_ | refine gT (fun hg => p_ia (hx := u_ hg)) ?_ | refine gT (fun hg => p_ir (hx := u_ hg)) ?_)
    (first | refine gT (fun hg => p_fa (hx := u_ hg)) ?_ | refine gT (fun hg => p_fr (hx := u_ hg)) ?_)
    (first | refine gT (fun hg => p_ld (hx := u_ hg)) ?_ | refine gT (fun hg => p_lo (hx := u_ hg)) ?_)
    refine gT (fun hg => p_eq (hx := u_ hg)) ?_
    refine s_ p_an ?_
    refine s_ p_as ?_
    (repeat (first | apply cn | apply cq | apply cb | apply ck | apply cl | apply cx))
    (apply sim_ret; (try simp only [blockΨ_ret, thenΨ_ret, loopL_ret, cutΨ_ret, cutE_ret]); first | refine rt ?_ | refine rn ?_)
    refine b_true ⟨⟨⟨⟨rfl, ?_⟩, rfl⟩, ?_⟩, ?_⟩
    · have hv : x.vote = if yesF (n6 mine k) (askF 1 6 (index % 10) (term % 7)) = true then 1 else -1 := hX.2.2.2.2.2.2.2.2
      rw [← hyes]
      constructor
      · rintro ⟨⟨_, h⟩, _⟩
        by_cases hy : yesF (n6 mine k) (askF 1 6 (index % 10) (term % 7)) = true
        · rw [if_pos hy] at hv
          refine .inl (Classical.byContradiction fun htf => ?_)
          rw [if_neg htf] at hf
          have h' : x.vote = -1 ∨ x.vote = f := h
          omega
        · exact .inr hy
      · intro h
        refine ⟨⟨hxt.symm, ?_⟩, .inl ?_⟩
        · show x.vote = -1 ∨ x.vote = f
          by_cases hy : yesF (n6 mine k) (askF 1 6 (index % 10) (term % 7)) = true
          · rw [if_pos hy] at hv
            have htf : twice = true := h.resolve_right fun h' => h' hy
            rw [if_pos htf] at hf
            omega
          · rw [if_neg hy] at hv
            exact .inl hv
        · show termF x (lastF x) < 6
          omega
    · intro h
      have h' : (5 : Int) = x.term := h.1.1
      omega
    · exact (voteF_keeps x _).2.1.trans hxt
end Go.Proofs.Ytlnloanphgeofaa
