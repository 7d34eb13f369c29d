/-
  GroupNet: messages under way are told, brought, lost, brought twice by their places.
  From the contracts to the rows: a function that only computes 'true' keeps what was there.
  What is read of memory ahead of a call, as data.
-/
import Derived.Test.YtjbokbikkcfjjaaGreatAbc
import Derived.Test.YtjbokbikkcfjjaaGreatAaf
import Derived.ProofKit
import Derived.Test.YtjbokbikkcfjjaaGreatAae
import Derived.Deep.Slices
section
set_option maxRecDepth 16000
namespace Go.Proofs.YtjbokbikkcfjjaaGreat
open Go.Cap
set_option linter.unusedSimpArgs false
set_option linter.unusedVariables false
attribute [local irreducible] POp SimFrom DrawFrom EOp Sim FnH T.gp
section
variable {P : Nat → En → Prop} {g : Gp} {τ l u : Nat}
theorem way_mem {g : Gp} {k : Int} (h : hasG g k) : g.way.getD k.toNat default ∈ g.way := by
  have hk := (at_way h).1
  rw [List.getD_eq_getElem?_getD, List.getElem?_eq_getElem hk]; exact List.getElem_mem _
theorem GB.drop (h : GB P g τ l u) (k : Int) : GB P (dropG g k) τ l u ∧ (dropG g k).way.length = g.way.length - (if hasG g k then 1 else 0) := by
  unfold dropG
  split
  · rename_i hk
    obtain ⟨h1, _⟩ := at_way hk
    have hl : (outG g k).way.length = g.way.length - 1 := by show (g.way.eraseIdx k.toNat).length = _; rw [List.length_eraseIdx, if_pos h1]
    exact ⟨h.out (fun x hx => h.way x (List.mem_of_mem_eraseIdx hx)) (by show (outG g k).way.length ≤ _; have := h.many; omega), hl⟩
  · exact ⟨h, rfl⟩
theorem GB.twice (h : GB P g τ l u) (k : Int) : GB P (twiceG g k) τ l (u + 1) ∧ (twiceG g k).way.length = g.way.length + (if hasG g k ∧ g.way.length < 300 then 1 else 0) := by
  unfold twiceG
  split
  · rename_i hk
    refine ⟨(h.le (u' := u + 1) (by omega)).out (fun x hx => ?_) (by have := h.many; simp only [List.length_append, List.length_singleton]; omega), by simp⟩
    rcases List.mem_append.1 hx with hx | hx
    · exact h.way x hx
    · rw [List.mem_singleton.1 hx]; exact h.way _ (way_mem hk.1)
  · exact ⟨h.le (by omega), rfl⟩
theorem take_way (g : Gp) (m : Ms) : g.way.length ≤ (takeG g m).way.length := by
  unfold takeG
  split
  · unfold didG
    simp only [List.length_append]; omega
  · exact Nat.le_refl _
theorem GB.deliver (hP : PO P) (h : GB P g τ l u) (ht : τ ≤ 100000) (k : Int) : ∃ l', GB P (deliverG g k) τ l' u ∧ l ≤ l' ∧ (deliverG g k).way.length + 5 * l ≤ g.way.length + 5 * l' ∧ g.way.length ≤ (deliverG g k).way.length + 1 := by
  unfold deliverG
  split
  · rename_i hk
    obtain ⟨h1, _⟩ := at_way hk
    have hl : (outG g k).way.length = g.way.length - 1 := by show (g.way.eraseIdx k.toNat).length = _; rw [List.length_eraseIdx, if_pos h1]
    have hb : GB P (outG g k) τ l u := h.out (fun x hx => h.way x (List.mem_of_mem_eraseIdx hx)) (by show (outG g k).way.length ≤ _; have := h.many; omega)
    obtain ⟨l', h2, h3, h4⟩ := hb.take hP ht (h.way _ (way_mem hk)) (by have := h.many; omega)
    have := take_way (outG g k) (g.way.getD k.toNat default)
    exact ⟨l', h2, h3, by omega, by omega⟩
  · exact ⟨l, h, Nat.le_refl _, by omega, by omega⟩
end
structure NetOk (bg : Nat) (i : Nat) (g : Gp) (H : Heap) : Prop where
  is : IsG bg g H
  gb : ∃ τ l, GB PS g τ l (60 + i) ∧ g.way.length ≤ 20 + i + 5 * l
theorem NetOk.few {bg i : Nat} {g : Gp} {H : Heap} (h : NetOk bg i g H) (hi : i ≤ 30) : g.way.length < 300 := by
  obtain ⟨τ, l, h1, h2⟩ := h.gb
  have := h1.five
  omega
set_option maxHeartbeats 8000000 in
theorem gnet_fn (ks ats : List Int) (h1 : ks.length ≤ 9223372036854775807) (h2 : ats.length ≤ 9223372036854775807) : FnP Tryz.prog 3 [.sl false (ks.map ei), .sl false (ats.map ei)] (fun r => r = .v (.bool true)) := by
  have hK := known20_fn
  have hN := gnew_fn PS 7 (by omega) (by omega)
  refine fn_enter Tryz.func3 (by rfl) (by rfl) ?_
  intro S0 w0
  show Sim _ _ [(0, T.sl false (ks.map ei)), (1, T.sl false (ats.map ei))] _ _
  refine zC ?_
  apply cr
  refine s_ p_as ?_
  refine zC ?_
  apply cr
  refine s_ (p_ca (hK)) ?_
  refine s_ p_noB ?_
  refine zC ?_
  refine ci (p := False) (fun h => h.elim) (fun _ => ?_)
  refine zC ?_
  apply cr
  refine e_cH (Hs := []) (Hr := []) hN (.refl _) (fun r H ⟨bg, g, hr, hG, hB, hL, hpr, hcf⟩ => ?_)
  subst hr
  rw [List.append_nil]
  have hC := gcalm_fn pk_short bg g H 12 12 (by omega) hB (by omega) hG
  obtain ⟨l1, hB1, _⟩ := hB.calm pk_short.toPO 12 (by omega)
  obtain ⟨hL1, hpr1⟩ := hL.calm pk_short hB 12 (by omega)
  obtain ⟨g1, hg1⟩ : ∃ g1, g1 = calmG g 12 := ⟨_, rfl⟩
  rw [← hg1] at hC hB1 hL1 hpr1
  rw [hpr] at hpr1
  have hway : g1.way.length ≤ 20 := by
    have : g1.way = (prG g1).way := rfl
    rw [this, hpr1]; exact known12
  clear hL hpr hL1 hpr1 hg1
  refine s_ p_mv ?_
  refine s_ p_ex ?_
  refine s_ p_ex ?_
  refine s_ p_as ?_
  refine s_ p_as ?_
  refine zC ?_
  apply cr
  refine s_ p_mv ?_
  refine e_cHA hC (fun r H' ⟨hr1, hG1⟩ => ?_)
  subst hr1
  
  refine zC ?_
  apply cr
  refine s_ p_as ?_
  refine zC ?_
  apply sim_loopL (σ := Nat × Gp × Heap) (ok := fun s => s.1 ≤ 30 ∧ s.1 ≤ ks.length ∧ s.1 ≤ ats.length ∧ NetOk bg s.1 s.2.1 s.2.2) (env := fun s => [(7, ei s.1), (5, pW bg), (0, T.sl false (ks.map ei)), (1, T.sl false (ats.map ei))]) (heap := fun s => s.2.2) (μ := fun s => 30 - s.1) (s0 := (0, g1, H'))
  · exact ⟨Nat.zero_le _, Nat.zero_le _, Nat.zero_le _, hG1, _, l1, hB1, by simp only; omega⟩
  · exact eL
  · exact kR
  clear hG1 hC hB1
  rintro ⟨i, g2, H2⟩ ⟨hi, hik, hia, hok⟩
  simp only at hi hik hia hok
  show Sim _ _ [(7, ei i), (5, pW bg), (0, T.sl false (ks.map ei)), (1, T.sl false (ats.map ei))] H2 _
  refine zC ?_
  apply cr
  refine s_ p_mv ?_
  refine s_ p_mv ?_
  (first | refine s_ p_ln ?_ | refine s_ p_lr ?_)
  refine s_ p_lt ?_
  refine s_ p_mv ?_
  refine gT (fun hg => p_mv) ?_
  refine gT (fun hg => p_mv) ?_
  (first | refine gT (fun hg => p_ln (hx := u_ hg)) ?_ | refine gT (fun hg => p_lr (hx := u_ hg)) ?_)
  refine gT (fun hg => p_lt (hx := u_ hg) (hy := u_ hg)) ?_
  refine s_ p_an ?_
  refine s_ p_mv ?_
  refine gT (fun hg => p_mv) ?_
  refine gT (fun hg => p_lt (hx := u_ hg)) ?_
  refine s_ p_an ?_
  refine zC ?_
  refine ci ?_ ?_
  · rintro ⟨⟨hlt1, hlt2⟩, hlt3⟩
    rw [List.length_map] at hlt1 hlt2
    have hix : i < ats.length := by omega
    have hix2 : i < ks.length := by omega
    apply ck
    apply cq
    refine sim_cutP (σ := Gp × Heap) (ok := fun s => NetOk bg (i + 1) s.1 s.2) (env := fun _ => [(7, ei i), (5, pW bg), (0, T.sl false (ks.map ei)), (1, T.sl false (ats.map ei))]) (heap := fun s => s.2) ?_ (fun s hs => ?_)
    · have hi30 : i < 30 := by omega
      obtain ⟨hG2, τ2, l2, hB2, hw2⟩ := hok
      have hfew : g2.way.length < 300 := NetOk.few ⟨hG2, τ2, l2, hB2, hw2⟩ hi
      have ht2 := hB2.tau
      have hUn := gunder_fn bg g2 H2 hG2
      refine zC ?_
      apply cr
      refine s_ p_mv ?_
      refine e_cHA hUn (fun r H3 ⟨hr1, hr2⟩ => ?_)
      subst hr1 hr2
      obtain ⟨n, hn⟩ : ∃ n, n = g2.way.length := ⟨_, rfl⟩
      rw [← hn]
      have hw1 := within20_fn ats[i] ((n : Int) + 3) (by omega) (by omega)
      have hm0 := Int.emod_nonneg ats[i] (show ((n : Int) + 3) ≠ 0 by omega)
      have hm1 := Int.emod_lt_of_pos ats[i] (show 0 < ((n : Int) + 3) by omega)
      refine s_ p_as ?_
      refine zC ?_
      apply cr
      refine s_ p_mv ?_
      refine s_ p_mv ?_
      (first | refine s_ (p_ix hix) ?_ | refine s_ (p_ix hix2) ?_ | refine s_ p_ia ?_ | refine s_ p_ir ?_)
      (first | refine s_ p_ld ?_ | refine s_ p_lo ?_)
      refine s_ p_mv ?_
      refine s_ p_ad ?_
      refine s_ (p_ca (hw1)) ?_
      refine s_ p_su ?_
      refine s_ p_as ?_
      refine zC ?_
      obtain ⟨k, hk⟩ : ∃ k, k = ats[i] % ((n : Int) + 3) - 1 := ⟨_, rfl⟩
      rw [← hk]
      have hk0 : -1 ≤ k := by omega
      have hk1 : k ≤ n + 1 := by omega
      have hw3 := within20_fn ks[i] 3 (by omega) (by omega)
      have hq0 := Int.emod_nonneg ks[i] (show (3 : Int) ≠ 0 by omega)
      have hq1 := Int.emod_lt_of_pos ks[i] (show 0 < (3 : Int) by omega)
      obtain ⟨q, hq⟩ : ∃ q, q = ks[i] % 3 := ⟨_, rfl⟩
      rw [← hq] at hw3 hq0 hq1
      have hhas : hasG g2 k ↔ (0 ≤ k ∧ k < (n : Int)) := by rw [hn]; exact Iff.rfl
      obtain ⟨one, hone⟩ : ∃ one : Int, one = if 0 ≤ k ∧ k < (n : Int) then 1 else 0 := ⟨_, rfl⟩
      have hone2 : (0 ≤ one ∧ one ≤ 1) := by rw [hone]; split <;> omega
      refine zC ?_
      apply cr
      refine s_ p_mv ?_
      refine s_ p_ge ?_
      refine s_ p_mv ?_
      refine gT (fun hg => p_mv) ?_
      refine gT (fun hg => p_mv) ?_
      refine gT (fun hg => p_lt (hx := u_ hg) (hy := u_ hg)) ?_
      refine s_ p_an ?_
      refine s_ p_as ?_
      refine zC ?_
      apply cr
      refine s_ p_as ?_
      refine zC ?_
      apply cr
      refine s_ p_mv ?_
      refine zC ?_
      refine sim_cut [(11, ei one), (10, .v (.bool (decide (0 ≤ k ∧ k < (n : Int))))), (9, ei k), (8, ei n), (7, ei i), (5, pW bg), (0, T.sl false (ks.map ei)), (1, T.sl false (ats.map ei))] H3 ?_ ?_
      · refine ci ?_ ?_
        · intro h
          rw [if_pos h] at hone
          subst hone
          refine zC ?_
          apply cr
          refine s_ p_as ?_
          refine zC ?_
          exact ⟨eL, kR⟩
        · intro h
          rw [if_neg h] at hone
          subst hone
          refine zC ?_
          exact ⟨eL, kR⟩
      refine zC ?_
      apply cr
      refine s_ p_mv ?_
      refine s_ p_mv ?_
      (first | refine s_ (p_ix hix) ?_ | refine s_ (p_ix hix2) ?_ | refine s_ p_ia ?_)
      refine s_ p_ld ?_
      refine s_ (p_ca (hw3)) ?_
      refine zC ?_
      refine zC ?_
      apply cr
      refine s_ p_eq ?_
      refine s_ p_as ?_
      refine zC ?_
      refine ci ?_ ?_
      · intro hq0'
        have hD := gdrop_fn bg g2 H3 k hB2 (by omega) hG2
        obtain ⟨hB3, hw4⟩ := hB2.drop k
        refine zC ?_
        apply cr
        refine s_ p_mv ?_
        refine s_ p_mv ?_
        refine e_cHA hD (fun r H4 ⟨hr1, hG4⟩ => ?_)
        subst hr1
        have hU4 := gunder_fn bg (dropG g2 k) H4 hG4
        have hno : ¬ ¬ (hasG g2 k ↔ (0 ≤ k ∧ k < (n : Int))) := fun h => h hhas
        have hn4 : ((dropG g2 k).way.length : Int) = n - one := by
          rw [hw4, hone, ← hn]
          by_cases h : 0 ≤ k ∧ k < (n : Int)
          · rw [if_pos h, if_pos (hhas.2 h)]; omega
          · rw [if_neg h, if_neg (fun h' => h (hhas.1 h'))]; omega
        refine s_ p_mv ?_
        refine s_ p_neB ?_
        refine s_ p_mv ?_
        refine gF (fun hg => p_mv) ?_
        refine gF_cH (p := ¬ (hasG g2 k ↔ (0 ≤ k ∧ k < (n : Int)))) (Hr := []) hno hU4 (by rw [List.append_nil]) (fun r H5 ⟨hr1, hr2⟩ => ?_) (ha' := evl_cons (u_ hno) evl_nil)
        subst hr1 hr2
        rw [List.append_nil]
        refine gF (fun hg => p_mv) ?_
        refine gF (fun hg => p_mv) ?_
        refine gF (fun hg => p_su (hx := u_ hg) (hy := u_ hg)) ?_
        refine gF (p := ¬ (hasG g2 k ↔ (0 ≤ k ∧ k < (n : Int)))) (fun hg => p_ne (hy := u_ hg)) ?_
        refine s_ p_or ?_
        refine zC ?_
        refine ci ?_ ?_
        · rintro (h | h)
          · exact absurd h hno
          · exact absurd hn4 h
        · intro _
          refine zC ?_
          exact ⟨(dropG g2 k, H5), _, ⟨hG4, τ2, l2, hB3.le (by omega), by show (dropG g2 k).way.length ≤ _; rw [hw4]; split <;> omega⟩, eL, .refl _, kR⟩
      intro hq0'
      refine zC ?_
      apply cr
      refine s_ p_eq ?_
      refine s_ p_as ?_
      refine zC ?_
      refine ci ?_ ?_
      · intro hq1'
        have hD := gtwice_fn bg g2 H3 k hB2 (by omega) hG2
        obtain ⟨hB3, hw4⟩ := hB2.twice k
        refine zC ?_
        apply cr
        refine s_ p_mv ?_
        refine s_ p_mv ?_
        refine e_cHA hD (fun r H4 ⟨hr1, hG4⟩ => ?_)
        subst hr1
        have hU4 := gunder_fn bg (twiceG g2 k) H4 hG4
        have hno : ¬ ¬ (hasG g2 k ∧ g2.way.length < 300 ↔ (0 ≤ k ∧ k < (n : Int))) := fun h => h ⟨fun h1 => hhas.1 h1.1, fun h1 => ⟨hhas.2 h1, hfew⟩⟩
        have hn4 : ((twiceG g2 k).way.length : Int) = n + one := by
          rw [hw4, hone, ← hn]
          by_cases h : 0 ≤ k ∧ k < (n : Int)
          · rw [if_pos h, if_pos ⟨hhas.2 h, by omega⟩]; omega
          · rw [if_neg h, if_neg (fun h' => h (hhas.1 h'.1))]; omega
        refine s_ p_mv ?_
        refine s_ p_neB ?_
        refine s_ p_mv ?_
        refine gF (fun hg => p_mv) ?_
        refine gF_cH (p := ¬ (hasG g2 k ∧ g2.way.length < 300 ↔ (0 ≤ k ∧ k < (n : Int)))) (Hr := []) hno hU4 (by rw [List.append_nil]) (fun r H5 ⟨hr1, hr2⟩ => ?_) (ha' := evl_cons (u_ hno) evl_nil)
        subst hr1 hr2
        rw [List.append_nil]
        refine gF (fun hg => p_mv) ?_
        refine gF (fun hg => p_mv) ?_
        refine gF (fun hg => p_ad (hx := u_ hg) (hy := u_ hg)) ?_
        refine gF (p := ¬ (hasG g2 k ∧ g2.way.length < 300 ↔ (0 ≤ k ∧ k < (n : Int)))) (fun hg => p_ne (hy := u_ hg)) ?_
        refine s_ p_or ?_
        refine zC ?_
        refine ci ?_ ?_
        · rintro (h | h)
          · exact absurd h hno
          · exact absurd hn4 h
        · intro _
          refine zC ?_
          exact ⟨(twiceG g2 k, H5), _, ⟨hG4, τ2, l2, by rw [show 60 + (i + 1) = 60 + i + 1 by omega]; exact hB3, by show (twiceG g2 k).way.length ≤ _; rw [hw4]; split <;> omega⟩, eL, .refl _, kR⟩
      intro hq1'
      refine zC ?_
      apply cr
      refine s_ p_eq ?_
      refine s_ p_as ?_
      refine zC ?_
      refine ci ?_ ?_
      · intro hq2'
        have hD := gdeliver_fn pk_short bg g2 H3 k hB2 (by omega) hG2
        obtain ⟨l3, hB3, hl3, hw4, hw5⟩ := hB2.deliver pk_short.toPO (by omega) k
        refine zC ?_
        apply cr
        refine s_ p_mv ?_
        refine s_ p_mv ?_
        refine e_cHA hD (fun r H4 ⟨hr1, hG4⟩ => ?_)
        subst hr1
        have hU4 := gunder_fn bg (deliverG g2 k) H4 hG4
        have hno : ¬ ¬ (hasG g2 k ↔ (0 ≤ k ∧ k < (n : Int))) := fun h => h hhas
        refine s_ p_mv ?_
        refine s_ p_neB ?_
        refine s_ p_mv ?_
        refine gF (fun hg => p_mv) ?_
        refine gF_cH (p := ¬ (hasG g2 k ↔ (0 ≤ k ∧ k < (n : Int)))) (Hr := []) hno hU4 (by rw [List.append_nil]) (fun r H5 ⟨hr1, hr2⟩ => ?_) (ha' := evl_cons (u_ hno) evl_nil)
        subst hr1 hr2
        rw [List.append_nil]
        refine gF (fun hg => p_mv) ?_
        refine gF (fun hg => p_su (hx := u_ hg)) ?_
        refine gF (p := ¬ (hasG g2 k ↔ (0 ≤ k ∧ k < (n : Int)))) (fun hg => p_lt (hy := u_ hg)) ?_
        refine s_ p_or ?_
        refine zC ?_
        refine ci ?_ ?_
        · rintro (h | h)
          · exact absurd h hno
          · exact absurd h (by omega)
        · intro _
          refine zC ?_
          exact ⟨(deliverG g2 k, H5), _, ⟨hG4, τ2, l3, hB3.le (by omega), by show (deliverG g2 k).way.length ≤ _; omega⟩, eL, .refl _, kR⟩
      · intro hq2'
        exact absurd hq2' (by have : q = 0 ∨ q = 1 ∨ q = 2 := by omega
                              rcases this with h | h | h
                              · exact absurd h hq0'
                              · exact absurd h hq1'
                              · exact fun h' => h' h)
    obtain ⟨g5, H5⟩ := s
    simp only at hs
    show Sim _ _ [(7, ei i), (5, pW bg), (0, T.sl false (ks.map ei)), (1, T.sl false (ats.map ei))] H5 _
    refine zC ?_
    apply cr
    refine s_ p_mv ?_
    refine s_ p_ad ?_
    refine s_ p_as ?_
    refine zC ?_
    refine ⟨(i + 1, g5, H5), ⟨by simp only; omega, by simp only; omega, by simp only; omega, hs⟩, (by simp only []; omega), ⟨?_, eL⟩, kR⟩
    apply le_get; ((repeat (apply gS; rfl)); exact gZ)
    exact Le.refl _
  · intro hge
    obtain ⟨hG2, τ2, l2, hB2, hw2⟩ := hok
    have hD := gdeliver_fn pk_short bg g2 H2 (-1) hB2 (by omega) hG2
    obtain ⟨l3, hB3, hl3, hw4, hw5⟩ := hB2.deliver pk_short.toPO (by have := hB2.tau; omega) (-1)
    have hn1 : ¬ hasG g2 (-1) := fun h => absurd h.1 (by omega)
    refine zC ?_
    apply cr
    refine s_ p_mv ?_
    refine e_cHA hD (fun r H4 ⟨hr1, hG4⟩ => ?_)
    subst hr1
    have hf3 := hB3.five
    have hn2 : ¬ hasG (deliverG g2 (-1)) 1099511627776 := fun h => absurd h.2 (by omega)
    have hD4 := gdrop_fn bg (deliverG g2 (-1)) H4 1099511627776 hB3 (by omega) hG4
    have hyes : ¬ hasG g2 (-1) := hn1
    refine s_ p_no ?_
    refine s_ p_mv ?_
    refine gT (fun hg => p_mv) ?_
    refine gT_cH (p := ¬ hasG g2 (-1)) (Hr := []) hyes hD4 (by rw [List.append_nil]) (fun r H5 ⟨hr1, hG5⟩ => ?_) (ha' := evl_cons (u_ hyes) (evl_cons ev_int evl_nil))
    subst hr1
    rw [List.append_nil]
    refine gT (p := ¬ hasG g2 (-1)) (fun hg => p_no (p := hasG (deliverG g2 (-1)) 1099511627776)) ?_
    refine s_ p_an ?_
    refine s_ p_as ?_
    refine zC ?_
    refine zE ?_
    exact Le.of_eq (by show T.v (.bool (decide (¬ hasG g2 (-1) ∧ ¬ hasG (deliverG g2 (-1)) 1099511627776))) = _; rw [decide_eq_true ⟨hn1, hn2⟩])
end Go.Proofs.YtjbokbikkcfjjaaGreat
end
section
namespace Go.Cap
open Go.ChangeShapes Go.WideShapes Go.ChangeAt Go.RowKit
theorem Step.below {S S' : Nat → Prop} {w w' : World} (h : Step [] S w S' w') : Below w.heap.size w w' := ⟨h.os, h.tape, h.output, h.size, fun k hk => h.keep k hk (by simp)⟩
theorem calls_true {P : Program} {f : FuncId} {args : List T} (h : FnP P f args (fun r => r = .v (.bool true))) {w : World} {vs : List Value} (hr : RelL (fun b => b < w.heap.size) w args vs) :
    Calls P f vs.toArray w fun e w' => e = .returned (.bool true) ∧ Below w.heap.size w w' := by
  refine (h (fun b => b < w.heap.size) w vs (fun b hb => hb) (Own.nil _ _) hr).mono ?_
  rintro e w' ⟨u, S', r, H', rfl, ⟨_, rfl⟩, hrel, _, hst, _⟩
  exact ⟨by rw [hrel.v_eq], hst.below⟩
section
variable {H : Type} {enc : TypeId × Value → H} {P : Program}
theorem trodAll_below (hl : laidOutB P = true) {W W' : World} (hb : Below W.heap.size W W') : ∀ (ts : List TypeId) (vs : List Value) (ds : List (DataW H)) (ps : List MemPlace),
    (∀ t ∈ ts, P.readableRec t = true ∧ t < P.types.size) → DataW.TrodAll enc P W 0 (fun _ => true) true ts vs ds ps → (∀ x ∈ ps, x.block < W.heap.size) →
    DataW.TrodAll enc P W' 0 (fun b => decide (b < W.heap.size)) true ts vs ds ps
  | [], _, _, _, _, h, _ => by
    obtain ⟨rfl, rfl, rfl⟩ := trodAll_nil h
    exact h
  | t :: ts, _, _, _, ht, h, hp => by
    obtain ⟨v, vs1, d, ds1, a, b, rfl, rfl, rfl, h1, h2⟩ := trodAll_cons h
    refine ⟨a, b, Below.trod hl (ht t List.mem_cons_self).1 (ht t List.mem_cons_self).2 h1 hb (fun x hx => hp x (List.mem_append_left _ hx)), ?_, rfl⟩
    exact trodAll_below hl hb ts vs1 ds1 b (fun y hy => ht y (List.mem_cons_of_mem _ hy)) h2 (fun x hx => hp x (List.mem_append_right _ hx))
theorem post_true {f : Func} {s : ChangeSpec} {W W' : World} {args : Array Value} {ds gs : List (DataW H)} {before : List MemPlace} {tb : TypeId} (hl : laidOutB P = true) (hvs : s.vars = [])
    (hW : DataW.Whole enc P f.params.toList s.vars false W args.toList ds gs before) (hb : Below W.heap.size W W') (hts : (f.params.toList.all fun t => P.readableRec t && Nat.blt t P.types.size) = true)
    (hres : (s.fn H (ds ++ gs)).results = [.lit (.bool true)]) (harg : (s.fn H (ds ++ gs)).args = ds) (hvar : (s.fn H (ds ++ gs)).vars = []) (hr : f.resultTypes = #[tb]) (htb : P.underlying tb = some .bool) :
    s.post enc P f false true false false W args (.bool true) W' := by
  have hts' : ∀ t ∈ f.params.toList, P.readableRec t = true ∧ t < P.types.size := fun t ht => by
    have := List.all_eq_true.1 hts t ht
    simp only [Bool.and_eq_true] at this
    exact ⟨this.1, by simpa using this.2⟩
  have hW' := hW
  obtain ⟨p, q, hA, hV, rfl, hfz, hnd⟩ := hW
  rw [hvs] at hV
  obtain ⟨rfl, rfl⟩ := trodVars_none hV
  refine ⟨ds, [], p ++ [], [], p, [], hW', ?_, ?_, ?_, hb.frame _, fun h => by cases h⟩
  · rw [hres, hr]
    exact trodAll_mk1 (shut_bool htb true)
  · rw [harg]
    exact trodAll_below hl hb _ _ _ _ hts' hA (fun x hx => hW'.lt x (by simpa using hx))
  · rw [hvs, hvar]; rfl
end
end Go.Cap
end
section
namespace Go.Cap
open Go.ChangeShapes Go.WideShapes Go.Deep
def below (w : World) : Nat → Prop := fun b => b < w.heap.size
section
variable {H : Type} {enc : TypeId × Value → H} {P : Program} {w : World} {t e : TypeId}
def Dec (enc : TypeId × Value → H) (P : Program) (w : World) (t : TypeId) {α : Type} (f : α → List T) (ok : α → Prop) : Prop :=
  ∀ fuel cs x, DataW.trod enc P w 0 (fun _ => true) true fuel t cs = some x → ∃ a, RelL (below w) w (f a) cs ∧ ok a
theorem dec_int {k : IntKind} (ht : P.underlying t = some (.int k)) : Dec enc P w t (fun n : Int => [T.v (.int k n)]) (fun n => (Lit.int k n).wf = true) := by
  intro fuel cs x h
  obtain ⟨n, rfl, _, hw⟩ := DataW.trod_int ht h
  exact ⟨n, .cons _ _ _ _ (.v _) .nil, hw⟩
def Whole {α : Type} (f : α → List T) (g : α → T) : Prop := ∀ a, (g a = .agg (f a)) ∨ (f a = [g a] ∧ (g a).isLeaf = true)
theorem whole_val {α : Type} {f : α → List T} {g : α → T} (hw : Whole f g) {a : α} {S : Nat → Prop} {cs : List Value} (h : RelL S w (f a) cs) : ∃ v, Rel S w (g a) v ∧ v.cells.toList = cs := by
  rcases hw a with h1 | ⟨h1, h2⟩
  · exact ⟨.agg cs.toArray, by rw [h1]; exact .agg _ _ h, by simp [Value.cells]⟩
  · rw [h1] at h
    cases h with
    | cons _ y _ ys h3 h4 =>
      cases h4
      exact ⟨y, h3, by rw [(h3.leaf_cells h2).1]⟩
theorem cells_row {a : Addr} {k n : Nat} (hk : 0 < k) (hn : 0 < n) {cs' : Nat → List Value} (h : ∀ i, i < n → w.cells? 0 (a.add (i * k)) k = some (cs' i)) :
    ∃ cs ty fz, w.heap[a.block]? = some (.cells cs ty fz) ∧ a.spot = none ∧ ∀ i, i < n → (cs.toList.drop (a.off + i * k)).take k = cs' i := by
  have h0 := h 0 hn
  obtain ⟨_, hl0, hc0⟩ := World.cells?_some h0
  have hc := hc0 0 hk
  rw [Nat.zero_mul] at hc
  have he : (a.add 0).add 0 = a := by simp [Addr.add]
  rw [he] at hc
  obtain ⟨v0, hv0⟩ : ∃ v, (cs' 0)[0]? = some v := ⟨(cs' 0)[0]'(by omega), by simp [hl0, hk]⟩
  rw [hv0] at hc
  have key := hc
  unfold World.cell? at key
  cases hb : w.heap[a.block]? with
  | none => rw [hb] at key; simp at key
  | some o =>
    rw [hb] at key
    cases o with
    | cells cs ty fz =>
      simp only at key
      have hsp : a.spot = none := by
        cases hs : a.spot with
        | none => rfl
        | some s => rw [hs] at key; simp at key
      refine ⟨cs, ty, fz, rfl, hsp, fun i hi => ?_⟩
      obtain ⟨_, hl, hci⟩ := World.cells?_some (h i hi)
      refine List.ext_getElem? fun j => ?_
      rw [List.getElem?_take]
      split
      · rename_i hj
        rw [List.getElem?_drop, ← hci j hj]
        have e2 : ((a.add (i * k)).add j) = ⟨a.block, a.off + i * k + j, none⟩ := by
          obtain ⟨ab, ao, asp⟩ := a
          simp only at hsp
          subst hsp
          rw [Addr.add_mk, Addr.add_mk]
        rw [e2, cell_block hb]
        simp
      · rename_i hj
        rw [List.getElem?_eq_none (by omega)]
    | _ => simp at key
theorem dec_slice {α : Type} {f : α → List T} {g : α → T} {ok : α → Prop} {k : Nat} (ht : P.underlying t = some (.slice e)) (hk : P.cellsOf e = k) (hk0 : 0 < k) (he : Dec enc P w e f ok) (hw : Whole f g) :
    Dec enc P w t (fun l : List α => [T.sl false (l.map g)]) (fun l => l.length ≤ maxLen ∧ ∀ a ∈ l, ok a) := by
  intro fuel cs x h
  subst hk
  rcases open_slice ht h with ⟨rfl, _⟩ | ⟨a, len, cap, m, n, D, Pl, rfl, _, hl, hm, hmm, _, hx⟩
  · exact ⟨[], .cons _ _ _ _ (.nil _ _ _ (by simp)) .nil, Nat.zero_le _, by simp⟩
  have hmc : m = cap := by simpa using hmm
  subst hmc
  rcases Nat.eq_zero_or_pos len with h0 | h0
  · subst h0
    exact ⟨[], .cons _ _ _ _ (.nil _ _ _ (by simp)) .nil, Nat.zero_le _, by simp⟩
  have hex : ∀ i, ∃ cs' : List Value, i < len → w.cells? 0 (a.add (i * P.cellsOf e)) (P.cellsOf e) = some cs' ∧ ∃ b, RelL (below w) w (f b) cs' ∧ ok b := fun i => by
    by_cases hi : i < len
    · obtain ⟨cs', h1, h2⟩ := hx i (by omega)
      exact ⟨cs', fun _ => ⟨h1, he _ _ _ h2⟩⟩
    · exact ⟨[], fun h => absurd h hi⟩
  obtain ⟨C, hC⟩ := Classical.axiomOfChoice hex
  obtain ⟨cs, ty, fz, hb, hsp, hrow⟩ := cells_row hk0 h0 (fun i hi => (hC i hi).1)
  -- the elements, one by one
  have build : ∀ n, n ≤ len → ∃ (l : List α) (vs : List Value), l.length = n ∧ RelL (below w) w (l.map g) vs ∧ (∀ v ∈ vs, v.cells.size = P.cellsOf e) ∧ (∀ a ∈ l, ok a) ∧ (cs.toList.drop a.off).take (n * P.cellsOf e) = vs.flatMap fun v => v.cells.toList := by
    intro n
    induction n with
    | zero => intro _; exact ⟨[], [], rfl, .nil, by simp, by simp, by simp⟩
    | succ n ih =>
      intro hn
      obtain ⟨l, vs, h1, h2, h3, h4, h5⟩ := ih (by omega)
      obtain ⟨hc1, b, hb1, hb2⟩ := hC n (by omega)
      obtain ⟨v, hv, hvc⟩ := whole_val hw hb1
      have hlen : (C n).length = P.cellsOf e := (World.cells?_some hc1).2.1
      refine ⟨l ++ [b], vs ++ [v], by simp [h1], by rw [List.map_append]; exact h2.append (.cons _ _ _ _ hv .nil), fun u hu => ?_, fun u hu => ?_, ?_⟩
      · rcases List.mem_append.1 hu with hu | hu
        · exact h3 u hu
        · simp at hu; subst hu
          have := congrArg List.length hvc
          simpa [hlen] using this
      · rcases List.mem_append.1 hu with hu | hu
        · exact h4 u hu
        · simp at hu; subst hu; exact hb2
      · rw [List.flatMap_append, ← h5, Nat.succ_mul, List.take_add, List.drop_drop, hrow n (by omega)]
        simp [hvc]
  obtain ⟨l, vs, h1, h2, h3, h4, h5⟩ := build len (Nat.le_refl _)
  have hvl : vs.length = len := by have := h2.length; rw [this, List.length_map, h1]
  refine ⟨l, .cons _ _ _ _ ?_ .nil, by omega, h4⟩
  obtain ⟨ab, ao, asp⟩ := a
  simp only at hsp hb h5
  subst hsp
  rw [← hvl]
  exact .sl false _ ab ao m vs (P.cellsOf e) cs ty fz ((Array.getElem?_eq_some_iff.1 hb).1) hb h2 ⟨h3, by rw [hvl]; exact h5⟩ (by simp) (by omega)
theorem Dec.val {α : Type} {f : α → List T} {ok : α → Prop} (h : Dec enc P w t f ok) {v : Value} {d : DataW H} {ps : List MemPlace} (hd : DataW.Trod enc P w 0 (fun _ => true) true t v d ps) : ∃ a, RelL (below w) w (f a) v.cells.toList ∧ ok a := by
  obtain ⟨fuel, hf⟩ := hd
  exact h _ _ _ hf
theorem val_one {S : Nat → Prop} {x : T} {v : Value} (h : RelL S w [x] v.cells.toList) (hv : v.oneCell' = true) : Rel S w x v := by
  cases v <;> simp_all [Value.oneCell', Value.cells] <;> (cases h with | cons _ _ _ _ h _ => exact h)
theorem slice_one {r : Reach} {b0 : Nat} {v : Value} (ht : P.underlying t = some (.slice e)) (h : Value.okWide P w r b0 t v) : v.oneCell' = true := by
  cases v <;> simp_all [Value.okWide, Cell.okWide, Cell.ok, Value.oneCell']
theorem arg_slice {α : Type} {g : α → T} {ok : List α → Prop} {r : Reach} {b0 : Nat} {v : Value} {d : DataW H} {ps : List MemPlace} (ht : P.underlying t = some (.slice e)) (hval : Value.okWide P w r b0 t v) (hd : DataW.Trod enc P w 0 (fun _ => true) true t v d ps)
    (h : Dec enc P w t (fun l : List α => [T.sl false (l.map g)]) ok) : ∃ l : List α, Rel (below w) w (.sl false (l.map g)) v ∧ ok l := by
  obtain ⟨l, h1, h2⟩ := h.val hd
  exact ⟨l, val_one h1 (slice_one ht hval), h2⟩
theorem maxLen_eq : maxLen = 9223372036854775807 := rfl
end
end Go.Cap
end
