/-
  ReplicaSafe, in plain words: who led, what was committed, what logs hold.
-/
import Derived.Test.YtppaabahbjgihaaFivs
namespace Go.Proofs.Ytppaabahbjgihaa
open Raft Go.Cap
/-- What two know to be committed is the same, as far as both go. -/
theorem known_two {H : Hist} (F : Facts H) {T T' : Int} {l l' : List En} {k k' : Nat} (h : Known H T l k) (h' : Known H T' l' k') {j : Nat} (hj : j ≤ k) (hj' : j ≤ k') : AG l l' j := by
  rcases Nat.eq_zero_or_pos j with rfl | hj0
  · exact AG.zero _ _
  rcases h with h | ⟨S, c, n, h1, h2, h3, h4⟩
  · omega
  rcases h' with h' | ⟨S', c', n', h1', h2', h3', h4'⟩
  · omega
  have key : ∀ {S S' : Int} {c c' n n' : Nat}, H.cmt S c n → H.cmt S' c' n' → S < S' → AG (H.LL S) (H.LL S') c := by
    intro S S' c c' n n' a a' hlt
    have hl := (F.com _ _ _ a').1
    have h5 := completeness F (F.wins hl) a hlt
    have h6 := F.cl S' hl
    exact h5.trans (h6.1.le (by have := h5.2.1; omega))
  rcases Int.lt_trichotomy S S' with hlt | rfl | hlt
  · exact ((h4.le hj).symm.trans ((key h1 h1' hlt).le (by omega))).trans (h4'.le hj')
  · exact (h4.le hj).symm.trans (h4'.le hj')
  · exact ((h4.le hj).symm.trans ((key h1' h1 hlt).le (by omega)).symm).trans (h4'.le hj')
/-- Who led, in what terms; what was committed first. -/
structure Sf (H : Hist) (led who : List Int) (D : List En) : Prop where
  len : led.length = who.length
  lead : ∀ (j : Nat) (t k : Int), led[j]? = some t → who[j]? = some k → H.led t ∧ (H.ld t : Nat) = k
  don : ∃ T, Known H T D D.length
theorem Sf.ext {H H' : Hist} {led who : List Int} {D : List En} (F : Facts H) (E : Ext H H') (h : Sf H led who D) : Sf H' led who D := by
  refine ⟨h.len, fun j t k h1 h2 => ?_, ?_⟩
  · obtain ⟨h3, h4⟩ := h.lead j t k h1 h2
    exact ⟨E.led _ h3, by rw [E.ld _ h3]; exact h4⟩
  · obtain ⟨T, hT⟩ := h.don
    exact ⟨T, hT.ext F E⟩
theorem Sf.dlen {H : Hist} {led who : List Int} {D : List En} (F : Facts H) (h : Sf H led who D) : D.length ≤ H.bd := by
  obtain ⟨T, hT⟩ := h.don
  rcases hT with h1 | ⟨S, c, n, h1, h2, h3, h4⟩
  · omega
  · have := F.lbd _ (F.com _ _ _ h1).1
    have := h4.1
    omega
/-- Nothing was compacted: no snapshots are under way. -/
def B0 (N : Nat → Nd) (M : List Ms) : Prop := (∀ i, i < 5 → (N i).base = 0) ∧ ∀ m ∈ M, m.kind ≠ 5
theorem commit_base (n : Nd) : (commitF n).base = n.base ∧ (commitF n).next = n.next := by
  obtain ⟨c, r, w, e⟩ := commitF_eq n
  rw [e]; exact ⟨rfl, rfl⟩
theorem owe_kind {n : Nd} {to : Int} (hb : n.base = 0) (hx : 1 ≤ n.next.get to.toNat) : (oweF n to).kind ≠ 5 := by
  unfold oweF
  rw [if_neg (by omega)]
  simp [sendF]
theorem owes_kind {n : Nd} (hb : n.base = 0) (hx : ∀ to, to < 5 → 1 ≤ n.next.get to) : ∀ m ∈ toAll n (oweF n) 5, m.kind ≠ 5 := by
  intro m hm
  obtain ⟨to, h1, rfl⟩ := toAll_mem hm
  exact owe_kind hb (by rw [Int.toNat_natCast]; exact hx to h1)
theorem lead_kind {n : Nd} (hb : n.base = 0) : (leadF n).base = 0 ∧ ∀ m ∈ toAll (leadF n) (oweF (leadF n)) 5, m.kind ≠ 5 := by
  have h1 := commit_base (leadN n)
  have h2 : (leadF n).base = 0 := by rw [leadF, h1.1]; exact hb
  refine ⟨h2, owes_kind h2 fun to _ => ?_⟩
  rw [leadF_next]; omega
theorem tick_kind {H : Hist} {i : Nat} {n : Nd} {l : List En} (h : NI H i n l) (hb : n.base = 0) : (tickF n).1.base = 0 ∧ ∀ m ∈ (tickF n).2, m.kind ≠ 5 := by
  unfold tickF
  split
  · rename_i hr
    exact ⟨hb, owes_kind hb fun to ht => ((h.lead hr).nx to ht).1⟩
  · split
    · exact ⟨hb, fun m hm => by cases hm⟩
    · split
      · unfold standF
        split
        · exact lead_kind (n := standN { n with wait := n.wait + 1 }) hb
        · refine ⟨hb, fun m hm => ?_⟩
          obtain ⟨to, h1, rfl⟩ := toAll_mem (n := standN { n with wait := n.wait + 1 }) (F := fun to => sendF (standN { n with wait := n.wait + 1 }) to (askM (lastF { n with wait := n.wait + 1 }) (termF { n with wait := n.wait + 1 } (lastF { n with wait := n.wait + 1 })))) (k := 5) hm
          simp [sendF, askM]
      · exact ⟨hb, fun m hm => by cases hm⟩
theorem take_kind {H : Hist} {i : Nat} {n : Nd} {l : List En} (F : Facts H) (h : NI H i n l) {m : Ms} (M : MI H m) (hb : n.base = 0) (hk : m.kind ≠ 5) : (takeF n m).1.base = 0 ∧ ∀ x ∈ (takeF n m).2, x.kind ≠ 5 := by
  unfold takeF
  split
  · exact ⟨hb, fun m hm => by cases hm⟩
  rename_i hbad
  have ht : ¬ 1073741824 < m.term := fun h1 => hbad (.inr (.inr h1))
  have hk5 : ¬ (m.kind < 1 ∨ 5 < m.kind) := fun h1 => hbad (.inr (.inl (.inl h1)))
  have hu : NI H i (upN n m) l := h.up (by omega)
  have hb' : (upN n m).base = 0 := by
    obtain ⟨_, _, _, _, e, _⟩ := upN_eq n m
    rw [e]; exact hb
  generalize upN n m = n at hu hb'
  unfold actF
  split
  · refine ⟨?_, fun x hx => by rw [List.mem_singleton.1 hx]; simp [sendF, votedM]⟩
    exact (voteF_keeps n m).2.2.2.2.2.2.1.trans hb'
  split
  · unfold votedF
    split
    · exact ⟨hb', fun m hm => by cases hm⟩
    · split
      · exact lead_kind (n := countN n m) hb'
      · exact ⟨hb', fun m hm => by cases hm⟩
  split
  · unfold addF
    split
    · exact ⟨hb', fun x hx => by rw [List.mem_singleton.1 hx]; simp [sendF, addedM]⟩
    · split
      · exact ⟨hb', fun x hx => by rw [List.mem_singleton.1 hx]; simp [sendF, addedM]⟩
      · split
        · exact ⟨hb', fun x hx => by rw [List.mem_singleton.1 hx]; simp [sendF, addedM]⟩
        · exact ⟨hb', fun x hx => by rw [List.mem_singleton.1 hx]; simp [sendF, addedM]⟩
  split
  · unfold heardF
    split
    · exact ⟨hb', fun m hm => by cases hm⟩
    · rename_i hc
      have hr : n.role = 2 := Classical.byContradiction fun h1 => hc (.inr h1)
      split
      · exact ⟨(commit_base _).1.trans hb', fun m hm => by cases hm⟩
      · have hB := (back_go F hu hr M).2
        split
        · refine ⟨hb', fun x hx => ?_⟩
          rw [List.mem_singleton.1 hx]
          obtain ⟨f, hf, hmf⟩ := M.frm
          exact owe_kind (n := backN n m) hb' (by rw [hmf, Int.toNat_natCast]; exact (hB.nx f hf).1)
        · exact ⟨hb', fun m hm => by cases hm⟩
  · omega
theorem B0.upd {N : Nat → Nd} {M M' : List Ms} {i : Nat} {x : Nd} {out : List Ms} (h : B0 N M) (hx : x.base = 0) (ho : ∀ m ∈ out, m.kind ≠ 5) (hM : ∀ m ∈ M', m ∈ M ∨ m ∈ out) : B0 (updN N i x) M' := by
  refine ⟨fun j hj => ?_, fun m hm => ?_⟩
  · unfold updN
    split
    · exact hx
    · exact h.1 j hj
  · rcases hM m hm with h1 | h1
    · exact h.2 m h1
    · exact ho m h1
theorem B0.act {H : Hist} {L : Nat → List En} {s : Nat} {N : Nat → Nd} {M : List Ms} (I : IvH H L s N M) (h : B0 N M) {a : Ac} (ha : a.kind % 18 ≠ 15) : B0 (doF N M a).1 (doF N M a).2 := by
  have hi := iOf_lt a
  have hN := I.nd _ hi
  have hb := h.1 _ hi
  have hnil : ∀ m ∈ trimM (M ++ []), m ∈ M ∨ m ∈ ([] : List Ms) := fun m hm => .inl (by simpa using trim_mem hm)
  have h0 : ∀ m ∈ ([] : List Ms), m.kind ≠ 5 := fun m hm => by cases hm
  unfold doF
  split
  · obtain ⟨h1, h2⟩ := tick_kind hN hb
    exact h.upd h1 h2 fun m hm => List.mem_append.1 (trim_mem hm)
  split
  · split
    · exact h
    · rename_i hne
      have hk := kOf_lt a hne
      have hm := getD_mem hk
      obtain ⟨t, ht, hto⟩ := (I.ms _ hm).to
      have e : (M.getD (kOf a M) default).to.toNat = t := by rw [hto]; rfl
      rw [e]
      obtain ⟨h1, h2⟩ := take_kind I.F (I.nd t ht) (I.ms _ hm) (h.1 t ht) (h.2 _ hm)
      refine h.upd h1 h2 fun m hm => ?_
      rcases List.mem_append.1 (trim_mem hm) with h | h
      · exact .inl (List.mem_of_mem_eraseIdx h)
      · exact .inr h
  split
  · split
    · exact h
    · exact ⟨h.1, fun m hm => h.2 m (List.mem_of_mem_eraseIdx hm)⟩
  split
  · split
    · rename_i hc
      refine ⟨h.1, fun m hm => ?_⟩
      rcases List.mem_append.1 hm with h1 | h1
      · exact h.2 m h1
      · rw [List.mem_singleton.1 h1]
        exact h.2 _ (getD_mem (kOf_lt a (List.length_pos_iff.1 hc.1)))
    · exact h
  split
  · refine h.upd ?_ h0 hnil
    unfold propF
    split
    · exact hb
    · split
      · exact hb
      · exact (commit_base _).1.trans hb
  split
  · exact h.upd hb h0 hnil
  · refine h.upd ?_ h0 hnil
    unfold changeF
    split
    · exact hb
    · split
      · exact hb
      · split
        · exact hb
        · exact (commit_base _).1.trans hb
theorem B0.begin (c0 : Int) : B0 (newsF c0 5) [] := ⟨fun i hi => by rw [show newsF c0 5 i = newF (i : Nat) c0 from if_pos hi]; rfl, fun m hm => by cases hm⟩
theorem sf_begin (c0 : Int) : Sf (hist0 c0) [] [] [] := ⟨rfl, fun j t k h => by simp at h, 0, .inl rfl⟩
/-- Where nothing is compacted the log is whole. -/
theorem NI.whole {H : Hist} {i : Nat} {n : Nd} {l : List En} (h : NI H i n l) (hb : n.base = 0) : n.log = l := by
  obtain ⟨b, h1, h2, h3, _⟩ := h.bnat
  have : b = 0 := by omega
  rw [h3, this, List.drop_zero]
theorem NI.known {H : Hist} {i : Nat} {n : Nd} {l : List En} (h : NI H i n l) (hb : n.base = 0) : ∃ c : Nat, n.commit = c ∧ c ≤ n.log.length ∧ Known H n.term n.log c := by
  obtain ⟨c, h1, h2, h3, h4⟩ := h.com
  rw [NI.whole h hb]
  exact ⟨c, h1, h3, h4⟩
/-- Who leads now led what it leads. -/
theorem Sf.one {H : Hist} {led who : List Int} {D : List En} {i : Nat} {n : Nd} {l : List En} (h : Sf H led who D) (hn : NI H i n l) (hr : n.role = 2) {j : Nat} {k : Int} (h1 : led[j]? = some n.term) (h2 : who[j]? = some k) : k = (i : Nat) := by
  have := (h.lead j _ _ h1 h2).2
  rw [(hn.lead hr).ld] at this
  exact this.symm
theorem Sf.more {H : Hist} {led who : List Int} {D : List En} {i : Nat} {n : Nd} {l : List En} (h : Sf H led who D) (hn : NI H i n l) (hr : n.role = 2) : Sf H (led ++ [n.term]) (who ++ [((i : Nat) : Int)]) D := by
  refine ⟨by simp [h.len], fun j t k h1 h2 => ?_, h.don⟩
  rcases Nat.lt_or_ge j led.length with hj | hj
  · rw [List.getElem?_append_left hj] at h1
    rw [List.getElem?_append_left (by rw [← h.len]; exact hj)] at h2
    exact h.lead j t k h1 h2
  · rw [List.getElem?_append_right hj] at h1
    rw [List.getElem?_append_right (by rw [← h.len]; exact hj)] at h2
    have hj0 : j - led.length = 0 := by
      rcases Nat.eq_zero_or_pos (j - led.length) with h | h
      · exact h
      · rw [List.getElem?_eq_none (by simp only [List.length_singleton]; omega)] at h1; cases h1
    rw [hj0] at h1
    rw [← h.len, hj0] at h2
    simp only [List.getElem?_cons_zero, Option.some.injEq] at h1 h2
    subst h1 h2
    have L := hn.lead hr
    exact ⟨L.led, by rw [L.ld]⟩
theorem Sf.put {H : Hist} {led who : List Int} {D D' : List En} (h : Sf H led who D) {T : Int} (hD : Known H T D' D'.length) : Sf H led who D' := ⟨h.len, h.lead, T, hD⟩
/-- One more that is committed. -/
theorem done_more {H : Hist} (F : Facts H) {T T' : Int} {D l : List En} {c : Nat} (hD : Known H T D D.length) (hl : Known H T' l c) (hc : c ≤ l.length) (hj : D.length < c) : Known H T' (D ++ [l.getD D.length default]) (D.length + 1) := by
  have h1 := known_two F hD hl (Nat.le_refl _) (by omega)
  have hdl : D.length < l.length := by omega
  have h2 : D ++ [l.getD D.length default] = l.take (D.length + 1) := by
    rw [List.take_succ_eq_append_getElem hdl, ← h1.2.2, List.take_length, List.getD_eq_getElem?_getD, List.getElem?_eq_getElem hdl]; rfl
  rw [h2]
  exact (hl.le (show D.length + 1 ≤ c by omega)).to (AG.takeSelf (by omega))
theorem done_same {H : Hist} (F : Facts H) {T T' : Int} {D l : List En} {c j : Nat} (hD : Known H T D D.length) (hl : Known H T' l c) (h1 : j < D.length) (h2 : j < c) : D[j]? = l[j]? := (known_two F hD hl (j := j + 1) (by omega) (by omega)).get (Nat.lt_succ_self _)
end Go.Proofs.Ytppaabahbjgihaa
