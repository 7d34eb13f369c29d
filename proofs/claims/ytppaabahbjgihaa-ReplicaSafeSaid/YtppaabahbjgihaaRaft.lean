/-
  Raft's safety, the combinatorics: who leads a later term has what was committed; one leads in a term.
  Raft's safety, the combinatorics: what was committed is in every later leader's log; one leads in a term.
  Raft's safety: what happens, step by step, keeps the facts.
  Raft's safety: each thing that may happen keeps the facts.
  Raft's safety: a node by its whole log; what others see of what one does.
  Raft's safety: votes, who leads, what is laid and committed, node by node.
  Raft's safety: who begins to lead, what a leader lays and hears, what others lay.
  Raft's safety: each of the calls keeps what is known of a node; what holds of all five.
-/
import Derived.Test.YtppaabahbjgihaaNode
import Derived.Test.YtppaabahbjgihaaCompact
section
namespace Go.Proofs.Ytppaabahbjgihaa
namespace Raft
/-- Two logs are the same up to k. -/
def AG (l m : List En) (k : Nat) : Prop := k ≤ l.length ∧ k ≤ m.length ∧ l.take k = m.take k
theorem AG.symm {l m : List En} {k : Nat} (h : AG l m k) : AG m l k := ⟨h.2.1, h.1, h.2.2.symm⟩
theorem AG.trans {l m n : List En} {k : Nat} (h : AG l m k) (h' : AG m n k) : AG l n k := ⟨h.1, h'.2.1, h.2.2.trans h'.2.2⟩
theorem AG.le {l m : List En} {k j : Nat} (h : AG l m k) (hj : j ≤ k) : AG l m j := by
  refine ⟨Nat.le_trans hj h.1, Nat.le_trans hj h.2.1, ?_⟩
  have := congrArg (List.take j) h.2.2
  rwa [List.take_take, List.take_take, Nat.min_eq_left hj] at this
theorem AG.refl {l : List En} {k : Nat} (h : k ≤ l.length) : AG l l k := ⟨h, h, rfl⟩
theorem AG.zero (l m : List En) : AG l m 0 := ⟨Nat.zero_le _, Nat.zero_le _, by simp⟩
theorem AG.get {l m : List En} {k i : Nat} (h : AG l m k) (hi : i < k) : l[i]? = m[i]? := by
  have := congrArg (fun x => x[i]?) h.2.2
  simpa [List.getElem?_take, hi] using this
theorem AG.of_get {l m : List En} : ∀ {k : Nat}, k ≤ l.length → k ≤ m.length → (∀ i, i < k → l[i]? = m[i]?) → AG l m k := by
  intro k h1 h2 h
  refine ⟨h1, h2, List.ext_getElem? fun i => ?_⟩
  by_cases hi : i < k
  · simp [List.getElem?_take, hi, h i hi]
  · simp [List.getElem?_take, hi]
/-- The longest front of both. -/
theorem ag_max (l m : List En) : ∃ a, AG l m a ∧ ∀ k, AG l m k → k ≤ a := by
  have key : ∀ n, ∃ a, AG l m a ∧ ∀ k, k ≤ n → AG l m k → k ≤ a := by
    intro n
    induction n with
    | zero => exact ⟨0, AG.zero _ _, fun k hk _ => hk⟩
    | succ n ih =>
      obtain ⟨a, ha, hm⟩ := ih
      by_cases h : AG l m (n + 1)
      · exact ⟨n + 1, h, fun k hk _ => hk⟩
      · refine ⟨a, ha, fun k hk hag => ?_⟩
        rcases Nat.lt_or_ge k (n + 1) with h' | h'
        · exact hm k (by omega) hag
        · have : k = n + 1 := by omega
          subst this; exact absurd hag h
  obtain ⟨a, ha, hm⟩ := key l.length
  exact ⟨a, ha, fun k hk => hm k hk.1 hk⟩
/-- The members by a log: its last entry with members, or who began. -/
def confL (c0 : Int) (l : List En) : Int := l.foldl (fun c e => if e.conf = 0 then c else e.conf) c0
theorem confL_app (c0 : Int) (l m : List En) : confL c0 (l ++ m) = confL (confL c0 l) m := List.foldl_append
theorem confL_none : ∀ (m : List En) (c : Int), (∀ e ∈ m, e.conf = 0) → confL c m = c
  | [], _, _ => rfl
  | e :: m, c, h => by
    show confL (if e.conf = 0 then c else e.conf) m = c
    rw [if_pos (h e List.mem_cons_self)]
    exact confL_none m c fun x hx => h x (List.mem_cons_of_mem _ hx)
/-- No entry with members from a on: the members are those of the front. -/
theorem confL_front {c0 : Int} {l : List En} {a : Nat} (h : ∀ j e, a ≤ j → l[j]? = some e → e.conf = 0) : confL c0 l = confL c0 (l.take a) := by
  conv => lhs; rw [← List.take_append_drop a l]
  rw [confL_app]
  refine confL_none _ _ fun e he => ?_
  obtain ⟨i, hi⟩ := List.mem_iff_getElem?.1 he
  rw [List.getElem?_drop] at hi
  exact h (a + i) e (by omega) hi
/-- One entry with members from a on, at j: they are its. -/
theorem confL_one {c0 : Int} {l : List En} {j : Nat} {e : En} (he : l[j]? = some e) (hc : e.conf ≠ 0) (h : ∀ i e, j < i → l[i]? = some e → e.conf = 0) : confL c0 l = e.conf := by
  have hj : j < l.length := (List.getElem?_eq_some_iff.1 he).1
  rw [confL_front (a := j + 1) (fun i x hi hx => h i x hi hx), List.take_succ_eq_append_getElem hj, confL_app]
  have : l[j] = e := (List.getElem?_eq_some_iff.1 he).2
  rw [this]
  show (if e.conf = 0 then _ else e.conf) = _
  rw [if_neg hc]
/-- Members that differ by one at most. -/
def near (c d : Int) : Prop := 0 ≤ c ∧ c ≤ 31 ∧ 0 ≤ d ∧ d ≤ 31 ∧ (c = d ∨ ∃ i : Nat, i < 5 ∧ d.toNat = c.toNat ^^^ 2 ^ i)
theorem near.symm {c d : Int} (h : near c d) : near d c := by
  obtain ⟨h1, h2, h3, h4, h5⟩ := h
  refine ⟨h3, h4, h1, h2, h5.elim (fun e => .inl e.symm) fun ⟨i, hi, e⟩ => .inr ⟨i, hi, ?_⟩⟩
  rw [e, Nat.xor_assoc, Nat.xor_self, Nat.xor_zero]
theorem most_mono : ∀ c s t : Fin 32, s.val &&& t.val = s.val → mostF c.val s.val = true → mostF c.val t.val = true := by decide +kernel
theorem most_compl : ∀ c s : Fin 32, mostF c.val s.val = true → mostF c.val ((31 - s.val : Nat) : Int) = true → False := by decide +kernel
theorem most_compl2 : ∀ c s : Fin 32, ∀ i : Fin 5, mostF c.val s.val = true → mostF ((c.val ^^^ 2 ^ i.val : Nat) : Int) ((31 - s.val : Nat) : Int) = true → False := by decide +kernel
theorem sub_compl : ∀ s t : Fin 32, (∀ i : Fin 5, ¬ (s.val.testBit i.val = true ∧ t.val.testBit i.val = true)) → t.val &&& (31 - s.val) = t.val := by decide +kernel
/-- Majorities of near members meet. -/
theorem meet {c d : Int} (h : near c d) {s t : Nat} (hs : s < 32) (ht : t < 32) (h1 : mostF c s = true) (h2 : mostF d t = true) : ∃ i, i < 5 ∧ s.testBit i = true ∧ t.testBit i = true := by
  refine Classical.byContradiction fun hn => ?_
  have hsub := sub_compl ⟨s, hs⟩ ⟨t, ht⟩ fun i hi => hn ⟨i.val, i.isLt, hi.1, hi.2⟩
  dsimp only at hsub
  obtain ⟨hc0, hc1, hd0, hd1, h5⟩ := h
  obtain ⟨c, rfl⟩ : ∃ n : Nat, c = (n : Int) := ⟨c.toNat, by omega⟩
  obtain ⟨d, rfl⟩ : ∃ n : Nat, d = (n : Int) := ⟨d.toNat, by omega⟩
  have h3 := most_mono ⟨d, by omega⟩ ⟨t, ht⟩ ⟨31 - s, by omega⟩ hsub h2
  rcases h5 with e | ⟨i, hi, e⟩
  · have e' : c = d := by omega
    subst e'
    exact most_compl ⟨c, by omega⟩ ⟨s, hs⟩ h1 h3
  · simp only [Int.toNat_natCast] at e
    subst e
    exact most_compl2 ⟨c, by omega⟩ ⟨s, hs⟩ ⟨i, hi⟩ h1 h3
end Raft
end Go.Proofs.Ytppaabahbjgihaa
end
section
namespace Go.Proofs.Ytppaabahbjgihaa
namespace Raft
/-- What has happened: leaders' logs, how long they were when they were elected, candidates' logs, votes, answers, commits. -/
structure Hist where
  c0 : Int
  bd : Nat
  LL : Int → List En
  EL : Int → Nat
  led : Int → Prop
  ld : Int → Nat
  CL : Int → Nat → List En
  vote : Int → Nat → Nat → Prop
  late : Int → Nat → Nat → Prop
  ack : Int → Nat → Nat → Prop
  cmt : Int → Nat → Nat → Prop
variable (H : Hist)
/-- Each entry is its term's leader's, and all ahead of it. -/
def Cons (l : List En) : Prop := ∀ (j : Nat) (e : En), l[j]? = some e → H.led e.term ∧ AG l (H.LL e.term) (j + 1)
def lastT (l : List En) : Int := match l.getLast? with
  | some e => e.term
  | none => 0
def upTo (v x : List En) : Prop := lastT v < lastT x ∨ (lastT v = lastT x ∧ v.length ≤ x.length)
def elected (T : Int) (c : Nat) : Prop := ∃ s : Nat, s < 32 ∧ mostF (confL H.c0 (H.CL T c)) s = true ∧ ∀ i, i < 5 → s.testBit i = true → H.vote T i c
structure Facts : Prop where
  c00 : 0 ≤ H.c0
  c01 : H.c0 ≤ 31
  cr : ∀ t e, H.led t → e ∈ H.LL t → 0 ≤ e.conf ∧ e.conf ≤ 31
  ld5 : ∀ t, H.led t → H.ld t < 5
  lled : ∀ T v c, H.late T v c → H.led T
  vpos : ∀ T v c, H.vote T v c → 0 < T
  lbd : ∀ t, H.led t → (H.LL t).length ≤ H.bd
  ackl : ∀ S v k, H.ack S v k → H.led S ∧ k ≤ (H.LL S).length
  pos : ∀ t, H.led t → 0 < t
  cons : ∀ t, H.led t → Cons H (H.LL t)
  len : ∀ t, H.led t → H.EL t ≤ (H.LL t).length
  old : ∀ t j e, H.led t → (H.LL t)[j]? = some e → j < H.EL t → e.term < t
  own : ∀ t j e, H.led t → (H.LL t)[j]? = some e → H.EL t ≤ j → e.term = t
  cl : ∀ t, H.led t → AG (H.CL t (H.ld t)) (H.LL t) (H.EL t) ∧ (H.CL t (H.ld t)).length = H.EL t
  win : ∀ t, H.led t → ∃ s : Nat, s < 32 ∧ mostF (confL H.c0 (H.CL t (H.ld t))) s = true ∧ ∀ i, i < 5 → s.testBit i = true → H.vote t i (H.ld t) ∧ ¬ H.late t i (H.ld t)
  once : ∀ T v c c', H.vote T v c → H.vote T v c' → c = c'
  voted : ∀ T v c, H.vote T v c → Cons H (H.CL T c) ∧ (∀ (j : Nat) (e : En), (H.CL T c)[j]? = some e → e.term < T) ∧ ∃ VL, Cons H VL ∧ upTo VL (H.CL T c) ∧
    ∀ S k, S < T → H.ack S v k → AG (H.LL S) VL k ∨ ∃ t, S < t ∧ t ≤ T ∧ H.led t ∧ (t = T → H.late T v c) ∧ ¬ AG (H.LL S) (H.CL t (H.ld t)) k
  com : ∀ S k n, H.cmt S k n → H.led S ∧ H.EL S < k ∧ k ≤ n ∧ n ≤ (H.LL S).length ∧ ∃ s : Nat, s < 32 ∧ mostF (confL H.c0 ((H.LL S).take n)) s = true ∧ ∀ i, i < 5 → s.testBit i = true → H.ack S i k
  chg : ∀ S j e, H.led S → (H.LL S)[j]? = some e → H.EL S ≤ j → e.conf ≠ 0 → near (confL H.c0 ((H.LL S).take j)) e.conf ∧ ∃ c n, H.cmt S c n ∧ n ≤ j ∧ ∀ i e', i < j → (H.LL S)[i]? = some e' → e'.conf ≠ 0 → i < c
variable {H}
theorem confL_mem : ∀ (l : List En) (c : Int), confL c l = c ∨ ∃ e ∈ l, confL c l = e.conf
  | [], _ => .inl rfl
  | e :: l, c => by
    have h : confL c (e :: l) = confL (if e.conf = 0 then c else e.conf) l := rfl
    rcases confL_mem l (if e.conf = 0 then c else e.conf) with h1 | ⟨x, hx, h1⟩
    · rw [h, h1]
      split
      · exact .inl rfl
      · exact .inr ⟨e, List.mem_cons_self, rfl⟩
    · exact .inr ⟨x, List.mem_cons_of_mem _ hx, by rw [h, h1]⟩
theorem Facts.conf (F : Facts H) (l : List En) (hl : Cons H l) : 0 ≤ confL H.c0 l ∧ confL H.c0 l ≤ 31 := by
  rcases confL_mem l H.c0 with h | ⟨e, he, h⟩
  · rw [h]; exact ⟨F.c00, F.c01⟩
  · obtain ⟨j, hj⟩ := List.mem_iff_getElem?.1 he
    obtain ⟨h1, h2⟩ := hl j e hj
    rw [h]
    exact F.cr _ e h1 (List.mem_of_getElem? (by rw [← h2.get (Nat.lt_succ_self j)]; exact hj))
theorem Cons.mono (F : Facts H) {l : List En} (hc : Cons H l) {i j : Nat} {a b : En} (hi : l[i]? = some a) (hj : l[j]? = some b) (hij : i ≤ j) : a.term ≤ b.term := by
  obtain ⟨h1, h2⟩ := hc j b hj
  have e := h2.get (i := i) (by omega)
  rw [hi] at e
  by_cases h : i < H.EL b.term
  · have := F.old b.term i a h1 e.symm h; omega
  · have := F.own b.term i a h1 e.symm (by omega); omega
/-- Of an entry's own term's leader: where it stands, it is laid by it. -/
theorem Cons.own (F : Facts H) {l : List En} (hc : Cons H l) {j : Nat} {e : En} (hj : l[j]? = some e) : H.EL e.term ≤ j ∧ (H.LL e.term)[j]? = some e := by
  obtain ⟨h1, h2⟩ := hc j e hj
  have hg := h2.get (i := j) (by omega)
  rw [hj] at hg
  refine ⟨Nat.le_of_not_lt fun h => ?_, hg.symm⟩
  have := F.old e.term j e h1 hg.symm h; omega
theorem upTo_of (F : Facts H) {v x : List En} (hv : Cons H v) (hx : Cons H x) (hu : upTo v x) {P : List En} {k : Nat} {S : Int} (hS : 0 < S) (hk : 0 < k) (hp : AG P v k) {e : En} (he : P[k - 1]? = some e) (hes : e.term = S)
    (hlate : ∀ t, S < t → (∃ (j : Nat) (e : En), x[j]? = some e ∧ e.term = t) → AG P (H.LL t) k ∧ k ≤ H.EL t) : AG P x k := by
  have hvl : k ≤ v.length := hp.2.1
  have hne : v ≠ [] := by intro h; rw [h] at hvl; simp at hvl; omega
  obtain ⟨ev, hev⟩ : ∃ ev, v[v.length - 1]? = some ev := ⟨v[v.length - 1]'(by omega), List.getElem?_eq_getElem _⟩
  have hlv : lastT v = ev.term := by unfold lastT; rw [List.getLast?_eq_getElem?, hev]
  have hvk : v[k - 1]? = some e := by rw [← hp.get (by omega)]; exact he
  have hSv : S ≤ ev.term := by have := Cons.mono F hv hvk hev (by omega); omega
  have hxne : x ≠ [] := by
    intro h
    subst h
    rcases hu with h | ⟨_, h⟩
    · rw [hlv, show lastT [] = 0 from rfl] at h; omega
    · simp at h; exact hne h
  have hxl : 0 < x.length := List.length_pos_iff.2 hxne
  obtain ⟨ex, hex⟩ : ∃ ex, x[x.length - 1]? = some ex := ⟨x[x.length - 1]'(by omega), List.getElem?_eq_getElem _⟩
  have hlx : lastT x = ex.term := by unfold lastT; rw [List.getLast?_eq_getElem?, hex]
  obtain ⟨_, hcx⟩ := hx _ _ hex
  rw [show x.length - 1 + 1 = x.length by omega] at hcx
  rcases hu with h | ⟨h, hl⟩
  · rw [hlv, hlx] at h
    obtain ⟨h1, h2⟩ := hlate ex.term (by omega) ⟨_, ex, hex, rfl⟩
    have h3 := (Cons.own F hx hex).1
    exact h1.trans (hcx.symm.le (by omega))
  · rw [hlv, hlx] at h
    obtain ⟨_, hcv⟩ := hv _ _ hev
    rw [show v.length - 1 + 1 = v.length by omega, h] at hcv
    exact hp.trans ((hcv.trans (hcx.symm.le hl)).le hvl)
/-- One elected, by votes given ahead of the term's leader, or where that one is complete. -/
def good (H : Hist) (T : Int) (c : Nat) : Prop := ∃ s : Nat, s < 32 ∧ mostF (confL H.c0 (H.CL T c)) s = true ∧ ∀ i, i < 5 → s.testBit i = true → H.vote T i c ∧ (H.late T i c → H.led T → ∀ S k n, H.cmt S k n → S < T → AG (H.LL S) (H.CL T (H.ld T)) k)
theorem Facts.wins (F : Facts H) {t : Int} (h : H.led t) : elected H t (H.ld t) := by
  obtain ⟨s, h1, h2, h3⟩ := F.win t h
  exact ⟨s, h1, h2, fun i hi hb => (h3 i hi hb).1⟩
theorem Facts.good (F : Facts H) {t : Int} (h : H.led t) : good H t (H.ld t) := by
  obtain ⟨s, h1, h2, h3⟩ := F.win t h
  exact ⟨s, h1, h2, fun i hi hb => ⟨(h3 i hi hb).1, fun hl => absurd hl (h3 i hi hb).2⟩⟩
/-- What is known where one elected is complete, of lesser terms. -/
theorem comp_step (F : Facts H) {T : Int} {c : Nat} (hel : good H T c) (IH : ∀ t, t < T → H.led t → ∀ S k n, H.cmt S k n → S < t → AG (H.LL S) (H.CL t (H.ld t)) k) :
    ∀ (S : Int) (n : Nat), S < T → (∀ S' n', S' < S → S' < T → ∀ k, H.cmt S' k n' → AG (H.LL S') (H.CL T c) k) → (∀ n', n' < n → ∀ k, H.cmt S k n' → AG (H.LL S) (H.CL T c) k) → ∀ k, H.cmt S k n → AG (H.LL S) (H.CL T c) k := by
  intro S n hST IHS IHn k hk
  refine Classical.byContradiction fun hno => ?_
  obtain ⟨hled, hEk, hkn, hnl, s, hs32, hmost, hacks⟩ := F.com S k n hk
  obtain ⟨s', hs32', hmost', hvotes⟩ := hel
  have hvot : ∃ v, H.vote T v c := by
    refine Classical.byContradiction fun h => ?_
    have : s' = 0 := by
      refine Nat.eq_of_testBit_eq fun i => ?_
      rw [Nat.zero_testBit]
      by_cases hi : i < 5
      · cases hb : s'.testBit i with
        | false => rfl
        | true => exact absurd ⟨i, (hvotes i hi hb).1⟩ h
      · exact Nat.testBit_lt_two_pow (Nat.lt_of_lt_of_le hs32' (by
          have : 2 ^ 5 ≤ 2 ^ i := Nat.pow_le_pow_right (by decide) (by omega)
          simpa using this))
    rw [this] at hmost'
    have hz : ∀ c : Int, mostF c ((0 : Nat) : Int) = false := by
      intro c
      have : (List.range 5).filter (Nat.testBit 0) = [] := by decide
      simp [mostF, andI, ones, this]
    rw [hz] at hmost'
    cases hmost'
  obtain ⟨v0, hv0⟩ := hvot
  obtain ⟨hXc, hXT, _⟩ := F.voted T v0 c hv0
  generalize hX : H.CL T c = X at *
  obtain ⟨a, ha, hmax⟩ := ag_max (H.LL S) X
  have hak : a < k := by
    rcases Nat.lt_or_ge a k with h | h
    · exact h
    · exact absurd (ha.le h) hno
  have hLc := F.cons S hled
  -- at most one entry with members beyond the common front, of the leader's log
  have one1 : ∀ j1 j2 e1 e2, a ≤ j1 → j1 < j2 → j2 < n → (H.LL S)[j1]? = some e1 → (H.LL S)[j2]? = some e2 → e1.conf ≠ 0 → e2.conf ≠ 0 → False := by
    intro j1 j2 e1 e2 h1 h2 h3 g1 g2 c1 c2
    obtain ⟨hl2, hag2⟩ := hLc j2 e2 g2
    obtain ⟨hE2, hg2⟩ := Cons.own F hLc g2
    obtain ⟨_, cc, nn, hcm, hnj, hcov⟩ := F.chg e2.term j2 e2 hl2 hg2 hE2 c2
    have hj1c : j1 < cc := hcov j1 e1 h2 (by rw [← hag2.get (by omega)]; exact g1) c1
    obtain ⟨_, _, hcn, _, _⟩ := F.com _ _ _ hcm
    have hle : e2.term ≤ S := by
      by_cases h : j2 < H.EL S
      · have := F.old S j2 e2 hled g2 h; omega
      · have := F.own S j2 e2 hled g2 (by omega); omega
    have hpre : AG (H.LL e2.term) X cc := by
      rcases Int.lt_or_eq_of_le hle with h | h
      · exact IHS e2.term nn h (by omega) cc hcm
      · rw [h] at hcm ⊢; exact IHn nn (by omega) cc hcm
    have := hmax cc ((hag2.le (by omega)).trans hpre)
    omega
  have one2 : ∀ j1 j2 e1 e2, a ≤ j1 → j1 < j2 → X[j1]? = some e1 → X[j2]? = some e2 → e1.conf ≠ 0 → e2.conf ≠ 0 → False := by
    intro j1 j2 e1 e2 h1 h2 g1 g2 c1 c2
    obtain ⟨hl2, hag2⟩ := hXc j2 e2 g2
    obtain ⟨hE2, hg2⟩ := Cons.own F hXc g2
    have ht2 := hXT j2 e2 g2
    obtain ⟨_, cc, nn, hcm, hnj, hcov⟩ := F.chg e2.term j2 e2 hl2 hg2 hE2 c2
    have hj1c : j1 < cc := hcov j1 e1 h2 (by rw [← hag2.get (by omega)]; exact g1) c1
    obtain ⟨_, _, hcn, _, _⟩ := F.com _ _ _ hcm
    rcases Int.lt_trichotomy e2.term S with h | h | h
    · have h5 := IH S hST hled e2.term cc nn hcm h
      have h6 := (F.cl S hled)
      have h7 : AG (H.LL e2.term) (H.LL S) cc := h5.trans (h6.1.le (by have := h5.2.1; omega))
      have := hmax cc (h7.symm.trans (hag2.symm.le (by omega)))
      omega
    · rw [h] at hag2
      have := hmax (j2 + 1) hag2.symm
      omega
    · have h5 := IH e2.term ht2 hl2 S k n hk h
      have h6 := (F.cl e2.term hl2)
      have hkE : k ≤ H.EL e2.term := by have := h5.2.1; omega
      have h7 : AG (H.LL S) (H.LL e2.term) k := h5.trans (h6.1.le hkE)
      exact hno (h7.trans (hag2.symm.le (by omega)))
  have notboth : ∀ j j' e e', a ≤ j → j < n → a ≤ j' → (H.LL S)[j]? = some e → X[j']? = some e' → e.conf ≠ 0 → e'.conf ≠ 0 → False := by
    intro j j' e e' h1 h2 h3 g g' cc cc'
    obtain ⟨hl, hag⟩ := hLc j e g
    obtain ⟨hE, hg⟩ := Cons.own F hLc g
    obtain ⟨hl', hag'⟩ := hXc j' e' g'
    obtain ⟨hE', hg'⟩ := Cons.own F hXc g'
    have ht' := hXT j' e' g'
    have hle : e.term ≤ S := by
      by_cases h : j < H.EL S
      · have := F.old S j e hled g h; omega
      · have := F.own S j e hled g (by omega); omega
    rcases Int.lt_trichotomy e.term e'.term with hlt | heq | hgt
    · obtain ⟨_, c2, n2, hcm, hnj, _⟩ := F.chg e'.term j' e' hl' hg' hE' cc'
      obtain ⟨_, hE2, hcn, hn2, _⟩ := F.com _ _ _ hcm
      rcases Int.lt_trichotomy e'.term S with h | h | h
      · have h5 := IH S hST hled e'.term c2 n2 hcm h
        have h6 := (F.cl S hled)
        have h7 : AG (H.LL e'.term) (H.LL S) c2 := h5.trans (h6.1.le (by have := h5.2.1; omega))
        obtain ⟨ec, hec⟩ : ∃ ec, (H.LL e'.term)[c2 - 1]? = some ec := ⟨(H.LL e'.term)[c2 - 1]'(by omega), List.getElem?_eq_getElem _⟩
        have hect := F.own e'.term (c2 - 1) ec hl' hec (by omega)
        have hecS : (H.LL S)[c2 - 1]? = some ec := by rw [← h7.get (by omega)]; exact hec
        have hjc : j < c2 - 1 := by
          rcases Nat.lt_or_ge j (c2 - 1) with h8 | h8
          · exact h8
          · have := Cons.mono F hLc hecS g h8; omega
        have := hmax (j + 1) ((h7.symm.le (by omega)).trans (hag'.symm.le (by omega)))
        omega
      · rw [h] at hag'
        have := hmax (j' + 1) hag'.symm
        omega
      · have h5 := IH e'.term ht' hl' S k n hk h
        have h6 := (F.cl e'.term hl')
        have hkE : k ≤ H.EL e'.term := by have := h5.2.1; omega
        have h7 : AG (H.LL S) (H.LL e'.term) k := h5.trans (h6.1.le hkE)
        exact hno (h7.trans (hag'.symm.le (by omega)))
    · rw [← heq] at hag'
      rcases Nat.le_total j j' with h | h
      · have := hmax (j + 1) (hag.trans (hag'.symm.le (by omega)))
        omega
      · have := hmax (j' + 1) ((hag.le (by omega)).trans hag'.symm)
        omega
    · obtain ⟨_, c1, n1, hcm, hnj, _⟩ := F.chg e.term j e hl hg hE cc
      obtain ⟨_, hE1, hcn, hn1, _⟩ := F.com _ _ _ hcm
      obtain ⟨ec, hec⟩ : ∃ ec, (H.LL e.term)[c1 - 1]? = some ec := ⟨(H.LL e.term)[c1 - 1]'(by omega), List.getElem?_eq_getElem _⟩
      have hect := F.own e.term (c1 - 1) ec hl hec (by omega)
      have hecS : (H.LL S)[c1 - 1]? = some ec := by rw [hag.get (by omega)]; exact hec
      rcases Nat.lt_or_ge a c1 with h | h
      · have hpre : AG (H.LL e.term) X c1 := by
          rcases Int.lt_or_eq_of_le hle with h8 | h8
          · exact IHS e.term n1 h8 (by omega) c1 hcm
          · rw [h8] at hcm ⊢; exact IHn n1 (by omega) c1 hcm
        have := hmax c1 ((hag.le (by omega)).trans hpre)
        omega
      · have hecX : X[c1 - 1]? = some ec := by rw [← ha.get (by omega)]; exact hecS
        have := Cons.mono F hXc hecX g' (by omega)
        omega
  -- the members
  have hnear : near (confL H.c0 ((H.LL S).take n)) (confL H.c0 X) := by
    have htake : (H.LL S).take a = X.take a := ha.2.2
    by_cases g1 : ∃ j e, a ≤ j ∧ j < n ∧ (H.LL S)[j]? = some e ∧ e.conf ≠ 0
    · obtain ⟨j, e, h1, h2, h3, h4⟩ := g1
      have hcX : confL H.c0 X = confL H.c0 (X.take a) := confL_front fun j' e' h5 h6 => Classical.byContradiction fun h7 => notboth j j' e e' h1 h2 h5 h3 h6 h4 h7
      have hcL : confL H.c0 ((H.LL S).take n) = e.conf := confL_one (j := j) (by rw [List.getElem?_take, if_pos h2]; exact h3) h4 fun i e' h5 h6 => by
        rw [List.getElem?_take] at h6
        split at h6
        · rename_i h7
          exact Classical.byContradiction fun h8 => one1 j i e e' h1 h5 h7 h3 h6 h4 h8
        · cases h6
      obtain ⟨hl, hag⟩ := hLc j e h3
      obtain ⟨hE, hg⟩ := Cons.own F hLc h3
      have hnr := (F.chg e.term j e hl hg hE h4).1
      have hcj : confL H.c0 ((H.LL S).take j) = confL H.c0 ((H.LL S).take a) := by
        rw [confL_front (l := (H.LL S).take j) (a := a) fun i e' h5 h6 => ?_, List.take_take, Nat.min_eq_left h1]
        rw [List.getElem?_take] at h6
        split at h6
        · rename_i h7
          exact Classical.byContradiction fun h8 => one1 i j e' e h5 h7 h2 h6 h3 h8 h4
        · cases h6
      rw [← (hag.le (show j ≤ j + 1 by omega)).2.2, hcj] at hnr
      rw [hcX, hcL, ← htake]
      exact hnr.symm
    · have hcL : confL H.c0 ((H.LL S).take n) = confL H.c0 ((H.LL S).take a) := by
        rw [confL_front (l := (H.LL S).take n) (a := a) fun i e' h5 h6 => ?_, List.take_take, Nat.min_eq_left (by omega)]
        rw [List.getElem?_take] at h6
        split at h6
        · rename_i h7
          exact Classical.byContradiction fun h8 => g1 ⟨i, e', h5, h7, h6, h8⟩
        · cases h6
      by_cases g2 : ∃ j e, a ≤ j ∧ X[j]? = some e ∧ e.conf ≠ 0
      · obtain ⟨j, e, h1, h3, h4⟩ := g2
        have hcX : confL H.c0 X = e.conf := confL_one (j := j) h3 h4 fun i e' h5 h6 => Classical.byContradiction fun h8 => one2 j i e e' h1 h5 h3 h6 h4 h8
        obtain ⟨hl, hag⟩ := hXc j e h3
        obtain ⟨hE, hg⟩ := Cons.own F hXc h3
        have hnr := (F.chg e.term j e hl hg hE h4).1
        have hcj : confL H.c0 (X.take j) = confL H.c0 (X.take a) := by
          rw [confL_front (l := X.take j) (a := a) fun i e' h5 h6 => ?_, List.take_take, Nat.min_eq_left h1]
          rw [List.getElem?_take] at h6
          split at h6
          · exact Classical.byContradiction fun h8 => one2 i j e' e h5 (by assumption) h6 h3 h8 h4
          · cases h6
        rw [← (hag.le (show j ≤ j + 1 by omega)).2.2, hcj] at hnr
        rw [hcX, hcL, htake]
        exact hnr
      · have hcX : confL H.c0 X = confL H.c0 (X.take a) := confL_front fun j' e' h5 h6 => Classical.byContradiction fun h7 => g2 ⟨j', e', h5, h6, h7⟩
        have hb := F.conf X hXc
        rw [hcL, htake, ← hcX]
        exact ⟨hb.1, hb.2, hb.1, hb.2, .inl rfl⟩
  obtain ⟨i, hi5, hi1, hi2⟩ := meet hnear hs32 hs32' hmost hmost'
  have hack := hacks i hi5 hi1
  have hvote := hvotes i hi5 hi2
  obtain ⟨_, _, VL, hVc, hVu, hVa⟩ := F.voted T i c hvote.1
  rw [hX] at hVu
  have hkE : 0 < k := by omega
  obtain ⟨ek, hek⟩ : ∃ ek, (H.LL S)[k - 1]? = some ek := ⟨(H.LL S)[k - 1]'(by omega), List.getElem?_eq_getElem _⟩
  have hekt := F.own S (k - 1) ek hled hek (by omega)
  rcases hVa S k hST hack with h | ⟨t, h1, h2, h3, hlt, h4⟩
  · refine hno (upTo_of F hVc hXc hVu (F.pos S hled) hkE h hek hekt ?_)
    rintro t ht ⟨j, e, hj, rfl⟩
    have htT := hXT j e hj
    have hl := (hXc j e hj).1
    have h5 := IH e.term htT hl S k n hk ht
    have h6 := F.cl e.term hl
    have hkE : k ≤ H.EL e.term := by have := h5.2.1; omega
    exact ⟨h5.trans (h6.1.le hkE), hkE⟩
  · rcases Int.lt_or_eq_of_le h2 with h2 | h2
    · exact h4 (IH t h2 h3 S k n hk h1)
    · subst h2
      exact h4 (hvote.2 (hlt rfl) h3 S k n hk hST)
/-- WHAT WAS COMMITTED IS IN EVERY LOG THAT WINS A LATER TERM. -/
theorem complete (F : Facts H) : ∀ (N : Nat) (T : Int), T.toNat < N → ∀ c, good H T c → ∀ S k n, H.cmt S k n → S < T → AG (H.LL S) (H.CL T c) k := by
  intro N
  induction N with
  | zero => intro T h; omega
  | succ N ihN =>
    intro T hT c hel
    have IH : ∀ t, t < T → H.led t → ∀ S k n, H.cmt S k n → S < t → AG (H.LL S) (H.CL t (H.ld t)) k := by
      intro t ht hl
      have := F.pos t hl
      exact ihN t (by omega) _ (F.good hl)
    have key : ∀ (M : Nat) (S : Int), S.toNat < M → S < T → ∀ n k, H.cmt S k n → AG (H.LL S) (H.CL T c) k := by
      intro M
      induction M with
      | zero => intro S h; omega
      | succ M ihM =>
        intro S hS hST n
        induction n using Nat.strongRecOn with
        | ind n ihn =>
          intro k hk
          refine comp_step F hel IH S n hST ?_ (fun n' hn' k' hk' => ihn n' hn' k' hk') k hk
          intro S' n' h1 h2 k' hk'
          have := F.pos S' (F.com S' k' n' hk').1
          exact ihM S' (by omega) h2 n' k' hk'
    intro S k n hk hST
    exact key (S.toNat + 1) S (by omega) hST n k hk
theorem completeness (F : Facts H) {T : Int} {c : Nat} (hel : elected H T c) {S : Int} {k n : Nat} (hk : H.cmt S k n) (h : S < T) : AG (H.LL S) (H.CL T c) k := by
  obtain ⟨s, h1, h2, h3⟩ := hel
  exact complete F (T.toNat + 1) T (by omega) c ⟨s, h1, h2, fun i hi hb => ⟨h3 i hi hb, fun _ hl S k n hk h => complete F (T.toNat + 1) T (by omega) _ (F.good hl) S k n hk h⟩⟩ S k n hk h
theorem some_vote {T : Int} {c : Nat} (hel : elected H T c) : ∃ v, H.vote T v c := by
  obtain ⟨s', hs32', hmost', hvotes⟩ := hel
  refine Classical.byContradiction fun h => ?_
  have : s' = 0 := by
    refine Nat.eq_of_testBit_eq fun i => ?_
    rw [Nat.zero_testBit]
    by_cases hi : i < 5
    · cases hb : s'.testBit i with
      | false => rfl
      | true => exact absurd ⟨i, hvotes i hi hb⟩ h
    · exact Nat.testBit_lt_two_pow (Nat.lt_of_lt_of_le hs32' (by
        have : 2 ^ 5 ≤ 2 ^ i := Nat.pow_le_pow_right (by decide) (by omega)
        simpa using this))
  rw [this] at hmost'
  have hz : ∀ c : Int, mostF c ((0 : Nat) : Int) = false := by
    intro c
    have : (List.range 5).filter (Nat.testBit 0) = [] := by decide
    simp [mostF, andI, ones, this]
  rw [hz] at hmost'
  cases hmost'
/-- ONE IS ELECTED IN A TERM. -/
theorem unique (F : Facts H) {T : Int} {c c' : Nat} (hel : elected H T c) (hel' : elected H T c') : c = c' := by
  obtain ⟨v, hv⟩ := some_vote hel
  obtain ⟨v', hv'⟩ := some_vote hel'
  obtain ⟨hXc, hXT, _⟩ := F.voted T v c hv
  obtain ⟨hYc, hYT, _⟩ := F.voted T v' c' hv'
  have cX : ∀ S k n, H.cmt S k n → S < T → AG (H.LL S) (H.CL T c) k := fun S k n hk h => completeness F hel hk h
  have cY : ∀ S k n, H.cmt S k n → S < T → AG (H.LL S) (H.CL T c') k := fun S k n hk h => completeness F hel' hk h
  obtain ⟨s, hs, hm, hvs⟩ := hel
  obtain ⟨s', hs', hm', hvs'⟩ := hel'
  generalize H.CL T c = X at *
  generalize H.CL T c' = Y at *
  obtain ⟨a, ha, hmax⟩ := ag_max X Y
  have one : ∀ {X Y : List En} {a : Nat}, Cons H X → (∀ (j : Nat) (e : En), X[j]? = some e → e.term < T) → (∀ S k n, H.cmt S k n → S < T → AG (H.LL S) Y k) → (∀ k, AG X Y k → k ≤ a) →
      ∀ j1 j2 e1 e2, a ≤ j1 → j1 < j2 → X[j1]? = some e1 → X[j2]? = some e2 → e1.conf ≠ 0 → e2.conf ≠ 0 → False := by
    intro X Y a hXc hXT cY hmax j1 j2 e1 e2 h1 h2 g1 g2 c1 c2
    obtain ⟨hl2, hag2⟩ := hXc j2 e2 g2
    obtain ⟨hE2, hg2⟩ := Cons.own F hXc g2
    obtain ⟨_, cc, nn, hcm, hnj, hcov⟩ := F.chg e2.term j2 e2 hl2 hg2 hE2 c2
    have hj1c : j1 < cc := hcov j1 e1 h2 (by rw [← hag2.get (by omega)]; exact g1) c1
    obtain ⟨_, _, hcn, _, _⟩ := F.com _ _ _ hcm
    have := hmax cc ((hag2.le (by omega)).trans (cY e2.term cc nn hcm (hXT j2 e2 g2)))
    omega
  have oneX := one hXc hXT cY hmax
  have oneY := one hYc hYT cX (fun k hk => hmax k hk.symm)
  have lt : ∀ {X Y : List En} {a : Nat}, Cons H X → Cons H Y → (∀ (j : Nat) (e : En), Y[j]? = some e → e.term < T) → (∀ S k n, H.cmt S k n → S < T → AG (H.LL S) X k) → (∀ k, AG X Y k → k ≤ a) →
      ∀ j j' e e', a ≤ j → a ≤ j' → X[j]? = some e → Y[j']? = some e' → e'.conf ≠ 0 → e.term < e'.term → False := by
    intro X Y a hXc hYc hYT cX hmax j j' e e' h1 h2 g g' cc' hlt
    obtain ⟨hl', hag'⟩ := hYc j' e' g'
    obtain ⟨hE', hg'⟩ := Cons.own F hYc g'
    obtain ⟨_, c2, n2, hcm, hnj, _⟩ := F.chg e'.term j' e' hl' hg' hE' cc'
    obtain ⟨_, hE2, hcn, hn2, _⟩ := F.com _ _ _ hcm
    have h7 := cX e'.term c2 n2 hcm (hYT j' e' g')
    obtain ⟨ec, hec⟩ : ∃ ec, (H.LL e'.term)[c2 - 1]? = some ec := ⟨(H.LL e'.term)[c2 - 1]'(by omega), List.getElem?_eq_getElem _⟩
    have hect := F.own e'.term (c2 - 1) ec hl' hec (by omega)
    have hecX : X[c2 - 1]? = some ec := by rw [← h7.get (by omega)]; exact hec
    have hjc : j < c2 - 1 := by
      rcases Nat.lt_or_ge j (c2 - 1) with h8 | h8
      · exact h8
      · have := Cons.mono F hXc hecX g h8; omega
    have := hmax (j + 1) ((h7.symm.le (by omega)).trans (hag'.symm.le (by omega)))
    omega
  have notboth : ∀ j j' e e', a ≤ j → a ≤ j' → X[j]? = some e → Y[j']? = some e' → e.conf ≠ 0 → e'.conf ≠ 0 → False := by
    intro j j' e e' h1 h2 g g' cc cc'
    rcases Int.lt_trichotomy e.term e'.term with h | h | h
    · exact lt hXc hYc hYT cX hmax j j' e e' h1 h2 g g' cc' h
    · obtain ⟨_, hag⟩ := hXc j e g
      obtain ⟨_, hag'⟩ := hYc j' e' g'
      rw [← h] at hag'
      rcases Nat.le_total j j' with h | h
      · have := hmax (j + 1) (hag.trans (hag'.symm.le (by omega)))
        omega
      · have := hmax (j' + 1) ((hag.le (by omega)).trans hag'.symm)
        omega
    · exact lt hYc hXc hXT cY (fun k hk => hmax k hk.symm) j' j e' e h2 h1 g' g cc h
  have half : ∀ {X Y : List En}, Cons H X → AG X Y a → (∀ j1 j2 e1 e2, a ≤ j1 → j1 < j2 → X[j1]? = some e1 → X[j2]? = some e2 → e1.conf ≠ 0 → e2.conf ≠ 0 → False) → (∀ j j' e e', a ≤ j → a ≤ j' → X[j]? = some e → Y[j']? = some e' → e.conf ≠ 0 → e'.conf ≠ 0 → False) →
      ∀ j e, a ≤ j → X[j]? = some e → e.conf ≠ 0 → near (confL H.c0 Y) (confL H.c0 X) := by
    intro X Y hXc ha one notboth j e h1 h3 h4
    have hcY : confL H.c0 Y = confL H.c0 (Y.take a) := confL_front fun j' e' h5 h6 => Classical.byContradiction fun h7 => notboth j j' e e' h1 h5 h3 h6 h4 h7
    have hcX : confL H.c0 X = e.conf := confL_one (j := j) h3 h4 fun i e' h5 h6 => Classical.byContradiction fun h8 => one j i e e' h1 h5 h3 h6 h4 h8
    obtain ⟨hl, hag⟩ := hXc j e h3
    obtain ⟨hE, hg⟩ := Cons.own F hXc h3
    have hnr := (F.chg e.term j e hl hg hE h4).1
    have hcj : confL H.c0 (X.take j) = confL H.c0 (X.take a) := by
      rw [confL_front (l := X.take j) (a := a) fun i e' h5 h6 => ?_, List.take_take, Nat.min_eq_left h1]
      rw [List.getElem?_take] at h6
      split at h6
      · exact Classical.byContradiction fun h8 => one i j e' e h5 (by assumption) h6 h3 h8 h4
      · cases h6
    rw [← (hag.le (show j ≤ j + 1 by omega)).2.2, hcj] at hnr
    rw [hcX, hcY, ← ha.2.2]
    exact hnr
  have hnear : near (confL H.c0 X) (confL H.c0 Y) := by
    by_cases g1 : ∃ j e, a ≤ j ∧ X[j]? = some e ∧ e.conf ≠ 0
    · obtain ⟨j, e, h1, h3, h4⟩ := g1
      exact (half hXc ha oneX notboth j e h1 h3 h4).symm
    · by_cases g2 : ∃ j e, a ≤ j ∧ Y[j]? = some e ∧ e.conf ≠ 0
      · obtain ⟨j, e, h1, h3, h4⟩ := g2
        exact half hYc ha.symm oneY (fun j j' e e' h1 h2 g g' cc cc' => notboth j' j e' e h2 h1 g' g cc' cc) j e h1 h3 h4
      · have hcX : confL H.c0 X = confL H.c0 (X.take a) := confL_front fun j' e' h5 h6 => Classical.byContradiction fun h7 => g1 ⟨j', e', h5, h6, h7⟩
        have hcY : confL H.c0 Y = confL H.c0 (Y.take a) := confL_front fun j' e' h5 h6 => Classical.byContradiction fun h7 => g2 ⟨j', e', h5, h6, h7⟩
        have hb := F.conf X hXc
        rw [hcY, ← ha.2.2, ← hcX]
        exact ⟨hb.1, hb.2, hb.1, hb.2, .inl rfl⟩
  obtain ⟨i, hi5, hi1, hi2⟩ := meet hnear hs hs' hm hm'
  exact F.once T i c c' (hvs i hi5 hi1) (hvs' i hi5 hi2)
end Raft
end Go.Proofs.Ytppaabahbjgihaa
end
section
namespace Go.Proofs.Ytppaabahbjgihaa
namespace Raft
variable {H H' : Hist}
/-- The term of the k-th entry; 0 ahead of the first. -/
def tAt (l : List En) : Nat → Int
  | 0 => 0
  | k + 1 => (l.getD k default).term
/-- A front that is known to be committed. -/
def Known (H : Hist) (T : Int) (l : List En) (k : Nat) : Prop := k = 0 ∨ ∃ S c n, H.cmt S c n ∧ S ≤ T ∧ k ≤ c ∧ AG (H.LL S) l k
theorem Known.up {T T' : Int} {l : List En} {k : Nat} (h : Known H T l k) (hT : T ≤ T') : Known H T' l k := by
  rcases h with h | ⟨S, c, n, h1, h2, h3, h4⟩
  · exact .inl h
  · exact .inr ⟨S, c, n, h1, by omega, h3, h4⟩
theorem Known.le {T : Int} {l : List En} {k j : Nat} (h : Known H T l k) (hj : j ≤ k) : Known H T l j := by
  rcases h with h | ⟨S, c, n, h1, h2, h3, h4⟩
  · exact .inl (by omega)
  · exact .inr ⟨S, c, n, h1, h2, by omega, h4.le hj⟩
theorem Known.to {T : Int} {l m : List En} {k : Nat} (h : Known H T l k) (hm : AG l m k) : Known H T m k := by
  rcases h with h | ⟨S, c, n, h1, h2, h3, h4⟩
  · exact .inl h
  · exact .inr ⟨S, c, n, h1, h2, h3, h4.trans hm⟩
theorem AG.appL {l m x : List En} {k : Nat} (h : AG l m k) : AG (l ++ x) m k :=
  ⟨by rw [List.length_append]; have := h.1; omega, h.2.1, by rw [List.take_append_of_le_length h.1]; exact h.2.2⟩
theorem AG.appR {l m x : List En} {k : Nat} (h : AG l m k) : AG l (m ++ x) k := h.symm.appL.symm
theorem AG.take {l m : List En} {k q : Nat} (h : AG l m k) (hq : k ≤ q) : AG l (m.take q) k := by
  refine ⟨h.1, by rw [List.length_take]; have := h.2.1; omega, ?_⟩
  rw [List.take_take, Nat.min_eq_left hq]; exact h.2.2
theorem AG.takeSelf {l : List En} {q : Nat} (hq : q ≤ l.length) : AG l (l.take q) q := (AG.refl hq).take (Nat.le_refl _)
theorem AG.tAt {l m : List En} {k : Nat} (h : AG l m k) : tAt l k = tAt m k := by
  cases k with
  | zero => rfl
  | succ k =>
    have := h.get (i := k) (Nat.lt_succ_self _)
    simp only [Raft.tAt, List.getD_eq_getElem?_getD, this]
/-- Of two logs whose entries at a place are of one term, all up to it are the same. -/
theorem Cons.ag {l m : List En} (hl : Cons H l) (hm : Cons H m) {j : Nat} {a b : En} (h1 : l[j]? = some a) (h2 : m[j]? = some b) (ht : a.term = b.term) : AG l m (j + 1) := by
  have h3 := (hl j a h1).2
  have h4 := (hm j b h2).2
  rw [ht] at h3
  exact h3.trans h4.symm
theorem Cons.agT {l m : List En} (hl : Cons H l) (hm : Cons H m) {k : Nat} (h1 : k ≤ l.length) (h2 : k ≤ m.length) (ht : tAt l k = tAt m k) : AG l m k := by
  cases k with
  | zero => exact AG.zero _ _
  | succ k =>
    have g1 : l[k]? = some l[k] := List.getElem?_eq_getElem (by omega)
    have g2 : m[k]? = some m[k] := List.getElem?_eq_getElem (by omega)
    simp only [tAt, List.getD_eq_getElem?_getD, g1, g2, Option.getD_some] at ht
    exact Cons.ag hl hm g1 g2 ht
theorem Cons.take {l : List En} (hl : Cons H l) (q : Nat) : Cons H (l.take q) := by
  intro j e he
  rw [List.getElem?_take] at he
  split at he
  · rename_i hj
    obtain ⟨h1, h2⟩ := hl j e he
    have := h2.1
    exact ⟨h1, (h2.symm.take (q := q) (by omega)).symm⟩
  · cases he
/-- What is known to be committed stands in the log of who leads. -/
theorem Known.ag (F : Facts H) {T : Int} {l : List En} {k : Nat} (hT : H.led T) (h : Known H T l k) : AG (H.LL T) l k := by
  rcases h with rfl | ⟨S, c, n, h1, h2, h3, h4⟩
  · exact AG.zero _ _
  · rcases Int.lt_or_eq_of_le h2 with h | h
    · have h5 := completeness F (F.wins hT) h1 h
      have h6 := F.cl T hT
      have h7 : AG (H.LL S) (H.LL T) c := h5.trans (h6.1.le (by have := h5.2.1; omega))
      exact (h7.le h3).symm.trans h4
    · rw [← h]; exact h4
theorem tAt_nonneg (F : Facts H) {l : List En} (hl : Cons H l) {k : Nat} (hk : k ≤ l.length) : 0 ≤ tAt l k := by
  cases k with
  | zero => exact Int.le_refl _
  | succ k =>
    have g1 : l[k]? = some l[k] := List.getElem?_eq_getElem (by omega)
    have := F.pos _ (hl k _ g1).1
    simp only [tAt, List.getD_eq_getElem?_getD, g1, Option.getD_some]
    omega
/-- What has happened, and more. -/
structure Ext (H H' : Hist) : Prop where
  c0 : H'.c0 = H.c0
  bd : H.bd ≤ H'.bd
  led : ∀ t, H.led t → H'.led t
  ld : ∀ t, H.led t → H'.ld t = H.ld t
  EL : ∀ t, H.led t → H'.EL t = H.EL t
  LL : ∀ t, H.led t → AG (H.LL t) (H'.LL t) (H.LL t).length
  CL : ∀ T v c, H.vote T v c → H'.CL T c = H.CL T c
  vote : ∀ T v c, H.vote T v c → H'.vote T v c
  ack : ∀ S v k, H.ack S v k → H'.ack S v k
  cmt : ∀ S k n, H.cmt S k n → H'.cmt S k n
theorem Ext.refl (H : Hist) : Ext H H := ⟨rfl, Nat.le_refl _, fun _ h => h, fun _ _ => rfl, fun _ _ => rfl, fun _ _ => AG.refl (Nat.le_refl _), fun _ _ _ _ => rfl, fun _ _ _ h => h, fun _ _ _ h => h, fun _ _ _ h => h⟩
theorem Ext.trans {H1 H2 H3 : Hist} (a : Ext H1 H2) (b : Ext H2 H3) : Ext H1 H3 :=
  ⟨b.c0.trans a.c0, Nat.le_trans a.bd b.bd, fun t h => b.led t (a.led t h), fun t h => (b.ld t (a.led t h)).trans (a.ld t h), fun t h => (b.EL t (a.led t h)).trans (a.EL t h),
   fun t h => (a.LL t h).trans ((b.LL t (a.led t h)).le (a.LL t h).2.1), fun T v c h => (b.CL T v c (a.vote _ _ _ h)).trans (a.CL T v c h), fun _ _ _ h => b.vote _ _ _ (a.vote _ _ _ h), fun _ _ _ h => b.ack _ _ _ (a.ack _ _ _ h), fun _ _ _ h => b.cmt _ _ _ (a.cmt _ _ _ h)⟩
theorem Cons.ext (E : Ext H H') {l : List En} (h : Cons H l) : Cons H' l := by
  intro j e he
  obtain ⟨h1, h2⟩ := h j e he
  exact ⟨E.led _ h1, h2.trans ((E.LL _ h1).le h2.2.1)⟩
theorem Ext.agLL (E : Ext H H') {S : Int} (h : H.led S) {l : List En} {k : Nat} (ha : AG (H.LL S) l k) : AG (H'.LL S) l k := ((E.LL S h).le ha.1).symm.trans ha
theorem Ext.nagLL (E : Ext H H') {S : Int} (h : H.led S) {l : List En} {k : Nat} (hk : k ≤ (H.LL S).length) (ha : ¬ AG (H.LL S) l k) : ¬ AG (H'.LL S) l k := fun h' => ha (((E.LL S h).le hk).trans h')
theorem Known.ext (F : Facts H) (E : Ext H H') {T : Int} {l : List En} {k : Nat} (h : Known H T l k) : Known H' T l k := by
  rcases h with h | ⟨S, c, n, h1, h2, h3, h4⟩
  · exact .inl h
  · exact .inr ⟨S, c, n, E.cmt _ _ _ h1, h2, h3, E.agLL (F.com _ _ _ h1).1 h4⟩
theorem Ext.CLld (F : Facts H) (E : Ext H H') {t : Int} (h : H.led t) : H'.CL t (H'.ld t) = H.CL t (H.ld t) := by
  obtain ⟨v, hv⟩ := some_vote (F.wins h)
  rw [E.ld t h]
  exact E.CL t v _ hv
/-- Who leads. -/
structure LI (H : Hist) (i : Nat) (n : Nd) (l : List En) : Prop where
  led : H.led n.term
  ld : H.ld n.term = i
  log : l = H.LL n.term
  mt : ∀ j, j < 5 → 0 ≤ n.mtch.get j ∧ n.mtch.get j ≤ l.length ∧ ∀ k : Nat, 0 < k → (k : Int) ≤ n.mtch.get j → H.ack n.term j k
  nx : ∀ j, j < 5 → 1 ≤ n.next.get j ∧ n.next.get j ≤ l.length + 1
/-- A node, its whole log beside it. -/
structure NI (H : Hist) (i : Nat) (n : Nd) (l : List En) : Prop where
  id : n.id = (i : Nat)
  t0 : 0 ≤ n.term
  t1 : n.term ≤ 1073741824
  base : ∃ b : Nat, n.base = b ∧ b ≤ l.length ∧ n.log = l.drop b ∧ n.baseTerm = tAt l b ∧ n.baseConf = confL H.c0 (l.take b)
  com : ∃ c : Nat, n.commit = c ∧ n.base ≤ c ∧ c ≤ l.length ∧ Known H n.term l c
  cons : Cons H l
  terms : ∀ (j : Nat) (e : En), l[j]? = some e → e.term ≤ n.term
  votel : ∀ T c, H.vote T i c → T ≤ n.term
  vote : ∀ c : Nat, H.vote n.term i c ↔ n.vote = c
  stood : ∀ T v, H.vote T v i → T ≤ n.term
  votes0 : 0 ≤ n.votes
  votes1 : n.votes ≤ 31
  sz : ∀ j, j < 5 → 0 ≤ n.next.get j ∧ n.next.get j ≤ H.bd + 1 ∧ 0 ≤ n.mtch.get j ∧ n.mtch.get j ≤ H.bd
  cand : n.role = 1 → l = H.CL n.term i ∧ ¬ (H.led n.term ∧ H.ld n.term = i) ∧ H.vote n.term i i ∧ ∀ j, j < 5 → n.votes.toNat.testBit j = true → H.vote n.term j i
  lead : n.role = 2 → LI H i n l
  acks : ∀ S k, H.ack S i k → S ≤ n.term ∧ (AG (H.LL S) l k ∨ ∃ t, S < t ∧ t ≤ n.term ∧ H.led t ∧ ¬ AG (H.LL S) (H.CL t (H.ld t)) k)
theorem LI.ext (E : Ext H H') {j : Nat} {n : Nd} {l : List En} (hL : ∀ t, H.led t → H.ld t = j → H'.LL t = H.LL t) (h : LI H j n l) : LI H' j n l :=
  ⟨E.led _ h.led, (E.ld _ h.led).trans h.ld, h.log.trans (hL _ h.led h.ld).symm, fun i hi => ⟨(h.mt i hi).1, (h.mt i hi).2.1, fun k h1 h2 => E.ack _ _ _ ((h.mt i hi).2.2 k h1 h2)⟩, h.nx⟩
theorem NI.extG (F : Facts H) (E : Ext H H') {j : Nat} {n : Nd} {l : List En} {v' w' : Int} (hv : ∀ T c, H'.vote T j c → T ≤ n.term) (hvv : ∀ c : Nat, H'.vote n.term j c ↔ v' = c) (hs : ∀ T v, H'.vote T v j → ∃ u, H.vote T u j)
    (hl : ∀ T, H'.led T → H'.ld T = j → H.led T) (ha : ∀ S k, H'.ack S j k → H.ack S j k ∨ S ≤ n.term ∧ AG (H'.LL S) l k) (hL : ∀ t, H.led t → H.ld t = j → H'.LL t = H.LL t) (h : NI H j n l) : NI H' j { n with vote := v', wait := w' } l where
  id := h.id
  t0 := h.t0
  t1 := h.t1
  base := by rw [E.c0]; exact h.base
  com := by
    obtain ⟨c, h1, h2, h3, h4⟩ := h.com
    exact ⟨c, h1, h2, h3, h4.ext F E⟩
  cons := h.cons.ext E
  terms := h.terms
  votel := hv
  vote := hvv
  stood := fun T v hc => by
    obtain ⟨u, hu⟩ := hs T v hc
    exact h.stood T u hu
  votes0 := h.votes0
  votes1 := h.votes1
  sz := fun i hi => by
    have := h.sz i hi
    have := E.bd
    simp only
    omega
  cand := fun hr => by
    obtain ⟨h1, h2, h3, h4⟩ := h.cand hr
    refine ⟨h1.trans (E.CL _ _ _ h3).symm, fun hc => ?_, E.vote _ _ _ h3, fun i hi hb => E.vote _ _ _ (h4 i hi hb)⟩
    have h5 := hl _ hc.1 hc.2
    exact h2 ⟨h5, by rw [← E.ld _ h5]; exact hc.2⟩
  lead := fun hr => by
    have := (h.lead hr).ext E hL
    exact ⟨this.led, this.ld, this.log, this.mt, this.nx⟩
  acks := fun S k hk => by
    rcases ha S k hk with hk | ⟨h1, h2⟩
    · obtain ⟨h1, h2⟩ := h.acks S k hk
      obtain ⟨h5, h6⟩ := F.ackl _ _ _ hk
      refine ⟨h1, ?_⟩
      rcases h2 with h2 | ⟨t, h2, h3, h4, h7⟩
      · exact .inl (E.agLL h5 h2)
      · exact .inr ⟨t, h2, h3, E.led _ h4, by rw [E.CLld F h4]; exact E.nagLL h5 h6 h7⟩
    · exact ⟨h1, .inl h2⟩
theorem NI.ext (F : Facts H) (E : Ext H H') {j : Nat} {n : Nd} {l : List En} (hv : ∀ T c, H'.vote T j c → H.vote T j c) (hs : ∀ T v, H'.vote T v j → ∃ u, H.vote T u j)
    (hl : ∀ T, H'.led T → H'.ld T = j → H.led T) (ha : ∀ S k, H'.ack S j k → H.ack S j k ∨ S ≤ n.term ∧ AG (H'.LL S) l k) (hL : ∀ t, H.led t → H.ld t = j → H'.LL t = H.LL t) (h : NI H j n l) : NI H' j n l :=
  NI.extG (v' := n.vote) (w' := n.wait) F E (fun T c hc => h.votel T c (hv T c hc)) (fun c => ⟨fun hc => (h.vote c).1 (hv _ _ hc), fun hc => E.vote _ _ _ ((h.vote c).2 hc)⟩) hs hl ha hL h
/-- What is under way. -/
structure MI (H : Hist) (m : Ms) : Prop where
  frm : ∃ f : Nat, f < 5 ∧ m.frm = f
  to : ∃ f : Nat, f < 5 ∧ m.to = f
  k1 : m.kind = 1 → ∀ f : Nat, m.frm = f → H.vote m.term f f ∧ m.index = (H.CL m.term f).length ∧ m.logTerm = lastT (H.CL m.term f)
  k2 : m.kind = 2 → m.yes = true → ∀ f c : Nat, m.frm = f → m.to = c → H.vote m.term f c
  k3 : m.kind = 3 → H.led m.term ∧ m.frm = (H.ld m.term : Nat) ∧ ∃ i c : Nat, m.index = i ∧ m.commit = c ∧ i + m.entries.length ≤ (H.LL m.term).length ∧ m.entries = ((H.LL m.term).drop i).take m.entries.length ∧ m.logTerm = tAt (H.LL m.term) i ∧ Known H m.term (H.LL m.term) c
  k4 : m.kind = 4 → m.yes = true → ∃ k : Nat, m.index = k ∧ ∀ f : Nat, m.frm = f → ∀ j, 0 < j → j ≤ k → H.ack m.term f j
  k5 : m.kind = 5 → H.led m.term ∧ m.frm = (H.ld m.term : Nat) ∧ ∃ i : Nat, m.index = i ∧ i ≤ (H.LL m.term).length ∧ m.logTerm = tAt (H.LL m.term) i ∧ m.conf = confL H.c0 ((H.LL m.term).take i) ∧ Known H m.term (H.LL m.term) i
  i0 : -1 ≤ m.index
  i1 : m.index ≤ H.bd
  es : m.entries.length ≤ 8
theorem MI.ext (F : Facts H) (E : Ext H H') {m : Ms} (h : MI H m) : MI H' m where
  frm := h.frm
  to := h.to
  k1 := fun hk f hf => by
    obtain ⟨h1, h2, h3⟩ := h.k1 hk f hf
    rw [E.CL _ _ _ h1]
    exact ⟨E.vote _ _ _ h1, h2, h3⟩
  k2 := fun hk hy f c hf hc => E.vote _ _ _ (h.k2 hk hy f c hf hc)
  k3 := fun hk => by
    obtain ⟨h1, h2, i, c, h3, h4, h5, h6, h7, h8⟩ := h.k3 hk
    have hLL := E.LL _ h1
    refine ⟨E.led _ h1, by rw [E.ld _ h1]; exact h2, i, c, h3, h4, Nat.le_trans h5 hLL.2.1, ?_, ?_, ?_⟩
    · have h9 := (hLL.le h5).2.2
      rw [h6]
      have := congrArg (List.drop i) h9
      rw [List.drop_take, List.drop_take, Nat.add_sub_cancel_left] at this
      rw [this, List.length_take, List.length_drop, Nat.min_eq_left (by have := hLL.2.1; omega)]
    · rw [h7]; exact (hLL.le (by omega)).tAt
    · have h9 := h8.ext F E
      rcases h8 with h8 | ⟨_, _, _, _, _, _, h10⟩
      · exact .inl h8
      · exact h9.to (hLL.le h10.2.1)
  k4 := fun hk hy => by
    obtain ⟨k, h1, h2⟩ := h.k4 hk hy
    exact ⟨k, h1, fun f hf j h3 h4 => E.ack _ _ _ (h2 f hf j h3 h4)⟩
  k5 := fun hk => by
    obtain ⟨h1, h2, i, h3, h5, h6, h7, h8⟩ := h.k5 hk
    have hLL := E.LL _ h1
    refine ⟨E.led _ h1, by rw [E.ld _ h1]; exact h2, i, h3, Nat.le_trans h5 hLL.2.1, ?_, ?_, ?_⟩
    · rw [h6]; exact (hLL.le h5).tAt
    · rw [h7, E.c0, (hLL.le h5).2.2]
    · exact (h8.ext F E).to (hLL.le h5)
  i0 := h.i0
  i1 := by have := h.i1; have := E.bd; omega
  es := h.es
/-- One node's doing. -/
structure Does (k i : Nat) (H H' : Hist) : Prop where
  ext : Ext H H'
  oth : ∀ j n l, j ≠ i → NI H j n l → NI H' j n l
  bd : H'.bd ≤ H.bd + k
theorem Does.refl (i : Nat) (H : Hist) : Does 0 i H H := ⟨Ext.refl H, fun _ _ _ _ h => h, Nat.le_refl _⟩
theorem Does.trans {a b i : Nat} {H1 H2 H3 : Hist} (x : Does a i H1 H2) (y : Does b i H2 H3) : Does (a + b) i H1 H3 :=
  ⟨x.ext.trans y.ext, fun j n l hj h => y.oth j n l hj (x.oth j n l hj h), by have := x.bd; have := y.bd; omega⟩
end Raft
end Go.Proofs.Ytppaabahbjgihaa
end
section
namespace Go.Proofs.Ytppaabahbjgihaa
namespace Raft
variable {H : Hist}
def Hist.stand (H : Hist) (T : Int) (i : Nat) (l : List En) : Hist := { H with CL := fun t c => if t = T ∧ c = i then l else H.CL t c, vote := fun t v c => H.vote t v c ∨ (t = T ∧ v = i ∧ c = i) }
def Hist.give (H : Hist) (T : Int) (v c : Nat) : Hist := { H with vote := fun t u d => H.vote t u d ∨ (t = T ∧ u = v ∧ d = c), late := fun t u d => H.late t u d ∨ (t = T ∧ u = v ∧ d = c ∧ H.led T) }
def Hist.begin (H : Hist) (T : Int) (i : Nat) (e : En) : Hist := { H with led := fun t => H.led t ∨ t = T, ld := fun t => if t = T then i else H.ld t, LL := fun t => if t = T then H.CL T i ++ [e] else H.LL t, EL := fun t => if t = T then (H.CL T i).length else H.EL t, bd := H.bd + 1 }
def Hist.put (H : Hist) (T : Int) (e : En) : Hist := { H with LL := fun t => if t = T then H.LL T ++ [e] else H.LL t, bd := H.bd + 1 }
def Hist.agree (H : Hist) (T : Int) (v k : Nat) : Hist := { H with ack := fun S u x => H.ack S u x ∨ (S = T ∧ u = v ∧ x ≤ k) }
def Hist.commit (H : Hist) (T : Int) (k n : Nat) : Hist := { H with cmt := fun S a b => H.cmt S a b ∨ (S = T ∧ a = k ∧ b = n) }
/-- How long a log may be. -/
theorem Cons.len (F : Facts H) {l : List En} (h : Cons H l) : l.length ≤ H.bd := by
  by_cases hz : l.length = 0
  · omega
  · have g : l[l.length - 1]? = some l[l.length - 1] := List.getElem?_eq_getElem (by omega)
    obtain ⟨h1, h2⟩ := h _ _ g
    have := F.lbd _ h1
    have := h2.2.1
    omega
/-! One stands. -/
theorem stand_ext {T : Int} {i : Nat} {l : List En} (hn : ∀ v, ¬ H.vote T v i) : Ext H (H.stand T i l) where
  c0 := rfl
  bd := Nat.le_refl _
  led := fun _ h => h
  ld := fun _ _ => rfl
  EL := fun _ _ => rfl
  LL := fun _ _ => AG.refl (Nat.le_refl _)
  CL := fun t v c h => by
    show (if t = T ∧ c = i then l else H.CL t c) = H.CL t c
    rw [if_neg]
    rintro ⟨rfl, rfl⟩
    exact hn v h
  vote := fun _ _ _ h => .inl h
  ack := fun _ _ _ h => h
  cmt := fun _ _ _ h => h
theorem stand_facts (F : Facts H) {T : Int} {i : Nat} {l : List En} (hT : 0 < T) (hn : ∀ v, ¬ H.vote T v i) (hm : ∀ c, ¬ H.vote T i c) (hc : Cons H l) (ht : ∀ (j : Nat) (e : En), l[j]? = some e → e.term < T)
    (ha : ∀ S k, H.ack S i k → AG (H.LL S) l k ∨ ∃ t, S < t ∧ t < T ∧ H.led t ∧ ¬ AG (H.LL S) (H.CL t (H.ld t)) k) : Facts (H.stand T i l) := by
  have E := stand_ext (l := l) hn
  have hCL := E.CL
  have hCd : ∀ t, H.led t → (H.stand T i l).CL t (H.ld t) = H.CL t (H.ld t) := fun t h => E.CLld F h
  refine { c00 := F.c00, c01 := F.c01, cr := F.cr, ld5 := F.ld5, lled := F.lled, vpos := ?_, lbd := F.lbd, ackl := F.ackl, pos := F.pos, cons := F.cons, len := F.len, old := F.old, own := F.own, cl := ?_, win := ?_, once := ?_, voted := ?_, com := F.com, chg := F.chg }
  · rintro t v c (h | ⟨h, _, _⟩)
    · exact F.vpos t v c h
    · rw [h]; exact hT
  · intro t h
    show AG ((H.stand T i l).CL t (H.ld t)) _ _ ∧ ((H.stand T i l).CL t (H.ld t)).length = _
    rw [hCd t h]
    exact F.cl t h
  · intro t h
    obtain ⟨s, h1, h2, h3⟩ := F.win t h
    refine ⟨s, h1, ?_, fun j hj hb => ⟨.inl (h3 j hj hb).1, (h3 j hj hb).2⟩⟩
    show mostF (confL H.c0 ((H.stand T i l).CL t (H.ld t))) s = true
    rw [hCd t h]; exact h2
  · rintro t v c c' (h1 | ⟨h1, h2, h3⟩) (h4 | ⟨h4, h5, h6⟩)
    · exact F.once t v c c' h1 h4
    · subst h4 h5; exact absurd h1 (hm c)
    · subst h1 h2; exact absurd h4 (hm c')
    · rw [h3, h6]
  · rintro t v c (h | ⟨h1, h2, h3⟩)
    · obtain ⟨h1, h2, VL, h3, h4, h5⟩ := F.voted t v c h
      rw [hCL t v c h]
      refine ⟨h1, h2, VL, h3, h4, fun S k hS hk => ?_⟩
      rcases h5 S k hS hk with h6 | ⟨t', h6, h7, h8, h9, h10⟩
      · exact .inl h6
      · refine .inr ⟨t', h6, h7, h8, h9, ?_⟩
        show ¬ AG (H.LL S) ((H.stand T i l).CL t' (H.ld t')) k
        rw [hCd t' h8]; exact h10
    · subst h1 h2 h3
      have hx : (H.stand t c l).CL t c = l := by
        show (if t = t ∧ c = c then l else H.CL t c) = l
        rw [if_pos ⟨rfl, rfl⟩]
      rw [hx]
      refine ⟨hc, ht, l, hc, .inr ⟨rfl, Nat.le_refl _⟩, fun S k hS hk => ?_⟩
      rcases ha S k hk with h6 | ⟨t', h6, h7, h8, h10⟩
      · exact .inl h6
      · refine .inr ⟨t', h6, by omega, h8, fun h => absurd h (by omega), ?_⟩
        show ¬ AG (H.LL S) ((H.stand t c l).CL t' (H.ld t')) k
        rw [hCd t' h8]; exact h10
/-! A vote. -/
theorem give_ext {T : Int} {v c : Nat} : Ext H (H.give T v c) :=
  ⟨rfl, Nat.le_refl _, fun _ h => h, fun _ _ => rfl, fun _ _ => rfl, fun _ _ => AG.refl (Nat.le_refl _), fun _ _ _ _ => rfl, fun _ _ _ h => .inl h, fun _ _ _ h => h, fun _ _ _ h => h⟩
theorem give_facts (F : Facts H) {T : Int} {v c : Nat} {l : List En} (hm : ∀ d, ¬ H.vote T v d) (hcc : H.vote T c c) (hc : Cons H l) (hu : upTo l (H.CL T c))
    (ha : ∀ S k, H.ack S v k → AG (H.LL S) l k ∨ ∃ t, S < t ∧ t ≤ T ∧ H.led t ∧ ¬ AG (H.LL S) (H.CL t (H.ld t)) k) : Facts (H.give T v c) := by
  refine { c00 := F.c00, c01 := F.c01, cr := F.cr, ld5 := F.ld5, lled := ?_, vpos := ?_, lbd := F.lbd, ackl := F.ackl, pos := F.pos, cons := F.cons, len := F.len, old := F.old, own := F.own, cl := F.cl, win := ?_, once := ?_, voted := ?_, com := F.com, chg := F.chg }
  · rintro t u d (h | ⟨h1, _, _, h4⟩)
    · exact F.lled t u d h
    · rw [h1]; exact h4
  · rintro t u d (h | ⟨h, _, _⟩)
    · exact F.vpos t u d h
    · rw [h]; exact F.vpos T c c hcc
  · intro t h
    obtain ⟨s, h1, h2, h3⟩ := F.win t h
    refine ⟨s, h1, h2, fun j hj hb => ⟨.inl (h3 j hj hb).1, ?_⟩⟩
    rintro (h4 | ⟨h4, h5, h6, _⟩)
    · exact (h3 j hj hb).2 h4
    · have := (h3 j hj hb).1
      subst h4 h5
      exact hm _ this
  · rintro t u d d' (h1 | ⟨h1, h2, h3⟩) (h4 | ⟨h4, h5, h6⟩)
    · exact F.once t u d d' h1 h4
    · subst h4 h5; exact absurd h1 (hm d)
    · subst h1 h2; exact absurd h4 (hm d')
    · rw [h3, h6]
  · rintro t u d (h | ⟨h1, h2, h3⟩)
    · obtain ⟨h1, h2, VL, h3, h4, h5⟩ := F.voted t u d h
      refine ⟨h1, h2, VL, h3, h4, fun S k hS hk => ?_⟩
      rcases h5 S k hS hk with h6 | ⟨t', h6, h7, h8, h9, h10⟩
      · exact .inl h6
      · exact .inr ⟨t', h6, h7, h8, fun h => .inl (h9 h), h10⟩
    · subst h1 h2 h3
      obtain ⟨h1, h2, _⟩ := F.voted t d d hcc
      refine ⟨h1, h2, l, hc, hu, fun S k hS hk => ?_⟩
      rcases ha S k hk with h6 | ⟨t', h6, h7, h8, h10⟩
      · exact .inl h6
      · exact .inr ⟨t', h6, h7, h8, fun h => .inr ⟨rfl, rfl, rfl, h ▸ h8⟩, h10⟩
/-! One begins to lead. -/
theorem begin_ne {T t : Int} (hn : ¬ H.led T) (h : H.led t) : ¬ t = T := fun h' => hn (h' ▸ h)
theorem begin_ext {T : Int} {i : Nat} {e : En} (hn : ¬ H.led T) : Ext H (H.begin T i e) where
  c0 := rfl
  bd := Nat.le_succ _
  led := fun _ h => .inl h
  ld := fun t h => if_neg (begin_ne hn h)
  EL := fun t h => if_neg (begin_ne hn h)
  LL := fun t h => by
    have : (H.begin T i e).LL t = H.LL t := if_neg (begin_ne hn h)
    rw [this]
    exact AG.refl (Nat.le_refl _)
  CL := fun _ _ _ _ => rfl
  vote := fun _ _ _ h => h
  ack := fun _ _ _ h => h
  cmt := fun _ _ _ h => h
theorem begin_facts (F : Facts H) {T : Int} {i : Nat} {e : En} (hn : ¬ H.led T) (hel : elected H T i) (hi : i < 5) (hp : 0 < T) (he : e.term = T) (he0 : e.conf = 0) : Facts (H.begin T i e) := by
  have E := begin_ext (i := i) (e := e) hn
  obtain ⟨v0, hv0⟩ := some_vote hel
  obtain ⟨hXc, hXT, _⟩ := F.voted T v0 i hv0
  have hne : ∀ {t}, H.led t → t ≠ T := fun h h' => hn (h' ▸ h)
  have hLL : ∀ {t}, H.led t → (H.begin T i e).LL t = H.LL t := fun h => if_neg (hne h)
  have hEL : ∀ {t}, H.led t → (H.begin T i e).EL t = H.EL t := fun h => if_neg (hne h)
  have hld : ∀ {t}, H.led t → (H.begin T i e).ld t = H.ld t := fun h => if_neg (hne h)
  have tLL : (H.begin T i e).LL T = H.CL T i ++ [e] := if_pos rfl
  have tEL : (H.begin T i e).EL T = (H.CL T i).length := if_pos rfl
  have tld : (H.begin T i e).ld T = i := if_pos rfl
  have hXl := Cons.len F hXc
  refine { c00 := F.c00, c01 := F.c01, cr := ?_, ld5 := ?_, lled := fun t u d h => .inl (F.lled t u d h), vpos := F.vpos, lbd := ?_, ackl := ?_, pos := ?_, cons := ?_, len := ?_, old := ?_, own := ?_, cl := ?_, win := ?_, once := F.once, voted := ?_, com := ?_, chg := ?_ }
  · rintro t x (h | rfl) hx
    · rw [hLL h] at hx; exact F.cr t x h hx
    · rw [tLL] at hx
      rcases List.mem_append.1 hx with hx | hx
      · obtain ⟨j, hj⟩ := List.mem_iff_getElem?.1 hx
        obtain ⟨h1, h2⟩ := hXc j x hj
        exact F.cr _ x h1 (List.mem_of_getElem? (by rw [← h2.get (Nat.lt_succ_self j)]; exact hj))
      · rw [List.mem_singleton.1 hx]; omega
  · rintro t (h | rfl)
    · rw [hld h]; exact F.ld5 t h
    · rw [tld]; exact hi
  · rintro t (h | rfl)
    · rw [hLL h]; have := F.lbd t h; show _ ≤ H.bd + 1; omega
    · rw [tLL, List.length_append]; show _ + 1 ≤ H.bd + 1; omega
  · intro S v k h
    obtain ⟨h1, h2⟩ := F.ackl S v k h
    exact ⟨.inl h1, by rw [hLL h1]; exact h2⟩
  · rintro t (h | rfl)
    · exact F.pos t h
    · exact hp
  · rintro t (h | rfl)
    · rw [hLL h]; exact (F.cons t h).ext E
    · rw [tLL]
      intro j x hx
      rcases Nat.lt_or_ge j (H.CL t i).length with hj | hj
      · rw [List.getElem?_append_left hj] at hx
        obtain ⟨h1, h2⟩ := (hXc.ext E) j x hx
        exact ⟨h1, h2.appL⟩
      · rw [List.getElem?_append_right hj] at hx
        have hj0 : j - (H.CL t i).length = 0 := by
          rcases Nat.eq_zero_or_pos (j - (H.CL t i).length) with h | h
          · exact h
          · rw [List.getElem?_eq_none (by simp only [List.length_singleton]; omega)] at hx; cases hx
        rw [hj0] at hx
        have hx' : e = x := by simpa using hx
        rw [← hx', he, tLL]
        exact ⟨.inr rfl, AG.refl (by rw [List.length_append]; simp; omega)⟩
  · rintro t (h | rfl)
    · rw [hLL h, hEL h]; exact F.len t h
    · rw [tLL, tEL, List.length_append]; omega
  · rintro t j x (h | rfl) hx hj
    · rw [hLL h] at hx; rw [hEL h] at hj; exact F.old t j x h hx hj
    · rw [tLL] at hx; rw [tEL] at hj
      rw [List.getElem?_append_left hj] at hx
      exact hXT j x hx
  · rintro t j x (h | rfl) hx hj
    · rw [hLL h] at hx; rw [hEL h] at hj; exact F.own t j x h hx hj
    · rw [tLL] at hx; rw [tEL] at hj
      rw [List.getElem?_append_right hj] at hx
      have := List.mem_of_getElem? hx
      rw [List.mem_singleton.1 this]; exact he
  · rintro t (h | rfl)
    · show AG (H.CL t _) _ _ ∧ (H.CL t _).length = _
      rw [hLL h, hEL h, hld h]; exact F.cl t h
    · show AG (H.CL t _) _ _ ∧ (H.CL t _).length = _
      rw [tLL, tEL, tld]
      exact ⟨(AG.refl (Nat.le_refl _)).appR, rfl⟩
  · rintro t (h | rfl)
    · rw [hld h]; exact F.win t h
    · rw [tld]
      obtain ⟨s, h1, h2, h3⟩ := hel
      exact ⟨s, h1, h2, fun j hj hb => ⟨h3 j hj hb, fun h => hn (F.lled _ _ _ h)⟩⟩
  · intro t v c h
    obtain ⟨h1, h2, VL, h3, h4, h5⟩ := F.voted t v c h
    refine ⟨h1.ext E, h2, VL, h3.ext E, h4, fun S k hS hk => ?_⟩
    rw [hLL (F.ackl _ _ _ hk).1]
    rcases h5 S k hS hk with h6 | ⟨t', h6, h7, h8, h9, h10⟩
    · exact .inl h6
    · refine .inr ⟨t', h6, h7, .inl h8, h9, ?_⟩
      rw [hld h8]; exact h10
  · intro S k n h
    have hS := (F.com S k n h).1
    rw [hLL hS, hEL hS]
    obtain ⟨_, h2⟩ := F.com S k n h
    exact ⟨.inl hS, h2⟩
  · rintro S j x (h | rfl) hx hj hc
    · rw [hLL h] at hx; rw [hEL h] at hj; rw [hLL h]
      exact F.chg S j x h hx hj hc
    · rw [tLL] at hx; rw [tEL] at hj
      rw [List.getElem?_append_right hj] at hx
      have := List.mem_of_getElem? hx
      rw [List.mem_singleton.1 this] at hc
      exact absurd he0 hc
/-! A leader lays an entry. -/
theorem put_ext {T : Int} {e : En} : Ext H (H.put T e) where
  c0 := rfl
  bd := Nat.le_succ _
  led := fun _ h => h
  ld := fun _ _ => rfl
  EL := fun _ _ => rfl
  LL := fun t _ => by
    show AG _ (if t = T then H.LL T ++ [e] else H.LL t) _
    split
    · rename_i h; subst h
      exact (AG.refl (Nat.le_refl _)).appR
    · exact AG.refl (Nat.le_refl _)
  CL := fun _ _ _ _ => rfl
  vote := fun _ _ _ h => h
  ack := fun _ _ _ h => h
  cmt := fun _ _ _ h => h
theorem put_facts (F : Facts H) {T : Int} {e : En} (hl : H.led T) (he : e.term = T) (h0 : 0 ≤ e.conf) (h1 : e.conf ≤ 31)
    (hc : e.conf ≠ 0 → near (confL H.c0 (H.LL T)) e.conf ∧ ∃ c n, H.cmt T c n ∧ n ≤ (H.LL T).length ∧ ∀ i e', (H.LL T)[i]? = some e' → e'.conf ≠ 0 → i < c) : Facts (H.put T e) := by
  have E := put_ext (H := H) (T := T) (e := e)
  have tLL : (H.put T e).LL T = H.LL T ++ [e] := if_pos rfl
  have hne : ∀ {t}, t ≠ T → (H.put T e).LL t = H.LL t := fun h => if_neg h
  have hmem : ∀ {t x}, x ∈ (H.put T e).LL t → x ∈ H.LL t ∨ (t = T ∧ x = e) := by
    intro t x hx
    by_cases h : t = T
    · subst h; rw [tLL] at hx
      rcases List.mem_append.1 hx with hx | hx
      · exact .inl hx
      · exact .inr ⟨rfl, List.mem_singleton.1 hx⟩
    · rw [hne h] at hx; exact .inl hx
  have hget : ∀ {t : Int} {j : Nat} {x : En}, ((H.put T e).LL t)[j]? = some x → (H.LL t)[j]? = some x ∨ (t = T ∧ x = e ∧ j = (H.LL T).length) := by
    intro t j x hx
    by_cases h : t = T
    · subst h; rw [tLL] at hx
      rcases Nat.lt_or_ge j (H.LL t).length with hj | hj
      · rw [List.getElem?_append_left hj] at hx; exact .inl hx
      · rw [List.getElem?_append_right hj] at hx
        have hj0 : j - (H.LL t).length = 0 := by
          rcases Nat.eq_zero_or_pos (j - (H.LL t).length) with h | h
          · exact h
          · rw [List.getElem?_eq_none (by simp only [List.length_singleton]; omega)] at hx; cases hx
        rw [hj0] at hx
        have hx' : e = x := by simpa using hx
        exact .inr ⟨rfl, hx'.symm, by omega⟩
    · rw [hne h] at hx; exact .inl hx
  have htake : ∀ {t : Int} {k : Nat}, k ≤ (H.LL t).length → ((H.put T e).LL t).take k = (H.LL t).take k := by
    intro t k hk
    by_cases h : t = T
    · subst h; rw [tLL, List.take_append_of_le_length hk]
    · rw [hne h]
  have hlen : ∀ t, (H.LL t).length ≤ ((H.put T e).LL t).length := by
    intro t
    by_cases h : t = T
    · subst h; rw [tLL, List.length_append]; omega
    · rw [hne h]; exact Nat.le_refl _
  refine { c00 := F.c00, c01 := F.c01, cr := ?_, ld5 := F.ld5, lled := F.lled, vpos := F.vpos, lbd := ?_, ackl := ?_, pos := F.pos, cons := ?_, len := ?_, old := ?_, own := ?_, cl := ?_, win := F.win, once := F.once, voted := ?_, com := ?_, chg := ?_ }
  · intro t x h hx
    rcases hmem hx with hx | ⟨_, rfl⟩
    · exact F.cr t x h hx
    · exact ⟨h0, h1⟩
  · intro t h
    have := F.lbd t h
    show _ ≤ H.bd + 1
    by_cases ht : t = T
    · subst ht; rw [tLL, List.length_append]; simp; omega
    · rw [hne ht]; omega
  · intro S v k h
    obtain ⟨h1, h2⟩ := F.ackl S v k h
    exact ⟨h1, Nat.le_trans h2 (hlen S)⟩
  · intro t h j x hx
    rcases hget hx with hx' | ⟨rfl, rfl, rfl⟩
    · obtain ⟨g1, g2⟩ := ((F.cons t h).ext E) j x hx'
      refine ⟨g1, ?_⟩
      have := E.LL t h
      exact (this.symm.le (by have := g2.1; omega)).trans g2
    · subst he
      exact ⟨hl, AG.refl (by rw [tLL, List.length_append]; simp)⟩
  · intro t h; exact Nat.le_trans (F.len t h) (hlen t)
  · intro t j x h hx hj
    rcases hget hx with hx | ⟨rfl, rfl, rfl⟩
    · exact F.old t j x h hx hj
    · have := F.len t h
      have hj' : (H.LL t).length < H.EL t := hj
      omega
  · intro t j x h hx hj
    rcases hget hx with hx | ⟨rfl, rfl, rfl⟩
    · exact F.own t j x h hx hj
    · exact he
  · intro t h
    obtain ⟨g1, g2⟩ := F.cl t h
    exact ⟨g1.trans ((E.LL t h).le (F.len t h)), g2⟩
  · intro t v c h
    obtain ⟨h1, h2, VL, h3, h4, h5⟩ := F.voted t v c h
    refine ⟨h1.ext E, h2, VL, h3.ext E, h4, fun S k hS hk => ?_⟩
    obtain ⟨g1, g2⟩ := F.ackl _ _ _ hk
    rcases h5 S k hS hk with h6 | ⟨t', h6, h7, h8, h9, h10⟩
    · exact .inl (E.agLL g1 h6)
    · exact .inr ⟨t', h6, h7, h8, h9, E.nagLL g1 g2 h10⟩
  · intro S k n h
    obtain ⟨h1, h2, h3, h4, s, h5, h6, h7⟩ := F.com S k n h
    refine ⟨h1, h2, h3, Nat.le_trans h4 (hlen S), s, h5, ?_, h7⟩
    rw [htake h4]; exact h6
  · intro S j x h hx hj hcx
    rcases hget hx with hx | ⟨rfl, rfl, rfl⟩
    · have hjl : j < (H.LL S).length := (List.getElem?_eq_some_iff.1 hx).1
      obtain ⟨g1, c, n, g2, g3, g4⟩ := F.chg S j x h hx hj hcx
      rw [htake (Nat.le_of_lt hjl)]
      refine ⟨g1, c, n, g2, g3, fun i e' hi he' hc' => ?_⟩
      rcases hget he' with he' | ⟨rfl, rfl, rfl⟩
      · exact g4 i e' hi he' hc'
      · omega
    · obtain ⟨g1, c, n, g2, g3, g4⟩ := hc hcx
      rw [htake (Nat.le_refl _), List.take_length]
      refine ⟨g1, c, n, g2, g3, fun i e' hi he' hc' => ?_⟩
      rcases hget he' with he' | ⟨_, rfl, h⟩
      · exact g4 i e' he' hc'
      · omega
/-! One answers how far its log agrees. -/
theorem agree_ext {T : Int} {v k : Nat} : Ext H (H.agree T v k) :=
  ⟨rfl, Nat.le_refl _, fun _ h => h, fun _ _ => rfl, fun _ _ => rfl, fun _ _ => AG.refl (Nat.le_refl _), fun _ _ _ _ => rfl, fun _ _ _ h => h, fun _ _ _ h => .inl h, fun _ _ _ h => h⟩
theorem agree_facts (F : Facts H) {T : Int} {v k : Nat} (hl : H.led T) (hk : k ≤ (H.LL T).length) (hv : ∀ t c, H.vote t v c → t ≤ T) : Facts (H.agree T v k) := by
  refine { c00 := F.c00, c01 := F.c01, cr := F.cr, ld5 := F.ld5, lled := F.lled, vpos := F.vpos, lbd := F.lbd, ackl := ?_, pos := F.pos, cons := F.cons, len := F.len, old := F.old, own := F.own, cl := F.cl, win := F.win, once := F.once, voted := ?_, com := ?_, chg := F.chg }
  · rintro S u x (h | ⟨rfl, _, h⟩)
    · exact F.ackl S u x h
    · exact ⟨hl, Nat.le_trans h hk⟩
  · intro t u c h
    obtain ⟨h1, h2, VL, h3, h4, h5⟩ := F.voted t u c h
    refine ⟨h1, h2, VL, h3, h4, fun S x hS hx => ?_⟩
    rcases hx with hx | ⟨rfl, rfl, _⟩
    · exact h5 S x hS hx
    · have := hv t c h; omega
  · intro S x n h
    obtain ⟨h1, h2, h3, h4, s, h5, h6, h7⟩ := F.com S x n h
    exact ⟨h1, h2, h3, h4, s, h5, h6, fun i hi hb => .inl (h7 i hi hb)⟩
/-! A leader commits. -/
theorem commit_ext {T : Int} {k n : Nat} : Ext H (H.commit T k n) :=
  ⟨rfl, Nat.le_refl _, fun _ h => h, fun _ _ => rfl, fun _ _ => rfl, fun _ _ => AG.refl (Nat.le_refl _), fun _ _ _ _ => rfl, fun _ _ _ h => h, fun _ _ _ h => h, fun _ _ _ h => .inl h⟩
theorem commit_facts (F : Facts H) {T : Int} {k n : Nat} (hl : H.led T) (h1 : H.EL T < k) (h2 : k ≤ n) (h3 : n ≤ (H.LL T).length) {s : Nat} (hs : s < 32) (hm : mostF (confL H.c0 ((H.LL T).take n)) s = true) (ha : ∀ i, i < 5 → s.testBit i = true → H.ack T i k) : Facts (H.commit T k n) := by
  refine { c00 := F.c00, c01 := F.c01, cr := F.cr, ld5 := F.ld5, lled := F.lled, vpos := F.vpos, lbd := F.lbd, ackl := F.ackl, pos := F.pos, cons := F.cons, len := F.len, old := F.old, own := F.own, cl := F.cl, win := F.win, once := F.once, voted := F.voted, com := ?_, chg := ?_ }
  · rintro S a b (h | ⟨rfl, rfl, rfl⟩)
    · exact F.com S a b h
    · exact ⟨hl, h1, h2, h3, s, hs, hm, ha⟩
  · intro S j x h hx hj hc
    obtain ⟨g1, c, n, g2, g3, g4⟩ := F.chg S j x h hx hj hc
    exact ⟨g1, c, n, .inl g2, g3, g4⟩
end Raft
end Go.Proofs.Ytppaabahbjgihaa
end
section
namespace Go.Proofs.Ytppaabahbjgihaa
namespace Raft
variable {H : Hist}
theorem stand_does {T : Int} {i : Nat} {l : List En} (F : Facts H) (hn : ∀ v, ¬ H.vote T v i) : Does 0 i H (H.stand T i l) := by
  refine ⟨stand_ext hn, fun j n l' hj h => h.ext F (stand_ext hn) ?_ ?_ (fun _ h _ => h) (fun _ _ h => .inl h) (fun _ _ _ => rfl), Nat.le_refl _⟩
  · rintro T' c (h | ⟨_, h, _⟩)
    · exact h
    · exact absurd h hj
  · rintro T' v (h | ⟨_, _, h⟩)
    · exact ⟨v, h⟩
    · exact absurd h hj
theorem give_does {T : Int} {i f : Nat} (F : Facts H) (hf : H.vote T f f) : Does 0 i H (H.give T i f) := by
  refine ⟨give_ext, fun j n l' hj h => h.ext F give_ext ?_ ?_ (fun _ h _ => h) (fun _ _ h => .inl h) (fun _ _ _ => rfl), Nat.le_refl _⟩
  · rintro T' c (h | ⟨_, h, _⟩)
    · exact h
    · exact absurd h hj
  · rintro T' v (h | ⟨h1, _, h⟩)
    · exact ⟨v, h⟩
    · exact ⟨f, by rw [h1, h]; exact hf⟩
theorem begin_does {T : Int} {i : Nat} {e : En} (F : Facts H) (hn : ¬ H.led T) : Does 1 i H (H.begin T i e) := by
  refine ⟨begin_ext hn, fun j n l' hj h => h.ext F (begin_ext hn) (fun _ _ h => h) (fun _ v h => ⟨v, h⟩) ?_ (fun _ _ h => .inl h) (fun t h _ => if_neg (begin_ne hn h)), Nat.le_refl _⟩
  rintro T' (h | rfl) h2
  · exact h
  · exact absurd ((if_pos rfl).symm.trans h2).symm hj
theorem put_does {T : Int} {i : Nat} {e : En} (F : Facts H) (hi : H.ld T = i) : Does 1 i H (H.put T e) := by
  refine ⟨put_ext, fun j n l' hj h => h.ext F put_ext (fun _ _ h => h) (fun _ v h => ⟨v, h⟩) (fun _ h _ => h) (fun _ _ h => .inl h) (fun t h h2 => if_neg ?_), Nat.le_refl _⟩
  rintro rfl
  exact hj (h2.symm.trans hi)
theorem agree_does {T : Int} {i k : Nat} (F : Facts H) : Does 0 i H (H.agree T i k) := by
  refine ⟨agree_ext, fun j n l' hj h => h.ext F agree_ext (fun _ _ h => h) (fun _ v h => ⟨v, h⟩) (fun _ h _ => h) ?_ (fun _ _ _ => rfl), Nat.le_refl _⟩
  rintro S x (h | ⟨_, h, _⟩)
  · exact .inl h
  · exact absurd h hj
theorem commit_any {T : Int} {k n : Nat} (F : Facts H) {j : Nat} {x : Nd} {l : List En} (h : NI H j x l) : NI (H.commit T k n) j x l :=
  h.ext F commit_ext (fun _ _ h => h) (fun _ v h => ⟨v, h⟩) (fun _ h _ => h) (fun _ _ h => .inl h) (fun _ _ _ => rfl)
theorem commit_does {T : Int} {i k n : Nat} (F : Facts H) : Does 0 i H (H.commit T k n) := ⟨commit_ext, fun _ _ _ _ h => commit_any F h, Nat.le_refl _⟩
/-! The last entry with members. -/
theorem lc_spec (l : List En) : ∀ k, k ≤ l.length → match lc l k with
    | none => ∀ j, j < k → (l.getD j default).conf = 0
    | some (j, c) => j < k ∧ (l.getD j default).conf = c ∧ c ≠ 0 ∧ ∀ i, j < i → i < k → (l.getD i default).conf = 0
  | 0, _ => by simp [lc]
  | k + 1, hk => by
    have ih := lc_spec l k (by omega)
    rw [lc]
    by_cases h : (l.getD k default).conf ≠ 0
    · rw [if_pos h]
      exact ⟨by omega, rfl, h, fun i h1 h2 => by omega⟩
    · rw [if_neg h]
      have h0 : (l.getD k default).conf = 0 := Decidable.not_not.1 h
      cases hc : lc l k with
      | none =>
        rw [hc] at ih
        intro j hj
        rcases Nat.lt_or_ge j k with h1 | h1
        · exact ih j h1
        · rw [show j = k by omega]; exact h0
      | some p =>
        obtain ⟨j, c⟩ := p
        rw [hc] at ih
        obtain ⟨h1, h2, h3, h4⟩ := ih
        refine ⟨by omega, h2, h3, fun i h5 h6 => ?_⟩
        rcases Nat.lt_or_ge i k with h7 | h7
        · exact h4 i h5 h7
        · rw [show i = k by omega]; exact h0
theorem getD_of {l : List En} {j : Nat} {e : En} (h : l[j]? = some e) : l.getD j default = e := by simp [List.getD_eq_getElem?_getD, h]
theorem lc_conf (l : List En) (c0 : Int) : confL c0 l = match lc l l.length with
    | none => c0
    | some (_, c) => c := by
  have h := lc_spec l l.length (Nat.le_refl _)
  cases hc : lc l l.length with
  | none =>
    rw [hc] at h
    refine confL_none _ _ fun e he => ?_
    obtain ⟨j, hj⟩ := List.mem_iff_getElem?.1 he
    have := h j (List.getElem?_eq_some_iff.1 hj).1
    rw [getD_of hj] at this; exact this
  | some p =>
    obtain ⟨j, c⟩ := p
    rw [hc] at h
    obtain ⟨h1, h2, h3, h4⟩ := h
    have hj : l[j]? = some l[j] := List.getElem?_eq_getElem h1
    rw [getD_of hj] at h2
    rw [confL_one hj (by rw [h2]; exact h3) (fun i e hi he => by
      have := h4 i hi (List.getElem?_eq_some_iff.1 he).1
      rw [getD_of he] at this; exact this)]
    exact h2
/-! A node, its base and its log. -/
section
variable {i : Nat} {n : Nd} {l : List En}
theorem NI.last (h : NI H i n l) : lastF n = (l.length : Nat) := by
  obtain ⟨b, h1, h2, h3, _⟩ := h.base
  rw [lastF, h3, h1, List.length_drop]
  omega
theorem NI.bnat (h : NI H i n l) : ∃ b : Nat, n.base = b ∧ b ≤ l.length ∧ n.log = l.drop b ∧ n.log.length = l.length - b := by
  obtain ⟨b, h1, h2, h3, _⟩ := h.base
  exact ⟨b, h1, h2, h3, by rw [h3, List.length_drop]⟩
theorem NI.termF (h : NI H i n l) {k : Nat} (h1 : n.base ≤ k) (h2 : k ≤ l.length) : Go.Proofs.Ytppaabahbjgihaa.termF n k = tAt l k := by
  obtain ⟨b, hb, hbl, hlog, hbt, _⟩ := h.base
  have hlen : n.log.length = l.length - b := by rw [hlog, List.length_drop]
  unfold Go.Proofs.Ytppaabahbjgihaa.termF
  split
  · rename_i hc
    obtain ⟨j, rfl⟩ : ∃ j, k = j + 1 := ⟨k - 1, by omega⟩
    have hx : ((j + 1 : Nat) : Int) - n.base - 1 = ((j - b : Nat) : Int) := by omega
    rw [hx, Int.toNat_natCast, hlog, tAt, List.getD_eq_getElem?_getD, List.getElem?_drop, show b + (j - b) = j by omega, ← List.getD_eq_getElem?_getD]
  · rename_i hc
    have : k = b := by omega
    rw [this, hbt]
theorem NI.conf (h : NI H i n l) : (confF n).2 = confL H.c0 l := by
  obtain ⟨b, hb, hbl, hlog, hbt, hbc⟩ := h.base
  rw [show confL H.c0 l = confL (confL H.c0 (l.take b)) (l.drop b) by rw [← confL_app, List.take_append_drop], ← hbc, ← hlog, lc_conf]
  unfold confF
  cases lc n.log n.log.length with
  | none => rfl
  | some p => rfl
/-- Entries with members are not behind where the last one is. -/
theorem NI.confAt (h : NI H i n l) {j : Nat} {e : En} (he : l[j]? = some e) (hc : e.conf ≠ 0) : (j : Int) < (confF n).1 := by
  obtain ⟨b, hb, hbl, hlog, hbt, hbc⟩ := h.base
  have hs := lc_spec n.log n.log.length (Nat.le_refl _)
  have hjl : j < l.length := (List.getElem?_eq_some_iff.1 he).1
  have hlen : n.log.length = l.length - b := by rw [hlog, List.length_drop]
  unfold confF
  rcases Nat.lt_or_ge j b with hj | hj
  · cases lc n.log n.log.length with
    | none => show (j : Int) < n.base; omega
    | some p => show (j : Int) < n.base + p.1 + 1; omega
  · have hg : n.log.getD (j - b) default = e := by
      rw [hlog, List.getD_eq_getElem?_getD, List.getElem?_drop, show b + (j - b) = j by omega, he]; rfl
    cases hcc : lc n.log n.log.length with
    | none =>
      rw [hcc] at hs
      exact absurd (by rw [← hg]; exact hs _ (by omega)) hc
    | some p =>
      obtain ⟨q, c⟩ := p
      rw [hcc] at hs
      obtain ⟨h1, h2, h3, h4⟩ := hs
      show (j : Int) < n.base + q + 1
      rcases Nat.lt_or_ge q (j - b) with h5 | h5
      · exact absurd (by rw [← hg]; exact h4 _ h5 (by omega)) hc
      · omega
theorem NI.confLe (h : NI H i n l) : (confF n).1 ≤ lastF n := by
  obtain ⟨b, hb, hbl, hlog, hlen⟩ := h.bnat
  have hs := lc_spec n.log n.log.length (Nat.le_refl _)
  unfold confF lastF
  cases hcc : lc n.log n.log.length with
  | none => show n.base ≤ _; omega
  | some p =>
    rw [hcc] at hs
    obtain ⟨q, c⟩ := p
    show n.base + q + 1 ≤ _
    have := hs.1
    omega
theorem lastT_tAt (l : List En) : lastT l = tAt l l.length := by
  unfold lastT
  rw [List.getLast?_eq_getElem?]
  cases l with
  | nil => rfl
  | cons e l =>
    simp only [tAt, List.length_cons, Nat.add_sub_cancel, List.getD_eq_getElem?_getD]
    have h : (e :: l)[l.length]? = some (e :: l)[l.length] := List.getElem?_eq_getElem (by simp)
    rw [h]; rfl
theorem NI.lastTerm (h : NI H i n l) : Go.Proofs.Ytppaabahbjgihaa.termF n (lastF n) = lastT l := by
  obtain ⟨b, hb, hbl, _⟩ := h.bnat
  rw [h.last, h.termF (by omega) (Nat.le_refl _), lastT_tAt]
theorem get_setN (f : F5) {i j : Nat} (hi : i < 5) (hj : j < 5) (v : Int) : (f.set i v).get j = if j = i then v else f.get j := by
  rcases (by omega : i = 0 ∨ i = 1 ∨ i = 2 ∨ i = 3 ∨ i = 4) with rfl | rfl | rfl | rfl | rfl <;> rcases (by omega : j = 0 ∨ j = 1 ∨ j = 2 ∨ j = 3 ∨ j = 4) with rfl | rfl | rfl | rfl | rfl <;> rfl
theorem get_ge (f : F5) {j : Nat} (hj : 5 ≤ j) : f.get j = f.get 4 := by
  obtain ⟨k, rfl⟩ : ∃ k, j = k + 5 := ⟨j - 5, by omega⟩
  rfl
theorem get_any {p : Int → Prop} {f : F5} (h : ∀ j, j < 5 → p (f.get j)) (j : Nat) : p (f.get j) := by
  rcases Nat.lt_or_ge j 5 with h1 | h1
  · exact h j h1
  · rw [get_ge f h1]; exact h 4 (by decide)
/-! Steps that change nothing of what has happened. -/
theorem NI.still (h : NI H i n l) {w : Int} : NI H i { n with wait := w } l := ⟨h.id, h.t0, h.t1, h.base, h.com, h.cons, h.terms, h.votel, h.vote, h.stood, h.votes0, h.votes1, h.sz, h.cand, fun hr => by
  have := h.lead hr
  exact ⟨this.led, this.ld, this.log, this.mt, this.nx⟩, h.acks⟩
theorem NI.quiet (h : NI H i n l) {w : Int} : NI H i { n with role := 0, wait := w } l := ⟨h.id, h.t0, h.t1, h.base, h.com, h.cons, h.terms, h.votel, h.vote, h.stood, h.votes0, h.votes1, h.sz, (fun hr => by simp [wakeF] at hr), (fun hr => by simp [wakeF] at hr), h.acks⟩
theorem NI.wake (h : NI H i n l) : NI H i (wakeF n) l := ⟨h.id, h.t0, h.t1, h.base, h.com, h.cons, h.terms, h.votel, h.vote, h.stood, by simp [wakeF], by simp [wakeF], fun j hj => by
  have : (F5.all 0).get j = 0 := F5.get_all 0 j
  simp only [wakeF, this]; omega, (fun hr => by simp [wakeF] at hr), (fun hr => by simp [wakeF] at hr), h.acks⟩
theorem NI.up (h : NI H i n l) {m : Ms} (hm : m.term ≤ 1073741824) : NI H i (upN n m) l := by
  unfold upN
  split
  · rename_i hlt
    refine ⟨h.id, by simp only; have := h.t0; omega, hm, h.base, ?_, h.cons, fun j e he => ?_, fun T c hc => ?_, fun c => ⟨fun hc => ?_, fun hc => ?_⟩, fun T v hc => ?_, by simp, by simp, h.sz, (fun hr => by simp [wakeF] at hr), (fun hr => by simp [wakeF] at hr), fun S k hk => ?_⟩
    · obtain ⟨c, h1, h2, h3, h4⟩ := h.com
      exact ⟨c, h1, h2, h3, h4.up (by simp only; omega)⟩
    · have := h.terms j e he; simp only; omega
    · have := h.votel T c hc; simp only; omega
    · have := h.votel _ c hc; simp only at this; omega
    · simp only at hc; omega
    · have := h.stood T v hc; simp only; omega
    · obtain ⟨h1, h2⟩ := h.acks S k hk
      refine ⟨by simp only; omega, ?_⟩
      rcases h2 with h2 | ⟨t, h2, h3, h4⟩
      · exact .inl h2
      · exact .inr ⟨t, h2, by simp only; omega, h4⟩
  · exact h
theorem up_term (n : Nd) (m : Ms) : (upN n m).term = max n.term m.term := by
  unfold upN
  split
  · simp only; omega
  · omega
end
end Raft
end Go.Proofs.Ytppaabahbjgihaa
end
section
namespace Go.Proofs.Ytppaabahbjgihaa
namespace Raft
variable {H : Hist} {i : Nat} {n : Nd} {l : List En}
theorem mi_voted (hid : n.id = (i : Nat)) (hi : i < 5) {to : Int} {yes : Bool} (hto : ∃ f : Nat, f < 5 ∧ to = f) (hy : yes = true → ∀ c : Nat, to = c → H.vote n.term i c) : MI H (sendF n to (votedM yes)) where
  frm := ⟨i, hi, hid⟩
  to := hto
  k1 := fun h => by simp [sendF, votedM] at h
  k2 := fun _ hyes f c hf hc => by
    have : f = i := by have : n.id = (f : Nat) := hf; omega
    subst this
    exact hy hyes c hc
  k3 := fun h => by simp [sendF, votedM] at h
  k4 := fun h => by simp [sendF, votedM] at h
  k5 := fun h => by simp [sendF, votedM] at h
  i0 := by simp [sendF, votedM]
  i1 := by simp [sendF, votedM]
  es := by simp [sendF, votedM]
theorem mi_added (hid : n.id = (i : Nat)) (hi : i < 5) {to : Int} {yes : Bool} {idx : Int} (hto : ∃ f : Nat, f < 5 ∧ to = f) (h0 : -1 ≤ idx) (h1 : idx ≤ H.bd) (hy : yes = true → ∃ k : Nat, idx = k ∧ ∀ j, 0 < j → j ≤ k → H.ack n.term i j) : MI H (sendF n to (addedM yes idx)) where
  frm := ⟨i, hi, hid⟩
  to := hto
  k1 := fun h => by simp [sendF, addedM] at h
  k2 := fun h => by simp [sendF, addedM] at h
  k3 := fun h => by simp [sendF, addedM] at h
  k4 := fun _ hyes => by
    obtain ⟨k, h2, h3⟩ := hy hyes
    refine ⟨k, h2, fun f hf j h4 h5 => ?_⟩
    have : f = i := by have : n.id = (f : Nat) := hf; omega
    subst this
    exact h3 j h4 h5
  k5 := fun h => by simp [sendF, addedM] at h
  i0 := h0
  i1 := h1
  es := by simp [sendF, addedM]
theorem mi_ask (hid : n.id = (i : Nat)) (hi : i < 5) {to idx lt : Int} (hto : ∃ f : Nat, f < 5 ∧ to = f) (h0 : 0 ≤ idx) (h1 : idx ≤ H.bd) (hv : H.vote n.term i i) (hx : idx = (H.CL n.term i).length) (ht : lt = lastT (H.CL n.term i)) : MI H (sendF n to (askM idx lt)) where
  frm := ⟨i, hi, hid⟩
  to := hto
  k1 := fun _ f hf => by
    have : f = i := by have : n.id = (f : Nat) := hf; omega
    subst this
    exact ⟨hv, hx, ht⟩
  k2 := fun h => by simp [sendF, askM] at h
  k3 := fun h => by simp [sendF, askM] at h
  k4 := fun h => by simp [sendF, askM] at h
  k5 := fun h => by simp [sendF, askM] at h
  i0 := by simp only [sendF, askM]; omega
  i1 := h1
  es := by simp [sendF, askM]
/-! A vote. -/
theorem vote_go (F : Facts H) (h : NI H i n l) (hi : i < 5) {m : Ms} (M : MI H m) (hk : m.kind = 1) (hf : m.frm ≠ n.id) :
    ∃ H', Does 0 i H H' ∧ Facts H' ∧ NI H' i (voteF n m) l ∧ MI H' (sendF (voteF n m) m.frm (votedM (yesF n m))) := by
  by_cases hy : yesF n m = true
  · obtain ⟨f, hf5, hmf⟩ := M.frm
    obtain ⟨hvf, hidx, hlt⟩ := M.k1 hk f hmf
    have hfi : f ≠ i := by rintro rfl; exact hf (by rw [hmf, h.id])
    have hv : voteF n m = { n with vote := (f : Nat), wait := 0 } := by rw [voteF, if_pos hy, hmf]
    rw [yesF, decide_eq_true_iff] at hy
    obtain ⟨⟨hT, hvote⟩, hup⟩ := hy
    rw [h.lastTerm, h.last, hidx, hlt] at hup
    rw [hT] at hvf hup
    have hup : upTo l (H.CL n.term f) := by
      rcases hup with h1 | ⟨h1, h2⟩
      · exact .inl h1
      · exact .inr ⟨h1.symm, by omega⟩
    by_cases hvv : n.vote = (f : Nat)
    · refine ⟨H, Does.refl i H, F, ?_, ?_⟩
      · rw [hv]
        exact h.extG F (Ext.refl H) h.votel (fun c => by rw [h.vote c, hvv]) (fun T v hh => ⟨v, hh⟩) (fun _ hh _ => hh) (fun _ _ hh => .inl hh) (fun _ _ _ => rfl)
      · rw [hv]
        refine mi_voted h.id hi M.frm fun _ c hc => ?_
        show H.vote n.term i c
        rw [h.vote c, hvv, ← hmf, hc]
    · have hvm : n.vote = -1 := by
        rcases hvote with h1 | h1
        · exact h1
        · exact absurd (h1.trans hmf) hvv
      have hm : ∀ d, ¬ H.vote n.term i d := fun d hd => by
        have := (h.vote d).1 hd
        omega
      refine ⟨H.give n.term i f, give_does F hvf, give_facts F hm hvf h.cons hup (fun S k hk => (h.acks S k hk).2), ?_, ?_⟩
      · rw [hv]
        refine h.extG F give_ext ?_ (fun c => ⟨?_, fun hc => .inr ⟨rfl, rfl, by omega⟩⟩) ?_ (fun _ hh _ => hh) (fun _ _ hh => .inl hh) (fun _ _ _ => rfl)
        · rintro T c (hh | ⟨hh, _⟩)
          · exact h.votel T c hh
          · omega
        · rintro (hh | ⟨_, _, hh⟩)
          · exact absurd hh (hm c)
          · rw [hh]
        · rintro T v (hh | ⟨_, _, hh⟩)
          · exact ⟨v, hh⟩
          · exact absurd hh.symm hfi
      · rw [hv]
        refine mi_voted h.id hi M.frm fun _ c hc => ?_
        exact .inr ⟨rfl, rfl, by omega⟩
  · have hv : voteF n m = n := by rw [voteF, if_neg hy]
    refine ⟨H, Does.refl i H, F, by rw [hv]; exact h, ?_⟩
    rw [hv]
    exact mi_voted h.id hi M.frm fun h1 => absurd h1 hy
/-! One stands. -/
theorem stand_go (F : Facts H) (h : NI H i n l) (hi : i < 5) (ht : n.term < 1073741824) :
    ∃ H', Does 0 i H H' ∧ Facts H' ∧ NI H' i (standN n) l ∧ (∀ to : Nat, to < 5 → MI H' (sendF (standN n) to (askM (lastF n) (termF n (lastF n))))) ∧ (∀ j, j < 5 → (2 ^ i : Nat).testBit j = true → H'.vote (standN n).term j i) := by
  have hn : ∀ v, ¬ H.vote (n.term + 1) v i := fun v hv => by have := h.stood _ v hv; omega
  have hm : ∀ c, ¬ H.vote (n.term + 1) i c := fun c hv => by have := h.votel _ c hv; omega
  have E := stand_ext (l := l) hn
  have hCL : (H.stand (n.term + 1) i l).CL (n.term + 1) i = l := if_pos ⟨rfl, rfl⟩
  have hbit : ∀ j, j < 5 → (2 ^ i : Nat).testBit j = true → j = i := fun j _ hb => by
    rw [Nat.testBit_two_pow] at hb
    exact (of_decide_eq_true hb).symm
  refine ⟨H.stand (n.term + 1) i l, stand_does F hn, stand_facts F (by have := h.t0; omega) hn hm h.cons (fun j e he => by have := h.terms j e he; omega) (fun S k hk => ?_), ?_, fun to hto => ?_, ?_⟩
  · rcases (h.acks S k hk).2 with h1 | ⟨t, h1, h2, h3⟩
    · exact .inl h1
    · exact .inr ⟨t, h1, by omega, h3⟩
  · have hidn : n.id.toNat = i := by rw [h.id]; rfl
    refine { id := h.id, t0 := ?_, t1 := ?_, base := h.base, com := ?_, cons := h.cons.ext E, terms := ?_, votel := ?_, vote := ?_, stood := ?_, votes0 := ?_, votes1 := ?_, sz := h.sz, cand := ?_, lead := ?_, acks := ?_ }
    · have := h.t0; simp only [standN]; omega
    · simp only [standN]; omega
    · obtain ⟨c, h1, h2, h3, h4⟩ := h.com
      exact ⟨c, h1, h2, h3, (h4.ext F E).up (by simp only [standN]; omega)⟩
    · intro j e he
      have := h.terms j e he
      simp only [standN]; omega
    · rintro T c (hh | ⟨hh, _⟩)
      · have := h.votel T c hh; simp only [standN]; omega
      · simp only [standN]; omega
    · intro c
      simp only [standN, h.id]
      constructor
      · rintro (hh | ⟨_, _, hh⟩)
        · exact absurd hh (hm c)
        · rw [hh]
      · intro hh
        exact .inr ⟨rfl, rfl, by omega⟩
    · rintro T v (hh | ⟨hh, _⟩)
      · have := h.stood T v hh; simp only [standN]; omega
      · simp only [standN]; omega
    · simp only [standN]
      rcases (by omega : i = 0 ∨ i = 1 ∨ i = 2 ∨ i = 3 ∨ i = 4) with h1 | h1 | h1 | h1 | h1 <;> rw [hidn, h1] <;> decide
    · simp only [standN]
      rcases (by omega : i = 0 ∨ i = 1 ∨ i = 2 ∨ i = 3 ∨ i = 4) with h1 | h1 | h1 | h1 | h1 <;> rw [hidn, h1] <;> decide
    · intro _
      refine ⟨hCL.symm, ?_, .inr ⟨rfl, rfl, rfl⟩, fun j hj hb => ?_⟩
      · rintro ⟨h1, h2⟩
        obtain ⟨v, hv⟩ := some_vote (F.wins h1)
        have h2' : H.ld (n.term + 1) = i := h2
        rw [show (standN n).term = n.term + 1 from rfl, h2'] at hv
        exact hn v hv
      · have : (standN n).votes.toNat = 2 ^ i := by
          simp only [standN, hidn]
          rcases (by omega : i = 0 ∨ i = 1 ∨ i = 2 ∨ i = 3 ∨ i = 4) with h1 | h1 | h1 | h1 | h1 <;> rw [h1] <;> decide
        rw [this] at hb
        rw [hbit j hj hb]
        exact .inr ⟨rfl, rfl, rfl⟩
    · intro hr; simp [standN] at hr
    · intro S k hk
      obtain ⟨h1, h2⟩ := h.acks S k hk
      refine ⟨by simp only [standN]; omega, ?_⟩
      rcases h2 with h2 | ⟨t, h2, h3, h4, h5⟩
      · exact .inl h2
      · exact .inr ⟨t, h2, by simp only [standN]; omega, h4, by rw [E.CLld F h4]; exact h5⟩
  · refine mi_ask (n := standN n) h.id hi ⟨to, hto, rfl⟩ ?_ ?_ (.inr ⟨rfl, rfl, rfl⟩) ?_ ?_
    · rw [h.last]; omega
    · rw [h.last]
      have := Cons.len F h.cons
      show (l.length : Int) ≤ (H.bd : Nat)
      omega
    · rw [h.last]
      show _ = (((H.stand (n.term + 1) i l).CL (n.term + 1) i).length : Int)
      rw [hCL]
    · rw [h.lastTerm]
      show _ = lastT ((H.stand (n.term + 1) i l).CL (n.term + 1) i)
      rw [hCL]
  · intro j hj hb
    rw [hbit j hj hb]
    exact .inr ⟨rfl, rfl, rfl⟩
/-! What most hold is committed. -/
theorem NI.to (h : NI H i n l) {c : Nat} (h1 : n.base ≤ c) (h2 : c ≤ l.length) (h3 : Known H n.term l c) : NI H i { n with commit := c } l :=
  ⟨h.id, h.t0, h.t1, h.base, ⟨c, rfl, h1, h2, h3⟩, h.cons, h.terms, h.votel, h.vote, h.stood, h.votes0, h.votes1, h.sz, h.cand, fun hr => by
    have := h.lead hr
    exact ⟨this.led, this.ld, this.log, this.mt, this.nx⟩, h.acks⟩
theorem cmtF_cases (n : Nd) (conf : Int) : ∀ k, n.commit ≤ cmtF n conf k ∧ (cmtF n conf k = n.commit ∨ ∃ j, j < k ∧ cmtF n conf k = n.base + j + 1 ∧ (n.log.getD j default).term = n.term ∧ mostF conf (someF n.mtch (n.base + j + 1) 5) = true)
  | 0 => ⟨Int.le_refl _, .inl rfl⟩
  | k + 1 => by
    obtain ⟨h1, h2⟩ := cmtF_cases n conf k
    have h3 : cmtF n conf k = n.commit ∨ ∃ j, j < k + 1 ∧ cmtF n conf k = n.base + j + 1 ∧ (n.log.getD j default).term = n.term ∧ mostF conf (someF n.mtch (n.base + j + 1) 5) = true := by
      rcases h2 with h2 | ⟨j, h3, h4⟩
      · exact .inl h2
      · exact .inr ⟨j, by omega, h4⟩
    rw [cmtF]
    split
    · rename_i hc
      refine ⟨by omega, ?_⟩
      rcases Int.le_total (cmtF n conf k) (n.base + k + 1) with h | h
      · rw [Int.max_eq_right h]
        exact .inr ⟨k, by omega, rfl, hc.1, hc.2⟩
      · rw [Int.max_eq_left h]
        exact h3
    · exact ⟨h1, h3⟩
theorem bits5 : ∀ b0 b1 b2 b3 b4 : Bool, ∀ j : Fin 5, (((((((0 : Int) + if b0 then 1 else 0) + if b1 then 2 else 0) + if b2 then 4 else 0) + if b3 then 8 else 0) + if b4 then 16 else 0)).toNat.testBit j.val = [b0, b1, b2, b3, b4].getD j.val false := by decide +kernel
theorem some_bit (f : F5) (idx : Int) {j : Nat} (hj : j < 5) : (someF f idx 5).toNat.testBit j = decide (idx ≤ f.get j) := by
  have h := bits5 (decide (idx ≤ f.get 0)) (decide (idx ≤ f.get 1)) (decide (idx ≤ f.get 2)) (decide (idx ≤ f.get 3)) (decide (idx ≤ f.get 4)) ⟨j, hj⟩
  simp only [decide_eq_true_eq] at h
  have e : someF f idx 5 = ((((((0 : Int) + if idx ≤ f.get 0 then 1 else 0) + if idx ≤ f.get 1 then 2 else 0) + if idx ≤ f.get 2 then 4 else 0) + if idx ≤ f.get 3 then 8 else 0) + if idx ≤ f.get 4 then 16 else 0) := rfl
  rw [e, h]
  rcases (by omega : j = 0 ∨ j = 1 ∨ j = 2 ∨ j = 3 ∨ j = 4) with rfl | rfl | rfl | rfl | rfl <;> rfl
theorem commit_go (F : Facts H) (h : NI H i n l) (L : LI H i n l) : ∃ H', Does 0 i H H' ∧ Facts H' ∧ NI H' i (commitF n) l ∧ LI H' i (commitF n) l := by
  obtain ⟨b, hb, hbl, hlog, hlen⟩ := h.bnat
  obtain ⟨c0, hc0, hbc, hcl, hK⟩ := h.com
  have key : ∃ H', Does 0 i H H' ∧ Facts H' ∧ NI H' i { n with commit := cmtF n (confF n).2 n.log.length } l ∧ LI H' i { n with commit := cmtF n (confF n).2 n.log.length } l := by
    obtain ⟨h1, h2⟩ := cmtF_cases n (confF n).2 n.log.length
    rcases h2 with h2 | ⟨j, h3, h4, h5, h6⟩
    · rw [h2]
      exact ⟨H, Does.refl i H, F, h, L⟩
    · rw [h4]
      have hjl : b + j < l.length := by omega
      have hg : l[b + j]? = some (n.log.getD j default) := by
        rw [hlog, List.getD_eq_getElem?_getD, List.getElem?_drop, List.getElem?_eq_getElem hjl]; rfl
      have hEL : H.EL n.term ≤ b + j := Nat.le_of_not_lt fun hlt => by
        have := F.old n.term (b + j) _ L.led (by rw [← L.log]; exact hg) hlt
        omega
      have hx : n.base + j + 1 = ((b + j + 1 : Nat) : Int) := by omega
      rw [hx] at h6 ⊢
      have hsb := some_bd n.mtch ((b + j + 1 : Nat) : Int) 5
      have F' : Facts (H.commit n.term (b + j + 1) l.length) := by
        refine commit_facts F L.led (by omega) (by omega) (by rw [← L.log]; exact Nat.le_refl _) (s := (someF n.mtch ((b + j + 1 : Nat) : Int) 5).toNat) (by have : (2 : Int) ^ 5 = 32 := rfl; omega) ?_ (fun q hq hbq => ?_)
        · rw [← L.log, List.take_length, ← h.conf, Int.toNat_of_nonneg hsb.1]; exact h6
        · rw [some_bit _ _ hq] at hbq
          exact (L.mt q hq).2.2 _ (by omega) (of_decide_eq_true hbq)
      refine ⟨H.commit n.term (b + j + 1) l.length, commit_does F, F', ?_, ?_⟩
      · refine (commit_any F h).to (by omega) (by omega) (.inr ⟨n.term, b + j + 1, l.length, .inr ⟨rfl, rfl, rfl⟩, Int.le_refl _, Nat.le_refl _, ?_⟩)
        show AG (H.LL n.term) l _
        rw [← L.log]; exact AG.refl (by omega)
      · have := L.ext commit_ext (H' := H.commit n.term (b + j + 1) l.length) (fun _ _ _ => rfl)
        exact ⟨this.led, this.ld, this.log, this.mt, this.nx⟩
  obtain ⟨H', h1, h2, h3, h4⟩ := key
  refine ⟨H', h1, h2, ?_⟩
  unfold commitF
  split
  · exact ⟨h3.quiet (w := 0), ⟨h4.led, h4.ld, h4.log, h4.mt, h4.nx⟩⟩
  · exact ⟨h3, h4⟩
/-! What is owed. -/
theorem owe_mi (F : Facts H) (h : NI H i n l) (L : LI H i n l) (hi : i < 5) {to : Nat} (hto : to < 5) : MI H (oweF n to) := by
  obtain ⟨b, hb, hbl, hlog, hbt, hbc⟩ := h.base
  obtain ⟨c, hc, hbc', hcl, hK⟩ := h.com
  have hlb := F.lbd _ L.led
  rw [← L.log] at hlb
  have hlen : n.log.length = l.length - b := by rw [hlog, List.length_drop]
  obtain ⟨x0, x1⟩ := L.nx to hto
  unfold oweF
  rw [Int.toNat_natCast]
  have hld : n.id = (H.ld n.term : Nat) := by rw [L.ld]; exact h.id
  split
  · refine { frm := ⟨i, hi, h.id⟩, to := ⟨to, hto, rfl⟩, k1 := fun h => by simp [sendF] at h, k2 := fun h => by simp [sendF] at h, k3 := fun h => by simp [sendF] at h, k4 := fun h => by simp [sendF] at h, k5 := fun _ => ?_, i0 := ?_, i1 := ?_, es := by simp [sendF] }
    · simp only [sendF]
      rw [← L.log]
      exact ⟨L.led, hld, b, hb, hbl, hbt, hbc, hK.le (by omega)⟩
    · simp only [sendF]; omega
    · simp only [sendF]; omega
  · rename_i hnx
    obtain ⟨k, hk⟩ : ∃ k : Nat, n.next.get to - 1 = (k : Nat) := ⟨(n.next.get to - 1).toNat, by omega⟩
    have hm : (min (n.next.get to - 1 - n.base) (n.log.length : Int)).toNat = k - b := by omega
    have hdd : (n.log.drop (k - b)).take 8 = (l.drop k).take 8 := by rw [hlog, List.drop_drop, show b + (k - b) = k by omega]
    rw [hm, hdd, hk, h.termF (by omega) (by omega)]
    refine { frm := ⟨i, hi, h.id⟩, to := ⟨to, hto, rfl⟩, k1 := fun h => by simp [sendF] at h, k2 := fun h => by simp [sendF] at h, k3 := fun _ => ?_, k4 := fun h => by simp [sendF] at h, k5 := fun h => by simp [sendF] at h, i0 := ?_, i1 := ?_, es := ?_ }
    · simp only [sendF]
      rw [← L.log]
      refine ⟨L.led, hld, k, c, rfl, hc, ?_, ?_, rfl, hK⟩
      · rw [List.length_take, List.length_drop]; omega
      · rw [List.length_take, List.length_drop, List.take_eq_take_iff, List.length_drop]; omega
    · simp only [sendF]; omega
    · simp only [sendF]; omega
    · simp only [sendF, List.length_take]; omega
theorem toAll_mem {F : Int → Ms} {k : Nat} {m : Ms} (h : m ∈ toAll n F k) : ∃ to : Nat, to < k ∧ m = F to := by
  unfold toAll at h
  obtain ⟨a, h1, h2⟩ := List.mem_map.1 h
  exact ⟨a, List.mem_range.1 (List.mem_filter.1 h1).1, h2.symm⟩
theorem owes_mi (F : Facts H) (h : NI H i n l) (L : LI H i n l) (hi : i < 5) : ∀ m ∈ toAll n (oweF n) 5, MI H m := by
  intro m hm
  obtain ⟨to, h1, rfl⟩ := toAll_mem hm
  exact owe_mi F h L hi h1
end Raft
end Go.Proofs.Ytppaabahbjgihaa
end
section
namespace Go.Proofs.Ytppaabahbjgihaa
namespace Raft
variable {H : Hist} {i : Nat} {n : Nd} {l : List En}
theorem getElem?_snoc {l : List En} {e x : En} {j : Nat} (h : (l ++ [e])[j]? = some x) : l[j]? = some x ∨ (j = l.length ∧ x = e) := by
  rcases Nat.lt_or_ge j l.length with hj | hj
  · rw [List.getElem?_append_left hj] at h; exact .inl h
  · rw [List.getElem?_append_right hj] at h
    have hj0 : j - l.length = 0 := by
      rcases Nat.eq_zero_or_pos (j - l.length) with h1 | h1
      · exact h1
      · rw [List.getElem?_eq_none (by simp only [List.length_singleton]; omega)] at h; cases h
    rw [hj0] at h
    have hx : e = x := by simpa using h
    exact .inr ⟨by omega, hx.symm⟩
theorem tAt_app {l x : List En} {b : Nat} (hb : b ≤ l.length) : tAt (l ++ x) b = tAt l b := ((AG.refl hb).appL).tAt
/-- One who has most votes begins to lead. -/
theorem begin_go (F : Facts H) (h : NI H i n l) (hi : i < 5) (hr : n.role = 1) (hs : ∃ s : Nat, s < 32 ∧ mostF (confF n).2 s = true ∧ ∀ j, j < 5 → s.testBit j = true → H.vote n.term j i) :
    ∃ H' l', Does 1 i H H' ∧ Facts H' ∧ NI H' i (leadF n) l' ∧ LI H' i (leadF n) l' := by
  obtain ⟨hCL, hnl, hvi, _⟩ := h.cand hr
  have hel : elected H n.term i := by
    obtain ⟨s, h1, h2, h3⟩ := hs
    exact ⟨s, h1, by rw [← hCL, ← h.conf]; exact h2, h3⟩
  have hn : ¬ H.led n.term := fun hl => hnl ⟨hl, unique F (F.wins hl) hel⟩
  have hT := F.vpos _ _ _ hvi
  let e : En := ⟨n.term, 0, []⟩
  have F1 := begin_facts F hn hel hi hT (e := e) rfl rfl
  have E1 := begin_ext (i := i) (e := e) hn
  have hLL : (H.begin n.term i e).LL n.term = l ++ [e] := by rw [hCL]; exact if_pos rfl
  have hlen1 : (l ++ [e]).length = l.length + 1 := by simp
  have F2 := agree_facts (v := i) (k := l.length + 1) F1 (T := n.term) (.inr rfl) (by rw [hLL, hlen1]; exact Nat.le_refl _) (fun t c hc => h.votel t c hc)
  have E2 := agree_ext (H := H.begin n.term i e) (T := n.term) (v := i) (k := l.length + 1)
  have hD := (begin_does (i := i) (e := e) F hn).trans (agree_does (T := n.term) (k := l.length + 1) (i := i) F1)
  have E := E1.trans E2
  generalize hH : (H.begin n.term i e).agree n.term i (l.length + 1) = H2 at *
  have hled2 : H2.led n.term := by rw [← hH]; exact .inr rfl
  have hld2 : H2.ld n.term = i := by rw [← hH]; exact if_pos rfl
  have hLL2 : H2.LL n.term = l ++ [e] := by rw [← hH]; exact hLL
  have hack2 : ∀ k, k ≤ l.length + 1 → H2.ack n.term i k := fun k hk => by rw [← hH]; exact .inr ⟨rfl, rfl, hk⟩
  have hackI : ∀ S k, H2.ack S i k → H.ack S i k ∨ (S = n.term ∧ k ≤ l.length + 1) := by
    intro S k hk
    rw [← hH] at hk
    rcases hk with hk | ⟨h1, _, h2⟩
    · exact .inl hk
    · exact .inr ⟨h1, h2⟩
  have hvI : ∀ T v c, H2.vote T v c ↔ H.vote T v c := by intro T v c; rw [← hH]; exact Iff.rfl
  have hlb := F.lbd
  have hll := Cons.len F h.cons
  have hbd2 : H2.bd = H.bd + 1 := by rw [← hH]; rfl
  obtain ⟨b, hb, hbl, hlog, hbt, hbc⟩ := h.base
  obtain ⟨c, hc, hbc', hcl, hK⟩ := h.com
  have hlen : n.log.length = l.length - b := by rw [hlog, List.length_drop]
  have hnext : n.base + (n.log.length + 1) = ((l.length + 1 : Nat) : Int) := by omega
  have hidn : n.id.toNat = i := by rw [h.id]; rfl
  have hmt : ∀ j, j < 5 → (leadN n).mtch.get j = if j = i then ((l.length + 1 : Nat) : Int) else 0 := fun j hj => by
    simp only [leadN, hidn, hnext]
    rw [get_setN _ hi hj, F5.get_all]
  have hnx : ∀ j, (leadN n).next.get j = ((l.length + 1 : Nat) : Int) := fun j => by simp only [leadN, hnext, F5.get_all]
  have L2 : LI H2 i (leadN n) (l ++ [e]) := by
    refine ⟨hled2, hld2, hLL2.symm, fun j hj => ?_, fun j hj => ?_⟩
    · rw [hmt j hj, hlen1]
      split
      · rename_i hji
        subst hji
        exact ⟨by omega, by omega, fun k _ hk => hack2 k (by omega)⟩
      · exact ⟨by omega, by omega, fun k h1 h2 => by omega⟩
    · rw [hnx, hlen1]; omega
  have N2 : NI H2 i (leadN n) (l ++ [e]) := by
    refine { id := h.id, t0 := h.t0, t1 := h.t1, base := ?_, com := ?_, cons := ?_, terms := ?_, votel := ?_, vote := ?_, stood := ?_, votes0 := h.votes0, votes1 := h.votes1, sz := ?_, cand := ?_, lead := fun _ => L2, acks := ?_ }
    · refine ⟨b, hb, by rw [hlen1]; omega, ?_, ?_, ?_⟩
      · show n.log ++ [e] = _
        rw [hlog, List.drop_append_of_le_length hbl]
      · rw [tAt_app hbl]; exact hbt
      · rw [List.take_append_of_le_length hbl, E.c0]; exact hbc
    · exact ⟨c, hc, hbc', by rw [hlen1]; omega, (hK.ext F E).to ((AG.refl hcl).appR)⟩
    · rw [← hLL2]; exact F2.cons _ hled2
    · intro j x hx
      rcases getElem?_snoc hx with hx | ⟨_, rfl⟩
      · exact h.terms j x hx
      · exact Int.le_refl _
    · intro T c hc; exact h.votel T c ((hvI _ _ _).1 hc)
    · intro c; rw [show (leadN n).term = n.term from rfl, hvI]; exact h.vote c
    · intro T v hv; exact h.stood T v ((hvI _ _ _).1 hv)
    · intro j hj
      rw [hmt j hj, hnx, hbd2]
      split <;> omega
    · intro hr; simp [leadN] at hr
    · intro S k hk
      rcases hackI S k hk with hk | ⟨rfl, hk2⟩
      · obtain ⟨h1, h2⟩ := h.acks S k hk
        obtain ⟨h5, h6⟩ := F.ackl _ _ _ hk
        refine ⟨h1, ?_⟩
        rcases h2 with h2 | ⟨t, h2, h3, h4, h7⟩
        · exact .inl (E.agLL h5 h2).appR
        · exact .inr ⟨t, h2, h3, E.led _ h4, by rw [E.CLld F h4]; exact E.nagLL h5 h6 h7⟩
      · refine ⟨Int.le_refl _, .inl ?_⟩
        rw [hLL2]
        exact AG.refl (by rw [hlen1]; exact hk2)
  obtain ⟨H3, h1, h2, h3, h4⟩ := commit_go F2 N2 L2
  exact ⟨H3, l ++ [e], by simpa using hD.trans h1, h2, h3, h4⟩
/-- A leader lays an entry. -/
theorem put_go (F : Facts H) (h : NI H i n l) (L : LI H i n l) (hi : i < 5) (e : En) (h0 : 0 ≤ e.conf) (h1 : e.conf ≤ 31)
    (hch : e.conf ≠ 0 → near (confL H.c0 l) e.conf ∧ ∃ c n', H.cmt n.term c n' ∧ n' ≤ l.length ∧ ∀ j e', l[j]? = some e' → e'.conf ≠ 0 → j < c) :
    ∃ H' l', Does 1 i H H' ∧ Facts H' ∧ NI H' i (putF n e) l' ∧ LI H' i (putF n e) l' := by
  let e' : En := ⟨n.term, e.conf, e.cmd⟩
  have F1 : Facts (H.put n.term e') := put_facts F L.led rfl h0 h1 (by rw [← L.log]; exact hch)
  have E1 := put_ext (H := H) (T := n.term) (e := e')
  have hLL : (H.put n.term e').LL n.term = l ++ [e'] := by rw [L.log]; exact if_pos rfl
  have hlen1 : (l ++ [e']).length = l.length + 1 := by simp
  have F2 := agree_facts (v := i) (k := l.length + 1) F1 (T := n.term) L.led (by rw [hLL, hlen1]; exact Nat.le_refl _) (fun t c hc => h.votel t c hc)
  have E2 := agree_ext (H := H.put n.term e') (T := n.term) (v := i) (k := l.length + 1)
  have hD := (put_does (i := i) (e := e') F L.ld).trans (agree_does (T := n.term) (k := l.length + 1) (i := i) F1)
  have E := E1.trans E2
  generalize hH : (H.put n.term e').agree n.term i (l.length + 1) = H2 at *
  have hled2 : H2.led n.term := by rw [← hH]; exact L.led
  have hld2 : H2.ld n.term = i := by rw [← hH]; exact L.ld
  have hLL2 : H2.LL n.term = l ++ [e'] := by rw [← hH]; exact hLL
  have hack2 : ∀ k, k ≤ l.length + 1 → H2.ack n.term i k := fun k hk => by rw [← hH]; exact .inr ⟨rfl, rfl, hk⟩
  have hackI : ∀ S k, H2.ack S i k → H.ack S i k ∨ (S = n.term ∧ k ≤ l.length + 1) := by
    intro S k hk
    rw [← hH] at hk
    rcases hk with hk | ⟨h1, _, h2⟩
    · exact .inl hk
    · exact .inr ⟨h1, h2⟩
  have hackM : ∀ S v k, H.ack S v k → H2.ack S v k := E.ack
  have hvI : ∀ T v c, H2.vote T v c ↔ H.vote T v c := by intro T v c; rw [← hH]; exact Iff.rfl
  have hll := Cons.len F h.cons
  have hbd2 : H2.bd = H.bd + 1 := by rw [← hH]; rfl
  obtain ⟨b, hb, hbl, hlog, hbt, hbc⟩ := h.base
  obtain ⟨c, hc, hbc', hcl, hK⟩ := h.com
  have hlen : n.log.length = l.length - b := by rw [hlog, List.length_drop]
  have hnext : n.base + (n.log.length + 1) = ((l.length + 1 : Nat) : Int) := by omega
  have hidn : n.id.toNat = i := by rw [h.id]; rfl
  have hmt : ∀ j, j < 5 → (putN n e).mtch.get j = if j = i then ((l.length + 1 : Nat) : Int) else n.mtch.get j := fun j hj => by
    simp only [putN, hidn, hnext]
    rw [get_setN _ hi hj]
  have L2 : LI H2 i (putN n e) (l ++ [e']) := by
    refine ⟨hled2, hld2, hLL2.symm, fun j hj => ?_, fun j hj => ?_⟩
    · rw [hmt j hj, hlen1]
      obtain ⟨g1, g2, g3⟩ := L.mt j hj
      split
      · rename_i hji
        subst hji
        exact ⟨by omega, by omega, fun k _ hk => hack2 k (by omega)⟩
      · exact ⟨g1, by omega, fun k h1 h2 => hackM _ _ _ (g3 k h1 h2)⟩
    · have := L.nx j hj
      have e2 : (putN n e).next.get j = n.next.get j := rfl
      rw [hlen1, e2]
      omega
  have N2 : NI H2 i (putN n e) (l ++ [e']) := by
    refine { id := h.id, t0 := h.t0, t1 := h.t1, base := ?_, com := ?_, cons := ?_, terms := ?_, votel := ?_, vote := ?_, stood := ?_, votes0 := h.votes0, votes1 := h.votes1, sz := ?_, cand := ?_, lead := fun _ => L2, acks := ?_ }
    · refine ⟨b, hb, by rw [hlen1]; omega, ?_, ?_, ?_⟩
      · show n.log ++ [e'] = _
        rw [hlog, List.drop_append_of_le_length hbl]
      · rw [tAt_app hbl]; exact hbt
      · rw [List.take_append_of_le_length hbl, E.c0]; exact hbc
    · exact ⟨c, hc, hbc', by rw [hlen1]; omega, (hK.ext F E).to ((AG.refl hcl).appR)⟩
    · rw [← hLL2]; exact F2.cons _ hled2
    · intro j x hx
      rcases getElem?_snoc hx with hx | ⟨_, rfl⟩
      · exact h.terms j x hx
      · exact Int.le_refl _
    · intro T c hc; exact h.votel T c ((hvI _ _ _).1 hc)
    · intro c; rw [show (putN n e).term = n.term from rfl, hvI]; exact h.vote c
    · intro T v hv; exact h.stood T v ((hvI _ _ _).1 hv)
    · intro j hj
      have := h.sz j hj
      have e2 : (putN n e).next.get j = n.next.get j := rfl
      rw [hmt j hj, hbd2, e2]
      split <;> omega
    · intro hr
      obtain ⟨_, h2, _⟩ := h.cand hr
      exact absurd ⟨L.led, L.ld⟩ h2
    · intro S k hk
      rcases hackI S k hk with hk | ⟨rfl, hk2⟩
      · obtain ⟨h1, h2⟩ := h.acks S k hk
        obtain ⟨h5, h6⟩ := F.ackl _ _ _ hk
        refine ⟨h1, ?_⟩
        rcases h2 with h2 | ⟨t, h2, h3, h4, h7⟩
        · exact .inl (E.agLL h5 h2).appR
        · exact .inr ⟨t, h2, h3, E.led _ h4, by rw [E.CLld F h4]; exact E.nagLL h5 h6 h7⟩
      · refine ⟨Int.le_refl _, .inl ?_⟩
        rw [hLL2]
        exact AG.refl (by rw [hlen1]; exact hk2)
  obtain ⟨H3, h1, h2, h3, h4⟩ := commit_go F2 N2 L2
  exact ⟨H3, l ++ [e'], by simpa using hD.trans h1, h2, h3, h4⟩
/-- Numbers of a leader's. -/
theorem NI.tell (F : Facts H) (h : NI H i n l) (hr : n.role = 2) {nx mt : F5} (hn : ∀ j, j < 5 → 1 ≤ nx.get j ∧ nx.get j ≤ l.length + 1) (hm : ∀ j, j < 5 → 0 ≤ mt.get j ∧ mt.get j ≤ l.length ∧ ∀ k : Nat, 0 < k → (k : Int) ≤ mt.get j → H.ack n.term j k) :
    NI H i { n with next := nx, mtch := mt } l ∧ LI H i { n with next := nx, mtch := mt } l := by
  have L := h.lead hr
  have L' : LI H i { n with next := nx, mtch := mt } l := ⟨L.led, L.ld, L.log, hm, hn⟩
  have hlb := Cons.len F h.cons
  refine ⟨⟨h.id, h.t0, h.t1, h.base, h.com, h.cons, h.terms, h.votel, h.vote, h.stood, h.votes0, h.votes1, fun j hj => ?_, (fun hr' => by simp only at hr'; omega), fun _ => L', h.acks⟩, L'⟩
  have := hn j hj
  have := hm j hj
  simp only
  omega
theorem agree_go (F : Facts H) (h : NI H i n l) (hr : n.role = 2) {m : Ms} (M : MI H m) (hk : m.kind = 4) (hy : m.yes = true) (hT : m.term = n.term) : NI H i (agreeN n m) l ∧ LI H i (agreeN n m) l := by
  have L := h.lead hr
  obtain ⟨f, hf, hmf⟩ := M.frm
  obtain ⟨k, hidx, hack⟩ := M.k4 hk hy
  have hft : m.frm.toNat = f := by rw [hmf]; rfl
  have hkl : k ≤ l.length := by
    rcases Nat.eq_zero_or_pos k with h0 | h0
    · omega
    · have := (F.ackl _ _ _ (hack f hmf k h0 (Nat.le_refl _))).2
      rw [hT, ← L.log] at this; exact this
  have hmx := L.mt f hf
  refine h.tell F hr (fun j hj => ?_) (fun j hj => ?_)
  · rw [hft, get_setN _ hf hj]
    have := L.nx j hj
    split <;> omega
  · rw [hft, get_setN _ hf hj]
    split
    · rename_i hjf
      subst hjf
      refine ⟨by omega, by omega, fun q h1 h2 => ?_⟩
      rcases Int.le_total m.index (n.mtch.get j) with h3 | h3
      · exact hmx.2.2 q h1 (by omega)
      · rw [← hT]
        exact hack j hmf q h1 (by omega)
    · exact L.mt j hj
theorem back_go (F : Facts H) (h : NI H i n l) (hr : n.role = 2) {m : Ms} (M : MI H m) : NI H i (backN n m) l ∧ LI H i (backN n m) l := by
  have L := h.lead hr
  obtain ⟨f, hf, hmf⟩ := M.frm
  have hft : m.frm.toNat = f := by rw [hmf]; rfl
  refine h.tell F hr (fun j hj => ?_) L.mt
  rw [hft, get_setN _ hf hj]
  have := L.nx j hj
  have := L.nx f hf
  have := L.mt f hf
  split <;> omega
theorem heard_go (F : Facts H) (h : NI H i n l) (hi : i < 5) {m : Ms} (M : MI H m) (hk : m.kind = 4) : ∃ H', Does 0 i H H' ∧ Facts H' ∧ NI H' i (heardF n m).1 l ∧ ∀ x ∈ (heardF n m).2, MI H' x := by
  unfold heardF
  split
  · exact ⟨H, Does.refl i H, F, h, fun x hx => by cases hx⟩
  · rename_i hc
    have hT : m.term = n.term := Classical.byContradiction fun h1 => hc (.inl h1)
    have hr : n.role = 2 := Classical.byContradiction fun h1 => hc (.inr h1)
    split
    · rename_i hy
      obtain ⟨h1, h2⟩ := agree_go F h hr M hk hy hT
      obtain ⟨H', h3, h4, h5, _⟩ := commit_go F h1 h2
      exact ⟨H', h3, h4, h5, fun x hx => by cases hx⟩
    · obtain ⟨h1, h2⟩ := back_go F h hr M
      split
      · refine ⟨H, Does.refl i H, F, h1, fun x hx => ?_⟩
        rw [List.mem_singleton.1 hx]
        obtain ⟨f, hf, hmf⟩ := M.frm
        rw [hmf]
        exact owe_mi F h1 h2 hi hf
      · exact ⟨H, Does.refl i H, F, h1, fun x hx => by cases hx⟩
/-! What one that follows lays. -/
theorem NI.adopt (F : Facts H) (h : NI H i n l) (hr : n.role = 0) (hled : H.led n.term) {l' : List En} (hl' : l' = l ∨ ∃ q, l' = (H.LL n.term).take q) (hx : ∀ x, AG l (H.LL n.term) x → AG l' (H.LL n.term) x) :
    NI H i { n with log := l'.drop n.base.toNat } l' := by
  obtain ⟨b, hb, hbl, hlog, hbt, hbc⟩ := h.base
  obtain ⟨c, hc, hbc', hcl, hK⟩ := h.com
  have hKP := Known.ag F hled hK
  have hKl : AG l' (H.LL n.term) c := hx c hKP.symm
  have hll : AG l l' c := hKP.symm.trans hKl.symm
  have hbn : n.base.toNat = b := by omega
  refine { id := h.id, t0 := h.t0, t1 := h.t1, base := ?_, com := ?_, cons := ?_, terms := ?_, votel := h.votel, vote := h.vote, stood := h.stood, votes0 := h.votes0, votes1 := h.votes1, sz := h.sz, cand := (fun hr' => by simp only at hr'; omega), lead := (fun hr' => by simp only at hr'; omega), acks := ?_ }
  · refine ⟨b, hb, by have := hll.2.1; omega, by rw [← hbn], ?_, ?_⟩
    · rw [← (hll.le (show b ≤ c by omega)).tAt]; exact hbt
    · rw [← (hll.le (show b ≤ c by omega)).2.2]; exact hbc
  · exact ⟨c, hc, hbc', hKl.1, hK.to hll⟩
  · rcases hl' with h1 | ⟨q, h1⟩
    · rw [h1]; exact h.cons
    · rw [h1]; exact (F.cons _ hled).take q
  · intro j e he
    rcases hl' with h1 | ⟨q, h1⟩
    · rw [h1] at he; exact h.terms j e he
    · rw [h1, List.getElem?_take] at he
      split at he
      · by_cases hj : j < H.EL n.term
        · have := F.old _ j e hled he hj; simp only; omega
        · have := F.own _ j e hled he (by omega); simp only; omega
      · cases he
  · intro S k hk
    obtain ⟨h1, h2⟩ := h.acks S k hk
    refine ⟨h1, ?_⟩
    rcases h2 with h2 | h2
    · by_cases hP : AG (H.LL S) (H.LL n.term) k
      · exact .inl (hP.trans (hx k (h2.symm.trans hP)).symm)
      · have hS : S < n.term := by
          rcases Int.lt_or_eq_of_le h1 with h3 | h3
          · exact h3
          · rw [h3] at hP h2
            exact absurd (AG.refl h2.1) hP
        refine .inr ⟨n.term, hS, Int.le_refl _, hled, fun hcl => hP ?_⟩
        have h6 := F.cl _ hled
        exact hcl.trans (h6.1.le (by have := hcl.2.1; omega))
    · exact .inr h2
theorem NI.reb (h : NI H i n l) {x c : Nat} {s : List UInt8} (hxc : x ≤ c) (hcl : c ≤ l.length) (hK : Known H n.term l c) :
    NI H i { n with base := x, baseTerm := tAt l x, baseConf := confL H.c0 (l.take x), snap := s, log := l.drop x, commit := c } l :=
  ⟨h.id, h.t0, h.t1, ⟨x, rfl, Nat.le_trans hxc hcl, rfl, rfl, rfl⟩, ⟨c, rfl, by simp only; omega, hcl, hK⟩, h.cons, h.terms, h.votel, h.vote, h.stood, h.votes0, h.votes1, h.sz, h.cand, fun hr => by
    have := h.lead hr
    exact ⟨this.led, this.ld, this.log, this.mt, this.nx⟩, h.acks⟩
/-- It answers how far its log agrees. -/
theorem say_go (F : Facts H) (h : NI H i n l) (hi : i < 5) (hled : H.led n.term) {k : Nat} (hk : AG (H.LL n.term) l k) {to : Int} (hto : ∃ f : Nat, f < 5 ∧ to = f) {idx : Int} (hx : idx = (k : Nat)) :
    ∃ H', Does 0 i H H' ∧ Facts H' ∧ NI H' i n l ∧ MI H' (sendF n to (addedM true idx)) := by
  have F' := agree_facts (v := i) F hled hk.1 (fun t c hc => h.votel t c hc)
  refine ⟨H.agree n.term i k, agree_does F, F', ?_, ?_⟩
  · refine h.ext F agree_ext (fun _ _ h => h) (fun _ v h => ⟨v, h⟩) (fun _ h _ => h) ?_ (fun _ _ _ => rfl)
    rintro S x (hh | ⟨rfl, _, hh⟩)
    · exact .inl hh
    · exact .inr ⟨Int.le_refl _, hk.le hh⟩
  · have := F.lbd _ hled
    have h3 := hk.1
    refine mi_added h.id hi hto (by omega) (by show idx ≤ (H.bd : Nat); omega) (fun _ => ⟨k, hx, fun j _ hj => .inr ⟨rfl, rfl, hj⟩⟩)
/-- The log behind k entries of a message, seen whole. -/
theorem lay_spec (F : Facts H) (h : NI H i n l) {m : Ms} {P : List En} (hP : Cons H P) {b k : Nat} (hb : n.base = b) (hbk : b ≤ k) (hidx : m.index = k) (hlog : n.log = l.drop b) (h0 : AG l P k) (hes : m.entries = (P.drop k).take m.entries.length) (hle : k + m.entries.length ≤ P.length) :
    ∀ j, j ≤ m.entries.length → (layK n m j = l.drop b ∧ AG l P (k + j)) ∨ (layK n m j = (P.take (k + j)).drop b ∧ ∃ y, y < k + j ∧ ∀ x, AG l P x → x ≤ y)
  | 0, _ => .inl ⟨hlog, h0⟩
  | j + 1, hj => by
    have hPl : k + j < P.length := by omega
    have hPj : P[k + j]? = some P[k + j] := List.getElem?_eq_getElem hPl
    have hej : m.entries.getD j default = P[k + j] := by
      rw [hes, List.getD_eq_getElem?_getD, List.getElem?_take, if_pos (by omega), List.getElem?_drop, hPj]; rfl
    have hi1 : m.index - n.base + j = ((k - b + j : Nat) : Int) := by omega
    rw [layK, hej, hi1, Int.toNat_natCast]
    rcases lay_spec F h hP hb hbk hidx hlog h0 hes hle j (by omega) with ⟨h1, h2⟩ | ⟨h1, y, h2, h3⟩
    · rw [h1]
      have hdl : (l.drop b).length = l.length - b := List.length_drop
      have hkl := h2.1
      by_cases hc : ((k - b + j : Nat) : Int) < ((l.drop b).length : Nat) ∧ ((l.drop b).getD (k - b + j) default).term = P[k + j].term
      · rw [if_pos hc]
        have hlj : k + j < l.length := by omega
        have hl2 : l[k + j]? = some l[k + j] := List.getElem?_eq_getElem hlj
        refine .inl ⟨rfl, ?_⟩
        refine Cons.ag h.cons hP hl2 hPj ?_
        have := hc.2
        rw [List.getD_eq_getElem?_getD, List.getElem?_drop, show b + (k - b + j) = k + j by omega, hl2] at this
        exact this
      · rw [if_neg hc]
        have hmin : (min ((k - b + j : Nat) : Int) ((l.drop b).length : Nat)).toNat = k - b + j := by omega
        refine .inr ⟨?_, k + j, by omega, fun x hx => ?_⟩
        · rw [hmin, ← Nat.add_assoc, List.take_succ_eq_append_getElem hPl, List.drop_append_of_le_length (by rw [List.length_take]; omega), ← h2.2.2, List.drop_take, show k + j - b = k - b + j by omega]
        · refine Nat.le_of_not_lt fun hlt => hc ?_
          have h5 := hx.get hlt
          have hlj : k + j < l.length := by have := hx.1; omega
          have hl2 : l[k + j]? = some l[k + j] := List.getElem?_eq_getElem hlj
          refine ⟨by omega, ?_⟩
          rw [List.getD_eq_getElem?_getD, List.getElem?_drop, show b + (k - b + j) = k + j by omega, h5, hPj]; rfl
    · rw [h1]
      have hdl : ((P.take (k + j)).drop b).length = k - b + j := by rw [List.length_drop, List.length_take]; omega
      rw [if_neg (by rw [hdl]; omega)]
      refine .inr ⟨?_, y, by omega, h3⟩
      rw [hdl, Int.min_self, Int.toNat_natCast, List.take_of_length_le (by omega), ← Nat.add_assoc, List.take_succ_eq_append_getElem hPl, List.drop_append_of_le_length (by rw [List.length_take]; omega)]
theorem add_go (F : Facts H) (h : NI H i n l) (hi : i < 5) {m : Ms} (M : MI H m) (hk : m.kind = 3) (hT : m.term ≤ n.term) : ∃ H' l', Does 0 i H H' ∧ Facts H' ∧ NI H' i (addF n m).1 l' ∧ ∀ x ∈ (addF n m).2, MI H' x := by
  obtain ⟨hled, _, k, c, hidx, hcm, hle, hes, hlt, hK⟩ := M.k3 hk
  unfold addF
  split
  · refine ⟨H, l, Does.refl i H, F, h, fun x hx => ?_⟩
    rw [List.mem_singleton.1 hx]
    exact mi_added h.id hi M.frm (by omega) (by omega) (fun h => by cases h)
  rename_i hlow
  have hTe : m.term = n.term := by omega
  rw [hTe] at hled hle hes hlt hK
  have hq : NI H i (quietN n) l := h.quiet (w := 0)
  obtain ⟨b, hb, hbl, hlog, hbt, hbc⟩ := h.base
  obtain ⟨c0, hc0, hbc0, hcl0, hK0⟩ := h.com
  have hKP := Known.ag F hled hK0
  split
  · obtain ⟨H', h1, h2, h3, h4⟩ := say_go F hq hi hled (k := b) (hKP.le (by omega)) (to := m.frm) M.frm (idx := n.base) hb
    exact ⟨H', l, h1, h2, h3, fun x hx => by rw [List.mem_singleton.1 hx]; exact h4⟩
  rename_i hbk
  have hlast := h.last
  split
  · refine ⟨H, l, Does.refl i H, F, hq, fun x hx => ?_⟩
    rw [List.mem_singleton.1 hx]
    have := Cons.len F h.cons
    exact mi_added hq.id hi M.frm (by omega) (by omega) (fun h => by cases h)
  rename_i hc
  have hkl : k ≤ l.length := by omega
  have htk : Go.Proofs.Ytppaabahbjgihaa.termF n m.index = m.logTerm := Classical.byContradiction fun h1 => hc (.inr h1)
  rw [hidx, h.termF (by omega) hkl, hlt] at htk
  have hPc := F.cons _ hled
  have h0 : AG l (H.LL n.term) k := Cons.agT h.cons hPc hkl (by omega) htk
  have hsp := lay_spec F h hPc hb (by omega) hidx hlog h0 hes hle m.entries.length (Nat.le_refl _)
  have hbn : n.base.toNat = b := by omega
  have key : ∃ l', layK n m m.entries.length = l'.drop b ∧ AG (H.LL n.term) l' (k + m.entries.length) ∧ NI H i { quietN n with log := l'.drop b } l' := by
    rcases hsp with ⟨h1, h2⟩ | ⟨h1, y, h2, h3⟩
    · refine ⟨l, h1, h2.symm, ?_⟩
      have := hq.adopt F rfl hled (l' := l) (.inl rfl) (fun x hx => hx)
      rwa [show (quietN n).base.toNat = b from hbn] at this
    · refine ⟨(H.LL n.term).take (k + m.entries.length), h1, AG.takeSelf hle, ?_⟩
      have := hq.adopt F rfl hled (l' := (H.LL n.term).take (k + m.entries.length)) (.inr ⟨_, rfl⟩) (fun x hx => ?_)
      · rwa [show (quietN n).base.toNat = b from hbn] at this
      · have h4 := h3 x hx
        exact ((AG.refl hx.2.1).take (q := k + m.entries.length) (by omega)).symm
  obtain ⟨l', h1, h2, h3⟩ := key
  have hc' : ∃ c1 : Nat, (max n.commit (min m.commit (m.index + m.entries.length)) : Int) = c1 ∧ b ≤ c1 ∧ c1 ≤ l'.length ∧ Known H n.term l' c1 := by
    obtain ⟨c2, g1, g2, g3, g4⟩ := h3.com
    have g1' : n.commit = (c2 : Nat) := g1
    have hl2 := h2.2.1
    rcases Int.le_total n.commit (min m.commit (m.index + m.entries.length)) with h5 | h5
    · refine ⟨min c (k + m.entries.length), by omega, by omega, by omega, ?_⟩
      exact (hK.le (Nat.min_le_left _ _)).to (h2.le (Nat.min_le_right _ _))
    · exact ⟨c2, by omega, by omega, g3, g4⟩
  obtain ⟨c1, g1, g2, g3, g4⟩ := hc'
  have hN : NI H i (addN n m) l' := by
    have := h3.to (c := c1) (by show n.base ≤ _; omega) g3 g4
    unfold addN
    rw [h1, g1]; exact this
  obtain ⟨H', e1, e2, e3, e4⟩ := say_go F hN hi hled (k := k + m.entries.length) h2 (to := m.frm) M.frm (idx := m.index + m.entries.length) (by omega)
  exact ⟨H', l', e1, e2, e3, fun x hx => by rw [List.mem_singleton.1 hx]; exact e4⟩
theorem snap_go (F : Facts H) (h : NI H i n l) (hi : i < 5) {m : Ms} (M : MI H m) (hk : m.kind = 5) (hT : m.term ≤ n.term) : ∃ H' l', Does 0 i H H' ∧ Facts H' ∧ NI H' i (snapF n m).1 l' ∧ ∀ x ∈ (snapF n m).2, MI H' x := by
  obtain ⟨hled, _, k, hidx, hkP, hlt, hcf, hK⟩ := M.k5 hk
  unfold snapF
  split
  · refine ⟨H, l, Does.refl i H, F, h, fun x hx => ?_⟩
    rw [List.mem_singleton.1 hx]
    exact mi_added h.id hi M.frm (by omega) (by omega) (fun h => by cases h)
  rename_i hlow
  have hTe : m.term = n.term := by omega
  rw [hTe] at hled hkP hlt hcf hK
  have hq : NI H i (quietN n) l := h.quiet (w := 0)
  obtain ⟨b, hb, hbl, hlog, hbt, hbc⟩ := h.base
  obtain ⟨c0, hc0, hbc0, hcl0, hK0⟩ := h.com
  have hKP := Known.ag F hled hK0
  have hPc := F.cons _ hled
  have hbn : n.base.toNat = b := by omega
  have hlast := h.last
  split
  · rename_i hgt
    have key : ∃ l', restF n m = l'.drop k ∧ AG (H.LL n.term) l' k ∧ NI H i { quietN n with log := l'.drop b } l' := by
      by_cases hc : (m.index ≤ lastF n ∧ n.base < m.index) ∧ Go.Proofs.Ytppaabahbjgihaa.termF n m.index = m.logTerm
      · have hkl : k ≤ l.length := by omega
        have htk := hc.2
        rw [hidx, h.termF (by omega) hkl, hlt] at htk
        have h0 : AG l (H.LL n.term) k := Cons.agT h.cons hPc hkl hkP htk
        refine ⟨l, ?_, h0.symm, ?_⟩
        · rw [restF, if_pos hc, hlog, List.drop_drop, show b + (m.index - n.base).toNat = k by omega]
        · have := hq.adopt F rfl hled (l' := l) (.inl rfl) (fun x hx => hx)
          rwa [show (quietN n).base.toNat = b from hbn] at this
      · refine ⟨(H.LL n.term).take k, ?_, AG.takeSelf hkP, ?_⟩
        · rw [restF, if_neg hc, List.drop_eq_nil_of_le (by rw [List.length_take]; omega)]
        · have := hq.adopt F rfl hled (l' := (H.LL n.term).take k) (.inr ⟨_, rfl⟩) (fun x hx => ?_)
          · rwa [show (quietN n).base.toNat = b from hbn] at this
          · have hxk : x ≤ k := by
              refine Nat.le_of_not_lt fun hlt2 => hc ?_
              have h5 := hx.le (show k ≤ x by omega)
              have h6 := h5.1
              refine ⟨⟨by omega, by omega⟩, ?_⟩
              rw [hidx, h.termF (by omega) h6, h5.tAt, hlt]
              rfl
            exact ((AG.refl hx.2.1).take (q := k) hxk).symm
    obtain ⟨l', h1, h2, h3⟩ := key
    have hN : NI H i (snapN n m) l' := by
      have := h3.reb (x := k) (c := k) (s := m.snap) (Nat.le_refl _) h2.2.1 (hK.to h2)
      unfold snapN
      rw [h1, hidx, hlt, hcf, h2.tAt, h2.2.2]
      exact this
    obtain ⟨H', e1, e2, e3, e4⟩ := say_go F hN hi hled (k := k) h2 (to := m.frm) M.frm (idx := max m.index n.commit) (by omega)
    exact ⟨H', l', e1, e2, e3, fun x hx => by rw [List.mem_singleton.1 hx]; exact e4⟩
  · rename_i hgt
    obtain ⟨H', e1, e2, e3, e4⟩ := say_go F hq hi hled (k := c0) hKP (to := m.frm) M.frm (idx := max m.index n.commit) (by omega)
    exact ⟨H', l, e1, e2, e3, fun x hx => by rw [List.mem_singleton.1 hx]; exact e4⟩
end Raft
end Go.Proofs.Ytppaabahbjgihaa
end
section
namespace Go.Proofs.Ytppaabahbjgihaa
namespace Raft
variable {H : Hist} {i : Nat} {n : Nd} {l : List En}
/-- One node is led on. -/
def Goes (k i : Nat) (H : Hist) (n' : Nd) (out : List Ms) : Prop := ∃ H' l', Does k i H H' ∧ Facts H' ∧ NI H' i n' l' ∧ ∀ x ∈ out, MI H' x
theorem Does.le {a b : Nat} {H' : Hist} (h : Does a i H H') (hab : a ≤ b) : Does b i H H' := ⟨h.ext, h.oth, by have := h.bd; omega⟩
theorem bit_lt {s : Nat} (hs : s < 32) {i : Nat} (hb : s.testBit i = true) : i < 5 := Nat.lt_of_not_le fun h => by
  have : 2 ^ 5 ≤ 2 ^ i := Nat.pow_le_pow_right (by decide) h
  rw [Nat.testBit_lt_two_pow (by omega)] at hb
  cases hb
theorem or_bit : ∀ v : Fin 32, ∀ f : Fin 5, (orI v.val ((2 ^ f.val : Nat) : Int)).toNat < 32 ∧ ∀ j : Fin 5, (orI v.val ((2 ^ f.val : Nat) : Int)).toNat.testBit j.val = (v.val.testBit j.val || decide (j.val = f.val)) := by decide +kernel
theorem pow_cast (f : Nat) : (2 : Int) ^ f = ((2 ^ f : Nat) : Int) := by
  induction f with
  | zero => rfl
  | succ f ih => rw [Int.pow_succ, ih, Nat.pow_succ]; omega
theorem NI.cast {n' : Nd} (h : NI H i n l) (e : n = n') : NI H i n' l := e ▸ h
theorem wait_eq (n : Nd) (w : Int) : lastF { n with wait := w } = lastF n ∧ Go.Proofs.Ytppaabahbjgihaa.termF { n with wait := w } (lastF n) = Go.Proofs.Ytppaabahbjgihaa.termF n (lastF n) := ⟨rfl, rfl⟩
theorem stand_all (F : Facts H) (h : NI H i n l) (hi : i < 5) (ht : n.term < 1073741824) : Goes 1 i H (standF n).1 (standF n).2 := by
  obtain ⟨H1, h1, h2, h3, h4, h5⟩ := stand_go F h hi ht
  have hidn : n.id.toNat = i := by rw [h.id]; rfl
  unfold standF
  split
  · rename_i hm
    rw [hidn, pow_cast] at hm
    have hlt : 2 ^ i < 32 := by
      have : 2 ^ i < 2 ^ 5 := Nat.pow_lt_pow_right (by decide) hi
      simpa using this
    obtain ⟨H2, l', g1, g2, g3, g4⟩ := begin_go h2 h3 hi rfl ⟨2 ^ i, hlt, hm, h5⟩
    exact ⟨H2, l', by simpa using h1.trans g1, g2, g3, owes_mi g2 g3 g4 hi⟩
  · refine ⟨H1, l, h1.le (by decide), h2, h3, fun x hx => ?_⟩
    obtain ⟨to, hto, rfl⟩ := toAll_mem (n := standN n) (F := fun to => sendF (standN n) to (askM (lastF n) (termF n (lastF n)))) (k := 5) hx
    exact h4 to hto
theorem tick_all (F : Facts H) (h : NI H i n l) (hi : i < 5) : Goes 1 i H (tickF n).1 (tickF n).2 := by
  unfold tickF
  split
  · rename_i hr
    exact ⟨H, l, (Does.refl i H).le (by decide), F, h, owes_mi F h (h.lead hr) hi⟩
  · split
    · exact ⟨H, l, (Does.refl i H).le (by decide), F, h, fun x hx => by cases hx⟩
    · split
      · rename_i hc
        exact stand_all F (h.still (w := n.wait + 1)) hi hc.2
      · exact ⟨H, l, (Does.refl i H).le (by decide), F, h.still (w := n.wait + 1), fun x hx => by cases hx⟩
theorem voted_all (F : Facts H) (h : NI H i n l) (hi : i < 5) {m : Ms} (M : MI H m) (hk : m.kind = 2) (hto : m.to = n.id) : Goes 1 i H (votedF n m).1 (votedF n m).2 := by
  unfold votedF
  split
  · exact ⟨H, l, (Does.refl i H).le (by decide), F, h, fun x hx => by cases hx⟩
  · rename_i hc
    have hT : m.term = n.term := Classical.byContradiction fun h1 => hc (.inl (.inl h1))
    have hr : n.role = 1 := Classical.byContradiction fun h1 => hc (.inl (.inr h1))
    have hy : m.yes = true := Classical.byContradiction fun h1 => hc (.inr h1)
    obtain ⟨f, hf, hmf⟩ := M.frm
    have hv := M.k2 hk hy f i hmf (by rw [hto, h.id])
    rw [hT] at hv
    have hft : m.frm.toNat = f := by rw [hmf]; rfl
    have hv0 := h.votes0
    have hv1 := h.votes1
    obtain ⟨v, hvv⟩ : ∃ v : Nat, n.votes = v := ⟨n.votes.toNat, by omega⟩
    have hob := or_bit ⟨v, by omega⟩ ⟨f, hf⟩
    simp only at hob
    obtain ⟨hcl, hcn, hci, hcb⟩ := h.cand hr
    have hor : orI n.votes (2 ^ m.frm.toNat) = ((orI v ((2 ^ f : Nat) : Int)).toNat : Int) := by
      rw [hft, pow_cast, hvv]
      have : 0 ≤ orI v ((2 ^ f : Nat) : Int) := by unfold orI; omega
      omega
    have hvs : ∀ j, j < 5 → (orI v ((2 ^ f : Nat) : Int)).toNat.testBit j = true → H.vote n.term j i := fun j hj hb => by
      rw [hob.2 ⟨j, hj⟩, Bool.or_eq_true] at hb
      rcases hb with hb | hb
      · exact hcb j hj (by rw [hvv, Int.toNat_natCast]; exact hb)
      · have hjf : j = f := of_decide_eq_true hb
        rw [hjf]; exact hv
    have hN : NI H i (countN n m) l := by
      refine ⟨h.id, h.t0, h.t1, h.base, h.com, h.cons, h.terms, h.votel, h.vote, h.stood, ?_, ?_, h.sz, fun hr' => ⟨hcl, hcn, hci, fun j hj hb => ?_⟩, fun hr' => ?_, h.acks⟩
      · simp only [countN, hor]; omega
      · simp only [countN, hor]; have := hob.1; omega
      · simp only [countN, hor, Int.toNat_natCast] at hb
        exact hvs j hj hb
      · simp only [countN] at hr'; omega
    split
    · rename_i hm
      rw [hor] at hm
      obtain ⟨H2, l', g1, g2, g3, g4⟩ := begin_go F hN hi hr ⟨_, hob.1, hm, hvs⟩
      exact ⟨H2, l', g1, g2, g3, owes_mi g2 g3 g4 hi⟩
    · exact ⟨H, l, (Does.refl i H).le (by decide), F, hN, fun x hx => by cases hx⟩
theorem take_all (F : Facts H) (h : NI H i n l) (hi : i < 5) {m : Ms} (M : MI H m) : Goes 1 i H (takeF n m).1 (takeF n m).2 := by
  unfold takeF
  split
  · exact ⟨H, l, (Does.refl i H).le (by decide), F, h, fun x hx => by cases hx⟩
  rename_i hb
  have hto : m.to = n.id := Classical.byContradiction fun h1 => hb (.inl (.inr h1))
  have hfi : m.frm ≠ n.id := fun h1 => hb (.inl (.inl (.inr h1)))
  have hk5 : ¬ (m.kind < 1 ∨ 5 < m.kind) := fun h1 => hb (.inr (.inl (.inl h1)))
  have ht : ¬ 1073741824 < m.term := fun h1 => hb (.inr (.inr h1))
  have hu : NI H i (upN n m) l := h.up (by omega)
  have huid : (upN n m).id = n.id := by rw [hu.id, h.id]
  have htm : m.term ≤ (upN n m).term := by rw [up_term]; omega
  unfold actF
  split
  · rename_i hk
    obtain ⟨H', h1, h2, h3, h4⟩ := vote_go F hu hi M hk (by rw [huid]; exact hfi)
    exact ⟨H', l, h1.le (by decide), h2, h3, fun x hx => by rw [List.mem_singleton.1 hx]; exact h4⟩
  split
  · rename_i hk
    exact voted_all F hu hi M hk (by rw [huid]; exact hto)
  split
  · rename_i hk
    obtain ⟨H', l', h1, h2, h3, h4⟩ := add_go F hu hi M hk htm
    exact ⟨H', l', h1.le (by decide), h2, h3, h4⟩
  split
  · rename_i hk
    obtain ⟨H', h1, h2, h3, h4⟩ := heard_go F hu hi M hk
    exact ⟨H', l, h1.le (by decide), h2, h3, h4⟩
  · obtain ⟨H', l', h1, h2, h3, h4⟩ := snap_go F hu hi M (by omega) htm
    exact ⟨H', l', h1.le (by decide), h2, h3, h4⟩
theorem prop_all (F : Facts H) (h : NI H i n l) (hi : i < 5) (cmd : List UInt8) : Goes 1 i H (propF n cmd).1 [] := by
  unfold propF
  split
  · exact ⟨H, l, (Does.refl i H).le (by decide), F, h, fun x hx => by cases hx⟩
  rename_i hr
  split
  · exact ⟨H, l, (Does.refl i H).le (by decide), F, h, fun x hx => by cases hx⟩
  · obtain ⟨H', l', h1, h2, h3, h4⟩ := put_go F h (h.lead (Classical.not_not.1 hr)) hi ⟨0, 0, cmd⟩ (by simp) (by simp) (by simp)
    exact ⟨H', l', h1, h2, h3, fun x hx => by cases hx⟩
theorem near_of : ∀ c d : Fin 32, ones (xorI d.val c.val) = 1 → ∃ i : Fin 5, d.val = c.val ^^^ 2 ^ i.val := by decide +kernel
theorem change_all (F : Facts H) (h : NI H i n l) (hi : i < 5) (conf : Int) : Goes 1 i H (changeF n conf).1 [] := by
  unfold changeF
  split
  · exact ⟨H, l, (Does.refl i H).le (by decide), F, h, fun x hx => by cases hx⟩
  rename_i hr
  split
  · exact ⟨H, l, (Does.refl i H).le (by decide), F, h, fun x hx => by cases hx⟩
  rename_i hc
  split
  · exact ⟨H, l, (Does.refl i H).le (by decide), F, h, fun x hx => by cases hx⟩
  rename_i he
  have L := h.lead (Classical.not_not.1 hr)
  have hcb : 1 ≤ conf ∧ conf ≤ 31 := by omega
  have hone : ones (xorI conf (confF n).2) = 1 := Classical.byContradiction fun h1 => hc (.inr h1)
  have hat : (confF n).1 ≤ n.commit := by
    have := fun h1 => he (.inl h1)
    omega
  have htm : Go.Proofs.Ytppaabahbjgihaa.termF n n.commit = n.term := Classical.byContradiction fun h1 => he (.inr h1)
  obtain ⟨c, hcc, hbc, hcl, hK⟩ := h.com
  have hcr := F.conf l h.cons
  rw [h.conf] at hone
  rw [hcc, h.termF hbc hcl] at htm
  have hp := F.pos _ L.led
  obtain ⟨H', l', h1, h2, h3, h4⟩ := put_go F h L hi ⟨0, conf, []⟩ (by simp only; omega) (by simp only; omega) (fun _ => by
    refine ⟨⟨hcr.1, hcr.2, by simp only; omega, by simp only; omega, .inr ?_⟩, ?_⟩
    · obtain ⟨x, hx⟩ : ∃ x : Nat, confL H.c0 l = x := ⟨(confL H.c0 l).toNat, by omega⟩
      obtain ⟨y, hy⟩ : ∃ y : Nat, conf = y := ⟨conf.toNat, by omega⟩
      rw [hx, hy] at hone
      obtain ⟨q, hq⟩ := near_of ⟨x, by omega⟩ ⟨y, by omega⟩ hone
      refine ⟨q.val, q.isLt, ?_⟩
      rw [hx, hy]
      exact hq
    · rcases hK with hK | ⟨S, k, n', g1, g2, g3, g4⟩
      · rw [hK] at htm
        have : (0 : Int) = n.term := htm
        omega
      · have hc0 : 0 < c := Nat.pos_of_ne_zero fun h0 => by
          rw [h0] at htm
          have : (0 : Int) = n.term := htm
          omega
        have g5 := F.com _ _ _ g1
        have hSl : ∃ e, (H.LL S)[c - 1]? = some e := ⟨(H.LL S)[c - 1]'(by have := g4.1; omega), List.getElem?_eq_getElem _⟩
        obtain ⟨e, he⟩ := hSl
        have het : e.term = n.term := by
          rw [← g4.tAt] at htm
          obtain ⟨c', rfl⟩ : ∃ c', c = c' + 1 := ⟨c - 1, by omega⟩
          simp only [Nat.add_sub_cancel] at he
          simp only [tAt, List.getD_eq_getElem?_getD, he, Option.getD_some] at htm
          exact htm
        have hS : S = n.term := by
          by_cases hlt : c - 1 < H.EL S
          · have := F.old S _ e g5.1 he hlt; omega
          · have := F.own S _ e g5.1 he (by omega); omega
        rw [hS] at g1 g5
        refine ⟨k, n', g1, by rw [L.log]; exact g5.2.2.2.1, fun j e' hj hcj => ?_⟩
        have := h.confAt hj hcj
        omega)
  exact ⟨H', l', h1, h2, h3, fun x hx => by cases hx⟩
theorem bcK_conf (n : Nd) : ∀ k, k ≤ n.log.length → bcK n k = confL n.baseConf (n.log.take k)
  | 0, _ => rfl
  | k + 1, hk => by
    have hk' : k < n.log.length := by omega
    rw [bcK, bcK_conf n k (by omega), List.take_succ_eq_append_getElem hk', confL_app]
    have : n.log.getD k default = n.log[k] := getD_of (List.getElem?_eq_getElem hk')
    rw [this]
    show _ = if n.log[k].conf = 0 then _ else n.log[k].conf
    by_cases h : n.log[k].conf = 0
    · rw [if_neg (fun h' => h' h), if_pos h]
    · rw [if_pos h, if_neg h]
theorem compact_all (F : Facts H) (h : NI H i n l) (index : Int) (snap : List UInt8) : Goes 1 i H (compactF n index snap).1 [] := by
  unfold compactF
  split
  · exact ⟨H, l, (Does.refl i H).le (by decide), F, h, fun x hx => by cases hx⟩
  rename_i hc
  obtain ⟨b, hb, hbl, hlog, hbt, hbc⟩ := h.base
  obtain ⟨c, hcc, hbc', hcl, hK⟩ := h.com
  obtain ⟨k, hk⟩ : ∃ k : Nat, index = k := ⟨index.toNat, by omega⟩
  refine ⟨H, l, (Does.refl i H).le (by decide), F, ?_, fun x hx => by cases hx⟩
  have hN := h.reb (x := k) (c := c) (s := snap) (by omega) hcl hK
  have hkb : (index - n.base).toNat = k - b := by omega
  have hlen : n.log.length = l.length - b := by rw [hlog, List.length_drop]
  refine hN.cast ?_
  unfold compactN
  have e1 : n.log.drop (index - n.base).toNat = l.drop k := by rw [hkb, hlog, List.drop_drop, show b + (k - b) = k by omega]
  have e2 : bcK n (index - n.base).toNat = confL H.c0 (l.take k) := by
    rw [hkb, bcK_conf n _ (by omega), hbc, ← confL_app, hlog]
    have hq : ∀ q, l.take b ++ (l.drop b).take q = l.take (b + q) := fun q => (List.take_add).symm
    rw [hq, show b + (k - b) = k by omega]
  have e3 : Go.Proofs.Ytppaabahbjgihaa.termF n index = tAt l k := by rw [hk, h.termF (by omega) (by omega)]
  rw [e1, e2, e3, hk, ← hcc]
theorem wake_all (F : Facts H) (h : NI H i n l) : Goes 1 i H (wakeF n) [] := ⟨H, l, (Does.refl i H).le (by decide), F, h.wake, fun x hx => by cases hx⟩
end Raft
end Go.Proofs.Ytppaabahbjgihaa
end
