/-
  Chapter 20 in plain words: a committee, what comes to it, and that it stays within bounds.
  group: a committee's memory; is, there, Keep, has, Under, sent.
  group: there, Keep, has, Under, sent.
-/
import Derived.Test.YtjbokbikkcfjjaaGreatAay
import Derived.Test.YtjbokbikkcfjjaaGreatAaw
import Derived.Test.YtjbokbikkcfjjaaGreatAax
import Derived.Test.YtjbokbikkcfjjaaGreatAan
section
set_option maxRecDepth 16000
namespace Go.Proofs.YtjbokbikkcfjjaaGreat
open Go.Cap
instance : Inhabited Dk := ⟨⟨0, 0, false, [], 0, [], 0⟩⟩
instance : Inhabited Kp := ⟨⟨0, default, default⟩⟩
structure Gp where
  conf : Int
  ks : List Kp
  aw : List Bool
  way : List Ms
def Gp.k (g : Gp) (i : Nat) : Kp := g.ks.getD i default
def isI (i : Int) : Prop := 0 ≤ i ∧ i < 5
instance (i : Int) : Decidable (isI i) := by unfold isI; infer_instance
def thereG (g : Gp) (i : Int) : Bool := decide (isI i) && (!(g.aw.getD i.toNat false) && !(g.k i.toNat).d.dead)
def didG (g : Gp) (i : Nat) (t : Nd) (l : List Ms) : Gp :=
  { g with ks := g.ks.set i (keepF (g.k i) t 0).1, way := g.way ++ (if (keepF (g.k i) t 0).2 = 0 then l else []) }
def tickG (g : Gp) (i : Int) : Gp := if thereG g i then didG g i.toNat (tickF (g.k i.toNat).N).1 (tickF (g.k i.toNat).N).2 else g
def takeG (g : Gp) (m : Ms) : Gp := if thereG g m.to then didG g m.to.toNat (takeF (g.k m.to.toNat).N m).1 (takeF (g.k m.to.toNat).N m).2 else g
def hasG (g : Gp) (k : Int) : Prop := 0 ≤ k ∧ k < g.way.length
instance (g : Gp) (k : Int) : Decidable (hasG g k) := by unfold hasG; infer_instance
def awayG (g : Gp) (i : Int) (b : Bool) : Gp := if isI i then { g with aw := g.aw.set i.toNat b } else g
def ticksG (g : Gp) (k : Nat) : Gp := (List.range k).foldl (fun g (i : Nat) => tickG g (i : Int)) g
def roundG (g : Gp) : Gp := ticksG (g.way.foldl takeG { g with way := [] }) 5
def calmG (g : Gp) : Nat → Gp
  | 0 => g
  | n + 1 => roundG (calmG g n)
def putG (g : Gp) (i : Nat) (t : Nd) (e : Int) : Gp := { g with ks := g.ks.set i (keepF (g.k i) t e).1 }
def askedF (g : Gp) (i : Int) : Int := if ¬ isI i then 2 else if ¬ thereG g i = true then 22 else 0
structure KI (K : Kp) : Prop where
  d : DkR K.d
  n0 : 0 ≤ K.n
  n1 : K.n ≤ 16
theorem jadd_nn {n : Int} (d : Dk) (x : List UInt8) (h0 : 0 ≤ n) (h1 : n < 16) : 0 ≤ (jaddF n d x).1 ∧ (jaddF n d x).1 ≤ 16 := by
  rcases jadd_n n d x with h | h <;> omega
theorem jsnap_nn (n : Int) (d : Dk) (x : List UInt8) (h : (jsnapF n d x).2.2 = 0) : (jsnapF n d x).1 = 0 := by
  unfold jsnapF at h ⊢
  simp only at h ⊢
  split
  · rfl
  · rename_i hc
    rw [if_neg hc] at h
    exact absurd h hc
theorem write_ki {K : Kp} (h : KI K) (x : List UInt8) : KI (writeF K x).1 ∧ (writeF K x).1.N = K.N := by
  have h0 := h.n0
  have h1 := h.n1
  obtain ⟨⟨na, da, ea⟩, hwa⟩ : ∃ a, wr1F K x = a := ⟨_, rfl⟩
  have hda : DkR da ∧ 0 ≤ na ∧ na ≤ 16 := by
    have : DkR (wr1F K x).2.1 ∧ 0 ≤ (wr1F K x).1 ∧ (wr1F K x).1 ≤ 16 := by
      unfold wr1F; split
      · rename_i hlt
        exact ⟨h.d.jadd x, jadd_nn _ _ h0 hlt⟩
      · exact ⟨h.d, h0, h1⟩
    rw [hwa] at this; exact this
  unfold writeF
  rw [hwa]
  simp only
  split
  · exact ⟨⟨hda.1, hda.2.1, hda.2.2⟩, rfl⟩
  · have hs := hda.1.jsnap (n := na) (recB K.N 0)
    split
    · rcases jsnap_n na da (recB K.N 0) with e | e
      · exact ⟨⟨hs, by simp only [e]; exact hda.2.1, by simp only [e]; exact hda.2.2⟩, rfl⟩
      · exact ⟨⟨hs, by simp only [e]; omega, by simp only [e]; omega⟩, rfl⟩
    · rename_i hz
      have hz' := jsnap_nn na da (recB K.N 0) (Classical.not_not.1 hz)
      have := jadd_nn (n := (jsnapF na da (recB K.N 0)).1) (jsnapF na da (recB K.N 0)).2.1 x (by omega) (by omega)
      exact ⟨⟨hs.jadd x, this.1, this.2⟩, rfl⟩
theorem keep_ki {K : Kp} (h : KI K) (t : Nd) (e : Int) : KI (keepF K t e).1 ∧ (keepF K t e).1.N = if (keepF K t e).2 = 0 then t else K.N := by
  unfold keepF
  split
  · rename_i he
    exact ⟨h, rfl⟩
  · split
    · exact ⟨⟨h.d, h.n0, h.n1⟩, rfl⟩
    · obtain ⟨h1, h2⟩ := write_ki h (recB t (alikeF K.N t))
      simp only
      split
      · exact ⟨⟨h1.d, h1.n0, h1.n1⟩, rfl⟩
      · exact ⟨h1, h2⟩
structure PK (P : Nat → En → Prop) : Prop extends PO P where
  sz : ∀ i e, P i e → w64 e.term ∧ w64 e.conf ∧ e.cmd.length ≤ 60000
  rec_ : ∀ l : List En, l.length ≤ 5000 → (∀ i e, l[i]? = some e → P i e) → (l.flatMap entB).length ≤ 524000
section
variable {P : Nat → En → Prop} {n : Nd} {τ l : Nat}
theorem NB.sz (hP : PK P) (h : NB P n τ l) (ht : τ ≤ 100000) (hl : l ≤ 5000) : Sz n := by
  have hb := h.base
  have hbt := h.baseTerm
  have h1 := h.term0
  have h2 := h.term1
  have h3 := h.vote0
  have h4 := h.vote1
  have h5 := h.conf0
  have h6 := h.conf1
  have h7 := h.com0
  have h8 := h.com1
  have h9 := h.len
  refine ⟨⟨by omega, by omega⟩, ⟨by omega, by omega⟩, ⟨by omega, by omega⟩, ⟨by omega, by omega⟩, ⟨by omega, by omega⟩, ⟨by omega, by omega⟩, by rw [h.snap]; simp, by omega, fun e he => ?_⟩
  obtain ⟨i, hi⟩ := List.mem_iff_getElem?.1 he
  exact hP.sz i e (h.ents i e hi)
theorem NB.rec_ (hP : PK P) (h : NB P n τ l) (hl : l ≤ 5000) : (recB n 0).length ≤ 524100 := by
  have h1 := intsB_len (headB n 0)
  have h2 : (headB n 0).length = 8 := rfl
  have h3 := hP.rec_ n.log (by have := h.len; omega) h.ents
  have h5 : (txtB n.snap).length ≤ 10 := by rw [h.snap, txtB, if_pos rfl]; exact (intB_len 0).2
  unfold recB
  simp only [List.length_append, List.drop_zero]
  omega
end
structure GB (P : Nat → En → Prop) (g : Gp) (τ l u : Nat) : Prop where
  ks : g.ks.length = 5
  aw : g.aw.length = 5
  ki : ∀ i, i < 5 → KI (g.k i)
  id : ∀ i : Nat, i < 5 → (g.k i).N.id = i
  nb : ∀ i, i < 5 → NB P (g.k i).N τ l
  way : ∀ m ∈ g.way, MB P m τ l
  many : g.way.length ≤ 5 * (u + l)
  fuel : 5 * l + (g.ks.map fun K => pot K.N).sum ≤ u
  tau : τ ≤ u
theorem set_sum {α : Type} (f : α → Nat) : ∀ (l : List α) (i : Nat) (x : α) (h : i < l.length), (List.map f (l.set i x)).sum + f (l[i]) = (l.map f).sum + f x
  | [], i, x, h => by simp at h
  | a :: l, 0, x, h => by simp; omega
  | a :: l, i + 1, x, h => by
    have := set_sum f l i x (by simpa using h)
    simp only [List.set_cons_succ, List.map_cons, List.sum_cons, List.getElem_cons_succ]
    omega
section
variable {P : Nat → En → Prop} {g : Gp} {τ l u : Nat}
theorem Gp.k_set {g : Gp} {i j : Nat} {K : Kp} {w : List Ms} (hj : j < g.ks.length) : Gp.k { g with ks := g.ks.set i K, way := w } j = if i = j then K else g.k j := by
  unfold Gp.k
  simp only [List.getD_eq_getElem?_getD, List.getElem?_set]
  by_cases h : i = j
  · subst h; simp [hj]
  · simp [h]
theorem GB.did (h : GB P g τ l u) {i : Nat} (hi : i < 5) {K' : Kp} {out : List Ms} {τ' c : Nat} (hK : KI K') (hid : K'.N.id = i) (hτ : τ ≤ τ') (hc : τ' ≤ τ + c)
    {b : Nat} (hw : Went P (g.k i).N K'.N out τ' l c b) (hb : g.way.length + b ≤ 5 * (u + l) + 5 * c) : ∃ l', GB P { g with ks := g.ks.set i K', way := g.way ++ out } τ' l' (u + c) ∧ l ≤ l' ∧ out.length + 5 * l ≤ 5 * l' + b := by
  obtain ⟨d, h1, h2, h3, h4⟩ := hw
  have hil : i < g.ks.length := by rw [h.ks]; exact hi
  refine ⟨l + d, ⟨by simp [h.ks], h.aw, fun j hj => ?_, fun j hj => ?_, fun j hj => ?_, fun m hm => ?_, by simp only [List.length_append]; omega, ?_, by have := h.tau; omega⟩, by omega, by omega⟩
  · rw [Gp.k_set (by rw [h.ks]; exact hj)]; split
    · exact hK
    · exact h.ki j hj
  · rw [Gp.k_set (by rw [h.ks]; exact hj)]; split
    · rename_i e; rw [hid, e]
    · exact h.id j hj
  · rw [Gp.k_set (by rw [h.ks]; exact hj)]; split
    · exact h1
    · exact (h.nb j hj).le hτ (by omega)
  · rcases List.mem_append.1 hm with hm | hm
    · exact (h.way m hm).le hτ (by omega)
    · exact h3 m hm
  · have := set_sum (fun K => pot K.N) g.ks i K' hil
    have hk : g.ks[i] = g.k i := by unfold Gp.k; rw [List.getD_eq_getElem?_getD, List.getElem?_eq_getElem hil, Option.getD_some]
    rw [hk] at this
    have hf := h.fuel
    simp only at this ⊢
    omega
theorem GB.didG (h : GB P g τ l u) {i : Nat} (hi : i < 5) {t : Nd} {out : List Ms} {τ' c : Nat} (hid : t.id = i) (hτ : τ ≤ τ') (hc : τ' ≤ τ + c)
    {b : Nat} (hw : Went P (g.k i).N t out τ' l c b) (hb : g.way.length + b ≤ 5 * (u + l) + 5 * c) : ∃ l', GB P (didG g i t out) τ' l' (u + c) ∧ l ≤ l' ∧ (didG g i t out).way.length + 5 * l ≤ g.way.length + 5 * l' + b := by
  obtain ⟨h1, h2⟩ := keep_ki (h.ki i hi) t 0
  unfold Go.Proofs.YtjbokbikkcfjjaaGreat.didG
  by_cases he : (keepF (g.k i) t 0).2 = 0
  · rw [if_pos he] at h2 ⊢
    obtain ⟨l', a1, a2, a3⟩ := h.did hi h1 (by rw [h2]; exact hid) hτ hc (by rw [h2]; exact hw) hb
    exact ⟨l', a1, a2, by simp only [List.length_append]; omega⟩
  · rw [if_neg he] at h2 ⊢
    obtain ⟨l', a1, a2, a3⟩ := h.did (out := []) (b := b) hi h1 (by rw [h2]; exact h.id i hi) hτ hc (by rw [h2]; exact ⟨0, (h.nb i hi).le hτ (Nat.le_refl _), by omega, by simp, by simp⟩) hb
    exact ⟨l', a1, a2, by simp only [List.append_nil]; omega⟩
theorem isI_nat {i : Int} (h : isI i) : i.toNat < 5 ∧ ((i.toNat : Nat) : Int) = i := by unfold isI at h; omega
theorem thereG_is {i : Int} (h : thereG g i = true) : isI i := by
  unfold thereG at h
  simp only [Bool.and_eq_true, decide_eq_true_eq] at h
  exact h.1
theorem GB.tick (hP : PO P) (h : GB P g τ l u) (ht : τ + 1 ≤ 100000) (i : Int) : ∃ l', GB P (tickG g i) (τ + 1) l' (u + 1) ∧ l ≤ l' := by
  unfold tickG
  split
  · rename_i hth
    obtain ⟨h5, hc⟩ := isI_nat (thereG_is hth)
    obtain ⟨l', h1, h2, _⟩ := h.didG h5 ((tickF_id _).trans (h.id _ h5)) (by omega) (Nat.le_refl _) ((h.nb _ h5).tick hP ht) (by have := h.many; omega)
    exact ⟨l', h1, h2⟩
  · exact ⟨l, ⟨h.ks, h.aw, h.ki, h.id, fun i hi => (h.nb i hi).le (by omega) (Nat.le_refl _), fun m hm => (h.way m hm).le (by omega) (Nat.le_refl _), by have := h.many; omega, by have := h.fuel; omega, by have := h.tau; omega⟩, Nat.le_refl _⟩
theorem GB.take (hP : PO P) (h : GB P g τ l u) (ht : τ ≤ 100000) {m : Ms} (hm : MB P m τ l) (hb : g.way.length + 1 ≤ 5 * (u + l)) : ∃ l', GB P (takeG g m) τ l' u ∧ l ≤ l' ∧ (takeG g m).way.length + 5 * l ≤ g.way.length + 5 * l' + 1 := by
  unfold takeG
  split
  · rename_i hth
    obtain ⟨h5, hc⟩ := isI_nat (thereG_is hth)
    exact h.didG h5 ((takeF_id _ _).trans (h.id _ h5)) (Nat.le_refl _) (Nat.le_refl _) ((h.nb _ h5).take hP hm ht) (by omega)
  · exact ⟨l, h, Nat.le_refl _, by omega⟩
theorem GB.out (h : GB P g τ l u) {w : List Ms} (hw : ∀ m ∈ w, MB P m τ l) (hb : w.length ≤ 5 * (u + l)) : GB P { g with way := w } τ l u := { h with way := hw, many := hb }
theorem GB.takes (hP : PO P) (ht : τ ≤ 100000) : ∀ (ms : List Ms) {g : Gp} {l : Nat}, GB P g τ l u → (∀ m ∈ ms, MB P m τ l) → g.way.length + ms.length ≤ 5 * (u + l) → ∃ l', GB P (ms.foldl takeG g) τ l' u ∧ l ≤ l'
  | [], g, l, h, _, _ => ⟨l, h, Nat.le_refl _⟩
  | m :: ms, g, l, h, hm, hb => by
    rw [List.length_cons] at hb
    obtain ⟨l1, h1, h2, h3⟩ := h.take hP ht (hm m List.mem_cons_self) (by omega)
    obtain ⟨l2, h4, h5⟩ := GB.takes hP ht ms h1 (fun x hx => (hm x (List.mem_cons_of_mem _ hx)).le (Nat.le_refl _) h2) (by omega)
    exact ⟨l2, h4, by omega⟩
theorem ticks_succ (g : Gp) (k : Nat) : ticksG g (k + 1) = tickG (ticksG g k) (k : Int) := by
  unfold ticksG
  rw [List.range_succ, List.foldl_append]
  rfl
theorem GB.ticks (hP : PO P) (h : GB P g τ l u) : ∀ k : Nat, τ + k ≤ 100000 → ∃ l', GB P (ticksG g k) (τ + k) l' (u + k) ∧ l ≤ l'
  | 0, _ => ⟨l, h, Nat.le_refl _⟩
  | k + 1, ht => by
    obtain ⟨l1, h1, h2⟩ := GB.ticks hP h k (by omega)
    rw [ticks_succ]
    obtain ⟨l2, h3, h4⟩ := h1.tick hP (by omega) (k : Int)
    exact ⟨l2, h3, by omega⟩
theorem GB.round (hP : PO P) (h : GB P g τ l u) (ht : τ + 5 ≤ 100000) : ∃ l', GB P (roundG g) (τ + 5) l' (u + 5) ∧ l ≤ l' := by
  obtain ⟨l1, h1, h2⟩ := GB.takes hP (by omega) g.way (h.out (w := []) (by simp) (by simp)) h.way (by simpa using h.many)
  obtain ⟨l2, h3, h4⟩ := h1.ticks hP 5 ht
  exact ⟨l2, h3, by omega⟩
theorem GB.calm (hP : PO P) (h : GB P g τ l u) : ∀ k : Nat, τ + 5 * k ≤ 100000 → ∃ l', GB P (calmG g k) (τ + 5 * k) l' (u + 5 * k) ∧ l ≤ l'
  | 0, _ => ⟨l, h, Nat.le_refl _⟩
  | k + 1, ht => by
    obtain ⟨l1, h1, h2⟩ := GB.calm hP h k (by omega)
    obtain ⟨l2, h3, h4⟩ := h1.round hP (by omega)
    exact ⟨l2, h3, by omega⟩
theorem GB.le {u' : Nat} (h : GB P g τ l u) (hu : u ≤ u') : GB P g τ l u' := { h with fuel := Nat.le_trans h.fuel hu, tau := Nat.le_trans h.tau hu, many := by have := h.many; omega }
end
end Go.Proofs.YtjbokbikkcfjjaaGreat
end
section
set_option maxRecDepth 16000
namespace Go.Proofs.YtjbokbikkcfjjaaGreat
open Go.Cap
set_option linter.unusedSimpArgs false
set_option linter.unusedVariables false
attribute [local irreducible] POp SimFrom DrawFrom EOp Sim FnH T.gp
def tG : TypeId := 72
structure Ad where
  bd : Nat
  bk : Nat
  bj : Nat
def mH (a : Ad) (K : Kp) : Heap := KpH a.bk a.bj a.bd K
def gM (a : Nat → Ad) (k : Nat → Kp) : Heap := (List.range 5).flatMap fun j => mH (a j) (k j)
def gO (a : Nat → Ad) (k : Nat → Kp) (i : Nat) : Heap := ((List.range 5).filter (fun j => !Nat.beq j i)).flatMap fun j => mH (a j) (k j)
def upA {α : Type} (f : Nat → α) (i : Nat) (x : α) : Nat → α := fun j => if j = i then x else f j
theorem gM_at (a : Nat → Ad) (k : Nat → Kp) {i : Nat} (hi : i < 5) : (gM a k).Perm (mH (a i) (k i) ++ gO a k i) := by
  have h : ∀ i : Fin 5, (List.range 5).Perm (i.val :: (List.range 5).filter (fun j => !Nat.beq j i.val)) := by decide
  exact (h ⟨i, hi⟩).flatMap_right _
theorem gO_up (a a' : Nat → Ad) (k k' : Nat → Kp) (i : Nat) (h : ∀ j, j < 5 → ¬ j = i → a' j = a j ∧ k' j = k j) : gO a' k' i = gO a k i := by
  have h1 : ∀ l : List Nat, (∀ j ∈ l, a' j = a j ∧ k' j = k j) → (l.flatMap fun j => mH (a' j) (k' j)) = l.flatMap fun j => mH (a j) (k j) := by
    intro l
    induction l with
    | nil => intro _; rfl
    | cons j l ih =>
      intro hl
      rw [List.flatMap_cons, List.flatMap_cons, ih fun x hx => hl x (List.mem_cons_of_mem _ hx), (hl j List.mem_cons_self).1, (hl j List.mem_cons_self).2]
  refine h1 _ fun j hj => ?_
  obtain ⟨h2, h3⟩ := List.mem_filter.1 hj
  exact h j (List.mem_range.1 h2) (fun e => by subst e; simp at h3)
theorem gM_up (a a' : Nat → Ad) (k k' : Nat → Kp) {i : Nat} (hi : i < 5) (h : ∀ j, j < 5 → ¬ j = i → a' j = a j ∧ k' j = k j) : (mH (a' i) (k' i) ++ gO a k i).Perm (gM a' k') := by
  rw [← gO_up a a' k k' i h]
  exact (gM_at a' k' hi).symm
theorem gM_eq (a : Nat → Ad) (k k' : Nat → Kp) (h : ∀ j, j < 5 → k' j = k j) : gM a k' = gM a k := by
  have h0 : ∀ l : List Nat, (∀ j ∈ l, k' j = k j) → (l.flatMap fun j => mH (a j) (k' j)) = l.flatMap fun j => mH (a j) (k j) := by
    intro l
    induction l with
    | nil => intro _; rfl
    | cons j l ih => intro hl; rw [List.flatMap_cons, List.flatMap_cons, ih fun x hx => hl x (List.mem_cons_of_mem _ hx), hl j List.mem_cons_self]
  exact h0 _ fun j hj => h j (List.mem_range.1 hj)
def gC (conf : Int) (a : Nat → Ad) (bm : Nat) (wv : Value) : List T :=
  [ei conf, pW (a 0).bd, pW (a 0).bk, pW (a 1).bd, pW (a 1).bk, pW (a 2).bd, pW (a 2).bk, pW (a 3).bd, pW (a 3).bk, pW (a 4).bd, pW (a 4).bk, .v (.map (some bm)), .v wv]
theorem gC_d {conf : Int} {a : Nat → Ad} {bm : Nat} {wv : Value} {i : Int} (h : isI i) : (gC conf a bm wv)[0 + 1 + i.toNat * 2 + 0]? = some (pW (a i.toNat).bd) := by
  rcases five h.1 h.2 with rfl | rfl | rfl | rfl | rfl <;> rfl
theorem gC_k {conf : Int} {a : Nat → Ad} {bm : Nat} {wv : Value} {i : Int} (h : isI i) : (gC conf a bm wv)[0 + 1 + i.toNat * 2 + 1]? = some (pW (a i.toNat).bk) := by
  rcases five h.1 h.2 with rfl | rfl | rfl | rfl | rfl <;> rfl
theorem gC_m {conf : Int} {a : Nat → Ad} {bm : Nat} {wv : Value} {i : Int} (h : isI i) : TakeR (gC conf a bm wv) (0 + 1 + i.toNat * 2) 2 [pW (a i.toNat).bd, pW (a i.toNat).bk] := by
  rcases five h.1 h.2 with rfl | rfl | rfl | rfl | rfl <;> ((repeat (apply TakeR.skip)); (repeat (apply TakeR.cons)); exact TakeR.nil _)
def gH (bg : Nat) (conf : Int) (a : Nat → Ad) (bm : Nat) (es : List (Value × T × Nat)) (clk : Nat) (W : Heap) (wv : Value) (k : Nat → Kp) : Heap :=
  (bg, ⟨tG, gC conf a bm wv, 13⟩) :: (bm, ⟨.map es clk, [], 0⟩) :: (W ++ gM a k)
structure AwOk (aw : List Bool) (es : List (Value × T × Nat)) : Prop where
  keys : KeysOk (.int .i64) es
  get : ∀ i : Nat, i < 5 → (mget es (.int .i64 (i : Int))).getD (.v (.bool false)) = eB (aw.getD i false)
def IsG (bg : Nat) (g : Gp) (H : Heap) : Prop := ∃ a bm es clk W wv, AwOk g.aw es ∧ OM g.way wv W ∧ H = gH bg g.conf a bm es clk W wv g.k
theorem decB {b : Bool} : ∃ (p : Prop) (ip : Decidable p), b = @decide p ip := ⟨b = true, inferInstance, by cases b <;> rfl⟩
set_option maxHeartbeats 1000000 in
theorem gis_fn (bg : Nat) (g : Gp) (H : Heap) (i : Int) (hG : IsG bg g H) : FnH Tryz.prog 41 [pW bg, ei i] H (fun r H' => r = .v (.bool (decide (isI i))) ∧ H' = H) := by
  obtain ⟨a, bm, es, clk, W, wv, hA, hO, rfl⟩ := hG
  refine fn_enter Tryz.func41 (by rfl) (by rfl) ?_
  intro S0 w0
  show Sim _ _ [(0, pW bg), (1, ei i)] ((bg, ⟨tG, gC g.conf a bm wv, 13⟩) :: (bm, ⟨.map es clk, [], 0⟩) :: (W ++ gM a g.k)) _
  by_cases hi : isI i
  · have hm := gC_m (conf := g.conf) (a := a) (bm := bm) (wv := wv) hi
    have hp : 0 ≤ i ∧ i < 5 := hi
    refine zC ?_
    apply cr
    refine s_ p_as ?_
    refine zC ?_
    apply cr
    refine s_ p_mv ?_
    refine s_ p_ge ?_
    refine s_ p_mv ?_
    refine gT (fun hg => p_mv) ?_
    refine gT (fun hg => p_lt (hx := u_ hg)) ?_
    refine s_ p_an ?_
    refine s_ p_mv ?_
    refine gT (fun hg => p_mv) ?_
    refine gT (fun hg => p_mv) ?_
    refine gT (fun hg => p_nc (hx := u_ hg)) ?_
    refine gT (fun hg => p_fr (hx := u_ hg)) ?_
    refine gT (fun hg => p_ar (hx := u_ hg) (hy := u_ hg)) ?_
    refine gT (fun hg => p_loa (hx := u_ hg) (hc := by first | assumption | ((repeat (apply TakeR.skip)); (repeat (apply TakeR.cons)); exact TakeR.nil _))) ?_
    refine gT (fun hg => p_bd 2 [_, _]) ?_
    refine gT (fun hg => p_neP Tryz.eqGuardType68 (hx := u_ hg) (hy := u_ hg)) ?_
    refine s_ p_an ?_
    refine s_ p_as ?_
    refine zC ?_
    refine zR ?_
    refine rh kR ⟨rfl, rfl⟩ ?_
    exact Le.of_eq (by show T.v (.bool (decide _)) = _; simp [hi, hp.1, hp.2])
  · have hno : ¬ (0 ≤ i ∧ i < 5) := hi
    refine zC ?_
    apply cr
    refine s_ p_as ?_
    refine zC ?_
    apply cr
    refine s_ p_mv ?_
    refine s_ p_ge ?_
    refine s_ p_mv ?_
    refine gT (fun hg => p_mv) ?_
    refine gT (fun hg => p_lt (hx := u_ hg)) ?_
    refine s_ p_an ?_
    refine s_ p_mv ?_
    (repeat (refine gT (p := 0 ≤ i ∧ i < 5) (d := .v (.bool (decide False))) (fun hg => absurd hg hno) ?_))
    refine s_ p_an ?_
    refine s_ p_as ?_
    refine zC ?_
    refine zR ?_
    refine rh kR ⟨rfl, rfl⟩ ?_
    exact Le.of_eq (by show T.v (.bool (decide _)) = _; simp [hi])
end Go.Proofs.YtjbokbikkcfjjaaGreat
end
section
set_option maxRecDepth 16000
namespace Go.Proofs.YtjbokbikkcfjjaaGreat
open Go.Cap
set_option linter.unusedSimpArgs false
set_option linter.unusedVariables false
attribute [local irreducible] POp SimFrom DrawFrom EOp Sim FnH T.gp
theorem perm3 {x y : Nat × Blk} {W M A B : Heap} (h : M.Perm (A ++ B)) : (x :: y :: (W ++ M)).Perm (A ++ (x :: y :: (W ++ B))) := by
  have h1 : (W ++ M).Perm (A ++ (W ++ B)) := (h.append_left W).trans (by rw [← List.append_assoc, ← List.append_assoc]; exact List.perm_append_comm.append_right B)
  have h2 : (x :: y :: (W ++ M)).Perm (x :: y :: (A ++ (W ++ B))) := (h1.cons y).cons x
  exact h2.trans (((List.perm_middle (a := y) (l₁ := A) (l₂ := W ++ B)).symm.cons x).trans (List.perm_middle (a := x) (l₁ := A) (l₂ := y :: (W ++ B))).symm)
def kB (a : Ad) (K : Kp) : Heap := [(a.bk, ⟨tK, pW a.bj :: nodeC K.N (.sl false (K.N.log.map een)), 23⟩), (a.bj, ⟨tJ, [pW a.bd, ei K.n], 2⟩)]
theorem mH_disk (a : Ad) (K : Kp) (B : Heap) : (mH a K ++ B).Perm (DkH a.bd K.d ++ (kB a K ++ B)) := by
  show (kB a K ++ (DkH a.bd K.d ++ B)).Perm _
  rw [← List.append_assoc, ← List.append_assoc]
  exact List.perm_append_comm.append_right B
theorem gM_disk (a : Nat → Ad) (k : Nat → Kp) {i : Nat} (hi : i < 5) : (gM a k).Perm (DkH (a i).bd (k i).d ++ (kB (a i) (k i) ++ gO a k i)) := (gM_at a k hi).trans (mH_disk _ _ _)
theorem IsG.nat {i : Int} (h : isI i) : (((i.toNat : Nat) : Int)) = i := by have := h.1; omega
set_option maxHeartbeats 2000000 in
theorem gthere_fn (bg : Nat) (g : Gp) (H : Heap) (i : Int) (hG : IsG bg g H) : FnH Tryz.prog 46 [pW bg, ei i] H (fun r H' => r = eB (thereG g i) ∧ H' = H) := by
  have hI := gis_fn bg g H i hG
  obtain ⟨a, bm, es, clk, W, wv, hA, hO, rfl⟩ := hG
  refine fn_enter Tryz.func46 (by rfl) (by rfl) ?_
  intro S0 w0
  show Sim _ _ [(0, pW bg), (1, ei i)] ((bg, ⟨tG, gC g.conf a bm wv, 13⟩) :: (bm, ⟨.map es clk, [], 0⟩) :: (W ++ gM a g.k)) _
  have hkeys := hA.keys
  refine zC ?_
  apply cr
  refine s_ p_as ?_
  refine zC ?_
  apply cr
  refine s_ p_mv ?_
  refine s_ p_mv ?_
  refine e_cHA hI (fun r H' ⟨hr1, hr2⟩ => ?_)
  subst hr1 hr2
  by_cases hi : isI i
  · have hl := hA.get i.toNat (isI_nat hi).1
    rw [IsG.nat hi] at hl
    obtain ⟨q, iq, hq⟩ := decB (b := g.aw.getD i.toNat false)
    rw [hq] at hl
    refine s_ p_mv ?_
    refine gT (fun hg => p_mv) ?_
    refine gT (fun hg => p_nc (hx := u_ hg)) ?_
    refine gT (fun hg => p_fr (hx := u_ hg)) ?_
    refine gT (fun hg => p_lo (hx := u_ hg)) ?_
    refine gT (fun hg => p_mv) ?_
    refine gT (d := .v (.bool (decide q))) (fun hg => by show POp _ _ _ _ (eB (decide q)); rw [← hl]; exact p_lk hkeys (hx := u_ hg) (hy := u_ hg)) ?_
    refine gT (fun hg => p_no (hx := u_ hg)) ?_
    refine s_ p_an ?_
    refine s_ p_mv ?_
    by_cases hq' : q
    · have hno : ¬ (isI i ∧ ¬ q) := fun h => h.2 hq'
      (repeat (refine gT (p := isI i ∧ ¬ q) (d := .v (.bool (decide False))) (fun hg => absurd hg hno) ?_))
      refine s_ p_an ?_
      refine s_ p_as ?_
      refine zC ?_
      refine zR ?_
      refine rh kR ⟨rfl, rfl⟩ ?_
      exact Le.of_eq (by show T.v (.bool (decide _)) = T.v (.bool (thereG g i)); unfold thereG; rw [hq]; simp [hq'])
    · have hyes : isI i ∧ ¬ q := ⟨hi, hq'⟩
      have hd := dead_fn (a i.toNat).bd (g.k i.toNat).d
      have hcd := gC_d (conf := g.conf) (a := a) (bm := bm) (wv := wv) hi
      have hp : 0 ≤ i ∧ i < 5 := hi
      have hperm := perm3 (x := (bg, ⟨tG, gC g.conf a bm wv, 13⟩)) (y := (bm, ⟨.map es clk, [], 0⟩)) (W := W) (gM_disk a g.k (isI_nat hi).1)
      refine gT (fun hg => p_mv) ?_
      refine gT (fun hg => p_mv) ?_
      refine gT (fun hg => p_nc (hx := u_ hg)) ?_
      refine gT (fun hg => p_fr (hx := u_ hg)) ?_
      refine gT (fun hg => p_ar (hx := u_ hg) (hy := u_ hg)) ?_
      refine gT (fun hg => p_fr (hx := u_ hg)) ?_
      refine gT (fun hg => p_lo (hx := u_ hg) (hd := by first | rfl | assumption)) ?_
      refine gT (fun hg => p_nc (hx := u_ hg)) ?_
      (first | refine gT (fun hg => p_faA (hx := u_ hg)) ?_ | refine gT (fun hg => p_fr (hx := u_ hg)) ?_)
      refine gT_cH (p := isI i ∧ ¬ q) hyes hd hperm (fun r H' ⟨hr1, hr2⟩ => ?_) (ha' := evl_cons (u_ hyes) evl_nil)
      subst hr1 hr2
      obtain ⟨q2, iq2, hq2⟩ := decB (b := (g.k i.toNat).d.dead)
      rw [hq2]
      refine gT (p := isI i ∧ ¬ q) (fun hg => p_no (p := q2)) ?_
      refine s_ p_an ?_
      refine s_ p_as ?_
      refine zC ?_
      refine zR ?_
      refine rhp hperm.symm kR ⟨rfl, rfl⟩ ?_
      exact Le.of_eq (by show T.v (.bool (decide _)) = T.v (.bool (thereG g i)); unfold thereG; rw [hq, hq2]; simp [hi, hq'])
  · refine s_ p_mv ?_
    (repeat (refine gT (p := isI i) (d := .v (.bool (decide False))) (fun hg => absurd hg hi) ?_))
    refine s_ p_an ?_
    refine s_ p_mv ?_
    have hno : ¬ (isI i ∧ False) := fun h => h.2
    (repeat (refine gT (p := isI i ∧ False) (d := .v (.bool (decide False))) (fun hg => absurd hg hno) ?_))
    refine s_ p_an ?_
    refine s_ p_as ?_
    refine zC ?_
    refine zR ?_
    refine rh kR ⟨rfl, rfl⟩ ?_
    exact Le.of_eq (by show T.v (.bool (decide _)) = T.v (.bool (thereG g i)); unfold thereG; simp [hi])
theorem gunder_fn (bg : Nat) (g : Gp) (H : Heap) (hG : IsG bg g H) : FnH Tryz.prog 12 [pW bg] H (fun r H' => r = ei g.way.length ∧ H' = H) := by
  obtain ⟨a, bm, es, clk, W, wv, hA, hO, rfl⟩ := hG
  obtain ⟨p, c, rfl⟩ := hO.len
  refine fn_enter Tryz.func12 (by rfl) (by rfl) ?_
  intro S0 w0
  show Sim _ _ [(0, pW bg)] ((bg, ⟨tG, gC g.conf a bm _, 13⟩) :: (bm, ⟨.map es clk, [], 0⟩) :: (W ++ gM a g.k)) _
  refine zC ?_
  apply cr
  refine s_ p_as ?_
  refine zC ?_
  apply cr
  refine s_ p_mv ?_
  refine s_ p_nc ?_
  refine s_ p_fr ?_
  refine s_ p_lo ?_
  (first | refine s_ p_ln ?_ | refine s_ p_lr ?_)
  refine s_ p_as ?_
  refine zC ?_
  refine zR ?_
  refine rh kR ⟨rfl, rfl⟩ ?_
  exact Le.of_eq (by show ei ((g.way.map ms).length : Nat) = _; rw [List.length_map])
set_option maxHeartbeats 1000000 in
theorem gsent_fn (bg : Nat) (g : Gp) (H : Heap) (e : Int) (l : List Ms) (hl : g.way.length + l.length ≤ 1000000) (hG : IsG bg g H) : FnH Tryz.prog 48 [pW bg, ei e, mss l] H (fun r H' => r = .tup [] ∧ IsG bg { g with way := g.way ++ (if e = 0 then l else []) } H') := by
  obtain ⟨a, bm, es, clk, W, wv, hA, hO, rfl⟩ := hG
  obtain ⟨p, c, rfl⟩ := hO.len
  refine fn_enter Tryz.func48 (by rfl) (by rfl) ?_
  intro S0 w0
  show Sim _ _ [(0, pW bg), (1, ei e), (2, mss l)] ((bg, ⟨tG, gC g.conf a bm _, 13⟩) :: (bm, ⟨.map es clk, [], 0⟩) :: (W ++ gM a g.k)) _
  refine zC ?_
  apply cr
  refine s_ p_mv ?_
  refine s_ p_eq ?_
  refine zC ?_
  refine ci ?_ ?_
  · intro he
    have he' : e = 0 := he
    rw [if_pos he']
    refine zC ?_
    apply cr
    refine s_ p_mv ?_
    refine s_ p_mv ?_
    refine s_ p_nc ?_
    refine s_ p_fr ?_
    refine s_ p_lo ?_
    refine s_ p_mv ?_
    refine e_osA (ho := hO) (A := [_, _]) (B := gM a g.k) (ms11 _) (fun v' Hs' ho' => ?_)
    obtain ⟨q, d, rfl⟩ := ho'.len
    refine s_ p_nc ?_
    refine s_ p_fr ?_
    refine e_st ?_
    refine zC ?_
    refine rhn kR ⟨rfl, a, bm, es, clk, Hs', _, hA, (by unfold OM; rw [List.map_append]; exact ho'), rfl⟩ (Le.refl _)
  · intro he
    have he' : ¬ e = 0 := he
    rw [if_neg he']
    refine zC ?_
    refine rhn kR ⟨rfl, a, bm, es, clk, W, _, hA, (by rw [List.append_nil]; exact hO), rfl⟩ (Le.refl _)
end Go.Proofs.YtjbokbikkcfjjaaGreat
end
