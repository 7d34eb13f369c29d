/-
  Chapter 19 in plain words: what a node cannot outgrow.
-/
import Derived.Test.YtjbokbikkcfjjaaGreatAas
set_option maxRecDepth 16000
set_option maxHeartbeats 8000000
set_option linter.all false
namespace Go.Proofs.YtjbokbikkcfjjaaGreat
open Go.Cap
theorem F5.gs (f : F5) (i j : Nat) (v : Int) : (f.set i v).get j = v ∨ (f.set i v).get j = f.get j := by
 match i with
 | 0 => match j with
  | 0 => exact .inl rfl
  | 1 | 2 | 3 | _ + 4 => exact .inr rfl
 | 1 => match j with
  | 1 => exact .inl rfl
  | 0 | 2 | 3 | _ + 4 => exact .inr rfl
 | 2 => match j with
  | 2 => exact .inl rfl
  | 0 | 1 | 3 | _ + 4 => exact .inr rfl
 | 3 => match j with
  | 3 => exact .inl rfl
  | 0 | 1 | 2 | _ + 4 => exact .inr rfl
 | _ + 4 => match j with
  | _ + 4 => exact .inl rfl
  | 0 | 1 | 2 | 3 => exact .inr rfl
theorem F5.ga (v : Int) (j : Nat) : (F5.all v).get j = v := by
 match j with
 | 0 | 1 | 2 | 3 | _ + 4 => rfl
structure Ek (e : En) (s : Nat) : Prop where
 t0 : 0 ≤ e.term
 t1 : e.term ≤ s
 c0 : 0 ≤ e.conf
 c1 : e.conf ≤ 31
 cmd : e.cmd.length ≤ 61
theorem Ek.le {e : En} {s r : Nat} (h : Ek e s) (hr : s ≤ r) : Ek e r := ⟨h.t0, by have := h.t1; omega, h.c0, h.c1, h.cmd⟩
structure Nk (n : Nd) (s : Nat) : Prop where
 id0 : 0 ≤ n.id
 id5 : n.id < 5
 base : n.base = 0
 baseTerm : n.baseTerm = 0
 conf0 : 0 ≤ n.baseConf
 conf1 : n.baseConf ≤ 31
 snap : n.snap = []
 term0 : 0 ≤ n.term
 term1 : n.term ≤ s
 vote0 : -1 ≤ n.vote
 vote1 : n.vote ≤ 5
 len : n.log.length ≤ s
 ents : ∀ e ∈ n.log, Ek e s
 com0 : 0 ≤ n.commit
 com1 : n.commit ≤ s
 wait0 : 0 ≤ n.wait
 wait1 : n.wait ≤ s
 votes0 : 0 ≤ n.votes
 votes1 : n.votes ≤ 31
 next0 : ∀ i, 0 ≤ n.next.get i
 next1 : ∀ i, n.next.get i ≤ s + 1
 mtch0 : ∀ i, 0 ≤ n.mtch.get i
 mtch1 : ∀ i, n.mtch.get i ≤ s
theorem Nk.sz {n : Nd} {s : Nat} (h : Nk n s) (hs : s ≤ 1000) : Sz n := by
 have hb := h.base
 have hbt := h.baseTerm
 have h1 := h.term0
 have h2 := h.term1
 have h3 := h.vote0
 have h4 := h.vote1
 have h5 := h.conf0
 have h6 := h.conf1
 have h7 := h.com0
 have h8 := h.com1
 have h9 := h.len
 refine ⟨⟨by omega, by omega⟩, ⟨by omega, by omega⟩, ⟨by omega, by omega⟩, ⟨by omega, by omega⟩, ⟨by omega, by omega⟩, ⟨by omega, by omega⟩, by rw [h.snap]; simp, by omega, fun e he => ?_⟩
 have hk := h.ents e he
 have e1 := hk.t0
 have e2 := hk.t1
 have e3 := hk.c0
 have e4 := hk.c1
 have e5 := hk.cmd
 exact ⟨⟨by omega, by omega⟩, ⟨by omega, by omega⟩, by omega⟩
theorem EM {e : En} {s : Nat} (h : Ek e s) : (XQ e).length ≤ 101 := by
 have h1 := Xi e.term
 have h2 := Xi e.conf
 have h3 := Uo e.cmd
 have := h.cmd
 unfold XQ
 simp only [List.length_append]; omega
theorem Uf {s : Nat} : ∀ (l : List En), (∀ e ∈ l, Ek e s) → (l.flatMap XQ).length ≤ 101 * l.length
 | [], _ => by simp
 | e :: l, h => by
  have h1 := EM (h e List.mem_cons_self)
  have h2 := Uf l fun x hx => h x (List.mem_cons_of_mem _ hx)
  simp only [List.flatMap_cons, List.length_append, List.length_cons]; omega
theorem Nk.rec_ {n : Nd} {s : Nat} (h : Nk n s) : (Qq n 0).length ≤ 90 + 101 * s := by
 have h1 := Zg (Xc n 0)
 have h2 : (Xc n 0).length = 8 := rfl
 have h3 := Uf n.log h.ents
 have h4 := h.len
 have h5 : (Zl n.snap).length ≤ 10 := by rw [h.snap, Zl, if_pos rfl]; exact (Xi 0).2
 unfold Qq
 simp only [List.length_append, List.drop_zero]
 omega
theorem Nk.le {n : Nd} {s r : Nat} (h : Nk n s) (hr : s ≤ r) : Nk n r :=
 ⟨h.id0, h.id5, h.base, h.baseTerm, h.conf0, h.conf1, h.snap, h.term0, by have := h.term1; omega, h.vote0, h.vote1, by have := h.len; omega, fun e he => (h.ents e he).le hr, h.com0, by have := h.com1; omega, h.wait0, by have := h.wait1; omega, h.votes0, h.votes1,
  h.next0, fun i => by have := h.next1 i; omega, h.mtch0, fun i => by have := h.mtch1 i; omega⟩
theorem AE {id conf : Int} (h0 : 0 ≤ id) (h1 : id < 5) (h2 : 0 ≤ conf) (h3 : conf ≤ 31) : Nk (QV id conf) 0 :=
 ⟨h0, h1, rfl, rfl, h2, h3, rfl, by simp [QV], by simp [QV], by simp [QV], by simp [QV], by simp [QV], by simp [QV], by simp [QV], by simp [QV], by simp [QV], by simp [QV], by simp [QV], by simp [QV],
  fun i => by show 0 ≤ (F5.all 0).get i; rw [F5.ga]; omega, fun i => by show (F5.all 0).get i ≤ _; rw [F5.ga]; omega, fun i => by show 0 ≤ (F5.all 0).get i; rw [F5.ga]; omega, fun i => by show (F5.all 0).get i ≤ _; rw [F5.ga]; omega⟩
theorem MA (n : Nd) (conf : Int) (hb : n.base = 0) : ∀ k, n.commit ≤ XL n conf k ∧ XL n conf k ≤ max n.commit k
 | 0 => by unfold XL; omega
 | k + 1 => by
  have := MA n conf hb k
  unfold XL
  split <;> omega
theorem Nk.commit {n : Nd} {s : Nat} (h : Nk n s) : Nk (QW n) s := by
 have hc := MA n (QD n).2 h.base n.log.length
 have h0 := h.com0
 have h1 := h.com1
 have hl := h.len
 unfold QW
 split
 ·exact ⟨h.id0, h.id5, h.base, h.baseTerm, h.conf0, h.conf1, h.snap, h.term0, h.term1, h.vote0, h.vote1, h.len, h.ents, by show 0 ≤ XL n _ _; omega, by show XL n _ _ ≤ _; omega, Int.le_refl _, by show (0 : Int) ≤ _; omega, h.votes0, h.votes1, h.next0, h.next1, h.mtch0, h.mtch1⟩
 ·exact ⟨h.id0, h.id5, h.base, h.baseTerm, h.conf0, h.conf1, h.snap, h.term0, h.term1, h.vote0, h.vote1, h.len, h.ents, by show 0 ≤ XL n _ _; omega, by show XL n _ _ ≤ _; omega, h.wait0, h.wait1, h.votes0, h.votes1, h.next0, h.next1, h.mtch0, h.mtch1⟩
theorem Nk.push {n : Nd} {s : Nat} (h : Nk n s) (e : En) (he : Ek e (s + 1)) : ∀ x ∈ n.log ++ [e], Ek x (s + 1) := by
 intro x hx
 rcases List.mem_append.1 hx with hx | hx
 ·exact (h.ents x hx).le (by omega)
 ·rw [List.mem_singleton.1 hx]; exact he
theorem Aq {i : Int} (h0 : 0 ≤ i) (h5 : i < 5) : 0 ≤ (2 : Int) ^ i.toNat ∧ (2 : Int) ^ i.toNat ≤ 31 := by
 rcases five h0 h5 with rfl | rfl | rfl | rfl | rfl <;> decide
theorem Nk.put {n : Nd} {s : Nat} (h : Nk n s) (e : En) (hc0 : 0 ≤ e.conf) (hc1 : e.conf ≤ 31) (hcm : e.cmd.length ≤ 61) : Nk (Om n e) (s + 1) := by
 have hb := h.base
 have hl := h.len
 have ht0 := h.term0
 have ht1 := h.term1
 have g := h.le (r := s + 1) (by omega)
 refine Nk.commit ⟨g.id0, g.id5, g.base, g.baseTerm, g.conf0, g.conf1, g.snap, g.term0, g.term1, g.vote0, g.vote1, ?_, ?_, g.com0, g.com1, g.wait0, g.wait1, g.votes0, g.votes1, g.next0, g.next1, ?_, ?_⟩
 ·show (n.log ++ [_]).length ≤ _; simp; omega
 ·exact h.push _ ⟨ht0, by simp only; omega, hc0, hc1, hcm⟩
 ·intro i; show 0 ≤ (n.mtch.set n.id.toNat (n.base + (n.log.length + 1))).get i
  rcases F5.gs n.mtch n.id.toNat i (n.base + (n.log.length + 1)) with e | e <;> rw [e]
  ·omega
  ·exact h.mtch0 i
 ·intro i; show (n.mtch.set n.id.toNat (n.base + (n.log.length + 1))).get i ≤ _
  rcases F5.gs n.mtch n.id.toNat i (n.base + (n.log.length + 1)) with e | e <;> rw [e]
  ·omega
  ·exact g.mtch1 i
structure PO (P : Nat → En → Prop) : Prop where
 conf : ∀ i e, P i e → 0 ≤ e.conf ∧ e.conf ≤ 31
 own : ∀ i (t : Int), 0 ≤ t → t ≤ 100000 → P i ⟨t, 0, []⟩
structure NB (P : Nat → En → Prop) (n : Nd) (τ l : Nat) : Prop where
 id0 : 0 ≤ n.id
 id5 : n.id < 5
 base : n.base = 0
 baseTerm : n.baseTerm = 0
 conf0 : 0 ≤ n.baseConf
 conf1 : n.baseConf ≤ 31
 snap : n.snap = []
 term0 : 0 ≤ n.term
 term1 : n.term ≤ τ
 vote0 : -1 ≤ n.vote
 vote1 : n.vote ≤ 5
 len : n.log.length ≤ l
 ents : ∀ i e, n.log[i]? = some e → P i e
 com0 : 0 ≤ n.commit
 com1 : n.commit ≤ l
 wait0 : 0 ≤ n.wait
 votes0 : 0 ≤ n.votes
 votes1 : n.votes ≤ 31
 next0 : ∀ i, 0 ≤ n.next.get i
 next1 : ∀ i, n.next.get i ≤ l + 1
 mtch0 : ∀ i, 0 ≤ n.mtch.get i
 mtch1 : ∀ i, n.mtch.get i ≤ l
 led : n.role = 2 → ∀ i, 1 ≤ n.next.get i
structure MB (P : Nat → En → Prop) (m : Ms) (τ l : Nat) : Prop where
 kind0 : 1 ≤ m.kind
 kind1 : m.kind ≤ 4
 frm0 : 0 ≤ m.frm
 frm1 : m.frm < 5
 to0 : 0 ≤ m.to
 to1 : m.to < 5
 term0 : 0 ≤ m.term
 term1 : m.term ≤ τ
 idx0 : -1 ≤ m.index
 idx3 : m.kind = 3 → 0 ≤ m.index
 idx1 : m.index + m.entries.length ≤ l
 len : m.entries.length ≤ 8
 com0 : 0 ≤ m.commit
 com1 : m.commit ≤ l
 ents : ∀ j e, m.entries[j]? = some e → P (m.index.toNat + j) e
theorem Uk (n : Nd) : (QW n).id = n.id := by unfold QW; split <;> rfl
theorem Di (n : Nd) : (Q5 n).id = n.id := Uk (Yl n)
theorem G9 (n : Nd) : (XU n).1.id = n.id := by
 unfold XU
 split
 ·exact Di (Q0 n)
 ·rfl
theorem VK (n : Nd) : (Xh n).1.id = n.id := by
 unfold Xh
 split
 ·rfl
 ·split
  ·rfl
  ·split
   ·exact G9 { n with wait := n.wait + 1 }
   ·rfl
theorem Ak (n : Nd) (m : Ms) : (upN n m).id = n.id := by unfold upN; split <;> rfl
theorem VL (n : Nd) (m : Ms) : (Xa n m).1.id = n.id := by
 unfold Xa
 split
 ·rfl
 ·rw [← Ak n m]
  unfold MG
  split
  ·unfold X7; split <;> rfl
  ·split
   ·unfold XR
    split
    ·rfl
    ·split
     ·exact Di (Yb (upN n m) m)
     ·rfl
   ·split
    ·unfold Jv
     split
     ·rfl
     ·split
      ·rfl
      ·split <;> rfl
    ·split
     ·unfold XK
      split
      ·rfl
      ·split
       ·exact Uk (JO (upN n m) m)
       ·split <;> rfl
     ·unfold J1
      split
      ·rfl
      ·split <;> rfl
def pot (n : Nd) : Nat := n.wait.toNat + if n.role = 1 then 5 else 0
section
variable {P P' : Nat → En → Prop} {n : Nd} {m : Ms} {τ l τ' l' : Nat}
theorem NB.le (h : NB P n τ l) (ht : τ ≤ τ') (hl : l ≤ l') : NB P n τ' l' :=
 { h with term1 := by have := h.term1; omega, len := by have := h.len; omega, com1 := by have := h.com1; omega, next1 := fun i => by have := h.next1 i; omega, mtch1 := fun i => by have := h.mtch1 i; omega }
theorem NB.mono (h : NB P n τ l) (hp : ∀ i e, P i e → P' i e) : NB P' n τ l := { h with ents := fun i e he => hp i e (h.ents i e he) }
theorem MB.le (h : MB P m τ l) (ht : τ ≤ τ') (hl : l ≤ l') : MB P m τ' l' :=
 { h with term1 := by have := h.term1; omega, idx1 := by have := h.idx1; omega, com1 := by have := h.com1; omega }
theorem MB.mono (h : MB P m τ l) (hp : ∀ i e, P i e → P' i e) : MB P' m τ l := { h with ents := fun i e he => hp _ e (h.ents i e he) }
theorem Ae (l : List En) : ∀ k ≤ l.length, ∀ j c, lc l k = some (j, c) → j < k ∧ ∃ e, l[j]? = some e ∧ e.conf = c
 | 0, _, _, _, h => by cases h
 | k + 1, hk, j, c, h => by
  unfold lc at h
  split at h
  ·cases h
   have hk' : k < l.length := by omega
   refine ⟨by omega, l[k], List.getElem?_eq_getElem hk', ?_⟩
   rw [List.getD_eq_getElem?_getD, List.getElem?_eq_getElem hk', Option.getD_some]
  ·have := Ae l k (by omega) j c h
   exact ⟨by omega, this.2⟩
theorem NB.cnf (hP : PO P) (h : NB P n τ l) : 0 ≤ (QD n).2 ∧ (QD n).2 ≤ 31 ∧ 0 ≤ (QD n).1 ∧ (QD n).1 ≤ n.log.length := by
 unfold QD
 have hb := h.base
 split
 ·rename_i k c hc
  obtain ⟨h1, e, he, rfl⟩ := Ae n.log n.log.length (Nat.le_refl _) _ _ hc
  have := hP.conf _ _ (h.ents _ _ he)
  exact ⟨this.1, this.2, by simp only; omega, by simp only; omega⟩
 ·exact ⟨h.conf0, h.conf1, by simp only; omega, by simp only; omega⟩
theorem NB.bd (hP : PO P) (h : NB P n τ l) (hl : l ≤ 100000) : Bd n := by
 have hc := h.cnf hP
 have := h.len
 exact ⟨h.id0, h.id5, by omega, by have := h.base; omega, by have := h.base; omega, hc.1, hc.2.1⟩
theorem NB.nbd (h : NB P n τ l) (hl : l ≤ 100000) : NBd n := by
 have := h.len
 exact ⟨by omega, h.votes0, h.votes1, fun i => by have := h.next0 i; omega, fun i => by have := h.next1 i; omega, fun i => by have := h.mtch0 i; omega, fun i => by have := h.mtch1 i; omega⟩
theorem NB.wake (h : NB P n τ l) : NB P (Qp n) τ l :=
 { h with
  wait0 := Int.le_refl _, votes0 := Int.le_refl _, votes1 := by show (0 : Int) ≤ _; omega
  next0 := fun i => by show 0 ≤ (F5.all 0).get i; rw [F5.ga]; omega
  next1 := fun i => by show (F5.all 0).get i ≤ _; rw [F5.ga]; omega
  mtch0 := fun i => by show 0 ≤ (F5.all 0).get i; rw [F5.ga]; omega
  mtch1 := fun i => by show (F5.all 0).get i ≤ _; rw [F5.ga]; omega
  led := fun hr => absurd (show (0 : Int) = 2 from hr) (by omega) }
theorem Ia : pot (Qp n) = 0 := rfl
theorem AF {id conf : Int} (h0 : 0 ≤ id) (h1 : id < 5) (h2 : 0 ≤ conf) (h3 : conf ≤ 31) : NB P (QV id conf) 0 0 :=
 ⟨h0, h1, rfl, rfl, h2, h3, rfl, by simp [QV], by simp [QV], by simp [QV], by simp [QV], by simp [QV], by simp [QV], by simp [QV], by simp [QV], by simp [QV], by simp [QV], by simp [QV],
  fun i => by show 0 ≤ (F5.all 0).get i; rw [F5.ga]; omega, fun i => by show (F5.all 0).get i ≤ _; rw [F5.ga]; omega, fun i => by show 0 ≤ (F5.all 0).get i; rw [F5.ga]; omega, fun i => by show (F5.all 0).get i ≤ _; rw [F5.ga]; omega,
  fun hr => absurd (show (0 : Int) = 2 from hr) (by omega)⟩
theorem NB.commit (h : NB P n τ l) : NB P (QW n) τ l := by
 have hc := MA n (QD n).2 h.base n.log.length
 have h0 := h.com0
 have h1 := h.com1
 have hl := h.len
 unfold QW
 split
 ·exact { h with com0 := by show 0 ≤ XL n _ _; omega, com1 := by show XL n _ _ ≤ _; omega, wait0 := Int.le_refl _, led := fun hr => absurd (show (0 : Int) = 2 from hr) (by omega) }
 ·exact { h with com0 := by show 0 ≤ XL n _ _; omega, com1 := by show XL n _ _ ≤ _; omega }
theorem Ua (n : Nd) : pot (QW n) ≤ pot n := by
 unfold QW
 split
 ·show 0 + 0 ≤ _; omega
 ·exact Nat.le_refl _
theorem MZ {n : Nd} (hr : n.role = 2) : pot (QW n) ≤ n.wait.toNat := by
 have := Ua n
 unfold pot at this ⊢
 rw [hr] at this
 simpa using this
theorem LC (h : ∀ i e, n.log[i]? = some e → P i e) {e : En} (he : P n.log.length e) : ∀ i x, (n.log ++ [e])[i]? = some x → P i x := by
 intro i x hx
 rcases Nat.lt_trichotomy i n.log.length with hi | hi | hi
 ·rw [List.getElem?_append_left hi] at hx; exact h i x hx
 ·subst hi
  simp at hx; subst hx; exact he
 ·rw [List.getElem?_eq_none (by simp; omega)] at hx; cases hx
theorem NB.lead (hP : PO P) (h : NB P n τ l) (ht : τ ≤ 100000) : NB P (Q5 n) τ (l + 1) := by
 have hb := h.base
 have hl := h.len
 have ht0 := h.term0
 have ht1 := h.term1
 have g := h.le (τ' := τ) (l' := l + 1) (Nat.le_refl _) (by omega)
 refine NB.commit { g with len := ?_, ents := ?_, next0 := ?_, next1 := ?_, mtch0 := ?_, mtch1 := ?_, led := ?_ }
 ·show (n.log ++ [_]).length ≤ _; simp; omega
 ·exact LC h.ents (hP.own _ _ ht0 (by omega))
 ·intro i; show 0 ≤ (F5.all (n.base + (n.log.length + 1))).get i; rw [F5.ga]; omega
 ·intro i; show (F5.all (n.base + (n.log.length + 1))).get i ≤ _; rw [F5.ga]; omega
 ·intro i; show 0 ≤ ((F5.all 0).set n.id.toNat (n.base + (n.log.length + 1))).get i
  rcases F5.gs (F5.all 0) n.id.toNat i (n.base + (n.log.length + 1)) with e | e <;> rw [e]
  ·omega
  ·rw [F5.ga]; omega
 ·intro i; show ((F5.all 0).set n.id.toNat (n.base + (n.log.length + 1))).get i ≤ _
  rcases F5.gs (F5.all 0) n.id.toNat i (n.base + (n.log.length + 1)) with e | e <;> rw [e]
  ·omega
  ·rw [F5.ga]; omega
 ·intro _ i; show 1 ≤ (F5.all (n.base + (n.log.length + 1))).get i; rw [F5.ga]; omega
theorem MY (n : Nd) : pot (Q5 n) ≤ n.wait.toNat := MZ (n := Yl n) rfl
theorem UU {F : Int → Ms} {k : Nat} {x : Ms} (h : x ∈ XP n F k) : ∃ i : Nat, i < k ∧ x = F i := by
 unfold XP at h
 obtain ⟨i, h1, rfl⟩ := List.mem_map.1 h
 exact ⟨i, List.mem_range.1 (List.mem_filter.1 h1).1, rfl⟩
theorem Mb (h : NB P n τ l) (hr : n.role = 2) {to : Int} (h0 : 0 ≤ to) (h5 : to < 5) : MB P (Zq n to) τ l := by
 have h1 := h.led hr to.toNat
 have h2 := h.next1 to.toNat
 have hb := h.base
 have hl := h.len
 unfold Zq
 rw [if_neg (by omega)]
 have hd : (n.log.drop (min (n.next.get to.toNat - 1 - n.base) n.log.length).toNat).length = n.log.length - (min (n.next.get to.toNat - 1 - n.base) n.log.length).toNat := List.length_drop
 refine ⟨by show (1 : Int) ≤ 3; omega, by show (3 : Int) ≤ 4; omega, h.id0, h.id5, h0, h5, h.term0, h.term1, by show -1 ≤ n.next.get to.toNat - 1; omega, fun _ => by show 0 ≤ n.next.get to.toNat - 1; omega, ?_, ?_, h.com0, h.com1, ?_⟩
 ·show n.next.get to.toNat - 1 + (((n.log.drop (min (n.next.get to.toNat - 1 - n.base) n.log.length).toNat).take 8).length : Nat) ≤ _
  rw [List.length_take, hd]; omega
 ·show ((n.log.drop (min (n.next.get to.toNat - 1 - n.base) n.log.length).toNat).take 8).length ≤ 8
  rw [List.length_take]; omega
 ·intro j e he
  replace he : ((n.log.drop (min (n.next.get to.toNat - 1 - n.base) n.log.length).toNat).take 8)[j]? = some e := he
  rw [List.getElem?_take] at he
  split at he
  ·rw [List.getElem?_drop] at he
   have hlt := (List.getElem?_eq_some_iff.1 he).1
   have hx := h.ents _ _ he
   have e1 : (n.next.get to.toNat - 1).toNat + j = (min (n.next.get to.toNat - 1 - n.base) n.log.length).toNat + j := by omega
   show P ((n.next.get to.toNat - 1).toNat + j) e
   rw [e1]; exact hx
  ·cases he
theorem Z1 (h : NB P n τ l) {to k i lt : Int} {yes : Bool} (h0 : 0 ≤ to) (h5 : to < 5) (hk : k = 1 ∨ k = 2 ∨ k = 4) (hi0 : -1 ≤ i) (hi1 : i ≤ l) : MB P (XA n to ⟨k, 0, 0, 0, i, lt, 0, 0, yes, [], []⟩) τ l :=
 ⟨by show 1 ≤ k; omega, by show k ≤ 4; omega, h.id0, h.id5, h0, h5, h.term0, h.term1, hi0, fun h3 => absurd (show k = 3 from h3) (by omega), by show i + ((0 : Nat) : Int) ≤ _; omega, by show 0 ≤ 8; omega, Int.le_refl _, by show (0 : Int) ≤ _; omega, fun j e he => by cases (show ([] : List En)[j]? = some e from he)⟩
theorem Gv (h : NB P n τ l) : 0 ≤ Qs n ∧ Qs n ≤ l := by
 have hb := h.base
 have hl := h.len
 unfold Qs; omega
theorem Dh (hP : PO P) (h : NB P n τ l) (ht : τ ≤ 100000) : ∀ x ∈ XP (Q5 n) (Zq (Q5 n)) 5, MB P x τ (l + 1) := by
 intro x hx
 obtain ⟨i, hi, rfl⟩ := UU hx
 have hN := h.lead hP ht
 by_cases hr : (Q5 n).role = 2
 ·exact Mb hN hr (by omega) (by omega)
 ·
  have hnx : ∀ j, 1 ≤ (Q5 n).next.get j := by
   intro j
   have e : (Q5 n).next = (Yl n).next := by unfold Q5 QW; split <;> rfl
   rw [e]
   show 1 ≤ (F5.all (n.base + (n.log.length + 1))).get j
   have := h.base
   rw [F5.ga]; omega
  have hR : NB P { Q5 n with role := 2 } τ (l + 1) := { hN with led := fun _ => hnx }
  exact Mb hR rfl (to := (i : Int)) (by omega) (by omega)
theorem Y3 (n : Nd) (F : Int → Ms) (k : Nat) : (XP n F k).length ≤ k := by
 unfold XP
 rw [List.length_map]
 exact Nat.le_trans (List.length_filter_le _ _) (by simp)
structure Yz (P : Nat → En → Prop) (n n' : Nd) (out : List Ms) (τ' l : Nat) (c b : Nat) : Prop where
 go : ∃ d, NB P n' τ' (l + d) ∧ 5 * d + pot n' ≤ pot n + c ∧ (∀ x ∈ out, MB P x τ' (l + d)) ∧ out.length ≤ 5 * d + b
theorem NB.stand (hP : PO P) (h : NB P n τ l) (ht : τ + 1 ≤ 100000) (hw : 5 ≤ n.wait) : Yz P n (XU n).1 (XU n).2 (τ + 1) l 0 5 := by
 have hi0 := h.id0
 have hi5 := h.id5
 have hp := Aq hi0 hi5
 have ht0 := h.term0
 have ht1 := h.term1
 have g := h.le (τ' := τ + 1) (l' := l) (by omega) (Nat.le_refl _)
 have hN : NB P (Q0 n) (τ + 1) l := { g with term0 := by show 0 ≤ n.term + 1; omega, term1 := by show n.term + 1 ≤ _; omega, vote0 := by show -1 ≤ n.id; omega, vote1 := by show n.id ≤ 5; omega, wait0 := Int.le_refl _, votes0 := hp.1, votes1 := hp.2, led := fun hr => absurd (show (1 : Int) = 2 from hr) (by omega) }
 have hpn : 5 ≤ pot n := by unfold pot; omega
 unfold XU
 split
 ·refine ⟨1, hN.lead hP ht, ?_, Dh hP hN ht, Nat.le_trans (Y3 (Q5 (Q0 n)) (Zq (Q5 (Q0 n))) 5) (by omega)⟩
  have := MY (Q0 n)
  have e : (Q0 n).wait.toNat = 0 := rfl
  show 5 * 1 + pot (Q5 (Q0 n)) ≤ pot n + 0
  omega
 ·refine ⟨0, hN, ?_, fun x hx => ?_, Nat.le_trans (Y3 (Q0 n) (fun to => XA (Q0 n) to (DW (Qs n) (Xe n (Qs n)))) 5) (by omega)⟩
  ·show 5 * 0 + (0 + 5) ≤ pot n + 0; omega
  ·obtain ⟨i, hi, rfl⟩ := UU (F := fun to => XA (Q0 n) to (DW (Qs n) (Xe n (Qs n)))) hx
   have hlast := Gv h
   exact Z1 hN (by omega) (by omega) (.inl rfl) (by omega) (by omega)
theorem NB.tick (hP : PO P) (h : NB P n τ l) (ht : τ + 1 ≤ 100000) : Yz P n (Xh n).1 (Xh n).2 (τ + 1) l 1 5 := by
 have hi0 := h.id0
 have hw0 := h.wait0
 have hN : NB P { n with wait := n.wait + 1 } τ l := { h with wait0 := by show 0 ≤ n.wait + 1; omega }
 have hpw : pot { n with wait := n.wait + 1 } = pot n + 1 := by
  unfold pot; show (n.wait + 1).toNat + (if n.role = 1 then 5 else 0) = n.wait.toNat + (if n.role = 1 then 5 else 0) + 1; omega
 unfold Xh
 split
 ·rename_i hr
  refine ⟨0, h.le (by omega) (Nat.le_refl _), by simp only; omega, fun x hx => ?_, Nat.le_trans (Y3 n (Zq n) 5) (by omega)⟩
  obtain ⟨i, hi, rfl⟩ := UU (F := Zq n) hx
  exact (Mb h hr (by omega) (by omega)).le (by omega) (Nat.le_refl _)
 ·split
  ·exact ⟨0, h.le (by omega) (Nat.le_refl _), by simp only; omega, by simp, by simp⟩
  ·split
   ·rename_i hc
    obtain ⟨d, h1, h2, h3, h4⟩ := hN.stand hP ht (by show 5 ≤ n.wait + 1; omega)
    exact ⟨d, h1, by omega, h3, h4⟩
   ·exact ⟨0, hN.le (by omega) (Nat.le_refl _), by simp only; omega, by simp, by simp⟩
theorem NB.up (h : NB P n τ l) (h0 : 0 ≤ m.term) (h1 : m.term ≤ τ) : NB P (upN n m) τ l := by
 unfold upN
 split
 ·exact { h with term0 := h0, term1 := h1, vote0 := Int.le_refl _, vote1 := by show (-1 : Int) ≤ 5; omega, votes0 := Int.le_refl _, votes1 := by show (0 : Int) ≤ 31; omega, led := fun hr => absurd (show (0 : Int) = 2 from hr) (by omega) }
 ·exact h
theorem Ar (n : Nd) (m : Ms) : pot (upN n m) ≤ pot n := by
 unfold upN
 split
 ·unfold pot; show n.wait.toNat + 0 ≤ _; omega
 ·exact Nat.le_refl _
theorem NB.vote (h : NB P n τ l) (hf0 : 0 ≤ m.frm) (hf1 : m.frm < 5) : NB P (X7 n m) τ l := by
 unfold X7
 split
 ·exact { h with vote0 := by show -1 ≤ m.frm; omega, vote1 := by show m.frm ≤ 5; omega, wait0 := Int.le_refl _ }
 ·exact h
theorem Ib (n : Nd) (m : Ms) : pot (X7 n m) ≤ pot n := by
 unfold X7
 split
 ·unfold pot; show 0 + _ ≤ _; exact Nat.add_le_add_right (Nat.zero_le _) _
 ·exact Nat.le_refl _
theorem Oz {v f : Int} (h0 : 0 ≤ v) (h1 : v ≤ 31) (f0 : 0 ≤ f) (f1 : f < 5) : 0 ≤ orI v (2 ^ f.toNat) ∧ orI v (2 ^ f.toNat) ≤ 31 := by
 have key : ∀ i : Fin 32, ∀ j : Fin 5, 0 ≤ orI (i.val : Int) (2 ^ j.val) ∧ orI (i.val : Int) (2 ^ j.val) ≤ 31 := by decide +kernel
 obtain ⟨i, hi⟩ := Int.eq_ofNat_of_zero_le h0
 have := key ⟨i, by omega⟩ ⟨f.toNat, by omega⟩
 rw [hi]; exact this
theorem NB.voted (hP : PO P) (h : NB P n τ l) (ht : τ ≤ 100000) (hf0 : 0 ≤ m.frm) (hf1 : m.frm < 5) : Yz P n (XR n m).1 (XR n m).2 τ l 0 1 := by
 have ho := Oz h.votes0 h.votes1 hf0 hf1
 unfold XR
 split
 ·exact ⟨0, h, by simp only; omega, by simp, by simp⟩
 ·rename_i hc
  have hr : n.role = 1 := by
   refine Classical.byContradiction fun h1 => hc (.inl (.inr h1))
  have hN : NB P (Yb n m) τ l := { h with votes0 := ho.1, votes1 := ho.2 }
  split
  ·refine ⟨1, hN.lead hP ht, ?_, Dh hP hN ht, Nat.le_trans (Y3 (Q5 (Yb n m)) (Zq (Q5 (Yb n m))) 5) (by omega)⟩
   have := MY (Yb n m)
   have e : (Yb n m).wait.toNat = n.wait.toNat := rfl
   unfold pot at this ⊢
   rw [hr]
   simp only [if_true]
   omega
  ·exact ⟨0, hN, by show 5 * 0 + pot n ≤ _; omega, by simp, by simp⟩
theorem NB.quiet (h : NB P n τ l) : NB P (Q3 n) τ l := { h with wait0 := Int.le_refl _, led := fun hr => absurd (show (0 : Int) = 2 from hr) (by omega) }
theorem Lf : pot (Q3 n) = 0 := rfl
theorem Gu (hb : n.base = 0) (hi0 : 0 ≤ m.index) (hi1 : m.index ≤ n.log.length) (h : ∀ i e, n.log[i]? = some e → P i e) (hm : ∀ j e, m.entries[j]? = some e → P (m.index.toNat + j) e) :
  ∀ i ≤ m.entries.length, (∀ j e, (Xb n m i)[j]? = some e → P j e) ∧ m.index + i ≤ (Xb n m i).length ∧ (((Xb n m i).length : Int) ≤ max (n.log.length : Int) (m.index + i))
 | 0, _ => ⟨h, by show m.index + ((0 : Nat) : Int) ≤ (n.log.length : Int); omega, by show (n.log.length : Int) ≤ _; omega⟩
 | i + 1, hi => by
  obtain ⟨ih1, ih2, ih3⟩ := Gu hb hi0 hi1 h hm i (by omega)
  unfold Xb
  split
  ·rename_i hc
   exact ⟨ih1, by omega, by omega⟩
  ·rename_i hc
   have hlen : ((Xb n m i).take (min (m.index - n.base + i) (Xb n m i).length).toNat).length = (m.index + i).toNat := by
    rw [List.length_take]; omega
   have hg : m.entries[i]? = some (m.entries.getD i default) := by
    rw [List.getD_eq_getElem?_getD, List.getElem?_eq_getElem (show i < m.entries.length by omega), Option.getD_some]
   refine ⟨fun j e hj => ?_, ?_, ?_⟩
   ·rcases Nat.lt_trichotomy j (m.index + i).toNat with hji | hji | hji
    ·rw [List.getElem?_append_left (by omega), List.getElem?_take] at hj
     split at hj
     ·exact ih1 j e hj
     ·cases hj
    ·rw [List.getElem?_append_right (by omega)] at hj
     have : j - ((Xb n m i).take (min (m.index - n.base + i) (Xb n m i).length).toNat).length = 0 := by omega
     rw [this] at hj
     simp only [List.getElem?_cons_zero, Option.some.injEq] at hj
     subst hj
     have := hm i _ hg
     have e1 : j = m.index.toNat + i := by omega
     rw [e1]; exact this
    ·rw [List.getElem?_eq_none (by rw [List.length_append, hlen]; simp; omega)] at hj; cases hj
   ·rw [List.length_append, hlen]; simp; omega
   ·rw [List.length_append, hlen]; simp; omega
theorem NB.add (h : NB P n τ l) (hm : MB P m τ l) : Yz P n (Jv n m).1 (Jv n m).2 τ l 0 1 := by
 have hb := h.base
 have hnl := h.len
 have c0 := h.com0
 have c1 := h.com1
 have d0 := hm.com0
 have d1 := hm.com1
 have i0 := hm.idx0
 have i1 := hm.idx1
 have hlast := Gv h
 unfold Jv
 split
 ·refine ⟨0, h, by simp only; omega, fun x hx => ?_, by simp⟩
  rw [List.mem_singleton.1 hx]
  exact Z1 h hm.frm0 hm.frm1 (.inr (.inr rfl)) (by omega) (by omega)
 ·split
  ·refine ⟨0, h.quiet, by simp only [Lf]; omega, fun x hx => ?_, by simp⟩
   rw [List.mem_singleton.1 hx]
   exact Z1 h.quiet hm.frm0 hm.frm1 (.inr (.inr rfl)) (by omega) (by omega)
  ·split
   ·refine ⟨0, h.quiet, by simp only [Lf]; omega, fun x hx => ?_, by simp⟩
    rw [List.mem_singleton.1 hx]
    exact Z1 h.quiet hm.frm0 hm.frm1 (.inr (.inr rfl)) (by omega) (by omega)
   ·rename_i h1 h2
    have h3 : m.index ≤ n.log.length := by
     have : ¬ Qs n < m.index := fun h4 => h2 (.inl h4)
     unfold Qs at this; omega
    obtain ⟨k1, k2, k3⟩ := Gu hb (by omega) h3 h.ents hm.ents m.entries.length (Nat.le_refl _)
    have hN : NB P (EX n m) τ l := { h.quiet with
     len := by show (Xb n m m.entries.length).length ≤ _; omega
     ents := k1
     com0 := by show 0 ≤ max n.commit (min m.commit (m.index + m.entries.length)); omega
     com1 := by show max n.commit (min m.commit (m.index + m.entries.length)) ≤ _; omega }
    refine ⟨0, hN, by show 5 * 0 + 0 ≤ _; omega, fun x hx => ?_, by simp⟩
    rw [List.mem_singleton.1 hx]
    exact Z1 hN hm.frm0 hm.frm1 (.inr (.inr rfl)) (by omega) (by omega)
theorem NB.heard (h : NB P n τ l) (hm : MB P m τ l) : Yz P n (XK n m).1 (XK n m).2 τ l 0 1 := by
 have m0 := h.mtch0 m.frm.toNat
 have m1 := h.mtch1 m.frm.toNat
 have x0 := h.next0 m.frm.toNat
 have x1 := h.next1 m.frm.toNat
 have i0 := hm.idx0
 have i1 := hm.idx1
 unfold XK
 split
 ·exact ⟨0, h, by simp only; omega, by simp, by simp⟩
 ·rename_i hc
  have hr : n.role = 2 := Classical.byContradiction fun h1 => hc (.inr h1)
  have hld := h.led hr
  split
  ·have hag : NB P (JO n m) τ l := by
    refine { h with next0 := ?_, next1 := ?_, mtch0 := ?_, mtch1 := ?_, led := ?_ }
    ·intro i; show 0 ≤ (n.next.set m.frm.toNat (max (n.mtch.get m.frm.toNat) m.index + 1)).get i
     rcases F5.gs n.next m.frm.toNat i (max (n.mtch.get m.frm.toNat) m.index + 1) with e | e <;> rw [e]
     ·omega
     ·exact h.next0 i
    ·intro i; show (n.next.set m.frm.toNat (max (n.mtch.get m.frm.toNat) m.index + 1)).get i ≤ _
     rcases F5.gs n.next m.frm.toNat i (max (n.mtch.get m.frm.toNat) m.index + 1) with e | e <;> rw [e]
     ·omega
     ·exact h.next1 i
    ·intro i; show 0 ≤ (n.mtch.set m.frm.toNat (max (n.mtch.get m.frm.toNat) m.index)).get i
     rcases F5.gs n.mtch m.frm.toNat i (max (n.mtch.get m.frm.toNat) m.index) with e | e <;> rw [e]
     ·omega
     ·exact h.mtch0 i
    ·intro i; show (n.mtch.set m.frm.toNat (max (n.mtch.get m.frm.toNat) m.index)).get i ≤ _
     rcases F5.gs n.mtch m.frm.toNat i (max (n.mtch.get m.frm.toNat) m.index) with e | e <;> rw [e]
     ·omega
     ·exact h.mtch1 i
    ·intro _ i; show 1 ≤ (n.next.set m.frm.toNat (max (n.mtch.get m.frm.toNat) m.index + 1)).get i
     rcases F5.gs n.next m.frm.toNat i (max (n.mtch.get m.frm.toNat) m.index + 1) with e | e <;> rw [e]
     ·omega
     ·exact hld i
   refine ⟨0, hag.commit, ?_, by simp, by simp⟩
   have := Ua (JO n m)
   have e : pot (JO n m) = pot n := rfl
   simp only
   omega
  ·have hbk : NB P (XB n m) τ l := by
    refine { h with next0 := ?_, next1 := ?_, led := ?_ }
    ·intro i; show 0 ≤ (n.next.set m.frm.toNat (max (max (min (n.next.get m.frm.toNat - 1) (m.index + 1)) 1) (n.mtch.get m.frm.toNat + 1))).get i
     rcases F5.gs n.next m.frm.toNat i (max (max (min (n.next.get m.frm.toNat - 1) (m.index + 1)) 1) (n.mtch.get m.frm.toNat + 1)) with e | e <;> rw [e]
     ·omega
     ·exact h.next0 i
    ·intro i; show (n.next.set m.frm.toNat (max (max (min (n.next.get m.frm.toNat - 1) (m.index + 1)) 1) (n.mtch.get m.frm.toNat + 1))).get i ≤ _
     rcases F5.gs n.next m.frm.toNat i (max (max (min (n.next.get m.frm.toNat - 1) (m.index + 1)) 1) (n.mtch.get m.frm.toNat + 1)) with e | e <;> rw [e]
     ·omega
     ·exact h.next1 i
    ·intro _ i; show 1 ≤ (n.next.set m.frm.toNat (max (max (min (n.next.get m.frm.toNat - 1) (m.index + 1)) 1) (n.mtch.get m.frm.toNat + 1))).get i
     rcases F5.gs n.next m.frm.toNat i (max (max (min (n.next.get m.frm.toNat - 1) (m.index + 1)) 1) (n.mtch.get m.frm.toNat + 1)) with e | e <;> rw [e]
     ·omega
     ·exact hld i
   have e : pot (XB n m) = pot n := rfl
   split
   ·refine ⟨0, hbk, by simp only; omega, fun x hx => ?_, by simp⟩
    rw [List.mem_singleton.1 hx]
    exact Mb hbk hr hm.frm0 hm.frm1
   ·exact ⟨0, hbk, by simp only; omega, by simp, by simp⟩
theorem NB.take (hP : PO P) (h : NB P n τ l) (hm : MB P m τ l) (ht : τ ≤ 100000) : Yz P n (Xa n m).1 (Xa n m).2 τ l 0 1 := by
 have hu := h.up hm.term0 hm.term1
 have hpu := Ar n m
 have key : ∀ {n' : Nd} {out : List Ms}, Yz P (upN n m) n' out τ l 0 1 → Yz P n n' out τ l 0 1 := fun ⟨d, h1, h2, h3, h4⟩ => ⟨d, h1, by omega, h3, h4⟩
 unfold Xa
 split
 ·exact ⟨0, h, by simp only; omega, by simp, by simp⟩
 ·unfold MG
  split
  ·have hv := hu.vote hm.frm0 hm.frm1
   refine key ⟨0, hv, by have := Ib (upN n m) m; simp only; omega, fun x hx => ?_, by simp⟩
   rw [List.mem_singleton.1 hx]
   exact Z1 hv hm.frm0 hm.frm1 (.inr (.inl rfl)) (by omega) (by omega)
  ·split
   ·exact key (hu.voted hP ht hm.frm0 hm.frm1)
   ·split
    ·exact key (hu.add hm)
    ·split
     ·exact key (hu.heard hm)
     ·have := hm.kind0
      have := hm.kind1
      omega
theorem NB.put (h : NB P n τ l) (hr : n.role = 2) {e : En} (he : P n.log.length ⟨n.term, e.conf, e.cmd⟩) : NB P (Om n e) τ (l + 1) ∧ pot (Om n e) ≤ pot n := by
 have hb := h.base
 have hl := h.len
 have g := h.le (τ' := τ) (l' := l + 1) (Nat.le_refl _) (by omega)
 refine ⟨NB.commit { g with len := ?_, ents := LC h.ents he, mtch0 := ?_, mtch1 := ?_ }, ?_⟩
 ·show (n.log ++ [_]).length ≤ _; simp; omega
 ·intro i; show 0 ≤ (n.mtch.set n.id.toNat (n.base + (n.log.length + 1))).get i
  rcases F5.gs n.mtch n.id.toNat i (n.base + (n.log.length + 1)) with e | e <;> rw [e]
  ·omega
  ·exact h.mtch0 i
 ·intro i; show (n.mtch.set n.id.toNat (n.base + (n.log.length + 1))).get i ≤ _
  rcases F5.gs n.mtch n.id.toNat i (n.base + (n.log.length + 1)) with e | e <;> rw [e]
  ·omega
  ·exact g.mtch1 i
 ·exact Ua (VU n e)
end
end Go.Proofs.YtjbokbikkcfjjaaGreat
namespace Go.Cap
section
variable {K : Ctx} {P : Program} {t : Env} {H Hs Hr : Qc} {N : Env → Qc → Prop} {ops : Array Oper} {i j kg : Nat} {l : List Oper} {dst : Option Tmp} {ty ty' tp : TypeId} {pos : String} {aft : Array Edge} {g : Option (Nat × Bool)} {kd : Tmp} {p : Prop} {ip : Decidable p} {x : Operand}
theorem MR {e : TypeId} {a : Addr} (w : World) {ty : TypeId} (hu : P.underlying ty = some (.pointer e)) (d : Nat) : (Op.equalIn (d + 1) ty (.pointer (some a)) (.pointer none)).run P w = .ok false w := by
 simp [Op.equalIn, run_underlying hu]
theorem Ea {e : TypeId} {a : Addr} (w : World) {ty : TypeId} (hu : P.underlying ty = some (.pointer e)) : (Op.equal ty (.pointer (some a)) (.pointer none)).run P w = .ok false w := MR w hu 9999
theorem Ti {a : Addr} {e : TypeId} (hx : t.ev x = .v (.pointer (some a)) := by exact zl) (hu : P.underlying ty = some (.pointer e) := by rfl) : POp P t H ⟨dst, .binOp .eql ty x (.const (.pointer none)) ty', tp, pos, aft, g⟩ (.v (.bool (decide False))) :=
 Q8 hx rfl fun w => by
  have := Ea (a := a) w hu
  simp [eqGuard, binOp, this]
theorem Du {f : FuncId} {xs : Array Operand} {ats : Array TypeId} {args : List T} {Φ : T → Qc → Prop} (hp : p) (hf : FnH K.P f args Hs Φ) (hP : H.Perm (Hs ++ Hr)) (hn : ∀ r H', Φ r H' → Qf K ops (i + 1) l ((kd, r) :: t) (H' ++ Hr) N) (hj : (ops[j]?).bind (·.dst) = some kg := by rfl) (hb : t.get kg = .v (.bool (decide p)) := by exact zG)
  (ha' : EvL t xs.toList args) (hc : QE K.P f = true := by rfl) (hd : Xo (some kd) K.n = true := by rfl) : Qf K ops i (⟨some kd, .call ⟨.value (.func f), xs, ats⟩, tp, pos, aft, some (j, true)⟩ :: l) t H N :=
 Ag hj hb (by simpa using hp) (YH hf hP hc ha' hd hn)
end
end Go.Cap
namespace Go.Proofs.YtjbokbikkcfjjaaGreat
open Go.Cap
attribute [local irreducible] POp Qf TO EOp Sim FnH T.gp
theorem OJ {n0 : Nd} {R : Nat} {K : Kp} {t : Nd} (h : Y1 n0 R K) (h0 : K.d.left = 0) (hrm : (2 * R + 200 : Int) ≤ K.d.room) (hid : t.id = n0.id) (hsz : Sz t) (hr : (Qq t 0).length ≤ R) (hR : R ≤ 4000000) :
  ∃ K', Qw K t 0 = (K', 0) ∧ Y1 n0 R K' ∧ K'.N = t ∧ K'.d.left = 0 ∧ K'.d.room = K.d.room := by
 have hc := Wb h hid hsz hr hR
 generalize Qw K t 0 = w at hc ⊢
 cases hc with
 | ok K' h' hN hl hr' => exact ⟨K', rfl, h', hN, by have := h'.dk.l0; omega, hr'⟩
 | full K' h' hN hl hr' hf => exact absurd hf (by omega)
 | dead K' hN hl h' hr' => exact absurd hl (by omega)
theorem In {n0 : Nd} {R : Nat} (room : Int) (hw : Qp n0 = n0) (hsz : Sz n0) (hr : (Qq n0 0).length ≤ R) (h1 : 0 ≤ room) (h2 : room ≤ 16777216) : Y1 n0 R ⟨0, n0, ⟨0, 0, false, [], 0, [], room⟩⟩ := by
 refine ⟨⟨none, [], ⟨rfl, rfl, ZY, by simp, by simp, by simp, fun k => ?_, rfl⟩, rfl⟩, rfl, rfl, ⟨Int.le_refl _, by simp, h1, h2, by simpa using h1⟩, rfl, hsz, hr⟩
 rw [List.take_nil]
 exact hsz.len
theorem OA {n0 : Nd} {R : Nat} {K : Kp} (bd : Nat) (id conf : Int) (h : Y1 n0 R K) (h0 : K.d.left = 0) (hn0 : FnP Tryz.prog 66 [ei id, ei conf] (fun r => r = nd n0)) (hw : Qp n0 = n0) (hl0 : n0.log.length ≤ 10000) (hR : R ≤ 4000000)
  (hszw : Sz (Qp K.N)) (hrw : (Qq (Qp K.N) 0).length ≤ R) :
  FnH Tryz.prog 34 [pW bd, ei id, ei conf] (DkH bd K.d) (fun r H => ∃ bk bj K2, r = .tup [pW bk, ei 0] ∧ H = KpH bk bj bd K2 ∧ Y1 n0 R K2 ∧ K2.N = Qp K.N ∧ K2.d = K.d) := by
 obtain ⟨⟨so, rs, hc, hn⟩, hsy, hdead, hdk, hNid, hNsz, hNr⟩ := h
 have ho := Dm bd K.d id conf n0 so rs [] hn0 hl0 hdk.ok hdead h0 hc.snap hc.log ZY (fun m hm => ⟨(hc.szs m hm).1, by have := (hc.szs m hm).2; omega⟩)
  (fun p hp => ⟨(hc.szr p hp).1, (hc.szr p hp).2.1, by have := (hc.szr p hp).2.2; omega⟩) (fun k => hc.lay k)
 refine FnH.mono ho ?_
 rintro r H ⟨bk, bj, rfl, rfl⟩
 have hN2 : Lj n0 so rs = Qp K.N := by
  unfold Lj
  split
  ·rename_i hnn
   obtain ⟨rfl, rfl⟩ := hnn
   rw [hc.same]
   exact hw.symm
  ·exact hc.same.symm
 have hod : ZN K.d (rs.map ZP) [] = K.d := if_pos rfl
 refine ⟨bk, bj, ⟨rs.length, Qp K.N, K.d⟩, rfl, by rw [hN2, hod], ⟨⟨so, rs, ?_, rfl⟩, hsy, hdead, hdk, hNid, hszw, hrw⟩, rfl, rfl⟩
 exact ⟨hc.snap, hc.log, hc.stop, hc.len, hc.szs, hc.szr, hc.lay, hc.same⟩
end Go.Proofs.YtjbokbikkcfjjaaGreat
namespace Go.Proofs.YtjbokbikkcfjjaaGreat
open Go.Cap
instance : Inhabited Dk := ⟨⟨0, 0, false, [], 0, [], 0⟩⟩
instance : Inhabited Kp := ⟨⟨0, default, default⟩⟩
structure Gp where
 conf : Int
 ks : List Kp
 aw : List Bool
 way : List Ms
def Gp.k (g : Gp) (i : Nat) : Kp := g.ks.getD i default
def isI (i : Int) : Prop := 0 ≤ i ∧ i < 5
instance (i : Int) : Decidable (isI i) := by unfold isI; infer_instance
def Q9 (g : Gp) (i : Int) : Bool := decide (isI i) && (!(g.aw.getD i.toNat false) && !(g.k i.toNat).d.dead)
def didG (g : Gp) (i : Nat) (t : Nd) (l : List Ms) : Gp :=
 { g with ks := g.ks.set i (Qw (g.k i) t 0).1, way := g.way ++ (if (Qw (g.k i) t 0).2 = 0 then l else []) }
def X8 (g : Gp) (i : Int) : Gp := if Q9 g i then didG g i.toNat (Xh (g.k i.toNat).N).1 (Xh (g.k i.toNat).N).2 else g
def XS (g : Gp) (m : Ms) : Gp := if Q9 g m.to then didG g m.to.toNat (Xa (g.k m.to.toNat).N m).1 (Xa (g.k m.to.toNat).N m).2 else g
def Bs (g : Gp) (k : Int) : Prop := 0 ≤ k ∧ k < g.way.length
instance (g : Gp) (k : Int) : Decidable (Bs g k) := by unfold Bs; infer_instance
def Cs (g : Gp) (i : Int) (b : Bool) : Gp := if isI i then { g with aw := g.aw.set i.toNat b } else g
def Je (g : Gp) (k : Nat) : Gp := (List.range k).foldl (fun g (i : Nat) => X8 g (i : Int)) g
def XJ (g : Gp) : Gp := Je (g.way.foldl XS { g with way := [] }) 5
def Yf (g : Gp) : Nat → Gp
 | 0 => g
 | n + 1 => XJ (Yf g n)
def Up (n : Nd) (index term : Int) : Int := if 0 ≤ index - n.base - 1 ∧ index - n.base - 1 < n.log.length ∧ (n.log.getD (index - n.base - 1).toNat default).term = term then 0 else 22
def YB (i : Nat) (index term : Int) : Nat → Gp → Gp × Int
 | 0, g => (g, if index ≤ (g.k i).N.commit then Up (g.k i).N index term else 22)
 | f + 1, g => if index ≤ (g.k i).N.commit then (g, Up (g.k i).N index term) else YB i index term f (XJ g)
def Vm (g : Gp) (i : Nat) (t : Nd) (e : Int) : Gp := { g with ks := g.ks.set i (Qw (g.k i) t e).1 }
def BQ (g : Gp) (i : Int) (t : Nd) (index e : Int) : Gp × Int :=
 if ¬ (Qw (g.k i.toNat) t e).2 = 0 then (Vm g i.toNat t e, (Qw (g.k i.toNat) t e).2)
 else YB i.toNat index ((Vm g i.toNat t e).k i.toNat).N.term 40 (Vm g i.toNat t e)
def XM (g : Gp) (i : Int) : Int := if ¬ isI i then 2 else if ¬ Q9 g i = true then 22 else 0
def doG (g : Gp) (i : Int) (cmd : List UInt8) : Gp × Int :=
 if ¬ XM g i = 0 then (g, XM g i) else BQ g i (QT (g.k i.toNat).N cmd).1 (QT (g.k i.toNat).N cmd).2.1 (QT (g.k i.toNat).N cmd).2.2
def Ye (n : Nd) : List (List UInt8) := ((n.log.take (max (min (n.commit - n.base) n.log.length) 0).toNat).map (·.cmd)).filter (fun c => !c.isEmpty)
structure KI (K : Kp) : Prop where
 d : DkR K.d
 n0 : 0 ≤ K.n
 n1 : K.n ≤ 16
theorem GC {n : Int} (d : Dk) (x : List UInt8) (h0 : 0 ≤ n) (h1 : n < 16) : 0 ≤ (XZ n d x).1 ∧ (XZ n d x).1 ≤ 16 := by
 rcases ID n d x with h | h <;> omega
theorem IB (n : Int) (d : Dk) (x : List UInt8) (h : (Xq n d x).2.2 = 0) : (Xq n d x).1 = 0 := by
 unfold Xq at h ⊢
 simp only at h ⊢
 split
 ·rfl
 ·rename_i hc
  rw [if_neg hc] at h
  exact absurd h hc
theorem Rv {K : Kp} (h : KI K) (x : List UInt8) : KI (Xj K x).1 ∧ (Xj K x).1.N = K.N := by
 have h0 := h.n0
 have h1 := h.n1
 obtain ⟨⟨na, da, ea⟩, hwa⟩ : ∃ a, Jc K x = a := ⟨_, rfl⟩
 have hda : DkR da ∧ 0 ≤ na ∧ na ≤ 16 := by
  have : DkR (Jc K x).2.1 ∧ 0 ≤ (Jc K x).1 ∧ (Jc K x).1 ≤ 16 := by
   unfold Jc; split
   ·rename_i hlt
    exact ⟨h.d.jadd x, GC _ _ h0 hlt⟩
   ·exact ⟨h.d, h0, h1⟩
  rw [hwa] at this; exact this
 unfold Xj
 rw [hwa]
 simp only
 split
 ·exact ⟨⟨hda.1, hda.2.1, hda.2.2⟩, rfl⟩
 ·have hs := hda.1.jsnap (n := na) (Qq K.N 0)
  split
  ·rcases GA na da (Qq K.N 0) with e | e
   ·exact ⟨⟨hs, by simp only [e]; exact hda.2.1, by simp only [e]; exact hda.2.2⟩, rfl⟩
   ·exact ⟨⟨hs, by simp only [e]; omega, by simp only [e]; omega⟩, rfl⟩
  ·rename_i hz
   have hz' := IB na da (Qq K.N 0) (Classical.not_not.1 hz)
   have := GC (n := (Xq na da (Qq K.N 0)).1) (Xq na da (Qq K.N 0)).2.1 x (by omega) (by omega)
   exact ⟨⟨hs.jadd x, this.1, this.2⟩, rfl⟩
theorem Gy {K : Kp} (h : KI K) (t : Nd) (e : Int) : KI (Qw K t e).1 ∧ (Qw K t e).1.N = if (Qw K t e).2 = 0 then t else K.N := by
 unfold Qw
 split
 ·rename_i he
  exact ⟨h, rfl⟩
 ·split
  ·exact ⟨⟨h.d, h.n0, h.n1⟩, rfl⟩
  ·obtain ⟨h1, h2⟩ := Rv h (Qq t (Qn K.N t))
   simp only
   split
   ·exact ⟨⟨h1.d, h1.n0, h1.n1⟩, rfl⟩
   ·exact ⟨h1, h2⟩
structure PK (P : Nat → En → Prop) : Prop extends PO P where
 sz : ∀ i e, P i e → w64 e.term ∧ w64 e.conf ∧ e.cmd.length ≤ 60000
 rec_ : ∀ l : List En, l.length ≤ 5000 → (∀ i e, l[i]? = some e → P i e) → (l.flatMap XQ).length ≤ 524000
section
variable {P : Nat → En → Prop} {n : Nd} {τ l : Nat}
theorem NB.sz (hP : PK P) (h : NB P n τ l) (ht : τ ≤ 100000) (hl : l ≤ 5000) : Sz n := by
 have hb := h.base
 have hbt := h.baseTerm
 have h1 := h.term0
 have h2 := h.term1
 have h3 := h.vote0
 have h4 := h.vote1
 have h5 := h.conf0
 have h6 := h.conf1
 have h7 := h.com0
 have h8 := h.com1
 have h9 := h.len
 refine ⟨⟨by omega, by omega⟩, ⟨by omega, by omega⟩, ⟨by omega, by omega⟩, ⟨by omega, by omega⟩, ⟨by omega, by omega⟩, ⟨by omega, by omega⟩, by rw [h.snap]; simp, by omega, fun e he => ?_⟩
 obtain ⟨i, hi⟩ := List.mem_iff_getElem?.1 he
 exact hP.sz i e (h.ents i e hi)
theorem NB.rec_ (hP : PK P) (h : NB P n τ l) (hl : l ≤ 5000) : (Qq n 0).length ≤ 524100 := by
 have h1 := Zg (Xc n 0)
 have h2 : (Xc n 0).length = 8 := rfl
 have h3 := hP.rec_ n.log (by have := h.len; omega) h.ents
 have h5 : (Zl n.snap).length ≤ 10 := by rw [h.snap, Zl, if_pos rfl]; exact (Xi 0).2
 unfold Qq
 simp only [List.length_append, List.drop_zero]
 omega
end
structure GB (P : Nat → En → Prop) (g : Gp) (τ l u : Nat) : Prop where
 ks : g.ks.length = 5
 aw : g.aw.length = 5
 ki : ∀ i, i < 5 → KI (g.k i)
 id : ∀ i : Nat, i < 5 → (g.k i).N.id = i
 nb : ∀ i, i < 5 → NB P (g.k i).N τ l
 way : ∀ m ∈ g.way, MB P m τ l
 many : g.way.length ≤ 5 * (u + l)
 fuel : 5 * l + (g.ks.map fun K => pot K.N).sum ≤ u
 tau : τ ≤ u
theorem LV {α : Type} (f : α → Nat) : ∀ (l : List α) (i : Nat) (x : α) (h : i < l.length), (List.map f (l.set i x)).sum + f (l[i]) = (l.map f).sum + f x
 | [], i, x, h => by simp at h
 | a :: l, 0, x, h => by simp; omega
 | a :: l, i + 1, x, h => by
  have := LV f l i x (by simpa using h)
  simp only [List.set_cons_succ, List.map_cons, List.sum_cons, List.getElem_cons_succ]
  omega
section
variable {P : Nat → En → Prop} {g : Gp} {τ l u : Nat}
theorem Gp.k_set {g : Gp} {i j : Nat} {K : Kp} {w : List Ms} (hj : j < g.ks.length) : Gp.k { g with ks := g.ks.set i K, way := w } j = if i = j then K else g.k j := by
 unfold Gp.k
 simp only [List.getD_eq_getElem?_getD, List.getElem?_set]
 by_cases h : i = j
 ·subst h; simp [hj]
 ·simp [h]
theorem GB.did (h : GB P g τ l u) {i : Nat} (hi : i < 5) {K' : Kp} {out : List Ms} {τ' c : Nat} (hK : KI K') (hid : K'.N.id = i) (hτ : τ ≤ τ') (hc : τ' ≤ τ + c)
  {b : Nat} (hw : Yz P (g.k i).N K'.N out τ' l c b) (hb : g.way.length + b ≤ 5 * (u + l) + 5 * c) : ∃ l', GB P { g with ks := g.ks.set i K', way := g.way ++ out } τ' l' (u + c) ∧ l ≤ l' ∧ out.length + 5 * l ≤ 5 * l' + b := by
 obtain ⟨d, h1, h2, h3, h4⟩ := hw
 have hil : i < g.ks.length := by rw [h.ks]; exact hi
 refine ⟨l + d, ⟨by simp [h.ks], h.aw, fun j hj => ?_, fun j hj => ?_, fun j hj => ?_, fun m hm => ?_, by simp only [List.length_append]; omega, ?_, by have := h.tau; omega⟩, by omega, by omega⟩
 ·rw [Gp.k_set (by rw [h.ks]; exact hj)]; split
  ·exact hK
  ·exact h.ki j hj
 ·rw [Gp.k_set (by rw [h.ks]; exact hj)]; split
  ·rename_i e; rw [hid, e]
  ·exact h.id j hj
 ·rw [Gp.k_set (by rw [h.ks]; exact hj)]; split
  ·exact h1
  ·exact (h.nb j hj).le hτ (by omega)
 ·rcases List.mem_append.1 hm with hm | hm
  ·exact (h.way m hm).le hτ (by omega)
  ·exact h3 m hm
 ·have := LV (fun K => pot K.N) g.ks i K' hil
  have hk : g.ks[i] = g.k i := by unfold Gp.k; rw [List.getD_eq_getElem?_getD, List.getElem?_eq_getElem hil, Option.getD_some]
  rw [hk] at this
  have hf := h.fuel
  simp only at this ⊢
  omega
theorem GB.didG (h : GB P g τ l u) {i : Nat} (hi : i < 5) {t : Nd} {out : List Ms} {τ' c : Nat} (hid : t.id = i) (hτ : τ ≤ τ') (hc : τ' ≤ τ + c)
  {b : Nat} (hw : Yz P (g.k i).N t out τ' l c b) (hb : g.way.length + b ≤ 5 * (u + l) + 5 * c) : ∃ l', GB P (didG g i t out) τ' l' (u + c) ∧ l ≤ l' ∧ (didG g i t out).way.length + 5 * l ≤ g.way.length + 5 * l' + b := by
 obtain ⟨h1, h2⟩ := Gy (h.ki i hi) t 0
 unfold Go.Proofs.YtjbokbikkcfjjaaGreat.didG
 by_cases he : (Qw (g.k i) t 0).2 = 0
 ·rw [if_pos he] at h2 ⊢
  obtain ⟨l', a1, a2, a3⟩ := h.did hi h1 (by rw [h2]; exact hid) hτ hc (by rw [h2]; exact hw) hb
  exact ⟨l', a1, a2, by simp only [List.length_append]; omega⟩
 ·rw [if_neg he] at h2 ⊢
  obtain ⟨l', a1, a2, a3⟩ := h.did (out := []) (b := b) hi h1 (by rw [h2]; exact h.id i hi) hτ hc (by rw [h2]; exact ⟨0, (h.nb i hi).le hτ (Nat.le_refl _), by omega, by simp, by simp⟩) hb
  exact ⟨l', a1, a2, by simp only [List.append_nil]; omega⟩
theorem XC {i : Int} (h : isI i) : i.toNat < 5 ∧ ((i.toNat : Nat) : Int) = i := by unfold isI at h; omega
theorem YD {i : Int} (h : Q9 g i = true) : isI i := by
 unfold Q9 at h
 simp only [Bool.and_eq_true, decide_eq_true_eq] at h
 exact h.1
theorem GB.tick (hP : PO P) (h : GB P g τ l u) (ht : τ + 1 ≤ 100000) (i : Int) : ∃ l', GB P (X8 g i) (τ + 1) l' (u + 1) ∧ l ≤ l' := by
 unfold X8
 split
 ·rename_i hth
  obtain ⟨h5, hc⟩ := XC (YD hth)
  obtain ⟨l', h1, h2, _⟩ := h.didG h5 ((VK _).trans (h.id _ h5)) (by omega) (Nat.le_refl _) ((h.nb _ h5).tick hP ht) (by have := h.many; omega)
  exact ⟨l', h1, h2⟩
 ·exact ⟨l, ⟨h.ks, h.aw, h.ki, h.id, fun i hi => (h.nb i hi).le (by omega) (Nat.le_refl _), fun m hm => (h.way m hm).le (by omega) (Nat.le_refl _), by have := h.many; omega, by have := h.fuel; omega, by have := h.tau; omega⟩, Nat.le_refl _⟩
theorem GB.take (hP : PO P) (h : GB P g τ l u) (ht : τ ≤ 100000) {m : Ms} (hm : MB P m τ l) (hb : g.way.length + 1 ≤ 5 * (u + l)) : ∃ l', GB P (XS g m) τ l' u ∧ l ≤ l' ∧ (XS g m).way.length + 5 * l ≤ g.way.length + 5 * l' + 1 := by
 unfold XS
 split
 ·rename_i hth
  obtain ⟨h5, hc⟩ := XC (YD hth)
  exact h.didG h5 ((VL _ _).trans (h.id _ h5)) (Nat.le_refl _) (Nat.le_refl _) ((h.nb _ h5).take hP hm ht) (by omega)
 ·exact ⟨l, h, Nat.le_refl _, by omega⟩
theorem GB.out (h : GB P g τ l u) {w : List Ms} (hw : ∀ m ∈ w, MB P m τ l) (hb : w.length ≤ 5 * (u + l)) : GB P { g with way := w } τ l u := { h with way := hw, many := hb }
theorem GB.takes (hP : PO P) (ht : τ ≤ 100000) : ∀ (ms : List Ms) {g : Gp} {l : Nat}, GB P g τ l u → (∀ m ∈ ms, MB P m τ l) → g.way.length + ms.length ≤ 5 * (u + l) → ∃ l', GB P (ms.foldl XS g) τ l' u ∧ l ≤ l'
 | [], g, l, h, _, _ => ⟨l, h, Nat.le_refl _⟩
 | m :: ms, g, l, h, hm, hb => by
  rw [List.length_cons] at hb
  obtain ⟨l1, h1, h2, h3⟩ := h.take hP ht (hm m List.mem_cons_self) (by omega)
  obtain ⟨l2, h4, h5⟩ := GB.takes hP ht ms h1 (fun x hx => (hm x (List.mem_cons_of_mem _ hx)).le (Nat.le_refl _) h2) (by omega)
  exact ⟨l2, h4, by omega⟩
theorem J7 (g : Gp) (k : Nat) : Je g (k + 1) = X8 (Je g k) (k : Int) := by
 unfold Je
 rw [List.range_succ, List.foldl_append]
 rfl
theorem GB.ticks (hP : PO P) (h : GB P g τ l u) : ∀ k : Nat, τ + k ≤ 100000 → ∃ l', GB P (Je g k) (τ + k) l' (u + k) ∧ l ≤ l'
 | 0, _ => ⟨l, h, Nat.le_refl _⟩
 | k + 1, ht => by
  obtain ⟨l1, h1, h2⟩ := GB.ticks hP h k (by omega)
  rw [J7]
  obtain ⟨l2, h3, h4⟩ := h1.tick hP (by omega) (k : Int)
  exact ⟨l2, h3, by omega⟩
theorem GB.round (hP : PO P) (h : GB P g τ l u) (ht : τ + 5 ≤ 100000) : ∃ l', GB P (XJ g) (τ + 5) l' (u + 5) ∧ l ≤ l' := by
 obtain ⟨l1, h1, h2⟩ := GB.takes hP (by omega) g.way (h.out (w := []) (by simp) (by simp)) h.way (by simpa using h.many)
 obtain ⟨l2, h3, h4⟩ := h1.ticks hP 5 ht
 exact ⟨l2, h3, by omega⟩
theorem GB.calm (hP : PO P) (h : GB P g τ l u) : ∀ k : Nat, τ + 5 * k ≤ 100000 → ∃ l', GB P (Yf g k) (τ + 5 * k) l' (u + 5 * k) ∧ l ≤ l'
 | 0, _ => ⟨l, h, Nat.le_refl _⟩
 | k + 1, ht => by
  obtain ⟨l1, h1, h2⟩ := GB.calm hP h k (by omega)
  obtain ⟨l2, h3, h4⟩ := h1.round hP (by omega)
  exact ⟨l2, h3, by omega⟩
theorem GB.le {u' : Nat} (h : GB P g τ l u) (hu : u ≤ u') : GB P g τ l u' := { h with fuel := Nat.le_trans h.fuel hu, tau := Nat.le_trans h.tau hu, many := by have := h.many; omega }
end
end Go.Proofs.YtjbokbikkcfjjaaGreat
namespace Go.Proofs.YtjbokbikkcfjjaaGreat
open Go.Cap
attribute [local irreducible] POp Qf TO EOp Sim FnH T.gp
def tG : TypeId := 72
structure Ad where
 bd : Nat
 bk : Nat
 bj : Nat
def mH (a : Ad) (K : Kp) : Qc := KpH a.bk a.bj a.bd K
def gM (a : Nat → Ad) (k : Nat → Kp) : Qc := (List.range 5).flatMap fun j => mH (a j) (k j)
def gO (a : Nat → Ad) (k : Nat → Kp) (i : Nat) : Qc := ((List.range 5).filter (fun j => !Nat.beq j i)).flatMap fun j => mH (a j) (k j)
def upA {α : Type} (f : Nat → α) (i : Nat) (x : α) : Nat → α := fun j => if j = i then x else f j
theorem Vj (a : Nat → Ad) (k : Nat → Kp) {i : Nat} (hi : i < 5) : (gM a k).Perm (mH (a i) (k i) ++ gO a k i) := by
 have h : ∀ i : Fin 5, (List.range 5).Perm (i.val :: (List.range 5).filter (fun j => !Nat.beq j i.val)) := by decide
 exact (h ⟨i, hi⟩).flatMap_right _
theorem Tw (a a' : Nat → Ad) (k k' : Nat → Kp) (i : Nat) (h : ∀ j, j < 5 → ¬ j = i → a' j = a j ∧ k' j = k j) : gO a' k' i = gO a k i := by
 have h1 : ∀ l : List Nat, (∀ j ∈ l, a' j = a j ∧ k' j = k j) → (l.flatMap fun j => mH (a' j) (k' j)) = l.flatMap fun j => mH (a j) (k j) := by
  intro l
  induction l with
  | nil => intro _; rfl
  | cons j l ih =>
   intro hl
   rw [List.flatMap_cons, List.flatMap_cons, ih fun x hx => hl x (List.mem_cons_of_mem _ hx), (hl j List.mem_cons_self).1, (hl j List.mem_cons_self).2]
 refine h1 _ fun j hj => ?_
 obtain ⟨h2, h3⟩ := List.mem_filter.1 hj
 exact h j (List.mem_range.1 h2) (fun e => by subst e; simp at h3)
theorem Dv (a a' : Nat → Ad) (k k' : Nat → Kp) {i : Nat} (hi : i < 5) (h : ∀ j, j < 5 → ¬ j = i → a' j = a j ∧ k' j = k j) : (mH (a' i) (k' i) ++ gO a k i).Perm (gM a' k') := by
 rw [← Tw a a' k k' i h]
 exact (Vj a' k' hi).symm
theorem Dw (a : Nat → Ad) (k k' : Nat → Kp) (h : ∀ j, j < 5 → k' j = k j) : gM a k' = gM a k := by
 have h0 : ∀ l : List Nat, (∀ j ∈ l, k' j = k j) → (l.flatMap fun j => mH (a j) (k' j)) = l.flatMap fun j => mH (a j) (k j) := by
  intro l
  induction l with
  | nil => intro _; rfl
  | cons j l ih => intro hl; rw [List.flatMap_cons, List.flatMap_cons, ih fun x hx => hl x (List.mem_cons_of_mem _ hx), hl j List.mem_cons_self]
 exact h0 _ fun j hj => h j (List.mem_range.1 hj)
def gC (conf : Int) (a : Nat → Ad) (bm : Nat) (wv : Value) : List T :=
 [ei conf, pW (a 0).bd, pW (a 0).bk, pW (a 1).bd, pW (a 1).bk, pW (a 2).bd, pW (a 2).bk, pW (a 3).bd, pW (a 3).bk, pW (a 4).bd, pW (a 4).bk, .v (.map (some bm)), .v wv]
theorem AM {conf : Int} {a : Nat → Ad} {bm : Nat} {wv : Value} {i : Int} (h : isI i) : (gC conf a bm wv)[0 + 1 + i.toNat * 2 + 0]? = some (pW (a i.toNat).bd) := by
 rcases five h.1 h.2 with rfl | rfl | rfl | rfl | rfl <;> rfl
theorem EF {conf : Int} {a : Nat → Ad} {bm : Nat} {wv : Value} {i : Int} (h : isI i) : (gC conf a bm wv)[0 + 1 + i.toNat * 2 + 1]? = some (pW (a i.toNat).bk) := by
 rcases five h.1 h.2 with rfl | rfl | rfl | rfl | rfl <;> rfl
theorem TW {conf : Int} {a : Nat → Ad} {bm : Nat} {wv : Value} {i : Int} (h : isI i) : Xs (gC conf a bm wv) (0 + 1 + i.toNat * 2) 2 [pW (a i.toNat).bd, pW (a i.toNat).bk] := by
 rcases five h.1 h.2 with rfl | rfl | rfl | rfl | rfl <;> exact zt
def gH (bg : Nat) (conf : Int) (a : Nat → Ad) (bm : Nat) (es : List (Value × T × Nat)) (clk : Nat) (W : Qc) (wv : Value) (k : Nat → Kp) : Qc :=
 (bg, ⟨tG, gC conf a bm wv, 13⟩) :: (bm, ⟨.map es clk, [], 0⟩) :: (W ++ gM a k)
structure D1 (aw : List Bool) (es : List (Value × T × Nat)) : Prop where
 keys : Yj (.int .i64) es
 get : ∀ i : Nat, i < 5 → (Yc es (.int .i64 (i : Int))).getD (.v (.bool false)) = eB (aw.getD i false)
def IsG (bg : Nat) (g : Gp) (H : Qc) : Prop := ∃ a bm es clk W wv, D1 g.aw es ∧ OM g.way wv W ∧ H = gH bg g.conf a bm es clk W wv g.k
theorem Cg {b : Bool} : ∃ (p : Prop) (ip : Decidable p), b = @decide p ip := ⟨b = true, inferInstance, by cases b <;> rfl⟩
theorem JI (bg : Nat) (g : Gp) (H : Qc) (i : Int) (hG : IsG bg g H) : FnH Tryz.prog 41 [pW bg, ei i] H (fun r H' => r = .v (.bool (decide (isI i))) ∧ H' = H) := by
 obtain ⟨a, bm, es, clk, W, wv, hA, hO, rfl⟩ := hG
 refine fe Tryz.func41 fun S0 w0 => ?_
 show Sim _ _ [(0, pW bg), (1, ei i)] ((bg, ⟨tG, gC g.conf a bm wv, 13⟩) :: (bm, ⟨.map es clk, [], 0⟩) :: (W ++ gM a g.k)) _
 by_cases hi : isI i
 ·have hm := TW (conf := g.conf) (a := a) (bm := bm) (wv := wv) hi
  have hp : 0 ≤ i ∧ i < 5 := hi
  refine zC ?_
  refine cr <| s_ Qb <| zC ?_
  refine cr <| s_ Qa <| s_ Vo <| s_ Qa <| gT (fun hg => Qa) ?_
  refine gT (fun hg => QU (hx := u_ hg)) ?_
  refine s_ XX <| s_ Qa <| gT (fun hg => Qa) ?_
  refine gT (fun hg => Qa) ?_
  refine gT (fun hg => Qe (hx := u_ hg)) ?_
  refine gT (fun hg => Qd (hx := u_ hg)) ?_
  refine gT (fun hg => YX (hx := u_ hg) (hy := u_ hg)) ?_
  refine gT (fun hg => Xf (hx := u_ hg) (hc := by first | assumption | exact zt)) ?_
  refine gT (fun hg => ZF 2 [_, _]) ?_
  refine gT (fun hg => Tb Tryz.eqGuardType68 (hx := u_ hg) (hy := u_ hg)) ?_
  refine s_ XX <| s_ Qb <| zC ?_
  refine zR ?_
  refine rh kR ⟨rfl, rfl⟩ ?_
  exact Le.of_eq (by show T.v (.bool (decide _)) = _; simp [hi, hp.1, hp.2])
 ·have hno : ¬ (0 ≤ i ∧ i < 5) := hi
  refine zC ?_
  refine cr <| s_ Qb <| zC ?_
  refine cr <| s_ Qa <| s_ Vo <| s_ Qa <| gT (fun hg => Qa) ?_
  refine gT (fun hg => QU (hx := u_ hg)) ?_
  refine s_ XX <| s_ Qa ?_
  (repeat (refine gT (p := 0 ≤ i ∧ i < 5) (d := .v (.bool (decide False))) (fun hg => absurd hg hno) ?_))
  refine s_ XX <| s_ Qb <| zC ?_
  refine zR ?_
  refine rh kR ⟨rfl, rfl⟩ ?_
  exact Le.of_eq (by show T.v (.bool (decide _)) = _; simp [hi])
theorem UB {x y : Nat × Blk} {W M A B : Qc} (h : M.Perm (A ++ B)) : (x :: y :: (W ++ M)).Perm (A ++ (x :: y :: (W ++ B))) := by
 have h1 : (W ++ M).Perm (A ++ (W ++ B)) := (h.append_left W).trans (by rw [← List.append_assoc, ← List.append_assoc]; exact List.perm_append_comm.append_right B)
 have h2 : (x :: y :: (W ++ M)).Perm (x :: y :: (A ++ (W ++ B))) := (h1.cons y).cons x
 exact h2.trans (((List.perm_middle (a := y) (l₁ := A) (l₂ := W ++ B)).symm.cons x).trans (List.perm_middle (a := x) (l₁ := A) (l₂ := y :: (W ++ B))).symm)
def kB (a : Ad) (K : Kp) : Qc := [(a.bk, ⟨tK, pW a.bj :: Qv K.N (.sl false (K.N.log.map een)), 23⟩), (a.bj, ⟨tJ, [pW a.bd, ei K.n], 2⟩)]
theorem Bl (a : Ad) (K : Kp) (B : Qc) : (mH a K ++ B).Perm (DkH a.bd K.d ++ (kB a K ++ B)) := by
 show (kB a K ++ (DkH a.bd K.d ++ B)).Perm _
 rw [← List.append_assoc, ← List.append_assoc]
 exact List.perm_append_comm.append_right B
theorem Bw (a : Nat → Ad) (k : Nat → Kp) {i : Nat} (hi : i < 5) : (gM a k).Perm (DkH (a i).bd (k i).d ++ (kB (a i) (k i) ++ gO a k i)) := (Vj a k hi).trans (Bl _ _ _)
theorem IsG.nat {i : Int} (h : isI i) : (((i.toNat : Nat) : Int)) = i := by have := h.1; omega
theorem U3 (bg : Nat) (g : Gp) (H : Qc) (i : Int) (hG : IsG bg g H) : FnH Tryz.prog 46 [pW bg, ei i] H (fun r H' => r = eB (Q9 g i) ∧ H' = H) := by
 have hI := JI bg g H i hG
 obtain ⟨a, bm, es, clk, W, wv, hA, hO, rfl⟩ := hG
 refine fe Tryz.func46 fun S0 w0 => ?_
 show Sim _ _ [(0, pW bg), (1, ei i)] ((bg, ⟨tG, gC g.conf a bm wv, 13⟩) :: (bm, ⟨.map es clk, [], 0⟩) :: (W ++ gM a g.k)) _
 have hkeys := hA.keys
 refine zC ?_
 refine cr <| s_ Qb <| zC ?_
 refine cr <| s_ Qa <| s_ Qa ?_
 refine QI hI (fun r H' ⟨hr1, hr2⟩ => ?_)
 subst hr1 hr2
 by_cases hi : isI i
 ·have hl := hA.get i.toNat (XC hi).1
  rw [IsG.nat hi] at hl
  obtain ⟨q, iq, hq⟩ := Cg (b := g.aw.getD i.toNat false)
  rw [hq] at hl
  refine s_ Qa <| gT (fun hg => Qa) ?_
  refine gT (fun hg => Qe (hx := u_ hg)) ?_
  refine gT (fun hg => Qd (hx := u_ hg)) ?_
  refine gT (fun hg => Ql (hx := u_ hg)) ?_
  refine gT (fun hg => Qa) ?_
  refine gT (d := .v (.bool (decide q))) (fun hg => by show POp _ _ _ _ (eB (decide q)); rw [← hl]; exact TS hkeys (hx := u_ hg) (hy := u_ hg)) ?_
  refine gT (fun hg => YA (hx := u_ hg)) ?_
  refine s_ XX <| s_ Qa ?_
  by_cases hq' : q
  ·have hno : ¬ (isI i ∧ ¬ q) := fun h => h.2 hq'
   (repeat (refine gT (p := isI i ∧ ¬ q) (d := .v (.bool (decide False))) (fun hg => absurd hg hno) ?_))
   refine s_ XX <| s_ Qb <| zC ?_
   refine zR ?_
   refine rh kR ⟨rfl, rfl⟩ ?_
   exact Le.of_eq (by show T.v (.bool (decide _)) = T.v (.bool (Q9 g i)); unfold Q9; rw [hq]; simp [hq'])
  ·have hyes : isI i ∧ ¬ q := ⟨hi, hq'⟩
   have hd := GS (a i.toNat).bd (g.k i.toNat).d
   have hcd := AM (conf := g.conf) (a := a) (bm := bm) (wv := wv) hi
   have hp : 0 ≤ i ∧ i < 5 := hi
   have hperm := UB (x := (bg, ⟨tG, gC g.conf a bm wv, 13⟩)) (y := (bm, ⟨.map es clk, [], 0⟩)) (W := W) (Bw a g.k (XC hi).1)
   refine gT (fun hg => Qa) ?_
   refine gT (fun hg => Qa) ?_
   refine gT (fun hg => Qe (hx := u_ hg)) ?_
   refine gT (fun hg => Qd (hx := u_ hg)) ?_
   refine gT (fun hg => YX (hx := u_ hg) (hy := u_ hg)) ?_
   refine gT (fun hg => Qd (hx := u_ hg)) ?_
   refine gT (fun hg => Ql (hx := u_ hg) (hd := by first | rfl | assumption)) ?_
   refine gT (fun hg => Qe (hx := u_ hg)) ?_
   (first | refine gT (fun hg => Lh (hx := u_ hg)) ?_ | refine gT (fun hg => Qd (hx := u_ hg)) ?_)
   refine Du (p := isI i ∧ ¬ q) hyes hd hperm (fun r H' ⟨hr1, hr2⟩ => ?_) (ha' := QK (u_ hyes) XE)
   subst hr1 hr2
   obtain ⟨q2, iq2, hq2⟩ := Cg (b := (g.k i.toNat).d.dead)
   rw [hq2]
   refine gT (p := isI i ∧ ¬ q) (fun hg => YA (p := q2)) ?_
   refine s_ XX <| s_ Qb <| zC ?_
   refine zR ?_
   refine rhp hperm.symm kR ⟨rfl, rfl⟩ ?_
   exact Le.of_eq (by show T.v (.bool (decide _)) = T.v (.bool (Q9 g i)); unfold Q9; rw [hq, hq2]; simp [hi, hq'])
 ·refine s_ Qa ?_
  (repeat (refine gT (p := isI i) (d := .v (.bool (decide False))) (fun hg => absurd hg hi) ?_))
  refine s_ XX <| s_ Qa ?_
  have hno : ¬ (isI i ∧ False) := fun h => h.2
  (repeat (refine gT (p := isI i ∧ False) (d := .v (.bool (decide False))) (fun hg => absurd hg hno) ?_))
  refine s_ XX <| s_ Qb <| zC ?_
  refine zR ?_
  refine rh kR ⟨rfl, rfl⟩ ?_
  exact Le.of_eq (by show T.v (.bool (decide _)) = T.v (.bool (Q9 g i)); unfold Q9; simp [hi])
theorem Dq (bg : Nat) (g : Gp) (H : Qc) (e : Int) (l : List Ms) (hl : g.way.length + l.length ≤ 1000000) (hG : IsG bg g H) : FnH Tryz.prog 48 [pW bg, ei e, mss l] H (fun r H' => r = .tup [] ∧ IsG bg { g with way := g.way ++ (if e = 0 then l else []) } H') := by
 obtain ⟨a, bm, es, clk, W, wv, hA, hO, rfl⟩ := hG
 obtain ⟨p, c, rfl⟩ := hO.len
 refine fe Tryz.func48 fun S0 w0 => ?_
 show Sim _ _ [(0, pW bg), (1, ei e), (2, mss l)] ((bg, ⟨tG, gC g.conf a bm _, 13⟩) :: (bm, ⟨.map es clk, [], 0⟩) :: (W ++ gM a g.k)) _
 refine zC ?_
 refine cr <| s_ Qa <| s_ XF <| zC ?_
 refine ci ?_ ?_
 ·intro he
  have he' : e = 0 := he
  rw [if_pos he']
  refine zC ?_
  refine cr <| s_ Qa <| s_ Qa <| s_ Qe <| s_ Qd <| s_ Ql <| s_ Qa ?_
  refine LE (ho := hO) (A := [_, _]) (B := gM a g.k) (Bj _) (fun v' Hs' ho' => ?_)
  obtain ⟨q, d, rfl⟩ := ho'.len
  refine s_ Qe <| s_ Qd <| Qz ?_
  refine zC ?_
  refine rhn kR ⟨rfl, a, bm, es, clk, Hs', _, hA, (by unfold OM; rw [List.map_append]; exact ho'), rfl⟩ (Le.refl _)
 ·intro he
  have he' : ¬ e = 0 := he
  rw [if_neg he']
  refine zC ?_
  refine rhn kR ⟨rfl, a, bm, es, clk, W, _, hA, (by rw [List.append_nil]; exact hO), rfl⟩ (Le.refl _)
end Go.Proofs.YtjbokbikkcfjjaaGreat
