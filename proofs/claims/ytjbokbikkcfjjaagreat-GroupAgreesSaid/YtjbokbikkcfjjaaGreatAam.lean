/-
  Raft's safety: what happens, step by step, keeps the facts.
-/
import Derived.Test.YtjbokbikkcfjjaaGreatAal
set_option maxRecDepth 16000
set_option maxHeartbeats 8000000
set_option linter.all false
namespace Go.Proofs.YtjbokbikkcfjjaaGreat
namespace Raft
variable {H H' : Xm}
def tAt (l : List En) : Nat → Int
 | 0 => 0
 | k + 1 => (l.getD k default).term
def XL (H : Xm) (T : Int) (l : List En) (k : Nat) : Prop := k = 0 ∨ ∃ S c n, H.cmt S c n ∧ S ≤ T ∧ k ≤ c ∧ AG (H.LL S) l k
theorem XL.up {T T' : Int} {l : List En} {k : Nat} (h : XL H T l k) (hT : T ≤ T') : XL H T' l k := by
 rcases h with h | ⟨S, c, n, h1, h2, h3, h4⟩
 ·exact .inl h
 ·exact .inr ⟨S, c, n, h1, by omega, h3, h4⟩
theorem XL.le {T : Int} {l : List En} {k j : Nat} (h : XL H T l k) (hj : j ≤ k) : XL H T l j := by
 rcases h with h | ⟨S, c, n, h1, h2, h3, h4⟩
 ·exact .inl (by omega)
 ·exact .inr ⟨S, c, n, h1, h2, by omega, h4.le hj⟩
theorem XL.to {T : Int} {l m : List En} {k : Nat} (h : XL H T l k) (hm : AG l m k) : XL H T m k := by
 rcases h with h | ⟨S, c, n, h1, h2, h3, h4⟩
 ·exact .inl h
 ·exact .inr ⟨S, c, n, h1, h2, h3, h4.trans hm⟩
theorem AG.appL {l m x : List En} {k : Nat} (h : AG l m k) : AG (l ++ x) m k :=
 ⟨by rw [List.length_append]; have := h.1; omega, h.2.1, by rw [List.take_append_of_le_length h.1]; exact h.2.2⟩
theorem AG.appR {l m x : List En} {k : Nat} (h : AG l m k) : AG l (m ++ x) k := h.symm.appL.symm
theorem AG.take {l m : List En} {k q : Nat} (h : AG l m k) (hq : k ≤ q) : AG l (m.take q) k := by
 refine ⟨h.1, by rw [List.length_take]; have := h.2.1; omega, ?_⟩
 rw [List.take_take, Nat.min_eq_left hq]; exact h.2.2
theorem AG.takeSelf {l : List En} {q : Nat} (hq : q ≤ l.length) : AG l (l.take q) q := (AG.refl hq).take (Nat.le_refl _)
theorem AG.tAt {l m : List En} {k : Nat} (h : AG l m k) : tAt l k = tAt m k := by
 cases k with
 | zero => rfl
 | succ k =>
  have := h.get (i := k) (Nat.lt_succ_self _)
  simp only [Raft.tAt, List.getD_eq_getElem?_getD, this]
theorem Xj.ag {l m : List En} (hl : Xj H l) (hm : Xj H m) {j : Nat} {a b : En} (h1 : l[j]? = some a) (h2 : m[j]? = some b) (ht : a.term = b.term) : AG l m (j + 1) := by
 have h3 := (hl j a h1).2
 have h4 := (hm j b h2).2
 rw [ht] at h3
 exact h3.trans h4.symm
theorem Xj.agT {l m : List En} (hl : Xj H l) (hm : Xj H m) {k : Nat} (h1 : k ≤ l.length) (h2 : k ≤ m.length) (ht : tAt l k = tAt m k) : AG l m k := by
 cases k with
 | zero => exact AG.zero _ _
 | succ k =>
  have g1 : l[k]? = some l[k] := List.getElem?_eq_getElem (by omega)
  have g2 : m[k]? = some m[k] := List.getElem?_eq_getElem (by omega)
  simp only [tAt, List.getD_eq_getElem?_getD, g1, g2, Option.getD_some] at ht
  exact Xj.ag hl hm g1 g2 ht
theorem Xj.take {l : List En} (hl : Xj H l) (q : Nat) : Xj H (l.take q) := by
 intro j e he
 rw [List.getElem?_take] at he
 split at he
 ·rename_i hj
  obtain ⟨h1, h2⟩ := hl j e he
  have := h2.1
  exact ⟨h1, (h2.symm.take (q := q) (by omega)).symm⟩
 ·cases he
theorem XL.ag (F : Qo H) {T : Int} {l : List En} {k : Nat} (hT : H.led T) (h : XL H T l k) : AG (H.LL T) l k := by
 rcases h with rfl | ⟨S, c, n, h1, h2, h3, h4⟩
 ·exact AG.zero _ _
 ·rcases Int.lt_or_eq_of_le h2 with h | h
  ·have h5 := Zn F (F.wins hT) h1 h
   have h6 := F.cl T hT
   have h7 : AG (H.LL S) (H.LL T) c := h5.trans (h6.1.le (by have := h5.2.1; omega))
   exact (h7.le h3).symm.trans h4
  ·rw [← h]; exact h4
structure Ext (H H' : Xm) : Prop where
 c0 : H'.c0 = H.c0
 bd : H.bd ≤ H'.bd
 led : ∀ t, H.led t → H'.led t
 ld : ∀ t, H.led t → H'.ld t = H.ld t
 EL : ∀ t, H.led t → H'.EL t = H.EL t
 LL : ∀ t, H.led t → AG (H.LL t) (H'.LL t) (H.LL t).length
 CL : ∀ T v c, H.vote T v c → H'.CL T c = H.CL T c
 vote : ∀ T v c, H.vote T v c → H'.vote T v c
 ack : ∀ S v k, H.ack S v k → H'.ack S v k
 cmt : ∀ S k n, H.cmt S k n → H'.cmt S k n
theorem Ext.refl (H : Xm) : Ext H H := ⟨rfl, Nat.le_refl _, fun _ h => h, fun _ _ => rfl, fun _ _ => rfl, fun _ _ => AG.refl (Nat.le_refl _), fun _ _ _ _ => rfl, fun _ _ _ h => h, fun _ _ _ h => h, fun _ _ _ h => h⟩
theorem Ext.trans {H1 H2 H3 : Xm} (a : Ext H1 H2) (b : Ext H2 H3) : Ext H1 H3 :=
 ⟨b.c0.trans a.c0, Nat.le_trans a.bd b.bd, fun t h => b.led t (a.led t h), fun t h => (b.ld t (a.led t h)).trans (a.ld t h), fun t h => (b.EL t (a.led t h)).trans (a.EL t h),
  fun t h => (a.LL t h).trans ((b.LL t (a.led t h)).le (a.LL t h).2.1), fun T v c h => (b.CL T v c (a.vote _ _ _ h)).trans (a.CL T v c h), fun _ _ _ h => b.vote _ _ _ (a.vote _ _ _ h), fun _ _ _ h => b.ack _ _ _ (a.ack _ _ _ h), fun _ _ _ h => b.cmt _ _ _ (a.cmt _ _ _ h)⟩
theorem Xj.ext (E : Ext H H') {l : List En} (h : Xj H l) : Xj H' l := by
 intro j e he
 obtain ⟨h1, h2⟩ := h j e he
 exact ⟨E.led _ h1, h2.trans ((E.LL _ h1).le h2.2.1)⟩
theorem Ext.agLL (E : Ext H H') {S : Int} (h : H.led S) {l : List En} {k : Nat} (ha : AG (H.LL S) l k) : AG (H'.LL S) l k := ((E.LL S h).le ha.1).symm.trans ha
theorem Ext.nagLL (E : Ext H H') {S : Int} (h : H.led S) {l : List En} {k : Nat} (hk : k ≤ (H.LL S).length) (ha : ¬ AG (H.LL S) l k) : ¬ AG (H'.LL S) l k := fun h' => ha (((E.LL S h).le hk).trans h')
theorem XL.ext (F : Qo H) (E : Ext H H') {T : Int} {l : List En} {k : Nat} (h : XL H T l k) : XL H' T l k := by
 rcases h with h | ⟨S, c, n, h1, h2, h3, h4⟩
 ·exact .inl h
 ·exact .inr ⟨S, c, n, E.cmt _ _ _ h1, h2, h3, E.agLL (F.com _ _ _ h1).1 h4⟩
theorem Ext.CLld (F : Qo H) (E : Ext H H') {t : Int} (h : H.led t) : H'.CL t (H'.ld t) = H.CL t (H.ld t) := by
 obtain ⟨v, hv⟩ := Ji (F.wins h)
 rw [E.ld t h]
 exact E.CL t v _ hv
structure LI (H : Xm) (i : Nat) (n : Nd) (l : List En) : Prop where
 led : H.led n.term
 ld : H.ld n.term = i
 log : l = H.LL n.term
 mt : ∀ j, j < 5 → 0 ≤ n.mtch.get j ∧ n.mtch.get j ≤ l.length ∧ ∀ k : Nat, 0 < k → (k : Int) ≤ n.mtch.get j → H.ack n.term j k
 nx : ∀ j, j < 5 → 1 ≤ n.next.get j ∧ n.next.get j ≤ l.length + 1
structure NI (H : Xm) (i : Nat) (n : Nd) (l : List En) : Prop where
 id : n.id = (i : Nat)
 t0 : 0 ≤ n.term
 t1 : n.term ≤ 1073741824
 base : ∃ b : Nat, n.base = b ∧ b ≤ l.length ∧ n.log = l.drop b ∧ n.baseTerm = tAt l b ∧ n.baseConf = QI H.c0 (l.take b)
 com : ∃ c : Nat, n.commit = c ∧ n.base ≤ c ∧ c ≤ l.length ∧ XL H n.term l c
 cons : Xj H l
 terms : ∀ (j : Nat) (e : En), l[j]? = some e → e.term ≤ n.term
 votel : ∀ T c, H.vote T i c → T ≤ n.term
 vote : ∀ c : Nat, H.vote n.term i c ↔ n.vote = c
 stood : ∀ T v, H.vote T v i → T ≤ n.term
 votes0 : 0 ≤ n.votes
 votes1 : n.votes ≤ 31
 sz : ∀ j, j < 5 → 0 ≤ n.next.get j ∧ n.next.get j ≤ H.bd + 1 ∧ 0 ≤ n.mtch.get j ∧ n.mtch.get j ≤ H.bd
 cand : n.role = 1 → l = H.CL n.term i ∧ ¬ (H.led n.term ∧ H.ld n.term = i) ∧ H.vote n.term i i ∧ ∀ j, j < 5 → n.votes.toNat.testBit j = true → H.vote n.term j i
 lead : n.role = 2 → LI H i n l
 acks : ∀ S k, H.ack S i k → S ≤ n.term ∧ (AG (H.LL S) l k ∨ ∃ t, S < t ∧ t ≤ n.term ∧ H.led t ∧ ¬ AG (H.LL S) (H.CL t (H.ld t)) k)
theorem LI.ext (E : Ext H H') {j : Nat} {n : Nd} {l : List En} (hL : ∀ t, H.led t → H.ld t = j → H'.LL t = H.LL t) (h : LI H j n l) : LI H' j n l :=
 ⟨E.led _ h.led, (E.ld _ h.led).trans h.ld, h.log.trans (hL _ h.led h.ld).symm, fun i hi => ⟨(h.mt i hi).1, (h.mt i hi).2.1, fun k h1 h2 => E.ack _ _ _ ((h.mt i hi).2.2 k h1 h2)⟩, h.nx⟩
theorem NI.extG (F : Qo H) (E : Ext H H') {j : Nat} {n : Nd} {l : List En} {v' w' : Int} (hv : ∀ T c, H'.vote T j c → T ≤ n.term) (hvv : ∀ c : Nat, H'.vote n.term j c ↔ v' = c) (hs : ∀ T v, H'.vote T v j → ∃ u, H.vote T u j)
  (hl : ∀ T, H'.led T → H'.ld T = j → H.led T) (ha : ∀ S k, H'.ack S j k → H.ack S j k ∨ S ≤ n.term ∧ AG (H'.LL S) l k) (hL : ∀ t, H.led t → H.ld t = j → H'.LL t = H.LL t) (h : NI H j n l) : NI H' j { n with vote := v', wait := w' } l where
 id := h.id
 t0 := h.t0
 t1 := h.t1
 base := by rw [E.c0]; exact h.base
 com := by
  obtain ⟨c, h1, h2, h3, h4⟩ := h.com
  exact ⟨c, h1, h2, h3, h4.ext F E⟩
 cons := h.cons.ext E
 terms := h.terms
 votel := hv
 vote := hvv
 stood := fun T v hc => by
  obtain ⟨u, hu⟩ := hs T v hc
  exact h.stood T u hu
 votes0 := h.votes0
 votes1 := h.votes1
 sz := fun i hi => by
  have := h.sz i hi
  have := E.bd
  simp only
  omega
 cand := fun hr => by
  obtain ⟨h1, h2, h3, h4⟩ := h.cand hr
  refine ⟨h1.trans (E.CL _ _ _ h3).symm, fun hc => ?_, E.vote _ _ _ h3, fun i hi hb => E.vote _ _ _ (h4 i hi hb)⟩
  have h5 := hl _ hc.1 hc.2
  exact h2 ⟨h5, by rw [← E.ld _ h5]; exact hc.2⟩
 lead := fun hr => by
  have := (h.lead hr).ext E hL
  exact ⟨this.led, this.ld, this.log, this.mt, this.nx⟩
 acks := fun S k hk => by
  rcases ha S k hk with hk | ⟨h1, h2⟩
  ·obtain ⟨h1, h2⟩ := h.acks S k hk
   obtain ⟨h5, h6⟩ := F.ackl _ _ _ hk
   refine ⟨h1, ?_⟩
   rcases h2 with h2 | ⟨t, h2, h3, h4, h7⟩
   ·exact .inl (E.agLL h5 h2)
   ·exact .inr ⟨t, h2, h3, E.led _ h4, by rw [E.CLld F h4]; exact E.nagLL h5 h6 h7⟩
  ·exact ⟨h1, .inl h2⟩
theorem NI.ext (F : Qo H) (E : Ext H H') {j : Nat} {n : Nd} {l : List En} (hv : ∀ T c, H'.vote T j c → H.vote T j c) (hs : ∀ T v, H'.vote T v j → ∃ u, H.vote T u j)
  (hl : ∀ T, H'.led T → H'.ld T = j → H.led T) (ha : ∀ S k, H'.ack S j k → H.ack S j k ∨ S ≤ n.term ∧ AG (H'.LL S) l k) (hL : ∀ t, H.led t → H.ld t = j → H'.LL t = H.LL t) (h : NI H j n l) : NI H' j n l :=
 NI.extG (v' := n.vote) (w' := n.wait) F E (fun T c hc => h.votel T c (hv T c hc)) (fun c => ⟨fun hc => (h.vote c).1 (hv _ _ hc), fun hc => E.vote _ _ _ ((h.vote c).2 hc)⟩) hs hl ha hL h
structure MI (H : Xm) (m : Ms) : Prop where
 frm : ∃ f : Nat, f < 5 ∧ m.frm = f
 to : ∃ f : Nat, f < 5 ∧ m.to = f
 k1 : m.kind = 1 → ∀ f : Nat, m.frm = f → H.vote m.term f f ∧ m.index = (H.CL m.term f).length ∧ m.logTerm = ZJ (H.CL m.term f)
 k2 : m.kind = 2 → m.yes = true → ∀ f c : Nat, m.frm = f → m.to = c → H.vote m.term f c
 k3 : m.kind = 3 → H.led m.term ∧ m.frm = (H.ld m.term : Nat) ∧ ∃ i c : Nat, m.index = i ∧ m.commit = c ∧ i + m.entries.length ≤ (H.LL m.term).length ∧ m.entries = ((H.LL m.term).drop i).take m.entries.length ∧ m.logTerm = tAt (H.LL m.term) i ∧ XL H m.term (H.LL m.term) c
 k4 : m.kind = 4 → m.yes = true → ∃ k : Nat, m.index = k ∧ ∀ f : Nat, m.frm = f → ∀ j, 0 < j → j ≤ k → H.ack m.term f j
 k5 : m.kind = 5 → H.led m.term ∧ m.frm = (H.ld m.term : Nat) ∧ ∃ i : Nat, m.index = i ∧ i ≤ (H.LL m.term).length ∧ m.logTerm = tAt (H.LL m.term) i ∧ m.conf = QI H.c0 ((H.LL m.term).take i) ∧ XL H m.term (H.LL m.term) i
 i0 : -1 ≤ m.index
 i1 : m.index ≤ H.bd
 es : m.entries.length ≤ 8
theorem MI.ext (F : Qo H) (E : Ext H H') {m : Ms} (h : MI H m) : MI H' m where
 frm := h.frm
 to := h.to
 k1 := fun hk f hf => by
  obtain ⟨h1, h2, h3⟩ := h.k1 hk f hf
  rw [E.CL _ _ _ h1]
  exact ⟨E.vote _ _ _ h1, h2, h3⟩
 k2 := fun hk hy f c hf hc => E.vote _ _ _ (h.k2 hk hy f c hf hc)
 k3 := fun hk => by
  obtain ⟨h1, h2, i, c, h3, h4, h5, h6, h7, h8⟩ := h.k3 hk
  have hLL := E.LL _ h1
  refine ⟨E.led _ h1, by rw [E.ld _ h1]; exact h2, i, c, h3, h4, Nat.le_trans h5 hLL.2.1, ?_, ?_, ?_⟩
  ·have h9 := (hLL.le h5).2.2
   rw [h6]
   have := congrArg (List.drop i) h9
   rw [List.drop_take, List.drop_take, Nat.add_sub_cancel_left] at this
   rw [this, List.length_take, List.length_drop, Nat.min_eq_left (by have := hLL.2.1; omega)]
  ·rw [h7]; exact (hLL.le (by omega)).tAt
  ·have h9 := h8.ext F E
   rcases h8 with h8 | ⟨_, _, _, _, _, _, h10⟩
   ·exact .inl h8
   ·exact h9.to (hLL.le h10.2.1)
 k4 := fun hk hy => by
  obtain ⟨k, h1, h2⟩ := h.k4 hk hy
  exact ⟨k, h1, fun f hf j h3 h4 => E.ack _ _ _ (h2 f hf j h3 h4)⟩
 k5 := fun hk => by
  obtain ⟨h1, h2, i, h3, h5, h6, h7, h8⟩ := h.k5 hk
  have hLL := E.LL _ h1
  refine ⟨E.led _ h1, by rw [E.ld _ h1]; exact h2, i, h3, Nat.le_trans h5 hLL.2.1, ?_, ?_, ?_⟩
  ·rw [h6]; exact (hLL.le h5).tAt
  ·rw [h7, E.c0, (hLL.le h5).2.2]
  ·exact (h8.ext F E).to (hLL.le h5)
 i0 := h.i0
 i1 := by have := h.i1; have := E.bd; omega
 es := h.es
structure XC (k i : Nat) (H H' : Xm) : Prop where
 ext : Ext H H'
 oth : ∀ j n l, j ≠ i → NI H j n l → NI H' j n l
 bd : H'.bd ≤ H.bd + k
theorem XC.refl (i : Nat) (H : Xm) : XC 0 i H H := ⟨Ext.refl H, fun _ _ _ _ h => h, Nat.le_refl _⟩
theorem XC.trans {a b i : Nat} {H1 H2 H3 : Xm} (x : XC a i H1 H2) (y : XC b i H2 H3) : XC (a + b) i H1 H3 :=
 ⟨x.ext.trans y.ext, fun j n l hj h => y.oth j n l hj (x.oth j n l hj h), by have := x.bd; have := y.bd; omega⟩
end Raft
namespace Raft
variable {H : Xm}
def Xm.stand (H : Xm) (T : Int) (i : Nat) (l : List En) : Xm := { H with CL := fun t c => if t = T ∧ c = i then l else H.CL t c, vote := fun t v c => H.vote t v c ∨ (t = T ∧ v = i ∧ c = i) }
def Xm.give (H : Xm) (T : Int) (v c : Nat) : Xm := { H with vote := fun t u d => H.vote t u d ∨ (t = T ∧ u = v ∧ d = c), late := fun t u d => H.late t u d ∨ (t = T ∧ u = v ∧ d = c ∧ H.led T) }
def Xm.begin (H : Xm) (T : Int) (i : Nat) (e : En) : Xm := { H with led := fun t => H.led t ∨ t = T, ld := fun t => if t = T then i else H.ld t, LL := fun t => if t = T then H.CL T i ++ [e] else H.LL t, EL := fun t => if t = T then (H.CL T i).length else H.EL t, bd := H.bd + 1 }
def Xm.put (H : Xm) (T : Int) (e : En) : Xm := { H with LL := fun t => if t = T then H.LL T ++ [e] else H.LL t, bd := H.bd + 1 }
def Xm.agree (H : Xm) (T : Int) (v k : Nat) : Xm := { H with ack := fun S u x => H.ack S u x ∨ (S = T ∧ u = v ∧ x ≤ k) }
def Xm.commit (H : Xm) (T : Int) (k n : Nat) : Xm := { H with cmt := fun S a b => H.cmt S a b ∨ (S = T ∧ a = k ∧ b = n) }
theorem Xj.len (F : Qo H) {l : List En} (h : Xj H l) : l.length ≤ H.bd := by
 by_cases hz : l.length = 0
 ·omega
 ·have g : l[l.length - 1]? = some l[l.length - 1] := List.getElem?_eq_getElem (by omega)
  obtain ⟨h1, h2⟩ := h _ _ g
  have := F.lbd _ h1
  have := h2.2.1
  omega
theorem Uf {T : Int} {i : Nat} {l : List En} (hn : ∀ v, ¬ H.vote T v i) : Ext H (H.stand T i l) where
 c0 := rfl
 bd := Nat.le_refl _
 led := fun _ h => h
 ld := fun _ _ => rfl
 EL := fun _ _ => rfl
 LL := fun _ _ => AG.refl (Nat.le_refl _)
 CL := fun t v c h => by
  show (if t = T ∧ c = i then l else H.CL t c) = H.CL t c
  rw [if_neg]
  rintro ⟨rfl, rfl⟩
  exact hn v h
 vote := fun _ _ _ h => .inl h
 ack := fun _ _ _ h => h
 cmt := fun _ _ _ h => h
theorem DI (F : Qo H) {T : Int} {i : Nat} {l : List En} (hT : 0 < T) (hn : ∀ v, ¬ H.vote T v i) (hm : ∀ c, ¬ H.vote T i c) (hc : Xj H l) (ht : ∀ (j : Nat) (e : En), l[j]? = some e → e.term < T)
  (ha : ∀ S k, H.ack S i k → AG (H.LL S) l k ∨ ∃ t, S < t ∧ t < T ∧ H.led t ∧ ¬ AG (H.LL S) (H.CL t (H.ld t)) k) : Qo (H.stand T i l) := by
 have E := Uf (l := l) hn
 have hCL := E.CL
 have hCd : ∀ t, H.led t → (H.stand T i l).CL t (H.ld t) = H.CL t (H.ld t) := fun t h => E.CLld F h
 refine { c00 := F.c00, c01 := F.c01, cr := F.cr, ld5 := F.ld5, lled := F.lled, vpos := ?_, lbd := F.lbd, ackl := F.ackl, pos := F.pos, cons := F.cons, len := F.len, old := F.old, own := F.own, cl := ?_, win := ?_, once := ?_, voted := ?_, com := F.com, chg := F.chg }
 ·rintro t v c (h | ⟨h, _, _⟩)
  ·exact F.vpos t v c h
  ·rw [h]; exact hT
 ·intro t h
  show AG ((H.stand T i l).CL t (H.ld t)) _ _ ∧ ((H.stand T i l).CL t (H.ld t)).length = _
  rw [hCd t h]
  exact F.cl t h
 ·intro t h
  obtain ⟨s, h1, h2, h3⟩ := F.win t h
  refine ⟨s, h1, ?_, fun j hj hb => ⟨.inl (h3 j hj hb).1, (h3 j hj hb).2⟩⟩
  show XE (QI H.c0 ((H.stand T i l).CL t (H.ld t))) s = true
  rw [hCd t h]; exact h2
 ·rintro t v c c' (h1 | ⟨h1, h2, h3⟩) (h4 | ⟨h4, h5, h6⟩)
  ·exact F.once t v c c' h1 h4
  ·subst h4 h5; exact absurd h1 (hm c)
  ·subst h1 h2; exact absurd h4 (hm c')
  ·rw [h3, h6]
 ·rintro t v c (h | ⟨h1, h2, h3⟩)
  ·obtain ⟨h1, h2, VL, h3, h4, h5⟩ := F.voted t v c h
   rw [hCL t v c h]
   refine ⟨h1, h2, VL, h3, h4, fun S k hS hk => ?_⟩
   rcases h5 S k hS hk with h6 | ⟨t', h6, h7, h8, h9, h10⟩
   ·exact .inl h6
   ·refine .inr ⟨t', h6, h7, h8, h9, ?_⟩
    show ¬ AG (H.LL S) ((H.stand T i l).CL t' (H.ld t')) k
    rw [hCd t' h8]; exact h10
  ·subst h1 h2 h3
   have hx : (H.stand t c l).CL t c = l := by
    show (if t = t ∧ c = c then l else H.CL t c) = l
    rw [if_pos ⟨rfl, rfl⟩]
   rw [hx]
   refine ⟨hc, ht, l, hc, .inr ⟨rfl, Nat.le_refl _⟩, fun S k hS hk => ?_⟩
   rcases ha S k hk with h6 | ⟨t', h6, h7, h8, h10⟩
   ·exact .inl h6
   ·refine .inr ⟨t', h6, by omega, h8, fun h => absurd h (by omega), ?_⟩
    show ¬ AG (H.LL S) ((H.stand t c l).CL t' (H.ld t')) k
    rw [hCd t' h8]; exact h10
theorem WV {T : Int} {v c : Nat} : Ext H (H.give T v c) :=
 ⟨rfl, Nat.le_refl _, fun _ h => h, fun _ _ => rfl, fun _ _ => rfl, fun _ _ => AG.refl (Nat.le_refl _), fun _ _ _ _ => rfl, fun _ _ _ h => .inl h, fun _ _ _ h => h, fun _ _ _ h => h⟩
theorem GF (F : Qo H) {T : Int} {v c : Nat} {l : List En} (hm : ∀ d, ¬ H.vote T v d) (hcc : H.vote T c c) (hc : Xj H l) (hu : Ae l (H.CL T c))
  (ha : ∀ S k, H.ack S v k → AG (H.LL S) l k ∨ ∃ t, S < t ∧ t ≤ T ∧ H.led t ∧ ¬ AG (H.LL S) (H.CL t (H.ld t)) k) : Qo (H.give T v c) := by
 refine { c00 := F.c00, c01 := F.c01, cr := F.cr, ld5 := F.ld5, lled := ?_, vpos := ?_, lbd := F.lbd, ackl := F.ackl, pos := F.pos, cons := F.cons, len := F.len, old := F.old, own := F.own, cl := F.cl, win := ?_, once := ?_, voted := ?_, com := F.com, chg := F.chg }
 ·rintro t u d (h | ⟨h1, _, _, h4⟩)
  ·exact F.lled t u d h
  ·rw [h1]; exact h4
 ·rintro t u d (h | ⟨h, _, _⟩)
  ·exact F.vpos t u d h
  ·rw [h]; exact F.vpos T c c hcc
 ·intro t h
  obtain ⟨s, h1, h2, h3⟩ := F.win t h
  refine ⟨s, h1, h2, fun j hj hb => ⟨.inl (h3 j hj hb).1, ?_⟩⟩
  rintro (h4 | ⟨h4, h5, h6, _⟩)
  ·exact (h3 j hj hb).2 h4
  ·have := (h3 j hj hb).1
   subst h4 h5
   exact hm _ this
 ·rintro t u d d' (h1 | ⟨h1, h2, h3⟩) (h4 | ⟨h4, h5, h6⟩)
  ·exact F.once t u d d' h1 h4
  ·subst h4 h5; exact absurd h1 (hm d)
  ·subst h1 h2; exact absurd h4 (hm d')
  ·rw [h3, h6]
 ·rintro t u d (h | ⟨h1, h2, h3⟩)
  ·obtain ⟨h1, h2, VL, h3, h4, h5⟩ := F.voted t u d h
   refine ⟨h1, h2, VL, h3, h4, fun S k hS hk => ?_⟩
   rcases h5 S k hS hk with h6 | ⟨t', h6, h7, h8, h9, h10⟩
   ·exact .inl h6
   ·exact .inr ⟨t', h6, h7, h8, fun h => .inl (h9 h), h10⟩
  ·subst h1 h2 h3
   obtain ⟨h1, h2, _⟩ := F.voted t d d hcc
   refine ⟨h1, h2, l, hc, hu, fun S k hS hk => ?_⟩
   rcases ha S k hk with h6 | ⟨t', h6, h7, h8, h10⟩
   ·exact .inl h6
   ·exact .inr ⟨t', h6, h7, h8, fun h => .inr ⟨rfl, rfl, rfl, h ▸ h8⟩, h10⟩
theorem Vu {T t : Int} (hn : ¬ H.led T) (h : H.led t) : ¬ t = T := fun h' => hn (h' ▸ h)
theorem Up {T : Int} {i : Nat} {e : En} (hn : ¬ H.led T) : Ext H (H.begin T i e) where
 c0 := rfl
 bd := Nat.le_succ _
 led := fun _ h => .inl h
 ld := fun t h => if_neg (Vu hn h)
 EL := fun t h => if_neg (Vu hn h)
 LL := fun t h => by
  have : (H.begin T i e).LL t = H.LL t := if_neg (Vu hn h)
  rw [this]
  exact AG.refl (Nat.le_refl _)
 CL := fun _ _ _ _ => rfl
 vote := fun _ _ _ h => h
 ack := fun _ _ _ h => h
 cmt := fun _ _ _ h => h
theorem EX (F : Qo H) {T : Int} {i : Nat} {e : En} (hn : ¬ H.led T) (hel : JJ H T i) (hi : i < 5) (hp : 0 < T) (he : e.term = T) (he0 : e.conf = 0) : Qo (H.begin T i e) := by
 have E := Up (i := i) (e := e) hn
 obtain ⟨v0, hv0⟩ := Ji hel
 obtain ⟨hXc, hXT, _⟩ := F.voted T v0 i hv0
 have hne : ∀ {t}, H.led t → t ≠ T := fun h h' => hn (h' ▸ h)
 have hLL : ∀ {t}, H.led t → (H.begin T i e).LL t = H.LL t := fun h => if_neg (hne h)
 have hEL : ∀ {t}, H.led t → (H.begin T i e).EL t = H.EL t := fun h => if_neg (hne h)
 have hld : ∀ {t}, H.led t → (H.begin T i e).ld t = H.ld t := fun h => if_neg (hne h)
 have tLL : (H.begin T i e).LL T = H.CL T i ++ [e] := if_pos rfl
 have tEL : (H.begin T i e).EL T = (H.CL T i).length := if_pos rfl
 have tld : (H.begin T i e).ld T = i := if_pos rfl
 have hXl := Xj.len F hXc
 refine { c00 := F.c00, c01 := F.c01, cr := ?_, ld5 := ?_, lled := fun t u d h => .inl (F.lled t u d h), vpos := F.vpos, lbd := ?_, ackl := ?_, pos := ?_, cons := ?_, len := ?_, old := ?_, own := ?_, cl := ?_, win := ?_, once := F.once, voted := ?_, com := ?_, chg := ?_ }
 ·rintro t x (h | rfl) hx
  ·rw [hLL h] at hx; exact F.cr t x h hx
  ·rw [tLL] at hx
   rcases List.mem_append.1 hx with hx | hx
   ·obtain ⟨j, hj⟩ := List.mem_iff_getElem?.1 hx
    obtain ⟨h1, h2⟩ := hXc j x hj
    exact F.cr _ x h1 (List.mem_of_getElem? (by rw [← h2.get (Nat.lt_succ_self j)]; exact hj))
   ·rw [List.mem_singleton.1 hx]; omega
 ·rintro t (h | rfl)
  ·rw [hld h]; exact F.ld5 t h
  ·rw [tld]; exact hi
 ·rintro t (h | rfl)
  ·rw [hLL h]; have := F.lbd t h; show _ ≤ H.bd + 1; omega
  ·rw [tLL, List.length_append]; show _ + 1 ≤ H.bd + 1; omega
 ·intro S v k h
  obtain ⟨h1, h2⟩ := F.ackl S v k h
  exact ⟨.inl h1, by rw [hLL h1]; exact h2⟩
 ·rintro t (h | rfl)
  ·exact F.pos t h
  ·exact hp
 ·rintro t (h | rfl)
  ·rw [hLL h]; exact (F.cons t h).ext E
  ·rw [tLL]
   intro j x hx
   rcases Nat.lt_or_ge j (H.CL t i).length with hj | hj
   ·rw [List.getElem?_append_left hj] at hx
    obtain ⟨h1, h2⟩ := (hXc.ext E) j x hx
    exact ⟨h1, h2.appL⟩
   ·rw [List.getElem?_append_right hj] at hx
    have hj0 : j - (H.CL t i).length = 0 := by
     rcases Nat.eq_zero_or_pos (j - (H.CL t i).length) with h | h
     ·exact h
     ·rw [List.getElem?_eq_none (by simp only [List.length_singleton]; omega)] at hx; cases hx
    rw [hj0] at hx
    have hx' : e = x := by simpa using hx
    rw [← hx', he, tLL]
    exact ⟨.inr rfl, AG.refl (by rw [List.length_append]; simp; omega)⟩
 ·rintro t (h | rfl)
  ·rw [hLL h, hEL h]; exact F.len t h
  ·rw [tLL, tEL, List.length_append]; omega
 ·rintro t j x (h | rfl) hx hj
  ·rw [hLL h] at hx; rw [hEL h] at hj; exact F.old t j x h hx hj
  ·rw [tLL] at hx; rw [tEL] at hj
   rw [List.getElem?_append_left hj] at hx
   exact hXT j x hx
 ·rintro t j x (h | rfl) hx hj
  ·rw [hLL h] at hx; rw [hEL h] at hj; exact F.own t j x h hx hj
  ·rw [tLL] at hx; rw [tEL] at hj
   rw [List.getElem?_append_right hj] at hx
   have := List.mem_of_getElem? hx
   rw [List.mem_singleton.1 this]; exact he
 ·rintro t (h | rfl)
  ·show AG (H.CL t _) _ _ ∧ (H.CL t _).length = _
   rw [hLL h, hEL h, hld h]; exact F.cl t h
  ·show AG (H.CL t _) _ _ ∧ (H.CL t _).length = _
   rw [tLL, tEL, tld]
   exact ⟨(AG.refl (Nat.le_refl _)).appR, rfl⟩
 ·rintro t (h | rfl)
  ·rw [hld h]; exact F.win t h
  ·rw [tld]
   obtain ⟨s, h1, h2, h3⟩ := hel
   exact ⟨s, h1, h2, fun j hj hb => ⟨h3 j hj hb, fun h => hn (F.lled _ _ _ h)⟩⟩
 ·intro t v c h
  obtain ⟨h1, h2, VL, h3, h4, h5⟩ := F.voted t v c h
  refine ⟨h1.ext E, h2, VL, h3.ext E, h4, fun S k hS hk => ?_⟩
  rw [hLL (F.ackl _ _ _ hk).1]
  rcases h5 S k hS hk with h6 | ⟨t', h6, h7, h8, h9, h10⟩
  ·exact .inl h6
  ·refine .inr ⟨t', h6, h7, .inl h8, h9, ?_⟩
   rw [hld h8]; exact h10
 ·intro S k n h
  have hS := (F.com S k n h).1
  rw [hLL hS, hEL hS]
  obtain ⟨_, h2⟩ := F.com S k n h
  exact ⟨.inl hS, h2⟩
 ·rintro S j x (h | rfl) hx hj hc
  ·rw [hLL h] at hx; rw [hEL h] at hj; rw [hLL h]
   exact F.chg S j x h hx hj hc
  ·rw [tLL] at hx; rw [tEL] at hj
   rw [List.getElem?_append_right hj] at hx
   have := List.mem_of_getElem? hx
   rw [List.mem_singleton.1 this] at hc
   exact absurd he0 hc
theorem Wb {T : Int} {e : En} : Ext H (H.put T e) where
 c0 := rfl
 bd := Nat.le_succ _
 led := fun _ h => h
 ld := fun _ _ => rfl
 EL := fun _ _ => rfl
 LL := fun t _ => by
  show AG _ (if t = T then H.LL T ++ [e] else H.LL t) _
  split
  ·rename_i h; subst h
   exact (AG.refl (Nat.le_refl _)).appR
  ·exact AG.refl (Nat.le_refl _)
 CL := fun _ _ _ _ => rfl
 vote := fun _ _ _ h => h
 ack := fun _ _ _ h => h
 cmt := fun _ _ _ h => h
theorem RB (F : Qo H) {T : Int} {e : En} (hl : H.led T) (he : e.term = T) (h0 : 0 ≤ e.conf) (h1 : e.conf ≤ 31)
  (hc : e.conf ≠ 0 → LE (QI H.c0 (H.LL T)) e.conf ∧ ∃ c n, H.cmt T c n ∧ n ≤ (H.LL T).length ∧ ∀ i e', (H.LL T)[i]? = some e' → e'.conf ≠ 0 → i < c) : Qo (H.put T e) := by
 have E := Wb (H := H) (T := T) (e := e)
 have tLL : (H.put T e).LL T = H.LL T ++ [e] := if_pos rfl
 have hne : ∀ {t}, t ≠ T → (H.put T e).LL t = H.LL t := fun h => if_neg h
 have hmem : ∀ {t x}, x ∈ (H.put T e).LL t → x ∈ H.LL t ∨ (t = T ∧ x = e) := by
  intro t x hx
  by_cases h : t = T
  ·subst h; rw [tLL] at hx
   rcases List.mem_append.1 hx with hx | hx
   ·exact .inl hx
   ·exact .inr ⟨rfl, List.mem_singleton.1 hx⟩
  ·rw [hne h] at hx; exact .inl hx
 have hget : ∀ {t : Int} {j : Nat} {x : En}, ((H.put T e).LL t)[j]? = some x → (H.LL t)[j]? = some x ∨ (t = T ∧ x = e ∧ j = (H.LL T).length) := by
  intro t j x hx
  by_cases h : t = T
  ·subst h; rw [tLL] at hx
   rcases Nat.lt_or_ge j (H.LL t).length with hj | hj
   ·rw [List.getElem?_append_left hj] at hx; exact .inl hx
   ·rw [List.getElem?_append_right hj] at hx
    have hj0 : j - (H.LL t).length = 0 := by
     rcases Nat.eq_zero_or_pos (j - (H.LL t).length) with h | h
     ·exact h
     ·rw [List.getElem?_eq_none (by simp only [List.length_singleton]; omega)] at hx; cases hx
    rw [hj0] at hx
    have hx' : e = x := by simpa using hx
    exact .inr ⟨rfl, hx'.symm, by omega⟩
  ·rw [hne h] at hx; exact .inl hx
 have htake : ∀ {t : Int} {k : Nat}, k ≤ (H.LL t).length → ((H.put T e).LL t).take k = (H.LL t).take k := by
  intro t k hk
  by_cases h : t = T
  ·subst h; rw [tLL, List.take_append_of_le_length hk]
  ·rw [hne h]
 have hlen : ∀ t, (H.LL t).length ≤ ((H.put T e).LL t).length := by
  intro t
  by_cases h : t = T
  ·subst h; rw [tLL, List.length_append]; omega
  ·rw [hne h]; exact Nat.le_refl _
 refine { c00 := F.c00, c01 := F.c01, cr := ?_, ld5 := F.ld5, lled := F.lled, vpos := F.vpos, lbd := ?_, ackl := ?_, pos := F.pos, cons := ?_, len := ?_, old := ?_, own := ?_, cl := ?_, win := F.win, once := F.once, voted := ?_, com := ?_, chg := ?_ }
 ·intro t x h hx
  rcases hmem hx with hx | ⟨_, rfl⟩
  ·exact F.cr t x h hx
  ·exact ⟨h0, h1⟩
 ·intro t h
  have := F.lbd t h
  show _ ≤ H.bd + 1
  by_cases ht : t = T
  ·subst ht; rw [tLL, List.length_append]; simp; omega
  ·rw [hne ht]; omega
 ·intro S v k h
  obtain ⟨h1, h2⟩ := F.ackl S v k h
  exact ⟨h1, Nat.le_trans h2 (hlen S)⟩
 ·intro t h j x hx
  rcases hget hx with hx' | ⟨rfl, rfl, rfl⟩
  ·obtain ⟨g1, g2⟩ := ((F.cons t h).ext E) j x hx'
   refine ⟨g1, ?_⟩
   have := E.LL t h
   exact (this.symm.le (by have := g2.1; omega)).trans g2
  ·subst he
   exact ⟨hl, AG.refl (by rw [tLL, List.length_append]; simp)⟩
 ·intro t h; exact Nat.le_trans (F.len t h) (hlen t)
 ·intro t j x h hx hj
  rcases hget hx with hx | ⟨rfl, rfl, rfl⟩
  ·exact F.old t j x h hx hj
  ·have := F.len t h
   have hj' : (H.LL t).length < H.EL t := hj
   omega
 ·intro t j x h hx hj
  rcases hget hx with hx | ⟨rfl, rfl, rfl⟩
  ·exact F.own t j x h hx hj
  ·exact he
 ·intro t h
  obtain ⟨g1, g2⟩ := F.cl t h
  exact ⟨g1.trans ((E.LL t h).le (F.len t h)), g2⟩
 ·intro t v c h
  obtain ⟨h1, h2, VL, h3, h4, h5⟩ := F.voted t v c h
  refine ⟨h1.ext E, h2, VL, h3.ext E, h4, fun S k hS hk => ?_⟩
  obtain ⟨g1, g2⟩ := F.ackl _ _ _ hk
  rcases h5 S k hS hk with h6 | ⟨t', h6, h7, h8, h9, h10⟩
  ·exact .inl (E.agLL g1 h6)
  ·exact .inr ⟨t', h6, h7, h8, h9, E.nagLL g1 g2 h10⟩
 ·intro S k n h
  obtain ⟨h1, h2, h3, h4, s, h5, h6, h7⟩ := F.com S k n h
  refine ⟨h1, h2, h3, Nat.le_trans h4 (hlen S), s, h5, ?_, h7⟩
  rw [htake h4]; exact h6
 ·intro S j x h hx hj hcx
  rcases hget hx with hx | ⟨rfl, rfl, rfl⟩
  ·have hjl : j < (H.LL S).length := (List.getElem?_eq_some_iff.1 hx).1
   obtain ⟨g1, c, n, g2, g3, g4⟩ := F.chg S j x h hx hj hcx
   rw [htake (Nat.le_of_lt hjl)]
   refine ⟨g1, c, n, g2, g3, fun i e' hi he' hc' => ?_⟩
   rcases hget he' with he' | ⟨rfl, rfl, rfl⟩
   ·exact g4 i e' hi he' hc'
   ·omega
  ·obtain ⟨g1, c, n, g2, g3, g4⟩ := hc hcx
   rw [htake (Nat.le_refl _), List.take_length]
   refine ⟨g1, c, n, g2, g3, fun i e' hi he' hc' => ?_⟩
   rcases hget he' with he' | ⟨_, rfl, h⟩
   ·exact g4 i e' he' hc'
   ·omega
theorem Js {T : Int} {v k : Nat} : Ext H (H.agree T v k) :=
 ⟨rfl, Nat.le_refl _, fun _ h => h, fun _ _ => rfl, fun _ _ => rfl, fun _ _ => AG.refl (Nat.le_refl _), fun _ _ _ _ => rfl, fun _ _ _ h => h, fun _ _ _ h => .inl h, fun _ _ _ h => h⟩
theorem Uc (F : Qo H) {T : Int} {v k : Nat} (hl : H.led T) (hk : k ≤ (H.LL T).length) (hv : ∀ t c, H.vote t v c → t ≤ T) : Qo (H.agree T v k) := by
 refine { c00 := F.c00, c01 := F.c01, cr := F.cr, ld5 := F.ld5, lled := F.lled, vpos := F.vpos, lbd := F.lbd, ackl := ?_, pos := F.pos, cons := F.cons, len := F.len, old := F.old, own := F.own, cl := F.cl, win := F.win, once := F.once, voted := ?_, com := ?_, chg := F.chg }
 ·rintro S u x (h | ⟨rfl, _, h⟩)
  ·exact F.ackl S u x h
  ·exact ⟨hl, Nat.le_trans h hk⟩
 ·intro t u c h
  obtain ⟨h1, h2, VL, h3, h4, h5⟩ := F.voted t u c h
  refine ⟨h1, h2, VL, h3, h4, fun S x hS hx => ?_⟩
  rcases hx with hx | ⟨rfl, rfl, _⟩
  ·exact h5 S x hS hx
  ·have := hv t c h; omega
 ·intro S x n h
  obtain ⟨h1, h2, h3, h4, s, h5, h6, h7⟩ := F.com S x n h
  exact ⟨h1, h2, h3, h4, s, h5, h6, fun i hi hb => .inl (h7 i hi hb)⟩
theorem UO {T : Int} {k n : Nat} : Ext H (H.commit T k n) :=
 ⟨rfl, Nat.le_refl _, fun _ h => h, fun _ _ => rfl, fun _ _ => rfl, fun _ _ => AG.refl (Nat.le_refl _), fun _ _ _ _ => rfl, fun _ _ _ h => h, fun _ _ _ h => h, fun _ _ _ h => .inl h⟩
theorem Dx (F : Qo H) {T : Int} {k n : Nat} (hl : H.led T) (h1 : H.EL T < k) (h2 : k ≤ n) (h3 : n ≤ (H.LL T).length) {s : Nat} (hs : s < 32) (hm : XE (QI H.c0 ((H.LL T).take n)) s = true) (ha : ∀ i, i < 5 → s.testBit i = true → H.ack T i k) : Qo (H.commit T k n) := by
 refine { c00 := F.c00, c01 := F.c01, cr := F.cr, ld5 := F.ld5, lled := F.lled, vpos := F.vpos, lbd := F.lbd, ackl := F.ackl, pos := F.pos, cons := F.cons, len := F.len, old := F.old, own := F.own, cl := F.cl, win := F.win, once := F.once, voted := F.voted, com := ?_, chg := ?_ }
 ·rintro S a b (h | ⟨rfl, rfl, rfl⟩)
  ·exact F.com S a b h
  ·exact ⟨hl, h1, h2, h3, s, hs, hm, ha⟩
 ·intro S j x h hx hj hc
  obtain ⟨g1, c, n, g2, g3, g4⟩ := F.chg S j x h hx hj hc
  exact ⟨g1, c, n, .inl g2, g3, g4⟩
end Raft
end Go.Proofs.YtjbokbikkcfjjaaGreat
namespace Go.Proofs.YtjbokbikkcfjjaaGreat
open Go.Cap
attribute [local irreducible] POp Qf Pw EOp Sim FnH T.gp
def tE : TypeId := 84
def tM : TypeId := 76
def tW : TypeId := 167
def OE (l : List En) (v : Value) (Hs : Qd) : Prop := OSl tE 3 (l.map een) v Hs
def OM (l : List Ms) (v : Value) (Hs : Qd) : Prop := OSl tM 11 (l.map ms) v Hs
theorem GU (l : List En) : ∀ x ∈ l.map een, x.cells.length = 3 := zk
theorem Nl (l : List En) : ∀ x ∈ l.map een, x.solid := Jj _ (fun _ => .inr ⟨_, rfl⟩) _
theorem WI (l : List Ms) : ∀ x ∈ l.map ms, x.cells.length = 11 := zk
theorem N0 (l : List Ms) : ∀ x ∈ l.map ms, x.solid := Jj _ (fun _ => .inr ⟨_, rfl⟩) _
theorem Mr : ∀ (l : List En), ((l.map een).flatMap T.cells).all T.isV = true
 | [] => rfl
 | e :: l => by simp only [List.map_cons, List.flatMap_cons, List.all_append, Mr l, Bool.and_true]; rfl
theorem OE.plain {l : List En} {v : Value} {Hs : Qd} (h : OE l v Hs) : ∀ p ∈ Hs, p.2.vals.all T.isV = true := by
 rcases h with ⟨_, _, rfl⟩ | ⟨b, c, _, _, rfl⟩
 ·simp
 ·intro p hp
  rw [List.mem_singleton.1 hp]
  exact Mr l
theorem OE.len {l : List En} {v : Value} {Hs : Qd} (h : OE l v Hs) : ∃ p c, v = .slice p (l.map een).length c := OSl.len h
theorem OM.len {l : List Ms} {v : Value} {Hs : Qd} (h : OM l v Hs) : ∃ p c, v = .slice p (l.map ms).length c := OSl.len h
theorem OE.cap {l : List En} {p : Option Addr} {n c : Nat} {Hs : Qd} (h : OE l (.slice p n c) Hs) : n ≤ c := OSl.cap h
theorem OE.lend {l : List En} {v : Value} {Hs G : Qd} (h : OE l v Hs) (hG : ∀ p ∈ Hs, p ∈ G) : QB G (.v v) (.sl false (l.map een)) := OSl.lend h hG (GU l) (Nl l)
theorem OM.lend {l : List Ms} {v : Value} {Hs G : Qd} (h : OM l v Hs) (hG : ∀ p ∈ Hs, p ∈ G) : QB G (.v v) (mss l) := OSl.lend h hG (WI l) (N0 l)
theorem ZN (f : Bool) (l : List En) (hl : l.length ≤ 1000000000) : FnH Tryz.prog 72 [.sl f (l.map een)] [] (fun r H => ∃ v, r = .v v ∧ OE l v H) := by
 refine fe Tryz.func72 fun S0 w0 => ?_
 show Sim _ _ [(0, T.sl f (l.map een))] _ _
 refine zC ?_
 refine cr <| s_ Qb <| zC ?_
 refine cr <| s_ Qa ?_
 refine Zx 3 fun p c h1 _ => ?_
 refine s_ T2 <| zC ?_
 refine ci ?_ ?_
 ·intro hp
  have := h1 hp
  have : l = [] := by simpa using this
  subst this
  refine zC ?_
  refine cr <| s_ Qb <| zC ?_
  refine zR ?_
  exact rh kR ⟨_, rfl, Zk⟩ (Le.refl _)
 ·intro hp
  refine zC ?_
  refine cr <| s_ JT ?_
  refine Zx 5 fun q c' _ h2 => ?_
  have := h2 rfl
  subst this
  cases l with
  | nil =>
   refine s_ Qa <| s_ (NW (hxl := Le.slice0 q true)) ?_
   refine Zx 7 fun q c' _ h2 => ?_
   have := h2 rfl
   subst this
   refine s_ Qb <| zC ?_
   refine zR ?_
   exact rh kR ⟨_, rfl, Ve⟩ (Le.refl _)
  | cons e l =>
   refine s_ Qa ?_
   refine Td (ho := (Ve : OSl tE 3 [] _ [])) (A := []) (B := []) (fun _ h => by cases h) (fun v' Hs' ho => ?_)
   refine s_ Qb <| zC ?_
   refine zR ?_
   exact rh kR ⟨_, rfl, by simpa [OE] using ho⟩ (Le.refl _)
def SlE (G : Qd) (l : List En) (v : Value) : Prop := ∃ p c, v = .slice p l.length c ∧ l.length ≤ c ∧ QB G (.v v) (.sl false (l.map een))
theorem OE.sle {l : List En} {v : Value} {Hs G : Qd} (h : OE l v Hs) (hG : ∀ p ∈ Hs, p ∈ G) : SlE G l v := by
 obtain ⟨p, c, rfl⟩ := h.len
 exact ⟨p, c, by simp, by simpa using h.cap, h.lend hG⟩
theorem SlE.sub {G : Qd} {l : List En} {p : Option Addr} {n c : Nat} (h : SlE G l (.slice p n c)) {lo hi : Nat} (h1 : lo ≤ hi) (h2 : hi ≤ l.length) : SlE G ((l.drop lo).take (hi - lo)) (Yq 3 p c lo (hi - lo)) := by
 obtain ⟨p', c', e, hc, hl⟩ := h
 cases e
 have h3 := QB.sub (P := Tryz.prog) (ty := 41) hl (zk) h1 (by simpa using h2) (by simp) hc
 have hlen : ((l.drop lo).take (hi - lo)).length = hi - lo := by simp; omega
 exact ⟨p.map fun a => if c = lo then a else a.add (lo * 3), c - lo, by rw [hlen]; rfl, by rw [hlen]; omega, by rw [List.map_take, List.map_drop]; exact h3⟩
abbrev Pu (P : Program) (f : FuncId) (args : List T) (H : Qd) (d : T) : Prop := FnH P f args H fun r H' => H' = [] ∧ r = d
def wkC (n : Nd) (vl vo : Value) : List T := Qs n (.v vl) ++ [.v vo]
def WkH (b : Nat) (n : Nd) (out : List Ms) (H : Qd) : Prop := ∃ vl vo Hl Ho, OE n.log vl Hl ∧ OM out vo Ho ∧ H = (b, ⟨tW, wkC n vl vo, 23⟩) :: (Hl ++ (Ho ++ []))
def pW (b : Nat) : T := .v (.pointer (some ⟨b, 0, none⟩))
theorem OE.of {l : List En} : ∀ (r : T) (H : Qd), (∃ v, r = .v v ∧ OE l v H) → r.plain = true ∧ ∀ p ∈ H, p.2.vals.all T.isV = true := by
 rintro r H ⟨v, rfl, h⟩
 exact ⟨rfl, h.plain⟩
theorem V6 (n : Nd) (hl : n.log.length ≤ 1000000000) : FnH Tryz.prog 102 [nd n] [] (fun r H => ∃ b, r = pW b ∧ WkH b n [] H) := by
 have hc := ZN false n.log hl
 refine fe Tryz.func102 fun S0 w0 => ?_
 show Sim _ _ [(0, T.agg (Qs n (.sl false (n.log.map een))))] _ _
 refine zC ?_
 apply cr
 refine X1 fun b1 _ => ?_
 refine s_ Qb <| zC ?_
 refine cr <| s_ Qc <| s_ Qj ?_
 refine TL (G := []) hc (Qg.le (LeL.refl _)) ⟨_, List.Perm.refl _⟩ OE.of ?_
 rintro r H1 ⟨v, rfl, ho⟩
 obtain ⟨p, c, rfl⟩ := ho.len
 refine Qy List.perm_middle ?_
 refine s_ Qc <| Qz ?_
 refine zC ?_
 refine cr <| s_ Xc <| s_ (ZG 23 [_, _, _, _, _, _, _, _, _, _, _, _, _, _, _, _, _, _, _, _, _, _, _]) ?_
 refine X1 fun b9 _ => ?_
 refine s_ Qb <| zC ?_
 refine zR ?_
 exact rh (.keep _ _ _ _ _ (YJ.refl _) (.skip _ _ _ kR)) ⟨b9, rfl, _, _, H1, [], ho, Zk, rfl⟩ (Le.refl _)
theorem QY {G : Qd} (n : Nd) {x y : T} (h : QB G x y) : Qg G (Qs n x) (Qs n y) := by
 unfold Qs
 repeat (first | exact Qg.nil | (refine Qg.cons (QB.le (Le.refl _)) ?_) | (refine Qg.cons h ?_))
def wkD (n : Nd) (out : List Ms) : List T := Qs n (ZM n.log) ++ [mss out]
theorem IM {G Hl Ho : Qd} {n : Nd} {out : List Ms} {vl vo : Value} (h1 : OE n.log vl Hl) (h2 : OM out vo Ho) (hl : ∀ p ∈ Hl, p ∈ G) (ho : ∀ p ∈ Ho, p ∈ G) : Qg G (wkC n vl vo) (wkD n out) :=
 Qg.append (QY n (h1.lend hl)) (Qg.cons (h2.lend ho) Qg.nil)
theorem TP {G Hl Ho : Qd} {b : Nat} {n : Nd} {out : List Ms} {vl vo : Value} (h1 : OE n.log vl Hl) (h2 : OM out vo Ho) (hl : ∀ p ∈ Hl, p ∈ G) (ho : ∀ p ∈ Ho, p ∈ G) (hb : (b, (⟨tW, wkC n vl vo, 23⟩ : Blk)) ∈ G) : QB G (pW b) (.adr (.agg (wkD n out))) :=
 QB.ptr hb (.inr ⟨_, rfl⟩) (IM h1 h2 hl ho) (by simp [T.cells, wkD]) (by simp [T.cells, wkD, wkC, Qs])
theorem VD {G Hl : Qd} {b : Nat} {n : Nd} {vl vo : Value} (h1 : OE n.log vl Hl) (hl : ∀ p ∈ Hl, p ∈ G) (hb : (b, (⟨tW, wkC n vl vo, 23⟩ : Blk)) ∈ G) : QB G (pW b) (.adr (nd n)) :=
 QB.ptr hb (.inr ⟨_, rfl⟩) (QY n (h1.lend hl)) (by simp [nd, T.cells, Qs]) (by simp [nd, T.cells, wkC, Qs])
theorem Yu {b : Nat} {n : Nd} {out : List Ms} {H : Qd} (hl : n.log.length ≤ 1000000000) (hw : WkH b n out H) : Pu Tryz.prog 106 [pW b] H (.tup [nd n, mss out]) := by
 obtain ⟨vl, vo, Hl, Ho, h1, h2, rfl⟩ := hw
 have hc := ZN false n.log hl
 obtain ⟨p, c, rfl⟩ := h1.len
 obtain ⟨q, d, rfl⟩ := h2.len
 refine fe Tryz.func106 fun S0 w0 => ?_
 show Sim _ _ [(0, pW b)] _ _
 refine zC ?_
 apply cr
 refine X2 fun b2 _ => ?_
 refine s_ Qb <| zC ?_
 refine cr <| s_ Qa <| s_ Qa <| s_ Qe <| s_ Qc <| s_ Qc <| s_ Qj ?_
 refine BA hc (Qg.cons (h1.lend (by intro p hp; simp [hp])) Qg.nil) OE.of ?_
 rintro r H1 ⟨v, rfl, ho⟩
 obtain ⟨p', c', rfl⟩ := ho.len
 refine Qy (List.perm_middle.trans (.cons _ List.perm_middle)) ?_
 refine s_ Qe <| s_ Qc <| s_ Qc <| Qz ?_
 refine zC ?_
 refine zC ?_
 refine CP 0 (.adr (.agg (wkD n out))) (TP ho h2 (by intro p hp; simp [hp]) (by intro p hp; simp [hp]) List.mem_cons_self) ?_
 refine zC ?_
 refine ca [0, 1, 2, 3, 4, 5, 6, 7, 8, 9] [8] <| a_ (fun _ => Qa) <| a_ (fun _ => Qe) <| a_ (fun _ => L5) <| a_ (fun _ => Y7) <| a_ (fun _ => Qa) <| a_ (fun _ => Qe) <| a_ (fun _ => Qu) <| a_ (fun _ => Qm) <| XU ?_
 refine a_ (fun _ => Qb) ?_
 apply an
 refine zC ?_
 refine zR ?_
 refine rt ?_
 exact Le.refl _
def QG (n : Nd) (to : Int) (m : Ms) : Ms := { m with frm := n.id, to := to, term := n.term }
theorem Ug {b : Nat} {n : Nd} {out : List Ms} {H : Qd} (to : Int) (m : Ms) (hb : out.length ≤ 1000) (hw : WkH b n out H) : FnH Tryz.prog 145 [pW b, ei to, ms m] H (fun r H' => r = .tup [] ∧ WkH b n (out ++ [QG n to m]) H') := by
 obtain ⟨vl, vo, Hl, Ho, h1, h2, rfl⟩ := hw
 obtain ⟨p, c, rfl⟩ := h1.len
 obtain ⟨q, d, rfl⟩ := h2.len
 refine fe Tryz.func145 fun S0 w0 => ?_
 show Sim _ _ [(0, pW b), (1, ei to), (2, T.agg (msC m (ZM m.entries)))] _ _
 refine zC ?_
 apply cr
 refine X1 fun b5 _ => ?_
 refine zC ?_
 refine ca [0, 1, 2, 3, 4, 5, 6, 7, 8, 9, 10, 11, 12, 13, 14, 15, 16] [12, 14, 16] <| a_ (fun _ => Qa) <| a_ (fun _ => Qe) <| a_ (fun _ => Qc) <| a_ (fun _ => Qc) <| QL ?_
 refine a_ (fun _ => Qa) <| a_ (fun _ => Qa) <| a_ (fun _ => Qe) <| a_ (fun _ => Qc) <| a_ (fun _ => Qc) <| QL ?_
 refine a_ (fun _ => Qc) <| XU ?_
 refine a_ (fun _ => Qc) <| XU ?_
 refine a_ (fun _ => Qc) <| XU ?_
 apply an
 refine zC ?_
 refine zC ?_
 refine ca [0, 1, 2, 3, 4, 5, 6, 7, 8, 9, 10] [7, 10] <| a_ (fun _ => Qa) <| a_ (fun _ => Qa) <| a_ (fun _ => Qe) <| a_ (fun _ => Qc) <| QL ?_
 refine YI ?_
 refine a_ (fun _ => JT) ?_
 refine Tp (ho := h2) (A := _ :: _ :: Hl) (B := []) (WI out) (fun v' Hs' h3 => ⟨zd, ?_⟩)
 refine zD ?_
 obtain ⟨q', d', rfl⟩ := h3.len
 refine a_ (fun _ => Qe) <| a_ (fun _ => Qc) <| XU ?_
 apply an
 refine zC ?_
 exact rhn (.skip _ _ _ kR) ⟨rfl, _, _, Hl, Hs', h1, (by unfold OM; rw [List.map_append]; exact h3), rfl⟩ (Le.refl _)
def Z5 (n : Nd) (to : Int) : Ms := QG n to (if n.next.get to.toNat ≤ n.base then ⟨5, 0, 0, 0, n.base, n.baseTerm, 0, n.baseConf, false, [], n.snap⟩
 else ⟨3, 0, 0, 0, n.next.get to.toNat - 1, termF n (n.next.get to.toNat - 1), n.commit, 0, false, (n.log.drop (min (n.next.get to.toNat - 1 - n.base) n.log.length).toNat).take 8, []⟩)
theorem five {to : Int} (h0 : 0 ≤ to) (h5 : to < 5) : to = 0 ∨ to = 1 ∨ to = 2 ∨ to = 3 ∨ to = 4 := by omega
theorem We {n : Nd} {vl vo : Value} {to : Int} (h0 : 0 ≤ to) (h5 : to < 5) : (wkC n vl vo)[0 + 0 + 12 + to.toNat * 1]? = some (ei (n.next.get to.toNat)) := by
 rcases five h0 h5 with rfl | rfl | rfl | rfl | rfl <;> rfl
theorem CB {b : Nat} {n : Nd} {out : List Ms} {H : Qd} (to : Int) (h0 : 0 ≤ to) (h5 : to < 5) (hl : n.log.length ≤ 1000000000) (hb1 : -100000000000 ≤ n.base) (hb2 : n.base ≤ 100000000000) (hb3 : n.next.get to.toNat ≤ 100000000000) (hb : out.length ≤ 1000) (hw : WkH b n out H) :
  FnH Tryz.prog 105 [pW b, ei to] H (fun r H' => r = .tup [] ∧ WkH b n (out ++ [Z5 n to]) H') := by
 have hw' := hw
 obtain ⟨vl, vo, Hl, Ho, h1, h2, rfl⟩ := hw
 obtain ⟨p, c, rfl⟩ := h1.len
 obtain ⟨q, d, rfl⟩ := h2.len
 refine fe Tryz.func105 fun S0 w0 => ?_
 show Sim _ _ [(0, pW b), (1, ei to)] _ _
 refine zC ?_
 refine ca [0, 1, 2, 3, 4, 5, 6, 7, 8, 9, 10, 11, 12] [] <| a_ (fun _ => Qa) <| a_ (fun _ => Qa) <| a_ (fun _ => Qe) <| a_ (fun _ => Qc) <| a_ (fun _ => Qc) <| a_ (fun _ => Yx) <| QL (hd := We h0 h5) ?_
 refine a_ (fun _ => Qa) <| a_ (fun _ => Qe) <| a_ (fun _ => Qc) <| a_ (fun _ => Qc) <| QL ?_
 refine a_ (fun _ => Cz) ?_
 apply an
 refine zC ?_
 refine ci ?_ ?_
 ·intro hc
  refine zC ?_
  refine ca [0, 1, 2, 3, 4, 5, 6, 7, 8, 9, 10, 11, 12, 13, 14, 15, 16, 17, 18, 19, 20, 21, 22, 23] [23] <| a_ (fun _ => Qa) <| a_ (fun _ => Qa) <| a_ (fun _ => Qa) <| a_ (fun _ => Qe) <| a_ (fun _ => Qc) <| a_ (fun _ => Qc) <| QL ?_
  refine a_ (fun _ => Qa) <| a_ (fun _ => Qe) <| a_ (fun _ => Qc) <| a_ (fun _ => Qc) <| QL ?_
  refine a_ (fun _ => Qa) <| a_ (fun _ => Qe) <| a_ (fun _ => Qc) <| a_ (fun _ => Qc) <| QL ?_
  refine a_ (fun _ => Qa) <| a_ (fun _ => Qe) <| a_ (fun _ => Qc) <| a_ (fun _ => Qc) <| QL ?_
  refine a_ (fun _ => ZG 11 [_, _, _, _, _, _, _, _, _, _, _]) ?_
  refine IF (FnH.of_le ?_ (Ug to ⟨5, 0, 0, 0, n.base, n.baseTerm, 0, n.baseConf, false, [], n.snap⟩ hb hw')) (fun r H' ⟨hr, h3⟩ => ⟨zd, ?_⟩)
  ·exact zM
  ·refine zD ?_
   subst hr
   apply an
   refine zC ?_
   refine zR ?_
   refine rh kR ⟨rfl, ?_⟩ (Le.refl _)
   rw [Z5, if_pos hc]
   exact h3
 ·intro hc
  have ht := UZ n (n.next.get to.toNat - 1) hl (by simp only [big]; omega) (by simp only [big]; omega) (by simp only [big]; omega) (by simp only [big]; omega)
  refine zC ?_
  refine cr <| s_ Qa <| s_ Qa <| s_ Qe <| s_ Qc <| s_ Qc <| s_ Yx <| s_ (Qj (hd := We h0 h5)) <| s_ ZF <| s_ Qb <| zC ?_
  refine zC ?_
  refine ca [0, 1, 2, 3, 4, 5, 6, 7, 8, 9, 10, 11, 12, 13, 14, 15, 16, 17, 18, 19, 20] [] <| a_ (fun _ => Qa) <| a_ (fun _ => Qe) <| a_ (fun _ => Qc) <| a_ (fun _ => Qc) <| QL ?_
  refine a_ (fun _ => Qa) <| a_ (fun _ => Qa) <| a_ (fun _ => Qe) <| a_ (fun _ => Qc) <| a_ (fun _ => Qc) <| QL ?_
  refine a_ (fun _ => ZF) <| a_ (fun _ => Qa) <| a_ (fun _ => Qe) <| a_ (fun _ => Qc) <| a_ (fun _ => Qc) <| QL ?_
  (first | refine a_ (fun _ => QX) ?_ | refine a_ (fun _ => QQ) ?_)
  refine a_ (fun _ => LD) ?_
  obtain ⟨m, hm⟩ : ∃ m : Nat, (m : Int) = min (n.next.get to.toNat - 1 - n.base) ((n.log.map een).length : Nat) := ⟨(min (n.next.get to.toNat - 1 - n.base) ((n.log.map een).length : Nat)).toNat, by omega⟩
  have hml : m ≤ n.log.length := by simp only [List.length_map] at hm; omega
  have hs5 := (h1.sle (G := (b, ⟨tW, wkC n (.slice p (n.log.map een).length c) (.slice q (out.map ms).length d), 23⟩) :: (Hl ++ (Ho ++ []))) (by intro p hp; simp [hp]))
  have hs5' := SlE.sub hs5 (lo := m) (hi := n.log.length) hml (Nat.le_refl _)
  rw [List.take_of_length_le (by simp)] at hs5'
  obtain ⟨p5, c5, e5, hc5, hl5⟩ := hs5'
  rw [← hm]
  refine a_ (fun _ => OD (i := (m : Int)) (p := p) (n := (n.log.map een).length) (c := c) h1.cap (by simp only [List.length_map, Int.toNat_natCast]; exact e5)) <| a_ (fun _ => Qb) ?_
  apply an
  refine zC ?_
  refine zC ?_
  refine zC ?_
  refine ca [0, 1, 2, 3, 4, 5, 6, 7, 8, 9, 10, 11, 12, 14, 15, 16, 17, 18, 13, 19, 20] [13, 20] <| a_ (fun _ => Qa) <| a_ (fun _ => Qa) <| a_ (fun _ => Qa) <| a_ (fun _ => Qa) <| a_ (fun _ => Qe) <| a_ (fun _ => Qc) <| a_ (fun _ => Qa) ?_
  refine Nz (G := (b, _) :: (Hl ++ (Ho ++ []))) ht (Qg.cons (VD h1 (by intro p hp; simp [hp]) List.mem_cons_self) (Qg.cons (QB.le (Le.refl _)) Qg.nil)) ⟨[], VU⟩ ?_
  refine a_ (fun _ => Qa) <| a_ (fun _ => Qa) ?_
  (first | refine a_ (fun _ => QX) ?_ | refine a_ (fun _ => QQ) ?_)
  refine a_ (fun _ => LD) ?_
  obtain ⟨k, hk⟩ : ∃ k : Nat, (k : Int) = min (((n.log.drop m).length : Nat) : Int) 8 := ⟨min (n.log.drop m).length 8, by omega⟩
  have hs6 := SlE.sub ⟨p5, c5, rfl, hc5, e5 ▸ hl5⟩ (lo := 0) (hi := k) (Nat.zero_le _) (by omega)
  simp only [List.drop_zero, Nat.sub_zero] at hs6
  obtain ⟨p6, c6, e6, hc6, hl6⟩ := hs6
  rw [← hk]
  refine a_ (fun _ => D7 (j := (k : Int)) (p := p5) (n := (n.log.drop m).length) (c := c5) hc5 (by simp only [Int.toNat_natCast]; exact e6)) <| a_ (fun _ => Qa) <| a_ (fun _ => Qe) <| a_ (fun _ => Qc) <| a_ (fun _ => Qc) <| QL ?_
  refine Pr (ZN false ((n.log.drop m).take k) (by simp; omega)) (Qg.cons (e6 ▸ hl6) Qg.nil) ⟨[], VU⟩ OE.of ?_
  rintro r H1 ⟨v, rfl, ho⟩
  obtain ⟨p7, c7, rfl⟩ := ho.len
  refine ⟨zd, ?_⟩
  refine zD ?_
  refine a_ (fun _ => ZG 11 [_, _, _, _, _, _, _, _, _, _, _]) ?_
  refine IF (FnH.lend (G := H1) ?_ (Ug to ⟨3, 0, 0, 0, n.next.get to.toNat - 1, termF n (n.next.get to.toNat - 1), n.commit, 0, false, (n.log.drop m).take k, []⟩ hb hw')) (fun r H' ⟨hr, h3⟩ => ⟨zd, ?_⟩)
  ·refine Qg.cons (QB.le (Le.refl _)) (Qg.cons (QB.le (Le.refl _)) (Qg.cons (QB.agg ?_) Qg.nil))
   repeat (first | exact Qg.nil | (refine Qg.cons (QB.le (Le.refl _)) ?_) | (refine Qg.cons (ho.lend fun _ h => h) ?_))
  ·refine zD ?_
   subst hr
   apply an
   refine zC ?_
   refine rhn kR ⟨rfl, ?_⟩ (Le.refl _)
   have e1 : (min (n.next.get to.toNat - 1 - n.base) (n.log.length : Int)).toNat = m := by simp only [List.length_map] at hm; omega
   have e2 : (n.log.drop m).take 8 = (n.log.drop m).take k := by
    rw [List.take_eq_take_iff]; omega
   rw [Z5, if_neg hc, e1, e2]
   exact h3
def CN (n : Nd) (to : Nat) : Bool := decide (¬ (to : Int) = n.id) && isF (Qx n).2 to
def Yk (n : Nd) (F : Int → Ms) (k : Nat) : List Ms := ((List.range k).filter (CN n)).map fun (i : Nat) => F (i : Int)
theorem Wm (n : Nd) (F : Int → Ms) (k : Nat) : Yk n F (k + 1) = Yk n F k ++ (if CN n k then [F k] else []) := by
 unfold Yk
 rw [List.range_succ, List.filter_append, List.map_append]
 by_cases h : CN n k <;> simp [h]
theorem Rk (n : Nd) (F : Int → Ms) (k : Nat) : (Yk n F k).length ≤ k := by
 unfold Yk
 rw [List.length_map]
 exact Nat.le_trans (List.length_filter_le _ _) (Nat.le_of_eq (List.length_range))
structure Bd (n : Nd) : Prop where
 id0 : 0 ≤ n.id
 id5 : n.id < 5
 log : n.log.length ≤ 100000000
 base0 : -10000000000 ≤ n.base
 base1 : n.base ≤ 10000000000
 conf0 : 0 ≤ (Qx n).2
 conf1 : (Qx n).2 ≤ 31
theorem L6 {b : Nat} {n : Nd} {out : List Ms} {H Hc : Qd} (F : Int → Ms) (f : FuncId) (fs cs : List T) (hcall : QE Tryz.prog f = true) (hn : Bd n) (ho : out.length ≤ 900) (hw : WkH b n out H)
  (hdo : ∀ (to : Int) (out : List Ms) (H : Qd), 0 ≤ to → to < 5 → out.length ≤ 905 → WkH b n out H → FnH Tryz.prog f (fs ++ [ei to] ++ cs) (H ++ Hc) (fun _ H' => ∃ H1, H' = H1 ++ Hc ∧ WkH b n (out ++ [F to]) H1)) :
  FnH Tryz.prog 104 [pW b, .clo f fs cs] (H ++ Hc) (fun r H' => r = .tup [] ∧ ∃ H1, H' = H1 ++ Hc ∧ WkH b n (out ++ Yk n F 5) H1) := by
 have hC := Vx n (by have := hn.log; omega) (by have := hn.base0; omega) (by have := hn.base1; omega)
 refine fe Tryz.func104 fun S0 w0 => ?_
 show Sim _ _ [(0, pW b), (1, T.clo f fs cs)] _ _
 obtain ⟨vl, vo, Hl, Ho, h1, h2, rfl⟩ := hw
 obtain ⟨p, c, rfl⟩ := h1.len
 obtain ⟨q, d, rfl⟩ := h2.len
 refine zC ?_
 refine cr <| s_ Qa <| s_ Qe <| s_ Qc <| s_ Xc <| s_ (WA hC (Qg.cons (QB.agg (QY n (h1.lend (by intro p hp; simp [hp])))) Qg.nil)) <| s_ Qb <| zC ?_
 refine cr <| s_ Qa <| zC ?_
 apply Qp (σ := Nat × Qd) (ok := fun s => s.1 ≤ 5 ∧ WkH b n (out ++ Yk n F s.1) s.2) (env := fun s => [(11, ei (s.1 : Nat)), (4, ei (Qx n).2), (0, pW b), (1, T.clo f fs cs)])
  (heap := fun s => s.2 ++ Hc) (μ := fun s => 5 - s.1) (s0 := (0, (b, ⟨tW, wkC n (.slice p (n.log.map een).length c) (.slice q (out.map ms).length d), 23⟩) :: (Hl ++ (Ho ++ []))))
 ·exact ⟨by simp, _, _, Hl, Ho, h1, by simpa [Yk] using h2, rfl⟩
 ·exact eL
 ·exact kR
 rintro ⟨k, H⟩ ⟨hk, hw⟩
 simp only at hk hw
 refine zC ?_
 refine cr <| s_ Q2 <| zC ?_
 refine ci ?_ ?_
 ·intro hlt
  simp only at hlt
  have hlen := Rk n F k
  have hd := hdo k _ H (by omega) (by omega) (by rw [List.length_append]; omega) hw
  have hi : FnP Tryz.prog 107 [ei (Qx n).2, ei k] (fun r => r = .v (.bool (decide (isF (Qx n).2 k = true)))) := by
   have := TJ (Qx n).2 k (by omega) (by omega) hn.conf0 hn.conf1
   simpa [eB] using this
  obtain ⟨vl', vo', Hl', Ho', g1, g2, rfl⟩ := hw
  obtain ⟨p', c', rfl⟩ := g1.len
  obtain ⟨q', d', rfl⟩ := g2.len
  refine zC ?_
  refine cr <| s_ Qa <| s_ Qb <| zC ?_
  refine cr <| s_ Qa <| s_ Qa <| s_ Qe <| s_ Qc <| s_ Qc <| s_ Qj <| s_ Yg <| s_ Qa <| gT (fun hg => Qa) ?_
  refine gT (fun hg => Qa) ?_
  refine gT (fun hg => QM (hi) (ha' := by apply Q1 (u_ hg); apply Q1 (u_ hg); exact XZ)) ?_
  refine s_ Yh <| zC ?_
  refine ci ?_ ?_
  ·intro hm
   refine zC ?_
   refine cr <| s_ Qa <| s_ Qa ?_
   refine UL hd VU (fun r H' hH' => ?_) (hc := hcall)
   obtain ⟨H1, rfl, hw1⟩ := hH'
   refine zC ?_
   refine cr <| s_ Q6 <| s_ Qa <| zC ?_
   refine ⟨(k + 1, H1), ⟨by simp only; omega, ?_⟩, (by simp only []; omega), ⟨?_, eL⟩, by rw [List.append_nil]; exact kR⟩
   ·simp only
    rw [Wm, if_pos (by unfold CN; simp only [Bool.and_eq_true, decide_eq_true_eq]; exact hm), ← List.append_assoc]
    exact hw1
   ·apply Qh; (exact zG)
    exact Le.of_eq (by congr 2)
  ·intro hm
   refine zC ?_
   refine cr <| s_ Q6 <| s_ Qa <| zC ?_
   refine ⟨(k + 1, _), ⟨by simp only; omega, ?_⟩, (by simp only []; omega), ⟨?_, eL⟩, kR⟩
   ·simp only
    rw [Wm, if_neg (by unfold CN; simp only [Bool.and_eq_true, decide_eq_true_eq]; exact hm), List.append_nil]
    exact ⟨_, _, Hl', Ho', g1, g2, rfl⟩
   ·apply Qh; (exact zG)
    exact Le.of_eq (by congr 2)
 ·intro hlt
  simp only at hlt
  have : k = 5 := by omega
  subst this
  refine zC ?_
  exact rhn kR ⟨rfl, H, rfl, hw⟩ (Le.refl _)
def XY (yes : Bool) (index : Int) : Ms := ⟨4, 0, 0, 0, index, 0, 0, 0, yes, [], []⟩
theorem ZQ {b : Nat} {n : Nd} {out : List Ms} {H : Qd} (to : Int) (yes : Bool) (index : Int) (hb : out.length ≤ 1000) (hw : WkH b n out H) :
  FnH Tryz.prog 158 [pW b, ei to, eB yes, ei index] H (fun r H' => r = .tup [] ∧ WkH b n (out ++ [QG n to (XY yes index)]) H') := by
 refine fe Tryz.func158 fun S0 w0 => ?_
 show Sim _ _ [(0, pW b), (1, ei to), (2, eB yes), (3, ei index)] _ _
 refine zC ?_
 refine cr <| s_ Qa <| s_ Qa <| s_ Qa <| s_ Qa <| s_ (ZG 11 [_, _, _, _, _, _, _, _, _, _, _]) ?_
 refine QN (FnH.of_le ?_ (Ug to (XY yes index) hb hw)) (fun r H' ⟨hr, h3⟩ => ?_)
 ·exact zM
 ·subst hr
  refine zC ?_
  exact rhn kR ⟨rfl, h3⟩ (Le.refl _)
theorem Ig {b : Nat} {n : Nd} {out : List Ms} {H : Qd} (m : Ms) (hb : out.length ≤ 1000) (hw : WkH b n out H) :
  FnH Tryz.prog 157 [pW b, ms m] H (fun r H' => if m.term < n.term then r = eB false ∧ WkH b n (out ++ [QG n m.frm (XY false 0)]) H' else r = eB true ∧ WkH b { n with role := 0, wait := 0 } out H') := by
 have hw' := hw
 obtain ⟨vl, vo, Hl, Ho, h1, h2, rfl⟩ := hw
 obtain ⟨p, c, rfl⟩ := h1.len
 obtain ⟨q, d, rfl⟩ := h2.len
 refine fe Tryz.func157 fun S0 w0 => ?_
 show Sim _ _ [(0, pW b), (1, T.agg (msC m (ZM m.entries)))] _ _
 refine zC ?_
 apply cr
 refine X1 fun b3 _ => ?_
 refine s_ Qb <| zC ?_
 refine ca [0, 1, 2, 3, 4, 5, 6, 7] [] <| a_ (fun _ => Qc) <| QL ?_
 refine a_ (fun _ => Qa) <| a_ (fun _ => Qe) <| a_ (fun _ => Qc) <| a_ (fun _ => Qc) <| QL ?_
 refine a_ (fun _ => Q2) ?_
 apply an
 refine zC ?_
 refine ci ?_ ?_
 ·intro hlt
  refine zC ?_
  refine cr <| s_ Qa <| s_ Qc <| s_ Qj ?_
  refine QV (Hr := [_]) (ZQ m.frm false 0 hb hw') (List.perm_append_comm (l₁ := [_])) (fun r H' ⟨hr, h3⟩ => ?_)
  subst hr
  refine zC ?_
  refine cr <| s_ Qb <| zC ?_
  refine zR ?_
  refine rhp (List.perm_append_comm (l₂ := [_])) (.skip _ _ _ kR) ?_ (Le.refl _)
  rw [if_pos hlt]
  exact ⟨rfl, h3⟩
 ·intro hlt
  refine zC ?_
  refine cr <| s_ Qa <| s_ Qa <| s_ Qe <| s_ Qc <| s_ Qc <| Qz ?_
  refine s_ Qe <| s_ Qc <| s_ Qc <| Qz ?_
  refine zC ?_
  refine cr <| s_ Qb <| zC ?_
  refine zR ?_
  refine rh (.skip _ _ _ kR) ?_ (Le.refl _)
  rw [if_neg hlt]
  exact ⟨rfl, _, _, Hl, Ho, h1, h2, rfl⟩
end Go.Proofs.YtjbokbikkcfjjaaGreat
