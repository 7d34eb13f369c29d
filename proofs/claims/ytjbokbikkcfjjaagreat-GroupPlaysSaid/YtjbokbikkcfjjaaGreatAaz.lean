/-
  Raft's safety: what happens, step by step, keeps the facts.
-/
import Derived.Test.YtjbokbikkcfjjaaGreatAay
set_option maxRecDepth 16000
set_option maxHeartbeats 8000000
set_option linter.all false
namespace Go.Proofs.YtjbokbikkcfjjaaGreat
namespace Raft
variable {H H' : Yt}
def tAt (l : List En) : Nat → Int
 | 0 => 0
 | k + 1 => (l.getD k default).term
def YU (H : Yt) (T : Int) (l : List En) (k : Nat) : Prop := k = 0 ∨ ∃ S c n, H.cmt S c n ∧ S ≤ T ∧ k ≤ c ∧ AG (H.LL S) l k
theorem YU.up {T T' : Int} {l : List En} {k : Nat} (h : YU H T l k) (hT : T ≤ T') : YU H T' l k := by
 rcases h with h | ⟨S, c, n, h1, h2, h3, h4⟩
 ·exact .inl h
 ·exact .inr ⟨S, c, n, h1, by omega, h3, h4⟩
theorem YU.le {T : Int} {l : List En} {k j : Nat} (h : YU H T l k) (hj : j ≤ k) : YU H T l j := by
 rcases h with h | ⟨S, c, n, h1, h2, h3, h4⟩
 ·exact .inl (by omega)
 ·exact .inr ⟨S, c, n, h1, h2, by omega, h4.le hj⟩
theorem YU.to {T : Int} {l m : List En} {k : Nat} (h : YU H T l k) (hm : AG l m k) : YU H T m k := by
 rcases h with h | ⟨S, c, n, h1, h2, h3, h4⟩
 ·exact .inl h
 ·exact .inr ⟨S, c, n, h1, h2, h3, h4.trans hm⟩
theorem AG.appL {l m x : List En} {k : Nat} (h : AG l m k) : AG (l ++ x) m k :=
 ⟨by rw [List.length_append]; have := h.1; omega, h.2.1, by rw [List.take_append_of_le_length h.1]; exact h.2.2⟩
theorem AG.appR {l m x : List En} {k : Nat} (h : AG l m k) : AG l (m ++ x) k := h.symm.appL.symm
theorem AG.take {l m : List En} {k q : Nat} (h : AG l m k) (hq : k ≤ q) : AG l (m.take q) k := by
 refine ⟨h.1, by rw [List.length_take]; have := h.2.1; omega, ?_⟩
 rw [List.take_take, Nat.min_eq_left hq]; exact h.2.2
theorem AG.takeSelf {l : List En} {q : Nat} (hq : q ≤ l.length) : AG l (l.take q) q := (AG.refl hq).take (Nat.le_refl _)
theorem AG.tAt {l m : List En} {k : Nat} (h : AG l m k) : tAt l k = tAt m k := by
 cases k with
 | zero => rfl
 | succ k =>
  have := h.get (i := k) (Nat.lt_succ_self _)
  simp only [Raft.tAt, List.getD_eq_getElem?_getD, this]
theorem XD.ag {l m : List En} (hl : XD H l) (hm : XD H m) {j : Nat} {a b : En} (h1 : l[j]? = some a) (h2 : m[j]? = some b) (ht : a.term = b.term) : AG l m (j + 1) := by
 have h3 := (hl j a h1).2
 have h4 := (hm j b h2).2
 rw [ht] at h3
 exact h3.trans h4.symm
theorem XD.agT {l m : List En} (hl : XD H l) (hm : XD H m) {k : Nat} (h1 : k ≤ l.length) (h2 : k ≤ m.length) (ht : tAt l k = tAt m k) : AG l m k := by
 cases k with
 | zero => exact AG.zero _ _
 | succ k =>
  have g1 : l[k]? = some l[k] := List.getElem?_eq_getElem (by omega)
  have g2 : m[k]? = some m[k] := List.getElem?_eq_getElem (by omega)
  simp only [tAt, List.getD_eq_getElem?_getD, g1, g2, Option.getD_some] at ht
  exact XD.ag hl hm g1 g2 ht
theorem XD.take {l : List En} (hl : XD H l) (q : Nat) : XD H (l.take q) := by
 intro j e he
 rw [List.getElem?_take] at he
 split at he
 ·rename_i hj
  obtain ⟨h1, h2⟩ := hl j e he
  have := h2.1
  exact ⟨h1, (h2.symm.take (q := q) (by omega)).symm⟩
 ·cases he
theorem YU.ag (F : QC H) {T : Int} {l : List En} {k : Nat} (hT : H.led T) (h : YU H T l k) : AG (H.LL T) l k := by
 rcases h with rfl | ⟨S, c, n, h1, h2, h3, h4⟩
 ·exact AG.zero _ _
 ·rcases Int.lt_or_eq_of_le h2 with h | h
  ·have h5 := Us F (F.wins hT) h1 h
   have h6 := F.cl T hT
   have h7 : AG (H.LL S) (H.LL T) c := h5.trans (h6.1.le (by have := h5.2.1; omega))
   exact (h7.le h3).symm.trans h4
  ·rw [← h]; exact h4
theorem OW (F : QC H) {l : List En} (hl : XD H l) {k : Nat} (hk : k ≤ l.length) : 0 ≤ tAt l k := by
 cases k with
 | zero => exact Int.le_refl _
 | succ k =>
  have g1 : l[k]? = some l[k] := List.getElem?_eq_getElem (by omega)
  have := F.pos _ (hl k _ g1).1
  simp only [tAt, List.getD_eq_getElem?_getD, g1, Option.getD_some]
  omega
structure Ext (H H' : Yt) : Prop where
 c0 : H'.c0 = H.c0
 bd : H.bd ≤ H'.bd
 led : ∀ t, H.led t → H'.led t
 ld : ∀ t, H.led t → H'.ld t = H.ld t
 EL : ∀ t, H.led t → H'.EL t = H.EL t
 LL : ∀ t, H.led t → AG (H.LL t) (H'.LL t) (H.LL t).length
 CL : ∀ T v c, H.vote T v c → H'.CL T c = H.CL T c
 vote : ∀ T v c, H.vote T v c → H'.vote T v c
 ack : ∀ S v k, H.ack S v k → H'.ack S v k
 cmt : ∀ S k n, H.cmt S k n → H'.cmt S k n
theorem Ext.refl (H : Yt) : Ext H H := ⟨rfl, Nat.le_refl _, fun _ h => h, fun _ _ => rfl, fun _ _ => rfl, fun _ _ => AG.refl (Nat.le_refl _), fun _ _ _ _ => rfl, fun _ _ _ h => h, fun _ _ _ h => h, fun _ _ _ h => h⟩
theorem Ext.trans {H1 H2 H3 : Yt} (a : Ext H1 H2) (b : Ext H2 H3) : Ext H1 H3 :=
 ⟨b.c0.trans a.c0, Nat.le_trans a.bd b.bd, fun t h => b.led t (a.led t h), fun t h => (b.ld t (a.led t h)).trans (a.ld t h), fun t h => (b.EL t (a.led t h)).trans (a.EL t h),
  fun t h => (a.LL t h).trans ((b.LL t (a.led t h)).le (a.LL t h).2.1), fun T v c h => (b.CL T v c (a.vote _ _ _ h)).trans (a.CL T v c h), fun _ _ _ h => b.vote _ _ _ (a.vote _ _ _ h), fun _ _ _ h => b.ack _ _ _ (a.ack _ _ _ h), fun _ _ _ h => b.cmt _ _ _ (a.cmt _ _ _ h)⟩
theorem XD.ext (E : Ext H H') {l : List En} (h : XD H l) : XD H' l := by
 intro j e he
 obtain ⟨h1, h2⟩ := h j e he
 exact ⟨E.led _ h1, h2.trans ((E.LL _ h1).le h2.2.1)⟩
theorem Ext.agLL (E : Ext H H') {S : Int} (h : H.led S) {l : List En} {k : Nat} (ha : AG (H.LL S) l k) : AG (H'.LL S) l k := ((E.LL S h).le ha.1).symm.trans ha
theorem Ext.nagLL (E : Ext H H') {S : Int} (h : H.led S) {l : List En} {k : Nat} (hk : k ≤ (H.LL S).length) (ha : ¬ AG (H.LL S) l k) : ¬ AG (H'.LL S) l k := fun h' => ha (((E.LL S h).le hk).trans h')
theorem YU.ext (F : QC H) (E : Ext H H') {T : Int} {l : List En} {k : Nat} (h : YU H T l k) : YU H' T l k := by
 rcases h with h | ⟨S, c, n, h1, h2, h3, h4⟩
 ·exact .inl h
 ·exact .inr ⟨S, c, n, E.cmt _ _ _ h1, h2, h3, E.agLL (F.com _ _ _ h1).1 h4⟩
theorem Ext.CLld (F : QC H) (E : Ext H H') {t : Int} (h : H.led t) : H'.CL t (H'.ld t) = H.CL t (H.ld t) := by
 obtain ⟨v, hv⟩ := JW (F.wins h)
 rw [E.ld t h]
 exact E.CL t v _ hv
structure LI (H : Yt) (i : Nat) (n : Nd) (l : List En) : Prop where
 led : H.led n.term
 ld : H.ld n.term = i
 log : l = H.LL n.term
 mt : ∀ j, j < 5 → 0 ≤ n.mtch.get j ∧ n.mtch.get j ≤ l.length ∧ ∀ k : Nat, 0 < k → (k : Int) ≤ n.mtch.get j → H.ack n.term j k
 nx : ∀ j, j < 5 → 1 ≤ n.next.get j ∧ n.next.get j ≤ l.length + 1
structure NI (H : Yt) (i : Nat) (n : Nd) (l : List En) : Prop where
 id : n.id = (i : Nat)
 t0 : 0 ≤ n.term
 t1 : n.term ≤ 1073741824
 base : ∃ b : Nat, n.base = b ∧ b ≤ l.length ∧ n.log = l.drop b ∧ n.baseTerm = tAt l b ∧ n.baseConf = Q0 H.c0 (l.take b)
 com : ∃ c : Nat, n.commit = c ∧ n.base ≤ c ∧ c ≤ l.length ∧ YU H n.term l c
 cons : XD H l
 terms : ∀ (j : Nat) (e : En), l[j]? = some e → e.term ≤ n.term
 votel : ∀ T c, H.vote T i c → T ≤ n.term
 vote : ∀ c : Nat, H.vote n.term i c ↔ n.vote = c
 stood : ∀ T v, H.vote T v i → T ≤ n.term
 votes0 : 0 ≤ n.votes
 votes1 : n.votes ≤ 31
 sz : ∀ j, j < 5 → 0 ≤ n.next.get j ∧ n.next.get j ≤ H.bd + 1 ∧ 0 ≤ n.mtch.get j ∧ n.mtch.get j ≤ H.bd
 cand : n.role = 1 → l = H.CL n.term i ∧ ¬ (H.led n.term ∧ H.ld n.term = i) ∧ H.vote n.term i i ∧ ∀ j, j < 5 → n.votes.toNat.testBit j = true → H.vote n.term j i
 lead : n.role = 2 → LI H i n l
 acks : ∀ S k, H.ack S i k → S ≤ n.term ∧ (AG (H.LL S) l k ∨ ∃ t, S < t ∧ t ≤ n.term ∧ H.led t ∧ ¬ AG (H.LL S) (H.CL t (H.ld t)) k)
theorem LI.ext (E : Ext H H') {j : Nat} {n : Nd} {l : List En} (hL : ∀ t, H.led t → H.ld t = j → H'.LL t = H.LL t) (h : LI H j n l) : LI H' j n l :=
 ⟨E.led _ h.led, (E.ld _ h.led).trans h.ld, h.log.trans (hL _ h.led h.ld).symm, fun i hi => ⟨(h.mt i hi).1, (h.mt i hi).2.1, fun k h1 h2 => E.ack _ _ _ ((h.mt i hi).2.2 k h1 h2)⟩, h.nx⟩
theorem NI.extG (F : QC H) (E : Ext H H') {j : Nat} {n : Nd} {l : List En} {v' w' : Int} (hv : ∀ T c, H'.vote T j c → T ≤ n.term) (hvv : ∀ c : Nat, H'.vote n.term j c ↔ v' = c) (hs : ∀ T v, H'.vote T v j → ∃ u, H.vote T u j)
  (hl : ∀ T, H'.led T → H'.ld T = j → H.led T) (ha : ∀ S k, H'.ack S j k → H.ack S j k ∨ S ≤ n.term ∧ AG (H'.LL S) l k) (hL : ∀ t, H.led t → H.ld t = j → H'.LL t = H.LL t) (h : NI H j n l) : NI H' j { n with vote := v', wait := w' } l where
 id := h.id
 t0 := h.t0
 t1 := h.t1
 base := by rw [E.c0]; exact h.base
 com := by
  obtain ⟨c, h1, h2, h3, h4⟩ := h.com
  exact ⟨c, h1, h2, h3, h4.ext F E⟩
 cons := h.cons.ext E
 terms := h.terms
 votel := hv
 vote := hvv
 stood := fun T v hc => by
  obtain ⟨u, hu⟩ := hs T v hc
  exact h.stood T u hu
 votes0 := h.votes0
 votes1 := h.votes1
 sz := fun i hi => by
  have := h.sz i hi
  have := E.bd
  simp only
  omega
 cand := fun hr => by
  obtain ⟨h1, h2, h3, h4⟩ := h.cand hr
  refine ⟨h1.trans (E.CL _ _ _ h3).symm, fun hc => ?_, E.vote _ _ _ h3, fun i hi hb => E.vote _ _ _ (h4 i hi hb)⟩
  have h5 := hl _ hc.1 hc.2
  exact h2 ⟨h5, by rw [← E.ld _ h5]; exact hc.2⟩
 lead := fun hr => by
  have := (h.lead hr).ext E hL
  exact ⟨this.led, this.ld, this.log, this.mt, this.nx⟩
 acks := fun S k hk => by
  rcases ha S k hk with hk | ⟨h1, h2⟩
  ·obtain ⟨h1, h2⟩ := h.acks S k hk
   obtain ⟨h5, h6⟩ := F.ackl _ _ _ hk
   refine ⟨h1, ?_⟩
   rcases h2 with h2 | ⟨t, h2, h3, h4, h7⟩
   ·exact .inl (E.agLL h5 h2)
   ·exact .inr ⟨t, h2, h3, E.led _ h4, by rw [E.CLld F h4]; exact E.nagLL h5 h6 h7⟩
  ·exact ⟨h1, .inl h2⟩
theorem NI.ext (F : QC H) (E : Ext H H') {j : Nat} {n : Nd} {l : List En} (hv : ∀ T c, H'.vote T j c → H.vote T j c) (hs : ∀ T v, H'.vote T v j → ∃ u, H.vote T u j)
  (hl : ∀ T, H'.led T → H'.ld T = j → H.led T) (ha : ∀ S k, H'.ack S j k → H.ack S j k ∨ S ≤ n.term ∧ AG (H'.LL S) l k) (hL : ∀ t, H.led t → H.ld t = j → H'.LL t = H.LL t) (h : NI H j n l) : NI H' j n l :=
 NI.extG (v' := n.vote) (w' := n.wait) F E (fun T c hc => h.votel T c (hv T c hc)) (fun c => ⟨fun hc => (h.vote c).1 (hv _ _ hc), fun hc => E.vote _ _ _ ((h.vote c).2 hc)⟩) hs hl ha hL h
structure MI (H : Yt) (m : Ms) : Prop where
 frm : ∃ f : Nat, f < 5 ∧ m.frm = f
 to : ∃ f : Nat, f < 5 ∧ m.to = f
 k1 : m.kind = 1 → ∀ f : Nat, m.frm = f → H.vote m.term f f ∧ m.index = (H.CL m.term f).length ∧ m.logTerm = Jk (H.CL m.term f)
 k2 : m.kind = 2 → m.yes = true → ∀ f c : Nat, m.frm = f → m.to = c → H.vote m.term f c
 k3 : m.kind = 3 → H.led m.term ∧ m.frm = (H.ld m.term : Nat) ∧ ∃ i c : Nat, m.index = i ∧ m.commit = c ∧ i + m.entries.length ≤ (H.LL m.term).length ∧ m.entries = ((H.LL m.term).drop i).take m.entries.length ∧ m.logTerm = tAt (H.LL m.term) i ∧ YU H m.term (H.LL m.term) c
 k4 : m.kind = 4 → m.yes = true → ∃ k : Nat, m.index = k ∧ ∀ f : Nat, m.frm = f → ∀ j, 0 < j → j ≤ k → H.ack m.term f j
 k5 : m.kind = 5 → H.led m.term ∧ m.frm = (H.ld m.term : Nat) ∧ ∃ i : Nat, m.index = i ∧ i ≤ (H.LL m.term).length ∧ m.logTerm = tAt (H.LL m.term) i ∧ m.conf = Q0 H.c0 ((H.LL m.term).take i) ∧ YU H m.term (H.LL m.term) i
 i0 : -1 ≤ m.index
 i1 : m.index ≤ H.bd
 es : m.entries.length ≤ 8
theorem MI.ext (F : QC H) (E : Ext H H') {m : Ms} (h : MI H m) : MI H' m where
 frm := h.frm
 to := h.to
 k1 := fun hk f hf => by
  obtain ⟨h1, h2, h3⟩ := h.k1 hk f hf
  rw [E.CL _ _ _ h1]
  exact ⟨E.vote _ _ _ h1, h2, h3⟩
 k2 := fun hk hy f c hf hc => E.vote _ _ _ (h.k2 hk hy f c hf hc)
 k3 := fun hk => by
  obtain ⟨h1, h2, i, c, h3, h4, h5, h6, h7, h8⟩ := h.k3 hk
  have hLL := E.LL _ h1
  refine ⟨E.led _ h1, by rw [E.ld _ h1]; exact h2, i, c, h3, h4, Nat.le_trans h5 hLL.2.1, ?_, ?_, ?_⟩
  ·have h9 := (hLL.le h5).2.2
   rw [h6]
   have := congrArg (List.drop i) h9
   rw [List.drop_take, List.drop_take, Nat.add_sub_cancel_left] at this
   rw [this, List.length_take, List.length_drop, Nat.min_eq_left (by have := hLL.2.1; omega)]
  ·rw [h7]; exact (hLL.le (by omega)).tAt
  ·have h9 := h8.ext F E
   rcases h8 with h8 | ⟨_, _, _, _, _, _, h10⟩
   ·exact .inl h8
   ·exact h9.to (hLL.le h10.2.1)
 k4 := fun hk hy => by
  obtain ⟨k, h1, h2⟩ := h.k4 hk hy
  exact ⟨k, h1, fun f hf j h3 h4 => E.ack _ _ _ (h2 f hf j h3 h4)⟩
 k5 := fun hk => by
  obtain ⟨h1, h2, i, h3, h5, h6, h7, h8⟩ := h.k5 hk
  have hLL := E.LL _ h1
  refine ⟨E.led _ h1, by rw [E.ld _ h1]; exact h2, i, h3, Nat.le_trans h5 hLL.2.1, ?_, ?_, ?_⟩
  ·rw [h6]; exact (hLL.le h5).tAt
  ·rw [h7, E.c0, (hLL.le h5).2.2]
  ·exact (h8.ext F E).to (hLL.le h5)
 i0 := h.i0
 i1 := by have := h.i1; have := E.bd; omega
 es := h.es
structure X3 (k i : Nat) (H H' : Yt) : Prop where
 ext : Ext H H'
 oth : ∀ j n l, j ≠ i → NI H j n l → NI H' j n l
 bd : H'.bd ≤ H.bd + k
theorem X3.refl (i : Nat) (H : Yt) : X3 0 i H H := ⟨Ext.refl H, fun _ _ _ _ h => h, Nat.le_refl _⟩
theorem X3.trans {a b i : Nat} {H1 H2 H3 : Yt} (x : X3 a i H1 H2) (y : X3 b i H2 H3) : X3 (a + b) i H1 H3 :=
 ⟨x.ext.trans y.ext, fun j n l hj h => y.oth j n l hj (x.oth j n l hj h), by have := x.bd; have := y.bd; omega⟩
end Raft
namespace Raft
variable {H : Yt}
def Yt.stand (H : Yt) (T : Int) (i : Nat) (l : List En) : Yt := { H with CL := fun t c => if t = T ∧ c = i then l else H.CL t c, vote := fun t v c => H.vote t v c ∨ (t = T ∧ v = i ∧ c = i) }
def Yt.give (H : Yt) (T : Int) (v c : Nat) : Yt := { H with vote := fun t u d => H.vote t u d ∨ (t = T ∧ u = v ∧ d = c), late := fun t u d => H.late t u d ∨ (t = T ∧ u = v ∧ d = c ∧ H.led T) }
def Yt.begin (H : Yt) (T : Int) (i : Nat) (e : En) : Yt := { H with led := fun t => H.led t ∨ t = T, ld := fun t => if t = T then i else H.ld t, LL := fun t => if t = T then H.CL T i ++ [e] else H.LL t, EL := fun t => if t = T then (H.CL T i).length else H.EL t, bd := H.bd + 1 }
def Yt.put (H : Yt) (T : Int) (e : En) : Yt := { H with LL := fun t => if t = T then H.LL T ++ [e] else H.LL t, bd := H.bd + 1 }
def Yt.agree (H : Yt) (T : Int) (v k : Nat) : Yt := { H with ack := fun S u x => H.ack S u x ∨ (S = T ∧ u = v ∧ x ≤ k) }
def Yt.commit (H : Yt) (T : Int) (k n : Nat) : Yt := { H with cmt := fun S a b => H.cmt S a b ∨ (S = T ∧ a = k ∧ b = n) }
theorem XD.len (F : QC H) {l : List En} (h : XD H l) : l.length ≤ H.bd := by
 by_cases hz : l.length = 0
 ·omega
 ·have g : l[l.length - 1]? = some l[l.length - 1] := List.getElem?_eq_getElem (by omega)
  obtain ⟨h1, h2⟩ := h _ _ g
  have := F.lbd _ h1
  have := h2.2.1
  omega
theorem U6 {T : Int} {i : Nat} {l : List En} (hn : ∀ v, ¬ H.vote T v i) : Ext H (H.stand T i l) where
 c0 := rfl
 bd := Nat.le_refl _
 led := fun _ h => h
 ld := fun _ _ => rfl
 EL := fun _ _ => rfl
 LL := fun _ _ => AG.refl (Nat.le_refl _)
 CL := fun t v c h => by
  show (if t = T ∧ c = i then l else H.CL t c) = H.CL t c
  rw [if_neg]
  rintro ⟨rfl, rfl⟩
  exact hn v h
 vote := fun _ _ _ h => .inl h
 ack := fun _ _ _ h => h
 cmt := fun _ _ _ h => h
theorem Ga (F : QC H) {T : Int} {i : Nat} {l : List En} (hT : 0 < T) (hn : ∀ v, ¬ H.vote T v i) (hm : ∀ c, ¬ H.vote T i c) (hc : XD H l) (ht : ∀ (j : Nat) (e : En), l[j]? = some e → e.term < T)
  (ha : ∀ S k, H.ack S i k → AG (H.LL S) l k ∨ ∃ t, S < t ∧ t < T ∧ H.led t ∧ ¬ AG (H.LL S) (H.CL t (H.ld t)) k) : QC (H.stand T i l) := by
 have E := U6 (l := l) hn
 have hCL := E.CL
 have hCd : ∀ t, H.led t → (H.stand T i l).CL t (H.ld t) = H.CL t (H.ld t) := fun t h => E.CLld F h
 refine { c00 := F.c00, c01 := F.c01, cr := F.cr, ld5 := F.ld5, lled := F.lled, vpos := ?_, lbd := F.lbd, ackl := F.ackl, pos := F.pos, cons := F.cons, len := F.len, old := F.old, own := F.own, cl := ?_, win := ?_, once := ?_, voted := ?_, com := F.com, chg := F.chg }
 ·rintro t v c (h | ⟨h, _, _⟩)
  ·exact F.vpos t v c h
  ·rw [h]; exact hT
 ·intro t h
  show AG ((H.stand T i l).CL t (H.ld t)) _ _ ∧ ((H.stand T i l).CL t (H.ld t)).length = _
  rw [hCd t h]
  exact F.cl t h
 ·intro t h
  obtain ⟨s, h1, h2, h3⟩ := F.win t h
  refine ⟨s, h1, ?_, fun j hj hb => ⟨.inl (h3 j hj hb).1, (h3 j hj hb).2⟩⟩
  show XK (Q0 H.c0 ((H.stand T i l).CL t (H.ld t))) s = true
  rw [hCd t h]; exact h2
 ·rintro t v c c' (h1 | ⟨h1, h2, h3⟩) (h4 | ⟨h4, h5, h6⟩)
  ·exact F.once t v c c' h1 h4
  ·subst h4 h5; exact absurd h1 (hm c)
  ·subst h1 h2; exact absurd h4 (hm c')
  ·rw [h3, h6]
 ·rintro t v c (h | ⟨h1, h2, h3⟩)
  ·obtain ⟨h1, h2, VL, h3, h4, h5⟩ := F.voted t v c h
   rw [hCL t v c h]
   refine ⟨h1, h2, VL, h3, h4, fun S k hS hk => ?_⟩
   rcases h5 S k hS hk with h6 | ⟨t', h6, h7, h8, h9, h10⟩
   ·exact .inl h6
   ·refine .inr ⟨t', h6, h7, h8, h9, ?_⟩
    show ¬ AG (H.LL S) ((H.stand T i l).CL t' (H.ld t')) k
    rw [hCd t' h8]; exact h10
  ·subst h1 h2 h3
   have hx : (H.stand t c l).CL t c = l := by
    show (if t = t ∧ c = c then l else H.CL t c) = l
    rw [if_pos ⟨rfl, rfl⟩]
   rw [hx]
   refine ⟨hc, ht, l, hc, .inr ⟨rfl, Nat.le_refl _⟩, fun S k hS hk => ?_⟩
   rcases ha S k hk with h6 | ⟨t', h6, h7, h8, h10⟩
   ·exact .inl h6
   ·refine .inr ⟨t', h6, by omega, h8, fun h => absurd h (by omega), ?_⟩
    show ¬ AG (H.LL S) ((H.stand t c l).CL t' (H.ld t')) k
    rw [hCd t' h8]; exact h10
theorem Mn {T : Int} {v c : Nat} : Ext H (H.give T v c) :=
 ⟨rfl, Nat.le_refl _, fun _ h => h, fun _ _ => rfl, fun _ _ => rfl, fun _ _ => AG.refl (Nat.le_refl _), fun _ _ _ _ => rfl, fun _ _ _ h => .inl h, fun _ _ _ h => h, fun _ _ _ h => h⟩
theorem Ru (F : QC H) {T : Int} {v c : Nat} {l : List En} (hm : ∀ d, ¬ H.vote T v d) (hcc : H.vote T c c) (hc : XD H l) (hu : N4 l (H.CL T c))
  (ha : ∀ S k, H.ack S v k → AG (H.LL S) l k ∨ ∃ t, S < t ∧ t ≤ T ∧ H.led t ∧ ¬ AG (H.LL S) (H.CL t (H.ld t)) k) : QC (H.give T v c) := by
 refine { c00 := F.c00, c01 := F.c01, cr := F.cr, ld5 := F.ld5, lled := ?_, vpos := ?_, lbd := F.lbd, ackl := F.ackl, pos := F.pos, cons := F.cons, len := F.len, old := F.old, own := F.own, cl := F.cl, win := ?_, once := ?_, voted := ?_, com := F.com, chg := F.chg }
 ·rintro t u d (h | ⟨h1, _, _, h4⟩)
  ·exact F.lled t u d h
  ·rw [h1]; exact h4
 ·rintro t u d (h | ⟨h, _, _⟩)
  ·exact F.vpos t u d h
  ·rw [h]; exact F.vpos T c c hcc
 ·intro t h
  obtain ⟨s, h1, h2, h3⟩ := F.win t h
  refine ⟨s, h1, h2, fun j hj hb => ⟨.inl (h3 j hj hb).1, ?_⟩⟩
  rintro (h4 | ⟨h4, h5, h6, _⟩)
  ·exact (h3 j hj hb).2 h4
  ·have := (h3 j hj hb).1
   subst h4 h5
   exact hm _ this
 ·rintro t u d d' (h1 | ⟨h1, h2, h3⟩) (h4 | ⟨h4, h5, h6⟩)
  ·exact F.once t u d d' h1 h4
  ·subst h4 h5; exact absurd h1 (hm d)
  ·subst h1 h2; exact absurd h4 (hm d')
  ·rw [h3, h6]
 ·rintro t u d (h | ⟨h1, h2, h3⟩)
  ·obtain ⟨h1, h2, VL, h3, h4, h5⟩ := F.voted t u d h
   refine ⟨h1, h2, VL, h3, h4, fun S k hS hk => ?_⟩
   rcases h5 S k hS hk with h6 | ⟨t', h6, h7, h8, h9, h10⟩
   ·exact .inl h6
   ·exact .inr ⟨t', h6, h7, h8, fun h => .inl (h9 h), h10⟩
  ·subst h1 h2 h3
   obtain ⟨h1, h2, _⟩ := F.voted t d d hcc
   refine ⟨h1, h2, l, hc, hu, fun S k hS hk => ?_⟩
   rcases ha S k hk with h6 | ⟨t', h6, h7, h8, h10⟩
   ·exact .inl h6
   ·exact .inr ⟨t', h6, h7, h8, fun h => .inr ⟨rfl, rfl, rfl, h ▸ h8⟩, h10⟩
theorem WA {T t : Int} (hn : ¬ H.led T) (h : H.led t) : ¬ t = T := fun h' => hn (h' ▸ h)
theorem Vn {T : Int} {i : Nat} {e : En} (hn : ¬ H.led T) : Ext H (H.begin T i e) where
 c0 := rfl
 bd := Nat.le_succ _
 led := fun _ h => .inl h
 ld := fun t h => if_neg (WA hn h)
 EL := fun t h => if_neg (WA hn h)
 LL := fun t h => by
  have : (H.begin T i e).LL t = H.LL t := if_neg (WA hn h)
  rw [this]
  exact AG.refl (Nat.le_refl _)
 CL := fun _ _ _ _ => rfl
 vote := fun _ _ _ h => h
 ack := fun _ _ _ h => h
 cmt := fun _ _ _ h => h
theorem OK (F : QC H) {T : Int} {i : Nat} {e : En} (hn : ¬ H.led T) (hel : Uq H T i) (hi : i < 5) (hp : 0 < T) (he : e.term = T) (he0 : e.conf = 0) : QC (H.begin T i e) := by
 have E := Vn (i := i) (e := e) hn
 obtain ⟨v0, hv0⟩ := JW hel
 obtain ⟨hXc, hXT, _⟩ := F.voted T v0 i hv0
 have hne : ∀ {t}, H.led t → t ≠ T := fun h h' => hn (h' ▸ h)
 have hLL : ∀ {t}, H.led t → (H.begin T i e).LL t = H.LL t := fun h => if_neg (hne h)
 have hEL : ∀ {t}, H.led t → (H.begin T i e).EL t = H.EL t := fun h => if_neg (hne h)
 have hld : ∀ {t}, H.led t → (H.begin T i e).ld t = H.ld t := fun h => if_neg (hne h)
 have tLL : (H.begin T i e).LL T = H.CL T i ++ [e] := if_pos rfl
 have tEL : (H.begin T i e).EL T = (H.CL T i).length := if_pos rfl
 have tld : (H.begin T i e).ld T = i := if_pos rfl
 have hXl := XD.len F hXc
 refine { c00 := F.c00, c01 := F.c01, cr := ?_, ld5 := ?_, lled := fun t u d h => .inl (F.lled t u d h), vpos := F.vpos, lbd := ?_, ackl := ?_, pos := ?_, cons := ?_, len := ?_, old := ?_, own := ?_, cl := ?_, win := ?_, once := F.once, voted := ?_, com := ?_, chg := ?_ }
 ·rintro t x (h | rfl) hx
  ·rw [hLL h] at hx; exact F.cr t x h hx
  ·rw [tLL] at hx
   rcases List.mem_append.1 hx with hx | hx
   ·obtain ⟨j, hj⟩ := List.mem_iff_getElem?.1 hx
    obtain ⟨h1, h2⟩ := hXc j x hj
    exact F.cr _ x h1 (List.mem_of_getElem? (by rw [← h2.get (Nat.lt_succ_self j)]; exact hj))
   ·rw [List.mem_singleton.1 hx]; omega
 ·rintro t (h | rfl)
  ·rw [hld h]; exact F.ld5 t h
  ·rw [tld]; exact hi
 ·rintro t (h | rfl)
  ·rw [hLL h]; have := F.lbd t h; show _ ≤ H.bd + 1; omega
  ·rw [tLL, List.length_append]; show _ + 1 ≤ H.bd + 1; omega
 ·intro S v k h
  obtain ⟨h1, h2⟩ := F.ackl S v k h
  exact ⟨.inl h1, by rw [hLL h1]; exact h2⟩
 ·rintro t (h | rfl)
  ·exact F.pos t h
  ·exact hp
 ·rintro t (h | rfl)
  ·rw [hLL h]; exact (F.cons t h).ext E
  ·rw [tLL]
   intro j x hx
   rcases Nat.lt_or_ge j (H.CL t i).length with hj | hj
   ·rw [List.getElem?_append_left hj] at hx
    obtain ⟨h1, h2⟩ := (hXc.ext E) j x hx
    exact ⟨h1, h2.appL⟩
   ·rw [List.getElem?_append_right hj] at hx
    have hj0 : j - (H.CL t i).length = 0 := by
     rcases Nat.eq_zero_or_pos (j - (H.CL t i).length) with h | h
     ·exact h
     ·rw [List.getElem?_eq_none (by simp only [List.length_singleton]; omega)] at hx; cases hx
    rw [hj0] at hx
    have hx' : e = x := by simpa using hx
    rw [← hx', he, tLL]
    exact ⟨.inr rfl, AG.refl (by rw [List.length_append]; simp; omega)⟩
 ·rintro t (h | rfl)
  ·rw [hLL h, hEL h]; exact F.len t h
  ·rw [tLL, tEL, List.length_append]; omega
 ·rintro t j x (h | rfl) hx hj
  ·rw [hLL h] at hx; rw [hEL h] at hj; exact F.old t j x h hx hj
  ·rw [tLL] at hx; rw [tEL] at hj
   rw [List.getElem?_append_left hj] at hx
   exact hXT j x hx
 ·rintro t j x (h | rfl) hx hj
  ·rw [hLL h] at hx; rw [hEL h] at hj; exact F.own t j x h hx hj
  ·rw [tLL] at hx; rw [tEL] at hj
   rw [List.getElem?_append_right hj] at hx
   have := List.mem_of_getElem? hx
   rw [List.mem_singleton.1 this]; exact he
 ·rintro t (h | rfl)
  ·show AG (H.CL t _) _ _ ∧ (H.CL t _).length = _
   rw [hLL h, hEL h, hld h]; exact F.cl t h
  ·show AG (H.CL t _) _ _ ∧ (H.CL t _).length = _
   rw [tLL, tEL, tld]
   exact ⟨(AG.refl (Nat.le_refl _)).appR, rfl⟩
 ·rintro t (h | rfl)
  ·rw [hld h]; exact F.win t h
  ·rw [tld]
   obtain ⟨s, h1, h2, h3⟩ := hel
   exact ⟨s, h1, h2, fun j hj hb => ⟨h3 j hj hb, fun h => hn (F.lled _ _ _ h)⟩⟩
 ·intro t v c h
  obtain ⟨h1, h2, VL, h3, h4, h5⟩ := F.voted t v c h
  refine ⟨h1.ext E, h2, VL, h3.ext E, h4, fun S k hS hk => ?_⟩
  rw [hLL (F.ackl _ _ _ hk).1]
  rcases h5 S k hS hk with h6 | ⟨t', h6, h7, h8, h9, h10⟩
  ·exact .inl h6
  ·refine .inr ⟨t', h6, h7, .inl h8, h9, ?_⟩
   rw [hld h8]; exact h10
 ·intro S k n h
  have hS := (F.com S k n h).1
  rw [hLL hS, hEL hS]
  obtain ⟨_, h2⟩ := F.com S k n h
  exact ⟨.inl hS, h2⟩
 ·rintro S j x (h | rfl) hx hj hc
  ·rw [hLL h] at hx; rw [hEL h] at hj; rw [hLL h]
   exact F.chg S j x h hx hj hc
  ·rw [tLL] at hx; rw [tEL] at hj
   rw [List.getElem?_append_right hj] at hx
   have := List.mem_of_getElem? hx
   rw [List.mem_singleton.1 this] at hc
   exact absurd he0 hc
theorem Lw {T : Int} {e : En} : Ext H (H.put T e) where
 c0 := rfl
 bd := Nat.le_succ _
 led := fun _ h => h
 ld := fun _ _ => rfl
 EL := fun _ _ => rfl
 LL := fun t _ => by
  show AG _ (if t = T then H.LL T ++ [e] else H.LL t) _
  split
  ·rename_i h; subst h
   exact (AG.refl (Nat.le_refl _)).appR
  ·exact AG.refl (Nat.le_refl _)
 CL := fun _ _ _ _ => rfl
 vote := fun _ _ _ h => h
 ack := fun _ _ _ h => h
 cmt := fun _ _ _ h => h
theorem CG (F : QC H) {T : Int} {e : En} (hl : H.led T) (he : e.term = T) (h0 : 0 ≤ e.conf) (h1 : e.conf ≤ 31)
  (hc : e.conf ≠ 0 → MX (Q0 H.c0 (H.LL T)) e.conf ∧ ∃ c n, H.cmt T c n ∧ n ≤ (H.LL T).length ∧ ∀ i e', (H.LL T)[i]? = some e' → e'.conf ≠ 0 → i < c) : QC (H.put T e) := by
 have E := Lw (H := H) (T := T) (e := e)
 have tLL : (H.put T e).LL T = H.LL T ++ [e] := if_pos rfl
 have hne : ∀ {t}, t ≠ T → (H.put T e).LL t = H.LL t := fun h => if_neg h
 have hmem : ∀ {t x}, x ∈ (H.put T e).LL t → x ∈ H.LL t ∨ (t = T ∧ x = e) := by
  intro t x hx
  by_cases h : t = T
  ·subst h; rw [tLL] at hx
   rcases List.mem_append.1 hx with hx | hx
   ·exact .inl hx
   ·exact .inr ⟨rfl, List.mem_singleton.1 hx⟩
  ·rw [hne h] at hx; exact .inl hx
 have hget : ∀ {t : Int} {j : Nat} {x : En}, ((H.put T e).LL t)[j]? = some x → (H.LL t)[j]? = some x ∨ (t = T ∧ x = e ∧ j = (H.LL T).length) := by
  intro t j x hx
  by_cases h : t = T
  ·subst h; rw [tLL] at hx
   rcases Nat.lt_or_ge j (H.LL t).length with hj | hj
   ·rw [List.getElem?_append_left hj] at hx; exact .inl hx
   ·rw [List.getElem?_append_right hj] at hx
    have hj0 : j - (H.LL t).length = 0 := by
     rcases Nat.eq_zero_or_pos (j - (H.LL t).length) with h | h
     ·exact h
     ·rw [List.getElem?_eq_none (by simp only [List.length_singleton]; omega)] at hx; cases hx
    rw [hj0] at hx
    have hx' : e = x := by simpa using hx
    exact .inr ⟨rfl, hx'.symm, by omega⟩
  ·rw [hne h] at hx; exact .inl hx
 have htake : ∀ {t : Int} {k : Nat}, k ≤ (H.LL t).length → ((H.put T e).LL t).take k = (H.LL t).take k := by
  intro t k hk
  by_cases h : t = T
  ·subst h; rw [tLL, List.take_append_of_le_length hk]
  ·rw [hne h]
 have hlen : ∀ t, (H.LL t).length ≤ ((H.put T e).LL t).length := by
  intro t
  by_cases h : t = T
  ·subst h; rw [tLL, List.length_append]; omega
  ·rw [hne h]; exact Nat.le_refl _
 refine { c00 := F.c00, c01 := F.c01, cr := ?_, ld5 := F.ld5, lled := F.lled, vpos := F.vpos, lbd := ?_, ackl := ?_, pos := F.pos, cons := ?_, len := ?_, old := ?_, own := ?_, cl := ?_, win := F.win, once := F.once, voted := ?_, com := ?_, chg := ?_ }
 ·intro t x h hx
  rcases hmem hx with hx | ⟨_, rfl⟩
  ·exact F.cr t x h hx
  ·exact ⟨h0, h1⟩
 ·intro t h
  have := F.lbd t h
  show _ ≤ H.bd + 1
  by_cases ht : t = T
  ·subst ht; rw [tLL, List.length_append]; simp; omega
  ·rw [hne ht]; omega
 ·intro S v k h
  obtain ⟨h1, h2⟩ := F.ackl S v k h
  exact ⟨h1, Nat.le_trans h2 (hlen S)⟩
 ·intro t h j x hx
  rcases hget hx with hx' | ⟨rfl, rfl, rfl⟩
  ·obtain ⟨g1, g2⟩ := ((F.cons t h).ext E) j x hx'
   refine ⟨g1, ?_⟩
   have := E.LL t h
   exact (this.symm.le (by have := g2.1; omega)).trans g2
  ·subst he
   exact ⟨hl, AG.refl (by rw [tLL, List.length_append]; simp)⟩
 ·intro t h; exact Nat.le_trans (F.len t h) (hlen t)
 ·intro t j x h hx hj
  rcases hget hx with hx | ⟨rfl, rfl, rfl⟩
  ·exact F.old t j x h hx hj
  ·have := F.len t h
   have hj' : (H.LL t).length < H.EL t := hj
   omega
 ·intro t j x h hx hj
  rcases hget hx with hx | ⟨rfl, rfl, rfl⟩
  ·exact F.own t j x h hx hj
  ·exact he
 ·intro t h
  obtain ⟨g1, g2⟩ := F.cl t h
  exact ⟨g1.trans ((E.LL t h).le (F.len t h)), g2⟩
 ·intro t v c h
  obtain ⟨h1, h2, VL, h3, h4, h5⟩ := F.voted t v c h
  refine ⟨h1.ext E, h2, VL, h3.ext E, h4, fun S k hS hk => ?_⟩
  obtain ⟨g1, g2⟩ := F.ackl _ _ _ hk
  rcases h5 S k hS hk with h6 | ⟨t', h6, h7, h8, h9, h10⟩
  ·exact .inl (E.agLL g1 h6)
  ·exact .inr ⟨t', h6, h7, h8, h9, E.nagLL g1 g2 h10⟩
 ·intro S k n h
  obtain ⟨h1, h2, h3, h4, s, h5, h6, h7⟩ := F.com S k n h
  refine ⟨h1, h2, h3, Nat.le_trans h4 (hlen S), s, h5, ?_, h7⟩
  rw [htake h4]; exact h6
 ·intro S j x h hx hj hcx
  rcases hget hx with hx | ⟨rfl, rfl, rfl⟩
  ·have hjl : j < (H.LL S).length := (List.getElem?_eq_some_iff.1 hx).1
   obtain ⟨g1, c, n, g2, g3, g4⟩ := F.chg S j x h hx hj hcx
   rw [htake (Nat.le_of_lt hjl)]
   refine ⟨g1, c, n, g2, g3, fun i e' hi he' hc' => ?_⟩
   rcases hget he' with he' | ⟨rfl, rfl, rfl⟩
   ·exact g4 i e' hi he' hc'
   ·omega
  ·obtain ⟨g1, c, n, g2, g3, g4⟩ := hc hcx
   rw [htake (Nat.le_refl _), List.take_length]
   refine ⟨g1, c, n, g2, g3, fun i e' hi he' hc' => ?_⟩
   rcases hget he' with he' | ⟨_, rfl, h⟩
   ·exact g4 i e' he' hc'
   ·omega
theorem J8 {T : Int} {v k : Nat} : Ext H (H.agree T v k) :=
 ⟨rfl, Nat.le_refl _, fun _ h => h, fun _ _ => rfl, fun _ _ => rfl, fun _ _ => AG.refl (Nat.le_refl _), fun _ _ _ _ => rfl, fun _ _ _ h => h, fun _ _ _ h => .inl h, fun _ _ _ h => h⟩
theorem UZ (F : QC H) {T : Int} {v k : Nat} (hl : H.led T) (hk : k ≤ (H.LL T).length) (hv : ∀ t c, H.vote t v c → t ≤ T) : QC (H.agree T v k) := by
 refine { c00 := F.c00, c01 := F.c01, cr := F.cr, ld5 := F.ld5, lled := F.lled, vpos := F.vpos, lbd := F.lbd, ackl := ?_, pos := F.pos, cons := F.cons, len := F.len, old := F.old, own := F.own, cl := F.cl, win := F.win, once := F.once, voted := ?_, com := ?_, chg := F.chg }
 ·rintro S u x (h | ⟨rfl, _, h⟩)
  ·exact F.ackl S u x h
  ·exact ⟨hl, Nat.le_trans h hk⟩
 ·intro t u c h
  obtain ⟨h1, h2, VL, h3, h4, h5⟩ := F.voted t u c h
  refine ⟨h1, h2, VL, h3, h4, fun S x hS hx => ?_⟩
  rcases hx with hx | ⟨rfl, rfl, _⟩
  ·exact h5 S x hS hx
  ·have := hv t c h; omega
 ·intro S x n h
  obtain ⟨h1, h2, h3, h4, s, h5, h6, h7⟩ := F.com S x n h
  exact ⟨h1, h2, h3, h4, s, h5, h6, fun i hi hb => .inl (h7 i hi hb)⟩
theorem VQ {T : Int} {k n : Nat} : Ext H (H.commit T k n) :=
 ⟨rfl, Nat.le_refl _, fun _ h => h, fun _ _ => rfl, fun _ _ => rfl, fun _ _ => AG.refl (Nat.le_refl _), fun _ _ _ _ => rfl, fun _ _ _ h => h, fun _ _ _ h => h, fun _ _ _ h => .inl h⟩
theorem ER (F : QC H) {T : Int} {k n : Nat} (hl : H.led T) (h1 : H.EL T < k) (h2 : k ≤ n) (h3 : n ≤ (H.LL T).length) {s : Nat} (hs : s < 32) (hm : XK (Q0 H.c0 ((H.LL T).take n)) s = true) (ha : ∀ i, i < 5 → s.testBit i = true → H.ack T i k) : QC (H.commit T k n) := by
 refine { c00 := F.c00, c01 := F.c01, cr := F.cr, ld5 := F.ld5, lled := F.lled, vpos := F.vpos, lbd := F.lbd, ackl := F.ackl, pos := F.pos, cons := F.cons, len := F.len, old := F.old, own := F.own, cl := F.cl, win := F.win, once := F.once, voted := F.voted, com := ?_, chg := ?_ }
 ·rintro S a b (h | ⟨rfl, rfl, rfl⟩)
  ·exact F.com S a b h
  ·exact ⟨hl, h1, h2, h3, s, hs, hm, ha⟩
 ·intro S j x h hx hj hc
  obtain ⟨g1, c, n, g2, g3, g4⟩ := F.chg S j x h hx hj hc
  exact ⟨g1, c, n, .inl g2, g3, g4⟩
end Raft
namespace Raft
variable {H : Yt}
theorem OY {T : Int} {i : Nat} {l : List En} (F : QC H) (hn : ∀ v, ¬ H.vote T v i) : X3 0 i H (H.stand T i l) := by
 refine ⟨U6 hn, fun j n l' hj h => h.ext F (U6 hn) ?_ ?_ (fun _ h _ => h) (fun _ _ h => .inl h) (fun _ _ _ => rfl), Nat.le_refl _⟩
 ·rintro T' c (h | ⟨_, h, _⟩)
  ·exact h
  ·exact absurd h hj
 ·rintro T' v (h | ⟨_, _, h⟩)
  ·exact ⟨v, h⟩
  ·exact absurd h hj
theorem Bl {T : Int} {i f : Nat} (F : QC H) (hf : H.vote T f f) : X3 0 i H (H.give T i f) := by
 refine ⟨Mn, fun j n l' hj h => h.ext F Mn ?_ ?_ (fun _ h _ => h) (fun _ _ h => .inl h) (fun _ _ _ => rfl), Nat.le_refl _⟩
 ·rintro T' c (h | ⟨_, h, _⟩)
  ·exact h
  ·exact absurd h hj
 ·rintro T' v (h | ⟨h1, _, h⟩)
  ·exact ⟨v, h⟩
  ·exact ⟨f, by rw [h1, h]; exact hf⟩
theorem RT {T : Int} {i : Nat} {e : En} (F : QC H) (hn : ¬ H.led T) : X3 1 i H (H.begin T i e) := by
 refine ⟨Vn hn, fun j n l' hj h => h.ext F (Vn hn) (fun _ _ h => h) (fun _ v h => ⟨v, h⟩) ?_ (fun _ _ h => .inl h) (fun t h _ => if_neg (WA hn h)), Nat.le_refl _⟩
 rintro T' (h | rfl) h2
 ·exact h
 ·exact absurd ((if_pos rfl).symm.trans h2).symm hj
theorem A5 {T : Int} {i : Nat} {e : En} (F : QC H) (hi : H.ld T = i) : X3 1 i H (H.put T e) := by
 refine ⟨Lw, fun j n l' hj h => h.ext F Lw (fun _ _ h => h) (fun _ v h => ⟨v, h⟩) (fun _ h _ => h) (fun _ _ h => .inl h) (fun t h h2 => if_neg ?_), Nat.le_refl _⟩
 rintro rfl
 exact hj (h2.symm.trans hi)
theorem VU {T : Int} {i k : Nat} (F : QC H) : X3 0 i H (H.agree T i k) := by
 refine ⟨J8, fun j n l' hj h => h.ext F J8 (fun _ _ h => h) (fun _ v h => ⟨v, h⟩) (fun _ h _ => h) ?_ (fun _ _ _ => rfl), Nat.le_refl _⟩
 rintro S x (h | ⟨_, h, _⟩)
 ·exact .inl h
 ·exact absurd h hj
theorem MJ {T : Int} {k n : Nat} (F : QC H) {j : Nat} {x : Nd} {l : List En} (h : NI H j x l) : NI (H.commit T k n) j x l :=
 h.ext F VQ (fun _ _ h => h) (fun _ v h => ⟨v, h⟩) (fun _ h _ => h) (fun _ _ h => .inl h) (fun _ _ _ => rfl)
theorem OA {T : Int} {i k n : Nat} (F : QC H) : X3 0 i H (H.commit T k n) := ⟨VQ, fun _ _ _ _ h => MJ F h, Nat.le_refl _⟩
theorem Ex (l : List En) : ∀ k, k ≤ l.length → match lc l k with
  | none => ∀ j, j < k → (l.getD j default).conf = 0
  | some (j, c) => j < k ∧ (l.getD j default).conf = c ∧ c ≠ 0 ∧ ∀ i, j < i → i < k → (l.getD i default).conf = 0
 | 0, _ => by simp [lc]
 | k + 1, hk => by
  have ih := Ex l k (by omega)
  rw [lc]
  by_cases h : (l.getD k default).conf ≠ 0
  ·rw [if_pos h]
   exact ⟨by omega, rfl, h, fun i h1 h2 => by omega⟩
  ·rw [if_neg h]
   have h0 : (l.getD k default).conf = 0 := Decidable.not_not.1 h
   cases hc : lc l k with
   | none =>
    rw [hc] at ih
    intro j hj
    rcases Nat.lt_or_ge j k with h1 | h1
    ·exact ih j h1
    ·rw [show j = k by omega]; exact h0
   | some p =>
    obtain ⟨j, c⟩ := p
    rw [hc] at ih
    obtain ⟨h1, h2, h3, h4⟩ := ih
    refine ⟨by omega, h2, h3, fun i h5 h6 => ?_⟩
    rcases Nat.lt_or_ge i k with h7 | h7
    ·exact h4 i h5 h7
    ·rw [show i = k by omega]; exact h0
theorem EE {l : List En} {j : Nat} {e : En} (h : l[j]? = some e) : l.getD j default = e := by simp [List.getD_eq_getElem?_getD, h]
theorem PU (l : List En) (c0 : Int) : Q0 c0 l = match lc l l.length with
  | none => c0
  | some (_, c) => c := by
 have h := Ex l l.length (Nat.le_refl _)
 cases hc : lc l l.length with
 | none =>
  rw [hc] at h
  refine VP _ _ fun e he => ?_
  obtain ⟨j, hj⟩ := List.mem_iff_getElem?.1 he
  have := h j (List.getElem?_eq_some_iff.1 hj).1
  rw [EE hj] at this; exact this
 | some p =>
  obtain ⟨j, c⟩ := p
  rw [hc] at h
  obtain ⟨h1, h2, h3, h4⟩ := h
  have hj : l[j]? = some l[j] := List.getElem?_eq_getElem h1
  rw [EE hj] at h2
  rw [Vm hj (by rw [h2]; exact h3) (fun i e hi he => by
   have := h4 i hi (List.getElem?_eq_some_iff.1 he).1
   rw [EE he] at this; exact this)]
  exact h2
section
variable {i : Nat} {n : Nd} {l : List En}
theorem NI.last (h : NI H i n l) : Qq n = (l.length : Nat) := by
 obtain ⟨b, h1, h2, h3, _⟩ := h.base
 rw [Qq, h3, h1, List.length_drop]
 omega
theorem NI.bnat (h : NI H i n l) : ∃ b : Nat, n.base = b ∧ b ≤ l.length ∧ n.log = l.drop b ∧ n.log.length = l.length - b := by
 obtain ⟨b, h1, h2, h3, _⟩ := h.base
 exact ⟨b, h1, h2, h3, by rw [h3, List.length_drop]⟩
theorem NI.termF (h : NI H i n l) {k : Nat} (h1 : n.base ≤ k) (h2 : k ≤ l.length) : Go.Proofs.YtjbokbikkcfjjaaGreat.termF n k = tAt l k := by
 obtain ⟨b, hb, hbl, hlog, hbt, _⟩ := h.base
 have hlen : n.log.length = l.length - b := by rw [hlog, List.length_drop]
 unfold Go.Proofs.YtjbokbikkcfjjaaGreat.termF
 split
 ·rename_i hc
  obtain ⟨j, rfl⟩ : ∃ j, k = j + 1 := ⟨k - 1, by omega⟩
  have hx : ((j + 1 : Nat) : Int) - n.base - 1 = ((j - b : Nat) : Int) := by omega
  rw [hx, Int.toNat_natCast, hlog, tAt, List.getD_eq_getElem?_getD, List.getElem?_drop, show b + (j - b) = j by omega, ← List.getD_eq_getElem?_getD]
 ·rename_i hc
  have : k = b := by omega
  rw [this, hbt]
theorem NI.conf (h : NI H i n l) : (QA n).2 = Q0 H.c0 l := by
 obtain ⟨b, hb, hbl, hlog, hbt, hbc⟩ := h.base
 rw [show Q0 H.c0 l = Q0 (Q0 H.c0 (l.take b)) (l.drop b) by rw [← WW, List.take_append_drop], ← hbc, ← hlog, PU]
 unfold QA
 cases lc n.log n.log.length with
 | none => rfl
 | some p => rfl
theorem NI.confAt (h : NI H i n l) {j : Nat} {e : En} (he : l[j]? = some e) (hc : e.conf ≠ 0) : (j : Int) < (QA n).1 := by
 obtain ⟨b, hb, hbl, hlog, hbt, hbc⟩ := h.base
 have hs := Ex n.log n.log.length (Nat.le_refl _)
 have hjl : j < l.length := (List.getElem?_eq_some_iff.1 he).1
 have hlen : n.log.length = l.length - b := by rw [hlog, List.length_drop]
 unfold QA
 rcases Nat.lt_or_ge j b with hj | hj
 ·cases lc n.log n.log.length with
  | none => show (j : Int) < n.base; omega
  | some p => show (j : Int) < n.base + p.1 + 1; omega
 ·have hg : n.log.getD (j - b) default = e := by
   rw [hlog, List.getD_eq_getElem?_getD, List.getElem?_drop, show b + (j - b) = j by omega, he]; rfl
  cases hcc : lc n.log n.log.length with
  | none =>
   rw [hcc] at hs
   exact absurd (by rw [← hg]; exact hs _ (by omega)) hc
  | some p =>
   obtain ⟨q, c⟩ := p
   rw [hcc] at hs
   obtain ⟨h1, h2, h3, h4⟩ := hs
   show (j : Int) < n.base + q + 1
   rcases Nat.lt_or_ge q (j - b) with h5 | h5
   ·exact absurd (by rw [← hg]; exact h4 _ h5 (by omega)) hc
   ·omega
theorem Be (l : List En) : Jk l = tAt l l.length := by
 unfold Jk
 rw [List.getLast?_eq_getElem?]
 cases l with
 | nil => rfl
 | cons e l =>
  simp only [tAt, List.length_cons, Nat.add_sub_cancel, List.getD_eq_getElem?_getD]
  have h : (e :: l)[l.length]? = some (e :: l)[l.length] := List.getElem?_eq_getElem (by simp)
  rw [h]; rfl
theorem NI.lastTerm (h : NI H i n l) : Go.Proofs.YtjbokbikkcfjjaaGreat.termF n (Qq n) = Jk l := by
 obtain ⟨b, hb, hbl, _⟩ := h.bnat
 rw [h.last, h.termF (by omega) (Nat.le_refl _), Be]
theorem UQ (f : F5) {i j : Nat} (hi : i < 5) (hj : j < 5) (v : Int) : (f.set i v).get j = if j = i then v else f.get j := by
 rcases (by omega : i = 0 ∨ i = 1 ∨ i = 2 ∨ i = 3 ∨ i = 4) with rfl | rfl | rfl | rfl | rfl <;> rcases (by omega : j = 0 ∨ j = 1 ∨ j = 2 ∨ j = 3 ∨ j = 4) with rfl | rfl | rfl | rfl | rfl <;> rfl
theorem NI.still (h : NI H i n l) {w : Int} : NI H i { n with wait := w } l := ⟨h.id, h.t0, h.t1, h.base, h.com, h.cons, h.terms, h.votel, h.vote, h.stood, h.votes0, h.votes1, h.sz, h.cand, fun hr => by
 have := h.lead hr
 exact ⟨this.led, this.ld, this.log, this.mt, this.nx⟩, h.acks⟩
theorem NI.quiet (h : NI H i n l) {w : Int} : NI H i { n with role := 0, wait := w } l := ⟨h.id, h.t0, h.t1, h.base, h.com, h.cons, h.terms, h.votel, h.vote, h.stood, h.votes0, h.votes1, h.sz, (fun hr => by simp [QK] at hr), (fun hr => by simp [QK] at hr), h.acks⟩
theorem NI.wake (h : NI H i n l) : NI H i (QK n) l := ⟨h.id, h.t0, h.t1, h.base, h.com, h.cons, h.terms, h.votel, h.vote, h.stood, by simp [QK], by simp [QK], fun j hj => by
 have : (F5.all 0).get j = 0 := F5.get_all 0 j
 simp only [QK, this]; omega, (fun hr => by simp [QK] at hr), (fun hr => by simp [QK] at hr), h.acks⟩
theorem NI.up (h : NI H i n l) {m : Ms} (hm : m.term ≤ 1073741824) : NI H i (upN n m) l := by
 unfold upN
 split
 ·rename_i hlt
  refine ⟨h.id, by simp only; have := h.t0; omega, hm, h.base, ?_, h.cons, fun j e he => ?_, fun T c hc => ?_, fun c => ⟨fun hc => ?_, fun hc => ?_⟩, fun T v hc => ?_, by simp, by simp, h.sz, (fun hr => by simp [QK] at hr), (fun hr => by simp [QK] at hr), fun S k hk => ?_⟩
  ·obtain ⟨c, h1, h2, h3, h4⟩ := h.com
   exact ⟨c, h1, h2, h3, h4.up (by simp only; omega)⟩
  ·have := h.terms j e he; simp only; omega
  ·have := h.votel T c hc; simp only; omega
  ·have := h.votel _ c hc; simp only at this; omega
  ·simp only at hc; omega
  ·have := h.stood T v hc; simp only; omega
  ·obtain ⟨h1, h2⟩ := h.acks S k hk
   refine ⟨by simp only; omega, ?_⟩
   rcases h2 with h2 | ⟨t, h2, h3, h4⟩
   ·exact .inl h2
   ·exact .inr ⟨t, h2, by simp only; omega, h4⟩
 ·exact h
theorem N1 (n : Nd) (m : Ms) : (upN n m).term = max n.term m.term := by
 unfold upN
 split
 ·simp only; omega
 ·omega
end
end Raft
namespace Raft
variable {H : Yt} {i : Nat} {n : Nd} {l : List En}
theorem Mb (hid : n.id = (i : Nat)) (hi : i < 5) {to : Int} {yes : Bool} (hto : ∃ f : Nat, f < 5 ∧ to = f) (hy : yes = true → ∀ c : Nat, to = c → H.vote n.term i c) : MI H (QW n to (Zo yes)) where
 frm := ⟨i, hi, hid⟩
 to := hto
 k1 := fun h => by simp [QW, Zo] at h
 k2 := fun _ hyes f c hf hc => by
  have : f = i := by have : n.id = (f : Nat) := hf; omega
  subst this
  exact hy hyes c hc
 k3 := fun h => by simp [QW, Zo] at h
 k4 := fun h => by simp [QW, Zo] at h
 k5 := fun h => by simp [QW, Zo] at h
 i0 := by simp [QW, Zo]
 i1 := by simp [QW, Zo]
 es := by simp [QW, Zo]
theorem Wh (hid : n.id = (i : Nat)) (hi : i < 5) {to : Int} {yes : Bool} {idx : Int} (hto : ∃ f : Nat, f < 5 ∧ to = f) (h0 : -1 ≤ idx) (h1 : idx ≤ H.bd) (hy : yes = true → ∃ k : Nat, idx = k ∧ ∀ j, 0 < j → j ≤ k → H.ack n.term i j) : MI H (QW n to (YD yes idx)) where
 frm := ⟨i, hi, hid⟩
 to := hto
 k1 := fun h => by simp [QW, YD] at h
 k2 := fun h => by simp [QW, YD] at h
 k3 := fun h => by simp [QW, YD] at h
 k4 := fun _ hyes => by
  obtain ⟨k, h2, h3⟩ := hy hyes
  refine ⟨k, h2, fun f hf j h4 h5 => ?_⟩
  have : f = i := by have : n.id = (f : Nat) := hf; omega
  subst this
  exact h3 j h4 h5
 k5 := fun h => by simp [QW, YD] at h
 i0 := h0
 i1 := h1
 es := by simp [QW, YD]
theorem KC (hid : n.id = (i : Nat)) (hi : i < 5) {to idx lt : Int} (hto : ∃ f : Nat, f < 5 ∧ to = f) (h0 : 0 ≤ idx) (h1 : idx ≤ H.bd) (hv : H.vote n.term i i) (hx : idx = (H.CL n.term i).length) (ht : lt = Jk (H.CL n.term i)) : MI H (QW n to (Vt idx lt)) where
 frm := ⟨i, hi, hid⟩
 to := hto
 k1 := fun _ f hf => by
  have : f = i := by have : n.id = (f : Nat) := hf; omega
  subst this
  exact ⟨hv, hx, ht⟩
 k2 := fun h => by simp [QW, Vt] at h
 k3 := fun h => by simp [QW, Vt] at h
 k4 := fun h => by simp [QW, Vt] at h
 k5 := fun h => by simp [QW, Vt] at h
 i0 := by simp only [QW, Vt]; omega
 i1 := h1
 es := by simp [QW, Vt]
theorem NY (F : QC H) (h : NI H i n l) (hi : i < 5) {m : Ms} (M : MI H m) (hk : m.kind = 1) (hf : m.frm ≠ n.id) :
  ∃ H', X3 0 i H H' ∧ QC H' ∧ NI H' i (Yj n m) l ∧ MI H' (QW (Yj n m) m.frm (Zo (WF n m))) := by
 by_cases hy : WF n m = true
 ·obtain ⟨f, hf5, hmf⟩ := M.frm
  obtain ⟨hvf, hidx, hlt⟩ := M.k1 hk f hmf
  have hfi : f ≠ i := by rintro rfl; exact hf (by rw [hmf, h.id])
  have hv : Yj n m = { n with vote := (f : Nat), wait := 0 } := by rw [Yj, if_pos hy, hmf]
  rw [WF, decide_eq_true_iff] at hy
  obtain ⟨⟨hT, hvote⟩, hup⟩ := hy
  rw [h.lastTerm, h.last, hidx, hlt] at hup
  rw [hT] at hvf hup
  have hup : N4 l (H.CL n.term f) := by
   rcases hup with h1 | ⟨h1, h2⟩
   ·exact .inl h1
   ·exact .inr ⟨h1.symm, by omega⟩
  by_cases hvv : n.vote = (f : Nat)
  ·refine ⟨H, X3.refl i H, F, ?_, ?_⟩
   ·rw [hv]
    exact h.extG F (Ext.refl H) h.votel (fun c => by rw [h.vote c, hvv]) (fun T v hh => ⟨v, hh⟩) (fun _ hh _ => hh) (fun _ _ hh => .inl hh) (fun _ _ _ => rfl)
   ·rw [hv]
    refine Mb h.id hi M.frm fun _ c hc => ?_
    show H.vote n.term i c
    rw [h.vote c, hvv, ← hmf, hc]
  ·have hvm : n.vote = -1 := by
    rcases hvote with h1 | h1
    ·exact h1
    ·exact absurd (h1.trans hmf) hvv
   have hm : ∀ d, ¬ H.vote n.term i d := fun d hd => by
    have := (h.vote d).1 hd
    omega
   refine ⟨H.give n.term i f, Bl F hvf, Ru F hm hvf h.cons hup (fun S k hk => (h.acks S k hk).2), ?_, ?_⟩
   ·rw [hv]
    refine h.extG F Mn ?_ (fun c => ⟨?_, fun hc => .inr ⟨rfl, rfl, by omega⟩⟩) ?_ (fun _ hh _ => hh) (fun _ _ hh => .inl hh) (fun _ _ _ => rfl)
    ·rintro T c (hh | ⟨hh, _⟩)
     ·exact h.votel T c hh
     ·omega
    ·rintro (hh | ⟨_, _, hh⟩)
     ·exact absurd hh (hm c)
     ·rw [hh]
    ·rintro T v (hh | ⟨_, _, hh⟩)
     ·exact ⟨v, hh⟩
     ·exact absurd hh.symm hfi
   ·rw [hv]
    refine Mb h.id hi M.frm fun _ c hc => ?_
    exact .inr ⟨rfl, rfl, by omega⟩
 ·have hv : Yj n m = n := by rw [Yj, if_neg hy]
  refine ⟨H, X3.refl i H, F, by rw [hv]; exact h, ?_⟩
  rw [hv]
  exact Mb h.id hi M.frm fun h1 => absurd h1 hy
theorem AA (F : QC H) (h : NI H i n l) (hi : i < 5) (ht : n.term < 1073741824) :
  ∃ H', X3 0 i H H' ∧ QC H' ∧ NI H' i (Qy n) l ∧ (∀ to : Nat, to < 5 → MI H' (QW (Qy n) to (Vt (Qq n) (termF n (Qq n))))) ∧ (∀ j, j < 5 → (2 ^ i : Nat).testBit j = true → H'.vote (Qy n).term j i) := by
 have hn : ∀ v, ¬ H.vote (n.term + 1) v i := fun v hv => by have := h.stood _ v hv; omega
 have hm : ∀ c, ¬ H.vote (n.term + 1) i c := fun c hv => by have := h.votel _ c hv; omega
 have E := U6 (l := l) hn
 have hCL : (H.stand (n.term + 1) i l).CL (n.term + 1) i = l := if_pos ⟨rfl, rfl⟩
 have hbit : ∀ j, j < 5 → (2 ^ i : Nat).testBit j = true → j = i := fun j _ hb => by
  rw [Nat.testBit_two_pow] at hb
  exact (of_decide_eq_true hb).symm
 refine ⟨H.stand (n.term + 1) i l, OY F hn, Ga F (by have := h.t0; omega) hn hm h.cons (fun j e he => by have := h.terms j e he; omega) (fun S k hk => ?_), ?_, fun to hto => ?_, ?_⟩
 ·rcases (h.acks S k hk).2 with h1 | ⟨t, h1, h2, h3⟩
  ·exact .inl h1
  ·exact .inr ⟨t, h1, by omega, h3⟩
 ·have hidn : n.id.toNat = i := by rw [h.id]; rfl
  refine { id := h.id, t0 := ?_, t1 := ?_, base := h.base, com := ?_, cons := h.cons.ext E, terms := ?_, votel := ?_, vote := ?_, stood := ?_, votes0 := ?_, votes1 := ?_, sz := h.sz, cand := ?_, lead := ?_, acks := ?_ }
  ·have := h.t0; simp only [Qy]; omega
  ·simp only [Qy]; omega
  ·obtain ⟨c, h1, h2, h3, h4⟩ := h.com
   exact ⟨c, h1, h2, h3, (h4.ext F E).up (by simp only [Qy]; omega)⟩
  ·intro j e he
   have := h.terms j e he
   simp only [Qy]; omega
  ·rintro T c (hh | ⟨hh, _⟩)
   ·have := h.votel T c hh; simp only [Qy]; omega
   ·simp only [Qy]; omega
  ·intro c
   simp only [Qy, h.id]
   constructor
   ·rintro (hh | ⟨_, _, hh⟩)
    ·exact absurd hh (hm c)
    ·rw [hh]
   ·intro hh
    exact .inr ⟨rfl, rfl, by omega⟩
  ·rintro T v (hh | ⟨hh, _⟩)
   ·have := h.stood T v hh; simp only [Qy]; omega
   ·simp only [Qy]; omega
  ·simp only [Qy]
   rcases (by omega : i = 0 ∨ i = 1 ∨ i = 2 ∨ i = 3 ∨ i = 4) with h1 | h1 | h1 | h1 | h1 <;> rw [hidn, h1] <;> decide
  ·simp only [Qy]
   rcases (by omega : i = 0 ∨ i = 1 ∨ i = 2 ∨ i = 3 ∨ i = 4) with h1 | h1 | h1 | h1 | h1 <;> rw [hidn, h1] <;> decide
  ·intro _
   refine ⟨hCL.symm, ?_, .inr ⟨rfl, rfl, rfl⟩, fun j hj hb => ?_⟩
   ·rintro ⟨h1, h2⟩
    obtain ⟨v, hv⟩ := JW (F.wins h1)
    have h2' : H.ld (n.term + 1) = i := h2
    rw [show (Qy n).term = n.term + 1 from rfl, h2'] at hv
    exact hn v hv
   ·have : (Qy n).votes.toNat = 2 ^ i := by
     simp only [Qy, hidn]
     rcases (by omega : i = 0 ∨ i = 1 ∨ i = 2 ∨ i = 3 ∨ i = 4) with h1 | h1 | h1 | h1 | h1 <;> rw [h1] <;> decide
    rw [this] at hb
    rw [hbit j hj hb]
    exact .inr ⟨rfl, rfl, rfl⟩
  ·intro hr; simp [Qy] at hr
  ·intro S k hk
   obtain ⟨h1, h2⟩ := h.acks S k hk
   refine ⟨by simp only [Qy]; omega, ?_⟩
   rcases h2 with h2 | ⟨t, h2, h3, h4, h5⟩
   ·exact .inl h2
   ·exact .inr ⟨t, h2, by simp only [Qy]; omega, h4, by rw [E.CLld F h4]; exact h5⟩
 ·refine KC (n := Qy n) h.id hi ⟨to, hto, rfl⟩ ?_ ?_ (.inr ⟨rfl, rfl, rfl⟩) ?_ ?_
  ·rw [h.last]; omega
  ·rw [h.last]
   have := XD.len F h.cons
   show (l.length : Int) ≤ (H.bd : Nat)
   omega
  ·rw [h.last]
   show _ = (((H.stand (n.term + 1) i l).CL (n.term + 1) i).length : Int)
   rw [hCL]
  ·rw [h.lastTerm]
   show _ = Jk ((H.stand (n.term + 1) i l).CL (n.term + 1) i)
   rw [hCL]
 ·intro j hj hb
  rw [hbit j hj hb]
  exact .inr ⟨rfl, rfl, rfl⟩
theorem NI.to (h : NI H i n l) {c : Nat} (h1 : n.base ≤ c) (h2 : c ≤ l.length) (h3 : YU H n.term l c) : NI H i { n with commit := c } l :=
 ⟨h.id, h.t0, h.t1, h.base, ⟨c, rfl, h1, h2, h3⟩, h.cons, h.terms, h.votel, h.vote, h.stood, h.votes0, h.votes1, h.sz, h.cand, fun hr => by
  have := h.lead hr
  exact ⟨this.led, this.ld, this.log, this.mt, this.nx⟩, h.acks⟩
theorem MK (n : Nd) (conf : Int) : ∀ k, n.commit ≤ X7 n conf k ∧ (X7 n conf k = n.commit ∨ ∃ j, j < k ∧ X7 n conf k = n.base + j + 1 ∧ (n.log.getD j default).term = n.term ∧ XK conf (X9 n.mtch (n.base + j + 1) 5) = true)
 | 0 => ⟨Int.le_refl _, .inl rfl⟩
 | k + 1 => by
  obtain ⟨h1, h2⟩ := MK n conf k
  have h3 : X7 n conf k = n.commit ∨ ∃ j, j < k + 1 ∧ X7 n conf k = n.base + j + 1 ∧ (n.log.getD j default).term = n.term ∧ XK conf (X9 n.mtch (n.base + j + 1) 5) = true := by
   rcases h2 with h2 | ⟨j, h3, h4⟩
   ·exact .inl h2
   ·exact .inr ⟨j, by omega, h4⟩
  rw [X7]
  split
  ·rename_i hc
   refine ⟨by omega, ?_⟩
   rcases Int.le_total (X7 n conf k) (n.base + k + 1) with h | h
   ·rw [Int.max_eq_right h]
    exact .inr ⟨k, by omega, rfl, hc.1, hc.2⟩
   ·rw [Int.max_eq_left h]
    exact h3
  ·exact ⟨h1, h3⟩
theorem SE : ∀ b0 b1 b2 b3 b4 : Bool, ∀ j : Fin 5, (((((((0 : Int) + if b0 then 1 else 0) + if b1 then 2 else 0) + if b2 then 4 else 0) + if b3 then 8 else 0) + if b4 then 16 else 0)).toNat.testBit j.val = [b0, b1, b2, b3, b4].getD j.val false := by decide +kernel
theorem AE (f : F5) (idx : Int) {j : Nat} (hj : j < 5) : (X9 f idx 5).toNat.testBit j = decide (idx ≤ f.get j) := by
 have h := SE (decide (idx ≤ f.get 0)) (decide (idx ≤ f.get 1)) (decide (idx ≤ f.get 2)) (decide (idx ≤ f.get 3)) (decide (idx ≤ f.get 4)) ⟨j, hj⟩
 simp only [decide_eq_true_eq] at h
 have e : X9 f idx 5 = ((((((0 : Int) + if idx ≤ f.get 0 then 1 else 0) + if idx ≤ f.get 1 then 2 else 0) + if idx ≤ f.get 2 then 4 else 0) + if idx ≤ f.get 3 then 8 else 0) + if idx ≤ f.get 4 then 16 else 0) := rfl
 rw [e, h]
 rcases (by omega : j = 0 ∨ j = 1 ∨ j = 2 ∨ j = 3 ∨ j = 4) with rfl | rfl | rfl | rfl | rfl <;> rfl
theorem WX (F : QC H) (h : NI H i n l) (L : LI H i n l) : ∃ H', X3 0 i H H' ∧ QC H' ∧ NI H' i (Q6 n) l ∧ LI H' i (Q6 n) l := by
 obtain ⟨b, hb, hbl, hlog, hlen⟩ := h.bnat
 obtain ⟨c0, hc0, hbc, hcl, hK⟩ := h.com
 have key : ∃ H', X3 0 i H H' ∧ QC H' ∧ NI H' i { n with commit := X7 n (QA n).2 n.log.length } l ∧ LI H' i { n with commit := X7 n (QA n).2 n.log.length } l := by
  obtain ⟨h1, h2⟩ := MK n (QA n).2 n.log.length
  rcases h2 with h2 | ⟨j, h3, h4, h5, h6⟩
  ·rw [h2]
   exact ⟨H, X3.refl i H, F, h, L⟩
  ·rw [h4]
   have hjl : b + j < l.length := by omega
   have hg : l[b + j]? = some (n.log.getD j default) := by
    rw [hlog, List.getD_eq_getElem?_getD, List.getElem?_drop, List.getElem?_eq_getElem hjl]; rfl
   have hEL : H.EL n.term ≤ b + j := Nat.le_of_not_lt fun hlt => by
    have := F.old n.term (b + j) _ L.led (by rw [← L.log]; exact hg) hlt
    omega
   have hx : n.base + j + 1 = ((b + j + 1 : Nat) : Int) := by omega
   rw [hx] at h6 ⊢
   have hsb := U7 n.mtch ((b + j + 1 : Nat) : Int) 5
   have F' : QC (H.commit n.term (b + j + 1) l.length) := by
    refine ER F L.led (by omega) (by omega) (by rw [← L.log]; exact Nat.le_refl _) (s := (X9 n.mtch ((b + j + 1 : Nat) : Int) 5).toNat) (by have : (2 : Int) ^ 5 = 32 := rfl; omega) ?_ (fun q hq hbq => ?_)
    ·rw [← L.log, List.take_length, ← h.conf, Int.toNat_of_nonneg hsb.1]; exact h6
    ·rw [AE _ _ hq] at hbq
     exact (L.mt q hq).2.2 _ (by omega) (of_decide_eq_true hbq)
   refine ⟨H.commit n.term (b + j + 1) l.length, OA F, F', ?_, ?_⟩
   ·refine (MJ F h).to (by omega) (by omega) (.inr ⟨n.term, b + j + 1, l.length, .inr ⟨rfl, rfl, rfl⟩, Int.le_refl _, Nat.le_refl _, ?_⟩)
    show AG (H.LL n.term) l _
    rw [← L.log]; exact AG.refl (by omega)
   ·have := L.ext VQ (H' := H.commit n.term (b + j + 1) l.length) (fun _ _ _ => rfl)
    exact ⟨this.led, this.ld, this.log, this.mt, this.nx⟩
 obtain ⟨H', h1, h2, h3, h4⟩ := key
 refine ⟨H', h1, h2, ?_⟩
 unfold Q6
 split
 ·exact ⟨h3.quiet (w := 0), ⟨h4.led, h4.ld, h4.log, h4.mt, h4.nx⟩⟩
 ·exact ⟨h3, h4⟩
theorem To (F : QC H) (h : NI H i n l) (L : LI H i n l) (hi : i < 5) {to : Nat} (hto : to < 5) : MI H (Y4 n to) := by
 obtain ⟨b, hb, hbl, hlog, hbt, hbc⟩ := h.base
 obtain ⟨c, hc, hbc', hcl, hK⟩ := h.com
 have hlb := F.lbd _ L.led
 rw [← L.log] at hlb
 have hlen : n.log.length = l.length - b := by rw [hlog, List.length_drop]
 obtain ⟨x0, x1⟩ := L.nx to hto
 unfold Y4
 rw [Int.toNat_natCast]
 have hld : n.id = (H.ld n.term : Nat) := by rw [L.ld]; exact h.id
 split
 ·refine { frm := ⟨i, hi, h.id⟩, to := ⟨to, hto, rfl⟩, k1 := fun h => by simp [QW] at h, k2 := fun h => by simp [QW] at h, k3 := fun h => by simp [QW] at h, k4 := fun h => by simp [QW] at h, k5 := fun _ => ?_, i0 := ?_, i1 := ?_, es := by simp [QW] }
  ·simp only [QW]
   rw [← L.log]
   exact ⟨L.led, hld, b, hb, hbl, hbt, hbc, hK.le (by omega)⟩
  ·simp only [QW]; omega
  ·simp only [QW]; omega
 ·rename_i hnx
  obtain ⟨k, hk⟩ : ∃ k : Nat, n.next.get to - 1 = (k : Nat) := ⟨(n.next.get to - 1).toNat, by omega⟩
  have hm : (min (n.next.get to - 1 - n.base) (n.log.length : Int)).toNat = k - b := by omega
  have hdd : (n.log.drop (k - b)).take 8 = (l.drop k).take 8 := by rw [hlog, List.drop_drop, show b + (k - b) = k by omega]
  rw [hm, hdd, hk, h.termF (by omega) (by omega)]
  refine { frm := ⟨i, hi, h.id⟩, to := ⟨to, hto, rfl⟩, k1 := fun h => by simp [QW] at h, k2 := fun h => by simp [QW] at h, k3 := fun _ => ?_, k4 := fun h => by simp [QW] at h, k5 := fun h => by simp [QW] at h, i0 := ?_, i1 := ?_, es := ?_ }
  ·simp only [QW]
   rw [← L.log]
   refine ⟨L.led, hld, k, c, rfl, hc, ?_, ?_, rfl, hK⟩
   ·rw [List.length_take, List.length_drop]; omega
   ·rw [List.length_take, List.length_drop, List.take_eq_take_iff, List.length_drop]; omega
  ·simp only [QW]; omega
  ·simp only [QW]; omega
  ·simp only [QW, List.length_take]; omega
theorem Z2 {F : Int → Ms} {k : Nat} {m : Ms} (h : m ∈ XJ n F k) : ∃ to : Nat, to < k ∧ m = F to := by
 unfold XJ at h
 obtain ⟨a, h1, h2⟩ := List.mem_map.1 h
 exact ⟨a, List.mem_range.1 (List.mem_filter.1 h1).1, h2.symm⟩
theorem El (F : QC H) (h : NI H i n l) (L : LI H i n l) (hi : i < 5) : ∀ m ∈ XJ n (Y4 n) 5, MI H m := by
 intro m hm
 obtain ⟨to, h1, rfl⟩ := Z2 hm
 exact To F h L hi h1
end Raft
end Go.Proofs.YtjbokbikkcfjjaaGreat
