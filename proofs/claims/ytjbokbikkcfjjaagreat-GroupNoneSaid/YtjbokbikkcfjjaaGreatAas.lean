/-
  keep: a kept replica: write.
-/
import Derived.Test.YtjbokbikkcfjjaaGreatAar
set_option maxRecDepth 16000
set_option maxHeartbeats 8000000
set_option linter.all false
namespace Go.Cap
section
variable {K : Ctx} {t : Env} {H Hs Hr : Qb} {N : Env → Qb → Prop} {ops : Array Oper} {i : Nat} {tp : TypeId} {pos : String} {aft : Array Edge} {kd : Tmp} {eff : List Nat} {pend : List Q7} {al : List (Nat × Oper)}
theorem Rs {f : FuncId} {xs : Array Operand} {ats : Array TypeId} {args : List T} {Φ : T → Qb → Prop} (hf : FnH K.P f args Hs Φ) (hp : H.Perm (Hs ++ Hr))
  (hn : ∀ r H', Φ r H' → XD ops ⟨some kd, .call ⟨.value (.func f), xs, ats⟩, tp, pos, aft, none⟩ (H' ++ Hr) pend ∧ ∃ pend', Xx ops ⟨some kd, .call ⟨.value (.func f), xs, ats⟩, tp, pos, aft, none⟩ pend pend' ∧ Qi K ops eff N al ((kd, r) :: t) (H' ++ Hr) pend') (hc : Qx K.P f = true := by rfl) (ha' : EvL t xs.toList args := by exact ze) (hd : Nat.blt kd K.n = true := by rfl) (he : QL eff i = true := by rfl) :
  Qi K ops eff N ((i, ⟨some kd, .call ⟨.value (.func f), xs, ats⟩, tp, pos, aft, none⟩) :: al) t H pend :=
 VM (fun _ h1 => Yf (Hr := Hr) hf hp hc (ha'.trans fun x hx => h1 x (by simp [Op.operands, Call.operands]; exact .inr (by simpa using hx))) (by simpa [Xf] using hd) fun r H' hr' => by
  obtain ⟨h1, p', h2, h3⟩ := hn r H' hr'
  exact ⟨_, p', rfl, h1, h2, h3⟩) he
end
end Go.Cap
namespace Go.Proofs.YtjbokbikkcfjjaaGreat
open Go.Cap
attribute [local irreducible] POp Qf Bv EOp Sim FnH T.gp
structure DkR (d : Dk) : Prop where
 l0 : 0 ≤ d.left
 l1 : d.left ≤ 1000000000
 r0 : 0 ≤ d.room
 r1 : d.room ≤ 16777216
 fit : ((d.log.length + d.snap.length : Nat) : Int) ≤ d.room
theorem DkR.ok {d : Dk} (h : DkR d) : Ux d := ⟨h.l0, h.l1, h.r0, h.r1, by have := h.fit; have := h.r1; omega⟩
theorem DkR.spend {d : Dk} (h : DkR d) : DkR (QQ d).1 := by
 have h0 := h.l0
 have h1 := h.l1
 unfold QQ
 split
 ·exact ⟨by simp only; omega, by simp only; omega, h.r0, h.r1, h.fit⟩
 ·exact h
theorem V4 (d : Dk) : (QQ d).1.log = d.log ∧ (QQ d).1.snap = d.snap ∧ (QQ d).1.room = d.room := by
 unfold QQ
 split <;> exact ⟨rfl, rfl, rfl⟩
theorem DkR.app {d : Dk} (h : DkR d) (x : List UInt8) : DkR (JR d x).1 := by
 have hs := h.spend
 obtain ⟨e1, e2, e3⟩ := V4 d
 unfold JR
 split
 ·exact h
 ·split
  ·exact h
  ·rename_i hf
   exact ⟨hs.l0, hs.l1, hs.r0, hs.r1, by simp only [e2, e3, List.length_append]; omega⟩
theorem DkR.sync {d : Dk} (h : DkR d) : DkR (ZX d).1 := by
 have hs := h.spend
 unfold ZX
 split
 ·exact h
 ·split
  ·exact ⟨hs.l0, hs.l1, hs.r0, hs.r1, hs.fit⟩
  ·exact hs
theorem DkR.swap {d : Dk} (h : DkR d) (x : List UInt8) : DkR (Zr d x).1 := by
 have hs := h.spend
 obtain ⟨e1, e2, e3⟩ := V4 d
 unfold Zr
 split
 ·exact h
 ·split
  ·exact h
  ·rename_i hf
   split
   ·exact ⟨hs.l0, hs.l1, hs.r0, hs.r1, by simp only [e3, List.length_nil]; omega⟩
   ·exact hs
theorem DkR.jadd {n : Int} {d : Dk} (h : DkR d) (x : List UInt8) : DkR (XH n d x).2.1 := by
 unfold XH
 simp only
 split
 ·split
  ·exact (h.app _).sync
  ·exact (h.app _).sync
 ·exact h.app _
theorem DkR.jsnap {n : Int} {d : Dk} (h : DkR d) (x : List UInt8) : DkR (Xh n d x).2.1 := by
 unfold Xh
 simp only
 split <;> exact h.swap _
theorem OD (n : Int) (d : Dk) (x : List UInt8) : (XH n d x).1 = n ∨ (XH n d x).1 = n + 1 := by
 unfold XH
 simp only
 split
 ·split
  ·exact .inr rfl
  ·exact .inl rfl
 ·exact .inl rfl
theorem DW (n : Int) (d : Dk) (x : List UInt8) : (Xh n d x).1 = n ∨ (Xh n d x).1 = 0 := by
 unfold Xh
 simp only
 split
 ·exact .inr rfl
 ·exact .inl rfl
structure Kp where
 n : Int
 N : Nd
 d : Dk
def tK : TypeId := 95
def KpH (bk bj bd : Nat) (K : Kp) : Qb := (bk, ⟨tK, pW bj :: Qv K.N (.sl false (K.N.log.map een)), 23⟩) :: JrH bj bd K.n K.d
def ZJ (K : Kp) (x : List UInt8) : Int × Dk × Int := if K.n < 16 then XH K.n K.d x else (K.n, K.d, 19)
def Q9 (K : Kp) (x : List UInt8) : Kp × Int :=
 let a := ZJ K x
 if ¬ a.2.2 = 19 ∨ a.1 = 0 then (⟨a.1, K.N, a.2.1⟩, a.2.2) else
 let s := Xh a.1 a.2.1 (Qo K.N 0)
 if ¬ s.2.2 = 0 then (⟨s.1, K.N, s.2.1⟩, s.2.2) else
 let b := XH s.1 s.2.1 x
 (⟨b.1, K.N, b.2.1⟩, b.2.2)
theorem Gz (bk bj bd : Nat) (K : Kp) (x : List UInt8) (hd : DkR K.d) (hN : Sz K.N) (hr : (Qo K.N 0).length ≤ 4194304) (hx : x.length ≤ 4194304) (h0 : 0 ≤ K.n) (h1 : K.n ≤ 100) :
  FnH Tryz.prog 140 [pW bk, bl x] (KpH bk bj bd K) (fun r H => r = ei (Q9 K x).2 ∧ H = KpH bk bj bd (Q9 K x).1) := by
 obtain ⟨n, N, d⟩ := K
 simp only at hd hN hr h0 h1
 have hc1 := Mw bj bd n d
 have ha1 := DY bj bd n d x hd.ok (hd.app _).ok hx h0 (by omega)
 obtain ⟨⟨na, da, ea⟩, hwa⟩ : ∃ a, ZJ ⟨n, N, d⟩ x = a := ⟨_, rfl⟩
 have hda : DkR da := by
  have : DkR (ZJ ⟨n, N, d⟩ x).2.1 := by
   unfold ZJ; split
   ·exact hd.jadd x
   ·exact hd
  rw [hwa] at this; exact this
 have hna : 0 ≤ na ∧ na ≤ 101 := by
  have : (ZJ ⟨n, N, d⟩ x).1 = n ∨ (ZJ ⟨n, N, d⟩ x).1 = n + 1 := by
   unfold ZJ; split
   ·exact OD n d x
   ·exact .inl rfl
  rw [hwa] at this; simp only at this; omega
 have hc2 := Mw bj bd na da
 have hby := MA N 0 hN (Nat.zero_le _)
 have hsn := OC bj bd na da (Qo N 0) hda.ok hr
 obtain ⟨⟨ns, ds, es'⟩, hws⟩ : ∃ a, Xh na da (Qo N 0) = a := ⟨_, rfl⟩
 have hds : DkR ds := by
  have := hda.jsnap (n := na) (Qo N 0)
  rw [hws] at this; exact this
 have hns : 0 ≤ ns ∧ ns ≤ 101 := by
  have := DW na da (Qo N 0)
  rw [hws] at this; simp only at this; omega
 rw [hws] at hsn
 simp only at hsn
 have ha2 := DY bj bd ns ds x hds.ok (hds.app _).ok hx hns.1 (by omega)
 have hA : Q9 ⟨n, N, d⟩ x = if ¬ ea = 19 ∨ na = 0 then (⟨na, N, da⟩, ea) else if ¬ es' = 0 then (⟨ns, N, ds⟩, es') else (⟨(XH ns ds x).1, N, (XH ns ds x).2.1⟩, (XH ns ds x).2.2) := by
  unfold Q9
  rw [hwa]
  simp only
  rw [hws]
 rw [hA]
 refine fe Tryz.func140 fun S0 w0 => ?_
 show Sim _ _ [(0, pW bk), (1, bl x)] ((bk, ⟨tK, pW bj :: Qv N (.sl false (N.log.map een)), 23⟩) :: JrH bj bd n d) _
 refine zC ?_
 refine cr <| s_ Qc <| zC ?_
 refine cr <| s_ Qc <| zC ?_
 refine cr <| s_ Qa <| s_ Qe <| s_ Qd <| s_ Qn ?_
 refine Q1 (Hr := [_]) hc1 (List.perm_append_comm (l₁ := [_])) (fun r H' ⟨hr1, hr2⟩ => ?_)
 subst hr1 hr2
 refine QJ List.perm_append_comm ?_
 refine s_ QX <| zC ?_
 refine Jn [(0, pW bk), (1, bl x), (5, ei ea)] ((bk, ⟨tK, pW bj :: Qv N (.sl false (N.log.map een)), 23⟩) :: JrH bj bd na da) ?_ ?_
 ·refine ci ?_ ?_
  ·intro hlt
   have hlt' : n < 16 := hlt
   have hw : XH n d x = (na, da, ea) := by rw [← hwa, ZJ, if_pos hlt']
   rw [hw] at ha1
   refine zC ?_
   refine cr <| s_ Qa <| s_ Qe <| s_ Qd <| s_ Qn <| s_ Qa ?_
   refine Q1 (Hr := [_]) ha1 (List.perm_append_comm (l₁ := [_])) (fun r H' ⟨hr1, hr2⟩ => ?_)
   subst hr1 hr2
   refine QJ List.perm_append_comm ?_
   refine s_ Qc <| zC ?_
   exact ⟨eL, kR⟩
  ·intro hlt
   have hlt' : ¬ n < 16 := hlt
   have hw : (n, d, (19 : Int)) = (na, da, ea) := by rw [← hwa, ZJ, if_neg hlt']
   simp only [Prod.mk.injEq] at hw
   obtain ⟨rfl, rfl, rfl⟩ := hw
   refine zC ?_
   exact ⟨eL, kR⟩
 by_cases hea : ea = 19
 ·have hnn : ¬ ¬ ea = 19 := fun h => h hea
  refine zC ?_
  refine cr <| s_ Qa <| s_ Yw <| s_ Qa <| gF (fun hg => Qa) ?_
  refine gF (fun hg => Qe (hx := u_ hg)) ?_
  refine gF (fun hg => Qd (hx := u_ hg)) ?_
  refine gF (fun hg => Qn (hx := u_ hg)) ?_
  refine OT (p := ¬ ea = 19) (Hr := [_]) hnn hc2 (List.perm_append_comm (l₁ := [_])) (fun r H' ⟨hr1, hr2⟩ => ?_) (ha' := Qp (u_ hnn) Xj)
  subst hr1 hr2
  refine QJ List.perm_append_comm ?_
  refine gF (p := ¬ ea = 19) (fun hg => Xy) ?_
  refine s_ Yc <| zC ?_
  refine ci ?_ ?_
  ·intro h
   rw [if_pos h]
   refine zC ?_
   refine cr <| s_ Qa <| s_ Qc <| zC ?_
   refine zR ?_
   exact rh kR ⟨rfl, rfl⟩ (Le.refl _)
  intro h
  rw [if_neg h]
  refine zC ?_
  refine ca [0, 1, 2, 3, 4, 5, 6, 7, 8, 9, 10] [9] <| a_ (fun _ => Qa) <| a_ (fun _ => Qe) <| a_ (fun _ => Qd) <| QF ?_
  refine a_ (fun _ => Qa) <| a_ (fun _ => Qe) <| a_ (fun _ => Qd) <| Yz ?_
  refine a_ (fun _ => QM (hby)) ?_
  refine Rs (Hr := [_]) hsn (List.perm_append_comm (l₁ := [_])) (fun r H' ⟨hr1, hr2⟩ => ⟨?_, ?_⟩)
  ·subst hr1 hr2; exact zd
  subst hr1 hr2
  refine zD ?_
  refine a_ (fun _ => Qc) ?_
  apply an
  refine zC ?_
  refine X2 List.perm_append_comm ?_
  refine zC ?_
  refine cr <| s_ Qa <| s_ Yw <| zC ?_
  refine ci ?_ ?_
  ·intro he
   have he' : ¬ es' = 0 := he
   rw [if_pos he']
   refine zC ?_
   refine cr <| s_ Qa <| s_ Qc <| zC ?_
   refine zR ?_
   exact rh kR ⟨rfl, rfl⟩ (Le.refl _)
  intro he
  have he' : ¬ ¬ es' = 0 := he
  rw [if_neg he']
  refine zC ?_
  refine cr <| s_ Qa <| s_ Qe <| s_ Qd <| s_ Qn <| s_ Qa ?_
  refine Q1 (Hr := [_]) ha2 (List.perm_append_comm (l₁ := [_])) (fun r H' ⟨hr1, hr2⟩ => ?_)
  subst hr1 hr2
  refine QJ List.perm_append_comm ?_
  refine s_ Qc <| zC ?_
  refine zR ?_
  exact rh kR ⟨rfl, rfl⟩ (Le.refl _)
 ·rw [if_pos (.inl hea)]
  refine zC ?_
  refine cr <| s_ Qa <| s_ Yw <| s_ Qa <| gF (fun hg => Qa) ?_
  refine gF (fun hg => Qe (hx := u_ hg)) ?_
  refine gF (fun hg => Qd (hx := u_ hg)) ?_
  refine gF (fun hg => Qn (hx := u_ hg)) ?_
  refine gF (p := ¬ ea = 19) (d := .any) (fun hg => absurd hea hg) ?_
  refine gF (p := ¬ ea = 19) (d := .v (.bool (decide False))) (fun hg => absurd hea hg) ?_
  refine s_ Yc <| zC ?_
  refine ci ?_ ?_
  ·intro _
   refine zC ?_
   refine cr <| s_ Qa <| s_ Qc <| zC ?_
   refine zR ?_
   exact rh kR ⟨rfl, rfl⟩ (Le.refl _)
  ·intro h; exact absurd (.inl hea) h
end Go.Proofs.YtjbokbikkcfjjaaGreat
namespace Go.Proofs.YtjbokbikkcfjjaaGreat
open Go.Cap
attribute [local irreducible] V0 ZG
def tN : TypeId := 44
def bxH (b6 b4 b3 bk : Nat) (e : Int) (t : Nd) : Qb := [(b6, ⟨25, [ei e], 1⟩), (b4, ⟨tN, Qv t (.sl false (t.log.map een)), 22⟩), (b3, ⟨162, [pW bk], 1⟩)]
theorem Lc (b6 b4 b3 bk bj bd : Nat) (e : Int) (t : Nd) (K : Kp) (ht : t.log.length ≤ 1000000000) :
  DfH Tryz.prog 138 #[.pointer (some ⟨b6, 0, none⟩), .pointer (some ⟨b4, 0, none⟩), .pointer (some ⟨b3, 0, none⟩)] (bxH b6 b4 b3 bk e t ++ KpH bk bj bd K) (fun H => H = bxH b6 b4 b3 bk e t ++ KpH bk bj bd (if e = 0 then { K with N := t } else K)) := by
 have ho := DU t ht
 obtain ⟨n, N, d⟩ := K
 refine Wx Tryz.func138 (vs := [.pointer (some ⟨b6, 0, none⟩), .pointer (some ⟨b4, 0, none⟩), .pointer (some ⟨b3, 0, none⟩)]) (by rfl) (by rfl) (by rfl) ?_
 intro S0 w0
 show Sim _ _ [(0, pW b6), (1, pW b4), (2, pW b3)] ((b6, ⟨25, [ei e], 1⟩) :: (b4, ⟨tN, Qv t (.sl false (t.log.map een)), 22⟩) :: (b3, ⟨162, [pW bk], 1⟩) :: (bk, ⟨tK, pW bj :: Qv N (.sl false (N.log.map een)), 23⟩) :: JrH bj bd n d) _
 refine zC ?_
 refine cr <| s_ Qn <| s_ Xy <| zC ?_
 refine ci ?_ ?_
 ·intro he
  have he' : e = 0 := he
  rw [if_pos he']
  refine zC ?_
  refine ca [0, 1, 2, 3, 4, 5] [5] <| QF ?_
  refine Yz ?_
  refine a_ (fun _ => QM (ho)) <| a_ (fun _ => Qe) <| a_ (fun _ => Qd) <| XJ ?_
  apply an
  refine zC ?_
  exact ⟨.inl rfl, _, kR, rfl⟩
 ·intro he
  have he' : ¬ e = 0 := he
  rw [if_neg he']
  refine zC ?_
  exact ⟨.inl rfl, _, kR, rfl⟩
def QO (K : Kp) (t : Nd) (e : Int) : Kp × Int := if ¬ e = 0 then (K, e) else if Q0 K.N = Q0 t then ({ K with N := t }, 0) else
 (if (Q9 K (Qo t (Ql K.N t))).2 = 0 then { (Q9 K (Qo t (Ql K.N t))).1 with N := t } else (Q9 K (Qo t (Ql K.N t))).1, (Q9 K (Qo t (Ql K.N t))).2)
structure Ru (K : Kp) : Prop where
 d : DkR K.d
 sz : Sz K.N
 rec_ : (Qo K.N 0).length ≤ 4000000
 n0 : 0 ≤ K.n
 n1 : K.n ≤ 100
theorem J1 (t : Nd) (k : Nat) : (Qo t k).length ≤ (Qo t 0).length + 80 := by
 have h1 := YM (Q3 t k)
 have h2 : (Q3 t k).length = 8 := rfl
 have h3 : (t.log.flatMap XE).length = ((t.log.take k).flatMap XE).length + ((t.log.drop k).flatMap XE).length := by
  conv => lhs; rw [← List.take_append_drop k t.log]
  rw [List.flatMap_append, List.length_append]
 unfold Qo
 simp only [List.length_append, List.drop_zero]
 omega
theorem Ic (bk bj bd : Nat) (K : Kp) (t : Nd) (e : Int) (hK : Ru K) (ht : Sz t) (hx : (Qo t 0).length ≤ 4000000) :
  FnH Tryz.prog 101 [pW bk, nd t, ei e] (KpH bk bj bd K) (fun r H => r = ei (QO K t e).2 ∧ H = KpH bk bj bd (QO K t e).1) := by
 have htl := ht.len
 have hNl := hK.sz.len
 have hw1 := WF K.N (by omega)
 have hw2 := WF t (by omega)
 have hsm := RH (Q0 K.N) (Q0 t) (by show K.N.log.length ≤ _; omega) (by show t.log.length ≤ _; omega)
 have hal := Ro K.N t (by omega) (by omega)
 have hale : Ql K.N t ≤ t.log.length := by
  unfold Ql
  split
  ·exact (WY _ _).2
  ·omega
 have hrl : (Qo t (Ql K.N t)).length ≤ 4194304 := by
  have := J1 t (Ql K.N t)
  omega
 have hby := MA t (Ql K.N t) ht hale
 have hwr := Gz bk bj bd K (Qo t (Ql K.N t)) hK.d hK.sz (by have := hK.rec_; omega) hrl hK.n0 hK.n1
 obtain ⟨⟨K', ew⟩, hwe⟩ : ∃ a, Q9 K (Qo t (Ql K.N t)) = a := ⟨_, rfl⟩
 rw [hwe] at hwr
 simp only at hwr
 have hA : QO K t e = if ¬ e = 0 then (K, e) else if Q0 K.N = Q0 t then ({ K with N := t }, 0) else (if ew = 0 then { K' with N := t } else K', ew) := by
  unfold QO
  rw [hwe]
 rw [hA]
 obtain ⟨n, N, d⟩ := K
 refine Ju Tryz.func101 (by rfl) (by rfl) ?_
 intro S0 w0 hw0
 show V0 _ _ _ [(0, pW bk), (1, T.agg (Qv t (.sl false (t.log.map een)))), (2, ei e)] ((bk, ⟨tK, pW bj :: Qv N (.sl false (N.log.map een)), 23⟩) :: JrH bj bd n d) _
 refine Jc ?_
 refine zC ?_
 apply cr
 refine Lm fun b3 _ => ?_
 refine XO fun b4 _ => ?_
 refine Yt fun b6 _ => ?_
 refine zC ?_
 refine ⟨rfl, ?_⟩
 refine Zb ?_
 refine d_s J8 ?_
 refine UZ [.pointer (some ⟨b6, 0, none⟩), .pointer (some ⟨b4, 0, none⟩), .pointer (some ⟨b3, 0, none⟩)] ?_ rfl rfl (zl)
 refine JZ hw0 ?_
 refine zC ?_
 refine cr <| s_ Qa <| s_ Yw <| s_ Qc <| zC ?_
 refine ci ?_ ?_
 ·intro he
  have he' : ¬ e = 0 := he
  rw [if_pos he']
  refine zC ?_
  refine cr <| s_ Qa <| QC ?_
  refine zC ?_
  apply X1
  refine ⟨_, Lc b6 b4 b3 bk bj bd e t ⟨n, N, d⟩ (by omega), ?_⟩
  rintro H1 rfl
  rw [if_neg he']
  exact ⟨_, _, _, zrs, Le.refl _, ⟨rfl, rfl⟩, (Qh.skip _ _ _ (.skip _ _ _ (.skip _ _ _ kR))).le⟩
 intro he
 have he' : e = 0 := Decidable.not_not.1 he
 rw [if_neg he]
 refine zC ?_
 refine ca [0, 1, 2, 3, 4, 5, 6, 7, 8] [] <| QF ?_
 refine a_ (fun _ => Qe) <| a_ (fun _ => Qd) <| Yz ?_
 refine a_ (fun _ => QM (hw1)) <| Yz ?_
 refine a_ (fun _ => QM (hw2)) <| a_ (fun _ => QM (hsm)) <| a_ (fun _ => Qc) ?_
 apply an
 refine zC ?_
 refine ci ?_ ?_
 ·intro hs
  have hs' : Q0 N = Q0 t := hs
  rw [if_pos hs']
  refine zC ?_
  refine cr <| QC ?_
  refine zC ?_
  apply X1
  refine ⟨_, Lc b6 b4 b3 bk bj bd 0 t ⟨n, N, d⟩ (by omega), ?_⟩
  rintro H1 rfl
  rw [if_pos rfl]
  exact ⟨_, _, _, zrs, Le.refl _, ⟨rfl, rfl⟩, (Qh.skip _ _ _ (.skip _ _ _ (.skip _ _ _ kR))).le⟩
 intro hs
 have hs' : ¬ Q0 N = Q0 t := hs
 rw [if_neg hs']
 refine zC ?_
 refine ca [0, 1, 2, 3, 4, 5, 6, 7, 8, 9, 10] [9, 10] <| QF ?_
 refine Yz ?_
 refine QF ?_
 refine a_ (fun _ => Qe) <| a_ (fun _ => Qd) <| Yz ?_
 refine Yz ?_
 refine a_ (fun _ => QM (hal)) <| a_ (fun _ => QM (hby)) ?_
 refine Rs (Hr := [_, _, _]) hwr (List.perm_append_comm (l₁ := [_, _, _])) (fun r H' ⟨hr1, hr2⟩ => ⟨?_, ?_⟩)
 ·subst hr1 hr2; exact zd
 subst hr1 hr2
 refine zD ?_
 refine XJ ?_
 apply an
 refine zC ?_
 refine X2 (H' := bxH b6 b4 b3 bk ew t ++ KpH bk bj bd K') (List.perm_append_comm (l₁ := KpH bk bj bd K') (l₂ := bxH b6 b4 b3 bk ew t)) ?_
 apply X1
 refine ⟨_, Lc b6 b4 b3 bk bj bd ew t K' (by omega), ?_⟩
 rintro H1 rfl
 exact ⟨_, _, _, zrs, Le.refl _, ⟨rfl, rfl⟩, (Qh.skip _ _ _ (.skip _ _ _ (.skip _ _ _ kR))).le⟩
theorem DC (bk bj bd : Nat) (K : Kp) (t : Nd) (l : List Ms) (hK : Ru K) (ht : Sz t) (hx : (Qo t 0).length ≤ 4000000) :
  FnH Tryz.prog 75 [pW bk, nd t, mss l] (KpH bk bj bd K) (fun r H => r = .tup [if (QO K t 0).2 = 0 then mss l else .sl true [], ei (QO K t 0).2] ∧ H = KpH bk bj bd (QO K t 0).1) := by
 have hk := Ic bk bj bd K t 0 hK ht hx
 obtain ⟨⟨K', e⟩, hke⟩ : ∃ a, QO K t 0 = a := ⟨_, rfl⟩
 rw [hke] at hk ⊢
 simp only at hk ⊢
 refine fe Tryz.func75 fun S0 w0 => ?_
 show Sim _ _ [(0, pW bk), (1, T.agg (Qv t (.sl false (t.log.map een)))), (2, mss l)] (KpH bk bj bd K) _
 refine zC ?_
 apply cr
 refine XO fun b4 _ => ?_
 refine s_ Qc <| s_ Qc <| zC ?_
 refine cr <| s_ Qa <| s_ J8 <| s_ Qc <| zC ?_
 refine cr <| s_ Qa <| s_ Xp ?_
 refine JO (fs := [pW bk]) (args := [nd t, ei 0]) (cs := []) hk (Hr := [_]) (List.perm_append_comm (l₁ := [_])) (fun r H' ⟨hr1, hr2⟩ => ?_)
 subst hr1 hr2
 refine s_ Qc <| zC ?_
 refine cr <| s_ Qa <| s_ Yw <| zC ?_
 refine ci ?_ ?_
 ·intro he
  have he' : ¬ e = 0 := he
  rw [if_neg he']
  refine zC ?_
  refine cr <| s_ Qa <| s_ Qc <| s_ Qc <| zC ?_
  refine zR ?_
  refine rhp List.perm_append_comm (.skip _ _ _ kR) ⟨rfl, rfl⟩ ?_
  exact Le.tup (LeL.cons (Le.slice0 _ _) (LeL.cons (Le.refl _) LeL.nil))
 ·intro he
  have he' : e = 0 := Decidable.not_not.1 he
  rw [if_pos he', he']
  refine zC ?_
  refine cr <| s_ Qa <| s_ Qc <| s_ Qc <| zC ?_
  refine zR ?_
  exact rhp List.perm_append_comm (.skip _ _ _ kR) ⟨rfl, rfl⟩ (Le.refl _)
end Go.Proofs.YtjbokbikkcfjjaaGreat
namespace Go.Proofs.YtjbokbikkcfjjaaGreat
open Go.Cap
attribute [local irreducible] POp Qf Bv EOp Sim FnH T.gp
def IJ (K : Kp) (t : Nd) (l : List Ms) : T := .tup [if (QO K t 0).2 = 0 then mss l else .sl true [], ei (QO K t 0).2]
theorem Ow (bk bj bd : Nat) (K : Kp) {t : Nd} {l : List Ms} (hT : FnP Tryz.prog 76 [nd K.N] (fun r => r = .tup [nd t, mss l])) (hK : Ru K) (ht : Sz t) (hx : (Qo t 0).length ≤ 4000000) :
  FnH Tryz.prog 47 [pW bk] (KpH bk bj bd K) (fun r H => r = IJ K t l ∧ H = KpH bk bj bd (QO K t 0).1) := by
 have hs := DC bk bj bd K t l hK ht hx
 obtain ⟨n, N, d⟩ := K
 refine fe Tryz.func47 fun S0 w0 => ?_
 show Sim _ _ [(0, pW bk)] ((bk, ⟨tK, pW bj :: Qv N (.sl false (N.log.map een)), 23⟩) :: JrH bj bd n d) _
 refine zC ?_
 refine cr <| s_ Qc <| s_ Qc <| zC ?_
 refine ca [0, 1, 2, 3, 4, 5, 6, 7, 8, 9, 10, 11, 12, 13, 14, 15] [11] <| a_ (fun _ => Qa) <| a_ (fun _ => Qe) <| a_ (fun _ => Qd) <| a_ (fun _ => Qa) <| a_ (fun _ => Qe) <| a_ (fun _ => Qd) <| a_ (fun _ => Qd) <| Yz ?_
 refine a_ (fun _ => QM (hT)) <| a_ (fun _ => QH) <| a_ (fun _ => QH) ?_
 refine ID hs (fun r H' ⟨hr1, hr2⟩ => ⟨?_, ?_⟩)
 ·subst hr1 hr2; exact zd
 subst hr1 hr2
 refine zD ?_
 refine a_ (fun _ => QH) <| a_ (fun _ => QH) <| a_ (fun _ => Qc) <| a_ (fun _ => Qc) ?_
 apply an
 refine zC ?_
 refine zR ?_
 exact rh kR ⟨rfl, rfl⟩ (Le.refl _)
theorem Ox (bk bj bd : Nat) (K : Kp) (m : Ms) {t : Nd} {l : List Ms} (hT : FnP Tryz.prog 100 [nd K.N, ms m] (fun r => r = .tup [nd t, mss l])) (hK : Ru K) (ht : Sz t) (hx : (Qo t 0).length ≤ 4000000) :
  FnH Tryz.prog 69 [pW bk, ms m] (KpH bk bj bd K) (fun r H => r = IJ K t l ∧ H = KpH bk bj bd (QO K t 0).1) := by
 have hs := DC bk bj bd K t l hK ht hx
 obtain ⟨n, N, d⟩ := K
 refine fe Tryz.func69 fun S0 w0 => ?_
 show Sim _ _ [(0, pW bk), (1, T.agg (msC m (Y7 m.entries)))] ((bk, ⟨tK, pW bj :: Qv N (.sl false (N.log.map een)), 23⟩) :: JrH bj bd n d) _
 refine zC ?_
 apply cr
 refine XO fun b3 _ => ?_
 refine s_ Qc <| s_ Qc <| zC ?_
 refine ca [0, 1, 2, 3, 4, 5, 6, 7, 8, 9, 10, 11, 12, 13, 14, 15, 16] [12] <| a_ (fun _ => Qa) <| a_ (fun _ => Qe) <| a_ (fun _ => Qd) <| a_ (fun _ => Qa) <| a_ (fun _ => Qe) <| a_ (fun _ => Qd) <| a_ (fun _ => Qd) <| Yz ?_
 refine Yz ?_
 refine a_ (fun _ => QM (hT)) <| a_ (fun _ => QH) <| a_ (fun _ => QH) ?_
 refine Rs (Hr := [_]) hs (List.perm_append_comm (l₁ := [_])) (fun r H' ⟨hr1, hr2⟩ => ⟨?_, ?_⟩)
 ·subst hr1 hr2; exact zd
 subst hr1 hr2
 refine zD ?_
 refine a_ (fun _ => QH) <| a_ (fun _ => QH) <| a_ (fun _ => Qc) <| a_ (fun _ => Qc) ?_
 apply an
 refine zC ?_
 refine zR ?_
 exact rhp List.perm_append_comm (.skip _ _ _ kR) ⟨rfl, rfl⟩ (Le.refl _)
theorem Oz (bk bj bd : Nat) (K : Kp) (hl : K.N.log.length ≤ 1000000000) : FnH Tryz.prog 23 [pW bk] (KpH bk bj bd K) (fun r H => r = nd K.N ∧ H = KpH bk bj bd K) := by
 have ho := DU K.N hl
 obtain ⟨n, N, d⟩ := K
 refine fe Tryz.func23 fun S0 w0 => ?_
 show Sim _ _ [(0, pW bk)] ((bk, ⟨tK, pW bj :: Qv N (.sl false (N.log.map een)), 23⟩) :: JrH bj bd n d) _
 refine zC ?_
 apply cr
 refine Yt fun b2 _ => ?_
 refine zC ?_
 refine cr <| s_ Qa <| s_ Qe <| s_ Qd <| s_ Qd <| s_ Xp <| s_ (QM (ho)) <| QC ?_
 refine zC ?_
 refine zR ?_
 exact rh (.skip _ _ _ kR) ⟨rfl, rfl⟩ (Le.refl _)
def Xg (n : Nd) (rs : List (Nd × Nat)) : Nd := rs.foldl (fun n p => Zl n p.1 p.2) n
def ZO (p : Nd × Nat) : List UInt8 := Qo p.1 p.2
def C5 (n0 : Nd) (so : Option Nd) (rs : List (Nd × Nat)) : Nd := Xg (match so with | none => n0 | some m => Zl n0 m 0) rs
def DM (n0 : Nd) (so : Option Nd) (rs : List (Nd × Nat)) : Nd := if so = none ∧ rs = [] then n0 else Q0 (C5 n0 so rs)
theorem LJ (m : Nd) (k : Nat) : 0 < (Qo m k).length := by
 have h := Q8 m.term
 unfold Qo Q3 Yr
 simp only [List.flatMap_cons, List.length_append]
 omega
theorem L6 (n : Nd) (rs : List (Nd × Nat)) {k : Nat} (hk : k < rs.length) : Xg n (rs.take (k + 1)) = Zl (Xg n (rs.take k)) rs[k].1 rs[k].2 := by
 unfold Xg
 rw [List.take_succ_eq_append_getElem hk, List.foldl_append]
 rfl
theorem Oy (bd : Nat) (d : Dk) (id conf : Int) (n0 : Nd) (so : Option Nd) (rs : List (Nd × Nat)) (tl : List UInt8) (hn0 : FnP Tryz.prog 66 [ei id, ei conf] (fun r => r = nd n0)) (hl0 : n0.log.length ≤ 10000)
  (hd : Ux d) (hdead : d.dead = false) (hleft : d.left = 0) (hso : d.snap = LB (so.map (Qo · 0))) (hlog : d.log = (rs.map ZO).flatMap Qq ++ tl) (hst : Dr tl)
  (hsz : ∀ m, so = some m → Sz m ∧ (Qo m 0).length ≤ 4194304) (hrs : ∀ p ∈ rs, Sz p.1 ∧ p.2 ≤ p.1.log.length ∧ (ZO p).length ≤ 4194304)
  (hlay : ∀ k, (Xg (match so with | none => n0 | some m => Zl n0 m 0) (rs.take k)).log.length ≤ 10000) :
  FnH Tryz.prog 34 [pW bd, ei id, ei conf] (DkH bd d) (fun r H => ∃ bk bj, r = .tup [pW bk, ei 0] ∧ H = KpH bk bj bd ⟨rs.length, DM n0 so rs, JD d (rs.map ZO) tl⟩) := by
 have hj := Oh bd d (so.map (Qo · 0)) (rs.map ZO) tl hd hdead hleft hso (by
  intro s hs
  cases so with
  | none => cases hs
  | some m => cases hs; exact (hsz m rfl).2) hlog hst (by
  intro x hx
  obtain ⟨p, hp, rfl⟩ := List.mem_map.1 hx
  exact (hrs p hp).2.2)
 obtain ⟨sn, hsn⟩ : ∃ sn, sn = (so.map (Qo · 0)).getD [] := ⟨_, rfl⟩
 obtain ⟨n1, hn1⟩ : ∃ n1, n1 = (match so with | none => n0 | some m => Zl n0 m 0) := ⟨_, rfl⟩
 have hF : DM n0 so rs = if so = none ∧ rs = [] then n0 else Q0 (Xg n1 rs) := by rw [hn1]; rfl
 have hlay' : ∀ k, (Xg n1 (rs.take k)).log.length ≤ 10000 := by rw [hn1]; exact hlay
 have hn1l : n1.log.length ≤ 10000 := hlay' 0
 have hfull : (Xg n1 rs).log.length ≤ 10000 := by have := hlay' rs.length; rwa [List.take_length] at this
 have hrl : rs.length ≤ 100000000 := by
  have hu := hd.used
  have : rs.length ≤ ((rs.map ZO).flatMap Qq).length := by
   clear hrs hlay hlay' hfull hlog hj hF
   induction rs with
   | nil => simp
   | cons x l ih => rw [List.map_cons, List.flatMap_cons, List.length_append, Xv, List.length_cons]; omega
  rw [hlog, List.length_append] at hu
  omega
 have hsnl : sn.length ≤ 4194304 := by
  rw [hsn]
  cases so with
  | none => simp
  | some m => exact (hsz m rfl).2
 rw [← hsn] at hj
 refine fe Tryz.func34 fun S0 w0 => ?_
 show Sim _ _ [(0, pW bd), (1, ei id), (2, ei conf)] (DkH bd d) _
 refine zC ?_
 refine cr <| s_ Qc <| s_ Qc <| zC ?_
 refine cr <| s_ Qa ?_
 refine QN hj (fun r H' ⟨bj, hr1, hr2⟩ => ?_)
 subst hr1 hr2
 refine s_ Qa <| s_ QH <| s_ QH <| s_ QH <| s_ QH <| s_ Qc <| s_ Qc <| s_ Qc <| s_ Qc <| zC ?_
 refine cr <| s_ Qa <| s_ Yw <| zC ?_
 refine ci ?_ ?_
 ·intro h; exact absurd rfl h
 intro _
 refine zC ?_
 refine cr <| s_ Qa <| s_ Qa <| s_ (QM (hn0)) ?_
 refine Yt fun b12 _ => ?_
 refine QC ?_
 refine zC ?_
 refine zC ?_
 refine cr <| s_ Qa ?_
 (first | refine s_ QR ?_ | refine s_ QP ?_)
 refine s_ XZ <| zC ?_
 refine Jn [(8, pW bj), (9, bl sn), (10, tBl (rs.map ZO)), (12, pW b12)] ((b12, ⟨tN, Qv n1 (.sl false (n1.log.map een)), 22⟩) :: JrH bj bd (rs.map ZO).length (JD d (rs.map ZO) tl)) ?_ ?_
 ·refine ci ?_ ?_
  ·intro hpos
   cases so with
   | none => rw [hsn] at hpos; exact absurd hpos (by simp)
   | some m =>
    have hm := hsz m rfl
    have hsn' : sn = Qo m 0 := hsn
    have hn1' : n1 = Zl n0 m 0 := hn1
    have hla := Ov false n0 m 0 hm.1 (Nat.zero_le _) hl0
    subst hsn' hn1'
    refine zC ?_
    refine cr <| s_ Xp <| s_ Qa <| s_ (QM (hla)) <| QC ?_
    refine zC ?_
    exact ⟨eL, kR⟩
  ·intro hpos
   cases so with
   | none =>
    have hn1' : n1 = n0 := hn1
    rw [hn1']
    refine zC ?_
    exact ⟨eL, kR⟩
   | some m =>
    have hsn' : sn = Qo m 0 := hsn
    have := LJ m 0
    exact absurd (by rw [hsn', List.length_map]; omega) hpos
 refine zC ?_
 refine cr <| s_ Qa ?_
 (first | refine s_ QR ?_ | refine s_ QP ?_)
 refine s_ Qa <| zC ?_
 apply Qt (σ := Nat) (ok := fun k => k ≤ rs.length) (env := fun k => [(36, ei k), (35, ei (rs.length : Nat)), (34, tBl (rs.map ZO)), (8, pW bj), (9, bl sn), (10, tBl (rs.map ZO)), (12, pW b12)]) (heap := fun k => (b12, ⟨tN, Qv (Xg n1 (rs.take k)) (.sl false ((Xg n1 (rs.take k)).log.map een)), 22⟩) :: JrH bj bd rs.length (JD d (rs.map ZO) tl)) (μ := fun k => rs.length - k) (s0 := 0)
 ·exact Nat.zero_le _
 ·refine ⟨?_, ?_, eL⟩
  ·apply Qk; (exact zG)
   exact Le.refl _
  ·apply Qk; (exact zG)
   exact Le.of_eq (by simp [ei])
 ·rw [List.length_map]; exact kR
 intro k hk
 refine zC ?_
 refine cr <| s_ QX <| zC ?_
 refine ci ?_ ?_
 ·intro hlt
  have hlt' : k < rs.length := by omega
  have hp := hrs _ (List.getElem_mem hlt')
  have hla := Ov false (Xg n1 (rs.take k)) rs[k].1 rs[k].2 hp.1 hp.2.1 (hlay' k)
  have hnx := L6 n1 rs hlt'
  have hix : k < (rs.map ZO).length := by rw [List.length_map]; exact hlt'
  have e : (rs.map ZO)[k]'hix = ZO rs[k] := List.getElem_map ..
  have hla' : FnP Tryz.prog 67 [nd (Xg n1 (rs.take k)), bl ((rs.map ZO)[k]'hix)] (fun r => r = nd (Zl (Xg n1 (rs.take k)) rs[k].1 rs[k].2)) := by rw [e]; exact hla
  refine zC ?_
  apply cr
  (first | refine s_ (Xu hix) ?_ | refine s_ (Xu hix2) ?_ | refine s_ Zz ?_ | refine s_ Jw ?_)
  (first | refine s_ Qm ?_ | refine s_ Qn ?_)
  refine s_ Qc <| zC ?_
  refine cr <| s_ Xp <| s_ Qa <| s_ (QM (hla')) <| QC ?_
  refine zC ?_
  refine zC ?_
  refine cr <| s_ Q5 <| s_ Qa <| zC ?_
  refine ⟨k + 1, by omega, (by simp only []; omega), ⟨?_, eL⟩, ?_⟩
  ·apply Qk; (exact zG)
   exact Le.refl _
  ·simp only []
   rw [hnx]; exact kR
 intro hge
 have hke : k = rs.length := by omega
 subst hke
 rw [List.take_length]
 have hwk := WF (Xg n1 rs) (by omega)
 refine zC ?_
 refine cr <| s_ Qa ?_
 (first | refine s_ QR ?_ | refine s_ QP ?_)
 refine s_ Qa ?_
 (first | refine s_ QR ?_ | refine s_ QP ?_)
 refine s_ Q5 <| s_ XZ <| zC ?_
 refine ci ?_ ?_
 ·intro hpos
  have hne : ¬ (so = none ∧ rs = []) := by
   rintro ⟨rfl, rfl⟩
   rw [hsn] at hpos
   exact absurd hpos (by simp)
  rw [if_neg hne] at hF
  refine zC ?_
  refine cr <| s_ Xp <| s_ (QM (hwk)) <| QC ?_
  refine zC ?_
  refine cr <| s_ Qa <| s_ Xp <| s_ (ZA 23 [_, _, _, _, _, _, _, _, _, _, _, _, _, _, _, _, _, _, _, _, _, _, _]) <| s_ (ZA 23 [_, _, _, _, _, _, _, _, _, _, _, _, _, _, _, _, _, _, _, _, _, _, _]) ?_
  refine XO fun b56 _ => ?_
  refine s_ Qc <| s_ Qc <| zC ?_
  refine zR ?_
  refine rh (.keep _ _ _ _ _ (XX.refl _) (.skip _ _ _ kR)) ⟨b56, bj, rfl, ?_⟩ (Le.refl _)
  rw [hF]
  rfl
 ·intro hpos
  have hnone : so = none ∧ rs = [] := by
   constructor
   ·cases so with
    | none => rfl
    | some m =>
     have hsn' : sn = Qo m 0 := hsn
     have := LJ m 0
     exact absurd (by rw [hsn']; simp only [List.length_map]; omega) hpos
   ·have : rs.length = 0 := by simp only [List.length_map] at hpos; omega
    exact List.length_eq_zero_iff.1 this
  rw [if_pos hnone] at hF
  have hn10 : Xg n1 rs = n0 := by
   rw [hnone.2]
   rw [hnone.1] at hn1
   exact hn1
  rw [hn10]
  refine zC ?_
  refine cr <| s_ Qa <| s_ Xp <| s_ (ZA 23 [_, _, _, _, _, _, _, _, _, _, _, _, _, _, _, _, _, _, _, _, _, _, _]) <| s_ (ZA 23 [_, _, _, _, _, _, _, _, _, _, _, _, _, _, _, _, _, _, _, _, _, _, _]) ?_
  refine XO fun b56 _ => ?_
  refine s_ Qc <| s_ Qc <| zC ?_
  refine zR ?_
  refine rh (.keep _ _ _ _ _ (XX.refl _) (.skip _ _ _ kR)) ⟨b56, bj, rfl, ?_⟩ (Le.refl _)
  rw [hF]
  rfl
end Go.Proofs.YtjbokbikkcfjjaaGreat
namespace Go.Proofs.YtjbokbikkcfjjaaGreat
open Go.Cap
def n1F (n0 : Nd) (so : Option Nd) : Nd := match so with | none => n0 | some m => Zl n0 m 0
structure Z4 (n0 : Nd) (R : Nat) (d : Dk) (so : Option Nd) (rs : List (Nd × Nat)) (tl : List UInt8) (N : Nd) : Prop where
 snap : d.snap = LB (so.map (Qo · 0))
 log : d.log = (rs.map ZO).flatMap Qq ++ tl
 stop : Dr tl
 len : rs.length ≤ 16
 szs : ∀ m, so = some m → Sz m ∧ (Qo m 0).length ≤ R
 szr : ∀ p ∈ rs, Sz p.1 ∧ p.2 ≤ p.1.log.length ∧ (ZO p).length ≤ R + 80
 lay : ∀ k, (Xg (n1F n0 so) (rs.take k)).log.length ≤ 10000
 same : Q0 N = Q0 (Xg (n1F n0 so) rs)
theorem Z8 : Dr [] := .inl (by simp)
theorem ML {x : List UInt8} (hx : x.length ≤ 4194304) {k : Nat} (hk : k < (Qq x).length) : Dr ((Qq x).take k) := by
 have hl := Xv x
 by_cases h8 : k < 8
 ·exact .inl (by rw [List.length_take]; omega)
 ·refine .inr (.inr ?_)
  have hn : Ur ((Qq x).take k) = x.length := by
   have e : (Qq x).take k = Ud x.length ++ ((Ud (Mv x) ++ x).take (k - 4)) := by
    unfold Qq
    rw [List.take_append, ZC, List.take_of_length_le (by rw [ZC]; omega)]
   rw [e]
   exact Vh (by omega) (by omega) _
  rw [hn, List.length_take]
  omega
structure UR (n0 : Nd) (R : Nat) (K : Kp) : Prop where
 cont : ∃ so rs, Z4 n0 R K.d so rs [] K.N ∧ K.n = rs.length
 sync : K.d.synced = K.d.log.length
 dead : K.d.dead = false
 dk : DkR K.d
 id : K.N.id = n0.id
 sz : Sz K.N
 rec_ : (Qo K.N 0).length ≤ R
structure IF (n0 : Nd) (R : Nat) (d : Dk) (N t : Nd) : Prop where
 dead : d.dead = true
 dk : DkR d
 s0 : 0 ≤ d.synced
 s1 : d.synced ≤ d.log.length
 cont : ∀ pick, ∃ so rs tl, Z4 n0 R (Lo d pick) so rs tl N ∨ Z4 n0 R (Lo d pick) so rs tl t
theorem Ja {d : Dk} (hd : d.dead = false) (h0 : 0 ≤ d.left) : (∃ l, QQ d = ({ d with left := l }, true) ∧ 0 ≤ l ∧ l ≤ d.left) ∨ (QQ d = ({ d with left := 0, dead := true }, false) ∧ d.left = 1) := by
 unfold QQ
 by_cases h : 0 < d.left
 ·rw [if_pos h]
  by_cases h1 : d.left - 1 = 0
  ·refine .inr ⟨?_, by omega⟩
   simp [h1]
  ·refine .inl ⟨d.left - 1, ?_, by omega, by omega⟩
   simp [h1, hd]
 ·rw [if_neg h]
  refine .inl ⟨d.left, ?_, h0, Int.le_refl _⟩
  show (d, !d.dead) = (d, true)
  rw [hd]
  rfl
theorem Vo {d : Dk} (n : Int) (x : List UInt8) (hd : d.dead = false) (h0 : 0 ≤ d.left) :
  (XH n d x = (n, d, 19) ∧ d.room - d.log.length - d.snap.length < (Qq x).length) ∨
  (∃ l, XH n d x = (n + 1, { d with left := l, log := d.log ++ Qq x, synced := (d.log ++ Qq x).length }, 0) ∧ 0 ≤ l ∧ l ≤ d.left) ∨
  (XH n d x = (n, { d with left := 0, dead := true, log := d.log ++ Qq x }, 20) ∧ 0 < d.left) := by
 unfold XH JR
 rw [hd]
 simp only [Bool.false_eq_true, if_false]
 by_cases hf : d.room - d.log.length - d.snap.length < (Qq x).length
 ·rw [if_pos hf]
  exact .inl ⟨rfl, hf⟩
 ·rw [if_neg hf]
  rcases Ja hd h0 with ⟨l, hs, h1, h2⟩ | ⟨hs, h1⟩
  ·rw [hs]
   simp only [if_true]
   rcases Ja (d := { d with left := l, log := d.log ++ Qq x }) hd h1 with ⟨l', hs', h1', h2'⟩ | ⟨hs', h1'⟩
   ·refine .inr (.inl ⟨l', ?_, h1', by simp only at h2'; omega⟩)
    unfold ZX
    simp only [hd, Bool.false_eq_true, if_false]
    rw [hd] at hs'
    rw [hs']
    simp
   ·refine .inr (.inr ⟨?_, by simp only at h1'; omega⟩)
    unfold ZX
    simp only [hd, Bool.false_eq_true, if_false]
    rw [hd] at hs'
    rw [hs']
    simp
  ·rw [hs]
   refine .inr (.inr ⟨?_, by omega⟩)
   simp
theorem L8 {d : Dk} (n : Int) (x : List UInt8) (hd : d.dead = false) (h0 : 0 ≤ d.left) :
  (Xh n d x = (n, d, 19) ∧ d.room < (Qq x).length) ∨
  (∃ l, Xh n d x = (0, { d with left := l, snap := Qq x, log := [], synced := 0 }, 0) ∧ 0 ≤ l ∧ l ≤ d.left ∧ (Qq x).length ≤ d.room) ∨
  (Xh n d x = (n, { d with left := 0, dead := true, snap := Qq x, log := [], synced := 0 }, 20) ∧ 0 < d.left ∧ (Qq x).length ≤ d.room) ∨
  (Xh n d x = (n, { d with left := 0, dead := true }, 20) ∧ 0 < d.left) := by
 unfold Xh Zr
 rw [hd]
 simp only [Bool.false_eq_true, if_false]
 by_cases hf : d.room < (Qq x).length
 ·rw [if_pos hf]
  exact .inl ⟨rfl, hf⟩
 ·rw [if_neg hf]
  rcases Ja hd h0 with ⟨l, hs, h1, h2⟩ | ⟨hs, h1⟩
  ·rw [hs]
   refine .inr (.inl ⟨l, ?_, h1, h2, by omega⟩)
   simp
   exact hd
  ·rw [hs]
   by_cases ho : d.odd = 0
   ·refine .inr (.inr (.inl ⟨?_, by omega, by omega⟩))
    simp [ho]
   ·refine .inr (.inr (.inr ⟨?_, by omega⟩))
    simp [ho]
theorem EW (n : Nd) (rs : List (Nd × Nat)) : (Xg n rs).id = n.id := by
 induction rs generalizing n with
 | nil => rfl
 | cons p rs ih => exact ih (Zl n p.1 p.2)
theorem Co (n0 : Nd) (so : Option Nd) : (n1F n0 so).id = n0.id := by cases so <;> rfl
theorem UI (n : Nd) (rs : List (Nd × Nat)) (p : Nd × Nat) : Xg n (rs ++ [p]) = Zl (Xg n rs) p.1 p.2 := by
 unfold Xg
 rw [List.foldl_append]
 rfl
theorem LW : ∀ (a b : List En), a.take (pfx a b) = b.take (pfx a b)
 | [], b => by simp [pfx]
 | _ :: _, [] => by simp [pfx]
 | x :: xs, y :: ys => by
  unfold pfx
  split
  ·rename_i h
   rw [List.take_succ_cons, List.take_succ_cons, LW xs ys, h]
  ·simp
theorem Dp (a b : Nd) : a.log.take (Ql a b) ++ b.log.drop (Ql a b) = b.log := by
 have h : a.log.take (Ql a b) = b.log.take (Ql a b) := by
  unfold Ql
  split
  ·exact LW _ _
  ·simp
 rw [h, List.take_append_drop]
theorem Rn (a b : Nd) : Ql a b ≤ b.log.length := by
 unfold Ql
 split
 ·exact (WY _ _).2
 ·omega
theorem Lu {a b : Nd} (h : Q0 a = Q0 b) : a.log = b.log ∧ a.base = b.base ∧ a.id = b.id := by
 unfold Q0 at h
 simp only [Nd.mk.injEq] at h
 exact ⟨h.2.2.2.2.2.2.2.1, h.2.2.2.1, h.1⟩
theorem GC {L N t : Nd} (h : Q0 N = Q0 L) (hid : L.id = t.id) : Q0 t = Q0 (Zl L t (Ql N t)) := by
 obtain ⟨h1, h2, h3⟩ := Lu h
 have hl := Dp N t
 rw [h1] at hl
 unfold Q0 Zl
 rw [hl, hid]
theorem Z4.next {n0 : Nd} {R : Nat} {d d' : Dk} {so : Option Nd} {rs : List (Nd × Nat)} {N t : Nd} (h : Z4 n0 R d so rs [] N) (hl : rs.length < 16) (hid : t.id = n0.id) (hsz : Sz t) (hr : (Qo t 0).length ≤ R)
  (hs : d'.snap = d.snap) (hlog : d'.log = d.log ++ Qq (Qo t (Ql N t))) : Z4 n0 R d' so (rs ++ [(t, Ql N t)]) [] t := by
 have hL : (Xg (n1F n0 so) rs).id = t.id := by rw [EW, Co, hid]
 have hw := GC h.same hL
 have hlg := (Lu hw).1
 refine ⟨hs.trans h.snap, ?_, Z8, by simp; omega, h.szs, ?_, ?_, ?_⟩
 ·rw [hlog, h.log]
  simp [ZO]
 ·intro p hp
  rcases List.mem_append.1 hp with hp | hp
  ·exact h.szr p hp
  ·rw [List.mem_singleton.1 hp]
   exact ⟨hsz, Rn _ _, by have := J1 t (Ql N t); show (Qo t (Ql N t)).length ≤ _; omega⟩
 ·intro k
  by_cases hk : k ≤ rs.length
  ·rw [List.take_append_of_le_length hk]
   exact h.lay k
  ·rw [List.take_of_length_le (by simp; omega), UI]
   show (Zl (Xg (n1F n0 so) rs) t (Ql N t)).log.length ≤ 10000
   rw [← hlg]
   exact hsz.len
 ·rw [UI]
  exact hw
theorem Z4.torn {n0 : Nd} {R : Nat} {d d' : Dk} {so : Option Nd} {rs : List (Nd × Nat)} {N : Nd} {tl : List UInt8} (h : Z4 n0 R d so rs [] N) (hst : Dr tl) (hs : d'.snap = d.snap) (hlog : d'.log = d.log ++ tl) : Z4 n0 R d' so rs tl N :=
 ⟨hs.trans h.snap, by rw [hlog, h.log, List.append_nil], hst, h.len, h.szs, h.szr, h.lay, h.same⟩
theorem Z4.snapped {n0 : Nd} {R : Nat} {d' : Dk} {N : Nd} (hid : N.id = n0.id) (hsz : Sz N) (hr : (Qo N 0).length ≤ R) (hs : d'.snap = Qq (Qo N 0)) (hlog : d'.log = []) : Z4 n0 R d' (some N) [] [] N := by
 refine ⟨hs, hlog, Z8, by simp, ?_, by simp, ?_, ?_⟩
 ·intro m hm
  cases hm
  exact ⟨hsz, hr⟩
 ·intro k
  rw [List.take_nil]
  exact hsz.len
 ·show Q0 N = Q0 (Zl n0 N 0)
  unfold Q0 Zl
  rw [hid]
  simp
theorem Md {n0 : Nd} {R : Nat} {d d2 : Dk} {so : Option Nd} {rs : List (Nd × Nat)} {N t : Nd} (h : Z4 n0 R d so rs [] N) (hl : rs.length < 16) (hid : t.id = n0.id) (hsz : Sz t) (hr : (Qo t 0).length ≤ R) (hR : R ≤ 4000000)
  (hdk : DkR d2) (hdead : d2.dead = true) (hs : d2.snap = d.snap) (hlog : d2.log = d.log ++ Qq (Qo t (Ql N t))) (hsy : d2.synced = d.log.length) : IF n0 R d2 N t := by
 have hx : (Qo t (Ql N t)).length ≤ 4194304 := by have := J1 t (Ql N t); omega
 have h0 : 0 ≤ d2.synced := by omega
 have h1 : d2.synced ≤ d2.log.length := by rw [hsy, hlog, List.length_append]; omega
 refine ⟨hdead, hdk, h0, h1, fun pick => ?_⟩
 have hk := Uz d2 pick h0 h1
 obtain ⟨k, hkk⟩ : ∃ k : Nat, JW d2 pick = k := ⟨(JW d2 pick).toNat, by omega⟩
 have hcl : (Lo d2 pick).log = d.log ++ (Qq (Qo t (Ql N t))).take k := by
  show d2.log.take (d2.synced + JW d2 pick).toNat = _
  rw [hkk, hsy, show ((d.log.length : Int) + (k : Int)).toNat = d.log.length + k by omega, hlog, List.take_append, List.take_of_length_le (by omega), show d.log.length + k - d.log.length = k by omega]
 by_cases hfull : k < (Qq (Qo t (Ql N t))).length
 ·exact ⟨so, rs, _, .inl (h.torn (ML hx hfull) hs hcl)⟩
 ·rw [List.take_of_length_le (by omega)] at hcl
  exact ⟨so, _, [], .inr (h.next hl hid hsz hr hs hcl)⟩
theorem Vs {n0 : Nd} {R : Nat} {d d2 : Dk} {so : Option Nd} {rs : List (Nd × Nat)} {N t : Nd} (h : Z4 n0 R d so rs [] N) (hdk : DkR d2) (hdead : d2.dead = true) (hs : d2.snap = d.snap) (hlog : d2.log = d.log) (hsy : d2.synced = d2.log.length) : IF n0 R d2 N t := by
 have h0 : 0 ≤ d2.synced := by omega
 refine ⟨hdead, hdk, h0, by omega, fun pick => ?_⟩
 have hk := Uz d2 pick h0 (by omega)
 have hcl : (Lo d2 pick).log = d.log ++ [] := by
  show d2.log.take (d2.synced + JW d2 pick).toNat = _
  rw [List.take_of_length_le (by omega), hlog, List.append_nil]
 exact ⟨so, rs, [], .inl (h.torn Z8 hs hcl)⟩
inductive MF (n0 : Nd) (R : Nat) (K : Kp) (t : Nd) : Kp × Int → Prop
 | ok (n' : Int) (d' : Dk) (hc : ∃ so rs, Z4 n0 R d' so rs [] t ∧ n' = rs.length) (hs : d'.synced = d'.log.length) (hd : d'.dead = false) (hk : DkR d') (hl : d'.left ≤ K.d.left) (hr : d'.room = K.d.room) : MF n0 R K t (⟨n', K.N, d'⟩, 0)
 | full (n' : Int) (d' : Dk) (h : UR n0 R ⟨n', K.N, d'⟩) (hl : d'.left ≤ K.d.left) (hr : d'.room = K.d.room) (hf : K.d.room < 2 * R + 200) : MF n0 R K t (⟨n', K.N, d'⟩, 19)
 | dead (n' : Int) (d' : Dk) (hl : 0 < K.d.left) (h : IF n0 R d' K.N t) (hr : d'.room = K.d.room) : MF n0 R K t (⟨n', K.N, d'⟩, 20)
def Z6 (n : Int) (N : Nd) (d : Dk) (x : List UInt8) : Kp × Int :=
 let s := Xh n d (Qo N 0)
 if ¬ s.2.2 = 0 then (⟨s.1, N, s.2.1⟩, s.2.2) else
 let b := XH s.1 s.2.1 x
 (⟨b.1, N, b.2.1⟩, b.2.2)
theorem Ef {n0 : Nd} {R : Nat} {n : Int} {N t : Nd} {d : Dk} (h : UR n0 R ⟨n, N, d⟩) (hid : t.id = n0.id) (hsz : Sz t) (hr : (Qo t 0).length ≤ R) (hR : R ≤ 4000000) : MF n0 R ⟨n, N, d⟩ t (Z6 n N d (Qo t (Ql N t))) := by
 have h0 := h
 obtain ⟨⟨so, rs, hc, hn⟩, hsy, hdead, hdk, hNid, hNsz, hNr⟩ := h
 simp only at hc hn hsy hdead hdk hNid hNsz hNr
 have hx : (Qo t (Ql N t)).length ≤ R + 80 := by have := J1 t (Ql N t); omega
 have hfl := Xv (Qo t (Ql N t))
 have hfs := Xv (Qo N 0)
 have hjs := hdk.jsnap (n := n) (Qo N 0)
 rcases L8 n (Qo N 0) hdead hdk.l0 with ⟨hj, hf⟩ | ⟨l, hj, h1, h2, h3⟩ | ⟨hj, h1, h3⟩ | ⟨hj, h1⟩
 ·have hw : Z6 n N d (Qo t (Ql N t)) = (⟨n, N, d⟩, 19) := by unfold Z6; rw [hj]; rfl
  rw [hw]
  exact .full _ _ h0 (Int.le_refl _) rfl (by simp only; omega)
 ·rw [hj] at hjs
  simp only at hjs
  have hc2 : Z4 n0 R { d with left := l, snap := Qq (Qo N 0), log := [], synced := 0 } (some N) [] [] N := Z4.snapped hNid hNsz hNr rfl rfl
  have hja := hjs.jadd (n := 0) (Qo t (Ql N t))
  rcases Vo (d := { d with left := l, snap := Qq (Qo N 0), log := [], synced := 0 }) 0 (Qo t (Ql N t)) hdead h1 with ⟨hj2, hf2⟩ | ⟨l2, hj2, h4, h5⟩ | ⟨hj2, h4⟩
  ·have hw : Z6 n N d (Qo t (Ql N t)) = (⟨0, N, { d with left := l, snap := Qq (Qo N 0), log := [], synced := 0 }⟩, 19) := by
    unfold Z6; rw [hj]; simp only; rw [hj2]; rfl
   rw [hw]
   exact .full _ _ ⟨⟨some N, [], hc2, rfl⟩, rfl, hdead, hjs, hNid, hNsz, hNr⟩ h2 rfl (by simp only [List.length_nil] at hf2 ⊢; omega)
  ·have hw : Z6 n N d (Qo t (Ql N t)) = (⟨1, N, { d with left := l2, snap := Qq (Qo N 0), log := [] ++ Qq (Qo t (Ql N t)), synced := ([] ++ Qq (Qo t (Ql N t)) : List UInt8).length }⟩, 0) := by
    unfold Z6; rw [hj]; simp only; rw [hj2]; rfl
   rw [hw]
   rw [hj2] at hja
   exact .ok _ _ ⟨some N, _, hc2.next (by simp) hid hsz hr rfl rfl, rfl⟩ rfl hdead hja (by simp only at h5 ⊢; omega) rfl
  ·have hw : Z6 n N d (Qo t (Ql N t)) = (⟨0, N, { d with left := 0, dead := true, snap := Qq (Qo N 0), log := [] ++ Qq (Qo t (Ql N t)), synced := 0 }⟩, 20) := by
    unfold Z6; rw [hj]; simp only; rw [hj2]; rfl
   rw [hw]
   rw [hj2] at hja
   exact .dead _ _ (by simp only at h4 ⊢; omega) (Md hc2 (by simp) hid hsz hr hR hja rfl rfl rfl rfl) rfl
 ·rw [hj] at hjs
  have hw : Z6 n N d (Qo t (Ql N t)) = (⟨n, N, { d with left := 0, dead := true, snap := Qq (Qo N 0), log := [], synced := 0 }⟩, 20) := by unfold Z6; rw [hj]; rfl
  rw [hw]
  have hc2 : Z4 n0 R { d with left := 0, dead := true, snap := Qq (Qo N 0), log := [], synced := 0 } (some N) [] [] N := Z4.snapped hNid hNsz hNr rfl rfl
  exact .dead _ _ h1 (Vs hc2 hjs rfl rfl rfl rfl) rfl
 ·rw [hj] at hjs
  have hw : Z6 n N d (Qo t (Ql N t)) = (⟨n, N, { d with left := 0, dead := true }⟩, 20) := by unfold Z6; rw [hj]; rfl
  rw [hw]
  exact .dead _ _ h1 (Vs hc hjs rfl rfl rfl hsy) rfl
theorem Lt {n0 : Nd} {R : Nat} {n : Int} {N t : Nd} {d : Dk} (h : UR n0 R ⟨n, N, d⟩) (hid : t.id = n0.id) (hsz : Sz t) (hr : (Qo t 0).length ≤ R) (hR : R ≤ 4000000) : MF n0 R ⟨n, N, d⟩ t (Q9 ⟨n, N, d⟩ (Qo t (Ql N t))) := by
 have h0 := h
 have h2 := Ef h hid hsz hr hR
 obtain ⟨⟨so, rs, hc, hn⟩, hsy, hdead, hdk, hNid, hNsz, hNr⟩ := h
 simp only at hc hn hsy hdead hdk hNid hNsz hNr
 have hx : (Qo t (Ql N t)).length ≤ R + 80 := by have := J1 t (Ql N t); omega
 have hfl := Xv (Qo t (Ql N t))
 have hja := hdk.jadd (n := n) (Qo t (Ql N t))
 have hrs := hc.len
 by_cases hlt : n < 16
 ·rcases Vo n (Qo t (Ql N t)) hdead hdk.l0 with ⟨hj, hf⟩ | ⟨l, hj, h4, h5⟩ | ⟨hj, h4⟩
  ·by_cases hn0 : n = 0
   ·have hw : Q9 ⟨n, N, d⟩ (Qo t (Ql N t)) = (⟨n, N, d⟩, 19) := by
     unfold Q9 ZJ
     simp only
     rw [if_pos hlt, hj]
     simp only
     rw [if_pos (.inr hn0)]
    rw [hw]
    refine .full _ _ h0 (Int.le_refl _) rfl ?_
    have hrs0 : rs = [] := List.length_eq_zero_iff.1 (by omega)
    have hlog : d.log = [] := by rw [hc.log, hrs0]; rfl
    have hsnl : d.snap.length ≤ R + 8 := by
     rw [hc.snap]
     cases so with
     | none => simp [LB]
     | some m => have := (hc.szs m rfl).2; have h2 := Xv (Qo m 0); show (Qq (Qo m 0)).length ≤ _; omega
    simp only
    rw [hlog, List.length_nil] at hf
    omega
   ·have hw : Q9 ⟨n, N, d⟩ (Qo t (Ql N t)) = Z6 n N d (Qo t (Ql N t)) := by
     unfold Q9 ZJ Z6
     simp only
     rw [if_pos hlt, hj]
     simp only
     rw [if_neg (by simp [hn0])]
    rw [hw]
    exact h2
  ·have hw : Q9 ⟨n, N, d⟩ (Qo t (Ql N t)) = (⟨n + 1, N, { d with left := l, log := d.log ++ Qq (Qo t (Ql N t)), synced := (d.log ++ Qq (Qo t (Ql N t))).length }⟩, 0) := by
    unfold Q9 ZJ
    simp only
    rw [if_pos hlt, hj]
    simp only
    rw [if_pos (.inl (by omega))]
   rw [hw]
   rw [hj] at hja
   exact .ok _ _ ⟨so, _, hc.next (by omega) hid hsz hr rfl rfl, by rw [hn, List.length_append]; rfl⟩ rfl hdead hja h5 rfl
  ·have hw : Q9 ⟨n, N, d⟩ (Qo t (Ql N t)) = (⟨n, N, { d with left := 0, dead := true, log := d.log ++ Qq (Qo t (Ql N t)) }⟩, 20) := by
    unfold Q9 ZJ
    simp only
    rw [if_pos hlt, hj]
    simp only
    rw [if_pos (.inl (by omega))]
   rw [hw]
   rw [hj] at hja
   exact .dead _ _ h4 (Md hc (by omega) hid hsz hr hR hja rfl rfl rfl hsy) rfl
 ·have hw : Q9 ⟨n, N, d⟩ (Qo t (Ql N t)) = Z6 n N d (Qo t (Ql N t)) := by
   unfold Q9 ZJ Z6
   simp only
   rw [if_neg hlt]
   simp only
   have hn0 : ¬ n = 0 := by omega
   rw [if_neg (by simp [hn0])]
  rw [hw]
  exact h2
inductive IE (n0 : Nd) (R : Nat) (K : Kp) (t : Nd) : Kp × Int → Prop
 | ok (K' : Kp) (h : UR n0 R K') (hN : K'.N = t) (hl : K'.d.left ≤ K.d.left) (hr : K'.d.room = K.d.room) : IE n0 R K t (K', 0)
 | full (K' : Kp) (h : UR n0 R K') (hN : K'.N = K.N) (hl : K'.d.left ≤ K.d.left) (hr : K'.d.room = K.d.room) (hf : K.d.room < 2 * R + 200) : IE n0 R K t (K', 19)
 | dead (K' : Kp) (hN : K'.N = K.N) (hl : 0 < K.d.left) (h : IF n0 R K'.d K.N t) (hr : K'.d.room = K.d.room) : IE n0 R K t (K', 20)
theorem M5 {n0 : Nd} {R : Nat} {K : Kp} {t : Nd} (h : UR n0 R K) (hid : t.id = n0.id) (hsz : Sz t) (hr : (Qo t 0).length ≤ R) (hR : R ≤ 4000000) : IE n0 R K t (QO K t 0) := by
 obtain ⟨n, N, d⟩ := K
 have hwr := Lt h hid hsz hr hR
 obtain ⟨⟨so, rs, hc, hn⟩, hsy, hdead, hdk, hNid, hNsz, hNr⟩ := h
 simp only at hc hn hsy hdead hdk hNid hNsz hNr
 unfold QO
 rw [if_neg (by simp)]
 by_cases hsame : Q0 N = Q0 t
 ·rw [if_pos hsame]
  refine .ok _ ⟨⟨so, rs, ?_, hn⟩, hsy, hdead, hdk, hid, hsz, hr⟩ rfl (Int.le_refl _) rfl
  exact ⟨hc.snap, hc.log, hc.stop, hc.len, hc.szs, hc.szr, hc.lay, hsame.symm.trans hc.same⟩
 rw [if_neg hsame]
 simp only
 generalize Q9 ⟨n, N, d⟩ (Qo t (Ql N t)) = w at hwr ⊢
 cases hwr with
 | ok n' d' hc hs hd hk hl hr' =>
  rw [if_pos rfl]
  exact .ok _ ⟨hc, hs, hd, hk, hid, hsz, hr⟩ rfl hl hr'
 | full n' d' h hl hr' hf =>
  rw [if_neg (by simp)]
  exact .full _ h rfl hl hr' hf
 | dead n' d' hl h hr' =>
  rw [if_neg (by simp)]
  exact .dead _ rfl hl h hr'
theorem F5.gs (f : F5) (i j : Nat) (v : Int) : (f.set i v).get j = v ∨ (f.set i v).get j = f.get j := by
 match i with
 | 0 => match j with
  | 0 => exact .inl rfl
  | 1 | 2 | 3 | _ + 4 => exact .inr rfl
 | 1 => match j with
  | 1 => exact .inl rfl
  | 0 | 2 | 3 | _ + 4 => exact .inr rfl
 | 2 => match j with
  | 2 => exact .inl rfl
  | 0 | 1 | 3 | _ + 4 => exact .inr rfl
 | 3 => match j with
  | 3 => exact .inl rfl
  | 0 | 1 | 2 | _ + 4 => exact .inr rfl
 | _ + 4 => match j with
  | _ + 4 => exact .inl rfl
  | 0 | 1 | 2 | 3 => exact .inr rfl
theorem F5.ga (v : Int) (j : Nat) : (F5.all v).get j = v := by
 match j with
 | 0 | 1 | 2 | 3 | _ + 4 => rfl
structure Ek (e : En) (s : Nat) : Prop where
 t0 : 0 ≤ e.term
 t1 : e.term ≤ s
 c0 : 0 ≤ e.conf
 c1 : e.conf ≤ 31
 cmd : e.cmd.length ≤ 61
theorem Ek.le {e : En} {s r : Nat} (h : Ek e s) (hr : s ≤ r) : Ek e r := ⟨h.t0, by have := h.t1; omega, h.c0, h.c1, h.cmd⟩
structure Nk (n : Nd) (s : Nat) : Prop where
 id0 : 0 ≤ n.id
 id5 : n.id < 5
 base : n.base = 0
 baseTerm : n.baseTerm = 0
 conf0 : 0 ≤ n.baseConf
 conf1 : n.baseConf ≤ 31
 snap : n.snap = []
 term0 : 0 ≤ n.term
 term1 : n.term ≤ s
 vote0 : -1 ≤ n.vote
 vote1 : n.vote ≤ 5
 len : n.log.length ≤ s
 ents : ∀ e ∈ n.log, Ek e s
 com0 : 0 ≤ n.commit
 com1 : n.commit ≤ s
 wait0 : 0 ≤ n.wait
 wait1 : n.wait ≤ s
 votes0 : 0 ≤ n.votes
 votes1 : n.votes ≤ 31
 next0 : ∀ i, 0 ≤ n.next.get i
 next1 : ∀ i, n.next.get i ≤ s + 1
 mtch0 : ∀ i, 0 ≤ n.mtch.get i
 mtch1 : ∀ i, n.mtch.get i ≤ s
theorem Nk.sz {n : Nd} {s : Nat} (h : Nk n s) (hs : s ≤ 1000) : Sz n := by
 have hb := h.base
 have hbt := h.baseTerm
 have h1 := h.term0
 have h2 := h.term1
 have h3 := h.vote0
 have h4 := h.vote1
 have h5 := h.conf0
 have h6 := h.conf1
 have h7 := h.com0
 have h8 := h.com1
 have h9 := h.len
 refine ⟨⟨by omega, by omega⟩, ⟨by omega, by omega⟩, ⟨by omega, by omega⟩, ⟨by omega, by omega⟩, ⟨by omega, by omega⟩, ⟨by omega, by omega⟩, by rw [h.snap]; simp, by omega, fun e he => ?_⟩
 have hk := h.ents e he
 have e1 := hk.t0
 have e2 := hk.t1
 have e3 := hk.c0
 have e4 := hk.c1
 have e5 := hk.cmd
 exact ⟨⟨by omega, by omega⟩, ⟨by omega, by omega⟩, by omega⟩
theorem Df {e : En} {s : Nat} (h : Ek e s) : (XE e).length ≤ 101 := by
 have h1 := Q8 e.term
 have h2 := Q8 e.conf
 have h3 := JU e.cmd
 have := h.cmd
 unfold XE
 simp only [List.length_append]; omega
theorem JN {s : Nat} : ∀ (l : List En), (∀ e ∈ l, Ek e s) → (l.flatMap XE).length ≤ 101 * l.length
 | [], _ => by simp
 | e :: l, h => by
  have h1 := Df (h e List.mem_cons_self)
  have h2 := JN l fun x hx => h x (List.mem_cons_of_mem _ hx)
  simp only [List.flatMap_cons, List.length_append, List.length_cons]; omega
theorem Nk.rec_ {n : Nd} {s : Nat} (h : Nk n s) : (Qo n 0).length ≤ 90 + 101 * s := by
 have h1 := YM (Q3 n 0)
 have h2 : (Q3 n 0).length = 8 := rfl
 have h3 := JN n.log h.ents
 have h4 := h.len
 have h5 : (YS n.snap).length ≤ 10 := by rw [h.snap, YS, if_pos rfl]; exact (Q8 0).2
 unfold Qo
 simp only [List.length_append, List.drop_zero]
 omega
theorem Nk.le {n : Nd} {s r : Nat} (h : Nk n s) (hr : s ≤ r) : Nk n r :=
 ⟨h.id0, h.id5, h.base, h.baseTerm, h.conf0, h.conf1, h.snap, h.term0, by have := h.term1; omega, h.vote0, h.vote1, by have := h.len; omega, fun e he => (h.ents e he).le hr, h.com0, by have := h.com1; omega, h.wait0, by have := h.wait1; omega, h.votes0, h.votes1,
  h.next0, fun i => by have := h.next1 i; omega, h.mtch0, fun i => by have := h.mtch1 i; omega⟩
theorem Cj {id conf : Int} (h0 : 0 ≤ id) (h1 : id < 5) (h2 : 0 ≤ conf) (h3 : conf ≤ 31) : Nk (XA id conf) 0 :=
 ⟨h0, h1, rfl, rfl, h2, h3, rfl, by simp [XA], by simp [XA], by simp [XA], by simp [XA], by simp [XA], by simp [XA], by simp [XA], by simp [XA], by simp [XA], by simp [XA], by simp [XA], by simp [XA],
  fun i => by show 0 ≤ (F5.all 0).get i; rw [F5.ga]; omega, fun i => by show (F5.all 0).get i ≤ _; rw [F5.ga]; omega, fun i => by show 0 ≤ (F5.all 0).get i; rw [F5.ga]; omega, fun i => by show (F5.all 0).get i ≤ _; rw [F5.ga]; omega⟩
theorem Lp (n : Nd) (conf : Int) (hb : n.base = 0) : ∀ k, n.commit ≤ Yh n conf k ∧ Yh n conf k ≤ max n.commit k
 | 0 => by unfold Yh; omega
 | k + 1 => by
  have := Lp n conf hb k
  unfold Yh
  split <;> omega
theorem Nk.commit {n : Nd} {s : Nat} (h : Nk n s) : Nk (Q2 n) s := by
 have hc := Lp n (QK n).2 h.base n.log.length
 have h0 := h.com0
 have h1 := h.com1
 have hl := h.len
 unfold Q2
 split
 ·exact ⟨h.id0, h.id5, h.base, h.baseTerm, h.conf0, h.conf1, h.snap, h.term0, h.term1, h.vote0, h.vote1, h.len, h.ents, by show 0 ≤ Yh n _ _; omega, by show Yh n _ _ ≤ _; omega, Int.le_refl _, by show (0 : Int) ≤ _; omega, h.votes0, h.votes1, h.next0, h.next1, h.mtch0, h.mtch1⟩
 ·exact ⟨h.id0, h.id5, h.base, h.baseTerm, h.conf0, h.conf1, h.snap, h.term0, h.term1, h.vote0, h.vote1, h.len, h.ents, by show 0 ≤ Yh n _ _; omega, by show Yh n _ _ ≤ _; omega, h.wait0, h.wait1, h.votes0, h.votes1, h.next0, h.next1, h.mtch0, h.mtch1⟩
theorem Nk.push {n : Nd} {s : Nat} (h : Nk n s) (e : En) (he : Ek e (s + 1)) : ∀ x ∈ n.log ++ [e], Ek x (s + 1) := by
 intro x hx
 rcases List.mem_append.1 hx with hx | hx
 ·exact (h.ents x hx).le (by omega)
 ·rw [List.mem_singleton.1 hx]; exact he
theorem I8 {i : Int} (h0 : 0 ≤ i) (h5 : i < 5) : 0 ≤ (2 : Int) ^ i.toNat ∧ (2 : Int) ^ i.toNat ≤ 31 := by
 rcases five h0 h5 with rfl | rfl | rfl | rfl | rfl <;> decide
theorem Nk.put {n : Nd} {s : Nat} (h : Nk n s) (e : En) (hc0 : 0 ≤ e.conf) (hc1 : e.conf ≤ 31) (hcm : e.cmd.length ≤ 61) : Nk (RK n e) (s + 1) := by
 have hb := h.base
 have hl := h.len
 have ht0 := h.term0
 have ht1 := h.term1
 have g := h.le (r := s + 1) (by omega)
 refine Nk.commit ⟨g.id0, g.id5, g.base, g.baseTerm, g.conf0, g.conf1, g.snap, g.term0, g.term1, g.vote0, g.vote1, ?_, ?_, g.com0, g.com1, g.wait0, g.wait1, g.votes0, g.votes1, g.next0, g.next1, ?_, ?_⟩
 ·show (n.log ++ [_]).length ≤ _; simp; omega
 ·exact h.push _ ⟨ht0, by simp only; omega, hc0, hc1, hcm⟩
 ·intro i; show 0 ≤ (n.mtch.set n.id.toNat (n.base + (n.log.length + 1))).get i
  rcases F5.gs n.mtch n.id.toNat i (n.base + (n.log.length + 1)) with e | e <;> rw [e]
  ·omega
  ·exact h.mtch0 i
 ·intro i; show (n.mtch.set n.id.toNat (n.base + (n.log.length + 1))).get i ≤ _
  rcases F5.gs n.mtch n.id.toNat i (n.base + (n.log.length + 1)) with e | e <;> rw [e]
  ·omega
  ·exact g.mtch1 i
end Go.Proofs.YtjbokbikkcfjjaaGreat
