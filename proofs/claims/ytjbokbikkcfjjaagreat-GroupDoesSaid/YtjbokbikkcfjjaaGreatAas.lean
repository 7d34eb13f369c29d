/-
  keep: a kept replica: write.
-/
import Derived.Test.YtjbokbikkcfjjaaGreatAar
set_option maxRecDepth 16000
set_option maxHeartbeats 8000000
set_option linter.all false
namespace Go.Cap
section
variable {K : Ctx} {t : Env} {H Hs Hr : Qc} {N : Env → Qc → Prop} {ops : Array Oper} {i : Nat} {tp : TypeId} {pos : String} {aft : Array Edge} {kd : Tmp} {eff : List Nat} {pend : List Q9} {al : List (Nat × Oper)}
theorem Il {f : FuncId} {xs : Array Operand} {ats : Array TypeId} {args : List T} {Φ : T → Qc → Prop} (hf : FnH K.P f args Hs Φ) (hp : H.Perm (Hs ++ Hr))
  (hn : ∀ r H', Φ r H' → XF ops ⟨some kd, .call ⟨.value (.func f), xs, ats⟩, tp, pos, aft, none⟩ (H' ++ Hr) pend ∧ ∃ pend', XA ops ⟨some kd, .call ⟨.value (.func f), xs, ats⟩, tp, pos, aft, none⟩ pend pend' ∧ Qj K ops eff N al ((kd, r) :: t) (H' ++ Hr) pend') (hc : Qy K.P f = true := by rfl) (ha' : EvL t xs.toList args := by exact ze) (hd : Nat.blt kd K.n = true := by rfl) (he : QN eff i = true := by rfl) :
  Qj K ops eff N ((i, ⟨some kd, .call ⟨.value (.func f), xs, ats⟩, tp, pos, aft, none⟩) :: al) t H pend :=
 V3 (fun _ h1 => Yo (Hr := Hr) hf hp hc (ha'.trans fun x hx => h1 x (by simp [Op.operands, Call.operands]; exact .inr (by simpa using hx))) (by simpa [Xi] using hd) fun r H' hr' => by
  obtain ⟨h1, p', h2, h3⟩ := hn r H' hr'
  exact ⟨_, p', rfl, h1, h2, h3⟩) he
end
end Go.Cap
namespace Go.Proofs.YtjbokbikkcfjjaaGreat
open Go.Cap
attribute [local irreducible] POp Qe AD EOp Sim FnH T.gp
structure DkR (d : Dk) : Prop where
 l0 : 0 ≤ d.left
 l1 : d.left ≤ 1000000000
 r0 : 0 ≤ d.room
 r1 : d.room ≤ 16777216
 fit : ((d.log.length + d.snap.length : Nat) : Int) ≤ d.room
theorem DkR.ok {d : Dk} (h : DkR d) : UI d := ⟨h.l0, h.l1, h.r0, h.r1, by have := h.fit; have := h.r1; omega⟩
theorem DkR.spend {d : Dk} (h : DkR d) : DkR (QT d).1 := by
 have h0 := h.l0
 have h1 := h.l1
 unfold QT
 split
 ·exact ⟨by simp only; omega, by simp only; omega, h.r0, h.r1, h.fit⟩
 ·exact h
theorem Wr (d : Dk) : (QT d).1.log = d.log ∧ (QT d).1.snap = d.snap ∧ (QT d).1.room = d.room := by
 unfold QT
 split <;> exact ⟨rfl, rfl, rfl⟩
theorem DkR.app {d : Dk} (h : DkR d) (x : List UInt8) : DkR (JY d x).1 := by
 have hs := h.spend
 obtain ⟨e1, e2, e3⟩ := Wr d
 unfold JY
 split
 ·exact h
 ·split
  ·exact h
  ·rename_i hf
   exact ⟨hs.l0, hs.l1, hs.r0, hs.r1, by simp only [e2, e3, List.length_append]; omega⟩
theorem DkR.sync {d : Dk} (h : DkR d) : DkR (Z8 d).1 := by
 have hs := h.spend
 unfold Z8
 split
 ·exact h
 ·split
  ·exact ⟨hs.l0, hs.l1, hs.r0, hs.r1, hs.fit⟩
  ·exact hs
theorem DkR.swap {d : Dk} (h : DkR d) (x : List UInt8) : DkR (ZD d x).1 := by
 have hs := h.spend
 obtain ⟨e1, e2, e3⟩ := Wr d
 unfold ZD
 split
 ·exact h
 ·split
  ·exact h
  ·rename_i hf
   split
   ·exact ⟨hs.l0, hs.l1, hs.r0, hs.r1, by simp only [e3, List.length_nil]; omega⟩
   ·exact hs
theorem DkR.jadd {n : Int} {d : Dk} (h : DkR d) (x : List UInt8) : DkR (XL n d x).2.1 := by
 unfold XL
 simp only
 split
 ·split
  ·exact (h.app _).sync
  ·exact (h.app _).sync
 ·exact h.app _
theorem DkR.jsnap {n : Int} {d : Dk} (h : DkR d) (x : List UInt8) : DkR (Xk n d x).2.1 := by
 unfold Xk
 simp only
 split <;> exact h.swap _
theorem Rp (n : Int) (d : Dk) (x : List UInt8) : (XL n d x).1 = n ∨ (XL n d x).1 = n + 1 := by
 unfold XL
 simp only
 split
 ·split
  ·exact .inr rfl
  ·exact .inl rfl
 ·exact .inl rfl
theorem Ev (n : Int) (d : Dk) (x : List UInt8) : (Xk n d x).1 = n ∨ (Xk n d x).1 = 0 := by
 unfold Xk
 simp only
 split
 ·exact .inr rfl
 ·exact .inl rfl
structure Kp where
 n : Int
 N : Nd
 d : Dk
def tK : TypeId := 95
def KpH (bk bj bd : Nat) (K : Kp) : Qc := (bk, ⟨tK, pW bj :: Qt K.N (.sl false (K.N.log.map een)), 23⟩) :: JrH bj bd K.n K.d
def ZT (K : Kp) (x : List UInt8) : Int × Dk × Int := if K.n < 16 then XL K.n K.d x else (K.n, K.d, 19)
def Xc (K : Kp) (x : List UInt8) : Kp × Int :=
 let a := ZT K x
 if ¬ a.2.2 = 19 ∨ a.1 = 0 then (⟨a.1, K.N, a.2.1⟩, a.2.2) else
 let s := Xk a.1 a.2.1 (Qp K.N 0)
 if ¬ s.2.2 = 0 then (⟨s.1, K.N, s.2.1⟩, s.2.2) else
 let b := XL s.1 s.2.1 x
 (⟨b.1, K.N, b.2.1⟩, b.2.2)
theorem Oj (bk bj bd : Nat) (K : Kp) (x : List UInt8) (hd : DkR K.d) (hN : Sz K.N) (hr : (Qp K.N 0).length ≤ 4194304) (hx : x.length ≤ 4194304) (h0 : 0 ≤ K.n) (h1 : K.n ≤ 100) :
  FnH Tryz.prog 140 [pW bk, bl x] (KpH bk bj bd K) (fun r H => r = ei (Xc K x).2 ∧ H = KpH bk bj bd (Xc K x).1) := by
 obtain ⟨n, N, d⟩ := K
 simp only at hd hN hr h0 h1
 have hc1 := MU bj bd n d
 have ha1 := Ex bj bd n d x hd.ok (hd.app _).ok hx h0 (by omega)
 obtain ⟨⟨na, da, ea⟩, hwa⟩ : ∃ a, ZT ⟨n, N, d⟩ x = a := ⟨_, rfl⟩
 have hda : DkR da := by
  have : DkR (ZT ⟨n, N, d⟩ x).2.1 := by
   unfold ZT; split
   ·exact hd.jadd x
   ·exact hd
  rw [hwa] at this; exact this
 have hna : 0 ≤ na ∧ na ≤ 101 := by
  have : (ZT ⟨n, N, d⟩ x).1 = n ∨ (ZT ⟨n, N, d⟩ x).1 = n + 1 := by
   unfold ZT; split
   ·exact Rp n d x
   ·exact .inl rfl
  rw [hwa] at this; simp only at this; omega
 have hc2 := MU bj bd na da
 have hby := MZ N 0 hN (Nat.zero_le _)
 have hsn := Ro bj bd na da (Qp N 0) hda.ok hr
 obtain ⟨⟨ns, ds, es'⟩, hws⟩ : ∃ a, Xk na da (Qp N 0) = a := ⟨_, rfl⟩
 have hds : DkR ds := by
  have := hda.jsnap (n := na) (Qp N 0)
  rw [hws] at this; exact this
 have hns : 0 ≤ ns ∧ ns ≤ 101 := by
  have := Ev na da (Qp N 0)
  rw [hws] at this; simp only at this; omega
 rw [hws] at hsn
 simp only at hsn
 have ha2 := Ex bj bd ns ds x hds.ok (hds.app _).ok hx hns.1 (by omega)
 have hA : Xc ⟨n, N, d⟩ x = if ¬ ea = 19 ∨ na = 0 then (⟨na, N, da⟩, ea) else if ¬ es' = 0 then (⟨ns, N, ds⟩, es') else (⟨(XL ns ds x).1, N, (XL ns ds x).2.1⟩, (XL ns ds x).2.2) := by
  unfold Xc
  rw [hwa]
  simp only
  rw [hws]
 rw [hA]
 refine fe Tryz.func140 fun S0 w0 => ?_
 show Sim _ _ [(0, pW bk), (1, bl x)] ((bk, ⟨tK, pW bj :: Qt N (.sl false (N.log.map een)), 23⟩) :: JrH bj bd n d) _
 refine zC ?_
 refine cr <| s_ Qb <| zC ?_
 refine cr <| s_ Qb <| zC ?_
 refine cr <| s_ Qa <| s_ Qf <| s_ Qd <| s_ Ql ?_
 refine QU (Hr := [_]) hc1 (List.perm_append_comm (l₁ := [_])) (fun r H' ⟨hr1, hr2⟩ => ?_)
 subst hr1 hr2
 refine QG List.perm_append_comm ?_
 refine s_ QR <| zC ?_
 refine Ju [(0, pW bk), (1, bl x), (5, ei ea)] ((bk, ⟨tK, pW bj :: Qt N (.sl false (N.log.map een)), 23⟩) :: JrH bj bd na da) ?_ ?_
 ·refine ci ?_ ?_
  ·intro hlt
   have hlt' : n < 16 := hlt
   have hw : XL n d x = (na, da, ea) := by rw [← hwa, ZT, if_pos hlt']
   rw [hw] at ha1
   refine zC ?_
   refine cr <| s_ Qa <| s_ Qf <| s_ Qd <| s_ Ql <| s_ Qa ?_
   refine QU (Hr := [_]) ha1 (List.perm_append_comm (l₁ := [_])) (fun r H' ⟨hr1, hr2⟩ => ?_)
   subst hr1 hr2
   refine QG List.perm_append_comm ?_
   refine s_ Qb <| zC ?_
   exact ⟨eL, kR⟩
  ·intro hlt
   have hlt' : ¬ n < 16 := hlt
   have hw : (n, d, (19 : Int)) = (na, da, ea) := by rw [← hwa, ZT, if_neg hlt']
   simp only [Prod.mk.injEq] at hw
   obtain ⟨rfl, rfl, rfl⟩ := hw
   refine zC ?_
   exact ⟨eL, kR⟩
 by_cases hea : ea = 19
 ·have hnn : ¬ ¬ ea = 19 := fun h => h hea
  refine zC ?_
  refine cr <| s_ Qa <| s_ XR <| s_ Qa <| gF (fun hg => Qa) ?_
  refine gF (fun hg => Qf (hx := u_ hg)) ?_
  refine gF (fun hg => Qd (hx := u_ hg)) ?_
  refine gF (fun hg => Ql (hx := u_ hg)) ?_
  refine RJ (p := ¬ ea = 19) (Hr := [_]) hnn hc2 (List.perm_append_comm (l₁ := [_])) (fun r H' ⟨hr1, hr2⟩ => ?_) (ha' := QQ (u_ hnn) XS)
  subst hr1 hr2
  refine QG List.perm_append_comm ?_
  refine gF (p := ¬ ea = 19) (fun hg => XB) ?_
  refine s_ YD <| zC ?_
  refine ci ?_ ?_
  ·intro h
   rw [if_pos h]
   refine zC ?_
   refine cr <| s_ Qa <| s_ Qb <| zC ?_
   refine zR ?_
   exact rh kR ⟨rfl, rfl⟩ (Le.refl _)
  intro h
  rw [if_neg h]
  refine zC ?_
  refine ca [0, 1, 2, 3, 4, 5, 6, 7, 8, 9, 10] [9] <| a_ (fun _ => Qa) <| a_ (fun _ => Qf) <| a_ (fun _ => Qd) <| QF ?_
  refine a_ (fun _ => Qa) <| a_ (fun _ => Qf) <| a_ (fun _ => Qd) <| Yk ?_
  refine a_ (fun _ => QK (hby)) ?_
  refine Il (Hr := [_]) hsn (List.perm_append_comm (l₁ := [_])) (fun r H' ⟨hr1, hr2⟩ => ⟨?_, ?_⟩)
  ·subst hr1 hr2; exact zd
  subst hr1 hr2
  refine zD ?_
  refine a_ (fun _ => Qb) ?_
  apply an
  refine zC ?_
  refine XV List.perm_append_comm ?_
  refine zC ?_
  refine cr <| s_ Qa <| s_ XR <| zC ?_
  refine ci ?_ ?_
  ·intro he
   have he' : ¬ es' = 0 := he
   rw [if_pos he']
   refine zC ?_
   refine cr <| s_ Qa <| s_ Qb <| zC ?_
   refine zR ?_
   exact rh kR ⟨rfl, rfl⟩ (Le.refl _)
  intro he
  have he' : ¬ ¬ es' = 0 := he
  rw [if_neg he']
  refine zC ?_
  refine cr <| s_ Qa <| s_ Qf <| s_ Qd <| s_ Ql <| s_ Qa ?_
  refine QU (Hr := [_]) ha2 (List.perm_append_comm (l₁ := [_])) (fun r H' ⟨hr1, hr2⟩ => ?_)
  subst hr1 hr2
  refine QG List.perm_append_comm ?_
  refine s_ Qb <| zC ?_
  refine zR ?_
  exact rh kR ⟨rfl, rfl⟩ (Le.refl _)
 ·rw [if_pos (.inl hea)]
  refine zC ?_
  refine cr <| s_ Qa <| s_ XR <| s_ Qa <| gF (fun hg => Qa) ?_
  refine gF (fun hg => Qf (hx := u_ hg)) ?_
  refine gF (fun hg => Qd (hx := u_ hg)) ?_
  refine gF (fun hg => Ql (hx := u_ hg)) ?_
  refine gF (p := ¬ ea = 19) (d := .any) (fun hg => absurd hea hg) ?_
  refine gF (p := ¬ ea = 19) (d := .v (.bool (decide False))) (fun hg => absurd hea hg) ?_
  refine s_ YD <| zC ?_
  refine ci ?_ ?_
  ·intro _
   refine zC ?_
   refine cr <| s_ Qa <| s_ Qb <| zC ?_
   refine zR ?_
   exact rh kR ⟨rfl, rfl⟩ (Le.refl _)
  ·intro h; exact absurd (.inl hea) h
end Go.Proofs.YtjbokbikkcfjjaaGreat
namespace Go.Proofs.YtjbokbikkcfjjaaGreat
open Go.Cap
attribute [local irreducible] Wm ZQ
def tN : TypeId := 44
def bxH (b6 b4 b3 bk : Nat) (e : Int) (t : Nd) : Qc := [(b6, ⟨25, [ei e], 1⟩), (b4, ⟨tN, Qt t (.sl false (t.log.map een)), 22⟩), (b3, ⟨162, [pW bk], 1⟩)]
theorem LC (b6 b4 b3 bk bj bd : Nat) (e : Int) (t : Nd) (K : Kp) (ht : t.log.length ≤ 1000000000) :
  DfH Tryz.prog 138 #[.pointer (some ⟨b6, 0, none⟩), .pointer (some ⟨b4, 0, none⟩), .pointer (some ⟨b3, 0, none⟩)] (bxH b6 b4 b3 bk e t ++ KpH bk bj bd K) (fun H => H = bxH b6 b4 b3 bk e t ++ KpH bk bj bd (if e = 0 then { K with N := t } else K)) := by
 have ho := Es t ht
 obtain ⟨n, N, d⟩ := K
 refine WT Tryz.func138 (vs := [.pointer (some ⟨b6, 0, none⟩), .pointer (some ⟨b4, 0, none⟩), .pointer (some ⟨b3, 0, none⟩)]) (by rfl) (by rfl) (by rfl) ?_
 intro S0 w0
 show Sim _ _ [(0, pW b6), (1, pW b4), (2, pW b3)] ((b6, ⟨25, [ei e], 1⟩) :: (b4, ⟨tN, Qt t (.sl false (t.log.map een)), 22⟩) :: (b3, ⟨162, [pW bk], 1⟩) :: (bk, ⟨tK, pW bj :: Qt N (.sl false (N.log.map een)), 23⟩) :: JrH bj bd n d) _
 refine zC ?_
 refine cr <| s_ Ql <| s_ XB <| zC ?_
 refine ci ?_ ?_
 ·intro he
  have he' : e = 0 := he
  rw [if_pos he']
  refine zC ?_
  refine ca [0, 1, 2, 3, 4, 5] [5] <| QF ?_
  refine Yk ?_
  refine a_ (fun _ => QK (ho)) <| a_ (fun _ => Qf) <| a_ (fun _ => Qd) <| XH ?_
  apply an
  refine zC ?_
  exact ⟨.inl rfl, _, kR, rfl⟩
 ·intro he
  have he' : ¬ e = 0 := he
  rw [if_neg he']
  refine zC ?_
  exact ⟨.inl rfl, _, kR, rfl⟩
def QA (K : Kp) (t : Nd) (e : Int) : Kp × Int := if ¬ e = 0 then (K, e) else if Q2 K.N = Q2 t then ({ K with N := t }, 0) else
 (if (Xc K (Qp t (Qm K.N t))).2 = 0 then { (Xc K (Qp t (Qm K.N t))).1 with N := t } else (Xc K (Qp t (Qm K.N t))).1, (Xc K (Qp t (Qm K.N t))).2)
structure DX (K : Kp) : Prop where
 d : DkR K.d
 sz : Sz K.N
 rec_ : (Qp K.N 0).length ≤ 4000000
 n0 : 0 ≤ K.n
 n1 : K.n ≤ 100
theorem J8 (t : Nd) (k : Nat) : (Qp t k).length ≤ (Qp t 0).length + 80 := by
 have h1 := YZ (Q6 t k)
 have h2 : (Q6 t k).length = 8 := rfl
 have h3 : (t.log.flatMap XG).length = ((t.log.take k).flatMap XG).length + ((t.log.drop k).flatMap XG).length := by
  conv => lhs; rw [← List.take_append_drop k t.log]
  rw [List.flatMap_append, List.length_append]
 unfold Qp
 simp only [List.length_append, List.drop_zero]
 omega
theorem Eu (bk bj bd : Nat) (K : Kp) (t : Nd) (e : Int) (hK : DX K) (ht : Sz t) (hx : (Qp t 0).length ≤ 4000000) :
  FnH Tryz.prog 101 [pW bk, nd t, ei e] (KpH bk bj bd K) (fun r H => r = ei (QA K t e).2 ∧ H = KpH bk bj bd (QA K t e).1) := by
 have htl := ht.len
 have hNl := hK.sz.len
 have hw1 := W2 K.N (by omega)
 have hw2 := W2 t (by omega)
 have hsm := IC (Q2 K.N) (Q2 t) (by show K.N.log.length ≤ _; omega) (by show t.log.length ≤ _; omega)
 have hal := Ih K.N t (by omega) (by omega)
 have hale : Qm K.N t ≤ t.log.length := by
  unfold Qm
  split
  ·exact (Lo _ _).2
  ·omega
 have hrl : (Qp t (Qm K.N t)).length ≤ 4194304 := by
  have := J8 t (Qm K.N t)
  omega
 have hby := MZ t (Qm K.N t) ht hale
 have hwr := Oj bk bj bd K (Qp t (Qm K.N t)) hK.d hK.sz (by have := hK.rec_; omega) hrl hK.n0 hK.n1
 obtain ⟨⟨K', ew⟩, hwe⟩ : ∃ a, Xc K (Qp t (Qm K.N t)) = a := ⟨_, rfl⟩
 rw [hwe] at hwr
 simp only at hwr
 have hA : QA K t e = if ¬ e = 0 then (K, e) else if Q2 K.N = Q2 t then ({ K with N := t }, 0) else (if ew = 0 then { K' with N := t } else K', ew) := by
  unfold QA
  rw [hwe]
 rw [hA]
 obtain ⟨n, N, d⟩ := K
 refine JA Tryz.func101 (by rfl) (by rfl) ?_
 intro S0 w0 hw0
 show Wm _ _ _ [(0, pW bk), (1, T.agg (Qt t (.sl false (t.log.map een)))), (2, ei e)] ((bk, ⟨tK, pW bj :: Qt N (.sl false (N.log.map een)), 23⟩) :: JrH bj bd n d) _
 refine Jm ?_
 refine zC ?_
 apply cr
 refine LM fun b3 _ => ?_
 refine XN fun b4 _ => ?_
 refine XX fun b6 _ => ?_
 refine zC ?_
 refine ⟨rfl, ?_⟩
 refine Zr ?_
 refine d_s Uf ?_
 refine Vf [.pointer (some ⟨b6, 0, none⟩), .pointer (some ⟨b4, 0, none⟩), .pointer (some ⟨b3, 0, none⟩)] ?_ rfl rfl (zl)
 refine J6 hw0 ?_
 refine zC ?_
 refine cr <| s_ Qa <| s_ XR <| s_ Qb <| zC ?_
 refine ci ?_ ?_
 ·intro he
  have he' : ¬ e = 0 := he
  rw [if_pos he']
  refine zC ?_
  refine cr <| s_ Qa <| Qw ?_
  refine zC ?_
  apply Yc
  refine ⟨_, LC b6 b4 b3 bk bj bd e t ⟨n, N, d⟩ (by omega), ?_⟩
  rintro H1 rfl
  rw [if_neg he']
  exact ⟨_, _, _, zrs, Le.refl _, ⟨rfl, rfl⟩, (Qh.skip _ _ _ (.skip _ _ _ (.skip _ _ _ kR))).le⟩
 intro he
 have he' : e = 0 := Decidable.not_not.1 he
 rw [if_neg he]
 refine zC ?_
 refine ca [0, 1, 2, 3, 4, 5, 6, 7, 8] [] <| QF ?_
 refine a_ (fun _ => Qf) <| a_ (fun _ => Qd) <| Yk ?_
 refine a_ (fun _ => QK (hw1)) <| Yk ?_
 refine a_ (fun _ => QK (hw2)) <| a_ (fun _ => QK (hsm)) <| a_ (fun _ => Qb) ?_
 apply an
 refine zC ?_
 refine ci ?_ ?_
 ·intro hs
  have hs' : Q2 N = Q2 t := hs
  rw [if_pos hs']
  refine zC ?_
  refine cr <| Qw ?_
  refine zC ?_
  apply Yc
  refine ⟨_, LC b6 b4 b3 bk bj bd 0 t ⟨n, N, d⟩ (by omega), ?_⟩
  rintro H1 rfl
  rw [if_pos rfl]
  exact ⟨_, _, _, zrs, Le.refl _, ⟨rfl, rfl⟩, (Qh.skip _ _ _ (.skip _ _ _ (.skip _ _ _ kR))).le⟩
 intro hs
 have hs' : ¬ Q2 N = Q2 t := hs
 rw [if_neg hs']
 refine zC ?_
 refine ca [0, 1, 2, 3, 4, 5, 6, 7, 8, 9, 10] [9, 10] <| QF ?_
 refine Yk ?_
 refine QF ?_
 refine a_ (fun _ => Qf) <| a_ (fun _ => Qd) <| Yk ?_
 refine Yk ?_
 refine a_ (fun _ => QK (hal)) <| a_ (fun _ => QK (hby)) ?_
 refine Il (Hr := [_, _, _]) hwr (List.perm_append_comm (l₁ := [_, _, _])) (fun r H' ⟨hr1, hr2⟩ => ⟨?_, ?_⟩)
 ·subst hr1 hr2; exact zd
 subst hr1 hr2
 refine zD ?_
 refine XH ?_
 apply an
 refine zC ?_
 refine XV (H' := bxH b6 b4 b3 bk ew t ++ KpH bk bj bd K') (List.perm_append_comm (l₁ := KpH bk bj bd K') (l₂ := bxH b6 b4 b3 bk ew t)) ?_
 apply Yc
 refine ⟨_, LC b6 b4 b3 bk bj bd ew t K' (by omega), ?_⟩
 rintro H1 rfl
 exact ⟨_, _, _, zrs, Le.refl _, ⟨rfl, rfl⟩, (Qh.skip _ _ _ (.skip _ _ _ (.skip _ _ _ kR))).le⟩
theorem D7 (bk bj bd : Nat) (K : Kp) (t : Nd) (l : List Ms) (hK : DX K) (ht : Sz t) (hx : (Qp t 0).length ≤ 4000000) :
  FnH Tryz.prog 75 [pW bk, nd t, mss l] (KpH bk bj bd K) (fun r H => r = .tup [if (QA K t 0).2 = 0 then mss l else .sl true [], ei (QA K t 0).2] ∧ H = KpH bk bj bd (QA K t 0).1) := by
 have hk := Eu bk bj bd K t 0 hK ht hx
 obtain ⟨⟨K', e⟩, hke⟩ : ∃ a, QA K t 0 = a := ⟨_, rfl⟩
 rw [hke] at hk ⊢
 simp only at hk ⊢
 refine fe Tryz.func75 fun S0 w0 => ?_
 show Sim _ _ [(0, pW bk), (1, T.agg (Qt t (.sl false (t.log.map een)))), (2, mss l)] (KpH bk bj bd K) _
 refine zC ?_
 apply cr
 refine XN fun b4 _ => ?_
 refine s_ Qb <| s_ Qb <| zC ?_
 refine cr <| s_ Qa <| s_ Uf <| s_ Qb <| zC ?_
 refine cr <| s_ Qa <| s_ Q7 ?_
 refine JV (fs := [pW bk]) (args := [nd t, ei 0]) (cs := []) hk (Hr := [_]) (List.perm_append_comm (l₁ := [_])) (fun r H' ⟨hr1, hr2⟩ => ?_)
 subst hr1 hr2
 refine s_ Qb <| zC ?_
 refine cr <| s_ Qa <| s_ XR <| zC ?_
 refine ci ?_ ?_
 ·intro he
  have he' : ¬ e = 0 := he
  rw [if_neg he']
  refine zC ?_
  refine cr <| s_ Qa <| s_ Qb <| s_ Qb <| zC ?_
  refine zR ?_
  refine rhp List.perm_append_comm (.skip _ _ _ kR) ⟨rfl, rfl⟩ ?_
  exact Le.tup (LeL.cons (Le.slice0 _ _) (LeL.cons (Le.refl _) LeL.nil))
 ·intro he
  have he' : e = 0 := Decidable.not_not.1 he
  rw [if_pos he', he']
  refine zC ?_
  refine cr <| s_ Qa <| s_ Qb <| s_ Qb <| zC ?_
  refine zR ?_
  exact rhp List.perm_append_comm (.skip _ _ _ kR) ⟨rfl, rfl⟩ (Le.refl _)
theorem I7 (bk bj bd : Nat) (K : Kp) (t : Nd) (i e : Int) (hK : DX K) (ht : Sz t) (hx : (Qp t 0).length ≤ 4000000) :
  FnH Tryz.prog 70 [pW bk, nd t, ei i, ei e] (KpH bk bj bd K) (fun r H => r = .tup [ei (if (QA K t e).2 = 0 then i else 0), ei (QA K t e).2] ∧ H = KpH bk bj bd (QA K t e).1) := by
 have hk := Eu bk bj bd K t e hK ht hx
 obtain ⟨⟨K', e'⟩, hke⟩ : ∃ a, QA K t e = a := ⟨_, rfl⟩
 rw [hke] at hk ⊢
 simp only at hk ⊢
 refine fe Tryz.func70 fun S0 w0 => ?_
 show Sim _ _ [(0, pW bk), (1, T.agg (Qt t (.sl false (t.log.map een)))), (2, ei i), (3, ei e)] (KpH bk bj bd K) _
 refine zC ?_
 apply cr
 refine XN fun b5 _ => ?_
 refine s_ Qb <| s_ Qb <| zC ?_
 refine cr <| s_ Qa <| s_ Q7 <| s_ Qa ?_
 refine QU (Hr := [_]) hk (List.perm_append_comm (l₁ := [_])) (fun r H' ⟨hr1, hr2⟩ => ?_)
 subst hr1 hr2
 refine s_ Qb <| zC ?_
 refine cr <| s_ Qa <| s_ XR <| zC ?_
 refine ci ?_ ?_
 ·intro he
  have he' : ¬ e' = 0 := he
  rw [if_neg he']
  refine zC ?_
  refine cr <| s_ Qa <| s_ Qb <| s_ Qb <| zC ?_
  refine zR ?_
  exact rhp List.perm_append_comm (.skip _ _ _ kR) ⟨rfl, rfl⟩ (Le.refl _)
 ·intro he
  have he' : e' = 0 := Decidable.not_not.1 he
  rw [if_pos he', he']
  refine zC ?_
  refine cr <| s_ Qa <| s_ Qb <| s_ Qb <| zC ?_
  refine zR ?_
  exact rhp List.perm_append_comm (.skip _ _ _ kR) ⟨rfl, rfl⟩ (Le.refl _)
end Go.Proofs.YtjbokbikkcfjjaaGreat
namespace Go.Proofs.YtjbokbikkcfjjaaGreat
open Go.Cap
attribute [local irreducible] POp Qe AD EOp Sim FnH T.gp
def CE (K : Kp) (t : Nd) (l : List Ms) : T := .tup [if (QA K t 0).2 = 0 then mss l else .sl true [], ei (QA K t 0).2]
theorem Ri (bk bj bd : Nat) (K : Kp) {t : Nd} {l : List Ms} (hT : FnP Tryz.prog 76 [nd K.N] (fun r => r = .tup [nd t, mss l])) (hK : DX K) (ht : Sz t) (hx : (Qp t 0).length ≤ 4000000) :
  FnH Tryz.prog 47 [pW bk] (KpH bk bj bd K) (fun r H => r = CE K t l ∧ H = KpH bk bj bd (QA K t 0).1) := by
 have hs := D7 bk bj bd K t l hK ht hx
 obtain ⟨n, N, d⟩ := K
 refine fe Tryz.func47 fun S0 w0 => ?_
 show Sim _ _ [(0, pW bk)] ((bk, ⟨tK, pW bj :: Qt N (.sl false (N.log.map een)), 23⟩) :: JrH bj bd n d) _
 refine zC ?_
 refine cr <| s_ Qb <| s_ Qb <| zC ?_
 refine ca [0, 1, 2, 3, 4, 5, 6, 7, 8, 9, 10, 11, 12, 13, 14, 15] [11] <| a_ (fun _ => Qa) <| a_ (fun _ => Qf) <| a_ (fun _ => Qd) <| a_ (fun _ => Qa) <| a_ (fun _ => Qf) <| a_ (fun _ => Qd) <| a_ (fun _ => Qd) <| Yk ?_
 refine a_ (fun _ => QK (hT)) <| a_ (fun _ => QC) <| a_ (fun _ => QC) ?_
 refine Im hs (fun r H' ⟨hr1, hr2⟩ => ⟨?_, ?_⟩)
 ·subst hr1 hr2; exact zd
 subst hr1 hr2
 refine zD ?_
 refine a_ (fun _ => QC) <| a_ (fun _ => QC) <| a_ (fun _ => Qb) <| a_ (fun _ => Qb) ?_
 apply an
 refine zC ?_
 refine zR ?_
 exact rh kR ⟨rfl, rfl⟩ (Le.refl _)
theorem Rj (bk bj bd : Nat) (K : Kp) (m : Ms) {t : Nd} {l : List Ms} (hT : FnP Tryz.prog 100 [nd K.N, ms m] (fun r => r = .tup [nd t, mss l])) (hK : DX K) (ht : Sz t) (hx : (Qp t 0).length ≤ 4000000) :
  FnH Tryz.prog 69 [pW bk, ms m] (KpH bk bj bd K) (fun r H => r = CE K t l ∧ H = KpH bk bj bd (QA K t 0).1) := by
 have hs := D7 bk bj bd K t l hK ht hx
 obtain ⟨n, N, d⟩ := K
 refine fe Tryz.func69 fun S0 w0 => ?_
 show Sim _ _ [(0, pW bk), (1, T.agg (msC m (Zn m.entries)))] ((bk, ⟨tK, pW bj :: Qt N (.sl false (N.log.map een)), 23⟩) :: JrH bj bd n d) _
 refine zC ?_
 apply cr
 refine XN fun b3 _ => ?_
 refine s_ Qb <| s_ Qb <| zC ?_
 refine ca [0, 1, 2, 3, 4, 5, 6, 7, 8, 9, 10, 11, 12, 13, 14, 15, 16] [12] <| a_ (fun _ => Qa) <| a_ (fun _ => Qf) <| a_ (fun _ => Qd) <| a_ (fun _ => Qa) <| a_ (fun _ => Qf) <| a_ (fun _ => Qd) <| a_ (fun _ => Qd) <| Yk ?_
 refine Yk ?_
 refine a_ (fun _ => QK (hT)) <| a_ (fun _ => QC) <| a_ (fun _ => QC) ?_
 refine Il (Hr := [_]) hs (List.perm_append_comm (l₁ := [_])) (fun r H' ⟨hr1, hr2⟩ => ⟨?_, ?_⟩)
 ·subst hr1 hr2; exact zd
 subst hr1 hr2
 refine zD ?_
 refine a_ (fun _ => QC) <| a_ (fun _ => QC) <| a_ (fun _ => Qb) <| a_ (fun _ => Qb) ?_
 apply an
 refine zC ?_
 refine zR ?_
 exact rhp List.perm_append_comm (.skip _ _ _ kR) ⟨rfl, rfl⟩ (Le.refl _)
def BO (K : Kp) (t : Nd) (i e : Int) : T := .tup [ei (if (QA K t e).2 = 0 then i else 0), ei (QA K t e).2]
theorem Rk (bk bj bd : Nat) (K : Kp) (cmd : List UInt8) {t : Nd} {i e : Int} (hT : FnP Tryz.prog 71 [nd K.N, es cmd] (fun r => r = .tup [nd t, ei i, ei e])) (hK : DX K) (ht : Sz t) (hx : (Qp t 0).length ≤ 4000000) :
  FnH Tryz.prog 39 [pW bk, es cmd] (KpH bk bj bd K) (fun r H => r = BO K t i e ∧ H = KpH bk bj bd (QA K t e).1) := by
 have hs := I7 bk bj bd K t i e hK ht hx
 obtain ⟨n, N, d⟩ := K
 refine fe Tryz.func39 fun S0 w0 => ?_
 show Sim _ _ [(0, pW bk), (1, es cmd)] ((bk, ⟨tK, pW bj :: Qt N (.sl false (N.log.map een)), 23⟩) :: JrH bj bd n d) _
 refine zC ?_
 refine cr <| s_ Qb <| s_ Qb <| zC ?_
 refine ca [0, 1, 2, 3, 4, 5, 6, 7, 8, 9, 10, 11, 12, 13, 14, 15, 16, 17] [13] <| a_ (fun _ => Qa) <| a_ (fun _ => Qf) <| a_ (fun _ => Qd) <| a_ (fun _ => Qa) <| a_ (fun _ => Qf) <| a_ (fun _ => Qd) <| a_ (fun _ => Qd) <| Yk ?_
 refine a_ (fun _ => Qa) <| a_ (fun _ => QK (hT)) <| a_ (fun _ => QC) <| a_ (fun _ => QC) <| a_ (fun _ => QC) ?_
 refine Im hs (fun r H' ⟨hr1, hr2⟩ => ⟨?_, ?_⟩)
 ·subst hr1 hr2; exact zd
 subst hr1 hr2
 refine zD ?_
 refine a_ (fun _ => QC) <| a_ (fun _ => QC) <| a_ (fun _ => Qb) <| a_ (fun _ => Qb) ?_
 apply an
 refine zC ?_
 refine zR ?_
 exact rh kR ⟨rfl, rfl⟩ (Le.refl _)
theorem Rm (bk bj bd : Nat) (K : Kp) (hl : K.N.log.length ≤ 1000000000) : FnH Tryz.prog 23 [pW bk] (KpH bk bj bd K) (fun r H => r = nd K.N ∧ H = KpH bk bj bd K) := by
 have ho := Es K.N hl
 obtain ⟨n, N, d⟩ := K
 refine fe Tryz.func23 fun S0 w0 => ?_
 show Sim _ _ [(0, pW bk)] ((bk, ⟨tK, pW bj :: Qt N (.sl false (N.log.map een)), 23⟩) :: JrH bj bd n d) _
 refine zC ?_
 apply cr
 refine XX fun b2 _ => ?_
 refine zC ?_
 refine cr <| s_ Qa <| s_ Qf <| s_ Qd <| s_ Qd <| s_ Q7 <| s_ (QK (ho)) <| Qw ?_
 refine zC ?_
 refine zR ?_
 exact rh (.skip _ _ _ kR) ⟨rfl, rfl⟩ (Le.refl _)
def Xj (n : Nd) (rs : List (Nd × Nat)) : Nd := rs.foldl (fun n p => Zy n p.1 p.2) n
def ZZ (p : Nd × Nat) : List UInt8 := Qp p.1 p.2
def B3 (n0 : Nd) (so : Option Nd) (rs : List (Nd × Nat)) : Nd := Xj (match so with | none => n0 | some m => Zy n0 m 0) rs
def Ei (n0 : Nd) (so : Option Nd) (rs : List (Nd × Nat)) : Nd := if so = none ∧ rs = [] then n0 else Q2 (B3 n0 so rs)
theorem Ma (m : Nd) (k : Nat) : 0 < (Qp m k).length := by
 have h := Xb m.term
 unfold Qp Q6 YF
 simp only [List.flatMap_cons, List.length_append]
 omega
theorem Mx (n : Nd) (rs : List (Nd × Nat)) {k : Nat} (hk : k < rs.length) : Xj n (rs.take (k + 1)) = Zy (Xj n (rs.take k)) rs[k].1 rs[k].2 := by
 unfold Xj
 rw [List.take_succ_eq_append_getElem hk, List.foldl_append]
 rfl
theorem Rl (bd : Nat) (d : Dk) (id conf : Int) (n0 : Nd) (so : Option Nd) (rs : List (Nd × Nat)) (tl : List UInt8) (hn0 : FnP Tryz.prog 66 [ei id, ei conf] (fun r => r = nd n0)) (hl0 : n0.log.length ≤ 10000)
  (hd : UI d) (hdead : d.dead = false) (hleft : d.left = 0) (hso : d.snap = L1 (so.map (Qp · 0))) (hlog : d.log = (rs.map ZZ).flatMap Qs ++ tl) (hst : DW tl)
  (hsz : ∀ m, so = some m → Sz m ∧ (Qp m 0).length ≤ 4194304) (hrs : ∀ p ∈ rs, Sz p.1 ∧ p.2 ≤ p.1.log.length ∧ (ZZ p).length ≤ 4194304)
  (hlay : ∀ k, (Xj (match so with | none => n0 | some m => Zy n0 m 0) (rs.take k)).log.length ≤ 10000) :
  FnH Tryz.prog 34 [pW bd, ei id, ei conf] (DkH bd d) (fun r H => ∃ bk bj, r = .tup [pW bk, ei 0] ∧ H = KpH bk bj bd ⟨rs.length, Ei n0 so rs, JI d (rs.map ZZ) tl⟩) := by
 have hj := O5 bd d (so.map (Qp · 0)) (rs.map ZZ) tl hd hdead hleft hso (by
  intro s hs
  cases so with
  | none => cases hs
  | some m => cases hs; exact (hsz m rfl).2) hlog hst (by
  intro x hx
  obtain ⟨p, hp, rfl⟩ := List.mem_map.1 hx
  exact (hrs p hp).2.2)
 obtain ⟨sn, hsn⟩ : ∃ sn, sn = (so.map (Qp · 0)).getD [] := ⟨_, rfl⟩
 obtain ⟨n1, hn1⟩ : ∃ n1, n1 = (match so with | none => n0 | some m => Zy n0 m 0) := ⟨_, rfl⟩
 have hF : Ei n0 so rs = if so = none ∧ rs = [] then n0 else Q2 (Xj n1 rs) := by rw [hn1]; rfl
 have hlay' : ∀ k, (Xj n1 (rs.take k)).log.length ≤ 10000 := by rw [hn1]; exact hlay
 have hn1l : n1.log.length ≤ 10000 := hlay' 0
 have hfull : (Xj n1 rs).log.length ≤ 10000 := by have := hlay' rs.length; rwa [List.take_length] at this
 have hrl : rs.length ≤ 100000000 := by
  have hu := hd.used
  have : rs.length ≤ ((rs.map ZZ).flatMap Qs).length := by
   clear hrs hlay hlay' hfull hlog hj hF
   induction rs with
   | nil => simp
   | cons x l ih => rw [List.map_cons, List.flatMap_cons, List.length_append, Xy, List.length_cons]; omega
  rw [hlog, List.length_append] at hu
  omega
 have hsnl : sn.length ≤ 4194304 := by
  rw [hsn]
  cases so with
  | none => simp
  | some m => exact (hsz m rfl).2
 rw [← hsn] at hj
 refine fe Tryz.func34 fun S0 w0 => ?_
 show Sim _ _ [(0, pW bd), (1, ei id), (2, ei conf)] (DkH bd d) _
 refine zC ?_
 refine cr <| s_ Qb <| s_ Qb <| zC ?_
 refine cr <| s_ Qa ?_
 refine QJ hj (fun r H' ⟨bj, hr1, hr2⟩ => ?_)
 subst hr1 hr2
 refine s_ Qa <| s_ QC <| s_ QC <| s_ QC <| s_ QC <| s_ Qb <| s_ Qb <| s_ Qb <| s_ Qb <| zC ?_
 refine cr <| s_ Qa <| s_ XR <| zC ?_
 refine ci ?_ ?_
 ·intro h; exact absurd rfl h
 intro _
 refine zC ?_
 refine cr <| s_ Qa <| s_ Qa <| s_ (QK (hn0)) ?_
 refine XX fun b12 _ => ?_
 refine Qw ?_
 refine zC ?_
 refine zC ?_
 refine cr <| s_ Qa ?_
 (first | refine s_ QP ?_ | refine s_ QO ?_)
 refine s_ X0 <| zC ?_
 refine Ju [(8, pW bj), (9, bl sn), (10, tBl (rs.map ZZ)), (12, pW b12)] ((b12, ⟨tN, Qt n1 (.sl false (n1.log.map een)), 22⟩) :: JrH bj bd (rs.map ZZ).length (JI d (rs.map ZZ) tl)) ?_ ?_
 ·refine ci ?_ ?_
  ·intro hpos
   cases so with
   | none => rw [hsn] at hpos; exact absurd hpos (by simp)
   | some m =>
    have hm := hsz m rfl
    have hsn' : sn = Qp m 0 := hsn
    have hn1' : n1 = Zy n0 m 0 := hn1
    have hla := Rh false n0 m 0 hm.1 (Nat.zero_le _) hl0
    subst hsn' hn1'
    refine zC ?_
    refine cr <| s_ Q7 <| s_ Qa <| s_ (QK (hla)) <| Qw ?_
    refine zC ?_
    exact ⟨eL, kR⟩
  ·intro hpos
   cases so with
   | none =>
    have hn1' : n1 = n0 := hn1
    rw [hn1']
    refine zC ?_
    exact ⟨eL, kR⟩
   | some m =>
    have hsn' : sn = Qp m 0 := hsn
    have := Ma m 0
    exact absurd (by rw [hsn', List.length_map]; omega) hpos
 refine zC ?_
 refine cr <| s_ Qa ?_
 (first | refine s_ QP ?_ | refine s_ QO ?_)
 refine s_ Qa <| zC ?_
 apply Qo (σ := Nat) (ok := fun k => k ≤ rs.length) (env := fun k => [(36, ei k), (35, ei (rs.length : Nat)), (34, tBl (rs.map ZZ)), (8, pW bj), (9, bl sn), (10, tBl (rs.map ZZ)), (12, pW b12)]) (heap := fun k => (b12, ⟨tN, Qt (Xj n1 (rs.take k)) (.sl false ((Xj n1 (rs.take k)).log.map een)), 22⟩) :: JrH bj bd rs.length (JI d (rs.map ZZ) tl)) (μ := fun k => rs.length - k) (s0 := 0)
 ·exact Nat.zero_le _
 ·refine ⟨?_, ?_, eL⟩
  ·apply Qi; (exact zG)
   exact Le.refl _
  ·apply Qi; (exact zG)
   exact Le.of_eq (by simp [ei])
 ·rw [List.length_map]; exact kR
 intro k hk
 refine zC ?_
 refine cr <| s_ QR <| zC ?_
 refine ci ?_ ?_
 ·intro hlt
  have hlt' : k < rs.length := by omega
  have hp := hrs _ (List.getElem_mem hlt')
  have hla := Rh false (Xj n1 (rs.take k)) rs[k].1 rs[k].2 hp.1 hp.2.1 (hlay' k)
  have hnx := Mx n1 rs hlt'
  have hix : k < (rs.map ZZ).length := by rw [List.length_map]; exact hlt'
  have e : (rs.map ZZ)[k]'hix = ZZ rs[k] := List.getElem_map ..
  have hla' : FnP Tryz.prog 67 [nd (Xj n1 (rs.take k)), bl ((rs.map ZZ)[k]'hix)] (fun r => r = nd (Zy (Xj n1 (rs.take k)) rs[k].1 rs[k].2)) := by rw [e]; exact hla
  refine zC ?_
  apply cr
  (first | refine s_ (Xg hix) ?_ | refine s_ (Xg hix2) ?_ | refine s_ YK ?_ | refine s_ ZK ?_)
  (first | refine s_ Qn ?_ | refine s_ Ql ?_)
  refine s_ Qb <| zC ?_
  refine cr <| s_ Q7 <| s_ Qa <| s_ (QK (hla')) <| Qw ?_
  refine zC ?_
  refine zC ?_
  refine cr <| s_ Q0 <| s_ Qa <| zC ?_
  refine ⟨k + 1, by omega, (by simp only []; omega), ⟨?_, eL⟩, ?_⟩
  ·apply Qi; (exact zG)
   exact Le.refl _
  ·simp only []
   rw [hnx]; exact kR
 intro hge
 have hke : k = rs.length := by omega
 subst hke
 rw [List.take_length]
 have hwk := W2 (Xj n1 rs) (by omega)
 refine zC ?_
 refine cr <| s_ Qa ?_
 (first | refine s_ QP ?_ | refine s_ QO ?_)
 refine s_ Qa ?_
 (first | refine s_ QP ?_ | refine s_ QO ?_)
 refine s_ Q0 <| s_ X0 <| zC ?_
 refine ci ?_ ?_
 ·intro hpos
  have hne : ¬ (so = none ∧ rs = []) := by
   rintro ⟨rfl, rfl⟩
   rw [hsn] at hpos
   exact absurd hpos (by simp)
  rw [if_neg hne] at hF
  refine zC ?_
  refine cr <| s_ Q7 <| s_ (QK (hwk)) <| Qw ?_
  refine zC ?_
  refine cr <| s_ Qa <| s_ Q7 <| s_ (Zv 23 [_, _, _, _, _, _, _, _, _, _, _, _, _, _, _, _, _, _, _, _, _, _, _]) <| s_ (Zv 23 [_, _, _, _, _, _, _, _, _, _, _, _, _, _, _, _, _, _, _, _, _, _, _]) ?_
  refine XN fun b56 _ => ?_
  refine s_ Qb <| s_ Qb <| zC ?_
  refine zR ?_
  refine rh (.keep _ _ _ _ _ (X9.refl _) (.skip _ _ _ kR)) ⟨b56, bj, rfl, ?_⟩ (Le.refl _)
  rw [hF]
  rfl
 ·intro hpos
  have hnone : so = none ∧ rs = [] := by
   constructor
   ·cases so with
    | none => rfl
    | some m =>
     have hsn' : sn = Qp m 0 := hsn
     have := Ma m 0
     exact absurd (by rw [hsn']; simp only [List.length_map]; omega) hpos
   ·have : rs.length = 0 := by simp only [List.length_map] at hpos; omega
    exact List.length_eq_zero_iff.1 this
  rw [if_pos hnone] at hF
  have hn10 : Xj n1 rs = n0 := by
   rw [hnone.2]
   rw [hnone.1] at hn1
   exact hn1
  rw [hn10]
  refine zC ?_
  refine cr <| s_ Qa <| s_ Q7 <| s_ (Zv 23 [_, _, _, _, _, _, _, _, _, _, _, _, _, _, _, _, _, _, _, _, _, _, _]) <| s_ (Zv 23 [_, _, _, _, _, _, _, _, _, _, _, _, _, _, _, _, _, _, _, _, _, _, _]) ?_
  refine XN fun b56 _ => ?_
  refine s_ Qb <| s_ Qb <| zC ?_
  refine zR ?_
  refine rh (.keep _ _ _ _ _ (X9.refl _) (.skip _ _ _ kR)) ⟨b56, bj, rfl, ?_⟩ (Le.refl _)
  rw [hF]
  rfl
end Go.Proofs.YtjbokbikkcfjjaaGreat
namespace Go.Proofs.YtjbokbikkcfjjaaGreat
open Go.Cap
def n1F (n0 : Nd) (so : Option Nd) : Nd := match so with | none => n0 | some m => Zy n0 m 0
structure Je (n0 : Nd) (R : Nat) (d : Dk) (so : Option Nd) (rs : List (Nd × Nat)) (tl : List UInt8) (N : Nd) : Prop where
 snap : d.snap = L1 (so.map (Qp · 0))
 log : d.log = (rs.map ZZ).flatMap Qs ++ tl
 stop : DW tl
 len : rs.length ≤ 16
 szs : ∀ m, so = some m → Sz m ∧ (Qp m 0).length ≤ R
 szr : ∀ p ∈ rs, Sz p.1 ∧ p.2 ≤ p.1.log.length ∧ (ZZ p).length ≤ R + 80
 lay : ∀ k, (Xj (n1F n0 so) (rs.take k)).log.length ≤ 10000
 same : Q2 N = Q2 (Xj (n1F n0 so) rs)
theorem Jj : DW [] := .inl (by simp)
theorem M9 {x : List UInt8} (hx : x.length ≤ 4194304) {k : Nat} (hk : k < (Qs x).length) : DW ((Qs x).take k) := by
 have hl := Xy x
 by_cases h8 : k < 8
 ·exact .inl (by rw [List.length_take]; omega)
 ·refine .inr (.inr ?_)
  have hn : UB ((Qs x).take k) = x.length := by
   have e : (Qs x).take k = Ul x.length ++ ((Ul (MT x) ++ x).take (k - 4)) := by
    unfold Qs
    rw [List.take_append, ZL, List.take_of_length_le (by rw [ZL]; omega)]
   rw [e]
   exact Vx (by omega) (by omega) _
  rw [hn, List.length_take]
  omega
structure U6 (n0 : Nd) (R : Nat) (K : Kp) : Prop where
 cont : ∃ so rs, Je n0 R K.d so rs [] K.N ∧ K.n = rs.length
 sync : K.d.synced = K.d.log.length
 dead : K.d.dead = false
 dk : DkR K.d
 id : K.N.id = n0.id
 sz : Sz K.N
 rec_ : (Qp K.N 0).length ≤ R
structure CA (n0 : Nd) (R : Nat) (d : Dk) (N t : Nd) : Prop where
 dead : d.dead = true
 dk : DkR d
 s0 : 0 ≤ d.synced
 s1 : d.synced ≤ d.log.length
 cont : ∀ pick, ∃ so rs tl, Je n0 R (LP d pick) so rs tl N ∨ Je n0 R (LP d pick) so rs tl t
theorem Jl {d : Dk} (hd : d.dead = false) (h0 : 0 ≤ d.left) : (∃ l, QT d = ({ d with left := l }, true) ∧ 0 ≤ l ∧ l ≤ d.left) ∨ (QT d = ({ d with left := 0, dead := true }, false) ∧ d.left = 1) := by
 unfold QT
 by_cases h : 0 < d.left
 ·rw [if_pos h]
  by_cases h1 : d.left - 1 = 0
  ·refine .inr ⟨?_, by omega⟩
   simp [h1]
  ·refine .inl ⟨d.left - 1, ?_, by omega, by omega⟩
   simp [h1, hd]
 ·rw [if_neg h]
  refine .inl ⟨d.left, ?_, h0, Int.le_refl _⟩
  show (d, !d.dead) = (d, true)
  rw [hd]
  rfl
theorem VE {d : Dk} (n : Int) (x : List UInt8) (hd : d.dead = false) (h0 : 0 ≤ d.left) :
  (XL n d x = (n, d, 19) ∧ d.room - d.log.length - d.snap.length < (Qs x).length) ∨
  (∃ l, XL n d x = (n + 1, { d with left := l, log := d.log ++ Qs x, synced := (d.log ++ Qs x).length }, 0) ∧ 0 ≤ l ∧ l ≤ d.left) ∨
  (XL n d x = (n, { d with left := 0, dead := true, log := d.log ++ Qs x }, 20) ∧ 0 < d.left) := by
 unfold XL JY
 rw [hd]
 simp only [Bool.false_eq_true, if_false]
 by_cases hf : d.room - d.log.length - d.snap.length < (Qs x).length
 ·rw [if_pos hf]
  exact .inl ⟨rfl, hf⟩
 ·rw [if_neg hf]
  rcases Jl hd h0 with ⟨l, hs, h1, h2⟩ | ⟨hs, h1⟩
  ·rw [hs]
   simp only [if_true]
   rcases Jl (d := { d with left := l, log := d.log ++ Qs x }) hd h1 with ⟨l', hs', h1', h2'⟩ | ⟨hs', h1'⟩
   ·refine .inr (.inl ⟨l', ?_, h1', by simp only at h2'; omega⟩)
    unfold Z8
    simp only [hd, Bool.false_eq_true, if_false]
    rw [hd] at hs'
    rw [hs']
    simp
   ·refine .inr (.inr ⟨?_, by simp only at h1'; omega⟩)
    unfold Z8
    simp only [hd, Bool.false_eq_true, if_false]
    rw [hd] at hs'
    rw [hs']
    simp
  ·rw [hs]
   refine .inr (.inr ⟨?_, by omega⟩)
   simp
theorem MA {d : Dk} (n : Int) (x : List UInt8) (hd : d.dead = false) (h0 : 0 ≤ d.left) :
  (Xk n d x = (n, d, 19) ∧ d.room < (Qs x).length) ∨
  (∃ l, Xk n d x = (0, { d with left := l, snap := Qs x, log := [], synced := 0 }, 0) ∧ 0 ≤ l ∧ l ≤ d.left ∧ (Qs x).length ≤ d.room) ∨
  (Xk n d x = (n, { d with left := 0, dead := true, snap := Qs x, log := [], synced := 0 }, 20) ∧ 0 < d.left ∧ (Qs x).length ≤ d.room) ∨
  (Xk n d x = (n, { d with left := 0, dead := true }, 20) ∧ 0 < d.left) := by
 unfold Xk ZD
 rw [hd]
 simp only [Bool.false_eq_true, if_false]
 by_cases hf : d.room < (Qs x).length
 ·rw [if_pos hf]
  exact .inl ⟨rfl, hf⟩
 ·rw [if_neg hf]
  rcases Jl hd h0 with ⟨l, hs, h1, h2⟩ | ⟨hs, h1⟩
  ·rw [hs]
   refine .inr (.inl ⟨l, ?_, h1, h2, by omega⟩)
   simp
   exact hd
  ·rw [hs]
   by_cases ho : d.odd = 0
   ·refine .inr (.inr (.inl ⟨?_, by omega, by omega⟩))
    simp [ho]
   ·refine .inr (.inr (.inr ⟨?_, by omega⟩))
    simp [ho]
theorem GE (n : Nd) (rs : List (Nd × Nat)) : (Xj n rs).id = n.id := by
 induction rs generalizing n with
 | nil => rfl
 | cons p rs ih => exact ih (Zy n p.1 p.2)
theorem Bn (n0 : Nd) (so : Option Nd) : (n1F n0 so).id = n0.id := by cases so <;> rfl
theorem UW (n : Nd) (rs : List (Nd × Nat)) (p : Nd × Nat) : Xj n (rs ++ [p]) = Zy (Xj n rs) p.1 p.2 := by
 unfold Xj
 rw [List.foldl_append]
 rfl
theorem Mn : ∀ (a b : List En), a.take (pfx a b) = b.take (pfx a b)
 | [], b => by simp [pfx]
 | _ :: _, [] => by simp [pfx]
 | x :: xs, y :: ys => by
  unfold pfx
  split
  ·rename_i h
   rw [List.take_succ_cons, List.take_succ_cons, Mn xs ys, h]
  ·simp
theorem DT (a b : Nd) : a.log.take (Qm a b) ++ b.log.drop (Qm a b) = b.log := by
 have h : a.log.take (Qm a b) = b.log.take (Qm a b) := by
  unfold Qm
  split
  ·exact Mn _ _
  ·simp
 rw [h, List.take_append_drop]
theorem Ig (a b : Nd) : Qm a b ≤ b.log.length := by
 unfold Qm
 split
 ·exact (Lo _ _).2
 ·omega
theorem LV {a b : Nd} (h : Q2 a = Q2 b) : a.log = b.log ∧ a.base = b.base ∧ a.id = b.id := by
 unfold Q2 at h
 simp only [Nd.mk.injEq] at h
 exact ⟨h.2.2.2.2.2.2.2.1, h.2.2.2.1, h.1⟩
theorem Ol {L N t : Nd} (h : Q2 N = Q2 L) (hid : L.id = t.id) : Q2 t = Q2 (Zy L t (Qm N t)) := by
 obtain ⟨h1, h2, h3⟩ := LV h
 have hl := DT N t
 rw [h1] at hl
 unfold Q2 Zy
 rw [hl, hid]
theorem Je.next {n0 : Nd} {R : Nat} {d d' : Dk} {so : Option Nd} {rs : List (Nd × Nat)} {N t : Nd} (h : Je n0 R d so rs [] N) (hl : rs.length < 16) (hid : t.id = n0.id) (hsz : Sz t) (hr : (Qp t 0).length ≤ R)
  (hs : d'.snap = d.snap) (hlog : d'.log = d.log ++ Qs (Qp t (Qm N t))) : Je n0 R d' so (rs ++ [(t, Qm N t)]) [] t := by
 have hL : (Xj (n1F n0 so) rs).id = t.id := by rw [GE, Bn, hid]
 have hw := Ol h.same hL
 have hlg := (LV hw).1
 refine ⟨hs.trans h.snap, ?_, Jj, by simp; omega, h.szs, ?_, ?_, ?_⟩
 ·rw [hlog, h.log]
  simp [ZZ]
 ·intro p hp
  rcases List.mem_append.1 hp with hp | hp
  ·exact h.szr p hp
  ·rw [List.mem_singleton.1 hp]
   exact ⟨hsz, Ig _ _, by have := J8 t (Qm N t); show (Qp t (Qm N t)).length ≤ _; omega⟩
 ·intro k
  by_cases hk : k ≤ rs.length
  ·rw [List.take_append_of_le_length hk]
   exact h.lay k
  ·rw [List.take_of_length_le (by simp; omega), UW]
   show (Zy (Xj (n1F n0 so) rs) t (Qm N t)).log.length ≤ 10000
   rw [← hlg]
   exact hsz.len
 ·rw [UW]
  exact hw
theorem Je.torn {n0 : Nd} {R : Nat} {d d' : Dk} {so : Option Nd} {rs : List (Nd × Nat)} {N : Nd} {tl : List UInt8} (h : Je n0 R d so rs [] N) (hst : DW tl) (hs : d'.snap = d.snap) (hlog : d'.log = d.log ++ tl) : Je n0 R d' so rs tl N :=
 ⟨hs.trans h.snap, by rw [hlog, h.log, List.append_nil], hst, h.len, h.szs, h.szr, h.lay, h.same⟩
theorem Je.snapped {n0 : Nd} {R : Nat} {d' : Dk} {N : Nd} (hid : N.id = n0.id) (hsz : Sz N) (hr : (Qp N 0).length ≤ R) (hs : d'.snap = Qs (Qp N 0)) (hlog : d'.log = []) : Je n0 R d' (some N) [] [] N := by
 refine ⟨hs, hlog, Jj, by simp, ?_, by simp, ?_, ?_⟩
 ·intro m hm
  cases hm
  exact ⟨hsz, hr⟩
 ·intro k
  rw [List.take_nil]
  exact hsz.len
 ·show Q2 N = Q2 (Zy n0 N 0)
  unfold Q2 Zy
  rw [hid]
  simp
theorem MF {n0 : Nd} {R : Nat} {d d2 : Dk} {so : Option Nd} {rs : List (Nd × Nat)} {N t : Nd} (h : Je n0 R d so rs [] N) (hl : rs.length < 16) (hid : t.id = n0.id) (hsz : Sz t) (hr : (Qp t 0).length ≤ R) (hR : R ≤ 4000000)
  (hdk : DkR d2) (hdead : d2.dead = true) (hs : d2.snap = d.snap) (hlog : d2.log = d.log ++ Qs (Qp t (Qm N t))) (hsy : d2.synced = d.log.length) : CA n0 R d2 N t := by
 have hx : (Qp t (Qm N t)).length ≤ 4194304 := by have := J8 t (Qm N t); omega
 have h0 : 0 ≤ d2.synced := by omega
 have h1 : d2.synced ≤ d2.log.length := by rw [hsy, hlog, List.length_append]; omega
 refine ⟨hdead, hdk, h0, h1, fun pick => ?_⟩
 have hk := UM d2 pick h0 h1
 obtain ⟨k, hkk⟩ : ∃ k : Nat, J3 d2 pick = k := ⟨(J3 d2 pick).toNat, by omega⟩
 have hcl : (LP d2 pick).log = d.log ++ (Qs (Qp t (Qm N t))).take k := by
  show d2.log.take (d2.synced + J3 d2 pick).toNat = _
  rw [hkk, hsy, show ((d.log.length : Int) + (k : Int)).toNat = d.log.length + k by omega, hlog, List.take_append, List.take_of_length_le (by omega), show d.log.length + k - d.log.length = k by omega]
 by_cases hfull : k < (Qs (Qp t (Qm N t))).length
 ·exact ⟨so, rs, _, .inl (h.torn (M9 hx hfull) hs hcl)⟩
 ·rw [List.take_of_length_le (by omega)] at hcl
  exact ⟨so, _, [], .inr (h.next hl hid hsz hr hs hcl)⟩
theorem VI {n0 : Nd} {R : Nat} {d d2 : Dk} {so : Option Nd} {rs : List (Nd × Nat)} {N t : Nd} (h : Je n0 R d so rs [] N) (hdk : DkR d2) (hdead : d2.dead = true) (hs : d2.snap = d.snap) (hlog : d2.log = d.log) (hsy : d2.synced = d2.log.length) : CA n0 R d2 N t := by
 have h0 : 0 ≤ d2.synced := by omega
 refine ⟨hdead, hdk, h0, by omega, fun pick => ?_⟩
 have hk := UM d2 pick h0 (by omega)
 have hcl : (LP d2 pick).log = d.log ++ [] := by
  show d2.log.take (d2.synced + J3 d2 pick).toNat = _
  rw [List.take_of_length_le (by omega), hlog, List.append_nil]
 exact ⟨so, rs, [], .inl (h.torn Jj hs hcl)⟩
inductive M3 (n0 : Nd) (R : Nat) (K : Kp) (t : Nd) : Kp × Int → Prop
 | ok (n' : Int) (d' : Dk) (hc : ∃ so rs, Je n0 R d' so rs [] t ∧ n' = rs.length) (hs : d'.synced = d'.log.length) (hd : d'.dead = false) (hk : DkR d') (hl : d'.left ≤ K.d.left) (hr : d'.room = K.d.room) : M3 n0 R K t (⟨n', K.N, d'⟩, 0)
 | full (n' : Int) (d' : Dk) (h : U6 n0 R ⟨n', K.N, d'⟩) (hl : d'.left ≤ K.d.left) (hr : d'.room = K.d.room) (hf : K.d.room < 2 * R + 200) : M3 n0 R K t (⟨n', K.N, d'⟩, 19)
 | dead (n' : Int) (d' : Dk) (hl : 0 < K.d.left) (h : CA n0 R d' K.N t) (hr : d'.room = K.d.room) : M3 n0 R K t (⟨n', K.N, d'⟩, 20)
def Jg (n : Int) (N : Nd) (d : Dk) (x : List UInt8) : Kp × Int :=
 let s := Xk n d (Qp N 0)
 if ¬ s.2.2 = 0 then (⟨s.1, N, s.2.1⟩, s.2.2) else
 let b := XL s.1 s.2.1 x
 (⟨b.1, N, b.2.1⟩, b.2.2)
theorem EQ {n0 : Nd} {R : Nat} {n : Int} {N t : Nd} {d : Dk} (h : U6 n0 R ⟨n, N, d⟩) (hid : t.id = n0.id) (hsz : Sz t) (hr : (Qp t 0).length ≤ R) (hR : R ≤ 4000000) : M3 n0 R ⟨n, N, d⟩ t (Jg n N d (Qp t (Qm N t))) := by
 have h0 := h
 obtain ⟨⟨so, rs, hc, hn⟩, hsy, hdead, hdk, hNid, hNsz, hNr⟩ := h
 simp only at hc hn hsy hdead hdk hNid hNsz hNr
 have hx : (Qp t (Qm N t)).length ≤ R + 80 := by have := J8 t (Qm N t); omega
 have hfl := Xy (Qp t (Qm N t))
 have hfs := Xy (Qp N 0)
 have hjs := hdk.jsnap (n := n) (Qp N 0)
 rcases MA n (Qp N 0) hdead hdk.l0 with ⟨hj, hf⟩ | ⟨l, hj, h1, h2, h3⟩ | ⟨hj, h1, h3⟩ | ⟨hj, h1⟩
 ·have hw : Jg n N d (Qp t (Qm N t)) = (⟨n, N, d⟩, 19) := by unfold Jg; rw [hj]; rfl
  rw [hw]
  exact .full _ _ h0 (Int.le_refl _) rfl (by simp only; omega)
 ·rw [hj] at hjs
  simp only at hjs
  have hc2 : Je n0 R { d with left := l, snap := Qs (Qp N 0), log := [], synced := 0 } (some N) [] [] N := Je.snapped hNid hNsz hNr rfl rfl
  have hja := hjs.jadd (n := 0) (Qp t (Qm N t))
  rcases VE (d := { d with left := l, snap := Qs (Qp N 0), log := [], synced := 0 }) 0 (Qp t (Qm N t)) hdead h1 with ⟨hj2, hf2⟩ | ⟨l2, hj2, h4, h5⟩ | ⟨hj2, h4⟩
  ·have hw : Jg n N d (Qp t (Qm N t)) = (⟨0, N, { d with left := l, snap := Qs (Qp N 0), log := [], synced := 0 }⟩, 19) := by
    unfold Jg; rw [hj]; simp only; rw [hj2]; rfl
   rw [hw]
   exact .full _ _ ⟨⟨some N, [], hc2, rfl⟩, rfl, hdead, hjs, hNid, hNsz, hNr⟩ h2 rfl (by simp only [List.length_nil] at hf2 ⊢; omega)
  ·have hw : Jg n N d (Qp t (Qm N t)) = (⟨1, N, { d with left := l2, snap := Qs (Qp N 0), log := [] ++ Qs (Qp t (Qm N t)), synced := ([] ++ Qs (Qp t (Qm N t)) : List UInt8).length }⟩, 0) := by
    unfold Jg; rw [hj]; simp only; rw [hj2]; rfl
   rw [hw]
   rw [hj2] at hja
   exact .ok _ _ ⟨some N, _, hc2.next (by simp) hid hsz hr rfl rfl, rfl⟩ rfl hdead hja (by simp only at h5 ⊢; omega) rfl
  ·have hw : Jg n N d (Qp t (Qm N t)) = (⟨0, N, { d with left := 0, dead := true, snap := Qs (Qp N 0), log := [] ++ Qs (Qp t (Qm N t)), synced := 0 }⟩, 20) := by
    unfold Jg; rw [hj]; simp only; rw [hj2]; rfl
   rw [hw]
   rw [hj2] at hja
   exact .dead _ _ (by simp only at h4 ⊢; omega) (MF hc2 (by simp) hid hsz hr hR hja rfl rfl rfl rfl) rfl
 ·rw [hj] at hjs
  have hw : Jg n N d (Qp t (Qm N t)) = (⟨n, N, { d with left := 0, dead := true, snap := Qs (Qp N 0), log := [], synced := 0 }⟩, 20) := by unfold Jg; rw [hj]; rfl
  rw [hw]
  have hc2 : Je n0 R { d with left := 0, dead := true, snap := Qs (Qp N 0), log := [], synced := 0 } (some N) [] [] N := Je.snapped hNid hNsz hNr rfl rfl
  exact .dead _ _ h1 (VI hc2 hjs rfl rfl rfl rfl) rfl
 ·rw [hj] at hjs
  have hw : Jg n N d (Qp t (Qm N t)) = (⟨n, N, { d with left := 0, dead := true }⟩, 20) := by unfold Jg; rw [hj]; rfl
  rw [hw]
  exact .dead _ _ h1 (VI hc hjs rfl rfl rfl hsy) rfl
theorem LU {n0 : Nd} {R : Nat} {n : Int} {N t : Nd} {d : Dk} (h : U6 n0 R ⟨n, N, d⟩) (hid : t.id = n0.id) (hsz : Sz t) (hr : (Qp t 0).length ≤ R) (hR : R ≤ 4000000) : M3 n0 R ⟨n, N, d⟩ t (Xc ⟨n, N, d⟩ (Qp t (Qm N t))) := by
 have h0 := h
 have h2 := EQ h hid hsz hr hR
 obtain ⟨⟨so, rs, hc, hn⟩, hsy, hdead, hdk, hNid, hNsz, hNr⟩ := h
 simp only at hc hn hsy hdead hdk hNid hNsz hNr
 have hx : (Qp t (Qm N t)).length ≤ R + 80 := by have := J8 t (Qm N t); omega
 have hfl := Xy (Qp t (Qm N t))
 have hja := hdk.jadd (n := n) (Qp t (Qm N t))
 have hrs := hc.len
 by_cases hlt : n < 16
 ·rcases VE n (Qp t (Qm N t)) hdead hdk.l0 with ⟨hj, hf⟩ | ⟨l, hj, h4, h5⟩ | ⟨hj, h4⟩
  ·by_cases hn0 : n = 0
   ·have hw : Xc ⟨n, N, d⟩ (Qp t (Qm N t)) = (⟨n, N, d⟩, 19) := by
     unfold Xc ZT
     simp only
     rw [if_pos hlt, hj]
     simp only
     rw [if_pos (.inr hn0)]
    rw [hw]
    refine .full _ _ h0 (Int.le_refl _) rfl ?_
    have hrs0 : rs = [] := List.length_eq_zero_iff.1 (by omega)
    have hlog : d.log = [] := by rw [hc.log, hrs0]; rfl
    have hsnl : d.snap.length ≤ R + 8 := by
     rw [hc.snap]
     cases so with
     | none => simp [L1]
     | some m => have := (hc.szs m rfl).2; have h2 := Xy (Qp m 0); show (Qs (Qp m 0)).length ≤ _; omega
    simp only
    rw [hlog, List.length_nil] at hf
    omega
   ·have hw : Xc ⟨n, N, d⟩ (Qp t (Qm N t)) = Jg n N d (Qp t (Qm N t)) := by
     unfold Xc ZT Jg
     simp only
     rw [if_pos hlt, hj]
     simp only
     rw [if_neg (by simp [hn0])]
    rw [hw]
    exact h2
  ·have hw : Xc ⟨n, N, d⟩ (Qp t (Qm N t)) = (⟨n + 1, N, { d with left := l, log := d.log ++ Qs (Qp t (Qm N t)), synced := (d.log ++ Qs (Qp t (Qm N t))).length }⟩, 0) := by
    unfold Xc ZT
    simp only
    rw [if_pos hlt, hj]
    simp only
    rw [if_pos (.inl (by omega))]
   rw [hw]
   rw [hj] at hja
   exact .ok _ _ ⟨so, _, hc.next (by omega) hid hsz hr rfl rfl, by rw [hn, List.length_append]; rfl⟩ rfl hdead hja h5 rfl
  ·have hw : Xc ⟨n, N, d⟩ (Qp t (Qm N t)) = (⟨n, N, { d with left := 0, dead := true, log := d.log ++ Qs (Qp t (Qm N t)) }⟩, 20) := by
    unfold Xc ZT
    simp only
    rw [if_pos hlt, hj]
    simp only
    rw [if_pos (.inl (by omega))]
   rw [hw]
   rw [hj] at hja
   exact .dead _ _ h4 (MF hc (by omega) hid hsz hr hR hja rfl rfl rfl hsy) rfl
 ·have hw : Xc ⟨n, N, d⟩ (Qp t (Qm N t)) = Jg n N d (Qp t (Qm N t)) := by
   unfold Xc ZT Jg
   simp only
   rw [if_neg hlt]
   simp only
   have hn0 : ¬ n = 0 := by omega
   rw [if_neg (by simp [hn0])]
  rw [hw]
  exact h2
inductive Cz (n0 : Nd) (R : Nat) (K : Kp) (t : Nd) : Kp × Int → Prop
 | ok (K' : Kp) (h : U6 n0 R K') (hN : K'.N = t) (hl : K'.d.left ≤ K.d.left) (hr : K'.d.room = K.d.room) : Cz n0 R K t (K', 0)
 | full (K' : Kp) (h : U6 n0 R K') (hN : K'.N = K.N) (hl : K'.d.left ≤ K.d.left) (hr : K'.d.room = K.d.room) (hf : K.d.room < 2 * R + 200) : Cz n0 R K t (K', 19)
 | dead (K' : Kp) (hN : K'.N = K.N) (hl : 0 < K.d.left) (h : CA n0 R K'.d K.N t) (hr : K'.d.room = K.d.room) : Cz n0 R K t (K', 20)
theorem Dx {n0 : Nd} {R : Nat} {K : Kp} {t : Nd} (h : U6 n0 R K) (hid : t.id = n0.id) (hsz : Sz t) (hr : (Qp t 0).length ≤ R) (hR : R ≤ 4000000) : Cz n0 R K t (QA K t 0) := by
 obtain ⟨n, N, d⟩ := K
 have hwr := LU h hid hsz hr hR
 obtain ⟨⟨so, rs, hc, hn⟩, hsy, hdead, hdk, hNid, hNsz, hNr⟩ := h
 simp only at hc hn hsy hdead hdk hNid hNsz hNr
 unfold QA
 rw [if_neg (by simp)]
 by_cases hsame : Q2 N = Q2 t
 ·rw [if_pos hsame]
  refine .ok _ ⟨⟨so, rs, ?_, hn⟩, hsy, hdead, hdk, hid, hsz, hr⟩ rfl (Int.le_refl _) rfl
  exact ⟨hc.snap, hc.log, hc.stop, hc.len, hc.szs, hc.szr, hc.lay, hsame.symm.trans hc.same⟩
 rw [if_neg hsame]
 simp only
 generalize Xc ⟨n, N, d⟩ (Qp t (Qm N t)) = w at hwr ⊢
 cases hwr with
 | ok n' d' hc hs hd hk hl hr' =>
  rw [if_pos rfl]
  exact .ok _ ⟨hc, hs, hd, hk, hid, hsz, hr⟩ rfl hl hr'
 | full n' d' h hl hr' hf =>
  rw [if_neg (by simp)]
  exact .full _ h rfl hl hr' hf
 | dead n' d' hl h hr' =>
  rw [if_neg (by simp)]
  exact .dead _ rfl hl h hr'
theorem F5.gs (f : F5) (i j : Nat) (v : Int) : (f.set i v).get j = v ∨ (f.set i v).get j = f.get j := by
 match i with
 | 0 => match j with
  | 0 => exact .inl rfl
  | 1 | 2 | 3 | _ + 4 => exact .inr rfl
 | 1 => match j with
  | 1 => exact .inl rfl
  | 0 | 2 | 3 | _ + 4 => exact .inr rfl
 | 2 => match j with
  | 2 => exact .inl rfl
  | 0 | 1 | 3 | _ + 4 => exact .inr rfl
 | 3 => match j with
  | 3 => exact .inl rfl
  | 0 | 1 | 2 | _ + 4 => exact .inr rfl
 | _ + 4 => match j with
  | _ + 4 => exact .inl rfl
  | 0 | 1 | 2 | 3 => exact .inr rfl
theorem F5.ga (v : Int) (j : Nat) : (F5.all v).get j = v := by
 match j with
 | 0 | 1 | 2 | 3 | _ + 4 => rfl
structure Ek (e : En) (s : Nat) : Prop where
 t0 : 0 ≤ e.term
 t1 : e.term ≤ s
 c0 : 0 ≤ e.conf
 c1 : e.conf ≤ 31
 cmd : e.cmd.length ≤ 61
theorem Ek.le {e : En} {s r : Nat} (h : Ek e s) (hr : s ≤ r) : Ek e r := ⟨h.t0, by have := h.t1; omega, h.c0, h.c1, h.cmd⟩
structure Nk (n : Nd) (s : Nat) : Prop where
 id0 : 0 ≤ n.id
 id5 : n.id < 5
 base : n.base = 0
 baseTerm : n.baseTerm = 0
 conf0 : 0 ≤ n.baseConf
 conf1 : n.baseConf ≤ 31
 snap : n.snap = []
 term0 : 0 ≤ n.term
 term1 : n.term ≤ s
 vote0 : -1 ≤ n.vote
 vote1 : n.vote ≤ 5
 len : n.log.length ≤ s
 ents : ∀ e ∈ n.log, Ek e s
 com0 : 0 ≤ n.commit
 com1 : n.commit ≤ s
 wait0 : 0 ≤ n.wait
 wait1 : n.wait ≤ s
 votes0 : 0 ≤ n.votes
 votes1 : n.votes ≤ 31
 next0 : ∀ i, 0 ≤ n.next.get i
 next1 : ∀ i, n.next.get i ≤ s + 1
 mtch0 : ∀ i, 0 ≤ n.mtch.get i
 mtch1 : ∀ i, n.mtch.get i ≤ s
theorem Nk.sz {n : Nd} {s : Nat} (h : Nk n s) (hs : s ≤ 1000) : Sz n := by
 have hb := h.base
 have hbt := h.baseTerm
 have h1 := h.term0
 have h2 := h.term1
 have h3 := h.vote0
 have h4 := h.vote1
 have h5 := h.conf0
 have h6 := h.conf1
 have h7 := h.com0
 have h8 := h.com1
 have h9 := h.len
 refine ⟨⟨by omega, by omega⟩, ⟨by omega, by omega⟩, ⟨by omega, by omega⟩, ⟨by omega, by omega⟩, ⟨by omega, by omega⟩, ⟨by omega, by omega⟩, by rw [h.snap]; simp, by omega, fun e he => ?_⟩
 have hk := h.ents e he
 have e1 := hk.t0
 have e2 := hk.t1
 have e3 := hk.c0
 have e4 := hk.c1
 have e5 := hk.cmd
 exact ⟨⟨by omega, by omega⟩, ⟨by omega, by omega⟩, by omega⟩
theorem DH {e : En} {s : Nat} (h : Ek e s) : (XG e).length ≤ 101 := by
 have h1 := Xb e.term
 have h2 := Xb e.conf
 have h3 := J1 e.cmd
 have := h.cmd
 unfold XG
 simp only [List.length_append]; omega
theorem JU {s : Nat} : ∀ (l : List En), (∀ e ∈ l, Ek e s) → (l.flatMap XG).length ≤ 101 * l.length
 | [], _ => by simp
 | e :: l, h => by
  have h1 := DH (h e List.mem_cons_self)
  have h2 := JU l fun x hx => h x (List.mem_cons_of_mem _ hx)
  simp only [List.flatMap_cons, List.length_append, List.length_cons]; omega
theorem Nk.rec_ {n : Nd} {s : Nat} (h : Nk n s) : (Qp n 0).length ≤ 90 + 101 * s := by
 have h1 := YZ (Q6 n 0)
 have h2 : (Q6 n 0).length = 8 := rfl
 have h3 := JU n.log h.ents
 have h4 := h.len
 have h5 : (Y5 n.snap).length ≤ 10 := by rw [h.snap, Y5, if_pos rfl]; exact (Xb 0).2
 unfold Qp
 simp only [List.length_append, List.drop_zero]
 omega
theorem Nk.le {n : Nd} {s r : Nat} (h : Nk n s) (hr : s ≤ r) : Nk n r :=
 ⟨h.id0, h.id5, h.base, h.baseTerm, h.conf0, h.conf1, h.snap, h.term0, by have := h.term1; omega, h.vote0, h.vote1, by have := h.len; omega, fun e he => (h.ents e he).le hr, h.com0, by have := h.com1; omega, h.wait0, by have := h.wait1; omega, h.votes0, h.votes1,
  h.next0, fun i => by have := h.next1 i; omega, h.mtch0, fun i => by have := h.mtch1 i; omega⟩
theorem Bj {id conf : Int} (h0 : 0 ≤ id) (h1 : id < 5) (h2 : 0 ≤ conf) (h3 : conf ≤ 31) : Nk (XC id conf) 0 :=
 ⟨h0, h1, rfl, rfl, h2, h3, rfl, by simp [XC], by simp [XC], by simp [XC], by simp [XC], by simp [XC], by simp [XC], by simp [XC], by simp [XC], by simp [XC], by simp [XC], by simp [XC], by simp [XC],
  fun i => by show 0 ≤ (F5.all 0).get i; rw [F5.ga]; omega, fun i => by show (F5.all 0).get i ≤ _; rw [F5.ga]; omega, fun i => by show 0 ≤ (F5.all 0).get i; rw [F5.ga]; omega, fun i => by show (F5.all 0).get i ≤ _; rw [F5.ga]; omega⟩
theorem LQ (n : Nd) (conf : Int) (hb : n.base = 0) : ∀ k, n.commit ≤ Yr n conf k ∧ Yr n conf k ≤ max n.commit k
 | 0 => by unfold Yr; omega
 | k + 1 => by
  have := LQ n conf hb k
  unfold Yr
  split <;> omega
theorem Nk.commit {n : Nd} {s : Nat} (h : Nk n s) : Nk (Q4 n) s := by
 have hc := LQ n (QM n).2 h.base n.log.length
 have h0 := h.com0
 have h1 := h.com1
 have hl := h.len
 unfold Q4
 split
 ·exact ⟨h.id0, h.id5, h.base, h.baseTerm, h.conf0, h.conf1, h.snap, h.term0, h.term1, h.vote0, h.vote1, h.len, h.ents, by show 0 ≤ Yr n _ _; omega, by show Yr n _ _ ≤ _; omega, Int.le_refl _, by show (0 : Int) ≤ _; omega, h.votes0, h.votes1, h.next0, h.next1, h.mtch0, h.mtch1⟩
 ·exact ⟨h.id0, h.id5, h.base, h.baseTerm, h.conf0, h.conf1, h.snap, h.term0, h.term1, h.vote0, h.vote1, h.len, h.ents, by show 0 ≤ Yr n _ _; omega, by show Yr n _ _ ≤ _; omega, h.wait0, h.wait1, h.votes0, h.votes1, h.next0, h.next1, h.mtch0, h.mtch1⟩
theorem Nk.push {n : Nd} {s : Nat} (h : Nk n s) (e : En) (he : Ek e (s + 1)) : ∀ x ∈ n.log ++ [e], Ek x (s + 1) := by
 intro x hx
 rcases List.mem_append.1 hx with hx | hx
 ·exact (h.ents x hx).le (by omega)
 ·rw [List.mem_singleton.1 hx]; exact he
theorem C5 {i : Int} (h0 : 0 ≤ i) (h5 : i < 5) : 0 ≤ (2 : Int) ^ i.toNat ∧ (2 : Int) ^ i.toNat ≤ 31 := by
 rcases five h0 h5 with rfl | rfl | rfl | rfl | rfl <;> decide
theorem Nk.put {n : Nd} {s : Nat} (h : Nk n s) (e : En) (hc0 : 0 ≤ e.conf) (hc1 : e.conf ≤ 31) (hcm : e.cmd.length ≤ 61) : Nk (Ga n e) (s + 1) := by
 have hb := h.base
 have hl := h.len
 have ht0 := h.term0
 have ht1 := h.term1
 have g := h.le (r := s + 1) (by omega)
 refine Nk.commit ⟨g.id0, g.id5, g.base, g.baseTerm, g.conf0, g.conf1, g.snap, g.term0, g.term1, g.vote0, g.vote1, ?_, ?_, g.com0, g.com1, g.wait0, g.wait1, g.votes0, g.votes1, g.next0, g.next1, ?_, ?_⟩
 ·show (n.log ++ [_]).length ≤ _; simp; omega
 ·exact h.push _ ⟨ht0, by simp only; omega, hc0, hc1, hcm⟩
 ·intro i; show 0 ≤ (n.mtch.set n.id.toNat (n.base + (n.log.length + 1))).get i
  rcases F5.gs n.mtch n.id.toNat i (n.base + (n.log.length + 1)) with e | e <;> rw [e]
  ·omega
  ·exact h.mtch0 i
 ·intro i; show (n.mtch.set n.id.toNat (n.base + (n.log.length + 1))).get i ≤ _
  rcases F5.gs n.mtch n.id.toNat i (n.base + (n.log.length + 1)) with e | e <;> rw [e]
  ·omega
  ·exact g.mtch1 i
end Go.Proofs.YtjbokbikkcfjjaaGreat
