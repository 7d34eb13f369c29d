/-
  journal.Open.
-/
import Derived.Test.YtjbokbikkcfjjaaGreatAar
set_option maxRecDepth 16000
set_option maxHeartbeats 8000000
set_option linter.all false
namespace Go.Proofs.YtjbokbikkcfjjaaGreat
open Go.Cap
attribute [local irreducible] WZ Z9
def MP : Option (List UInt8) → List UInt8
 | none => []
 | some s => Qt s
def ZN (d : Dk) (l : List (List UInt8)) (tl : List UInt8) : Dk := if tl = [] then d else { d with log := l.flatMap Qt, synced := (l.flatMap Qt).length }
theorem Il {H : Qc} {b5 : Nat} (v2 v3 v4 : Value) (hm : (b5, (⟨25, [ei 0], 1⟩ : Blk)) ∈ H) : DfH Tryz.prog 91 #[.pointer (some ⟨b5, 0, none⟩), v2, v3, v4] H (fun H' => H' = H) := by
 refine LF Tryz.func91 (vs := [.pointer (some ⟨b5, 0, none⟩), v2, v3, v4]) (by rfl) (by rfl) (by rfl) ?_
 intro S0 w0
 show Sim _ _ [(0, pW b5), (1, .v v2), (2, .v v3), (3, .v v4)] H _
 refine zC ?_
 refine cr <| s_ (Ql (hi := hm)) <| s_ Yq <| zC ?_
 refine ci ?_ ?_
 ·intro h; exact absurd rfl h
 intro _
 refine zC ?_
 exact ⟨.inl rfl, _, kR, rfl⟩
theorem RP {d : Dk} (hdead : d.dead = false) (hleft : d.left = 0) : Q1 d = (d, true) := by
 unfold Q1
 rw [if_neg (by omega), hdead]
 rfl
theorem Ch {d : Dk} {l : List (List UInt8)} {tl : List UInt8} (hdead : d.dead = false) (hleft : d.left = 0) (hlog : d.log = l.flatMap Qt ++ tl) (htl : tl ≠ []) : WY d ((l.flatMap Qt).length : Nat) = (ZN d l tl, 0) := by
 have ht : d.log.take (((l.flatMap Qt).length : Nat) : Int).toNat = l.flatMap Qt := by rw [hlog, Int.toNat_natCast, List.take_left' rfl]
 have hle : (l.flatMap Qt).length ≤ d.log.length := by rw [hlog, List.length_append]; omega
 unfold WY ZN
 rw [RP hdead hleft, hdead, ht, if_neg (by simp), if_neg (by omega), if_neg htl, if_pos (.inl rfl), if_pos rfl]
 simp [hdead]
theorem Ik (bd : Nat) (d : Dk) (so : Option (List UInt8)) (l : List (List UInt8)) (tl : List UInt8) (hd : Um d) (hdead : d.dead = false) (hleft : d.left = 0) (hso : d.snap = MP so) (hsl : ∀ s, so = some s → s.length ≤ 4194304) (hlog : d.log = l.flatMap Qt ++ tl) (hst : E0 tl) (hl : ∀ x ∈ l, x.length ≤ 4194304) :
  FnH Tryz.prog 65 [pW bd] (DkH bd d) (fun r H => ∃ bj, r = .tup [pW bj, bl (so.getD []), tBl l, ei 0] ∧ H = JrH bj bd l.length (ZN d l tl)) := by
 have hu := hd.used
 have hde := GS bd d
 rw [hdead] at hde
 have hsn := Ce bd d hd
 have hlg := BH bd d hd
 have hsc := CP l tl hst hl (by rw [← hlog]; omega)
 rw [← hlog] at hsc
 have hct := AS bd d ((l.flatMap Qt).length : Nat) hd
 refine JW Tryz.func65 (by rfl) (by rfl) ?_
 intro S0 w0 hw0
 show WZ _ _ _ [(0, pW bd)] (DkH bd d) _
 refine JC ?_
 refine zC ?_
 apply cr
 refine Yd fun b2 _ => ?_
 refine Yd fun b3 _ => ?_
 refine Yd fun b4 _ => ?_
 refine Yd fun b5 _ => ?_
 refine zC ?_
 refine ⟨rfl, ?_⟩
 refine JC ?_
 refine zC ?_
 refine cr <| s_ Qa <| s_ Qe <| s_ Qd ?_
 refine Q2 (Hr := [_, _, _, _]) hde (List.perm_append_comm (l₁ := [_, _, _, _])) (fun r H' ⟨hr1, hr2⟩ => ?_)
 subst hr1 hr2
 refine zC ?_
 refine ci (p := False) (fun h => h.elim) (fun _ => ?_)
 refine zC ?_
 refine ⟨rfl, ?_⟩
 refine ZK ?_
 refine d_s UE ?_
 refine VC [.pointer (some ⟨b5, 0, none⟩), .pointer (some ⟨b2, 0, none⟩), .pointer (some ⟨b3, 0, none⟩), .pointer (some ⟨b4, 0, none⟩)] ?_ rfl rfl (zl)
 refine Uu hw0 ?_
 refine zC ?_
 refine cr <| s_ Qa ?_
 refine Q2 (Hr := [_, _, _, _]) hsn (.refl _) (fun r H' ⟨hr1, hr2⟩ => ?_)
 subst hr1 hr2
 refine s_ Qb <| zC ?_
 refine cr <| s_ Qa ?_
 (first | refine s_ QP ?_ | refine s_ QO ?_)
 refine s_ Yu <| zC ?_
 refine JP [(0, pW bd), (2, pW b2), (3, pW b3), (4, pW b4), (5, pW b5)] (DkH bd d ++ [(b5, ⟨25, [ei 0], 1⟩), (b4, ⟨117, [.v (.slice none 0 0)], 1⟩), (b3, ⟨34, [bl (so.getD [])], 1⟩), (b2, ⟨91, [.v (.pointer none)], 1⟩)]) ?_ ?_
 ·refine ci ?_ ?_
  ·intro hpos
   rcases so with _ | s
   ·exact absurd hpos (by rw [hso]; simp [MP])
   have h1 := AC s (hsl s rfl)
   have hso' : d.snap = Qt s := hso
   rw [hso']
   refine zC ?_
   refine cr <| s_ Qa <| s_ (QQ (h1)) <| s_ Qa <| s_ QH <| s_ QH <| Qz ?_
   refine Qz ?_
   refine zC ?_
   refine cr <| s_ Ql <| s_ Yq <| zC ?_
   refine ci ?_ ?_
   ·intro h; exact absurd rfl h
   intro _
   refine zC ?_
   exact ⟨eL, kR⟩
  ·intro hpos
   rcases so with _ | s
   ·refine zC ?_
    exact ⟨eL, kH (kK (kK (kK kR)))⟩
   ·refine absurd ?_ hpos
    have := XG s
    have hso' : d.snap = Qt s := hso
    rw [hso', List.length_map]; omega
 refine zC ?_
 refine cr <| s_ Qa ?_
 refine Q2 (Hr := [_, _, _, _]) hlg (.refl _) (fun r H' ⟨hr1, hr2⟩ => ?_)
 subst hr1 hr2
 refine s_ Qb <| zC ?_
 refine cr <| s_ Qa <| s_ (QQ (hsc)) <| s_ Qa <| s_ QH <| s_ QH <| Qz ?_
 refine s_ Qb <| zC ?_
 refine cr <| s_ Qa <| s_ UE <| s_ Qb <| zC ?_
 refine cr <| s_ Qa <| s_ Qa ?_
 (first | refine s_ QP ?_ | refine s_ QO ?_)
 refine s_ QU <| zC ?_
 refine JP [(0, pW bd), (2, pW b2), (3, pW b3), (4, pW b4), (5, pW b5)] (DkH bd (ZN d l tl) ++ [(b5, ⟨25, [ei 0], 1⟩), (b4, ⟨117, [tBl l], 1⟩), (b3, ⟨34, [bl (so.getD [])], 1⟩), (b2, ⟨91, [.v (.pointer none)], 1⟩)]) ?_ ?_
 ·refine ci ?_ ?_
  ·intro hlt
   have htl : tl ≠ [] := by
    rintro rfl
    rw [hlog, List.append_nil, List.length_map] at hlt
    omega
   have hcf := Ch hdead hleft hlog htl
   rw [hcf] at hct
   refine zC ?_
   refine cr <| s_ Qa <| s_ Qa ?_
   refine Ug (fs := [pW bd]) (args := [ei ((l.flatMap Qt).length : Nat)]) (cs := []) hct (Hr := [_, _, _, _]) (.refl _) (fun r H' ⟨hr1, hr2⟩ => ?_)
   subst hr1 hr2
   refine Qz ?_
   refine zC ?_
   exact ⟨eL, kR⟩
  ·intro hge
   have htl : tl = [] := by
    rw [hlog, List.length_map, List.length_append] at hge
    exact List.length_eq_zero_iff.1 (by omega)
   have ho : ZN d l tl = d := if_pos htl
   rw [ho]
   refine zC ?_
   exact ⟨eL, kR⟩
 refine zC ?_
 refine ca [0, 1, 2, 3, 5, 6, 7, 4, 8, 9, 10, 11] [4, 8, 9, 10, 11] <| a_ (fun _ => Qa) <| QJ ?_
 (first | refine a_ (fun _ => QP) ?_ | refine a_ (fun _ => QO) ?_)
 refine a_ (fun _ => ZF 2 [_, _]) <| QJ ?_
 refine QJ ?_
 refine QJ ?_
 refine T1 fun b47 _ => ⟨zd, ?_⟩
 refine XN ?_
 refine XN ?_
 refine XN ?_
 refine XN ?_
 apply an
 refine zC ?_
 apply Yt
 refine ⟨_, Il _ _ _ (zm), ?_⟩
 rintro H1 rfl
 refine ⟨_, _, JrH b47 bd l.length (ZN d l tl), zrs, Le.refl _, ⟨b47, rfl, rfl⟩, Qh.le ?_⟩
 refine .keep _ _ _ _ _ ?_ (.keep _ _ _ _ _ (Yp.refl _) (.nil _))
 refine Cr rfl ?_ rfl rfl
 refine LeL.cons (Le.refl _) (LeL.cons (Le.of_eq ?_) LeL.nil)
 rw [List.length_map]
 rfl
end Go.Proofs.YtjbokbikkcfjjaaGreat
namespace Go.Cap
section
variable {K : Ctx} {t : Env} {H Hs Hr : Qc} {N : Env → Qc → Prop} {ops : Array Oper} {i : Nat} {tp : TypeId} {pos : String} {aft : Array Edge} {kd : Tmp} {eff : List Nat} {pend : List Xg} {al : List (Nat × Oper)}
theorem CA {f : FuncId} {xs : Array Operand} {ats : Array TypeId} {args : List T} {Φ : T → Qc → Prop} (hf : FnH K.P f args Hs Φ) (hp : H.Perm (Hs ++ Hr))
  (hn : ∀ r H', Φ r H' → XO ops ⟨some kd, .call ⟨.value (.func f), xs, ats⟩, tp, pos, aft, none⟩ (H' ++ Hr) pend ∧ ∃ pend', XI ops ⟨some kd, .call ⟨.value (.func f), xs, ats⟩, tp, pos, aft, none⟩ pend pend' ∧ Qj K ops eff N al ((kd, r) :: t) (H' ++ Hr) pend') (hc : QE K.P f = true := by rfl) (ha' : EvL t xs.toList args := by exact ze) (hd : Nat.blt kd K.n = true := by rfl) (he : QS eff i = true := by rfl) :
  Qj K ops eff N ((i, ⟨some kd, .call ⟨.value (.func f), xs, ats⟩, tp, pos, aft, none⟩) :: al) t H pend :=
 WJ (fun _ h1 => YH (Hr := Hr) hf hp hc (ha'.trans fun x hx => h1 x (by simp [Op.operands, Call.operands]; exact .inr (by simpa using hx))) (by simpa [Xo] using hd) fun r H' hr' => by
  obtain ⟨h1, p', h2, h3⟩ := hn r H' hr'
  exact ⟨_, p', rfl, h1, h2, h3⟩) he
end
end Go.Cap
namespace Go.Proofs.YtjbokbikkcfjjaaGreat
open Go.Cap
attribute [local irreducible] POp Qf TO EOp Sim FnH T.gp
structure DkR (d : Dk) : Prop where
 l0 : 0 ≤ d.left
 l1 : d.left ≤ 1000000000
 r0 : 0 ≤ d.room
 r1 : d.room ≤ 16777216
 fit : ((d.log.length + d.snap.length : Nat) : Int) ≤ d.room
theorem DkR.ok {d : Dk} (h : DkR d) : Um d := ⟨h.l0, h.l1, h.r0, h.r1, by have := h.fit; have := h.r1; omega⟩
theorem DkR.spend {d : Dk} (h : DkR d) : DkR (Q1 d).1 := by
 have h0 := h.l0
 have h1 := h.l1
 unfold Q1
 split
 ·exact ⟨by simp only; omega, by simp only; omega, h.r0, h.r1, h.fit⟩
 ·exact h
theorem W6 (d : Dk) : (Q1 d).1.log = d.log ∧ (Q1 d).1.snap = d.snap ∧ (Q1 d).1.room = d.room := by
 unfold Q1
 split <;> exact ⟨rfl, rfl, rfl⟩
theorem DkR.app {d : Dk} (h : DkR d) (x : List UInt8) : DkR (Ul d x).1 := by
 have hs := h.spend
 obtain ⟨e1, e2, e3⟩ := W6 d
 unfold Ul
 split
 ·exact h
 ·split
  ·exact h
  ·rename_i hf
   exact ⟨hs.l0, hs.l1, hs.r0, hs.r1, by simp only [e2, e3, List.length_append]; omega⟩
theorem DkR.sync {d : Dk} (h : DkR d) : DkR (Jr d).1 := by
 have hs := h.spend
 unfold Jr
 split
 ·exact h
 ·split
  ·exact ⟨hs.l0, hs.l1, hs.r0, hs.r1, hs.fit⟩
  ·exact hs
theorem DkR.swap {d : Dk} (h : DkR d) (x : List UInt8) : DkR (ZX d x).1 := by
 have hs := h.spend
 obtain ⟨e1, e2, e3⟩ := W6 d
 unfold ZX
 split
 ·exact h
 ·split
  ·exact h
  ·rename_i hf
   split
   ·exact ⟨hs.l0, hs.l1, hs.r0, hs.r1, by simp only [e3, List.length_nil]; omega⟩
   ·exact hs
theorem DkR.jadd {n : Int} {d : Dk} (h : DkR d) (x : List UInt8) : DkR (XZ n d x).2.1 := by
 unfold XZ
 simp only
 split
 ·split
  ·exact (h.app _).sync
  ·exact (h.app _).sync
 ·exact h.app _
theorem DkR.jsnap {n : Int} {d : Dk} (h : DkR d) (x : List UInt8) : DkR (Xq n d x).2.1 := by
 unfold Xq
 simp only
 split <;> exact h.swap _
theorem ID (n : Int) (d : Dk) (x : List UInt8) : (XZ n d x).1 = n ∨ (XZ n d x).1 = n + 1 := by
 unfold XZ
 simp only
 split
 ·split
  ·exact .inr rfl
  ·exact .inl rfl
 ·exact .inl rfl
theorem GA (n : Int) (d : Dk) (x : List UInt8) : (Xq n d x).1 = n ∨ (Xq n d x).1 = 0 := by
 unfold Xq
 simp only
 split
 ·exact .inr rfl
 ·exact .inl rfl
structure Kp where
 n : Int
 N : Nd
 d : Dk
def tK : TypeId := 95
def KpH (bk bj bd : Nat) (K : Kp) : Qc := (bk, ⟨tK, pW bj :: Qv K.N (.sl false (K.N.log.map een)), 23⟩) :: JrH bj bd K.n K.d
def Jc (K : Kp) (x : List UInt8) : Int × Dk × Int := if K.n < 16 then XZ K.n K.d x else (K.n, K.d, 19)
def Xj (K : Kp) (x : List UInt8) : Kp × Int :=
 let a := Jc K x
 if ¬ a.2.2 = 19 ∨ a.1 = 0 then (⟨a.1, K.N, a.2.1⟩, a.2.2) else
 let s := Xq a.1 a.2.1 (Qq K.N 0)
 if ¬ s.2.2 = 0 then (⟨s.1, K.N, s.2.1⟩, s.2.2) else
 let b := XZ s.1 s.2.1 x
 (⟨b.1, K.N, b.2.1⟩, b.2.2)
theorem Rw (bk bj bd : Nat) (K : Kp) (x : List UInt8) (hd : DkR K.d) (hN : Sz K.N) (hr : (Qq K.N 0).length ≤ 4194304) (hx : x.length ≤ 4194304) (h0 : 0 ≤ K.n) (h1 : K.n ≤ 100) :
  FnH Tryz.prog 140 [pW bk, bl x] (KpH bk bj bd K) (fun r H => r = ei (Xj K x).2 ∧ H = KpH bk bj bd (Xj K x).1) := by
 obtain ⟨n, N, d⟩ := K
 simp only at hd hN hr h0 h1
 have hc1 := DM bj bd n d
 have ha1 := GD bj bd n d x hd.ok (hd.app _).ok hx h0 (by omega)
 obtain ⟨⟨na, da, ea⟩, hwa⟩ : ∃ a, Jc ⟨n, N, d⟩ x = a := ⟨_, rfl⟩
 have hda : DkR da := by
  have : DkR (Jc ⟨n, N, d⟩ x).2.1 := by
   unfold Jc; split
   ·exact hd.jadd x
   ·exact hd
  rw [hwa] at this; exact this
 have hna : 0 ≤ na ∧ na ≤ 101 := by
  have : (Jc ⟨n, N, d⟩ x).1 = n ∨ (Jc ⟨n, N, d⟩ x).1 = n + 1 := by
   unfold Jc; split
   ·exact ID n d x
   ·exact .inl rfl
  rw [hwa] at this; simp only at this; omega
 have hc2 := DM bj bd na da
 have hby := DU N 0 hN (Nat.zero_le _)
 have hsn := IC bj bd na da (Qq N 0) hda.ok hr
 obtain ⟨⟨ns, ds, es'⟩, hws⟩ : ∃ a, Xq na da (Qq N 0) = a := ⟨_, rfl⟩
 have hds : DkR ds := by
  have := hda.jsnap (n := na) (Qq N 0)
  rw [hws] at this; exact this
 have hns : 0 ≤ ns ∧ ns ≤ 101 := by
  have := GA na da (Qq N 0)
  rw [hws] at this; simp only at this; omega
 rw [hws] at hsn
 simp only at hsn
 have ha2 := GD bj bd ns ds x hds.ok (hds.app _).ok hx hns.1 (by omega)
 have hA : Xj ⟨n, N, d⟩ x = if ¬ ea = 19 ∨ na = 0 then (⟨na, N, da⟩, ea) else if ¬ es' = 0 then (⟨ns, N, ds⟩, es') else (⟨(XZ ns ds x).1, N, (XZ ns ds x).2.1⟩, (XZ ns ds x).2.2) := by
  unfold Xj
  rw [hwa]
  simp only
  rw [hws]
 rw [hA]
 refine fe Tryz.func140 fun S0 w0 => ?_
 show Sim _ _ [(0, pW bk), (1, bl x)] ((bk, ⟨tK, pW bj :: Qv N (.sl false (N.log.map een)), 23⟩) :: JrH bj bd n d) _
 refine zC ?_
 refine cr <| s_ Qb <| zC ?_
 refine cr <| s_ Qb <| zC ?_
 refine cr <| s_ Qa <| s_ Qe <| s_ Qd <| s_ Ql ?_
 refine Q2 (Hr := [_]) hc1 (List.perm_append_comm (l₁ := [_])) (fun r H' ⟨hr1, hr2⟩ => ?_)
 subst hr1 hr2
 refine QA List.perm_append_comm ?_
 refine s_ QU <| zC ?_
 refine JP [(0, pW bk), (1, bl x), (5, ei ea)] ((bk, ⟨tK, pW bj :: Qv N (.sl false (N.log.map een)), 23⟩) :: JrH bj bd na da) ?_ ?_
 ·refine ci ?_ ?_
  ·intro hlt
   have hlt' : n < 16 := hlt
   have hw : XZ n d x = (na, da, ea) := by rw [← hwa, Jc, if_pos hlt']
   rw [hw] at ha1
   refine zC ?_
   refine cr <| s_ Qa <| s_ Qe <| s_ Qd <| s_ Ql <| s_ Qa ?_
   refine Q2 (Hr := [_]) ha1 (List.perm_append_comm (l₁ := [_])) (fun r H' ⟨hr1, hr2⟩ => ?_)
   subst hr1 hr2
   refine QA List.perm_append_comm ?_
   refine s_ Qb <| zC ?_
   exact ⟨eL, kR⟩
  ·intro hlt
   have hlt' : ¬ n < 16 := hlt
   have hw : (n, d, (19 : Int)) = (na, da, ea) := by rw [← hwa, Jc, if_neg hlt']
   simp only [Prod.mk.injEq] at hw
   obtain ⟨rfl, rfl, rfl⟩ := hw
   refine zC ?_
   exact ⟨eL, kR⟩
 by_cases hea : ea = 19
 ·have hnn : ¬ ¬ ea = 19 := fun h => h hea
  refine zC ?_
  refine cr <| s_ Qa <| s_ Yq <| s_ Qa <| gF (fun hg => Qa) ?_
  refine gF (fun hg => Qe (hx := u_ hg)) ?_
  refine gF (fun hg => Qd (hx := u_ hg)) ?_
  refine gF (fun hg => Ql (hx := u_ hg)) ?_
  refine GI (p := ¬ ea = 19) (Hr := [_]) hnn hc2 (List.perm_append_comm (l₁ := [_])) (fun r H' ⟨hr1, hr2⟩ => ?_) (ha' := QK (u_ hnn) XE)
  subst hr1 hr2
  refine QA List.perm_append_comm ?_
  refine gF (p := ¬ ea = 19) (fun hg => XF) ?_
  refine s_ YW <| zC ?_
  refine ci ?_ ?_
  ·intro h
   rw [if_pos h]
   refine zC ?_
   refine cr <| s_ Qa <| s_ Qb <| zC ?_
   refine zR ?_
   exact rh kR ⟨rfl, rfl⟩ (Le.refl _)
  intro h
  rw [if_neg h]
  refine zC ?_
  refine ca [0, 1, 2, 3, 4, 5, 6, 7, 8, 9, 10] [9] <| a_ (fun _ => Qa) <| a_ (fun _ => Qe) <| a_ (fun _ => Qd) <| QJ ?_
  refine a_ (fun _ => Qa) <| a_ (fun _ => Qe) <| a_ (fun _ => Qd) <| YC ?_
  refine a_ (fun _ => QQ (hby)) ?_
  refine CA (Hr := [_]) hsn (List.perm_append_comm (l₁ := [_])) (fun r H' ⟨hr1, hr2⟩ => ⟨?_, ?_⟩)
  ·subst hr1 hr2; exact zd
  subst hr1 hr2
  refine zD ?_
  refine a_ (fun _ => Qb) ?_
  apply an
  refine zC ?_
  refine XV List.perm_append_comm ?_
  refine zC ?_
  refine cr <| s_ Qa <| s_ Yq <| zC ?_
  refine ci ?_ ?_
  ·intro he
   have he' : ¬ es' = 0 := he
   rw [if_pos he']
   refine zC ?_
   refine cr <| s_ Qa <| s_ Qb <| zC ?_
   refine zR ?_
   exact rh kR ⟨rfl, rfl⟩ (Le.refl _)
  intro he
  have he' : ¬ ¬ es' = 0 := he
  rw [if_neg he']
  refine zC ?_
  refine cr <| s_ Qa <| s_ Qe <| s_ Qd <| s_ Ql <| s_ Qa ?_
  refine Q2 (Hr := [_]) ha2 (List.perm_append_comm (l₁ := [_])) (fun r H' ⟨hr1, hr2⟩ => ?_)
  subst hr1 hr2
  refine QA List.perm_append_comm ?_
  refine s_ Qb <| zC ?_
  refine zR ?_
  exact rh kR ⟨rfl, rfl⟩ (Le.refl _)
 ·rw [if_pos (.inl hea)]
  refine zC ?_
  refine cr <| s_ Qa <| s_ Yq <| s_ Qa <| gF (fun hg => Qa) ?_
  refine gF (fun hg => Qe (hx := u_ hg)) ?_
  refine gF (fun hg => Qd (hx := u_ hg)) ?_
  refine gF (fun hg => Ql (hx := u_ hg)) ?_
  refine gF (p := ¬ ea = 19) (d := .any) (fun hg => absurd hea hg) ?_
  refine gF (p := ¬ ea = 19) (d := .v (.bool (decide False))) (fun hg => absurd hea hg) ?_
  refine s_ YW <| zC ?_
  refine ci ?_ ?_
  ·intro _
   refine zC ?_
   refine cr <| s_ Qa <| s_ Qb <| zC ?_
   refine zR ?_
   exact rh kR ⟨rfl, rfl⟩ (Le.refl _)
  ·intro h; exact absurd (.inl hea) h
end Go.Proofs.YtjbokbikkcfjjaaGreat
namespace Go.Proofs.YtjbokbikkcfjjaaGreat
open Go.Cap
attribute [local irreducible] WZ Z9
def tN : TypeId := 44
def bxH (b6 b4 b3 bk : Nat) (e : Int) (t : Nd) : Qc := [(b6, ⟨25, [ei e], 1⟩), (b4, ⟨tN, Qv t (.sl false (t.log.map een)), 22⟩), (b3, ⟨162, [pW bk], 1⟩)]
theorem Mo (b6 b4 b3 bk bj bd : Nat) (e : Int) (t : Nd) (K : Kp) (ht : t.log.length ≤ 1000000000) :
  DfH Tryz.prog 138 #[.pointer (some ⟨b6, 0, none⟩), .pointer (some ⟨b4, 0, none⟩), .pointer (some ⟨b3, 0, none⟩)] (bxH b6 b4 b3 bk e t ++ KpH bk bj bd K) (fun H => H = bxH b6 b4 b3 bk e t ++ KpH bk bj bd (if e = 0 then { K with N := t } else K)) := by
 have ho := Gw t ht
 obtain ⟨n, N, d⟩ := K
 refine LF Tryz.func138 (vs := [.pointer (some ⟨b6, 0, none⟩), .pointer (some ⟨b4, 0, none⟩), .pointer (some ⟨b3, 0, none⟩)]) (by rfl) (by rfl) (by rfl) ?_
 intro S0 w0
 show Sim _ _ [(0, pW b6), (1, pW b4), (2, pW b3)] ((b6, ⟨25, [ei e], 1⟩) :: (b4, ⟨tN, Qv t (.sl false (t.log.map een)), 22⟩) :: (b3, ⟨162, [pW bk], 1⟩) :: (bk, ⟨tK, pW bj :: Qv N (.sl false (N.log.map een)), 23⟩) :: JrH bj bd n d) _
 refine zC ?_
 refine cr <| s_ Ql <| s_ XF <| zC ?_
 refine ci ?_ ?_
 ·intro he
  have he' : e = 0 := he
  rw [if_pos he']
  refine zC ?_
  refine ca [0, 1, 2, 3, 4, 5] [5] <| QJ ?_
  refine YC ?_
  refine a_ (fun _ => QQ (ho)) <| a_ (fun _ => Qe) <| a_ (fun _ => Qd) <| XN ?_
  apply an
  refine zC ?_
  exact ⟨.inl rfl, _, kR, rfl⟩
 ·intro he
  have he' : ¬ e = 0 := he
  rw [if_neg he']
  refine zC ?_
  exact ⟨.inl rfl, _, kR, rfl⟩
def Qw (K : Kp) (t : Nd) (e : Int) : Kp × Int := if ¬ e = 0 then (K, e) else if Qp K.N = Qp t then ({ K with N := t }, 0) else
 (if (Xj K (Qq t (Qn K.N t))).2 = 0 then { (Xj K (Qq t (Qn K.N t))).1 with N := t } else (Xj K (Qq t (Qn K.N t))).1, (Xj K (Qq t (Qn K.N t))).2)
structure D0 (K : Kp) : Prop where
 d : DkR K.d
 sz : Sz K.N
 rec_ : (Qq K.N 0).length ≤ 4000000
 n0 : 0 ≤ K.n
 n1 : K.n ≤ 100
theorem Uw (t : Nd) (k : Nat) : (Qq t k).length ≤ (Qq t 0).length + 80 := by
 have h1 := Zg (Xc t k)
 have h2 : (Xc t k).length = 8 := rfl
 have h3 : (t.log.flatMap XQ).length = ((t.log.take k).flatMap XQ).length + ((t.log.drop k).flatMap XQ).length := by
  conv => lhs; rw [← List.take_append_drop k t.log]
  rw [List.flatMap_append, List.length_append]
 unfold Qq
 simp only [List.length_append, List.drop_zero]
 omega
theorem Gz (bk bj bd : Nat) (K : Kp) (t : Nd) (e : Int) (hK : D0 K) (ht : Sz t) (hx : (Qq t 0).length ≤ 4000000) :
  FnH Tryz.prog 101 [pW bk, nd t, ei e] (KpH bk bj bd K) (fun r H => r = ei (Qw K t e).2 ∧ H = KpH bk bj bd (Qw K t e).1) := by
 have htl := ht.len
 have hNl := hK.sz.len
 have hw1 := LP K.N (by omega)
 have hw2 := LP t (by omega)
 have hsm := CQ (Qp K.N) (Qp t) (by show K.N.log.length ≤ _; omega) (by show t.log.length ≤ _; omega)
 have hal := Cx K.N t (by omega) (by omega)
 have hale : Qn K.N t ≤ t.log.length := by
  unfold Qn
  split
  ·exact (L8 _ _).2
  ·omega
 have hrl : (Qq t (Qn K.N t)).length ≤ 4194304 := by
  have := Uw t (Qn K.N t)
  omega
 have hby := DU t (Qn K.N t) ht hale
 have hwr := Rw bk bj bd K (Qq t (Qn K.N t)) hK.d hK.sz (by have := hK.rec_; omega) hrl hK.n0 hK.n1
 obtain ⟨⟨K', ew⟩, hwe⟩ : ∃ a, Xj K (Qq t (Qn K.N t)) = a := ⟨_, rfl⟩
 rw [hwe] at hwr
 simp only at hwr
 have hA : Qw K t e = if ¬ e = 0 then (K, e) else if Qp K.N = Qp t then ({ K with N := t }, 0) else (if ew = 0 then { K' with N := t } else K', ew) := by
  unfold Qw
  rw [hwe]
 rw [hA]
 obtain ⟨n, N, d⟩ := K
 refine JW Tryz.func101 (by rfl) (by rfl) ?_
 intro S0 w0 hw0
 show WZ _ _ _ [(0, pW bk), (1, T.agg (Qv t (.sl false (t.log.map een)))), (2, ei e)] ((bk, ⟨tK, pW bj :: Qv N (.sl false (N.log.map een)), 23⟩) :: JrH bj bd n d) _
 refine JC ?_
 refine zC ?_
 apply cr
 refine Mx fun b3 _ => ?_
 refine X1 fun b4 _ => ?_
 refine Yd fun b6 _ => ?_
 refine zC ?_
 refine ⟨rfl, ?_⟩
 refine ZK ?_
 refine d_s UE ?_
 refine VC [.pointer (some ⟨b6, 0, none⟩), .pointer (some ⟨b4, 0, none⟩), .pointer (some ⟨b3, 0, none⟩)] ?_ rfl rfl (zl)
 refine Uu hw0 ?_
 refine zC ?_
 refine cr <| s_ Qa <| s_ Yq <| s_ Qb <| zC ?_
 refine ci ?_ ?_
 ·intro he
  have he' : ¬ e = 0 := he
  rw [if_pos he']
  refine zC ?_
  refine cr <| s_ Qa <| Qz ?_
  refine zC ?_
  apply Yt
  refine ⟨_, Mo b6 b4 b3 bk bj bd e t ⟨n, N, d⟩ (by omega), ?_⟩
  rintro H1 rfl
  rw [if_neg he']
  exact ⟨_, _, _, zrs, Le.refl _, ⟨rfl, rfl⟩, (Qh.skip _ _ _ (.skip _ _ _ (.skip _ _ _ kR))).le⟩
 intro he
 have he' : e = 0 := Decidable.not_not.1 he
 rw [if_neg he]
 refine zC ?_
 refine ca [0, 1, 2, 3, 4, 5, 6, 7, 8] [] <| QJ ?_
 refine a_ (fun _ => Qe) <| a_ (fun _ => Qd) <| YC ?_
 refine a_ (fun _ => QQ (hw1)) <| YC ?_
 refine a_ (fun _ => QQ (hw2)) <| a_ (fun _ => QQ (hsm)) <| a_ (fun _ => Qb) ?_
 apply an
 refine zC ?_
 refine ci ?_ ?_
 ·intro hs
  have hs' : Qp N = Qp t := hs
  rw [if_pos hs']
  refine zC ?_
  refine cr <| Qz ?_
  refine zC ?_
  apply Yt
  refine ⟨_, Mo b6 b4 b3 bk bj bd 0 t ⟨n, N, d⟩ (by omega), ?_⟩
  rintro H1 rfl
  rw [if_pos rfl]
  exact ⟨_, _, _, zrs, Le.refl _, ⟨rfl, rfl⟩, (Qh.skip _ _ _ (.skip _ _ _ (.skip _ _ _ kR))).le⟩
 intro hs
 have hs' : ¬ Qp N = Qp t := hs
 rw [if_neg hs']
 refine zC ?_
 refine ca [0, 1, 2, 3, 4, 5, 6, 7, 8, 9, 10] [9, 10] <| QJ ?_
 refine YC ?_
 refine QJ ?_
 refine a_ (fun _ => Qe) <| a_ (fun _ => Qd) <| YC ?_
 refine YC ?_
 refine a_ (fun _ => QQ (hal)) <| a_ (fun _ => QQ (hby)) ?_
 refine CA (Hr := [_, _, _]) hwr (List.perm_append_comm (l₁ := [_, _, _])) (fun r H' ⟨hr1, hr2⟩ => ⟨?_, ?_⟩)
 ·subst hr1 hr2; exact zd
 subst hr1 hr2
 refine zD ?_
 refine XN ?_
 apply an
 refine zC ?_
 refine XV (H' := bxH b6 b4 b3 bk ew t ++ KpH bk bj bd K') (List.perm_append_comm (l₁ := KpH bk bj bd K') (l₂ := bxH b6 b4 b3 bk ew t)) ?_
 apply Yt
 refine ⟨_, Mo b6 b4 b3 bk bj bd ew t K' (by omega), ?_⟩
 rintro H1 rfl
 exact ⟨_, _, _, zrs, Le.refl _, ⟨rfl, rfl⟩, (Qh.skip _ _ _ (.skip _ _ _ (.skip _ _ _ kR))).le⟩
theorem Gb (bk bj bd : Nat) (K : Kp) (t : Nd) (l : List Ms) (hK : D0 K) (ht : Sz t) (hx : (Qq t 0).length ≤ 4000000) :
  FnH Tryz.prog 75 [pW bk, nd t, mss l] (KpH bk bj bd K) (fun r H => r = .tup [if (Qw K t 0).2 = 0 then mss l else .sl true [], ei (Qw K t 0).2] ∧ H = KpH bk bj bd (Qw K t 0).1) := by
 have hk := Gz bk bj bd K t 0 hK ht hx
 obtain ⟨⟨K', e⟩, hke⟩ : ∃ a, Qw K t 0 = a := ⟨_, rfl⟩
 rw [hke] at hk ⊢
 simp only at hk ⊢
 refine fe Tryz.func75 fun S0 w0 => ?_
 show Sim _ _ [(0, pW bk), (1, T.agg (Qv t (.sl false (t.log.map een)))), (2, mss l)] (KpH bk bj bd K) _
 refine zC ?_
 apply cr
 refine X1 fun b4 _ => ?_
 refine s_ Qb <| s_ Qb <| zC ?_
 refine cr <| s_ Qa <| s_ UE <| s_ Qb <| zC ?_
 refine cr <| s_ Qa <| s_ Xf ?_
 refine Ug (fs := [pW bk]) (args := [nd t, ei 0]) (cs := []) hk (Hr := [_]) (List.perm_append_comm (l₁ := [_])) (fun r H' ⟨hr1, hr2⟩ => ?_)
 subst hr1 hr2
 refine s_ Qb <| zC ?_
 refine cr <| s_ Qa <| s_ Yq <| zC ?_
 refine ci ?_ ?_
 ·intro he
  have he' : ¬ e = 0 := he
  rw [if_neg he']
  refine zC ?_
  refine cr <| s_ Qa <| s_ Qb <| s_ Qb <| zC ?_
  refine zR ?_
  refine rhp List.perm_append_comm (.skip _ _ _ kR) ⟨rfl, rfl⟩ ?_
  exact Le.tup (LeL.cons (Le.slice0 _ _) (LeL.cons (Le.refl _) LeL.nil))
 ·intro he
  have he' : e = 0 := Decidable.not_not.1 he
  rw [if_pos he', he']
  refine zC ?_
  refine cr <| s_ Qa <| s_ Qb <| s_ Qb <| zC ?_
  refine zR ?_
  exact rhp List.perm_append_comm (.skip _ _ _ kR) ⟨rfl, rfl⟩ (Le.refl _)
theorem Bp (bk bj bd : Nat) (K : Kp) (t : Nd) (i e : Int) (hK : D0 K) (ht : Sz t) (hx : (Qq t 0).length ≤ 4000000) :
  FnH Tryz.prog 70 [pW bk, nd t, ei i, ei e] (KpH bk bj bd K) (fun r H => r = .tup [ei (if (Qw K t e).2 = 0 then i else 0), ei (Qw K t e).2] ∧ H = KpH bk bj bd (Qw K t e).1) := by
 have hk := Gz bk bj bd K t e hK ht hx
 obtain ⟨⟨K', e'⟩, hke⟩ : ∃ a, Qw K t e = a := ⟨_, rfl⟩
 rw [hke] at hk ⊢
 simp only at hk ⊢
 refine fe Tryz.func70 fun S0 w0 => ?_
 show Sim _ _ [(0, pW bk), (1, T.agg (Qv t (.sl false (t.log.map een)))), (2, ei i), (3, ei e)] (KpH bk bj bd K) _
 refine zC ?_
 apply cr
 refine X1 fun b5 _ => ?_
 refine s_ Qb <| s_ Qb <| zC ?_
 refine cr <| s_ Qa <| s_ Xf <| s_ Qa ?_
 refine Q2 (Hr := [_]) hk (List.perm_append_comm (l₁ := [_])) (fun r H' ⟨hr1, hr2⟩ => ?_)
 subst hr1 hr2
 refine s_ Qb <| zC ?_
 refine cr <| s_ Qa <| s_ Yq <| zC ?_
 refine ci ?_ ?_
 ·intro he
  have he' : ¬ e' = 0 := he
  rw [if_neg he']
  refine zC ?_
  refine cr <| s_ Qa <| s_ Qb <| s_ Qb <| zC ?_
  refine zR ?_
  exact rhp List.perm_append_comm (.skip _ _ _ kR) ⟨rfl, rfl⟩ (Le.refl _)
 ·intro he
  have he' : e' = 0 := Decidable.not_not.1 he
  rw [if_pos he', he']
  refine zC ?_
  refine cr <| s_ Qa <| s_ Qb <| s_ Qb <| zC ?_
  refine zR ?_
  exact rhp List.perm_append_comm (.skip _ _ _ kR) ⟨rfl, rfl⟩ (Le.refl _)
end Go.Proofs.YtjbokbikkcfjjaaGreat
namespace Go.Proofs.YtjbokbikkcfjjaaGreat
open Go.Cap
attribute [local irreducible] POp Qf TO EOp Sim FnH T.gp
def B0 (K : Kp) (t : Nd) (l : List Ms) : T := .tup [if (Qw K t 0).2 = 0 then mss l else .sl true [], ei (Qw K t 0).2]
theorem Iw (bk bj bd : Nat) (K : Kp) {t : Nd} {l : List Ms} (hT : FnP Tryz.prog 76 [nd K.N] (fun r => r = .tup [nd t, mss l])) (hK : D0 K) (ht : Sz t) (hx : (Qq t 0).length ≤ 4000000) :
  FnH Tryz.prog 47 [pW bk] (KpH bk bj bd K) (fun r H => r = B0 K t l ∧ H = KpH bk bj bd (Qw K t 0).1) := by
 have hs := Gb bk bj bd K t l hK ht hx
 obtain ⟨n, N, d⟩ := K
 refine fe Tryz.func47 fun S0 w0 => ?_
 show Sim _ _ [(0, pW bk)] ((bk, ⟨tK, pW bj :: Qv N (.sl false (N.log.map een)), 23⟩) :: JrH bj bd n d) _
 refine zC ?_
 refine cr <| s_ Qb <| s_ Qb <| zC ?_
 refine ca [0, 1, 2, 3, 4, 5, 6, 7, 8, 9, 10, 11, 12, 13, 14, 15] [11] <| a_ (fun _ => Qa) <| a_ (fun _ => Qe) <| a_ (fun _ => Qd) <| a_ (fun _ => Qa) <| a_ (fun _ => Qe) <| a_ (fun _ => Qd) <| a_ (fun _ => Qd) <| YC ?_
 refine a_ (fun _ => QQ (hT)) <| a_ (fun _ => QH) <| a_ (fun _ => QH) ?_
 refine CB hs (fun r H' ⟨hr1, hr2⟩ => ⟨?_, ?_⟩)
 ·subst hr1 hr2; exact zd
 subst hr1 hr2
 refine zD ?_
 refine a_ (fun _ => QH) <| a_ (fun _ => QH) <| a_ (fun _ => Qb) <| a_ (fun _ => Qb) ?_
 apply an
 refine zC ?_
 refine zR ?_
 exact rh kR ⟨rfl, rfl⟩ (Le.refl _)
theorem Iy (bk bj bd : Nat) (K : Kp) (m : Ms) {t : Nd} {l : List Ms} (hT : FnP Tryz.prog 100 [nd K.N, ms m] (fun r => r = .tup [nd t, mss l])) (hK : D0 K) (ht : Sz t) (hx : (Qq t 0).length ≤ 4000000) :
  FnH Tryz.prog 69 [pW bk, ms m] (KpH bk bj bd K) (fun r H => r = B0 K t l ∧ H = KpH bk bj bd (Qw K t 0).1) := by
 have hs := Gb bk bj bd K t l hK ht hx
 obtain ⟨n, N, d⟩ := K
 refine fe Tryz.func69 fun S0 w0 => ?_
 show Sim _ _ [(0, pW bk), (1, T.agg (msC m (ZG m.entries)))] ((bk, ⟨tK, pW bj :: Qv N (.sl false (N.log.map een)), 23⟩) :: JrH bj bd n d) _
 refine zC ?_
 apply cr
 refine X1 fun b3 _ => ?_
 refine s_ Qb <| s_ Qb <| zC ?_
 refine ca [0, 1, 2, 3, 4, 5, 6, 7, 8, 9, 10, 11, 12, 13, 14, 15, 16] [12] <| a_ (fun _ => Qa) <| a_ (fun _ => Qe) <| a_ (fun _ => Qd) <| a_ (fun _ => Qa) <| a_ (fun _ => Qe) <| a_ (fun _ => Qd) <| a_ (fun _ => Qd) <| YC ?_
 refine YC ?_
 refine a_ (fun _ => QQ (hT)) <| a_ (fun _ => QH) <| a_ (fun _ => QH) ?_
 refine CA (Hr := [_]) hs (List.perm_append_comm (l₁ := [_])) (fun r H' ⟨hr1, hr2⟩ => ⟨?_, ?_⟩)
 ·subst hr1 hr2; exact zd
 subst hr1 hr2
 refine zD ?_
 refine a_ (fun _ => QH) <| a_ (fun _ => QH) <| a_ (fun _ => Qb) <| a_ (fun _ => Qb) ?_
 apply an
 refine zC ?_
 refine zR ?_
 exact rhp List.perm_append_comm (.skip _ _ _ kR) ⟨rfl, rfl⟩ (Le.refl _)
def A7 (K : Kp) (t : Nd) (i e : Int) : T := .tup [ei (if (Qw K t e).2 = 0 then i else 0), ei (Qw K t e).2]
theorem Iz (bk bj bd : Nat) (K : Kp) (cmd : List UInt8) {t : Nd} {i e : Int} (hT : FnP Tryz.prog 71 [nd K.N, es cmd] (fun r => r = .tup [nd t, ei i, ei e])) (hK : D0 K) (ht : Sz t) (hx : (Qq t 0).length ≤ 4000000) :
  FnH Tryz.prog 39 [pW bk, es cmd] (KpH bk bj bd K) (fun r H => r = A7 K t i e ∧ H = KpH bk bj bd (Qw K t e).1) := by
 have hs := Bp bk bj bd K t i e hK ht hx
 obtain ⟨n, N, d⟩ := K
 refine fe Tryz.func39 fun S0 w0 => ?_
 show Sim _ _ [(0, pW bk), (1, es cmd)] ((bk, ⟨tK, pW bj :: Qv N (.sl false (N.log.map een)), 23⟩) :: JrH bj bd n d) _
 refine zC ?_
 refine cr <| s_ Qb <| s_ Qb <| zC ?_
 refine ca [0, 1, 2, 3, 4, 5, 6, 7, 8, 9, 10, 11, 12, 13, 14, 15, 16, 17] [13] <| a_ (fun _ => Qa) <| a_ (fun _ => Qe) <| a_ (fun _ => Qd) <| a_ (fun _ => Qa) <| a_ (fun _ => Qe) <| a_ (fun _ => Qd) <| a_ (fun _ => Qd) <| YC ?_
 refine a_ (fun _ => Qa) <| a_ (fun _ => QQ (hT)) <| a_ (fun _ => QH) <| a_ (fun _ => QH) <| a_ (fun _ => QH) ?_
 refine CB hs (fun r H' ⟨hr1, hr2⟩ => ⟨?_, ?_⟩)
 ·subst hr1 hr2; exact zd
 subst hr1 hr2
 refine zD ?_
 refine a_ (fun _ => QH) <| a_ (fun _ => QH) <| a_ (fun _ => Qb) <| a_ (fun _ => Qb) ?_
 apply an
 refine zC ?_
 refine zR ?_
 exact rh kR ⟨rfl, rfl⟩ (Le.refl _)
theorem IA (bk bj bd : Nat) (K : Kp) (hl : K.N.log.length ≤ 1000000000) : FnH Tryz.prog 23 [pW bk] (KpH bk bj bd K) (fun r H => r = nd K.N ∧ H = KpH bk bj bd K) := by
 have ho := Gw K.N hl
 obtain ⟨n, N, d⟩ := K
 refine fe Tryz.func23 fun S0 w0 => ?_
 show Sim _ _ [(0, pW bk)] ((bk, ⟨tK, pW bj :: Qv N (.sl false (N.log.map een)), 23⟩) :: JrH bj bd n d) _
 refine zC ?_
 apply cr
 refine Yd fun b2 _ => ?_
 refine zC ?_
 refine cr <| s_ Qa <| s_ Qe <| s_ Qd <| s_ Qd <| s_ Xf <| s_ (QQ (ho)) <| Qz ?_
 refine zC ?_
 refine zR ?_
 exact rh (.skip _ _ _ kR) ⟨rfl, rfl⟩ (Le.refl _)
def Xp (n : Nd) (rs : List (Nd × Nat)) : Nd := rs.foldl (fun n p => ZS n p.1 p.2) n
def ZP (p : Nd × Nat) : List UInt8 := Qq p.1 p.2
def To (n0 : Nd) (so : Option Nd) (rs : List (Nd × Nat)) : Nd := Xp (match so with | none => n0 | some m => ZS n0 m 0) rs
def Lj (n0 : Nd) (so : Option Nd) (rs : List (Nd × Nat)) : Nd := if so = none ∧ rs = [] then n0 else Qp (To n0 so rs)
theorem MX (m : Nd) (k : Nat) : 0 < (Qq m k).length := by
 have h := Xi m.term
 unfold Qq Xc YY
 simp only [List.flatMap_cons, List.length_append]
 omega
theorem Dj (n : Nd) (rs : List (Nd × Nat)) {k : Nat} (hk : k < rs.length) : Xp n (rs.take (k + 1)) = ZS (Xp n (rs.take k)) rs[k].1 rs[k].2 := by
 unfold Xp
 rw [List.take_succ_eq_append_getElem hk, List.foldl_append]
 rfl
theorem Dm (bd : Nat) (d : Dk) (id conf : Int) (n0 : Nd) (so : Option Nd) (rs : List (Nd × Nat)) (tl : List UInt8) (hn0 : FnP Tryz.prog 66 [ei id, ei conf] (fun r => r = nd n0)) (hl0 : n0.log.length ≤ 10000)
  (hd : Um d) (hdead : d.dead = false) (hleft : d.left = 0) (hso : d.snap = MP (so.map (Qq · 0))) (hlog : d.log = (rs.map ZP).flatMap Qt ++ tl) (hst : E0 tl)
  (hsz : ∀ m, so = some m → Sz m ∧ (Qq m 0).length ≤ 4194304) (hrs : ∀ p ∈ rs, Sz p.1 ∧ p.2 ≤ p.1.log.length ∧ (ZP p).length ≤ 4194304)
  (hlay : ∀ k, (Xp (match so with | none => n0 | some m => ZS n0 m 0) (rs.take k)).log.length ≤ 10000) :
  FnH Tryz.prog 34 [pW bd, ei id, ei conf] (DkH bd d) (fun r H => ∃ bk bj, r = .tup [pW bk, ei 0] ∧ H = KpH bk bj bd ⟨rs.length, Lj n0 so rs, ZN d (rs.map ZP) tl⟩) := by
 have hj := Ik bd d (so.map (Qq · 0)) (rs.map ZP) tl hd hdead hleft hso (by
  intro s hs
  cases so with
  | none => cases hs
  | some m => cases hs; exact (hsz m rfl).2) hlog hst (by
  intro x hx
  obtain ⟨p, hp, rfl⟩ := List.mem_map.1 hx
  exact (hrs p hp).2.2)
 obtain ⟨sn, hsn⟩ : ∃ sn, sn = (so.map (Qq · 0)).getD [] := ⟨_, rfl⟩
 obtain ⟨n1, hn1⟩ : ∃ n1, n1 = (match so with | none => n0 | some m => ZS n0 m 0) := ⟨_, rfl⟩
 have hF : Lj n0 so rs = if so = none ∧ rs = [] then n0 else Qp (Xp n1 rs) := by rw [hn1]; rfl
 have hlay' : ∀ k, (Xp n1 (rs.take k)).log.length ≤ 10000 := by rw [hn1]; exact hlay
 have hn1l : n1.log.length ≤ 10000 := hlay' 0
 have hfull : (Xp n1 rs).log.length ≤ 10000 := by have := hlay' rs.length; rwa [List.take_length] at this
 have hrl : rs.length ≤ 100000000 := by
  have hu := hd.used
  have : rs.length ≤ ((rs.map ZP).flatMap Qt).length := by
   clear hrs hlay hlay' hfull hlog hj hF
   induction rs with
   | nil => simp
   | cons x l ih => rw [List.map_cons, List.flatMap_cons, List.length_append, XG, List.length_cons]; omega
  rw [hlog, List.length_append] at hu
  omega
 have hsnl : sn.length ≤ 4194304 := by
  rw [hsn]
  cases so with
  | none => simp
  | some m => exact (hsz m rfl).2
 rw [← hsn] at hj
 refine fe Tryz.func34 fun S0 w0 => ?_
 show Sim _ _ [(0, pW bd), (1, ei id), (2, ei conf)] (DkH bd d) _
 refine zC ?_
 refine cr <| s_ Qb <| s_ Qb <| zC ?_
 refine cr <| s_ Qa ?_
 refine QI hj (fun r H' ⟨bj, hr1, hr2⟩ => ?_)
 subst hr1 hr2
 refine s_ Qa <| s_ QH <| s_ QH <| s_ QH <| s_ QH <| s_ Qb <| s_ Qb <| s_ Qb <| s_ Qb <| zC ?_
 refine cr <| s_ Qa <| s_ Yq <| zC ?_
 refine ci ?_ ?_
 ·intro h; exact absurd rfl h
 intro _
 refine zC ?_
 refine cr <| s_ Qa <| s_ Qa <| s_ (QQ (hn0)) ?_
 refine Yd fun b12 _ => ?_
 refine Qz ?_
 refine zC ?_
 refine zC ?_
 refine cr <| s_ Qa ?_
 (first | refine s_ QP ?_ | refine s_ QO ?_)
 refine s_ Yu <| zC ?_
 refine JP [(8, pW bj), (9, bl sn), (10, tBl (rs.map ZP)), (12, pW b12)] ((b12, ⟨tN, Qv n1 (.sl false (n1.log.map een)), 22⟩) :: JrH bj bd (rs.map ZP).length (ZN d (rs.map ZP) tl)) ?_ ?_
 ·refine ci ?_ ?_
  ·intro hpos
   cases so with
   | none => rw [hsn] at hpos; exact absurd hpos (by simp)
   | some m =>
    have hm := hsz m rfl
    have hsn' : sn = Qq m 0 := hsn
    have hn1' : n1 = ZS n0 m 0 := hn1
    have hla := Iu false n0 m 0 hm.1 (Nat.zero_le _) hl0
    subst hsn' hn1'
    refine zC ?_
    refine cr <| s_ Xf <| s_ Qa <| s_ (QQ (hla)) <| Qz ?_
    refine zC ?_
    exact ⟨eL, kR⟩
  ·intro hpos
   cases so with
   | none =>
    have hn1' : n1 = n0 := hn1
    rw [hn1']
    refine zC ?_
    exact ⟨eL, kR⟩
   | some m =>
    have hsn' : sn = Qq m 0 := hsn
    have := MX m 0
    exact absurd (by rw [hsn', List.length_map]; omega) hpos
 refine zC ?_
 refine cr <| s_ Qa ?_
 (first | refine s_ QP ?_ | refine s_ QO ?_)
 refine s_ Qa <| zC ?_
 apply Qo (σ := Nat) (ok := fun k => k ≤ rs.length) (env := fun k => [(36, ei k), (35, ei (rs.length : Nat)), (34, tBl (rs.map ZP)), (8, pW bj), (9, bl sn), (10, tBl (rs.map ZP)), (12, pW b12)]) (heap := fun k => (b12, ⟨tN, Qv (Xp n1 (rs.take k)) (.sl false ((Xp n1 (rs.take k)).log.map een)), 22⟩) :: JrH bj bd rs.length (ZN d (rs.map ZP) tl)) (μ := fun k => rs.length - k) (s0 := 0)
 ·exact Nat.zero_le _
 ·refine ⟨?_, ?_, eL⟩
  ·apply Qi; (exact zG)
   exact Le.refl _
  ·apply Qi; (exact zG)
   exact Le.of_eq (by simp [ei])
 ·rw [List.length_map]; exact kR
 intro k hk
 refine zC ?_
 refine cr <| s_ QU <| zC ?_
 refine ci ?_ ?_
 ·intro hlt
  have hlt' : k < rs.length := by omega
  have hp := hrs _ (List.getElem_mem hlt')
  have hla := Iu false (Xp n1 (rs.take k)) rs[k].1 rs[k].2 hp.1 hp.2.1 (hlay' k)
  have hnx := Dj n1 rs hlt'
  have hix : k < (rs.map ZP).length := by rw [List.length_map]; exact hlt'
  have e : (rs.map ZP)[k]'hix = ZP rs[k] := List.getElem_map ..
  have hla' : FnP Tryz.prog 67 [nd (Xp n1 (rs.take k)), bl ((rs.map ZP)[k]'hix)] (fun r => r = nd (ZS (Xp n1 (rs.take k)) rs[k].1 rs[k].2)) := by rw [e]; exact hla
  refine zC ?_
  apply cr
  (first | refine s_ (Xd hix) ?_ | refine s_ (Xd hix2) ?_ | refine s_ YE ?_ | refine s_ ZE ?_)
  (first | refine s_ Qm ?_ | refine s_ Ql ?_)
  refine s_ Qb <| zC ?_
  refine cr <| s_ Xf <| s_ Qa <| s_ (QQ (hla')) <| Qz ?_
  refine zC ?_
  refine zC ?_
  refine cr <| s_ QY <| s_ Qa <| zC ?_
  refine ⟨k + 1, by omega, (by simp only []; omega), ⟨?_, eL⟩, ?_⟩
  ·apply Qi; (exact zG)
   exact Le.refl _
  ·simp only []
   rw [hnx]; exact kR
 intro hge
 have hke : k = rs.length := by omega
 subst hke
 rw [List.take_length]
 have hwk := LP (Xp n1 rs) (by omega)
 refine zC ?_
 refine cr <| s_ Qa ?_
 (first | refine s_ QP ?_ | refine s_ QO ?_)
 refine s_ Qa ?_
 (first | refine s_ QP ?_ | refine s_ QO ?_)
 refine s_ QY <| s_ Yu <| zC ?_
 refine ci ?_ ?_
 ·intro hpos
  have hne : ¬ (so = none ∧ rs = []) := by
   rintro ⟨rfl, rfl⟩
   rw [hsn] at hpos
   exact absurd hpos (by simp)
  rw [if_neg hne] at hF
  refine zC ?_
  refine cr <| s_ Xf <| s_ (QQ (hwk)) <| Qz ?_
  refine zC ?_
  refine cr <| s_ Qa <| s_ Xf <| s_ (ZF 23 [_, _, _, _, _, _, _, _, _, _, _, _, _, _, _, _, _, _, _, _, _, _, _]) <| s_ (ZF 23 [_, _, _, _, _, _, _, _, _, _, _, _, _, _, _, _, _, _, _, _, _, _, _]) ?_
  refine X1 fun b56 _ => ?_
  refine s_ Qb <| s_ Qb <| zC ?_
  refine zR ?_
  refine rh (.keep _ _ _ _ _ (Yp.refl _) (.skip _ _ _ kR)) ⟨b56, bj, rfl, ?_⟩ (Le.refl _)
  rw [hF]
  rfl
 ·intro hpos
  have hnone : so = none ∧ rs = [] := by
   constructor
   ·cases so with
    | none => rfl
    | some m =>
     have hsn' : sn = Qq m 0 := hsn
     have := MX m 0
     exact absurd (by rw [hsn']; simp only [List.length_map]; omega) hpos
   ·have : rs.length = 0 := by simp only [List.length_map] at hpos; omega
    exact List.length_eq_zero_iff.1 this
  rw [if_pos hnone] at hF
  have hn10 : Xp n1 rs = n0 := by
   rw [hnone.2]
   rw [hnone.1] at hn1
   exact hn1
  rw [hn10]
  refine zC ?_
  refine cr <| s_ Qa <| s_ Xf <| s_ (ZF 23 [_, _, _, _, _, _, _, _, _, _, _, _, _, _, _, _, _, _, _, _, _, _, _]) <| s_ (ZF 23 [_, _, _, _, _, _, _, _, _, _, _, _, _, _, _, _, _, _, _, _, _, _, _]) ?_
  refine X1 fun b56 _ => ?_
  refine s_ Qb <| s_ Qb <| zC ?_
  refine zR ?_
  refine rh (.keep _ _ _ _ _ (Yp.refl _) (.skip _ _ _ kR)) ⟨b56, bj, rfl, ?_⟩ (Le.refl _)
  rw [hF]
  rfl
end Go.Proofs.YtjbokbikkcfjjaaGreat
namespace Go.Proofs.YtjbokbikkcfjjaaGreat
open Go.Cap
def n1F (n0 : Nd) (so : Option Nd) : Nd := match so with | none => n0 | some m => ZS n0 m 0
structure ZU (n0 : Nd) (R : Nat) (d : Dk) (so : Option Nd) (rs : List (Nd × Nat)) (tl : List UInt8) (N : Nd) : Prop where
 snap : d.snap = MP (so.map (Qq · 0))
 log : d.log = (rs.map ZP).flatMap Qt ++ tl
 stop : E0 tl
 len : rs.length ≤ 16
 szs : ∀ m, so = some m → Sz m ∧ (Qq m 0).length ≤ R
 szr : ∀ p ∈ rs, Sz p.1 ∧ p.2 ≤ p.1.log.length ∧ (ZP p).length ≤ R + 80
 lay : ∀ k, (Xp (n1F n0 so) (rs.take k)).log.length ≤ 10000
 same : Qp N = Qp (Xp (n1F n0 so) rs)
theorem ZY : E0 [] := .inl (by simp)
theorem D6 {x : List UInt8} (hx : x.length ≤ 4194304) {k : Nat} (hk : k < (Qt x).length) : E0 ((Qt x).take k) := by
 have hl := XG x
 by_cases h8 : k < 8
 ·exact .inl (by rw [List.length_take]; omega)
 ·refine .inr (.inr ?_)
  have hn : UZ ((Qt x).take k) = x.length := by
   have e : (Qt x).take k = UL x.length ++ ((UL (DL x) ++ x).take (k - 4)) := by
    unfold Qt
    rw [List.take_append, Z6, List.take_of_length_le (by rw [Z6]; omega)]
   rw [e]
   exact V2 (by omega) (by omega) _
  rw [hn, List.length_take]
  omega
structure Y1 (n0 : Nd) (R : Nat) (K : Kp) : Prop where
 cont : ∃ so rs, ZU n0 R K.d so rs [] K.N ∧ K.n = rs.length
 sync : K.d.synced = K.d.log.length
 dead : K.d.dead = false
 dk : DkR K.d
 id : K.N.id = n0.id
 sz : Sz K.N
 rec_ : (Qq K.N 0).length ≤ R
structure Rt (n0 : Nd) (R : Nat) (d : Dk) (N t : Nd) : Prop where
 dead : d.dead = true
 dk : DkR d
 s0 : 0 ≤ d.synced
 s1 : d.synced ≤ d.log.length
 cont : ∀ pick, ∃ so rs tl, ZU n0 R (Jo d pick) so rs tl N ∨ ZU n0 R (Jo d pick) so rs tl t
theorem JB {d : Dk} (hd : d.dead = false) (h0 : 0 ≤ d.left) : (∃ l, Q1 d = ({ d with left := l }, true) ∧ 0 ≤ l ∧ l ≤ d.left) ∨ (Q1 d = ({ d with left := 0, dead := true }, false) ∧ d.left = 1) := by
 unfold Q1
 by_cases h : 0 < d.left
 ·rw [if_pos h]
  by_cases h1 : d.left - 1 = 0
  ·refine .inr ⟨?_, by omega⟩
   simp [h1]
  ·refine .inl ⟨d.left - 1, ?_, by omega, by omega⟩
   simp [h1, hd]
 ·rw [if_neg h]
  refine .inl ⟨d.left, ?_, h0, Int.le_refl _⟩
  show (d, !d.dead) = (d, true)
  rw [hd]
  rfl
theorem Wc {d : Dk} (n : Int) (x : List UInt8) (hd : d.dead = false) (h0 : 0 ≤ d.left) :
  (XZ n d x = (n, d, 19) ∧ d.room - d.log.length - d.snap.length < (Qt x).length) ∨
  (∃ l, XZ n d x = (n + 1, { d with left := l, log := d.log ++ Qt x, synced := (d.log ++ Qt x).length }, 0) ∧ 0 ≤ l ∧ l ≤ d.left) ∨
  (XZ n d x = (n, { d with left := 0, dead := true, log := d.log ++ Qt x }, 20) ∧ 0 < d.left) := by
 unfold XZ Ul
 rw [hd]
 simp only [Bool.false_eq_true, if_false]
 by_cases hf : d.room - d.log.length - d.snap.length < (Qt x).length
 ·rw [if_pos hf]
  exact .inl ⟨rfl, hf⟩
 ·rw [if_neg hf]
  rcases JB hd h0 with ⟨l, hs, h1, h2⟩ | ⟨hs, h1⟩
  ·rw [hs]
   simp only [if_true]
   rcases JB (d := { d with left := l, log := d.log ++ Qt x }) hd h1 with ⟨l', hs', h1', h2'⟩ | ⟨hs', h1'⟩
   ·refine .inr (.inl ⟨l', ?_, h1', by simp only at h2'; omega⟩)
    unfold Jr
    simp only [hd, Bool.false_eq_true, if_false]
    rw [hd] at hs'
    rw [hs']
    simp
   ·refine .inr (.inr ⟨?_, by simp only at h1'; omega⟩)
    unfold Jr
    simp only [hd, Bool.false_eq_true, if_false]
    rw [hd] at hs'
    rw [hs']
    simp
  ·rw [hs]
   refine .inr (.inr ⟨?_, by omega⟩)
   simp
theorem Dn {d : Dk} (n : Int) (x : List UInt8) (hd : d.dead = false) (h0 : 0 ≤ d.left) :
  (Xq n d x = (n, d, 19) ∧ d.room < (Qt x).length) ∨
  (∃ l, Xq n d x = (0, { d with left := l, snap := Qt x, log := [], synced := 0 }, 0) ∧ 0 ≤ l ∧ l ≤ d.left ∧ (Qt x).length ≤ d.room) ∨
  (Xq n d x = (n, { d with left := 0, dead := true, snap := Qt x, log := [], synced := 0 }, 20) ∧ 0 < d.left ∧ (Qt x).length ≤ d.room) ∨
  (Xq n d x = (n, { d with left := 0, dead := true }, 20) ∧ 0 < d.left) := by
 unfold Xq ZX
 rw [hd]
 simp only [Bool.false_eq_true, if_false]
 by_cases hf : d.room < (Qt x).length
 ·rw [if_pos hf]
  exact .inl ⟨rfl, hf⟩
 ·rw [if_neg hf]
  rcases JB hd h0 with ⟨l, hs, h1, h2⟩ | ⟨hs, h1⟩
  ·rw [hs]
   refine .inr (.inl ⟨l, ?_, h1, h2, by omega⟩)
   simp
   exact hd
  ·rw [hs]
   by_cases ho : d.odd = 0
   ·refine .inr (.inr (.inl ⟨?_, by omega, by omega⟩))
    simp [ho]
   ·refine .inr (.inr (.inr ⟨?_, by omega⟩))
    simp [ho]
theorem OQ (n : Nd) (rs : List (Nd × Nat)) : (Xp n rs).id = n.id := by
 induction rs generalizing n with
 | nil => rfl
 | cons p rs ih => exact ih (ZS n p.1 p.2)
theorem AH (n0 : Nd) (so : Option Nd) : (n1F n0 so).id = n0.id := by cases so <;> rfl
theorem Vi (n : Nd) (rs : List (Nd × Nat)) (p : Nd × Nat) : Xp n (rs ++ [p]) = ZS (Xp n rs) p.1 p.2 := by
 unfold Xp
 rw [List.foldl_append]
 rfl
theorem Da : ∀ (a b : List En), a.take (pfx a b) = b.take (pfx a b)
 | [], b => by simp [pfx]
 | _ :: _, [] => by simp [pfx]
 | x :: xs, y :: ys => by
  unfold pfx
  split
  ·rename_i h
   rw [List.take_succ_cons, List.take_succ_cons, Da xs ys, h]
  ·simp
theorem EW (a b : Nd) : a.log.take (Qn a b) ++ b.log.drop (Qn a b) = b.log := by
 have h : a.log.take (Qn a b) = b.log.take (Qn a b) := by
  unfold Qn
  split
  ·exact Da _ _
  ·simp
 rw [h, List.take_append_drop]
theorem Cw (a b : Nd) : Qn a b ≤ b.log.length := by
 unfold Qn
 split
 ·exact (L8 _ _).2
 ·omega
theorem MJ {a b : Nd} (h : Qp a = Qp b) : a.log = b.log ∧ a.base = b.base ∧ a.id = b.id := by
 unfold Qp at h
 simp only [Nd.mk.injEq] at h
 exact ⟨h.2.2.2.2.2.2.2.1, h.2.2.2.1, h.1⟩
theorem Ry {L N t : Nd} (h : Qp N = Qp L) (hid : L.id = t.id) : Qp t = Qp (ZS L t (Qn N t)) := by
 obtain ⟨h1, h2, h3⟩ := MJ h
 have hl := EW N t
 rw [h1] at hl
 unfold Qp ZS
 rw [hl, hid]
theorem ZU.next {n0 : Nd} {R : Nat} {d d' : Dk} {so : Option Nd} {rs : List (Nd × Nat)} {N t : Nd} (h : ZU n0 R d so rs [] N) (hl : rs.length < 16) (hid : t.id = n0.id) (hsz : Sz t) (hr : (Qq t 0).length ≤ R)
  (hs : d'.snap = d.snap) (hlog : d'.log = d.log ++ Qt (Qq t (Qn N t))) : ZU n0 R d' so (rs ++ [(t, Qn N t)]) [] t := by
 have hL : (Xp (n1F n0 so) rs).id = t.id := by rw [OQ, AH, hid]
 have hw := Ry h.same hL
 have hlg := (MJ hw).1
 refine ⟨hs.trans h.snap, ?_, ZY, by simp; omega, h.szs, ?_, ?_, ?_⟩
 ·rw [hlog, h.log]
  simp [ZP]
 ·intro p hp
  rcases List.mem_append.1 hp with hp | hp
  ·exact h.szr p hp
  ·rw [List.mem_singleton.1 hp]
   exact ⟨hsz, Cw _ _, by have := Uw t (Qn N t); show (Qq t (Qn N t)).length ≤ _; omega⟩
 ·intro k
  by_cases hk : k ≤ rs.length
  ·rw [List.take_append_of_le_length hk]
   exact h.lay k
  ·rw [List.take_of_length_le (by simp; omega), Vi]
   show (ZS (Xp (n1F n0 so) rs) t (Qn N t)).log.length ≤ 10000
   rw [← hlg]
   exact hsz.len
 ·rw [Vi]
  exact hw
theorem ZU.torn {n0 : Nd} {R : Nat} {d d' : Dk} {so : Option Nd} {rs : List (Nd × Nat)} {N : Nd} {tl : List UInt8} (h : ZU n0 R d so rs [] N) (hst : E0 tl) (hs : d'.snap = d.snap) (hlog : d'.log = d.log ++ tl) : ZU n0 R d' so rs tl N :=
 ⟨hs.trans h.snap, by rw [hlog, h.log, List.append_nil], hst, h.len, h.szs, h.szr, h.lay, h.same⟩
theorem ZU.snapped {n0 : Nd} {R : Nat} {d' : Dk} {N : Nd} (hid : N.id = n0.id) (hsz : Sz N) (hr : (Qq N 0).length ≤ R) (hs : d'.snap = Qt (Qq N 0)) (hlog : d'.log = []) : ZU n0 R d' (some N) [] [] N := by
 refine ⟨hs, hlog, ZY, by simp, ?_, by simp, ?_, ?_⟩
 ·intro m hm
  cases hm
  exact ⟨hsz, hr⟩
 ·intro k
  rw [List.take_nil]
  exact hsz.len
 ·show Qp N = Qp (ZS n0 N 0)
  unfold Qp ZS
  rw [hid]
  simp
theorem Ds {n0 : Nd} {R : Nat} {d d2 : Dk} {so : Option Nd} {rs : List (Nd × Nat)} {N t : Nd} (h : ZU n0 R d so rs [] N) (hl : rs.length < 16) (hid : t.id = n0.id) (hsz : Sz t) (hr : (Qq t 0).length ≤ R) (hR : R ≤ 4000000)
  (hdk : DkR d2) (hdead : d2.dead = true) (hs : d2.snap = d.snap) (hlog : d2.log = d.log ++ Qt (Qq t (Qn N t))) (hsy : d2.synced = d.log.length) : Rt n0 R d2 N t := by
 have hx : (Qq t (Qn N t)).length ≤ 4194304 := by have := Uw t (Qn N t); omega
 have h0 : 0 ≤ d2.synced := by omega
 have h1 : d2.synced ≤ d2.log.length := by rw [hsy, hlog, List.length_append]; omega
 refine ⟨hdead, hdk, h0, h1, fun pick => ?_⟩
 have hk := ZI d2 pick h0 h1
 obtain ⟨k, hkk⟩ : ∃ k : Nat, Zm d2 pick = k := ⟨(Zm d2 pick).toNat, by omega⟩
 have hcl : (Jo d2 pick).log = d.log ++ (Qt (Qq t (Qn N t))).take k := by
  show d2.log.take (d2.synced + Zm d2 pick).toNat = _
  rw [hkk, hsy, show ((d.log.length : Int) + (k : Int)).toNat = d.log.length + k by omega, hlog, List.take_append, List.take_of_length_le (by omega), show d.log.length + k - d.log.length = k by omega]
 by_cases hfull : k < (Qt (Qq t (Qn N t))).length
 ·exact ⟨so, rs, _, .inl (h.torn (D6 hx hfull) hs hcl)⟩
 ·rw [List.take_of_length_le (by omega)] at hcl
  exact ⟨so, _, [], .inr (h.next hl hid hsz hr hs hcl)⟩
theorem Wi {n0 : Nd} {R : Nat} {d d2 : Dk} {so : Option Nd} {rs : List (Nd × Nat)} {N t : Nd} (h : ZU n0 R d so rs [] N) (hdk : DkR d2) (hdead : d2.dead = true) (hs : d2.snap = d.snap) (hlog : d2.log = d.log) (hsy : d2.synced = d2.log.length) : Rt n0 R d2 N t := by
 have h0 : 0 ≤ d2.synced := by omega
 refine ⟨hdead, hdk, h0, by omega, fun pick => ?_⟩
 have hk := ZI d2 pick h0 (by omega)
 have hcl : (Jo d2 pick).log = d.log ++ [] := by
  show d2.log.take (d2.synced + Zm d2 pick).toNat = _
  rw [List.take_of_length_le (by omega), hlog, List.append_nil]
 exact ⟨so, rs, [], .inl (h.torn ZY hs hcl)⟩
theorem Y1.ok {n0 : Nd} {R : Nat} {K : Kp} (h : Y1 n0 R K) (hR : R ≤ 4000000) : D0 K := by
 obtain ⟨so, rs, hc, hn⟩ := h.cont
 have := hc.len
 exact ⟨h.dk, h.sz, by have := h.rec_; omega, by omega, by omega⟩
inductive DY (n0 : Nd) (R : Nat) (K : Kp) (t : Nd) : Kp × Int → Prop
 | ok (n' : Int) (d' : Dk) (hc : ∃ so rs, ZU n0 R d' so rs [] t ∧ n' = rs.length) (hs : d'.synced = d'.log.length) (hd : d'.dead = false) (hk : DkR d') (hl : d'.left ≤ K.d.left) (hr : d'.room = K.d.room) : DY n0 R K t (⟨n', K.N, d'⟩, 0)
 | full (n' : Int) (d' : Dk) (h : Y1 n0 R ⟨n', K.N, d'⟩) (hl : d'.left ≤ K.d.left) (hr : d'.room = K.d.room) (hf : K.d.room < 2 * R + 200) : DY n0 R K t (⟨n', K.N, d'⟩, 19)
 | dead (n' : Int) (d' : Dk) (hl : 0 < K.d.left) (h : Rt n0 R d' K.N t) (hr : d'.room = K.d.room) : DY n0 R K t (⟨n', K.N, d'⟩, 20)
def Jy (n : Int) (N : Nd) (d : Dk) (x : List UInt8) : Kp × Int :=
 let s := Xq n d (Qq N 0)
 if ¬ s.2.2 = 0 then (⟨s.1, N, s.2.1⟩, s.2.2) else
 let b := XZ s.1 s.2.1 x
 (⟨b.1, N, b.2.1⟩, b.2.2)
theorem G0 {n0 : Nd} {R : Nat} {n : Int} {N t : Nd} {d : Dk} (h : Y1 n0 R ⟨n, N, d⟩) (hid : t.id = n0.id) (hsz : Sz t) (hr : (Qq t 0).length ≤ R) (hR : R ≤ 4000000) : DY n0 R ⟨n, N, d⟩ t (Jy n N d (Qq t (Qn N t))) := by
 have h0 := h
 obtain ⟨⟨so, rs, hc, hn⟩, hsy, hdead, hdk, hNid, hNsz, hNr⟩ := h
 simp only at hc hn hsy hdead hdk hNid hNsz hNr
 have hx : (Qq t (Qn N t)).length ≤ R + 80 := by have := Uw t (Qn N t); omega
 have hfl := XG (Qq t (Qn N t))
 have hfs := XG (Qq N 0)
 have hjs := hdk.jsnap (n := n) (Qq N 0)
 rcases Dn n (Qq N 0) hdead hdk.l0 with ⟨hj, hf⟩ | ⟨l, hj, h1, h2, h3⟩ | ⟨hj, h1, h3⟩ | ⟨hj, h1⟩
 ·have hw : Jy n N d (Qq t (Qn N t)) = (⟨n, N, d⟩, 19) := by unfold Jy; rw [hj]; rfl
  rw [hw]
  exact .full _ _ h0 (Int.le_refl _) rfl (by simp only; omega)
 ·rw [hj] at hjs
  simp only at hjs
  have hc2 : ZU n0 R { d with left := l, snap := Qt (Qq N 0), log := [], synced := 0 } (some N) [] [] N := ZU.snapped hNid hNsz hNr rfl rfl
  have hja := hjs.jadd (n := 0) (Qq t (Qn N t))
  rcases Wc (d := { d with left := l, snap := Qt (Qq N 0), log := [], synced := 0 }) 0 (Qq t (Qn N t)) hdead h1 with ⟨hj2, hf2⟩ | ⟨l2, hj2, h4, h5⟩ | ⟨hj2, h4⟩
  ·have hw : Jy n N d (Qq t (Qn N t)) = (⟨0, N, { d with left := l, snap := Qt (Qq N 0), log := [], synced := 0 }⟩, 19) := by
    unfold Jy; rw [hj]; simp only; rw [hj2]; rfl
   rw [hw]
   exact .full _ _ ⟨⟨some N, [], hc2, rfl⟩, rfl, hdead, hjs, hNid, hNsz, hNr⟩ h2 rfl (by simp only [List.length_nil] at hf2 ⊢; omega)
  ·have hw : Jy n N d (Qq t (Qn N t)) = (⟨1, N, { d with left := l2, snap := Qt (Qq N 0), log := [] ++ Qt (Qq t (Qn N t)), synced := ([] ++ Qt (Qq t (Qn N t)) : List UInt8).length }⟩, 0) := by
    unfold Jy; rw [hj]; simp only; rw [hj2]; rfl
   rw [hw]
   rw [hj2] at hja
   exact .ok _ _ ⟨some N, _, hc2.next (by simp) hid hsz hr rfl rfl, rfl⟩ rfl hdead hja (by simp only at h5 ⊢; omega) rfl
  ·have hw : Jy n N d (Qq t (Qn N t)) = (⟨0, N, { d with left := 0, dead := true, snap := Qt (Qq N 0), log := [] ++ Qt (Qq t (Qn N t)), synced := 0 }⟩, 20) := by
    unfold Jy; rw [hj]; simp only; rw [hj2]; rfl
   rw [hw]
   rw [hj2] at hja
   exact .dead _ _ (by simp only at h4 ⊢; omega) (Ds hc2 (by simp) hid hsz hr hR hja rfl rfl rfl rfl) rfl
 ·rw [hj] at hjs
  have hw : Jy n N d (Qq t (Qn N t)) = (⟨n, N, { d with left := 0, dead := true, snap := Qt (Qq N 0), log := [], synced := 0 }⟩, 20) := by unfold Jy; rw [hj]; rfl
  rw [hw]
  have hc2 : ZU n0 R { d with left := 0, dead := true, snap := Qt (Qq N 0), log := [], synced := 0 } (some N) [] [] N := ZU.snapped hNid hNsz hNr rfl rfl
  exact .dead _ _ h1 (Wi hc2 hjs rfl rfl rfl rfl) rfl
 ·rw [hj] at hjs
  have hw : Jy n N d (Qq t (Qn N t)) = (⟨n, N, { d with left := 0, dead := true }⟩, 20) := by unfold Jy; rw [hj]; rfl
  rw [hw]
  exact .dead _ _ h1 (Wi hc hjs rfl rfl rfl hsy) rfl
theorem MI {n0 : Nd} {R : Nat} {n : Int} {N t : Nd} {d : Dk} (h : Y1 n0 R ⟨n, N, d⟩) (hid : t.id = n0.id) (hsz : Sz t) (hr : (Qq t 0).length ≤ R) (hR : R ≤ 4000000) : DY n0 R ⟨n, N, d⟩ t (Xj ⟨n, N, d⟩ (Qq t (Qn N t))) := by
 have h0 := h
 have h2 := G0 h hid hsz hr hR
 obtain ⟨⟨so, rs, hc, hn⟩, hsy, hdead, hdk, hNid, hNsz, hNr⟩ := h
 simp only at hc hn hsy hdead hdk hNid hNsz hNr
 have hx : (Qq t (Qn N t)).length ≤ R + 80 := by have := Uw t (Qn N t); omega
 have hfl := XG (Qq t (Qn N t))
 have hja := hdk.jadd (n := n) (Qq t (Qn N t))
 have hrs := hc.len
 by_cases hlt : n < 16
 ·rcases Wc n (Qq t (Qn N t)) hdead hdk.l0 with ⟨hj, hf⟩ | ⟨l, hj, h4, h5⟩ | ⟨hj, h4⟩
  ·by_cases hn0 : n = 0
   ·have hw : Xj ⟨n, N, d⟩ (Qq t (Qn N t)) = (⟨n, N, d⟩, 19) := by
     unfold Xj Jc
     simp only
     rw [if_pos hlt, hj]
     simp only
     rw [if_pos (.inr hn0)]
    rw [hw]
    refine .full _ _ h0 (Int.le_refl _) rfl ?_
    have hrs0 : rs = [] := List.length_eq_zero_iff.1 (by omega)
    have hlog : d.log = [] := by rw [hc.log, hrs0]; rfl
    have hsnl : d.snap.length ≤ R + 8 := by
     rw [hc.snap]
     cases so with
     | none => simp [MP]
     | some m => have := (hc.szs m rfl).2; have h2 := XG (Qq m 0); show (Qt (Qq m 0)).length ≤ _; omega
    simp only
    rw [hlog, List.length_nil] at hf
    omega
   ·have hw : Xj ⟨n, N, d⟩ (Qq t (Qn N t)) = Jy n N d (Qq t (Qn N t)) := by
     unfold Xj Jc Jy
     simp only
     rw [if_pos hlt, hj]
     simp only
     rw [if_neg (by simp [hn0])]
    rw [hw]
    exact h2
  ·have hw : Xj ⟨n, N, d⟩ (Qq t (Qn N t)) = (⟨n + 1, N, { d with left := l, log := d.log ++ Qt (Qq t (Qn N t)), synced := (d.log ++ Qt (Qq t (Qn N t))).length }⟩, 0) := by
    unfold Xj Jc
    simp only
    rw [if_pos hlt, hj]
    simp only
    rw [if_pos (.inl (by omega))]
   rw [hw]
   rw [hj] at hja
   exact .ok _ _ ⟨so, _, hc.next (by omega) hid hsz hr rfl rfl, by rw [hn, List.length_append]; rfl⟩ rfl hdead hja h5 rfl
  ·have hw : Xj ⟨n, N, d⟩ (Qq t (Qn N t)) = (⟨n, N, { d with left := 0, dead := true, log := d.log ++ Qt (Qq t (Qn N t)) }⟩, 20) := by
    unfold Xj Jc
    simp only
    rw [if_pos hlt, hj]
    simp only
    rw [if_pos (.inl (by omega))]
   rw [hw]
   rw [hj] at hja
   exact .dead _ _ h4 (Ds hc (by omega) hid hsz hr hR hja rfl rfl rfl hsy) rfl
 ·have hw : Xj ⟨n, N, d⟩ (Qq t (Qn N t)) = Jy n N d (Qq t (Qn N t)) := by
   unfold Xj Jc Jy
   simp only
   rw [if_neg hlt]
   simp only
   have hn0 : ¬ n = 0 := by omega
   rw [if_neg (by simp [hn0])]
  rw [hw]
  exact h2
inductive BV (n0 : Nd) (R : Nat) (K : Kp) (t : Nd) : Kp × Int → Prop
 | ok (K' : Kp) (h : Y1 n0 R K') (hN : K'.N = t) (hl : K'.d.left ≤ K.d.left) (hr : K'.d.room = K.d.room) : BV n0 R K t (K', 0)
 | full (K' : Kp) (h : Y1 n0 R K') (hN : K'.N = K.N) (hl : K'.d.left ≤ K.d.left) (hr : K'.d.room = K.d.room) (hf : K.d.room < 2 * R + 200) : BV n0 R K t (K', 19)
 | dead (K' : Kp) (hN : K'.N = K.N) (hl : 0 < K.d.left) (h : Rt n0 R K'.d K.N t) (hr : K'.d.room = K.d.room) : BV n0 R K t (K', 20)
theorem Wb {n0 : Nd} {R : Nat} {K : Kp} {t : Nd} (h : Y1 n0 R K) (hid : t.id = n0.id) (hsz : Sz t) (hr : (Qq t 0).length ≤ R) (hR : R ≤ 4000000) : BV n0 R K t (Qw K t 0) := by
 obtain ⟨n, N, d⟩ := K
 have hwr := MI h hid hsz hr hR
 obtain ⟨⟨so, rs, hc, hn⟩, hsy, hdead, hdk, hNid, hNsz, hNr⟩ := h
 simp only at hc hn hsy hdead hdk hNid hNsz hNr
 unfold Qw
 rw [if_neg (by simp)]
 by_cases hsame : Qp N = Qp t
 ·rw [if_pos hsame]
  refine .ok _ ⟨⟨so, rs, ?_, hn⟩, hsy, hdead, hdk, hid, hsz, hr⟩ rfl (Int.le_refl _) rfl
  exact ⟨hc.snap, hc.log, hc.stop, hc.len, hc.szs, hc.szr, hc.lay, hsame.symm.trans hc.same⟩
 rw [if_neg hsame]
 simp only
 generalize Xj ⟨n, N, d⟩ (Qq t (Qn N t)) = w at hwr ⊢
 cases hwr with
 | ok n' d' hc hs hd hk hl hr' =>
  rw [if_pos rfl]
  exact .ok _ ⟨hc, hs, hd, hk, hid, hsz, hr⟩ rfl hl hr'
 | full n' d' h hl hr' hf =>
  rw [if_neg (by simp)]
  exact .full _ h rfl hl hr' hf
 | dead n' d' hl h hr' =>
  rw [if_neg (by simp)]
  exact .dead _ rfl hl h hr'
end Go.Proofs.YtjbokbikkcfjjaaGreat
