/-
  keep: a kept replica: write.
  keep: a kept replica: keep, sent, put.
  keep: a kept replica: its faces.
  keep.Open.
  Chapter 19 in plain words: what stands on a disk, whatever the power does.
-/
import Derived.Test.YtjbokbikkcfjjaaGreatAav
import Derived.Test.YtjbokbikkcfjjaaGreatAaw
section
set_option maxRecDepth 16000
namespace Go.Cap
section
variable {K : Ctx} {t : Env} {H Hs Hr : Heap} {N : Env → Heap → Prop} {ops : Array Oper} {i : Nat} {tp : TypeId} {pos : String} {aft : Array Edge} {kd : Tmp} {eff : List Nat} {pend : List Pend} {al : List (Nat × Oper)}
theorem a_cHr {f : FuncId} {xs : Array Operand} {ats : Array TypeId} {args : List T} {Φ : T → Heap → Prop} (hf : FnH K.P f args Hs Φ) (hp : H.Perm (Hs ++ Hr))
    (hn : ∀ r H', Φ r H' → PendOk ops ⟨some kd, .call ⟨.value (.func f), xs, ats⟩, tp, pos, aft, none⟩ (H' ++ Hr) pend ∧ ∃ pend', PDrop ops ⟨some kd, .call ⟨.value (.func f), xs, ats⟩, tp, pos, aft, none⟩ pend pend' ∧ AnyFrom K ops eff N al ((kd, r) :: t) (H' ++ Hr) pend') (hc : callable K.P f = true := by rfl) (ha' : autoParam (EvL t xs.toList args) ze._auto_1) (hd : Nat.blt kd K.n = true := by rfl) (he : memN eff i = true := by rfl) :
    AnyFrom K ops eff N ((i, ⟨some kd, .call ⟨.value (.func f), xs, ats⟩, tp, pos, aft, none⟩) :: al) t H pend :=
  a_effP (fun _ h1 => eop_callH (Hr := Hr) hf hp hc (ha'.trans fun x hx => h1 x (by simp [Op.operands, Call.operands]; exact .inr (by simpa using hx))) (by simpa [okDst] using hd) fun r H' hr' => by
    obtain ⟨h1, p', h2, h3⟩ := hn r H' hr'
    exact ⟨_, p', rfl, h1, h2, h3⟩) he
end
end Go.Cap
namespace Go.Proofs.YtjbokbikkcfjjaaGreat
open Go.Cap
set_option linter.unusedSimpArgs false
set_option linter.unusedVariables false
attribute [local irreducible] POp SimFrom DrawFrom EOp Sim FnH T.gp
structure DkR (d : Dk) : Prop where
  l0 : 0 ≤ d.left
  l1 : d.left ≤ 1000000000
  r0 : 0 ≤ d.room
  r1 : d.room ≤ 16777216
  fit : ((d.log.length + d.snap.length : Nat) : Int) ≤ d.room
theorem DkR.ok {d : Dk} (h : DkR d) : DkOk d := ⟨h.l0, h.l1, h.r0, h.r1, by have := h.fit; have := h.r1; omega⟩
theorem DkR.spend {d : Dk} (h : DkR d) : DkR (spendF d).1 := by
  have h0 := h.l0
  have h1 := h.l1
  unfold spendF
  split
  · exact ⟨by simp only; omega, by simp only; omega, h.r0, h.r1, h.fit⟩
  · exact h
theorem spend_log (d : Dk) : (spendF d).1.log = d.log ∧ (spendF d).1.snap = d.snap ∧ (spendF d).1.room = d.room := by
  unfold spendF
  split <;> exact ⟨rfl, rfl, rfl⟩
theorem DkR.app {d : Dk} (h : DkR d) (x : List UInt8) : DkR (appF d x).1 := by
  have hs := h.spend
  obtain ⟨e1, e2, e3⟩ := spend_log d
  unfold appF
  split
  · exact h
  · split
    · exact h
    · rename_i hf
      exact ⟨hs.l0, hs.l1, hs.r0, hs.r1, by simp only [e2, e3, List.length_append]; omega⟩
theorem DkR.sync {d : Dk} (h : DkR d) : DkR (syncF d).1 := by
  have hs := h.spend
  unfold syncF
  split
  · exact h
  · split
    · exact ⟨hs.l0, hs.l1, hs.r0, hs.r1, hs.fit⟩
    · exact hs
theorem DkR.swap {d : Dk} (h : DkR d) (x : List UInt8) : DkR (swapF d x).1 := by
  have hs := h.spend
  obtain ⟨e1, e2, e3⟩ := spend_log d
  unfold swapF
  split
  · exact h
  · split
    · exact h
    · rename_i hf
      split
      · exact ⟨hs.l0, hs.l1, hs.r0, hs.r1, by simp only [e3, List.length_nil]; omega⟩
      · exact hs
theorem DkR.jadd {n : Int} {d : Dk} (h : DkR d) (x : List UInt8) : DkR (jaddF n d x).2.1 := by
  unfold jaddF
  simp only
  split
  · split
    · exact (h.app _).sync
    · exact (h.app _).sync
  · exact h.app _
theorem DkR.jsnap {n : Int} {d : Dk} (h : DkR d) (x : List UInt8) : DkR (jsnapF n d x).2.1 := by
  unfold jsnapF
  simp only
  split <;> exact h.swap _
theorem jadd_n (n : Int) (d : Dk) (x : List UInt8) : (jaddF n d x).1 = n ∨ (jaddF n d x).1 = n + 1 := by
  unfold jaddF
  simp only
  split
  · split
    · exact .inr rfl
    · exact .inl rfl
  · exact .inl rfl
theorem jsnap_n (n : Int) (d : Dk) (x : List UInt8) : (jsnapF n d x).1 = n ∨ (jsnapF n d x).1 = 0 := by
  unfold jsnapF
  simp only
  split
  · exact .inr rfl
  · exact .inl rfl
structure Kp where
  n : Int
  N : Nd
  d : Dk
def tK : TypeId := 95
def KpH (bk bj bd : Nat) (K : Kp) : Heap := (bk, ⟨tK, pW bj :: nodeC K.N (.sl false (K.N.log.map een)), 23⟩) :: JrH bj bd K.n K.d
def wr1F (K : Kp) (x : List UInt8) : Int × Dk × Int := if K.n < 16 then jaddF K.n K.d x else (K.n, K.d, 19)
def writeF (K : Kp) (x : List UInt8) : Kp × Int :=
  let a := wr1F K x
  if ¬ a.2.2 = 19 ∨ a.1 = 0 then (⟨a.1, K.N, a.2.1⟩, a.2.2) else
  let s := jsnapF a.1 a.2.1 (recB K.N 0)
  if ¬ s.2.2 = 0 then (⟨s.1, K.N, s.2.1⟩, s.2.2) else
  let b := jaddF s.1 s.2.1 x
  (⟨b.1, K.N, b.2.1⟩, b.2.2)
set_option maxHeartbeats 2000000 in
theorem write_fn (bk bj bd : Nat) (K : Kp) (x : List UInt8) (hd : DkR K.d) (hN : Sz K.N) (hr : (recB K.N 0).length ≤ 4194304) (hx : x.length ≤ 4194304) (h0 : 0 ≤ K.n) (h1 : K.n ≤ 100) :
    FnH Tryz.prog 140 [pW bk, bl x] (KpH bk bj bd K) (fun r H => r = ei (writeF K x).2 ∧ H = KpH bk bj bd (writeF K x).1) := by
  obtain ⟨n, N, d⟩ := K
  simp only at hd hN hr h0 h1
  have hc1 := count_fn bj bd n d
  have ha1 := jadd_fn bj bd n d x hd.ok (hd.app _).ok hx h0 (by omega)
  obtain ⟨⟨na, da, ea⟩, hwa⟩ : ∃ a, wr1F ⟨n, N, d⟩ x = a := ⟨_, rfl⟩
  have hda : DkR da := by
    have : DkR (wr1F ⟨n, N, d⟩ x).2.1 := by
      unfold wr1F; split
      · exact hd.jadd x
      · exact hd
    rw [hwa] at this; exact this
  have hna : 0 ≤ na ∧ na ≤ 101 := by
    have : (wr1F ⟨n, N, d⟩ x).1 = n ∨ (wr1F ⟨n, N, d⟩ x).1 = n + 1 := by
      unfold wr1F; split
      · exact jadd_n n d x
      · exact .inl rfl
    rw [hwa] at this; simp only at this; omega
  have hc2 := count_fn bj bd na da
  have hby := bytes_fn N 0 hN (Nat.zero_le _)
  have hsn := jsnap_fn bj bd na da (recB N 0) hda.ok hr
  obtain ⟨⟨ns, ds, es'⟩, hws⟩ : ∃ a, jsnapF na da (recB N 0) = a := ⟨_, rfl⟩
  have hds : DkR ds := by
    have := hda.jsnap (n := na) (recB N 0)
    rw [hws] at this; exact this
  have hns : 0 ≤ ns ∧ ns ≤ 101 := by
    have := jsnap_n na da (recB N 0)
    rw [hws] at this; simp only at this; omega
  rw [hws] at hsn
  simp only at hsn
  have ha2 := jadd_fn bj bd ns ds x hds.ok (hds.app _).ok hx hns.1 (by omega)
  have hA : writeF ⟨n, N, d⟩ x = if ¬ ea = 19 ∨ na = 0 then (⟨na, N, da⟩, ea) else if ¬ es' = 0 then (⟨ns, N, ds⟩, es') else (⟨(jaddF ns ds x).1, N, (jaddF ns ds x).2.1⟩, (jaddF ns ds x).2.2) := by
    unfold writeF
    rw [hwa]
    simp only
    rw [hws]
  rw [hA]
  refine fn_enter Tryz.func140 (by rfl) (by rfl) ?_
  intro S0 w0
  show Sim _ _ [(0, pW bk), (1, bl x)] ((bk, ⟨tK, pW bj :: nodeC N (.sl false (N.log.map een)), 23⟩) :: JrH bj bd n d) _
  refine zC ?_
  apply cr
  refine s_ p_as ?_
  refine zC ?_
  apply cr
  refine s_ p_as ?_
  refine zC ?_
  apply cr
  refine s_ p_mv ?_
  refine s_ p_nc ?_
  refine s_ p_fr ?_
  refine s_ p_lo ?_
  refine e_cH (Hr := [_]) hc1 (List.perm_append_comm (l₁ := [_])) (fun r H' ⟨hr1, hr2⟩ => ?_)
  subst hr1 hr2
  refine from_perm List.perm_append_comm ?_
  refine s_ p_lt ?_
  refine zC ?_
  refine sim_cut [(0, pW bk), (1, bl x), (5, ei ea)] ((bk, ⟨tK, pW bj :: nodeC N (.sl false (N.log.map een)), 23⟩) :: JrH bj bd na da) ?_ ?_
  · refine ci ?_ ?_
    · intro hlt
      have hlt' : n < 16 := hlt
      have hw : jaddF n d x = (na, da, ea) := by rw [← hwa, wr1F, if_pos hlt']
      rw [hw] at ha1
      refine zC ?_
      apply cr
      refine s_ p_mv ?_
      refine s_ p_nc ?_
      refine s_ p_fr ?_
      refine s_ p_lo ?_
      refine s_ p_mv ?_
      refine e_cH (Hr := [_]) ha1 (List.perm_append_comm (l₁ := [_])) (fun r H' ⟨hr1, hr2⟩ => ?_)
      subst hr1 hr2
      refine from_perm List.perm_append_comm ?_
      refine s_ p_as ?_
      refine zC ?_
      exact ⟨eL, kR⟩
    · intro hlt
      have hlt' : ¬ n < 16 := hlt
      have hw : (n, d, (19 : Int)) = (na, da, ea) := by rw [← hwa, wr1F, if_neg hlt']
      simp only [Prod.mk.injEq] at hw
      obtain ⟨rfl, rfl, rfl⟩ := hw
      refine zC ?_
      exact ⟨eL, kR⟩
  by_cases hea : ea = 19
  · have hnn : ¬ ¬ ea = 19 := fun h => h hea
    refine zC ?_
    apply cr
    refine s_ p_mv ?_
    refine s_ p_ne ?_
    refine s_ p_mv ?_
    refine gF (fun hg => p_mv) ?_
    refine gF (fun hg => p_nc (hx := u_ hg)) ?_
    refine gF (fun hg => p_fr (hx := u_ hg)) ?_
    refine gF (fun hg => p_lo (hx := u_ hg)) ?_
    refine gF_cH (p := ¬ ea = 19) (Hr := [_]) hnn hc2 (List.perm_append_comm (l₁ := [_])) (fun r H' ⟨hr1, hr2⟩ => ?_) (ha' := evl_cons (u_ hnn) evl_nil)
    subst hr1 hr2
    refine from_perm List.perm_append_comm ?_
    refine gF (p := ¬ ea = 19) (fun hg => p_eq) ?_
    refine s_ p_or ?_
    refine zC ?_
    refine ci ?_ ?_
    · intro h
      rw [if_pos h]
      refine zC ?_
      apply cr
      refine s_ p_mv ?_
      refine s_ p_as ?_
      refine zC ?_
      refine zR ?_
      exact rh kR ⟨rfl, rfl⟩ (Le.refl _)
    intro h
    rw [if_neg h]
    refine zC ?_
    refine ca [0, 1, 2, 3, 4, 5, 6, 7, 8, 9, 10] [9] ?_
    refine a_ (fun _ => p_mv) ?_
    refine a_ (fun _ => p_nc) ?_
    refine a_ (fun _ => p_fr) ?_
    refine a_lo ?_
    refine a_ (fun _ => p_mv) ?_
    refine a_ (fun _ => p_nc) ?_
    refine a_ (fun _ => p_fr) ?_
    refine a_loa ?_
    refine a_ (fun _ => p_ca (hby)) ?_
    refine a_cHr (Hr := [_]) hsn (List.perm_append_comm (l₁ := [_])) (fun r H' ⟨hr1, hr2⟩ => ⟨?_, ?_⟩)
    · subst hr1 hr2; exact zd
    subst hr1 hr2
    refine zD ?_
    refine a_ (fun _ => p_as) ?_
    apply an
    refine zC ?_
    refine sim_perm List.perm_append_comm ?_
    refine zC ?_
    apply cr
    refine s_ p_mv ?_
    refine s_ p_ne ?_
    refine zC ?_
    refine ci ?_ ?_
    · intro he
      have he' : ¬ es' = 0 := he
      rw [if_pos he']
      refine zC ?_
      apply cr
      refine s_ p_mv ?_
      refine s_ p_as ?_
      refine zC ?_
      refine zR ?_
      exact rh kR ⟨rfl, rfl⟩ (Le.refl _)
    intro he
    have he' : ¬ ¬ es' = 0 := he
    rw [if_neg he']
    refine zC ?_
    apply cr
    refine s_ p_mv ?_
    refine s_ p_nc ?_
    refine s_ p_fr ?_
    refine s_ p_lo ?_
    refine s_ p_mv ?_
    refine e_cH (Hr := [_]) ha2 (List.perm_append_comm (l₁ := [_])) (fun r H' ⟨hr1, hr2⟩ => ?_)
    subst hr1 hr2
    refine from_perm List.perm_append_comm ?_
    refine s_ p_as ?_
    refine zC ?_
    refine zR ?_
    exact rh kR ⟨rfl, rfl⟩ (Le.refl _)
  · rw [if_pos (.inl hea)]
    refine zC ?_
    apply cr
    refine s_ p_mv ?_
    refine s_ p_ne ?_
    refine s_ p_mv ?_
    refine gF (fun hg => p_mv) ?_
    refine gF (fun hg => p_nc (hx := u_ hg)) ?_
    refine gF (fun hg => p_fr (hx := u_ hg)) ?_
    refine gF (fun hg => p_lo (hx := u_ hg)) ?_
    refine gF (p := ¬ ea = 19) (d := .any) (fun hg => absurd hea hg) ?_
    refine gF (p := ¬ ea = 19) (d := .v (.bool (decide False))) (fun hg => absurd hea hg) ?_
    refine s_ p_or ?_
    refine zC ?_
    refine ci ?_ ?_
    · intro _
      refine zC ?_
      apply cr
      refine s_ p_mv ?_
      refine s_ p_as ?_
      refine zC ?_
      refine zR ?_
      exact rh kR ⟨rfl, rfl⟩ (Le.refl _)
    · intro h; exact absurd (.inl hea) h
end Go.Proofs.YtjbokbikkcfjjaaGreat
end
section
set_option maxRecDepth 16000
namespace Go.Proofs.YtjbokbikkcfjjaaGreat
open Go.Cap
set_option linter.unusedSimpArgs false
set_option linter.unusedVariables false
attribute [local irreducible] POp SimFrom DrawFrom EOp Sim FnH T.gp
attribute [local irreducible] SimD SimFromD
def tN : TypeId := 44
def bxH (b6 b4 b3 bk : Nat) (e : Int) (t : Nd) : Heap := [(b6, ⟨25, [ei e], 1⟩), (b4, ⟨tN, nodeC t (.sl false (t.log.map een)), 22⟩), (b3, ⟨162, [pW bk], 1⟩)]
theorem kdef_fn (b6 b4 b3 bk bj bd : Nat) (e : Int) (t : Nd) (K : Kp) (ht : t.log.length ≤ 1000000000) :
    DfH Tryz.prog 138 #[.pointer (some ⟨b6, 0, none⟩), .pointer (some ⟨b4, 0, none⟩), .pointer (some ⟨b3, 0, none⟩)] (bxH b6 b4 b3 bk e t ++ KpH bk bj bd K) (fun H => H = bxH b6 b4 b3 bk e t ++ KpH bk bj bd (if e = 0 then { K with N := t } else K)) := by
  have ho := kown_fn t ht
  obtain ⟨n, N, d⟩ := K
  refine dfH_enter Tryz.func138 (vs := [.pointer (some ⟨b6, 0, none⟩), .pointer (some ⟨b4, 0, none⟩), .pointer (some ⟨b3, 0, none⟩)]) (by rfl) (by rfl) (by rfl) ?_
  intro S0 w0
  show Sim _ _ [(0, pW b6), (1, pW b4), (2, pW b3)] ((b6, ⟨25, [ei e], 1⟩) :: (b4, ⟨tN, nodeC t (.sl false (t.log.map een)), 22⟩) :: (b3, ⟨162, [pW bk], 1⟩) :: (bk, ⟨tK, pW bj :: nodeC N (.sl false (N.log.map een)), 23⟩) :: JrH bj bd n d) _
  refine zC ?_
  apply cr
  refine s_ p_lo ?_
  refine s_ p_eq ?_
  refine zC ?_
  refine ci ?_ ?_
  · intro he
    have he' : e = 0 := he
    rw [if_pos he']
    refine zC ?_
    refine ca [0, 1, 2, 3, 4, 5] [5] ?_
    refine a_lo ?_
    refine a_loa ?_
    refine a_ (fun _ => p_ca (ho)) ?_
    refine a_ (fun _ => p_nc) ?_
    refine a_ (fun _ => p_fr) ?_
    refine a_st ?_
    apply an
    refine zC ?_
    exact ⟨.inl rfl, _, kR, rfl⟩
  · intro he
    have he' : ¬ e = 0 := he
    rw [if_neg he']
    refine zC ?_
    exact ⟨.inl rfl, _, kR, rfl⟩
def keepF (K : Kp) (t : Nd) (e : Int) : Kp × Int := if ¬ e = 0 then (K, e) else if wakeF K.N = wakeF t then ({ K with N := t }, 0) else
  (if (writeF K (recB t (alikeF K.N t))).2 = 0 then { (writeF K (recB t (alikeF K.N t))).1 with N := t } else (writeF K (recB t (alikeF K.N t))).1, (writeF K (recB t (alikeF K.N t))).2)
structure KpOk (K : Kp) : Prop where
  d : DkR K.d
  sz : Sz K.N
  rec_ : (recB K.N 0).length ≤ 4000000
  n0 : 0 ≤ K.n
  n1 : K.n ≤ 100
theorem recB_le (t : Nd) (k : Nat) : (recB t k).length ≤ (recB t 0).length + 80 := by
  have h1 := intsB_len (headB t k)
  have h2 : (headB t k).length = 8 := rfl
  have h3 : (t.log.flatMap entB).length = ((t.log.take k).flatMap entB).length + ((t.log.drop k).flatMap entB).length := by
    conv => lhs; rw [← List.take_append_drop k t.log]
    rw [List.flatMap_append, List.length_append]
  unfold recB
  simp only [List.length_append, List.drop_zero]
  omega
set_option maxHeartbeats 4000000 in
theorem keep_fn (bk bj bd : Nat) (K : Kp) (t : Nd) (e : Int) (hK : KpOk K) (ht : Sz t) (hx : (recB t 0).length ≤ 4000000) :
    FnH Tryz.prog 101 [pW bk, nd t, ei e] (KpH bk bj bd K) (fun r H => r = ei (keepF K t e).2 ∧ H = KpH bk bj bd (keepF K t e).1) := by
  have htl := ht.len
  have hNl := hK.sz.len
  have hw1 := wake_fn K.N (by omega)
  have hw2 := wake_fn t (by omega)
  have hsm := same_fn (wakeF K.N) (wakeF t) (by show K.N.log.length ≤ _; omega) (by show t.log.length ≤ _; omega)
  have hal := alike_fn K.N t (by omega) (by omega)
  have hale : alikeF K.N t ≤ t.log.length := by
    unfold alikeF
    split
    · exact (pfx_le _ _).2
    · omega
  have hrl : (recB t (alikeF K.N t)).length ≤ 4194304 := by
    have := recB_le t (alikeF K.N t)
    omega
  have hby := bytes_fn t (alikeF K.N t) ht hale
  have hwr := write_fn bk bj bd K (recB t (alikeF K.N t)) hK.d hK.sz (by have := hK.rec_; omega) hrl hK.n0 hK.n1
  obtain ⟨⟨K', ew⟩, hwe⟩ : ∃ a, writeF K (recB t (alikeF K.N t)) = a := ⟨_, rfl⟩
  rw [hwe] at hwr
  simp only at hwr
  have hA : keepF K t e = if ¬ e = 0 then (K, e) else if wakeF K.N = wakeF t then ({ K with N := t }, 0) else (if ew = 0 then { K' with N := t } else K', ew) := by
    unfold keepF
    rw [hwe]
  rw [hA]
  obtain ⟨n, N, d⟩ := K
  refine fn_enterD Tryz.func101 (by rfl) (by rfl) ?_
  intro S0 w0 hw0
  show SimD _ _ _ [(0, pW bk), (1, T.agg (nodeC t (.sl false (t.log.map een)))), (2, ei e)] ((bk, ⟨tK, pW bj :: nodeC N (.sl false (N.log.map een)), 23⟩) :: JrH bj bd n d) _
  refine simD_seq ?_
  refine zC ?_
  apply cr
  refine e_b1 fun b3 _ => ?_
  refine e_bx fun b4 _ => ?_
  refine e_al fun b6 _ => ?_
  refine zC ?_
  refine ⟨rfl, ?_⟩
  refine simD_region ?_
  refine d_s p_mf ?_
  refine d_defer [.pointer (some ⟨b6, 0, none⟩), .pointer (some ⟨b4, 0, none⟩), .pointer (some ⟨b3, 0, none⟩)] ?_ rfl rfl (zl)
  refine simD_end hw0 ?_
  refine zC ?_
  apply cr
  refine s_ p_mv ?_
  refine s_ p_ne ?_
  refine s_ p_as ?_
  refine zC ?_
  refine ci ?_ ?_
  · intro he
    have he' : ¬ e = 0 := he
    rw [if_pos he']
    refine zC ?_
    apply cr
    refine s_ p_mv ?_
    refine e_st ?_
    refine zC ?_
    apply sim_ret
    refine ⟨_, kdef_fn b6 b4 b3 bk bj bd e t ⟨n, N, d⟩ (by omega), ?_⟩
    rintro H1 rfl
    rw [if_neg he']
    exact ⟨_, _, _, zrs, Le.refl _, ⟨rfl, rfl⟩, (HeapFront.skip _ _ _ (.skip _ _ _ (.skip _ _ _ kR))).le⟩
  intro he
  have he' : e = 0 := Decidable.not_not.1 he
  rw [if_neg he]
  refine zC ?_
  refine ca [0, 1, 2, 3, 4, 5, 6, 7, 8] [] ?_
  refine a_lo ?_
  refine a_ (fun _ => p_nc) ?_
  refine a_ (fun _ => p_fr) ?_
  refine a_loa ?_
  refine a_ (fun _ => p_ca (hw1)) ?_
  refine a_loa ?_
  refine a_ (fun _ => p_ca (hw2)) ?_
  refine a_ (fun _ => p_ca (hsm)) ?_
  refine a_ (fun _ => p_as) ?_
  apply an
  refine zC ?_
  refine ci ?_ ?_
  · intro hs
    have hs' : wakeF N = wakeF t := hs
    rw [if_pos hs']
    refine zC ?_
    apply cr
    refine e_st ?_
    refine zC ?_
    apply sim_ret
    refine ⟨_, kdef_fn b6 b4 b3 bk bj bd 0 t ⟨n, N, d⟩ (by omega), ?_⟩
    rintro H1 rfl
    rw [if_pos rfl]
    exact ⟨_, _, _, zrs, Le.refl _, ⟨rfl, rfl⟩, (HeapFront.skip _ _ _ (.skip _ _ _ (.skip _ _ _ kR))).le⟩
  intro hs
  have hs' : ¬ wakeF N = wakeF t := hs
  rw [if_neg hs']
  refine zC ?_
  refine ca [0, 1, 2, 3, 4, 5, 6, 7, 8, 9, 10] [9, 10] ?_
  refine a_lo ?_
  refine a_loa ?_
  refine a_lo ?_
  refine a_ (fun _ => p_nc) ?_
  refine a_ (fun _ => p_fr) ?_
  refine a_loa ?_
  refine a_loa ?_
  refine a_ (fun _ => p_ca (hal)) ?_
  refine a_ (fun _ => p_ca (hby)) ?_
  refine a_cHr (Hr := [_, _, _]) hwr (List.perm_append_comm (l₁ := [_, _, _])) (fun r H' ⟨hr1, hr2⟩ => ⟨?_, ?_⟩)
  · subst hr1 hr2; exact zd
  subst hr1 hr2
  refine zD ?_
  refine a_st ?_
  apply an
  refine zC ?_
  refine sim_perm (H' := bxH b6 b4 b3 bk ew t ++ KpH bk bj bd K') (List.perm_append_comm (l₁ := KpH bk bj bd K') (l₂ := bxH b6 b4 b3 bk ew t)) ?_
  apply sim_ret
  refine ⟨_, kdef_fn b6 b4 b3 bk bj bd ew t K' (by omega), ?_⟩
  rintro H1 rfl
  exact ⟨_, _, _, zrs, Le.refl _, ⟨rfl, rfl⟩, (HeapFront.skip _ _ _ (.skip _ _ _ (.skip _ _ _ kR))).le⟩
theorem sent_fn (bk bj bd : Nat) (K : Kp) (t : Nd) (l : List Ms) (hK : KpOk K) (ht : Sz t) (hx : (recB t 0).length ≤ 4000000) :
    FnH Tryz.prog 75 [pW bk, nd t, mss l] (KpH bk bj bd K) (fun r H => r = .tup [if (keepF K t 0).2 = 0 then mss l else .sl true [], ei (keepF K t 0).2] ∧ H = KpH bk bj bd (keepF K t 0).1) := by
  have hk := keep_fn bk bj bd K t 0 hK ht hx
  obtain ⟨⟨K', e⟩, hke⟩ : ∃ a, keepF K t 0 = a := ⟨_, rfl⟩
  rw [hke] at hk ⊢
  simp only at hk ⊢
  refine fn_enter Tryz.func75 (by rfl) (by rfl) ?_
  intro S0 w0
  show Sim _ _ [(0, pW bk), (1, T.agg (nodeC t (.sl false (t.log.map een)))), (2, mss l)] (KpH bk bj bd K) _
  refine zC ?_
  apply cr
  refine e_bx fun b4 _ => ?_
  refine s_ p_as ?_
  refine s_ p_as ?_
  refine zC ?_
  apply cr
  refine s_ p_mv ?_
  refine s_ p_mf ?_
  refine s_ p_as ?_
  refine zC ?_
  apply cr
  refine s_ p_mv ?_
  refine s_ p_loa ?_
  refine e_vH (fs := [pW bk]) (args := [nd t, ei 0]) (cs := []) hk (Hr := [_]) (List.perm_append_comm (l₁ := [_])) (fun r H' ⟨hr1, hr2⟩ => ?_)
  subst hr1 hr2
  refine s_ p_as ?_
  refine zC ?_
  apply cr
  refine s_ p_mv ?_
  refine s_ p_ne ?_
  refine zC ?_
  refine ci ?_ ?_
  · intro he
    have he' : ¬ e = 0 := he
    rw [if_neg he']
    refine zC ?_
    apply cr
    refine s_ p_mv ?_
    refine s_ p_as ?_
    refine s_ p_as ?_
    refine zC ?_
    refine zR ?_
    refine rhp List.perm_append_comm (.skip _ _ _ kR) ⟨rfl, rfl⟩ ?_
    exact Le.tup (LeL.cons (Le.slice0 _ _) (LeL.cons (Le.refl _) LeL.nil))
  · intro he
    have he' : e = 0 := Decidable.not_not.1 he
    rw [if_pos he', he']
    refine zC ?_
    apply cr
    refine s_ p_mv ?_
    refine s_ p_as ?_
    refine s_ p_as ?_
    refine zC ?_
    refine zR ?_
    exact rhp List.perm_append_comm (.skip _ _ _ kR) ⟨rfl, rfl⟩ (Le.refl _)
end Go.Proofs.YtjbokbikkcfjjaaGreat
end
section
set_option maxRecDepth 16000
namespace Go.Proofs.YtjbokbikkcfjjaaGreat
open Go.Cap
set_option linter.unusedSimpArgs false
set_option linter.unusedVariables false
attribute [local irreducible] POp SimFrom DrawFrom EOp Sim FnH T.gp
def sentT (K : Kp) (t : Nd) (l : List Ms) : T := .tup [if (keepF K t 0).2 = 0 then mss l else .sl true [], ei (keepF K t 0).2]
theorem kTick_fn (bk bj bd : Nat) (K : Kp) {t : Nd} {l : List Ms} (hT : FnP Tryz.prog 76 [nd K.N] (fun r => r = .tup [nd t, mss l])) (hK : KpOk K) (ht : Sz t) (hx : (recB t 0).length ≤ 4000000) :
    FnH Tryz.prog 47 [pW bk] (KpH bk bj bd K) (fun r H => r = sentT K t l ∧ H = KpH bk bj bd (keepF K t 0).1) := by
  have hs := sent_fn bk bj bd K t l hK ht hx
  obtain ⟨n, N, d⟩ := K
  refine fn_enter Tryz.func47 (by rfl) (by rfl) ?_
  intro S0 w0
  show Sim _ _ [(0, pW bk)] ((bk, ⟨tK, pW bj :: nodeC N (.sl false (N.log.map een)), 23⟩) :: JrH bj bd n d) _
  refine zC ?_
  apply cr
  refine s_ p_as ?_
  refine s_ p_as ?_
  refine zC ?_
  refine ca [0, 1, 2, 3, 4, 5, 6, 7, 8, 9, 10, 11, 12, 13, 14, 15] [11] ?_
  refine a_ (fun _ => p_mv) ?_
  refine a_ (fun _ => p_nc) ?_
  refine a_ (fun _ => p_fr) ?_
  refine a_ (fun _ => p_mv) ?_
  refine a_ (fun _ => p_nc) ?_
  refine a_ (fun _ => p_fr) ?_
  refine a_ (fun _ => p_fr) ?_
  refine a_loa ?_
  refine a_ (fun _ => p_ca (hT)) ?_
  refine a_ (fun _ => p_ex) ?_
  refine a_ (fun _ => p_ex) ?_
  refine a_cH hs (fun r H' ⟨hr1, hr2⟩ => ⟨?_, ?_⟩)
  · subst hr1 hr2; exact zd
  subst hr1 hr2
  refine zD ?_
  refine a_ (fun _ => p_ex) ?_
  refine a_ (fun _ => p_ex) ?_
  refine a_ (fun _ => p_as) ?_
  refine a_ (fun _ => p_as) ?_
  apply an
  refine zC ?_
  refine zR ?_
  exact rh kR ⟨rfl, rfl⟩ (Le.refl _)
theorem kTake_fn (bk bj bd : Nat) (K : Kp) (m : Ms) {t : Nd} {l : List Ms} (hT : FnP Tryz.prog 100 [nd K.N, ms m] (fun r => r = .tup [nd t, mss l])) (hK : KpOk K) (ht : Sz t) (hx : (recB t 0).length ≤ 4000000) :
    FnH Tryz.prog 69 [pW bk, ms m] (KpH bk bj bd K) (fun r H => r = sentT K t l ∧ H = KpH bk bj bd (keepF K t 0).1) := by
  have hs := sent_fn bk bj bd K t l hK ht hx
  obtain ⟨n, N, d⟩ := K
  refine fn_enter Tryz.func69 (by rfl) (by rfl) ?_
  intro S0 w0
  show Sim _ _ [(0, pW bk), (1, T.agg (msC m (eens m.entries)))] ((bk, ⟨tK, pW bj :: nodeC N (.sl false (N.log.map een)), 23⟩) :: JrH bj bd n d) _
  refine zC ?_
  apply cr
  refine e_bx fun b3 _ => ?_
  refine s_ p_as ?_
  refine s_ p_as ?_
  refine zC ?_
  refine ca [0, 1, 2, 3, 4, 5, 6, 7, 8, 9, 10, 11, 12, 13, 14, 15, 16] [12] ?_
  refine a_ (fun _ => p_mv) ?_
  refine a_ (fun _ => p_nc) ?_
  refine a_ (fun _ => p_fr) ?_
  refine a_ (fun _ => p_mv) ?_
  refine a_ (fun _ => p_nc) ?_
  refine a_ (fun _ => p_fr) ?_
  refine a_ (fun _ => p_fr) ?_
  refine a_loa ?_
  refine a_loa ?_
  refine a_ (fun _ => p_ca (hT)) ?_
  refine a_ (fun _ => p_ex) ?_
  refine a_ (fun _ => p_ex) ?_
  refine a_cHr (Hr := [_]) hs (List.perm_append_comm (l₁ := [_])) (fun r H' ⟨hr1, hr2⟩ => ⟨?_, ?_⟩)
  · subst hr1 hr2; exact zd
  subst hr1 hr2
  refine zD ?_
  refine a_ (fun _ => p_ex) ?_
  refine a_ (fun _ => p_ex) ?_
  refine a_ (fun _ => p_as) ?_
  refine a_ (fun _ => p_as) ?_
  apply an
  refine zC ?_
  refine zR ?_
  exact rhp List.perm_append_comm (.skip _ _ _ kR) ⟨rfl, rfl⟩ (Le.refl _)
theorem kNode_fn (bk bj bd : Nat) (K : Kp) (hl : K.N.log.length ≤ 1000000000) : FnH Tryz.prog 23 [pW bk] (KpH bk bj bd K) (fun r H => r = nd K.N ∧ H = KpH bk bj bd K) := by
  have ho := kown_fn K.N hl
  obtain ⟨n, N, d⟩ := K
  refine fn_enter Tryz.func23 (by rfl) (by rfl) ?_
  intro S0 w0
  show Sim _ _ [(0, pW bk)] ((bk, ⟨tK, pW bj :: nodeC N (.sl false (N.log.map een)), 23⟩) :: JrH bj bd n d) _
  refine zC ?_
  apply cr
  refine e_al fun b2 _ => ?_
  refine zC ?_
  apply cr
  refine s_ p_mv ?_
  refine s_ p_nc ?_
  refine s_ p_fr ?_
  refine s_ p_fr ?_
  refine s_ p_loa ?_
  refine s_ (p_ca (ho)) ?_
  refine e_st ?_
  refine zC ?_
  refine zR ?_
  exact rh (.skip _ _ _ kR) ⟨rfl, rfl⟩ (Le.refl _)
end Go.Proofs.YtjbokbikkcfjjaaGreat
end
section
set_option maxRecDepth 16000
namespace Go.Proofs.YtjbokbikkcfjjaaGreat
open Go.Cap
set_option linter.unusedSimpArgs false
set_option linter.unusedVariables false
attribute [local irreducible] POp SimFrom DrawFrom EOp Sim FnH T.gp
def layAll (n : Nd) (rs : List (Nd × Nat)) : Nd := rs.foldl (fun n p => layF n p.1 p.2) n
def rec1 (p : Nd × Nat) : List UInt8 := recB p.1 p.2
def openN (n0 : Nd) (so : Option Nd) (rs : List (Nd × Nat)) : Nd := layAll (match so with | none => n0 | some m => layF n0 m 0) rs
def openF (n0 : Nd) (so : Option Nd) (rs : List (Nd × Nat)) : Nd := if so = none ∧ rs = [] then n0 else wakeF (openN n0 so rs)
theorem recB_pos (m : Nd) (k : Nat) : 0 < (recB m k).length := by
  have h := intB_len m.term
  unfold recB headB intsB
  simp only [List.flatMap_cons, List.length_append]
  omega
theorem layAll_next (n : Nd) (rs : List (Nd × Nat)) {k : Nat} (hk : k < rs.length) : layAll n (rs.take (k + 1)) = layF (layAll n (rs.take k)) rs[k].1 rs[k].2 := by
  unfold layAll
  rw [List.take_succ_eq_append_getElem hk, List.foldl_append]
  rfl
set_option maxHeartbeats 4000000 in
theorem kOpen_fn (bd : Nat) (d : Dk) (id conf : Int) (n0 : Nd) (so : Option Nd) (rs : List (Nd × Nat)) (tl : List UInt8) (hn0 : FnP Tryz.prog 66 [ei id, ei conf] (fun r => r = nd n0)) (hl0 : n0.log.length ≤ 10000)
    (hd : DkOk d) (hdead : d.dead = false) (hleft : d.left = 0) (hso : d.snap = snapB (so.map (recB · 0))) (hlog : d.log = (rs.map rec1).flatMap frmB ++ tl) (hst : Stop tl)
    (hsz : ∀ m, so = some m → Sz m ∧ (recB m 0).length ≤ 4194304) (hrs : ∀ p ∈ rs, Sz p.1 ∧ p.2 ≤ p.1.log.length ∧ (rec1 p).length ≤ 4194304)
    (hlay : ∀ k, (layAll (match so with | none => n0 | some m => layF n0 m 0) (rs.take k)).log.length ≤ 10000) :
    FnH Tryz.prog 34 [pW bd, ei id, ei conf] (DkH bd d) (fun r H => ∃ bk bj, r = .tup [pW bk, ei 0] ∧ H = KpH bk bj bd ⟨rs.length, openF n0 so rs, openD d (rs.map rec1) tl⟩) := by
  have hj := openJ_fn bd d (so.map (recB · 0)) (rs.map rec1) tl hd hdead hleft hso (by
    intro s hs
    cases so with
    | none => cases hs
    | some m => cases hs; exact (hsz m rfl).2) hlog hst (by
    intro x hx
    obtain ⟨p, hp, rfl⟩ := List.mem_map.1 hx
    exact (hrs p hp).2.2)
  obtain ⟨sn, hsn⟩ : ∃ sn, sn = (so.map (recB · 0)).getD [] := ⟨_, rfl⟩
  obtain ⟨n1, hn1⟩ : ∃ n1, n1 = (match so with | none => n0 | some m => layF n0 m 0) := ⟨_, rfl⟩
  have hF : openF n0 so rs = if so = none ∧ rs = [] then n0 else wakeF (layAll n1 rs) := by rw [hn1]; rfl
  have hlay' : ∀ k, (layAll n1 (rs.take k)).log.length ≤ 10000 := by rw [hn1]; exact hlay
  have hn1l : n1.log.length ≤ 10000 := hlay' 0
  have hfull : (layAll n1 rs).log.length ≤ 10000 := by have := hlay' rs.length; rwa [List.take_length] at this
  have hrl : rs.length ≤ 100000000 := by
    have hu := hd.used
    have : rs.length ≤ ((rs.map rec1).flatMap frmB).length := by
      clear hrs hlay hlay' hfull hlog hj hF
      induction rs with
      | nil => simp
      | cons x l ih => rw [List.map_cons, List.flatMap_cons, List.length_append, frmB_len, List.length_cons]; omega
    rw [hlog, List.length_append] at hu
    omega
  have hsnl : sn.length ≤ 4194304 := by
    rw [hsn]
    cases so with
    | none => simp
    | some m => exact (hsz m rfl).2
  rw [← hsn] at hj
  refine fn_enter Tryz.func34 (by rfl) (by rfl) ?_
  intro S0 w0
  show Sim _ _ [(0, pW bd), (1, ei id), (2, ei conf)] (DkH bd d) _
  refine zC ?_
  apply cr
  refine s_ p_as ?_
  refine s_ p_as ?_
  refine zC ?_
  apply cr
  refine s_ p_mv ?_
  refine e_cHA hj (fun r H' ⟨bj, hr1, hr2⟩ => ?_)
  subst hr1 hr2
  refine s_ p_mv ?_
  refine s_ p_ex ?_
  refine s_ p_ex ?_
  refine s_ p_ex ?_
  refine s_ p_ex ?_
  refine s_ p_as ?_
  refine s_ p_as ?_
  refine s_ p_as ?_
  refine s_ p_as ?_
  refine zC ?_
  apply cr
  refine s_ p_mv ?_
  refine s_ p_ne ?_
  refine zC ?_
  refine ci ?_ ?_
  · intro h; exact absurd rfl h
  intro _
  refine zC ?_
  apply cr
  refine s_ p_mv ?_
  refine s_ p_mv ?_
  refine s_ (p_ca (hn0)) ?_
  refine e_al fun b12 _ => ?_
  refine e_st ?_
  refine zC ?_
  refine zC ?_
  apply cr
  refine s_ p_mv ?_
  (first | refine s_ p_ln ?_ | refine s_ p_lr ?_)
  refine s_ p_gt ?_
  refine zC ?_
  refine sim_cut [(8, pW bj), (9, bl sn), (10, tBl (rs.map rec1)), (12, pW b12)] ((b12, ⟨tN, nodeC n1 (.sl false (n1.log.map een)), 22⟩) :: JrH bj bd (rs.map rec1).length (openD d (rs.map rec1) tl)) ?_ ?_
  · refine ci ?_ ?_
    · intro hpos
      cases so with
      | none => rw [hsn] at hpos; exact absurd hpos (by simp)
      | some m =>
        have hm := hsz m rfl
        have hsn' : sn = recB m 0 := hsn
        have hn1' : n1 = layF n0 m 0 := hn1
        have hla := lay_fn false n0 m 0 hm.1 (Nat.zero_le _) hl0
        subst hsn' hn1'
        refine zC ?_
        apply cr
        refine s_ p_loa ?_
        refine s_ p_mv ?_
        refine s_ (p_ca (hla)) ?_
        refine e_st ?_
        refine zC ?_
        exact ⟨eL, kR⟩
    · intro hpos
      cases so with
      | none =>
        have hn1' : n1 = n0 := hn1
        rw [hn1']
        refine zC ?_
        exact ⟨eL, kR⟩
      | some m =>
        have hsn' : sn = recB m 0 := hsn
        have := recB_pos m 0
        exact absurd (by rw [hsn', List.length_map]; omega) hpos
  refine zC ?_
  apply cr
  refine s_ p_mv ?_
  (first | refine s_ p_ln ?_ | refine s_ p_lr ?_)
  refine s_ p_mv ?_
  refine zC ?_
  apply sim_loopL (σ := Nat) (ok := fun k => k ≤ rs.length) (env := fun k => [(36, ei k), (35, ei (rs.length : Nat)), (34, tBl (rs.map rec1)), (8, pW bj), (9, bl sn), (10, tBl (rs.map rec1)), (12, pW b12)]) (heap := fun k => (b12, ⟨tN, nodeC (layAll n1 (rs.take k)) (.sl false ((layAll n1 (rs.take k)).log.map een)), 22⟩) :: JrH bj bd rs.length (openD d (rs.map rec1) tl)) (μ := fun k => rs.length - k) (s0 := 0)
  · exact Nat.zero_le _
  · refine ⟨?_, ?_, eL⟩
    · apply le_get; ((repeat (apply gS; rfl)); exact gZ)
      exact Le.refl _
    · apply le_get; ((repeat (apply gS; rfl)); exact gZ)
      exact Le.of_eq (by simp [ei])
  · rw [List.length_map]; exact kR
  intro k hk
  refine zC ?_
  apply cr
  refine s_ p_lt ?_
  refine zC ?_
  refine ci ?_ ?_
  · intro hlt
    have hlt' : k < rs.length := by omega
    have hp := hrs _ (List.getElem_mem hlt')
    have hla := lay_fn false (layAll n1 (rs.take k)) rs[k].1 rs[k].2 hp.1 hp.2.1 (hlay' k)
    have hnx := layAll_next n1 rs hlt'
    have hix : k < (rs.map rec1).length := by rw [List.length_map]; exact hlt'
    have e : (rs.map rec1)[k]'hix = rec1 rs[k] := List.getElem_map ..
    have hla' : FnP Tryz.prog 67 [nd (layAll n1 (rs.take k)), bl ((rs.map rec1)[k]'hix)] (fun r => r = nd (layF (layAll n1 (rs.take k)) rs[k].1 rs[k].2)) := by rw [e]; exact hla
    refine zC ?_
    apply cr
    (first | refine s_ (p_ix hix) ?_ | refine s_ (p_ix hix2) ?_ | refine s_ p_ia ?_ | refine s_ p_ir ?_)
    (first | refine s_ p_ld ?_ | refine s_ p_lo ?_)
    refine s_ p_as ?_
    refine zC ?_
    apply cr
    refine s_ p_loa ?_
    refine s_ p_mv ?_
    refine s_ (p_ca (hla')) ?_
    refine e_st ?_
    refine zC ?_
    refine zC ?_
    apply cr
    refine s_ p_ad ?_
    refine s_ p_mv ?_
    refine zC ?_
    refine ⟨k + 1, by omega, (by simp only []; omega), ⟨?_, eL⟩, ?_⟩
    · apply le_get; ((repeat (apply gS; rfl)); exact gZ)
      exact Le.refl _
    · simp only []
      rw [hnx]; exact kR
  intro hge
  have hke : k = rs.length := by omega
  subst hke
  rw [List.take_length]
  have hwk := wake_fn (layAll n1 rs) (by omega)
  refine zC ?_
  apply cr
  refine s_ p_mv ?_
  (first | refine s_ p_ln ?_ | refine s_ p_lr ?_)
  refine s_ p_mv ?_
  (first | refine s_ p_ln ?_ | refine s_ p_lr ?_)
  refine s_ p_ad ?_
  refine s_ p_gt ?_
  refine zC ?_
  refine ci ?_ ?_
  · intro hpos
    have hne : ¬ (so = none ∧ rs = []) := by
      rintro ⟨rfl, rfl⟩
      rw [hsn] at hpos
      exact absurd hpos (by simp)
    rw [if_neg hne] at hF
    refine zC ?_
    apply cr
    refine s_ p_loa ?_
    refine s_ (p_ca (hwk)) ?_
    refine e_st ?_
    refine zC ?_
    apply cr
    refine s_ p_mv ?_
    refine s_ p_loa ?_
    refine s_ (p_bd 23 [_, _, _, _, _, _, _, _, _, _, _, _, _, _, _, _, _, _, _, _, _, _, _]) ?_
    refine s_ (p_bd 23 [_, _, _, _, _, _, _, _, _, _, _, _, _, _, _, _, _, _, _, _, _, _, _]) ?_
    refine e_bx fun b56 _ => ?_
    refine s_ p_as ?_
    refine s_ p_as ?_
    refine zC ?_
    refine zR ?_
    refine rh (.keep _ _ _ _ _ (BlkLe.refl _) (.skip _ _ _ kR)) ⟨b56, bj, rfl, ?_⟩ (Le.refl _)
    rw [hF]
    rfl
  · intro hpos
    have hnone : so = none ∧ rs = [] := by
      constructor
      · cases so with
        | none => rfl
        | some m =>
          have hsn' : sn = recB m 0 := hsn
          have := recB_pos m 0
          exact absurd (by rw [hsn']; simp only [List.length_map]; omega) hpos
      · have : rs.length = 0 := by simp only [List.length_map] at hpos; omega
        exact List.length_eq_zero_iff.1 this
    rw [if_pos hnone] at hF
    have hn10 : layAll n1 rs = n0 := by
      rw [hnone.2]
      rw [hnone.1] at hn1
      exact hn1
    rw [hn10]
    refine zC ?_
    apply cr
    refine s_ p_mv ?_
    refine s_ p_loa ?_
    refine s_ (p_bd 23 [_, _, _, _, _, _, _, _, _, _, _, _, _, _, _, _, _, _, _, _, _, _, _]) ?_
    refine s_ (p_bd 23 [_, _, _, _, _, _, _, _, _, _, _, _, _, _, _, _, _, _, _, _, _, _, _]) ?_
    refine e_bx fun b56 _ => ?_
    refine s_ p_as ?_
    refine s_ p_as ?_
    refine zC ?_
    refine zR ?_
    refine rh (.keep _ _ _ _ _ (BlkLe.refl _) (.skip _ _ _ kR)) ⟨b56, bj, rfl, ?_⟩ (Le.refl _)
    rw [hF]
    rfl
end Go.Proofs.YtjbokbikkcfjjaaGreat
end
section
set_option maxRecDepth 16000
namespace Go.Proofs.YtjbokbikkcfjjaaGreat
open Go.Cap
def n1F (n0 : Nd) (so : Option Nd) : Nd := match so with | none => n0 | some m => layF n0 m 0
structure Cont (n0 : Nd) (R : Nat) (d : Dk) (so : Option Nd) (rs : List (Nd × Nat)) (tl : List UInt8) (N : Nd) : Prop where
  snap : d.snap = snapB (so.map (recB · 0))
  log : d.log = (rs.map rec1).flatMap frmB ++ tl
  stop : Stop tl
  len : rs.length ≤ 16
  szs : ∀ m, so = some m → Sz m ∧ (recB m 0).length ≤ R
  szr : ∀ p ∈ rs, Sz p.1 ∧ p.2 ≤ p.1.log.length ∧ (rec1 p).length ≤ R + 80
  lay : ∀ k, (layAll (n1F n0 so) (rs.take k)).log.length ≤ 10000
  same : wakeF N = wakeF (layAll (n1F n0 so) rs)
theorem stop_nil : Stop [] := .inl (by simp)
theorem stop_front {x : List UInt8} (hx : x.length ≤ 4194304) {k : Nat} (hk : k < (frmB x).length) : Stop ((frmB x).take k) := by
  have hl := frmB_len x
  by_cases h8 : k < 8
  · exact .inl (by rw [List.length_take]; omega)
  · refine .inr (.inr ?_)
    have hn : numF ((frmB x).take k) = x.length := by
      have e : (frmB x).take k = fourF x.length ++ ((fourF (crcF x) ++ x).take (k - 4)) := by
        unfold frmB
        rw [List.take_append, fourF_len, List.take_of_length_le (by rw [fourF_len]; omega)]
      rw [e]
      exact num_four (by omega) (by omega) _
    rw [hn, List.length_take]
    omega
structure Live (n0 : Nd) (R : Nat) (K : Kp) : Prop where
  cont : ∃ so rs, Cont n0 R K.d so rs [] K.N ∧ K.n = rs.length
  sync : K.d.synced = K.d.log.length
  dead : K.d.dead = false
  dk : DkR K.d
  id : K.N.id = n0.id
  sz : Sz K.N
  rec_ : (recB K.N 0).length ≤ R
structure Gone (n0 : Nd) (R : Nat) (d : Dk) (N t : Nd) : Prop where
  dead : d.dead = true
  dk : DkR d
  s0 : 0 ≤ d.synced
  s1 : d.synced ≤ d.log.length
  cont : ∀ pick, ∃ so rs tl, Cont n0 R (crashF d pick) so rs tl N ∨ Cont n0 R (crashF d pick) so rs tl t
theorem spend_cases {d : Dk} (hd : d.dead = false) (h0 : 0 ≤ d.left) : (∃ l, spendF d = ({ d with left := l }, true) ∧ 0 ≤ l ∧ l ≤ d.left) ∨ (spendF d = ({ d with left := 0, dead := true }, false) ∧ d.left = 1) := by
  unfold spendF
  by_cases h : 0 < d.left
  · rw [if_pos h]
    by_cases h1 : d.left - 1 = 0
    · refine .inr ⟨?_, by omega⟩
      simp [h1]
    · refine .inl ⟨d.left - 1, ?_, by omega, by omega⟩
      simp [h1, hd]
  · rw [if_neg h]
    refine .inl ⟨d.left, ?_, h0, Int.le_refl _⟩
    show (d, !d.dead) = (d, true)
    rw [hd]
    rfl
theorem jadd_cases {d : Dk} (n : Int) (x : List UInt8) (hd : d.dead = false) (h0 : 0 ≤ d.left) :
    (jaddF n d x = (n, d, 19) ∧ d.room - d.log.length - d.snap.length < (frmB x).length) ∨
    (∃ l, jaddF n d x = (n + 1, { d with left := l, log := d.log ++ frmB x, synced := (d.log ++ frmB x).length }, 0) ∧ 0 ≤ l ∧ l ≤ d.left) ∨
    (jaddF n d x = (n, { d with left := 0, dead := true, log := d.log ++ frmB x }, 20) ∧ 0 < d.left) := by
  unfold jaddF appF
  rw [hd]
  simp only [Bool.false_eq_true, if_false]
  by_cases hf : d.room - d.log.length - d.snap.length < (frmB x).length
  · rw [if_pos hf]
    exact .inl ⟨rfl, hf⟩
  · rw [if_neg hf]
    rcases spend_cases hd h0 with ⟨l, hs, h1, h2⟩ | ⟨hs, h1⟩
    · rw [hs]
      simp only [if_true]
      rcases spend_cases (d := { d with left := l, log := d.log ++ frmB x }) hd h1 with ⟨l', hs', h1', h2'⟩ | ⟨hs', h1'⟩
      · refine .inr (.inl ⟨l', ?_, h1', by simp only at h2'; omega⟩)
        unfold syncF
        simp only [hd, Bool.false_eq_true, if_false]
        rw [hd] at hs'
        rw [hs']
        simp
      · refine .inr (.inr ⟨?_, by simp only at h1'; omega⟩)
        unfold syncF
        simp only [hd, Bool.false_eq_true, if_false]
        rw [hd] at hs'
        rw [hs']
        simp
    · rw [hs]
      refine .inr (.inr ⟨?_, by omega⟩)
      simp
theorem jsnap_cases {d : Dk} (n : Int) (x : List UInt8) (hd : d.dead = false) (h0 : 0 ≤ d.left) :
    (jsnapF n d x = (n, d, 19) ∧ d.room < (frmB x).length) ∨
    (∃ l, jsnapF n d x = (0, { d with left := l, snap := frmB x, log := [], synced := 0 }, 0) ∧ 0 ≤ l ∧ l ≤ d.left ∧ (frmB x).length ≤ d.room) ∨
    (jsnapF n d x = (n, { d with left := 0, dead := true, snap := frmB x, log := [], synced := 0 }, 20) ∧ 0 < d.left ∧ (frmB x).length ≤ d.room) ∨
    (jsnapF n d x = (n, { d with left := 0, dead := true }, 20) ∧ 0 < d.left) := by
  unfold jsnapF swapF
  rw [hd]
  simp only [Bool.false_eq_true, if_false]
  by_cases hf : d.room < (frmB x).length
  · rw [if_pos hf]
    exact .inl ⟨rfl, hf⟩
  · rw [if_neg hf]
    rcases spend_cases hd h0 with ⟨l, hs, h1, h2⟩ | ⟨hs, h1⟩
    · rw [hs]
      refine .inr (.inl ⟨l, ?_, h1, h2, by omega⟩)
      simp
      exact hd
    · rw [hs]
      by_cases ho : d.odd = 0
      · refine .inr (.inr (.inl ⟨?_, by omega, by omega⟩))
        simp [ho]
      · refine .inr (.inr (.inr ⟨?_, by omega⟩))
        simp [ho]
theorem layAll_id (n : Nd) (rs : List (Nd × Nat)) : (layAll n rs).id = n.id := by
  induction rs generalizing n with
  | nil => rfl
  | cons p rs ih => exact ih (layF n p.1 p.2)
theorem n1F_id (n0 : Nd) (so : Option Nd) : (n1F n0 so).id = n0.id := by cases so <;> rfl
theorem layAll_snoc (n : Nd) (rs : List (Nd × Nat)) (p : Nd × Nat) : layAll n (rs ++ [p]) = layF (layAll n rs) p.1 p.2 := by
  unfold layAll
  rw [List.foldl_append]
  rfl
theorem pfx_take : ∀ (a b : List En), a.take (pfx a b) = b.take (pfx a b)
  | [], b => by simp [pfx]
  | _ :: _, [] => by simp [pfx]
  | x :: xs, y :: ys => by
    unfold pfx
    split
    · rename_i h
      rw [List.take_succ_cons, List.take_succ_cons, pfx_take xs ys, h]
    · simp
theorem alike_take (a b : Nd) : a.log.take (alikeF a b) ++ b.log.drop (alikeF a b) = b.log := by
  have h : a.log.take (alikeF a b) = b.log.take (alikeF a b) := by
    unfold alikeF
    split
    · exact pfx_take _ _
    · simp
  rw [h, List.take_append_drop]
theorem alike_le (a b : Nd) : alikeF a b ≤ b.log.length := by
  unfold alikeF
  split
  · exact (pfx_le _ _).2
  · omega
theorem wake_log {a b : Nd} (h : wakeF a = wakeF b) : a.log = b.log ∧ a.base = b.base ∧ a.id = b.id := by
  unfold wakeF at h
  simp only [Nd.mk.injEq] at h
  exact ⟨h.2.2.2.2.2.2.2.1, h.2.2.2.1, h.1⟩
theorem wake_lay {L N t : Nd} (h : wakeF N = wakeF L) (hid : L.id = t.id) : wakeF t = wakeF (layF L t (alikeF N t)) := by
  obtain ⟨h1, h2, h3⟩ := wake_log h
  have hl := alike_take N t
  rw [h1] at hl
  unfold wakeF layF
  rw [hl, hid]
theorem Cont.next {n0 : Nd} {R : Nat} {d d' : Dk} {so : Option Nd} {rs : List (Nd × Nat)} {N t : Nd} (h : Cont n0 R d so rs [] N) (hl : rs.length < 16) (hid : t.id = n0.id) (hsz : Sz t) (hr : (recB t 0).length ≤ R)
    (hs : d'.snap = d.snap) (hlog : d'.log = d.log ++ frmB (recB t (alikeF N t))) : Cont n0 R d' so (rs ++ [(t, alikeF N t)]) [] t := by
  have hL : (layAll (n1F n0 so) rs).id = t.id := by rw [layAll_id, n1F_id, hid]
  have hw := wake_lay h.same hL
  have hlg := (wake_log hw).1
  refine ⟨hs.trans h.snap, ?_, stop_nil, by simp; omega, h.szs, ?_, ?_, ?_⟩
  · rw [hlog, h.log]
    simp [rec1]
  · intro p hp
    rcases List.mem_append.1 hp with hp | hp
    · exact h.szr p hp
    · rw [List.mem_singleton.1 hp]
      exact ⟨hsz, alike_le _ _, by have := recB_le t (alikeF N t); show (recB t (alikeF N t)).length ≤ _; omega⟩
  · intro k
    by_cases hk : k ≤ rs.length
    · rw [List.take_append_of_le_length hk]
      exact h.lay k
    · rw [List.take_of_length_le (by simp; omega), layAll_snoc]
      show (layF (layAll (n1F n0 so) rs) t (alikeF N t)).log.length ≤ 10000
      rw [← hlg]
      exact hsz.len
  · rw [layAll_snoc]
    exact hw
theorem Cont.torn {n0 : Nd} {R : Nat} {d d' : Dk} {so : Option Nd} {rs : List (Nd × Nat)} {N : Nd} {tl : List UInt8} (h : Cont n0 R d so rs [] N) (hst : Stop tl) (hs : d'.snap = d.snap) (hlog : d'.log = d.log ++ tl) : Cont n0 R d' so rs tl N :=
  ⟨hs.trans h.snap, by rw [hlog, h.log, List.append_nil], hst, h.len, h.szs, h.szr, h.lay, h.same⟩
theorem Cont.snapped {n0 : Nd} {R : Nat} {d' : Dk} {N : Nd} (hid : N.id = n0.id) (hsz : Sz N) (hr : (recB N 0).length ≤ R) (hs : d'.snap = frmB (recB N 0)) (hlog : d'.log = []) : Cont n0 R d' (some N) [] [] N := by
  refine ⟨hs, hlog, stop_nil, by simp, ?_, by simp, ?_, ?_⟩
  · intro m hm
    cases hm
    exact ⟨hsz, hr⟩
  · intro k
    rw [List.take_nil]
    exact hsz.len
  · show wakeF N = wakeF (layF n0 N 0)
    unfold wakeF layF
    rw [hid]
    simp
theorem gone_add {n0 : Nd} {R : Nat} {d d2 : Dk} {so : Option Nd} {rs : List (Nd × Nat)} {N t : Nd} (h : Cont n0 R d so rs [] N) (hl : rs.length < 16) (hid : t.id = n0.id) (hsz : Sz t) (hr : (recB t 0).length ≤ R) (hR : R ≤ 4000000)
    (hdk : DkR d2) (hdead : d2.dead = true) (hs : d2.snap = d.snap) (hlog : d2.log = d.log ++ frmB (recB t (alikeF N t))) (hsy : d2.synced = d.log.length) : Gone n0 R d2 N t := by
  have hx : (recB t (alikeF N t)).length ≤ 4194304 := by have := recB_le t (alikeF N t); omega
  have h0 : 0 ≤ d2.synced := by omega
  have h1 : d2.synced ≤ d2.log.length := by rw [hsy, hlog, List.length_append]; omega
  refine ⟨hdead, hdk, h0, h1, fun pick => ?_⟩
  have hk := stayK_range d2 pick h0 h1
  obtain ⟨k, hkk⟩ : ∃ k : Nat, stayK d2 pick = k := ⟨(stayK d2 pick).toNat, by omega⟩
  have hcl : (crashF d2 pick).log = d.log ++ (frmB (recB t (alikeF N t))).take k := by
    show d2.log.take (d2.synced + stayK d2 pick).toNat = _
    rw [hkk, hsy, show ((d.log.length : Int) + (k : Int)).toNat = d.log.length + k by omega, hlog, List.take_append, List.take_of_length_le (by omega), show d.log.length + k - d.log.length = k by omega]
  by_cases hfull : k < (frmB (recB t (alikeF N t))).length
  · exact ⟨so, rs, _, .inl (h.torn (stop_front hx hfull) hs hcl)⟩
  · rw [List.take_of_length_le (by omega)] at hcl
    exact ⟨so, _, [], .inr (h.next hl hid hsz hr hs hcl)⟩
theorem gone_whole {n0 : Nd} {R : Nat} {d d2 : Dk} {so : Option Nd} {rs : List (Nd × Nat)} {N t : Nd} (h : Cont n0 R d so rs [] N) (hdk : DkR d2) (hdead : d2.dead = true) (hs : d2.snap = d.snap) (hlog : d2.log = d.log) (hsy : d2.synced = d2.log.length) : Gone n0 R d2 N t := by
  have h0 : 0 ≤ d2.synced := by omega
  refine ⟨hdead, hdk, h0, by omega, fun pick => ?_⟩
  have hk := stayK_range d2 pick h0 (by omega)
  have hcl : (crashF d2 pick).log = d.log ++ [] := by
    show d2.log.take (d2.synced + stayK d2 pick).toNat = _
    rw [List.take_of_length_le (by omega), hlog, List.append_nil]
  exact ⟨so, rs, [], .inl (h.torn stop_nil hs hcl)⟩
end Go.Proofs.YtjbokbikkcfjjaaGreat
end
