/-
  keep.alike, own: how many entries two nodes have alike at their fronts.
  keep: a kept replica: write.
  keep: a kept replica: keep, sent, put.
  keep: a kept replica: its faces.
  keep.Open.
-/
import Derived.Test.YtbdpfclnomiicaaGreatLays
import Derived.Test.YtbdpfclnomiicaaGreatProp
import Derived.Test.YtbdpfclnomiicaaGreatDsks
section
set_option maxRecDepth 16000
namespace Go.Proofs.YtbdpfclnomiicaaGreat
open Go.Cap
set_option linter.unusedSimpArgs false
set_option linter.unusedVariables false
attribute [local irreducible] POp SimFrom DrawFrom EOp Sim FnH T.gp
def pfx : List En → List En → Nat
  | x :: xs, y :: ys => if x = y then pfx xs ys + 1 else 0
  | _, _ => 0
def alikeF (a b : Nd) : Nat := if a.base = b.base then pfx a.log b.log else 0
theorem pfx_le : ∀ (a b : List En), pfx a b ≤ a.length ∧ pfx a b ≤ b.length
  | [], b => by simp [pfx]
  | _ :: _, [] => by simp [pfx]
  | x :: xs, y :: ys => by
    have := pfx_le xs ys
    unfold pfx
    split
    · simp only [List.length_cons]; omega
    · simp
theorem pfx_next {a b : List En} {k : Nat} (h1 : k < a.length) (h2 : k < b.length) : pfx (a.drop k) (b.drop k) = if a[k] = b[k] then pfx (a.drop (k + 1)) (b.drop (k + 1)) + 1 else 0 := by
  rw [List.drop_eq_getElem_cons h1, List.drop_eq_getElem_cons h2, pfx]
theorem pfx_end {a b : List En} {k : Nat} (h : ¬ (k < a.length ∧ k < b.length)) : pfx (a.drop k) (b.drop k) = 0 := by
  have := pfx_le (a.drop k) (b.drop k)
  simp only [List.length_drop] at this
  omega
set_option maxHeartbeats 2000000 in
theorem alike_fn (a b : Nd) (ha : a.log.length ≤ 1000000000) (hb : b.log.length ≤ 1000000000) : FnP Tryz.prog 87 [nd a, nd b] (fun r => r = ei (alikeF a b)) := by
  refine fn_enter Tryz.func87 (by rfl) (by rfl) ?_
  intro S0 w0
  show Sim _ _ [(0, T.agg (nodeC a (.sl false (a.log.map een)))), (1, T.agg (nodeC b (.sl false (b.log.map een))))] _ _
  (repeat (first | apply cn | apply cq | apply cb | apply ck | apply cl | apply cx))
  apply cr
  refine e_bx fun b2 _ => ?_
  refine e_bx fun b3 _ => ?_
  refine s_ p_as ?_
  (repeat (first | apply cn | apply cq | apply cb | apply ck | apply cl | apply cx))
  apply cr
  refine s_ p_fr ?_
  refine s_ p_lo ?_
  refine s_ p_fr ?_
  refine s_ p_lo ?_
  refine s_ p_ne ?_
  (repeat (first | apply cn | apply cq | apply cb | apply ck | apply cl | apply cx))
  refine ci ?_ ?_
  · intro hne
    have hne' : ¬ a.base = b.base := hne
    (repeat (first | apply cn | apply cq | apply cb | apply ck | apply cl | apply cx))
    apply cr
    refine s_ p_as ?_
    (repeat (first | apply cn | apply cq | apply cb | apply ck | apply cl | apply cx))
    (apply sim_ret; (try simp only [blockΨ_ret, thenΨ_ret, loopL_ret, cutΨ_ret, cutE_ret]); first | refine rt ?_ | refine rn ?_)
    rw [alikeF, if_neg hne']
    exact Le.refl _
  intro heq
  have heq' : a.base = b.base := Decidable.not_not.1 heq
  rw [alikeF, if_pos heq']
  (repeat (first | apply cn | apply cq | apply cb | apply ck | apply cl | apply cx))
  apply cr
  refine s_ p_as ?_
  (repeat (first | apply cn | apply cq | apply cb | apply ck | apply cl | apply cx))
  apply sim_loopL (σ := Nat) (ok := fun k => k ≤ a.log.length ∧ pfx a.log b.log = k + pfx (a.log.drop k) (b.log.drop k)) (env := fun k => [(5, ei k), (2, pW b2), (3, pW b3)]) (heap := fun _ => [(b3, ⟨36, nodeC b (.sl false (b.log.map een)), 22⟩), (b2, ⟨36, nodeC a (.sl false (a.log.map een)), 22⟩)]) (μ := fun k => a.log.length - k) (s0 := 0)
  · exact ⟨Nat.zero_le _, by simp⟩
  · exact eL
  · exact kR
  rintro k ⟨hk, hp⟩
  by_cases hin : k < a.log.length ∧ k < b.log.length
  · have hix : k < a.log.length := hin.1
    have hix2 : k < b.log.length := hin.2
    have hnx := pfx_next hix hix2
    (repeat (first | apply cn | apply cq | apply cb | apply ck | apply cl | apply cx))
    refine ca [0, 1, 2, 3, 4, 5, 6, 7, 8, 9, 10, 11, 12, 13, 14, 15, 16, 17, 18, 19, 20, 21, 22, 23, 24] [] ?_
    refine a_ (fun _ => p_mv) ?_
    refine a_ (fun _ => p_fr) ?_
    refine a_lo ?_
    (first | refine a_ (fun _ => p_ln) ?_ | refine a_ (fun _ => p_lr) ?_)
    refine a_ (fun _ => p_lt) ?_
    refine a_ (fun _ => p_mv) ?_
    refine ag_T (fun _ hg => p_mv) ?_
    refine ag_T (fun _ hg => p_fr) ?_
    refine ag_loT ?_
    (first | refine ag_T (fun _ hg => p_ln (hx := u_ hg)) ?_ | refine ag_T (fun _ hg => p_lr (hx := u_ hg)) ?_)
    refine ag_T (fun _ hg => p_lt (hx := u_ hg) (hy := u_ hg)) ?_
    refine a_ (fun _ => p_an) ?_
    refine a_ (fun _ => p_mv) ?_
    refine ag_T (fun _ hg => p_fr) ?_
    refine ag_loT ?_
    refine ag_T (fun _ hg => p_mv) ?_
    (first | refine ag_T (fun _ hg => p_ix hix (hx := u_ hg) (hy := u_ hg)) ?_ | refine ag_T (fun _ hg => p_ix hix2 (hx := u_ hg) (hy := u_ hg)) ?_ | refine ag_T (fun _ hg => p_ia (hx := u_ hg) (hy := u_ hg)) ?_ | refine ag_T (fun _ hg => p_ir (hx := u_ hg) (hy := u_ hg)) ?_)
    (first | refine ag_T (fun _ hg => p_la (hx := u_ hg)) ?_ | refine ag_loaT ?_)
    refine ag_T (fun _ hg => p_fr) ?_
    refine ag_loT ?_
    refine ag_T (fun _ hg => p_mv) ?_
    (first | refine ag_T (fun _ hg => p_ix hix (hx := u_ hg) (hy := u_ hg)) ?_ | refine ag_T (fun _ hg => p_ix hix2 (hx := u_ hg) (hy := u_ hg)) ?_ | refine ag_T (fun _ hg => p_ia (hx := u_ hg) (hy := u_ hg)) ?_ | refine ag_T (fun _ hg => p_ir (hx := u_ hg) (hy := u_ hg)) ?_)
    (first | refine ag_T (fun _ hg => p_la (hx := u_ hg)) ?_ | refine ag_loaT ?_)
    refine ag_T (fun _ hg => p_eqD 2 [.int .i64, .int .i64, .str] Tryz.eqGuardType62 (hx := u_ hg) (hy := u_ hg)) ?_
    refine a_ (fun _ => p_an) ?_
    apply an
    (repeat (first | apply cn | apply cq | apply cb | apply ck | apply cl | apply cx))
    refine ci ?_ ?_
    · intro hc
      have he : a.log[k] = b.log[k] := by
        exact eenV_inj.1 hc.2
      rw [if_pos he] at hnx
      (repeat (first | apply cn | apply cq | apply cb | apply ck | apply cl | apply cx))
      apply cr
      refine s_ p_mv ?_
      refine s_ p_ad ?_
      refine s_ p_as ?_
      (repeat (first | apply cn | apply cq | apply cb | apply ck | apply cl | apply cx))
      refine ⟨k + 1, ⟨by omega, by rw [hp, hnx]; omega⟩, (by simp only []; omega), ⟨?_, eL⟩, kR⟩
      apply le_get; ((repeat (apply gS; rfl)); exact gZ)
      exact Le.refl _
    · intro hc
      have he : ¬ a.log[k] = b.log[k] := fun h => hc ⟨⟨by simp only [List.length_map]; omega, by simp only [List.length_map]; omega⟩, eenV_inj.2 h⟩
      rw [if_neg he] at hnx
      (repeat (first | apply cn | apply cq | apply cb | apply ck | apply cl | apply cx))
      apply cr
      refine s_ p_mv ?_
      refine s_ p_as ?_
      (repeat (first | apply cn | apply cq | apply cb | apply ck | apply cl | apply cx))
      (apply sim_ret; (try simp only [blockΨ_ret, thenΨ_ret, loopL_ret, cutΨ_ret, cutE_ret]); first | refine rt ?_ | refine rn ?_)
      rw [hp, hnx]
      exact Le.refl _
  · have hno : ¬ ((k : Int) < ((a.log.map een).length : Nat) ∧ (k : Int) < ((b.log.map een).length : Nat)) := by
      simp only [List.length_map]; omega
    (repeat (first | apply cn | apply cq | apply cb | apply ck | apply cl | apply cx))
    refine ca [0, 1, 2, 3, 4, 5, 6, 7, 8, 9, 10, 11, 12, 13, 14, 15, 16, 17, 18, 19, 20, 21, 22, 23, 24] [] ?_
    refine a_ (fun _ => p_mv) ?_
    refine a_ (fun _ => p_fr) ?_
    refine a_lo ?_
    (first | refine a_ (fun _ => p_ln) ?_ | refine a_ (fun _ => p_lr) ?_)
    refine a_ (fun _ => p_lt) ?_
    refine a_ (fun _ => p_mv) ?_
    refine ag_T (fun _ hg => p_mv) ?_
    refine ag_T (fun _ hg => p_fr) ?_
    refine ag_loT ?_
    (first | refine ag_T (fun _ hg => p_ln (hx := u_ hg)) ?_ | refine ag_T (fun _ hg => p_lr (hx := u_ hg)) ?_)
    refine ag_T (fun _ hg => p_lt (hx := u_ hg) (hy := u_ hg)) ?_
    refine a_ (fun _ => p_an) ?_
    refine a_ (fun _ => p_mv) ?_
    refine ag_T (fun _ hg => p_fr) ?_
    refine ag_loT ?_
    refine ag_T (fun _ hg => p_mv) ?_
    refine ag_T (d := .any) (fun _ hg => absurd hg hno) ?_
    refine ag_T (d := .any) (fun _ hg => absurd hg hno) ?_
    refine ag_T (fun _ hg => p_fr) ?_
    refine ag_loT ?_
    refine ag_T (fun _ hg => p_mv) ?_
    refine ag_T (d := .any) (fun _ hg => absurd hg hno) ?_
    refine ag_T (d := .any) (fun _ hg => absurd hg hno) ?_
    refine ag_T (d := .v (.bool (decide False))) (fun _ hg => absurd hg hno) ?_
    refine a_ (fun _ => p_an) ?_
    apply an
    (repeat (first | apply cn | apply cq | apply cb | apply ck | apply cl | apply cx))
    refine ci ?_ ?_
    · intro hc; exact absurd hc.1 hno
    intro _
    (repeat (first | apply cn | apply cq | apply cb | apply ck | apply cl | apply cx))
    apply cr
    refine s_ p_mv ?_
    refine s_ p_as ?_
    (repeat (first | apply cn | apply cq | apply cb | apply ck | apply cl | apply cx))
    (apply sim_ret; (try simp only [blockΨ_ret, thenΨ_ret, loopL_ret, cutΨ_ret, cutE_ret]); first | refine rt ?_ | refine rn ?_)
    rw [hp, pfx_end hin]
    exact Le.refl _
theorem kown_fn (n : Nd) (hl : n.log.length ≤ 1000000000) : FnP Tryz.prog 36 [nd n] (fun r => r = nd n) := by
  have hc := clone_fnD false n.log hl
  refine fn_enter Tryz.func36 (by rfl) (by rfl) ?_
  intro S0 w0
  show Sim _ _ [(0, T.agg (nodeC n (.sl false (n.log.map een))))] _ _
  (repeat (first | apply cn | apply cq | apply cb | apply ck | apply cl | apply cx))
  apply cr
  refine e_bx fun b1 _ => ?_
  refine e_al fun b2 _ => ?_
  (repeat (first | apply cn | apply cq | apply cb | apply ck | apply cl | apply cx))
  apply cr
  refine s_ p_fr ?_
  refine s_ p_lo ?_
  refine s_ (p_ca (hc)) ?_
  refine s_ p_fr ?_
  refine e_st ?_
  (repeat (first | apply cn | apply cq | apply cb | apply ck | apply cl | apply cx))
  apply cr
  refine s_ p_loa ?_
  refine e_st ?_
  (repeat (first | apply cn | apply cq | apply cb | apply ck | apply cl | apply cx))
  (apply sim_ret; (try simp only [blockΨ_ret, thenΨ_ret, loopL_ret, cutΨ_ret, cutE_ret]); first | refine rt ?_ | refine rn ?_)
  exact Le.refl _
end Go.Proofs.YtbdpfclnomiicaaGreat
end
section
set_option maxRecDepth 16000
namespace Go.Cap
section
variable {K : Ctx} {t : Env} {H Hs Hr : Heap} {N : Env → Heap → Prop} {ops : Array Oper} {i : Nat} {tp : TypeId} {pos : String} {aft : Array Edge} {kd : Tmp} {eff : List Nat} {pend : List Pend} {al : List (Nat × Oper)}
theorem a_cHr {f : FuncId} {xs : Array Operand} {ats : Array TypeId} {args : List T} {Φ : T → Heap → Prop} (hf : FnH K.P f args Hs Φ) (hp : H.Perm (Hs ++ Hr))
    (hn : ∀ r H', Φ r H' → PendOk ops ⟨some kd, .call ⟨.value (.func f), xs, ats⟩, tp, pos, aft, none⟩ (H' ++ Hr) pend ∧ ∃ pend', PDrop ops ⟨some kd, .call ⟨.value (.func f), xs, ats⟩, tp, pos, aft, none⟩ pend pend' ∧ AnyFrom K ops eff N al ((kd, r) :: t) (H' ++ Hr) pend') (hc : callable K.P f = true := by rfl) (ha' : EvL t xs.toList args := by (repeat (apply evl_cons; focus (first | ((repeat (apply eS; rfl)); exact eZ) | exact ev_int | exact ev_bool | exact ev_nil | exact ev_str | exact ev_ptr | exact ev_agg | exact ev_map | exact ev_nilf | exact ev_nili | exact ev_func))); exact evl_nil) (hd : Nat.blt kd K.n = true := by rfl) (he : memN eff i = true := by rfl) :
    AnyFrom K ops eff N ((i, ⟨some kd, .call ⟨.value (.func f), xs, ats⟩, tp, pos, aft, none⟩) :: al) t H pend :=
  a_effP (fun _ h1 => eop_callH (Hr := Hr) hf hp hc (ha'.trans fun x hx => h1 x (by simp [Op.operands, Call.operands]; exact .inr (by simpa using hx))) (by simpa [okDst] using hd) fun r H' hr' => by
    obtain ⟨h1, p', h2, h3⟩ := hn r H' hr'
    exact ⟨_, p', rfl, h1, h2, h3⟩) he
end
end Go.Cap
namespace Go.Proofs.YtbdpfclnomiicaaGreat
open Go.Cap
set_option linter.unusedSimpArgs false
set_option linter.unusedVariables false
attribute [local irreducible] POp SimFrom DrawFrom EOp Sim FnH T.gp
structure DkR (d : Dk) : Prop where
  l0 : 0 ≤ d.left
  l1 : d.left ≤ 1000000000
  r0 : 0 ≤ d.room
  r1 : d.room ≤ 16777216
  fit : ((d.log.length + d.snap.length : Nat) : Int) ≤ d.room
theorem DkR.ok {d : Dk} (h : DkR d) : DkOk d := ⟨h.l0, h.l1, h.r0, h.r1, by have := h.fit; have := h.r1; omega⟩
theorem DkR.spend {d : Dk} (h : DkR d) : DkR (spendF d).1 := by
  have h0 := h.l0
  have h1 := h.l1
  unfold spendF
  split
  · exact ⟨by simp only; omega, by simp only; omega, h.r0, h.r1, h.fit⟩
  · exact h
theorem spend_log (d : Dk) : (spendF d).1.log = d.log ∧ (spendF d).1.snap = d.snap ∧ (spendF d).1.room = d.room := by
  unfold spendF
  split <;> exact ⟨rfl, rfl, rfl⟩
theorem DkR.app {d : Dk} (h : DkR d) (x : List UInt8) : DkR (appF d x).1 := by
  have hs := h.spend
  obtain ⟨e1, e2, e3⟩ := spend_log d
  unfold appF
  split
  · exact h
  · split
    · exact h
    · rename_i hf
      exact ⟨hs.l0, hs.l1, hs.r0, hs.r1, by simp only [e2, e3, List.length_append]; omega⟩
theorem DkR.sync {d : Dk} (h : DkR d) : DkR (syncF d).1 := by
  have hs := h.spend
  unfold syncF
  split
  · exact h
  · split
    · exact ⟨hs.l0, hs.l1, hs.r0, hs.r1, hs.fit⟩
    · exact hs
theorem DkR.swap {d : Dk} (h : DkR d) (x : List UInt8) : DkR (swapF d x).1 := by
  have hs := h.spend
  obtain ⟨e1, e2, e3⟩ := spend_log d
  unfold swapF
  split
  · exact h
  · split
    · exact h
    · rename_i hf
      split
      · exact ⟨hs.l0, hs.l1, hs.r0, hs.r1, by simp only [e3, List.length_nil]; omega⟩
      · exact hs
theorem DkR.jadd {n : Int} {d : Dk} (h : DkR d) (x : List UInt8) : DkR (jaddF n d x).2.1 := by
  unfold jaddF
  simp only
  split
  · split
    · exact (h.app _).sync
    · exact (h.app _).sync
  · exact h.app _
theorem DkR.jsnap {n : Int} {d : Dk} (h : DkR d) (x : List UInt8) : DkR (jsnapF n d x).2.1 := by
  unfold jsnapF
  simp only
  split <;> exact h.swap _
theorem jadd_n (n : Int) (d : Dk) (x : List UInt8) : (jaddF n d x).1 = n ∨ (jaddF n d x).1 = n + 1 := by
  unfold jaddF
  simp only
  split
  · split
    · exact .inr rfl
    · exact .inl rfl
  · exact .inl rfl
theorem jsnap_n (n : Int) (d : Dk) (x : List UInt8) : (jsnapF n d x).1 = n ∨ (jsnapF n d x).1 = 0 := by
  unfold jsnapF
  simp only
  split
  · exact .inr rfl
  · exact .inl rfl
structure Kp where
  n : Int
  N : Nd
  d : Dk
def tK : TypeId := 71
def KpH (bk bj bd : Nat) (K : Kp) : Heap := (bk, ⟨tK, pW bj :: nodeC K.N (.sl false (K.N.log.map een)), 23⟩) :: JrH bj bd K.n K.d
def wr1F (K : Kp) (x : List UInt8) : Int × Dk × Int := if K.n < 16 then jaddF K.n K.d x else (K.n, K.d, 19)
def writeF (K : Kp) (x : List UInt8) : Kp × Int :=
  let a := wr1F K x
  if ¬ a.2.2 = 19 ∨ a.1 = 0 then (⟨a.1, K.N, a.2.1⟩, a.2.2) else
  let s := jsnapF a.1 a.2.1 (recB K.N 0)
  if ¬ s.2.2 = 0 then (⟨s.1, K.N, s.2.1⟩, s.2.2) else
  let b := jaddF s.1 s.2.1 x
  (⟨b.1, K.N, b.2.1⟩, b.2.2)
set_option maxHeartbeats 2000000 in
theorem write_fn (bk bj bd : Nat) (K : Kp) (x : List UInt8) (hd : DkR K.d) (hN : Sz K.N) (hr : (recB K.N 0).length ≤ 4194304) (hx : x.length ≤ 4194304) (h0 : 0 ≤ K.n) (h1 : K.n ≤ 100) :
    FnH Tryz.prog 85 [pW bk, bl x] (KpH bk bj bd K) (fun r H => r = ei (writeF K x).2 ∧ H = KpH bk bj bd (writeF K x).1) := by
  obtain ⟨n, N, d⟩ := K
  simp only at hd hN hr h0 h1
  have hc1 := count_fn bj bd n d
  have ha1 := jadd_fn bj bd n d x hd.ok (hd.app _).ok hx h0 (by omega)
  obtain ⟨⟨na, da, ea⟩, hwa⟩ : ∃ a, wr1F ⟨n, N, d⟩ x = a := ⟨_, rfl⟩
  have hda : DkR da := by
    have : DkR (wr1F ⟨n, N, d⟩ x).2.1 := by
      unfold wr1F; split
      · exact hd.jadd x
      · exact hd
    rw [hwa] at this; exact this
  have hna : 0 ≤ na ∧ na ≤ 101 := by
    have : (wr1F ⟨n, N, d⟩ x).1 = n ∨ (wr1F ⟨n, N, d⟩ x).1 = n + 1 := by
      unfold wr1F; split
      · exact jadd_n n d x
      · exact .inl rfl
    rw [hwa] at this; simp only at this; omega
  have hc2 := count_fn bj bd na da
  have hby := bytes_fn N 0 hN (Nat.zero_le _)
  have hsn := jsnap_fn bj bd na da (recB N 0) hda.ok hr
  obtain ⟨⟨ns, ds, es'⟩, hws⟩ : ∃ a, jsnapF na da (recB N 0) = a := ⟨_, rfl⟩
  have hds : DkR ds := by
    have := hda.jsnap (n := na) (recB N 0)
    rw [hws] at this; exact this
  have hns : 0 ≤ ns ∧ ns ≤ 101 := by
    have := jsnap_n na da (recB N 0)
    rw [hws] at this; simp only at this; omega
  rw [hws] at hsn
  simp only at hsn
  have ha2 := jadd_fn bj bd ns ds x hds.ok (hds.app _).ok hx hns.1 (by omega)
  have hA : writeF ⟨n, N, d⟩ x = if ¬ ea = 19 ∨ na = 0 then (⟨na, N, da⟩, ea) else if ¬ es' = 0 then (⟨ns, N, ds⟩, es') else (⟨(jaddF ns ds x).1, N, (jaddF ns ds x).2.1⟩, (jaddF ns ds x).2.2) := by
    unfold writeF
    rw [hwa]
    simp only
    rw [hws]
  rw [hA]
  refine fn_enter Tryz.func85 (by rfl) (by rfl) ?_
  intro S0 w0
  show Sim _ _ [(0, pW bk), (1, bl x)] ((bk, ⟨tK, pW bj :: nodeC N (.sl false (N.log.map een)), 23⟩) :: JrH bj bd n d) _
  (repeat (first | apply cn | apply cq | apply cb | apply ck | apply cl | apply cx))
  apply cr
  refine s_ p_as ?_
  (repeat (first | apply cn | apply cq | apply cb | apply ck | apply cl | apply cx))
  apply cr
  refine s_ p_as ?_
  (repeat (first | apply cn | apply cq | apply cb | apply ck | apply cl | apply cx))
  apply cr
  refine s_ p_mv ?_
  refine s_ p_nc ?_
  refine s_ p_fr ?_
  refine s_ p_lo ?_
  refine e_cH (Hr := [_]) hc1 (List.perm_append_comm (l₁ := [_])) (fun r H' ⟨hr1, hr2⟩ => ?_)
  subst hr1 hr2
  refine from_perm List.perm_append_comm ?_
  refine s_ p_lt ?_
  (repeat (first | apply cn | apply cq | apply cb | apply ck | apply cl | apply cx))
  refine sim_cut [(0, pW bk), (1, bl x), (5, ei ea)] ((bk, ⟨tK, pW bj :: nodeC N (.sl false (N.log.map een)), 23⟩) :: JrH bj bd na da) ?_ ?_
  · refine ci ?_ ?_
    · intro hlt
      have hlt' : n < 16 := hlt
      have hw : jaddF n d x = (na, da, ea) := by rw [← hwa, wr1F, if_pos hlt']
      rw [hw] at ha1
      (repeat (first | apply cn | apply cq | apply cb | apply ck | apply cl | apply cx))
      apply cr
      refine s_ p_mv ?_
      refine s_ p_nc ?_
      refine s_ p_fr ?_
      refine s_ p_lo ?_
      refine s_ p_mv ?_
      refine e_cH (Hr := [_]) ha1 (List.perm_append_comm (l₁ := [_])) (fun r H' ⟨hr1, hr2⟩ => ?_)
      subst hr1 hr2
      refine from_perm List.perm_append_comm ?_
      refine s_ p_as ?_
      (repeat (first | apply cn | apply cq | apply cb | apply ck | apply cl | apply cx))
      exact ⟨eL, kR⟩
    · intro hlt
      have hlt' : ¬ n < 16 := hlt
      have hw : (n, d, (19 : Int)) = (na, da, ea) := by rw [← hwa, wr1F, if_neg hlt']
      simp only [Prod.mk.injEq] at hw
      obtain ⟨rfl, rfl, rfl⟩ := hw
      (repeat (first | apply cn | apply cq | apply cb | apply ck | apply cl | apply cx))
      exact ⟨eL, kR⟩
  by_cases hea : ea = 19
  · have hnn : ¬ ¬ ea = 19 := fun h => h hea
    (repeat (first | apply cn | apply cq | apply cb | apply ck | apply cl | apply cx))
    apply cr
    refine s_ p_mv ?_
    refine s_ p_ne ?_
    refine s_ p_mv ?_
    refine gF (fun hg => p_mv) ?_
    refine gF (fun hg => p_nc (hx := u_ hg)) ?_
    refine gF (fun hg => p_fr (hx := u_ hg)) ?_
    refine gF (fun hg => p_lo (hx := u_ hg)) ?_
    refine gF_cH (p := ¬ ea = 19) (Hr := [_]) hnn hc2 (List.perm_append_comm (l₁ := [_])) (fun r H' ⟨hr1, hr2⟩ => ?_) (ha' := evl_cons (u_ hnn) evl_nil)
    subst hr1 hr2
    refine from_perm List.perm_append_comm ?_
    refine gF (p := ¬ ea = 19) (fun hg => p_eq) ?_
    refine s_ p_or ?_
    (repeat (first | apply cn | apply cq | apply cb | apply ck | apply cl | apply cx))
    refine ci ?_ ?_
    · intro h
      rw [if_pos h]
      (repeat (first | apply cn | apply cq | apply cb | apply ck | apply cl | apply cx))
      apply cr
      refine s_ p_mv ?_
      refine s_ p_as ?_
      (repeat (first | apply cn | apply cq | apply cb | apply ck | apply cl | apply cx))
      (apply sim_ret; (try simp only [blockΨ_ret, thenΨ_ret, loopL_ret, cutΨ_ret, cutE_ret]))
      exact rh kR ⟨rfl, rfl⟩ (Le.refl _)
    intro h
    rw [if_neg h]
    (repeat (first | apply cn | apply cq | apply cb | apply ck | apply cl | apply cx))
    refine ca [0, 1, 2, 3, 4, 5, 6, 7, 8, 9, 10] [9] ?_
    refine a_ (fun _ => p_mv) ?_
    refine a_ (fun _ => p_nc) ?_
    refine a_ (fun _ => p_fr) ?_
    refine a_lo ?_
    refine a_ (fun _ => p_mv) ?_
    refine a_ (fun _ => p_nc) ?_
    refine a_ (fun _ => p_fr) ?_
    refine a_loa ?_
    refine a_ (fun _ => p_ca (hby)) ?_
    refine a_cHr (Hr := [_]) hsn (List.perm_append_comm (l₁ := [_])) (fun r H' ⟨hr1, hr2⟩ => ⟨?_, ?_⟩)
    · subst hr1 hr2; exact by (repeat (first | exact trivial | (apply And.intro; focus (intro hb; first | exact trivial | exact noB hb rfl | (repeat (first | exact hZ | apply hS | apply hA))))))
    subst hr1 hr2
    (apply Exists.intro; apply And.intro; (focus (repeat (first | exact PDrop.nil | apply PDrop.dropL rfl | apply PDrop.keep))))
    refine a_ (fun _ => p_as) ?_
    apply an
    (repeat (first | apply cn | apply cq | apply cb | apply ck | apply cl | apply cx))
    refine sim_perm List.perm_append_comm ?_
    (repeat (first | apply cn | apply cq | apply cb | apply ck | apply cl | apply cx))
    apply cr
    refine s_ p_mv ?_
    refine s_ p_ne ?_
    (repeat (first | apply cn | apply cq | apply cb | apply ck | apply cl | apply cx))
    refine ci ?_ ?_
    · intro he
      have he' : ¬ es' = 0 := he
      rw [if_pos he']
      (repeat (first | apply cn | apply cq | apply cb | apply ck | apply cl | apply cx))
      apply cr
      refine s_ p_mv ?_
      refine s_ p_as ?_
      (repeat (first | apply cn | apply cq | apply cb | apply ck | apply cl | apply cx))
      (apply sim_ret; (try simp only [blockΨ_ret, thenΨ_ret, loopL_ret, cutΨ_ret, cutE_ret]))
      exact rh kR ⟨rfl, rfl⟩ (Le.refl _)
    intro he
    have he' : ¬ ¬ es' = 0 := he
    rw [if_neg he']
    (repeat (first | apply cn | apply cq | apply cb | apply ck | apply cl | apply cx))
    apply cr
    refine s_ p_mv ?_
    refine s_ p_nc ?_
    refine s_ p_fr ?_
    refine s_ p_lo ?_
    refine s_ p_mv ?_
    refine e_cH (Hr := [_]) ha2 (List.perm_append_comm (l₁ := [_])) (fun r H' ⟨hr1, hr2⟩ => ?_)
    subst hr1 hr2
    refine from_perm List.perm_append_comm ?_
    refine s_ p_as ?_
    (repeat (first | apply cn | apply cq | apply cb | apply ck | apply cl | apply cx))
    (apply sim_ret; (try simp only [blockΨ_ret, thenΨ_ret, loopL_ret, cutΨ_ret, cutE_ret]))
    exact rh kR ⟨rfl, rfl⟩ (Le.refl _)
  · rw [if_pos (.inl hea)]
    (repeat (first | apply cn | apply cq | apply cb | apply ck | apply cl | apply cx))
    apply cr
    refine s_ p_mv ?_
    refine s_ p_ne ?_
    refine s_ p_mv ?_
    refine gF (fun hg => p_mv) ?_
    refine gF (fun hg => p_nc (hx := u_ hg)) ?_
    refine gF (fun hg => p_fr (hx := u_ hg)) ?_
    refine gF (fun hg => p_lo (hx := u_ hg)) ?_
    refine gF (p := ¬ ea = 19) (d := .any) (fun hg => absurd hea hg) ?_
    refine gF (p := ¬ ea = 19) (d := .v (.bool (decide False))) (fun hg => absurd hea hg) ?_
    refine s_ p_or ?_
    (repeat (first | apply cn | apply cq | apply cb | apply ck | apply cl | apply cx))
    refine ci ?_ ?_
    · intro _
      (repeat (first | apply cn | apply cq | apply cb | apply ck | apply cl | apply cx))
      apply cr
      refine s_ p_mv ?_
      refine s_ p_as ?_
      (repeat (first | apply cn | apply cq | apply cb | apply ck | apply cl | apply cx))
      (apply sim_ret; (try simp only [blockΨ_ret, thenΨ_ret, loopL_ret, cutΨ_ret, cutE_ret]))
      exact rh kR ⟨rfl, rfl⟩ (Le.refl _)
    · intro h; exact absurd (.inl hea) h
end Go.Proofs.YtbdpfclnomiicaaGreat
end
section
set_option maxRecDepth 16000
namespace Go.Proofs.YtbdpfclnomiicaaGreat
open Go.Cap
set_option linter.unusedSimpArgs false
set_option linter.unusedVariables false
attribute [local irreducible] POp SimFrom DrawFrom EOp Sim FnH T.gp
attribute [local irreducible] SimD SimFromD
def tN : TypeId := 36
def bxH (b6 b4 b3 bk : Nat) (e : Int) (t : Nd) : Heap := [(b6, ⟨27, [ei e], 1⟩), (b4, ⟨tN, nodeC t (.sl false (t.log.map een)), 22⟩), (b3, ⟨120, [pW bk], 1⟩)]
theorem kdef_fn (b6 b4 b3 bk bj bd : Nat) (e : Int) (t : Nd) (K : Kp) (ht : t.log.length ≤ 1000000000) :
    DfH Tryz.prog 84 #[.pointer (some ⟨b6, 0, none⟩), .pointer (some ⟨b4, 0, none⟩), .pointer (some ⟨b3, 0, none⟩)] (bxH b6 b4 b3 bk e t ++ KpH bk bj bd K) (fun H => H = bxH b6 b4 b3 bk e t ++ KpH bk bj bd (if e = 0 then { K with N := t } else K)) := by
  have ho := kown_fn t ht
  obtain ⟨n, N, d⟩ := K
  refine dfH_enter Tryz.func84 (vs := [.pointer (some ⟨b6, 0, none⟩), .pointer (some ⟨b4, 0, none⟩), .pointer (some ⟨b3, 0, none⟩)]) (by rfl) (by rfl) (by rfl) ?_
  intro S0 w0
  show Sim _ _ [(0, pW b6), (1, pW b4), (2, pW b3)] ((b6, ⟨27, [ei e], 1⟩) :: (b4, ⟨tN, nodeC t (.sl false (t.log.map een)), 22⟩) :: (b3, ⟨120, [pW bk], 1⟩) :: (bk, ⟨tK, pW bj :: nodeC N (.sl false (N.log.map een)), 23⟩) :: JrH bj bd n d) _
  (repeat (first | apply cn | apply cq | apply cb | apply ck | apply cl | apply cx))
  apply cr
  refine s_ p_lo ?_
  refine s_ p_eq ?_
  (repeat (first | apply cn | apply cq | apply cb | apply ck | apply cl | apply cx))
  refine ci ?_ ?_
  · intro he
    have he' : e = 0 := he
    rw [if_pos he']
    (repeat (first | apply cn | apply cq | apply cb | apply ck | apply cl | apply cx))
    refine ca [0, 1, 2, 3, 4, 5] [5] ?_
    refine a_lo ?_
    refine a_loa ?_
    refine a_ (fun _ => p_ca (ho)) ?_
    refine a_ (fun _ => p_nc) ?_
    refine a_ (fun _ => p_fr) ?_
    refine a_st ?_
    apply an
    (repeat (first | apply cn | apply cq | apply cb | apply ck | apply cl | apply cx))
    exact ⟨.inl rfl, _, kR, rfl⟩
  · intro he
    have he' : ¬ e = 0 := he
    rw [if_neg he']
    (repeat (first | apply cn | apply cq | apply cb | apply ck | apply cl | apply cx))
    exact ⟨.inl rfl, _, kR, rfl⟩
def keepF (K : Kp) (t : Nd) (e : Int) : Kp × Int := if ¬ e = 0 then (K, e) else if wakeF K.N = wakeF t then ({ K with N := t }, 0) else
  (if (writeF K (recB t (alikeF K.N t))).2 = 0 then { (writeF K (recB t (alikeF K.N t))).1 with N := t } else (writeF K (recB t (alikeF K.N t))).1, (writeF K (recB t (alikeF K.N t))).2)
structure KpOk (K : Kp) : Prop where
  d : DkR K.d
  sz : Sz K.N
  rec_ : (recB K.N 0).length ≤ 4000000
  n0 : 0 ≤ K.n
  n1 : K.n ≤ 100
theorem recB_le (t : Nd) (k : Nat) : (recB t k).length ≤ (recB t 0).length + 80 := by
  have h1 := intsB_len (headB t k)
  have h2 : (headB t k).length = 8 := rfl
  have h3 : (t.log.flatMap entB).length = ((t.log.take k).flatMap entB).length + ((t.log.drop k).flatMap entB).length := by
    conv => lhs; rw [← List.take_append_drop k t.log]
    rw [List.flatMap_append, List.length_append]
  unfold recB
  simp only [List.length_append, List.drop_zero]
  omega
set_option maxHeartbeats 4000000 in
theorem keep_fn (bk bj bd : Nat) (K : Kp) (t : Nd) (e : Int) (hK : KpOk K) (ht : Sz t) (hx : (recB t 0).length ≤ 4000000) :
    FnH Tryz.prog 65 [pW bk, nd t, ei e] (KpH bk bj bd K) (fun r H => r = ei (keepF K t e).2 ∧ H = KpH bk bj bd (keepF K t e).1) := by
  have htl := ht.len
  have hNl := hK.sz.len
  have hw1 := wake_fn K.N (by omega)
  have hw2 := wake_fn t (by omega)
  have hsm := same_fn (wakeF K.N) (wakeF t) (by show K.N.log.length ≤ _; omega) (by show t.log.length ≤ _; omega)
  have hal := alike_fn K.N t (by omega) (by omega)
  have hale : alikeF K.N t ≤ t.log.length := by
    unfold alikeF
    split
    · exact (pfx_le _ _).2
    · omega
  have hrl : (recB t (alikeF K.N t)).length ≤ 4194304 := by
    have := recB_le t (alikeF K.N t)
    omega
  have hby := bytes_fn t (alikeF K.N t) ht hale
  have hwr := write_fn bk bj bd K (recB t (alikeF K.N t)) hK.d hK.sz (by have := hK.rec_; omega) hrl hK.n0 hK.n1
  obtain ⟨⟨K', ew⟩, hwe⟩ : ∃ a, writeF K (recB t (alikeF K.N t)) = a := ⟨_, rfl⟩
  rw [hwe] at hwr
  simp only at hwr
  have hA : keepF K t e = if ¬ e = 0 then (K, e) else if wakeF K.N = wakeF t then ({ K with N := t }, 0) else (if ew = 0 then { K' with N := t } else K', ew) := by
    unfold keepF
    rw [hwe]
  rw [hA]
  obtain ⟨n, N, d⟩ := K
  refine fn_enterD Tryz.func65 (by rfl) (by rfl) ?_
  intro S0 w0 hw0
  show SimD _ _ _ [(0, pW bk), (1, T.agg (nodeC t (.sl false (t.log.map een)))), (2, ei e)] ((bk, ⟨tK, pW bj :: nodeC N (.sl false (N.log.map een)), 23⟩) :: JrH bj bd n d) _
  refine simD_seq ?_
  (repeat (first | apply cn | apply cq | apply cb | apply ck | apply cl | apply cx))
  apply cr
  refine e_b1 fun b3 _ => ?_
  refine e_bx fun b4 _ => ?_
  refine e_al fun b6 _ => ?_
  (repeat (first | apply cn | apply cq | apply cb | apply ck | apply cl | apply cx))
  refine ⟨rfl, ?_⟩
  refine simD_region ?_
  refine d_s p_mf ?_
  refine d_defer [.pointer (some ⟨b6, 0, none⟩), .pointer (some ⟨b4, 0, none⟩), .pointer (some ⟨b3, 0, none⟩)] ?_ rfl rfl (by first | ((repeat (apply eS; rfl)); exact eZ) | exact ev_int | exact ev_bool | exact ev_nil | exact ev_str | exact ev_ptr | exact ev_agg | exact ev_map | exact ev_nilf | exact ev_nili | exact ev_func)
  refine simD_end hw0 ?_
  (repeat (first | apply cn | apply cq | apply cb | apply ck | apply cl | apply cx))
  apply cr
  refine s_ p_mv ?_
  refine s_ p_ne ?_
  refine s_ p_as ?_
  (repeat (first | apply cn | apply cq | apply cb | apply ck | apply cl | apply cx))
  refine ci ?_ ?_
  · intro he
    have he' : ¬ e = 0 := he
    rw [if_pos he']
    (repeat (first | apply cn | apply cq | apply cb | apply ck | apply cl | apply cx))
    apply cr
    refine s_ p_mv ?_
    refine e_st ?_
    (repeat (first | apply cn | apply cq | apply cb | apply ck | apply cl | apply cx))
    apply sim_ret
    refine ⟨_, kdef_fn b6 b4 b3 bk bj bd e t ⟨n, N, d⟩ (by omega), ?_⟩
    rintro H1 rfl
    rw [if_neg he']
    exact ⟨_, _, _, by (repeat (first | exact resl_nil | (apply resl_tmp; (focus ((repeat (apply gS; rfl)); exact gZ))) | (apply resl_cellO; (focus ((repeat (apply gS; rfl)); exact gZ)); (focus (repeat (first | exact hZ | apply hS | apply hA))); (focus ((repeat (apply TakeR.skip)); (repeat (apply TakeR.cons)); exact TakeR.nil _))) | (apply resl_cell1O; (focus ((repeat (apply gS; rfl)); exact gZ)); (focus (repeat (first | exact hZ | apply hS | apply hA))); (focus rfl)))), Le.refl _, ⟨rfl, rfl⟩, (HeapFront.skip _ _ _ (.skip _ _ _ (.skip _ _ _ kR))).le⟩
  intro he
  have he' : e = 0 := Decidable.not_not.1 he
  rw [if_neg he]
  (repeat (first | apply cn | apply cq | apply cb | apply ck | apply cl | apply cx))
  refine ca [0, 1, 2, 3, 4, 5, 6, 7, 8] [] ?_
  refine a_lo ?_
  refine a_ (fun _ => p_nc) ?_
  refine a_ (fun _ => p_fr) ?_
  refine a_loa ?_
  refine a_ (fun _ => p_ca (hw1)) ?_
  refine a_loa ?_
  refine a_ (fun _ => p_ca (hw2)) ?_
  refine a_ (fun _ => p_ca (hsm)) ?_
  refine a_ (fun _ => p_as) ?_
  apply an
  (repeat (first | apply cn | apply cq | apply cb | apply ck | apply cl | apply cx))
  refine ci ?_ ?_
  · intro hs
    have hs' : wakeF N = wakeF t := hs
    rw [if_pos hs']
    (repeat (first | apply cn | apply cq | apply cb | apply ck | apply cl | apply cx))
    apply cr
    refine e_st ?_
    (repeat (first | apply cn | apply cq | apply cb | apply ck | apply cl | apply cx))
    apply sim_ret
    refine ⟨_, kdef_fn b6 b4 b3 bk bj bd 0 t ⟨n, N, d⟩ (by omega), ?_⟩
    rintro H1 rfl
    rw [if_pos rfl]
    exact ⟨_, _, _, by (repeat (first | exact resl_nil | (apply resl_tmp; (focus ((repeat (apply gS; rfl)); exact gZ))) | (apply resl_cellO; (focus ((repeat (apply gS; rfl)); exact gZ)); (focus (repeat (first | exact hZ | apply hS | apply hA))); (focus ((repeat (apply TakeR.skip)); (repeat (apply TakeR.cons)); exact TakeR.nil _))) | (apply resl_cell1O; (focus ((repeat (apply gS; rfl)); exact gZ)); (focus (repeat (first | exact hZ | apply hS | apply hA))); (focus rfl)))), Le.refl _, ⟨rfl, rfl⟩, (HeapFront.skip _ _ _ (.skip _ _ _ (.skip _ _ _ kR))).le⟩
  intro hs
  have hs' : ¬ wakeF N = wakeF t := hs
  rw [if_neg hs']
  (repeat (first | apply cn | apply cq | apply cb | apply ck | apply cl | apply cx))
  refine ca [0, 1, 2, 3, 4, 5, 6, 7, 8, 9, 10] [9, 10] ?_
  refine a_lo ?_
  refine a_loa ?_
  refine a_lo ?_
  refine a_ (fun _ => p_nc) ?_
  refine a_ (fun _ => p_fr) ?_
  refine a_loa ?_
  refine a_loa ?_
  refine a_ (fun _ => p_ca (hal)) ?_
  refine a_ (fun _ => p_ca (hby)) ?_
  refine a_cHr (Hr := [_, _, _]) hwr (List.perm_append_comm (l₁ := [_, _, _])) (fun r H' ⟨hr1, hr2⟩ => ⟨?_, ?_⟩)
  · subst hr1 hr2; exact by (repeat (first | exact trivial | (apply And.intro; focus (intro hb; first | exact trivial | exact noB hb rfl | (repeat (first | exact hZ | apply hS | apply hA))))))
  subst hr1 hr2
  (apply Exists.intro; apply And.intro; (focus (repeat (first | exact PDrop.nil | apply PDrop.dropL rfl | apply PDrop.keep))))
  refine a_st ?_
  apply an
  (repeat (first | apply cn | apply cq | apply cb | apply ck | apply cl | apply cx))
  refine sim_perm (H' := bxH b6 b4 b3 bk ew t ++ KpH bk bj bd K') (List.perm_append_comm (l₁ := KpH bk bj bd K') (l₂ := bxH b6 b4 b3 bk ew t)) ?_
  apply sim_ret
  refine ⟨_, kdef_fn b6 b4 b3 bk bj bd ew t K' (by omega), ?_⟩
  rintro H1 rfl
  exact ⟨_, _, _, by (repeat (first | exact resl_nil | (apply resl_tmp; (focus ((repeat (apply gS; rfl)); exact gZ))) | (apply resl_cellO; (focus ((repeat (apply gS; rfl)); exact gZ)); (focus (repeat (first | exact hZ | apply hS | apply hA))); (focus ((repeat (apply TakeR.skip)); (repeat (apply TakeR.cons)); exact TakeR.nil _))) | (apply resl_cell1O; (focus ((repeat (apply gS; rfl)); exact gZ)); (focus (repeat (first | exact hZ | apply hS | apply hA))); (focus rfl)))), Le.refl _, ⟨rfl, rfl⟩, (HeapFront.skip _ _ _ (.skip _ _ _ (.skip _ _ _ kR))).le⟩
theorem sent_fn (bk bj bd : Nat) (K : Kp) (t : Nd) (l : List Ms) (hK : KpOk K) (ht : Sz t) (hx : (recB t 0).length ≤ 4000000) :
    FnH Tryz.prog 37 [pW bk, nd t, mss l] (KpH bk bj bd K) (fun r H => r = .tup [if (keepF K t 0).2 = 0 then mss l else .sl true [], ei (keepF K t 0).2] ∧ H = KpH bk bj bd (keepF K t 0).1) := by
  have hk := keep_fn bk bj bd K t 0 hK ht hx
  obtain ⟨⟨K', e⟩, hke⟩ : ∃ a, keepF K t 0 = a := ⟨_, rfl⟩
  rw [hke] at hk ⊢
  simp only at hk ⊢
  refine fn_enter Tryz.func37 (by rfl) (by rfl) ?_
  intro S0 w0
  show Sim _ _ [(0, pW bk), (1, T.agg (nodeC t (.sl false (t.log.map een)))), (2, mss l)] (KpH bk bj bd K) _
  (repeat (first | apply cn | apply cq | apply cb | apply ck | apply cl | apply cx))
  apply cr
  refine e_bx fun b4 _ => ?_
  refine s_ p_as ?_
  refine s_ p_as ?_
  (repeat (first | apply cn | apply cq | apply cb | apply ck | apply cl | apply cx))
  apply cr
  refine s_ p_mv ?_
  refine s_ p_mf ?_
  refine s_ p_as ?_
  (repeat (first | apply cn | apply cq | apply cb | apply ck | apply cl | apply cx))
  apply cr
  refine s_ p_mv ?_
  refine s_ p_loa ?_
  refine e_vH (fs := [pW bk]) (args := [nd t, ei 0]) (cs := []) hk (Hr := [_]) (List.perm_append_comm (l₁ := [_])) (fun r H' ⟨hr1, hr2⟩ => ?_)
  subst hr1 hr2
  refine s_ p_as ?_
  (repeat (first | apply cn | apply cq | apply cb | apply ck | apply cl | apply cx))
  apply cr
  refine s_ p_mv ?_
  refine s_ p_ne ?_
  (repeat (first | apply cn | apply cq | apply cb | apply ck | apply cl | apply cx))
  refine ci ?_ ?_
  · intro he
    have he' : ¬ e = 0 := he
    rw [if_neg he']
    (repeat (first | apply cn | apply cq | apply cb | apply ck | apply cl | apply cx))
    apply cr
    refine s_ p_mv ?_
    refine s_ p_as ?_
    refine s_ p_as ?_
    (repeat (first | apply cn | apply cq | apply cb | apply ck | apply cl | apply cx))
    (apply sim_ret; (try simp only [blockΨ_ret, thenΨ_ret, loopL_ret, cutΨ_ret, cutE_ret]))
    refine rhp List.perm_append_comm (.skip _ _ _ kR) ⟨rfl, rfl⟩ ?_
    exact Le.tup (LeL.cons (Le.slice0 _ _) (LeL.cons (Le.refl _) LeL.nil))
  · intro he
    have he' : e = 0 := Decidable.not_not.1 he
    rw [if_pos he', he']
    (repeat (first | apply cn | apply cq | apply cb | apply ck | apply cl | apply cx))
    apply cr
    refine s_ p_mv ?_
    refine s_ p_as ?_
    refine s_ p_as ?_
    (repeat (first | apply cn | apply cq | apply cb | apply ck | apply cl | apply cx))
    (apply sim_ret; (try simp only [blockΨ_ret, thenΨ_ret, loopL_ret, cutΨ_ret, cutE_ret]))
    exact rhp List.perm_append_comm (.skip _ _ _ kR) ⟨rfl, rfl⟩ (Le.refl _)
theorem kput_fn (bk bj bd : Nat) (K : Kp) (t : Nd) (i e : Int) (hK : KpOk K) (ht : Sz t) (hx : (recB t 0).length ≤ 4000000) :
    FnH Tryz.prog 61 [pW bk, nd t, ei i, ei e] (KpH bk bj bd K) (fun r H => r = .tup [ei (if (keepF K t e).2 = 0 then i else 0), ei (keepF K t e).2] ∧ H = KpH bk bj bd (keepF K t e).1) := by
  have hk := keep_fn bk bj bd K t e hK ht hx
  obtain ⟨⟨K', e'⟩, hke⟩ : ∃ a, keepF K t e = a := ⟨_, rfl⟩
  rw [hke] at hk ⊢
  simp only at hk ⊢
  refine fn_enter Tryz.func61 (by rfl) (by rfl) ?_
  intro S0 w0
  show Sim _ _ [(0, pW bk), (1, T.agg (nodeC t (.sl false (t.log.map een)))), (2, ei i), (3, ei e)] (KpH bk bj bd K) _
  (repeat (first | apply cn | apply cq | apply cb | apply ck | apply cl | apply cx))
  apply cr
  refine e_bx fun b5 _ => ?_
  refine s_ p_as ?_
  refine s_ p_as ?_
  (repeat (first | apply cn | apply cq | apply cb | apply ck | apply cl | apply cx))
  apply cr
  refine s_ p_mv ?_
  refine s_ p_loa ?_
  refine s_ p_mv ?_
  refine e_cH (Hr := [_]) hk (List.perm_append_comm (l₁ := [_])) (fun r H' ⟨hr1, hr2⟩ => ?_)
  subst hr1 hr2
  refine s_ p_as ?_
  (repeat (first | apply cn | apply cq | apply cb | apply ck | apply cl | apply cx))
  apply cr
  refine s_ p_mv ?_
  refine s_ p_ne ?_
  (repeat (first | apply cn | apply cq | apply cb | apply ck | apply cl | apply cx))
  refine ci ?_ ?_
  · intro he
    have he' : ¬ e' = 0 := he
    rw [if_neg he']
    (repeat (first | apply cn | apply cq | apply cb | apply ck | apply cl | apply cx))
    apply cr
    refine s_ p_mv ?_
    refine s_ p_as ?_
    refine s_ p_as ?_
    (repeat (first | apply cn | apply cq | apply cb | apply ck | apply cl | apply cx))
    (apply sim_ret; (try simp only [blockΨ_ret, thenΨ_ret, loopL_ret, cutΨ_ret, cutE_ret]))
    exact rhp List.perm_append_comm (.skip _ _ _ kR) ⟨rfl, rfl⟩ (Le.refl _)
  · intro he
    have he' : e' = 0 := Decidable.not_not.1 he
    rw [if_pos he', he']
    (repeat (first | apply cn | apply cq | apply cb | apply ck | apply cl | apply cx))
    apply cr
    refine s_ p_mv ?_
    refine s_ p_as ?_
    refine s_ p_as ?_
    (repeat (first | apply cn | apply cq | apply cb | apply ck | apply cl | apply cx))
    (apply sim_ret; (try simp only [blockΨ_ret, thenΨ_ret, loopL_ret, cutΨ_ret, cutE_ret]))
    exact rhp List.perm_append_comm (.skip _ _ _ kR) ⟨rfl, rfl⟩ (Le.refl _)
end Go.Proofs.YtbdpfclnomiicaaGreat
end
section
set_option maxRecDepth 16000
namespace Go.Proofs.YtbdpfclnomiicaaGreat
open Go.Cap
set_option linter.unusedSimpArgs false
set_option linter.unusedVariables false
attribute [local irreducible] POp SimFrom DrawFrom EOp Sim FnH T.gp
def sentT (K : Kp) (t : Nd) (l : List Ms) : T := .tup [if (keepF K t 0).2 = 0 then mss l else .sl true [], ei (keepF K t 0).2]
theorem kTick_fn (bk bj bd : Nat) (K : Kp) {t : Nd} {l : List Ms} (hT : FnP Tryz.prog 24 [nd K.N] (fun r => r = .tup [nd t, mss l])) (hK : KpOk K) (ht : Sz t) (hx : (recB t 0).length ≤ 4000000) :
    FnH Tryz.prog 17 [pW bk] (KpH bk bj bd K) (fun r H => r = sentT K t l ∧ H = KpH bk bj bd (keepF K t 0).1) := by
  have hs := sent_fn bk bj bd K t l hK ht hx
  obtain ⟨n, N, d⟩ := K
  refine fn_enter Tryz.func17 (by rfl) (by rfl) ?_
  intro S0 w0
  show Sim _ _ [(0, pW bk)] ((bk, ⟨tK, pW bj :: nodeC N (.sl false (N.log.map een)), 23⟩) :: JrH bj bd n d) _
  (repeat (first | apply cn | apply cq | apply cb | apply ck | apply cl | apply cx))
  apply cr
  refine s_ p_as ?_
  refine s_ p_as ?_
  (repeat (first | apply cn | apply cq | apply cb | apply ck | apply cl | apply cx))
  refine ca [0, 1, 2, 3, 4, 5, 6, 7, 8, 9, 10, 11, 12, 13, 14, 15] [11] ?_
  refine a_ (fun _ => p_mv) ?_
  refine a_ (fun _ => p_nc) ?_
  refine a_ (fun _ => p_fr) ?_
  refine a_ (fun _ => p_mv) ?_
  refine a_ (fun _ => p_nc) ?_
  refine a_ (fun _ => p_fr) ?_
  refine a_ (fun _ => p_fr) ?_
  refine a_loa ?_
  refine a_ (fun _ => p_ca (hT)) ?_
  refine a_ (fun _ => p_ex) ?_
  refine a_ (fun _ => p_ex) ?_
  refine a_cH hs (fun r H' ⟨hr1, hr2⟩ => ⟨?_, ?_⟩)
  · subst hr1 hr2; exact by (repeat (first | exact trivial | (apply And.intro; focus (intro hb; first | exact trivial | exact noB hb rfl | (repeat (first | exact hZ | apply hS | apply hA))))))
  subst hr1 hr2
  (apply Exists.intro; apply And.intro; (focus (repeat (first | exact PDrop.nil | apply PDrop.dropL rfl | apply PDrop.keep))))
  refine a_ (fun _ => p_ex) ?_
  refine a_ (fun _ => p_ex) ?_
  refine a_ (fun _ => p_as) ?_
  refine a_ (fun _ => p_as) ?_
  apply an
  (repeat (first | apply cn | apply cq | apply cb | apply ck | apply cl | apply cx))
  (apply sim_ret; (try simp only [blockΨ_ret, thenΨ_ret, loopL_ret, cutΨ_ret, cutE_ret]))
  exact rh kR ⟨rfl, rfl⟩ (Le.refl _)
theorem kTake_fn (bk bj bd : Nat) (K : Kp) (m : Ms) {t : Nd} {l : List Ms} (hT : FnP Tryz.prog 27 [nd K.N, ms m] (fun r => r = .tup [nd t, mss l])) (hK : KpOk K) (ht : Sz t) (hx : (recB t 0).length ≤ 4000000) :
    FnH Tryz.prog 28 [pW bk, ms m] (KpH bk bj bd K) (fun r H => r = sentT K t l ∧ H = KpH bk bj bd (keepF K t 0).1) := by
  have hs := sent_fn bk bj bd K t l hK ht hx
  obtain ⟨n, N, d⟩ := K
  refine fn_enter Tryz.func28 (by rfl) (by rfl) ?_
  intro S0 w0
  show Sim _ _ [(0, pW bk), (1, T.agg (msC m (eens m.entries)))] ((bk, ⟨tK, pW bj :: nodeC N (.sl false (N.log.map een)), 23⟩) :: JrH bj bd n d) _
  (repeat (first | apply cn | apply cq | apply cb | apply ck | apply cl | apply cx))
  apply cr
  refine e_bx fun b3 _ => ?_
  refine s_ p_as ?_
  refine s_ p_as ?_
  (repeat (first | apply cn | apply cq | apply cb | apply ck | apply cl | apply cx))
  refine ca [0, 1, 2, 3, 4, 5, 6, 7, 8, 9, 10, 11, 12, 13, 14, 15, 16] [12] ?_
  refine a_ (fun _ => p_mv) ?_
  refine a_ (fun _ => p_nc) ?_
  refine a_ (fun _ => p_fr) ?_
  refine a_ (fun _ => p_mv) ?_
  refine a_ (fun _ => p_nc) ?_
  refine a_ (fun _ => p_fr) ?_
  refine a_ (fun _ => p_fr) ?_
  refine a_loa ?_
  refine a_loa ?_
  refine a_ (fun _ => p_ca (hT)) ?_
  refine a_ (fun _ => p_ex) ?_
  refine a_ (fun _ => p_ex) ?_
  refine a_cHr (Hr := [_]) hs (List.perm_append_comm (l₁ := [_])) (fun r H' ⟨hr1, hr2⟩ => ⟨?_, ?_⟩)
  · subst hr1 hr2; exact by (repeat (first | exact trivial | (apply And.intro; focus (intro hb; first | exact trivial | exact noB hb rfl | (repeat (first | exact hZ | apply hS | apply hA))))))
  subst hr1 hr2
  (apply Exists.intro; apply And.intro; (focus (repeat (first | exact PDrop.nil | apply PDrop.dropL rfl | apply PDrop.keep))))
  refine a_ (fun _ => p_ex) ?_
  refine a_ (fun _ => p_ex) ?_
  refine a_ (fun _ => p_as) ?_
  refine a_ (fun _ => p_as) ?_
  apply an
  (repeat (first | apply cn | apply cq | apply cb | apply ck | apply cl | apply cx))
  (apply sim_ret; (try simp only [blockΨ_ret, thenΨ_ret, loopL_ret, cutΨ_ret, cutE_ret]))
  exact rhp List.perm_append_comm (.skip _ _ _ kR) ⟨rfl, rfl⟩ (Le.refl _)
def putT (K : Kp) (t : Nd) (i e : Int) : T := .tup [ei (if (keepF K t e).2 = 0 then i else 0), ei (keepF K t e).2]
theorem kProp_fn (bk bj bd : Nat) (K : Kp) (cmd : List UInt8) {t : Nd} {i e : Int} (hT : FnP Tryz.prog 29 [nd K.N, es cmd] (fun r => r = .tup [nd t, ei i, ei e])) (hK : KpOk K) (ht : Sz t) (hx : (recB t 0).length ≤ 4000000) :
    FnH Tryz.prog 30 [pW bk, es cmd] (KpH bk bj bd K) (fun r H => r = putT K t i e ∧ H = KpH bk bj bd (keepF K t e).1) := by
  have hs := kput_fn bk bj bd K t i e hK ht hx
  obtain ⟨n, N, d⟩ := K
  refine fn_enter Tryz.func30 (by rfl) (by rfl) ?_
  intro S0 w0
  show Sim _ _ [(0, pW bk), (1, es cmd)] ((bk, ⟨tK, pW bj :: nodeC N (.sl false (N.log.map een)), 23⟩) :: JrH bj bd n d) _
  (repeat (first | apply cn | apply cq | apply cb | apply ck | apply cl | apply cx))
  apply cr
  refine s_ p_as ?_
  refine s_ p_as ?_
  (repeat (first | apply cn | apply cq | apply cb | apply ck | apply cl | apply cx))
  refine ca [0, 1, 2, 3, 4, 5, 6, 7, 8, 9, 10, 11, 12, 13, 14, 15, 16, 17] [13] ?_
  refine a_ (fun _ => p_mv) ?_
  refine a_ (fun _ => p_nc) ?_
  refine a_ (fun _ => p_fr) ?_
  refine a_ (fun _ => p_mv) ?_
  refine a_ (fun _ => p_nc) ?_
  refine a_ (fun _ => p_fr) ?_
  refine a_ (fun _ => p_fr) ?_
  refine a_loa ?_
  refine a_ (fun _ => p_mv) ?_
  refine a_ (fun _ => p_ca (hT)) ?_
  refine a_ (fun _ => p_ex) ?_
  refine a_ (fun _ => p_ex) ?_
  refine a_ (fun _ => p_ex) ?_
  refine a_cH hs (fun r H' ⟨hr1, hr2⟩ => ⟨?_, ?_⟩)
  · subst hr1 hr2; exact by (repeat (first | exact trivial | (apply And.intro; focus (intro hb; first | exact trivial | exact noB hb rfl | (repeat (first | exact hZ | apply hS | apply hA))))))
  subst hr1 hr2
  (apply Exists.intro; apply And.intro; (focus (repeat (first | exact PDrop.nil | apply PDrop.dropL rfl | apply PDrop.keep))))
  refine a_ (fun _ => p_ex) ?_
  refine a_ (fun _ => p_ex) ?_
  refine a_ (fun _ => p_as) ?_
  refine a_ (fun _ => p_as) ?_
  apply an
  (repeat (first | apply cn | apply cq | apply cb | apply ck | apply cl | apply cx))
  (apply sim_ret; (try simp only [blockΨ_ret, thenΨ_ret, loopL_ret, cutΨ_ret, cutE_ret]))
  exact rh kR ⟨rfl, rfl⟩ (Le.refl _)
theorem kChange_fn (bk bj bd : Nat) (K : Kp) (conf : Int) {t : Nd} {i e : Int} (hT : FnP Tryz.prog 31 [nd K.N, ei conf] (fun r => r = .tup [nd t, ei i, ei e])) (hK : KpOk K) (ht : Sz t) (hx : (recB t 0).length ≤ 4000000) :
    FnH Tryz.prog 33 [pW bk, ei conf] (KpH bk bj bd K) (fun r H => r = putT K t i e ∧ H = KpH bk bj bd (keepF K t e).1) := by
  have hs := kput_fn bk bj bd K t i e hK ht hx
  obtain ⟨n, N, d⟩ := K
  refine fn_enter Tryz.func33 (by rfl) (by rfl) ?_
  intro S0 w0
  show Sim _ _ [(0, pW bk), (1, ei conf)] ((bk, ⟨tK, pW bj :: nodeC N (.sl false (N.log.map een)), 23⟩) :: JrH bj bd n d) _
  (repeat (first | apply cn | apply cq | apply cb | apply ck | apply cl | apply cx))
  apply cr
  refine s_ p_as ?_
  refine s_ p_as ?_
  (repeat (first | apply cn | apply cq | apply cb | apply ck | apply cl | apply cx))
  refine ca [0, 1, 2, 3, 4, 5, 6, 7, 8, 9, 10, 11, 12, 13, 14, 15, 16, 17] [13] ?_
  refine a_ (fun _ => p_mv) ?_
  refine a_ (fun _ => p_nc) ?_
  refine a_ (fun _ => p_fr) ?_
  refine a_ (fun _ => p_mv) ?_
  refine a_ (fun _ => p_nc) ?_
  refine a_ (fun _ => p_fr) ?_
  refine a_ (fun _ => p_fr) ?_
  refine a_loa ?_
  refine a_ (fun _ => p_mv) ?_
  refine a_ (fun _ => p_ca (hT)) ?_
  refine a_ (fun _ => p_ex) ?_
  refine a_ (fun _ => p_ex) ?_
  refine a_ (fun _ => p_ex) ?_
  refine a_cH hs (fun r H' ⟨hr1, hr2⟩ => ⟨?_, ?_⟩)
  · subst hr1 hr2; exact by (repeat (first | exact trivial | (apply And.intro; focus (intro hb; first | exact trivial | exact noB hb rfl | (repeat (first | exact hZ | apply hS | apply hA))))))
  subst hr1 hr2
  (apply Exists.intro; apply And.intro; (focus (repeat (first | exact PDrop.nil | apply PDrop.dropL rfl | apply PDrop.keep))))
  refine a_ (fun _ => p_ex) ?_
  refine a_ (fun _ => p_ex) ?_
  refine a_ (fun _ => p_as) ?_
  refine a_ (fun _ => p_as) ?_
  apply an
  (repeat (first | apply cn | apply cq | apply cb | apply ck | apply cl | apply cx))
  (apply sim_ret; (try simp only [blockΨ_ret, thenΨ_ret, loopL_ret, cutΨ_ret, cutE_ret]))
  exact rh kR ⟨rfl, rfl⟩ (Le.refl _)
theorem kNode_fn (bk bj bd : Nat) (K : Kp) (hl : K.N.log.length ≤ 1000000000) : FnH Tryz.prog 16 [pW bk] (KpH bk bj bd K) (fun r H => r = nd K.N ∧ H = KpH bk bj bd K) := by
  have ho := kown_fn K.N hl
  obtain ⟨n, N, d⟩ := K
  refine fn_enter Tryz.func16 (by rfl) (by rfl) ?_
  intro S0 w0
  show Sim _ _ [(0, pW bk)] ((bk, ⟨tK, pW bj :: nodeC N (.sl false (N.log.map een)), 23⟩) :: JrH bj bd n d) _
  (repeat (first | apply cn | apply cq | apply cb | apply ck | apply cl | apply cx))
  apply cr
  refine e_al fun b2 _ => ?_
  (repeat (first | apply cn | apply cq | apply cb | apply ck | apply cl | apply cx))
  apply cr
  refine s_ p_mv ?_
  refine s_ p_nc ?_
  refine s_ p_fr ?_
  refine s_ p_fr ?_
  refine s_ p_loa ?_
  refine s_ (p_ca (ho)) ?_
  refine e_st ?_
  (repeat (first | apply cn | apply cq | apply cb | apply ck | apply cl | apply cx))
  (apply sim_ret; (try simp only [blockΨ_ret, thenΨ_ret, loopL_ret, cutΨ_ret, cutE_ret]))
  exact rh (.skip _ _ _ kR) ⟨rfl, rfl⟩ (Le.refl _)
end Go.Proofs.YtbdpfclnomiicaaGreat
end
section
set_option maxRecDepth 16000
namespace Go.Proofs.YtbdpfclnomiicaaGreat
open Go.Cap
set_option linter.unusedSimpArgs false
set_option linter.unusedVariables false
attribute [local irreducible] POp SimFrom DrawFrom EOp Sim FnH T.gp
def layAll (n : Nd) (rs : List (Nd × Nat)) : Nd := rs.foldl (fun n p => layF n p.1 p.2) n
def rec1 (p : Nd × Nat) : List UInt8 := recB p.1 p.2
def openN (n0 : Nd) (so : Option Nd) (rs : List (Nd × Nat)) : Nd := layAll (match so with | none => n0 | some m => layF n0 m 0) rs
def openF (n0 : Nd) (so : Option Nd) (rs : List (Nd × Nat)) : Nd := if so = none ∧ rs = [] then n0 else wakeF (openN n0 so rs)
theorem recB_pos (m : Nd) (k : Nat) : 0 < (recB m k).length := by
  have h := intB_len m.term
  unfold recB headB intsB
  simp only [List.flatMap_cons, List.length_append]
  omega
theorem layAll_next (n : Nd) (rs : List (Nd × Nat)) {k : Nat} (hk : k < rs.length) : layAll n (rs.take (k + 1)) = layF (layAll n (rs.take k)) rs[k].1 rs[k].2 := by
  unfold layAll
  rw [List.take_succ_eq_append_getElem hk, List.foldl_append]
  rfl
set_option maxHeartbeats 4000000 in
theorem kOpen_fn (bd : Nat) (d : Dk) (id conf : Int) (n0 : Nd) (so : Option Nd) (rs : List (Nd × Nat)) (tl : List UInt8) (hn0 : FnP Tryz.prog 12 [ei id, ei conf] (fun r => r = nd n0)) (hl0 : n0.log.length ≤ 10000)
    (hd : DkOk d) (hdead : d.dead = false) (hleft : d.left = 0) (hso : d.snap = snapB (so.map (recB · 0))) (hlog : d.log = (rs.map rec1).flatMap frmB ++ tl) (hst : Stop tl)
    (hsz : ∀ m, so = some m → Sz m ∧ (recB m 0).length ≤ 4194304) (hrs : ∀ p ∈ rs, Sz p.1 ∧ p.2 ≤ p.1.log.length ∧ (rec1 p).length ≤ 4194304)
    (hlay : ∀ k, (layAll (match so with | none => n0 | some m => layF n0 m 0) (rs.take k)).log.length ≤ 10000) :
    FnH Tryz.prog 11 [pW bd, ei id, ei conf] (DkH bd d) (fun r H => ∃ bk bj, r = .tup [pW bk, ei 0] ∧ H = KpH bk bj bd ⟨rs.length, openF n0 so rs, openD d (rs.map rec1) tl⟩) := by
  have hj := openJ_fn bd d (so.map (recB · 0)) (rs.map rec1) tl hd hdead hleft hso (by
    intro s hs
    cases so with
    | none => cases hs
    | some m => cases hs; exact (hsz m rfl).2) hlog hst (by
    intro x hx
    obtain ⟨p, hp, rfl⟩ := List.mem_map.1 hx
    exact (hrs p hp).2.2)
  obtain ⟨sn, hsn⟩ : ∃ sn, sn = (so.map (recB · 0)).getD [] := ⟨_, rfl⟩
  obtain ⟨n1, hn1⟩ : ∃ n1, n1 = (match so with | none => n0 | some m => layF n0 m 0) := ⟨_, rfl⟩
  have hF : openF n0 so rs = if so = none ∧ rs = [] then n0 else wakeF (layAll n1 rs) := by rw [hn1]; rfl
  have hlay' : ∀ k, (layAll n1 (rs.take k)).log.length ≤ 10000 := by rw [hn1]; exact hlay
  have hn1l : n1.log.length ≤ 10000 := hlay' 0
  have hfull : (layAll n1 rs).log.length ≤ 10000 := by have := hlay' rs.length; rwa [List.take_length] at this
  have hrl : rs.length ≤ 100000000 := by
    have hu := hd.used
    have : rs.length ≤ ((rs.map rec1).flatMap frmB).length := by
      clear hrs hlay hlay' hfull hlog hj hF
      induction rs with
      | nil => simp
      | cons x l ih => rw [List.map_cons, List.flatMap_cons, List.length_append, frmB_len, List.length_cons]; omega
    rw [hlog, List.length_append] at hu
    omega
  have hsnl : sn.length ≤ 4194304 := by
    rw [hsn]
    cases so with
    | none => simp
    | some m => exact (hsz m rfl).2
  rw [← hsn] at hj
  refine fn_enter Tryz.func11 (by rfl) (by rfl) ?_
  intro S0 w0
  show Sim _ _ [(0, pW bd), (1, ei id), (2, ei conf)] (DkH bd d) _
  (repeat (first | apply cn | apply cq | apply cb | apply ck | apply cl | apply cx))
  apply cr
  refine s_ p_as ?_
  refine s_ p_as ?_
  (repeat (first | apply cn | apply cq | apply cb | apply ck | apply cl | apply cx))
  apply cr
  refine s_ p_mv ?_
  refine e_cHA hj (fun r H' ⟨bj, hr1, hr2⟩ => ?_)
  subst hr1 hr2
  refine s_ p_mv ?_
  refine s_ p_ex ?_
  refine s_ p_ex ?_
  refine s_ p_ex ?_
  refine s_ p_ex ?_
  refine s_ p_as ?_
  refine s_ p_as ?_
  refine s_ p_as ?_
  refine s_ p_as ?_
  (repeat (first | apply cn | apply cq | apply cb | apply ck | apply cl | apply cx))
  apply cr
  refine s_ p_mv ?_
  refine s_ p_ne ?_
  (repeat (first | apply cn | apply cq | apply cb | apply ck | apply cl | apply cx))
  refine ci ?_ ?_
  · intro h; exact absurd rfl h
  intro _
  (repeat (first | apply cn | apply cq | apply cb | apply ck | apply cl | apply cx))
  apply cr
  refine s_ p_mv ?_
  refine s_ p_mv ?_
  refine s_ (p_ca (hn0)) ?_
  refine e_al fun b12 _ => ?_
  refine e_st ?_
  (repeat (first | apply cn | apply cq | apply cb | apply ck | apply cl | apply cx))
  (repeat (first | apply cn | apply cq | apply cb | apply ck | apply cl | apply cx))
  apply cr
  refine s_ p_mv ?_
  (first | refine s_ p_ln ?_ | refine s_ p_lr ?_)
  refine s_ p_gt ?_
  (repeat (first | apply cn | apply cq | apply cb | apply ck | apply cl | apply cx))
  refine sim_cut [(8, pW bj), (9, bl sn), (10, tBl (rs.map rec1)), (12, pW b12)] ((b12, ⟨tN, nodeC n1 (.sl false (n1.log.map een)), 22⟩) :: JrH bj bd (rs.map rec1).length (openD d (rs.map rec1) tl)) ?_ ?_
  · refine ci ?_ ?_
    · intro hpos
      cases so with
      | none => rw [hsn] at hpos; exact absurd hpos (by simp)
      | some m =>
        have hm := hsz m rfl
        have hsn' : sn = recB m 0 := hsn
        have hn1' : n1 = layF n0 m 0 := hn1
        have hla := lay_fn false n0 m 0 hm.1 (Nat.zero_le _) hl0
        subst hsn' hn1'
        (repeat (first | apply cn | apply cq | apply cb | apply ck | apply cl | apply cx))
        apply cr
        refine s_ p_loa ?_
        refine s_ p_mv ?_
        refine s_ (p_ca (hla)) ?_
        refine e_st ?_
        (repeat (first | apply cn | apply cq | apply cb | apply ck | apply cl | apply cx))
        exact ⟨eL, kR⟩
    · intro hpos
      cases so with
      | none =>
        have hn1' : n1 = n0 := hn1
        rw [hn1']
        (repeat (first | apply cn | apply cq | apply cb | apply ck | apply cl | apply cx))
        exact ⟨eL, kR⟩
      | some m =>
        have hsn' : sn = recB m 0 := hsn
        have := recB_pos m 0
        exact absurd (by rw [hsn', List.length_map]; omega) hpos
  (repeat (first | apply cn | apply cq | apply cb | apply ck | apply cl | apply cx))
  apply cr
  refine s_ p_mv ?_
  (first | refine s_ p_ln ?_ | refine s_ p_lr ?_)
  refine s_ p_mv ?_
  (repeat (first | apply cn | apply cq | apply cb | apply ck | apply cl | apply cx))
  apply sim_loopL (σ := Nat) (ok := fun k => k ≤ rs.length) (env := fun k => [(36, ei k), (35, ei (rs.length : Nat)), (34, tBl (rs.map rec1)), (8, pW bj), (9, bl sn), (10, tBl (rs.map rec1)), (12, pW b12)]) (heap := fun k => (b12, ⟨tN, nodeC (layAll n1 (rs.take k)) (.sl false ((layAll n1 (rs.take k)).log.map een)), 22⟩) :: JrH bj bd rs.length (openD d (rs.map rec1) tl)) (μ := fun k => rs.length - k) (s0 := 0)
  · exact Nat.zero_le _
  · refine ⟨?_, ?_, eL⟩
    · apply le_get; ((repeat (apply gS; rfl)); exact gZ)
      exact Le.refl _
    · apply le_get; ((repeat (apply gS; rfl)); exact gZ)
      exact Le.of_eq (by simp [ei])
  · rw [List.length_map]; exact kR
  intro k hk
  (repeat (first | apply cn | apply cq | apply cb | apply ck | apply cl | apply cx))
  apply cr
  refine s_ p_lt ?_
  (repeat (first | apply cn | apply cq | apply cb | apply ck | apply cl | apply cx))
  refine ci ?_ ?_
  · intro hlt
    have hlt' : k < rs.length := by omega
    have hp := hrs _ (List.getElem_mem hlt')
    have hla := lay_fn false (layAll n1 (rs.take k)) rs[k].1 rs[k].2 hp.1 hp.2.1 (hlay' k)
    have hnx := layAll_next n1 rs hlt'
    have hix : k < (rs.map rec1).length := by rw [List.length_map]; exact hlt'
    have e : (rs.map rec1)[k]'hix = rec1 rs[k] := List.getElem_map ..
    have hla' : FnP Tryz.prog 22 [nd (layAll n1 (rs.take k)), bl ((rs.map rec1)[k]'hix)] (fun r => r = nd (layF (layAll n1 (rs.take k)) rs[k].1 rs[k].2)) := by rw [e]; exact hla
    (repeat (first | apply cn | apply cq | apply cb | apply ck | apply cl | apply cx))
    apply cr
    (first | refine s_ (p_ix hix) ?_ | refine s_ (p_ix hix2) ?_ | refine s_ p_ia ?_ | refine s_ p_ir ?_)
    (first | refine s_ p_ld ?_ | refine s_ p_lo ?_)
    refine s_ p_as ?_
    (repeat (first | apply cn | apply cq | apply cb | apply ck | apply cl | apply cx))
    apply cr
    refine s_ p_loa ?_
    refine s_ p_mv ?_
    refine s_ (p_ca (hla')) ?_
    refine e_st ?_
    (repeat (first | apply cn | apply cq | apply cb | apply ck | apply cl | apply cx))
    (repeat (first | apply cn | apply cq | apply cb | apply ck | apply cl | apply cx))
    apply cr
    refine s_ p_ad ?_
    refine s_ p_mv ?_
    (repeat (first | apply cn | apply cq | apply cb | apply ck | apply cl | apply cx))
    refine ⟨k + 1, by omega, (by simp only []; omega), ⟨?_, eL⟩, ?_⟩
    · apply le_get; ((repeat (apply gS; rfl)); exact gZ)
      exact Le.refl _
    · simp only []
      rw [hnx]; exact kR
  intro hge
  have hke : k = rs.length := by omega
  subst hke
  rw [List.take_length]
  have hwk := wake_fn (layAll n1 rs) (by omega)
  (repeat (first | apply cn | apply cq | apply cb | apply ck | apply cl | apply cx))
  apply cr
  refine s_ p_mv ?_
  (first | refine s_ p_ln ?_ | refine s_ p_lr ?_)
  refine s_ p_mv ?_
  (first | refine s_ p_ln ?_ | refine s_ p_lr ?_)
  refine s_ p_ad ?_
  refine s_ p_gt ?_
  (repeat (first | apply cn | apply cq | apply cb | apply ck | apply cl | apply cx))
  refine ci ?_ ?_
  · intro hpos
    have hne : ¬ (so = none ∧ rs = []) := by
      rintro ⟨rfl, rfl⟩
      rw [hsn] at hpos
      exact absurd hpos (by simp)
    rw [if_neg hne] at hF
    (repeat (first | apply cn | apply cq | apply cb | apply ck | apply cl | apply cx))
    apply cr
    refine s_ p_loa ?_
    refine s_ (p_ca (hwk)) ?_
    refine e_st ?_
    (repeat (first | apply cn | apply cq | apply cb | apply ck | apply cl | apply cx))
    apply cr
    refine s_ p_mv ?_
    refine s_ p_loa ?_
    refine s_ (p_bd 23 [_, _, _, _, _, _, _, _, _, _, _, _, _, _, _, _, _, _, _, _, _, _, _]) ?_
    refine s_ (p_bd 23 [_, _, _, _, _, _, _, _, _, _, _, _, _, _, _, _, _, _, _, _, _, _, _]) ?_
    refine e_bx fun b56 _ => ?_
    refine s_ p_as ?_
    refine s_ p_as ?_
    (repeat (first | apply cn | apply cq | apply cb | apply ck | apply cl | apply cx))
    (apply sim_ret; (try simp only [blockΨ_ret, thenΨ_ret, loopL_ret, cutΨ_ret, cutE_ret]))
    refine rh (.keep _ _ _ _ _ (BlkLe.refl _) (.skip _ _ _ kR)) ⟨b56, bj, rfl, ?_⟩ (Le.refl _)
    rw [hF]
    rfl
  · intro hpos
    have hnone : so = none ∧ rs = [] := by
      constructor
      · cases so with
        | none => rfl
        | some m =>
          have hsn' : sn = recB m 0 := hsn
          have := recB_pos m 0
          exact absurd (by rw [hsn']; simp only [List.length_map]; omega) hpos
      · have : rs.length = 0 := by simp only [List.length_map] at hpos; omega
        exact List.length_eq_zero_iff.1 this
    rw [if_pos hnone] at hF
    have hn10 : layAll n1 rs = n0 := by
      rw [hnone.2]
      rw [hnone.1] at hn1
      exact hn1
    rw [hn10]
    (repeat (first | apply cn | apply cq | apply cb | apply ck | apply cl | apply cx))
    apply cr
    refine s_ p_mv ?_
    refine s_ p_loa ?_
    refine s_ (p_bd 23 [_, _, _, _, _, _, _, _, _, _, _, _, _, _, _, _, _, _, _, _, _, _, _]) ?_
    refine s_ (p_bd 23 [_, _, _, _, _, _, _, _, _, _, _, _, _, _, _, _, _, _, _, _, _, _, _]) ?_
    refine e_bx fun b56 _ => ?_
    refine s_ p_as ?_
    refine s_ p_as ?_
    (repeat (first | apply cn | apply cq | apply cb | apply ck | apply cl | apply cx))
    (apply sim_ret; (try simp only [blockΨ_ret, thenΨ_ret, loopL_ret, cutΨ_ret, cutE_ret]))
    refine rh (.keep _ _ _ _ _ (BlkLe.refl _) (.skip _ _ _ kR)) ⟨b56, bj, rfl, ?_⟩ (Le.refl _)
    rw [hF]
    rfl
end Go.Proofs.YtbdpfclnomiicaaGreat
end
