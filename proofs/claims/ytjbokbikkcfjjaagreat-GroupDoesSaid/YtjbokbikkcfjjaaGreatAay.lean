/-
  keep.Open.
  Chapter 19 in plain words: what stands on a disk, whatever the power does.
  Chapter 19 in plain words: what a call keeps.
  Chapter 19 in plain words: what a node cannot outgrow.
-/
import Derived.Test.YtjbokbikkcfjjaaGreatAax
section
set_option maxRecDepth 16000
namespace Go.Proofs.YtjbokbikkcfjjaaGreat
open Go.Cap
set_option linter.unusedSimpArgs false
set_option linter.unusedVariables false
attribute [local irreducible] POp SimFrom DrawFrom EOp Sim FnH T.gp
def layAll (n : Nd) (rs : List (Nd × Nat)) : Nd := rs.foldl (fun n p => layF n p.1 p.2) n
def rec1 (p : Nd × Nat) : List UInt8 := recB p.1 p.2
def openN (n0 : Nd) (so : Option Nd) (rs : List (Nd × Nat)) : Nd := layAll (match so with | none => n0 | some m => layF n0 m 0) rs
def openF (n0 : Nd) (so : Option Nd) (rs : List (Nd × Nat)) : Nd := if so = none ∧ rs = [] then n0 else wakeF (openN n0 so rs)
theorem recB_pos (m : Nd) (k : Nat) : 0 < (recB m k).length := by
  have h := intB_len m.term
  unfold recB headB intsB
  simp only [List.flatMap_cons, List.length_append]
  omega
theorem layAll_next (n : Nd) (rs : List (Nd × Nat)) {k : Nat} (hk : k < rs.length) : layAll n (rs.take (k + 1)) = layF (layAll n (rs.take k)) rs[k].1 rs[k].2 := by
  unfold layAll
  rw [List.take_succ_eq_append_getElem hk, List.foldl_append]
  rfl
set_option maxHeartbeats 4000000 in
theorem kOpen_fn (bd : Nat) (d : Dk) (id conf : Int) (n0 : Nd) (so : Option Nd) (rs : List (Nd × Nat)) (tl : List UInt8) (hn0 : FnP Tryz.prog 66 [ei id, ei conf] (fun r => r = nd n0)) (hl0 : n0.log.length ≤ 10000)
    (hd : DkOk d) (hdead : d.dead = false) (hleft : d.left = 0) (hso : d.snap = snapB (so.map (recB · 0))) (hlog : d.log = (rs.map rec1).flatMap frmB ++ tl) (hst : Stop tl)
    (hsz : ∀ m, so = some m → Sz m ∧ (recB m 0).length ≤ 4194304) (hrs : ∀ p ∈ rs, Sz p.1 ∧ p.2 ≤ p.1.log.length ∧ (rec1 p).length ≤ 4194304)
    (hlay : ∀ k, (layAll (match so with | none => n0 | some m => layF n0 m 0) (rs.take k)).log.length ≤ 10000) :
    FnH Tryz.prog 34 [pW bd, ei id, ei conf] (DkH bd d) (fun r H => ∃ bk bj, r = .tup [pW bk, ei 0] ∧ H = KpH bk bj bd ⟨rs.length, openF n0 so rs, openD d (rs.map rec1) tl⟩) := by
  have hj := openJ_fn bd d (so.map (recB · 0)) (rs.map rec1) tl hd hdead hleft hso (by
    intro s hs
    cases so with
    | none => cases hs
    | some m => cases hs; exact (hsz m rfl).2) hlog hst (by
    intro x hx
    obtain ⟨p, hp, rfl⟩ := List.mem_map.1 hx
    exact (hrs p hp).2.2)
  obtain ⟨sn, hsn⟩ : ∃ sn, sn = (so.map (recB · 0)).getD [] := ⟨_, rfl⟩
  obtain ⟨n1, hn1⟩ : ∃ n1, n1 = (match so with | none => n0 | some m => layF n0 m 0) := ⟨_, rfl⟩
  have hF : openF n0 so rs = if so = none ∧ rs = [] then n0 else wakeF (layAll n1 rs) := by rw [hn1]; rfl
  have hlay' : ∀ k, (layAll n1 (rs.take k)).log.length ≤ 10000 := by rw [hn1]; exact hlay
  have hn1l : n1.log.length ≤ 10000 := hlay' 0
  have hfull : (layAll n1 rs).log.length ≤ 10000 := by have := hlay' rs.length; rwa [List.take_length] at this
  have hrl : rs.length ≤ 100000000 := by
    have hu := hd.used
    have : rs.length ≤ ((rs.map rec1).flatMap frmB).length := by
      clear hrs hlay hlay' hfull hlog hj hF
      induction rs with
      | nil => simp
      | cons x l ih => rw [List.map_cons, List.flatMap_cons, List.length_append, frmB_len, List.length_cons]; omega
    rw [hlog, List.length_append] at hu
    omega
  have hsnl : sn.length ≤ 4194304 := by
    rw [hsn]
    cases so with
    | none => simp
    | some m => exact (hsz m rfl).2
  rw [← hsn] at hj
  refine fn_enter Tryz.func34 (by rfl) (by rfl) ?_
  intro S0 w0
  show Sim _ _ [(0, pW bd), (1, ei id), (2, ei conf)] (DkH bd d) _
  refine zC ?_
  apply cr
  refine s_ p_as ?_
  refine s_ p_as ?_
  refine zC ?_
  apply cr
  refine s_ p_mv ?_
  refine e_cHA hj (fun r H' ⟨bj, hr1, hr2⟩ => ?_)
  subst hr1 hr2
  refine s_ p_mv ?_
  refine s_ p_ex ?_
  refine s_ p_ex ?_
  refine s_ p_ex ?_
  refine s_ p_ex ?_
  refine s_ p_as ?_
  refine s_ p_as ?_
  refine s_ p_as ?_
  refine s_ p_as ?_
  refine zC ?_
  apply cr
  refine s_ p_mv ?_
  refine s_ p_ne ?_
  refine zC ?_
  refine ci ?_ ?_
  · intro h; exact absurd rfl h
  intro _
  refine zC ?_
  apply cr
  refine s_ p_mv ?_
  refine s_ p_mv ?_
  refine s_ (p_ca (hn0)) ?_
  refine e_al fun b12 _ => ?_
  refine e_st ?_
  refine zC ?_
  refine zC ?_
  apply cr
  refine s_ p_mv ?_
  (first | refine s_ p_ln ?_ | refine s_ p_lr ?_)
  refine s_ p_gt ?_
  refine zC ?_
  refine sim_cut [(8, pW bj), (9, bl sn), (10, tBl (rs.map rec1)), (12, pW b12)] ((b12, ⟨tN, nodeC n1 (.sl false (n1.log.map een)), 22⟩) :: JrH bj bd (rs.map rec1).length (openD d (rs.map rec1) tl)) ?_ ?_
  · refine ci ?_ ?_
    · intro hpos
      cases so with
      | none => rw [hsn] at hpos; exact absurd hpos (by simp)
      | some m =>
        have hm := hsz m rfl
        have hsn' : sn = recB m 0 := hsn
        have hn1' : n1 = layF n0 m 0 := hn1
        have hla := lay_fn false n0 m 0 hm.1 (Nat.zero_le _) hl0
        subst hsn' hn1'
        refine zC ?_
        apply cr
        refine s_ p_loa ?_
        refine s_ p_mv ?_
        refine s_ (p_ca (hla)) ?_
        refine e_st ?_
        refine zC ?_
        exact ⟨eL, kR⟩
    · intro hpos
      cases so with
      | none =>
        have hn1' : n1 = n0 := hn1
        rw [hn1']
        refine zC ?_
        exact ⟨eL, kR⟩
      | some m =>
        have hsn' : sn = recB m 0 := hsn
        have := recB_pos m 0
        exact absurd (by rw [hsn', List.length_map]; omega) hpos
  refine zC ?_
  apply cr
  refine s_ p_mv ?_
  (first | refine s_ p_ln ?_ | refine s_ p_lr ?_)
  refine s_ p_mv ?_
  refine zC ?_
  apply sim_loopL (σ := Nat) (ok := fun k => k ≤ rs.length) (env := fun k => [(36, ei k), (35, ei (rs.length : Nat)), (34, tBl (rs.map rec1)), (8, pW bj), (9, bl sn), (10, tBl (rs.map rec1)), (12, pW b12)]) (heap := fun k => (b12, ⟨tN, nodeC (layAll n1 (rs.take k)) (.sl false ((layAll n1 (rs.take k)).log.map een)), 22⟩) :: JrH bj bd rs.length (openD d (rs.map rec1) tl)) (μ := fun k => rs.length - k) (s0 := 0)
  · exact Nat.zero_le _
  · refine ⟨?_, ?_, eL⟩
    · apply le_get; ((repeat (apply gS; rfl)); exact gZ)
      exact Le.refl _
    · apply le_get; ((repeat (apply gS; rfl)); exact gZ)
      exact Le.of_eq (by simp [ei])
  · rw [List.length_map]; exact kR
  intro k hk
  refine zC ?_
  apply cr
  refine s_ p_lt ?_
  refine zC ?_
  refine ci ?_ ?_
  · intro hlt
    have hlt' : k < rs.length := by omega
    have hp := hrs _ (List.getElem_mem hlt')
    have hla := lay_fn false (layAll n1 (rs.take k)) rs[k].1 rs[k].2 hp.1 hp.2.1 (hlay' k)
    have hnx := layAll_next n1 rs hlt'
    have hix : k < (rs.map rec1).length := by rw [List.length_map]; exact hlt'
    have e : (rs.map rec1)[k]'hix = rec1 rs[k] := List.getElem_map ..
    have hla' : FnP Tryz.prog 67 [nd (layAll n1 (rs.take k)), bl ((rs.map rec1)[k]'hix)] (fun r => r = nd (layF (layAll n1 (rs.take k)) rs[k].1 rs[k].2)) := by rw [e]; exact hla
    refine zC ?_
    apply cr
    (first | refine s_ (p_ix hix) ?_ | refine s_ (p_ix hix2) ?_ | refine s_ p_ia ?_ | refine s_ p_ir ?_)
    (first | refine s_ p_ld ?_ | refine s_ p_lo ?_)
    refine s_ p_as ?_
    refine zC ?_
    apply cr
    refine s_ p_loa ?_
    refine s_ p_mv ?_
    refine s_ (p_ca (hla')) ?_
    refine e_st ?_
    refine zC ?_
    refine zC ?_
    apply cr
    refine s_ p_ad ?_
    refine s_ p_mv ?_
    refine zC ?_
    refine ⟨k + 1, by omega, (by simp only []; omega), ⟨?_, eL⟩, ?_⟩
    · apply le_get; ((repeat (apply gS; rfl)); exact gZ)
      exact Le.refl _
    · simp only []
      rw [hnx]; exact kR
  intro hge
  have hke : k = rs.length := by omega
  subst hke
  rw [List.take_length]
  have hwk := wake_fn (layAll n1 rs) (by omega)
  refine zC ?_
  apply cr
  refine s_ p_mv ?_
  (first | refine s_ p_ln ?_ | refine s_ p_lr ?_)
  refine s_ p_mv ?_
  (first | refine s_ p_ln ?_ | refine s_ p_lr ?_)
  refine s_ p_ad ?_
  refine s_ p_gt ?_
  refine zC ?_
  refine ci ?_ ?_
  · intro hpos
    have hne : ¬ (so = none ∧ rs = []) := by
      rintro ⟨rfl, rfl⟩
      rw [hsn] at hpos
      exact absurd hpos (by simp)
    rw [if_neg hne] at hF
    refine zC ?_
    apply cr
    refine s_ p_loa ?_
    refine s_ (p_ca (hwk)) ?_
    refine e_st ?_
    refine zC ?_
    apply cr
    refine s_ p_mv ?_
    refine s_ p_loa ?_
    refine s_ (p_bd 23 [_, _, _, _, _, _, _, _, _, _, _, _, _, _, _, _, _, _, _, _, _, _, _]) ?_
    refine s_ (p_bd 23 [_, _, _, _, _, _, _, _, _, _, _, _, _, _, _, _, _, _, _, _, _, _, _]) ?_
    refine e_bx fun b56 _ => ?_
    refine s_ p_as ?_
    refine s_ p_as ?_
    refine zC ?_
    refine zR ?_
    refine rh (.keep _ _ _ _ _ (BlkLe.refl _) (.skip _ _ _ kR)) ⟨b56, bj, rfl, ?_⟩ (Le.refl _)
    rw [hF]
    rfl
  · intro hpos
    have hnone : so = none ∧ rs = [] := by
      constructor
      · cases so with
        | none => rfl
        | some m =>
          have hsn' : sn = recB m 0 := hsn
          have := recB_pos m 0
          exact absurd (by rw [hsn']; simp only [List.length_map]; omega) hpos
      · have : rs.length = 0 := by simp only [List.length_map] at hpos; omega
        exact List.length_eq_zero_iff.1 this
    rw [if_pos hnone] at hF
    have hn10 : layAll n1 rs = n0 := by
      rw [hnone.2]
      rw [hnone.1] at hn1
      exact hn1
    rw [hn10]
    refine zC ?_
    apply cr
    refine s_ p_mv ?_
    refine s_ p_loa ?_
    refine s_ (p_bd 23 [_, _, _, _, _, _, _, _, _, _, _, _, _, _, _, _, _, _, _, _, _, _, _]) ?_
    refine s_ (p_bd 23 [_, _, _, _, _, _, _, _, _, _, _, _, _, _, _, _, _, _, _, _, _, _, _]) ?_
    refine e_bx fun b56 _ => ?_
    refine s_ p_as ?_
    refine s_ p_as ?_
    refine zC ?_
    refine zR ?_
    refine rh (.keep _ _ _ _ _ (BlkLe.refl _) (.skip _ _ _ kR)) ⟨b56, bj, rfl, ?_⟩ (Le.refl _)
    rw [hF]
    rfl
end Go.Proofs.YtjbokbikkcfjjaaGreat
end
section
set_option maxRecDepth 16000
namespace Go.Proofs.YtjbokbikkcfjjaaGreat
open Go.Cap
def n1F (n0 : Nd) (so : Option Nd) : Nd := match so with | none => n0 | some m => layF n0 m 0
structure Cont (n0 : Nd) (R : Nat) (d : Dk) (so : Option Nd) (rs : List (Nd × Nat)) (tl : List UInt8) (N : Nd) : Prop where
  snap : d.snap = snapB (so.map (recB · 0))
  log : d.log = (rs.map rec1).flatMap frmB ++ tl
  stop : Stop tl
  len : rs.length ≤ 16
  szs : ∀ m, so = some m → Sz m ∧ (recB m 0).length ≤ R
  szr : ∀ p ∈ rs, Sz p.1 ∧ p.2 ≤ p.1.log.length ∧ (rec1 p).length ≤ R + 80
  lay : ∀ k, (layAll (n1F n0 so) (rs.take k)).log.length ≤ 10000
  same : wakeF N = wakeF (layAll (n1F n0 so) rs)
theorem stop_nil : Stop [] := .inl (by simp)
theorem stop_front {x : List UInt8} (hx : x.length ≤ 4194304) {k : Nat} (hk : k < (frmB x).length) : Stop ((frmB x).take k) := by
  have hl := frmB_len x
  by_cases h8 : k < 8
  · exact .inl (by rw [List.length_take]; omega)
  · refine .inr (.inr ?_)
    have hn : numF ((frmB x).take k) = x.length := by
      have e : (frmB x).take k = fourF x.length ++ ((fourF (crcF x) ++ x).take (k - 4)) := by
        unfold frmB
        rw [List.take_append, fourF_len, List.take_of_length_le (by rw [fourF_len]; omega)]
      rw [e]
      exact num_four (by omega) (by omega) _
    rw [hn, List.length_take]
    omega
structure Live (n0 : Nd) (R : Nat) (K : Kp) : Prop where
  cont : ∃ so rs, Cont n0 R K.d so rs [] K.N ∧ K.n = rs.length
  sync : K.d.synced = K.d.log.length
  dead : K.d.dead = false
  dk : DkR K.d
  id : K.N.id = n0.id
  sz : Sz K.N
  rec_ : (recB K.N 0).length ≤ R
structure Gone (n0 : Nd) (R : Nat) (d : Dk) (N t : Nd) : Prop where
  dead : d.dead = true
  dk : DkR d
  s0 : 0 ≤ d.synced
  s1 : d.synced ≤ d.log.length
  cont : ∀ pick, ∃ so rs tl, Cont n0 R (crashF d pick) so rs tl N ∨ Cont n0 R (crashF d pick) so rs tl t
theorem spend_cases {d : Dk} (hd : d.dead = false) (h0 : 0 ≤ d.left) : (∃ l, spendF d = ({ d with left := l }, true) ∧ 0 ≤ l ∧ l ≤ d.left) ∨ (spendF d = ({ d with left := 0, dead := true }, false) ∧ d.left = 1) := by
  unfold spendF
  by_cases h : 0 < d.left
  · rw [if_pos h]
    by_cases h1 : d.left - 1 = 0
    · refine .inr ⟨?_, by omega⟩
      simp [h1]
    · refine .inl ⟨d.left - 1, ?_, by omega, by omega⟩
      simp [h1, hd]
  · rw [if_neg h]
    refine .inl ⟨d.left, ?_, h0, Int.le_refl _⟩
    show (d, !d.dead) = (d, true)
    rw [hd]
    rfl
theorem jadd_cases {d : Dk} (n : Int) (x : List UInt8) (hd : d.dead = false) (h0 : 0 ≤ d.left) :
    (jaddF n d x = (n, d, 19) ∧ d.room - d.log.length - d.snap.length < (frmB x).length) ∨
    (∃ l, jaddF n d x = (n + 1, { d with left := l, log := d.log ++ frmB x, synced := (d.log ++ frmB x).length }, 0) ∧ 0 ≤ l ∧ l ≤ d.left) ∨
    (jaddF n d x = (n, { d with left := 0, dead := true, log := d.log ++ frmB x }, 20) ∧ 0 < d.left) := by
  unfold jaddF appF
  rw [hd]
  simp only [Bool.false_eq_true, if_false]
  by_cases hf : d.room - d.log.length - d.snap.length < (frmB x).length
  · rw [if_pos hf]
    exact .inl ⟨rfl, hf⟩
  · rw [if_neg hf]
    rcases spend_cases hd h0 with ⟨l, hs, h1, h2⟩ | ⟨hs, h1⟩
    · rw [hs]
      simp only [if_true]
      rcases spend_cases (d := { d with left := l, log := d.log ++ frmB x }) hd h1 with ⟨l', hs', h1', h2'⟩ | ⟨hs', h1'⟩
      · refine .inr (.inl ⟨l', ?_, h1', by simp only at h2'; omega⟩)
        unfold syncF
        simp only [hd, Bool.false_eq_true, if_false]
        rw [hd] at hs'
        rw [hs']
        simp
      · refine .inr (.inr ⟨?_, by simp only at h1'; omega⟩)
        unfold syncF
        simp only [hd, Bool.false_eq_true, if_false]
        rw [hd] at hs'
        rw [hs']
        simp
    · rw [hs]
      refine .inr (.inr ⟨?_, by omega⟩)
      simp
theorem jsnap_cases {d : Dk} (n : Int) (x : List UInt8) (hd : d.dead = false) (h0 : 0 ≤ d.left) :
    (jsnapF n d x = (n, d, 19) ∧ d.room < (frmB x).length) ∨
    (∃ l, jsnapF n d x = (0, { d with left := l, snap := frmB x, log := [], synced := 0 }, 0) ∧ 0 ≤ l ∧ l ≤ d.left ∧ (frmB x).length ≤ d.room) ∨
    (jsnapF n d x = (n, { d with left := 0, dead := true, snap := frmB x, log := [], synced := 0 }, 20) ∧ 0 < d.left ∧ (frmB x).length ≤ d.room) ∨
    (jsnapF n d x = (n, { d with left := 0, dead := true }, 20) ∧ 0 < d.left) := by
  unfold jsnapF swapF
  rw [hd]
  simp only [Bool.false_eq_true, if_false]
  by_cases hf : d.room < (frmB x).length
  · rw [if_pos hf]
    exact .inl ⟨rfl, hf⟩
  · rw [if_neg hf]
    rcases spend_cases hd h0 with ⟨l, hs, h1, h2⟩ | ⟨hs, h1⟩
    · rw [hs]
      refine .inr (.inl ⟨l, ?_, h1, h2, by omega⟩)
      simp
      exact hd
    · rw [hs]
      by_cases ho : d.odd = 0
      · refine .inr (.inr (.inl ⟨?_, by omega, by omega⟩))
        simp [ho]
      · refine .inr (.inr (.inr ⟨?_, by omega⟩))
        simp [ho]
theorem layAll_id (n : Nd) (rs : List (Nd × Nat)) : (layAll n rs).id = n.id := by
  induction rs generalizing n with
  | nil => rfl
  | cons p rs ih => exact ih (layF n p.1 p.2)
theorem n1F_id (n0 : Nd) (so : Option Nd) : (n1F n0 so).id = n0.id := by cases so <;> rfl
theorem layAll_snoc (n : Nd) (rs : List (Nd × Nat)) (p : Nd × Nat) : layAll n (rs ++ [p]) = layF (layAll n rs) p.1 p.2 := by
  unfold layAll
  rw [List.foldl_append]
  rfl
theorem pfx_take : ∀ (a b : List En), a.take (pfx a b) = b.take (pfx a b)
  | [], b => by simp [pfx]
  | _ :: _, [] => by simp [pfx]
  | x :: xs, y :: ys => by
    unfold pfx
    split
    · rename_i h
      rw [List.take_succ_cons, List.take_succ_cons, pfx_take xs ys, h]
    · simp
theorem alike_take (a b : Nd) : a.log.take (alikeF a b) ++ b.log.drop (alikeF a b) = b.log := by
  have h : a.log.take (alikeF a b) = b.log.take (alikeF a b) := by
    unfold alikeF
    split
    · exact pfx_take _ _
    · simp
  rw [h, List.take_append_drop]
theorem alike_le (a b : Nd) : alikeF a b ≤ b.log.length := by
  unfold alikeF
  split
  · exact (pfx_le _ _).2
  · omega
theorem wake_log {a b : Nd} (h : wakeF a = wakeF b) : a.log = b.log ∧ a.base = b.base ∧ a.id = b.id := by
  unfold wakeF at h
  simp only [Nd.mk.injEq] at h
  exact ⟨h.2.2.2.2.2.2.2.1, h.2.2.2.1, h.1⟩
theorem wake_lay {L N t : Nd} (h : wakeF N = wakeF L) (hid : L.id = t.id) : wakeF t = wakeF (layF L t (alikeF N t)) := by
  obtain ⟨h1, h2, h3⟩ := wake_log h
  have hl := alike_take N t
  rw [h1] at hl
  unfold wakeF layF
  rw [hl, hid]
theorem Cont.next {n0 : Nd} {R : Nat} {d d' : Dk} {so : Option Nd} {rs : List (Nd × Nat)} {N t : Nd} (h : Cont n0 R d so rs [] N) (hl : rs.length < 16) (hid : t.id = n0.id) (hsz : Sz t) (hr : (recB t 0).length ≤ R)
    (hs : d'.snap = d.snap) (hlog : d'.log = d.log ++ frmB (recB t (alikeF N t))) : Cont n0 R d' so (rs ++ [(t, alikeF N t)]) [] t := by
  have hL : (layAll (n1F n0 so) rs).id = t.id := by rw [layAll_id, n1F_id, hid]
  have hw := wake_lay h.same hL
  have hlg := (wake_log hw).1
  refine ⟨hs.trans h.snap, ?_, stop_nil, by simp; omega, h.szs, ?_, ?_, ?_⟩
  · rw [hlog, h.log]
    simp [rec1]
  · intro p hp
    rcases List.mem_append.1 hp with hp | hp
    · exact h.szr p hp
    · rw [List.mem_singleton.1 hp]
      exact ⟨hsz, alike_le _ _, by have := recB_le t (alikeF N t); show (recB t (alikeF N t)).length ≤ _; omega⟩
  · intro k
    by_cases hk : k ≤ rs.length
    · rw [List.take_append_of_le_length hk]
      exact h.lay k
    · rw [List.take_of_length_le (by simp; omega), layAll_snoc]
      show (layF (layAll (n1F n0 so) rs) t (alikeF N t)).log.length ≤ 10000
      rw [← hlg]
      exact hsz.len
  · rw [layAll_snoc]
    exact hw
theorem Cont.torn {n0 : Nd} {R : Nat} {d d' : Dk} {so : Option Nd} {rs : List (Nd × Nat)} {N : Nd} {tl : List UInt8} (h : Cont n0 R d so rs [] N) (hst : Stop tl) (hs : d'.snap = d.snap) (hlog : d'.log = d.log ++ tl) : Cont n0 R d' so rs tl N :=
  ⟨hs.trans h.snap, by rw [hlog, h.log, List.append_nil], hst, h.len, h.szs, h.szr, h.lay, h.same⟩
theorem Cont.snapped {n0 : Nd} {R : Nat} {d' : Dk} {N : Nd} (hid : N.id = n0.id) (hsz : Sz N) (hr : (recB N 0).length ≤ R) (hs : d'.snap = frmB (recB N 0)) (hlog : d'.log = []) : Cont n0 R d' (some N) [] [] N := by
  refine ⟨hs, hlog, stop_nil, by simp, ?_, by simp, ?_, ?_⟩
  · intro m hm
    cases hm
    exact ⟨hsz, hr⟩
  · intro k
    rw [List.take_nil]
    exact hsz.len
  · show wakeF N = wakeF (layF n0 N 0)
    unfold wakeF layF
    rw [hid]
    simp
theorem gone_add {n0 : Nd} {R : Nat} {d d2 : Dk} {so : Option Nd} {rs : List (Nd × Nat)} {N t : Nd} (h : Cont n0 R d so rs [] N) (hl : rs.length < 16) (hid : t.id = n0.id) (hsz : Sz t) (hr : (recB t 0).length ≤ R) (hR : R ≤ 4000000)
    (hdk : DkR d2) (hdead : d2.dead = true) (hs : d2.snap = d.snap) (hlog : d2.log = d.log ++ frmB (recB t (alikeF N t))) (hsy : d2.synced = d.log.length) : Gone n0 R d2 N t := by
  have hx : (recB t (alikeF N t)).length ≤ 4194304 := by have := recB_le t (alikeF N t); omega
  have h0 : 0 ≤ d2.synced := by omega
  have h1 : d2.synced ≤ d2.log.length := by rw [hsy, hlog, List.length_append]; omega
  refine ⟨hdead, hdk, h0, h1, fun pick => ?_⟩
  have hk := stayK_range d2 pick h0 h1
  obtain ⟨k, hkk⟩ : ∃ k : Nat, stayK d2 pick = k := ⟨(stayK d2 pick).toNat, by omega⟩
  have hcl : (crashF d2 pick).log = d.log ++ (frmB (recB t (alikeF N t))).take k := by
    show d2.log.take (d2.synced + stayK d2 pick).toNat = _
    rw [hkk, hsy, show ((d.log.length : Int) + (k : Int)).toNat = d.log.length + k by omega, hlog, List.take_append, List.take_of_length_le (by omega), show d.log.length + k - d.log.length = k by omega]
  by_cases hfull : k < (frmB (recB t (alikeF N t))).length
  · exact ⟨so, rs, _, .inl (h.torn (stop_front hx hfull) hs hcl)⟩
  · rw [List.take_of_length_le (by omega)] at hcl
    exact ⟨so, _, [], .inr (h.next hl hid hsz hr hs hcl)⟩
theorem gone_whole {n0 : Nd} {R : Nat} {d d2 : Dk} {so : Option Nd} {rs : List (Nd × Nat)} {N t : Nd} (h : Cont n0 R d so rs [] N) (hdk : DkR d2) (hdead : d2.dead = true) (hs : d2.snap = d.snap) (hlog : d2.log = d.log) (hsy : d2.synced = d2.log.length) : Gone n0 R d2 N t := by
  have h0 : 0 ≤ d2.synced := by omega
  refine ⟨hdead, hdk, h0, by omega, fun pick => ?_⟩
  have hk := stayK_range d2 pick h0 (by omega)
  have hcl : (crashF d2 pick).log = d.log ++ [] := by
    show d2.log.take (d2.synced + stayK d2 pick).toNat = _
    rw [List.take_of_length_le (by omega), hlog, List.append_nil]
  exact ⟨so, rs, [], .inl (h.torn stop_nil hs hcl)⟩
end Go.Proofs.YtjbokbikkcfjjaaGreat
end
section
set_option maxRecDepth 16000
namespace Go.Proofs.YtjbokbikkcfjjaaGreat
open Go.Cap
inductive Wrote (n0 : Nd) (R : Nat) (K : Kp) (t : Nd) : Kp × Int → Prop
  | ok (n' : Int) (d' : Dk) (hc : ∃ so rs, Cont n0 R d' so rs [] t ∧ n' = rs.length) (hs : d'.synced = d'.log.length) (hd : d'.dead = false) (hk : DkR d') (hl : d'.left ≤ K.d.left) (hr : d'.room = K.d.room) : Wrote n0 R K t (⟨n', K.N, d'⟩, 0)
  | full (n' : Int) (d' : Dk) (h : Live n0 R ⟨n', K.N, d'⟩) (hl : d'.left ≤ K.d.left) (hr : d'.room = K.d.room) (hf : K.d.room < 2 * R + 200) : Wrote n0 R K t (⟨n', K.N, d'⟩, 19)
  | dead (n' : Int) (d' : Dk) (hl : 0 < K.d.left) (h : Gone n0 R d' K.N t) (hr : d'.room = K.d.room) : Wrote n0 R K t (⟨n', K.N, d'⟩, 20)
def wr2F (n : Int) (N : Nd) (d : Dk) (x : List UInt8) : Kp × Int :=
  let s := jsnapF n d (recB N 0)
  if ¬ s.2.2 = 0 then (⟨s.1, N, s.2.1⟩, s.2.2) else
  let b := jaddF s.1 s.2.1 x
  (⟨b.1, N, b.2.1⟩, b.2.2)
theorem wr2_cases {n0 : Nd} {R : Nat} {n : Int} {N t : Nd} {d : Dk} (h : Live n0 R ⟨n, N, d⟩) (hid : t.id = n0.id) (hsz : Sz t) (hr : (recB t 0).length ≤ R) (hR : R ≤ 4000000) : Wrote n0 R ⟨n, N, d⟩ t (wr2F n N d (recB t (alikeF N t))) := by
  have h0 := h
  obtain ⟨⟨so, rs, hc, hn⟩, hsy, hdead, hdk, hNid, hNsz, hNr⟩ := h
  simp only at hc hn hsy hdead hdk hNid hNsz hNr
  have hx : (recB t (alikeF N t)).length ≤ R + 80 := by have := recB_le t (alikeF N t); omega
  have hfl := frmB_len (recB t (alikeF N t))
  have hfs := frmB_len (recB N 0)
  have hjs := hdk.jsnap (n := n) (recB N 0)
  rcases jsnap_cases n (recB N 0) hdead hdk.l0 with ⟨hj, hf⟩ | ⟨l, hj, h1, h2, h3⟩ | ⟨hj, h1, h3⟩ | ⟨hj, h1⟩
  · have hw : wr2F n N d (recB t (alikeF N t)) = (⟨n, N, d⟩, 19) := by unfold wr2F; rw [hj]; rfl
    rw [hw]
    exact .full _ _ h0 (Int.le_refl _) rfl (by simp only; omega)
  · rw [hj] at hjs
    simp only at hjs
    have hc2 : Cont n0 R { d with left := l, snap := frmB (recB N 0), log := [], synced := 0 } (some N) [] [] N := Cont.snapped hNid hNsz hNr rfl rfl
    have hja := hjs.jadd (n := 0) (recB t (alikeF N t))
    rcases jadd_cases (d := { d with left := l, snap := frmB (recB N 0), log := [], synced := 0 }) 0 (recB t (alikeF N t)) hdead h1 with ⟨hj2, hf2⟩ | ⟨l2, hj2, h4, h5⟩ | ⟨hj2, h4⟩
    · have hw : wr2F n N d (recB t (alikeF N t)) = (⟨0, N, { d with left := l, snap := frmB (recB N 0), log := [], synced := 0 }⟩, 19) := by
        unfold wr2F; rw [hj]; simp only; rw [hj2]; rfl
      rw [hw]
      exact .full _ _ ⟨⟨some N, [], hc2, rfl⟩, rfl, hdead, hjs, hNid, hNsz, hNr⟩ h2 rfl (by simp only [List.length_nil] at hf2 ⊢; omega)
    · have hw : wr2F n N d (recB t (alikeF N t)) = (⟨1, N, { d with left := l2, snap := frmB (recB N 0), log := [] ++ frmB (recB t (alikeF N t)), synced := ([] ++ frmB (recB t (alikeF N t)) : List UInt8).length }⟩, 0) := by
        unfold wr2F; rw [hj]; simp only; rw [hj2]; rfl
      rw [hw]
      rw [hj2] at hja
      exact .ok _ _ ⟨some N, _, hc2.next (by simp) hid hsz hr rfl rfl, rfl⟩ rfl hdead hja (by simp only at h5 ⊢; omega) rfl
    · have hw : wr2F n N d (recB t (alikeF N t)) = (⟨0, N, { d with left := 0, dead := true, snap := frmB (recB N 0), log := [] ++ frmB (recB t (alikeF N t)), synced := 0 }⟩, 20) := by
        unfold wr2F; rw [hj]; simp only; rw [hj2]; rfl
      rw [hw]
      rw [hj2] at hja
      exact .dead _ _ (by simp only at h4 ⊢; omega) (gone_add hc2 (by simp) hid hsz hr hR hja rfl rfl rfl rfl) rfl
  · rw [hj] at hjs
    have hw : wr2F n N d (recB t (alikeF N t)) = (⟨n, N, { d with left := 0, dead := true, snap := frmB (recB N 0), log := [], synced := 0 }⟩, 20) := by unfold wr2F; rw [hj]; rfl
    rw [hw]
    have hc2 : Cont n0 R { d with left := 0, dead := true, snap := frmB (recB N 0), log := [], synced := 0 } (some N) [] [] N := Cont.snapped hNid hNsz hNr rfl rfl
    exact .dead _ _ h1 (gone_whole hc2 hjs rfl rfl rfl rfl) rfl
  · rw [hj] at hjs
    have hw : wr2F n N d (recB t (alikeF N t)) = (⟨n, N, { d with left := 0, dead := true }⟩, 20) := by unfold wr2F; rw [hj]; rfl
    rw [hw]
    exact .dead _ _ h1 (gone_whole hc hjs rfl rfl rfl hsy) rfl
theorem write_cases {n0 : Nd} {R : Nat} {n : Int} {N t : Nd} {d : Dk} (h : Live n0 R ⟨n, N, d⟩) (hid : t.id = n0.id) (hsz : Sz t) (hr : (recB t 0).length ≤ R) (hR : R ≤ 4000000) : Wrote n0 R ⟨n, N, d⟩ t (writeF ⟨n, N, d⟩ (recB t (alikeF N t))) := by
  have h0 := h
  have h2 := wr2_cases h hid hsz hr hR
  obtain ⟨⟨so, rs, hc, hn⟩, hsy, hdead, hdk, hNid, hNsz, hNr⟩ := h
  simp only at hc hn hsy hdead hdk hNid hNsz hNr
  have hx : (recB t (alikeF N t)).length ≤ R + 80 := by have := recB_le t (alikeF N t); omega
  have hfl := frmB_len (recB t (alikeF N t))
  have hja := hdk.jadd (n := n) (recB t (alikeF N t))
  have hrs := hc.len
  by_cases hlt : n < 16
  · rcases jadd_cases n (recB t (alikeF N t)) hdead hdk.l0 with ⟨hj, hf⟩ | ⟨l, hj, h4, h5⟩ | ⟨hj, h4⟩
    · by_cases hn0 : n = 0
      · have hw : writeF ⟨n, N, d⟩ (recB t (alikeF N t)) = (⟨n, N, d⟩, 19) := by
          unfold writeF wr1F
          simp only
          rw [if_pos hlt, hj]
          simp only
          rw [if_pos (.inr hn0)]
        rw [hw]
        refine .full _ _ h0 (Int.le_refl _) rfl ?_
        have hrs0 : rs = [] := List.length_eq_zero_iff.1 (by omega)
        have hlog : d.log = [] := by rw [hc.log, hrs0]; rfl
        have hsnl : d.snap.length ≤ R + 8 := by
          rw [hc.snap]
          cases so with
          | none => simp [snapB]
          | some m => have := (hc.szs m rfl).2; have h2 := frmB_len (recB m 0); show (frmB (recB m 0)).length ≤ _; omega
        simp only
        rw [hlog, List.length_nil] at hf
        omega
      · have hw : writeF ⟨n, N, d⟩ (recB t (alikeF N t)) = wr2F n N d (recB t (alikeF N t)) := by
          unfold writeF wr1F wr2F
          simp only
          rw [if_pos hlt, hj]
          simp only
          rw [if_neg (by simp [hn0])]
        rw [hw]
        exact h2
    · have hw : writeF ⟨n, N, d⟩ (recB t (alikeF N t)) = (⟨n + 1, N, { d with left := l, log := d.log ++ frmB (recB t (alikeF N t)), synced := (d.log ++ frmB (recB t (alikeF N t))).length }⟩, 0) := by
        unfold writeF wr1F
        simp only
        rw [if_pos hlt, hj]
        simp only
        rw [if_pos (.inl (by omega))]
      rw [hw]
      rw [hj] at hja
      exact .ok _ _ ⟨so, _, hc.next (by omega) hid hsz hr rfl rfl, by rw [hn, List.length_append]; rfl⟩ rfl hdead hja h5 rfl
    · have hw : writeF ⟨n, N, d⟩ (recB t (alikeF N t)) = (⟨n, N, { d with left := 0, dead := true, log := d.log ++ frmB (recB t (alikeF N t)) }⟩, 20) := by
        unfold writeF wr1F
        simp only
        rw [if_pos hlt, hj]
        simp only
        rw [if_pos (.inl (by omega))]
      rw [hw]
      rw [hj] at hja
      exact .dead _ _ h4 (gone_add hc (by omega) hid hsz hr hR hja rfl rfl rfl hsy) rfl
  · have hw : writeF ⟨n, N, d⟩ (recB t (alikeF N t)) = wr2F n N d (recB t (alikeF N t)) := by
      unfold writeF wr1F wr2F
      simp only
      rw [if_neg hlt]
      simp only
      have hn0 : ¬ n = 0 := by omega
      rw [if_neg (by simp [hn0])]
    rw [hw]
    exact h2
inductive Kept (n0 : Nd) (R : Nat) (K : Kp) (t : Nd) : Kp × Int → Prop
  | ok (K' : Kp) (h : Live n0 R K') (hN : K'.N = t) (hl : K'.d.left ≤ K.d.left) (hr : K'.d.room = K.d.room) : Kept n0 R K t (K', 0)
  | full (K' : Kp) (h : Live n0 R K') (hN : K'.N = K.N) (hl : K'.d.left ≤ K.d.left) (hr : K'.d.room = K.d.room) (hf : K.d.room < 2 * R + 200) : Kept n0 R K t (K', 19)
  | dead (K' : Kp) (hN : K'.N = K.N) (hl : 0 < K.d.left) (h : Gone n0 R K'.d K.N t) (hr : K'.d.room = K.d.room) : Kept n0 R K t (K', 20)
theorem keep_cases {n0 : Nd} {R : Nat} {K : Kp} {t : Nd} (h : Live n0 R K) (hid : t.id = n0.id) (hsz : Sz t) (hr : (recB t 0).length ≤ R) (hR : R ≤ 4000000) : Kept n0 R K t (keepF K t 0) := by
  obtain ⟨n, N, d⟩ := K
  have hwr := write_cases h hid hsz hr hR
  obtain ⟨⟨so, rs, hc, hn⟩, hsy, hdead, hdk, hNid, hNsz, hNr⟩ := h
  simp only at hc hn hsy hdead hdk hNid hNsz hNr
  unfold keepF
  rw [if_neg (by simp)]
  by_cases hsame : wakeF N = wakeF t
  · rw [if_pos hsame]
    refine .ok _ ⟨⟨so, rs, ?_, hn⟩, hsy, hdead, hdk, hid, hsz, hr⟩ rfl (Int.le_refl _) rfl
    exact ⟨hc.snap, hc.log, hc.stop, hc.len, hc.szs, hc.szr, hc.lay, hsame.symm.trans hc.same⟩
  rw [if_neg hsame]
  simp only
  generalize writeF ⟨n, N, d⟩ (recB t (alikeF N t)) = w at hwr ⊢
  cases hwr with
  | ok n' d' hc hs hd hk hl hr' =>
    rw [if_pos rfl]
    exact .ok _ ⟨hc, hs, hd, hk, hid, hsz, hr⟩ rfl hl hr'
  | full n' d' h hl hr' hf =>
    rw [if_neg (by simp)]
    exact .full _ h rfl hl hr' hf
  | dead n' d' hl h hr' =>
    rw [if_neg (by simp)]
    exact .dead _ rfl hl h hr'
end Go.Proofs.YtjbokbikkcfjjaaGreat
end
section
set_option maxRecDepth 16000
namespace Go.Proofs.YtjbokbikkcfjjaaGreat
open Go.Cap
theorem F5.gs (f : F5) (i j : Nat) (v : Int) : (f.set i v).get j = v ∨ (f.set i v).get j = f.get j := by
  match i with
  | 0 => match j with
    | 0 => exact .inl rfl
    | 1 | 2 | 3 | _ + 4 => exact .inr rfl
  | 1 => match j with
    | 1 => exact .inl rfl
    | 0 | 2 | 3 | _ + 4 => exact .inr rfl
  | 2 => match j with
    | 2 => exact .inl rfl
    | 0 | 1 | 3 | _ + 4 => exact .inr rfl
  | 3 => match j with
    | 3 => exact .inl rfl
    | 0 | 1 | 2 | _ + 4 => exact .inr rfl
  | _ + 4 => match j with
    | _ + 4 => exact .inl rfl
    | 0 | 1 | 2 | 3 => exact .inr rfl
theorem F5.ga (v : Int) (j : Nat) : (F5.all v).get j = v := by
  match j with
  | 0 | 1 | 2 | 3 | _ + 4 => rfl
structure Ek (e : En) (s : Nat) : Prop where
  t0 : 0 ≤ e.term
  t1 : e.term ≤ s
  c0 : 0 ≤ e.conf
  c1 : e.conf ≤ 31
  cmd : e.cmd.length ≤ 61
theorem Ek.le {e : En} {s r : Nat} (h : Ek e s) (hr : s ≤ r) : Ek e r := ⟨h.t0, by have := h.t1; omega, h.c0, h.c1, h.cmd⟩
structure Nk (n : Nd) (s : Nat) : Prop where
  id0 : 0 ≤ n.id
  id5 : n.id < 5
  base : n.base = 0
  baseTerm : n.baseTerm = 0
  conf0 : 0 ≤ n.baseConf
  conf1 : n.baseConf ≤ 31
  snap : n.snap = []
  term0 : 0 ≤ n.term
  term1 : n.term ≤ s
  vote0 : -1 ≤ n.vote
  vote1 : n.vote ≤ 5
  len : n.log.length ≤ s
  ents : ∀ e ∈ n.log, Ek e s
  com0 : 0 ≤ n.commit
  com1 : n.commit ≤ s
  wait0 : 0 ≤ n.wait
  wait1 : n.wait ≤ s
  votes0 : 0 ≤ n.votes
  votes1 : n.votes ≤ 31
  next0 : ∀ i, 0 ≤ n.next.get i
  next1 : ∀ i, n.next.get i ≤ s + 1
  mtch0 : ∀ i, 0 ≤ n.mtch.get i
  mtch1 : ∀ i, n.mtch.get i ≤ s
theorem Nk.sz {n : Nd} {s : Nat} (h : Nk n s) (hs : s ≤ 1000) : Sz n := by
  have hb := h.base
  have hbt := h.baseTerm
  have h1 := h.term0
  have h2 := h.term1
  have h3 := h.vote0
  have h4 := h.vote1
  have h5 := h.conf0
  have h6 := h.conf1
  have h7 := h.com0
  have h8 := h.com1
  have h9 := h.len
  refine ⟨⟨by omega, by omega⟩, ⟨by omega, by omega⟩, ⟨by omega, by omega⟩, ⟨by omega, by omega⟩, ⟨by omega, by omega⟩, ⟨by omega, by omega⟩, by rw [h.snap]; simp, by omega, fun e he => ?_⟩
  have hk := h.ents e he
  have e1 := hk.t0
  have e2 := hk.t1
  have e3 := hk.c0
  have e4 := hk.c1
  have e5 := hk.cmd
  exact ⟨⟨by omega, by omega⟩, ⟨by omega, by omega⟩, by omega⟩
theorem entB_small {e : En} {s : Nat} (h : Ek e s) : (entB e).length ≤ 101 := by
  have h1 := intB_len e.term
  have h2 := intB_len e.conf
  have h3 := txtB_len e.cmd
  have := h.cmd
  unfold entB
  simp only [List.length_append]; omega
theorem ents_small {s : Nat} : ∀ (l : List En), (∀ e ∈ l, Ek e s) → (l.flatMap entB).length ≤ 101 * l.length
  | [], _ => by simp
  | e :: l, h => by
    have h1 := entB_small (h e List.mem_cons_self)
    have h2 := ents_small l fun x hx => h x (List.mem_cons_of_mem _ hx)
    simp only [List.flatMap_cons, List.length_append, List.length_cons]; omega
theorem Nk.rec_ {n : Nd} {s : Nat} (h : Nk n s) : (recB n 0).length ≤ 90 + 101 * s := by
  have h1 := intsB_len (headB n 0)
  have h2 : (headB n 0).length = 8 := rfl
  have h3 := ents_small n.log h.ents
  have h4 := h.len
  have h5 : (txtB n.snap).length ≤ 10 := by rw [h.snap, txtB, if_pos rfl]; exact (intB_len 0).2
  unfold recB
  simp only [List.length_append, List.drop_zero]
  omega
theorem Nk.le {n : Nd} {s r : Nat} (h : Nk n s) (hr : s ≤ r) : Nk n r :=
  ⟨h.id0, h.id5, h.base, h.baseTerm, h.conf0, h.conf1, h.snap, h.term0, by have := h.term1; omega, h.vote0, h.vote1, by have := h.len; omega, fun e he => (h.ents e he).le hr, h.com0, by have := h.com1; omega, h.wait0, by have := h.wait1; omega, h.votes0, h.votes1,
    h.next0, fun i => by have := h.next1 i; omega, h.mtch0, fun i => by have := h.mtch1 i; omega⟩
theorem new_nk {id conf : Int} (h0 : 0 ≤ id) (h1 : id < 5) (h2 : 0 ≤ conf) (h3 : conf ≤ 31) : Nk (newF id conf) 0 :=
  ⟨h0, h1, rfl, rfl, h2, h3, rfl, by simp [newF], by simp [newF], by simp [newF], by simp [newF], by simp [newF], by simp [newF], by simp [newF], by simp [newF], by simp [newF], by simp [newF], by simp [newF], by simp [newF],
    fun i => by show 0 ≤ (F5.all 0).get i; rw [F5.ga]; omega, fun i => by show (F5.all 0).get i ≤ _; rw [F5.ga]; omega, fun i => by show 0 ≤ (F5.all 0).get i; rw [F5.ga]; omega, fun i => by show (F5.all 0).get i ≤ _; rw [F5.ga]; omega⟩
theorem cmtF_bd (n : Nd) (conf : Int) (hb : n.base = 0) : ∀ k, n.commit ≤ cmtF n conf k ∧ cmtF n conf k ≤ max n.commit k
  | 0 => by unfold cmtF; omega
  | k + 1 => by
    have := cmtF_bd n conf hb k
    unfold cmtF
    split <;> omega
theorem Nk.commit {n : Nd} {s : Nat} (h : Nk n s) : Nk (commitF n) s := by
  have hc := cmtF_bd n (confF n).2 h.base n.log.length
  have h0 := h.com0
  have h1 := h.com1
  have hl := h.len
  unfold commitF
  split
  · exact ⟨h.id0, h.id5, h.base, h.baseTerm, h.conf0, h.conf1, h.snap, h.term0, h.term1, h.vote0, h.vote1, h.len, h.ents, by show 0 ≤ cmtF n _ _; omega, by show cmtF n _ _ ≤ _; omega, Int.le_refl _, by show (0 : Int) ≤ _; omega, h.votes0, h.votes1, h.next0, h.next1, h.mtch0, h.mtch1⟩
  · exact ⟨h.id0, h.id5, h.base, h.baseTerm, h.conf0, h.conf1, h.snap, h.term0, h.term1, h.vote0, h.vote1, h.len, h.ents, by show 0 ≤ cmtF n _ _; omega, by show cmtF n _ _ ≤ _; omega, h.wait0, h.wait1, h.votes0, h.votes1, h.next0, h.next1, h.mtch0, h.mtch1⟩
theorem Nk.push {n : Nd} {s : Nat} (h : Nk n s) (e : En) (he : Ek e (s + 1)) : ∀ x ∈ n.log ++ [e], Ek x (s + 1) := by
  intro x hx
  rcases List.mem_append.1 hx with hx | hx
  · exact (h.ents x hx).le (by omega)
  · rw [List.mem_singleton.1 hx]; exact he
theorem pow_id {i : Int} (h0 : 0 ≤ i) (h5 : i < 5) : 0 ≤ (2 : Int) ^ i.toNat ∧ (2 : Int) ^ i.toNat ≤ 31 := by
  rcases five h0 h5 with rfl | rfl | rfl | rfl | rfl <;> decide
theorem Nk.put {n : Nd} {s : Nat} (h : Nk n s) (e : En) (hc0 : 0 ≤ e.conf) (hc1 : e.conf ≤ 31) (hcm : e.cmd.length ≤ 61) : Nk (putF n e) (s + 1) := by
  have hb := h.base
  have hl := h.len
  have ht0 := h.term0
  have ht1 := h.term1
  have g := h.le (r := s + 1) (by omega)
  refine Nk.commit ⟨g.id0, g.id5, g.base, g.baseTerm, g.conf0, g.conf1, g.snap, g.term0, g.term1, g.vote0, g.vote1, ?_, ?_, g.com0, g.com1, g.wait0, g.wait1, g.votes0, g.votes1, g.next0, g.next1, ?_, ?_⟩
  · show (n.log ++ [_]).length ≤ _; simp; omega
  · exact h.push _ ⟨ht0, by simp only; omega, hc0, hc1, hcm⟩
  · intro i; show 0 ≤ (n.mtch.set n.id.toNat (n.base + (n.log.length + 1))).get i
    rcases F5.gs n.mtch n.id.toNat i (n.base + (n.log.length + 1)) with e | e <;> rw [e]
    · omega
    · exact h.mtch0 i
  · intro i; show (n.mtch.set n.id.toNat (n.base + (n.log.length + 1))).get i ≤ _
    rcases F5.gs n.mtch n.id.toNat i (n.base + (n.log.length + 1)) with e | e <;> rw [e]
    · omega
    · exact g.mtch1 i
end Go.Proofs.YtjbokbikkcfjjaaGreat
end
