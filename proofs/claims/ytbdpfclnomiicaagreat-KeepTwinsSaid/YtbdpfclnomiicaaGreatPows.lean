/-
  Chapter 19 in plain words: what stands on a disk, whatever the power does.
  Chapter 19 in plain words: what a call keeps.
  Chapter 19 in plain words: what a node cannot outgrow.
  Chapter 19: a kept replica whose power stays: calls, opening.
  Chapter 19: what is known: a new kept replica, ticked five times.
  Chapter 19's laws: within; calls of an easy kept replica.
-/
import Derived.Test.YtbdpfclnomiicaaGreatKps
section
set_option maxRecDepth 16000
namespace Go.Proofs.YtbdpfclnomiicaaGreat
open Go.Cap
def n1F (n0 : Nd) (so : Option Nd) : Nd := match so with | none => n0 | some m => layF n0 m 0
structure Cont (n0 : Nd) (R : Nat) (d : Dk) (so : Option Nd) (rs : List (Nd × Nat)) (tl : List UInt8) (N : Nd) : Prop where
  snap : d.snap = snapB (so.map (recB · 0))
  log : d.log = (rs.map rec1).flatMap frmB ++ tl
  stop : Stop tl
  len : rs.length ≤ 16
  szs : ∀ m, so = some m → Sz m ∧ (recB m 0).length ≤ R
  szr : ∀ p ∈ rs, Sz p.1 ∧ p.2 ≤ p.1.log.length ∧ (rec1 p).length ≤ R + 80
  lay : ∀ k, (layAll (n1F n0 so) (rs.take k)).log.length ≤ 10000
  same : wakeF N = wakeF (layAll (n1F n0 so) rs)
theorem stop_nil : Stop [] := .inl (by simp)
theorem stop_front {x : List UInt8} (hx : x.length ≤ 4194304) {k : Nat} (hk : k < (frmB x).length) : Stop ((frmB x).take k) := by
  have hl := frmB_len x
  by_cases h8 : k < 8
  · exact .inl (by rw [List.length_take]; omega)
  · refine .inr (.inr ?_)
    have hn : numF ((frmB x).take k) = x.length := by
      have e : (frmB x).take k = fourF x.length ++ ((fourF (crcF x) ++ x).take (k - 4)) := by
        unfold frmB
        rw [List.take_append, fourF_len, List.take_of_length_le (by rw [fourF_len]; omega)]
      rw [e]
      exact num_four (by omega) (by omega) _
    rw [hn, List.length_take]
    omega
structure Live (n0 : Nd) (R : Nat) (K : Kp) : Prop where
  cont : ∃ so rs, Cont n0 R K.d so rs [] K.N ∧ K.n = rs.length
  sync : K.d.synced = K.d.log.length
  dead : K.d.dead = false
  dk : DkR K.d
  id : K.N.id = n0.id
  sz : Sz K.N
  rec_ : (recB K.N 0).length ≤ R
structure Gone (n0 : Nd) (R : Nat) (d : Dk) (N t : Nd) : Prop where
  dead : d.dead = true
  dk : DkR d
  s0 : 0 ≤ d.synced
  s1 : d.synced ≤ d.log.length
  cont : ∀ pick, ∃ so rs tl, Cont n0 R (crashF d pick) so rs tl N ∨ Cont n0 R (crashF d pick) so rs tl t
theorem spend_cases {d : Dk} (hd : d.dead = false) (h0 : 0 ≤ d.left) : (∃ l, spendF d = ({ d with left := l }, true) ∧ 0 ≤ l ∧ l ≤ d.left) ∨ (spendF d = ({ d with left := 0, dead := true }, false) ∧ d.left = 1) := by
  unfold spendF
  by_cases h : 0 < d.left
  · rw [if_pos h]
    by_cases h1 : d.left - 1 = 0
    · refine .inr ⟨?_, by omega⟩
      simp [h1]
    · refine .inl ⟨d.left - 1, ?_, by omega, by omega⟩
      simp [h1, hd]
  · rw [if_neg h]
    refine .inl ⟨d.left, ?_, h0, Int.le_refl _⟩
    show (d, !d.dead) = (d, true)
    rw [hd]
    rfl
theorem jadd_cases {d : Dk} (n : Int) (x : List UInt8) (hd : d.dead = false) (h0 : 0 ≤ d.left) :
    (jaddF n d x = (n, d, 19) ∧ d.room - d.log.length - d.snap.length < (frmB x).length) ∨
    (∃ l, jaddF n d x = (n + 1, { d with left := l, log := d.log ++ frmB x, synced := (d.log ++ frmB x).length }, 0) ∧ 0 ≤ l ∧ l ≤ d.left) ∨
    (jaddF n d x = (n, { d with left := 0, dead := true, log := d.log ++ frmB x }, 20) ∧ 0 < d.left) := by
  unfold jaddF appF
  rw [hd]
  simp only [Bool.false_eq_true, if_false]
  by_cases hf : d.room - d.log.length - d.snap.length < (frmB x).length
  · rw [if_pos hf]
    exact .inl ⟨rfl, hf⟩
  · rw [if_neg hf]
    rcases spend_cases hd h0 with ⟨l, hs, h1, h2⟩ | ⟨hs, h1⟩
    · rw [hs]
      simp only [if_true]
      rcases spend_cases (d := { d with left := l, log := d.log ++ frmB x }) hd h1 with ⟨l', hs', h1', h2'⟩ | ⟨hs', h1'⟩
      · refine .inr (.inl ⟨l', ?_, h1', by simp only at h2'; omega⟩)
        unfold syncF
        simp only [hd, Bool.false_eq_true, if_false]
        rw [hd] at hs'
        rw [hs']
        simp
      · refine .inr (.inr ⟨?_, by simp only at h1'; omega⟩)
        unfold syncF
        simp only [hd, Bool.false_eq_true, if_false]
        rw [hd] at hs'
        rw [hs']
        simp
    · rw [hs]
      refine .inr (.inr ⟨?_, by omega⟩)
      simp
theorem jsnap_cases {d : Dk} (n : Int) (x : List UInt8) (hd : d.dead = false) (h0 : 0 ≤ d.left) :
    (jsnapF n d x = (n, d, 19) ∧ d.room < (frmB x).length) ∨
    (∃ l, jsnapF n d x = (0, { d with left := l, snap := frmB x, log := [], synced := 0 }, 0) ∧ 0 ≤ l ∧ l ≤ d.left ∧ (frmB x).length ≤ d.room) ∨
    (jsnapF n d x = (n, { d with left := 0, dead := true, snap := frmB x, log := [], synced := 0 }, 20) ∧ 0 < d.left ∧ (frmB x).length ≤ d.room) ∨
    (jsnapF n d x = (n, { d with left := 0, dead := true }, 20) ∧ 0 < d.left) := by
  unfold jsnapF swapF
  rw [hd]
  simp only [Bool.false_eq_true, if_false]
  by_cases hf : d.room < (frmB x).length
  · rw [if_pos hf]
    exact .inl ⟨rfl, hf⟩
  · rw [if_neg hf]
    rcases spend_cases hd h0 with ⟨l, hs, h1, h2⟩ | ⟨hs, h1⟩
    · rw [hs]
      refine .inr (.inl ⟨l, ?_, h1, h2, by omega⟩)
      simp
      exact hd
    · rw [hs]
      by_cases ho : d.odd = 0
      · refine .inr (.inr (.inl ⟨?_, by omega, by omega⟩))
        simp [ho]
      · refine .inr (.inr (.inr ⟨?_, by omega⟩))
        simp [ho]
theorem layAll_id (n : Nd) (rs : List (Nd × Nat)) : (layAll n rs).id = n.id := by
  induction rs generalizing n with
  | nil => rfl
  | cons p rs ih => exact ih (layF n p.1 p.2)
theorem n1F_id (n0 : Nd) (so : Option Nd) : (n1F n0 so).id = n0.id := by cases so <;> rfl
theorem layAll_snoc (n : Nd) (rs : List (Nd × Nat)) (p : Nd × Nat) : layAll n (rs ++ [p]) = layF (layAll n rs) p.1 p.2 := by
  unfold layAll
  rw [List.foldl_append]
  rfl
theorem pfx_take : ∀ (a b : List En), a.take (pfx a b) = b.take (pfx a b)
  | [], b => by simp [pfx]
  | _ :: _, [] => by simp [pfx]
  | x :: xs, y :: ys => by
    unfold pfx
    split
    · rename_i h
      rw [List.take_succ_cons, List.take_succ_cons, pfx_take xs ys, h]
    · simp
theorem alike_take (a b : Nd) : a.log.take (alikeF a b) ++ b.log.drop (alikeF a b) = b.log := by
  have h : a.log.take (alikeF a b) = b.log.take (alikeF a b) := by
    unfold alikeF
    split
    · exact pfx_take _ _
    · simp
  rw [h, List.take_append_drop]
theorem alike_le (a b : Nd) : alikeF a b ≤ b.log.length := by
  unfold alikeF
  split
  · exact (pfx_le _ _).2
  · omega
theorem wake_log {a b : Nd} (h : wakeF a = wakeF b) : a.log = b.log ∧ a.base = b.base ∧ a.id = b.id := by
  unfold wakeF at h
  simp only [Nd.mk.injEq] at h
  exact ⟨h.2.2.2.2.2.2.2.1, h.2.2.2.1, h.1⟩
theorem wake_lay {L N t : Nd} (h : wakeF N = wakeF L) (hid : L.id = t.id) : wakeF t = wakeF (layF L t (alikeF N t)) := by
  obtain ⟨h1, h2, h3⟩ := wake_log h
  have hl := alike_take N t
  rw [h1] at hl
  unfold wakeF layF
  rw [hl, hid]
theorem Cont.next {n0 : Nd} {R : Nat} {d d' : Dk} {so : Option Nd} {rs : List (Nd × Nat)} {N t : Nd} (h : Cont n0 R d so rs [] N) (hl : rs.length < 16) (hid : t.id = n0.id) (hsz : Sz t) (hr : (recB t 0).length ≤ R)
    (hs : d'.snap = d.snap) (hlog : d'.log = d.log ++ frmB (recB t (alikeF N t))) : Cont n0 R d' so (rs ++ [(t, alikeF N t)]) [] t := by
  have hL : (layAll (n1F n0 so) rs).id = t.id := by rw [layAll_id, n1F_id, hid]
  have hw := wake_lay h.same hL
  have hlg := (wake_log hw).1
  refine ⟨hs.trans h.snap, ?_, stop_nil, by simp; omega, h.szs, ?_, ?_, ?_⟩
  · rw [hlog, h.log]
    simp [rec1]
  · intro p hp
    rcases List.mem_append.1 hp with hp | hp
    · exact h.szr p hp
    · rw [List.mem_singleton.1 hp]
      exact ⟨hsz, alike_le _ _, by have := recB_le t (alikeF N t); show (recB t (alikeF N t)).length ≤ _; omega⟩
  · intro k
    by_cases hk : k ≤ rs.length
    · rw [List.take_append_of_le_length hk]
      exact h.lay k
    · rw [List.take_of_length_le (by simp; omega), layAll_snoc]
      show (layF (layAll (n1F n0 so) rs) t (alikeF N t)).log.length ≤ 10000
      rw [← hlg]
      exact hsz.len
  · rw [layAll_snoc]
    exact hw
theorem Cont.torn {n0 : Nd} {R : Nat} {d d' : Dk} {so : Option Nd} {rs : List (Nd × Nat)} {N : Nd} {tl : List UInt8} (h : Cont n0 R d so rs [] N) (hst : Stop tl) (hs : d'.snap = d.snap) (hlog : d'.log = d.log ++ tl) : Cont n0 R d' so rs tl N :=
  ⟨hs.trans h.snap, by rw [hlog, h.log, List.append_nil], hst, h.len, h.szs, h.szr, h.lay, h.same⟩
theorem Cont.snapped {n0 : Nd} {R : Nat} {d' : Dk} {N : Nd} (hid : N.id = n0.id) (hsz : Sz N) (hr : (recB N 0).length ≤ R) (hs : d'.snap = frmB (recB N 0)) (hlog : d'.log = []) : Cont n0 R d' (some N) [] [] N := by
  refine ⟨hs, hlog, stop_nil, by simp, ?_, by simp, ?_, ?_⟩
  · intro m hm
    cases hm
    exact ⟨hsz, hr⟩
  · intro k
    rw [List.take_nil]
    exact hsz.len
  · show wakeF N = wakeF (layF n0 N 0)
    unfold wakeF layF
    rw [hid]
    simp
theorem gone_add {n0 : Nd} {R : Nat} {d d2 : Dk} {so : Option Nd} {rs : List (Nd × Nat)} {N t : Nd} (h : Cont n0 R d so rs [] N) (hl : rs.length < 16) (hid : t.id = n0.id) (hsz : Sz t) (hr : (recB t 0).length ≤ R) (hR : R ≤ 4000000)
    (hdk : DkR d2) (hdead : d2.dead = true) (hs : d2.snap = d.snap) (hlog : d2.log = d.log ++ frmB (recB t (alikeF N t))) (hsy : d2.synced = d.log.length) : Gone n0 R d2 N t := by
  have hx : (recB t (alikeF N t)).length ≤ 4194304 := by have := recB_le t (alikeF N t); omega
  have h0 : 0 ≤ d2.synced := by omega
  have h1 : d2.synced ≤ d2.log.length := by rw [hsy, hlog, List.length_append]; omega
  refine ⟨hdead, hdk, h0, h1, fun pick => ?_⟩
  have hk := stayK_range d2 pick h0 h1
  obtain ⟨k, hkk⟩ : ∃ k : Nat, stayK d2 pick = k := ⟨(stayK d2 pick).toNat, by omega⟩
  have hcl : (crashF d2 pick).log = d.log ++ (frmB (recB t (alikeF N t))).take k := by
    show d2.log.take (d2.synced + stayK d2 pick).toNat = _
    rw [hkk, hsy, show ((d.log.length : Int) + (k : Int)).toNat = d.log.length + k by omega, hlog, List.take_append, List.take_of_length_le (by omega), show d.log.length + k - d.log.length = k by omega]
  by_cases hfull : k < (frmB (recB t (alikeF N t))).length
  · exact ⟨so, rs, _, .inl (h.torn (stop_front hx hfull) hs hcl)⟩
  · rw [List.take_of_length_le (by omega)] at hcl
    exact ⟨so, _, [], .inr (h.next hl hid hsz hr hs hcl)⟩
theorem gone_whole {n0 : Nd} {R : Nat} {d d2 : Dk} {so : Option Nd} {rs : List (Nd × Nat)} {N t : Nd} (h : Cont n0 R d so rs [] N) (hdk : DkR d2) (hdead : d2.dead = true) (hs : d2.snap = d.snap) (hlog : d2.log = d.log) (hsy : d2.synced = d2.log.length) : Gone n0 R d2 N t := by
  have h0 : 0 ≤ d2.synced := by omega
  refine ⟨hdead, hdk, h0, by omega, fun pick => ?_⟩
  have hk := stayK_range d2 pick h0 (by omega)
  have hcl : (crashF d2 pick).log = d.log ++ [] := by
    show d2.log.take (d2.synced + stayK d2 pick).toNat = _
    rw [List.take_of_length_le (by omega), hlog, List.append_nil]
  exact ⟨so, rs, [], .inl (h.torn stop_nil hs hcl)⟩
end Go.Proofs.YtbdpfclnomiicaaGreat
end
section
set_option maxRecDepth 16000
namespace Go.Proofs.YtbdpfclnomiicaaGreat
open Go.Cap
theorem Live.ok {n0 : Nd} {R : Nat} {K : Kp} (h : Live n0 R K) (hR : R ≤ 4000000) : KpOk K := by
  obtain ⟨so, rs, hc, hn⟩ := h.cont
  have := hc.len
  exact ⟨h.dk, h.sz, by have := h.rec_; omega, by omega, by omega⟩
inductive Wrote (n0 : Nd) (R : Nat) (K : Kp) (t : Nd) : Kp × Int → Prop
  | ok (n' : Int) (d' : Dk) (hc : ∃ so rs, Cont n0 R d' so rs [] t ∧ n' = rs.length) (hs : d'.synced = d'.log.length) (hd : d'.dead = false) (hk : DkR d') (hl : d'.left ≤ K.d.left) (hr : d'.room = K.d.room) : Wrote n0 R K t (⟨n', K.N, d'⟩, 0)
  | full (n' : Int) (d' : Dk) (h : Live n0 R ⟨n', K.N, d'⟩) (hl : d'.left ≤ K.d.left) (hr : d'.room = K.d.room) (hf : K.d.room < 2 * R + 200) : Wrote n0 R K t (⟨n', K.N, d'⟩, 19)
  | dead (n' : Int) (d' : Dk) (hl : 0 < K.d.left) (h : Gone n0 R d' K.N t) (hr : d'.room = K.d.room) : Wrote n0 R K t (⟨n', K.N, d'⟩, 20)
def wr2F (n : Int) (N : Nd) (d : Dk) (x : List UInt8) : Kp × Int :=
  let s := jsnapF n d (recB N 0)
  if ¬ s.2.2 = 0 then (⟨s.1, N, s.2.1⟩, s.2.2) else
  let b := jaddF s.1 s.2.1 x
  (⟨b.1, N, b.2.1⟩, b.2.2)
theorem wr2_cases {n0 : Nd} {R : Nat} {n : Int} {N t : Nd} {d : Dk} (h : Live n0 R ⟨n, N, d⟩) (hid : t.id = n0.id) (hsz : Sz t) (hr : (recB t 0).length ≤ R) (hR : R ≤ 4000000) : Wrote n0 R ⟨n, N, d⟩ t (wr2F n N d (recB t (alikeF N t))) := by
  have h0 := h
  obtain ⟨⟨so, rs, hc, hn⟩, hsy, hdead, hdk, hNid, hNsz, hNr⟩ := h
  simp only at hc hn hsy hdead hdk hNid hNsz hNr
  have hx : (recB t (alikeF N t)).length ≤ R + 80 := by have := recB_le t (alikeF N t); omega
  have hfl := frmB_len (recB t (alikeF N t))
  have hfs := frmB_len (recB N 0)
  have hjs := hdk.jsnap (n := n) (recB N 0)
  rcases jsnap_cases n (recB N 0) hdead hdk.l0 with ⟨hj, hf⟩ | ⟨l, hj, h1, h2, h3⟩ | ⟨hj, h1, h3⟩ | ⟨hj, h1⟩
  · have hw : wr2F n N d (recB t (alikeF N t)) = (⟨n, N, d⟩, 19) := by unfold wr2F; rw [hj]; rfl
    rw [hw]
    exact .full _ _ h0 (Int.le_refl _) rfl (by simp only; omega)
  · rw [hj] at hjs
    simp only at hjs
    have hc2 : Cont n0 R { d with left := l, snap := frmB (recB N 0), log := [], synced := 0 } (some N) [] [] N := Cont.snapped hNid hNsz hNr rfl rfl
    have hja := hjs.jadd (n := 0) (recB t (alikeF N t))
    rcases jadd_cases (d := { d with left := l, snap := frmB (recB N 0), log := [], synced := 0 }) 0 (recB t (alikeF N t)) hdead h1 with ⟨hj2, hf2⟩ | ⟨l2, hj2, h4, h5⟩ | ⟨hj2, h4⟩
    · have hw : wr2F n N d (recB t (alikeF N t)) = (⟨0, N, { d with left := l, snap := frmB (recB N 0), log := [], synced := 0 }⟩, 19) := by
        unfold wr2F; rw [hj]; simp only; rw [hj2]; rfl
      rw [hw]
      exact .full _ _ ⟨⟨some N, [], hc2, rfl⟩, rfl, hdead, hjs, hNid, hNsz, hNr⟩ h2 rfl (by simp only [List.length_nil] at hf2 ⊢; omega)
    · have hw : wr2F n N d (recB t (alikeF N t)) = (⟨1, N, { d with left := l2, snap := frmB (recB N 0), log := [] ++ frmB (recB t (alikeF N t)), synced := ([] ++ frmB (recB t (alikeF N t)) : List UInt8).length }⟩, 0) := by
        unfold wr2F; rw [hj]; simp only; rw [hj2]; rfl
      rw [hw]
      rw [hj2] at hja
      exact .ok _ _ ⟨some N, _, hc2.next (by simp) hid hsz hr rfl rfl, rfl⟩ rfl hdead hja (by simp only at h5 ⊢; omega) rfl
    · have hw : wr2F n N d (recB t (alikeF N t)) = (⟨0, N, { d with left := 0, dead := true, snap := frmB (recB N 0), log := [] ++ frmB (recB t (alikeF N t)), synced := 0 }⟩, 20) := by
        unfold wr2F; rw [hj]; simp only; rw [hj2]; rfl
      rw [hw]
      rw [hj2] at hja
      exact .dead _ _ (by simp only at h4 ⊢; omega) (gone_add hc2 (by simp) hid hsz hr hR hja rfl rfl rfl rfl) rfl
  · rw [hj] at hjs
    have hw : wr2F n N d (recB t (alikeF N t)) = (⟨n, N, { d with left := 0, dead := true, snap := frmB (recB N 0), log := [], synced := 0 }⟩, 20) := by unfold wr2F; rw [hj]; rfl
    rw [hw]
    have hc2 : Cont n0 R { d with left := 0, dead := true, snap := frmB (recB N 0), log := [], synced := 0 } (some N) [] [] N := Cont.snapped hNid hNsz hNr rfl rfl
    exact .dead _ _ h1 (gone_whole hc2 hjs rfl rfl rfl rfl) rfl
  · rw [hj] at hjs
    have hw : wr2F n N d (recB t (alikeF N t)) = (⟨n, N, { d with left := 0, dead := true }⟩, 20) := by unfold wr2F; rw [hj]; rfl
    rw [hw]
    exact .dead _ _ h1 (gone_whole hc hjs rfl rfl rfl hsy) rfl
theorem write_cases {n0 : Nd} {R : Nat} {n : Int} {N t : Nd} {d : Dk} (h : Live n0 R ⟨n, N, d⟩) (hid : t.id = n0.id) (hsz : Sz t) (hr : (recB t 0).length ≤ R) (hR : R ≤ 4000000) : Wrote n0 R ⟨n, N, d⟩ t (writeF ⟨n, N, d⟩ (recB t (alikeF N t))) := by
  have h0 := h
  have h2 := wr2_cases h hid hsz hr hR
  obtain ⟨⟨so, rs, hc, hn⟩, hsy, hdead, hdk, hNid, hNsz, hNr⟩ := h
  simp only at hc hn hsy hdead hdk hNid hNsz hNr
  have hx : (recB t (alikeF N t)).length ≤ R + 80 := by have := recB_le t (alikeF N t); omega
  have hfl := frmB_len (recB t (alikeF N t))
  have hja := hdk.jadd (n := n) (recB t (alikeF N t))
  have hrs := hc.len
  by_cases hlt : n < 16
  · rcases jadd_cases n (recB t (alikeF N t)) hdead hdk.l0 with ⟨hj, hf⟩ | ⟨l, hj, h4, h5⟩ | ⟨hj, h4⟩
    · by_cases hn0 : n = 0
      · have hw : writeF ⟨n, N, d⟩ (recB t (alikeF N t)) = (⟨n, N, d⟩, 19) := by
          unfold writeF wr1F
          simp only
          rw [if_pos hlt, hj]
          simp only
          rw [if_pos (.inr hn0)]
        rw [hw]
        refine .full _ _ h0 (Int.le_refl _) rfl ?_
        have hrs0 : rs = [] := List.length_eq_zero_iff.1 (by omega)
        have hlog : d.log = [] := by rw [hc.log, hrs0]; rfl
        have hsnl : d.snap.length ≤ R + 8 := by
          rw [hc.snap]
          cases so with
          | none => simp [snapB]
          | some m => have := (hc.szs m rfl).2; have h2 := frmB_len (recB m 0); show (frmB (recB m 0)).length ≤ _; omega
        simp only
        rw [hlog, List.length_nil] at hf
        omega
      · have hw : writeF ⟨n, N, d⟩ (recB t (alikeF N t)) = wr2F n N d (recB t (alikeF N t)) := by
          unfold writeF wr1F wr2F
          simp only
          rw [if_pos hlt, hj]
          simp only
          rw [if_neg (by simp [hn0])]
        rw [hw]
        exact h2
    · have hw : writeF ⟨n, N, d⟩ (recB t (alikeF N t)) = (⟨n + 1, N, { d with left := l, log := d.log ++ frmB (recB t (alikeF N t)), synced := (d.log ++ frmB (recB t (alikeF N t))).length }⟩, 0) := by
        unfold writeF wr1F
        simp only
        rw [if_pos hlt, hj]
        simp only
        rw [if_pos (.inl (by omega))]
      rw [hw]
      rw [hj] at hja
      exact .ok _ _ ⟨so, _, hc.next (by omega) hid hsz hr rfl rfl, by rw [hn, List.length_append]; rfl⟩ rfl hdead hja h5 rfl
    · have hw : writeF ⟨n, N, d⟩ (recB t (alikeF N t)) = (⟨n, N, { d with left := 0, dead := true, log := d.log ++ frmB (recB t (alikeF N t)) }⟩, 20) := by
        unfold writeF wr1F
        simp only
        rw [if_pos hlt, hj]
        simp only
        rw [if_pos (.inl (by omega))]
      rw [hw]
      rw [hj] at hja
      exact .dead _ _ h4 (gone_add hc (by omega) hid hsz hr hR hja rfl rfl rfl hsy) rfl
  · have hw : writeF ⟨n, N, d⟩ (recB t (alikeF N t)) = wr2F n N d (recB t (alikeF N t)) := by
      unfold writeF wr1F wr2F
      simp only
      rw [if_neg hlt]
      simp only
      have hn0 : ¬ n = 0 := by omega
      rw [if_neg (by simp [hn0])]
    rw [hw]
    exact h2
inductive Kept (n0 : Nd) (R : Nat) (K : Kp) (t : Nd) : Kp × Int → Prop
  | ok (K' : Kp) (h : Live n0 R K') (hN : K'.N = t) (hl : K'.d.left ≤ K.d.left) (hr : K'.d.room = K.d.room) : Kept n0 R K t (K', 0)
  | full (K' : Kp) (h : Live n0 R K') (hN : K'.N = K.N) (hl : K'.d.left ≤ K.d.left) (hr : K'.d.room = K.d.room) (hf : K.d.room < 2 * R + 200) : Kept n0 R K t (K', 19)
  | dead (K' : Kp) (hN : K'.N = K.N) (hl : 0 < K.d.left) (h : Gone n0 R K'.d K.N t) (hr : K'.d.room = K.d.room) : Kept n0 R K t (K', 20)
theorem keep_cases {n0 : Nd} {R : Nat} {K : Kp} {t : Nd} (h : Live n0 R K) (hid : t.id = n0.id) (hsz : Sz t) (hr : (recB t 0).length ≤ R) (hR : R ≤ 4000000) : Kept n0 R K t (keepF K t 0) := by
  obtain ⟨n, N, d⟩ := K
  have hwr := write_cases h hid hsz hr hR
  obtain ⟨⟨so, rs, hc, hn⟩, hsy, hdead, hdk, hNid, hNsz, hNr⟩ := h
  simp only at hc hn hsy hdead hdk hNid hNsz hNr
  unfold keepF
  rw [if_neg (by simp)]
  by_cases hsame : wakeF N = wakeF t
  · rw [if_pos hsame]
    refine .ok _ ⟨⟨so, rs, ?_, hn⟩, hsy, hdead, hdk, hid, hsz, hr⟩ rfl (Int.le_refl _) rfl
    exact ⟨hc.snap, hc.log, hc.stop, hc.len, hc.szs, hc.szr, hc.lay, hsame.symm.trans hc.same⟩
  rw [if_neg hsame]
  simp only
  generalize writeF ⟨n, N, d⟩ (recB t (alikeF N t)) = w at hwr ⊢
  cases hwr with
  | ok n' d' hc hs hd hk hl hr' =>
    rw [if_pos rfl]
    exact .ok _ ⟨hc, hs, hd, hk, hid, hsz, hr⟩ rfl hl hr'
  | full n' d' h hl hr' hf =>
    rw [if_neg (by simp)]
    exact .full _ h rfl hl hr' hf
  | dead n' d' hl h hr' =>
    rw [if_neg (by simp)]
    exact .dead _ rfl hl h hr'
end Go.Proofs.YtbdpfclnomiicaaGreat
end
section
set_option maxRecDepth 16000
namespace Go.Proofs.YtbdpfclnomiicaaGreat
open Go.Cap
theorem F5.gs (f : F5) (i j : Nat) (v : Int) : (f.set i v).get j = v ∨ (f.set i v).get j = f.get j := by
  match i with
  | 0 => match j with
    | 0 => exact .inl rfl
    | 1 | 2 | 3 | _ + 4 => exact .inr rfl
  | 1 => match j with
    | 1 => exact .inl rfl
    | 0 | 2 | 3 | _ + 4 => exact .inr rfl
  | 2 => match j with
    | 2 => exact .inl rfl
    | 0 | 1 | 3 | _ + 4 => exact .inr rfl
  | 3 => match j with
    | 3 => exact .inl rfl
    | 0 | 1 | 2 | _ + 4 => exact .inr rfl
  | _ + 4 => match j with
    | _ + 4 => exact .inl rfl
    | 0 | 1 | 2 | 3 => exact .inr rfl
theorem F5.ga (v : Int) (j : Nat) : (F5.all v).get j = v := by
  match j with
  | 0 | 1 | 2 | 3 | _ + 4 => rfl
structure Ek (e : En) (s : Nat) : Prop where
  t0 : 0 ≤ e.term
  t1 : e.term ≤ s
  c0 : 0 ≤ e.conf
  c1 : e.conf ≤ 31
  cmd : e.cmd.length ≤ 61
theorem Ek.le {e : En} {s r : Nat} (h : Ek e s) (hr : s ≤ r) : Ek e r := ⟨h.t0, by have := h.t1; omega, h.c0, h.c1, h.cmd⟩
structure Nk (n : Nd) (s : Nat) : Prop where
  id0 : 0 ≤ n.id
  id5 : n.id < 5
  base : n.base = 0
  baseTerm : n.baseTerm = 0
  conf0 : 0 ≤ n.baseConf
  conf1 : n.baseConf ≤ 31
  snap : n.snap = []
  term0 : 0 ≤ n.term
  term1 : n.term ≤ s
  vote0 : -1 ≤ n.vote
  vote1 : n.vote ≤ 5
  len : n.log.length ≤ s
  ents : ∀ e ∈ n.log, Ek e s
  com0 : 0 ≤ n.commit
  com1 : n.commit ≤ s
  wait0 : 0 ≤ n.wait
  wait1 : n.wait ≤ s
  votes0 : 0 ≤ n.votes
  votes1 : n.votes ≤ 31
  next0 : ∀ i, 0 ≤ n.next.get i
  next1 : ∀ i, n.next.get i ≤ s + 1
  mtch0 : ∀ i, 0 ≤ n.mtch.get i
  mtch1 : ∀ i, n.mtch.get i ≤ s
theorem lc_mem (l : List En) : ∀ k ≤ l.length, ∀ j c, lc l k = some (j, c) → j < k ∧ ∃ e ∈ l, e.conf = c
  | 0, _, _, _, h => by cases h
  | k + 1, hk, j, c, h => by
    unfold lc at h
    split at h
    · cases h
      refine ⟨by omega, l.getD k default, ?_, rfl⟩
      simp [show k < l.length by omega]
    · have := lc_mem l k (by omega) j c h
      exact ⟨by omega, this.2⟩
theorem Nk.cnf {n : Nd} {s : Nat} (h : Nk n s) : 0 ≤ (confF n).2 ∧ (confF n).2 ≤ 31 ∧ 0 ≤ (confF n).1 ∧ (confF n).1 ≤ n.log.length := by
  unfold confF
  have hb := h.base
  split
  · rename_i k c hc
    obtain ⟨h1, e, he, rfl⟩ := lc_mem n.log n.log.length (Nat.le_refl _) _ _ hc
    have := h.ents e he
    exact ⟨this.c0, this.c1, by simp only; omega, by simp only; omega⟩
  · exact ⟨h.conf0, h.conf1, by simp only; omega, by simp only; omega⟩
theorem Nk.bd {n : Nd} {s : Nat} (h : Nk n s) (hs : s ≤ 1000) : Bd n := by
  have hc := h.cnf
  have := h.len
  exact ⟨h.id0, h.id5, by omega, by have := h.base; omega, by have := h.base; omega, hc.1, hc.2.1⟩
theorem Nk.nbd {n : Nd} {s : Nat} (h : Nk n s) (hs : s ≤ 1000) : NBd n := by
  have := h.len
  exact ⟨by omega, h.votes0, h.votes1, fun i => by have := h.next0 i; omega, fun i => by have := h.next1 i; omega, fun i => by have := h.mtch0 i; omega, fun i => by have := h.mtch1 i; omega⟩
theorem Nk.sz {n : Nd} {s : Nat} (h : Nk n s) (hs : s ≤ 1000) : Sz n := by
  have hb := h.base
  have hbt := h.baseTerm
  have h1 := h.term0
  have h2 := h.term1
  have h3 := h.vote0
  have h4 := h.vote1
  have h5 := h.conf0
  have h6 := h.conf1
  have h7 := h.com0
  have h8 := h.com1
  have h9 := h.len
  refine ⟨⟨by omega, by omega⟩, ⟨by omega, by omega⟩, ⟨by omega, by omega⟩, ⟨by omega, by omega⟩, ⟨by omega, by omega⟩, ⟨by omega, by omega⟩, by rw [h.snap]; simp, by omega, fun e he => ?_⟩
  have hk := h.ents e he
  have e1 := hk.t0
  have e2 := hk.t1
  have e3 := hk.c0
  have e4 := hk.c1
  have e5 := hk.cmd
  exact ⟨⟨by omega, by omega⟩, ⟨by omega, by omega⟩, by omega⟩
theorem entB_small {e : En} {s : Nat} (h : Ek e s) : (entB e).length ≤ 101 := by
  have h1 := intB_len e.term
  have h2 := intB_len e.conf
  have h3 := txtB_len e.cmd
  have := h.cmd
  unfold entB
  simp only [List.length_append]; omega
theorem ents_small {s : Nat} : ∀ (l : List En), (∀ e ∈ l, Ek e s) → (l.flatMap entB).length ≤ 101 * l.length
  | [], _ => by simp
  | e :: l, h => by
    have h1 := entB_small (h e List.mem_cons_self)
    have h2 := ents_small l fun x hx => h x (List.mem_cons_of_mem _ hx)
    simp only [List.flatMap_cons, List.length_append, List.length_cons]; omega
theorem Nk.rec_ {n : Nd} {s : Nat} (h : Nk n s) : (recB n 0).length ≤ 90 + 101 * s := by
  have h1 := intsB_len (headB n 0)
  have h2 : (headB n 0).length = 8 := rfl
  have h3 := ents_small n.log h.ents
  have h4 := h.len
  have h5 : (txtB n.snap).length ≤ 10 := by rw [h.snap, txtB, if_pos rfl]; exact (intB_len 0).2
  unfold recB
  simp only [List.length_append, List.drop_zero]
  omega
theorem Nk.le {n : Nd} {s r : Nat} (h : Nk n s) (hr : s ≤ r) : Nk n r :=
  ⟨h.id0, h.id5, h.base, h.baseTerm, h.conf0, h.conf1, h.snap, h.term0, by have := h.term1; omega, h.vote0, h.vote1, by have := h.len; omega, fun e he => (h.ents e he).le hr, h.com0, by have := h.com1; omega, h.wait0, by have := h.wait1; omega, h.votes0, h.votes1,
    h.next0, fun i => by have := h.next1 i; omega, h.mtch0, fun i => by have := h.mtch1 i; omega⟩
theorem new_nk {id conf : Int} (h0 : 0 ≤ id) (h1 : id < 5) (h2 : 0 ≤ conf) (h3 : conf ≤ 31) : Nk (newF id conf) 0 :=
  ⟨h0, h1, rfl, rfl, h2, h3, rfl, by simp [newF], by simp [newF], by simp [newF], by simp [newF], by simp [newF], by simp [newF], by simp [newF], by simp [newF], by simp [newF], by simp [newF], by simp [newF], by simp [newF],
    fun i => by show 0 ≤ (F5.all 0).get i; rw [F5.ga]; omega, fun i => by show (F5.all 0).get i ≤ _; rw [F5.ga]; omega, fun i => by show 0 ≤ (F5.all 0).get i; rw [F5.ga]; omega, fun i => by show (F5.all 0).get i ≤ _; rw [F5.ga]; omega⟩
theorem cmtF_bd (n : Nd) (conf : Int) (hb : n.base = 0) : ∀ k, n.commit ≤ cmtF n conf k ∧ cmtF n conf k ≤ max n.commit k
  | 0 => by unfold cmtF; omega
  | k + 1 => by
    have := cmtF_bd n conf hb k
    unfold cmtF
    split <;> omega
theorem Nk.commit {n : Nd} {s : Nat} (h : Nk n s) : Nk (commitF n) s := by
  have hc := cmtF_bd n (confF n).2 h.base n.log.length
  have h0 := h.com0
  have h1 := h.com1
  have hl := h.len
  unfold commitF
  split
  · exact ⟨h.id0, h.id5, h.base, h.baseTerm, h.conf0, h.conf1, h.snap, h.term0, h.term1, h.vote0, h.vote1, h.len, h.ents, by show 0 ≤ cmtF n _ _; omega, by show cmtF n _ _ ≤ _; omega, Int.le_refl _, by show (0 : Int) ≤ _; omega, h.votes0, h.votes1, h.next0, h.next1, h.mtch0, h.mtch1⟩
  · exact ⟨h.id0, h.id5, h.base, h.baseTerm, h.conf0, h.conf1, h.snap, h.term0, h.term1, h.vote0, h.vote1, h.len, h.ents, by show 0 ≤ cmtF n _ _; omega, by show cmtF n _ _ ≤ _; omega, h.wait0, h.wait1, h.votes0, h.votes1, h.next0, h.next1, h.mtch0, h.mtch1⟩
theorem Nk.push {n : Nd} {s : Nat} (h : Nk n s) (e : En) (he : Ek e (s + 1)) : ∀ x ∈ n.log ++ [e], Ek x (s + 1) := by
  intro x hx
  rcases List.mem_append.1 hx with hx | hx
  · exact (h.ents x hx).le (by omega)
  · rw [List.mem_singleton.1 hx]; exact he
theorem Nk.lead {n : Nd} {s : Nat} (h : Nk n s) : Nk (leadF n) (s + 1) := by
  have hb := h.base
  have hl := h.len
  have ht0 := h.term0
  have ht1 := h.term1
  have g := h.le (r := s + 1) (by omega)
  refine Nk.commit ⟨g.id0, g.id5, g.base, g.baseTerm, g.conf0, g.conf1, g.snap, g.term0, g.term1, g.vote0, g.vote1, ?_, ?_, g.com0, g.com1, g.wait0, g.wait1, g.votes0, g.votes1, ?_, ?_, ?_, ?_⟩
  · show (n.log ++ [_]).length ≤ _; simp; omega
  · exact h.push _ ⟨ht0, by simp only; omega, Int.le_refl _, by simp only; omega, by simp⟩
  · intro i; show 0 ≤ (F5.all (n.base + (n.log.length + 1))).get i; rw [F5.ga]; omega
  · intro i; show (F5.all (n.base + (n.log.length + 1))).get i ≤ _; rw [F5.ga]; omega
  · intro i; show 0 ≤ ((F5.all 0).set n.id.toNat (n.base + (n.log.length + 1))).get i
    rcases F5.gs (F5.all 0) n.id.toNat i (n.base + (n.log.length + 1)) with e | e <;> rw [e]
    · omega
    · rw [F5.ga]; omega
  · intro i; show ((F5.all 0).set n.id.toNat (n.base + (n.log.length + 1))).get i ≤ _
    rcases F5.gs (F5.all 0) n.id.toNat i (n.base + (n.log.length + 1)) with e | e <;> rw [e]
    · omega
    · rw [F5.ga]; omega
theorem pow_id {i : Int} (h0 : 0 ≤ i) (h5 : i < 5) : 0 ≤ (2 : Int) ^ i.toNat ∧ (2 : Int) ^ i.toNat ≤ 31 := by
  rcases five h0 h5 with rfl | rfl | rfl | rfl | rfl <;> decide
theorem Nk.stand {n : Nd} {s : Nat} (h : Nk n s) : Nk (standF n).1 (s + 2) := by
  have hi0 := h.id0
  have hi5 := h.id5
  have hp := pow_id hi0 hi5
  have ht0 := h.term0
  have ht1 := h.term1
  have g := h.le (r := s + 1) (by omega)
  have hN : Nk (standN n) (s + 1) := ⟨g.id0, g.id5, g.base, g.baseTerm, g.conf0, g.conf1, g.snap, by show 0 ≤ n.term + 1; omega, by show n.term + 1 ≤ _; omega, by show -1 ≤ n.id; omega, by show n.id ≤ 5; omega, g.len, g.ents, g.com0, g.com1, Int.le_refl _, by show (0 : Int) ≤ _; omega, hp.1, hp.2, g.next0, g.next1, g.mtch0, g.mtch1⟩
  unfold standF
  split
  · exact hN.lead
  · exact hN.le (by omega)
theorem Nk.tick {n : Nd} {s : Nat} (h : Nk n s) : Nk (tickF n).1 (s + 3) := by
  have g := h.le (r := s + 1) (by omega)
  have hw0 := h.wait0
  have hw1 := h.wait1
  have hN : Nk { n with wait := n.wait + 1 } (s + 1) := ⟨g.id0, g.id5, g.base, g.baseTerm, g.conf0, g.conf1, g.snap, g.term0, g.term1, g.vote0, g.vote1, g.len, g.ents, g.com0, g.com1, by show 0 ≤ n.wait + 1; omega, by show n.wait + 1 ≤ _; omega, g.votes0, g.votes1, g.next0, g.next1, g.mtch0, g.mtch1⟩
  unfold tickF
  split
  · exact h.le (by omega)
  · split
    · exact h.le (by omega)
    · split
      · exact hN.stand
      · exact hN.le (by omega)
theorem Nk.put {n : Nd} {s : Nat} (h : Nk n s) (e : En) (hc0 : 0 ≤ e.conf) (hc1 : e.conf ≤ 31) (hcm : e.cmd.length ≤ 61) : Nk (putF n e) (s + 1) := by
  have hb := h.base
  have hl := h.len
  have ht0 := h.term0
  have ht1 := h.term1
  have g := h.le (r := s + 1) (by omega)
  refine Nk.commit ⟨g.id0, g.id5, g.base, g.baseTerm, g.conf0, g.conf1, g.snap, g.term0, g.term1, g.vote0, g.vote1, ?_, ?_, g.com0, g.com1, g.wait0, g.wait1, g.votes0, g.votes1, g.next0, g.next1, ?_, ?_⟩
  · show (n.log ++ [_]).length ≤ _; simp; omega
  · exact h.push _ ⟨ht0, by simp only; omega, hc0, hc1, hcm⟩
  · intro i; show 0 ≤ (n.mtch.set n.id.toNat (n.base + (n.log.length + 1))).get i
    rcases F5.gs n.mtch n.id.toNat i (n.base + (n.log.length + 1)) with e | e <;> rw [e]
    · omega
    · exact h.mtch0 i
  · intro i; show (n.mtch.set n.id.toNat (n.base + (n.log.length + 1))).get i ≤ _
    rcases F5.gs n.mtch n.id.toNat i (n.base + (n.log.length + 1)) with e | e <;> rw [e]
    · omega
    · exact g.mtch1 i
theorem Nk.prop {n : Nd} {s : Nat} (h : Nk n s) (cmd : List UInt8) (hc : cmd.length ≤ 61) : Nk (propF n cmd).1 (s + 1) := by
  unfold propF
  split
  · exact h.le (by omega)
  · split
    · exact h.le (by omega)
    · exact h.put _ (Int.le_refl _) (by simp only; omega) hc
theorem Nk.change {n : Nd} {s : Nat} (h : Nk n s) (conf : Int) : Nk (changeF n conf).1 (s + 1) := by
  unfold changeF
  split
  · exact h.le (by omega)
  · split
    · exact h.le (by omega)
    · rename_i hc
      split
      · exact h.le (by omega)
      · exact h.put _ (by simp only; omega) (by simp only; omega) (by simp)
end Go.Proofs.YtbdpfclnomiicaaGreat
end
section
set_option maxRecDepth 16000
namespace Go.Cap
section
variable {K : Ctx} {P : Program} {t : Env} {H Hs Hr : Heap} {N : Env → Heap → Prop} {ops : Array Oper} {i j kg : Nat} {l : List Oper} {dst : Option Tmp} {ty ty' tp : TypeId} {pos : String} {aft : Array Edge} {g : Option (Nat × Bool)} {kd : Tmp} {p : Prop} {ip : Decidable p} {x : Operand}
theorem run_eq_ptr0 {e : TypeId} {a : Addr} (w : World) {ty : TypeId} (hu : P.underlying ty = some (.pointer e)) (d : Nat) : (Op.equalIn (d + 1) ty (.pointer (some a)) (.pointer none)).run P w = .ok false w := by
  simp [Op.equalIn, run_underlying hu]
theorem run_eq_ptr {e : TypeId} {a : Addr} (w : World) {ty : TypeId} (hu : P.underlying ty = some (.pointer e)) : (Op.equal ty (.pointer (some a)) (.pointer none)).run P w = .ok false w := run_eq_ptr0 w hu 9999
theorem p_eP {a : Addr} {e : TypeId} (hx : t.ev x = .v (.pointer (some a)) := by first | ((repeat (apply eS; rfl)); exact eZ) | exact ev_int | exact ev_bool | exact ev_nil | exact ev_str | exact ev_ptr | exact ev_agg | exact ev_map | exact ev_nilf | exact ev_nili | exact ev_func) (hu : P.underlying ty = some (.pointer e) := by rfl) : POp P t H ⟨dst, .binOp .eql ty x (.const (.pointer none)) ty', tp, pos, aft, g⟩ (.v (.bool (decide False))) :=
  pop_bin hx rfl fun w => by
    have := run_eq_ptr (a := a) w hu
    simp [eqGuard, binOp, this]
theorem gT_cH {f : FuncId} {xs : Array Operand} {ats : Array TypeId} {args : List T} {Φ : T → Heap → Prop} (hp : p) (hf : FnH K.P f args Hs Φ) (hP : H.Perm (Hs ++ Hr)) (hn : ∀ r H', Φ r H' → SimFrom K ops (i + 1) l ((kd, r) :: t) (H' ++ Hr) N) (hj : (ops[j]?).bind (·.dst) = some kg := by rfl) (hb : t.get kg = .v (.bool (decide p)) := by (repeat (apply gS; rfl)); exact gZ)
    (ha' : EvL t xs.toList args) (hc : callable K.P f = true := by rfl) (hd : okDst (some kd) K.n = true := by rfl) : SimFrom K ops i (⟨some kd, .call ⟨.value (.func f), xs, ats⟩, tp, pos, aft, some (j, true)⟩ :: l) t H N :=
  g_eff hj hb (by simpa using hp) (eop_callH hf hP hc ha' hd hn)
end
end Go.Cap
namespace Go.Proofs.YtbdpfclnomiicaaGreat
open Go.Cap
set_option linter.unusedSimpArgs false
set_option linter.unusedVariables false
attribute [local irreducible] POp SimFrom DrawFrom EOp Sim FnH T.gp
theorem live_step {n0 : Nd} {R : Nat} {K : Kp} {t : Nd} (h : Live n0 R K) (h0 : K.d.left = 0) (hrm : (2 * R + 200 : Int) ≤ K.d.room) (hid : t.id = n0.id) (hsz : Sz t) (hr : (recB t 0).length ≤ R) (hR : R ≤ 4000000) :
    ∃ K', keepF K t 0 = (K', 0) ∧ Live n0 R K' ∧ K'.N = t ∧ K'.d.left = 0 ∧ K'.d.room = K.d.room := by
  have hc := keep_cases h hid hsz hr hR
  generalize keepF K t 0 = w at hc ⊢
  cases hc with
  | ok K' h' hN hl hr' => exact ⟨K', rfl, h', hN, by have := h'.dk.l0; omega, hr'⟩
  | full K' h' hN hl hr' hf => exact absurd hf (by omega)
  | dead K' hN hl h' hr' => exact absurd hl (by omega)
theorem new_live {n0 : Nd} {R : Nat} (room : Int) (hw : wakeF n0 = n0) (hsz : Sz n0) (hr : (recB n0 0).length ≤ R) (h1 : 0 ≤ room) (h2 : room ≤ 16777216) : Live n0 R ⟨0, n0, ⟨0, 0, false, [], 0, [], room⟩⟩ := by
  refine ⟨⟨none, [], ⟨rfl, rfl, stop_nil, by simp, by simp, by simp, fun k => ?_, rfl⟩, rfl⟩, rfl, rfl, ⟨Int.le_refl _, by simp, h1, h2, by simpa using h1⟩, rfl, hsz, hr⟩
  rw [List.take_nil]
  exact hsz.len
theorem open_live {n0 : Nd} {R : Nat} {K : Kp} (bd : Nat) (id conf : Int) (h : Live n0 R K) (h0 : K.d.left = 0) (hn0 : FnP Tryz.prog 12 [ei id, ei conf] (fun r => r = nd n0)) (hw : wakeF n0 = n0) (hl0 : n0.log.length ≤ 10000) (hR : R ≤ 4000000)
    (hszw : Sz (wakeF K.N)) (hrw : (recB (wakeF K.N) 0).length ≤ R) :
    FnH Tryz.prog 11 [pW bd, ei id, ei conf] (DkH bd K.d) (fun r H => ∃ bk bj K2, r = .tup [pW bk, ei 0] ∧ H = KpH bk bj bd K2 ∧ Live n0 R K2 ∧ K2.N = wakeF K.N ∧ K2.d = K.d) := by
  obtain ⟨⟨so, rs, hc, hn⟩, hsy, hdead, hdk, hNid, hNsz, hNr⟩ := h
  have ho := kOpen_fn bd K.d id conf n0 so rs [] hn0 hl0 hdk.ok hdead h0 hc.snap hc.log stop_nil (fun m hm => ⟨(hc.szs m hm).1, by have := (hc.szs m hm).2; omega⟩)
    (fun p hp => ⟨(hc.szr p hp).1, (hc.szr p hp).2.1, by have := (hc.szr p hp).2.2; omega⟩) (fun k => hc.lay k)
  refine FnH.mono ho ?_
  rintro r H ⟨bk, bj, rfl, rfl⟩
  have hN2 : openF n0 so rs = wakeF K.N := by
    unfold openF
    split
    · rename_i hnn
      obtain ⟨rfl, rfl⟩ := hnn
      rw [hc.same]
      exact hw.symm
    · exact hc.same.symm
  have hod : openD K.d (rs.map rec1) [] = K.d := if_pos rfl
  refine ⟨bk, bj, ⟨rs.length, wakeF K.N, K.d⟩, rfl, by rw [hN2, hod], ⟨⟨so, rs, ?_, rfl⟩, hsy, hdead, hdk, hNid, hszw, hrw⟩, rfl, rfl⟩
  exact ⟨hc.snap, hc.log, hc.stop, hc.len, hc.szs, hc.szr, hc.lay, hc.same⟩
end Go.Proofs.YtbdpfclnomiicaaGreat
end
section
set_option maxRecDepth 16000
namespace Go.Proofs.YtbdpfclnomiicaaGreat
open Go.Cap
set_option linter.unusedSimpArgs false
set_option linter.unusedVariables false
attribute [local irreducible] POp SimFrom DrawFrom EOp Sim FnH T.gp
theorem b_true {p : Prop} {i : Decidable p} (h : p) : Le (packT [.v (.bool (@decide p i))]) (.v (.bool true)) := Le.of_eq (by rw [decide_eq_true h]; rfl)
theorem commit_id (n : Nd) : (commitF n).id = n.id := by
  obtain ⟨c, r, w, e⟩ := commitF_eq n
  rw [e]
theorem lead_id (n : Nd) : (leadF n).id = n.id := commit_id _
theorem tick_id (n : Nd) : (tickF n).1.id = n.id := by
  unfold tickF
  split
  · rfl
  · split
    · rfl
    · split
      · unfold standF
        split
        · exact lead_id _
        · rfl
      · rfl
theorem prop_id (n : Nd) (cmd : List UInt8) : (propF n cmd).1.id = n.id := by
  unfold propF
  split
  · rfl
  · split
    · rfl
    · exact commit_id _
theorem change_id (n : Nd) (conf : Int) : (changeF n conf).1.id = n.id := by
  unfold changeF
  split
  · rfl
  · split
    · rfl
    · split
      · rfl
      · exact commit_id _
structure Easy (n0 : Nd) (R s : Nat) (K : Kp) : Prop where
  live : Live n0 R K
  left : K.d.left = 0
  room : (2 * R + 200 : Int) ≤ K.d.room
  nk : Nk K.N s
theorem nk_tick_fn {n : Nd} {s : Nat} (h : Nk n s) (hs : s ≤ 900) : FnP Tryz.prog 24 [nd n] (fun r => r = .tup [nd (tickF n).1, mss (tickF n).2]) :=
  tick_fn (h.bd (by omega)) (by have := h.len; omega) h.term0 (by have := h.term1; omega) h.wait0 (by have := h.wait1; omega) (fun i => by have := h.next1 i; omega)
theorem easy_tick {n0 : Nd} {R s : Nat} {K : Kp} (h : Easy n0 R s K) (hs : s + 3 ≤ 900) (hR : 90 + 101 * (s + 3) ≤ R) (hR2 : R ≤ 4000000) :
    ∃ K', (∀ bk bj bd, FnH Tryz.prog 17 [pW bk] (KpH bk bj bd K) (fun r H => r = .tup [mss (tickF K.N).2, ei 0] ∧ H = KpH bk bj bd K')) ∧ Easy n0 R (s + 3) K' ∧ K'.N = (tickF K.N).1 ∧ K'.d.room = K.d.room := by
  have ht := h.nk.tick
  have hrc := ht.rec_
  obtain ⟨K', hk, hl, hN, h0, hr⟩ := live_step (t := (tickF K.N).1) h.live h.left h.room ((tick_id _).trans h.live.id) (ht.sz (by omega)) (by omega) hR2
  refine ⟨K', fun bk bj bd => ?_, ⟨hl, h0, by rw [hr]; exact h.room, by rw [hN]; exact ht⟩, hN, hr⟩
  have := kTick_fn bk bj bd K (nk_tick_fn h.nk (by omega)) (h.live.ok hR2) (ht.sz (by omega)) (by omega)
  rw [sentT, hk] at this
  exact this
theorem newD_fn2 (n : Int) (h0 : 1 ≤ n) (h1 : n ≤ 16777216) : FnH Tryz.prog 10 [ei n] [] (fun r H => ∃ b, r = .tup [pW b, ei 0] ∧ H = DkH b ⟨0, 0, false, [], 0, [], n⟩) := newD_fn n h0 h1
theorem wake_new (id conf : Int) : wakeF (newF id conf) = newF id conf := rfl
theorem open_new (bd : Nat) (id conf room : Int) (R : Nat) (h0 : 0 ≤ id) (h1 : id < 5) (h2 : 0 ≤ conf) (h3 : conf ≤ 31) (hR : 90 ≤ R) (hR2 : R ≤ 4000000) (hr1 : (2 * R + 200 : Int) ≤ room) (hr2 : room ≤ 16777216) :
    FnH Tryz.prog 11 [pW bd, ei id, ei conf] (DkH bd ⟨0, 0, false, [], 0, [], room⟩) (fun r H => ∃ bk bj K2, r = .tup [pW bk, ei 0] ∧ H = KpH bk bj bd K2 ∧ Easy (newF id conf) R 0 K2 ∧ K2.N = newF id conf ∧ K2.d.room = room) := by
  have hk := new_nk h0 h1 h2 h3
  have hl := new_live (n0 := newF id conf) (R := R) room (wake_new id conf) (hk.sz (by omega)) (by have := hk.rec_; omega) (by omega) hr2
  refine FnH.mono (open_live bd id conf hl rfl (new_fn id conf h0 h1 h2 h3) (wake_new id conf) (by simp [newF]) hR2 (hk.sz (by omega)) (by have := hk.rec_; show (recB (newF id conf) 0).length ≤ R; omega)) ?_
  rintro r H ⟨bk, bj, K2, e1, e2, e3, e4, e5⟩
  exact ⟨bk, bj, K2, e1, e2, ⟨e3, by rw [e5], by rw [e5]; exact hr1, by rw [e4]; exact hk⟩, e4, by rw [e5]⟩
def waitN (n : Nd) (k : Int) : Nd := { n with wait := k }
theorem known_tick : ∀ k : Fin 4, tickF (waitN (newF 0 7) (k.val : Nat)) = (waitN (newF 0 7) ((k.val + 1 : Nat) : Int), []) := by decide +kernel
theorem known_five : (tickF (waitN (newF 0 7) 4)).1.term = 1 ∧ (tickF (waitN (newF 0 7) 4)).2.length = 2 := by decide +kernel
set_option maxHeartbeats 1000000 in
theorem known_fn : FnP Tryz.prog 7 [] (fun r => r = .v (.bool true)) := by
  have hD := newD_fn 10000 (by omega) (by omega)
  refine fn_enter Tryz.func7 (by rfl) (by rfl) ?_
  intro S0 w0
  show Sim _ _ [] _ _
  (repeat (first | apply cn | apply cq | apply cb | apply ck | apply cl | apply cx))
  apply cr
  refine s_ p_as ?_
  (repeat (first | apply cn | apply cq | apply cb | apply ck | apply cl | apply cx))
  apply cr
  refine e_cH (Hs := []) (Hr := []) hD (.refl _) (fun r H ⟨bd, hr, hH⟩ => ?_)
  subst hr hH
  rw [List.append_nil]
  refine s_ p_mv ?_
  refine s_ p_ex ?_
  refine s_ p_ex ?_
  refine s_ p_as ?_
  refine s_ p_as ?_
  (repeat (first | apply cn | apply cq | apply cb | apply ck | apply cl | apply cx))
  apply cr
  refine s_ p_mv ?_
  refine s_ p_eP ?_
  (repeat (first | apply cn | apply cq | apply cb | apply ck | apply cl | apply cx))
  refine ci (p := False) (fun h => h.elim) (fun _ => ?_)
  have hO := open_new bd 0 7 10000 4000 (by omega) (by omega) (by omega) (by omega) (by omega) (by omega) (by omega) (by omega)
  (repeat (first | apply cn | apply cq | apply cb | apply ck | apply cl | apply cx))
  apply cr
  refine s_ p_mv ?_
  refine e_cHA hO (fun r H ⟨bk, bj, K, hr, hH, hE, hN, hrm⟩ => ?_)
  subst hr hH
  refine s_ p_mv ?_
  refine s_ p_ex ?_
  refine s_ p_ex ?_
  refine s_ p_as ?_
  refine s_ p_as ?_
  (repeat (first | apply cn | apply cq | apply cb | apply ck | apply cl | apply cx))
  apply cr
  refine s_ p_mv ?_
  refine s_ p_ne ?_
  refine s_ p_mv ?_
  refine gF (fun hg => p_mv) ?_
  refine gF (fun hg => p_eP (hx := u_ hg)) ?_
  refine s_ p_or ?_
  (repeat (first | apply cn | apply cq | apply cb | apply ck | apply cl | apply cx))
  refine ci ?_ ?_
  · rintro (h | h)
    · exact absurd rfl h
    · exact h.elim
  intro _
  (repeat (first | apply cn | apply cq | apply cb | apply ck | apply cl | apply cx))
  apply cr
  refine s_ p_as ?_
  (repeat (first | apply cn | apply cq | apply cb | apply ck | apply cl | apply cx))
  apply sim_loopL (σ := Nat × Kp) (ok := fun s => s.1 ≤ 4 ∧ Easy (newF 0 7) 4000 (3 * s.1) s.2 ∧ s.2.N = waitN (newF 0 7) (s.1 : Nat)) (env := fun s => [(5, ei (s.1 : Nat)), (3, pW bk)]) (heap := fun s => KpH bk bj bd s.2) (μ := fun s => 4 - s.1) (s0 := (0, K))
  · exact ⟨Nat.zero_le _, hE, hN⟩
  · exact eL
  · exact kR
  rintro ⟨k, K⟩ ⟨hk, hE, hN⟩
  simp only at hk hE hN
  show Sim _ _ [(5, ei (k : Nat)), (3, pW bk)] (KpH bk bj bd K) _
  (repeat (first | apply cn | apply cq | apply cb | apply ck | apply cl | apply cx))
  apply cr
  refine s_ p_mv ?_
  refine s_ p_lt ?_
  (repeat (first | apply cn | apply cq | apply cb | apply ck | apply cl | apply cx))
  refine ci ?_ ?_
  · intro hlt
    have hk4 : k < 4 := by omega
    obtain ⟨K', hT, hE', hN', _⟩ := easy_tick hE (by omega) (by omega) (by omega)
    have hkt := known_tick ⟨k, hk4⟩
    have hT := hT bk bj bd
    rw [hN] at hT hN'
    rw [hkt] at hT hN'
    (repeat (first | apply cn | apply cq | apply cb | apply ck | apply cl | apply cx))
    apply cr
    refine s_ p_mv ?_
    refine e_cHA hT (fun r H' ⟨hr1, hr2⟩ => ?_)
    subst hr1 hr2
    refine s_ p_mv ?_
    refine s_ p_ex ?_
    refine s_ p_ex ?_
    refine s_ p_as ?_
    refine s_ p_as ?_
    (repeat (first | apply cn | apply cq | apply cb | apply ck | apply cl | apply cx))
    apply cr
    refine s_ p_mv ?_
    (first | refine s_ p_ln ?_ | refine s_ p_lr ?_)
    refine s_ p_ne ?_
    refine s_ p_mv ?_
    refine gF (fun hg => p_mv) ?_
    refine gF (fun hg => p_ne (hx := u_ hg)) ?_
    refine s_ p_or ?_
    (repeat (first | apply cn | apply cq | apply cb | apply ck | apply cl | apply cx))
    refine ci ?_ ?_
    · rintro (h | h)
      · exact absurd rfl h
      · exact absurd rfl h
    intro _
    (repeat (first | apply cn | apply cq | apply cb | apply ck | apply cl | apply cx))
    apply cr
    refine s_ p_mv ?_
    refine s_ p_ad ?_
    refine s_ p_as ?_
    (repeat (first | apply cn | apply cq | apply cb | apply ck | apply cl | apply cx))
    refine ⟨(k + 1, K'), ⟨by simp only; omega, ?_, hN'⟩, (by simp only []; omega), ⟨?_, eL⟩, kR⟩
    · have e : 3 * k + 3 = 3 * (k + 1) := by omega
      rw [e] at hE'
      exact hE'
    · apply le_get; ((repeat (apply gS; rfl)); exact gZ)
      exact Le.refl _
  · intro hlt
    have : k = 4 := by omega
    subst this
    obtain ⟨K', hT, hE', hN', _⟩ := easy_tick hE (by omega) (by omega) (by omega)
    have hT := hT bk bj bd
    have hNo := kNode_fn bk bj bd K' (by have := hE'.nk.len; omega)
    rw [hN'] at hNo
    rw [hN] at hT hNo
    have h51 : (tickF (waitN (newF 0 7) ((4 : Nat) : Int))).1.term = 1 := known_five.1
    have h52 : (tickF (waitN (newF 0 7) ((4 : Nat) : Int))).2.length = 2 := known_five.2
    generalize tickF (waitN (newF 0 7) ((4 : Nat) : Int)) = w at hT hNo h51 h52
    obtain ⟨wn, wl⟩ := w
    simp only at hT hNo h51 h52
    (repeat (first | apply cn | apply cq | apply cb | apply ck | apply cl | apply cx))
    apply cr
    refine s_ p_mv ?_
    refine e_cHA hT (fun r H' ⟨hr1, hr2⟩ => ?_)
    subst hr1 hr2
    refine s_ p_mv ?_
    refine s_ p_ex ?_
    refine s_ p_ex ?_
    refine s_ p_as ?_
    refine s_ p_as ?_
    (repeat (first | apply cn | apply cq | apply cb | apply ck | apply cl | apply cx))
    apply cr
    refine s_ p_mv ?_
    (first | refine s_ p_ln ?_ | refine s_ p_lr ?_)
    refine s_ p_eq ?_
    refine s_ p_mv ?_
    refine gT (fun hg => p_mv) ?_
    refine gT (fun hg => p_eq (hx := u_ hg)) ?_
    refine s_ p_an ?_
    refine s_ p_mv ?_
    refine gT (fun hg => p_mv) ?_
    have hc : (((wl.map ms).length : Nat) : Int) = 2 ∧ (0 : Int) = 0 := ⟨by rw [List.length_map]; omega, rfl⟩
    refine gT_cH (Hr := []) hc hNo perm0 (fun r H'' ⟨hr1, hr2⟩ => ?_) (ha' := evl_cons (u_ hc) evl_nil)
    subst hr1 hr2
    refine gT (p := (((wl.map ms).length : Nat) : Int) = 2 ∧ (0 : Int) = 0) (d := ei wn.term) (fun hg => p_fd) ?_
    refine gT (p := (((wl.map ms).length : Nat) : Int) = 2 ∧ (0 : Int) = 0) (fun hg => p_eq (hx := u_ hg)) ?_
    refine s_ p_an ?_
    refine s_ p_as ?_
    (repeat (first | apply cn | apply cq | apply cb | apply ck | apply cl | apply cx))
    (apply sim_ret; (try simp only [blockΨ_ret, thenΨ_ret, loopL_ret, cutΨ_ret, cutE_ret]))
    refine rh (.skip _ _ _ (.skip _ _ _ (.skip _ _ _ kR))) ⟨rfl, rfl⟩ ?_
    exact b_true ⟨⟨hc.1, by trivial⟩, h51⟩
end Go.Proofs.YtbdpfclnomiicaaGreat
end
section
set_option maxRecDepth 16000
namespace Go.Proofs.YtbdpfclnomiicaaGreat
open Go.Cap
set_option linter.unusedSimpArgs false
set_option linter.unusedVariables false
attribute [local irreducible] POp SimFrom DrawFrom EOp Sim FnH T.gp
theorem tmod_bd (a : Int) {k : Int} (hk : 0 < k) : -k < a.tmod k ∧ a.tmod k < k := by
  have h1 := Int.tmod_lt_of_pos a hk
  have h2 := Int.lt_tmod_of_pos a hk
  exact ⟨h2, h1⟩
theorem tmod_up (a : Int) {k : Int} (hk : 0 < k) : (if a.tmod k < 0 then a.tmod k + k else a.tmod k) = a % k := by
  have h := tmod_fix a k hk
  split
  · rename_i h1; exact h.1 h1
  · rename_i h1; exact h.2 h1
theorem within_fn (a k : Int) (hk : 0 < k) (hk1 : k ≤ 4611686018427387904) : FnP Tryz.prog 9 [ei a, ei k] (fun r => r = ei (a % k)) := by
  have hb := tmod_bd a hk
  have hf := tmod_up a hk
  refine fn_enter Tryz.func9 (by rfl) (by rfl) ?_
  intro S0 w0
  show Sim _ _ [(0, ei a), (1, ei k)] _ _
  (repeat (first | apply cn | apply cq | apply cb | apply ck | apply cl | apply cx))
  apply cr
  refine s_ p_as ?_
  (repeat (first | apply cn | apply cq | apply cb | apply ck | apply cl | apply cx))
  apply cr
  refine s_ p_mv ?_
  refine s_ p_mv ?_
  refine s_ p_re ?_
  refine s_ p_as ?_
  (repeat (first | apply cn | apply cq | apply cb | apply ck | apply cl | apply cx))
  apply cr
  refine s_ p_mv ?_
  refine s_ p_lt ?_
  (repeat (first | apply cn | apply cq | apply cb | apply ck | apply cl | apply cx))
  refine ci ?_ ?_
  · intro hn
    rw [if_pos hn] at hf
    (repeat (first | apply cn | apply cq | apply cb | apply ck | apply cl | apply cx))
    apply cr
    refine s_ p_mv ?_
    refine s_ p_mv ?_
    refine s_ p_ad ?_
    refine s_ p_as ?_
    (repeat (first | apply cn | apply cq | apply cb | apply ck | apply cl | apply cx))
    apply cr
    refine s_ p_mv ?_
    refine s_ p_as ?_
    (repeat (first | apply cn | apply cq | apply cb | apply ck | apply cl | apply cx))
    (apply sim_ret; (try simp only [blockΨ_ret, thenΨ_ret, loopL_ret, cutΨ_ret, cutE_ret]); first | refine rt ?_ | refine rn ?_)
    rw [hf]
    exact Le.refl _
  · intro hn
    rw [if_neg hn] at hf
    (repeat (first | apply cn | apply cq | apply cb | apply ck | apply cl | apply cx))
    apply cr
    refine s_ p_mv ?_
    refine s_ p_as ?_
    (repeat (first | apply cn | apply cq | apply cb | apply ck | apply cl | apply cx))
    (apply sim_ret; (try simp only [blockΨ_ret, thenΨ_ret, loopL_ret, cutΨ_ret, cutE_ret]); first | refine rt ?_ | refine rn ?_)
    rw [hf]
    exact Le.refl _
end Go.Proofs.YtbdpfclnomiicaaGreat
end
