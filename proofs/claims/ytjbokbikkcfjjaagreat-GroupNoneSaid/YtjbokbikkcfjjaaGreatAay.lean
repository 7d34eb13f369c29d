/-
  Chapter 19 in plain words: what a call keeps.
  Chapter 19 in plain words: what a node cannot outgrow.
  Chapter 20 in plain words: what nodes of a committee, and their messages, cannot outgrow.
  Chapter 19: a kept replica whose power stays: calls, opening.
-/
import Derived.Test.YtjbokbikkcfjjaaGreatAax
import Derived.Test.YtjbokbikkcfjjaaGreatAau
section
set_option maxRecDepth 16000
namespace Go.Proofs.YtjbokbikkcfjjaaGreat
open Go.Cap
inductive Wrote (n0 : Nd) (R : Nat) (K : Kp) (t : Nd) : Kp × Int → Prop
  | ok (n' : Int) (d' : Dk) (hc : ∃ so rs, Cont n0 R d' so rs [] t ∧ n' = rs.length) (hs : d'.synced = d'.log.length) (hd : d'.dead = false) (hk : DkR d') (hl : d'.left ≤ K.d.left) (hr : d'.room = K.d.room) : Wrote n0 R K t (⟨n', K.N, d'⟩, 0)
  | full (n' : Int) (d' : Dk) (h : Live n0 R ⟨n', K.N, d'⟩) (hl : d'.left ≤ K.d.left) (hr : d'.room = K.d.room) (hf : K.d.room < 2 * R + 200) : Wrote n0 R K t (⟨n', K.N, d'⟩, 19)
  | dead (n' : Int) (d' : Dk) (hl : 0 < K.d.left) (h : Gone n0 R d' K.N t) (hr : d'.room = K.d.room) : Wrote n0 R K t (⟨n', K.N, d'⟩, 20)
def wr2F (n : Int) (N : Nd) (d : Dk) (x : List UInt8) : Kp × Int :=
  let s := jsnapF n d (recB N 0)
  if ¬ s.2.2 = 0 then (⟨s.1, N, s.2.1⟩, s.2.2) else
  let b := jaddF s.1 s.2.1 x
  (⟨b.1, N, b.2.1⟩, b.2.2)
theorem wr2_cases {n0 : Nd} {R : Nat} {n : Int} {N t : Nd} {d : Dk} (h : Live n0 R ⟨n, N, d⟩) (hid : t.id = n0.id) (hsz : Sz t) (hr : (recB t 0).length ≤ R) (hR : R ≤ 4000000) : Wrote n0 R ⟨n, N, d⟩ t (wr2F n N d (recB t (alikeF N t))) := by
  have h0 := h
  obtain ⟨⟨so, rs, hc, hn⟩, hsy, hdead, hdk, hNid, hNsz, hNr⟩ := h
  simp only at hc hn hsy hdead hdk hNid hNsz hNr
  have hx : (recB t (alikeF N t)).length ≤ R + 80 := by have := recB_le t (alikeF N t); omega
  have hfl := frmB_len (recB t (alikeF N t))
  have hfs := frmB_len (recB N 0)
  have hjs := hdk.jsnap (n := n) (recB N 0)
  rcases jsnap_cases n (recB N 0) hdead hdk.l0 with ⟨hj, hf⟩ | ⟨l, hj, h1, h2, h3⟩ | ⟨hj, h1, h3⟩ | ⟨hj, h1⟩
  · have hw : wr2F n N d (recB t (alikeF N t)) = (⟨n, N, d⟩, 19) := by unfold wr2F; rw [hj]; rfl
    rw [hw]
    exact .full _ _ h0 (Int.le_refl _) rfl (by simp only; omega)
  · rw [hj] at hjs
    simp only at hjs
    have hc2 : Cont n0 R { d with left := l, snap := frmB (recB N 0), log := [], synced := 0 } (some N) [] [] N := Cont.snapped hNid hNsz hNr rfl rfl
    have hja := hjs.jadd (n := 0) (recB t (alikeF N t))
    rcases jadd_cases (d := { d with left := l, snap := frmB (recB N 0), log := [], synced := 0 }) 0 (recB t (alikeF N t)) hdead h1 with ⟨hj2, hf2⟩ | ⟨l2, hj2, h4, h5⟩ | ⟨hj2, h4⟩
    · have hw : wr2F n N d (recB t (alikeF N t)) = (⟨0, N, { d with left := l, snap := frmB (recB N 0), log := [], synced := 0 }⟩, 19) := by
        unfold wr2F; rw [hj]; simp only; rw [hj2]; rfl
      rw [hw]
      exact .full _ _ ⟨⟨some N, [], hc2, rfl⟩, rfl, hdead, hjs, hNid, hNsz, hNr⟩ h2 rfl (by simp only [List.length_nil] at hf2 ⊢; omega)
    · have hw : wr2F n N d (recB t (alikeF N t)) = (⟨1, N, { d with left := l2, snap := frmB (recB N 0), log := [] ++ frmB (recB t (alikeF N t)), synced := ([] ++ frmB (recB t (alikeF N t)) : List UInt8).length }⟩, 0) := by
        unfold wr2F; rw [hj]; simp only; rw [hj2]; rfl
      rw [hw]
      rw [hj2] at hja
      exact .ok _ _ ⟨some N, _, hc2.next (by simp) hid hsz hr rfl rfl, rfl⟩ rfl hdead hja (by simp only at h5 ⊢; omega) rfl
    · have hw : wr2F n N d (recB t (alikeF N t)) = (⟨0, N, { d with left := 0, dead := true, snap := frmB (recB N 0), log := [] ++ frmB (recB t (alikeF N t)), synced := 0 }⟩, 20) := by
        unfold wr2F; rw [hj]; simp only; rw [hj2]; rfl
      rw [hw]
      rw [hj2] at hja
      exact .dead _ _ (by simp only at h4 ⊢; omega) (gone_add hc2 (by simp) hid hsz hr hR hja rfl rfl rfl rfl) rfl
  · rw [hj] at hjs
    have hw : wr2F n N d (recB t (alikeF N t)) = (⟨n, N, { d with left := 0, dead := true, snap := frmB (recB N 0), log := [], synced := 0 }⟩, 20) := by unfold wr2F; rw [hj]; rfl
    rw [hw]
    have hc2 : Cont n0 R { d with left := 0, dead := true, snap := frmB (recB N 0), log := [], synced := 0 } (some N) [] [] N := Cont.snapped hNid hNsz hNr rfl rfl
    exact .dead _ _ h1 (gone_whole hc2 hjs rfl rfl rfl rfl) rfl
  · rw [hj] at hjs
    have hw : wr2F n N d (recB t (alikeF N t)) = (⟨n, N, { d with left := 0, dead := true }⟩, 20) := by unfold wr2F; rw [hj]; rfl
    rw [hw]
    exact .dead _ _ h1 (gone_whole hc hjs rfl rfl rfl hsy) rfl
theorem write_cases {n0 : Nd} {R : Nat} {n : Int} {N t : Nd} {d : Dk} (h : Live n0 R ⟨n, N, d⟩) (hid : t.id = n0.id) (hsz : Sz t) (hr : (recB t 0).length ≤ R) (hR : R ≤ 4000000) : Wrote n0 R ⟨n, N, d⟩ t (writeF ⟨n, N, d⟩ (recB t (alikeF N t))) := by
  have h0 := h
  have h2 := wr2_cases h hid hsz hr hR
  obtain ⟨⟨so, rs, hc, hn⟩, hsy, hdead, hdk, hNid, hNsz, hNr⟩ := h
  simp only at hc hn hsy hdead hdk hNid hNsz hNr
  have hx : (recB t (alikeF N t)).length ≤ R + 80 := by have := recB_le t (alikeF N t); omega
  have hfl := frmB_len (recB t (alikeF N t))
  have hja := hdk.jadd (n := n) (recB t (alikeF N t))
  have hrs := hc.len
  by_cases hlt : n < 16
  · rcases jadd_cases n (recB t (alikeF N t)) hdead hdk.l0 with ⟨hj, hf⟩ | ⟨l, hj, h4, h5⟩ | ⟨hj, h4⟩
    · by_cases hn0 : n = 0
      · have hw : writeF ⟨n, N, d⟩ (recB t (alikeF N t)) = (⟨n, N, d⟩, 19) := by
          unfold writeF wr1F
          simp only
          rw [if_pos hlt, hj]
          simp only
          rw [if_pos (.inr hn0)]
        rw [hw]
        refine .full _ _ h0 (Int.le_refl _) rfl ?_
        have hrs0 : rs = [] := List.length_eq_zero_iff.1 (by omega)
        have hlog : d.log = [] := by rw [hc.log, hrs0]; rfl
        have hsnl : d.snap.length ≤ R + 8 := by
          rw [hc.snap]
          cases so with
          | none => simp [snapB]
          | some m => have := (hc.szs m rfl).2; have h2 := frmB_len (recB m 0); show (frmB (recB m 0)).length ≤ _; omega
        simp only
        rw [hlog, List.length_nil] at hf
        omega
      · have hw : writeF ⟨n, N, d⟩ (recB t (alikeF N t)) = wr2F n N d (recB t (alikeF N t)) := by
          unfold writeF wr1F wr2F
          simp only
          rw [if_pos hlt, hj]
          simp only
          rw [if_neg (by simp [hn0])]
        rw [hw]
        exact h2
    · have hw : writeF ⟨n, N, d⟩ (recB t (alikeF N t)) = (⟨n + 1, N, { d with left := l, log := d.log ++ frmB (recB t (alikeF N t)), synced := (d.log ++ frmB (recB t (alikeF N t))).length }⟩, 0) := by
        unfold writeF wr1F
        simp only
        rw [if_pos hlt, hj]
        simp only
        rw [if_pos (.inl (by omega))]
      rw [hw]
      rw [hj] at hja
      exact .ok _ _ ⟨so, _, hc.next (by omega) hid hsz hr rfl rfl, by rw [hn, List.length_append]; rfl⟩ rfl hdead hja h5 rfl
    · have hw : writeF ⟨n, N, d⟩ (recB t (alikeF N t)) = (⟨n, N, { d with left := 0, dead := true, log := d.log ++ frmB (recB t (alikeF N t)) }⟩, 20) := by
        unfold writeF wr1F
        simp only
        rw [if_pos hlt, hj]
        simp only
        rw [if_pos (.inl (by omega))]
      rw [hw]
      rw [hj] at hja
      exact .dead _ _ h4 (gone_add hc (by omega) hid hsz hr hR hja rfl rfl rfl hsy) rfl
  · have hw : writeF ⟨n, N, d⟩ (recB t (alikeF N t)) = wr2F n N d (recB t (alikeF N t)) := by
      unfold writeF wr1F wr2F
      simp only
      rw [if_neg hlt]
      simp only
      have hn0 : ¬ n = 0 := by omega
      rw [if_neg (by simp [hn0])]
    rw [hw]
    exact h2
inductive Kept (n0 : Nd) (R : Nat) (K : Kp) (t : Nd) : Kp × Int → Prop
  | ok (K' : Kp) (h : Live n0 R K') (hN : K'.N = t) (hl : K'.d.left ≤ K.d.left) (hr : K'.d.room = K.d.room) : Kept n0 R K t (K', 0)
  | full (K' : Kp) (h : Live n0 R K') (hN : K'.N = K.N) (hl : K'.d.left ≤ K.d.left) (hr : K'.d.room = K.d.room) (hf : K.d.room < 2 * R + 200) : Kept n0 R K t (K', 19)
  | dead (K' : Kp) (hN : K'.N = K.N) (hl : 0 < K.d.left) (h : Gone n0 R K'.d K.N t) (hr : K'.d.room = K.d.room) : Kept n0 R K t (K', 20)
theorem keep_cases {n0 : Nd} {R : Nat} {K : Kp} {t : Nd} (h : Live n0 R K) (hid : t.id = n0.id) (hsz : Sz t) (hr : (recB t 0).length ≤ R) (hR : R ≤ 4000000) : Kept n0 R K t (keepF K t 0) := by
  obtain ⟨n, N, d⟩ := K
  have hwr := write_cases h hid hsz hr hR
  obtain ⟨⟨so, rs, hc, hn⟩, hsy, hdead, hdk, hNid, hNsz, hNr⟩ := h
  simp only at hc hn hsy hdead hdk hNid hNsz hNr
  unfold keepF
  rw [if_neg (by simp)]
  by_cases hsame : wakeF N = wakeF t
  · rw [if_pos hsame]
    refine .ok _ ⟨⟨so, rs, ?_, hn⟩, hsy, hdead, hdk, hid, hsz, hr⟩ rfl (Int.le_refl _) rfl
    exact ⟨hc.snap, hc.log, hc.stop, hc.len, hc.szs, hc.szr, hc.lay, hsame.symm.trans hc.same⟩
  rw [if_neg hsame]
  simp only
  generalize writeF ⟨n, N, d⟩ (recB t (alikeF N t)) = w at hwr ⊢
  cases hwr with
  | ok n' d' hc hs hd hk hl hr' =>
    rw [if_pos rfl]
    exact .ok _ ⟨hc, hs, hd, hk, hid, hsz, hr⟩ rfl hl hr'
  | full n' d' h hl hr' hf =>
    rw [if_neg (by simp)]
    exact .full _ h rfl hl hr' hf
  | dead n' d' hl h hr' =>
    rw [if_neg (by simp)]
    exact .dead _ rfl hl h hr'
end Go.Proofs.YtjbokbikkcfjjaaGreat
end
section
set_option maxRecDepth 16000
namespace Go.Proofs.YtjbokbikkcfjjaaGreat
open Go.Cap
theorem F5.gs (f : F5) (i j : Nat) (v : Int) : (f.set i v).get j = v ∨ (f.set i v).get j = f.get j := by
  match i with
  | 0 => match j with
    | 0 => exact .inl rfl
    | 1 | 2 | 3 | _ + 4 => exact .inr rfl
  | 1 => match j with
    | 1 => exact .inl rfl
    | 0 | 2 | 3 | _ + 4 => exact .inr rfl
  | 2 => match j with
    | 2 => exact .inl rfl
    | 0 | 1 | 3 | _ + 4 => exact .inr rfl
  | 3 => match j with
    | 3 => exact .inl rfl
    | 0 | 1 | 2 | _ + 4 => exact .inr rfl
  | _ + 4 => match j with
    | _ + 4 => exact .inl rfl
    | 0 | 1 | 2 | 3 => exact .inr rfl
theorem F5.ga (v : Int) (j : Nat) : (F5.all v).get j = v := by
  match j with
  | 0 | 1 | 2 | 3 | _ + 4 => rfl
structure Ek (e : En) (s : Nat) : Prop where
  t0 : 0 ≤ e.term
  t1 : e.term ≤ s
  c0 : 0 ≤ e.conf
  c1 : e.conf ≤ 31
  cmd : e.cmd.length ≤ 61
theorem Ek.le {e : En} {s r : Nat} (h : Ek e s) (hr : s ≤ r) : Ek e r := ⟨h.t0, by have := h.t1; omega, h.c0, h.c1, h.cmd⟩
structure Nk (n : Nd) (s : Nat) : Prop where
  id0 : 0 ≤ n.id
  id5 : n.id < 5
  base : n.base = 0
  baseTerm : n.baseTerm = 0
  conf0 : 0 ≤ n.baseConf
  conf1 : n.baseConf ≤ 31
  snap : n.snap = []
  term0 : 0 ≤ n.term
  term1 : n.term ≤ s
  vote0 : -1 ≤ n.vote
  vote1 : n.vote ≤ 5
  len : n.log.length ≤ s
  ents : ∀ e ∈ n.log, Ek e s
  com0 : 0 ≤ n.commit
  com1 : n.commit ≤ s
  wait0 : 0 ≤ n.wait
  wait1 : n.wait ≤ s
  votes0 : 0 ≤ n.votes
  votes1 : n.votes ≤ 31
  next0 : ∀ i, 0 ≤ n.next.get i
  next1 : ∀ i, n.next.get i ≤ s + 1
  mtch0 : ∀ i, 0 ≤ n.mtch.get i
  mtch1 : ∀ i, n.mtch.get i ≤ s
theorem Nk.sz {n : Nd} {s : Nat} (h : Nk n s) (hs : s ≤ 1000) : Sz n := by
  have hb := h.base
  have hbt := h.baseTerm
  have h1 := h.term0
  have h2 := h.term1
  have h3 := h.vote0
  have h4 := h.vote1
  have h5 := h.conf0
  have h6 := h.conf1
  have h7 := h.com0
  have h8 := h.com1
  have h9 := h.len
  refine ⟨⟨by omega, by omega⟩, ⟨by omega, by omega⟩, ⟨by omega, by omega⟩, ⟨by omega, by omega⟩, ⟨by omega, by omega⟩, ⟨by omega, by omega⟩, by rw [h.snap]; simp, by omega, fun e he => ?_⟩
  have hk := h.ents e he
  have e1 := hk.t0
  have e2 := hk.t1
  have e3 := hk.c0
  have e4 := hk.c1
  have e5 := hk.cmd
  exact ⟨⟨by omega, by omega⟩, ⟨by omega, by omega⟩, by omega⟩
theorem entB_small {e : En} {s : Nat} (h : Ek e s) : (entB e).length ≤ 101 := by
  have h1 := intB_len e.term
  have h2 := intB_len e.conf
  have h3 := txtB_len e.cmd
  have := h.cmd
  unfold entB
  simp only [List.length_append]; omega
theorem ents_small {s : Nat} : ∀ (l : List En), (∀ e ∈ l, Ek e s) → (l.flatMap entB).length ≤ 101 * l.length
  | [], _ => by simp
  | e :: l, h => by
    have h1 := entB_small (h e List.mem_cons_self)
    have h2 := ents_small l fun x hx => h x (List.mem_cons_of_mem _ hx)
    simp only [List.flatMap_cons, List.length_append, List.length_cons]; omega
theorem Nk.rec_ {n : Nd} {s : Nat} (h : Nk n s) : (recB n 0).length ≤ 90 + 101 * s := by
  have h1 := intsB_len (headB n 0)
  have h2 : (headB n 0).length = 8 := rfl
  have h3 := ents_small n.log h.ents
  have h4 := h.len
  have h5 : (txtB n.snap).length ≤ 10 := by rw [h.snap, txtB, if_pos rfl]; exact (intB_len 0).2
  unfold recB
  simp only [List.length_append, List.drop_zero]
  omega
theorem Nk.le {n : Nd} {s r : Nat} (h : Nk n s) (hr : s ≤ r) : Nk n r :=
  ⟨h.id0, h.id5, h.base, h.baseTerm, h.conf0, h.conf1, h.snap, h.term0, by have := h.term1; omega, h.vote0, h.vote1, by have := h.len; omega, fun e he => (h.ents e he).le hr, h.com0, by have := h.com1; omega, h.wait0, by have := h.wait1; omega, h.votes0, h.votes1,
    h.next0, fun i => by have := h.next1 i; omega, h.mtch0, fun i => by have := h.mtch1 i; omega⟩
theorem new_nk {id conf : Int} (h0 : 0 ≤ id) (h1 : id < 5) (h2 : 0 ≤ conf) (h3 : conf ≤ 31) : Nk (newF id conf) 0 :=
  ⟨h0, h1, rfl, rfl, h2, h3, rfl, by simp [newF], by simp [newF], by simp [newF], by simp [newF], by simp [newF], by simp [newF], by simp [newF], by simp [newF], by simp [newF], by simp [newF], by simp [newF], by simp [newF],
    fun i => by show 0 ≤ (F5.all 0).get i; rw [F5.ga]; omega, fun i => by show (F5.all 0).get i ≤ _; rw [F5.ga]; omega, fun i => by show 0 ≤ (F5.all 0).get i; rw [F5.ga]; omega, fun i => by show (F5.all 0).get i ≤ _; rw [F5.ga]; omega⟩
theorem cmtF_bd (n : Nd) (conf : Int) (hb : n.base = 0) : ∀ k, n.commit ≤ cmtF n conf k ∧ cmtF n conf k ≤ max n.commit k
  | 0 => by unfold cmtF; omega
  | k + 1 => by
    have := cmtF_bd n conf hb k
    unfold cmtF
    split <;> omega
theorem Nk.commit {n : Nd} {s : Nat} (h : Nk n s) : Nk (commitF n) s := by
  have hc := cmtF_bd n (confF n).2 h.base n.log.length
  have h0 := h.com0
  have h1 := h.com1
  have hl := h.len
  unfold commitF
  split
  · exact ⟨h.id0, h.id5, h.base, h.baseTerm, h.conf0, h.conf1, h.snap, h.term0, h.term1, h.vote0, h.vote1, h.len, h.ents, by show 0 ≤ cmtF n _ _; omega, by show cmtF n _ _ ≤ _; omega, Int.le_refl _, by show (0 : Int) ≤ _; omega, h.votes0, h.votes1, h.next0, h.next1, h.mtch0, h.mtch1⟩
  · exact ⟨h.id0, h.id5, h.base, h.baseTerm, h.conf0, h.conf1, h.snap, h.term0, h.term1, h.vote0, h.vote1, h.len, h.ents, by show 0 ≤ cmtF n _ _; omega, by show cmtF n _ _ ≤ _; omega, h.wait0, h.wait1, h.votes0, h.votes1, h.next0, h.next1, h.mtch0, h.mtch1⟩
theorem Nk.push {n : Nd} {s : Nat} (h : Nk n s) (e : En) (he : Ek e (s + 1)) : ∀ x ∈ n.log ++ [e], Ek x (s + 1) := by
  intro x hx
  rcases List.mem_append.1 hx with hx | hx
  · exact (h.ents x hx).le (by omega)
  · rw [List.mem_singleton.1 hx]; exact he
theorem pow_id {i : Int} (h0 : 0 ≤ i) (h5 : i < 5) : 0 ≤ (2 : Int) ^ i.toNat ∧ (2 : Int) ^ i.toNat ≤ 31 := by
  rcases five h0 h5 with rfl | rfl | rfl | rfl | rfl <;> decide
theorem Nk.put {n : Nd} {s : Nat} (h : Nk n s) (e : En) (hc0 : 0 ≤ e.conf) (hc1 : e.conf ≤ 31) (hcm : e.cmd.length ≤ 61) : Nk (putF n e) (s + 1) := by
  have hb := h.base
  have hl := h.len
  have ht0 := h.term0
  have ht1 := h.term1
  have g := h.le (r := s + 1) (by omega)
  refine Nk.commit ⟨g.id0, g.id5, g.base, g.baseTerm, g.conf0, g.conf1, g.snap, g.term0, g.term1, g.vote0, g.vote1, ?_, ?_, g.com0, g.com1, g.wait0, g.wait1, g.votes0, g.votes1, g.next0, g.next1, ?_, ?_⟩
  · show (n.log ++ [_]).length ≤ _; simp; omega
  · exact h.push _ ⟨ht0, by simp only; omega, hc0, hc1, hcm⟩
  · intro i; show 0 ≤ (n.mtch.set n.id.toNat (n.base + (n.log.length + 1))).get i
    rcases F5.gs n.mtch n.id.toNat i (n.base + (n.log.length + 1)) with e | e <;> rw [e]
    · omega
    · exact h.mtch0 i
  · intro i; show (n.mtch.set n.id.toNat (n.base + (n.log.length + 1))).get i ≤ _
    rcases F5.gs n.mtch n.id.toNat i (n.base + (n.log.length + 1)) with e | e <;> rw [e]
    · omega
    · exact g.mtch1 i
end Go.Proofs.YtjbokbikkcfjjaaGreat
end
section
set_option maxRecDepth 16000
namespace Go.Proofs.YtjbokbikkcfjjaaGreat
open Go.Cap
structure PO (P : Nat → En → Prop) : Prop where
  conf : ∀ i e, P i e → 0 ≤ e.conf ∧ e.conf ≤ 31
  own : ∀ i (t : Int), 0 ≤ t → t ≤ 100000 → P i ⟨t, 0, []⟩
structure NB (P : Nat → En → Prop) (n : Nd) (τ l : Nat) : Prop where
  id0 : 0 ≤ n.id
  id5 : n.id < 5
  base : n.base = 0
  baseTerm : n.baseTerm = 0
  conf0 : 0 ≤ n.baseConf
  conf1 : n.baseConf ≤ 31
  snap : n.snap = []
  term0 : 0 ≤ n.term
  term1 : n.term ≤ τ
  vote0 : -1 ≤ n.vote
  vote1 : n.vote ≤ 5
  len : n.log.length ≤ l
  ents : ∀ i e, n.log[i]? = some e → P i e
  com0 : 0 ≤ n.commit
  com1 : n.commit ≤ l
  wait0 : 0 ≤ n.wait
  votes0 : 0 ≤ n.votes
  votes1 : n.votes ≤ 31
  next0 : ∀ i, 0 ≤ n.next.get i
  next1 : ∀ i, n.next.get i ≤ l + 1
  mtch0 : ∀ i, 0 ≤ n.mtch.get i
  mtch1 : ∀ i, n.mtch.get i ≤ l
  led : n.role = 2 → ∀ i, 1 ≤ n.next.get i
structure MB (P : Nat → En → Prop) (m : Ms) (τ l : Nat) : Prop where
  kind0 : 1 ≤ m.kind
  kind1 : m.kind ≤ 4
  frm0 : 0 ≤ m.frm
  frm1 : m.frm < 5
  to0 : 0 ≤ m.to
  to1 : m.to < 5
  term0 : 0 ≤ m.term
  term1 : m.term ≤ τ
  idx0 : -1 ≤ m.index
  idx3 : m.kind = 3 → 0 ≤ m.index
  idx1 : m.index + m.entries.length ≤ l
  len : m.entries.length ≤ 8
  com0 : 0 ≤ m.commit
  com1 : m.commit ≤ l
  ents : ∀ j e, m.entries[j]? = some e → P (m.index.toNat + j) e
theorem commitF_id (n : Nd) : (commitF n).id = n.id := by unfold commitF; split <;> rfl
theorem leadF_id (n : Nd) : (leadF n).id = n.id := commitF_id (leadN n)
theorem standF_id (n : Nd) : (standF n).1.id = n.id := by
  unfold standF
  split
  · exact leadF_id (standN n)
  · rfl
theorem tickF_id (n : Nd) : (tickF n).1.id = n.id := by
  unfold tickF
  split
  · rfl
  · split
    · rfl
    · split
      · exact standF_id { n with wait := n.wait + 1 }
      · rfl
theorem upF_id (n : Nd) (m : Ms) : (upN n m).id = n.id := by unfold upN; split <;> rfl
theorem takeF_id (n : Nd) (m : Ms) : (takeF n m).1.id = n.id := by
  unfold takeF
  split
  · rfl
  · rw [← upF_id n m]
    unfold actF
    split
    · unfold voteF; split <;> rfl
    · split
      · unfold votedF
        split
        · rfl
        · split
          · exact leadF_id (countN (upN n m) m)
          · rfl
      · split
        · unfold addF
          split
          · rfl
          · split
            · rfl
            · split <;> rfl
        · split
          · unfold heardF
            split
            · rfl
            · split
              · exact commitF_id (agreeN (upN n m) m)
              · split <;> rfl
          · unfold snapF
            split
            · rfl
            · split <;> rfl
def pot (n : Nd) : Nat := n.wait.toNat + if n.role = 1 then 5 else 0
section
variable {P P' : Nat → En → Prop} {n : Nd} {m : Ms} {τ l τ' l' : Nat}
theorem NB.le (h : NB P n τ l) (ht : τ ≤ τ') (hl : l ≤ l') : NB P n τ' l' :=
  { h with term1 := by have := h.term1; omega, len := by have := h.len; omega, com1 := by have := h.com1; omega, next1 := fun i => by have := h.next1 i; omega, mtch1 := fun i => by have := h.mtch1 i; omega }
theorem MB.le (h : MB P m τ l) (ht : τ ≤ τ') (hl : l ≤ l') : MB P m τ' l' :=
  { h with term1 := by have := h.term1; omega, idx1 := by have := h.idx1; omega, com1 := by have := h.com1; omega }
theorem lc_at (l : List En) : ∀ k ≤ l.length, ∀ j c, lc l k = some (j, c) → j < k ∧ ∃ e, l[j]? = some e ∧ e.conf = c
  | 0, _, _, _, h => by cases h
  | k + 1, hk, j, c, h => by
    unfold lc at h
    split at h
    · cases h
      have hk' : k < l.length := by omega
      refine ⟨by omega, l[k], List.getElem?_eq_getElem hk', ?_⟩
      rw [List.getD_eq_getElem?_getD, List.getElem?_eq_getElem hk', Option.getD_some]
    · have := lc_at l k (by omega) j c h
      exact ⟨by omega, this.2⟩
theorem NB.cnf (hP : PO P) (h : NB P n τ l) : 0 ≤ (confF n).2 ∧ (confF n).2 ≤ 31 ∧ 0 ≤ (confF n).1 ∧ (confF n).1 ≤ n.log.length := by
  unfold confF
  have hb := h.base
  split
  · rename_i k c hc
    obtain ⟨h1, e, he, rfl⟩ := lc_at n.log n.log.length (Nat.le_refl _) _ _ hc
    have := hP.conf _ _ (h.ents _ _ he)
    exact ⟨this.1, this.2, by simp only; omega, by simp only; omega⟩
  · exact ⟨h.conf0, h.conf1, by simp only; omega, by simp only; omega⟩
theorem NB.bd (hP : PO P) (h : NB P n τ l) (hl : l ≤ 100000) : Bd n := by
  have hc := h.cnf hP
  have := h.len
  exact ⟨h.id0, h.id5, by omega, by have := h.base; omega, by have := h.base; omega, hc.1, hc.2.1⟩
theorem NB.nbd (h : NB P n τ l) (hl : l ≤ 100000) : NBd n := by
  have := h.len
  exact ⟨by omega, h.votes0, h.votes1, fun i => by have := h.next0 i; omega, fun i => by have := h.next1 i; omega, fun i => by have := h.mtch0 i; omega, fun i => by have := h.mtch1 i; omega⟩
theorem NB.wake (h : NB P n τ l) : NB P (wakeF n) τ l :=
  { h with
    wait0 := Int.le_refl _, votes0 := Int.le_refl _, votes1 := by show (0 : Int) ≤ _; omega
    next0 := fun i => by show 0 ≤ (F5.all 0).get i; rw [F5.ga]; omega
    next1 := fun i => by show (F5.all 0).get i ≤ _; rw [F5.ga]; omega
    mtch0 := fun i => by show 0 ≤ (F5.all 0).get i; rw [F5.ga]; omega
    mtch1 := fun i => by show (F5.all 0).get i ≤ _; rw [F5.ga]; omega
    led := fun hr => absurd (show (0 : Int) = 2 from hr) (by omega) }
theorem new_nb {id conf : Int} (h0 : 0 ≤ id) (h1 : id < 5) (h2 : 0 ≤ conf) (h3 : conf ≤ 31) : NB P (newF id conf) 0 0 :=
  ⟨h0, h1, rfl, rfl, h2, h3, rfl, by simp [newF], by simp [newF], by simp [newF], by simp [newF], by simp [newF], by simp [newF], by simp [newF], by simp [newF], by simp [newF], by simp [newF], by simp [newF],
    fun i => by show 0 ≤ (F5.all 0).get i; rw [F5.ga]; omega, fun i => by show (F5.all 0).get i ≤ _; rw [F5.ga]; omega, fun i => by show 0 ≤ (F5.all 0).get i; rw [F5.ga]; omega, fun i => by show (F5.all 0).get i ≤ _; rw [F5.ga]; omega,
    fun hr => absurd (show (0 : Int) = 2 from hr) (by omega)⟩
theorem NB.commit (h : NB P n τ l) : NB P (commitF n) τ l := by
  have hc := cmtF_bd n (confF n).2 h.base n.log.length
  have h0 := h.com0
  have h1 := h.com1
  have hl := h.len
  unfold commitF
  split
  · exact { h with com0 := by show 0 ≤ cmtF n _ _; omega, com1 := by show cmtF n _ _ ≤ _; omega, wait0 := Int.le_refl _, led := fun hr => absurd (show (0 : Int) = 2 from hr) (by omega) }
  · exact { h with com0 := by show 0 ≤ cmtF n _ _; omega, com1 := by show cmtF n _ _ ≤ _; omega }
theorem pot_commit (n : Nd) : pot (commitF n) ≤ pot n := by
  unfold commitF
  split
  · show 0 + 0 ≤ _; omega
  · exact Nat.le_refl _
theorem pot_commit2 {n : Nd} (hr : n.role = 2) : pot (commitF n) ≤ n.wait.toNat := by
  have := pot_commit n
  unfold pot at this ⊢
  rw [hr] at this
  simpa using this
theorem ents_push (h : ∀ i e, n.log[i]? = some e → P i e) {e : En} (he : P n.log.length e) : ∀ i x, (n.log ++ [e])[i]? = some x → P i x := by
  intro i x hx
  rcases Nat.lt_trichotomy i n.log.length with hi | hi | hi
  · rw [List.getElem?_append_left hi] at hx; exact h i x hx
  · subst hi
    simp at hx; subst hx; exact he
  · rw [List.getElem?_eq_none (by simp; omega)] at hx; cases hx
theorem NB.lead (hP : PO P) (h : NB P n τ l) (ht : τ ≤ 100000) : NB P (leadF n) τ (l + 1) := by
  have hb := h.base
  have hl := h.len
  have ht0 := h.term0
  have ht1 := h.term1
  have g := h.le (τ' := τ) (l' := l + 1) (Nat.le_refl _) (by omega)
  refine NB.commit { g with len := ?_, ents := ?_, next0 := ?_, next1 := ?_, mtch0 := ?_, mtch1 := ?_, led := ?_ }
  · show (n.log ++ [_]).length ≤ _; simp; omega
  · exact ents_push h.ents (hP.own _ _ ht0 (by omega))
  · intro i; show 0 ≤ (F5.all (n.base + (n.log.length + 1))).get i; rw [F5.ga]; omega
  · intro i; show (F5.all (n.base + (n.log.length + 1))).get i ≤ _; rw [F5.ga]; omega
  · intro i; show 0 ≤ ((F5.all 0).set n.id.toNat (n.base + (n.log.length + 1))).get i
    rcases F5.gs (F5.all 0) n.id.toNat i (n.base + (n.log.length + 1)) with e | e <;> rw [e]
    · omega
    · rw [F5.ga]; omega
  · intro i; show ((F5.all 0).set n.id.toNat (n.base + (n.log.length + 1))).get i ≤ _
    rcases F5.gs (F5.all 0) n.id.toNat i (n.base + (n.log.length + 1)) with e | e <;> rw [e]
    · omega
    · rw [F5.ga]; omega
  · intro _ i; show 1 ≤ (F5.all (n.base + (n.log.length + 1))).get i; rw [F5.ga]; omega
theorem pot_lead (n : Nd) : pot (leadF n) ≤ n.wait.toNat := pot_commit2 (n := leadN n) rfl
theorem toAll_mem {F : Int → Ms} {k : Nat} {x : Ms} (h : x ∈ toAll n F k) : ∃ i : Nat, i < k ∧ x = F i := by
  unfold toAll at h
  obtain ⟨i, h1, rfl⟩ := List.mem_map.1 h
  exact ⟨i, List.mem_range.1 (List.mem_filter.1 h1).1, rfl⟩
theorem owe_mb (h : NB P n τ l) (hr : n.role = 2) {to : Int} (h0 : 0 ≤ to) (h5 : to < 5) : MB P (oweF n to) τ l := by
  have h1 := h.led hr to.toNat
  have h2 := h.next1 to.toNat
  have hb := h.base
  have hl := h.len
  unfold oweF
  rw [if_neg (by omega)]
  have hd : (n.log.drop (min (n.next.get to.toNat - 1 - n.base) n.log.length).toNat).length = n.log.length - (min (n.next.get to.toNat - 1 - n.base) n.log.length).toNat := List.length_drop
  refine ⟨by show (1 : Int) ≤ 3; omega, by show (3 : Int) ≤ 4; omega, h.id0, h.id5, h0, h5, h.term0, h.term1, by show -1 ≤ n.next.get to.toNat - 1; omega, fun _ => by show 0 ≤ n.next.get to.toNat - 1; omega, ?_, ?_, h.com0, h.com1, ?_⟩
  · show n.next.get to.toNat - 1 + (((n.log.drop (min (n.next.get to.toNat - 1 - n.base) n.log.length).toNat).take 8).length : Nat) ≤ _
    rw [List.length_take, hd]; omega
  · show ((n.log.drop (min (n.next.get to.toNat - 1 - n.base) n.log.length).toNat).take 8).length ≤ 8
    rw [List.length_take]; omega
  · intro j e he
    replace he : ((n.log.drop (min (n.next.get to.toNat - 1 - n.base) n.log.length).toNat).take 8)[j]? = some e := he
    rw [List.getElem?_take] at he
    split at he
    · rw [List.getElem?_drop] at he
      have hlt := (List.getElem?_eq_some_iff.1 he).1
      have hx := h.ents _ _ he
      have e1 : (n.next.get to.toNat - 1).toNat + j = (min (n.next.get to.toNat - 1 - n.base) n.log.length).toNat + j := by omega
      show P ((n.next.get to.toNat - 1).toNat + j) e
      rw [e1]; exact hx
    · cases he
theorem small_mb (h : NB P n τ l) {to k i lt : Int} {yes : Bool} (h0 : 0 ≤ to) (h5 : to < 5) (hk : k = 1 ∨ k = 2 ∨ k = 4) (hi0 : -1 ≤ i) (hi1 : i ≤ l) : MB P (sendF n to ⟨k, 0, 0, 0, i, lt, 0, 0, yes, [], []⟩) τ l :=
  ⟨by show 1 ≤ k; omega, by show k ≤ 4; omega, h.id0, h.id5, h0, h5, h.term0, h.term1, hi0, fun h3 => absurd (show k = 3 from h3) (by omega), by show i + ((0 : Nat) : Int) ≤ _; omega, by show 0 ≤ 8; omega, Int.le_refl _, by show (0 : Int) ≤ _; omega, fun j e he => by cases (show ([] : List En)[j]? = some e from he)⟩
theorem last_nb (h : NB P n τ l) : 0 ≤ lastF n ∧ lastF n ≤ l := by
  have hb := h.base
  have hl := h.len
  unfold lastF; omega
theorem lead_out (hP : PO P) (h : NB P n τ l) (ht : τ ≤ 100000) : ∀ x ∈ toAll (leadF n) (oweF (leadF n)) 5, MB P x τ (l + 1) := by
  intro x hx
  obtain ⟨i, hi, rfl⟩ := toAll_mem hx
  have hN := h.lead hP ht
  by_cases hr : (leadF n).role = 2
  · exact owe_mb hN hr (by omega) (by omega)
  · -- it leads no more: what it is owed is of its own numbers all the same
    have hnx : ∀ j, 1 ≤ (leadF n).next.get j := by
      intro j
      have e : (leadF n).next = (leadN n).next := by unfold leadF commitF; split <;> rfl
      rw [e]
      show 1 ≤ (F5.all (n.base + (n.log.length + 1))).get j
      have := h.base
      rw [F5.ga]; omega
    have hR : NB P { leadF n with role := 2 } τ (l + 1) := { hN with led := fun _ => hnx }
    exact owe_mb hR rfl (to := (i : Int)) (by omega) (by omega)
theorem toAll_length (n : Nd) (F : Int → Ms) (k : Nat) : (toAll n F k).length ≤ k := by
  unfold toAll
  rw [List.length_map]
  exact Nat.le_trans (List.length_filter_le _ _) (by simp)
structure Went (P : Nat → En → Prop) (n n' : Nd) (out : List Ms) (τ' l : Nat) (c b : Nat) : Prop where
  go : ∃ d, NB P n' τ' (l + d) ∧ 5 * d + pot n' ≤ pot n + c ∧ (∀ x ∈ out, MB P x τ' (l + d)) ∧ out.length ≤ 5 * d + b
theorem NB.stand (hP : PO P) (h : NB P n τ l) (ht : τ + 1 ≤ 100000) (hw : 5 ≤ n.wait) : Went P n (standF n).1 (standF n).2 (τ + 1) l 0 5 := by
  have hi0 := h.id0
  have hi5 := h.id5
  have hp := pow_id hi0 hi5
  have ht0 := h.term0
  have ht1 := h.term1
  have g := h.le (τ' := τ + 1) (l' := l) (by omega) (Nat.le_refl _)
  have hN : NB P (standN n) (τ + 1) l := { g with term0 := by show 0 ≤ n.term + 1; omega, term1 := by show n.term + 1 ≤ _; omega, vote0 := by show -1 ≤ n.id; omega, vote1 := by show n.id ≤ 5; omega, wait0 := Int.le_refl _, votes0 := hp.1, votes1 := hp.2, led := fun hr => absurd (show (1 : Int) = 2 from hr) (by omega) }
  have hpn : 5 ≤ pot n := by unfold pot; omega
  unfold standF
  split
  · refine ⟨1, hN.lead hP ht, ?_, lead_out hP hN ht, Nat.le_trans (toAll_length (leadF (standN n)) (oweF (leadF (standN n))) 5) (by omega)⟩
    have := pot_lead (standN n)
    have e : (standN n).wait.toNat = 0 := rfl
    show 5 * 1 + pot (leadF (standN n)) ≤ pot n + 0
    omega
  · refine ⟨0, hN, ?_, fun x hx => ?_, Nat.le_trans (toAll_length (standN n) (fun to => sendF (standN n) to (askM (lastF n) (termF n (lastF n)))) 5) (by omega)⟩
    · show 5 * 0 + (0 + 5) ≤ pot n + 0; omega
    · obtain ⟨i, hi, rfl⟩ := toAll_mem (F := fun to => sendF (standN n) to (askM (lastF n) (termF n (lastF n)))) hx
      have hlast := last_nb h
      exact small_mb hN (by omega) (by omega) (.inl rfl) (by omega) (by omega)
theorem NB.tick (hP : PO P) (h : NB P n τ l) (ht : τ + 1 ≤ 100000) : Went P n (tickF n).1 (tickF n).2 (τ + 1) l 1 5 := by
  have hi0 := h.id0
  have hw0 := h.wait0
  have hN : NB P { n with wait := n.wait + 1 } τ l := { h with wait0 := by show 0 ≤ n.wait + 1; omega }
  have hpw : pot { n with wait := n.wait + 1 } = pot n + 1 := by
    unfold pot; show (n.wait + 1).toNat + (if n.role = 1 then 5 else 0) = n.wait.toNat + (if n.role = 1 then 5 else 0) + 1; omega
  unfold tickF
  split
  · rename_i hr
    refine ⟨0, h.le (by omega) (Nat.le_refl _), by simp only; omega, fun x hx => ?_, Nat.le_trans (toAll_length n (oweF n) 5) (by omega)⟩
    obtain ⟨i, hi, rfl⟩ := toAll_mem (F := oweF n) hx
    exact (owe_mb h hr (by omega) (by omega)).le (by omega) (Nat.le_refl _)
  · split
    · exact ⟨0, h.le (by omega) (Nat.le_refl _), by simp only; omega, by simp, by simp⟩
    · split
      · rename_i hc
        obtain ⟨d, h1, h2, h3, h4⟩ := hN.stand hP ht (by show 5 ≤ n.wait + 1; omega)
        exact ⟨d, h1, by omega, h3, h4⟩
      · exact ⟨0, hN.le (by omega) (Nat.le_refl _), by simp only; omega, by simp, by simp⟩
theorem NB.up (h : NB P n τ l) (h0 : 0 ≤ m.term) (h1 : m.term ≤ τ) : NB P (upN n m) τ l := by
  unfold upN
  split
  · exact { h with term0 := h0, term1 := h1, vote0 := Int.le_refl _, vote1 := by show (-1 : Int) ≤ 5; omega, votes0 := Int.le_refl _, votes1 := by show (0 : Int) ≤ 31; omega, led := fun hr => absurd (show (0 : Int) = 2 from hr) (by omega) }
  · exact h
theorem pot_up (n : Nd) (m : Ms) : pot (upN n m) ≤ pot n := by
  unfold upN
  split
  · unfold pot; show n.wait.toNat + 0 ≤ _; omega
  · exact Nat.le_refl _
theorem NB.vote (h : NB P n τ l) (hf0 : 0 ≤ m.frm) (hf1 : m.frm < 5) : NB P (voteF n m) τ l := by
  unfold voteF
  split
  · exact { h with vote0 := by show -1 ≤ m.frm; omega, vote1 := by show m.frm ≤ 5; omega, wait0 := Int.le_refl _ }
  · exact h
theorem pot_vote (n : Nd) (m : Ms) : pot (voteF n m) ≤ pot n := by
  unfold voteF
  split
  · unfold pot; show 0 + _ ≤ _; exact Nat.add_le_add_right (Nat.zero_le _) _
  · exact Nat.le_refl _
theorem orI_votes {v f : Int} (h0 : 0 ≤ v) (h1 : v ≤ 31) (f0 : 0 ≤ f) (f1 : f < 5) : 0 ≤ orI v (2 ^ f.toNat) ∧ orI v (2 ^ f.toNat) ≤ 31 := by
  have key : ∀ i : Fin 32, ∀ j : Fin 5, 0 ≤ orI (i.val : Int) (2 ^ j.val) ∧ orI (i.val : Int) (2 ^ j.val) ≤ 31 := by decide +kernel
  obtain ⟨i, hi⟩ := Int.eq_ofNat_of_zero_le h0
  have := key ⟨i, by omega⟩ ⟨f.toNat, by omega⟩
  rw [hi]; exact this
theorem NB.voted (hP : PO P) (h : NB P n τ l) (ht : τ ≤ 100000) (hf0 : 0 ≤ m.frm) (hf1 : m.frm < 5) : Went P n (votedF n m).1 (votedF n m).2 τ l 0 1 := by
  have ho := orI_votes h.votes0 h.votes1 hf0 hf1
  unfold votedF
  split
  · exact ⟨0, h, by simp only; omega, by simp, by simp⟩
  · rename_i hc
    have hr : n.role = 1 := by
      refine Classical.byContradiction fun h1 => hc (.inl (.inr h1))
    have hN : NB P (countN n m) τ l := { h with votes0 := ho.1, votes1 := ho.2 }
    split
    · refine ⟨1, hN.lead hP ht, ?_, lead_out hP hN ht, Nat.le_trans (toAll_length (leadF (countN n m)) (oweF (leadF (countN n m))) 5) (by omega)⟩
      have := pot_lead (countN n m)
      have e : (countN n m).wait.toNat = n.wait.toNat := rfl
      unfold pot at this ⊢
      rw [hr]
      simp only [if_true]
      omega
    · exact ⟨0, hN, by show 5 * 0 + pot n ≤ _; omega, by simp, by simp⟩
theorem NB.quiet (h : NB P n τ l) : NB P (quietN n) τ l := { h with wait0 := Int.le_refl _, led := fun hr => absurd (show (0 : Int) = 2 from hr) (by omega) }
theorem pot_quiet : pot (quietN n) = 0 := rfl
theorem layK_ok (hb : n.base = 0) (hi0 : 0 ≤ m.index) (hi1 : m.index ≤ n.log.length) (h : ∀ i e, n.log[i]? = some e → P i e) (hm : ∀ j e, m.entries[j]? = some e → P (m.index.toNat + j) e) :
    ∀ i ≤ m.entries.length, (∀ j e, (layK n m i)[j]? = some e → P j e) ∧ m.index + i ≤ (layK n m i).length ∧ (((layK n m i).length : Int) ≤ max (n.log.length : Int) (m.index + i))
  | 0, _ => ⟨h, by show m.index + ((0 : Nat) : Int) ≤ (n.log.length : Int); omega, by show (n.log.length : Int) ≤ _; omega⟩
  | i + 1, hi => by
    obtain ⟨ih1, ih2, ih3⟩ := layK_ok hb hi0 hi1 h hm i (by omega)
    unfold layK
    split
    · rename_i hc
      exact ⟨ih1, by omega, by omega⟩
    · rename_i hc
      have hlen : ((layK n m i).take (min (m.index - n.base + i) (layK n m i).length).toNat).length = (m.index + i).toNat := by
        rw [List.length_take]; omega
      have hg : m.entries[i]? = some (m.entries.getD i default) := by
        rw [List.getD_eq_getElem?_getD, List.getElem?_eq_getElem (show i < m.entries.length by omega), Option.getD_some]
      refine ⟨fun j e hj => ?_, ?_, ?_⟩
      · rcases Nat.lt_trichotomy j (m.index + i).toNat with hji | hji | hji
        · rw [List.getElem?_append_left (by omega), List.getElem?_take] at hj
          split at hj
          · exact ih1 j e hj
          · cases hj
        · rw [List.getElem?_append_right (by omega)] at hj
          have : j - ((layK n m i).take (min (m.index - n.base + i) (layK n m i).length).toNat).length = 0 := by omega
          rw [this] at hj
          simp only [List.getElem?_cons_zero, Option.some.injEq] at hj
          subst hj
          have := hm i _ hg
          have e1 : j = m.index.toNat + i := by omega
          rw [e1]; exact this
        · rw [List.getElem?_eq_none (by rw [List.length_append, hlen]; simp; omega)] at hj; cases hj
      · rw [List.length_append, hlen]; simp; omega
      · rw [List.length_append, hlen]; simp; omega
theorem NB.add (h : NB P n τ l) (hm : MB P m τ l) : Went P n (addF n m).1 (addF n m).2 τ l 0 1 := by
  have hb := h.base
  have hnl := h.len
  have c0 := h.com0
  have c1 := h.com1
  have d0 := hm.com0
  have d1 := hm.com1
  have i0 := hm.idx0
  have i1 := hm.idx1
  have hlast := last_nb h
  unfold addF
  split
  · refine ⟨0, h, by simp only; omega, fun x hx => ?_, by simp⟩
    rw [List.mem_singleton.1 hx]
    exact small_mb h hm.frm0 hm.frm1 (.inr (.inr rfl)) (by omega) (by omega)
  · split
    · refine ⟨0, h.quiet, by simp only [pot_quiet]; omega, fun x hx => ?_, by simp⟩
      rw [List.mem_singleton.1 hx]
      exact small_mb h.quiet hm.frm0 hm.frm1 (.inr (.inr rfl)) (by omega) (by omega)
    · split
      · refine ⟨0, h.quiet, by simp only [pot_quiet]; omega, fun x hx => ?_, by simp⟩
        rw [List.mem_singleton.1 hx]
        exact small_mb h.quiet hm.frm0 hm.frm1 (.inr (.inr rfl)) (by omega) (by omega)
      · rename_i h1 h2
        have h3 : m.index ≤ n.log.length := by
          have : ¬ lastF n < m.index := fun h4 => h2 (.inl h4)
          unfold lastF at this; omega
        obtain ⟨k1, k2, k3⟩ := layK_ok hb (by omega) h3 h.ents hm.ents m.entries.length (Nat.le_refl _)
        have hN : NB P (addN n m) τ l := { h.quiet with
          len := by show (layK n m m.entries.length).length ≤ _; omega
          ents := k1
          com0 := by show 0 ≤ max n.commit (min m.commit (m.index + m.entries.length)); omega
          com1 := by show max n.commit (min m.commit (m.index + m.entries.length)) ≤ _; omega }
        refine ⟨0, hN, by show 5 * 0 + 0 ≤ _; omega, fun x hx => ?_, by simp⟩
        rw [List.mem_singleton.1 hx]
        exact small_mb hN hm.frm0 hm.frm1 (.inr (.inr rfl)) (by omega) (by omega)
theorem NB.heard (h : NB P n τ l) (hm : MB P m τ l) : Went P n (heardF n m).1 (heardF n m).2 τ l 0 1 := by
  have m0 := h.mtch0 m.frm.toNat
  have m1 := h.mtch1 m.frm.toNat
  have x0 := h.next0 m.frm.toNat
  have x1 := h.next1 m.frm.toNat
  have i0 := hm.idx0
  have i1 := hm.idx1
  unfold heardF
  split
  · exact ⟨0, h, by simp only; omega, by simp, by simp⟩
  · rename_i hc
    have hr : n.role = 2 := Classical.byContradiction fun h1 => hc (.inr h1)
    have hld := h.led hr
    split
    · have hag : NB P (agreeN n m) τ l := by
        refine { h with next0 := ?_, next1 := ?_, mtch0 := ?_, mtch1 := ?_, led := ?_ }
        · intro i; show 0 ≤ (n.next.set m.frm.toNat (max (n.mtch.get m.frm.toNat) m.index + 1)).get i
          rcases F5.gs n.next m.frm.toNat i (max (n.mtch.get m.frm.toNat) m.index + 1) with e | e <;> rw [e]
          · omega
          · exact h.next0 i
        · intro i; show (n.next.set m.frm.toNat (max (n.mtch.get m.frm.toNat) m.index + 1)).get i ≤ _
          rcases F5.gs n.next m.frm.toNat i (max (n.mtch.get m.frm.toNat) m.index + 1) with e | e <;> rw [e]
          · omega
          · exact h.next1 i
        · intro i; show 0 ≤ (n.mtch.set m.frm.toNat (max (n.mtch.get m.frm.toNat) m.index)).get i
          rcases F5.gs n.mtch m.frm.toNat i (max (n.mtch.get m.frm.toNat) m.index) with e | e <;> rw [e]
          · omega
          · exact h.mtch0 i
        · intro i; show (n.mtch.set m.frm.toNat (max (n.mtch.get m.frm.toNat) m.index)).get i ≤ _
          rcases F5.gs n.mtch m.frm.toNat i (max (n.mtch.get m.frm.toNat) m.index) with e | e <;> rw [e]
          · omega
          · exact h.mtch1 i
        · intro _ i; show 1 ≤ (n.next.set m.frm.toNat (max (n.mtch.get m.frm.toNat) m.index + 1)).get i
          rcases F5.gs n.next m.frm.toNat i (max (n.mtch.get m.frm.toNat) m.index + 1) with e | e <;> rw [e]
          · omega
          · exact hld i
      refine ⟨0, hag.commit, ?_, by simp, by simp⟩
      have := pot_commit (agreeN n m)
      have e : pot (agreeN n m) = pot n := rfl
      simp only
      omega
    · have hbk : NB P (backN n m) τ l := by
        refine { h with next0 := ?_, next1 := ?_, led := ?_ }
        · intro i; show 0 ≤ (n.next.set m.frm.toNat (max (max (min (n.next.get m.frm.toNat - 1) (m.index + 1)) 1) (n.mtch.get m.frm.toNat + 1))).get i
          rcases F5.gs n.next m.frm.toNat i (max (max (min (n.next.get m.frm.toNat - 1) (m.index + 1)) 1) (n.mtch.get m.frm.toNat + 1)) with e | e <;> rw [e]
          · omega
          · exact h.next0 i
        · intro i; show (n.next.set m.frm.toNat (max (max (min (n.next.get m.frm.toNat - 1) (m.index + 1)) 1) (n.mtch.get m.frm.toNat + 1))).get i ≤ _
          rcases F5.gs n.next m.frm.toNat i (max (max (min (n.next.get m.frm.toNat - 1) (m.index + 1)) 1) (n.mtch.get m.frm.toNat + 1)) with e | e <;> rw [e]
          · omega
          · exact h.next1 i
        · intro _ i; show 1 ≤ (n.next.set m.frm.toNat (max (max (min (n.next.get m.frm.toNat - 1) (m.index + 1)) 1) (n.mtch.get m.frm.toNat + 1))).get i
          rcases F5.gs n.next m.frm.toNat i (max (max (min (n.next.get m.frm.toNat - 1) (m.index + 1)) 1) (n.mtch.get m.frm.toNat + 1)) with e | e <;> rw [e]
          · omega
          · exact hld i
      have e : pot (backN n m) = pot n := rfl
      split
      · refine ⟨0, hbk, by simp only; omega, fun x hx => ?_, by simp⟩
        rw [List.mem_singleton.1 hx]
        exact owe_mb hbk hr hm.frm0 hm.frm1
      · exact ⟨0, hbk, by simp only; omega, by simp, by simp⟩
theorem NB.take (hP : PO P) (h : NB P n τ l) (hm : MB P m τ l) (ht : τ ≤ 100000) : Went P n (takeF n m).1 (takeF n m).2 τ l 0 1 := by
  have hu := h.up hm.term0 hm.term1
  have hpu := pot_up n m
  have key : ∀ {n' : Nd} {out : List Ms}, Went P (upN n m) n' out τ l 0 1 → Went P n n' out τ l 0 1 := fun ⟨d, h1, h2, h3, h4⟩ => ⟨d, h1, by omega, h3, h4⟩
  unfold takeF
  split
  · exact ⟨0, h, by simp only; omega, by simp, by simp⟩
  · unfold actF
    split
    · have hv := hu.vote hm.frm0 hm.frm1
      refine key ⟨0, hv, by have := pot_vote (upN n m) m; simp only; omega, fun x hx => ?_, by simp⟩
      rw [List.mem_singleton.1 hx]
      exact small_mb hv hm.frm0 hm.frm1 (.inr (.inl rfl)) (by omega) (by omega)
    · split
      · exact key (hu.voted hP ht hm.frm0 hm.frm1)
      · split
        · exact key (hu.add hm)
        · split
          · exact key (hu.heard hm)
          · have := hm.kind0
            have := hm.kind1
            omega
theorem NB.put (h : NB P n τ l) (hr : n.role = 2) {e : En} (he : P n.log.length ⟨n.term, e.conf, e.cmd⟩) : NB P (putF n e) τ (l + 1) ∧ pot (putF n e) ≤ pot n := by
  have hb := h.base
  have hl := h.len
  have g := h.le (τ' := τ) (l' := l + 1) (Nat.le_refl _) (by omega)
  refine ⟨NB.commit { g with len := ?_, ents := ents_push h.ents he, mtch0 := ?_, mtch1 := ?_ }, ?_⟩
  · show (n.log ++ [_]).length ≤ _; simp; omega
  · intro i; show 0 ≤ (n.mtch.set n.id.toNat (n.base + (n.log.length + 1))).get i
    rcases F5.gs n.mtch n.id.toNat i (n.base + (n.log.length + 1)) with e | e <;> rw [e]
    · omega
    · exact h.mtch0 i
  · intro i; show (n.mtch.set n.id.toNat (n.base + (n.log.length + 1))).get i ≤ _
    rcases F5.gs n.mtch n.id.toNat i (n.base + (n.log.length + 1)) with e | e <;> rw [e]
    · omega
    · exact g.mtch1 i
  · exact pot_commit (putN n e)
end
end Go.Proofs.YtjbokbikkcfjjaaGreat
end
section
set_option maxRecDepth 16000
namespace Go.Cap
section
variable {K : Ctx} {P : Program} {t : Env} {H Hs Hr : Heap} {N : Env → Heap → Prop} {ops : Array Oper} {i j kg : Nat} {l : List Oper} {dst : Option Tmp} {ty ty' tp : TypeId} {pos : String} {aft : Array Edge} {g : Option (Nat × Bool)} {kd : Tmp} {p : Prop} {ip : Decidable p} {x : Operand}
theorem run_eq_ptr0 {e : TypeId} {a : Addr} (w : World) {ty : TypeId} (hu : P.underlying ty = some (.pointer e)) (d : Nat) : (Op.equalIn (d + 1) ty (.pointer (some a)) (.pointer none)).run P w = .ok false w := by
  simp [Op.equalIn, run_underlying hu]
theorem run_eq_ptr {e : TypeId} {a : Addr} (w : World) {ty : TypeId} (hu : P.underlying ty = some (.pointer e)) : (Op.equal ty (.pointer (some a)) (.pointer none)).run P w = .ok false w := run_eq_ptr0 w hu 9999
theorem p_eP {a : Addr} {e : TypeId} (hx : autoParam (t.ev x = .v (.pointer (some a))) zl._auto_1) (hu : P.underlying ty = some (.pointer e) := by rfl) : POp P t H ⟨dst, .binOp .eql ty x (.const (.pointer none)) ty', tp, pos, aft, g⟩ (.v (.bool (decide False))) :=
  pop_bin hx rfl fun w => by
    have := run_eq_ptr (a := a) w hu
    simp [eqGuard, binOp, this]
theorem gT_cH {f : FuncId} {xs : Array Operand} {ats : Array TypeId} {args : List T} {Φ : T → Heap → Prop} (hp : p) (hf : FnH K.P f args Hs Φ) (hP : H.Perm (Hs ++ Hr)) (hn : ∀ r H', Φ r H' → SimFrom K ops (i + 1) l ((kd, r) :: t) (H' ++ Hr) N) (hj : (ops[j]?).bind (·.dst) = some kg := by rfl) (hb : autoParam (t.get kg = .v (.bool (decide p))) zG._auto_1)
    (ha' : EvL t xs.toList args) (hc : callable K.P f = true := by rfl) (hd : okDst (some kd) K.n = true := by rfl) : SimFrom K ops i (⟨some kd, .call ⟨.value (.func f), xs, ats⟩, tp, pos, aft, some (j, true)⟩ :: l) t H N :=
  g_eff hj hb (by simpa using hp) (eop_callH hf hP hc ha' hd hn)
end
end Go.Cap
namespace Go.Proofs.YtjbokbikkcfjjaaGreat
open Go.Cap
set_option linter.unusedSimpArgs false
set_option linter.unusedVariables false
attribute [local irreducible] POp SimFrom DrawFrom EOp Sim FnH T.gp
theorem live_step {n0 : Nd} {R : Nat} {K : Kp} {t : Nd} (h : Live n0 R K) (h0 : K.d.left = 0) (hrm : (2 * R + 200 : Int) ≤ K.d.room) (hid : t.id = n0.id) (hsz : Sz t) (hr : (recB t 0).length ≤ R) (hR : R ≤ 4000000) :
    ∃ K', keepF K t 0 = (K', 0) ∧ Live n0 R K' ∧ K'.N = t ∧ K'.d.left = 0 ∧ K'.d.room = K.d.room := by
  have hc := keep_cases h hid hsz hr hR
  generalize keepF K t 0 = w at hc ⊢
  cases hc with
  | ok K' h' hN hl hr' => exact ⟨K', rfl, h', hN, by have := h'.dk.l0; omega, hr'⟩
  | full K' h' hN hl hr' hf => exact absurd hf (by omega)
  | dead K' hN hl h' hr' => exact absurd hl (by omega)
theorem new_live {n0 : Nd} {R : Nat} (room : Int) (hw : wakeF n0 = n0) (hsz : Sz n0) (hr : (recB n0 0).length ≤ R) (h1 : 0 ≤ room) (h2 : room ≤ 16777216) : Live n0 R ⟨0, n0, ⟨0, 0, false, [], 0, [], room⟩⟩ := by
  refine ⟨⟨none, [], ⟨rfl, rfl, stop_nil, by simp, by simp, by simp, fun k => ?_, rfl⟩, rfl⟩, rfl, rfl, ⟨Int.le_refl _, by simp, h1, h2, by simpa using h1⟩, rfl, hsz, hr⟩
  rw [List.take_nil]
  exact hsz.len
theorem open_live {n0 : Nd} {R : Nat} {K : Kp} (bd : Nat) (id conf : Int) (h : Live n0 R K) (h0 : K.d.left = 0) (hn0 : FnP Tryz.prog 66 [ei id, ei conf] (fun r => r = nd n0)) (hw : wakeF n0 = n0) (hl0 : n0.log.length ≤ 10000) (hR : R ≤ 4000000)
    (hszw : Sz (wakeF K.N)) (hrw : (recB (wakeF K.N) 0).length ≤ R) :
    FnH Tryz.prog 34 [pW bd, ei id, ei conf] (DkH bd K.d) (fun r H => ∃ bk bj K2, r = .tup [pW bk, ei 0] ∧ H = KpH bk bj bd K2 ∧ Live n0 R K2 ∧ K2.N = wakeF K.N ∧ K2.d = K.d) := by
  obtain ⟨⟨so, rs, hc, hn⟩, hsy, hdead, hdk, hNid, hNsz, hNr⟩ := h
  have ho := kOpen_fn bd K.d id conf n0 so rs [] hn0 hl0 hdk.ok hdead h0 hc.snap hc.log stop_nil (fun m hm => ⟨(hc.szs m hm).1, by have := (hc.szs m hm).2; omega⟩)
    (fun p hp => ⟨(hc.szr p hp).1, (hc.szr p hp).2.1, by have := (hc.szr p hp).2.2; omega⟩) (fun k => hc.lay k)
  refine FnH.mono ho ?_
  rintro r H ⟨bk, bj, rfl, rfl⟩
  have hN2 : openF n0 so rs = wakeF K.N := by
    unfold openF
    split
    · rename_i hnn
      obtain ⟨rfl, rfl⟩ := hnn
      rw [hc.same]
      exact hw.symm
    · exact hc.same.symm
  have hod : openD K.d (rs.map rec1) [] = K.d := if_pos rfl
  refine ⟨bk, bj, ⟨rs.length, wakeF K.N, K.d⟩, rfl, by rw [hN2, hod], ⟨⟨so, rs, ?_, rfl⟩, hsy, hdead, hdk, hNid, hszw, hrw⟩, rfl, rfl⟩
  exact ⟨hc.snap, hc.log, hc.stop, hc.len, hc.szs, hc.szr, hc.lay, hc.same⟩
end Go.Proofs.YtjbokbikkcfjjaaGreat
end
