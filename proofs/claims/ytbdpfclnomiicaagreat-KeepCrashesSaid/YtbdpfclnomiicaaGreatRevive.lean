/-
  Chapter 19: the power goes, and comes again.
-/
import Derived.Test.YtbdpfclnomiicaaGreatActs
set_option maxRecDepth 16000
namespace Go.Proofs.YtbdpfclnomiicaaGreat
open Go.Cap
set_option linter.unusedSimpArgs false
set_option linter.unusedVariables false
attribute [local irreducible] POp SimFrom DrawFrom EOp Sim FnH T.gp
/-- Opened, what the disk says is there, though the last write is torn. -/
theorem revive {n0 : Nd} {R : Nat} {d : Dk} {so : Option Nd} {rs : List (Nd × Nat)} {tl : List UInt8} {N : Nd} (bd : Nat) (id conf : Int) (hc : Cont n0 R d so rs tl N) (hdk : DkR d) (hdead : d.dead = false) (h0 : d.left = 0) (hsy : d.synced = d.log.length)
    (hid : N.id = n0.id) (hn0 : FnP Tryz.prog 12 [ei id, ei conf] (fun r => r = nd n0)) (hw : wakeF n0 = n0) (hl0 : n0.log.length ≤ 10000) (hR : R ≤ 4000000)
    (hszw : Sz (wakeF N)) (hrw : (recB (wakeF N) 0).length ≤ R) :
    FnH Tryz.prog 11 [pW bd, ei id, ei conf] (DkH bd d) (fun r H => ∃ bk bj K2, r = .tup [pW bk, ei 0] ∧ H = KpH bk bj bd K2 ∧ Live n0 R K2 ∧ K2.N = wakeF N ∧ K2.d.left = 0 ∧ K2.d.room = d.room) := by
  have ho := kOpen_fn bd d id conf n0 so rs tl hn0 hl0 hdk.ok hdead h0 hc.snap hc.log hc.stop (fun m hm => ⟨(hc.szs m hm).1, by have := (hc.szs m hm).2; omega⟩)
    (fun p hp => ⟨(hc.szr p hp).1, (hc.szr p hp).2.1, by have := (hc.szr p hp).2.2; omega⟩) (fun k => hc.lay k)
  refine FnH.mono ho ?_
  rintro r H ⟨bk, bj, rfl, rfl⟩
  have hN2 : openF n0 so rs = wakeF N := by
    unfold openF
    split
    · rename_i hnn
      obtain ⟨rfl, rfl⟩ := hnn
      rw [hc.same]
      exact hw.symm
    · exact hc.same.symm
  have hfit := hdk.fit
  have hlg := hc.log
  obtain ⟨d2, hd2⟩ : ∃ d2, d2 = openD d (rs.map rec1) tl := ⟨_, rfl⟩
  rw [← hd2]
  have hlog2 : d2.log = (rs.map rec1).flatMap frmB := by
    rw [hd2]; unfold openD
    split
    · rename_i ht; rw [hlg, ht, List.append_nil]
    · rfl
  have hs2 : d2.snap = d.snap ∧ d2.dead = d.dead ∧ d2.left = d.left ∧ d2.room = d.room := by
    rw [hd2]; unfold openD
    split <;> exact ⟨rfl, rfl, rfl, rfl⟩
  have hsy2 : d2.synced = d2.log.length := by
    rw [hd2]; unfold openD
    split
    · exact hsy
    · rfl
  obtain ⟨q1, q2, q3, q4⟩ := hs2
  have hlen : d2.log.length ≤ d.log.length := by rw [hlog2, hlg, List.length_append]; omega
  refine ⟨bk, bj, ⟨rs.length, wakeF N, d2⟩, rfl, by rw [hN2], ⟨⟨so, rs, ?_, rfl⟩, hsy2, q2.trans hdead, ?_, hid, hszw, hrw⟩, rfl, q3.trans h0, q4⟩
  · exact ⟨q1.trans hc.snap, by rw [List.append_nil]; exact hlog2, stop_nil, hc.len, hc.szs, hc.szr, hc.lay, hc.same⟩
  · exact ⟨by rw [show (⟨rs.length, wakeF N, d2⟩ : Kp).d = d2 from rfl, q3]; exact hdk.l0, by rw [show (⟨rs.length, wakeF N, d2⟩ : Kp).d = d2 from rfl, q3]; exact hdk.l1, by rw [show (⟨rs.length, wakeF N, d2⟩ : Kp).d = d2 from rfl, q4]; exact hdk.r0, by rw [show (⟨rs.length, wakeF N, d2⟩ : Kp).d = d2 from rfl, q4]; exact hdk.r1, by
      show ((d2.log.length + d2.snap.length : Nat) : Int) ≤ d2.room
      rw [q4, q1]; omega⟩
theorem stop_live {n0 : Nd} {R : Nat} {K : Kp} (n : Int) (h : Live n0 R K) (hn : n ≤ 1000000000) : Live n0 R { K with d := stopF K.d n } := by
  obtain ⟨⟨so, rs, hc, hk⟩, hsy, hdead, hdk, hNid, hNsz, hNr⟩ := h
  refine ⟨⟨so, rs, ⟨hc.snap, hc.log, hc.stop, hc.len, hc.szs, hc.szr, hc.lay, hc.same⟩, hk⟩, hsy, hdead, ⟨?_, ?_, hdk.r0, hdk.r1, hdk.fit⟩, hNid, hNsz, hNr⟩
  · show 0 ≤ max n 0; omega
  · show max n 0 ≤ 1000000000; omega
/-- What may lie behind a call: it stays, or the power is gone. -/
def After (n0 : Nd) (R : Nat) (K : Kp) (y : Nd) : Prop := (Live n0 R K ∧ y = K.N) ∨ Gone n0 R K.d K.N y
theorem crash_dk {d : Dk} (pick : Int) (h : DkR d) : DkR (crashF (stopF d 0) pick) := by
  refine ⟨Int.le_refl _, by show (0 : Int) ≤ _; omega, h.r0, h.r1, ?_⟩
  have := h.fit
  show (((d.log.take _).length + d.snap.length : Nat) : Int) ≤ d.room
  rw [List.length_take]
  omega
theorem after_crash {n0 : Nd} {R : Nat} {K : Kp} {y : Nd} (pick : Int) (h : After n0 R K y) : DkR K.d ∧ 0 ≤ K.d.synced ∧ K.d.synced ≤ K.d.log.length ∧ ∃ so rs tl, Cont n0 R (crashF (stopF K.d 0) pick) so rs tl K.N ∨ Cont n0 R (crashF (stopF K.d 0) pick) so rs tl y := by
  rcases h with ⟨hl, rfl⟩ | hg
  · obtain ⟨⟨so, rs, hc, hk⟩, hsy, hdead, hdk, hNid, hNsz, hNr⟩ := hl
    refine ⟨hdk, by omega, by omega, so, rs, [], .inl ⟨hc.snap, ?_, hc.stop, hc.len, hc.szs, hc.szr, hc.lay, hc.same⟩⟩
    have hr := stayK_range (stopF K.d 0) pick (by show 0 ≤ K.d.synced; omega) (by show K.d.synced ≤ _; exact Int.le_of_eq hsy)
    have hlog := hc.log
    show K.d.log.take _ = _
    rw [← hlog]
    refine List.take_of_length_le ?_
    show K.d.log.length ≤ (K.d.synced + stayK (stopF K.d 0) pick).toNat
    omega
  · obtain ⟨so, rs, tl, h⟩ := hg.cont pick
    exact ⟨hg.dk, hg.s0, hg.s1, so, rs, tl, h⟩
theorem dead_fnP (b : Nat) (d : Dk) : FnH Tryz.prog 19 [pW b] (DkH b d) (fun r H => r = .v (.bool (decide (d.dead = true))) ∧ H = DkH b d) :=
  FnH.mono (dead_fn b d) fun r H ⟨h1, h2⟩ => ⟨h1.trans (by simp [eB]), h2⟩
end Go.Proofs.YtbdpfclnomiicaaGreat
