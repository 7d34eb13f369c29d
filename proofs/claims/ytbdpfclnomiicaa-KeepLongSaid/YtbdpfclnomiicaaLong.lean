/-
  KeepLong: a replica that is its own committee.
-/
import Derived.Test.YtbdpfclnomiicaaPows
set_option maxRecDepth 16000
namespace Go.Proofs.Ytbdpfclnomiicaa
open Go.Cap
set_option linter.unusedSimpArgs false
set_option linter.unusedVariables false
attribute [local irreducible] POp SimFrom DrawFrom EOp Sim FnH T.gp
/-- A committee of one. -/
structure Lg (cmd : List UInt8) (n : Nd) (done : Nat) : Prop where
  id : n.id = 2
  base : n.base = 0
  conf : n.baseConf = 4
  ents : ∀ e ∈ n.log, e.conf = 0
  com : n.commit = n.log.length
  role : n.role = 0 ∨ n.role = 2
  mt : n.role = 2 → ∃ x, n.mtch = ⟨0, 0, x, 0, 0⟩
  cnt : (n.log.filter fun e => decide (e.cmd = cmd)).length = done
theorem lc_none (l : List En) (h : ∀ e ∈ l, e.conf = 0) : ∀ k ≤ l.length, lc l k = none
  | 0, _ => rfl
  | k + 1, hk => by
    unfold lc
    rw [if_neg, lc_none l h k (by omega)]
    have : l.getD k default ∈ l := by simp [show k < l.length by omega]
    simpa using h _ this
theorem confF_one {n : Nd} (h1 : n.baseConf = 4) (h2 : ∀ e ∈ n.log, e.conf = 0) : confF n = (n.base, 4) := by
  unfold confF
  rw [lc_none n.log h2 _ (Nat.le_refl _), h1]
theorem commit_one {n : Nd} {l : List En} {e : En} (hid : n.id = 2) (hb : n.base = 0) (hc : n.baseConf = 4) (hl : n.log = l ++ [e]) (he : ∀ e ∈ n.log, e.conf = 0) (ht : e.term = n.term) (hcm : n.commit ≤ l.length) (hm : n.mtch = ⟨0, 0, (l.length : Int) + 1, 0, 0⟩) :
    commitF n = { n with commit := (l.length : Int) + 1 } := by
  have hcf := confF_one hc he
  have hlen : n.log.length = l.length + 1 := by rw [hl]; simp
  have hs : someF n.mtch (n.base + (l.length : Nat) + 1) 5 = 4 := by
    rw [hm, hb]
    simp only [someF, F5.get]
    rw [if_neg (by omega), if_neg (by omega), if_pos (by omega), if_neg (by omega), if_neg (by omega)]
    rfl
  have hbd := cmtF_bd n 4 hb l.length
  have hcmt : cmtF n 4 n.log.length = (l.length : Int) + 1 := by
    rw [hlen]
    unfold cmtF
    rw [hs, if_pos, hb]
    · omega
    · refine ⟨?_, by decide +kernel⟩
      rw [hl]
      simp [ht]
  unfold commitF
  rw [hcf]
  simp only
  rw [hcmt, hid, if_neg]
  rintro ⟨h, _⟩
  exact h (by decide +kernel)
theorem Lg.wake {cmd : List UInt8} {n : Nd} {done : Nat} (h : Lg cmd n done) : Lg cmd (wakeF n) done :=
  ⟨h.id, h.base, h.conf, h.ents, h.com, .inl rfl, (fun e => absurd (show (0 : Int) = 2 from e) (by decide)), h.cnt⟩
theorem lg_new (cmd : List UInt8) : Lg cmd (newF 2 4) 0 := ⟨rfl, rfl, rfl, by simp [newF], rfl, .inl rfl, (fun e => absurd (show (0 : Int) = 2 from e) (by decide)), rfl⟩
theorem Lg.tick {cmd : List UInt8} {n : Nd} {done : Nat} (h : Lg cmd n done) (hc : cmd ≠ []) (hr : ¬ n.role = 2) : Lg cmd (tickF n).1 done := by
  have hcf := confF_one h.conf h.ents
  unfold tickF
  rw [if_neg hr, if_neg (show ¬ ¬ isF (confF n).2 n.id = true by rw [hcf, h.id]; show ¬ ¬ isF 4 2 = true; decide +kernel)]
  split
  · have hcf' : confF { n with wait := n.wait + 1 } = (n.base, 4) := confF_one h.conf h.ents
    unfold standF
    rw [if_pos (show mostF (confF { n with wait := n.wait + 1 }).2 (2 ^ n.id.toNat) = true by rw [hcf', h.id]; show mostF 4 (2 ^ Int.toNat 2) = true; decide +kernel)]
    have hlead : leadF (standN { n with wait := n.wait + 1 }) = { (leadN (standN { n with wait := n.wait + 1 })) with commit := (n.log.length : Int) + 1 } := by
      refine commit_one (l := n.log) (e := ⟨n.term + 1, 0, []⟩) h.id h.base h.conf rfl ?_ rfl (by show n.commit ≤ _; rw [h.com]; omega) ?_
      · intro e he
        rcases List.mem_append.1 (show e ∈ n.log ++ [⟨n.term + 1, 0, []⟩] from he) with he | he
        · exact h.ents e he
        · rw [List.mem_singleton.1 he]
      · show (F5.all 0).set n.id.toNat (n.base + (n.log.length + 1)) = _
        rw [h.id, h.base]
        simp [F5.all, F5.set]
    rw [hlead]
    refine ⟨h.id, h.base, h.conf, ?_, ?_, .inr rfl, fun _ => ⟨(n.log.length : Int) + 1, ?_⟩, ?_⟩
    · intro e he
      rcases List.mem_append.1 (show e ∈ n.log ++ [⟨n.term + 1, 0, []⟩] from he) with he | he
      · exact h.ents e he
      · rw [List.mem_singleton.1 he]
    · show (n.log.length : Int) + 1 = ((n.log ++ [_]).length : Nat)
      simp
    · show (F5.all 0).set n.id.toNat (n.base + (n.log.length + 1)) = _
      rw [h.id, h.base]
      simp [F5.all, F5.set]
    · show ((n.log ++ [(⟨n.term + 1, 0, []⟩ : En)]).filter fun e => decide (e.cmd = cmd)).length = done
      rw [List.filter_append, List.length_append, h.cnt]
      simp [Ne.symm hc]
  · exact ⟨h.id, h.base, h.conf, h.ents, h.com, h.role, h.mt, h.cnt⟩
theorem Lg.prop {cmd : List UInt8} {n : Nd} {done : Nat} (h : Lg cmd n done) (hc : cmd ≠ []) (hr : n.role = 2) : Lg cmd (propF n cmd).1 (done + 1) ∧ (propF n cmd).2.2 = 0 := by
  obtain ⟨x, hx⟩ := h.mt hr
  unfold propF
  rw [if_neg (by simpa using hr), if_neg hc]
  have hput : putF n ⟨0, 0, cmd⟩ = { (putN n ⟨0, 0, cmd⟩) with commit := (n.log.length : Int) + 1 } := by
    refine commit_one (l := n.log) (e := ⟨n.term, 0, cmd⟩) h.id h.base h.conf rfl ?_ rfl (by show n.commit ≤ _; rw [h.com]; omega) ?_
    · intro e he
      rcases List.mem_append.1 (show e ∈ n.log ++ [⟨n.term, 0, cmd⟩] from he) with he | he
      · exact h.ents e he
      · rw [List.mem_singleton.1 he]
    · show n.mtch.set n.id.toNat (n.base + (n.log.length + 1)) = _
      rw [h.id, h.base, hx]
      simp [F5.set]
  simp only
  rw [hput]
  refine ⟨⟨h.id, h.base, h.conf, ?_, ?_, .inr hr, fun _ => ⟨(n.log.length : Int) + 1, ?_⟩, ?_⟩, trivial⟩
  · intro e he
    rcases List.mem_append.1 (show e ∈ n.log ++ [⟨n.term, 0, cmd⟩] from he) with he | he
    · exact h.ents e he
    · rw [List.mem_singleton.1 he]
  · show (n.log.length : Int) + 1 = ((n.log ++ [_]).length : Nat)
    simp
  · show n.mtch.set n.id.toNat (n.base + (n.log.length + 1)) = _
    rw [h.id, h.base, hx]
    simp [F5.set]
  · show ((n.log ++ [(⟨n.term, 0, cmd⟩ : En)]).filter fun e => decide (e.cmd = cmd)).length = done + 1
    rw [List.filter_append, List.length_append, h.cnt]
    simp
end Go.Proofs.Ytbdpfclnomiicaa
