/-
  disk: Sync, Cut, Swap; New, Stop, Dead, Log, Snap, Crash.
  journal: Add, Snap, Count.
  journal.Open.
  keep: a kept replica: write.
-/
import Derived.Test.YtjbokbikkcfjjaaGreatAav
import Derived.Test.YtjbokbikkcfjjaaGreatAam
import Derived.Test.YtjbokbikkcfjjaaGreatAau
section
set_option maxRecDepth 16000
namespace Go.Proofs.YtjbokbikkcfjjaaGreat
open Go.Cap
set_option linter.unusedSimpArgs false
set_option linter.unusedVariables false
attribute [local irreducible] POp SimFrom DrawFrom EOp Sim FnH T.gp
def syncF (d : Dk) : Dk × Int := if d.dead then (d, 20) else if (spendF d).2 then ({ (spendF d).1 with synced := d.log.length }, 0) else ((spendF d).1, 20)
theorem sync_fn (b : Nat) (d : Dk) (hd : DkOk d) : FnH Tryz.prog 168 [pW b] (DkH b d) (fun r H => r = ei (syncF d).2 ∧ H = DkH b (syncF d).1) := by
  have hsf := spend_fn b d hd
  obtain ⟨left1, dead1, done, hsp⟩ := spend_keeps d
  obtain ⟨left, odd, dead, log, synced, snap, room⟩ := d
  obtain ⟨p, ip, rfl⟩ := dead_is dead
  simp only at hsp
  rw [hsp] at hsf
  obtain ⟨q, iq, rfl⟩ := dead_is done
  refine fn_enter Tryz.func168 (by rfl) (by rfl) ?_
  intro S0 w0
  show Sim _ _ [(0, pW b)] [(b, ⟨tD, [ei left, ei odd, .v (.bool (decide p)), .sl false (log.map eb), ei synced, .sl false (snap.map eb), ei room], 7⟩)] _
  by_cases hp : p
  · have hA : syncF ⟨left, odd, decide p, log, synced, snap, room⟩ = (⟨left, odd, decide p, log, synced, snap, room⟩, 20) := by
      unfold syncF
      rw [if_pos (by simpa using hp)]
    rw [hA]
    refine zC ?_
    apply cr
    refine s_ p_as ?_
    refine zC ?_
    apply cr
    refine s_ p_mv ?_
    refine s_ p_nc ?_
    refine s_ p_fr ?_
    refine s_ p_fr ?_
    refine s_ p_lo ?_
    refine s_ p_mv ?_
    refine gF (fun hg => p_mv) ?_
    refine gF (fun hg => p_nc (hx := u_ hg)) ?_
    refine gF (fun hg => p_fr (hx := u_ hg)) ?_
    refine gF (d := .any) (fun hg => absurd hp hg) ?_
    refine gF (d := .v (.bool (decide False))) (fun hg => absurd hp hg) ?_
    refine s_ p_or ?_
    refine zC ?_
    refine ci ?_ ?_
    · intro _
      refine zC ?_
      apply cr
      refine s_ p_as ?_
      refine zC ?_
      refine zR ?_
      exact rh kR ⟨rfl, rfl⟩ (Le.refl _)
    · intro h; exact absurd (.inl hp) h
  · have hA : syncF ⟨left, odd, decide p, log, synced, snap, room⟩ = if decide q then (⟨left1, odd, dead1, log, log.length, snap, room⟩, 0) else (⟨left1, odd, dead1, log, synced, snap, room⟩, 20) := by
      unfold syncF
      rw [if_neg (by simpa using hp), hsp]
    refine zC ?_
    apply cr
    refine s_ p_as ?_
    refine zC ?_
    apply cr
    refine s_ p_mv ?_
    refine s_ p_nc ?_
    refine s_ p_fr ?_
    refine s_ p_fr ?_
    refine s_ p_lo ?_
    refine s_ p_mv ?_
    refine gF (fun hg => p_mv) ?_
    refine gF (fun hg => p_nc (hx := u_ hg)) ?_
    refine gF (fun hg => p_fr (hx := u_ hg)) ?_
    refine gF_cH (Hr := []) hp hsf perm0 (fun r H' ⟨hr1, hr2⟩ => ?_) (ha' := by refine evl_cons (u_ hp) ?_; exact evl_nil)
    subst hr1 hr2
    show SimFrom _ _ _ _ ((12, .v (.bool (decide q))) :: _) [(b, ⟨tD, [ei left1, ei odd, .v (.bool dead1), .sl false (log.map eb), ei synced, .sl false (snap.map eb), ei room], 7⟩)] _
    refine gF (p := p) (fun hg => p_no) ?_
    refine s_ p_or ?_
    refine zC ?_
    refine ci ?_ ?_
    · intro h
      have hq : ¬ q := h.resolve_left hp
      rw [hA, if_neg (by simpa using hq)]
      refine zC ?_
      apply cr
      refine s_ p_as ?_
      refine zC ?_
      refine zR ?_
      exact rh kR ⟨rfl, rfl⟩ (Le.refl _)
    · intro h
      have hq : q := Decidable.not_not.1 fun hn => h (.inr hn)
      rw [hA, if_pos (by simpa using hq)]
      refine zC ?_
      apply cr
      refine s_ p_mv ?_
      refine s_ p_mv ?_
      refine s_ p_nc ?_
      refine s_ p_fr ?_
      refine s_ p_lo ?_
      (first | refine s_ p_ln ?_ | refine s_ p_lr ?_)
      refine s_ p_nc ?_
      refine s_ p_fr ?_
      refine e_st ?_
      refine zC ?_
      apply cr
      refine s_ p_as ?_
      refine zC ?_
      refine zR ?_
      refine rh kR ⟨rfl, ?_⟩ (Le.refl _)
      simp only [List.length_map]; rfl
def cutF (d : Dk) (n : Int) : Dk × Int := if d.dead then (d, 20) else if n < 0 ∨ (d.log.length : Int) < n then (d, 1) else
  (if (spendF d).2 = true ∨ d.odd = 0 then { (spendF d).1 with log := d.log.take n.toNat, synced := n } else (spendF d).1, if (spendF d).2 then 0 else 20)
theorem cut_fn (b : Nat) (d : Dk) (n : Int) (hd : DkOk d) : FnH Tryz.prog 96 [pW b, ei n] (DkH b d) (fun r H => r = ei (cutF d n).2 ∧ H = DkH b (cutF d n).1) := by
  have hu := hd.used
  have hsf := spend_fn b d hd
  obtain ⟨left1, dead1, done, hsp⟩ := spend_keeps d
  obtain ⟨left, odd, dead, log, synced, snap, room⟩ := d
  obtain ⟨p, ip, rfl⟩ := dead_is dead
  simp only at hsp hu
  rw [hsp] at hsf
  obtain ⟨q, iq, rfl⟩ := dead_is done
  refine fn_enter Tryz.func96 (by rfl) (by rfl) ?_
  intro S0 w0
  show Sim _ _ [(0, pW b), (1, ei n)] [(b, ⟨tD, [ei left, ei odd, .v (.bool (decide p)), .sl false (log.map eb), ei synced, .sl false (snap.map eb), ei room], 7⟩)] _
  refine zC ?_
  apply cr
  refine s_ p_as ?_
  refine zC ?_
  apply cr
  refine s_ p_mv ?_
  refine s_ p_nc ?_
  refine s_ p_fr ?_
  refine s_ p_fr ?_
  refine s_ p_lo ?_
  refine s_ p_as ?_
  refine zC ?_
  refine ci ?_ ?_
  · intro hp
    have hA : cutF ⟨left, odd, decide p, log, synced, snap, room⟩ n = (⟨left, odd, decide p, log, synced, snap, room⟩, 20) := by
      unfold cutF
      rw [if_pos (by simpa using hp)]
    rw [hA]
    refine zC ?_
    apply cr
    refine s_ p_as ?_
    refine zC ?_
    refine zR ?_
    exact rh kR ⟨rfl, rfl⟩ (Le.refl _)
  intro hp
  refine zC ?_
  apply cr
  refine s_ p_mv ?_
  refine s_ p_lt ?_
  refine s_ p_mv ?_
  refine gF (fun hg => p_mv) ?_
  refine gF (fun hg => p_mv) ?_
  refine gF (fun hg => p_nc (hx := u_ hg)) ?_
  refine gF (fun hg => p_fr (hx := u_ hg)) ?_
  refine gF (fun hg => p_lo (hx := u_ hg)) ?_
  (first | refine gF (fun hg => p_ln (hx := u_ hg)) ?_ | refine gF (fun hg => p_lr (hx := u_ hg)) ?_)
  refine gF (fun hg => p_gt (hx := u_ hg) (hy := u_ hg)) ?_
  refine s_ p_or ?_
  refine s_ p_as ?_
  refine zC ?_
  refine ci ?_ ?_
  · intro hf
    simp only [List.length_map] at hf
    have hA : cutF ⟨left, odd, decide p, log, synced, snap, room⟩ n = (⟨left, odd, decide p, log, synced, snap, room⟩, 1) := by
      unfold cutF
      rw [if_neg (by simpa using hp), if_pos hf]
    rw [hA]
    refine zC ?_
    apply cr
    refine s_ p_as ?_
    refine zC ?_
    refine zR ?_
    exact rh kR ⟨rfl, rfl⟩ (Le.refl _)
  intro hf
  simp only [List.length_map] at hf
  have hA : cutF ⟨left, odd, decide p, log, synced, snap, room⟩ n = (if q ∨ odd = 0 then ⟨left1, odd, dead1, log.take n.toNat, n, snap, room⟩ else ⟨left1, odd, dead1, log, synced, snap, room⟩, if decide q then 0 else 20) := by
    unfold cutF
    rw [if_neg (by simpa using hp), if_neg hf, hsp]
    simp only [decide_eq_true_eq]
  rw [hA]
  have ho := own_fn (log.take n.toNat) (by rw [List.length_take]; omega)
  refine zC ?_
  apply cr
  refine s_ p_mv ?_
  refine s_ p_nc ?_
  refine s_ p_fr ?_
  refine e_cHA hsf (fun r H' ⟨hr1, hr2⟩ => ?_)
  subst hr1 hr2
  show SimFrom _ _ _ _ ((27, .v (.bool (decide q))) :: _) [(b, ⟨tD, [ei left1, ei odd, .v (.bool dead1), .sl false (log.map eb), ei synced, .sl false (snap.map eb), ei room], 7⟩)] _
  refine s_ p_as ?_
  refine zC ?_
  apply cr
  refine s_ p_mv ?_
  refine s_ p_mv ?_
  refine gF (fun hg => p_mv) ?_
  refine gF (fun hg => p_nc (hx := u_ hg)) ?_
  refine gF (fun hg => p_fr (hx := u_ hg)) ?_
  refine gF (fun hg => p_fr (hx := u_ hg)) ?_
  refine gF (fun hg => p_lo (hx := u_ hg)) ?_
  refine gF (fun hg => p_eq (hx := u_ hg)) ?_
  refine s_ p_or ?_
  refine zC ?_
  refine ci ?_ ?_
  · intro ho2
    rw [if_pos ho2]
    refine zC ?_
    apply cr
    refine s_ p_mv ?_
    refine s_ p_mv ?_
    refine s_ p_mv ?_
    refine s_ p_nc ?_
    refine s_ p_fr ?_
    refine s_ p_lo ?_
    refine s_ p_mv ?_
    refine s_ (p_s0hE (i := n) (xs := log.map eb) (ys := (log.take n.toNat).map eb) (by rw [List.map_take]) (h2 := by simp only [List.length_map]; omega)) ?_
    refine s_ (p_ca (ho)) ?_
    refine s_ p_mv ?_
    refine s_ p_nc ?_
    refine s_ p_fr ?_
    refine e_st ?_
    refine s_ p_nc ?_
    refine s_ p_fr ?_
    refine e_st ?_
    refine zC ?_
    apply cr
    refine s_ p_mv ?_
    refine s_ p_no ?_
    refine zC ?_
    refine ci ?_ ?_
    · intro hq
      refine zC ?_
      apply cr
      refine s_ p_as ?_
      refine zC ?_
      refine zR ?_
      refine rh kR ⟨?_, rfl⟩ (Le.refl _)
      simp [hq]; rfl
    · intro hq
      refine zC ?_
      apply cr
      refine s_ p_as ?_
      refine zC ?_
      refine zR ?_
      refine rh kR ⟨?_, rfl⟩ (Le.refl _)
      simp [Decidable.not_not.1 hq]; rfl
  · intro ho2
    rw [if_neg ho2]
    refine zC ?_
    apply cr
    refine s_ p_mv ?_
    refine s_ p_no ?_
    refine zC ?_
    refine ci ?_ ?_
    · intro hq
      refine zC ?_
      apply cr
      refine s_ p_as ?_
      refine zC ?_
      refine zR ?_
      refine rh kR ⟨?_, rfl⟩ (Le.refl _)
      simp [hq]; rfl
    · intro hq
      exact absurd (.inl (Decidable.not_not.1 hq)) ho2
def swapF (d : Dk) (x : List UInt8) : Dk × Int := if d.dead then (d, 20) else if d.room < x.length then (d, 19) else
  (if (spendF d).2 = true ∨ d.odd = 0 then { (spendF d).1 with snap := x, log := [], synced := 0 } else (spendF d).1, if (spendF d).2 then 0 else 20)
theorem swap_fn (b : Nat) (d : Dk) (x : List UInt8) (hd : DkOk d) (hx : x.length ≤ 1000000000) : FnH Tryz.prog 169 [pW b, bl x] (DkH b d) (fun r H => r = ei (swapF d x).2 ∧ H = DkH b (swapF d x).1) := by
  have hsf := spend_fn b d hd
  obtain ⟨left1, dead1, done, hsp⟩ := spend_keeps d
  obtain ⟨left, odd, dead, log, synced, snap, room⟩ := d
  obtain ⟨p, ip, rfl⟩ := dead_is dead
  simp only at hsp
  rw [hsp] at hsf
  obtain ⟨q, iq, rfl⟩ := dead_is done
  have ho := own_fn x (by omega)
  refine fn_enter Tryz.func169 (by rfl) (by rfl) ?_
  intro S0 w0
  show Sim _ _ [(0, pW b), (1, .sl false (x.map eb))] [(b, ⟨tD, [ei left, ei odd, .v (.bool (decide p)), .sl false (log.map eb), ei synced, .sl false (snap.map eb), ei room], 7⟩)] _
  refine zC ?_
  apply cr
  refine s_ p_as ?_
  refine zC ?_
  apply cr
  refine s_ p_mv ?_
  refine s_ p_nc ?_
  refine s_ p_fr ?_
  refine s_ p_fr ?_
  refine s_ p_lo ?_
  refine s_ p_as ?_
  refine zC ?_
  refine ci ?_ ?_
  · intro hp
    have hA : swapF ⟨left, odd, decide p, log, synced, snap, room⟩ x = (⟨left, odd, decide p, log, synced, snap, room⟩, 20) := by
      unfold swapF
      rw [if_pos (by simpa using hp)]
    rw [hA]
    refine zC ?_
    apply cr
    refine s_ p_as ?_
    refine zC ?_
    refine zR ?_
    exact rh kR ⟨rfl, rfl⟩ (Le.refl _)
  intro hp
  refine zC ?_
  apply cr
  refine s_ p_mv ?_
  (first | refine s_ p_ln ?_ | refine s_ p_lr ?_)
  refine s_ p_mv ?_
  refine s_ p_nc ?_
  refine s_ p_fr ?_
  refine s_ p_lo ?_
  refine s_ p_gt ?_
  refine s_ p_as ?_
  refine zC ?_
  refine ci ?_ ?_
  · intro hf
    simp only [List.length_map] at hf
    have hA : swapF ⟨left, odd, decide p, log, synced, snap, room⟩ x = (⟨left, odd, decide p, log, synced, snap, room⟩, 19) := by
      unfold swapF
      rw [if_neg (by simpa using hp), if_pos hf]
    rw [hA]
    refine zC ?_
    apply cr
    refine s_ p_as ?_
    refine zC ?_
    refine zR ?_
    exact rh kR ⟨rfl, rfl⟩ (Le.refl _)
  intro hf
  simp only [List.length_map] at hf
  have hA : swapF ⟨left, odd, decide p, log, synced, snap, room⟩ x = (if q ∨ odd = 0 then ⟨left1, odd, dead1, [], 0, x, room⟩ else ⟨left1, odd, dead1, log, synced, snap, room⟩, if decide q then 0 else 20) := by
    unfold swapF
    rw [if_neg (by simpa using hp), if_neg hf, hsp]
    simp only [decide_eq_true_eq]
  rw [hA]
  refine zC ?_
  apply cr
  refine s_ p_mv ?_
  refine s_ p_nc ?_
  refine s_ p_fr ?_
  refine e_cHA hsf (fun r H' ⟨hr1, hr2⟩ => ?_)
  subst hr1 hr2
  show SimFrom _ _ _ _ ((23, .v (.bool (decide q))) :: _) [(b, ⟨tD, [ei left1, ei odd, .v (.bool dead1), .sl false (log.map eb), ei synced, .sl false (snap.map eb), ei room], 7⟩)] _
  refine s_ p_as ?_
  refine zC ?_
  apply cr
  refine s_ p_mv ?_
  refine s_ p_mv ?_
  refine gF (fun hg => p_mv) ?_
  refine gF (fun hg => p_nc (hx := u_ hg)) ?_
  refine gF (fun hg => p_fr (hx := u_ hg)) ?_
  refine gF (fun hg => p_fr (hx := u_ hg)) ?_
  refine gF (fun hg => p_lo (hx := u_ hg)) ?_
  refine gF (fun hg => p_eq (hx := u_ hg)) ?_
  refine s_ p_or ?_
  refine zC ?_
  refine ci ?_ ?_
  · intro ho2
    rw [if_pos ho2]
    refine zC ?_
    apply cr
    refine s_ p_mv ?_
    refine s_ p_mv ?_
    refine s_ p_mv ?_
    refine s_ p_mv ?_
    refine s_ (p_ca (ho)) ?_
    refine s_ p_nc ?_
    refine s_ p_fr ?_
    refine e_st ?_
    refine s_ p_nc ?_
    refine s_ p_fr ?_
    refine e_st ?_
    refine s_ p_nc ?_
    refine s_ p_fr ?_
    refine e_st ?_
    refine zC ?_
    apply cr
    refine s_ p_mv ?_
    refine s_ p_no ?_
    refine zC ?_
    refine ci ?_ ?_
    · intro hq
      refine zC ?_
      apply cr
      refine s_ p_as ?_
      refine zC ?_
      refine zR ?_
      refine rh (H' := DkH b ⟨left1, odd, dead1, [], 0, x, room⟩) (kK kR) ⟨?_, rfl⟩ (Le.refl _)
      simp [hq]; rfl
    · intro hq
      refine zC ?_
      apply cr
      refine s_ p_as ?_
      refine zC ?_
      refine zR ?_
      refine rh (H' := DkH b ⟨left1, odd, dead1, [], 0, x, room⟩) (kK kR) ⟨?_, rfl⟩ (Le.refl _)
      simp [Decidable.not_not.1 hq]; rfl
  · intro ho2
    rw [if_neg ho2]
    refine zC ?_
    apply cr
    refine s_ p_mv ?_
    refine s_ p_no ?_
    refine zC ?_
    refine ci ?_ ?_
    · intro hq
      refine zC ?_
      apply cr
      refine s_ p_as ?_
      refine zC ?_
      refine zR ?_
      refine rh kR ⟨?_, rfl⟩ (Le.refl _)
      simp [hq]; rfl
    · intro hq
      exact absurd (.inl (Decidable.not_not.1 hq)) ho2
theorem newD_fn (n : Int) (h0 : 1 ≤ n) (h1 : n ≤ 16777216) : FnH Tryz.prog 26 [ei n] [] (fun r H => ∃ b, r = .tup [pW b, ei 0] ∧ H = DkH b ⟨0, 0, false, [], 0, [], n⟩) := by
  refine fn_enter Tryz.func26 (by rfl) (by rfl) ?_
  intro S0 w0
  show Sim _ _ [(0, ei n)] _ _
  refine zC ?_
  apply cr
  refine s_ p_as ?_
  refine s_ p_as ?_
  refine zC ?_
  apply cr
  refine s_ p_mv ?_
  refine s_ p_lt ?_
  refine s_ p_mv ?_
  refine gF (fun hg => p_mv) ?_
  refine gF (fun hg => p_gt (hx := u_ hg)) ?_
  refine s_ p_or ?_
  refine zC ?_
  refine ci ?_ ?_
  · intro h; exact absurd h (by omega)
  intro _
  refine zC ?_
  apply cr
  refine s_ p_mv ?_
  refine s_ (p_bd 7 [_, _, _, _, _, _, _]) ?_
  refine e_bx fun b12 _ => ?_
  refine s_ p_as ?_
  refine s_ p_as ?_
  refine zC ?_
  refine zR ?_
  exact rh (H' := DkH b12 ⟨0, 0, false, [], 0, [], n⟩) (kK kR) ⟨_, rfl, rfl⟩ (Le.refl _)
theorem dead_fn (b : Nat) (d : Dk) : FnH Tryz.prog 74 [pW b] (DkH b d) (fun r H => r = eB d.dead ∧ H = DkH b d) := by
  refine fn_enter Tryz.func74 (by rfl) (by rfl) ?_
  intro S0 w0
  show Sim _ _ [(0, pW b)] (DkH b d) _
  unfold DkH dkC
  refine zC ?_
  apply cr
  refine s_ p_as ?_
  refine zC ?_
  apply cr
  refine s_ p_mv ?_
  refine s_ p_nc ?_
  refine s_ p_fr ?_
  refine s_ p_lo ?_
  refine s_ p_as ?_
  refine zC ?_
  refine zR ?_
  exact rh kR ⟨rfl, rfl⟩ (Le.refl _)
theorem dlog_fn (b : Nat) (d : Dk) (hd : DkOk d) : FnH Tryz.prog 94 [pW b] (DkH b d) (fun r H => r = bl d.log ∧ H = DkH b d) := by
  have hu := hd.used
  have ho := own_fn d.log (by omega)
  refine fn_enter Tryz.func94 (by rfl) (by rfl) ?_
  intro S0 w0
  show Sim _ _ [(0, pW b)] (DkH b d) _
  unfold DkH dkC
  refine zC ?_
  apply cr
  refine s_ p_as ?_
  refine zC ?_
  apply cr
  refine s_ p_mv ?_
  refine s_ p_nc ?_
  refine s_ p_fr ?_
  refine s_ p_lo ?_
  refine s_ (p_ca (ho)) ?_
  refine s_ p_as ?_
  refine zC ?_
  refine zR ?_
  exact rh kR ⟨rfl, rfl⟩ (Le.refl _)
theorem dsnap_fn (b : Nat) (d : Dk) (hd : DkOk d) : FnH Tryz.prog 92 [pW b] (DkH b d) (fun r H => r = bl d.snap ∧ H = DkH b d) := by
  have hu := hd.used
  have ho := own_fn d.snap (by omega)
  refine fn_enter Tryz.func92 (by rfl) (by rfl) ?_
  intro S0 w0
  show Sim _ _ [(0, pW b)] (DkH b d) _
  unfold DkH dkC
  refine zC ?_
  apply cr
  refine s_ p_as ?_
  refine zC ?_
  apply cr
  refine s_ p_mv ?_
  refine s_ p_nc ?_
  refine s_ p_fr ?_
  refine s_ p_lo ?_
  refine s_ (p_ca (ho)) ?_
  refine s_ p_as ?_
  refine zC ?_
  refine zR ?_
  exact rh kR ⟨rfl, rfl⟩ (Le.refl _)
def stayK (d : Dk) (pick : Int) : Int := let n := (d.log.length : Int) - d.synced + 1; ((pick.tmod n) + n).tmod n
def crashF (d : Dk) (pick : Int) : Dk := { d with left := 0, odd := 0, dead := false, log := d.log.take (d.synced + stayK d pick).toNat, synced := ((d.log.take (d.synced + stayK d pick).toNat).length : Nat) }
theorem stayK_range (d : Dk) (pick : Int) (h0 : 0 ≤ d.synced) (h1 : d.synced ≤ d.log.length) : 0 ≤ stayK d pick ∧ stayK d pick ≤ (d.log.length : Int) - d.synced := by
  unfold stayK
  obtain ⟨n, hn⟩ : ∃ n, n = (d.log.length : Int) - d.synced + 1 := ⟨_, rfl⟩
  rw [← hn]
  have hp : 0 < n := by omega
  have h2 := tmod_fix pick n hp
  have h3 : 0 ≤ pick.tmod n + n := by
    have := Int.emod_nonneg pick (show n ≠ 0 by omega)
    by_cases h : pick.tmod n < 0
    · rw [h2.1 h]; exact this
    · omega
  have h4 := Int.tmod_nonneg n h3
  have h5 := Int.tmod_lt_of_pos (pick.tmod n + n) hp
  show 0 ≤ (pick.tmod n + n).tmod n ∧ (pick.tmod n + n).tmod n ≤ _
  omega
end Go.Proofs.YtjbokbikkcfjjaaGreat
end
section
set_option maxRecDepth 16000
namespace Go.Proofs.YtjbokbikkcfjjaaGreat
open Go.Cap
set_option linter.unusedSimpArgs false
set_option linter.unusedVariables false
attribute [local irreducible] POp SimFrom DrawFrom EOp Sim FnH T.gp
def tJ : TypeId := 157
def JrH (bj bd : Nat) (n : Int) (d : Dk) : Heap := (bj, ⟨tJ, [pW bd, ei n], 2⟩) :: DkH bd d
theorem count_fn (bj bd : Nat) (n : Int) (d : Dk) : FnH Tryz.prog 161 [pW bj] (JrH bj bd n d) (fun r H => r = ei n ∧ H = JrH bj bd n d) := by
  refine fn_enter Tryz.func161 (by rfl) (by rfl) ?_
  intro S0 w0
  show Sim _ _ [(0, pW bj)] (JrH bj bd n d) _
  unfold JrH
  refine zC ?_
  apply cr
  refine s_ p_as ?_
  refine zC ?_
  apply cr
  refine s_ p_mv ?_
  refine s_ p_nc ?_
  refine s_ p_fr ?_
  refine s_ p_lo ?_
  refine s_ p_as ?_
  refine zC ?_
  refine zR ?_
  exact rh kR ⟨rfl, rfl⟩ (Le.refl _)
def jaddF (n : Int) (d : Dk) (x : List UInt8) : Int × Dk × Int :=
  let a := appF d (frmB x)
  if a.2 = 0 then let s := syncF a.1; if s.2 = 0 then (n + 1, s.1, 0) else (n, s.1, s.2) else (n, a.1, a.2)
theorem jadd_fn (bj bd : Nat) (n : Int) (d : Dk) (x : List UInt8) (hd : DkOk d) (hd2 : DkOk (appF d (frmB x)).1) (hx : x.length ≤ 4194304) (h0 : 0 ≤ n) (h1 : n ≤ 1000) :
    FnH Tryz.prog 162 [pW bj, bl x] (JrH bj bd n d) (fun r H => r = ei (jaddF n d x).2.2 ∧ H = JrH bj bd (jaddF n d x).1 (jaddF n d x).2.1) := by
  have hf := frame_fn false x hx
  have hfl := frmB_len x
  have ha := disk_app_fn bd d (frmB x) hd (by omega)
  have hs := sync_fn bd (appF d (frmB x)).1 hd2
  obtain ⟨⟨d1, e1⟩, hap⟩ : ∃ a, appF d (frmB x) = a := ⟨_, rfl⟩
  obtain ⟨⟨d2, e2⟩, hsy⟩ : ∃ a, syncF d1 = a := ⟨_, rfl⟩
  rw [hap] at ha hs
  simp only at ha hs
  rw [hsy] at hs
  simp only at hs
  have hA : jaddF n d x = if e1 = 0 then (if e2 = 0 then (n + 1, d2, 0) else (n, d2, e2)) else (n, d1, e1) := by
    unfold jaddF
    rw [hap]
    simp only
    rw [hsy]
  rw [hA]
  refine fn_enter Tryz.func162 (by rfl) (by rfl) ?_
  intro S0 w0
  show Sim _ _ [(0, pW bj), (1, bl x)] (JrH bj bd n d) _
  unfold JrH
  refine zC ?_
  apply cr
  refine s_ p_as ?_
  refine zC ?_
  apply cr
  refine s_ p_mv ?_
  refine s_ (p_ca (hf)) ?_
  refine s_ p_mv ?_
  refine s_ p_ex ?_
  refine s_ p_ex ?_
  refine s_ p_as ?_
  refine s_ p_as ?_
  refine zC ?_
  refine zC ?_
  apply cr
  refine s_ p_mv ?_
  refine s_ p_eq ?_
  refine zC ?_
  refine ci ?_ ?_
  rotate_left
  · intro h; exact absurd rfl h
  intro _
  refine zC ?_
  apply cr
  refine s_ p_mv ?_
  refine s_ p_nc ?_
  refine s_ p_fr ?_
  refine s_ p_lo ?_
  refine s_ p_mv ?_
  refine e_cH (Hr := [_]) ha (List.perm_append_comm (l₁ := [_])) (fun r H' ⟨hr1, hr2⟩ => ?_)
  subst hr1 hr2
  refine from_perm List.perm_append_comm ?_
  refine s_ p_as ?_
  refine zC ?_
  apply cr
  refine s_ p_mv ?_
  refine s_ p_eq ?_
  refine zC ?_
  refine ci ?_ ?_
  · intro he1
    have he1' : e1 = 0 := he1
    rw [if_pos he1']
    refine zC ?_
    apply cr
    refine s_ p_mv ?_
    refine s_ p_nc ?_
    refine s_ p_fr ?_
    refine s_ p_lo ?_
    refine e_cH (Hr := [_]) hs (List.perm_append_comm (l₁ := [_])) (fun r H' ⟨hr1, hr2⟩ => ?_)
    subst hr1 hr2
    refine from_perm List.perm_append_comm ?_
    refine s_ p_as ?_
    refine zC ?_
    apply cr
    refine s_ p_mv ?_
    refine s_ p_eq ?_
    refine zC ?_
    refine ci ?_ ?_
    · intro he2
      have he2' : e2 = 0 := he2
      rw [if_pos he2']
      subst he2'
      refine zC ?_
      apply cr
      refine s_ p_mv ?_
      refine s_ p_nc ?_
      refine s_ p_fr ?_
      refine s_ p_lo ?_
      refine s_ p_ad ?_
      refine s_ p_nc ?_
      refine s_ p_fr ?_
      refine e_st ?_
      refine zC ?_
      apply cr
      refine s_ p_mv ?_
      refine s_ p_as ?_
      refine zC ?_
      refine zR ?_
      exact rh kR ⟨rfl, rfl⟩ (Le.refl _)
    · intro he2
      have he2' : ¬ e2 = 0 := he2
      rw [if_neg he2']
      refine zC ?_
      apply cr
      refine s_ p_mv ?_
      refine s_ p_as ?_
      refine zC ?_
      refine zR ?_
      exact rh kR ⟨rfl, rfl⟩ (Le.refl _)
  · intro he1
    have he1' : ¬ e1 = 0 := he1
    rw [if_neg he1']
    refine zC ?_
    apply cr
    refine s_ p_mv ?_
    refine s_ p_eq ?_
    refine zC ?_
    refine ci ?_ ?_
    · intro h; exact absurd h he1
    intro _
    refine zC ?_
    apply cr
    refine s_ p_mv ?_
    refine s_ p_as ?_
    refine zC ?_
    refine zR ?_
    exact rh kR ⟨rfl, rfl⟩ (Le.refl _)
def jsnapF (n : Int) (d : Dk) (x : List UInt8) : Int × Dk × Int := let a := swapF d (frmB x); if a.2 = 0 then (0, a.1, 0) else (n, a.1, a.2)
theorem jsnap_fn (bj bd : Nat) (n : Int) (d : Dk) (x : List UInt8) (hd : DkOk d) (hx : x.length ≤ 4194304) :
    FnH Tryz.prog 163 [pW bj, bl x] (JrH bj bd n d) (fun r H => r = ei (jsnapF n d x).2.2 ∧ H = JrH bj bd (jsnapF n d x).1 (jsnapF n d x).2.1) := by
  have hf := frame_fn false x hx
  have hfl := frmB_len x
  have ha := swap_fn bd d (frmB x) hd (by omega)
  obtain ⟨⟨d1, e1⟩, hap⟩ : ∃ a, swapF d (frmB x) = a := ⟨_, rfl⟩
  rw [hap] at ha
  simp only at ha
  have hA : jsnapF n d x = if e1 = 0 then (0, d1, 0) else (n, d1, e1) := by
    unfold jsnapF
    rw [hap]
  rw [hA]
  refine fn_enter Tryz.func163 (by rfl) (by rfl) ?_
  intro S0 w0
  show Sim _ _ [(0, pW bj), (1, bl x)] (JrH bj bd n d) _
  unfold JrH
  refine zC ?_
  apply cr
  refine s_ p_as ?_
  refine zC ?_
  apply cr
  refine s_ p_mv ?_
  refine s_ (p_ca (hf)) ?_
  refine s_ p_mv ?_
  refine s_ p_ex ?_
  refine s_ p_ex ?_
  refine s_ p_as ?_
  refine s_ p_as ?_
  refine zC ?_
  refine zC ?_
  apply cr
  refine s_ p_mv ?_
  refine s_ p_eq ?_
  refine zC ?_
  refine ci ?_ ?_
  rotate_left
  · intro h; exact absurd rfl h
  intro _
  refine zC ?_
  apply cr
  refine s_ p_mv ?_
  refine s_ p_nc ?_
  refine s_ p_fr ?_
  refine s_ p_lo ?_
  refine s_ p_mv ?_
  refine e_cH (Hr := [_]) ha (List.perm_append_comm (l₁ := [_])) (fun r H' ⟨hr1, hr2⟩ => ?_)
  subst hr1 hr2
  refine from_perm List.perm_append_comm ?_
  refine s_ p_as ?_
  refine zC ?_
  apply cr
  refine s_ p_mv ?_
  refine s_ p_eq ?_
  refine zC ?_
  refine ci ?_ ?_
  · intro he1
    have he1' : e1 = 0 := he1
    rw [if_pos he1']
    subst he1'
    refine zC ?_
    apply cr
    refine s_ p_mv ?_
    refine s_ p_nc ?_
    refine s_ p_fr ?_
    refine e_st ?_
    refine zC ?_
    apply cr
    refine s_ p_mv ?_
    refine s_ p_as ?_
    refine zC ?_
    refine zR ?_
    exact rh kR ⟨rfl, rfl⟩ (Le.refl _)
  · intro he1
    have he1' : ¬ e1 = 0 := he1
    rw [if_neg he1']
    refine zC ?_
    apply cr
    refine s_ p_mv ?_
    refine s_ p_as ?_
    refine zC ?_
    refine zR ?_
    exact rh kR ⟨rfl, rfl⟩ (Le.refl _)
end Go.Proofs.YtjbokbikkcfjjaaGreat
end
section
set_option maxRecDepth 16000
namespace Go.Proofs.YtjbokbikkcfjjaaGreat
open Go.Cap
set_option linter.unusedSimpArgs false
set_option linter.unusedVariables false
attribute [local irreducible] POp SimFrom DrawFrom EOp Sim FnH T.gp
attribute [local irreducible] SimD SimFromD
def snapB : Option (List UInt8) → List UInt8
  | none => []
  | some s => frmB s
def openD (d : Dk) (l : List (List UInt8)) (tl : List UInt8) : Dk := if tl = [] then d else { d with log := l.flatMap frmB, synced := (l.flatMap frmB).length }
theorem open1_fn {H : Heap} {b5 : Nat} (v2 v3 v4 : Value) (hm : (b5, (⟨25, [ei 0], 1⟩ : Blk)) ∈ H) : DfH Tryz.prog 91 #[.pointer (some ⟨b5, 0, none⟩), v2, v3, v4] H (fun H' => H' = H) := by
  refine dfH_enter Tryz.func91 (vs := [.pointer (some ⟨b5, 0, none⟩), v2, v3, v4]) (by rfl) (by rfl) (by rfl) ?_
  intro S0 w0
  show Sim _ _ [(0, pW b5), (1, .v v2), (2, .v v3), (3, .v v4)] H _
  refine zC ?_
  apply cr
  refine s_ (p_lo (hi := hm)) ?_
  refine s_ p_ne ?_
  refine zC ?_
  refine ci ?_ ?_
  · intro h; exact absurd rfl h
  intro _
  refine zC ?_
  exact ⟨.inl rfl, _, kR, rfl⟩
theorem spend_up {d : Dk} (hdead : d.dead = false) (hleft : d.left = 0) : spendF d = (d, true) := by
  unfold spendF
  rw [if_neg (by omega), hdead]
  rfl
theorem cut_open {d : Dk} {l : List (List UInt8)} {tl : List UInt8} (hdead : d.dead = false) (hleft : d.left = 0) (hlog : d.log = l.flatMap frmB ++ tl) (htl : tl ≠ []) : cutF d ((l.flatMap frmB).length : Nat) = (openD d l tl, 0) := by
  have ht : d.log.take (((l.flatMap frmB).length : Nat) : Int).toNat = l.flatMap frmB := by rw [hlog, Int.toNat_natCast, List.take_left' rfl]
  have hle : (l.flatMap frmB).length ≤ d.log.length := by rw [hlog, List.length_append]; omega
  unfold cutF openD
  rw [spend_up hdead hleft, hdead, ht, if_neg (by simp), if_neg (by omega), if_neg htl, if_pos (.inl rfl), if_pos rfl]
  simp [hdead]
set_option maxHeartbeats 2000000 in
theorem openJ_fn (bd : Nat) (d : Dk) (so : Option (List UInt8)) (l : List (List UInt8)) (tl : List UInt8) (hd : DkOk d) (hdead : d.dead = false) (hleft : d.left = 0) (hso : d.snap = snapB so) (hsl : ∀ s, so = some s → s.length ≤ 4194304) (hlog : d.log = l.flatMap frmB ++ tl) (hst : Stop tl) (hl : ∀ x ∈ l, x.length ≤ 4194304) :
    FnH Tryz.prog 65 [pW bd] (DkH bd d) (fun r H => ∃ bj, r = .tup [pW bj, bl (so.getD []), tBl l, ei 0] ∧ H = JrH bj bd l.length (openD d l tl)) := by
  have hu := hd.used
  have hde := dead_fn bd d
  rw [hdead] at hde
  have hsn := dsnap_fn bd d hd
  have hlg := dlog_fn bd d hd
  have hsc := scan_fn l tl hst hl (by rw [← hlog]; omega)
  rw [← hlog] at hsc
  have hct := cut_fn bd d ((l.flatMap frmB).length : Nat) hd
  refine fn_enterD Tryz.func65 (by rfl) (by rfl) ?_
  intro S0 w0 hw0
  show SimD _ _ _ [(0, pW bd)] (DkH bd d) _
  refine simD_seq ?_
  refine zC ?_
  apply cr
  refine e_al fun b2 _ => ?_
  refine e_al fun b3 _ => ?_
  refine e_al fun b4 _ => ?_
  refine e_al fun b5 _ => ?_
  refine zC ?_
  refine ⟨rfl, ?_⟩
  refine simD_seq ?_
  refine zC ?_
  apply cr
  refine s_ p_mv ?_
  refine s_ p_nc ?_
  refine s_ p_fr ?_
  refine e_cH (Hr := [_, _, _, _]) hde (List.perm_append_comm (l₁ := [_, _, _, _])) (fun r H' ⟨hr1, hr2⟩ => ?_)
  subst hr1 hr2
  refine zC ?_
  refine ci (p := False) (fun h => h.elim) (fun _ => ?_)
  refine zC ?_
  refine ⟨rfl, ?_⟩
  refine simD_region ?_
  refine d_s p_mf ?_
  refine d_defer [.pointer (some ⟨b5, 0, none⟩), .pointer (some ⟨b2, 0, none⟩), .pointer (some ⟨b3, 0, none⟩), .pointer (some ⟨b4, 0, none⟩)] ?_ rfl rfl (zl)
  refine simD_end hw0 ?_
  refine zC ?_
  apply cr
  refine s_ p_mv ?_
  refine e_cH (Hr := [_, _, _, _]) hsn (.refl _) (fun r H' ⟨hr1, hr2⟩ => ?_)
  subst hr1 hr2
  refine s_ p_as ?_
  refine zC ?_
  apply cr
  refine s_ p_mv ?_
  (first | refine s_ p_ln ?_ | refine s_ p_lr ?_)
  refine s_ p_gt ?_
  refine zC ?_
  refine sim_cut [(0, pW bd), (2, pW b2), (3, pW b3), (4, pW b4), (5, pW b5)] (DkH bd d ++ [(b5, ⟨25, [ei 0], 1⟩), (b4, ⟨117, [.v (.slice none 0 0)], 1⟩), (b3, ⟨34, [bl (so.getD [])], 1⟩), (b2, ⟨91, [.v (.pointer none)], 1⟩)]) ?_ ?_
  · refine ci ?_ ?_
    · intro hpos
      rcases so with _ | s
      · exact absurd hpos (by rw [hso]; simp [snapB])
      have h1 := one_fn s (hsl s rfl)
      have hso' : d.snap = frmB s := hso
      rw [hso']
      refine zC ?_
      apply cr
      refine s_ p_mv ?_
      refine s_ (p_ca (h1)) ?_
      refine s_ p_mv ?_
      refine s_ p_ex ?_
      refine s_ p_ex ?_
      refine e_st ?_
      refine e_st ?_
      refine zC ?_
      apply cr
      refine s_ p_lo ?_
      refine s_ p_ne ?_
      refine zC ?_
      refine ci ?_ ?_
      · intro h; exact absurd rfl h
      intro _
      refine zC ?_
      exact ⟨eL, kR⟩
    · intro hpos
      rcases so with _ | s
      · refine zC ?_
        exact ⟨eL, kH (kK (kK (kK kR)))⟩
      · refine absurd ?_ hpos
        have := frmB_len s
        have hso' : d.snap = frmB s := hso
        rw [hso', List.length_map]; omega
  refine zC ?_
  apply cr
  refine s_ p_mv ?_
  refine e_cH (Hr := [_, _, _, _]) hlg (.refl _) (fun r H' ⟨hr1, hr2⟩ => ?_)
  subst hr1 hr2
  refine s_ p_as ?_
  refine zC ?_
  apply cr
  refine s_ p_mv ?_
  refine s_ (p_ca (hsc)) ?_
  refine s_ p_mv ?_
  refine s_ p_ex ?_
  refine s_ p_ex ?_
  refine e_st ?_
  refine s_ p_as ?_
  refine zC ?_
  apply cr
  refine s_ p_mv ?_
  refine s_ p_mf ?_
  refine s_ p_as ?_
  refine zC ?_
  apply cr
  refine s_ p_mv ?_
  refine s_ p_mv ?_
  (first | refine s_ p_ln ?_ | refine s_ p_lr ?_)
  refine s_ p_lt ?_
  refine zC ?_
  refine sim_cut [(0, pW bd), (2, pW b2), (3, pW b3), (4, pW b4), (5, pW b5)] (DkH bd (openD d l tl) ++ [(b5, ⟨25, [ei 0], 1⟩), (b4, ⟨117, [tBl l], 1⟩), (b3, ⟨34, [bl (so.getD [])], 1⟩), (b2, ⟨91, [.v (.pointer none)], 1⟩)]) ?_ ?_
  · refine ci ?_ ?_
    · intro hlt
      have htl : tl ≠ [] := by
        rintro rfl
        rw [hlog, List.append_nil, List.length_map] at hlt
        omega
      have hcf := cut_open hdead hleft hlog htl
      rw [hcf] at hct
      refine zC ?_
      apply cr
      refine s_ p_mv ?_
      refine s_ p_mv ?_
      refine e_vH (fs := [pW bd]) (args := [ei ((l.flatMap frmB).length : Nat)]) (cs := []) hct (Hr := [_, _, _, _]) (.refl _) (fun r H' ⟨hr1, hr2⟩ => ?_)
      subst hr1 hr2
      refine e_st ?_
      refine zC ?_
      exact ⟨eL, kR⟩
    · intro hge
      have htl : tl = [] := by
        rw [hlog, List.length_map, List.length_append] at hge
        exact List.length_eq_zero_iff.1 (by omega)
      have ho : openD d l tl = d := if_pos htl
      rw [ho]
      refine zC ?_
      exact ⟨eL, kR⟩
  refine zC ?_
  refine ca [0, 1, 2, 3, 5, 6, 7, 4, 8, 9, 10, 11] [4, 8, 9, 10, 11] ?_
  refine a_ (fun _ => p_mv) ?_
  refine a_lo ?_
  (first | refine a_ (fun _ => p_ln) ?_ | refine a_ (fun _ => p_lr) ?_)
  refine a_ (fun _ => p_bd 2 [_, _]) ?_
  refine a_lo ?_
  refine a_lo ?_
  refine a_lo ?_
  refine a_bx fun b47 _ => ⟨zd, ?_⟩
  refine a_st ?_
  refine a_st ?_
  refine a_st ?_
  refine a_st ?_
  apply an
  refine zC ?_
  apply sim_ret
  refine ⟨_, open1_fn _ _ _ (zm), ?_⟩
  rintro H1 rfl
  refine ⟨_, _, JrH b47 bd l.length (openD d l tl), zrs, Le.refl _, ⟨b47, rfl, rfl⟩, HeapFront.le ?_⟩
  refine .keep _ _ _ _ _ ?_ (.keep _ _ _ _ _ (BlkLe.refl _) (.nil _))
  refine blk_le rfl ?_ rfl rfl
  refine LeL.cons (Le.refl _) (LeL.cons (Le.of_eq ?_) LeL.nil)
  rw [List.length_map]
  rfl
end Go.Proofs.YtjbokbikkcfjjaaGreat
end
section
set_option maxRecDepth 16000
namespace Go.Cap
section
variable {K : Ctx} {t : Env} {H Hs Hr : Heap} {N : Env → Heap → Prop} {ops : Array Oper} {i : Nat} {tp : TypeId} {pos : String} {aft : Array Edge} {kd : Tmp} {eff : List Nat} {pend : List Pend} {al : List (Nat × Oper)}
theorem a_cHr {f : FuncId} {xs : Array Operand} {ats : Array TypeId} {args : List T} {Φ : T → Heap → Prop} (hf : FnH K.P f args Hs Φ) (hp : H.Perm (Hs ++ Hr))
    (hn : ∀ r H', Φ r H' → PendOk ops ⟨some kd, .call ⟨.value (.func f), xs, ats⟩, tp, pos, aft, none⟩ (H' ++ Hr) pend ∧ ∃ pend', PDrop ops ⟨some kd, .call ⟨.value (.func f), xs, ats⟩, tp, pos, aft, none⟩ pend pend' ∧ AnyFrom K ops eff N al ((kd, r) :: t) (H' ++ Hr) pend') (hc : callable K.P f = true := by rfl) (ha' : autoParam (EvL t xs.toList args) ze._auto_1) (hd : Nat.blt kd K.n = true := by rfl) (he : memN eff i = true := by rfl) :
    AnyFrom K ops eff N ((i, ⟨some kd, .call ⟨.value (.func f), xs, ats⟩, tp, pos, aft, none⟩) :: al) t H pend :=
  a_effP (fun _ h1 => eop_callH (Hr := Hr) hf hp hc (ha'.trans fun x hx => h1 x (by simp [Op.operands, Call.operands]; exact .inr (by simpa using hx))) (by simpa [okDst] using hd) fun r H' hr' => by
    obtain ⟨h1, p', h2, h3⟩ := hn r H' hr'
    exact ⟨_, p', rfl, h1, h2, h3⟩) he
end
end Go.Cap
namespace Go.Proofs.YtjbokbikkcfjjaaGreat
open Go.Cap
set_option linter.unusedSimpArgs false
set_option linter.unusedVariables false
attribute [local irreducible] POp SimFrom DrawFrom EOp Sim FnH T.gp
structure DkR (d : Dk) : Prop where
  l0 : 0 ≤ d.left
  l1 : d.left ≤ 1000000000
  r0 : 0 ≤ d.room
  r1 : d.room ≤ 16777216
  fit : ((d.log.length + d.snap.length : Nat) : Int) ≤ d.room
theorem DkR.ok {d : Dk} (h : DkR d) : DkOk d := ⟨h.l0, h.l1, h.r0, h.r1, by have := h.fit; have := h.r1; omega⟩
theorem DkR.spend {d : Dk} (h : DkR d) : DkR (spendF d).1 := by
  have h0 := h.l0
  have h1 := h.l1
  unfold spendF
  split
  · exact ⟨by simp only; omega, by simp only; omega, h.r0, h.r1, h.fit⟩
  · exact h
theorem spend_log (d : Dk) : (spendF d).1.log = d.log ∧ (spendF d).1.snap = d.snap ∧ (spendF d).1.room = d.room := by
  unfold spendF
  split <;> exact ⟨rfl, rfl, rfl⟩
theorem DkR.app {d : Dk} (h : DkR d) (x : List UInt8) : DkR (appF d x).1 := by
  have hs := h.spend
  obtain ⟨e1, e2, e3⟩ := spend_log d
  unfold appF
  split
  · exact h
  · split
    · exact h
    · rename_i hf
      exact ⟨hs.l0, hs.l1, hs.r0, hs.r1, by simp only [e2, e3, List.length_append]; omega⟩
theorem DkR.sync {d : Dk} (h : DkR d) : DkR (syncF d).1 := by
  have hs := h.spend
  unfold syncF
  split
  · exact h
  · split
    · exact ⟨hs.l0, hs.l1, hs.r0, hs.r1, hs.fit⟩
    · exact hs
theorem DkR.swap {d : Dk} (h : DkR d) (x : List UInt8) : DkR (swapF d x).1 := by
  have hs := h.spend
  obtain ⟨e1, e2, e3⟩ := spend_log d
  unfold swapF
  split
  · exact h
  · split
    · exact h
    · rename_i hf
      split
      · exact ⟨hs.l0, hs.l1, hs.r0, hs.r1, by simp only [e3, List.length_nil]; omega⟩
      · exact hs
theorem DkR.jadd {n : Int} {d : Dk} (h : DkR d) (x : List UInt8) : DkR (jaddF n d x).2.1 := by
  unfold jaddF
  simp only
  split
  · split
    · exact (h.app _).sync
    · exact (h.app _).sync
  · exact h.app _
theorem DkR.jsnap {n : Int} {d : Dk} (h : DkR d) (x : List UInt8) : DkR (jsnapF n d x).2.1 := by
  unfold jsnapF
  simp only
  split <;> exact h.swap _
theorem jadd_n (n : Int) (d : Dk) (x : List UInt8) : (jaddF n d x).1 = n ∨ (jaddF n d x).1 = n + 1 := by
  unfold jaddF
  simp only
  split
  · split
    · exact .inr rfl
    · exact .inl rfl
  · exact .inl rfl
theorem jsnap_n (n : Int) (d : Dk) (x : List UInt8) : (jsnapF n d x).1 = n ∨ (jsnapF n d x).1 = 0 := by
  unfold jsnapF
  simp only
  split
  · exact .inr rfl
  · exact .inl rfl
structure Kp where
  n : Int
  N : Nd
  d : Dk
def tK : TypeId := 95
def KpH (bk bj bd : Nat) (K : Kp) : Heap := (bk, ⟨tK, pW bj :: nodeC K.N (.sl false (K.N.log.map een)), 23⟩) :: JrH bj bd K.n K.d
def wr1F (K : Kp) (x : List UInt8) : Int × Dk × Int := if K.n < 16 then jaddF K.n K.d x else (K.n, K.d, 19)
def writeF (K : Kp) (x : List UInt8) : Kp × Int :=
  let a := wr1F K x
  if ¬ a.2.2 = 19 ∨ a.1 = 0 then (⟨a.1, K.N, a.2.1⟩, a.2.2) else
  let s := jsnapF a.1 a.2.1 (recB K.N 0)
  if ¬ s.2.2 = 0 then (⟨s.1, K.N, s.2.1⟩, s.2.2) else
  let b := jaddF s.1 s.2.1 x
  (⟨b.1, K.N, b.2.1⟩, b.2.2)
set_option maxHeartbeats 2000000 in
theorem write_fn (bk bj bd : Nat) (K : Kp) (x : List UInt8) (hd : DkR K.d) (hN : Sz K.N) (hr : (recB K.N 0).length ≤ 4194304) (hx : x.length ≤ 4194304) (h0 : 0 ≤ K.n) (h1 : K.n ≤ 100) :
    FnH Tryz.prog 140 [pW bk, bl x] (KpH bk bj bd K) (fun r H => r = ei (writeF K x).2 ∧ H = KpH bk bj bd (writeF K x).1) := by
  obtain ⟨n, N, d⟩ := K
  simp only at hd hN hr h0 h1
  have hc1 := count_fn bj bd n d
  have ha1 := jadd_fn bj bd n d x hd.ok (hd.app _).ok hx h0 (by omega)
  obtain ⟨⟨na, da, ea⟩, hwa⟩ : ∃ a, wr1F ⟨n, N, d⟩ x = a := ⟨_, rfl⟩
  have hda : DkR da := by
    have : DkR (wr1F ⟨n, N, d⟩ x).2.1 := by
      unfold wr1F; split
      · exact hd.jadd x
      · exact hd
    rw [hwa] at this; exact this
  have hna : 0 ≤ na ∧ na ≤ 101 := by
    have : (wr1F ⟨n, N, d⟩ x).1 = n ∨ (wr1F ⟨n, N, d⟩ x).1 = n + 1 := by
      unfold wr1F; split
      · exact jadd_n n d x
      · exact .inl rfl
    rw [hwa] at this; simp only at this; omega
  have hc2 := count_fn bj bd na da
  have hby := bytes_fn N 0 hN (Nat.zero_le _)
  have hsn := jsnap_fn bj bd na da (recB N 0) hda.ok hr
  obtain ⟨⟨ns, ds, es'⟩, hws⟩ : ∃ a, jsnapF na da (recB N 0) = a := ⟨_, rfl⟩
  have hds : DkR ds := by
    have := hda.jsnap (n := na) (recB N 0)
    rw [hws] at this; exact this
  have hns : 0 ≤ ns ∧ ns ≤ 101 := by
    have := jsnap_n na da (recB N 0)
    rw [hws] at this; simp only at this; omega
  rw [hws] at hsn
  simp only at hsn
  have ha2 := jadd_fn bj bd ns ds x hds.ok (hds.app _).ok hx hns.1 (by omega)
  have hA : writeF ⟨n, N, d⟩ x = if ¬ ea = 19 ∨ na = 0 then (⟨na, N, da⟩, ea) else if ¬ es' = 0 then (⟨ns, N, ds⟩, es') else (⟨(jaddF ns ds x).1, N, (jaddF ns ds x).2.1⟩, (jaddF ns ds x).2.2) := by
    unfold writeF
    rw [hwa]
    simp only
    rw [hws]
  rw [hA]
  refine fn_enter Tryz.func140 (by rfl) (by rfl) ?_
  intro S0 w0
  show Sim _ _ [(0, pW bk), (1, bl x)] ((bk, ⟨tK, pW bj :: nodeC N (.sl false (N.log.map een)), 23⟩) :: JrH bj bd n d) _
  refine zC ?_
  apply cr
  refine s_ p_as ?_
  refine zC ?_
  apply cr
  refine s_ p_as ?_
  refine zC ?_
  apply cr
  refine s_ p_mv ?_
  refine s_ p_nc ?_
  refine s_ p_fr ?_
  refine s_ p_lo ?_
  refine e_cH (Hr := [_]) hc1 (List.perm_append_comm (l₁ := [_])) (fun r H' ⟨hr1, hr2⟩ => ?_)
  subst hr1 hr2
  refine from_perm List.perm_append_comm ?_
  refine s_ p_lt ?_
  refine zC ?_
  refine sim_cut [(0, pW bk), (1, bl x), (5, ei ea)] ((bk, ⟨tK, pW bj :: nodeC N (.sl false (N.log.map een)), 23⟩) :: JrH bj bd na da) ?_ ?_
  · refine ci ?_ ?_
    · intro hlt
      have hlt' : n < 16 := hlt
      have hw : jaddF n d x = (na, da, ea) := by rw [← hwa, wr1F, if_pos hlt']
      rw [hw] at ha1
      refine zC ?_
      apply cr
      refine s_ p_mv ?_
      refine s_ p_nc ?_
      refine s_ p_fr ?_
      refine s_ p_lo ?_
      refine s_ p_mv ?_
      refine e_cH (Hr := [_]) ha1 (List.perm_append_comm (l₁ := [_])) (fun r H' ⟨hr1, hr2⟩ => ?_)
      subst hr1 hr2
      refine from_perm List.perm_append_comm ?_
      refine s_ p_as ?_
      refine zC ?_
      exact ⟨eL, kR⟩
    · intro hlt
      have hlt' : ¬ n < 16 := hlt
      have hw : (n, d, (19 : Int)) = (na, da, ea) := by rw [← hwa, wr1F, if_neg hlt']
      simp only [Prod.mk.injEq] at hw
      obtain ⟨rfl, rfl, rfl⟩ := hw
      refine zC ?_
      exact ⟨eL, kR⟩
  by_cases hea : ea = 19
  · have hnn : ¬ ¬ ea = 19 := fun h => h hea
    refine zC ?_
    apply cr
    refine s_ p_mv ?_
    refine s_ p_ne ?_
    refine s_ p_mv ?_
    refine gF (fun hg => p_mv) ?_
    refine gF (fun hg => p_nc (hx := u_ hg)) ?_
    refine gF (fun hg => p_fr (hx := u_ hg)) ?_
    refine gF (fun hg => p_lo (hx := u_ hg)) ?_
    refine gF_cH (p := ¬ ea = 19) (Hr := [_]) hnn hc2 (List.perm_append_comm (l₁ := [_])) (fun r H' ⟨hr1, hr2⟩ => ?_) (ha' := evl_cons (u_ hnn) evl_nil)
    subst hr1 hr2
    refine from_perm List.perm_append_comm ?_
    refine gF (p := ¬ ea = 19) (fun hg => p_eq) ?_
    refine s_ p_or ?_
    refine zC ?_
    refine ci ?_ ?_
    · intro h
      rw [if_pos h]
      refine zC ?_
      apply cr
      refine s_ p_mv ?_
      refine s_ p_as ?_
      refine zC ?_
      refine zR ?_
      exact rh kR ⟨rfl, rfl⟩ (Le.refl _)
    intro h
    rw [if_neg h]
    refine zC ?_
    refine ca [0, 1, 2, 3, 4, 5, 6, 7, 8, 9, 10] [9] ?_
    refine a_ (fun _ => p_mv) ?_
    refine a_ (fun _ => p_nc) ?_
    refine a_ (fun _ => p_fr) ?_
    refine a_lo ?_
    refine a_ (fun _ => p_mv) ?_
    refine a_ (fun _ => p_nc) ?_
    refine a_ (fun _ => p_fr) ?_
    refine a_loa ?_
    refine a_ (fun _ => p_ca (hby)) ?_
    refine a_cHr (Hr := [_]) hsn (List.perm_append_comm (l₁ := [_])) (fun r H' ⟨hr1, hr2⟩ => ⟨?_, ?_⟩)
    · subst hr1 hr2; exact zd
    subst hr1 hr2
    refine zD ?_
    refine a_ (fun _ => p_as) ?_
    apply an
    refine zC ?_
    refine sim_perm List.perm_append_comm ?_
    refine zC ?_
    apply cr
    refine s_ p_mv ?_
    refine s_ p_ne ?_
    refine zC ?_
    refine ci ?_ ?_
    · intro he
      have he' : ¬ es' = 0 := he
      rw [if_pos he']
      refine zC ?_
      apply cr
      refine s_ p_mv ?_
      refine s_ p_as ?_
      refine zC ?_
      refine zR ?_
      exact rh kR ⟨rfl, rfl⟩ (Le.refl _)
    intro he
    have he' : ¬ ¬ es' = 0 := he
    rw [if_neg he']
    refine zC ?_
    apply cr
    refine s_ p_mv ?_
    refine s_ p_nc ?_
    refine s_ p_fr ?_
    refine s_ p_lo ?_
    refine s_ p_mv ?_
    refine e_cH (Hr := [_]) ha2 (List.perm_append_comm (l₁ := [_])) (fun r H' ⟨hr1, hr2⟩ => ?_)
    subst hr1 hr2
    refine from_perm List.perm_append_comm ?_
    refine s_ p_as ?_
    refine zC ?_
    refine zR ?_
    exact rh kR ⟨rfl, rfl⟩ (Le.refl _)
  · rw [if_pos (.inl hea)]
    refine zC ?_
    apply cr
    refine s_ p_mv ?_
    refine s_ p_ne ?_
    refine s_ p_mv ?_
    refine gF (fun hg => p_mv) ?_
    refine gF (fun hg => p_nc (hx := u_ hg)) ?_
    refine gF (fun hg => p_fr (hx := u_ hg)) ?_
    refine gF (fun hg => p_lo (hx := u_ hg)) ?_
    refine gF (p := ¬ ea = 19) (d := .any) (fun hg => absurd hea hg) ?_
    refine gF (p := ¬ ea = 19) (d := .v (.bool (decide False))) (fun hg => absurd hea hg) ?_
    refine s_ p_or ?_
    refine zC ?_
    refine ci ?_ ?_
    · intro _
      refine zC ?_
      apply cr
      refine s_ p_mv ?_
      refine s_ p_as ?_
      refine zC ?_
      refine zR ?_
      exact rh kR ⟨rfl, rfl⟩ (Le.refl _)
    · intro h; exact absurd (.inl hea) h
end Go.Proofs.YtjbokbikkcfjjaaGreat
end
