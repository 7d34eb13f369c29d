/-
  The document's replica: what most hold is committed.
-/
import Derived.Test.YtjbokbikkcfjjaaGreatAaw
set_option maxRecDepth 16000
set_option maxHeartbeats 8000000
set_option linter.all false
namespace Go.Proofs.YtjbokbikkcfjjaaGreat
open Go.Cap
attribute [local irreducible] POp Qi SO EOp Sim FnH T.gp
def BE (n : Nd) (conf : Int) (j : Nat) : Prop := (n.log.getD j default).term = n.term ∧ XK conf (X9 n.mtch (n.base + j + 1) 5) = true
theorem LF (n : Nd) (conf : Int) : ∀ k, n.commit ≤ X7 n conf k
 | 0 => Int.le_refl _
 | k + 1 => by
  have := LF n conf k
  rw [X7]
  split <;> omega
theorem ET {n : Nd} {conf x : Int} (hx : n.commit ≤ x) : ∀ k, (∀ j, j < k → BE n conf j → n.base + j + 1 ≤ x) → X7 n conf k ≤ x
 | 0, _ => hx
 | k + 1, h => by
  have := ET hx k (fun j hj hc => h j (by omega) hc)
  rw [X7]
  split
  ·rename_i hc
   have := h k (by omega) hc
   omega
  ·exact this
theorem NC {n : Nd} {conf : Int} : ∀ k j, j < k → BE n conf j → n.base + j + 1 ≤ X7 n conf k
 | 0, _, h, _ => absurd h (Nat.not_lt_zero _)
 | k + 1, j, h, hc => by
  rw [X7]
  rcases Nat.lt_or_ge j k with h1 | h1
  ·have := NC k j h1 hc
   split <;> omega
  ·have : j = k := by omega
   subst this
   have hc' : (n.log.getD j default).term = n.term ∧ XK conf (X9 n.mtch (n.base + j + 1) 5) = true := hc
   rw [if_pos hc']
   omega
theorem GF {n : Nd} (h0 : 0 ≤ n.base) {c : Int} (hc : n.base ≤ c) : Y0 n (Zp n (Qq n)) ≤ c ↔ (QA n).1 ≤ c := by
 rw [LM, Z4]
 unfold QA
 cases lc n.log n.log.length with
 | none => simp only; omega
 | some p => exact Iff.rfl
theorem UX {n : Nd} (hn : Bd n) (hb0 : 0 ≤ n.base) (hc0 : n.base ≤ n.commit) (hc1 : n.commit ≤ 1000000000000) : FnP Tryz.prog 152 [nd n] (fun r => r = nd (Q6 n)) := by
 have hlog := hn.log
 have hb1 := hn.base1
 have hi0 := hn.id0
 have hi5 := hn.id5
 have hL := Y2 n (by omega) (by omega) (by omega)
 generalize hcf : (QA n).2 = conf
 have hcc0 := hn.conf0
 have hcc1 := hn.conf1
 rw [hcf] at hcc0 hcc1
 have hC : ∀ cm, FnP Tryz.prog 59 [nd { n with commit := cm }] (fun r => r = ei conf) := fun cm => by
  have := Jf { n with commit := cm } (show n.log.length ≤ _ by omega) hb0 (show n.base ≤ _ by omega)
  rw [← hcf]; exact this
 have hP : ∀ cm, FnP Tryz.prog 122 [nd { n with commit := cm }, ei (Qq n)] (fun r => r = ei (Y0 n (Zp n (Qq n)))) := fun cm => by
  have := LY { n with commit := cm } (Qq n) (show n.log.length ≤ _ by omega) hb0 (show n.base ≤ _ by omega)
  have e : ∀ k, Y0 { n with commit := cm } k = Y0 n k := fun k => by rw [Z4, Z4]
  rw [e] at this; exact this
 have hI := Vb conf n.id hi0 hi5 hcc0 hcc1
 refine fe Tryz.func152 fun S0 w0 => ?_
 show Sim _ _ [(0, T.agg (Qg n (.sl false (n.log.map een))))] _ _
 refine zC ?_
 apply cr
 refine Xk fun b1 _ => ?_
 refine Xt fun b2 _ => ?_
 refine zC ?_
 refine cr <| s_ Qw <| s_ (Qr (hL)) <| s_ Qa <| s_ Qt <| s_ Qt <| s_ Qb <| s_ Qb <| zC ?_
 refine cr <| s_ Qa <| s_ Qb <| zC ?_
 have hla : Qq n = n.base + (n.log.length : Nat) := rfl
 apply Qm (σ := Nat × Int) (ok := fun s => s.1 ≤ n.log.length ∧ ((s.2 = n.commit ∧ ∀ k, s.1 ≤ k → k < n.log.length → ¬ BE n conf k) ∨ (s.2 = n.base + s.1 + 1 ∧ s.2 = X7 n conf n.log.length)))
  (env := fun s => [(5, ei (n.base + s.1)), (3, ei (Qq n)), (2, pN b2), (1, pN b1)]) (heap := fun s => [(b2, ⟨rN, Qg YK (.v (.slice none 0 0)), 22⟩), (b1, ⟨rN, Qg { n with commit := s.2 } (.sl false (n.log.map een)), 22⟩)]) (μ := fun s => s.1) (s0 := (n.log.length, n.commit))
 ·exact ⟨Nat.le_refl _, .inl ⟨rfl, fun k h1 h2 => by simp only at h1; omega⟩⟩
 ·exact eL
 ·exact kR
 rintro ⟨j, cm⟩ ⟨hj, hcm⟩
 simp only at hj hcm
 refine zC ?_
 refine cr <| s_ Qa <| s_ Qc <| s_ Ql <| s_ XX <| zC ?_
 refine ci ?_ ?_
 ·intro hgt
  have hcm : cm = n.commit ∧ ∀ k, j ≤ k → k < n.log.length → ¬ BE n conf k := by
   rcases hcm with h | h
   ·exact h
   ·have hgt' : cm < n.base + j := hgt
    omega
  obtain ⟨rfl, hnone⟩ := hcm
  have hgt' : n.commit < n.base + j := hgt
  obtain ⟨q, rfl⟩ : ∃ q, j = q + 1 := ⟨j - 1, by omega⟩
  refine zC ?_
  refine cr <| s_ Qb <| zC ?_
  refine cr <| s_ Qb <| zC ?_
  generalize hidx : n.base + ((q + 1 : Nat) : Int) = idx
  apply Qm (σ := Nat) (ok := fun k => k ≤ 5) (env := fun k => [(7, ei (k : Nat)), (6, ei (X9 n.mtch idx k)), (5, ei idx), (3, ei (Qq n)), (2, pN b2), (1, pN b1)]) (heap := fun _ => [(b2, ⟨rN, Qg YK (.v (.slice none 0 0)), 22⟩), (b1, ⟨rN, Qg n (.sl false (n.log.map een)), 22⟩)]) (μ := fun k => 5 - k) (s0 := 0)
  ·exact Nat.zero_le _
  ·exact eL
  ·exact kR
  intro k hk
  refine zC ?_
  refine cr <| s_ Qa <| s_ QN <| zC ?_
  refine ci ?_ ?_
  ·intro hlt
   have hk5 : k < 5 := by omega
   have hbd := U7 n.mtch idx k
   have hwj := Zn (x := (k : Nat)) (by omega) (by omega)
   have hor := Ig hk5 hbd.1 hbd.2
   refine zC ?_
   refine cr <| s_ Qa <| s_ Qc <| s_ Xp <| s_ (Ql (hd := We (to := (k : Nat)) (by omega) (by omega))) ?_
   rw [Int.toNat_natCast]
   refine s_ Qa <| s_ ZL <| zC ?_
   refine ci ?_ ?_
   ·intro hge
    have hs : X9 n.mtch idx (k + 1) = bOr .i64 (X9 n.mtch idx k) (ZP .i64 1 (IntKind.u64.wrap k)) := by rw [hor, X9, if_pos hge]
    refine zC ?_
    refine cr <| s_ Qa <| s_ Qa <| s_ YG <| s_ J0 <| s_ Vx <| s_ Qb <| zC ?_
    refine cr <| s_ Qa <| s_ QQ <| s_ Qb <| zC ?_
    exact ⟨k + 1, by omega, by show 5 - (k + 1) < 5 - k; omega, ⟨Qh (by rfl) (Le.refl _), Qh (by (exact zG)) (Le.of_eq (by rw [hs]; rfl)), eL⟩, kR⟩
   ·intro hge
    have hs : X9 n.mtch idx (k + 1) = X9 n.mtch idx k := by rw [X9, if_neg hge]; omega
    refine zC ?_
    refine cr <| s_ Qa <| s_ QQ <| s_ Qb <| zC ?_
    exact ⟨k + 1, by omega, by show 5 - (k + 1) < 5 - k; omega, ⟨Qh (by rfl) (Le.refl _), Qh (by (exact zG)) (Le.of_eq (by rw [hs])), eL⟩, kR⟩
  ·intro hlt
   have hk5 : k = 5 := by omega
   subst hk5
   have hbd := U7 n.mtch idx 5
   have hM := LV (X9 n.mtch idx 5) conf hbd.1 (by omega) hcc0 hcc1
   have hC0 := hC n.commit
   have hT := Zy n idx (by omega) (by simp only [big]; omega) (by simp only [big]; omega) (by simp only [big]; omega) (by simp only [big]; omega)
   have hte : Xm n idx = (n.log.getD q default).term := by
    rw [Xm, if_neg (by omega), if_neg (by omega), show (idx - n.base - 1).toNat = q by omega]
   rw [hte] at hT
   have hix1 : n.base + (q : Int) + 1 = idx := by omega
   refine zC ?_
   refine ca [0, 1, 2, 3, 4, 5, 6, 7, 8, 9, 10, 11] [] <| a_ (fun _ => Qa) <| QR ?_
   refine a_ (fun _ => Qr (hC0)) <| a_ (fun _ => Qr (hM)) <| a_ (fun _ => Qa) ?_
   refine LH ?_
   refine QI (fun _ hg => Qa) ?_
   refine QI (fun _ hg => Qr (hT) (ha' := by apply Qu (u_ hg); apply Qu (u_ hg); exact Xh)) ?_
   refine QI (fun _ hg => Qc) ?_
   refine Zt ?_
   refine QI (fun _ hg => Q5 (hx := u_ hg) (hy := u_ hg)) ?_
   refine a_ (fun _ => Xv) ?_
   apply an
   refine zC ?_
   refine ci ?_ ?_
   ·intro hc
    have hcc : BE n conf q := ⟨hc.2, by rw [hix1]; exact hc.1⟩
    have hmax : idx = X7 n conf n.log.length := by
     refine Int.le_antisymm ?_ (ET (by omega) _ fun k h1 h2 => ?_)
     ·have := NC n.log.length q (by omega) hcc
      omega
     ·rcases Nat.lt_or_ge q k with h3 | h3
      ·exact absurd h2 (hnone k h3 h1)
      ·omega
    refine zC ?_
    refine cr <| s_ Qa <| s_ Qc <| Qn ?_
    refine zC ?_
    refine cr <| s_ Qa <| s_ Yr <| s_ Qb <| zC ?_
    exact ⟨(q, idx), ⟨by simp only; omega, .inr ⟨by simp only; omega, hmax⟩⟩, by show q < q + 1; omega, ⟨Qh (by rfl) (Le.of_eq (show ei (idx - 1) = ei (n.base + (q : Nat)) from congrArg ei (by omega))), eL⟩, kR⟩
   ·intro hc
    have hcc : ¬ BE n conf q := fun h => hc ⟨by have := h.2; rw [hix1] at this; exact this, h.1⟩
    refine zC ?_
    refine cr <| s_ Qa <| s_ Yr <| s_ Qb <| zC ?_
    refine ⟨(q, n.commit), ⟨by simp only; omega, .inl ⟨rfl, fun k h1 h2 => ?_⟩⟩, by show q < q + 1; omega, ⟨Qh (by rfl) (Le.of_eq (show ei (idx - 1) = ei (n.base + (q : Nat)) from congrArg ei (by omega))), eL⟩, kR⟩
    rcases Nat.lt_or_ge q k with h3 | h3
    ·exact hnone k h3 h2
    ·have : k = q := by simp only at h1; omega
     rw [this]; exact hcc
 ·intro hgt
  have hgt' : ¬ cm < n.base + j := hgt
  have hcm : cm = X7 n conf n.log.length := by
   rcases hcm with ⟨h1, h2⟩ | ⟨_, h⟩
   ·rw [h1]
    refine Int.le_antisymm (LF _ _ _) (ET (Int.le_refl _) _ fun k h3 h4 => ?_)
    rcases Nat.lt_or_ge k j with h5 | h5
    ·omega
    ·exact absurd h4 (h2 k h5 h3)
   ·exact h
  have hCx := hC cm
  have hPx := hP cm
  refine zC ?_
  refine ca [0, 1, 2, 3, 4, 5, 6, 7, 8, 9, 10, 11, 12, 13] [] <| QR ?_
  refine a_ (fun _ => Qr (hCx)) <| a_ (fun _ => Qc) <| Qv ?_
  refine a_ (fun _ => Qr (hI)) <| a_ (fun _ => Yb) <| a_ (fun _ => Qa) ?_
  refine LH ?_
  refine QI (fun _ hg => Qa) ?_
  refine QI (fun _ hg => Qr (hPx) (ha' := by apply Qu (u_ hg); apply Qu (u_ hg); exact Xh)) ?_
  refine QI (fun _ hg => Qc) ?_
  refine Zt ?_
  refine QI (fun _ hg => Ej (hx := u_ hg) (hy := u_ hg)) ?_
  refine a_ (fun _ => Xv) ?_
  apply an
  refine zC ?_
  have hpl := GF (n := n) hb0 (c := cm) (by rw [hcm]; have := LF n conf n.log.length; omega)
  refine ci ?_ ?_
  ·intro hc
   refine zC ?_
   refine cr <| s_ Qc <| Qn ?_
   refine s_ Qc <| Qn ?_
   refine zC ?_
   refine cr <| s_ Qw <| Qn ?_
   refine zC ?_
   refine zE ?_
   have e : Q6 n = { n with commit := cm, role := 0, wait := 0 } := by
    rw [Q6, hcf, ← hcm, if_pos ⟨hc.1, hpl.1 hc.2⟩]
   rw [e]
   exact Le.refl _
  ·intro hc
   refine zC ?_
   refine cr <| s_ Qw <| Qn ?_
   refine zC ?_
   refine zE ?_
   have e : Q6 n = { n with commit := cm } := by
    rw [Q6, hcf, ← hcm, if_neg fun h => hc ⟨h.1, hpl.2 h.2⟩]
   rw [e]
   exact Le.refl _
theorem Ds {n : Nd} {lg : T} {i : Int} (h0 : 0 ≤ i) (h5 : i < 5) (v : Int) : lay (Qg n lg) (0 + 12 + i.toNat * 1) (ei v).cells = Qg { n with next := n.next.set i.toNat v } lg := by
 rcases five h0 h5 with rfl | rfl | rfl | rfl | rfl <;> rfl
theorem Vd {n : Nd} {lg : T} {i : Int} (h0 : 0 ≤ i) (h5 : i < 5) (v : Int) : lay (Qg n lg) (0 + 17 + i.toNat * 1) (ei v).cells = Qg { n with mtch := n.mtch.set i.toNat v } lg := by
 rcases five h0 h5 with rfl | rfl | rfl | rfl | rfl <;> rfl
theorem Ro {n : Nd} {lg : T} {i : Int} (h0 : 0 ≤ i) (h5 : i < 5) (v : Int) : lay (Qg n lg) (0 + 17 + i.toNat * 1) (T.v (.int .i64 v)).cells = Qg { n with mtch := n.mtch.set i.toNat v } lg := Vd h0 h5 v
theorem ZA (n : Nd) (lg : T) : (Qg n lg).length = 22 := rfl
theorem ES (n : Nd) (h : n.commit ≤ Qq n) : (Q6 n).commit ≤ Qq n ∧ n.commit ≤ (Q6 n).commit := by
 have h1 := ET (conf := (QA n).2) h n.log.length (fun j hj _ => by simp only [Qq]; omega)
 have h2 := LF n (QA n).2 n.log.length
 unfold Q6
 split <;> exact ⟨h1, h2⟩
theorem Rd.commit {n : Nd} (h : Rd n) : Rd (Q6 n) := by
 have h1 := ES n h.c1
 have h2 := h.bd.commit
 obtain ⟨c, r, w, e⟩ := Jm n
 have h0 := h.c0
 have hb := h.b0
 rw [e] at h1 h2 ⊢
 exact ⟨h2, hb, by simp only at h1 ⊢; omega, h1.1⟩
theorem Rd.lead {n : Nd} (h : Rd n) (hl : n.log.length < 100000000) : Rd (Yz n) :=
 ⟨h.bd.lead hl, h.b0, h.c0, by have := h.c1; simp only [Qq, Yz, List.length_append, List.length_singleton] at *; omega⟩
theorem Rn (n : Nd) : Qq (Xy n) = Qq n + 1 := by
 obtain ⟨c, r, w, e⟩ := Jm (Yz n)
 rw [Xy, e]
 simp only [Qq, Yz, List.length_append, List.length_singleton]
 omega
theorem Va (n : Nd) {x y : T} (h : Le x y) : LeL (Qg n x) (Qg n y) := by
 unfold Qg
 repeat (first | exact LeL.nil | (refine LeL.cons h ?_) | (refine LeL.cons (Le.refl _) ?_))
theorem Dq {n : Nd} (hn : Rd n) (hl : n.log.length < 100000000) : FnP Tryz.prog 114 [nd n] (fun r => r = .tup [nd (Xy n), mss (XJ (Xy n) (Y4 (Xy n)) 5)]) := by
 have hsz := hn.sz
 have hb0 := hn.b0
 have hi0 := hn.bd.id0
 have hi5 := hn.bd.id5
 have hc0 := hn.c0
 have hRl := hn.lead hl
 have hL := Y2 { n with role := 2, log := n.log ++ [⟨n.term, 0, []⟩] } (by simp; omega) (by simp only; omega) (by simp only; omega)
 have hCm := UX hRl.bd hRl.b0 hRl.c0 (by have := hRl.sz; omega)
 have fS := Gc hRl.commit (fun to _ => by
  have h1 := Mg (n := n) (i := to)
  have h2 := Rn n
  unfold Xy at h1 h2
  rw [h1, h2]
  simp only [Qq]
  omega)
 refine fe Tryz.func114 fun S0 w0 => ?_
 show Sim _ _ [(0, T.agg (Qg n (.sl false (n.log.map een))))] _ _
 refine zC ?_
 apply cr
 refine Xk fun b1 _ => ?_
 refine Xt fun b2 _ => ?_
 refine s_ Qb <| zC ?_
 refine cr <| s_ Qc <| Qn ?_
 refine zC ?_
 refine Y8 [(3, .v (.slice none 0 0)), (2, pN b2), (1, pN b1)] [(b2, ⟨rN, Qg YK (.v (.slice none 0 0)), 22⟩), (b1, ⟨rN, Qg { n with role := 2, log := n.log ++ [⟨n.term, 0, []⟩] } (.sl false ((n.log ++ [(⟨n.term, 0, []⟩ : En)]).map een)), 22⟩)] ?_ ?_
 ·by_cases hz : n.log = []
  ·refine zC ?_
   refine ca [0, 1, 2, 3, 4, 5, 6, 7, 8, 9, 10] [10] <| a_ (fun _ => XS) <| a_ (fun _ => Qc) <| Qv ?_
   refine a_ (fun _ => GJ (hyl := Le.of_eq (by rw [hz]; rfl))) <| a_ (fun _ => Qc) <| Qv ?_
   refine a_ (fun _ => YH 3 [_, _, _]) <| a_ (fun _ => XS) <| a_ (fun _ => CU) <| a_ (fun _ => Qc) <| Q2 ?_
   apply an
   refine zC ?_
   exact ⟨eL, kK (kK kN (Va { n with role := 2, log := n.log ++ [⟨n.term, 0, []⟩] } (Le.of_eq (by rw [hz]; rfl)))) (LeL.refl _)⟩
  ·have hzl : 0 < n.log.length := List.length_pos_iff.2 hz
   refine zC ?_
   refine ca [0, 1, 2, 4, 5, 6, 7, 3, 8, 9, 10] [3, 8, 10] <| a_ (fun _ => XS) <| a_ (fun _ => Qc) <| Qv ?_
   refine a_ (fun _ => Qc) <| Qv ?_
   refine a_ (fun _ => YH 3 [_, _, _]) <| a_ (fun _ => XS) ?_
   refine SI (e := rE) (k := 3) (fun v' Hl h1 => ⟨zd, ?_⟩)
   refine zD ?_
   refine H8 (ho := h1) (A := []) (B := [_, _]) (zk) ?_ ⟨zd, ?_⟩
   ·intro x hx
    simp only [List.nil_append] at hx
    rcases List.mem_append.1 hx with h | h
    ·exact WV _ x h
    ·rw [List.mem_singleton.1 h]; exact .inr ⟨_, rfl⟩
   refine zD ?_
   refine a_ (fun _ => Qc) <| Q2 ?_
   apply an
   refine zC ?_
   exact ⟨eL, kK (kK kN (Va { n with role := 2, log := n.log ++ [⟨n.term, 0, []⟩] } (Le.of_eq (by rw [List.map_append]; rfl)))) (LeL.refl _)⟩
 have hLF : Qq { n with role := 2, log := n.log ++ [⟨n.term, 0, []⟩] } = n.base + (n.log.length + 1) := by simp [Qq]
 rw [hLF] at hL
 refine zC ?_
 refine cr <| s_ Qw <| s_ (Qr (hL)) <| s_ Qa <| s_ Qt <| s_ Qt <| s_ Qb <| s_ Qb <| zC ?_
 refine cr <| s_ Qb <| zC ?_
 generalize hv : n.base + ((n.log.length : Int) + 1) = v
 apply Qm (σ := Nat) (ok := fun k => k ≤ 5) (env := fun k => [(6, ei (k : Nat)), (4, ei v), (3, .v (.slice none 0 0)), (2, pN b2), (1, pN b1)])
  (heap := fun k => [(b2, ⟨rN, Qg YK (.v (.slice none 0 0)), 22⟩), (b1, ⟨rN, Qg { n with role := 2, log := n.log ++ [⟨n.term, 0, []⟩], next := UT n.next v k, mtch := UT n.mtch 0 k } (.sl false ((n.log ++ [(⟨n.term, 0, []⟩ : En)]).map een)), 22⟩)]) (μ := fun k => 5 - k) (s0 := 0)
 ·exact Nat.zero_le _
 ·exact eL
 ·exact kR
 intro k hk
 refine zC ?_
 refine cr <| s_ Qa <| s_ QN <| zC ?_
 refine ci ?_ ?_
 ·intro hlt
  have hk5 : k < 5 := by omega
  refine zC ?_
  refine cr <| s_ Qa <| s_ Qa <| s_ Qa <| s_ Qc <| s_ Xp ?_
  refine Hf ?_ ?_
  ·simp only [ZA, Y7]; omega
  rw [Ds (by omega) (by omega), Int.toNat_natCast]
  refine s_ Qc <| s_ Xp ?_
  refine Hf ?_ ?_
  ·simp only [ZA, T.cells, Value.cells]; simp; omega
  rw [Ro (by omega) (by omega), Int.toNat_natCast]
  refine zC ?_
  refine cr <| s_ Qa <| s_ QQ <| s_ Qb <| zC ?_
  exact ⟨k + 1, by omega, by show 5 - (k + 1) < 5 - k; omega, ⟨Qh (by rfl) (Le.refl _), eL⟩, kR⟩
 ·intro hlt
  have : k = 5 := by omega
  subst this
  refine zC ?_
  refine cr <| s_ Qc <| s_ Ql <| s_ Qa <| s_ Qc <| s_ Xp ?_
  refine Hf ?_ ?_
  ·simp only [ZA, Y7]; omega
  rw [Vd hi0 hi5]
  have hm : { n with role := 2, log := n.log ++ [⟨n.term, 0, []⟩], next := UT n.next v 5, mtch := (UT n.mtch 0 5).set n.id.toNat v } = Yz n := by
   rw [Yz, hv]
   rcases five hi0 hi5 with h | h | h | h | h <;> rw [h] <;> rfl
  rw [hm]
  refine zC ?_
  refine cr <| s_ Qw <| s_ (Qr (hCm)) <| Qn ?_
  refine zC ?_
  refine ca [0, 1, 2, 3, 4] [3] <| QR ?_
  refine QR ?_
  refine a_ (fun _ => Qr (fS)) <| Q2 ?_
  refine a_ (fun _ => Qb) ?_
  apply an
  refine zC ?_
  refine zE ?_
  exact Le.refl _
theorem Rd.put {n : Nd} {e : En} (h : Rd n) (hl : n.log.length < 100000000) (h0 : 0 ≤ e.conf) (h1 : e.conf ≤ 31) : Rd (JG n e) :=
 ⟨h.bd.put hl h0 h1, h.b0, h.c0, by have := h.c1; simp only [Qq, JG, List.length_append, List.length_singleton] at *; omega⟩
theorem IG {n : Nd} (e : En) (hn : Rd n) (hl : n.log.length < 100000000) (hc0 : 0 ≤ e.conf) (hc1 : e.conf ≤ 31) : FnP Tryz.prog 120 [nd n, een ⟨n.term, e.conf, e.cmd⟩] (fun r => r = .tup [nd (UA n e), ei (n.base + (n.log.length + 1))]) := by
 have hsz := hn.sz
 have hb0 := hn.b0
 have hi0 := hn.bd.id0
 have hi5 := hn.bd.id5
 have hRl := hn.put hl hc0 hc1
 have hL := Y2 { n with log := n.log ++ [⟨n.term, e.conf, e.cmd⟩] } (by simp; omega) (by simp only; omega) (by simp only; omega)
 have hCm := UX hRl.bd hRl.b0 hRl.c0 (by have := hRl.sz; omega)
 refine fe Tryz.func120 fun S0 w0 => ?_
 show Sim _ _ [(0, T.agg (Qg n (.sl false (n.log.map een)))), (1, .agg [ei n.term, ei e.conf, es e.cmd])] _ _
 refine zC ?_
 apply cr
 refine Xk fun b2 _ => ?_
 refine Xk fun b3 _ => ?_
 refine Xt fun b4 _ => ?_
 refine s_ Qb <| zC ?_
 refine Y8 [(4, pN b4), (2, pN b2)] [(b4, ⟨rN, Qg YK (.v (.slice none 0 0)), 22⟩), (b2, ⟨rN, Qg { n with log := n.log ++ [⟨n.term, e.conf, e.cmd⟩] } (.sl false ((n.log ++ [(⟨n.term, e.conf, e.cmd⟩ : En)]).map een)), 22⟩)] ?_ ?_
 ·by_cases hz : n.log = []
  ·refine zC ?_
   refine ca [0, 1, 2, 3, 4, 5, 6, 7, 8] [8] <| a_ (fun _ => XS) <| a_ (fun _ => Qc) <| Qv ?_
   refine a_ (fun _ => GJ (hyl := Le.of_eq (by rw [hz]; rfl))) <| QR ?_
   refine a_ (fun _ => XS) <| a_ (fun _ => CU) <| a_ (fun _ => Qc) <| Q2 ?_
   apply an
   refine zC ?_
   exact ⟨eL, kK (kS (kK kN (Va { n with log := n.log ++ [⟨n.term, e.conf, e.cmd⟩] } (Le.of_eq (by rw [hz]; rfl))))) (LeL.refl _)⟩
  ·have hzl : 0 < n.log.length := List.length_pos_iff.2 hz
   refine zC ?_
   refine ca [0, 1, 2, 4, 5, 3, 6, 7, 8] [3, 6, 8] <| a_ (fun _ => XS) <| a_ (fun _ => Qc) <| Qv ?_
   refine QR ?_
   refine a_ (fun _ => XS) ?_
   refine SI (e := rE) (k := 3) (fun v' Hl h1 => ⟨zd, ?_⟩)
   refine zD ?_
   refine H8 (ho := h1) (A := []) (B := [_, _, _]) (zk) ?_ ⟨zd, ?_⟩
   ·intro x hx
    simp only [List.nil_append] at hx
    rcases List.mem_append.1 hx with h | h
    ·exact WV _ x h
    ·rw [List.mem_singleton.1 h]; exact .inr ⟨_, rfl⟩
   refine zD ?_
   refine a_ (fun _ => Qc) <| Q2 ?_
   apply an
   refine zC ?_
   exact ⟨eL, kK (kS (kK kN (Va { n with log := n.log ++ [⟨n.term, e.conf, e.cmd⟩] } (Le.of_eq (by rw [List.map_append]; rfl))))) (LeL.refl _)⟩
 have hLF : Qq { n with log := n.log ++ [⟨n.term, e.conf, e.cmd⟩] } = n.base + (n.log.length + 1) := by simp [Qq]
 rw [hLF] at hL
 refine zC ?_
 refine cr <| s_ Qw <| s_ (Qr (hL)) <| s_ Qa <| s_ Qt <| s_ Qt <| s_ Qb <| s_ Qb <| zC ?_
 refine cr <| s_ Qc <| s_ Ql <| s_ Qa <| s_ Qc <| s_ Xp ?_
 refine Hf ?_ ?_
 ·simp only [ZA, Y7]; omega
 rw [Vd hi0 hi5]
 have hm : { n with log := n.log ++ [⟨n.term, e.conf, e.cmd⟩], mtch := n.mtch.set n.id.toNat (n.base + ((n.log.length : Int) + 1)) } = JG n e := rfl
 rw [hm]
 refine zC ?_
 refine cr <| s_ Qw <| s_ (Qr (hCm)) <| s_ Qa <| Qn ?_
 refine s_ Qb <| zC ?_
 refine zE ?_
 exact Le.refl _
theorem Rd.of {n n' : Nd} (h : Rd n) (h1 : n'.id = n.id := by rfl) (h2 : n'.log = n.log := by rfl) (h3 : n'.base = n.base := by rfl) (h4 : n'.baseConf = n.baseConf := by rfl) (h5 : n'.commit = n.commit := by rfl) : Rd n' :=
 ⟨h.bd.of h1 h2 h3 h4, by rw [h3]; exact h.b0, by rw [h3, h5]; exact h.c0, by rw [h5]; simp only [Qq, h2, h3]; exact h.c1⟩
theorem Rf (m : Ms) (h : m.entries = []) : Le (.agg (msC m (.v (.slice none 0 0)))) (ms m) := by
 unfold ms XZ
 rw [h]
 refine Le.agg ?_
 unfold msC
 repeat (first | exact LeL.nil | (refine LeL.cons (Le.nil _) ?_) | (refine LeL.cons (Le.refl _) ?_))
def Lf (n : Nd) (to : Int) : Ms := QW (Qy n) to (Vt (Qq n) (termF n (Qq n)))
theorem AY {n : Nd} (hn : Rd n) (hl : n.log.length < 100000000) (ht0 : 0 ≤ n.term) (ht1 : n.term ≤ 1000000000000) (hw0 : 0 ≤ n.wait) (hw1 : n.wait ≤ 1000000000) (hx : n.role = 2 → ∀ to, to < 5 → n.next.get to ≤ Qq n + 1) :
  FnP Tryz.prog 80 [nd n] (fun r => r = .tup [nd (Xi n).1, mss (Xi n).2]) := by
 have hsz := hn.sz
 have hb0 := hn.b0
 have hi0 := hn.bd.id0
 have hi5 := hn.bd.id5
 have hc0 := hn.bd.conf0
 have hc1 := hn.bd.conf1
 have fC := Jf n hsz.1 hb0 (by omega)
 have fI := Vb (QA n).2 n.id hi0 hi5 hc0 hc1
 refine fe Tryz.func80 fun S0 w0 => ?_
 show Sim _ _ [(0, T.agg (Qg n (.sl false (n.log.map een))))] _ _
 refine zC ?_
 apply cr
 refine Xk fun b1 _ => ?_
 refine Xt fun b2 _ => ?_
 refine s_ Qb <| zC ?_
 refine cr <| s_ Qc <| s_ Ql <| s_ Q5 <| zC ?_
 refine ci ?_ ?_
 ·intro hr
  have fS := Gc hn (hx hr)
  refine zC ?_
  refine ca [0, 1, 2, 3, 4] [3] <| QR ?_
  refine QR ?_
  refine a_ (fun _ => Qr (fS)) <| Q2 ?_
  refine a_ (fun _ => Qb) ?_
  apply an
  refine zC ?_
  refine zE ?_
  rw [Xi, if_pos hr]
  exact Le.refl _
 intro hr
 refine zC ?_
 refine ca [0, 1, 2, 3, 4, 5] [] <| QR ?_
 refine a_ (fun _ => Qr (fC)) <| a_ (fun _ => Qc) <| Qv ?_
 refine a_ (fun _ => Qr (fI)) <| a_ (fun _ => Yb) ?_
 apply an
 refine zC ?_
 refine ci ?_ ?_
 ·intro hm
  refine zC ?_
  refine cr <| s_ Qw <| Qn ?_
  refine s_ Qb <| zC ?_
  refine zE ?_
  rw [Xi, if_neg hr, if_pos hm]
  exact Le.tup (LeL.cons (Le.refl _) (LeL.cons (Le.nil _) LeL.nil))
 intro hm
 have hn1 : Rd { n with wait := n.wait + 1 } := hn.of
 refine zC ?_
 refine cr <| s_ Qc <| s_ Ql <| s_ QQ <| s_ Qc <| Qn ?_
 refine zC ?_
 refine cr <| s_ Qc <| s_ Ql <| s_ Qc <| s_ Ql <| s_ Tl <| s_ QQ <| s_ QN <| s_ Qa <| gF (fun hg => Qc) ?_
 refine gF (fun hg => Ql (hx := u_ hg)) ?_
 refine gF (fun hg => ZL (hx := u_ hg)) ?_
 refine s_ XC <| zC ?_
 refine ci ?_ ?_
 ·intro hs
  refine zC ?_
  refine cr <| s_ Qw <| Qn ?_
  refine s_ Qb <| zC ?_
  refine zE ?_
  have hs' : ¬ (5 + 3 * n.id ≤ n.wait + 1 ∧ n.term < 1073741824) := by
   have h1 : n.wait + 1 < 5 + 3 * n.id ∨ 1073741824 ≤ n.term := hs
   omega
  rw [Xi, if_neg hr, if_neg hm, if_neg hs']
  exact Le.tup (LeL.cons (Le.refl _) (LeL.cons (Le.nil _) LeL.nil))
 intro hs
 have hs' : 5 + 3 * n.id ≤ n.wait + 1 ∧ n.term < 1073741824 := by
  have h1 : ¬ (n.wait + 1 < 5 + 3 * n.id ∨ 1073741824 ≤ n.term) := hs
  omega
 have hsh : ZP .i64 1 (IntKind.u64.wrap n.id) = 2 ^ n.id.toNat ∧ 0 ≤ (2 : Int) ^ n.id.toNat ∧ (2 : Int) ^ n.id.toNat ≤ 31 := by
  rcases five hi0 hi5 with h | h | h | h | h <;> rw [h] <;> decide
 have hwi : IntKind.u64.wrap n.id = n.id := Zn hi0 (by omega)
 have hn2 : Rd (Qy { n with wait := n.wait + 1 }) := hn.of
 have fC2 := Jf (Qy { n with wait := n.wait + 1 }) (show n.log.length ≤ _ from hsz.1) hb0 (show n.base ≤ _ by omega)
 have fM2 := LV (2 ^ n.id.toNat) (QA n).2 hsh.2.1 hsh.2.2 hc0 hc1
 have fL2 := Y2 (Qy { n with wait := n.wait + 1 }) (show n.log.length ≤ _ from hsz.1) (show _ ≤ n.base by omega) (show n.base ≤ _ by omega)
 have fD2 := Dq hn2 hl
 refine zC ?_
 refine cr <| s_ Qc <| s_ Ql <| s_ QQ <| s_ Qc <| s_ Ql <| s_ Qc <| s_ Ql <| s_ YG <| s_ J0 <| s_ Qc <| Qn ?_
 refine s_ Qc <| Qn ?_
 refine s_ Qc <| Qn ?_
 refine s_ Qc <| Qn ?_
 refine s_ Qc <| Qn ?_
 refine zC ?_
 rw [hsh.1]
 refine zC ?_
 refine ca [0, 1, 2, 3, 4] [] <| a_ (fun _ => Qc) <| Qv ?_
 refine QR ?_
 refine a_ (fun _ => Qr (fC2)) <| a_ (fun _ => Qr (fM2)) ?_
 apply an
 refine zC ?_
 refine ci ?_ ?_
 ·intro hc
  refine zC ?_
  refine cr <| s_ Qw <| s_ (Qr (fD2)) <| s_ Qt <| s_ Qt <| Qn ?_
  refine s_ Qb <| zC ?_
  refine zE ?_
  have e : Yl { n with wait := n.wait + 1 } = (Xy (Qy { n with wait := n.wait + 1 }), XJ (Xy (Qy { n with wait := n.wait + 1 })) (Y4 (Xy (Qy { n with wait := n.wait + 1 }))) 5) := by
   unfold Yl
   exact if_pos hc
  rw [Xi, if_neg hr, if_neg hm, if_pos hs', e]
  exact Le.refl _
 intro hc
 refine zC ?_
 refine cr <| s_ Qw <| s_ (Qr (fL2)) <| s_ Qa <| s_ Qt <| s_ Qt <| s_ Qb <| s_ Qb <| zC ?_
 refine cr <| s_ Qb <| zC ?_
 refine cr <| s_ Qb <| zC ?_
 apply Qm (σ := Nat × Value × Qd) (ok := fun s => s.1 ≤ 5 ∧ ∃ Ho, OSl rM 11 ((XJ (Qy { n with wait := n.wait + 1 }) (Lf { n with wait := n.wait + 1 }) s.1).map ms) s.2.1 Ho ∧ s.2.2 = Ho ++ [(b2, ⟨rN, Qg YK (.v (.slice none 0 0)), 22⟩), (b1, ⟨rN, Qg (Qy { n with wait := n.wait + 1 }) (.sl false (n.log.map een)), 22⟩)])
  (env := fun s => [(7, ei (s.1 : Nat)), (6, .v s.2.1), (5, ei (termF n (Qq n))), (4, ei (Qq n)), (3, .v (.slice none 0 0)), (2, pN b2), (1, pN b1)]) (heap := fun s => s.2.2) (μ := fun s => 5 - s.1) (s0 := (0, .slice none 0 0, _))
 ·exact ⟨Nat.zero_le _, [], YE, rfl⟩
 ·exact eL
 ·exact kR
 rintro ⟨k, v, H⟩ ⟨hk, Ho, h1, hH⟩
 simp only at hk h1 hH
 subst hH
 obtain ⟨p, c, rfl⟩ := OSl.len h1
 refine zC ?_
 refine cr <| s_ Qa <| s_ QN <| zC ?_
 refine ci ?_ ?_
 ·intro hlt
  have hk5 : k < 5 := by omega
  have fM := Vb (QA n).2 (k : Nat) (by omega) (by omega) hc0 hc1
  refine zC ?_
  refine cr <| s_ Qa <| s_ Qc <| s_ Ql <| s_ XE <| s_ Qa <| gT (fun hg => Qw) ?_
  refine gT (fun hg => Qr (fC2) (ha' := by apply Qu (u_ hg); exact Xh)) ?_
  refine gT (fun hg => Qa) ?_
  refine gT (fun hg => Qr (fM) (ha' := by apply Qu (u_ hg); apply Qu (u_ hg); exact Xh)) ?_
  refine s_ Xv <| zC ?_
  refine ci ?_ ?_
  ·intro hd
   have hmm : Mc (Qy { n with wait := n.wait + 1 }) k = true := (Wi _ k).2 hd
   have hlen := JR (Qy { n with wait := n.wait + 1 }) (Lf { n with wait := n.wait + 1 }) k
   refine zC ?_
   refine cr <| s_ Qa <| s_ Qc <| s_ Ql <| s_ Qa <| s_ Qc <| s_ Ql <| s_ Qa <| s_ Qa <| s_ (YH 11 [_, _, _, _, _, _, _, _, _, _, _]) <| s_ XS ?_
   refine Ot (ho := h1) (A := []) (B := [_, _]) (ys := [ms (Lf { n with wait := n.wait + 1 } (k : Nat))]) (f := true) (ZX _) (fun v' H' h1' => ?_) (hyl := Le.sl (LeL.cons (Rf (Lf { n with wait := n.wait + 1 } (k : Nat)) rfl) LeL.nil) (fun h => h)) (hky := ZX [_]) (hyleaf := by intro x hx; rw [List.mem_singleton.1 hx]; rfl)
   have h1 : OSl rM 11 ((XJ (Qy { n with wait := n.wait + 1 }) (Lf { n with wait := n.wait + 1 }) (k + 1)).map ms) v' H' := by
    rw [Zx, if_pos hmm, List.map_append]; exact h1'
   clear h1'
   obtain ⟨p, c, rfl⟩ := OSl.len h1
   refine s_ Qb <| zC ?_
   refine cr <| s_ Qa <| s_ QQ <| s_ Qb <| zC ?_
   exact ⟨(k + 1, _, _), ⟨by simp only; omega, H', h1, rfl⟩, by show 5 - (k + 1) < 5 - k; omega, ⟨Qh (by rfl) (Le.refl _), Qh (by (exact zG)) (Le.refl _), eL⟩, kR⟩
  ·intro hd
   have hmm : ¬ Mc (Qy { n with wait := n.wait + 1 }) k = true := fun h => hd ((Wi _ k).1 h)
   refine zC ?_
   refine cr <| s_ Qa <| s_ QQ <| s_ Qb <| zC ?_
   exact ⟨(k + 1, .slice p ((XJ (Qy { n with wait := n.wait + 1 }) (Lf { n with wait := n.wait + 1 }) k).map ms).length c, _), ⟨by simp only; omega, Ho, by simp only; rw [Zx, if_neg hmm, List.append_nil]; exact h1, rfl⟩, by show 5 - (k + 1) < 5 - k; omega, ⟨Qh (by rfl) (Le.refl _), eL⟩, kR⟩
 ·intro hlt
  have hk5 : k = 5 := by omega
  subst hk5
  refine zC ?_
  refine GQ (G := Ho) (H1 := [(b2, _), (b1, _)]) 6 (mss (XJ (Qy { n with wait := n.wait + 1 }) (Lf { n with wait := n.wait + 1 }) 5)) (OSl.lend h1 (fun _ h => h) (ZX _) (ID _)) (List.Perm.refl _) ?_
  refine zC ?_
  refine cr <| s_ Qw <| s_ Qa <| Qn ?_
  refine s_ Qb <| zC ?_
  refine zE ?_
  have e : Yl { n with wait := n.wait + 1 } = (Qy { n with wait := n.wait + 1 }, XJ (Qy { n with wait := n.wait + 1 }) (Lf { n with wait := n.wait + 1 }) 5) := by
   unfold Yl
   exact if_neg hc
  rw [Xi, if_neg hr, if_neg hm, if_pos hs', e]
  exact Le.refl _
theorem Ug {n n' : Nd} {y : T} {m : Ms} (hn : n = n') (hm : m.entries = []) (hy : y = .agg (msC m (.v (.slice none 0 0)))) : Le (Yv [nd n, .sl true [y]]) (.tup [nd n', mss [m]]) := by
 subst hn hy
 exact Le.tup (LeL.cons (Le.refl _) (LeL.cons (Le.sl (LeL.cons (Rf m hm) LeL.nil) (fun h => by cases h)) LeL.nil))
theorem JQ {n n' : Nd} (hn : n = n') : Le (Yv [nd n, .v (.slice none 0 0)]) (.tup [nd n', mss []]) := by
 subst hn
 exact Le.tup (LeL.cons (Le.refl _) (LeL.cons (Le.nil _) LeL.nil))
theorem AO {n : Nd} (m : Ms) (hn : Rd n) : FnP Tryz.prog 115 [nd n, ms m] (fun r => r = .tup [nd (Yj n m), mss [QW (Yj n m) m.frm (Zo (WF n m))]]) := by
 have hsz := hn.sz
 have hb0 := hn.b0
 have fL := Y2 n hsz.1 (by omega) (by omega)
 refine fe Tryz.func115 fun S0 w0 => ?_
 show Sim _ _ [(0, T.agg (Qg n (.sl false (n.log.map een)))), (1, T.agg (msC m (XZ m.entries)))] _ _
 refine zC ?_
 apply cr
 refine Xk fun b2 _ => ?_
 refine Xk fun b3 _ => ?_
 refine Xt fun b4 _ => ?_
 refine s_ Qb <| zC ?_
 refine cr <| s_ Qw <| s_ (Qr (fL)) <| s_ Qa <| s_ Qt <| s_ Qt <| s_ Qb <| s_ Qb <| zC ?_
 refine cr <| s_ Qc <| s_ Ql <| s_ Qc <| s_ Ql <| s_ Q5 <| s_ Qa <| gT (fun hg => Qc) ?_
 refine gT (fun hg => Ql (hx := u_ hg)) ?_
 refine gT (fun hg => Q5 (hx := u_ hg)) ?_
 refine gT (fun hg => Qa (hx := u_ hg)) ?_
 refine hF (fun hg => Qc) ?_
 refine hF (fun hg => Ql (hx := u_ hg)) ?_
 refine hF (fun hg => Qc) ?_
 refine hF (fun hg => Ql (hx := u_ hg)) ?_
 refine hF (fun hg => Q5 (hx := u_ hg) (hy := u_ hg)) ?_
 refine gT (fun hg => Iv hg) ?_
 refine s_ Xv <| s_ Qa <| gT (fun hg => Qc) ?_
 refine gT (fun hg => Ql (hx := u_ hg)) ?_
 refine gT (fun hg => Qa) ?_
 refine gT (fun hg => XX (hx := u_ hg) (hy := u_ hg)) ?_
 refine gT (fun hg => Qa (hx := u_ hg)) ?_
 refine hF (fun hg => Qc) ?_
 refine hF (fun hg => Ql (hx := u_ hg)) ?_
 refine hF (fun hg => Qa) ?_
 refine hF (fun hg => Q5 (hx := u_ hg) (hy := u_ hg)) ?_
 refine hF (fun hg => Qa (hx := u_ hg)) ?_
 refine hT (fun hg => Qc) ?_
 refine hT (fun hg => Ql (hx := u_ hg)) ?_
 refine hT (fun hg => Qa) ?_
 refine hT (fun hg => ZL (hx := u_ hg) (hy := u_ hg)) ?_
 refine hF (fun hg => Tn hg) ?_
 refine gT (fun hg => Iv hg) ?_
 refine s_ Xv <| s_ Qb <| zC ?_
 refine zC ?_
 refine cr <| s_ Qa <| zC ?_
 refine ci ?_ ?_
 ·intro hc
  have hy : WF n m = true := decide_eq_true hc
  have hv : Yj n m = { n with vote := m.frm, wait := 0 } := by rw [Yj, if_pos hy]
  refine zC ?_
  refine cr <| s_ Qc <| s_ Ql <| s_ Qc <| Qn ?_
  refine s_ Qc <| Qn ?_
  refine zC ?_
  refine ca [0, 1, 2, 3, 4, 5, 6, 7, 8, 9, 10, 11] [10] <| QR ?_
  refine a_ (fun _ => Qc) <| Qv ?_
  refine a_ (fun _ => Qc) <| Qv ?_
  refine a_ (fun _ => Qc) <| Qv ?_
  refine a_ (fun _ => Qa) <| a_ (fun _ => YH 11 [_, _, _, _, _, _, _, _, _, _, _]) <| a_ (fun _ => XS) <| Q2 ?_
  refine a_ (fun _ => Qb) ?_
  apply an
  refine zC ?_
  refine zE ?_
  exact Ug (n := { n with vote := m.frm, wait := 0 }) hv.symm rfl (by rw [hv]; rfl)
 ·intro hc
  have hy : ¬ WF n m = true := fun h => hc (of_decide_eq_true h)
  have hv : Yj n m = n := by rw [Yj, if_neg hy]
  refine zC ?_
  refine ca [0, 1, 2, 3, 4, 5, 6, 7, 8, 9, 10, 11] [10] <| QR ?_
  refine a_ (fun _ => Qc) <| Qv ?_
  refine a_ (fun _ => Qc) <| Qv ?_
  refine a_ (fun _ => Qc) <| Qv ?_
  refine a_ (fun _ => Qa) <| a_ (fun _ => YH 11 [_, _, _, _, _, _, _, _, _, _, _]) <| a_ (fun _ => XS) <| Q2 ?_
  refine a_ (fun _ => Qb) ?_
  apply an
  refine zC ?_
  refine zE ?_
  exact Ug (n := n) hv.symm rfl (by rw [hv]; rfl)
theorem CA {n : Nd} (m : Ms) (hn : Rd n) (hl : n.log.length < 100000000) (hv0 : 0 ≤ n.votes) (hv1 : n.votes ≤ 31) (hf0 : 0 ≤ m.frm) (hf5 : m.frm < 5) : FnP Tryz.prog 116 [nd n, ms m] (fun r => r = .tup [nd (Yi n m).1, mss (Yi n m).2]) := by
 have hsz := hn.sz
 have hb0 := hn.b0
 have hor := HR hv0 hv1 hf0 hf5
 have hwf : IntKind.u64.wrap m.frm = m.frm := Zn hf0 (by omega)
 have hc0 := hn.bd.conf0
 have hc1 := hn.bd.conf1
 have fC := Jf (X6 n m) (show n.log.length ≤ _ from hsz.1) hb0 (show n.base ≤ _ by omega)
 have fM := LV (orI n.votes (2 ^ m.frm.toNat)) (QA n).2 hor.2.1 hor.2.2 hc0 hc1
 have fD := Dq (n := X6 n m) hn.of hl
 rw [Et]
 refine fe Tryz.func116 fun S0 w0 => ?_
 show Sim _ _ [(0, T.agg (Qg n (.sl false (n.log.map een)))), (1, T.agg [ei m.kind, ei m.frm, ei m.to, ei m.term, ei m.index, ei m.logTerm, ei m.commit, ei m.conf, .v (.bool (decide (m.yes = true))), XZ m.entries, es m.snap])] _ _
 refine zC ?_
 apply cr
 refine Xk fun b2 _ => ?_
 refine Xk fun b3 _ => ?_
 refine Xt fun b4 _ => ?_
 refine s_ Qb <| zC ?_
 refine cr <| s_ Qc <| s_ Ql <| s_ Qc <| s_ Ql <| s_ XE <| s_ Qa <| gF (fun hg => Qc) ?_
 refine gF (fun hg => Ql (hx := u_ hg)) ?_
 refine gF (fun hg => XE (hx := u_ hg)) ?_
 refine s_ XC <| s_ Qa <| gF (fun hg => Qc) ?_
 refine gF (fun hg => Ql (hx := u_ hg)) ?_
 refine gF (fun hg => Yb (hx := u_ hg)) ?_
 refine s_ XC <| zC ?_
 refine ci ?_ ?_
 ·intro hc
  refine zC ?_
  refine cr <| s_ Qw <| Qn ?_
  refine s_ Qb <| zC ?_
  refine zE ?_
  rw [Yi, if_pos hc]
  exact JQ rfl
 ·intro hc
  refine zC ?_
  refine cr <| s_ Qc <| s_ Ql <| s_ Qc <| s_ Ql <| s_ YG <| s_ J0 <| s_ Vx <| s_ Qc <| Qn ?_
  refine zC ?_
  rw [hor.1]
  refine zC ?_
  refine ca [0, 1, 2, 3, 4, 5] [] <| a_ (fun _ => Qc) <| Qv ?_
  refine QR ?_
  refine a_ (fun _ => Qr (fC)) <| a_ (fun _ => Qr (fM)) <| a_ (fun _ => Yb) ?_
  apply an
  refine zC ?_
  refine ci ?_ ?_
  ·intro hm
   refine zC ?_
   refine cr <| s_ Qw <| Qn ?_
   refine s_ Qb <| zC ?_
   refine zE ?_
   rw [Yi, if_neg hc, if_neg hm]
   exact JQ (n := X6 n m) rfl
  ·intro hm
   refine zC ?_
   refine cr <| s_ Qw <| s_ (Qr (fD)) <| s_ Qt <| s_ Qt <| Qn ?_
   refine s_ Qb <| zC ?_
   refine zE ?_
   have hm' : XK (QA n).2 (orI n.votes (2 ^ m.frm.toNat)) = true := Classical.not_not.1 hm
   rw [Yi, if_neg hc, if_pos hm']
   exact Le.refl _
theorem A1 {n : Nd} (cmd : List UInt8) (hn : Rd n) (hl : n.log.length < 100000000) : FnP Tryz.prog 84 [nd n, es cmd] (fun r => r = .tup [nd (Xn n cmd).1, ei (Xn n cmd).2.1, ei (Xn n cmd).2.2]) := by
 have fL := IG ⟨0, 0, cmd⟩ hn hl (by simp) (by simp)
 refine fe Tryz.func84 fun S0 w0 => ?_
 show Sim _ _ [(0, T.agg (Qg n (.sl false (n.log.map een)))), (1, es cmd)] _ _
 refine zC ?_
 apply cr
 refine Xk fun b2 _ => ?_
 refine Xt fun b4 _ => ?_
 refine s_ Qb <| s_ Qb <| zC ?_
 refine cr <| s_ Qc <| s_ Ql <| s_ XE <| zC ?_
 refine ci ?_ ?_
 ·intro hr
  refine zC ?_
  refine cr <| s_ Qw <| Qn ?_
  refine s_ Qb <| s_ Qb <| zC ?_
  refine zE ?_
  rw [Xn, if_pos hr]
  exact Le.refl _
 intro hr
 refine zC ?_
 refine cr <| s_ Qa <| s_ Iw <| zC ?_
 refine ci ?_ ?_
 ·intro hc
  refine zC ?_
  refine cr <| s_ Qw <| Qn ?_
  refine s_ Qb <| s_ Qb <| zC ?_
  refine zE ?_
  have hc' : cmd = [] := hc
  rw [Xn, if_neg hr, if_pos hc']
  exact Le.refl _
 intro hc
 have hc' : ¬ cmd = [] := hc
 refine zC ?_
 refine cr <| s_ Qw <| s_ Qc <| s_ Ql <| s_ Qa <| s_ (YH 3 [_, _, _]) <| s_ (Qr (fL)) <| s_ Qa <| s_ Qt <| s_ Qt ?_
 refine Xt fun b7 _ => ?_
 refine Qn ?_
 refine s_ Qb <| zC ?_
 refine zC ?_
 refine cr <| s_ Qw <| s_ Qa <| Qn ?_
 refine s_ Qb <| s_ Qb <| zC ?_
 refine zE ?_
 rw [Xn, if_neg hr, if_neg hc']
 exact Le.refl _
theorem O5 {n : Nd} (conf : Int) (hn : Rd n) (hl : n.log.length < 100000000) : FnP Tryz.prog 88 [nd n, ei conf] (fun r => r = .tup [nd (QG n conf).1, ei (QG n conf).2.1, ei (QG n conf).2.2]) := by
 have hsz := hn.sz
 have hb0 := hn.b0
 have hc0 := hn.c0
 have hc1 := hn.c1
 have hla : Qq n = n.base + n.log.length := rfl
 have fC := Jf n hsz.1 hb0 (by omega)
 have fL := Y2 n hsz.1 (by omega) (by omega)
 have fP := LY n (Qq n) hsz.1 hb0 (by omega)
 have fT := Zy n n.commit hsz.1 (by simp only [big]; omega) (by simp only [big]; omega) (by simp only [big]; omega) (by simp only [big]; omega)
 rw [JS hc0 hc1] at fT
 refine fe Tryz.func88 fun S0 w0 => ?_
 show Sim _ _ [(0, T.agg (Qg n (.sl false (n.log.map een)))), (1, ei conf)] _ _
 refine zC ?_
 apply cr
 refine Xk fun b2 _ => ?_
 refine Xt fun b4 _ => ?_
 refine s_ Qb <| s_ Qb <| zC ?_
 refine cr <| s_ Qc <| s_ Ql <| s_ XE <| zC ?_
 refine ci ?_ ?_
 ·intro hr
  refine zC ?_
  refine cr <| s_ Qw <| Qn ?_
  refine s_ Qb <| s_ Qb <| zC ?_
  refine zE ?_
  rw [QG, if_pos hr]
  exact Le.refl _
 intro hr
 have hones : ¬ (conf < 1 ∨ 31 < conf) → FnP Tryz.prog 123 [ei (WB .i64 conf (QA n).2)] (fun r => r = ei (J3 (WG conf (QA n).2))) := by
  intro h
  have hx := B8 (x := conf) (y := (QA n).2) (by omega) (by omega) hn.bd.conf0 hn.bd.conf1
  have hx' : WB .i64 conf (QA n).2 = WG conf (QA n).2 := by
   have key : ∀ i : Fin 32, ∀ j : Fin 32, WB .i64 i.val j.val = WG i.val j.val := by decide +kernel
   obtain ⟨i, hi⟩ := Wp (x := conf) (by omega) (by omega)
   obtain ⟨j, hj⟩ := Wp hn.bd.conf0 hn.bd.conf1
   rw [hi, hj]; exact key i j
  rw [hx']
  exact WK _ hx.2.1 hx.2.2
 refine zC ?_
 refine cr <| s_ Qa <| s_ QN <| s_ Qa <| gF (fun hg => Qa) ?_
 refine gF (fun hg => XX (hx := u_ hg)) ?_
 refine s_ XC <| s_ Qa <| gF (fun hg => Qa) ?_
 refine gF (fun hg => Qw) ?_
 refine gF (fun hg => Qr (fC) (ha' := by apply Qu (u_ hg); exact Xh)) ?_
 refine gF (fun hg => GH (hx := u_ hg) (hy := u_ hg)) ?_
 refine gF (p := conf < 1 ∨ 31 < conf) (fun hg => Qr (hones hg) (ha' := by refine Qu (u_ hg) ?_; exact Xh)) ?_
 refine gF (fun hg => XE (hx := u_ hg)) ?_
 refine s_ XC <| zC ?_
 refine ci ?_ ?_
 ·intro hc
  refine zC ?_
  refine cr <| s_ Qw <| Qn ?_
  refine s_ Qb <| s_ Qb <| zC ?_
  refine zE ?_
  rw [QG, if_neg hr, if_pos hc]
  exact Le.refl _
 intro hc
 have hpl := GF (n := n) hb0 hc0
 refine zC ?_
 refine cr <| s_ Qw <| s_ (Qr (fL)) <| s_ Qa <| s_ Qt <| s_ Qt <| s_ Qb <| s_ Qb <| zC ?_
 refine ca [0, 1, 2, 3, 4, 5, 6, 7, 8, 9, 10, 11, 12, 13, 14] [] <| QR ?_
 refine a_ (fun _ => Qa) <| a_ (fun _ => Qr (fP)) <| a_ (fun _ => Qc) <| Qv ?_
 refine a_ (fun _ => XX) <| a_ (fun _ => Qa) ?_
 refine Ca ?_
 refine Xw (fun _ hg => Qc) ?_
 refine U0 ?_
 refine Xw (fun _ hg => Qr (fT) (ha' := by apply Qu (u_ hg); apply Qu (u_ hg); exact Xh)) ?_
 refine Xw (fun _ hg => Qc) ?_
 refine U0 ?_
 refine Xw (fun _ hg => XE (hx := u_ hg) (hy := u_ hg)) ?_
 refine a_ (fun _ => XC) ?_
 apply an
 refine zC ?_
 refine ci ?_ ?_
 ·intro he
  have he' : n.commit < (QA n).1 ∨ ¬ termF n n.commit = n.term := by
   rcases he with h | h
   ·refine .inl ?_
    have : ¬ (QA n).1 ≤ n.commit := fun h1 => by have := hpl.2 h1; omega
    omega
   ·exact .inr h
  refine zC ?_
  refine cr <| s_ Qw <| Qn ?_
  refine s_ Qb <| s_ Qb <| zC ?_
  refine zE ?_
  rw [QG, if_neg hr, if_neg hc, if_pos he']
  exact Le.refl _
 intro he
 have he' : ¬ (n.commit < (QA n).1 ∨ ¬ termF n n.commit = n.term) := by
  rintro (h | h)
  ·refine he (.inl ?_)
   have : ¬ Y0 n (Zp n (Qq n)) ≤ n.commit := fun h1 => by have := hpl.1 h1; omega
   omega
  ·exact he (.inr h)
 have fY := IG ⟨0, conf, []⟩ hn hl (by simp only; omega) (by simp only; omega)
 refine zC ?_
 refine cr <| s_ Qw <| s_ Qc <| s_ Ql <| s_ Qa <| s_ (YH 3 [_, _, _]) <| s_ (Qr (fY)) <| s_ Qa <| s_ Qt <| s_ Qt ?_
 refine Xt fun b9 _ => ?_
 refine Qn ?_
 refine s_ Qb <| zC ?_
 refine zC ?_
 refine cr <| s_ Qw <| s_ Qa <| Qn ?_
 refine s_ Qb <| s_ Qb <| zC ?_
 refine zE ?_
 rw [QG, if_neg hr, if_neg hc, if_neg he']
 exact Le.refl _
theorem Bb {n : Nd} {lg : T} {i : Int} (h0 : 0 ≤ i) (h5 : i < 5) (v : Int) : lay (Qg n lg) (0 + 17 + i.toNat * 1) (T.v (.int .i64 v)).cells = Qg { n with mtch := n.mtch.set i.toNat v } lg := Vd h0 h5 v
theorem Du {n : Nd} {lg : T} {i : Int} (h0 : 0 ≤ i) (h5 : i < 5) (v : Int) : lay (Qg n lg) (0 + 12 + i.toNat * 1) (T.v (.int .i64 v)).cells = Qg { n with next := n.next.set i.toNat v } lg := Ds h0 h5 v
theorem CF {n : Nd} (m : Ms) (hn : Rd n) (hf0 : 0 ≤ m.frm) (hf5 : m.frm < 5) (hx0 : -100000000000 ≤ n.next.get m.frm.toNat) (hx1 : n.next.get m.frm.toNat ≤ 50000000000) (hm0 : -100000000000 ≤ n.mtch.get m.frm.toNat) (hm1 : n.mtch.get m.frm.toNat ≤ 50000000000) (hi0 : -100000000000 ≤ m.index) (hi1 : m.index ≤ 50000000000) :
  FnP Tryz.prog 118 [nd n, ms m] (fun r => r = .tup [nd (X5 n m).1, mss (X5 n m).2]) := by
 have hsz := hn.sz
 have hb0 := hn.b0
 have hc0 := hn.c0
 have fL := Y2 (YF n m) (show n.log.length ≤ _ from hsz.1) (show _ ≤ n.base by omega) (show n.base ≤ _ by omega)
 have fCm := UX (n := JK n m) hn.bd.of hb0 hc0 (show n.commit ≤ _ by omega)
 rw [Et]
 refine fe Tryz.func118 fun S0 w0 => ?_
 show Sim _ _ [(0, T.agg (Qg n (.sl false (n.log.map een)))), (1, T.agg [ei m.kind, ei m.frm, ei m.to, ei m.term, ei m.index, ei m.logTerm, ei m.commit, ei m.conf, .v (.bool (decide (m.yes = true))), XZ m.entries, es m.snap])] _ _
 refine zC ?_
 apply cr
 refine Xk fun b2 _ => ?_
 refine Xk fun b3 _ => ?_
 refine Xt fun b4 _ => ?_
 refine s_ Qb <| zC ?_
 refine Xr (List.Perm.swap _ _ _) ?_
 refine X4 3 (by simp) ?_
 refine zC ?_
 refine cr <| s_ Qj <| s_ Qf <| s_ Qc <| s_ Ql <| s_ XE <| s_ Qa <| gF (fun hg => Qc) ?_
 refine gF (fun hg => Ql (hx := u_ hg)) ?_
 refine gF (fun hg => XE (hx := u_ hg)) ?_
 refine s_ XC <| zC ?_
 refine ci ?_ ?_
 ·intro hc
  refine zC ?_
  refine cr <| s_ Qw <| Qn ?_
  refine s_ Qb <| zC ?_
  refine zE ?_
  rw [X5, if_pos hc]
  exact JQ rfl
 intro hc
 refine zC ?_
 refine cr <| s_ Qj <| s_ Qf <| zC ?_
 refine ci ?_ ?_
 ·intro hy
  refine zC ?_
  refine ca [0, 1, 2, 3, 4, 5, 6, 7, 8, 9, 10, 11, 12] [12] <| a_ (fun _ => Qj) <| a_ (fun _ => Qf) <| a_ (fun _ => Qj) <| a_ (fun _ => Qf) <| a_ (fun _ => Qc) <| a_ (fun _ => Xp) <| Qv (hd := We hf0 hf5) ?_
  refine a_ (fun _ => Qj) <| a_ (fun _ => Qf) <| a_ (fun _ => VG) <| a_ (fun _ => Qc) <| a_ (fun _ => Xp) ?_
  refine Vu ?_ ?_
  ·simp only [ZA, T.cells, Value.cells]; simp; omega
  rw [Bb hf0 hf5]
  have hd2 : ∀ lg, (Qg { n with mtch := n.mtch.set m.frm.toNat (max (n.mtch.get m.frm.toNat) m.index) } lg)[0 + 0 + 17 + m.frm.toNat * 1]? = some (ei (max (n.mtch.get m.frm.toNat) m.index)) := fun _ => by rw [We hf0 hf5, Lz _ hf0 hf5]
  apply an
  refine zC ?_
  refine ca [0, 1, 2, 3, 4, 5, 6, 7, 8, 9, 10] [10] <| a_ (fun _ => Qj) <| a_ (fun _ => Qf) <| a_ (fun _ => Qj) <| a_ (fun _ => Qf) <| a_ (fun _ => Qc) <| a_ (fun _ => Xp) <| Qv (hd := hd2 _) ?_
  refine a_ (fun _ => QQ) <| a_ (fun _ => Qc) <| a_ (fun _ => Xp) ?_
  refine Vu ?_ ?_
  ·simp only [ZA, T.cells, Value.cells]; simp; omega
  rw [Du hf0 hf5]
  apply an
  refine zC ?_
  refine cr <| s_ Qw <| s_ (Qr (fCm)) <| Qn ?_
  refine s_ Qb <| zC ?_
  refine zE ?_
  rw [X5, if_neg hc, if_pos hy]
  exact JQ rfl
 ·intro hy
  have fLn := Y2 n hsz.1 (by omega) (by omega)
  refine zC ?_
  refine cr <| s_ Qw <| s_ (Qr (fLn)) <| s_ Qa <| s_ Qt <| s_ Qt <| s_ Qb <| s_ Qb <| zC ?_
  refine ca [0, 1, 2, 3, 4, 5, 6, 7, 8, 9, 10, 11, 12, 13, 14, 15, 16, 17, 18, 19, 20, 21] [21] <| a_ (fun _ => Qj) <| a_ (fun _ => Qf) <| a_ (fun _ => Qj) <| a_ (fun _ => Qf) <| a_ (fun _ => Qc) <| a_ (fun _ => Xp) <| Qv (hd := Er hf0 hf5) ?_
  refine a_ (fun _ => Yr) <| a_ (fun _ => Qj) <| a_ (fun _ => Qf) <| a_ (fun _ => QQ) <| a_ (fun _ => WO) <| a_ (fun _ => Qj) <| a_ (fun _ => Qf) <| a_ (fun _ => Qc) <| a_ (fun _ => Xp) <| Qv (hd := We hf0 hf5) ?_
  refine a_ (fun _ => QQ) <| a_ (fun _ => HO) <| a_ (fun _ => Qc) <| a_ (fun _ => Xp) ?_
  refine Vu ?_ ?_
  ·simp only [ZA, T.cells, Value.cells]; simp; omega
  rw [Du hf0 hf5]
  have hbg : (YF n m).next.get m.frm.toNat = max (max (min (n.next.get m.frm.toNat - 1) (m.index + 1)) 1) (n.mtch.get m.frm.toNat + 1) := Lz _ hf0 hf5 _
  apply an
  refine zC ?_
  refine cr <| s_ Qj <| s_ Qf <| s_ Qc <| s_ Xp <| s_ (Ql (hd := Er (n := YF n m) hf0 hf5)) <| s_ Qa <| s_ Ej <| zC ?_
  refine ci ?_ ?_
  ·intro hle
   have hle' : (YF n m).next.get m.frm.toNat ≤ Qq n := hle
   have fO := GK (YF n m) m.frm hf0 hf5 (show n.log.length ≤ _ from hsz.1) hb0 (show n.base ≤ _ by omega) (by show _ ≤ Qq n + 1; omega)
   refine zC ?_
   refine ca [0, 1, 2, 3, 4, 5, 6, 7] [6] <| QR ?_
   refine QR ?_
   refine a_ (fun _ => Qj) <| a_ (fun _ => Qf) <| a_ (fun _ => Qr (fO)) <| a_ (fun _ => XS) <| Q2 ?_
   refine a_ (fun _ => Qb) ?_
   apply an
   refine zC ?_
   refine zE ?_
   have hle2 : (YF n m).next.get m.frm.toNat ≤ Qq n := hle
   rw [X5, if_neg hc, if_neg hy, if_pos hle2]
   exact Le.tup (LeL.cons (Le.refl _) (LeL.cons (Le.sl (LeL.refl _) (fun h => by cases h)) LeL.nil))
  ·intro hle
   refine zC ?_
   refine cr <| s_ Qw <| Qn ?_
   refine s_ Qb <| zC ?_
   refine zE ?_
   have hle2 : ¬ (YF n m).next.get m.frm.toNat ≤ Qq n := hle
   rw [X5, if_neg hc, if_neg hy, if_neg hle2]
   exact JQ (n := YF n m) rfl
theorem OS {n' : Nd} {x y : T} {m : Ms} (hn : Le x (nd n')) (hm : m.entries = []) (hy : y = .agg (msC m (.v (.slice none 0 0)))) : Le (Yv [x, .sl true [y]]) (.tup [nd n', mss [m]]) := by
 subst hy
 exact Le.tup (LeL.cons hn (LeL.cons (Le.sl (LeL.cons (Rf m hm) LeL.nil) (fun h => by cases h)) LeL.nil))
theorem AQ {n : Nd} (m : Ms) (hn : Rd n) (hi0 : -50000000000 ≤ m.index) (hi1 : m.index ≤ 50000000000) (ht : 0 ≤ m.logTerm) : FnP Tryz.prog 119 [nd n, ms m] (fun r => r = .tup [nd (Zq n m).1, mss (Zq n m).2]) := by
 have hsz := hn.sz
 have hb0 := hn.b0
 have hc0 := hn.c0
 refine fe Tryz.func119 fun S0 w0 => ?_
 show Sim _ _ [(0, T.agg (Qg n (.sl false (n.log.map een)))), (1, T.agg (msC m (XZ m.entries)))] _ _
 refine zC ?_
 apply cr
 refine Xk fun b2 _ => ?_
 refine Xk fun b3 _ => ?_
 refine Xt fun b4 _ => ?_
 refine s_ Qb <| zC ?_
 refine Xr (List.Perm.swap _ _ _) ?_
 refine X4 3 (by simp [msC]) ?_
 refine zC ?_
 refine cr <| s_ Qc <| s_ Ql <| s_ Qj <| s_ Qf <| s_ Qc <| s_ Ql <| s_ (YH 11 [_, _, _, _, _, _, _, _, _, _, _]) ?_
 refine Xt fun b6 _ => ?_
 refine Qn ?_
 refine zC ?_
 refine cr <| s_ Qj <| s_ Qf <| s_ Qc <| s_ Ql <| s_ QN <| zC ?_
 refine ci ?_ ?_
 ·intro hlt
  refine zC ?_
  refine ca [0, 1, 2, 3, 4] [3] <| QR ?_
  refine QR ?_
  refine a_ (fun _ => XS) <| Q2 ?_
  refine a_ (fun _ => Qb) ?_
  apply an
  refine zC ?_
  refine zE ?_
  rw [Zq, if_pos hlt]
  exact Ug (n := n) rfl rfl rfl
 intro hlt
 refine zC ?_
 refine cr <| s_ Qc <| Qn ?_
 refine s_ Qc <| Qn ?_
 refine zC ?_
 refine ca [0, 1, 2, 3, 4, 5, 6, 7, 8] [6, 8] <| a_ (fun _ => Qj) <| a_ (fun _ => Qf) <| a_ (fun _ => Qc) <| Qv ?_
 refine a_ (fun _ => VG) <| a_ (fun _ => Qc) <| Q2 ?_
 refine a_ (fun _ => Qc) <| Q2 ?_
 apply an
 refine zC ?_
 refine cr <| s_ Qj <| s_ Qf <| s_ Qc <| s_ Ql <| s_ XX <| zC ?_
 refine ci ?_ ?_
 ·intro hgt
  have hgt' : n.commit < m.index := hgt
  have hla : Qq n = n.base + n.log.length := rfl
  have fT := Zy (QU n) m.index (show n.log.length ≤ _ from hsz.1) (by simp only [big]; show _ ≤ n.base; omega) (by simp only [big]; show n.base ≤ _; omega) (by simp only [big]; omega) (by simp only [big]; omega)
  have hcond : Xm (QU n) m.index = m.logTerm ↔ ((m.index ≤ Qq n ∧ n.base < m.index) ∧ termF n m.index = m.logTerm) := by
   have hq : Xm (QU n) m.index = Xm n m.index := rfl
   rw [hq]
   constructor
   ·intro h
    have h1 : m.index ≤ Qq n := by
     refine Int.not_lt.1 fun h2 => ?_
     rw [Xm, if_neg (by omega), if_pos (by omega)] at h
     omega
    exact ⟨⟨h1, by omega⟩, by rw [← JS (by omega) h1]; exact h⟩
   ·intro h
    rw [JS (by omega) h.1.1]; exact h.2
  refine zC ?_
  refine cr <| s_ Qb <| zC ?_
  refine ca [0, 1, 2, 3, 4, 5, 6] [] <| QR ?_
  refine a_ (fun _ => Qj) <| a_ (fun _ => Qf) <| a_ (fun _ => Qr (fT)) <| a_ (fun _ => Qj) <| a_ (fun _ => Qf) <| a_ (fun _ => Q5) ?_
  apply an
  refine zC ?_
  refine ci ?_ ?_
  ·intro hr
   have hr' := hcond.1 hr
   refine zC ?_
   refine cr <| s_ Qa <| s_ Qc <| s_ Ql <| s_ Qj <| s_ Qf <| s_ Qc <| s_ Ql <| s_ Yr <| s_ (Tj (xs := n.log.map een) (f := false)) ?_
   rw [← List.map_drop]
   refine s_ CU <| s_ Qb <| zC ?_
   refine ca [0, 1, 2, 3, 4, 5, 6, 7, 8, 9, 10, 11, 12, 13, 14, 15, 16, 17, 18, 19, 20, 21, 22] [12, 14, 16, 18, 20, 22] <| a_ (fun _ => Qj) <| a_ (fun _ => Qf) <| a_ (fun _ => Qj) <| a_ (fun _ => Qf) <| a_ (fun _ => Qj) <| a_ (fun _ => Qf) <| a_ (fun _ => Qj) <| a_ (fun _ => Qf) <| a_ (fun _ => Qa) <| a_ (fun _ => Qj) <| a_ (fun _ => Qf) <| a_ (fun _ => Qc) <| Q2 ?_
   refine a_ (fun _ => Qc) <| Q2 ?_
   refine a_ (fun _ => Qc) <| Q2 ?_
   refine a_ (fun _ => Qc) <| Q2 ?_
   refine a_ (fun _ => Qc) <| Q2 ?_
   refine a_ (fun _ => Qc) <| Q2 ?_
   apply an
   refine zC ?_
   refine ca [0, 1, 2, 3, 4] [3] <| QR ?_
   refine QR ?_
   refine a_ (fun _ => XS) <| Q2 ?_
   refine a_ (fun _ => Qb) ?_
   apply an
   refine zC ?_
   refine zE ?_
   rw [Zq, if_neg hlt, if_pos hgt']
   refine OS ?_ rfl rfl
   have hrl : ZQ n m = n.log.drop (m.index - n.base).toNat := by rw [ZQ, if_pos hr']
   exact Le.agg (Va (Jd n m) (Le.of_eq (by rw [show (Jd n m).log = ZQ n m from rfl, hrl]; rfl)))
  ·intro hr
   have hr' := fun h => hr (hcond.2 h)
   refine zC ?_
   refine ca [0, 1, 2, 3, 4, 5, 6, 7, 8, 9, 10, 11, 12, 13, 14, 15, 16, 17, 18, 19, 20, 21, 22] [12, 14, 16, 18, 20, 22] <| a_ (fun _ => Qj) <| a_ (fun _ => Qf) <| a_ (fun _ => Qj) <| a_ (fun _ => Qf) <| a_ (fun _ => Qj) <| a_ (fun _ => Qf) <| a_ (fun _ => Qj) <| a_ (fun _ => Qf) <| a_ (fun _ => Qa) <| a_ (fun _ => Qj) <| a_ (fun _ => Qf) <| a_ (fun _ => Qc) <| Q2 ?_
   refine a_ (fun _ => Qc) <| Q2 ?_
   refine a_ (fun _ => Qc) <| Q2 ?_
   refine a_ (fun _ => Qc) <| Q2 ?_
   refine a_ (fun _ => Qc) <| Q2 ?_
   refine a_ (fun _ => Qc) <| Q2 ?_
   apply an
   refine zC ?_
   refine ca [0, 1, 2, 3, 4] [3] <| QR ?_
   refine QR ?_
   refine a_ (fun _ => XS) <| Q2 ?_
   refine a_ (fun _ => Qb) ?_
   apply an
   refine zC ?_
   refine zE ?_
   rw [Zq, if_neg hlt, if_pos hgt']
   refine OS ?_ rfl rfl
   have hrl : ZQ n m = [] := by rw [ZQ, if_neg hr']
   refine Le.agg (Va (Jd n m) ?_)
   rw [show (Jd n m).log = ZQ n m from rfl, hrl]
   exact Le.nil _
 ·intro hgt
  refine zC ?_
  refine ca [0, 1, 2, 3, 4] [3] <| QR ?_
  refine QR ?_
  refine a_ (fun _ => XS) <| Q2 ?_
  refine a_ (fun _ => Qb) ?_
  apply an
  refine zC ?_
  refine zE ?_
  have hgt' : ¬ n.commit < m.index := hgt
  rw [Zq, if_neg hlt, if_neg hgt']
  exact Ug (n := QU n) rfl rfl rfl
end Go.Proofs.YtjbokbikkcfjjaaGreat
