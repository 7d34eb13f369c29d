/-
  GroupAgrees: what two know to be done is one a front of the other; of each it only grows.
-/
import Derived.Test.YtjbokbikkcfjjaaGreatAaz
set_option maxRecDepth 16000
set_option maxHeartbeats 8000000
set_option linter.all false
namespace Go.Proofs.YtjbokbikkcfjjaaGreat
open Go.Cap Raft
attribute [local irreducible] POp Qf Pw EOp Sim FnH T.gp
def LM (W : Nat → List (List UInt8)) (c : Nat → Int) (H : Xm) : Prop := ∀ p, p < 5 → ∃ T l, ∃ k : Nat, XL H T l k ∧ W p = YF (l.take k) ∧ (k : Int) = c p
theorem Rv (W : Nat → List (List UInt8)) (c : Nat → Int) : JM (LM W c) := fun H H' F E h p hp => by
 obtain ⟨T, l, k, h1, h2, h3⟩ := h p hp
 exact ⟨T, l, k, h1.ext F E, h2, h3⟩
theorem UR {l m : List En} {a b : Nat} (h : AG l m a) (hab : a ≤ b) : YF (l.take a) <+: YF (m.take b) := by
 unfold YF
 rw [h.2.2]
 have h1 : m.take a <+: m.take b := by
  have := List.take_prefix a (m.take b)
  rwa [List.take_take, Nat.min_eq_left hab] at this
 exact (h1.map _).filter _
def Vr (g : Gp) (p : Nat) : List (List UInt8) := Mu (g.k p).N
def Pm (g : Gp) (p : Nat) : Int := (g.k p).N.commit
theorem SGe.look {conf : Int} {W : Nat → List (List UInt8)} {c : Nat → Int} {g : Gp} {u : Nat} (h : SGe conf (LM W c) c g u) :
  SGe conf (LM (Vr g) (Pm g)) (Pm g) g u ∧ (∀ p, p < 5 → W p <+: Vr g p) ∧ ∀ p q, p < 5 → q < 5 → Vr g p <+: Vr g q ∨ Vr g q <+: Vr g p := by
 obtain ⟨E, ys, τ, l, h⟩ := h
 obtain ⟨gn, ga, H, L, hF, hN, hM, hQ⟩ := h.gq
 have key : ∀ p, p < 5 → ∃ k : Nat, (g.k p).N.commit = k ∧ XL H (g.k p).N.term (g.k p).N.log k ∧ Vr g p = YF ((g.k p).N.log.take k) := fun p hp => by
  have hn := hN p hp
  rw [Wx g p (by rw [h.gb.ks]; exact hp)] at hn
  have hb := (h.gb.nb p hp).base
  obtain ⟨k, h1, h2, h3⟩ := NI.knows hn hb
  refine ⟨k, h1, h3, ?_⟩
  unfold Vr Mu YF
  rw [h1, hb, show (max (min ((k : Int) - 0) (((g.k p).N.log.length : Nat) : Int)) 0).toNat = k by omega]
 refine ⟨⟨E, ys, τ, l, { h with gq := ⟨gn, ga, H, L, hF, hN, hM, fun p hp => ?_⟩, cm := fun _ _ => Int.le_refl _ }⟩, fun p hp => ?_, fun p q hp hq => ?_⟩
 ·obtain ⟨k, h1, h2, h3⟩ := key p hp
  exact ⟨_, _, k, h2, h3, h1.symm⟩
 ·obtain ⟨k, h1, h2, h3⟩ := key p hp
  obtain ⟨T, l', k', g1, g2, g3⟩ := hQ p hp
  have hc := h.cm p hp
  have hkk : k' ≤ k := by omega
  rw [g2, h3]
  exact UR (UI hF g1 h2 (Nat.le_refl _) hkk) hkk
 ·obtain ⟨k, h1, h2, h3⟩ := key p hp
  obtain ⟨k', h1', h2', h3'⟩ := key q hq
  rw [h3, h3']
  rcases Nat.le_total k k' with hk | hk
  ·exact .inl (UR (UI hF h2 h2' (Nat.le_refl _) hk) hk)
  ·exact .inr (UR (UI hF h2' h2 (Nat.le_refl _) hk) hk)
def UD : TypeId := 62
def tAa : TypeId := 59
def sF (l : List (List UInt8)) : T := .sl false (l.map es)
def ZA (W : Nat → List (List UInt8)) : List T := [sF (W 0), sF (W 1), sF (W 2), sF (W 3), sF (W 4)]
theorem IN (W : Nat → List (List UInt8)) {p : Nat} (hp : p < 5) : (ZA W)[0 + p * 1]? = some (sF (W p)) := by
 rcases (by omega : p = 0 ∨ p = 1 ∨ p = 2 ∨ p = 3 ∨ p = 4) with rfl | rfl | rfl | rfl | rfl <;> rfl
theorem B7 (W : Nat → List (List UInt8)) {p : Nat} (hp : p < 5) (d : List (List UInt8)) : Zc (ZA W) (0 + p * 1) [sF d] (ZA (upA W p d)) := by
 rcases (by omega : p = 0 ∨ p = 1 ∨ p = 2 ∨ p = 3 ∨ p = 4) with rfl | rfl | rfl | rfl | rfl
 all_goals unfold ZA upA; exact zy
theorem NH (c0 : Int) : LM (fun _ => []) (fun _ => 0) (Er c0) := fun p _ => ⟨0, [], 0, .inl rfl, rfl, rfl⟩
theorem An {conf : Int} {g : Gp} (h1 : 1 ≤ conf) (h2 : conf ≤ 31) (hB : GB PS g 0 0 0) (hL : GL conf g) (hpr : prG g = CH conf) (hcf : g.conf = conf) : SGe conf (LM (fun _ => []) (fun _ => 0)) (fun _ => 0) g 0 := by
 refine ⟨[], fun i => (g.k i).N, 0, 0, hcf, hB, ?_, fun i hi => .inl ⟨(hL i hi).live, rfl⟩, fun i hi => (hL i hi).room, fun i hi => .inl rfl, (fun m hm => by cases hm), fun i hi => (hB.nb i hi).com0⟩
 rw [hpr]
 exact ⟨rfl, rfl, Er conf, fun _ => [], Ep (by omega) h2, fun i hi => by rw [Na conf hi]; exact C3 conf i, (fun m hm => by rcases hm with h | h <;> cases h), NH conf⟩
theorem GJ (conf0 : Int) (l : List Ag) (sp : List Int) (hl : l.length ≤ 9223372036854775807) (hs : sp.length ≤ 9223372036854775807) : FnP Tryz.prog 8 [ei conf0, .sl false (l.map agT), .sl false (sp.map ei)] (fun r => r = .v (.bool true)) := by
 have hK := GA
 have hF := Bm false l hl
 have w31 := XQ conf0 31 (by omega) (by omega)
 refine fe Tryz.func8 fun S0 w0 => ?_
 show Sim _ _ [(0, ei conf0), (1, T.sl false (l.map agT)), (2, T.sl false (sp.map ei))] _ _
 refine zC ?_
 refine cr <| s_ Qb <| zC ?_
 refine cr <| s_ (QM (hK)) <| s_ TA <| zC ?_
 refine ci (p := False) (fun h => h.elim) (fun _ => ?_)
 refine zC ?_
 refine cr <| s_ Qa ?_
 refine PI hF (fun r ⟨b, hr, hF⟩ => ?_)
 subst hr
 refine s_ TA <| zC ?_
 cases b with
 | false =>
  refine ci (p := True) (fun _ => ?_) (fun h => absurd trivial h)
  refine zC ?_
  refine cr <| s_ Qb <| zC ?_
  refine zE ?_
  exact Le.refl _
 | true =>
 refine ci (p := False) (fun h => h.elim) (fun _ => ?_)
 obtain ⟨hcmd, hl100⟩ := hF rfl
 clear hF hK
 obtain ⟨conf, hcf⟩ : ∃ conf, conf = 1 + conf0 % 31 := ⟨_, rfl⟩
 have hc1 : 1 ≤ conf ∧ conf ≤ 31 := by omega
 refine zC ?_
 refine cr <| s_ Qa <| s_ (QM (w31)) <| s_ Q6 <| s_ Qb <| zC ?_
 rw [← hcf]
 clear hcf w31
 have hN := OW PS conf hc1.1 hc1.2
 refine zC ?_
 refine cr <| s_ Qa ?_
 refine QV (Hs := []) (Hr := []) hN (.refl _) (fun r HG ⟨bg, g, hr, hG, hB, hL, hpr, hcf⟩ => ?_)
 subst hr
 rw [List.append_nil]
 have hS := An hc1.1 hc1.2 hB hL hpr hcf
 clear hB hL hpr hcf hN
 refine s_ Qa <| s_ QD <| s_ QD <| s_ Qb <| s_ Qb <| zC ?_
 apply cr
 refine X2 fun b9 _ => ?_
 refine zC ?_
 refine cr <| s_ Qb <| zC ?_
 apply Qp (σ := Nat × Gp × Qd × (Nat → List (List UInt8))) (ok := fun s => s.1 ≤ 80 ∧ s.1 ≤ l.length ∧ IsG bg s.2.1 s.2.2.1 ∧ ∃ c, SGe conf (LM s.2.2.2 c) c s.2.1 (205 * s.1)) (env := fun s => [(10, ei s.1), (9, pN b9), (7, pW bg), (1, T.sl false (l.map agT)), (2, T.sl false (sp.map ei))]) (heap := fun s => (b9, ⟨UD, ZA s.2.2.2, 5⟩) :: s.2.2.1) (μ := fun s => 80 - s.1) (s0 := (0, g, HG, fun _ => []))
 ·exact ⟨Nat.zero_le _, Nat.zero_le _, hG, _, hS⟩
 ·exact eL
 ·exact kK kR (LeL.cons (Le.nil _) (LeL.cons (Le.nil _) (LeL.cons (Le.nil _) (LeL.cons (Le.nil _) (LeL.cons (Le.nil _) LeL.nil))))) rfl
 clear hG hS
 rintro ⟨k, g, HG, W⟩ ⟨hk, hkl, hG, c, hS⟩
 simp only at hk hkl hG hS
 show Sim _ _ [(10, ei k), (9, pN b9), (7, pW bg), (1, T.sl false (l.map agT)), (2, T.sl false (sp.map ei))] ((b9, ⟨UD, ZA W, 5⟩) :: HG) _
 refine zC ?_
 refine cr <| s_ Qa <| s_ Qa ?_
 (first | refine s_ QX ?_ | refine s_ QQ ?_)
 refine s_ Q2 <| s_ Qa <| gT (fun hg => Qa) ?_
 refine gT (fun hg => Q2 (hx := u_ hg)) ?_
 refine s_ Yh <| zC ?_
 refine ci ?_ ?_
 rotate_left
 ·intro _
  refine zC ?_
  refine cr <| s_ Qb <| zC ?_
  refine zE ?_
  exact Le.refl _
 rintro ⟨hlt, hlt80⟩
 rw [List.length_map] at hlt
 have hix : k < l.length := by omega
 have hk80 : k < 80 := by omega
 have hfew := hcmd k hix
 have hM := Rv W c
 have w5 := XQ l[k].i 5 (by omega) (by omega)
 have hUn := R8 bg g HG hG
 obtain ⟨n, hn⟩ : ∃ n, n = g.way.length := ⟨_, rfl⟩
 rw [← hn] at hUn
 have hn2 : n ≤ 1000000 := by
  obtain ⟨E, ys, τ, l', h⟩ := hS
  have := h.gb.many
  have := h.gb.five
  omega
 have wk := XQ l[k].n (max (n : Int) 1) (by omega) (by omega)
 obtain ⟨j, hj⟩ : ∃ j, j = l[k].i % 5 := ⟨_, rfl⟩
 obtain ⟨kk, hkk⟩ : ∃ kk, kk = l[k].n % max (n : Int) 1 := ⟨_, rfl⟩
 rw [← hj] at w5
 rw [← hkk] at wk
 have hji : isI j := ⟨by omega, by omega⟩
 obtain ⟨hj5, hjn⟩ := Q3 hji
 have w18 := XQ l[k].kind 18 (by omega) (by omega)
 obtain ⟨q, hq⟩ : ∃ q, q = l[k].kind % 18 := ⟨_, rfl⟩
 have hq18 : 0 ≤ q ∧ q < 18 := by omega
 rw [← hq] at w18
 refine zC ?_
 refine cr <| s_ Qa <| s_ Qa ?_
 (first | refine s_ (Xh hix) ?_ | refine s_ (Xh hix2) ?_ | refine s_ YM ?_ | refine s_ Y8 ?_)
 refine s_ Y7 ?_
 refine X2 fun b11 _ => ?_
 refine Qz ?_
 refine zC ?_
 refine U3 (σ := Unit) (ok := fun _ => True) (env := fun _ => [(13, ei kk), (12, ei j), (11, pN b11), (10, ei k), (9, pN b9), (7, pW bg), (1, T.sl false (l.map agT)), (2, T.sl false (sp.map ei))]) (heap := fun _ => (b11, ⟨tAa, [ei l[k].kind, ei l[k].i, ei l[k].n, es l[k].cmd], 4⟩) :: (b9, ⟨UD, ZA W, 5⟩) :: HG) ?_ (fun _ _ => ?_)
 ·refine zC ?_
  refine cm [6] (.yields 0 (.yields 1 (.yields 2 (.yields 3 (.yields 4 (.yields 5 (.alt 6 (.yields 7 (.yields 8 (.yields 9 (.yields 10 .done)))) .stop))))))) <| m_ (fun _ => Qc) <| Gs ?_
  refine m_ (fun _ => QM (w5)) <| m_ (fun _ => Qc) <| Gs ?_
  refine m_ (fun _ => Qa) ?_
  refine ⟨?_, trivial⟩
  refine LR (Hr := [_, _]) hUn (List.perm_append_comm (l₁ := [_, _])) (fun r H' ⟨hr1, hr2⟩ => ⟨?_, ?_⟩)
  ·subst hr1 hr2; exact zd
  subst hr1 hr2
  refine m_ (fun _ => V1) <| m_ (fun _ => QM (wk)) <| m_ (fun _ => Qb) <| m_ (fun _ => Qb) <| zC ?_
  exact ⟨(), _, trivial, eL, List.perm_append_comm, kR⟩
 refine zC ?_
 refine cr <| s_ Qa <| s_ Qa ?_
 (first | refine s_ QX ?_ | refine s_ QQ ?_)
 refine s_ Q2 <| s_ Qa <| gT (fun hg => Qa) ?_
 refine gT (fun hg => Qa) ?_
 (first | refine gT (fun hg => Xh hix (hx := u_ hg) (hy := u_ hg)) ?_ | refine gT (fun hg => Xh hix2 (hx := u_ hg) (hy := u_ hg)) ?_ | refine gT (fun hg => YM (hx := u_ hg) (hy := u_ hg)) ?_ | refine gT (fun hg => Y8 (hx := u_ hg) (hy := u_ hg)) ?_)
 refine gT (fun hg => Qm (hx := u_ hg)) ?_
 refine gT (fun hg => Wz (hx := u_ hg)) ?_
 refine gT (fun hg => Xi (hx := u_ hg)) ?_
 refine s_ Yh <| zC ?_
 refine U3 (σ := Gp × Qd) (ok := fun s => IsG bg s.1 s.2 ∧ SGe conf (LM W c) c s.1 (205 * k)) (env := fun _ => [(13, ei kk), (12, ei j), (11, pN b11), (10, ei k), (9, pN b9), (7, pW bg), (1, T.sl false (l.map agT)), (2, T.sl false (sp.map ei))]) (heap := fun s => (b11, ⟨tAa, [ei l[k].kind, ei l[k].i, ei l[k].n, es l[k].cmd], 4⟩) :: (b9, ⟨UD, ZA W, 5⟩) :: s.2) ?_ ?_
 ·refine ci ?_ ?_
  ·rintro ⟨hsp, _⟩
   simp only [List.length_map] at hsp
   have hix2 : k < sp.length := by omega
   obtain ⟨i1, hi1⟩ : ∃ i1, i1 = (IntKind.i64.wrap (sp[k].tdiv 4)) % 5 := ⟨_, rfl⟩
   obtain ⟨n1, hn1⟩ : ∃ n1, n1 = (IntKind.i64.wrap (sp[k].tdiv 20)) % 5 := ⟨_, rfl⟩
   have wa := XQ (IntKind.i64.wrap (sp[k].tdiv 4)) 5 (by omega) (by omega)
   have wb := XQ (IntKind.i64.wrap (sp[k].tdiv 20)) 5 (by omega) (by omega)
   rw [← hi1] at wa
   rw [← hn1] at wb
   have hii : isI i1 := ⟨by omega, by omega⟩
   have hks : g.ks.length = 5 := by
    obtain ⟨E, ys, τ, l', h⟩ := hS
    exact h.gb.ks
   have hC := C6 bg HG i1 (1 + n1) hii hks hG
   refine zC ?_
   refine ca [0, 1, 2, 3, 4, 5, 6, 7, 8, 9, 10, 11, 12, 13, 14] [14] <| a_ (fun _ => Qa) <| a_ (fun _ => Qa) <| a_ (fun _ => Qa) ?_
   (first | refine a_ (fun _ => Xh hix) ?_ | refine a_ (fun _ => Xh hix2) ?_ | refine a_ (fun _ => YM) ?_ | refine a_ (fun _ => Y8) ?_)
   refine a_ (fun _ => Qm) ?_
   (first | refine a_ (fun _ => NL) ?_ | refine a_ (fun _ => Ty) ?_)
   refine a_ (fun _ => QM (wa)) <| a_ (fun _ => Qa) <| a_ (fun _ => Qa) ?_
   (first | refine a_ (fun _ => Xh hix) ?_ | refine a_ (fun _ => Xh hix2) ?_ | refine a_ (fun _ => YM) ?_ | refine a_ (fun _ => Y8) ?_)
   refine a_ (fun _ => Qm) ?_
   (first | refine a_ (fun _ => NL) ?_ | refine a_ (fun _ => Ty) ?_)
   refine a_ (fun _ => QM (wb)) <| a_ (fun _ => Q6) ?_
   refine Rb (Hr := [_, _]) hC (List.perm_append_comm (l₁ := [_, _])) (fun r H' ⟨hr1, hr2⟩ => ⟨?_, ?_⟩)
   ·subst hr1; exact zd
   subst hr1
   refine zD ?_
   apply an
   refine zC ?_
   exact ⟨(_, H'), _, ⟨hr2, SGe.stop hM hS (Q3 hii).1 _ (by omega)⟩, eL, List.perm_append_comm (l₁ := H'), kR⟩
  ·intro _
   refine zC ?_
   exact ⟨(g, HG), _, ⟨hG, hS⟩, eL, .refl _, kR⟩
 rintro ⟨g, HG⟩ ⟨hG, hS⟩
 simp only at hG hS
 show Sim _ _ [(13, ei kk), (12, ei j), (11, pN b11), (10, ei k), (9, pN b9), (7, pW bg), (1, T.sl false (l.map agT)), (2, T.sl false (sp.map ei))] ((b11, ⟨tAa, [ei l[k].kind, ei l[k].i, ei l[k].n, es l[k].cmd], 4⟩) :: (b9, ⟨UD, ZA W, 5⟩) :: HG) _
 obtain ⟨E, ys, τ, l', hS0⟩ := id hS
 have hgb := hS0.gb
 clear hS0
 apply cq
 refine U3 (σ := Gp × Qd) (ok := fun s => IsG bg s.1 s.2 ∧ SGe conf (LM W c) c s.1 (205 * (k + 1))) (env := fun _ => [(10, ei k), (9, pN b9), (7, pW bg), (1, T.sl false (l.map agT)), (2, T.sl false (sp.map ei))]) (heap := fun s => (b9, ⟨UD, ZA W, 5⟩) :: s.2) ?_ ?_
 ·have hle : ∀ {g' u'}, SGe conf (LM W c) c g' u' → u' ≤ 205 * (k + 1) → SGe conf (LM W c) c g' (205 * (k + 1)) := fun h hu => h.le hu
  refine zC ?_
  refine cr <| s_ Qc <| s_ Qj <| s_ (QM (w18)) <| zC ?_
  refine zC ?_
  refine cr <| s_ Xi <| s_ Qb <| zC ?_
  refine Zh [(83, .v (.bool (decide (q = 0 ∨ q = 1 ∨ q = 2)))), (82, ei q), (13, ei kk), (12, ei j), (11, pN b11), (10, ei k), (9, pN b9), (7, pW bg), (1, T.sl false (l.map agT)), (2, T.sl false (sp.map ei))] ((b11, ⟨tAa, [ei l[k].kind, ei l[k].i, ei l[k].n, es l[k].cmd], 4⟩) :: (b9, ⟨UD, ZA W, 5⟩) :: HG) ?_ ?_
  ·refine ci ?_ ?_
   ·intro h
    refine zC ?_
    exact ⟨⟨Qh (by (exact zG)) (Le.of_eq (congrArg (fun b => T.v (.bool b)) (decide_eq_decide.2 (by omega)))), eL⟩, kR⟩
   intro h0
   refine zC ?_
   refine cr <| s_ Xi <| s_ Qb <| zC ?_
   refine ci ?_ ?_
   ·intro h
    refine zC ?_
    exact ⟨⟨Qh (by (exact zG)) (Le.of_eq (congrArg (fun b => T.v (.bool b)) (decide_eq_decide.2 (by omega)))), eL⟩, kR⟩
   intro h1
   refine zC ?_
   refine cr <| s_ Xi <| s_ Qb <| zC ?_
   exact ⟨⟨Qh (by (exact zG)) (Le.of_eq (congrArg (fun b => T.v (.bool b)) (decide_eq_decide.2 (by omega)))), eL⟩, kR⟩
  refine ci (p := q = 0 ∨ q = 1 ∨ q = 2) ?_ ?_
  ·intro hqq
   have hC := Et Q8 bg g HG j hgb (by omega) hG
   refine zC ?_
   refine cr <| s_ Qa <| s_ Qa ?_
   refine QV (Hr := [_, _]) hC (List.perm_append_comm (l₁ := [_, _])) (fun r H' ⟨hr1, hr2⟩ => ?_)
   subst hr1
   refine zC ?_
   exact ⟨(_, H'), _, ⟨hr2, hle (hS.tick hM (by omega) j) (by omega)⟩, eL, List.perm_append_comm (l₁ := H'), .skip _ _ _ kR⟩
  intro hn0
  refine zC ?_
  refine cr <| s_ Xi <| s_ Qb <| zC ?_
  refine Zh [(90, .v (.bool (decide (q = 3 ∨ q = 4 ∨ q = 5 ∨ q = 6 ∨ q = 7 ∨ q = 8)))), (82, ei q), (13, ei kk), (12, ei j), (11, pN b11), (10, ei k), (9, pN b9), (7, pW bg), (1, T.sl false (l.map agT)), (2, T.sl false (sp.map ei))] ((b11, ⟨tAa, [ei l[k].kind, ei l[k].i, ei l[k].n, es l[k].cmd], 4⟩) :: (b9, ⟨UD, ZA W, 5⟩) :: HG) ?_ ?_
  ·refine ci ?_ ?_
   ·intro h
    refine zC ?_
    exact ⟨⟨Qh (by (exact zG)) (Le.of_eq (congrArg (fun b => T.v (.bool b)) (decide_eq_decide.2 (by omega)))), eL⟩, kR⟩
   intro h3
   refine zC ?_
   refine cr <| s_ Xi <| s_ Qb <| zC ?_
   refine ci ?_ ?_
   ·intro h
    refine zC ?_
    exact ⟨⟨Qh (by (exact zG)) (Le.of_eq (congrArg (fun b => T.v (.bool b)) (decide_eq_decide.2 (by omega)))), eL⟩, kR⟩
   intro h4
   refine zC ?_
   refine cr <| s_ Xi <| s_ Qb <| zC ?_
   refine ci ?_ ?_
   ·intro h
    refine zC ?_
    exact ⟨⟨Qh (by (exact zG)) (Le.of_eq (congrArg (fun b => T.v (.bool b)) (decide_eq_decide.2 (by omega)))), eL⟩, kR⟩
   intro h5
   refine zC ?_
   refine cr <| s_ Xi <| s_ Qb <| zC ?_
   refine ci ?_ ?_
   ·intro h
    refine zC ?_
    exact ⟨⟨Qh (by (exact zG)) (Le.of_eq (congrArg (fun b => T.v (.bool b)) (decide_eq_decide.2 (by omega)))), eL⟩, kR⟩
   intro h6
   refine zC ?_
   refine cr <| s_ Xi <| s_ Qb <| zC ?_
   refine ci ?_ ?_
   ·intro h
    refine zC ?_
    exact ⟨⟨Qh (by (exact zG)) (Le.of_eq (congrArg (fun b => T.v (.bool b)) (decide_eq_decide.2 (by omega)))), eL⟩, kR⟩
   intro h7
   refine zC ?_
   refine cr <| s_ Xi <| s_ Qb <| zC ?_
   exact ⟨⟨Qh (by (exact zG)) (Le.of_eq (congrArg (fun b => T.v (.bool b)) (decide_eq_decide.2 (by omega)))), eL⟩, kR⟩
  refine ci (p := q = 3 ∨ q = 4 ∨ q = 5 ∨ q = 6 ∨ q = 7 ∨ q = 8) ?_ ?_
  ·intro hqq
   have hC := Ez Q8 bg g HG kk hgb (by omega) hG
   refine zC ?_
   refine cr <| s_ Qa <| s_ Qa ?_
   refine QV (Hr := [_, _]) hC (List.perm_append_comm (l₁ := [_, _])) (fun r H' ⟨hr1, hr2⟩ => ?_)
   subst hr1
   refine zC ?_
   exact ⟨(_, H'), _, ⟨hr2, hle (hS.deliver hM (by omega) kk) (by omega)⟩, eL, List.perm_append_comm (l₁ := H'), .skip _ _ _ kR⟩
  intro hn3
  refine zC ?_
  refine cr <| s_ Xi <| s_ Qb <| zC ?_
  refine ci ?_ ?_
  ·intro hqq
   have hC := Bc bg g HG kk hgb (by omega) hG
   refine zC ?_
   refine cr <| s_ Qa <| s_ Qa ?_
   refine QV (Hr := [_, _]) hC (List.perm_append_comm (l₁ := [_, _])) (fun r H' ⟨hr1, hr2⟩ => ?_)
   subst hr1
   refine zC ?_
   exact ⟨(_, H'), _, ⟨hr2, hle (hS.drop kk) (by omega)⟩, eL, List.perm_append_comm (l₁ := H'), .skip _ _ _ kR⟩
  intro hn9
  refine zC ?_
  refine cr <| s_ Xi <| s_ Qb <| zC ?_
  refine ci ?_ ?_
  ·intro hqq
   have hC := R9 bg g HG kk hgb (by omega) hG
   refine zC ?_
   refine cr <| s_ Qa <| s_ Qa ?_
   refine QV (Hr := [_, _]) hC (List.perm_append_comm (l₁ := [_, _])) (fun r H' ⟨hr1, hr2⟩ => ?_)
   subst hr1
   refine zC ?_
   exact ⟨(_, H'), _, ⟨hr2, hle (hS.twice kk) (by omega)⟩, eL, List.perm_append_comm (l₁ := H'), .skip _ _ _ kR⟩
  intro hn10
  refine zC ?_
  refine cr <| s_ Xi <| s_ Qb <| zC ?_
  refine ci ?_ ?_
  ·intro hqq
   have hC := GG hM bg HG j l[k].n hji (by omega) hc1.2 hS (by omega) hG
   refine zC ?_
   refine cr <| s_ Qa <| s_ Qa <| s_ Qc <| s_ Qj ?_
   refine QV (Hr := [_, _]) hC (List.perm_append_comm (l₁ := [_, _])) (fun r H' ⟨g', hr2, hS'⟩ => ?_)
   refine zC ?_
   exact ⟨(_, H'), _, ⟨hr2, hle hS' (by omega)⟩, eL, List.perm_append_comm (l₁ := H'), .skip _ _ _ kR⟩
  intro hn11
  refine zC ?_
  refine cr <| s_ Xi <| s_ Qb <| zC ?_
  refine Zh [(117, .v (.bool (decide (q = 12 ∨ q = 13)))), (82, ei q), (13, ei kk), (12, ei j), (11, pN b11), (10, ei k), (9, pN b9), (7, pW bg), (1, T.sl false (l.map agT)), (2, T.sl false (sp.map ei))] ((b11, ⟨tAa, [ei l[k].kind, ei l[k].i, ei l[k].n, es l[k].cmd], 4⟩) :: (b9, ⟨UD, ZA W, 5⟩) :: HG) ?_ ?_
  ·refine ci ?_ ?_
   ·intro h
    refine zC ?_
    exact ⟨⟨Qh (by (exact zG)) (Le.of_eq (congrArg (fun b => T.v (.bool b)) (decide_eq_decide.2 (by omega)))), eL⟩, kR⟩
   intro h12
   refine zC ?_
   refine cr <| s_ Xi <| s_ Qb <| zC ?_
   exact ⟨⟨Qh (by (exact zG)) (Le.of_eq (congrArg (fun b => T.v (.bool b)) (decide_eq_decide.2 (by omega)))), eL⟩, kR⟩
  refine ci (p := q = 12 ∨ q = 13) ?_ ?_
  ·intro hqq
   have hC := Bf bg g HG j (decide (l[k].n.tmod 3 = 0)) hgb hG
   refine zC ?_
   refine cr <| s_ Qa <| s_ Qa <| s_ Qc <| s_ Qj <| s_ Wz <| s_ Xi ?_
   refine QV (Hr := [_, _]) hC (List.perm_append_comm (l₁ := [_, _])) (fun r H' ⟨hr1, hr2⟩ => ?_)
   subst hr1
   refine zC ?_
   exact ⟨(_, H'), _, ⟨hr2, hle (hS.away j _) (by omega)⟩, eL, List.perm_append_comm (l₁ := H'), .skip _ _ _ kR⟩
  intro hn12
  refine zC ?_
  refine cr <| s_ Xi <| s_ Qb <| zC ?_
  refine ci ?_ ?_
  ·intro hqq
   obtain ⟨m, hm⟩ : ∃ m : Nat, (m : Int) = l[k].n % 20 := ⟨(l[k].n % 20).toNat, by omega⟩
   have w20 := XQ l[k].n 20 (by omega) (by omega)
   rw [← hm] at w20
   have hC := WW Q8 bg g HG m m (by omega) hgb (by omega) hG
   refine zC ?_
   refine cr <| s_ Qa <| s_ Qc <| s_ Qj <| s_ (QM (w20)) ?_
   refine QV (Hr := [_, _]) hC (List.perm_append_comm (l₁ := [_, _])) (fun r H' ⟨hr1, hr2⟩ => ?_)
   subst hr1
   refine zC ?_
   exact ⟨(_, H'), _, ⟨hr2, hle (hS.calm hM m (by omega)) (by omega)⟩, eL, List.perm_append_comm (l₁ := H'), .skip _ _ _ kR⟩
  intro hn14
  refine zC ?_
  refine cr <| s_ Xi <| s_ Qb <| zC ?_
  refine Zh [(134, .v (.bool (decide (q = 15 ∨ q = 16)))), (82, ei q), (13, ei kk), (12, ei j), (11, pN b11), (10, ei k), (9, pN b9), (7, pW bg), (1, T.sl false (l.map agT)), (2, T.sl false (sp.map ei))] ((b11, ⟨tAa, [ei l[k].kind, ei l[k].i, ei l[k].n, es l[k].cmd], 4⟩) :: (b9, ⟨UD, ZA W, 5⟩) :: HG) ?_ ?_
  ·refine ci ?_ ?_
   ·intro h
    refine zC ?_
    exact ⟨⟨Qh (by (exact zG)) (Le.of_eq (congrArg (fun b => T.v (.bool b)) (decide_eq_decide.2 (by omega)))), eL⟩, kR⟩
   intro h15
   refine zC ?_
   refine cr <| s_ Xi <| s_ Qb <| zC ?_
   exact ⟨⟨Qh (by (exact zG)) (Le.of_eq (congrArg (fun b => T.v (.bool b)) (decide_eq_decide.2 (by omega)))), eL⟩, kR⟩
  refine ci (p := q = 15 ∨ q = 16) ?_ ?_
  ·intro hqq
   have hC := A1 bg HG j l[k].cmd hgb (by omega) (by omega) hG
   refine zC ?_
   refine cr <| s_ Qa <| s_ Qa <| s_ Qc <| s_ Qj ?_
   refine QV (Hr := [_, _]) hC (List.perm_append_comm (l₁ := [_, _])) (fun r H' ⟨hr1, hr2⟩ => ?_)
   subst hr1
   refine zC ?_
   exact ⟨(_, H'), _, ⟨hr2, hle (hS.do_ hM (by omega) j _ (by omega)) (by omega)⟩, eL, List.perm_append_comm (l₁ := H'), .skip _ _ _ kR⟩
  intro hn15
  refine zC ?_
  refine cr <| s_ Xi <| s_ Qb <| zC ?_
  refine ci (p := q = 17) ?_ (fun h => absurd (by omega) h)
  intro hq17
  have hC0 := fun cf => EA bg HG j cf hji hgb (by omega) hG
  have hnb := hgb.nb _ hj5
  have hlen := hnb.len
  have hbase := hnb.base
  have hfv := hgb.five
  have hGG := hG
  obtain ⟨a, bm, es', clk, W', wv, hAw, hO, hHG⟩ := hGG
  have hKp := Mh bg g j hji (a := a) (bm := bm) (es := es') (clk := clk) hAw hO
  have hNo := J5 (bg := bg) (g := g) (a := a) (bm := bm) (es := es') (clk := clk) (W := W') (wv := wv) (i := j.toNat) hj5 (by omega)
  rw [← hHG] at hKp hNo
  have hCf := Vx (g.k j.toNat).N (by omega) (by omega) (by omega)
  have w55 := XQ l[k].n 5 (by omega) (by omega)
  have hwr : 0 ≤ (IntKind.u64).wrap (l[k].n % 5) := by rw [Y1 (by omega) (by omega)]; omega
  refine zC ?_
  refine cm [4, 5, 13] (.yields 0 (.yields 1 (.yields 2 (.yields 3 (.yields 7 (.yields 8 (.alt 4 (.alt 5 (.yields 6 (.yields 9 (.yields 10 (.yields 11 (.yields 12 (.alt 13 .done .stop)))))) .stop) .stop))))))) <| m_ (fun _ => Qa) <| m_ (fun _ => Qa) <| m_ (fun _ => Qa) <| m_ (fun _ => Qa) <| m_ (fun _ => Qc) <| Gs ?_
  refine ⟨?_, trivial⟩
  refine LR (Hr := [_, _]) hKp (List.perm_append_comm (l₁ := [_, _])) (fun r H' ⟨hr1, hr2⟩ => ⟨?_, ?_⟩)
  ·subst hr1 hr2; exact zd
  subst hr1 hr2
  refine ⟨?_, trivial⟩
  refine LR (Hr := [_, _]) hNo (.refl _) (fun r H' ⟨hr1, hr2⟩ => ⟨?_, ?_⟩)
  ·subst hr1 hr2; exact zd
  subst hr1 hr2
  refine m_ (fun _ => QM (hCf)) <| m_ (fun _ => QM (w55)) <| m_ (fun _ => Yw) <| m_ (fun _ => Uw) <| m_ (fun _ => OC) ?_
  refine ⟨?_, trivial⟩
  refine LR (Hr := [_, _]) (hC0 (V4 .i64 (Qx (g.k j.toNat).N).2 (Zo .i64 1 ((IntKind.u64).wrap (l[k].n % 5))))) (.refl _) (fun r H' ⟨hr1, hr2⟩ => ⟨?_, ?_⟩)
  ·subst hr1; exact zd
  subst hr1
  refine zC ?_
  exact ⟨(_, H'), _, ⟨hr2, hle (hS.change hM (by omega) j _) (by omega)⟩, eL, List.perm_append_comm (l₁ := H'), .skip _ _ _ kR⟩
 clear hgb hG hS hM hUn w5 wk w18 hq hq18 hj hkk hn hn2 hji hj5 hjn
 clear g HG
 rintro ⟨g, HG⟩ ⟨hG, hS⟩
 simp only at hG hS
 obtain ⟨hS2, hWD, hAll⟩ := hS.look
 obtain ⟨E, ys, τ, l', hS0⟩ := hS
 have hgb := hS0.gb
 clear hS0
 obtain ⟨D, hD⟩ : ∃ D, D = Vr g := ⟨_, rfl⟩
 rw [← hD] at hS2 hWD hAll
 have hDl : ∀ p, p < 5 → (D p).length ≤ 1000000 := fun p hp => by
  have hlen := (hgb.nb p hp).len
  have hfv := hgb.five
  have h1 := Lh ((g.k p).N.log.take (max (min ((g.k p).N.commit - (g.k p).N.base) (((g.k p).N.log.length : Nat) : Int)) 0).toNat)
  rw [List.length_take] at h1
  rw [hD]
  show (YF _).length ≤ _
  omega
 show Sim _ _ [(10, ei k), (9, pN b9), (7, pW bg), (1, T.sl false (l.map agT)), (2, T.sl false (sp.map ei))] ((b9, ⟨UD, ZA W, 5⟩) :: HG) _
 refine zC ?_
 refine cr <| s_ Qb <| zC ?_
 apply Qp (σ := Nat) (ok := fun p => p ≤ 5) (env := fun p => [(14, ei (p : Nat)), (10, ei k), (9, pN b9), (7, pW bg), (1, T.sl false (l.map agT)), (2, T.sl false (sp.map ei))]) (heap := fun p => (b9, ⟨UD, ZA (fun j => if j < p then D j else W j), 5⟩) :: HG) (μ := fun p => 5 - p) (s0 := 0)
 ·exact Nat.zero_le _
 ·exact eL
 ·exact kR
 rintro p hp5
 show Sim _ _ [(14, ei (p : Nat)), (10, ei k), (9, pN b9), (7, pW bg), (1, T.sl false (l.map agT)), (2, T.sl false (sp.map ei))] ((b9, ⟨UD, ZA (fun j => if j < p then D j else W j), 5⟩) :: HG) _
 refine zC ?_
 refine cr <| s_ Qa <| s_ Q2 <| zC ?_
 refine ci ?_ ?_
 ·intro hlp
  have hp : p < 5 := by omega
  have hip : isI (p : Int) := ⟨by omega, by omega⟩
  have hnb := hgb.nb p hp
  have hlen := hnb.len
  have hc0 := hnb.com0
  have hc1' := hnb.com1
  have hfv := hgb.five
  have hDn := Be bg g HG (p : Int) hip (by rw [Int.toNat_natCast]; omega) (by rw [Int.toNat_natCast]; exact hnb.base) (by rw [Int.toNat_natCast]; exact hc0) (by rw [Int.toNat_natCast]; omega) hG
  rw [Int.toNat_natCast, show Mu (g.k p).N = D p by rw [hD]; rfl] at hDn
  have hwa : (ZA (fun j => if j < p then D j else W j))[0 + (p : Int).toNat * 1]? = some (sF (W p)) := by
   rw [Int.toNat_natCast, IN _ hp, if_neg (by omega)]
  have hWp := hWD p hp
  have hWl := hWp.length_le
  have hdl := hDl p hp
  have hFr := EE false false (D p) (W p) (by omega) (by omega) (.inr hWp)
  have hly : Zc (ZA (fun j => if j < p then D j else W j)) (0 + (p : Int).toNat * 1) [sF (D p)] (ZA (fun j => if j < p + 1 then D j else W j)) := by
   have h := B7 (fun j => if j < p then D j else W j) hp (D p)
   rw [Int.toNat_natCast]
   have e : upA (fun j => if j < p then D j else W j) p (D p) = fun j => if j < p + 1 then D j else W j := by
    funext j
    unfold upA
    by_cases h1 : j = p
    ·subst h1; rw [if_pos rfl, if_pos (by omega)]
    ·rw [if_neg h1]
     show (if j < p then D j else W j) = _
     by_cases h2 : j < p
     ·rw [if_pos h2, if_pos (by omega)]
     ·rw [if_neg h2, if_neg (by omega)]
   rw [e] at h
   exact h
  refine zC ?_
  refine cr <| s_ Qa <| s_ Qa ?_
  refine QV (Hr := [_]) hDn (List.perm_append_comm (l₁ := [_])) (fun r H' ⟨hr1, hr2⟩ => ?_)
  subst hr1
  rw [hr2]
  refine Qy (List.perm_append_comm (l₂ := [_])) ?_
  refine s_ Qb <| zC ?_
  refine zC ?_
  refine cr <| s_ Qa ?_
  (first | refine s_ QX ?_ | refine s_ QQ ?_)
  refine s_ Qa <| s_ Yx <| s_ (Qj (hd := by first | rfl | assumption)) ?_
  (first | refine s_ QX ?_ | refine s_ QQ ?_)
  refine s_ Q2 <| s_ Qa <| gF (fun hg => Qa) ?_
  refine gF (fun hg => Qa) ?_
  refine gF (fun hg => Yx (hy := u_ hg)) ?_
  refine gF (fun hg => Qj (hx := u_ hg) (hd := by first | rfl | assumption)) ?_
  refine gF (fun hg => QM (hFr) (ha' := by apply Q1 (u_ hg); apply Q1 (u_ hg); exact XZ)) ?_
  refine gF (fun hg => Yr (p := True) (hx := u_ hg)) ?_
  refine s_ YK <| zC ?_
  refine ci (p := _ ∨ ¬ True) (fun h => ?_) (fun _ => ?_)
  ·exfalso
   rcases h with h | h
   ·simp only [List.length_map] at h; omega
   ·exact h trivial
  refine zC ?_
  refine cr <| s_ Qa <| s_ Qa <| s_ Yx <| Qz (hc := hly) ?_
  refine zC ?_
  refine cr <| s_ Qb <| zC ?_
  apply Qp (σ := Nat) (ok := fun q => q ≤ p) (env := fun q => [(16, ei (q : Nat)), (15, sF (D p)), (14, ei (p : Nat)), (10, ei k), (9, pN b9), (7, pW bg), (1, T.sl false (l.map agT)), (2, T.sl false (sp.map ei))]) (heap := fun _ => (b9, ⟨UD, ZA (fun j => if j < p + 1 then D j else W j), 5⟩) :: HG) (μ := fun q => p - q) (s0 := 0)
  ·exact Nat.zero_le _
  ·exact eL
  ·exact kR
  rintro q hqp
  show Sim _ _ [(16, ei (q : Nat)), (15, sF (D p)), (14, ei (p : Nat)), (10, ei k), (9, pN b9), (7, pW bg), (1, T.sl false (l.map agT)), (2, T.sl false (sp.map ei))] ((b9, ⟨UD, ZA (fun j => if j < p + 1 then D j else W j), 5⟩) :: HG) _
  refine zC ?_
  refine cr <| s_ Qa <| s_ Qa <| s_ Q2 <| zC ?_
  refine ci ?_ ?_
  ·intro hlq
   have hq5 : q < 5 := by omega
   have hwq : (ZA (fun j => if j < p + 1 then D j else W j))[0 + (q : Int).toNat * 1]? = some (sF (D q)) := by
    rw [Int.toNat_natCast, IN _ hq5, if_pos (by omega)]
   have hdq := hDl q hq5
   have hFq := EE false false (D p) (D q) (by omega) (by omega) (hAll p q hp hq5)
   refine zC ?_
   refine cr <| s_ Qa <| s_ Qa <| s_ Yx <| s_ (Qj (hd := by first | rfl | assumption)) <| s_ (QM (hFq)) <| s_ (Yr (p := True)) <| zC ?_
   refine ci (p := ¬ True) (fun h => absurd trivial h) (fun _ => ?_)
   refine zC ?_
   refine cr <| s_ Qa <| s_ Q6 <| s_ Qb <| zC ?_
   refine ⟨q + 1, by omega, (by simp only []; omega), ⟨?_, eL⟩, kR⟩
   apply Qh; (exact zG)
   exact Le.refl _
  ·intro hge
   refine zC ?_
   refine cr <| s_ Qa <| s_ Q6 <| s_ Qb <| zC ?_
   refine ⟨p + 1, by omega, (by simp only []; omega), ⟨?_, eL⟩, kR⟩
   apply Qh; (exact zG)
   exact Le.refl _
 ·intro hge
  have hp : p = 5 := by omega
  subst hp
  refine zC ?_
  refine cr <| s_ Qa <| s_ Q6 <| s_ Qb <| zC ?_
  refine ⟨(k + 1, g, HG, D), ⟨by simp only; omega, by simp only; omega, hG, _, hS2⟩, (by simp only []; omega), ⟨?_, eL⟩, kR⟩
  apply Qh; (exact zG)
  exact Le.refl _
end Go.Proofs.YtjbokbikkcfjjaaGreat
namespace Go.Cap
open Go.ChangeShapes Go.WideShapes Go.ChangeAt Go.RowKit
theorem QW.below {S S' : Nat → Prop} {w w' : World} (h : QW [] S w S' w') : Below w.heap.size w w' := ⟨h.os, h.tape, h.output, h.size, fun k hk => h.keep k hk (by simp)⟩
theorem G2 {P : Program} {f : FuncId} {args : List T} (h : FnP P f args (fun r => r = .v (.bool true))) {w : World} {vs : List Value} (hr : Qr (fun b => b < w.heap.size) w args vs) :
  Calls P f vs.toArray w fun e w' => e = .returned (.bool true) ∧ Below w.heap.size w w' := by
 refine (h (fun b => b < w.heap.size) w vs (fun b hb => hb) (Own.nil _ _) hr).mono ?_
 rintro e w' ⟨u, S', r, H', rfl, ⟨_, rfl⟩, hrel, _, hst, _⟩
 exact ⟨by rw [hrel.v_eq], hst.below⟩
section
variable {H : Type} {enc : TypeId × Value → H} {P : Program}
theorem Ut (hl : laidOutB P = true) {W W' : World} (hb : Below W.heap.size W W') : ∀ (ts : List TypeId) (vs : List Value) (ds : List (DataW H)) (ps : List MemPlace),
  (∀ t ∈ ts, P.readableRec t = true ∧ t < P.types.size) → DataW.TrodAll enc P W 0 (fun _ => true) true ts vs ds ps → (∀ x ∈ ps, x.block < W.heap.size) →
  DataW.TrodAll enc P W' 0 (fun b => decide (b < W.heap.size)) true ts vs ds ps
 | [], _, _, _, _, h, _ => by
  obtain ⟨rfl, rfl, rfl⟩ := trodAll_nil h
  exact h
 | t :: ts, _, _, _, ht, h, hp => by
  obtain ⟨v, vs1, d, ds1, a, b, rfl, rfl, rfl, h1, h2⟩ := trodAll_cons h
  refine ⟨a, b, Below.trod hl (ht t List.mem_cons_self).1 (ht t List.mem_cons_self).2 h1 hb (fun x hx => hp x (List.mem_append_left _ hx)), ?_, rfl⟩
  exact Ut hl hb ts vs1 ds1 b (fun y hy => ht y (List.mem_cons_of_mem _ hy)) h2 (fun x hx => hp x (List.mem_append_right _ hx))
theorem RC {f : Func} {s : ChangeSpec} {W W' : World} {args : Array Value} {ds gs : List (DataW H)} {before : List MemPlace} {tb : TypeId} (hl : laidOutB P = true) (hvs : s.vars = [])
  (hW : DataW.Whole enc P f.params.toList s.vars false W args.toList ds gs before) (hb : Below W.heap.size W W') (hts : (f.params.toList.all fun t => P.readableRec t && Nat.blt t P.types.size) = true)
  (hres : (s.fn H (ds ++ gs)).results = [.lit (.bool true)]) (harg : (s.fn H (ds ++ gs)).args = ds) (hvar : (s.fn H (ds ++ gs)).vars = []) (hr : f.resultTypes = #[tb]) (htb : P.underlying tb = some .bool) :
  s.post enc P f false true false false W args (.bool true) W' := by
 have hts' : ∀ t ∈ f.params.toList, P.readableRec t = true ∧ t < P.types.size := fun t ht => by
  have := List.all_eq_true.1 hts t ht
  simp only [Bool.and_eq_true] at this
  exact ⟨this.1, by simpa using this.2⟩
 have hW' := hW
 obtain ⟨p, q, hA, hV, rfl, hfz, hnd⟩ := hW
 rw [hvs] at hV
 obtain ⟨rfl, rfl⟩ := trodVars_none hV
 refine ⟨ds, [], p ++ [], [], p, [], hW', ?_, ?_, ?_, hb.frame _, fun h => by cases h⟩
 ·rw [hres, hr]
  exact trodAll_mk1 (shut_bool htb true)
 ·rw [harg]
  exact Ut hl hb _ _ _ _ hts' hA (fun x hx => hW'.lt x (by simpa using hx))
 ·rw [hvs, hvar]; rfl
end
end Go.Cap
