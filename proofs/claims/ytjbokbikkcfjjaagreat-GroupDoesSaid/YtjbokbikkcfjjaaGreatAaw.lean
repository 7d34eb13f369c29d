/-
  GroupDoes: what a committee answers to a command; two lists of texts that are one.
-/
import Derived.Test.YtjbokbikkcfjjaaGreatAav
set_option maxRecDepth 16000
set_option maxHeartbeats 8000000
set_option linter.all false
namespace Go.Proofs.YtjbokbikkcfjjaaGreat
open Go.Cap
attribute [local irreducible] POp Qe AD EOp Sim FnH T.gp
theorem Dn {α β : Type} {f : α → β} {ns : List α} {l : List β} {i : Nat} {b : β} {d : α} (h : ns.map f = l) (hi : l[i]? = some b) : f (ns.getD i d) = b := by
 rw [← h, List.getElem?_map] at hi
 rw [List.getD_eq_getElem?_getD]
 cases hn : ns[i]? with
 | none => rw [hn] at hi; cases hi
 | some x => rw [hn] at hi; simpa using hi
theorem Or {g : Gn} (h : g.aw = [false, false, false, false, false]) {i : Int} (hi : isI i) : Jt g i = 0 := by
 have : thN g i = true := by
  unfold thN
  rw [h, decide_eq_true hi]
  have : i.toNat = 0 ∨ i.toNat = 1 ∨ i.toNat = 2 ∨ i.toNat = 3 ∨ i.toNat = 4 := by unfold isI at hi; omega
  rcases this with h | h | h | h | h <;> rw [h] <;> rfl
 unfold Jt
 rw [if_neg (fun h => h hi), if_neg (fun h => h this)]
def Wj (l : List UInt8) (i : Int) (c : UInt8) : List UInt8 := if i = 0 then l ++ [c] else l
def LO (i : Int) : Int := if ¬ isI i then 2 else if 0 < i then 21 else 0
theorem C2 (l : List UInt8) (hl : l.length ≤ 11) (i : Int) (c : UInt8) : (doN (stN l) i [c]).1 = stN (Wj l i c) ∧ (doN (stN l) i [c]).2 = LO i := by
 obtain ⟨h1, h2, h3, _, _⟩ := DK l hl
 unfold Wj LO
 by_cases hi : isI i
 ·rw [if_neg (show ¬ ¬ isI i from fun h => h hi)]
  by_cases h0 : i = 0
  ·subst h0
   rw [if_pos rfl, if_neg (show ¬ (0 : Int) < 0 by omega), Oz]
   exact ⟨rfl, h3 c⟩
  ·have hp : 0 < i := by unfold isI at hi; omega
   rw [if_neg h0, if_pos hp]
   have hr : ((stN l).n i.toNat).role = 0 := by
    have : i.toNat = 1 ∨ i.toNat = 2 ∨ i.toNat = 3 ∨ i.toNat = 4 := by unfold isI at hi; omega
    unfold Gn.n
    refine Dn (f := fun x : Nd => x.role) h1 ?_
    rcases this with h | h | h | h <;> rw [h] <;> rfl
   have hpf : Xa ((stN l).n i.toNat) [c] = ((stN l).n i.toNat, 0, 21) := by unfold Xa; rw [if_pos (by rw [hr]; omega)]
   unfold doN
   rw [Or h2 hi, if_neg (show ¬ ¬ (0 : Int) = 0 from fun h => h rfl), hpf]
   unfold DR
   rw [if_pos (show ¬ (21 : Int) = 0 by omega)]
   exact ⟨rfl, rfl⟩
 ·rw [if_pos (show ¬ isI i from hi), if_neg (show ¬ i = 0 from fun h => hi ⟨by omega, by omega⟩)]
  unfold doN Jt
  rw [if_pos (show ¬ isI i from hi), if_pos (show ¬ (2 : Int) = 0 by omega)]
  exact ⟨rfl, rfl⟩
theorem Iv (l : List UInt8) (hl : l.length ≤ 11) : doN (stN l) 0 [] = (stN l, 1) := by
 obtain ⟨h1, h2, h3, _, _⟩ := DK l hl
 have hr : ((stN l).n (0 : Int).toNat).role = 2 := Dn (f := fun x : Nd => x.role) h1 rfl
 have hpf : Xa ((stN l).n (0 : Int).toNat) [] = ((stN l).n (0 : Int).toNat, 0, 1) := by unfold Xa; rw [if_neg (fun h => h hr), if_pos rfl]
 unfold doN
 rw [Or h2 ⟨by omega, by omega⟩, if_neg (show ¬ ¬ (0 : Int) = 0 from fun h => h rfl), hpf]
 unfold DR
 rw [if_pos (show ¬ (1 : Int) = 0 by omega)]
section
variable {g : Gp} {τ l' u : Nat} {l : List UInt8}
theorem Df (hB : GB PS g τ l' u) (hu : u + 205 ≤ 25000) (i : Int) (cmd : List UInt8) (hc : cmd.length ≤ 61) (hi : isI i) : PS (g.k i.toNat).N.log.length ⟨(g.k i.toNat).N.term, 0, cmd⟩ := by
 have h := hB.nb i.toNat (Xr hi).1
 have h1 := h.term0
 have h2 := h.term1
 have h3 := hB.tau
 exact ⟨h1, by simp only; omega, Int.le_refl _, by simp only; omega, hc⟩
theorem G1 (hL : GL 7 g) (hp : prG g = stN l) (hB : GB PS g τ l' u) (hu : u + 205 ≤ 25000) (hl : l.length ≤ 11) (i : Int) (c : UInt8) :
  GL 7 (doG g i [c]).1 ∧ prG (doG g i [c]).1 = stN (Wj l i c) ∧ (doG g i [c]).2 = LO i ∧ ∃ τ' l', GB PS (doG g i [c]).1 τ' l' (u + 205) := by
 obtain ⟨h1, h2, h3, h4⟩ := hL.do_ Xx hB hu i [c] (Df hB hu i [c] (by simp))
 obtain ⟨h5, h6⟩ := C2 l hl i c
 rw [hp] at h2 h3
 exact ⟨h1, by rw [h2, h5], by rw [h3, h6], h4⟩
theorem R4 (hL : GL 7 g) (hp : prG g = stN l) (hB : GB PS g τ l' u) (hu : u + 205 ≤ 25000) (hl : l.length ≤ 11) :
  GL 7 (doG g 0 []).1 ∧ prG (doG g 0 []).1 = stN l ∧ (doG g 0 []).2 = 1 ∧ ∃ τ' l', GB PS (doG g 0 []).1 τ' l' (u + 205) := by
 obtain ⟨h1, h2, h3, h4⟩ := hL.do_ Xx hB hu 0 [] (Df hB hu 0 [] (by simp))
 rw [hp, Iv l hl] at h2 h3
 exact ⟨h1, h2, h3, h4⟩
end
theorem LE {g : Gp} {τ l u : Nat} (bg : Nat) (H : Qc) (i : Int) (cmd : List UInt8) (hB : GB PS g τ l u) (hu : u + 205 ≤ 25000) (hc : cmd.length ≤ 61) (hG : IsG bg g H) : FnH Tryz.prog 17 [pW bg, ei i, es cmd] H (fun r H' => r = ei (doG g i cmd).2 ∧ IsG bg (doG g i cmd).1 H') := by
 by_cases hi : isI i
 ·exact Bp Xx bg g H i cmd hB hu (Df hB hu i cmd hc hi) hG
 ·have ha : XO g i = 2 := by unfold XO; rw [if_pos hi]
  have hd : doG g i cmd = (g, 2) := by unfold doG; rw [ha, if_pos (by omega)]
  rw [hd]
  have := WJ bg g H i hG
  refine fe Tryz.func17 fun S0 w0 => ?_
  show Sim _ _ [(0, pW bg), (1, ei i), (2, es cmd)] H _
  rw [ha] at this
  refine zC ?_
  refine cr <| s_ Qb <| zC ?_
  refine cr <| s_ Qa <| s_ Qa ?_
  refine QJ this (fun r H' ⟨hr1, hr2⟩ => ?_)
  subst hr1 hr2
  refine s_ Qb <| zC ?_
  refine cr <| s_ Qa <| s_ XR <| zC ?_
  refine ci (p := ¬ (2 : Int) = 0) (fun _ => ?_) (fun h => absurd (by omega) h)
  refine zC ?_
  refine cr <| s_ Qa <| s_ Qb <| zC ?_
  refine zR ?_
  exact rh kR ⟨rfl, hG⟩ (Le.refl _)
theorem Ot (l : List (List UInt8)) (hl : l.length ≤ 1000000000) : FnP Tryz.prog 18 [.sl false (l.map es), .sl false (l.map es)] (fun r => r = .v (.bool true)) := by
 have hk := es1 l
 refine fe Tryz.func18 fun S0 w0 => ?_
 show Sim _ _ [(0, T.sl false (l.map es)), (1, T.sl false (l.map es))] _ _
 refine zC ?_
 refine cr <| s_ Qb <| zC ?_
 refine cr <| s_ Qa ?_
 (first | refine s_ QP ?_ | refine s_ QO ?_)
 refine s_ Qa ?_
 (first | refine s_ QP ?_ | refine s_ QO ?_)
 refine s_ XR <| zC ?_
 refine ci (fun hne => absurd rfl hne) (fun _ => ?_)
 refine zC ?_
 refine cr <| s_ Qb <| zC ?_
 apply Qo (σ := Nat) (ok := fun k => k ≤ l.length) (env := fun k => [(5, ei (k : Nat)), (0, T.sl false (l.map es)), (1, T.sl false (l.map es))]) (heap := fun _ => []) (μ := fun k => l.length - k) (s0 := 0)
 ·exact Nat.zero_le _
 ·exact eL
 ·exact kR
 rintro k hk1
 refine zC ?_
 refine cr <| s_ Qa <| s_ Qa ?_
 (first | refine s_ QP ?_ | refine s_ QO ?_)
 refine s_ QR <| zC ?_
 refine ci ?_ ?_
 ·intro hlt
  simp only [List.length_map] at hlt
  have hix : k < l.length := by omega
  apply ck
  apply cq
  refine zC ?_
  refine ca [0, 1, 2, 3, 4, 5, 6, 7, 8] [] <| a_ (fun _ => Qa) <| a_ (fun _ => Qa) ?_
  (first | refine a_ (fun _ => Xg hix) ?_ | refine a_ (fun _ => Xg hix2) ?_ | refine a_ (fun _ => YK) ?_ | refine a_ (fun _ => ZK) ?_)
  (first | refine a_ (fun _ => Qn) ?_ | refine QF ?_)
  refine a_ (fun _ => Qa) <| a_ (fun _ => Qa) ?_
  (first | refine a_ (fun _ => Xg hix) ?_ | refine a_ (fun _ => Xg hix2) ?_ | refine a_ (fun _ => YK) ?_ | refine a_ (fun _ => ZK) ?_)
  (first | refine a_ (fun _ => Qn) ?_ | refine QF ?_)
  refine a_ (fun _ => CM) ?_
  apply an
  refine zC ?_
  refine ci (fun h => absurd rfl h) (fun _ => ?_)
  refine zC ?_
  refine cr <| s_ Qa <| s_ Q0 <| s_ Qb <| zC ?_
  exact ⟨k + 1, by omega, by show l.length - (k + 1) < l.length - k; omega, ⟨Qi (by rfl) (Le.refl _), eL⟩, kR⟩
 ·intro hlt
  refine zC ?_
  refine cr <| s_ Qb <| zC ?_
  refine zE ?_
  exact Le.refl _
theorem BN : stN [] = Ut (O9 7) 30 := by unfold stN; rw [List.foldl_nil]
structure DZ (bg k : Nat) (g : Gp) (l : List UInt8) (HG : Qc) (v : Value) (Hw : Qc) : Prop where
 len : l.length ≤ k
 is : IsG bg g HG
 gl : GL 7 g
 pr : prG g = stN l
 gb : ∃ τ l', GB PS g τ l' (150 + 205 * k)
 own : OSl tSs 1 ((Xt l).map es) v Hw
theorem BK (k : Nat) (hk : k ≤ 11) : (97 + (k : Int)) = ((UInt8.ofNat (97 + k)).toNat : Int) := by
 rw [UInt8.toNat_ofNat']; omega
theorem EC {bg : Nat} {g : Gp} {H : Qc} {τ l' u : Nat} {l : List UInt8} (hB : GB PS g τ l' u) (hu : u ≤ 25000) (hd : (prG g).ns.map Us = [Xt l, Xt l, Xt l, [], []]) (hG : IsG bg g H) (i : Int) (hi : isI i) (x : List (List UInt8)) (hx : [Xt l, Xt l, Xt l, [], []][i.toNat]? = some x) :
  FnH Tryz.prog 19 [pW bg, ei i] H (fun r H' => r = .sl false (x.map es) ∧ H' = H) := by
 obtain ⟨h5, _⟩ := Xr hi
 have h := hB.nb i.toNat h5
 have h1 := h.len
 have h2 := h.com1
 have h3 := h.com0
 have h4 := hB.fuel
 have hh := RB bg g H i hi (by omega) h.base h3 (by omega) hG
 have he : Us (g.k i.toNat).N = x := by
  rw [← Vr g i.toNat (by rw [hB.ks]; exact h5)]
  exact Dn (f := Us) hd hx
 rw [he] at hh
 exact hh
theorem RC (n0 : Int) (who : List Int) (h1 : who.length ≤ 9223372036854775807) : FnP Tryz.prog 4 [ei n0, .sl false (who.map ei)] (fun r => r = .v (.bool true)) := by
 have hK := Dw
 have hN := EA PS 7 (by omega) (by omega)
 have hw := UK n0 12 (by omega) (by omega)
 have hm0 := Int.emod_nonneg n0 (show (12 : Int) ≠ 0 by omega)
 have hm1 := Int.emod_lt_of_pos n0 (show 0 < (12 : Int) by omega)
 obtain ⟨n, hn⟩ : ∃ n : Nat, (n : Int) = n0 % 12 := ⟨(n0 % 12).toNat, by omega⟩
 rw [← hn] at hw hm0 hm1
 refine fe Tryz.func4 fun S0 w0 => ?_
 show Sim _ _ [(0, ei n0), (1, T.sl false (who.map ei))] _ _
 refine zC ?_
 refine cr <| s_ Qb <| zC ?_
 refine cr <| s_ (QK (hK)) <| s_ CL <| zC ?_
 refine ci (p := False) (fun h => h.elim) (fun _ => ?_)
 refine zC ?_
 refine cr <| s_ Qa <| s_ (QK (hw)) <| s_ Qb <| zC ?_
 refine zC ?_
 apply cr
 refine QU (Hs := []) (Hr := []) hN (.refl _) (fun r H ⟨bg, g, hr, hG, hB, hL, hpr, hcf⟩ => ?_)
 subst hr
 rw [List.append_nil]
 have hC := Uj Xx bg g H 30 30 (by omega) hB (by omega) hG
 obtain ⟨l1, hB1, _⟩ := hB.calm Xx.toPO 30 (by omega)
 obtain ⟨hL1, hpr1⟩ := hL.calm Xx hB 30 (by omega)
 obtain ⟨g1, hg1⟩ : ∃ g1, g1 = ZO g 30 := ⟨_, rfl⟩
 rw [← hg1] at hC hB1 hL1 hpr1
 rw [hpr] at hpr1
 clear hL hpr hg1
 refine s_ Qa <| s_ QC <| s_ QC <| s_ Qb <| s_ Qb <| zC ?_
 refine cr <| s_ Qa ?_
 refine QJ hC (fun r H' ⟨hr1, hG1⟩ => ?_)
 subst hr1
 refine zC ?_
 refine cr <| s_ Qb <| zC ?_
 refine cr <| s_ Qb <| zC ?_
 apply Qo (σ := Nat × Gp × List UInt8 × Qc × Value × Qc) (ok := fun s => s.1 ≤ n ∧ DZ bg s.1 s.2.1 s.2.2.1 s.2.2.2.1 s.2.2.2.2.1 s.2.2.2.2.2) (env := fun s => [(8, ei s.1), (7, .v s.2.2.2.2.1), (5, pW bg), (0, ei n), (1, T.sl false (who.map ei))]) (heap := fun s => s.2.2.2.1 ++ s.2.2.2.2.2) (μ := fun s => n - s.1) (s0 := (0, g1, [], H', .slice none 0 0, []))
 ·exact ⟨Nat.zero_le _, Nat.le_refl _, hG1, hL1, hpr1.trans BN.symm, ⟨_, l1, hB1⟩, Yy⟩
 ·exact eL
 ·show Qh H' (H' ++ [])
  rw [List.append_nil]
  exact kR
 clear hG1 hC hB1 hL1 hpr1
 rintro ⟨k, g, l, HG, v, Hw⟩ ⟨hk, hok⟩
 simp only at hk hok
 show Sim _ _ [(8, ei k), (7, .v v), (5, pW bg), (0, ei n), (1, T.sl false (who.map ei))] (HG ++ Hw) _
 obtain ⟨hlen, hG, hL, hpr, ⟨τ, l', hB⟩, ho⟩ := hok
 refine zC ?_
 refine cr <| s_ Qa <| s_ Qa <| s_ QR <| zC ?_
 refine ci ?_ ?_
 ·intro hlt
  apply ck
  apply cq
  refine L2 (σ := Gp × List UInt8 × Qc × Value × Qc) (ok := fun s => DZ bg (k + 1) s.1 s.2.1 s.2.2.1 s.2.2.2.1 s.2.2.2.2) (env := fun s => [(8, ei k), (7, .v s.2.2.2.1), (5, pW bg), (0, ei n), (1, T.sl false (who.map ei))]) (heap := fun s => s.2.2.1 ++ s.2.2.2.2) ?_ (fun s hs => ?_)
  ·obtain ⟨at_, hat⟩ : ∃ at_ : Int, at_ = if h : k < who.length then who[k] % 7 - 1 else 0 := ⟨_, rfl⟩
   refine zC ?_
   refine cr <| s_ Qb <| zC ?_
   refine cr <| s_ Qa <| s_ Qa ?_
   (first | refine s_ QP ?_ | refine s_ QO ?_)
   refine s_ QR <| zC ?_
   refine Ju [(9, ei at_), (8, ei k), (7, .v v), (5, pW bg), (0, ei n), (1, T.sl false (who.map ei))] (HG ++ Hw) ?_ ?_
   ·refine ci ?_ ?_
    ·intro h
     simp only [List.length_map] at h
     have hix : k < who.length := by omega
     rw [dif_pos hix] at hat
     have hw2 := UK who[k] 7 (by omega) (by omega)
     have hq0 := Int.emod_nonneg who[k] (show (7 : Int) ≠ 0 by omega)
     have hq1 := Int.emod_lt_of_pos who[k] (show 0 < (7 : Int) by omega)
     subst hat
     refine zC ?_
     refine cr <| s_ Qa <| s_ Qa ?_
     (first | refine s_ (Xg hix) ?_ | refine s_ (Xg hix2) ?_ | refine s_ YK ?_ | refine s_ ZK ?_)
     (first | refine s_ Qn ?_ | refine s_ Ql ?_)
     refine s_ (QK (hw2)) <| s_ Y9 <| s_ Qb <| zC ?_
     exact ⟨eL, kR⟩
    ·intro h
     simp only [List.length_map] at h
     rw [dif_neg (by omega)] at hat
     subst hat
     refine zC ?_
     exact ⟨eL, kR⟩
   obtain ⟨c, hc⟩ : ∃ c : UInt8, c = UInt8.ofNat (97 + k) := ⟨_, rfl⟩
   have h97 := BK k (by omega)
   rw [← hc] at h97
   have hwr : IntKind.u8.wrap (97 + (k : Int)) = (c.toNat : Int) := by
    rw [h97]
    have := c.toNat_lt
    simp [IntKind.wrap, IntKind.bits, IntKind.signed]; omega
   refine zC ?_
   refine cr <| s_ Qa <| s_ Q0 <| s_ Ya ?_
   rw [hwr]
   show Qe _ _ _ _ ((40, eb c) :: _) _ _
   refine s_ Z0 ?_
   show Qe _ _ _ _ ((41, T.sl true ([c].map eb)) :: _) _ _
   refine s_ C8 <| s_ Qb <| zC ?_
   have hDo := LE bg HG at_ [c] hB (by omega) (by simp) hG
   obtain ⟨hL2, hp2, he2, τ2, l2, hB2⟩ := G1 hL hpr hB (by omega) (by omega) at_ c
   rw [he2] at hDo
   refine zC ?_
   refine cr <| s_ Qa <| s_ Qa <| s_ Qa ?_
   refine QU hDo (.refl _) (fun r HG2 ⟨hr1, hG2⟩ => ?_)
   subst hr1
   have hok2 : ∀ m : List UInt8, m.length ≤ k + 1 → Wj l at_ c = m → ∀ v Hw, OSl tSs 1 ((Xt m).map es) v Hw → DZ bg (k + 1) (doG g at_ [c]).1 m HG2 v Hw := fun m hm h v Hw ho => ⟨hm, hG2, hL2, by rw [hp2, h], ⟨τ2, l2, by rw [show 150 + 205 * (k + 1) = 150 + 205 * k + 205 by omega]; exact hB2⟩, ho⟩
   refine s_ Qb <| zC ?_
   refine cr <| s_ Qa <| s_ QR <| s_ Qa <| gF (fun hg => Qa) ?_
   refine gF (fun hg => X0 (hx := u_ hg)) ?_
   refine s_ YD <| s_ Qb <| zC ?_
   refine ci ?_ ?_
   ·intro hor
    have hni : ¬ isI at_ := by unfold isI; omega
    have h2 : LO at_ = 2 := by unfold LO; rw [if_pos hni]
    have hl2 : Wj l at_ c = l := by unfold Wj; rw [if_neg (by omega)]
    refine zC ?_
    refine cr <| s_ Qa <| s_ XR <| zC ?_
    refine ci (fun h => absurd h2 h) (fun _ => ?_)
    refine zC ?_
    exact ⟨(_, l, HG2, v, Hw), _, hok2 l (by omega) hl2 v Hw ho, eL, .refl _, kR⟩
   intro hor
   have hni : isI at_ := by unfold isI; omega
   refine zC ?_
   refine cr <| s_ Qa <| s_ X0 <| s_ Qb <| zC ?_
   refine ci ?_ ?_
   ·intro hgt
    have h2 : LO at_ = 21 := by unfold LO; rw [if_neg (fun h => h hni), if_pos (by omega)]
    have hl2 : Wj l at_ c = l := by unfold Wj; rw [if_neg (by omega)]
    refine zC ?_
    refine cr <| s_ Qa <| s_ XR <| zC ?_
    refine ci (fun h => absurd h2 h) (fun _ => ?_)
    refine zC ?_
    exact ⟨(_, l, HG2, v, Hw), _, hok2 l (by omega) hl2 v Hw ho, eL, .refl _, kR⟩
   ·intro hgt
    have h0 : at_ = 0 := by unfold isI at hni; omega
    have h2 : LO at_ = 0 := by unfold LO; rw [if_neg (fun h => h hni), if_neg (by omega)]
    have hl2 : Wj l at_ c = l ++ [c] := by unfold Wj; rw [if_pos h0]
    refine zC ?_
    refine cr <| s_ Qa <| s_ XR <| zC ?_
    refine ci (fun h => absurd h2 h) (fun _ => ?_)
    refine zC ?_
    refine cr <| s_ Qa <| s_ Qa <| s_ Z0 ?_
    refine VW (ho := ho) (A := HG2) (B := []) (ys := [es [c]]) (f := true) (es1 _) (fun v' Hs' ho' => ?_) (hH := by rw [List.append_nil]) (hb := by simp only [Xt, List.length_map, List.length_cons, List.length_nil]; omega) (hm := by simp only [Xt, List.length_map, List.length_cons, List.length_nil]; omega)
    refine s_ Qb <| zC ?_
    refine ⟨(_, l ++ [c], HG2, v', Hs'), _, hok2 (l ++ [c]) (by simp; omega) hl2 v' Hs' ?_, eL, (by show List.Perm (HG2 ++ (Hs' ++ [])) _; rw [List.append_nil]), kR⟩
    have : (Xt (l ++ [c])).map es = (Xt l).map es ++ [es [c]] := by unfold Xt; simp
    rw [this]
    exact ho'
  obtain ⟨g2, m, HG2, v2, Hw2⟩ := s
  simp only at hs
  show Sim _ _ [(8, ei k), (7, .v v2), (5, pW bg), (0, ei n), (1, T.sl false (who.map ei))] (HG2 ++ Hw2) _
  refine zC ?_
  refine cr <| s_ Qa <| s_ Q0 <| s_ Qb <| zC ?_
  refine ⟨(k + 1, g2, m, HG2, v2, Hw2), ⟨by simp only; omega, hs⟩, (by simp only []; omega), ⟨?_, eL⟩, kR⟩
  apply Qi; (exact zG)
  exact Le.refl _
 ·intro hge
  have hDo := LE bg HG 0 [] hB (by omega) (by simp) hG
  obtain ⟨hL2, hp2, he2, τ2, l2, hB2⟩ := R4 hL hpr hB (by omega) (by omega)
  rw [he2] at hDo
  obtain ⟨g2, hg2⟩ : ∃ g2, g2 = (doG g 0 []).1 := ⟨_, rfl⟩
  rw [← hg2] at hDo hL2 hp2 hB2
  have ht2 := hB2.tau
  refine zC ?_
  refine cr <| s_ Qa ?_
  refine QU hDo (.refl _) (fun r HG2 ⟨hr1, hG2⟩ => ?_)
  subst hr1
  refine s_ XR <| zC ?_
  refine ci (p := ¬ (1 : Int) = 1) (fun h => absurd rfl h) (fun _ => ?_)
  have hC := Uj Xx bg g2 HG2 10 10 (by omega) hB2 (by omega) hG2
  obtain ⟨l3, hB3, _⟩ := hB2.calm Xx.toPO 10 (by omega)
  obtain ⟨hL3, hp3⟩ := hL2.calm Xx hB2 10 (by omega)
  obtain ⟨g3, hg3⟩ : ∃ g3, g3 = ZO g2 10 := ⟨_, rfl⟩
  rw [← hg3] at hC hB3 hL3 hp3
  rw [hp2] at hp3
  obtain ⟨_, _, _, hdone, haw⟩ := DK l (by omega)
  rw [← hp3] at hdone haw
  refine zC ?_
  refine cr <| s_ Qa ?_
  refine QU hC (.refl _) (fun r HG3 ⟨hr1, hG3⟩ => ?_)
  subst hr1
  refine zC ?_
  refine cr <| s_ Qb <| zC ?_
  have hll : (Xt l).length ≤ 11 := by unfold Xt; rw [List.length_map]; omega
  have hTx := Ot (Xt l) (by omega)
  refine Y6 (G := Hw) (H1 := HG3) [(7, .sl false ((Xt l).map es))] List.perm_append_comm ⟨OSl.lend ho (fun _ h => h) (es1 _) (MM _), trivial⟩ ?_
  apply Qo (σ := Nat) (ok := fun i => i ≤ 3) (env := fun i => [(12, ei (i : Nat)), (7, T.sl false ((Xt l).map es)), (5, pW bg)]) (heap := fun _ => HG3) (μ := fun i => 3 - i) (s0 := 0)
  ·exact Nat.zero_le _
  ·exact eL
  ·exact kR
  intro i hi
  refine zC ?_
  refine cr <| s_ Qa <| s_ QR <| zC ?_
  refine ci ?_ ?_
  ·intro hlt
   have hD := EC hB3 (by omega) hdone hG3 (i : Int) ⟨by omega, by omega⟩ (Xt l) (by
    have : i = 0 ∨ i = 1 ∨ i = 2 := by omega
    rcases this with h | h | h <;> subst h <;> rfl)
   apply ck
   apply cq
   refine zC ?_
   refine cr <| s_ Qa <| s_ Qa ?_
   refine QJ hD (fun r H' ⟨hr1, hr2⟩ => ?_)
   subst hr1 hr2
   refine s_ Qa <| s_ (QK (hTx)) <| s_ CL <| zC ?_
   refine ci (p := False) (fun h => h.elim) (fun _ => ?_)
   refine zC ?_
   refine cr <| s_ Qa <| s_ Q0 <| s_ Qb <| zC ?_
   refine ⟨i + 1, by omega, by show 3 - (i + 1) < 3 - i; omega, ⟨?_, eL⟩, kR⟩
   apply Qi; (exact zG)
   exact Le.refl _
  ·intro hge3
   obtain ⟨g4, hg4⟩ : ∃ g4, g4 = M1 g3 0 true := ⟨_, rfl⟩
   have hA := RD bg g3 HG3 0 true hB3 hG3
   have h0 : isI 0 := ⟨by omega, by omega⟩
   have haw4 : g4 = { g3 with aw := g3.aw.set 0 true } := by rw [hg4]; unfold M1; rw [if_pos h0]; rfl
   have hB4 : GB PS g4 (τ2 + 5 * 10) l3 (150 + 205 * k + 205 + 5 * 10) := by
    rw [haw4]
    exact ⟨hB3.ks, by rw [List.length_set]; exact hB3.aw, hB3.ki, hB3.id, hB3.nb, hB3.way, hB3.many, hB3.fuel, hB3.tau⟩
   have hdone4 : (prG g4).ns.map Us = [Xt l, Xt l, Xt l, [], []] := by rw [haw4]; exact hdone
   have hask : XO g4 0 = 22 := by
    have haw' : g3.aw = [false, false, false, false, false] := haw
    have : Q5 g4 0 = false := by unfold Q5; rw [haw4]; simp [haw']
    unfold XO
    rw [this, if_neg (show ¬ ¬ isI 0 from fun h => h h0), if_pos (by simp)]
   rw [← hg4] at hA
   refine zC ?_
   refine cr <| s_ Qa ?_
   refine QJ hA (fun r H4 ⟨hr1, hG4⟩ => ?_)
   subst hr1
   have hDo4 := LE bg H4 0 [120] hB4 (by omega) (by simp) hG4
   have hdo4 : doG g4 0 [120] = (g4, 22) := by unfold doG; rw [hask, if_pos (by omega)]
   rw [hdo4] at hDo4
   refine zC ?_
   refine cr <| s_ Qa ?_
   refine QJ hDo4 (fun r H5 ⟨hr1, hG5⟩ => ?_)
   subst hr1
   have hD5 := EC hB4 (by omega) hdone4 hG5 3 ⟨by omega, by omega⟩ [] rfl
   have hE5 := GM bg g4 H5 9 (fun h => absurd h.2 (by omega)) hG5
   have p0 : (22 : Int) = 22 := rfl
   refine s_ XB <| s_ Qa <| gT (fun hg => Qa) ?_
   refine RE p0 hD5 (Hr := []) (by rw [List.append_nil]) (fun r H6 ⟨hr1, hr2⟩ => ?_) (ha' := QQ (u_ p0) (QQ JT XS))
   subst hr1 hr2
   rw [List.append_nil]
   refine gT (fun _ => QP) ?_
   have p1 := And.intro p0 (show (((([] : List (List UInt8)).map es).length : Nat) : Int) = 0 from rfl)
   refine gT (fun hg => XB (hx := u_ hg)) ?_
   refine s_ XW <| s_ Qa <| gT (fun hg => Qa) ?_
   refine RE p1 hE5 (Hr := []) (by rw [List.append_nil]) (fun r H7 ⟨hr1, hr2⟩ => ?_) (ha' := QQ (u_ p1) (QQ JT XS))
   subst hr1 hr2
   rw [List.append_nil]
   refine gT (fun _ => QO) ?_
   refine gT (fun hg => XB (hx := u_ hg)) ?_
   refine s_ XW <| s_ Qb <| zC ?_
   refine zE ?_
   exact Le.of_eq (by show T.v (.bool (decide _)) = T.v (.bool true); rw [decide_eq_true ⟨⟨trivial, p1.2⟩, rfl⟩])
end Go.Proofs.YtjbokbikkcfjjaaGreat
namespace Go.Cap
open Go.ChangeShapes Go.WideShapes Go.ChangeAt Go.RowKit
theorem QI.below {S S' : Nat → Prop} {w w' : World} (h : QI [] S w S' w') : Below w.heap.size w w' := ⟨h.os, h.tape, h.output, h.size, fun k hk => h.keep k hk (by simp)⟩
theorem DO {P : Program} {f : FuncId} {args : List T} (h : FnP P f args (fun r => r = .v (.bool true))) {w : World} {vs : List Value} (hr : Qq (fun b => b < w.heap.size) w args vs) :
  Calls P f vs.toArray w fun e w' => e = .returned (.bool true) ∧ Below w.heap.size w w' := by
 refine (h (fun b => b < w.heap.size) w vs (fun b hb => hb) (Own.nil _ _) hr).mono ?_
 rintro e w' ⟨u, S', r, H', rfl, ⟨_, rfl⟩, hrel, _, hst, _⟩
 exact ⟨by rw [hrel.v_eq], hst.below⟩
section
variable {H : Type} {enc : TypeId × Value → H} {P : Program}
theorem JE (hl : laidOutB P = true) {W W' : World} (hb : Below W.heap.size W W') : ∀ (ts : List TypeId) (vs : List Value) (ds : List (DataW H)) (ps : List MemPlace),
  (∀ t ∈ ts, P.readableRec t = true ∧ t < P.types.size) → DataW.TrodAll enc P W 0 (fun _ => true) true ts vs ds ps → (∀ x ∈ ps, x.block < W.heap.size) →
  DataW.TrodAll enc P W' 0 (fun b => decide (b < W.heap.size)) true ts vs ds ps
 | [], _, _, _, _, h, _ => by
  obtain ⟨rfl, rfl, rfl⟩ := trodAll_nil h
  exact h
 | t :: ts, _, _, _, ht, h, hp => by
  obtain ⟨v, vs1, d, ds1, a, b, rfl, rfl, rfl, h1, h2⟩ := trodAll_cons h
  refine ⟨a, b, Below.trod hl (ht t List.mem_cons_self).1 (ht t List.mem_cons_self).2 h1 hb (fun x hx => hp x (List.mem_append_left _ hx)), ?_, rfl⟩
  exact JE hl hb ts vs1 ds1 b (fun y hy => ht y (List.mem_cons_of_mem _ hy)) h2 (fun x hx => hp x (List.mem_append_right _ hx))
theorem Gb {f : Func} {s : ChangeSpec} {W W' : World} {args : Array Value} {ds gs : List (DataW H)} {before : List MemPlace} {tb : TypeId} (hl : laidOutB P = true) (hvs : s.vars = [])
  (hW : DataW.Whole enc P f.params.toList s.vars false W args.toList ds gs before) (hb : Below W.heap.size W W') (hts : (f.params.toList.all fun t => P.readableRec t && Nat.blt t P.types.size) = true)
  (hres : (s.fn H (ds ++ gs)).results = [.lit (.bool true)]) (harg : (s.fn H (ds ++ gs)).args = ds) (hvar : (s.fn H (ds ++ gs)).vars = []) (hr : f.resultTypes = #[tb]) (htb : P.underlying tb = some .bool) :
  s.post enc P f false true false false W args (.bool true) W' := by
 have hts' : ∀ t ∈ f.params.toList, P.readableRec t = true ∧ t < P.types.size := fun t ht => by
  have := List.all_eq_true.1 hts t ht
  simp only [Bool.and_eq_true] at this
  exact ⟨this.1, by simpa using this.2⟩
 have hW' := hW
 obtain ⟨p, q, hA, hV, rfl, hfz, hnd⟩ := hW
 rw [hvs] at hV
 obtain ⟨rfl, rfl⟩ := trodVars_none hV
 refine ⟨ds, [], p ++ [], [], p, [], hW', ?_, ?_, ?_, hb.frame _, fun h => by cases h⟩
 ·rw [hres, hr]
  exact trodAll_mk1 (shut_bool htb true)
 ·rw [harg]
  exact JE hl hb _ _ _ _ hts' hA (fun x hx => hW'.lt x (by simpa using hx))
 ·rw [hvs, hvar]; rfl
end
end Go.Cap
