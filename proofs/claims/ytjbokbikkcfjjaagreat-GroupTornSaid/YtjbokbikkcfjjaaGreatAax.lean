/-
  GroupTorn: a replica whose power goes at any write, and that is opened anew, has all that it knew to be done; the committee goes on.
-/
import Derived.Test.YtjbokbikkcfjjaaGreatAaw
set_option maxRecDepth 16000
set_option maxHeartbeats 8000000
set_option linter.all false
namespace Go.Proofs.YtjbokbikkcfjjaaGreat
open Go.Cap
attribute [local irreducible] POp Qf TO EOp Sim FnH T.gp
section
variable {g : Gp}
theorem OV (bg : Nat) (H : Qc) (i n : Int) (hi : isI i) (hks : g.ks.length = 5) (hG : IsG bg g H) : FnH Tryz.prog 21 [pW bg, ei i, ei n] H (fun r H' => r = .v (.bool true) ∧ IsG bg (Uq g i.toNat n) H') := by
 have hI := JI bg g H i hG
 obtain ⟨h5, hin⟩ := XC hi
 obtain ⟨a, bm, em, clk, W, wv, hAw, hO, rfl⟩ := hG
 obtain ⟨K, hK⟩ : ∃ K, K = g.k i.toNat := ⟨_, rfl⟩
 obtain ⟨bk, hbk⟩ : ∃ bk, bk = (a i.toNat).bk := ⟨_, rfl⟩
 obtain ⟨bj, hbj⟩ : ∃ bj, bj = (a i.toNat).bj := ⟨_, rfl⟩
 obtain ⟨bd, hbd⟩ : ∃ bd, bd = (a i.toNat).bd := ⟨_, rfl⟩
 have hcd := AM (conf := g.conf) (a := a) (bm := bm) (wv := wv) hi
 rw [← hbd] at hcd
 have hsplit : ∀ d : Dk, ([(bk, (⟨tK, pW bj :: Qv K.N (.sl false (K.N.log.map een)), 23⟩ : Blk)), (bj, ⟨tJ, [pW bd, ei K.n], 2⟩)] ++ DkH bd d) = mH (a i.toNat) { K with d := d } := fun d => by rw [hbk, hbj, hbd]; rfl
 have hMat : (gM a g.k).Perm (DkH bd K.d ++ ((bk, ⟨tK, pW bj :: Qv K.N (.sl false (K.N.log.map een)), 23⟩) :: (bj, ⟨tJ, [pW bd, ei K.n], 2⟩) :: gO a g.k i.toNat)) := by
  have h1 := Vj a g.k h5
  have h2 : mH (a i.toNat) (g.k i.toNat) = [(bk, ⟨tK, pW bj :: Qv K.N (.sl false (K.N.log.map een)), 23⟩), (bj, ⟨tJ, [pW bd, ei K.n], 2⟩)] ++ DkH bd K.d := by rw [hsplit, hK]
  rw [h2] at h1
  refine h1.trans ?_
  rw [List.append_assoc]
  exact (List.perm_append_comm_assoc _ _ _)
 have hp0 := L9 (x := (bg, ⟨tG, gC g.conf a bm wv, 13⟩)) (y := (bm, ⟨.map em clk, [], 0⟩)) (W := W) hMat
 have hgk : ∀ j, j < 5 → (Uq g i.toNat n).k j = upA g.k i.toNat { K with d := XT K.d n } j := fun j hj => by
  have := Gp.k_set (g := g) (i := i.toNat) (j := j) (K := { K with d := XT K.d n }) (w := g.way) (by rw [hks]; exact hj)
  unfold Uq
  rw [← hK]
  rw [show Gp.k { g with ks := g.ks.set i.toNat { K with d := XT K.d n } } j = _ from this]
  unfold upA
  by_cases hij : i.toNat = j
  ·rw [if_pos hij, if_pos hij.symm]
  ·rw [if_neg hij, if_neg (fun e => hij e.symm)]
 have hpU : (DkH bd (XT K.d n) ++ ((bk, ⟨tK, pW bj :: Qv K.N (.sl false (K.N.log.map een)), 23⟩) :: (bj, ⟨tJ, [pW bd, ei K.n], 2⟩) :: gO a g.k i.toNat)).Perm (gM a (upA g.k i.toNat { K with d := XT K.d n })) := by
  have h1 := Dv a a g.k (upA g.k i.toNat { K with d := XT K.d n }) h5 (fun j _ hj => ⟨rfl, by unfold upA; rw [if_neg hj]⟩)
  have h2 : upA g.k i.toNat { K with d := XT K.d n } i.toNat = { K with d := XT K.d n } := if_pos rfl
  rw [h2, ← hsplit, List.append_assoc] at h1
  exact (List.perm_append_comm_assoc _ _ _).trans h1
 have hpE := (L9 (x := (bg, ⟨tG, gC g.conf a bm wv, 13⟩)) (y := (bm, ⟨.map em clk, [], 0⟩)) (W := W) hpU.symm).symm
 have hSt := E7 bd K.d n
 refine fe Tryz.func21 fun S0 w0 => ?_
 show Sim _ _ [(0, pW bg), (1, ei i), (2, ei n)] ((bg, ⟨tG, gC g.conf a bm wv, 13⟩) :: (bm, ⟨.map em clk, [], 0⟩) :: (W ++ gM a g.k)) _
 refine zC ?_
 refine cr <| s_ Qb <| zC ?_
 refine cr <| s_ Qa <| s_ Qa ?_
 refine QI hI (fun r H' ⟨hr1, hr2⟩ => ?_)
 subst hr1 hr2
 refine s_ YA <| zC ?_
 refine ci (p := ¬ isI i) (fun h => absurd hi h) (fun _ => ?_)
 show Sim _ _ _ ((bg, ⟨tG, gC g.conf a bm wv, 13⟩) :: (bm, ⟨.map em clk, [], 0⟩) :: (W ++ gM a g.k)) _
 refine zC ?_
 refine cr <| s_ Qa <| s_ Qa <| s_ Qe <| s_ Qd <| s_ YX <| s_ Qd <| s_ (Ql (hd := hcd)) <| s_ Qe ?_
 (first | refine s_ Lh ?_ | refine s_ Qd ?_)
 refine s_ Qa ?_
 refine Q2 hSt hp0 (fun r H' ⟨hr1, hr2⟩ => ?_)
 subst hr1 hr2
 refine QA hpE ?_
 refine zC ?_
 refine cr <| s_ Qb <| zC ?_
 refine zR ?_
 refine rh kR ⟨rfl, a, bm, em, clk, W, wv, hAw, hO, ?_⟩ (Le.refl _)
 show _ = gH bg g.conf a bm em clk W wv (Uq g i.toNat n).k
 unfold gH
 rw [Dw _ (upA g.k i.toNat { K with d := XT K.d n }) _ (fun j hj => hgk j hj)]
end
theorem U4 {g : Gp} {τ l u : Nat} (bg : Nat) (H : Qc) (i : Nat) (hi : i < 5) (hB : GB PS g τ l u) (hu : u ≤ 25000) (hG : IsG bg g H) : FnH Tryz.prog 19 [pW bg, ei (i : Nat)] H (fun r H' => r = .sl false ((Ye (g.k i).N).map es) ∧ H' = H) := by
 have hnb := hB.nb i hi
 have hlen := hnb.len
 have hc0 := hnb.com0
 have hc1 := hnb.com1
 have hfv := hB.five
 have h := IS bg g H (i : Int) ⟨by omega, by omega⟩ (by rw [Int.toNat_natCast]; omega) (by rw [Int.toNat_natCast]; exact hnb.base) (by rw [Int.toNat_natCast]; exact hc0) (by rw [Int.toNat_natCast]; omega) hG
 rw [Int.toNat_natCast] at h
 exact h
theorem Mz {g : Gp} {τ l u : Nat} {i : Nat} (hi : i < 5) (hB : GB PS g τ l u) (hu : u ≤ 25000) : (Ye (g.k i).N).length ≤ 100000 := by
 have hlen := (hB.nb i hi).len
 have hfv := hB.five
 have h1 := WC ((g.k i).N.log.take (max (min ((g.k i).N.commit - (g.k i).N.base) (((g.k i).N.log.length : Nat) : Int)) 0).toNat)
 rw [List.length_take] at h1
 show (ZO _).length ≤ _
 omega
theorem II (who stops picks : List Int) (hw : who.length ≤ 9223372036854775807) (hs : stops.length ≤ 9223372036854775807) (hp : picks.length ≤ 9223372036854775807) :
  FnP Tryz.prog 5 [.sl false (who.map ei), .sl false (stops.map ei), .sl false (picks.map ei)] (fun r => r = .v (.bool true)) := by
 have hK := Ev
 have hN := GG PS 7 (by omega) (by omega)
 refine fe Tryz.func5 fun S0 w0 => ?_
 show Sim _ _ [(0, T.sl false (who.map ei)), (1, T.sl false (stops.map ei)), (2, T.sl false (picks.map ei))] _ _
 refine zC ?_
 refine cr <| s_ Qb <| zC ?_
 refine cr <| s_ (QQ (hK)) <| s_ Ta <| zC ?_
 refine ci (p := False) (fun h => h.elim) (fun _ => ?_)
 refine zC ?_
 apply cr
 refine Q2 (Hs := []) (Hr := []) hN (.refl _) (fun r HG ⟨bg, g, hr, hG, hB, hL, hpr, hcf⟩ => ?_)
 subst hr
 rw [List.append_nil]
 have hR := Ao hB hL hpr hcf
 have hC := UJ Xx bg g HG 30 30 (by omega) hB (by omega) hG
 obtain ⟨g1, hg1⟩ : ∃ g1, g1 = Yf g 30 := ⟨_, rfl⟩
 rw [← hg1] at hR hC
 clear hg1 hL hpr hcf hG hB hK hN
 refine s_ Qa <| s_ QH <| s_ QH <| s_ Qb <| s_ Qb <| zC ?_
 refine cr <| s_ Qa ?_
 refine QI hC (fun r H' ⟨hr1, hG⟩ => ?_)
 subst hr1
 clear hC
 refine zC ?_
 refine cr <| s_ Qb <| zC ?_
 refine cr <| s_ Qb <| zC ?_
 apply Qo (σ := Nat × Nat × Gp × Qc) (ok := fun s => (s.1 ≤ 6 ∧ s.2.1 ≤ 3 * s.1) ∧ IsG bg s.2.2.1 s.2.2.2 ∧ Rg s.2.2.1 (150 + 1000 * s.1) s.2.1) (env := fun s => [(10, ei s.1), (9, ei s.2.1), (7, pW bg), (0, T.sl false (who.map ei)), (1, T.sl false (stops.map ei)), (2, T.sl false (picks.map ei))]) (heap := fun s => s.2.2.2) (μ := fun s => 6 - s.1) (s0 := (0, 0, g1, H'))
 ·exact ⟨⟨Nat.zero_le _, Nat.zero_le _⟩, hG, hR⟩
 ·exact eL
 ·exact kR
 clear hG hR
 rintro ⟨k, dn, g, HG⟩ ⟨⟨hk, hdn⟩, hG, hR⟩
 simp only at hk hdn hG hR
 show Sim _ _ [(10, ei k), (9, ei dn), (7, pW bg), (0, T.sl false (who.map ei)), (1, T.sl false (stops.map ei)), (2, T.sl false (picks.map ei))] HG _
 refine zC ?_
 refine cr <| s_ Qa <| s_ Qa ?_
 (first | refine s_ QP ?_ | refine s_ QO ?_)
 refine s_ QU <| s_ Qa <| gT (fun hg => Qa) ?_
 refine gT (fun hg => Qa) ?_
 (first | refine gT (fun hg => QP (hx := u_ hg)) ?_ | refine gT (fun hg => QO (hx := u_ hg)) ?_)
 refine gT (fun hg => QU (hx := u_ hg) (hy := u_ hg)) ?_
 refine s_ XX <| s_ Qa <| gT (fun hg => Qa) ?_
 refine gT (fun hg => QU (hx := u_ hg)) ?_
 refine s_ XX <| zC ?_
 refine ci ?_ ?_
 ·rintro ⟨⟨hlw, hls⟩, hk6⟩
  simp only [List.length_map] at hlw hls
  have hix : k < who.length := by omega
  have hix2 : k < stops.length := by omega
  obtain ⟨i, hi⟩ : ∃ i : Nat, (i : Int) = who[k] % 3 := ⟨(who[k] % 3).toNat, by omega⟩
  have hi3 : i < 3 := by omega
  have wa := Va who[k] 3 (by omega) (by omega)
  rw [← hi] at wa
  apply ck
  apply cq
  refine VP (σ := Nat × Gp × Qc) (ok := fun s => s.1 ≤ 3 * (k + 1) ∧ IsG bg s.2.1 s.2.2 ∧ Rg s.2.1 (150 + 1000 * (k + 1)) s.1) (env := fun s => [(10, ei k), (9, ei s.1), (7, pW bg), (0, T.sl false (who.map ei)), (1, T.sl false (stops.map ei)), (2, T.sl false (picks.map ei))]) (heap := fun s => s.2.2) ?_ ?_
  ·obtain ⟨τ, l, hB⟩ := hR.gb
   have hks := hB.ks
   have hDn := U4 bg HG i (by omega) hB (by omega) hG
   have hDl := Mz (i := i) (by omega) hB (by omega)
   obtain ⟨was, hwas⟩ : ∃ was, was = (Ye (g.k i).N).length := ⟨_, rfl⟩
   have hlen : ((((Ye (g.k i).N).map es).length : Nat) : Int) = (was : Int) := by rw [List.length_map, hwas]
   have wb := Va stops[k] 9 (by omega) (by omega)
   have hSt := OV bg HG (i : Int) (1 + stops[k] % 9) ⟨by omega, by omega⟩ hks hG
   rw [Int.toNat_natCast] at hSt
   clear hB hG
   refine zC ?_
   refine cr <| s_ Qa <| s_ Qa ?_
   (first | refine s_ (Xd hix) ?_ | refine s_ (Xd hix2) ?_ | refine s_ YE ?_ | refine s_ ZE ?_)
   refine s_ Qm <| s_ (QQ (wa)) <| s_ Qb <| zC ?_
   refine zC ?_
   refine cr <| s_ Qa <| s_ Qa ?_
   refine QI hDn (fun r H' ⟨hr1, hr2⟩ => ?_)
   subst hr1 hr2
   (first | refine s_ QP ?_ | refine s_ QO ?_)
   refine s_ Qb <| zC ?_
   rw [hlen]
   refine zC ?_
   refine cr <| s_ Qa <| s_ Qa <| s_ Qa <| s_ Qa ?_
   (first | refine s_ (Xd hix) ?_ | refine s_ (Xd hix2) ?_ | refine s_ YE ?_ | refine s_ ZE ?_)
   refine s_ Qm <| s_ (QQ (wb)) <| s_ QY ?_
   refine QI hSt (fun r H1 ⟨hr1, hG⟩ => ?_)
   subst hr1
   refine zC ?_
   refine cr <| s_ Qb <| zC ?_
   obtain ⟨z, pre, Td, s0, hRing, hM, hdn0, hw0⟩ := hR.stop hi3 (1 + stops[k] % 9) (by omega)
   rw [← hwas] at hw0
   clear hR hDn hSt hlen wa wb hwas
   obtain ⟨g1, hg1⟩ : ∃ g1, g1 = Uq g i (1 + stops[k] % 9) := ⟨_, rfl⟩
   rw [← hg1] at hM hG
   clear hg1
   apply Qo (σ := Nat × Nat × Gp × Qc) (ok := fun s => (s.1 ≤ 3 ∧ s.2.1 ≤ s.1) ∧ IsG bg s.2.2.1 s.2.2.2 ∧ Md z i pre Td s0 s.2.2.1 (150 + 1000 * k + 205 * s.1) s.1 s.2.1) (env := fun s => [(13, ei s.1), (12, ei was), (11, ei i), (10, ei k), (9, ei (dn + s.2.1 : Nat)), (7, pW bg), (0, T.sl false (who.map ei)), (1, T.sl false (stops.map ei)), (2, T.sl false (picks.map ei))]) (heap := fun s => s.2.2.2) (μ := fun s => 3 - s.1) (s0 := (0, 0, g1, H1))
   ·exact ⟨⟨Nat.zero_le _, Nat.zero_le _⟩, hG, hM⟩
   ·exact eL
   ·exact kR
   clear hG hM
   rintro ⟨j, c, g2, HG2⟩ ⟨⟨hj, hc⟩, hG, hM⟩
   simp only at hj hc hG hM
   show Sim _ _ [(13, ei j), (12, ei was), (11, ei i), (10, ei k), (9, ei (dn + c : Nat)), (7, pW bg), (0, T.sl false (who.map ei)), (1, T.sl false (stops.map ei)), (2, T.sl false (picks.map ei))] HG2 _
   refine zC ?_
   refine cr <| s_ Qa <| s_ QU <| zC ?_
   refine ci ?_ ?_
   ·intro hlt
    have hj3 : j < 3 := by omega
    apply ck
    apply cq
    refine VP (σ := Nat × Gp × Qc) (ok := fun s => s.1 ≤ j + 1 ∧ IsG bg s.2.1 s.2.2 ∧ Md z i pre Td s0 s.2.1 (150 + 1000 * k + 205 * (j + 1)) (j + 1) s.1) (env := fun s => [(13, ei j), (12, ei was), (11, ei i), (10, ei k), (9, ei (dn + s.1 : Nat)), (7, pW bg), (0, T.sl false (who.map ei)), (1, T.sl false (stops.map ei)), (2, T.sl false (picks.map ei))]) (heap := fun s => s.2.2) ?_ ?_
    ·obtain ⟨τ, l, hB⟩ := hM.gb
     have hnb := hB.nb j (by omega)
     have hlen := hnb.len
     have hfv := hB.five
     have hij : isI (j : Int) := ⟨by omega, by omega⟩
     have hDo := Bv bg HG2 (j : Int) [99] hB (by omega) (by simp) hG
     have hGG := hG
     obtain ⟨a, bm, es', clk, W', wv, hAw, hO, hHG⟩ := hGG
     have hKp := Lt bg g2 (j : Int) hij (a := a) (bm := bm) (es := es') (clk := clk) hAw hO
     have hNo := JH (bg := bg) (g := g2) (a := a) (bm := bm) (es := es') (clk := clk) (W := W') (wv := wv) (i := j) (by omega) (by omega)
     rw [Int.toNat_natCast] at hKp
     rw [← hHG] at hKp hNo
     obtain ⟨N, hN⟩ : ∃ N, N = (g2.k j).N := ⟨_, rfl⟩
     rw [← hN] at hNo
     refine zC ?_
     refine cr <| s_ Qa <| s_ Qa ?_
     refine QI hKp (fun r H' ⟨hr1, hr2⟩ => ?_)
     subst hr1 hr2
     refine QI hNo (fun r H' ⟨hr1, hr2⟩ => ?_)
     subst hr1 hr2
     refine s_ Ax <| s_ XF <| s_ Qa <| gT (fun hg => Qa) ?_
     refine gT (fun hg => Qa) ?_
     by_cases hro : N.role = 2
     ·have hM2 := hM.do_ hRing.z (by omega) hj3 (by rw [← hN]; exact hro)
      rw [show 150 + 1000 * k + 205 * j + 205 = 150 + 1000 * k + 205 * (j + 1) by omega] at hM2
      refine Du (p := N.role = 2) (Hr := []) hro hDo (by rw [List.append_nil]) (fun r H' ⟨hr1, hG'⟩ => ?_) (ha' := QK (u_ hro) (QK (u_ hro) (QK Wr XE)))
      subst hr1
      rw [List.append_nil]
      refine gT (p := N.role = 2) (fun _ => XF) ?_
      refine s_ XX <| zC ?_
      refine ci ?_ ?_
      ·rintro ⟨_, h0⟩
       rw [if_pos h0] at hM2
       refine zC ?_
       refine cr <| s_ Qa <| s_ QY <| s_ Qb <| zC ?_
       exact ⟨(c + 1, _, H'), _, ⟨by simp only; omega, hG', hM2⟩, eL, .refl _, kR⟩
      ·intro hno
       rw [if_neg (fun h => hno ⟨hro, h⟩)] at hM2
       refine zC ?_
       exact ⟨(c, _, H'), _, ⟨by simp only; omega, hG', hM2⟩, eL, .refl _, kR⟩
     ·refine gT (p := N.role = 2) (d := ei 0) (fun h => absurd h hro) ?_
      refine gT (fun hg => XF (hx := u_ hg)) ?_
      refine s_ XX <| zC ?_
      refine ci ?_ ?_
      ·rintro ⟨h, _⟩
       exact absurd h hro
      ·intro _
       refine zC ?_
       exact ⟨(c, g2, _), _, ⟨by simp only; omega, hG, (hM.skip hj3 (by rw [← hN]; exact hro)).le (by omega)⟩, eL, .refl _, kR⟩
    ·rintro ⟨c', g3, HG3⟩ ⟨hc', hG', hM'⟩
     simp only at hc' hG' hM'
     show Sim _ _ [(13, ei j), (12, ei was), (11, ei i), (10, ei k), (9, ei (dn + c' : Nat)), (7, pW bg), (0, T.sl false (who.map ei)), (1, T.sl false (stops.map ei)), (2, T.sl false (picks.map ei))] HG3 _
     refine zC ?_
     refine cr <| s_ Qa <| s_ QY <| s_ Qb <| zC ?_
     refine ⟨(j + 1, c', g3, HG3), ⟨⟨by simp only; omega, hc'⟩, hG', hM'⟩, (by simp only []; omega), ⟨?_, eL⟩, kR⟩
     apply Qi; (exact zG)
     exact Le.refl _
   ·intro hge
    have hj3 : j = 3 := by omega
    subst hj3
    obtain ⟨pk, hpk⟩ : ∃ pk : Int, pk = if h : k < picks.length then picks[k] else 0 := ⟨_, rfl⟩
    refine zC ?_
    refine cr <| s_ Qb <| zC ?_
    refine cr <| s_ Qa <| s_ Qa ?_
    (first | refine s_ QP ?_ | refine s_ QO ?_)
    refine s_ QU <| zC ?_
    refine JP [(14, ei pk), (12, ei was), (11, ei i), (10, ei k), (9, ei (dn + c : Nat)), (7, pW bg), (0, T.sl false (who.map ei)), (1, T.sl false (stops.map ei)), (2, T.sl false (picks.map ei))] HG2 ?_ ?_
    ·refine ci ?_ ?_
     ·intro h
      simp only [List.length_map] at h
      have hix3 : k < picks.length := by omega
      rw [dif_pos hix3] at hpk
      subst hpk
      refine zC ?_
      refine cr <| s_ Qa <| s_ Qa ?_
      (first | refine s_ (Xd hix) ?_ | refine s_ (Xd hix2) ?_ | refine s_ YE ?_ | refine s_ ZE ?_)
      refine s_ Qm <| s_ Qb <| zC ?_
      exact ⟨eL, kR⟩
     ·intro h
      simp only [List.length_map] at h
      rw [dif_neg (by omega)] at hpk
      subst hpk
      refine zC ?_
      exact ⟨eL, kR⟩
    clear hpk
    obtain ⟨τ, l, y, hB, hcf, hAf, hyi, hWe, hK2⟩ := hM.crash2 hRing hi3 (by omega) hdn0 hw0
    have hii : isI (i : Int) := ⟨by omega, by omega⟩
    have hnb := hB.nb i (by omega)
    have hid := hB.id i (by omega)
    have hpot := hB.pot (i := i) (by omega)
    have hfv := hB.five
    have htau := hB.tau
    obtain ⟨z2, q2⟩ := hWe.wake.sz Xx (by omega) (by omega)
    have hCr := OX bg g2 HG2 (i : Int) pk y hii hB.ks (by omega) (by omega) (by rw [hcf, Int.toNat_natCast]; exact hAf) (by rw [Int.toNat_natCast]; exact hid) hyi (by rw [Int.toNat_natCast]; exact hnb.wake.sz Xx (by omega) (by omega)) (by rw [Int.toNat_natCast]; exact hnb.wake.rec_ Xx (by omega)) z2 q2 hG
    rw [Int.toNat_natCast, hcf, decide_eq_true hii] at hCr
    clear hG hM hB hnb hWe hAf
    refine zC ?_
    refine cr <| s_ Qa <| s_ Qa <| s_ Qa ?_
    refine QI hCr (fun r H3 ⟨hr1, K2, hG3, hL2, hN2, hl2, hr2⟩ => ?_)
    subst hr1
    obtain ⟨hwd, ⟨τ3, l3, hB3⟩, hR3⟩ := hK2 K2 hL2 hN2 hl2 hr2
    rw [← hcf] at hG3
    obtain ⟨g3, hg3⟩ : ∃ g3, g3 = ({ g2 with ks := g2.ks.set i K2 } : Gp) := ⟨_, rfl⟩
    rw [← hg3] at hwd hB3 hR3 hG3
    clear hCr hK2 hg3
    have hDn := U4 bg H3 i (by omega) hB3 (by omega) hG3
    have hDl := Mz (i := i) (by omega) hB3 (by omega)
    have hC := UJ Xx bg g3 H3 60 60 (by omega) hB3 (by omega) hG3
    have hR4 := hR3.le (u' := 150 + 1000 * (k + 1)) (by omega)
    obtain ⟨g4, hg4⟩ : ∃ g4, g4 = Yf g3 60 := ⟨_, rfl⟩
    rw [← hg4] at hC hR4
    clear hg4 hR3
    have hnt : ¬ ¬ True := fun h => h trivial
    refine s_ (YA (p := True)) <| s_ Qa <| gF (fun hg => Qa) ?_
    refine gF (fun hg => Qa) ?_
    refine GI (p := ¬ True) (Hr := []) hnt hDn (by rw [List.append_nil]) (fun r H' ⟨hr1, hr2⟩ => ?_) (ha' := QK (u_ hnt) (QK (u_ hnt) XE))
    subst hr1 hr2
    rw [List.append_nil]
    refine gF (p := ¬ True) (fun _ => QP) ?_
    refine gF (fun hg => Qa) ?_
    refine gF (fun hg => QU (hx := u_ hg) (hy := u_ hg)) ?_
    refine s_ YW <| zC ?_
    refine ci ?_ ?_
    ·rintro (h | h)
     ·exact (hnt h).elim
     ·simp only [List.length_map] at h
      omega
    intro _
    refine zC ?_
    refine cr <| s_ Qa ?_
    refine QI hC (fun r H4 ⟨hr1, hG4⟩ => ?_)
    subst hr1
    refine zC ?_
    exact ⟨(dn + c, g4, H4), _, ⟨by simp only; omega, hG4, hR4⟩, eL, .refl _, kR⟩
  ·rintro ⟨dn', g2, HG2⟩ ⟨hd', hG', hR'⟩
   simp only at hd' hG' hR'
   show Sim _ _ [(10, ei k), (9, ei dn'), (7, pW bg), (0, T.sl false (who.map ei)), (1, T.sl false (stops.map ei)), (2, T.sl false (picks.map ei))] HG2 _
   refine zC ?_
   refine cr <| s_ Qa <| s_ QY <| s_ Qb <| zC ?_
   refine ⟨(k + 1, dn', g2, HG2), ⟨⟨by simp only; omega, hd'⟩, hG', hR'⟩, (by simp only []; omega), ⟨?_, eL⟩, kR⟩
   apply Qi; (exact zG)
   exact Le.refl _
 ·intro _
  obtain ⟨τ, l, hB⟩ := hR.gb
  obtain ⟨⟨e1, e2⟩, hle⟩ := hR.ends
  obtain ⟨D, hD⟩ : ∃ D, D = Ye (g.k 0).N := ⟨_, rfl⟩
  have hall : ∀ j, j < 3 → Ye (g.k j).N = D := fun j hj => by
   have : j = 0 ∨ j = 1 ∨ j = 2 := by omega
   rcases this with rfl | rfl | rfl
   ·exact hD.symm
   ·exact e1.trans hD.symm
   ·exact e2.trans hD.symm
  have hDl := Mz (i := 0) (by omega) hB (by omega)
  rw [← hD] at hle hDl
  have hDn : ∀ j : Nat, j < 3 → _ := fun j hj => U4 bg HG j (by omega) hB (by omega) hG
  have hTx : FnP Tryz.prog 18 [.sl false (D.map es), .sl false (D.map es)] (fun r => r = .v (.bool (decide True))) := RE D (by omega)
  refine zC ?_
  refine cr <| s_ Qb <| zC ?_
  apply Qo (σ := Nat) (ok := fun j => j ≤ 3) (env := fun j => [(15, ei (j : Nat)), (9, ei dn), (7, pW bg)]) (heap := fun _ => HG) (μ := fun j => 3 - j) (s0 := 0)
  ·exact Nat.zero_le _
  ·exact eL
  ·exact kR
  intro j hj
  refine zC ?_
  refine cr <| s_ Qa <| s_ QU <| zC ?_
  refine ci ?_ ?_
  ·intro hlt
   have hj3 : j < 3 := by omega
   have hDj := hDn j hj3
   rw [hall j hj3] at hDj
   apply ck
   apply cq
   refine zC ?_
   refine cr <| s_ Qa <| s_ Qa ?_
   refine QI hDj (fun r H' ⟨hr1, hr2⟩ => ?_)
   subst hr1 hr2
   (first | refine s_ QP ?_ | refine s_ QO ?_)
   refine s_ Qa <| s_ QU <| zC ?_
   refine ci ?_ ?_
   ·intro h
    simp only [List.length_map] at h
    omega
   intro _
   refine zC ?_
   refine cr <| s_ Qa <| s_ QY <| s_ Qb <| zC ?_
   refine ⟨j + 1, by omega, by show 3 - (j + 1) < 3 - j; omega, ⟨?_, eL⟩, kR⟩
   apply Qi; (exact zG)
   exact Le.refl _
  ·intro hge
   have h0 := hDn 0 (by omega)
   have h1 := hDn 1 (by omega)
   have h2 := hDn 2 (by omega)
   rw [hall 0 (by omega)] at h0
   rw [hall 1 (by omega)] at h1
   rw [hall 2 (by omega)] at h2
   refine zC ?_
   refine cr <| s_ Qa ?_
   refine QI h0 (fun r H' ⟨hr1, hr2⟩ => ?_)
   subst hr1 hr2
   refine s_ Qa ?_
   refine QI h1 (fun r H' ⟨hr1, hr2⟩ => ?_)
   subst hr1 hr2
   refine s_ (QQ (hTx)) <| s_ Qa <| gT (fun hg => Qa) ?_
   refine Du (p := True) (Hr := []) trivial h1 (by rw [List.append_nil]) (fun r H' ⟨hr1, hr2⟩ => ?_) (ha' := QK (u_ trivial) (QK Ue XE))
   subst hr1 hr2
   rw [List.append_nil]
   refine gT (fun hg => Qa) ?_
   refine Du (p := True) (Hr := []) trivial h2 (by rw [List.append_nil]) (fun r H' ⟨hr1, hr2⟩ => ?_) (ha' := QK (u_ trivial) (QK Ue XE))
   subst hr1 hr2
   rw [List.append_nil]
   refine Du (p := True) (Hs := []) trivial hTx (.refl _) (fun r H' ⟨hr1, hr2⟩ => ?_) (ha' := ze)
   subst hr1 hr2
   refine s_ (XX (p := True) (q := True) (hx := GN.trans (XD trivial).symm)) <| s_ Qb <| zC ?_
   refine zE ?_
   exact Le.of_eq (by show T.v (.bool (decide (True ∧ True))) = _; rw [decide_eq_true ⟨trivial, trivial⟩])
end Go.Proofs.YtjbokbikkcfjjaaGreat
namespace Go.Cap
open Go.ChangeShapes Go.WideShapes Go.ChangeAt Go.RowKit
theorem QN.below {S S' : Nat → Prop} {w w' : World} (h : QN [] S w S' w') : Below w.heap.size w w' := ⟨h.os, h.tape, h.output, h.size, fun k hk => h.keep k hk (by simp)⟩
theorem ES {P : Program} {f : FuncId} {args : List T} (h : FnP P f args (fun r => r = .v (.bool true))) {w : World} {vs : List Value} (hr : Qr (fun b => b < w.heap.size) w args vs) :
  Calls P f vs.toArray w fun e w' => e = .returned (.bool true) ∧ Below w.heap.size w w' := by
 refine (h (fun b => b < w.heap.size) w vs (fun b hb => hb) (Own.nil _ _) hr).mono ?_
 rintro e w' ⟨u, S', r, H', rfl, ⟨_, rfl⟩, hrel, _, hst, _⟩
 exact ⟨by rw [hrel.v_eq], hst.below⟩
section
variable {H : Type} {enc : TypeId × Value → H} {P : Program}
theorem J0 (hl : laidOutB P = true) {W W' : World} (hb : Below W.heap.size W W') : ∀ (ts : List TypeId) (vs : List Value) (ds : List (DataW H)) (ps : List MemPlace),
  (∀ t ∈ ts, P.readableRec t = true ∧ t < P.types.size) → DataW.TrodAll enc P W 0 (fun _ => true) true ts vs ds ps → (∀ x ∈ ps, x.block < W.heap.size) →
  DataW.TrodAll enc P W' 0 (fun b => decide (b < W.heap.size)) true ts vs ds ps
 | [], _, _, _, _, h, _ => by
  obtain ⟨rfl, rfl, rfl⟩ := trodAll_nil h
  exact h
 | t :: ts, _, _, _, ht, h, hp => by
  obtain ⟨v, vs1, d, ds1, a, b, rfl, rfl, rfl, h1, h2⟩ := trodAll_cons h
  refine ⟨a, b, Below.trod hl (ht t List.mem_cons_self).1 (ht t List.mem_cons_self).2 h1 hb (fun x hx => hp x (List.mem_append_left _ hx)), ?_, rfl⟩
  exact J0 hl hb ts vs1 ds1 b (fun y hy => ht y (List.mem_cons_of_mem _ hy)) h2 (fun x hx => hp x (List.mem_append_right _ hx))
theorem On {f : Func} {s : ChangeSpec} {W W' : World} {args : Array Value} {ds gs : List (DataW H)} {before : List MemPlace} {tb : TypeId} (hl : laidOutB P = true) (hvs : s.vars = [])
  (hW : DataW.Whole enc P f.params.toList s.vars false W args.toList ds gs before) (hb : Below W.heap.size W W') (hts : (f.params.toList.all fun t => P.readableRec t && Nat.blt t P.types.size) = true)
  (hres : (s.fn H (ds ++ gs)).results = [.lit (.bool true)]) (harg : (s.fn H (ds ++ gs)).args = ds) (hvar : (s.fn H (ds ++ gs)).vars = []) (hr : f.resultTypes = #[tb]) (htb : P.underlying tb = some .bool) :
  s.post enc P f false true false false W args (.bool true) W' := by
 have hts' : ∀ t ∈ f.params.toList, P.readableRec t = true ∧ t < P.types.size := fun t ht => by
  have := List.all_eq_true.1 hts t ht
  simp only [Bool.and_eq_true] at this
  exact ⟨this.1, by simpa using this.2⟩
 have hW' := hW
 obtain ⟨p, q, hA, hV, rfl, hfz, hnd⟩ := hW
 rw [hvs] at hV
 obtain ⟨rfl, rfl⟩ := trodVars_none hV
 refine ⟨ds, [], p ++ [], [], p, [], hW', ?_, ?_, ?_, hb.frame _, fun h => by cases h⟩
 ·rw [hres, hr]
  exact trodAll_mk1 (shut_bool htb true)
 ·rw [harg]
  exact J0 hl hb _ _ _ _ hts' hA (fun x hx => hW'.lt x (by simpa using hx))
 ·rw [hvs, hvar]; rfl
end
end Go.Cap
