/-
  The document's committee: is asked for a command, for other members.
-/
import Derived.Test.YtjbokbikkcfjjaaGreatAbc
set_option maxRecDepth 16000
set_option maxHeartbeats 8000000
set_option linter.all false
namespace Go.Proofs.YtjbokbikkcfjjaaGreat
open Go.Cap Raft
attribute [local irreducible] POp Qi SO EOp Sim FnH T.gp
theorem U9 (n : Nd) (e : En) : (UA n e).term = n.term ∧ (UA n e).log = n.log ++ [⟨n.term, e.conf, e.cmd⟩] ∧ (UA n e).base = n.base := by
 unfold UA
 obtain ⟨c, r, w, h⟩ := Jm (JG n e)
 rw [h]
 exact ⟨rfl, rfl, rfl⟩
theorem Pn {n t : Nd} {cmd : List UInt8} {index : Int} (h : Xn n cmd = (t, index, 0)) : ∃ en, t = UA n en ∧ index = n.base + (n.log.length + 1) ∧ t.term = n.term := by
 unfold Xn at h
 split at h
 ·cases h
 ·split at h
  ·cases h
  ·cases h; exact ⟨_, rfl, rfl, (U9 _ _).1⟩
theorem BF {n t : Nd} {conf : Int} {index : Int} (h : QG n conf = (t, index, 0)) : ∃ en, t = UA n en ∧ index = n.base + (n.log.length + 1) ∧ t.term = n.term := by
 unfold QG at h
 split at h
 ·cases h
 ·split at h
  ·cases h
  ·split at h
   ·cases h
   ·cases h; exact ⟨_, rfl, rfl, (U9 _ _).1⟩
section
variable {b : Nat} {x : Gn} {τ u : Nat} {H : Qd}
theorem B7 (i : Int) (cmd : List UInt8) (hc : cmd.length ≤ 61) (hu : u + 205 ≤ 25000) (h : XI b x τ u H) :
  FnH Tryz.prog 58 [pW b, ei i, es cmd] H (fun r H' => r = ei (doN x i cmd).2 ∧ ∃ τ', XI b (doN x i cmd).1 τ' (u + 205) H') := by
 have hI := WH i
 have h0 := h
 obtain ⟨⟨hns, haw, v, Hm, h1, rfl⟩, hG, l, hB⟩ := h
 have h0' : ∃ τ', XI b x τ' (u + 205) ((b, ⟨tX, xvC x.n (fun i => x.aw.getD i false) (.v v), 116⟩) :: (Hm ++ [])) := ⟨τ, h0.1, h0.2, l, hB.le (by omega)⟩
 refine fe Tryz.func58 fun S0 w0 => ?_
 show Sim _ _ [(0, pW b), (1, ei i), (2, es cmd)] _ _
 refine zC ?_
 refine cr <| s_ Qb <| zC ?_
 refine cr <| s_ Qa <| s_ (Qr (hI)) <| s_ Yb <| zC ?_
 refine ci (p := ¬ isI i) ?_ ?_
 ·intro hn
  have hs : doN x i cmd = (x, 2) := by unfold doN YC; rw [if_pos hn, if_pos (by omega)]
  rw [hs]
  refine zC ?_
  refine cr <| s_ Qb <| zC ?_
  refine zR ?_
  exact rh kR ⟨rfl, h0'⟩ (Le.refl _)
 intro hn
 have hi : isI i := Classical.not_not.1 hn
 have hi5 : 0 ≤ i ∧ i < 5 := hi
 obtain ⟨h5, hin⟩ := Q7 hi
 obtain ⟨q, iq, hq⟩ := EP (b := x.aw.getD i.toNat false)
 have hld : (xvC x.n (fun i => x.aw.getD i false) (.v v))[0 + 110 + i.toNat * 1]? = some (.v (.bool (decide q))) := by
  rw [R5 hi5.1 hi5.2]
  show some (eB (x.aw.getD i.toNat false)) = _
  rw [hq]
  rfl
 refine zC ?_
 refine cr <| s_ Qa <| s_ Qa <| s_ Qe <| s_ Qc <| s_ Xp <| s_ (Ql (hd := by first | rfl | assumption)) <| zC ?_
 refine ci (p := q) ?_ ?_
 ·intro hqq
  have ha : YC x i = 22 := by
   unfold YC thN
   rw [if_neg hn, hq, decide_eq_true hqq, if_pos (by simp)]
  have hs : doN x i cmd = (x, 22) := by
   unfold doN
   rw [ha, if_pos (by omega)]
  rw [hs]
  refine zC ?_
  refine cr <| s_ Qb <| zC ?_
  refine zR ?_
  exact rh kR ⟨rfl, h0'⟩ (Le.refl _)
 intro hqq
 have hth : thN x i = true := by
  unfold thN
  rw [hq, decide_eq_true hi, decide_eq_false hqq]
  rfl
 have hspec : doN x i cmd = Vs x i (Xn (x.n i.toNat) cmd).1 (Xn (x.n i.toNat) cmd).2.1 (Xn (x.n i.toNat) cmd).2.2 := by
  have ha : YC x i = 0 := by unfold YC; rw [if_neg hn, if_neg (fun h => h hth)]
  unfold doN
  rw [ha, if_neg (fun h => h rfl)]
 rw [hspec]
 have hnb := hB.nb _ h5
 have hlen := hnb.len
 have hf := hB.five
 have hbase := hnb.base
 have hterm := hnb.term0
 have hRd := (hB.rd (by omega) hG h5).1
 obtain ⟨n, hnn⟩ : ∃ n, n = x.n i.toNat := ⟨_, rfl⟩
 have htk := ZT (N := x.n) (o := fun i => x.aw.getD i false) (v := .v v) hi5.1 hi5.2
 have hby := Ea (P := PS) (N := x.n i.toNat) (cmd := cmd) (Pk hB hu i cmd hc hi)
 have hgo : ∀ Hh l, QC Hh → NI Hh i.toNat (x.n i.toNat) l → M4 1 i.toNat Hh (Xn (x.n i.toNat) cmd).1 [] := fun Hh l hF hN => A8 hF hN h5 cmd
 rw [← hnn] at htk hlen hbase hRd hby hgo hterm ⊢
 have hP := A1 cmd hRd (by omega)
 obtain ⟨t, index, e, hpe⟩ : ∃ t index e, Xn n cmd = (t, index, e) := ⟨_, _, _, rfl⟩
 rw [hpe] at hP hby hgo ⊢
 simp only at hP hby hgo ⊢
 refine zC ?_
 refine cr <| s_ Qa <| s_ Qa <| s_ Qe <| s_ Qc <| s_ Xp <| s_ (Qw (hc := htk)) <| s_ Qa <| s_ (Qr (hP)) <| s_ Qa <| s_ Qt <| s_ Qt <| s_ Qt ?_
 refine Xt fun b7 _ => ?_
 refine Qn ?_
 refine s_ Qb <| s_ Qb <| zC ?_
 refine cr <| s_ Qa <| s_ XE <| zC ?_
 refine ci (p := ¬ e = 0) ?_ ?_
 ·intro he
  have hs : Vs x i t index e = (x, e) := by unfold Vs; rw [if_pos he]
  rw [hs]
  refine zC ?_
  refine cr <| s_ Qa <| s_ Qb <| zC ?_
  refine zR ?_
  exact rh (kS kR) ⟨rfl, h0'⟩ (Le.refl _)
 ·intro he
  have he' : e = 0 := Classical.not_not.1 he
  subst he'
  have hix : 1 ≤ index ∧ index ≤ 1000000 ∧ Xm t index = t.term ∧ 0 ≤ t.term := by
   obtain ⟨en, h1, h2, h3⟩ : ∃ en, t = UA n en ∧ index = n.base + (n.log.length + 1) ∧ t.term = n.term := Pn hpe
   have hlog : t.log = n.log ++ [⟨n.term, en.conf, en.cmd⟩] := by rw [h1]; exact (U9 _ _).2.1
   have hb2 : t.base = n.base := by rw [h1]; exact (U9 _ _).2.2
   refine ⟨by omega, by omega, ?_, by omega⟩
   unfold Xm
   rw [hlog, hb2, if_neg (by omega), if_neg (by simp only [List.length_append, List.length_singleton]; omega), h3]
   rw [show (index - n.base - 1).toNat = n.log.length by omega]
   simp
  have hs : Vs x i t index 0 = Yh i.toNat index t.term 40 { x with ns := x.ns.set i.toNat t } := by unfold Vs; rw [if_neg he]
  rw [hs]
  obtain ⟨y, hy⟩ : ∃ y : Gn, y = { x with ns := x.ns.set i.toNat t } := ⟨_, rfl⟩
  have hyn : y.n = UE x.n i.toNat t := by rw [hy]; exact L7 (by omega) t x.way
  have hya : y.aw = x.aw := by rw [hy]
  have hyw : y.way = x.way := by rw [hy]
  have hX : XI b y τ (u + 5) ((b, ⟨tX, xvC (UE x.n i.toNat t) (fun i => x.aw.getD i false) (.v v), 116⟩) :: (Hm ++ [])) := by
   refine ⟨⟨by rw [hy]; show (x.ns.set _ _).length = 5; rw [List.length_set]; exact hns, by rw [hya]; exact haw, ?_⟩, ?_, ?_⟩
   ·rw [hyn, hya, hyw]
    exact ⟨v, Hm, h1, rfl⟩
   ·rw [hy]
    refine hG.go (w := x.way) h5 (out := []) (fun Hh l hF hN _ => hgo Hh l hF (by rw [hnn]; exact hN)) fun m hm => .inl hm
   ·rw [hnn] at hby
    rw [hy]
    exact hB.put h5 hby
  have hyt : y.n i.toNat = t := by rw [hyn]; exact if_pos rfl
  have hw := EZ i index hi (by omega) hix.1 hix.2.1 t.term hix.2.2.2 (by rw [hyt]; exact hix.2.2.1) hX
  rw [← hy]
  refine zC ?_
  refine ca [0, 1, 2, 3, 4, 5, 6] [6] <| a_ (fun _ => Qa) <| a_ (fun _ => Qa) <| QR (hc := Wg _ _) ?_
  refine a_ (fun _ => Qe) <| a_ (fun _ => Qc) <| a_ (fun _ => Xp) ?_
  refine Vu ?_ ?_
  ·rw [U5]; show _ + 22 ≤ 116; omega
  rw [Lo hi5.1 hi5.2]
  apply an
  refine zC ?_
  refine Xr (List.perm_append_comm (l₁ := [_])) ?_
  refine zC ?_
  refine cr <| s_ Qa <| s_ Qa <| s_ Qa ?_
  refine Q1 (Hr := [_]) hw (.refl _) (fun r H' ⟨hr1, hr2⟩ => ?_)
  subst hr1
  refine s_ Qb <| zC ?_
  refine zR ?_
  refine rhp (List.perm_append_comm (l₂ := [_])) (.skip _ _ _ kR) ⟨rfl, ?_⟩ (Le.refl _)
  rw [show u + 205 = u + 5 + 200 by omega]
  exact hr2
theorem OR (i : Int) (conf : Int) (hu : u + 205 ≤ 25000) (h : XI b x τ u H) :
  FnH Tryz.prog 60 [pW b, ei i, ei conf] H (fun r H' => r = ei (YQ x i conf).2 ∧ ∃ τ', XI b (YQ x i conf).1 τ' (u + 205) H') := by
 have hI := WH i
 have h0 := h
 obtain ⟨⟨hns, haw, v, Hm, h1, rfl⟩, hG, l, hB⟩ := h
 have h0' : ∃ τ', XI b x τ' (u + 205) ((b, ⟨tX, xvC x.n (fun i => x.aw.getD i false) (.v v), 116⟩) :: (Hm ++ [])) := ⟨τ, h0.1, h0.2, l, hB.le (by omega)⟩
 refine fe Tryz.func60 fun S0 w0 => ?_
 show Sim _ _ [(0, pW b), (1, ei i), (2, ei conf)] _ _
 refine zC ?_
 refine cr <| s_ Qb <| zC ?_
 refine cr <| s_ Qa <| s_ (Qr (hI)) <| s_ Yb <| zC ?_
 refine ci (p := ¬ isI i) ?_ ?_
 ·intro hn
  have hs : YQ x i conf = (x, 2) := by unfold YQ YC; rw [if_pos hn, if_pos (by omega)]
  rw [hs]
  refine zC ?_
  refine cr <| s_ Qb <| zC ?_
  refine zR ?_
  exact rh kR ⟨rfl, h0'⟩ (Le.refl _)
 intro hn
 have hi : isI i := Classical.not_not.1 hn
 have hi5 : 0 ≤ i ∧ i < 5 := hi
 obtain ⟨h5, hin⟩ := Q7 hi
 obtain ⟨q, iq, hq⟩ := EP (b := x.aw.getD i.toNat false)
 have hld : (xvC x.n (fun i => x.aw.getD i false) (.v v))[0 + 110 + i.toNat * 1]? = some (.v (.bool (decide q))) := by
  rw [R5 hi5.1 hi5.2]
  show some (eB (x.aw.getD i.toNat false)) = _
  rw [hq]
  rfl
 refine zC ?_
 refine cr <| s_ Qa <| s_ Qa <| s_ Qe <| s_ Qc <| s_ Xp <| s_ (Ql (hd := by first | rfl | assumption)) <| zC ?_
 refine ci (p := q) ?_ ?_
 ·intro hqq
  have ha : YC x i = 22 := by
   unfold YC thN
   rw [if_neg hn, hq, decide_eq_true hqq, if_pos (by simp)]
  have hs : YQ x i conf = (x, 22) := by
   unfold YQ
   rw [ha, if_pos (by omega)]
  rw [hs]
  refine zC ?_
  refine cr <| s_ Qb <| zC ?_
  refine zR ?_
  exact rh kR ⟨rfl, h0'⟩ (Le.refl _)
 intro hqq
 have hth : thN x i = true := by
  unfold thN
  rw [hq, decide_eq_true hi, decide_eq_false hqq]
  rfl
 have hspec : YQ x i conf = Vs x i (QG (x.n i.toNat) conf).1 (QG (x.n i.toNat) conf).2.1 (QG (x.n i.toNat) conf).2.2 := by
  have ha : YC x i = 0 := by unfold YC; rw [if_neg hn, if_neg (fun h => h hth)]
  unfold YQ
  rw [ha, if_neg (fun h => h rfl)]
 rw [hspec]
 have hnb := hB.nb _ h5
 have hlen := hnb.len
 have hf := hB.five
 have hbase := hnb.base
 have hterm := hnb.term0
 have hRd := (hB.rd (by omega) hG h5).1
 obtain ⟨n, hnn⟩ : ∃ n, n = x.n i.toNat := ⟨_, rfl⟩
 have htk := ZT (N := x.n) (o := fun i => x.aw.getD i false) (v := .v v) hi5.1 hi5.2
 have hby := WZ (P := PS) (N := x.n i.toNat) (conf := conf) (fun a c => Pm hB hu i conf a c hi)
 have hgo : ∀ Hh l, QC Hh → NI Hh i.toNat (x.n i.toNat) l → M4 1 i.toNat Hh (QG (x.n i.toNat) conf).1 [] := fun Hh l hF hN => RO hF hN h5 conf
 rw [← hnn] at htk hlen hbase hRd hby hgo hterm ⊢
 have hP := O5 conf hRd (by omega)
 obtain ⟨t, index, e, hpe⟩ : ∃ t index e, QG n conf = (t, index, e) := ⟨_, _, _, rfl⟩
 rw [hpe] at hP hby hgo ⊢
 simp only at hP hby hgo ⊢
 refine zC ?_
 refine cr <| s_ Qa <| s_ Qa <| s_ Qe <| s_ Qc <| s_ Xp <| s_ (Qw (hc := htk)) <| s_ Qa <| s_ (Qr (hP)) <| s_ Qa <| s_ Qt <| s_ Qt <| s_ Qt ?_
 refine Xt fun b7 _ => ?_
 refine Qn ?_
 refine s_ Qb <| s_ Qb <| zC ?_
 refine cr <| s_ Qa <| s_ XE <| zC ?_
 refine ci (p := ¬ e = 0) ?_ ?_
 ·intro he
  have hs : Vs x i t index e = (x, e) := by unfold Vs; rw [if_pos he]
  rw [hs]
  refine zC ?_
  refine cr <| s_ Qa <| s_ Qb <| zC ?_
  refine zR ?_
  exact rh (kS kR) ⟨rfl, h0'⟩ (Le.refl _)
 ·intro he
  have he' : e = 0 := Classical.not_not.1 he
  subst he'
  have hix : 1 ≤ index ∧ index ≤ 1000000 ∧ Xm t index = t.term ∧ 0 ≤ t.term := by
   obtain ⟨en, h1, h2, h3⟩ : ∃ en, t = UA n en ∧ index = n.base + (n.log.length + 1) ∧ t.term = n.term := BF hpe
   have hlog : t.log = n.log ++ [⟨n.term, en.conf, en.cmd⟩] := by rw [h1]; exact (U9 _ _).2.1
   have hb2 : t.base = n.base := by rw [h1]; exact (U9 _ _).2.2
   refine ⟨by omega, by omega, ?_, by omega⟩
   unfold Xm
   rw [hlog, hb2, if_neg (by omega), if_neg (by simp only [List.length_append, List.length_singleton]; omega), h3]
   rw [show (index - n.base - 1).toNat = n.log.length by omega]
   simp
  have hs : Vs x i t index 0 = Yh i.toNat index t.term 40 { x with ns := x.ns.set i.toNat t } := by unfold Vs; rw [if_neg he]
  rw [hs]
  obtain ⟨y, hy⟩ : ∃ y : Gn, y = { x with ns := x.ns.set i.toNat t } := ⟨_, rfl⟩
  have hyn : y.n = UE x.n i.toNat t := by rw [hy]; exact L7 (by omega) t x.way
  have hya : y.aw = x.aw := by rw [hy]
  have hyw : y.way = x.way := by rw [hy]
  have hX : XI b y τ (u + 5) ((b, ⟨tX, xvC (UE x.n i.toNat t) (fun i => x.aw.getD i false) (.v v), 116⟩) :: (Hm ++ [])) := by
   refine ⟨⟨by rw [hy]; show (x.ns.set _ _).length = 5; rw [List.length_set]; exact hns, by rw [hya]; exact haw, ?_⟩, ?_, ?_⟩
   ·rw [hyn, hya, hyw]
    exact ⟨v, Hm, h1, rfl⟩
   ·rw [hy]
    refine hG.go (w := x.way) h5 (out := []) (fun Hh l hF hN _ => hgo Hh l hF (by rw [hnn]; exact hN)) fun m hm => .inl hm
   ·rw [hnn] at hby
    rw [hy]
    exact hB.put h5 hby
  have hyt : y.n i.toNat = t := by rw [hyn]; exact if_pos rfl
  have hw := EZ i index hi (by omega) hix.1 hix.2.1 t.term hix.2.2.2 (by rw [hyt]; exact hix.2.2.1) hX
  rw [← hy]
  refine zC ?_
  refine ca [0, 1, 2, 3, 4, 5, 6] [6] <| a_ (fun _ => Qa) <| a_ (fun _ => Qa) <| QR (hc := Wg _ _) ?_
  refine a_ (fun _ => Qe) <| a_ (fun _ => Qc) <| a_ (fun _ => Xp) ?_
  refine Vu ?_ ?_
  ·rw [U5]; show _ + 22 ≤ 116; omega
  rw [Lo hi5.1 hi5.2]
  apply an
  refine zC ?_
  refine Xr (List.perm_append_comm (l₁ := [_])) ?_
  refine zC ?_
  refine cr <| s_ Qa <| s_ Qa <| s_ Qa ?_
  refine Q1 (Hr := [_]) hw (.refl _) (fun r H' ⟨hr1, hr2⟩ => ?_)
  subst hr1
  refine s_ Qb <| zC ?_
  refine zR ?_
  refine rhp (List.perm_append_comm (l₂ := [_])) (.skip _ _ _ kR) ⟨rfl, ?_⟩ (Le.refl _)
  rw [show u + 205 = u + 5 + 200 by omega]
  exact hr2
end
end Go.Proofs.YtjbokbikkcfjjaaGreat
namespace Go.Proofs.YtjbokbikkcfjjaaGreat
open Go.Cap
attribute [local irreducible] POp Qi SO EOp Sim FnH T.gp
section
variable {g : Gp} {τ l' u : Nat} {l : List UInt8}
theorem A7 (hB : GB PS g τ l' u) (hu : u + 205 ≤ 25000) (i : Int) (cmd : List UInt8) (hc : cmd.length ≤ 61) (hi : isI i) : PS (g.k i.toNat).N.log.length ⟨(g.k i.toNat).N.term, 0, cmd⟩ := by
 have h := hB.nb i.toNat (Q7 hi).1
 have h1 := h.term0
 have h2 := h.term1
 have h3 := hB.tau
 exact ⟨h1, by simp only; omega, Int.le_refl _, by simp only; omega, hc⟩
end
theorem P0 {g : Gp} {τ l u : Nat} (bg : Nat) (H : Qd) (i : Int) (cmd : List UInt8) (hB : GB PS g τ l u) (hu : u + 205 ≤ 25000) (hc : cmd.length ≤ 61) (hG : IsG bg g H) : FnH Tryz.prog 17 [pW bg, ei i, es cmd] H (fun r H' => r = ei (doG g i cmd).2 ∧ IsG bg (doG g i cmd).1 H') := by
 by_cases hi : isI i
 ·exact KE Xj bg g H i cmd hB hu (A7 hB hu i cmd hc hi) hG
 ·have ha : XT g i = 2 := by unfold XT; rw [if_pos hi]
  have hd : doG g i cmd = (g, 2) := by unfold doG; rw [ha, if_pos (by omega)]
  rw [hd]
  have := Vh bg g H i hG
  refine fe Tryz.func17 fun S0 w0 => ?_
  show Sim _ _ [(0, pW bg), (1, ei i), (2, es cmd)] H _
  rw [ha] at this
  refine zC ?_
  refine cr <| s_ Qb <| zC ?_
  refine cr <| s_ Qa <| s_ Qa ?_
  refine QY this (fun r H' ⟨hr1, hr2⟩ => ?_)
  subst hr1 hr2
  refine s_ Qb <| zC ?_
  refine cr <| s_ Qa <| s_ XE <| zC ?_
  refine ci (p := ¬ (2 : Int) = 0) (fun _ => ?_) (fun h => absurd (by omega) h)
  refine zC ?_
  refine cr <| s_ Qa <| s_ Qb <| zC ?_
  refine zR ?_
  exact rh kR ⟨rfl, hG⟩ (Le.refl _)
theorem Ar (l : List (List UInt8)) (hl : l.length ≤ 1000000000) : FnP Tryz.prog 18 [.sl false (l.map es), .sl false (l.map es)] (fun r => r = .v (.bool true)) := by
 have hk := es1 l
 refine fe Tryz.func18 fun S0 w0 => ?_
 show Sim _ _ [(0, T.sl false (l.map es)), (1, T.sl false (l.map es))] _ _
 refine zC ?_
 refine cr <| s_ Qb <| zC ?_
 refine cr <| s_ Qa ?_
 (first | refine s_ QS ?_ | refine s_ QP ?_)
 refine s_ Qa ?_
 (first | refine s_ QS ?_ | refine s_ QP ?_)
 refine s_ XE <| zC ?_
 refine ci (fun hne => absurd rfl hne) (fun _ => ?_)
 refine zC ?_
 refine cr <| s_ Qb <| zC ?_
 apply Qm (σ := Nat) (ok := fun k => k ≤ l.length) (env := fun k => [(5, ei (k : Nat)), (0, T.sl false (l.map es)), (1, T.sl false (l.map es))]) (heap := fun _ => []) (μ := fun k => l.length - k) (s0 := 0)
 ·exact Nat.zero_le _
 ·exact eL
 ·exact kR
 rintro k hk1
 refine zC ?_
 refine cr <| s_ Qa <| s_ Qa ?_
 (first | refine s_ QS ?_ | refine s_ QP ?_)
 refine s_ QN <| zC ?_
 refine ci ?_ ?_
 ·intro hlt
  simp only [List.length_map] at hlt
  have hix : k < l.length := by omega
  apply ck
  apply cq
  refine zC ?_
  refine ca [0, 1, 2, 3, 4, 5, 6, 7, 8] [] <| a_ (fun _ => Qa) <| a_ (fun _ => Qa) ?_
  (first | refine a_ (fun _ => Q4 hix) ?_ | refine a_ (fun _ => Q4 hix2) ?_ | refine a_ (fun _ => Yd) ?_ | refine a_ (fun _ => Ys) ?_)
  (first | refine a_ (fun _ => Qf) ?_ | refine Qv ?_)
  refine a_ (fun _ => Qa) <| a_ (fun _ => Qa) ?_
  (first | refine a_ (fun _ => Q4 hix) ?_ | refine a_ (fun _ => Q4 hix2) ?_ | refine a_ (fun _ => Yd) ?_ | refine a_ (fun _ => Ys) ?_)
  (first | refine a_ (fun _ => Qf) ?_ | refine Qv ?_)
  refine a_ (fun _ => Tk) ?_
  apply an
  refine zC ?_
  refine ci (fun h => absurd rfl h) (fun _ => ?_)
  refine zC ?_
  refine cr <| s_ Qa <| s_ QQ <| s_ Qb <| zC ?_
  exact ⟨k + 1, by omega, by show l.length - (k + 1) < l.length - k; omega, ⟨Qh (by rfl) (Le.refl _), eL⟩, kR⟩
 ·intro hlt
  refine zC ?_
  refine cr <| s_ Qb <| zC ?_
  refine zE ?_
  exact Le.refl _
end Go.Proofs.YtjbokbikkcfjjaaGreat
namespace Go.Proofs.YtjbokbikkcfjjaaGreat
open Go.Cap Raft
attribute [local irreducible] POp Qi SO EOp Sim FnH T.gp
section
variable (g : Gp) (i k : Int)
theorem Ia : (Jb g i).conf = g.conf := by unfold Jb; split <;> rfl
theorem Ic (m : Ms) : (Yy g m).conf = g.conf := by unfold Yy; split <;> rfl
theorem E9 : ∀ (l : List Ms) (g : Gp), (l.foldl Yy g).conf = g.conf
 | [], _ => rfl
 | m :: l, g => (E9 l (Yy g m)).trans (Ic g m)
theorem E8 : ∀ k : Nat, (JE g k).conf = g.conf
 | 0 => rfl
 | k + 1 => by rw [Uh]; exact (Ia _ _).trans (E8 k)
theorem Gh : (Zz g).conf = g.conf := (E8 _ 5).trans (E9 g.way { g with way := [] })
theorem I7 : ∀ k : Nat, (JC g k).conf = g.conf
 | 0 => rfl
 | k + 1 => (Gh _).trans (I7 k)
theorem RI : (Yc g k).conf = g.conf := by
 unfold Yc
 split
 ·exact Ic _ _
 ·rfl
theorem Hg : (J6 g k).conf = g.conf := by unfold J6; split <;> rfl
theorem An : (Zw g k).conf = g.conf := by unfold Zw; split <;> rfl
theorem Hw (b : Bool) : (J7 g i b).conf = g.conf := by unfold J7; split <;> rfl
theorem R9 (i : Nat) (index term : Int) : ∀ (f : Nat) (g : Gp), (Yx i index term f g).1.conf = g.conf
 | 0, g => rfl
 | f + 1, g => by
  unfold Yx
  split
  ·rfl
  ·exact (R9 i index term f _).trans (Gh g)
theorem NJ (t : Nd) (index e : Int) : (VS g i t index e).1.conf = g.conf := by
 unfold VS
 split
 ·rfl
 ·exact R9 _ _ _ 40 _
theorem Sx (cmd : List UInt8) : (doG g i cmd).1.conf = g.conf := by
 unfold doG
 split
 ·rfl
 ·exact NJ _ _ _ _ _
theorem BH (c : Int) : (XL g i c).1.conf = g.conf := by
 unfold XL
 split
 ·rfl
 ·exact NJ _ _ _ _ _
end
theorem XI.le {b : Nat} {x : Gn} {τ u u' : Nat} {H : Qd} (h : XI b x τ u H) (hu : u ≤ u') : XI b x τ u' H := by
 obtain ⟨h1, h2, l, h3⟩ := h
 exact ⟨h1, h2, l, h3.le hu⟩
structure Ub (bg bx : Nat) (conf : Int) (g : Gp) (u : Nat) (H1 H2 : Qd) : Prop where
 c0 : 1 ≤ conf
 c31 : conf ≤ 31
 is : IsG bg g H1
 gb : ∃ τ l, GB PS g τ l u
 gl : GL conf g
 cf : g.conf = conf
 x : ∃ τ, XI bx (prG g) τ u H2
section
variable {bg bx : Nat} {conf : Int} {g : Gp} {u : Nat} {H1 H2 : Qd}
structure M3 (bg bx : Nat) (conf : Int) (f fx : FuncId) (vs xs : List T) (r : T) (g : Gp) (u : Nat) (H1 H2 : Qd) : Prop where
 p : FnH Tryz.prog f vs H1 (fun q H' => q = r ∧ IsG bg g H')
 x : FnH Tryz.prog fx xs H2 (fun q H' => q = r ∧ ∃ τ, XI bx (prG g) τ (u + 205) H')
 gb : ∃ τ l, GB PS g τ l (u + 205)
 gl : GL conf g
 cf : g.conf = conf
theorem M3.both {f fx : FuncId} {vs xs : List T} {r : T} {g' : Gp} (h : M3 bg bx conf f fx vs xs r g' u H1 H2) (hB : Ub bg bx conf g u H1 H2) {H1' H2' : Qd} (h1 : IsG bg g' H1') (h2 : ∃ τ, XI bx (prG g') τ (u + 205) H2') : Ub bg bx conf g' (u + 205) H1' H2' :=
 ⟨hB.c0, hB.c31, h1, h.gb, h.gl, h.cf, h2⟩
theorem BO (hB : Ub bg bx conf g u H1 H2) (hu : u + 205 ≤ 25000) (i : Int) : M3 bg bx conf 25 51 [pW bg, ei i] [pW bx, ei i] (.tup []) (Jb g i) u H1 H2 := by
 obtain ⟨_, _, hG, ⟨τ, l, hb⟩, hL, hcf, τx, hX⟩ := hB
 obtain ⟨l', hb', _⟩ := hb.tick Xj.toPO (by have := hb.tau; omega) i
 obtain ⟨hL', hpr⟩ := hL.tick Xj hb (by omega) i
 refine ⟨G8 Xj bg g H1 i hb (by omega) hG, ?_, ⟨_, l', hb'.le (by omega)⟩, hL', (Ia g i).trans hcf⟩
 rw [hpr]
 exact (B5 i (by omega) hX).mono fun r H' ⟨h1, h2⟩ => ⟨h1, _, h2.le (by omega)⟩
theorem EV (hB : Ub bg bx conf g u H1 H2) (hu : u + 205 ≤ 25000) (k : Int) : M3 bg bx conf 16 52 [pW bg, ei k] [pW bx, ei k] (.v (.bool (decide (YI g k)))) (Yc g k) u H1 H2 := by
 obtain ⟨_, _, hG, ⟨τ, l, hb⟩, hL, hcf, τx, hX⟩ := hB
 obtain ⟨l', hb', _⟩ := hb.deliver Xj.toPO (by have := hb.tau; omega) k
 obtain ⟨hL', hpr⟩ := hL.deliver Xj hb (by omega) k
 refine ⟨Oe Xj bg g H1 k hb (by omega) hG, ?_, ⟨_, l', hb'.le (by omega)⟩, hL', (RI g k).trans hcf⟩
 rw [hpr]
 exact (R7 k (by omega) hX).mono fun r H' ⟨h1, h2⟩ => ⟨h1, _, h2.le (by omega)⟩
theorem GI.drop {x : Gn} {E : List Ms} (h : GI x E) (k : Int) : GI (Ww x k) E := by
 unfold Ww
 split
 ·exact h.less (aw := x.aw) (w := x.way.eraseIdx k.toNat) h.aw fun m hm => hm.imp_left List.mem_of_mem_eraseIdx
 ·exact h
theorem GI.twice {x : Gn} {E : List Ms} (h : GI x E) (k : Int) : GI (Uf x k) E := by
 unfold Uf
 split
 ·rename_i hk
  refine h.less (aw := x.aw) (w := x.way ++ [x.way.getD k.toNat default]) h.aw fun m hm => hm.imp_left fun h => ?_
  rcases List.mem_append.1 h with h | h
  ·exact h
  ·rw [List.mem_singleton.1 h]; exact (Z0 hk.1).2
 ·exact h
theorem GI.away {x : Gn} {E : List Ms} (h : GI x E) (i : Int) (b : Bool) : GI (WC x i b) E := by
 unfold WC
 split
 ·exact h.less (w := x.way) (by rw [List.length_set]; exact h.aw) fun m hm => hm
 ·exact h
theorem XB.drop {P : Nat → En → Prop} {x : Gn} {τ l u : Nat} (h : XB P x τ l u) (k : Int) : XB P (Ww x k) τ l u := by
 unfold Ww
 split
 ·exact h.out (fun m hm => h.way m (List.mem_of_mem_eraseIdx hm)) (Nat.le_trans (List.length_eraseIdx_le _ _) h.many)
 ·exact h
theorem XB.twice {P : Nat → En → Prop} {x : Gn} {τ l u : Nat} (h : XB P x τ l u) (k : Int) : XB P (Uf x k) τ l (u + 1) := by
 unfold Uf
 split
 ·rename_i hk
  refine (h.le (u' := u + 1) (by omega)).out (fun m hm => ?_) (by have := h.many; simp only [List.length_append, List.length_singleton]; omega)
  rcases List.mem_append.1 hm with hm | hm
  ·exact h.way m hm
  ·rw [List.mem_singleton.1 hm]; exact h.way _ (Z0 hk.1).2
 ·exact h.le (by omega)
theorem XB.away {P : Nat → En → Prop} {x : Gn} {τ l u : Nat} (h : XB P x τ l u) (i : Int) (b : Bool) : XB P (WC x i b) τ l u := by
 unfold WC
 split
 ·exact ⟨h.ks, h.id, h.nb, h.way, h.many, h.fuel, h.tau⟩
 ·exact h
theorem BP (hB : Ub bg bx conf g u H1 H2) (hu : u + 205 ≤ 25000) (k : Int) : M3 bg bx conf 14 53 [pW bg, ei k] [pW bx, ei k] (.v (.bool (decide (YI g k)))) (J6 g k) u H1 H2 := by
 obtain ⟨_, _, hG, ⟨τ, l, hb⟩, hL, hcf, τx, hX, hGI, lx, hXB⟩ := hB
 obtain ⟨hb', _⟩ := hb.drop k
 obtain ⟨hL', hpr⟩ := hL.drop k
 refine ⟨T0 bg g H1 k hb (by omega) hG, ?_, ⟨_, l, hb'.le (by omega)⟩, hL', (Hg g k).trans hcf⟩
 rw [hpr]
 exact (Ab k (by have := hXB.many; have := hXB.five; omega) hX).mono fun r H' ⟨h1, h2⟩ => ⟨h1, τx, h2, hGI.drop k, lx, (hXB.drop k).le (by omega)⟩
theorem RR (hB : Ub bg bx conf g u H1 H2) (hu : u + 205 ≤ 25000) (k : Int) : M3 bg bx conf 15 54 [pW bg, ei k] [pW bx, ei k] (.v (.bool (decide (YI g k ∧ g.way.length < 300)))) (Zw g k) u H1 H2 := by
 obtain ⟨_, _, hG, ⟨τ, l, hb⟩, hL, hcf, τx, hX, hGI, lx, hXB⟩ := hB
 obtain ⟨hb', _⟩ := hb.twice k
 obtain ⟨hL', hpr⟩ := hL.twice k
 refine ⟨Bj bg g H1 k hb (by omega) hG, ?_, ⟨_, l, hb'.le (by omega)⟩, hL', (An g k).trans hcf⟩
 rw [hpr]
 exact (Ce k (by have := hXB.many; have := hXB.five; omega) hX).mono fun r H' ⟨h1, h2⟩ => ⟨h1, τx, h2, hGI.twice k, lx, (hXB.twice k).le (by omega)⟩
theorem DW (hB : Ub bg bx conf g u H1 H2) (i : Int) (b : Bool) : M3 bg bx conf 20 56 [pW bg, ei i, eB b] [pW bx, ei i, eB b] (.v (.bool (decide (isI i)))) (J7 g i b) u H1 H2 := by
 obtain ⟨_, _, hG, ⟨τ, l, hb⟩, hL, hcf, τx, hX, hGI, lx, hXB⟩ := hB
 obtain ⟨hL', hpr⟩ := hL.away i b
 refine ⟨T2 bg g H1 i b hb hG, ?_, ⟨_, l, (hb.away i b).le (by omega)⟩, hL', (Hw g i b).trans hcf⟩
 rw [hpr]
 exact (Ae i b hX).mono fun r H' ⟨h1, h2⟩ => ⟨h1, τx, h2, hGI.away i b, lx, (hXB.away i b).le (by omega)⟩
theorem BQ (hB : Ub bg bx conf g u H1 H2) (hu : u + 205 ≤ 25000) (k : Nat) (hk : k ≤ 41) : M3 bg bx conf 11 57 [pW bg, ei k] [pW bx, ei k] (.tup []) (JC g k) u H1 H2 := by
 obtain ⟨_, _, hG, ⟨τ, l, hb⟩, hL, hcf, τx, hX⟩ := hB
 obtain ⟨l', hb', _⟩ := hb.calm Xj.toPO k (by have := hb.tau; omega)
 obtain ⟨hL', hpr⟩ := hL.calm Xj hb k (by omega)
 refine ⟨Mo Xj bg g H1 k k (by omega) hb (by omega) hG, ?_, ⟨_, l', hb'.le (by omega)⟩, hL', (I7 g k).trans hcf⟩
 rw [hpr]
 have h := E4 k (by omega) hX
 rw [show min k 200 = k by omega] at h
 exact h.mono fun r H' ⟨h1, h2⟩ => ⟨h1, _, h2.le (by omega)⟩
theorem Hq (hB : Ub bg bx conf g u H1 H2) (hu : u + 205 ≤ 25000) (i : Int) (cmd : List UInt8) (hc : cmd.length ≤ 61) : M3 bg bx conf 17 58 [pW bg, ei i, es cmd] [pW bx, ei i, es cmd] (ei (doG g i cmd).2) (doG g i cmd).1 u H1 H2 := by
 obtain ⟨_, _, hG, ⟨τ, l, hb⟩, hL, hcf, τx, hX⟩ := hB
 obtain ⟨hL', hpr, hrs, τ', l', hb'⟩ := hL.do_ Xj hb hu i cmd (A7 hb hu i cmd hc)
 refine ⟨P0 bg H1 i cmd hb hu hc hG, ?_, ⟨τ', l', hb'⟩, hL', (Sx g i cmd).trans hcf⟩
 rw [hpr, hrs]
 exact B7 i cmd hc hu hX
theorem In {τ l : Nat} (hB : GB PS g τ l u) (hu : u + 205 ≤ 25000) (i c : Int) (hi : isI i) (h0 : 1 ≤ c) (h31 : c ≤ 31) : PS (g.k i.toNat).N.log.length ⟨(g.k i.toNat).N.term, c, []⟩ := by
 have h := hB.nb i.toNat (Q7 hi).1
 have h1 := h.term0
 have h2 := h.term1
 have h3 := hB.tau
 exact ⟨h1, by simp only; omega, by simp only; omega, by simp only; omega, by simp⟩
theorem Of {τ l : Nat} (bg : Nat) (H : Qd) (i c : Int) (hB : GB PS g τ l u) (hu : u + 205 ≤ 25000) (hG : IsG bg g H) : FnH Tryz.prog 27 [pW bg, ei i, ei c] H (fun r H' => r = ei (XL g i c).2 ∧ IsG bg (XL g i c).1 H') := by
 by_cases hi : isI i
 ·exact Rw Xj bg g H i c hB hu (In hB hu i c hi) hG
 ·have ha : XT g i = 2 := by unfold XT; rw [if_pos hi]
  have hd : XL g i c = (g, 2) := by unfold XL; rw [ha, if_pos (by omega)]
  rw [hd]
  have := Vh bg g H i hG
  refine fe Tryz.func27 fun S0 w0 => ?_
  show Sim _ _ [(0, pW bg), (1, ei i), (2, ei c)] H _
  rw [ha] at this
  refine zC ?_
  refine cr <| s_ Qb <| zC ?_
  refine cr <| s_ Qa <| s_ Qa ?_
  refine QY this (fun r H' ⟨hr1, hr2⟩ => ?_)
  subst hr1 hr2
  refine s_ Qb <| zC ?_
  refine cr <| s_ Qa <| s_ XE <| zC ?_
  refine ci (p := ¬ (2 : Int) = 0) (fun _ => ?_) (fun h => absurd (by omega) h)
  refine zC ?_
  refine cr <| s_ Qa <| s_ Qb <| zC ?_
  refine zR ?_
  exact rh kR ⟨rfl, hG⟩ (Le.refl _)
theorem OI (hB : Ub bg bx conf g u H1 H2) (hu : u + 205 ≤ 25000) (i c : Int) : M3 bg bx conf 27 60 [pW bg, ei i, ei c] [pW bx, ei i, ei c] (ei (XL g i c).2) (XL g i c).1 u H1 H2 := by
 obtain ⟨_, _, hG, ⟨τ, l, hb⟩, hL, hcf, τx, hX⟩ := hB
 obtain ⟨hL', hpr, hrs, τ', l', hb'⟩ := hL.change_ Xj hb hu i c (In hb hu i c)
 refine ⟨Of bg H1 i c hb hu hG, ?_, ⟨τ', l', hb'⟩, hL', (BH g i c).trans hcf⟩
 rw [hpr, hrs]
 exact OR i c hu hX
theorem GL.crash {τ l : Nat} (h : GL conf g) (hb : GB PS g τ l u) {i : Int} (hi : isI i) {K2 : Kp} (hl : U3 (XG i conf) 524100 K2) (hN : K2.N = QK (g.k i.toNat).N) (h0 : K2.d.left = 0) (hr : K2.d.room = (g.k i.toNat).d.room) :
  GL conf { g with ks := g.ks.set i.toNat K2 } ∧ prG { g with ks := g.ks.set i.toNat K2 } = ZB (prG g) i ∧ ∃ l', GB PS { g with ks := g.ks.set i.toNat K2 } τ l' u := by
 obtain ⟨h5, hin⟩ := Q7 hi
 refine ⟨?_, ?_, ?_⟩
 ·have hK : Lh (XG (i.toNat : Nat) conf) K2 := ⟨by rw [hin]; exact hl, h0, by rw [hr]; exact (h _ h5).room⟩
  have := h.set hb.ks (i := i.toNat) g.way hK
  exact this
 ·unfold ZB MQ
  rw [if_pos hi, UL g _ (by rw [hb.ks]; exact h5)]
  unfold prG
  simp only [List.map_set, hN]
 ·have hki : KI K2 := by
   obtain ⟨so, rs, hc, hnn⟩ := hl.cont
   exact ⟨hl.dk, by omega, by have := hc.len; omega⟩
  have hp := Gq (n := (g.k i.toNat).N)
  obtain ⟨l', h1, _⟩ := hb.did h5 (K' := K2) (out := []) (τ' := τ) (c := 0) (b := 0) hki (by rw [hN]; exact hb.id _ h5) (Nat.le_refl _) (Nat.le_refl _) ⟨0, by rw [hN]; exact (hb.nb _ h5).wake, by rw [hN]; omega, by simp, by simp⟩ (by have := hb.many; omega)
  simp only [List.append_nil] at h1
  exact ⟨l', h1⟩
end
end Go.Proofs.YtjbokbikkcfjjaaGreat
namespace Go.Proofs.YtjbokbikkcfjjaaGreat
open Go.Cap
attribute [local irreducible] POp Qi SO EOp Sim FnH T.gp
structure Ag where
 kind : Int
 i : Int
 n : Int
 cmd : List UInt8
def agT (a : Ag) : T := .agg [ei a.kind, ei a.i, ei a.n, es a.cmd]
def SN (l : List Ag) : Prop := (∀ j (hj : j < l.length), l[j].cmd.length ≤ 60) ∧ l.length ≤ 100
theorem BN (l : List UInt8) : (bs l).size = l.length := by simp [bs, ByteArray.size]
theorem T9 (f : Bool) (l : List Ag) (hl : l.length ≤ 9223372036854775807) : FnP Tryz.prog 28 [.sl f (l.map agT)] (fun r => ∃ b : Bool, r = .v (.bool b) ∧ (b = true → SN l)) := by
 refine fe Tryz.func28 fun S0 w0 => ?_
 show Sim _ _ [(0, .sl f (l.map agT))] _ _
 refine zC ?_
 refine cr <| s_ Qb <| zC ?_
 refine cr <| s_ Qb <| zC ?_
 apply Qm (σ := Nat) (ok := fun k => k ≤ l.length ∧ ∀ j (hj : j < l.length), j < k → l[j].cmd.length ≤ 60) (env := fun k => [(3, ei k), (0, .sl f (l.map agT))]) (heap := fun _ => []) (μ := fun k => l.length - k) (s0 := 0)
 ·exact ⟨Nat.zero_le _, fun j _ h => by omega⟩
 ·exact eL
 ·exact kR
 rintro k ⟨hk, hg⟩
 refine zC ?_
 refine cr <| s_ Qa <| s_ Qa ?_
 (first | refine s_ QS ?_ | refine s_ QP ?_)
 refine s_ QN <| zC ?_
 refine ci ?_ ?_
 ·intro hlt
  have hix : k < l.length := by simp only [List.length_map] at hlt; omega
  refine zC ?_
  refine cr <| s_ Qa <| s_ Qa ?_
  (first | refine s_ (Q4 hix) ?_ | refine s_ (Q4 hix2) ?_ | refine s_ Yd ?_ | refine s_ Ys ?_)
  (first | refine s_ Qj ?_ | refine s_ Qc ?_)
  refine s_ Qf <| s_ SS <| s_ XX <| zC ?_
  refine ci ?_ ?_
  ·intro _
   refine zC ?_
   refine cr <| s_ Qb <| zC ?_
   apply YW; (try simp only [YS, Ze, Z5, Wx, Wy])
   exact re (Le.refl _) ⟨false, rfl, fun h => by cases h⟩
  intro hc
  refine zC ?_
  refine cr <| s_ Qa <| s_ QQ <| s_ Qb <| zC ?_
  refine ⟨k + 1, ⟨hix, ?_⟩, (by simp only []; omega), ⟨?_, eL⟩, kR⟩
  ·intro j hj hjk
   by_cases hje : j = k
   ·subst hje
    rw [BN] at hc
    omega
   ·exact hg j hj (by omega)
  ·apply Qh; (exact zG)
   exact Le.refl _
 ·intro hge
  have hke : k = l.length := by simp only [List.length_map] at hge; omega
  subst hke
  refine zC ?_
  refine cr <| s_ Qa ?_
  (first | refine s_ QS ?_ | refine s_ QP ?_)
  refine s_ Ej <| s_ Qb <| zC ?_
  apply YW; (try simp only [YS, Ze, Z5, Wx, Wy])
  refine re (Le.refl _) ⟨decide _, rfl, fun h => ?_⟩
  have := of_decide_eq_true h
  simp only [List.length_map] at this
  exact ⟨fun j hj => hg j hj hj, by omega⟩
end Go.Proofs.YtjbokbikkcfjjaaGreat
namespace Go.Proofs.YtjbokbikkcfjjaaGreat
open Go.Cap Raft
attribute [local irreducible] POp Qi SO EOp Sim FnH T.gp
section
variable {bg bx : Nat} {conf : Int} {g : Gp} {u : Nat} {H1 H2 : Qd}
theorem RS (hB : Ub bg bx conf g u H1 H2) (hu : u + 205 ≤ 25000) (i pick : Int) : FnH Tryz.prog 24 [pW bg, ei i, ei pick] H1 (fun r H' => r = .v (.bool (decide (isI i))) ∧ ∃ g', IsG bg g' H' ∧ (∃ τ l, GB PS g' τ l (u + 205)) ∧ GL conf g' ∧ g'.conf = conf ∧ prG g' = ZB (prG g) i) := by
 obtain ⟨hc0, hc1, hG, ⟨τ, l, hb⟩, hL, hcf, _⟩ := hB
 by_cases hi : isI i
 ·obtain ⟨h5, hin⟩ := Q7 hi
  have hl := (hL _ h5).live
  have hnb := hb.nb _ h5
  have hf := hb.five
  have hp := hb.pot h5
  have ht := hb.tau
  have hz := hnb.wake.sz Xj (by omega) (by omega)
  have hr := hnb.wake.rec_ Xj (by omega)
  have hid := (hb.id _ h5).trans hin
  rw [hin] at hl
  subst hcf
  refine (Bn bg g H1 i pick (g.k i.toNat).N hi hb.ks (by omega) hc1 (.inl ⟨hl, rfl⟩) hid hid hz hr hz hr hG).mono ?_
  rintro r H' ⟨h1, K2, h2, h3, h4, h5', h6⟩
  have h4' : K2.N = QK (g.k i.toNat).N := by rcases h4 with h | h <;> exact h
  obtain ⟨a1, a2, l', a3⟩ := hL.crash hb hi h3 h4' h5' h6
  exact ⟨h1, _, h2, ⟨τ, l', a3.le (by omega)⟩, a1, rfl, a2⟩
 ·refine (Rv bg g H1 i pick hi hG).mono ?_
  rintro r H' ⟨h1, h2⟩
  subst h2
  refine ⟨by rw [h1, decide_eq_false hi]; rfl, g, hG, ⟨τ, l, hb.le (by omega)⟩, hL, hcf, ?_⟩
  unfold ZB
  rw [if_neg hi]
theorem OH (hB : Ub bg bx conf g u H1 H2) (hu : u + 205 ≤ 25000) (i : Int) : FnH Tryz.prog 55 [pW bx, ei i] H2 (fun r H' => r = .v (.bool (decide (isI i))) ∧ ∃ τ, XI bx (ZB (prG g) i) τ (u + 205) H') := by
 obtain ⟨τ, hX⟩ := hB.x
 exact (Cf i (by omega) hX).mono fun r H' ⟨h1, h2⟩ => ⟨h1, _, h2.le (by omega)⟩
theorem Ub.le {u' : Nat} (h : Ub bg bx conf g u H1 H2) (hu : u ≤ u') : Ub bg bx conf g u' H1 H2 := by
 obtain ⟨a, b, c, ⟨τ, l, d⟩, e, f, τx, h⟩ := h
 exact ⟨a, b, c, ⟨τ, l, d.le hu⟩, e, f, τx, h.le hu⟩
end
theorem Jh {x : Nat × Blk} {A B : Qd} : (x :: (A ++ B)).Perm (A ++ (x :: B)) := List.perm_middle.symm
theorem Jg {x : Nat × Blk} {A B : Qd} : (A ++ (x :: B)).Perm (B ++ (A ++ [x])) := by
 have h : A ++ (x :: B) = (A ++ [x]) ++ B := by simp
 rw [h]
 exact List.perm_append_comm
theorem JH {x : Nat × Blk} {A B : Qd} : (B ++ (A ++ [x])).Perm (x :: (A ++ B)) := (Jh.trans Jg).symm
theorem Kg (n : Int) : 0 ≤ (n % 50).tdiv 49 ∧ (n % 50).tdiv 49 ≤ 1 := by
 rw [Int.tdiv_eq_ediv_of_nonneg (by omega)]
 omega
def SF (a : Ag) : Int := a.i % 6 - (a.n % 50).tdiv 49
def Ay : TypeId := 59
theorem P1 {bg bx : Nat} {conf : Int} {g : Gp} {u : Nat} {H1 H2 : Qd} (a : Ag) (hc : a.cmd.length ≤ 61) (hu : u + 205 ≤ 25000) (hB : Ub bg bx conf g u H1 H2) :
  FnH Tryz.prog 30 [agT a, pW bg, pW bx] (H1 ++ H2) (fun r H' => r = .v (.bool true) ∧ ∃ g' H1' H2', Ub bg bx conf g' (u + 205) H1' H2' ∧ H' = H1' ++ H2') := by
 have w6 := Yu a.i 6 (by omega) (by omega)
 have w50 := Yu a.n 50 (by omega) (by omega)
 have w18 := Yu a.kind 18 (by omega) (by omega)
 have w25 := Yu a.n 25 (by omega) (by omega)
 have w40 := Yu a.n 40 (by omega) (by omega)
 have w5 := Yu a.n 5 (by omega) (by omega)
 have hq := Kg a.n
 obtain ⟨τx, hX⟩ := hB.x
 obtain ⟨lx, hXB⟩ := hX.xb
 have hmany := hXB.many
 have hfive := hXB.five
 obtain ⟨v, Hm, hos, hH2⟩ := hX.is.mem
 obtain ⟨p, c, hv⟩ := OSo.len hos
 rw [List.length_map] at hv
 subst hv
 clear hos
 obtain ⟨n, hn⟩ : ∃ n, n = (prG g).way.length := ⟨_, rfl⟩
 rw [← hn] at hH2 hmany
 have wk := Yu a.n (max (n : Int) 1) (by omega) (by omega)
 obtain ⟨k, hk⟩ : ∃ k, k = a.n % max (n : Int) 1 := ⟨_, rfl⟩
 rw [← hk] at wk
 obtain ⟨i, hi⟩ : ∃ i, i = SF a := ⟨_, rfl⟩
 have hib : -1 ≤ i ∧ i ≤ 5 := by rw [hi]; unfold SF; omega
 obtain ⟨q, hqk⟩ : ∃ q, q = a.kind % 18 := ⟨_, rfl⟩
 have hq18 : 0 ≤ q ∧ q < 18 := by omega
 rw [← hqk] at w18
 refine fe Tryz.func30 fun S0 w0 => ?_
 show Sim _ _ [(0, T.agg [ei a.kind, ei a.i, ei a.n, es a.cmd]), (1, pW bg), (2, pW bx)] (H1 ++ H2) _
 refine zC ?_
 apply cr
 refine Xk fun b3 _ => ?_
 refine s_ Qb <| zC ?_
 refine Y8 [(8, ei k), (7, ei i), (3, pN b3), (1, pW bg), (2, pW bx)] ((b3, ⟨Ay, [ei a.kind, ei a.i, ei a.n, es a.cmd], 4⟩) :: (H1 ++ H2)) ?_ ?_
 ·rw [hH2]
  refine zC ?_
  refine ca [0, 1, 2, 3, 4, 5, 6, 7, 8, 9, 10, 11, 12, 13, 14, 15, 16, 17, 18] [] <| a_ (fun _ => Qc) <| Qv ?_
  refine a_ (fun _ => Qr (w6)) <| a_ (fun _ => Qc) <| Qv ?_
  refine a_ (fun _ => Qr (w50)) ?_
  (first | refine a_ (fun _ => SR) ?_ | refine a_ (fun _ => K5) ?_)
  refine a_ (fun _ => Yr) <| a_ (fun _ => Qc) <| Qv ?_
  refine a_ (fun _ => Qa) <| a_ (fun _ => Qe) <| a_ (fun _ => Qc) <| Qv ?_
  (first | refine a_ (fun _ => QS) ?_ | refine a_ (fun _ => QP) ?_)
  refine a_ (fun _ => VG) <| a_ (fun _ => Qr (wk)) <| a_ (fun _ => Qb) <| a_ (fun _ => Qb) ?_
  apply an
  refine zC ?_
  exact ⟨⟨Qh (by (exact zG)) (Le.refl _), Qh (by (exact zG)) (Le.of_eq (by rw [hi]; rfl)), eL⟩, kR⟩
 refine zC ?_
 refine cr <| s_ Qc <| s_ Ql <| s_ (Qr (w18)) <| zC ?_
 refine zC ?_
 refine cr <| s_ Q5 <| s_ Qb <| zC ?_
 refine Y8 [(30, .v (.bool (decide (q = 0 ∨ q = 1 ∨ q = 2)))), (29, ei q), (8, ei k), (7, ei i), (3, pN b3), (1, pW bg), (2, pW bx)] ((b3, ⟨Ay, [ei a.kind, ei a.i, ei a.n, es a.cmd], 4⟩) :: (H1 ++ H2)) ?_ ?_
 ·refine ci ?_ ?_
  ·intro h
   refine zC ?_
   exact ⟨⟨Qh (by (exact zG)) (Le.of_eq (congrArg (fun b => T.v (.bool b)) (decide_eq_decide.2 (by omega)))), eL⟩, kR⟩
  intro h0
  refine zC ?_
  refine cr <| s_ Q5 <| s_ Qb <| zC ?_
  refine ci ?_ ?_
  ·intro h
   refine zC ?_
   exact ⟨⟨Qh (by (exact zG)) (Le.of_eq (congrArg (fun b => T.v (.bool b)) (decide_eq_decide.2 (by omega)))), eL⟩, kR⟩
  intro h1
  refine zC ?_
  refine cr <| s_ Q5 <| s_ Qb <| zC ?_
  exact ⟨⟨Qh (by (exact zG)) (Le.of_eq (congrArg (fun b => T.v (.bool b)) (decide_eq_decide.2 (by omega)))), eL⟩, kR⟩
 refine ci (p := q = 0 ∨ q = 1 ∨ q = 2) ?_ ?_
 ·intro hq
  have hP := BO hB hu i
  obtain ⟨g', hg'⟩ : ∃ g', g' = Jb g i := ⟨_, rfl⟩
  rw [← hg'] at hP
  refine zC ?_
  refine cr <| s_ Qa <| s_ Qa ?_
  refine Q1 hP.p Jh (fun r H1' ⟨hr1, e1⟩ => ?_)
  subst hr1
  refine zC ?_
  refine cr <| s_ Qa <| s_ Qa ?_
  refine Q1 hP.x Jg (fun r H2' ⟨hr1, e2⟩ => ?_)
  subst hr1
  refine zC ?_
  refine cr <| s_ Qb <| zC ?_
  refine zR ?_
  exact rhp JH (.skip _ _ _ kR) ⟨rfl, g', H1', H2', hP.both hB e1 e2, rfl⟩ (Le.refl _)
 intro hn0
 refine zC ?_
 refine cr <| s_ Q5 <| s_ Qb <| zC ?_
 refine Y8 [(40, .v (.bool (decide (q = 3 ∨ q = 4 ∨ q = 5 ∨ q = 6 ∨ q = 7 ∨ q = 8)))), (29, ei q), (8, ei k), (7, ei i), (3, pN b3), (1, pW bg), (2, pW bx)] ((b3, ⟨Ay, [ei a.kind, ei a.i, ei a.n, es a.cmd], 4⟩) :: (H1 ++ H2)) ?_ ?_
 ·refine ci ?_ ?_
  ·intro h
   refine zC ?_
   exact ⟨⟨Qh (by (exact zG)) (Le.of_eq (congrArg (fun b => T.v (.bool b)) (decide_eq_decide.2 (by omega)))), eL⟩, kR⟩
  intro h3
  refine zC ?_
  refine cr <| s_ Q5 <| s_ Qb <| zC ?_
  refine ci ?_ ?_
  ·intro h
   refine zC ?_
   exact ⟨⟨Qh (by (exact zG)) (Le.of_eq (congrArg (fun b => T.v (.bool b)) (decide_eq_decide.2 (by omega)))), eL⟩, kR⟩
  intro h4
  refine zC ?_
  refine cr <| s_ Q5 <| s_ Qb <| zC ?_
  refine ci ?_ ?_
  ·intro h
   refine zC ?_
   exact ⟨⟨Qh (by (exact zG)) (Le.of_eq (congrArg (fun b => T.v (.bool b)) (decide_eq_decide.2 (by omega)))), eL⟩, kR⟩
  intro h5
  refine zC ?_
  refine cr <| s_ Q5 <| s_ Qb <| zC ?_
  refine ci ?_ ?_
  ·intro h
   refine zC ?_
   exact ⟨⟨Qh (by (exact zG)) (Le.of_eq (congrArg (fun b => T.v (.bool b)) (decide_eq_decide.2 (by omega)))), eL⟩, kR⟩
  intro h6
  refine zC ?_
  refine cr <| s_ Q5 <| s_ Qb <| zC ?_
  refine ci ?_ ?_
  ·intro h
   refine zC ?_
   exact ⟨⟨Qh (by (exact zG)) (Le.of_eq (congrArg (fun b => T.v (.bool b)) (decide_eq_decide.2 (by omega)))), eL⟩, kR⟩
  intro h7
  refine zC ?_
  refine cr <| s_ Q5 <| s_ Qb <| zC ?_
  exact ⟨⟨Qh (by (exact zG)) (Le.of_eq (congrArg (fun b => T.v (.bool b)) (decide_eq_decide.2 (by omega)))), eL⟩, kR⟩
 refine ci (p := q = 3 ∨ q = 4 ∨ q = 5 ∨ q = 6 ∨ q = 7 ∨ q = 8) ?_ ?_
 ·intro hq
  have hP := EV hB hu k
  obtain ⟨g', hg'⟩ : ∃ g', g' = Yc g k := ⟨_, rfl⟩
  rw [← hg'] at hP
  refine zC ?_
  refine cr <| s_ Qa <| s_ Qa ?_
  refine Q1 hP.p Jh (fun r H1' ⟨hr1, e1⟩ => ?_)
  subst hr1
  refine s_ Qa <| s_ Qa ?_
  refine Q1 hP.x Jg (fun r H2' ⟨hr1, e2⟩ => ?_)
  subst hr1
  refine s_ Dj <| s_ Qb <| zC ?_
  refine zR ?_
  refine rhp JH (.skip _ _ _ kR) ⟨rfl, g', H1', H2', hP.both hB e1 e2, rfl⟩ ?_
  exact Le.refl _
 intro hn3
 refine zC ?_
 refine cr <| s_ Q5 <| s_ Qb <| zC ?_
 refine ci ?_ ?_
 ·intro hq
  have hP := BP hB hu k
  obtain ⟨g', hg'⟩ : ∃ g', g' = J6 g k := ⟨_, rfl⟩
  rw [← hg'] at hP
  refine zC ?_
  refine cr <| s_ Qa <| s_ Qa ?_
  refine Q1 hP.p Jh (fun r H1' ⟨hr1, e1⟩ => ?_)
  subst hr1
  refine s_ Qa <| s_ Qa ?_
  refine Q1 hP.x Jg (fun r H2' ⟨hr1, e2⟩ => ?_)
  subst hr1
  refine s_ Dj <| s_ Qb <| zC ?_
  refine zR ?_
  refine rhp JH (.skip _ _ _ kR) ⟨rfl, g', H1', H2', hP.both hB e1 e2, rfl⟩ ?_
  exact Le.refl _
 intro hn9
 refine zC ?_
 refine cr <| s_ Q5 <| s_ Qb <| zC ?_
 refine ci ?_ ?_
 ·intro hq
  have hP := RR hB hu k
  obtain ⟨g', hg'⟩ : ∃ g', g' = Zw g k := ⟨_, rfl⟩
  rw [← hg'] at hP
  refine zC ?_
  refine cr <| s_ Qa <| s_ Qa ?_
  refine Q1 hP.p Jh (fun r H1' ⟨hr1, e1⟩ => ?_)
  subst hr1
  refine s_ Qa <| s_ Qa ?_
  refine Q1 hP.x Jg (fun r H2' ⟨hr1, e2⟩ => ?_)
  subst hr1
  refine s_ Dj <| s_ Qb <| zC ?_
  refine zR ?_
  refine rhp JH (.skip _ _ _ kR) ⟨rfl, g', H1', H2', hP.both hB e1 e2, rfl⟩ ?_
  exact Le.refl _
 intro hn10
 refine zC ?_
 refine cr <| s_ Q5 <| s_ Qb <| zC ?_
 refine ci ?_ ?_
 ·intro hq
  have hP := RS hB hu i a.n
  have hx := OH hB hu i
  refine zC ?_
  refine cr <| s_ Qa <| s_ Qa <| s_ Qc <| s_ Ql ?_
  refine Q1 hP Jh (fun r H1' ⟨hr1, g', e1, e3, e4, e5, e6⟩ => ?_)
  subst hr1
  refine s_ Qa <| s_ Qa ?_
  refine Q1 hx Jg (fun r H2' ⟨hr1, e2⟩ => ?_)
  subst hr1
  refine s_ Dj <| s_ Qb <| zC ?_
  refine zR ?_
  refine rhp JH (.skip _ _ _ kR) ⟨rfl, g', H1', H2', ⟨hB.c0, hB.c31, e1, e3, e4, e5, by rw [e6]; exact e2⟩, rfl⟩ ?_
  exact Le.refl _
 intro hn11
 refine zC ?_
 refine cr <| s_ Q5 <| s_ Qb <| zC ?_
 refine ci ?_ ?_
 ·intro hq
  have hP := DW hB i (decide (a.n.tmod 3 = 0))
  obtain ⟨g', hg'⟩ : ∃ g', g' = J7 g i (decide (a.n.tmod 3 = 0)) := ⟨_, rfl⟩
  rw [← hg'] at hP
  refine zC ?_
  refine ca [0, 1, 2, 3, 4, 5, 7, 8, 9, 10, 11, 12, 6, 13, 14, 15] [6, 13] <| a_ (fun _ => Qa) <| a_ (fun _ => Qa) <| a_ (fun _ => Qc) <| Qv ?_
  refine a_ (fun _ => WN) <| a_ (fun _ => Q5) <| a_ (fun _ => Qa) <| a_ (fun _ => Qa) <| a_ (fun _ => Qc) <| Qv ?_
  refine a_ (fun _ => WN) <| a_ (fun _ => Q5) ?_
  refine Lg hP.p Jh (fun r H1' ⟨hr1, e1⟩ => ⟨?_, ?_⟩)
  ·subst hr1; exact zd
  subst hr1
  refine zD ?_
  refine Lg hP.x Jg (fun r H2' ⟨hr1, e2⟩ => ⟨?_, ?_⟩)
  ·subst hr1; exact zd
  subst hr1
  refine zD ?_
  refine a_ (fun _ => Dj) <| a_ (fun _ => Qb) ?_
  apply an
  refine zC ?_
  refine zR ?_
  refine rhp JH (.skip _ _ _ kR) ⟨rfl, g', H1', H2', hP.both hB e1 e2, rfl⟩ ?_
  exact Le.refl _
 intro hn12
 refine zC ?_
 refine cr <| s_ Q5 <| s_ Qb <| zC ?_
 refine ci ?_ ?_
 ·intro hq
  have hP := DW hB i false
  obtain ⟨g', hg'⟩ : ∃ g', g' = J7 g i false := ⟨_, rfl⟩
  rw [← hg'] at hP
  refine zC ?_
  refine cr <| s_ Qa <| s_ Qa ?_
  refine Q1 hP.p Jh (fun r H1' ⟨hr1, e1⟩ => ?_)
  subst hr1
  refine s_ Qa <| s_ Qa ?_
  refine Q1 hP.x Jg (fun r H2' ⟨hr1, e2⟩ => ?_)
  subst hr1
  refine s_ Dj <| s_ Qb <| zC ?_
  refine zR ?_
  refine rhp JH (.skip _ _ _ kR) ⟨rfl, g', H1', H2', hP.both hB e1 e2, rfl⟩ ?_
  exact Le.refl _
 intro hn13
 refine zC ?_
 refine cr <| s_ Q5 <| s_ Qb <| zC ?_
 refine ci ?_ ?_
 ·intro hq
  obtain ⟨m, hm⟩ : ∃ m : Nat, (m : Int) = a.n % 25 := ⟨(a.n % 25).toNat, by omega⟩
  rw [← hm] at w25
  have hP := BQ hB hu m (by omega)
  obtain ⟨g', hg'⟩ : ∃ g', g' = JC g m := ⟨_, rfl⟩
  rw [← hg'] at hP
  refine zC ?_
  refine cr <| s_ Qa <| s_ Qc <| s_ Ql <| s_ (Qr (w25)) ?_
  refine Q1 hP.p Jh (fun r H1' ⟨hr1, e1⟩ => ?_)
  subst hr1
  refine zC ?_
  refine cr <| s_ Qa <| s_ Qc <| s_ Ql <| s_ (Qr (w25)) ?_
  refine Q1 hP.x Jg (fun r H2' ⟨hr1, e2⟩ => ?_)
  subst hr1
  refine zC ?_
  refine cr <| s_ Qb <| zC ?_
  refine zR ?_
  exact rhp JH (.skip _ _ _ kR) ⟨rfl, g', H1', H2', hP.both hB e1 e2, rfl⟩ (Le.refl _)
 intro hn14
 refine zC ?_
 refine cr <| s_ Q5 <| s_ Qb <| zC ?_
 refine Y8 [(121, .v (.bool (decide (q = 15 ∨ q = 16)))), (29, ei q), (8, ei k), (7, ei i), (3, pN b3), (1, pW bg), (2, pW bx)] ((b3, ⟨Ay, [ei a.kind, ei a.i, ei a.n, es a.cmd], 4⟩) :: (H1 ++ H2)) ?_ ?_
 ·refine ci ?_ ?_
  ·intro h
   refine zC ?_
   exact ⟨⟨Qh (by (exact zG)) (Le.of_eq (congrArg (fun b => T.v (.bool b)) (decide_eq_decide.2 (by omega)))), eL⟩, kR⟩
  intro h15
  refine zC ?_
  refine cr <| s_ Q5 <| s_ Qb <| zC ?_
  exact ⟨⟨Qh (by (exact zG)) (Le.of_eq (congrArg (fun b => T.v (.bool b)) (decide_eq_decide.2 (by omega)))), eL⟩, kR⟩
 refine ci (p := q = 15 ∨ q = 16) ?_ ?_
 ·intro hq
  have hP := Hq hB hu i a.cmd hc
  obtain ⟨g', hg'⟩ : ∃ g', g' = (doG g i a.cmd).1 := ⟨_, rfl⟩
  rw [← hg'] at hP
  refine zC ?_
  refine ca [0, 1, 2, 3, 5, 6, 7, 8, 4, 9, 10, 11] [4, 9] <| a_ (fun _ => Qa) <| a_ (fun _ => Qa) <| a_ (fun _ => Qc) <| Qv ?_
  refine a_ (fun _ => Qa) <| a_ (fun _ => Qa) <| a_ (fun _ => Qc) <| Qv ?_
  refine Lg hP.p Jh (fun r H1' ⟨hr1, e1⟩ => ⟨?_, ?_⟩)
  ·subst hr1; exact zd
  subst hr1
  refine zD ?_
  refine Lg hP.x Jg (fun r H2' ⟨hr1, e2⟩ => ⟨?_, ?_⟩)
  ·subst hr1; exact zd
  subst hr1
  refine zD ?_
  refine a_ (fun _ => Q5) <| a_ (fun _ => Qb) ?_
  apply an
  refine zC ?_
  refine zR ?_
  refine rhp JH (.skip _ _ _ kR) ⟨rfl, g', H1', H2', hP.both hB e1 e2, rfl⟩ ?_
  exact Le.refl _
 intro hn15
 refine zC ?_
 refine cr <| s_ Q5 <| s_ Qb <| zC ?_
 refine ci (p := q = 17) ?_ (fun h => absurd (by omega) h)
 intro hq
 refine zC ?_
 refine cr <| s_ Qc <| s_ Ql <| s_ (Qr (w40)) <| s_ Qb <| zC ?_
 refine zC ?_
 refine cr <| s_ Qa <| s_ ZL <| s_ Qa <| gT (fun hg => Qa) ?_
 refine gT (fun hg => QN (hx := u_ hg)) ?_
 refine s_ Xv <| s_ Qa <| gT (fun hg => Qc) ?_
 refine gT (fun hg => Ql (hx := u_ hg)) ?_
 refine gT (fun hg => WN (hx := u_ hg)) ?_
 refine gT (fun hg => XX (hx := u_ hg)) ?_
 refine s_ Xv <| zC ?_
 refine LS (σ := Int) (ok := fun _ => True) (env := fun c => [(9, ei c), (29, ei q), (8, ei k), (7, ei i), (3, pN b3), (1, pW bg), (2, pW bx)]) (heap := fun _ => (b3, ⟨Ay, [ei a.kind, ei a.i, ei a.n, es a.cmd], 4⟩) :: (H1 ++ H2)) ?_ ?_
 ·refine ci ?_ ?_
  ·rintro ⟨⟨hi0, hi5⟩, _⟩
   have htk := ZT (N := (prG g).n) (o := fun i => (prG g).aw.getD i false) (v := .v (.slice p n c)) hi0 hi5
   have hnb := hXB.nb i.toNat (by omega)
   have hlen := hnb.len
   have hbase := hnb.base
   obtain ⟨n0, hn0⟩ : ∃ n0, n0 = (prG g).n i.toNat := ⟨_, rfl⟩
   rw [← hn0] at htk hlen hbase
   have hCf := Jf n0 (by omega) (by omega) (by omega)
   have hwr : 0 ≤ (IntKind.u64).wrap (a.n % 5) := by rw [ZH (by omega) (by omega)]; omega
   rw [hH2]
   refine zC ?_
   refine ca [0, 1, 2, 3, 4, 5, 6, 7, 8, 9, 10, 11, 12, 13] [] <| a_ (fun _ => Qa) <| a_ (fun _ => Qa) <| a_ (fun _ => Qe) ?_
   (first | refine a_ (fun _ => Uv) ?_ | refine a_ (fun _ => Qc) ?_)
   refine a_ (fun _ => Xp) <| QR (hc := htk) ?_
   refine a_ (fun _ => Qr (hCf)) <| a_ (fun _ => Qc) <| Qv ?_
   refine a_ (fun _ => Qr (w5)) <| a_ (fun _ => YG) <| a_ (fun _ => J0) <| a_ (fun _ => GH) <| a_ (fun _ => Qb) ?_
   apply an
   refine zC ?_
   exact ⟨_, trivial, eL, kR⟩
  ·intro _
   refine zC ?_
   exact ⟨a.n % 40, trivial, eL, kR⟩
 intro cc _
 have hP := OI hB hu i cc
 obtain ⟨g', hg'⟩ : ∃ g', g' = (XL g i cc).1 := ⟨_, rfl⟩
 rw [← hg'] at hP
 refine zC ?_
 refine cr <| s_ Qa <| s_ Qa <| s_ Qa ?_
 refine Q1 hP.p Jh (fun r H1' ⟨hr1, e1⟩ => ?_)
 subst hr1
 refine s_ Qa <| s_ Qa <| s_ Qa ?_
 refine Q1 hP.x Jg (fun r H2' ⟨hr1, e2⟩ => ?_)
 subst hr1
 refine s_ Q5 <| s_ Qb <| zC ?_
 refine zR ?_
 refine rhp JH (.skip _ _ _ kR) ⟨rfl, g', H1', H2', hP.both hB e1 e2, rfl⟩ ?_
 exact Le.refl _
end Go.Proofs.YtjbokbikkcfjjaaGreat
