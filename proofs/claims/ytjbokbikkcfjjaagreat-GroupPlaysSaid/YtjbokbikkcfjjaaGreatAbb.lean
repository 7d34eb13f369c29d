/-
  The document's committee: its memory; what is one; a message taken out.
-/
import Derived.Test.YtjbokbikkcfjjaaGreatAba
set_option maxRecDepth 16000
set_option maxHeartbeats 8000000
set_option linter.all false
namespace Go.Proofs.YtjbokbikkcfjjaaGreat
open Go.Cap
attribute [local irreducible] POp Qi SO EOp Sim FnH T.gp
def tX : TypeId := 109
def fvL (N : Nat → Nd) : List T := [nd (N 0), nd (N 1), nd (N 2), nd (N 3), nd (N 4)]
def oL (o : Nat → Bool) : List T := [eB (o 0), eB (o 1), eB (o 2), eB (o 3), eB (o 4)]
def xvC (N : Nat → Nd) (o : Nat → Bool) (v : T) : List T := (fvL N).flatMap T.cells ++ (oL o ++ [v])
def XvH (b : Nat) (N : Nat → Nd) (o : Nat → Bool) (M : List Ms) (H : Qd) : Prop := ∃ v Hm, OSo rM 11 (M.map ms) v Hm ∧ H = (b, ⟨tX, xvC N o (.v v), 116⟩) :: (Hm ++ [])
def UE {α : Type} (N : Nat → α) (i : Nat) (x : α) : Nat → α := fun j => if j = i then x else N j
theorem T4 (N : Nat → Nd) : ∀ x ∈ fvL N, x.cells.length = 22 := by
 intro x hx
 simp only [fvL, List.mem_cons, List.not_mem_nil, or_false] at hx
 rcases hx with rfl | rfl | rfl | rfl | rfl <;> rfl
theorem P4 (N : Nat → Nd) {i : Nat} (hi : i < 5) : (fvL N)[i]? = some (nd (N i)) := by
 rcases (by omega : i = 0 ∨ i = 1 ∨ i = 2 ∨ i = 3 ∨ i = 4) with rfl | rfl | rfl | rfl | rfl <;> rfl
theorem P3 (N : Nat → Nd) {i : Nat} (hi : i < 5) (x : Nd) : (fvL N).set i (nd x) = fvL (UE N i x) := by
 rcases (by omega : i = 0 ∨ i = 1 ∨ i = 2 ∨ i = 3 ∨ i = 4) with rfl | rfl | rfl | rfl | rfl <;> rfl
theorem U5 (N : Nat → Nd) (o : Nat → Bool) (v : T) : (xvC N o v).length = 116 := rfl
theorem ZT {N : Nat → Nd} {o : Nat → Bool} {v : T} {i : Int} (h0 : 0 ≤ i) (h5 : i < 5) : Xg (xvC N o v) (0 + 0 + i.toNat * 22) 22 (Qg (N i.toNat) (XZ (N i.toNat).log)) := by
 have h := (Xg.flat (T4 N) (P4 N (i := i.toNat) (by omega))).post (q := oL o ++ [v])
 exact h
theorem OQ {N : Nat → Nd} {o : Nat → Bool} {v : T} {i : Int} (h0 : 0 ≤ i) (h5 : i < 5) (x : Nd) : lay (xvC N o v) (0 + 0 + i.toNat * 22) (nd x).cells = xvC (UE N i.toNat x) o v := by
 show lay (xvC N o v) (0 + 0 + i.toNat * 22) (Qg x (XZ x.log)) = _
 have hi : i.toNat < 5 := by omega
 have hl : (fvL N).length = 5 := rfl
 have h1 : ((fvL N).flatMap T.cells).length = 110 := rfl
 have h2 := Om (kk := 22) (off := 0) (dc := Qg x (XZ x.log)) (x' := nd x) (fvL N) i.toNat (T4 N) (by omega) (by simp [Qg]) (by
  have h3 : ((fvL N)[i.toNat]'(by omega)).cells.length = 22 := T4 N _ (List.getElem_mem _)
  show Qg x (XZ x.log) = _
  unfold lay
  rw [List.take_zero, List.nil_append, List.drop_of_length_le (by rw [h3]; simp [Qg]), List.append_nil])
 rw [P3 N hi x] at h2
 unfold xvC
 rw [← h2]
 unfold lay
 have hn : (Qg x (XZ x.log)).length = 22 := rfl
 have e : 0 + 0 + i.toNat * 22 = i.toNat * 22 + 0 := by omega
 rw [e, List.take_append_of_le_length (by omega), List.drop_append_of_le_length (by rw [hn]; omega), List.append_assoc, List.append_assoc, List.append_assoc]
theorem R5 {N : Nat → Nd} {o : Nat → Bool} {v : T} {i : Int} (h0 : 0 ≤ i) (h5 : i < 5) : (xvC N o v)[0 + 110 + i.toNat * 1]? = some (eB (o i.toNat)) := by
 rcases (by omega : i = 0 ∨ i = 1 ∨ i = 2 ∨ i = 3 ∨ i = 4) with rfl | rfl | rfl | rfl | rfl <;> rfl
theorem B3 {G : Qd} (N : Nat → Nd) (o : Nat → Bool) {x y : T} (h : QJ G x y) : Qk G (xvC N o x) (xvC N o y) := Qk.append (Qk.le (LeL.refl _)) (Qk.append (Qk.le (LeL.refl _)) (Qk.cons h Qk.nil))
theorem Kw {l m : List Ms} {v : Value} {H : Qd} (h : OSl rM 11 (l.map ms ++ m.map ms) v H) : OSl rM 11 ((l ++ m).map ms) v H := by rw [List.map_append]; exact h
theorem Oq {α : Type} (l : List α) {k : Nat} (h : k < l.length) : l.eraseIdx k = l.take k ++ l.drop (k + 1) := List.eraseIdx_eq_take_drop_succ l k
theorem HH {α : Type} (l : List α) (a b c : α) : (l ++ [a, b, c]).Perm (c :: (l ++ [a, b])) := by
 have h : l ++ [a, b, c] = (l ++ [a, b]) ++ [c] := by simp
 rw [h]
 exact List.perm_append_comm
theorem R6 {b : Nat} {N : Nat → Nd} {o : Nat → Bool} {M : List Ms} {H : Qd} (k : Nat) (hk : k < M.length) (hl : M.length ≤ 1000000) (hw : XvH b N o M H) :
  FnH Tryz.prog 81 [pW b, ei k] H (fun r H' => r = ms (M.getD k default) ∧ XvH b N o (M.eraseIdx k) H') := by
 obtain ⟨v, Hm, h1, rfl⟩ := hw
 refine fe Tryz.func81 fun S0 w0 => ?_
 show Sim _ _ [(0, pW b), (1, ei (k : Nat))] _ _
 refine Cv (cells' := xvC N o (mss M)) (G := Hm) (H1 := []) (B3 N o (h1.lend (fun _ h => h) (ZX _) (ID _))) rfl (.refl _) ?_
 have hix := hk
 have hg : M.getD k default = M[k] := by simp [hk]
 refine zC ?_
 apply cr
 refine Xt fun b4 _ => ?_
 refine zC ?_
 refine cr <| s_ Qa <| s_ Qe <| s_ Qc <| s_ Ql <| s_ Qa ?_
 (first | refine s_ (Q4 hix) ?_ | refine s_ (Q4 hix2) ?_ | refine s_ Yd ?_ | refine s_ Ys ?_)
 (first | refine s_ XN ?_ | refine s_ Qw ?_)
 refine Xt fun b5 _ => ?_
 refine Qn ?_
 refine zC ?_
 refine LS (σ := Value × Qd) (ok := fun s => ∃ Hl, OSl rM 11 ((M.take k).map ms) s.1 Hl ∧ s.2 = Hl ++ [(b5, ⟨rM, msC M[k] (XZ M[k].entries), 11⟩), (b4, ⟨rM, msC Nn (.v (.slice none 0 0)), 11⟩), (b, ⟨tX, xvC N o (mss M), 116⟩)])
  (env := fun s => [(6, .v s.1), (5, pN b5), (4, pN b4), (0, pW b), (1, ei (k : Nat))]) (heap := fun s => s.2) ?_ ?_
 ·refine zC ?_
  refine cr <| s_ XS <| s_ Qa <| s_ Qe <| s_ Qc <| s_ Ql <| s_ Qa <| s_ (K3 (xs := M.map ms) (f := false)) ?_
  rw [Int.toNat_natCast, ← List.map_take, Bool.false_and]
  by_cases hz : k = 0
  ·refine s_ (GJ (hyl := Le.of_eq (by rw [hz]; rfl))) ?_
   refine Zj 21 fun q c' _ h2 => ?_
   have := h2 rfl
   subst this
   refine s_ Qb <| zC ?_
   exact ⟨(.slice q 0 0, _), ⟨[], by
    have e : (M.take k).map ms = [] := by rw [hz]; rfl
    show OSl rM 11 ((M.take k).map ms) (.slice q 0 0) []
    rw [e]; exact J2, rfl⟩, eL, kR⟩
  ·have hlt : 0 < (M.take k).length := by rw [List.length_take]; omega
   refine St (e := rM) (k := 11) (fun v' Hl h1 => ?_)
   refine s_ Qb <| zC ?_
   exact ⟨(_, _), ⟨Hl, by simpa using h1, rfl⟩, eL, kR⟩
 rintro ⟨v0, H0⟩ ⟨Hl, h2, hH0⟩
 simp only at h2 hH0
 subst hH0
 obtain ⟨p, c, rfl⟩ := OSl.len h2
 have hpc := OSl.cap h2
 have hlt : (M.take k).length = k := by rw [List.length_take]; omega
 by_cases hr : k + 1 = M.length
 ·have hdr : M.drop (k + 1) = [] := List.drop_eq_nil_of_le (by omega)
  have her : M.eraseIdx k = M.take k := by rw [Oq M hk, hdr, List.append_nil]
  refine zC ?_
  refine cr <| s_ Qa <| s_ Qa <| s_ Qa <| s_ Qe <| s_ Qc <| s_ Ql <| s_ Qa <| s_ QQ <| s_ (Tj (xs := M.map ms) (f := false)) ?_
  rw [show ((k : Int) + 1).toNat = k + 1 by omega, ← List.map_drop]
  refine s_ (Tm hpc (hyl := Le.of_eq (by rw [hdr]; rfl))) <| s_ Qe <| s_ Qc <| Qn ?_
  refine zC ?_
  refine cr <| s_ Qw <| Qn ?_
  refine zC ?_
  refine zR ?_
  exact rhp (d := ms M[k]) (HH Hl _ _ _) (.keep _ _ _ _ _ (YZ.refl _) (kH (r' := []) kN)) ⟨by rw [hg], _, Hl, by rw [her]; exact h2.o, rfl⟩ (Le.refl _)
 ·have hdl : 0 < (M.drop (k + 1)).length := by rw [List.length_drop]; omega
  refine zC ?_
  refine cr <| s_ Qa <| s_ Qa <| s_ Qa <| s_ Qe <| s_ Qc <| s_ Ql <| s_ Qa <| s_ QQ <| s_ (Tj (xs := M.map ms) (f := false)) ?_
  rw [show ((k : Int) + 1).toNat = k + 1 by omega, ← List.map_drop]
  refine Ot (ho := h2) (A := []) (B := [_, _, _]) (ZX _) (fun v' Hl' h3 => ?_)
  have h3 := Kw h3
  rw [← Oq M hk] at h3
  obtain ⟨p, c, rfl⟩ := OSl.len h3
  refine s_ Qe <| s_ Qc <| Qn ?_
  refine zC ?_
  refine cr <| s_ Qw <| Qn ?_
  refine zC ?_
  refine zR ?_
  exact rhp (d := ms M[k]) (HH Hl' _ _ _) (.keep _ _ _ _ _ (YZ.refl _) (kH (r' := []) kN)) ⟨by rw [hg], _, Hl', h3.o, rfl⟩ (Le.refl _)
theorem WH (i : Int) : FnP Tryz.prog 79 [ei i] (fun r => r = .v (.bool (decide (isI i)))) := by
 refine fe Tryz.func79 fun S0 w0 => ?_
 show Sim _ _ [(0, ei i)] _ _
 refine zC ?_
 refine cr <| s_ Qb <| zC ?_
 refine cr <| s_ Qa <| s_ ZL <| s_ Qa <| gT (fun hg => Qa) ?_
 refine gT (fun hg => QN (hx := u_ hg)) ?_
 refine s_ Xv <| s_ Qb <| zC ?_
 refine zE ?_
 exact Le.refl _
theorem Ik (a k : Int) (hk : 0 < k) (hk1 : k ≤ 4611686018427387904) : FnP Tryz.prog 78 [ei a, ei k] (fun r => r = ei (a % k)) := by
 have hb := N5 a hk
 have hf := Cm a hk
 refine fe Tryz.func78 fun S0 w0 => ?_
 show Sim _ _ [(0, ei a), (1, ei k)] _ _
 refine zC ?_
 refine cr <| s_ Qb <| zC ?_
 refine cr <| s_ Qa <| s_ Qa <| s_ WN <| s_ Qb <| zC ?_
 refine cr <| s_ Qa <| s_ QN <| zC ?_
 refine ci ?_ ?_
 ·intro hn
  rw [if_pos hn] at hf
  refine zC ?_
  refine cr <| s_ Qa <| s_ Qa <| s_ QQ <| s_ Qb <| zC ?_
  refine cr <| s_ Qa <| s_ Qb <| zC ?_
  refine zE ?_
  rw [hf]
  exact Le.refl _
 ·intro hn
  rw [if_neg hn] at hf
  refine zC ?_
  refine cr <| s_ Qa <| s_ Qb <| zC ?_
  refine zE ?_
  rw [hf]
  exact Le.refl _
theorem Ph (id conf : Int) (h0 : 0 ≤ id) (h1 : id < 5) (h2 : 0 ≤ conf) (h3 : conf ≤ 31) : FnP Tryz.prog 50 [ei id, ei conf] (fun r => r = nd (XG id conf)) := by
 have m1 := Ik id 5 (by omega) (by omega)
 have m2 := Ik conf 32 (by omega) (by omega)
 rw [Int.emod_eq_of_lt h0 h1] at m1
 rw [Int.emod_eq_of_lt h2 (by omega)] at m2
 refine fe Tryz.func50 fun S0 w0 => ?_
 show Sim _ _ [(0, ei id), (1, ei conf)] _ _
 refine zC ?_
 apply cr
 refine Xt fun b4 _ => ?_
 refine zC ?_
 refine cr <| s_ Qa <| s_ (Qr (m1)) <| s_ Qa <| s_ (Qr (m2)) <| s_ (YH 22 [_, _, _, _, _, _, _, _, _, _, _, _, _, _, _, _, _, _, _, _, _, _]) <| Qn ?_
 refine zC ?_
 refine zE ?_
 show Le (.agg _) (.agg (Qg _ _))
 exact zL
structure IsX (b : Nat) (x : Gn) (H : Qd) : Prop where
 ns : x.ns.length = 5
 aw : x.aw.length = 5
 mem : XvH b x.n (fun i => x.aw.getD i false) x.way H
def L9 (conf : Int) (k : Nat) : Nat → Nd := fun j => if j < k then XG (j : Nat) conf else YK
theorem Re (conf : Int) (k : Nat) : UE (L9 conf k) k (XG (k : Nat) conf) = L9 conf (k + 1) := by
 funext j
 unfold UE L9
 by_cases h : j = k
 ·subst h; rw [if_pos rfl, if_pos (by omega)]
 ·rw [if_neg h]
  by_cases h2 : j < k
  ·rw [if_pos h2, if_pos (by omega)]
  ·rw [if_neg h2, if_neg (by omega)]
theorem B1 (conf : Int) : LeL (Qg YK (.v (.slice none 0 0)) ++ (Qg YK (.v (.slice none 0 0)) ++ (Qg YK (.v (.slice none 0 0)) ++ (Qg YK (.v (.slice none 0 0)) ++ (Qg YK (.v (.slice none 0 0)) ++ [eB false, eB false, eB false, eB false, eB false, .v (.slice none 0 0)]))))) (xvC (L9 conf 0) (fun _ => false) (.v (.slice none 0 0))) := by
 have h := Tv YK
 have e : xvC (L9 conf 0) (fun _ => false) (.v (.slice none 0 0)) = Qg YK (XZ []) ++ (Qg YK (XZ []) ++ (Qg YK (XZ []) ++ (Qg YK (XZ []) ++ (Qg YK (XZ []) ++ [eB false, eB false, eB false, eB false, eB false, .v (.slice none 0 0)])))) := rfl
 rw [e]
 exact LeL.append h (LeL.append h (LeL.append h (LeL.append h (LeL.append h (LeL.refl _)))))
theorem B4 {N N' : Nat → Nd} {o o' : Nat → Bool} (h : ∀ i, i < 5 → N i = N' i) (h' : ∀ i, i < 5 → o i = o' i) (v : T) : xvC N o v = xvC N' o' v := by
 unfold xvC fvL oL
 rw [h 0 (by omega), h 1 (by omega), h 2 (by omega), h 3 (by omega), h 4 (by omega), h' 0 (by omega), h' 1 (by omega), h' 2 (by omega), h' 3 (by omega), h' 4 (by omega)]
theorem XvH.congr {b : Nat} {N N' : Nat → Nd} {o o' : Nat → Bool} {M : List Ms} {H : Qd} (h : ∀ i, i < 5 → N i = N' i) (h' : ∀ i, i < 5 → o i = o' i) (hx : XvH b N o M H) : XvH b N' o' M H := by
 obtain ⟨v, Hm, h1, h2⟩ := hx
 exact ⟨v, Hm, h1, by rw [h2, B4 h h']⟩
theorem E0 (conf : Int) (h2 : 1 ≤ conf) (h3 : conf ≤ 31) : FnH Tryz.prog 29 [ei conf] [] (fun r H => ∃ b, r = .tup [pW b, ei 0] ∧ IsX b (GM conf) H) := by
 refine fe Tryz.func29 fun S0 w0 => ?_
 show Sim _ _ [(0, ei conf)] _ _
 refine zC ?_
 refine cr <| s_ Qb <| s_ Qb <| zC ?_
 refine cr <| s_ Qa <| s_ QN <| s_ Qa <| gF (fun hg => Qa) ?_
 refine gF (fun hg => XX (hx := u_ hg)) ?_
 refine s_ XC <| zC ?_
 refine ci (p := conf < 1 ∨ 31 < conf) (fun h => absurd h (by omega)) (fun _ => ?_)
 refine zC ?_
 refine cr <| s_ (YH 116 [_, _, _, _, _, _, _, _, _, _, _, _, _, _, _, _, _, _, _, _, _, _, _, _, _, _, _, _, _, _, _, _, _, _, _, _, _, _, _, _, _, _, _, _, _, _, _, _, _, _, _, _, _, _, _, _, _, _, _, _, _, _, _, _, _, _, _, _, _, _, _, _, _, _, _, _, _, _, _, _, _, _, _, _, _, _, _, _, _, _, _, _, _, _, _, _, _, _, _, _, _, _, _, _, _, _, _, _, _, _, _, _, _, _, _, _]) ?_
 refine Xk fun b13 _ => ?_
 refine s_ Qb <| zC ?_
 refine cr <| s_ Qb <| zC ?_
 apply Qm (σ := Nat) (ok := fun k => k ≤ 5) (env := fun k => [(5, ei (k : Nat)), (4, pW b13), (0, ei conf)]) (heap := fun k => [(b13, ⟨tX, xvC (L9 conf k) (fun _ => false) (.v (.slice none 0 0)), 116⟩)]) (μ := fun k => 5 - k) (s0 := 0)
 ·exact Nat.zero_le _
 ·exact eL
 ·exact kK kN (B1 conf) (by rfl)
 intro k hk
 refine zC ?_
 refine cr <| s_ Qa <| s_ QN <| zC ?_
 refine ci ?_ ?_
 ·intro hlt
  have hk5 : k < 5 := by omega
  have fN := Ph (k : Nat) conf (by omega) (by omega) (by omega) h3
  refine zC ?_
  refine ca [0, 1, 2, 3, 4, 5, 6, 7, 8] [8] <| a_ (fun _ => Qa) <| a_ (fun _ => Qa) <| a_ (fun _ => Qa) <| a_ (fun _ => Qa) <| a_ (fun _ => Qr (fN)) <| a_ (fun _ => Qe) <| a_ (fun _ => Qc) <| a_ (fun _ => Xp) ?_
  refine Vu ?_ ?_
  ·rw [U5]; show _ + 22 ≤ 116; omega
  rw [OQ (by omega) (by omega), Int.toNat_natCast, Re]
  apply an
  refine zC ?_
  refine cr <| s_ Qa <| s_ QQ <| s_ Qb <| zC ?_
  exact ⟨k + 1, by omega, by show 5 - (k + 1) < 5 - k; omega, ⟨Qh (by rfl) (Le.refl _), eL⟩, kR⟩
 ·intro hlt
  have hk5 : k = 5 := by omega
  subst hk5
  refine zC ?_
  refine cr <| s_ Qa <| s_ Qb <| s_ Qb <| zC ?_
  refine zR ?_
  refine rh kR ⟨b13, rfl, rfl, rfl, ?_⟩ (Le.refl _)
  refine XvH.congr (N := L9 conf 5) (o := fun _ => false) (fun i hi => ?_) (fun i hi => ?_) ⟨_, [], .inl ⟨rfl, ⟨none, rfl⟩, rfl⟩, rfl⟩
  ·rw [Ty conf hi]
   exact if_pos hi
  ·rcases (by omega : i = 0 ∨ i = 1 ∨ i = 2 ∨ i = 3 ∨ i = 4) with rfl | rfl | rfl | rfl | rfl <;> rfl
theorem B9 (conf : Int) (h : ¬ (1 ≤ conf ∧ conf ≤ 31)) : FnH Tryz.prog 29 [ei conf] [] (fun r H => r = .tup [.v (.pointer none), ei 1] ∧ H = []) := by
 refine fe Tryz.func29 fun S0 w0 => ?_
 show Sim _ _ [(0, ei conf)] _ _
 refine zC ?_
 refine cr <| s_ Qb <| s_ Qb <| zC ?_
 refine cr <| s_ Qa <| s_ QN <| s_ Qa <| gF (fun hg => Qa) ?_
 refine gF (fun hg => XX (hx := u_ hg)) ?_
 refine s_ XC <| zC ?_
 refine ci (p := conf < 1 ∨ 31 < conf) (fun _ => ?_) (fun h' => absurd (by omega) h)
 refine zC ?_
 refine cr <| s_ Qb <| s_ Qb <| zC ?_
 refine zR ?_
 exact rh kR ⟨rfl, rfl⟩ (Le.refl _)
theorem Wg (n : Nd) (lg : T) : Xg (Qg n lg) 0 22 (Qg n lg) := zt
theorem Lo {N : Nat → Nd} {o : Nat → Bool} {v : T} {i : Int} (h0 : 0 ≤ i) (h5 : i < 5) (x : Nd) : lay (xvC N o v) (0 + 0 + i.toNat * 22) (T.agg (Qg x (XZ x.log))).cells = xvC (UE N i.toNat x) o v := OQ h0 h5 x
theorem IA {M : List Ms} {p : Option Addr} {n c : Nat} {H : Qd} (h : OSo rM 11 (M.map ms) (.slice p n c) H) : n ≤ c := by
 rcases h with ⟨_, ⟨q, e⟩, _⟩ | ⟨b, c', pre, e, hc, _⟩
 ·cases e; exact Nat.le_refl _
 ·cases e; exact hc
theorem Zc.pre {cs ds r : List T} {o : Nat} (h : Zc cs o ds r) : ∀ p : List T, Zc (p ++ cs) (p.length + o) ds (p ++ r)
 | [] => by rw [List.length_nil, Nat.zero_add]; exact h
 | x :: p => by
  rw [List.length_cons, Nat.add_right_comm]
  exact Zc.skip x _ _ _ _ (Zc.pre h p)
theorem NX {N : Nat → Nd} {o : Nat → Bool} {v : T} {i : Int} (h0 : 0 ≤ i) (h5 : i < 5) (a : Bool) : Zc (xvC N o v) (0 + 110 + i.toNat * 1) (eB a).cells (xvC N (UE o i.toNat a) v) := by
 have h : Zc (oL o ++ [v]) i.toNat [eB a] (oL (UE o i.toNat a) ++ [v]) := by
  rcases (by omega : i = 0 ∨ i = 1 ∨ i = 2 ∨ i = 3 ∨ i = 4) with rfl | rfl | rfl | rfl | rfl
  ·exact .cons _ _ _ _ _ (.nil _)
  ·exact .skip _ _ _ _ _ (.cons _ _ _ _ _ (.nil _))
  ·exact .skip _ _ _ _ _ (.skip _ _ _ _ _ (.cons _ _ _ _ _ (.nil _)))
  ·exact .skip _ _ _ _ _ (.skip _ _ _ _ _ (.skip _ _ _ _ _ (.cons _ _ _ _ _ (.nil _))))
  ·exact .skip _ _ _ _ _ (.skip _ _ _ _ _ (.skip _ _ _ _ _ (.skip _ _ _ _ _ (.cons _ _ _ _ _ (.nil _)))))
 have h2 := Zc.pre h ((fvL N).flatMap T.cells)
 have e : 0 + 110 + i.toNat * 1 = 110 + i.toNat := by omega
 rw [e]
 exact h2
theorem KM {aw : List Bool} {i : Nat} (hi : i < aw.length) (a : Bool) : (fun j => (aw.set i a).getD j false) = UE (fun j => aw.getD j false) i a := by
 funext j
 unfold UE
 simp only [List.getD_eq_getElem?_getD, List.getElem?_set]
 by_cases h : i = j
 ·subst h; simp [hi]
 ·rw [if_neg h, if_neg (fun e => h e.symm)]
theorem L7 {x : Gn} {i : Nat} (hi : i < x.ns.length) (t : Nd) (w : List Ms) : (MQ x i t w).n = UE x.n i t := by
 funext j
 unfold UE MQ Gn.n
 simp only [List.getD_eq_getElem?_getD, List.getElem?_set]
 by_cases h : i = j
 ·subst h; simp [hi]
 ·rw [if_neg h, if_neg (fun e => h e.symm)]
def WC (x : Gn) (i : Int) (b : Bool) : Gn := if isI i then { x with aw := x.aw.set i.toNat b } else x
theorem Ae {b : Nat} {x : Gn} {H : Qd} (i : Int) (a : Bool) (hX : IsX b x H) : FnH Tryz.prog 56 [pW b, ei i, eB a] H (fun r H' => r = eB (decide (isI i)) ∧ IsX b (WC x i a) H') := by
 have hI := WH i
 obtain ⟨hns, haw, v, Hm, h1, rfl⟩ := hX
 refine fe Tryz.func56 fun S0 w0 => ?_
 show Sim _ _ [(0, pW b), (1, ei i), (2, eB a)] _ _
 refine zC ?_
 refine cr <| s_ Qb <| zC ?_
 refine cr <| s_ Qa <| s_ (Qr (hI)) <| zC ?_
 refine ci (p := isI i) ?_ ?_
 ·intro hi
  have hi5 : 0 ≤ i ∧ i < 5 := hi
  have hlay := NX (N := x.n) (o := fun i => x.aw.getD i false) (v := .v v) hi5.1 hi5.2 a
  refine zC ?_
  refine cr <| s_ Qa <| s_ Qa <| s_ Qa <| s_ Qe <| s_ Qc <| s_ Xp <| Qn (hc := hlay) ?_
  refine zC ?_
  refine cr <| s_ Qa <| s_ (Qr (hI)) <| s_ Qb <| zC ?_
  refine zR ?_
  refine rh kR ⟨rfl, ?_⟩ (Le.refl _)
  unfold WC
  rw [if_pos hi]
  refine ⟨hns, by show (x.aw.set _ a).length = 5; rw [List.length_set]; exact haw, ?_⟩
  show XvH b x.n (fun j => (x.aw.set i.toNat a).getD j false) x.way _
  rw [KM (by omega) a]
  exact ⟨v, Hm, h1, rfl⟩
 ·intro hi
  refine zC ?_
  refine cr <| s_ Qa <| s_ (Qr (hI)) <| s_ Qb <| zC ?_
  refine zR ?_
  refine rh kR ⟨rfl, ?_⟩ (Le.refl _)
  unfold WC
  rw [if_neg hi]
  exact ⟨hns, haw, v, Hm, h1, rfl⟩
theorem B6 {b : Nat} {x : Gn} {H : Qd} (i : Int) (hT : thN x i = true → FnP Tryz.prog 80 [nd (x.n i.toNat)] (fun r => r = .tup [nd (Xi (x.n i.toNat)).1, mss (Xi (x.n i.toNat)).2])) (hl : x.way.length ≤ 1000000) (hl2 : (Xi (x.n i.toNat)).2.length ≤ 100000) (hX : IsX b x H) : FnH Tryz.prog 51 [pW b, ei i] H (fun r H' => r = .tup [] ∧ IsX b (Jv x i) H') := by
 have hI := WH i
 obtain ⟨hns, haw, v, Hm, h1, rfl⟩ := hX
 obtain ⟨p, c, hv⟩ := OSo.len h1
 rw [List.length_map] at hv
 subst hv
 refine fe Tryz.func51 fun S0 w0 => ?_
 show Sim _ _ [(0, pW b), (1, ei i)] _ _
 by_cases hi : isI i
 ·have hi5 : 0 ≤ i ∧ i < 5 := hi
  obtain ⟨q, iq, hq⟩ := EP (b := x.aw.getD i.toNat false)
  have hld : (xvC x.n (fun i => x.aw.getD i false) (.v (.slice p x.way.length c)))[0 + 110 + i.toNat * 1]? = some (.v (.bool (decide q))) := by
   rw [R5 hi5.1 hi5.2]
   show some (eB (x.aw.getD i.toNat false)) = _
   rw [hq]
   rfl
  refine zC ?_
  refine cr <| s_ Qa <| s_ (Qr (hI)) <| s_ Yb <| s_ Qa <| gF (fun hg => Qa) ?_
  refine gF (fun hg => Qa) ?_
  refine gF (fun hg => Qe (hx := u_ hg)) ?_
  refine gF (fun hg => Qc (hx := u_ hg)) ?_
  refine gF (fun hg => Xp (hx := u_ hg) (hy := u_ hg)) ?_
  refine gF (fun hg => Ql (hx := u_ hg) (hd := by first | rfl | assumption)) ?_
  refine s_ XC <| zC ?_
  refine ci (p := ¬ isI i ∨ q) ?_ ?_
  ·intro hor
   have hth : ¬ thN x i = true := by
    unfold thN
    rw [hq]
    rcases hor with h | h
    ·exact absurd hi h
    ·simp [h]
   refine zR ?_
   refine rh kR ⟨rfl, ?_⟩ (Le.refl _)
   unfold Jv
   rw [if_neg hth]
   exact ⟨hns, haw, _, Hm, h1, rfl⟩
  intro hor
  have hth : thN x i = true := by
   unfold thN
   rw [hq, decide_eq_true hi, decide_eq_false (fun h => hor (.inr h))]
   rfl
  have hT' := hT hth
  obtain ⟨n, hn⟩ : ∃ n, n = x.n i.toNat := ⟨_, rfl⟩
  have htk := ZT (N := x.n) (o := fun i => x.aw.getD i false) (v := .v (.slice p x.way.length c)) hi5.1 hi5.2
  rw [← hn] at hT' htk
  refine zC ?_
  refine cr <| s_ Qa <| s_ Qa <| s_ Qe <| s_ Qc <| s_ Xp <| s_ (Qw (hc := htk)) <| s_ (Qr (hT')) <| s_ Qa <| s_ Qt <| s_ Qt ?_
  refine Xt fun b4 _ => ?_
  refine Qn ?_
  refine s_ Qb <| zC ?_
  refine zC ?_
  refine ca [0, 1, 2, 3, 4, 5, 6] [6] <| a_ (fun _ => Qa) <| a_ (fun _ => Qa) <| QR (hc := Wg _ _) ?_
  refine a_ (fun _ => Qe) <| a_ (fun _ => Qc) <| a_ (fun _ => Xp) ?_
  refine Vu ?_ ?_
  ·rw [U5]; show _ + 22 ≤ 116; omega
  rw [Lo hi5.1 hi5.2]
  apply an
  refine zC ?_
  obtain ⟨t, ht⟩ : ∃ t, t = (Xi n).1 := ⟨_, rfl⟩
  obtain ⟨l, hll⟩ : ∃ l, l = (Xi n).2 := ⟨_, rfl⟩
  rw [← hn, ← hll] at hl2
  rw [← ht, ← hll]
  have hcap := IA h1
  have hfin : ∀ v' Hm', OSo rM 11 ((x.way ++ l).map ms) v' Hm' → IsX b (Jv x i) ((b, ⟨tX, xvC (UE x.n i.toNat t) (fun i => x.aw.getD i false) (.v v'), 116⟩) :: (Hm' ++ [])) := fun v' Hm' h => by
   unfold Jv
   rw [if_pos hth, Vk, ← hn, ← ht, ← hll]
   refine ⟨by show (x.ns.set _ _).length = 5; rw [List.length_set]; exact hns, haw, ?_⟩
   rw [L7 (by unfold isI at hi; omega)]
   exact ⟨v', Hm', h, rfl⟩
  by_cases hz : l = []
  ·refine zC ?_
   refine cr <| s_ Qa <| s_ Qa <| s_ Qe <| s_ Qc <| s_ Ql <| s_ Qa <| s_ (Tm hcap (hyl := Le.of_eq (by rw [hz]; rfl))) <| s_ Qe <| s_ Qc <| Qn ?_
   refine zC ?_
   exact rhn (.skip _ _ _ kR) ⟨rfl, hfin _ Hm (by rw [hz, List.append_nil]; exact h1)⟩ (Le.refl _)
  ·have hlp : 0 < l.length := List.length_pos_iff.2 hz
   refine zC ?_
   refine cr <| s_ Qa <| s_ Qa <| s_ Qe <| s_ Qc <| s_ Ql <| s_ Qa ?_
   refine HZ (ho := h1) (A := [_, _]) (B := []) (ZX _) (fun v2 Hm2 h2 => ?_) (ys := l.map ms) (f := false) (hyl := Le.refl _) (hky := ZX _)
   have h2 : OSo rM 11 ((x.way ++ l).map ms) v2 Hm2 := by rw [List.map_append]; exact h2
   obtain ⟨p, c, rfl⟩ := OSo.len h2
   refine s_ Qe <| s_ Qc <| Qn ?_
   refine zC ?_
   exact rhn (.skip _ _ _ kR) ⟨rfl, hfin _ Hm2 h2⟩ (Le.refl _)
 ·refine zC ?_
  refine cr <| s_ Qa <| s_ (Qr (hI)) <| s_ Yb <| s_ Qa <| gF (fun hg => Qa) ?_
  refine gF (fun hg => Qa) ?_
  refine gF (fun hg => Qe (hx := u_ hg)) ?_
  refine gF (fun hg => Qc (hx := u_ hg)) ?_
  refine gF (p := ¬ isI i) (d := ei 0) (fun hg => absurd hi hg) ?_
  refine gF (p := ¬ isI i) (d := .v (.bool (decide True))) (fun hg => absurd hi hg) ?_
  refine s_ XC <| zC ?_
  refine ci (p := ¬ isI i ∨ True) (fun _ => ?_) (fun h => absurd (.inl hi) h)
  refine zR ?_
  refine rh kR ⟨rfl, ?_⟩ (Le.refl _)
  unfold Jv thN
  rw [decide_eq_false hi]
  exact ⟨hns, haw, _, Hm, h1, rfl⟩
def Y5 (x : Gn) (k : Int) : Prop := 0 ≤ k ∧ k < x.way.length
instance (x : Gn) (k : Int) : Decidable (Y5 x k) := by unfold Y5; infer_instance
def L3 (x : Gn) (k : Int) : Gn := { x with way := x.way.eraseIdx k.toNat }
def Ww (x : Gn) (k : Int) : Gn := if Y5 x k then L3 x k else x
def Uf (x : Gn) (k : Int) : Gn := if Y5 x k ∧ x.way.length < 300 then { x with way := x.way ++ [x.way.getD k.toNat default] } else x
def XQ (x : Gn) (k : Int) : Gn := if Y5 x k then Zf (L3 x k) (x.way.getD k.toNat default) else x
theorem Ab {b : Nat} {x : Gn} {H : Qd} (k : Int) (hl : x.way.length ≤ 1000000) (hX : IsX b x H) : FnH Tryz.prog 53 [pW b, ei k] H (fun r H' => r = .v (.bool (decide (Y5 x k))) ∧ IsX b (Ww x k) H') := by
 obtain ⟨hns, haw, hv⟩ := hX
 have hO := fun (h : k.toNat < x.way.length) => R6 k.toNat h hl hv
 obtain ⟨v, Hm, h1, rfl⟩ := hv
 obtain ⟨p, c, hv⟩ := OSo.len h1
 rw [List.length_map] at hv
 subst hv
 refine fe Tryz.func53 fun S0 w0 => ?_
 show Sim _ _ [(0, pW b), (1, ei k)] _ _
 refine zC ?_
 refine cr <| s_ Qb <| zC ?_
 refine cr <| s_ Qa <| s_ QN <| s_ Qa <| gF (fun hg => Qa) ?_
 refine gF (fun hg => Qa) ?_
 refine gF (fun hg => Qe (hx := u_ hg)) ?_
 refine gF (fun hg => Qc (hx := u_ hg)) ?_
 refine gF (fun hg => Ql (hx := u_ hg)) ?_
 (first | refine gF (fun hg => QS (hx := u_ hg)) ?_ | refine gF (fun hg => QP (hx := u_ hg)) ?_)
 refine gF (fun hg => ZL (hx := u_ hg) (hy := u_ hg)) ?_
 refine s_ XC <| zC ?_
 refine ci (p := k < 0 ∨ (x.way.length : Int) ≤ k) ?_ ?_
 ·intro h
  have hn : ¬ Y5 x k := by unfold Y5; omega
  rw [decide_eq_false hn]
  refine zC ?_
  refine cr <| s_ Qb <| zC ?_
  refine zR ?_
  refine rh kR ⟨rfl, ?_⟩ (Le.refl _)
  unfold Ww
  rw [if_neg hn]
  exact ⟨hns, haw, _, Hm, h1, rfl⟩
 ·intro h
  have hn : Y5 x k := by unfold Y5; omega
  have hO' := hO (by omega)
  rw [show ((k.toNat : Nat) : Int) = k by omega] at hO'
  rw [decide_eq_true hn]
  refine zC ?_
  refine cr <| s_ Qa <| s_ Qa ?_
  refine QY hO' (fun r H' ⟨hr1, hX'⟩ => ?_)
  subst hr1
  refine zC ?_
  refine cr <| s_ Qb <| zC ?_
  refine zR ?_
  refine rh kR ⟨rfl, ?_⟩ (Le.refl _)
  unfold Ww
  rw [if_pos hn]
  exact ⟨hns, haw, hX'⟩
theorem Ce {b : Nat} {x : Gn} {H : Qd} (k : Int) (hl : x.way.length ≤ 1000000) (hX : IsX b x H) : FnH Tryz.prog 54 [pW b, ei k] H (fun r H' => r = .v (.bool (decide (Y5 x k ∧ x.way.length < 300))) ∧ IsX b (Uf x k) H') := by
 obtain ⟨hns, haw, v, Hm, h1, rfl⟩ := hX
 obtain ⟨p, c, hv⟩ := OSo.len h1
 rw [List.length_map] at hv
 subst hv
 refine fe Tryz.func54 fun S0 w0 => ?_
 show Sim _ _ [(0, pW b), (1, ei k)] _ _
 refine zC ?_
 refine cr <| s_ Qb <| zC ?_
 refine cr <| s_ Qa <| s_ QN <| s_ Qa <| gF (fun hg => Qa) ?_
 refine gF (fun hg => Qa) ?_
 refine gF (fun hg => Qe (hx := u_ hg)) ?_
 refine gF (fun hg => Qc (hx := u_ hg)) ?_
 refine gF (fun hg => Ql (hx := u_ hg)) ?_
 (first | refine gF (fun hg => QS (hx := u_ hg)) ?_ | refine gF (fun hg => QP (hx := u_ hg)) ?_)
 refine gF (fun hg => ZL (hx := u_ hg) (hy := u_ hg)) ?_
 refine s_ XC <| s_ Qa <| gF (fun hg => Qa) ?_
 refine gF (fun hg => Qe (hx := u_ hg)) ?_
 refine gF (fun hg => Qc (hx := u_ hg)) ?_
 refine gF (fun hg => Ql (hx := u_ hg)) ?_
 (first | refine gF (fun hg => QS (hx := u_ hg)) ?_ | refine gF (fun hg => QP (hx := u_ hg)) ?_)
 refine gF (fun hg => ZL (hx := u_ hg)) ?_
 refine s_ XC <| zC ?_
 refine ci (p := (k < 0 ∨ (x.way.length : Int) ≤ k) ∨ (300 : Int) ≤ x.way.length) ?_ ?_
 ·intro h
  have hn : ¬ (Y5 x k ∧ x.way.length < 300) := by unfold Y5; omega
  rw [decide_eq_false hn]
  refine zC ?_
  refine cr <| s_ Qb <| zC ?_
  refine zR ?_
  refine rh kR ⟨rfl, ?_⟩ (Le.refl _)
  unfold Uf
  rw [if_neg hn]
  exact ⟨hns, haw, _, Hm, h1, rfl⟩
 ·intro h
  have hn : Y5 x k ∧ x.way.length < 300 := by unfold Y5; omega
  have hkl : k.toNat < x.way.length := by omega
  have hgk : x.way.getD k.toNat default = x.way[k.toNat] := by simp [hkl]
  obtain ⟨bl, pre, hp, hmem⟩ := OSo.at h1 (j := k.toNat) (by rw [List.length_map]; exact hkl)
  subst hp
  rw [decide_eq_true hn]
  refine zC ?_
  refine ca [0, 1, 2, 3, 4, 5, 6, 7, 8, 9, 10, 11, 12, 13, 14, 15, 16] [13, 16] <| a_ (fun _ => Qa) <| a_ (fun _ => Qa) <| a_ (fun _ => Qe) <| a_ (fun _ => Qc) <| Qv ?_
  refine a_ (fun _ => Qa) <| a_ (fun _ => Qe) <| a_ (fun _ => Qc) <| Qv ?_
  refine a_ (fun _ => Qa) ?_
  (first | refine a_ (fun _ => Q4 hix) ?_ | refine a_ (fun _ => Q4 hix2) ?_ | refine a_ (fun _ => Yd) ?_ | refine a_ (fun _ => Ys) ?_)
  refine QR (hm := List.mem_cons_of_mem _ (List.mem_append_left _ hmem)) (hc := Xg.elem (ZX x.way) (x := ms x.way[k.toNat]) (by simp [hkl])) ?_
  refine a_ (fun _ => XS) ?_
  refine SG (ho := h1) (A := [_]) (B := []) (ys := [ms x.way[k.toNat]]) (ZX _) (fun v2 Hm2 h2 => ⟨zd, ?_⟩)
  refine zD ?_
  have h2 : OSo rM 11 ((x.way ++ [x.way[k.toNat]]).map ms) v2 Hm2 := by rw [List.map_append]; exact h2
  obtain ⟨p2, c2, rfl⟩ := OSo.len h2
  refine a_ (fun _ => Qe) <| a_ (fun _ => Qc) <| Q2 ?_
  apply an
  refine zC ?_
  refine cr <| s_ Qb <| zC ?_
  refine zR ?_
  refine rh kR ⟨rfl, ?_⟩ (Le.refl _)
  unfold Uf
  rw [if_pos hn, hgk]
  exact ⟨hns, haw, _, Hm2, h2, rfl⟩
theorem E3 {b : Nat} {x : Gn} {H : Qd} (k : Int) (hl : x.way.length ≤ 1000000) (hto : Y5 x k → isI (x.way.getD k.toNat default).to)
  (hT : Y5 x k → FnP Tryz.prog 82 [nd (x.n (x.way.getD k.toNat default).to.toNat), ms (x.way.getD k.toNat default)] (fun r => r = .tup [nd (Xd (x.n (x.way.getD k.toNat default).to.toNat) (x.way.getD k.toNat default)).1, mss (Xd (x.n (x.way.getD k.toNat default).to.toNat) (x.way.getD k.toNat default)).2]))
  (hl2 : Y5 x k → (Xd (x.n (x.way.getD k.toNat default).to.toNat) (x.way.getD k.toNat default)).2.length ≤ 100000) (hX : IsX b x H) : FnH Tryz.prog 52 [pW b, ei k] H (fun r H' => r = .v (.bool (decide (Y5 x k))) ∧ IsX b (XQ x k) H') := by
 obtain ⟨hns, haw, hv⟩ := hX
 have hO := fun (h : k.toNat < x.way.length) => R6 k.toNat h hl hv
 obtain ⟨v, Hm, h1, rfl⟩ := hv
 obtain ⟨p, c, hv⟩ := OSo.len h1
 rw [List.length_map] at hv
 subst hv
 refine fe Tryz.func52 fun S0 w0 => ?_
 show Sim _ _ [(0, pW b), (1, ei k)] _ _
 refine zC ?_
 refine cr <| s_ Qb <| zC ?_
 refine cr <| s_ Qa <| s_ QN <| s_ Qa <| gF (fun hg => Qa) ?_
 refine gF (fun hg => Qa) ?_
 refine gF (fun hg => Qe (hx := u_ hg)) ?_
 refine gF (fun hg => Qc (hx := u_ hg)) ?_
 refine gF (fun hg => Ql (hx := u_ hg)) ?_
 (first | refine gF (fun hg => QS (hx := u_ hg)) ?_ | refine gF (fun hg => QP (hx := u_ hg)) ?_)
 refine gF (fun hg => ZL (hx := u_ hg) (hy := u_ hg)) ?_
 refine s_ XC <| zC ?_
 refine ci (p := k < 0 ∨ (x.way.length : Int) ≤ k) ?_ ?_
 ·intro h
  have hn : ¬ Y5 x k := by unfold Y5; omega
  rw [decide_eq_false hn]
  refine zC ?_
  refine cr <| s_ Qb <| zC ?_
  refine zR ?_
  refine rh kR ⟨rfl, ?_⟩ (Le.refl _)
  unfold XQ
  rw [if_neg hn]
  exact ⟨hns, haw, _, Hm, h1, rfl⟩
 intro h
 have hn : Y5 x k := by unfold Y5; omega
 have hO' := hO (by omega)
 rw [show ((k.toNat : Nat) : Int) = k by omega] at hO'
 have hto' := hto hn
 have hT' := hT hn
 have hl2' := hl2 hn
 clear hT hl2 hto hO h1
 obtain ⟨m, hm⟩ : ∃ m, m = x.way.getD k.toNat default := ⟨_, rfl⟩
 rw [← hm] at hO' hto' hT' hl2'
 have hi5 : 0 ≤ m.to ∧ m.to < 5 := hto'
 have hml : (x.way.eraseIdx k.toNat).length ≤ x.way.length := List.length_eraseIdx_le _ _
 rw [decide_eq_true hn]
 have hgoal : XQ x k = Zf (L3 x k) m := by unfold XQ; rw [if_pos hn, hm]
 rw [hgoal]
 obtain ⟨W, hW⟩ : ∃ W, W = x.way.eraseIdx k.toNat := ⟨_, rfl⟩
 have hout : L3 x k = { x with way := W } := by rw [hW]; rfl
 rw [← hW] at hO' hml
 refine zC ?_
 refine cr <| s_ Qa <| s_ Qa ?_
 refine QY hO' (fun r H' ⟨hr1, hX'⟩ => ?_)
 subst hr1
 obtain ⟨v, Hm, h1, rfl⟩ := hX'
 obtain ⟨p, c, hv⟩ := OSo.len h1
 rw [List.length_map] at hv
 subst hv
 obtain ⟨q, iq, hq⟩ := EP (b := x.aw.getD m.to.toNat false)
 have hld : (xvC x.n (fun i => x.aw.getD i false) (.v (.slice p W.length c)))[0 + 110 + m.to.toNat * 1]? = some (.v (.bool (decide q))) := by
  rw [R5 hi5.1 hi5.2]
  show some (eB (x.aw.getD m.to.toNat false)) = _
  rw [hq]
  rfl
 refine Xt fun b5 _ => ?_
 refine Qn ?_
 refine zC ?_
 refine ca [0, 1, 2, 3, 4, 5, 6, 7] [] <| a_ (fun _ => Qa) <| a_ (fun _ => Qc) <| Qv ?_
 refine a_ (fun _ => Qe) <| a_ (fun _ => Qc) <| a_ (fun _ => Xp) <| Qv (hd := by first | rfl | assumption) ?_
 refine a_ (fun _ => Yb) ?_
 apply an
 refine zC ?_
 refine ci (p := ¬ q) ?_ ?_
 ·intro hnq
  have hth : thN (L3 x k) m.to = true := by
   rw [hout]
   unfold thN
   rw [hq, decide_eq_true hto', decide_eq_false hnq]
   rfl
  obtain ⟨n, hnn⟩ : ∃ n, n = x.n m.to.toNat := ⟨_, rfl⟩
  have htk := ZT (N := x.n) (o := fun i => x.aw.getD i false) (v := .v (.slice p W.length c)) hi5.1 hi5.2
  rw [← hnn] at hT' htk hl2'
  refine zC ?_
  refine ca [0, 1, 2, 3, 4, 5, 6, 7, 8, 9, 10, 11, 12, 13, 14] [12, 13] <| a_ (fun _ => Qa) <| a_ (fun _ => Qc) <| Qv ?_
  refine a_ (fun _ => Qe) <| a_ (fun _ => Qc) <| a_ (fun _ => Xp) <| QR (hc := htk) ?_
  refine QR ?_
  refine a_ (fun _ => Qr (hT')) <| a_ (fun _ => Qa) <| a_ (fun _ => Qt) <| a_ (fun _ => Qt) ?_
  refine S9 fun b6 _ => ⟨zd, ?_⟩
  refine Q2 ?_
  refine a_ (fun _ => Qb) ?_
  apply an
  refine zC ?_
  refine zC ?_
  refine ca [0, 1, 2, 3, 4, 5, 6, 7] [7] <| a_ (fun _ => Qa) <| a_ (fun _ => Qc) <| Qv ?_
  refine QR (hc := Wg _ _) ?_
  refine a_ (fun _ => Qe) <| a_ (fun _ => Qc) <| a_ (fun _ => Xp) ?_
  refine Vu ?_ ?_
  ·rw [U5]; show _ + 22 ≤ 116; omega
  rw [Lo hi5.1 hi5.2]
  apply an
  refine zC ?_
  obtain ⟨t, ht⟩ : ∃ t, t = (Xd n m).1 := ⟨_, rfl⟩
  obtain ⟨l, hll⟩ : ∃ l, l = (Xd n m).2 := ⟨_, rfl⟩
  rw [← hll] at hl2'
  rw [← ht, ← hll]
  have hcap := IA h1
  have hfin : ∀ v' Hm', OSo rM 11 ((W ++ l).map ms) v' Hm' → IsX b (Zf (L3 x k) m) ((b, ⟨tX, xvC (UE x.n m.to.toNat t) (fun i => x.aw.getD i false) (.v v'), 116⟩) :: (Hm' ++ [])) := fun v' Hm' h => by
   unfold Zf
   rw [if_pos hth, hout, Vk]
   show IsX b (MQ { x with way := W } m.to.toNat (Xd (x.n m.to.toNat) m).1 (W ++ (Xd (x.n m.to.toNat) m).2)) _
   rw [← hnn, ← ht, ← hll]
   refine ⟨by show (x.ns.set _ _).length = 5; rw [List.length_set]; exact hns, haw, ?_⟩
   rw [L7 (by show m.to.toNat < x.ns.length; omega)]
   exact ⟨v', Hm', h, rfl⟩
  by_cases hz : l = []
  ·refine zC ?_
   refine cr <| s_ Qa <| s_ Qa <| s_ Qe <| s_ Qc <| s_ Ql <| s_ Qa <| s_ (Tm hcap (hyl := Le.of_eq (by rw [hz]; rfl))) <| s_ Qe <| s_ Qc <| Qn ?_
   refine zC ?_
   refine cr <| s_ Qb <| zC ?_
   refine zR ?_
   exact rh (kS (kS kR)) ⟨rfl, hfin _ Hm (by rw [hz, List.append_nil]; exact h1)⟩ (Le.refl _)
  ·have hlp : 0 < l.length := List.length_pos_iff.2 hz
   refine zC ?_
   refine cr <| s_ Qa <| s_ Qa <| s_ Qe <| s_ Qc <| s_ Ql <| s_ Qa ?_
   refine HZ (ho := h1) (A := [_, _, _]) (B := []) (ZX _) (fun v2 Hm2 h2 => ?_) (ys := l.map ms) (f := false) (hyl := Le.refl _) (hky := ZX _)
   have h2 : OSo rM 11 ((W ++ l).map ms) v2 Hm2 := by rw [List.map_append]; exact h2
   obtain ⟨p, c, rfl⟩ := OSo.len h2
   refine s_ Qe <| s_ Qc <| Qn ?_
   refine zC ?_
   refine cr <| s_ Qb <| zC ?_
   refine zR ?_
   exact rh (kS (kS kR)) ⟨rfl, hfin _ Hm2 h2⟩ (Le.refl _)
 ·intro hnq
  have hth : ¬ thN (L3 x k) m.to = true := by
   rw [hout]
   unfold thN
   rw [hq, decide_eq_true (Classical.not_not.1 hnq)]
   simp
  refine zC ?_
  refine cr <| s_ Qb <| zC ?_
  refine zR ?_
  refine rh (kS kR) ⟨rfl, ?_⟩ (Le.refl _)
  unfold Zf
  rw [if_neg hth, hout]
  exact ⟨hns, haw, _, Hm, h1, rfl⟩
end Go.Proofs.YtjbokbikkcfjjaaGreat
namespace Go.Proofs.YtjbokbikkcfjjaaGreat
open Go.Cap
structure XB (P : Nat → En → Prop) (x : Gn) (τ l u : Nat) : Prop where
 ks : x.ns.length = 5
 id : ∀ i : Nat, i < 5 → (x.n i).id = i
 nb : ∀ i, i < 5 → NB P (x.n i) τ l
 way : ∀ m ∈ x.way, MB P m τ l
 many : x.way.length ≤ 5 * (u + l)
 fuel : 5 * l + (x.ns.map fun n => pot n).sum ≤ u
 tau : τ ≤ u
theorem GB.xb {P : Nat → En → Prop} {g : Gp} {τ l u : Nat} (h : GB P g τ l u) : XB P (prG g) τ l u where
 ks := by show (g.ks.map _).length = 5; rw [List.length_map]; exact h.ks
 id := fun i hi => by rw [UL g i (by rw [h.ks]; exact hi)]; exact h.id i hi
 nb := fun i hi => by rw [UL g i (by rw [h.ks]; exact hi)]; exact h.nb i hi
 way := h.way
 many := h.many
 fuel := by
  have := h.fuel
  show 5 * l + ((g.ks.map _).map _).sum ≤ u
  rw [List.map_map]
  exact this
 tau := h.tau
section
variable {P : Nat → En → Prop} {x : Gn} {τ l u : Nat}
theorem XB.le {u' : Nat} (h : XB P x τ l u) (hu : u ≤ u') : XB P x τ l u' := { h with fuel := Nat.le_trans h.fuel hu, tau := Nat.le_trans h.tau hu, many := by have := h.many; omega }
theorem XB.did (h : XB P x τ l u) {i : Nat} (hi : i < 5) {t : Nd} {out : List Ms} {τ' c : Nat} (hid : t.id = i) (hτ : τ ≤ τ') (hc : τ' ≤ τ + c)
  {b : Nat} (hw : W2 P (x.n i) t out τ' l c b) (hb : x.way.length + b ≤ 5 * (u + l) + 5 * c) : ∃ l', XB P (M0 x i t out) τ' l' (u + c) ∧ l ≤ l' ∧ (M0 x i t out).way.length + 5 * l ≤ x.way.length + 5 * l' + b := by
 obtain ⟨d, h1, h2, h3, h4⟩ := hw
 have hil : i < x.ns.length := by rw [h.ks]; exact hi
 rw [Vk]
 refine ⟨l + d, ⟨by show (x.ns.set i t).length = 5; rw [List.length_set]; exact h.ks, fun j hj => ?_, fun j hj => ?_, fun m hm => ?_, ?_, ?_, by have := h.tau; omega⟩, by omega, ?_⟩
 ·rw [O1 (by rw [h.ks]; exact hj)]; split
  ·rename_i e; rw [hid, e]
  ·exact h.id j hj
 ·rw [O1 (by rw [h.ks]; exact hj)]; split
  ·exact h1
  ·exact (h.nb j hj).le hτ (by omega)
 ·rcases List.mem_append.1 hm with hm | hm
  ·exact (h.way m hm).le hτ (by omega)
  ·exact h3 m hm
 ·show (x.way ++ out).length ≤ _
  rw [List.length_append]; omega
 ·have := Lt (fun n => pot n) x.ns i t hil
  have hk : x.ns[i] = x.n i := by unfold Gn.n; rw [List.getD_eq_getElem?_getD, List.getElem?_eq_getElem hil, Option.getD_some]
  rw [hk] at this
  have hf := h.fuel
  show 5 * (l + d) + ((x.ns.set i t).map fun n => pot n).sum ≤ u + c
  omega
 ·show (x.way ++ out).length + 5 * l ≤ _
  rw [List.length_append]; omega
theorem XB.tick (hP : PO P) (h : XB P x τ l u) (ht : τ + 1 ≤ 100000) (i : Int) : ∃ l', XB P (Jv x i) (τ + 1) l' (u + 1) ∧ l ≤ l' := by
 unfold Jv
 split
 ·rename_i hth
  obtain ⟨h5, _⟩ := LP hth
  obtain ⟨l', h1, h2, _⟩ := h.did h5 ((LO _).trans (h.id _ h5)) (by omega) (Nat.le_refl _) ((h.nb _ h5).tick hP ht) (by have := h.many; omega)
  exact ⟨l', h1, h2⟩
 ·exact ⟨l, ⟨h.ks, h.id, fun i hi => (h.nb i hi).le (by omega) (Nat.le_refl _), fun m hm => (h.way m hm).le (by omega) (Nat.le_refl _), by have := h.many; omega, by have := h.fuel; omega, by have := h.tau; omega⟩, Nat.le_refl _⟩
theorem XB.take (hP : PO P) (h : XB P x τ l u) (ht : τ ≤ 100000) {m : Ms} (hm : MB P m τ l) (hb : x.way.length + 1 ≤ 5 * (u + l)) : ∃ l', XB P (Zf x m) τ l' u ∧ l ≤ l' ∧ (Zf x m).way.length + 5 * l ≤ x.way.length + 5 * l' + 1 := by
 unfold Zf
 split
 ·rename_i hth
  obtain ⟨h5, _⟩ := LP hth
  exact h.did h5 ((LQ _ _).trans (h.id _ h5)) (Nat.le_refl _) (Nat.le_refl _) ((h.nb _ h5).take hP hm ht) (by omega)
 ·exact ⟨l, h, Nat.le_refl _, by omega⟩
theorem XB.out (h : XB P x τ l u) {w : List Ms} (hw : ∀ m ∈ w, MB P m τ l) (hb : w.length ≤ 5 * (u + l)) : XB P { x with way := w } τ l u := { h with way := hw, many := hb }
theorem Z0 {k : Int} (h : Y5 x k) : k.toNat < x.way.length ∧ x.way.getD k.toNat default ∈ x.way := by
 have hk : k.toNat < x.way.length := by unfold Y5 at h; omega
 refine ⟨hk, ?_⟩
 rw [List.getD_eq_getElem?_getD, List.getElem?_eq_getElem hk]; exact List.getElem_mem _
theorem XB.deliver (hP : PO P) (h : XB P x τ l u) (ht : τ ≤ 100000) (k : Int) : ∃ l', XB P (XQ x k) τ l' u ∧ l ≤ l' := by
 unfold XQ
 split
 ·rename_i hk
  obtain ⟨h1, h2⟩ := Z0 hk
  have hl : (L3 x k).way.length = x.way.length - 1 := by show (x.way.eraseIdx k.toNat).length = _; rw [List.length_eraseIdx, if_pos h1]
  have hb : XB P (L3 x k) τ l u := h.out (fun m hm => h.way m (List.mem_of_mem_eraseIdx hm)) (by show (L3 x k).way.length ≤ _; have := h.many; omega)
  obtain ⟨l', h2, h3, h4⟩ := hb.take hP ht (h.way _ h2) (by have := h.many; omega)
  exact ⟨l', h2, h3⟩
 ·exact ⟨l, h, Nat.le_refl _⟩
end
def PS (_ : Nat) (e : En) : Prop := Ek e 100000
theorem Xj : PK PS where
 conf := fun _ _ h => ⟨h.c0, h.c1⟩
 own := fun _ t h0 h1 => ⟨h0, by simp only; omega, Int.le_refl _, by simp only; omega, by simp⟩
 sz := fun _ e h => ⟨⟨by have := h.t0; omega, by have := h.t1; omega⟩, ⟨by have := h.c0; omega, by have := h.c1; omega⟩, by have := h.cmd; omega⟩
 rec_ := fun l hl h => by
  have : ∀ e ∈ l, Ek e 100000 := fun e he => by
   obtain ⟨i, hi⟩ := List.mem_iff_getElem?.1 he
   exact h i e hi
  have := VK l this
  omega
end Go.Proofs.YtjbokbikkcfjjaaGreat
namespace Go.Proofs.YtjbokbikkcfjjaaGreat
open Go.Cap Raft
attribute [local irreducible] POp Qi SO EOp Sim FnH T.gp
section
variable {x : Gn} {τ l u : Nat} {E : List Ms}
theorem XB.five {P : Nat → En → Prop} (h : XB P x τ l u) : 5 * l ≤ u := by have := h.fuel; omega
theorem XB.rd (h : XB PS x τ l u) (hu : u ≤ 25000) (hI : GI x E) {i : Nat} (hi : i < 5) : Rd (x.n i) ∧ ((x.n i).role = 2 → ∀ to, to < 5 → (x.n i).next.get to ≤ Qq (x.n i) + 1) := by
 have h5 := h.five
 have hn := h.nb i hi
 obtain ⟨_, _, H, L, hF, hN, _⟩ := hI
 have hni := hN i hi
 obtain ⟨c, hc, hbc, hcl, _⟩ := hni.com
 have hla := hni.last
 refine ⟨⟨hn.bd Xj.toPO (by omega), by rw [hn.base]; omega, by rw [hn.base]; exact hn.com0, by rw [hla]; omega⟩, fun hr to ht => ?_⟩
 have := (hni.lead hr).nx to ht
 rw [hla]; omega
theorem XB.rtick (h : XB PS x τ l u) (hu : u ≤ 25000) (hI : GI x E) {i : Nat} (hi : i < 5) : FnP Tryz.prog 80 [nd (x.n i)] (fun r => r = .tup [nd (Xi (x.n i)).1, mss (Xi (x.n i)).2]) := by
 have h5 := h.five
 have hn := h.nb i hi
 obtain ⟨hR, hx⟩ := h.rd hu hI hi
 have hlen := hn.len
 have ht := h.tau
 have hp := Ls (fun n => pot n) x.ns i (by rw [h.ks]; exact hi)
 have hk : x.ns[i]'(by rw [h.ks]; exact hi) = x.n i := by unfold Gn.n; rw [List.getD_eq_getElem?_getD, List.getElem?_eq_getElem (by rw [h.ks]; exact hi), Option.getD_some]
 rw [hk] at hp
 have hf := h.fuel
 simp only [Go.Proofs.YtjbokbikkcfjjaaGreat.pot] at hp hf
 exact AY hR (by omega) hn.term0 (by have := hn.term1; omega) hn.wait0 (by have := hn.wait0; omega) hx
theorem XB.rtake (h : XB PS x τ l u) (hu : u ≤ 25000) (hI : GI x E) {i : Nat} (hi : i < 5) {m : Ms} (hm : m ∈ x.way ∨ m ∈ E) (hm2 : MB PS m τ l) : FnP Tryz.prog 82 [nd (x.n i), ms m] (fun r => r = .tup [nd (Xd (x.n i) m).1, mss (Xd (x.n i) m).2]) := by
 have h5 := h.five
 have hn := h.nb i hi
 obtain ⟨hR, _⟩ := h.rd hu hI hi
 have hlen := hn.len
 have h1 := hm2.idx0
 have h2 := hm2.idx1
 have h3 := hm2.len
 obtain ⟨_, _, H, L, hF, hN, hM⟩ := hI
 have hmi := hM m hm
 refine AZ hR (hn.nbd (by omega)) (.inr ⟨⟨by omega, by omega, by omega⟩, fun hk => ?_⟩)
 obtain ⟨a1, _, i, _, a3, a4, _⟩ := hmi.k5 hk
 rw [a4]
 exact OW hF (hF.cons _ a1) a3
theorem GI.to {m : Ms} (hI : GI x E) (hm : m ∈ x.way ∨ m ∈ E) : isI m.to := by
 obtain ⟨_, _, H, L, hF, hN, hM⟩ := hI
 obtain ⟨f, hf, e⟩ := (hM m hm).to
 unfold isI; omega
end
theorem GI.deliver {x : Gn} {E : List Ms} (h : GI x E) (k : Int) : GI (XQ x k) E := by
 unfold XQ
 split
 ·rename_i hk
  obtain ⟨h1, h2⟩ := Z0 hk
  have h3 : GI (L3 x k) (x.way.getD k.toNat default :: E) := h.less (aw := x.aw) (w := x.way.eraseIdx k.toNat) h.aw fun m hm => by
   rcases hm with hm | hm
   ·exact .inl (List.mem_of_mem_eraseIdx hm)
   ·rcases List.mem_cons.1 hm with rfl | hm
    ·exact .inl h2
    ·exact .inr hm
  obtain ⟨a, b, H, L, hF, hN, hM⟩ := h3.take (m := x.way.getD k.toNat default) (.inr List.mem_cons_self)
  exact ⟨a, b, H, L, hF, hN, fun m hm => hM m (hm.imp_right (List.mem_cons_of_mem _))⟩
 ·exact h
def Lj (r : List Ms) (y : Gn) : Gn := { y with way := r ++ y.way }
theorem Av (r : List Ms) (y : Gn) (m : Ms) : Zf (Lj r y) m = Lj r (Zf y m) := by
 have h1 : thN (Lj r y) m.to = thN y m.to := rfl
 unfold Zf
 rw [h1]
 split
 ·unfold M0 Lj
  simp only [List.append_assoc]
  rfl
 ·rfl
theorem Ow (m : Ms) (r : List Ms) (y : Gn) : XQ (Lj (m :: r) y) 0 = Lj r (Zf y m) := by
 have hk : Y5 (Lj (m :: r) y) 0 := by
  unfold Y5 Lj
  simp only [List.cons_append, List.length_cons]; omega
 unfold XQ
 rw [if_pos hk, ← Av]
 rfl
def RJ : Nat → Gn → Gn
 | 0, x => x
 | j + 1, x => RJ j (XQ x 0)
theorem I4 : ∀ (r : List Ms) (y : Gn), RJ r.length (Lj r y) = r.foldl Zf y
 | [], y => rfl
 | m :: r, y => by
  show RJ r.length (XQ (Lj (m :: r) y) 0) = _
  rw [Ow, I4 r (Zf y m)]
  rfl
theorem By (x : Gn) : VC (RJ x.way.length x) 5 = UK x := by
 have h := I4 x.way { x with way := [] }
 have e : Lj x.way { x with way := [] } = x := by unfold Lj; simp
 rw [e] at h
 rw [h]
 rfl
theorem Cn (n : Nd) : (Xi n).2.length ≤ 5 := by
 unfold Xi
 split
 ·exact JR _ _ _
 ·split
  ·simp
  ·split
   ·unfold Yl
    split <;> (dsimp only; exact JR _ _ _)
   ·simp
theorem XB.pot {P : Nat → En → Prop} {x : Gn} {τ l u : Nat} (h : XB P x τ l u) {i : Nat} (hi : i < 5) : 5 * l + Go.Proofs.YtjbokbikkcfjjaaGreat.pot (x.n i) ≤ u := by
 have hil : i < x.ns.length := by rw [h.ks]; exact hi
 have := Ls (fun n => Go.Proofs.YtjbokbikkcfjjaaGreat.pot n) x.ns i hil
 have hk : x.ns[i] = x.n i := by unfold Gn.n; rw [List.getD_eq_getElem?_getD, List.getElem?_eq_getElem hil, Option.getD_some]
 rw [hk] at this
 have hf := h.fuel
 omega
structure XI (b : Nat) (x : Gn) (τ u : Nat) (H : Qd) : Prop where
 is : IsX b x H
 gi : GI x []
 xb : ∃ l, XB PS x τ l u
section
variable {b : Nat} {x : Gn} {τ u : Nat} {H : Qd}
theorem R7 (k : Int) (hu : u ≤ 25000) (h : XI b x τ u H) : FnH Tryz.prog 52 [pW b, ei k] H (fun r H' => r = .v (.bool (decide (Y5 x k))) ∧ XI b (XQ x k) τ u H') := by
 obtain ⟨hX, hI, l, hB⟩ := h
 have h5 := hB.five
 have hm := hB.many
 have ht := hB.tau
 obtain ⟨l2, hB2, _⟩ := hB.deliver Xj.toPO (by omega) k
 have hout : Y5 x k → (Xd (x.n (x.way.getD k.toNat default).to.toNat) (x.way.getD k.toNat default)).2.length ≤ 100000 := fun hk => by
  obtain ⟨h1, h2⟩ := Z0 hk
  obtain ⟨hi, _⟩ := Q7 (hI.to (.inl h2))
  obtain ⟨d, a1, a2, a3, a4⟩ := (hB.nb _ hi).take Xj.toPO (hB.way _ h2) (by omega)
  have hp := hB.pot hi
  omega
 refine (E3 k (by omega) (fun hk => hI.to (.inl (Z0 hk).2)) (fun hk => hB.rtake hu hI (Q7 (hI.to (.inl (Z0 hk).2))).1 (.inl (Z0 hk).2) (hB.way _ (Z0 hk).2)) hout hX).mono ?_
 rintro r H' ⟨h1, h2⟩
 exact ⟨h1, h2, hI.deliver k, l2, hB2⟩
theorem B5 (i : Int) (hu : u + 1 ≤ 25000) (h : XI b x τ u H) : FnH Tryz.prog 51 [pW b, ei i] H (fun r H' => r = .tup [] ∧ XI b (Jv x i) (τ + 1) (u + 1) H') := by
 obtain ⟨hX, hI, l, hB⟩ := h
 have h5 := hB.five
 have hm := hB.many
 have ht := hB.tau
 obtain ⟨l2, hB2, _⟩ := hB.tick Xj.toPO (by omega) i
 refine (B6 i (fun hth => hB.rtick (by omega) hI (LP hth).1) (by omega) (Nat.le_trans (Cn _) (by omega)) hX).mono ?_
 rintro r H' ⟨h1, h2⟩
 exact ⟨h1, h2, hI.tick i, l2, hB2⟩
theorem E4 (k : Nat) (hu : u + 5 * k ≤ 25000) (h : XI b x τ u H) : FnH Tryz.prog 57 [pW b, ei k] H (fun r H' => r = .tup [] ∧ XI b (DV x (min k 200)) (τ + 5 * min k 200) (u + 5 * min k 200) H') := by
 refine fe Tryz.func57 fun S0 w0 => ?_
 show Sim _ _ [(0, pW b), (1, ei k)] H _
 refine zC ?_
 refine cr <| s_ Qb <| zC ?_
 apply Qm (σ := Nat × Qd) (ok := fun s => s.1 ≤ min k 200 ∧ XI b (DV x s.1) (τ + 5 * s.1) (u + 5 * s.1) s.2) (env := fun s => [(4, ei s.1), (0, pW b), (1, ei k)]) (heap := fun s => s.2) (μ := fun s => k - s.1) (s0 := (0, H))
 ·exact ⟨Nat.zero_le _, h⟩
 ·exact eL
 ·exact kR
 clear h
 rintro ⟨i, H1⟩ ⟨hi, h⟩
 simp only at hi h
 show Sim _ _ [(4, ei i), (0, pW b), (1, ei k)] H1 _
 refine zC ?_
 refine cr <| s_ Qa <| s_ Qa <| s_ QN <| s_ Qa <| gT (fun hg => Qa) ?_
 refine gT (fun hg => QN (hx := u_ hg)) ?_
 refine s_ Xv <| zC ?_
 refine ci ?_ ?_
 ·intro hlt
  have hlt' : i < k ∧ i < 200 := by
   have : (i : Int) < k ∧ (i : Int) < 200 := hlt
   omega
  clear hlt
  obtain ⟨y, hy⟩ : ∃ y, y = DV x i := ⟨_, rfl⟩
  rw [← hy] at h
  have h0 := h
  have hyl : y.way.length ≤ 1000000 := by
   obtain ⟨l0, hb0⟩ := h.xb
   have := hb0.many
   have := hb0.five
   omega
  obtain ⟨⟨hns, haw, v, Hm, h1, rfl⟩, _, _⟩ := h
  obtain ⟨p, c, hv⟩ := OSo.len h1
  rw [List.length_map] at hv
  subst hv
  refine zC ?_
  refine cr <| s_ Qa <| s_ Qe <| s_ Qc <| s_ Ql ?_
  (first | refine s_ QS ?_ | refine s_ QP ?_)
  refine s_ Qb <| zC ?_
  apply Qm (σ := Nat × Gn × Qd) (ok := fun s => s.1 ≤ 1000000 ∧ XI b s.2.1 (τ + 5 * i) (u + 5 * i) s.2.2 ∧ RJ s.1 s.2.1 = RJ y.way.length y) (env := fun s => [(5, ei s.1), (4, ei i), (0, pW b), (1, ei k)]) (heap := fun s => s.2.2) (μ := fun s => s.1) (s0 := (y.way.length, y, (b, ⟨tX, xvC y.n (fun i => y.aw.getD i false) (.v (.slice p y.way.length c)), 116⟩) :: (Hm ++ [])))
  ·exact ⟨hyl, h0, rfl⟩
  ·exact eL
  ·exact kR
  clear h0 hns haw h1
  rintro ⟨j, z, H2⟩ ⟨hjl, h, hz⟩
  simp only at hjl h hz
  show Sim _ _ [(5, ei j), (4, ei i), (0, pW b), (1, ei k)] H2 _
  refine zC ?_
  refine cr <| s_ Qa <| s_ XX <| zC ?_
  refine ci ?_ ?_
  ·intro hj
   have hj' : 0 < j := by have : (0 : Int) < j := hj; omega
   obtain ⟨j1, rfl⟩ : ∃ j1, j = j1 + 1 := ⟨j - 1, by omega⟩
   have hD := R7 0 (by omega) h
   apply ck
   apply cq
   refine zC ?_
   refine cr <| s_ Qa ?_
   refine QY hD (fun r H3 ⟨hr1, h3⟩ => ?_)
   subst hr1
   refine zC ?_
   refine cr <| s_ Qa <| s_ Yr <| s_ Qb <| zC ?_
   refine ⟨(j1, XQ z 0, H3), ⟨by simp only; omega, h3, hz⟩, (by simp only []; omega), ⟨?_, eL⟩, kR⟩
   apply Qh; (exact zG)
   exact Le.of_eq (by show ei _ = ei _; congr 1; omega)
  ·intro hj
   have hj' : j = 0 := by have : ¬ (0 : Int) < j := hj; omega
   subst hj'
   have hz' : z = RJ y.way.length y := hz
   refine zC ?_
   refine cr <| s_ Qb <| zC ?_
   apply Qm (σ := Nat × Qd) (ok := fun s => s.1 ≤ 5 ∧ XI b (VC z s.1) (τ + 5 * i + s.1) (u + 5 * i + s.1) s.2) (env := fun s => [(6, ei s.1), (4, ei i), (0, pW b), (1, ei k)]) (heap := fun s => s.2) (μ := fun s => 5 - s.1) (s0 := (0, H2))
   ·exact ⟨Nat.zero_le _, h⟩
   ·exact eL
   ·exact kR
   clear h
   rintro ⟨j, H4⟩ ⟨hj, h⟩
   simp only at hj h
   show Sim _ _ [(6, ei j), (4, ei i), (0, pW b), (1, ei k)] H4 _
   refine zC ?_
   refine cr <| s_ Qa <| s_ QN <| zC ?_
   refine ci ?_ ?_
   ·intro hlt
    have hj' : j < 5 := by have : (j : Int) < 5 := hlt; omega
    have hD := B5 (j : Int) (by omega) h
    apply ck
    apply cq
    refine zC ?_
    refine cr <| s_ Qa <| s_ Qa ?_
    refine QY hD (fun r H5 ⟨hr1, h5⟩ => ?_)
    subst hr1
    refine zC ?_
    refine cr <| s_ Qa <| s_ QQ <| s_ Qb <| zC ?_
    refine ⟨(j + 1, H5), ⟨by simp only; omega, by simp only; rw [W3]; exact h5⟩, (by simp only []; omega), ⟨?_, eL⟩, kR⟩
    apply Qh; (exact zG)
    exact Le.refl _
   ·intro hlt
    have hj' : j = 5 := by have : ¬ (j : Int) < 5 := hlt; omega
    subst hj'
    rw [hz', By, hy] at h
    refine zC ?_
    refine cr <| s_ Qa <| s_ QQ <| s_ Qb <| zC ?_
    refine ⟨(i + 1, H4), ⟨by simp only; omega, by simp only; rw [show τ + 5 * (i + 1) = τ + 5 * i + 5 by omega, show u + 5 * (i + 1) = u + 5 * i + 5 by omega]; exact h⟩, (by simp only []; omega), ⟨?_, eL⟩, kR⟩
    apply Qh; (exact zG)
    exact Le.refl _
 ·intro hge
  have hik : i = min k 200 := by
   have : ¬ ((i : Int) < k ∧ (i : Int) < 200) := hge
   omega
  subst hik
  refine zC ?_
  exact rhn kR ⟨rfl, h⟩ (Le.refl _)
end
def ZB (x : Gn) (i : Int) : Gn := if isI i then MQ x i.toNat (QK (x.n i.toNat)) x.way else x
theorem XB.crash {P : Nat → En → Prop} {x : Gn} {τ l u : Nat} (h : XB P x τ l u) (i : Int) : ∃ l', XB P (ZB x i) τ l' u := by
 unfold ZB
 split
 ·rename_i hi
  obtain ⟨h5, _⟩ := Q7 hi
  have hp := Gq (n := x.n i.toNat)
  obtain ⟨l', h1, _⟩ := h.did h5 (t := QK (x.n i.toNat)) (out := []) (τ' := τ) (c := 0) (b := 0) (h.id _ h5) (Nat.le_refl _) (Nat.le_refl _) ⟨0, (h.nb _ h5).wake, by omega, by simp, by simp⟩ (by have := h.many; omega)
  rw [Vk, List.append_nil] at h1
  exact ⟨l', h1⟩
 ·exact ⟨l, h⟩
section
variable {b : Nat} {x : Gn} {τ u : Nat} {H : Qd}
theorem Cf (i : Int) (hu : u ≤ 25000) (h : XI b x τ u H) : FnH Tryz.prog 55 [pW b, ei i] H (fun r H' => r = .v (.bool (decide (isI i))) ∧ XI b (ZB x i) τ u H') := by
 have hI := WH i
 obtain ⟨l', hB'⟩ : ∃ l', XB PS (ZB x i) τ l' u := by
  obtain ⟨_, _, l, hB⟩ := h
  exact hB.crash i
 obtain ⟨⟨hns, haw, v, Hm, h1, rfl⟩, hG, l, hB⟩ := h
 refine fe Tryz.func55 fun S0 w0 => ?_
 show Sim _ _ [(0, pW b), (1, ei i)] _ _
 refine zC ?_
 refine cr <| s_ Qb <| zC ?_
 refine cr <| s_ Qa <| s_ (Qr (hI)) <| zC ?_
 refine ci (p := isI i) ?_ ?_
 ·intro hi
  have hi5 : 0 ≤ i ∧ i < 5 := hi
  obtain ⟨h5, _⟩ := Q7 hi
  have hlen := (hB.nb _ h5).len
  have hf := hB.five
  obtain ⟨n, hn⟩ : ∃ n, n = x.n i.toNat := ⟨_, rfl⟩
  have htk := ZT (N := x.n) (o := fun i => x.aw.getD i false) (v := .v v) hi5.1 hi5.2
  rw [← hn] at htk hlen
  have hW := AX n (by omega)
  refine zC ?_
  refine ca [0, 1, 2, 3, 4, 5, 6, 7, 8, 9, 10, 11, 12] [12] <| a_ (fun _ => Qa) <| a_ (fun _ => Qa) <| a_ (fun _ => Qa) <| a_ (fun _ => Qa) <| a_ (fun _ => Qe) <| a_ (fun _ => Qc) <| a_ (fun _ => Xp) <| QR (hc := htk) ?_
  refine a_ (fun _ => Qr (hW)) <| a_ (fun _ => Qe) <| a_ (fun _ => Qc) <| a_ (fun _ => Xp) ?_
  refine Vu ?_ ?_
  ·rw [U5]; show _ + 22 ≤ 116; omega
  rw [OQ hi5.1 hi5.2]
  apply an
  refine zC ?_
  refine cr <| s_ Qa <| s_ (Qr (hI)) <| s_ Qb <| zC ?_
  refine zR ?_
  refine rh kR ⟨rfl, ?_, ?_, l', hB'⟩ (Le.refl _)
  ·unfold ZB
   rw [if_pos hi, ← hn]
   refine ⟨by show (x.ns.set _ _).length = 5; rw [List.length_set]; exact hns, haw, ?_⟩
   rw [L7 (by omega)]
   exact ⟨v, Hm, h1, rfl⟩
  ·unfold ZB
   rw [if_pos hi]
   exact hG.wake h5
 ·intro hi
  refine zC ?_
  refine cr <| s_ Qa <| s_ (Qr (hI)) <| s_ Qb <| zC ?_
  refine zR ?_
  refine rh kR ⟨rfl, ?_, ?_, l', hB'⟩ (Le.refl _)
  ·unfold ZB
   rw [if_neg hi]
   exact ⟨hns, haw, v, Hm, h1, rfl⟩
  ·unfold ZB
   rw [if_neg hi]
   exact hG
end
end Go.Proofs.YtjbokbikkcfjjaaGreat
