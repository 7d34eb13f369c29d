/-
  Chapter 20 in plain words: a committee whose disks are whole, as nodes alone.
-/
import Derived.Test.YtjbokbikkcfjjaaGreatAau
set_option maxRecDepth 16000
set_option maxHeartbeats 8000000
set_option linter.all false
namespace Go.Proofs.YtjbokbikkcfjjaaGreat
open Go.Cap
structure Gn where
 ns : List Nd
 aw : List Bool
 way : List Ms
def Gn.n (g : Gn) (i : Nat) : Nd := g.ns.getD i default
def thN (g : Gn) (i : Int) : Bool := decide (isI i) && !(g.aw.getD i.toNat false)
def It (g : Gn) (i : Nat) (t : Nd) (l : List Ms) : Gn := { g with ns := g.ns.set i t, way := g.way ++ l }
def Dw (g : Gn) (i : Int) : Gn := if thN g i then It g i.toNat (Xt (g.n i.toNat)).1 (Xt (g.n i.toNat)).2 else g
def Dy (g : Gn) (m : Ms) : Gn := if thN g m.to then It g m.to.toNat (Xq (g.n m.to.toNat) m).1 (Xq (g.n m.to.toNat) m).2 else g
def U3 (g : Gn) (k : Nat) : Gn := (List.range k).foldl (fun g (i : Nat) => Dw g (i : Int)) g
def MP (g : Gn) : Gn := U3 (g.way.foldl Dy { g with way := [] }) 5
def Rh (g : Gn) : Nat → Gn
 | 0 => g
 | n + 1 => MP (Rh g n)
def Cm (conf : Int) : Gn := ⟨(List.range 5).map fun (i : Nat) => XA (i : Int) conf, [false, false, false, false, false], []⟩
def prG (g : Gp) : Gn := ⟨g.ks.map (·.N), g.aw, g.way⟩
structure VO (n0 : Nd) (K : Kp) : Prop where
 live : UR n0 524100 K
 left : K.d.left = 0
 room : K.d.room = 1048576
def GL (conf : Int) (g : Gp) : Prop := ∀ i : Nat, i < 5 → VO (XA i conf) (g.k i)
section
variable {P : Nat → En → Prop} {g : Gp} {τ l u : Nat} {conf : Int}
theorem G3 (g : Gp) (i : Nat) (hi : i < g.ks.length) : (prG g).n i = (g.k i).N := by
 unfold Gn.n prG Gp.k
 simp [List.getD_eq_getElem?_getD, hi]
theorem GL.there (h : GL conf g) (i : Int) : Xa g i = thN (prG g) i := by
 unfold Xa thN
 by_cases hi : isI i
 ·have := (h _ (YD hi).1).live.dead
  rw [this]; simp [prG]
 ·simp [hi]
theorem VO.keep {n0 : Nd} {K : Kp} (h : VO n0 K) {t : Nd} (hid : t.id = n0.id) (hsz : Sz t) (hr : (Qo t 0).length ≤ 524100) : (QO K t 0).2 = 0 ∧ VO n0 (QO K t 0).1 ∧ (QO K t 0).1.N = t := by
 obtain ⟨K', h1, h2, h3, h4, h5⟩ := EQ h.live h.left (by rw [h.room]; omega) hid hsz hr (by omega)
 rw [h1]
 exact ⟨rfl, ⟨h2, h4, by rw [h5]; exact h.room⟩, h3⟩
theorem GL.set (h : GL conf g) (hks : g.ks.length = 5) {i : Nat} {K : Kp} (w : List Ms) (hK : VO (XA i conf) K) : GL conf { g with ks := g.ks.set i K, way := w } := by
 intro j hj
 rw [Gp.k_set (by rw [hks]; exact hj)]
 split
 ·rename_i e; subst e; exact hK
 ·exact h j hj
theorem GL.did (h : GL conf g) (hks : g.ks.length = 5) {i : Nat} (hi : i < 5) {t : Nd} {out : List Ms} (hid : t.id = i) (hsz : Sz t) (hr : (Qo t 0).length ≤ 524100) : GL conf (didG g i t out) ∧ prG (didG g i t out) = It (prG g) i t out := by
 obtain ⟨h1, h2, h3⟩ := (h i hi).keep (t := t) (by rw [hid]; rfl) hsz hr
 unfold didG
 rw [if_pos h1]
 refine ⟨h.set hks _ h2, ?_⟩
 unfold prG It
 simp only [List.map_set, h3]
theorem GL.tick (hP : PK P) (h : GL conf g) (hb : GB P g τ l u) (hu : u + 1 ≤ 25000) (i : Int) : GL conf (Zq g i) ∧ prG (Zq g i) = Dw (prG g) i := by
 unfold Zq Dw
 rw [h.there]
 split
 ·rename_i hth
  have hth' : Xa g i = true := by rw [h.there]; exact hth
  obtain ⟨h5, _⟩ := YD (YH hth')
  have hw := (hb.nb _ h5).tick hP.toPO (by have := hb.tau; omega)
  obtain ⟨hsz, hrc⟩ := hw.sz hP (by have := hb.pot h5; omega) (by have := hb.tau; omega)
  rw [G3 g _ (by rw [hb.ks]; exact h5)]
  exact h.did hb.ks h5 ((Ly _).trans (hb.id _ h5)) hsz hrc
 ·exact ⟨h, rfl⟩
theorem GL.take (hP : PK P) (h : GL conf g) (hb : GB P g τ l u) (hu : u ≤ 25000) {m : Ms} (hm : MB P m τ l) : GL conf (Yb g m) ∧ prG (Yb g m) = Dy (prG g) m := by
 unfold Yb Dy
 rw [h.there]
 split
 ·rename_i hth
  have hth' : Xa g m.to = true := by rw [h.there]; exact hth
  obtain ⟨h5, _⟩ := YD (YH hth')
  have hw := (hb.nb _ h5).take hP.toPO hm (by have := hb.tau; omega)
  obtain ⟨hsz, hrc⟩ := hw.sz hP (by have := hb.pot h5; omega) (by have := hb.tau; omega)
  rw [G3 g _ (by rw [hb.ks]; exact h5)]
  exact h.did hb.ks h5 ((LA _ _).trans (hb.id _ h5)) hsz hrc
 ·exact ⟨h, rfl⟩
theorem GL.takes (hP : PK P) (hu : u ≤ 25000) : ∀ (ms : List Ms) {g : Gp} {l : Nat}, GL conf g → GB P g τ l u → (∀ m ∈ ms, MB P m τ l) → g.way.length + ms.length ≤ 5 * (u + l) → GL conf (ms.foldl Yb g) ∧ prG (ms.foldl Yb g) = ms.foldl Dy (prG g)
 | [], g, l, h, _, _, _ => ⟨h, rfl⟩
 | m :: ms, g, l, h, hb, hm, hw => by
  rw [List.length_cons] at hw
  have ht := hb.tau
  obtain ⟨h1, h2⟩ := h.take hP hb hu (hm m List.mem_cons_self)
  obtain ⟨l1, h3, h4, h5⟩ := hb.take hP.toPO (by omega) (hm m List.mem_cons_self) (by omega)
  obtain ⟨h6, h7⟩ := GL.takes hP hu ms h1 h3 (fun x hx => (hm x (List.mem_cons_of_mem _ hx)).le (Nat.le_refl _) h4) (by omega)
  exact ⟨h6, by rw [List.foldl_cons, h7, h2, List.foldl_cons]⟩
theorem Lx (g : Gn) (k : Nat) : U3 g (k + 1) = Dw (U3 g k) (k : Int) := by
 unfold U3
 rw [List.range_succ, List.foldl_append]
 rfl
theorem GL.ticks (hP : PK P) (h : GL conf g) (hb : GB P g τ l u) : ∀ k : Nat, u + k ≤ 25000 → GL conf (ZK g k) ∧ prG (ZK g k) = U3 (prG g) k
 | 0, _ => ⟨h, rfl⟩
 | k + 1, hu => by
  have ht := hb.tau
  obtain ⟨h1, h2⟩ := GL.ticks hP h hb k (by omega)
  obtain ⟨l1, h3, _⟩ := hb.ticks hP.toPO k (by omega)
  obtain ⟨h4, h5⟩ := h1.tick hP h3 (by omega) (k : Int)
  rw [JG, Lx, h5, h2]
  exact ⟨h4, rfl⟩
theorem GL.out (h : GL conf g) (w : List Ms) : GL conf { g with way := w } := h
theorem GL.round (hP : PK P) (h : GL conf g) (hb : GB P g τ l u) (hu : u + 5 ≤ 25000) : GL conf (Jg g) ∧ prG (Jg g) = MP (prG g) := by
 have ht := hb.tau
 have hb0 := hb.out (w := []) (by simp) (by simp)
 obtain ⟨h1, h2⟩ := GL.takes hP (by omega) g.way (h.out []) hb0 hb.way (by simpa using hb.many)
 obtain ⟨l1, h3, _⟩ := GB.takes hP.toPO (by omega) g.way hb0 hb.way (by simpa using hb.many)
 obtain ⟨h4, h5⟩ := h1.ticks hP h3 5 (by omega)
 unfold Jg MP
 exact ⟨h4, by rw [h5, h2]; rfl⟩
theorem GL.calm (hP : PK P) (h : GL conf g) (hb : GB P g τ l u) : ∀ k : Nat, u + 5 * k ≤ 25000 → GL conf (Z0 g k) ∧ prG (Z0 g k) = Rh (prG g) k
 | 0, _ => ⟨h, rfl⟩
 | k + 1, hu => by
  have ht := hb.tau
  obtain ⟨h1, h2⟩ := GL.calm hP h hb k (by omega)
  obtain ⟨l1, h3, _⟩ := hb.calm hP.toPO k (by omega)
  obtain ⟨h4, h5⟩ := h1.round hP h3 (by omega)
  exact ⟨h4, by show prG (Jg (Z0 g k)) = _; rw [h5, h2]; rfl⟩
end
theorem Ib : ((Rh (Cm 7) 30).n 0).role = 2 := by decide +kernel
end Go.Proofs.YtjbokbikkcfjjaaGreat
namespace Go.Proofs.YtjbokbikkcfjjaaGreat
open Go.Cap
attribute [local irreducible] POp Qf Bv EOp Sim FnH T.gp
def d0 : Dk := ⟨0, 0, false, [], 0, [], 1048576⟩
theorem Ci {id conf : Int} (h0 : 0 ≤ id) (h1 : id < 5) (h2 : 0 ≤ conf) (h3 : conf ≤ 31) : Sz (XA id conf) ∧ (Qo (XA id conf) 0).length ≤ 524100 := by
 have hk := Cj h0 h1 h2 h3
 exact ⟨hk.sz (by omega), by have := hk.rec_; omega⟩
theorem OL (bd : Nat) (id conf : Int) (h0 : 0 ≤ id) (h1 : id < 5) (h2 : 0 ≤ conf) (h3 : conf ≤ 31) :
  FnH Tryz.prog 34 [pW bd, ei id, ei conf] (DkH bd d0) (fun r H => ∃ bk bj K2, r = .tup [pW bk, ei 0] ∧ H = mH ⟨bd, bk, bj⟩ K2 ∧ VO (XA id conf) K2 ∧ K2.N = XA id conf) := by
 obtain ⟨s1, s2⟩ := Ci h0 h1 h2 h3
 have hl := Ol (n0 := XA id conf) (R := 524100) 1048576 rfl s1 s2 (by omega) (by omega)
 refine FnH.mono (EJ bd id conf hl rfl (Cl id conf h0 h1 h2 h3) rfl (by simp [XA]) (by omega) s1 s2) ?_
 rintro r H ⟨bk, bj, K2, e1, e2, e3, e4, e5⟩
 exact ⟨bk, bj, K2, e1, e2, ⟨e3, by rw [e5], by rw [e5]⟩, e4⟩
def gN (conf : Int) (a : Nat → Ad) (n : Nat) (bm : Nat) : List T :=
 let p := fun (j : Nat) (x : Nat) => if j < n then pW x else .v (.pointer none)
 [ei conf, p 0 (a 0).bd, p 0 (a 0).bk, p 1 (a 1).bd, p 1 (a 1).bk, p 2 (a 2).bd, p 2 (a 2).bk, p 3 (a 3).bd, p 3 (a 3).bk, p 4 (a 4).bd, p 4 (a 4).bk, .v (.map (some bm)), .v (.slice none 0 0)]
theorem Bf (conf : Int) (a : Nat → Ad) {n : Nat} (hn : n < 5) (bm : Nat) (x : Ad) : Zn (gN conf a n bm) (0 + 1 + ((n : Nat) : Int).toNat * 2) [pW x.bd, pW x.bk] (gN conf (upA a n x) (n + 1) bm) := by
 have h : ∀ n : Fin 5, Zn (gN conf a n.val bm) (0 + 1 + ((n.val : Nat) : Int).toNat * 2) [pW x.bd, pW x.bk] (gN conf (upA a n.val x) (n.val + 1) bm) := by
  intro n
  match n with
  | 0 => show Zn _ 1 _ _; unfold gN upA; exact zy
  | 1 => show Zn _ 3 _ _; unfold gN upA; exact zy
  | 2 => show Zn _ 5 _ _; unfold gN upA; exact zy
  | 3 => show Zn _ 7 _ _; unfold gN upA; exact zy
  | 4 => show Zn _ 9 _ _; unfold gN upA; exact zy
 exact h ⟨n, hn⟩
def gMk (a : Nat → Ad) (k : Nat → Kp) (n : Nat) : Qb := (List.range n).flatMap fun j => mH (a j) (k j)
theorem OS (a : Nat → Ad) (k : Nat → Kp) (n : Nat) (x : Ad) (K : Kp) : gMk (upA a n x) (upA k n K) (n + 1) = gMk a k n ++ mH x K := by
 unfold gMk
 rw [List.range_succ, List.flatMap_append, List.flatMap_cons, List.flatMap_nil, List.append_nil]
 congr 1
 ·have h : ∀ l : List Nat, (∀ j ∈ l, j < n) → (l.flatMap fun j => mH (upA a n x j) (upA k n K j)) = l.flatMap fun j => mH (a j) (k j) := by
   intro l
   induction l with
   | nil => intro _; rfl
   | cons j l ih =>
    intro hl
    have hj := hl j List.mem_cons_self
    rw [List.flatMap_cons, List.flatMap_cons, ih fun y hy => hl y (List.mem_cons_of_mem _ hy)]
    unfold upA
    rw [if_neg (by omega), if_neg (by omega)]
  exact h _ fun j hj => List.mem_range.1 hj
 ·simp [upA]
def Us (conf : Int) (k : Nat → Kp) : Gp := ⟨conf, (List.range 5).map k, [false, false, false, false, false], []⟩
theorem Cn (conf : Int) (k : Nat → Kp) {i : Nat} (hi : i < 5) : (Us conf k).k i = k i := by
 unfold Us Gp.k
 simp only [List.getD_eq_getElem?_getD, List.getElem?_map, List.getElem?_range hi, Option.map_some, Option.getD_some]
theorem OP (conf : Int) (h : ¬ (1 ≤ conf ∧ conf ≤ 31)) : FnH Tryz.prog 10 [ei conf] [] (fun r H => r = .tup [.v (.pointer none), ei 1] ∧ H = []) := by
 refine fe Tryz.func10 fun S0 w0 => ?_
 show Sim _ _ [(0, ei conf)] [] _
 refine zC ?_
 refine cr <| s_ Qc <| s_ Qc <| zC ?_
 refine cr <| s_ Qa <| s_ QX <| s_ Qa <| gF (fun hg => Qa) ?_
 refine gF (fun hg => XZ (hx := u_ hg)) ?_
 refine s_ Yc <| zC ?_
 refine ci ?_ ?_
 ·intro _
  refine zC ?_
  refine cr <| s_ Qc <| s_ Qc <| zC ?_
  refine zR ?_
  exact rh kR ⟨rfl, rfl⟩ (Le.refl _)
 ·intro hc
  exact absurd ⟨by omega, by omega⟩ h
theorem Lf (P : Nat → En → Prop) (conf : Int) (h1 : 1 ≤ conf) (h2 : conf ≤ 31) : FnH Tryz.prog 10 [ei conf] [] (fun r H => ∃ bg g, r = .tup [pW bg, ei 0] ∧ IsG bg g H ∧ GB P g 0 0 0 ∧ GL conf g ∧ prG g = Cm conf ∧ g.conf = conf) := by
 refine fe Tryz.func10 fun S0 w0 => ?_
 show Sim _ _ [(0, ei conf)] [] _
 refine zC ?_
 refine cr <| s_ Qc <| s_ Qc <| zC ?_
 refine cr <| s_ Qa <| s_ QX <| s_ Qa <| gF (fun hg => Qa) ?_
 refine gF (fun hg => XZ (hx := u_ hg)) ?_
 refine s_ Yc <| zC ?_
 refine ci ?_ ?_
 ·intro hc; omega
 intro _
 refine zC ?_
 refine cr <| s_ Qa ?_
 refine Bk fun b17 _ => ?_
 refine s_ (ZA 13 [_, _, _, _, _, _, _, _, _, _, _, _, _]) ?_
 refine XO fun b19 _ => ?_
 refine s_ Qc <| zC ?_
 refine cr <| s_ Qa <| zC ?_
 apply Qt (σ := Nat × (Nat → Ad) × (Nat → Kp)) (ok := fun s => s.1 ≤ 5 ∧ ∀ j : Nat, j < s.1 → VO (XA j conf) (s.2.2 j) ∧ (s.2.2 j).N = XA j conf) (env := fun s => [(20, ei s.1), (4, pW b19), (0, ei conf)]) (heap := fun s => (b19, ⟨tG, gN conf s.2.1 s.1 b17, 13⟩) :: (b17, ⟨.map [] 0, [], 0⟩) :: gMk s.2.1 s.2.2 s.1) (μ := fun s => 5 - s.1) (s0 := (0, fun _ => ⟨0, 0, 0⟩, fun _ => default))
 ·exact ⟨Nat.zero_le _, fun j hj => absurd hj (Nat.not_lt_zero j)⟩
 ·exact eL
 ·exact kR
 rintro ⟨n, a, k⟩ ⟨hn, hk⟩
 simp only at hn hk
 show Sim _ _ [(20, ei n), (4, pW b19), (0, ei conf)] ((b19, ⟨tG, gN conf a n b17, 13⟩) :: (b17, ⟨.map [] 0, [], 0⟩) :: gMk a k n) _
 refine zC ?_
 refine cr <| s_ QX <| zC ?_
 refine ci ?_ ?_
 ·intro hlt
  have hn5 : n < 5 := by omega
  have hD := DP 1048576 (by omega) (by omega)
  refine zC ?_
  refine cr <| s_ Qa <| s_ Qc <| zC ?_
  apply cr
  refine Q1 (Hs := []) hD (List.Perm.refl _) (fun r H' ⟨bd, hr1, hr2⟩ => ?_)
  subst hr1 hr2
  have hO := OL bd n conf (by omega) (by omega) (by omega) h2
  refine s_ Qa <| s_ QH <| s_ QH <| s_ Qc <| s_ Qc <| zC ?_
  refine cr <| s_ Qa <| s_ Qa <| s_ Qa ?_
  refine Q1 hO (List.Perm.refl _) (fun r H' ⟨bk, bj, K2, hr1, hr2, hL, hN⟩ => ?_)
  subst hr1 hr2
  refine QJ (H' := (b19, ⟨tG, gN conf a n b17, 13⟩) :: (b17, ⟨.map [] 0, [], 0⟩) :: (gMk a k n ++ mH ⟨bd, bk, bj⟩ K2)) ?_ ?_
  ·have := (List.perm_append_comm (l₁ := mH ⟨bd, bk, bj⟩ K2) (l₂ := (b19, ⟨tG, gN conf a n b17, 13⟩) :: (b17, ⟨.map [] 0, [], 0⟩) :: gMk a k n))
   exact this
  have hlay := Bf conf a hn5 b17 ⟨bd, bk, bj⟩
  refine s_ Qa <| s_ QH <| s_ QH <| s_ Qc <| s_ Qc <| zC ?_
  refine cr <| s_ Qa <| s_ Qa <| s_ Qa <| s_ Qa <| s_ (ZA 2 [_, _]) <| s_ Qe <| s_ Qd <| s_ ZQ <| QC (hc := hlay) ?_
  refine zC ?_
  refine cr <| s_ Q5 <| s_ Qa <| zC ?_
  refine ⟨(n + 1, upA a n ⟨bd, bk, bj⟩, upA k n K2), ⟨by simp only; omega, fun j hj => ?_⟩, (by simp only []; omega), ⟨?_, eL⟩, ?_⟩
  ·simp only
   unfold upA
   by_cases hjn : j = n
   ·subst hjn; rw [if_pos rfl]; exact ⟨hL, hN⟩
   ·rw [if_neg hjn]; exact hk j (by simp only at hj; omega)
  ·apply Qk; (exact zG)
   exact Le.refl _
  ·simp only
   rw [OS]
   exact kR
 ·intro hge
  have hn5 : n = 5 := by omega
  subst hn5
  refine zC ?_
  refine cr <| s_ Qa <| s_ Qc <| s_ Qc <| zC ?_
  refine zR ?_
  have hke : ∀ i : Nat, i < 5 → (Us conf k).k i = k i := fun i hi => Cn conf k hi
  refine rh kR ⟨b19, Us conf k, rfl, ⟨a, b17, [], 0, [], .slice none 0 0, ⟨X9.nil _, fun i hi => ?_⟩, Ze, ?_⟩, ?_, ?_, ?_, rfl⟩ (Le.refl _)
  ·have h : ∀ i : Fin 5, (Us conf k).aw.getD i.val false = false := by
    intro i
    match i with
    | 0 | 1 | 2 | 3 | 4 => rfl
   rw [h ⟨i, hi⟩]; rfl
  ·show _ = gH b19 conf a b17 [] 0 [] (.slice none 0 0) (Us conf k).k
   unfold gH
   rw [IZ a k (Us conf k).k hke]
   rfl
  ·refine ⟨by simp [Us], rfl, fun i hi => ?_, fun i hi => ?_, fun i hi => ?_, by simp [Us], by simp [Us], ?_, Nat.le_refl _⟩
   ·rw [hke i hi]
    have hl := (hk i hi).1.live
    obtain ⟨so, rs, hc, hnn⟩ := hl.cont
    exact ⟨hl.dk, by omega, by have := hc.len; omega⟩
   ·rw [hke i hi, (hk i hi).2]; rfl
   ·rw [hke i hi, (hk i hi).2]; exact Ck (by omega) (by omega) (by omega) h2
   ·have : ((Us conf k).ks.map fun K => Go.Proofs.YtjbokbikkcfjjaaGreat.pot K.N) = (List.range 5).map fun i => 0 := by
     unfold Us
     rw [List.map_map]
     refine List.map_congr_left fun i hi => ?_
     have hi5 := List.mem_range.1 hi
     show Go.Proofs.YtjbokbikkcfjjaaGreat.pot (k i).N = 0
     rw [(hk i hi5).2]; rfl
    rw [this]; decide
  ·intro i hi
   rw [hke i hi]; exact (hk i hi).1
  ·unfold prG Cm Us
   simp only [Gn.mk.injEq, and_true]
   rw [List.map_map]
   refine List.map_congr_left fun i hi => ?_
   exact (hk i (List.mem_range.1 hi)).2
end Go.Proofs.YtjbokbikkcfjjaaGreat
namespace Go.Proofs.YtjbokbikkcfjjaaGreat
open Go.Cap
def PS (_ : Nat) (e : En) : Prop := Ek e 100000
theorem Zy : PK PS where
 conf := fun _ _ h => ⟨h.c0, h.c1⟩
 own := fun _ t h0 h1 => ⟨h0, by simp only; omega, Int.le_refl _, by simp only; omega, by simp⟩
 sz := fun _ e h => ⟨⟨by have := h.t0; omega, by have := h.t1; omega⟩, ⟨by have := h.c0; omega, by have := h.c1; omega⟩, by have := h.cmd; omega⟩
 rec_ := fun l hl h => by
  have : ∀ e ∈ l, Ek e 100000 := fun e he => by
   obtain ⟨i, hi⟩ := List.mem_iff_getElem?.1 he
   exact h i e hi
  have := JN l this
  omega
end Go.Proofs.YtjbokbikkcfjjaaGreat
namespace Go.Cap
section
variable {P : Program} {t : Env} {H : Qb} {dst : Option Tmp} {tp : TypeId} {pos : String} {aft : Array Edge} {g : Option (Nat × Bool)} {ty ty' : TypeId} {x : Operand}
theorem WP {e : TypeId} (w : World) {ty : TypeId} (hu : P.underlying ty = some (.pointer e)) (d : Nat) : (Op.equalIn (d + 1) ty (.pointer none) (.pointer none)).run P w = .ok true w := by
 simp [Op.equalIn, run_underlying hu]
theorem Je {e : TypeId} (w : World) {ty : TypeId} (hu : P.underlying ty = some (.pointer e)) : (Op.equal ty (.pointer none) (.pointer none)).run P w = .ok true w := WP w hu 9999
theorem CZ {e : TypeId} (hx : t.ev x = .v (.pointer none) := by exact zl) (hu : P.underlying ty = some (.pointer e) := by rfl) : POp P t H ⟨dst, .binOp .eql ty x (.const (.pointer none)) ty', tp, pos, aft, g⟩ (.v (.bool (decide True))) :=
 QS hx rfl fun w => by
  have := Je w hu
  simp [eqGuard, binOp, this]
theorem CT {e : TypeId} (hx : t.ev x = .v (.pointer none) := by exact zl) (hu : P.underlying ty = some (.pointer e) := by rfl) : POp P t H ⟨dst, .binOp .neq ty x (.const (.pointer none)) ty', tp, pos, aft, g⟩ (.v (.bool (decide False))) :=
 QS hx rfl fun w => by
  have := Je w hu
  simp [eqGuard, binOp, this]
end
end Go.Cap
namespace Go.Proofs.YtjbokbikkcfjjaaGreat
open Go.Cap
attribute [local irreducible] POp Qf Bv EOp Sim FnH T.gp
theorem M4 : FnP Tryz.prog 9 [] (fun r => r = .v (.bool true)) := by
 have hN := Lf PS 7 (by omega) (by omega)
 refine fe Tryz.func9 fun S0 w0 => ?_
 show Sim _ _ [] _ _
 refine zC ?_
 refine cr <| s_ Qc <| zC ?_
 apply cr
 refine Q1 (Hs := []) (Hr := []) hN (.refl _) (fun r H ⟨bg, g, hr, hG, hB, hL, hpr, hcf⟩ => ?_)
 subst hr
 rw [List.append_nil]
 refine s_ Qa <| s_ QH <| s_ QH <| s_ Qc <| s_ Qc <| zC ?_
 refine cr <| s_ Qa <| s_ Yw <| s_ Qa <| gF (fun hg => Qa) ?_
 refine gF (p := ¬ (0 : Int) = 0) (fun hg => Ce (hx := u_ hg)) ?_
 refine s_ Yc <| zC ?_
 refine ci ?_ ?_
 ·rintro (h | h)
  ·exact absurd rfl h
  ·exact h.elim
 intro _
 have hC := Mh Zy bg g H 30 30 (by omega) hB (by omega) hG
 obtain ⟨l1, hB1, _⟩ := hB.calm Zy.toPO 30 (by omega)
 obtain ⟨hL1, hpr1⟩ := hL.calm Zy hB 30 (by omega)
 obtain ⟨g1, hg1⟩ : ∃ g1, g1 = Z0 g 30 := ⟨_, rfl⟩
 rw [← hg1] at hC hB1 hL1 hpr1
 rw [hpr] at hpr1
 refine zC ?_
 refine cr <| s_ Qa ?_
 refine QN hC (fun r H' ⟨hr1, hG1⟩ => ?_)
 subst hr1
 have h0 : isI 0 := ⟨by omega, by omega⟩
 have h5 : ¬ isI 5 := fun h => absurd h.2 (by omega)
 have hK5 := Me bg g1 H' 5 h5 hG1
 obtain ⟨a, bm, em, clk, W, wv, hA, hO, rfl⟩ := hG1
 have hK0 := E1 bg g1 0 h0 (a := a) (bm := bm) (clk := clk) hA hO
 have hlen := (hB1.nb 0 (by omega)).len
 have hfv := hB1.five
 have hNo := OO (bg := bg) (g := g1) (a := a) (bm := bm) (es := em) (clk := clk) (W := W) (wv := wv) (i := 0) (by omega) (by omega)
 have hrole : (g1.k 0).N.role = 2 := by
  rw [← G3 g1 0 (by rw [hB1.ks]; omega), hpr1]
  exact Ib
 refine zC ?_
 refine cr <| s_ Qa ?_
 refine QN hK0 (fun r H' ⟨hr1, hr2⟩ => ?_)
 subst hr1 hr2
 refine s_ Ce <| s_ Qa <| gF (fun hg => Qa) ?_
 refine OT (p := False) (Hr := []) (fun h => h) hK5 (by rw [List.append_nil]) (fun r H' ⟨hr1, hr2⟩ => ?_) (ha' := Qp (u_ (fun h => h)) (Qp Jk Xj))
 subst hr1 hr2
 rw [List.append_nil]
 refine gF (p := False) (fun hg => CT) ?_
 refine s_ Yc <| zC ?_
 refine ci ?_ ?_
 ·rintro (h | h)
  ·exact h.elim
  ·exact h.elim
 intro _
 refine zC ?_
 refine cr <| s_ Qa ?_
 refine QN hK0 (fun r H' ⟨hr1, hr2⟩ => ?_)
 subst hr1 hr2
 refine QN hNo (fun r H' ⟨hr1, hr2⟩ => ?_)
 subst hr1 hr2
 refine s_ BB <| s_ Xy <| s_ Qc <| zC ?_
 refine zE ?_
 exact Le.of_eq (by show T.v (.bool (decide ((g1.k 0).N.role = 2))) = _; rw [decide_eq_true hrole])
theorem E3 (bg : Nat) (g : Gp) (H : Qb) (i : Int) (hi : ¬ isI i) (hG : IsG bg g H) : FnH Tryz.prog 19 [pW bg, ei i] H (fun r H' => r = .v (.slice none 0 0) ∧ H' = H) := by
 have hT := Ji bg g H i hG
 refine fe Tryz.func19 fun S0 w0 => ?_
 show Sim _ _ [(0, pW bg), (1, ei i)] H _
 refine zC ?_
 refine cr <| s_ Qc <| zC ?_
 refine cr <| s_ Qa <| s_ Qa ?_
 refine QN hT (fun r H' ⟨hr1, hr2⟩ => ?_)
 subst hr1 hr2
 refine s_ XY <| zC ?_
 refine ci (p := ¬ isI i) (fun _ => ?_) (fun h => absurd hi h)
 refine zC ?_
 refine cr <| s_ Qc <| zC ?_
 refine zR ?_
 exact rh kR ⟨rfl, rfl⟩ (Le.refl _)
theorem E0 (bg : Nat) (g : Gp) (H : Qb) (i n : Int) (hi : ¬ isI i) (hG : IsG bg g H) : FnH Tryz.prog 21 [pW bg, ei i, ei n] H (fun r H' => r = .v (.bool (decide False)) ∧ H' = H) := by
 have hT := Ji bg g H i hG
 refine fe Tryz.func21 fun S0 w0 => ?_
 show Sim _ _ [(0, pW bg), (1, ei i), (2, ei n)] H _
 refine zC ?_
 refine cr <| s_ Qc <| zC ?_
 refine cr <| s_ Qa <| s_ Qa ?_
 refine QN hT (fun r H' ⟨hr1, hr2⟩ => ?_)
 subst hr1 hr2
 refine s_ XY <| zC ?_
 refine ci (p := ¬ isI i) (fun _ => ?_) (fun h => absurd hi h)
 refine zC ?_
 refine cr <| s_ Qc <| zC ?_
 refine zR ?_
 exact rh kR ⟨rfl, rfl⟩ (Le.refl _)
theorem M8 (bg : Nat) (g : Gp) (H : Qb) (i n : Int) (hi : ¬ isI i) (hG : IsG bg g H) : FnH Tryz.prog 24 [pW bg, ei i, ei n] H (fun r H' => r = .v (.bool (decide False)) ∧ H' = H) := by
 have hT := Ji bg g H i hG
 refine fe Tryz.func24 fun S0 w0 => ?_
 show Sim _ _ [(0, pW bg), (1, ei i), (2, ei n)] H _
 refine zC ?_
 refine cr <| s_ Qc <| zC ?_
 refine cr <| s_ Qa <| s_ Qa ?_
 refine QN hT (fun r H' ⟨hr1, hr2⟩ => ?_)
 subst hr1 hr2
 refine s_ XY <| zC ?_
 refine ci (p := ¬ isI i) (fun _ => ?_) (fun h => absurd hi h)
 refine zC ?_
 refine cr <| s_ Qc <| zC ?_
 refine zR ?_
 exact rh kR ⟨rfl, rfl⟩ (Le.refl _)
theorem Ok {g : Gp} {i : Int} (hi : ¬ isI i) : Zq g i = g ∧ MD g i true = g ∧ Yj g i = 2 := by
 refine ⟨?_, ?_, ?_⟩
 ·unfold Zq Xa; simp [hi]
 ·unfold MD; rw [if_neg hi]
 ·unfold Yj; rw [if_pos hi]
theorem If (bg : Nat) (g : Gp) (H : Qb) (i : Int) (cmd : List UInt8) (hask : ¬ Yj g i = 0) (hG : IsG bg g H) : FnH Tryz.prog 17 [pW bg, ei i, es cmd] H (fun r H' => r = ei (Yj g i) ∧ H' = H) := by
 have hAsk := Wo bg g H i hG
 refine fe Tryz.func17 fun S0 w0 => ?_
 show Sim _ _ [(0, pW bg), (1, ei i), (2, es cmd)] H _
 refine zC ?_
 refine cr <| s_ Qc <| zC ?_
 refine cr <| s_ Qa <| s_ Qa ?_
 refine QN hAsk (fun r H' ⟨hr1, hr2⟩ => ?_)
 subst hr1 hr2
 refine s_ Qc <| zC ?_
 refine cr <| s_ Qa <| s_ Yw <| zC ?_
 refine ci (p := ¬ Yj g i = 0) (fun _ => ?_) (fun h => absurd hask h)
 refine zC ?_
 refine cr <| s_ Qa <| s_ Qc <| zC ?_
 refine zR ?_
 exact rh kR ⟨rfl, rfl⟩ (Le.refl _)
theorem Mg (bg : Nat) (g : Gp) (H : Qb) (i : Int) (conf : Int) (hask : ¬ Yj g i = 0) (hG : IsG bg g H) : FnH Tryz.prog 27 [pW bg, ei i, ei conf] H (fun r H' => r = ei (Yj g i) ∧ H' = H) := by
 have hAsk := Wo bg g H i hG
 refine fe Tryz.func27 fun S0 w0 => ?_
 show Sim _ _ [(0, pW bg), (1, ei i), (2, ei conf)] H _
 refine zC ?_
 refine cr <| s_ Qc <| zC ?_
 refine cr <| s_ Qa <| s_ Qa ?_
 refine QN hAsk (fun r H' ⟨hr1, hr2⟩ => ?_)
 subst hr1 hr2
 refine s_ Qc <| zC ?_
 refine cr <| s_ Qa <| s_ Yw <| zC ?_
 refine ci (p := ¬ Yj g i = 0) (fun _ => ?_) (fun h => absurd hask h)
 refine zC ?_
 refine cr <| s_ Qa <| s_ Qc <| zC ?_
 refine zR ?_
 exact rh kR ⟨rfl, rfl⟩ (Le.refl _)
def BL (conf : Int) (r : T) (H : Qb) : Prop := ∃ p e, r = .tup [.v (.pointer p), ei e] ∧ ((p ≠ none ∧ e = 0 ∧ 1 ≤ conf ∧ conf ≤ 31) ∨ (p = none ∧ e = 1 ∧ ¬ (1 ≤ conf ∧ conf ≤ 31) ∧ H = []))
theorem Rw (conf : Int) : FnH Tryz.prog 10 [ei conf] [] (BL conf) := by
 by_cases h : 1 ≤ conf ∧ conf ≤ 31
 ·refine (Lf PS conf h.1 h.2).mono ?_
  rintro r H ⟨bg, g, rfl, _⟩
  exact ⟨some ⟨bg, 0, none⟩, 0, rfl, .inl ⟨by simp, rfl, h.1, h.2⟩⟩
 ·refine (OP conf h).mono ?_
  rintro r H ⟨rfl, rfl⟩
  exact ⟨none, 1, rfl, .inr ⟨rfl, rfl, h, rfl⟩⟩
theorem MO {P : Program} {e : TypeId} {p : Option Addr} (w : World) {ty : TypeId} (hu : P.underlying ty = some (.pointer e)) : (Op.equal ty (.pointer p) (.pointer none)).run P w = .ok (decide (p = none)) w := by
 cases p with
 | none => have := Je w hu; simpa using this
 | some a => have := U8 (a := a) w hu; simpa using this
theorem CS {P : Program} {t : Env} {H : Qb} {dst : Option Tmp} {tp : TypeId} {pos : String} {aft : Array Edge} {g : Option (Nat × Bool)} {ty ty' : TypeId} {x : Operand} {p : Option Addr} {e : TypeId} (hx : t.ev x = .v (.pointer p) := by exact zl) (hu : P.underlying ty = some (.pointer e) := by rfl) : POp P t H ⟨dst, .binOp .neq ty x (.const (.pointer none)) ty', tp, pos, aft, g⟩ (.v (.bool (decide (¬ p = none)))) :=
 QS hx rfl fun w => by
  have := MO (p := p) w hu
  simp [eqGuard, binOp, this]
theorem ON (i0 conf : Int) : FnP Tryz.prog 6 [ei i0, ei conf] (fun r => r = .v (.bool true)) := by
 have hK := M4
 have hN := Lf PS 7 (by omega) (by omega)
 have hX := Rw conf
 have hD := DP 1 (by omega) (by omega)
 refine fe Tryz.func6 fun S0 w0 => ?_
 show Sim _ _ [(0, ei i0), (1, ei conf)] _ _
 refine zC ?_
 refine cr <| s_ Qc <| zC ?_
 refine cr <| s_ (QM (hK)) <| s_ CP <| zC ?_
 refine ci (p := False) (fun h => h.elim) (fun _ => ?_)
 obtain ⟨i, hi⟩ : ∃ i : Int, i = if 0 ≤ i0 ∧ i0 < 5 then i0 + 5 else i0 := ⟨_, rfl⟩
 have hno : ¬ isI i := by
  rw [hi]; unfold isI; split <;> omega
 refine zC ?_
 refine cr <| s_ Qa <| s_ Vc <| s_ Qa <| gT (fun hg => Qa) ?_
 refine gT (fun hg => QX (hx := u_ hg)) ?_
 refine s_ Xz <| zC ?_
 refine Jn [(0, ei i), (1, ei conf)] [] ?_ ?_
 ·refine ci ?_ ?_
  ·intro h
   rw [if_pos h] at hi
   subst hi
   refine zC ?_
   refine cr <| s_ Qa <| s_ Q5 <| s_ Qc <| zC ?_
   exact ⟨eL, kR⟩
  ·intro h
   rw [if_neg h] at hi
   subst hi
   refine zC ?_
   exact ⟨eL, kR⟩
 refine zC ?_
 apply cr
 refine Q1 (Hs := []) (Hr := []) hN (.refl _) (fun r H ⟨bg, g, hr, hG, hB, hL, hpr, hcf⟩ => ?_)
 subst hr
 rw [List.append_nil]
 have hC := Mh Zy bg g H 12 12 (by omega) hB (by omega) hG
 obtain ⟨l1, hB1, _⟩ := hB.calm Zy.toPO 12 (by omega)
 obtain ⟨g1, hg1⟩ : ∃ g1, g1 = Z0 g 12 := ⟨_, rfl⟩
 rw [← hg1] at hC hB1
 refine s_ Qa <| s_ QH <| s_ QH <| s_ Qc <| s_ Qc <| zC ?_
 refine cr <| s_ Qa ?_
 refine QN hC (fun r H1 ⟨hr1, hG1⟩ => ?_)
 subst hr1
 have hU := Wn bg g1 H1 hG1
 refine zC ?_
 refine cr <| s_ Qa ?_
 refine QN hU (fun r H2 ⟨hr1, hr2⟩ => ?_)
 subst hr1 hr2
 have hT := Ma Zy bg g1 H2 i hB1 (by omega) hG1
 rw [(Ok (g := g1) hno).1] at hT
 refine s_ Qc <| zC ?_
 refine cr <| s_ Qa <| s_ Qa ?_
 refine QN hT (fun r H3 ⟨hr1, hG3⟩ => ?_)
 subst hr1
 refine zC ?_
 apply cr
 refine Q1 (Hs := []) (Hr := H3) hD (.refl _) (fun r Hd ⟨bd, hr1, hr2⟩ => ?_)
 subst hr1
 refine s_ Qa <| s_ QH <| s_ QH <| s_ Qc <| s_ Qc <| zC ?_
 refine cr <| s_ Qa <| s_ Ce <| s_ Qa <| gF (fun hg => Qa) ?_
 refine gF (fun hg => Yw (hx := u_ hg)) ?_
 refine s_ Yc <| zC ?_
 refine ci ?_ ?_
 ·rintro (h | h)
  ·exact h.elim
  ·exact absurd rfl h
 intro _
 refine zC ?_
 refine cr <| s_ Qa ?_
 refine Q1 (Hs := []) (Hr := Hd ++ H3) hX (.refl _) (fun r Hx hx => ?_)
 obtain ⟨p, e, rfl, hcase⟩ := hx
 refine s_ Qa <| s_ QH <| s_ QH <| s_ Qc <| s_ Qc <| zC ?_
 refine cr <| s_ Qa <| s_ Vc <| s_ Qa <| gT (fun hg => Qa) ?_
 refine gT (fun hg => Of (hx := u_ hg)) ?_
 refine s_ Xz <| s_ Qc <| zC ?_
 have hU3 := Wn bg g1 H3 hG3
 have hK3 := Me bg g1 H3 i hno hG3
 have hD3 := E3 bg g1 H3 i hno hG3
 have hS3 := E0 bg g1 H3 i 1 hno hG3
 have hC3 := M8 bg g1 H3 i 1 hno hG3
 have hA3 := OR bg g1 H3 i true hB1 hG3
 rw [(Ok (g := g1) hno).2.1] at hA3
 have h8 : e = 0 ↔ (1 ≤ conf ∧ conf ≤ 31) := by
  rcases hcase with ⟨_, h2, h3, h4⟩ | ⟨_, h2, h3, _⟩
  ·exact ⟨fun _ => ⟨h3, h4⟩, fun _ => h2⟩
  ·exact ⟨fun h => by omega, fun h => absurd h h3⟩
 have h9 : ¬ p = none ↔ (1 ≤ conf ∧ conf ≤ 31) := by
  rcases hcase with ⟨h1, _, h3, h4⟩ | ⟨h1, _, h3, _⟩
  ·exact ⟨fun _ => ⟨h3, h4⟩, fun _ => h1⟩
  ·exact ⟨fun h => absurd h1 h, fun h => absurd h h3⟩
 have p0 : (g1.way.length : Int) = (g1.way.length : Int) := rfl
 have p1 := And.intro p0 trivial
 have p2 := And.intro p1 (show (0 : Int) = 0 from rfl)
 have p3 := And.intro p2 (show ¬ False from fun h => h)
 have p4 := And.intro p3 (show ¬ False from fun h => h)
 have p5 := And.intro p4 hno
 have p6 := And.intro p5 (show (2 : Int) = 2 from rfl)
 have p7 := And.intro p6 (show (2 : Int) = 2 from rfl)
 have p8 := And.intro p7 h8
 have p9 := And.intro p8 h9
 refine X2 (H' := H3 ++ (Hx ++ Hd)) (by rw [← List.append_assoc]; exact List.perm_append_comm) ?_
 refine zC ?_
 refine cr <| s_ Qa ?_
 refine Q1 hU3 (.refl _) (fun r H4 ⟨hr1, hr2⟩ => ?_)
 subst hr1 hr2
 refine s_ Qa <| s_ Xy <| s_ Qa <| gT (fun hg => Qa) ?_
 refine gT (fun hg => Qa) ?_
 refine UJ p0 hK3 (.refl _) (fun r H5 ⟨hr1, hr2⟩ => ?_) (ha' := Qp (u_ p0) (Qp (u_ p0) Xj))
 subst hr1 hr2
 refine gT (fun _ => CZ) ?_
 refine s_ Xz <| s_ Qa <| gT (fun hg => Qa) ?_
 refine gT (fun hg => Qa) ?_
 refine UJ p1 hD3 (.refl _) (fun r H6 ⟨hr1, hr2⟩ => ?_) (ha' := Qp (u_ p1) (Qp (u_ p1) Xj))
 subst hr1 hr2
 refine gT (fun _ => QP) ?_
 refine gT (fun hg => Xy (hx := u_ hg)) ?_
 refine s_ Xz <| s_ Qa <| gT (fun hg => Qa) ?_
 refine gT (fun hg => Qa) ?_
 refine UJ p2 hS3 (.refl _) (fun r H7 ⟨hr1, hr2⟩ => ?_) (ha' := Qp (u_ p2) (Qp (u_ p2) (Qp Jk Xj)))
 subst hr1 hr2
 refine gT (fun _ => XY) ?_
 refine s_ Xz <| s_ Qa <| gT (fun hg => Qa) ?_
 refine gT (fun hg => Qa) ?_
 refine UJ p3 hC3 (.refl _) (fun r H8 ⟨hr1, hr2⟩ => ?_) (ha' := Qp (u_ p3) (Qp (u_ p3) (Qp Jk Xj)))
 subst hr1 hr2
 refine gT (fun _ => XY) ?_
 refine s_ Xz <| s_ Qa <| gT (fun hg => Qa) ?_
 refine gT (fun hg => Qa) ?_
 refine UJ p4 hA3 (.refl _) (fun r H9 ⟨hr1, hG9⟩ => ?_) (ha' := Qp (u_ p4) (Qp (u_ p4) (Qp Uh Xj)))
 subst hr1
 refine gT (fun _ => XY (p := isI i)) ?_
 have hask : Yj g1 i = 2 := (Ok hno).2.2
 have hDo := If bg g1 H9 i [120] (by rw [hask]; omega) hG9
 have hCh := Mg bg g1 H9 i 3 (by rw [hask]; omega) hG9
 rw [hask] at hDo hCh
 refine s_ Xz <| s_ Qa <| gT (fun hg => Qa) ?_
 refine gT (fun hg => Qa) ?_
 refine UJ p5 hDo (.refl _) (fun r H10 ⟨hr1, hr2⟩ => ?_) (ha' := Qp (u_ p5) (Qp (u_ p5) (Qp Vz Xj)))
 subst hr1 hr2
 refine gT (fun _ => Xy) ?_
 refine s_ Xz <| s_ Qa <| gT (fun hg => Qa) ?_
 refine gT (fun hg => Qa) ?_
 refine UJ p6 hCh (.refl _) (fun r H11 ⟨hr1, hr2⟩ => ?_) (ha' := Qp (u_ p6) (Qp (u_ p6) (Qp Jk Xj)))
 subst hr1 hr2
 refine gT (fun _ => Xy) ?_
 refine s_ Xz <| s_ Qa <| gT (fun hg => Qa) ?_
 refine gT (fun hg => Xy (hx := u_ hg)) ?_
 refine gT (fun hg => Qa) ?_
 refine gT (fun hg => IQ (hx := u_ hg) (hy := u_ hg)) ?_
 refine s_ Xz <| s_ Qa <| gT (fun hg => Qa) ?_
 refine gT (fun hg => CS (hx := u_ hg)) ?_
 refine gT (fun hg => Qa) ?_
 refine gT (fun hg => IQ (hx := u_ hg) (hy := u_ hg)) ?_
 refine s_ Xz <| s_ Qc <| zC ?_
 refine zE ?_
 exact Le.of_eq (by show T.v (.bool (decide _)) = T.v (.bool true); rw [decide_eq_true (by simpa using p9)])
end Go.Proofs.YtjbokbikkcfjjaaGreat
namespace Go.Cap
open Go.ChangeShapes Go.WideShapes Go.ChangeAt Go.RowKit
theorem QG.below {S S' : Nat → Prop} {w w' : World} (h : QG [] S w S' w') : Below w.heap.size w w' := ⟨h.os, h.tape, h.output, h.size, fun k hk => h.keep k hk (by simp)⟩
theorem Dl {P : Program} {f : FuncId} {args : List T} (h : FnP P f args (fun r => r = .v (.bool true))) {w : World} {vs : List Value} (hr : Qr (fun b => b < w.heap.size) w args vs) :
  Calls P f vs.toArray w fun e w' => e = .returned (.bool true) ∧ Below w.heap.size w w' := by
 refine (h (fun b => b < w.heap.size) w vs (fun b hb => hb) (Own.nil _ _) hr).mono ?_
 rintro e w' ⟨u, S', r, H', rfl, ⟨_, rfl⟩, hrel, _, hst, _⟩
 exact ⟨by rw [hrel.v_eq], hst.below⟩
section
variable {H : Type} {enc : TypeId × Value → H} {P : Program}
theorem Jz (hl : laidOutB P = true) {W W' : World} (hb : Below W.heap.size W W') : ∀ (ts : List TypeId) (vs : List Value) (ds : List (DataW H)) (ps : List MemPlace),
  (∀ t ∈ ts, P.readableRec t = true ∧ t < P.types.size) → DataW.TrodAll enc P W 0 (fun _ => true) true ts vs ds ps → (∀ x ∈ ps, x.block < W.heap.size) →
  DataW.TrodAll enc P W' 0 (fun b => decide (b < W.heap.size)) true ts vs ds ps
 | [], _, _, _, _, h, _ => by
  obtain ⟨rfl, rfl, rfl⟩ := trodAll_nil h
  exact h
 | t :: ts, _, _, _, ht, h, hp => by
  obtain ⟨v, vs1, d, ds1, a, b, rfl, rfl, rfl, h1, h2⟩ := trodAll_cons h
  refine ⟨a, b, Below.trod hl (ht t List.mem_cons_self).1 (ht t List.mem_cons_self).2 h1 hb (fun x hx => hp x (List.mem_append_left _ hx)), ?_, rfl⟩
  exact Jz hl hb ts vs1 ds1 b (fun y hy => ht y (List.mem_cons_of_mem _ hy)) h2 (fun x hx => hp x (List.mem_append_right _ hx))
theorem Ey {f : Func} {s : ChangeSpec} {W W' : World} {args : Array Value} {ds gs : List (DataW H)} {before : List MemPlace} {tb : TypeId} (hl : laidOutB P = true) (hvs : s.vars = [])
  (hW : DataW.Whole enc P f.params.toList s.vars false W args.toList ds gs before) (hb : Below W.heap.size W W') (hts : (f.params.toList.all fun t => P.readableRec t && Nat.blt t P.types.size) = true)
  (hres : (s.fn H (ds ++ gs)).results = [.lit (.bool true)]) (harg : (s.fn H (ds ++ gs)).args = ds) (hvar : (s.fn H (ds ++ gs)).vars = []) (hr : f.resultTypes = #[tb]) (htb : P.underlying tb = some .bool) :
  s.post enc P f false true false false W args (.bool true) W' := by
 have hts' : ∀ t ∈ f.params.toList, P.readableRec t = true ∧ t < P.types.size := fun t ht => by
  have := List.all_eq_true.1 hts t ht
  simp only [Bool.and_eq_true] at this
  exact ⟨this.1, by simpa using this.2⟩
 have hW' := hW
 obtain ⟨p, q, hA, hV, rfl, hfz, hnd⟩ := hW
 rw [hvs] at hV
 obtain ⟨rfl, rfl⟩ := trodVars_none hV
 refine ⟨ds, [], p ++ [], [], p, [], hW', ?_, ?_, ?_, hb.frame _, fun h => by cases h⟩
 ·rw [hres, hr]
  exact trodAll_mk1 (shut_bool htb true)
 ·rw [harg]
  exact Jz hl hb _ _ _ _ hts' hA (fun x hx => hW'.lt x (by simpa using hx))
 ·rw [hvs, hvar]; rfl
end
end Go.Cap
