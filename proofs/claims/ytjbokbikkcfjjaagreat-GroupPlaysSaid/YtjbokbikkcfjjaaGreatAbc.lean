/-
  group: New.
-/
import Derived.Test.YtjbokbikkcfjjaaGreatAbb
set_option maxRecDepth 16000
set_option maxHeartbeats 8000000
set_option linter.all false
namespace Go.Proofs.YtjbokbikkcfjjaaGreat
open Go.Cap
attribute [local irreducible] POp Qi SO EOp Sim FnH T.gp
def d0 : Dk := ⟨0, 0, false, [], 0, [], 1048576⟩
theorem Kx {id conf : Int} (h0 : 0 ≤ id) (h1 : id < 5) (h2 : 0 ≤ conf) (h3 : conf ≤ 31) : Sz (XG id conf) ∧ (QD (XG id conf) 0).length ≤ 524100 := by
 have hk := Ky h0 h1 h2 h3
 exact ⟨hk.sz (by omega), by have := hk.rec_; omega⟩
theorem TV (bd : Nat) (id conf : Int) (h0 : 0 ≤ id) (h1 : id < 5) (h2 : 0 ≤ conf) (h3 : conf ≤ 31) :
  FnH Tryz.prog 34 [pW bd, ei id, ei conf] (DkH bd d0) (fun r H => ∃ bk bj K2, r = .tup [pW bk, ei 0] ∧ H = mH ⟨bd, bk, bj⟩ K2 ∧ Lh (XG id conf) K2 ∧ K2.N = XG id conf) := by
 obtain ⟨s1, s2⟩ := Kx h0 h1 h2 h3
 have hl := Tw (n0 := XG id conf) (R := 524100) 1048576 rfl s1 s2 (by omega) (by omega)
 refine FnH.mono (CW bd id conf hl rfl (Tx id conf h0 h1 h2 h3) rfl (by simp [XG]) (by omega) s1 s2) ?_
 rintro r H ⟨bk, bj, K2, e1, e2, e3, e4, e5⟩
 exact ⟨bk, bj, K2, e1, e2, ⟨e3, by rw [e5], by rw [e5]⟩, e4⟩
def gN (conf : Int) (a : Nat → Ad) (n : Nat) (bm : Nat) : List T :=
 let p := fun (j : Nat) (x : Nat) => if j < n then pW x else .v (.pointer none)
 [ei conf, p 0 (a 0).bd, p 0 (a 0).bk, p 1 (a 1).bd, p 1 (a 1).bk, p 2 (a 2).bd, p 2 (a 2).bk, p 3 (a 3).bd, p 3 (a 3).bk, p 4 (a 4).bd, p 4 (a 4).bk, .v (.map (some bm)), .v (.slice none 0 0)]
theorem Sk (conf : Int) (a : Nat → Ad) {n : Nat} (hn : n < 5) (bm : Nat) (x : Ad) : Zc (gN conf a n bm) (0 + 1 + ((n : Nat) : Int).toNat * 2) [pW x.bd, pW x.bk] (gN conf (upA a n x) (n + 1) bm) := by
 have h : ∀ n : Fin 5, Zc (gN conf a n.val bm) (0 + 1 + ((n.val : Nat) : Int).toNat * 2) [pW x.bd, pW x.bk] (gN conf (upA a n.val x) (n.val + 1) bm) := by
  intro n
  match n with
  | 0 => show Zc _ 1 _ _; unfold gN upA; exact zy
  | 1 => show Zc _ 3 _ _; unfold gN upA; exact zy
  | 2 => show Zc _ 5 _ _; unfold gN upA; exact zy
  | 3 => show Zc _ 7 _ _; unfold gN upA; exact zy
  | 4 => show Zc _ 9 _ _; unfold gN upA; exact zy
 exact h ⟨n, hn⟩
def gMk (a : Nat → Ad) (k : Nat → Kp) (n : Nat) : Qd := (List.range n).flatMap fun j => mH (a j) (k j)
theorem T3 (a : Nat → Ad) (k : Nat → Kp) (n : Nat) (x : Ad) (K : Kp) : gMk (upA a n x) (upA k n K) (n + 1) = gMk a k n ++ mH x K := by
 unfold gMk
 rw [List.range_succ, List.flatMap_append, List.flatMap_cons, List.flatMap_nil, List.append_nil]
 congr 1
 ·have h : ∀ l : List Nat, (∀ j ∈ l, j < n) → (l.flatMap fun j => mH (upA a n x j) (upA k n K j)) = l.flatMap fun j => mH (a j) (k j) := by
   intro l
   induction l with
   | nil => intro _; rfl
   | cons j l ih =>
    intro hl
    have hj := hl j List.mem_cons_self
    rw [List.flatMap_cons, List.flatMap_cons, ih fun y hy => hl y (List.mem_cons_of_mem _ hy)]
    unfold upA
    rw [if_neg (by omega), if_neg (by omega)]
  exact h _ fun j hj => List.mem_range.1 hj
 ·simp [upA]
def WR (conf : Int) (k : Nat → Kp) : Gp := ⟨conf, (List.range 5).map k, [false, false, false, false, false], []⟩
theorem KA (conf : Int) (k : Nat → Kp) {i : Nat} (hi : i < 5) : (WR conf k).k i = k i := by
 unfold WR Gp.k
 simp only [List.getD_eq_getElem?_getD, List.getElem?_map, List.getElem?_range hi, Option.map_some, Option.getD_some]
theorem TW (conf : Int) (h : ¬ (1 ≤ conf ∧ conf ≤ 31)) : FnH Tryz.prog 10 [ei conf] [] (fun r H => r = .tup [.v (.pointer none), ei 1] ∧ H = []) := by
 refine fe Tryz.func10 fun S0 w0 => ?_
 show Sim _ _ [(0, ei conf)] [] _
 refine zC ?_
 refine cr <| s_ Qb <| s_ Qb <| zC ?_
 refine cr <| s_ Qa <| s_ QN <| s_ Qa <| gF (fun hg => Qa) ?_
 refine gF (fun hg => XX (hx := u_ hg)) ?_
 refine s_ XC <| zC ?_
 refine ci ?_ ?_
 ·intro _
  refine zC ?_
  refine cr <| s_ Qb <| s_ Qb <| zC ?_
  refine zR ?_
  exact rh kR ⟨rfl, rfl⟩ (Le.refl _)
 ·intro hc
  exact absurd ⟨by omega, by omega⟩ h
theorem EC (P : Nat → En → Prop) (conf : Int) (h1 : 1 ≤ conf) (h2 : conf ≤ 31) : FnH Tryz.prog 10 [ei conf] [] (fun r H => ∃ bg g, r = .tup [pW bg, ei 0] ∧ IsG bg g H ∧ GB P g 0 0 0 ∧ GL conf g ∧ prG g = GM conf ∧ g.conf = conf) := by
 refine fe Tryz.func10 fun S0 w0 => ?_
 show Sim _ _ [(0, ei conf)] [] _
 refine zC ?_
 refine cr <| s_ Qb <| s_ Qb <| zC ?_
 refine cr <| s_ Qa <| s_ QN <| s_ Qa <| gF (fun hg => Qa) ?_
 refine gF (fun hg => XX (hx := u_ hg)) ?_
 refine s_ XC <| zC ?_
 refine ci ?_ ?_
 ·intro hc; omega
 intro _
 refine zC ?_
 refine cr <| s_ Qa ?_
 refine Su fun b17 _ => ?_
 refine s_ (YH 13 [_, _, _, _, _, _, _, _, _, _, _, _, _]) ?_
 refine Xk fun b19 _ => ?_
 refine s_ Qb <| zC ?_
 refine cr <| s_ Qa <| zC ?_
 apply Qm (σ := Nat × (Nat → Ad) × (Nat → Kp)) (ok := fun s => s.1 ≤ 5 ∧ ∀ j : Nat, j < s.1 → Lh (XG j conf) (s.2.2 j) ∧ (s.2.2 j).N = XG j conf) (env := fun s => [(20, ei s.1), (4, pW b19), (0, ei conf)]) (heap := fun s => (b19, ⟨tG, gN conf s.2.1 s.1 b17, 13⟩) :: (b17, ⟨.map [] 0, [], 0⟩) :: gMk s.2.1 s.2.2 s.1) (μ := fun s => 5 - s.1) (s0 := (0, fun _ => ⟨0, 0, 0⟩, fun _ => default))
 ·exact ⟨Nat.zero_le _, fun j hj => absurd hj (Nat.not_lt_zero j)⟩
 ·exact eL
 ·exact kR
 rintro ⟨n, a, k⟩ ⟨hn, hk⟩
 simp only at hn hk
 show Sim _ _ [(20, ei n), (4, pW b19), (0, ei conf)] ((b19, ⟨tG, gN conf a n b17, 13⟩) :: (b17, ⟨.map [] 0, [], 0⟩) :: gMk a k n) _
 refine zC ?_
 refine cr <| s_ QN <| zC ?_
 refine ci ?_ ?_
 ·intro hlt
  have hn5 : n < 5 := by omega
  have hD := PM 1048576 (by omega) (by omega)
  refine zC ?_
  refine cr <| s_ Qa <| s_ Qb <| zC ?_
  apply cr
  refine Q1 (Hs := []) hD (List.Perm.refl _) (fun r H' ⟨bd, hr1, hr2⟩ => ?_)
  subst hr1 hr2
  have hO := TV bd n conf (by omega) (by omega) (by omega) h2
  refine s_ Qa <| s_ Qt <| s_ Qt <| s_ Qb <| s_ Qb <| zC ?_
  refine cr <| s_ Qa <| s_ Qa <| s_ Qa ?_
  refine Q1 hO (List.Perm.refl _) (fun r H' ⟨bk, bj, K2, hr1, hr2, hL, hN⟩ => ?_)
  subst hr1 hr2
  refine QV (H' := (b19, ⟨tG, gN conf a n b17, 13⟩) :: (b17, ⟨.map [] 0, [], 0⟩) :: (gMk a k n ++ mH ⟨bd, bk, bj⟩ K2)) ?_ ?_
  ·have := (List.perm_append_comm (l₁ := mH ⟨bd, bk, bj⟩ K2) (l₂ := (b19, ⟨tG, gN conf a n b17, 13⟩) :: (b17, ⟨.map [] 0, [], 0⟩) :: gMk a k n))
   exact this
  have hlay := Sk conf a hn5 b17 ⟨bd, bk, bj⟩
  refine s_ Qa <| s_ Qt <| s_ Qt <| s_ Qb <| s_ Qb <| zC ?_
  refine cr <| s_ Qa <| s_ Qa <| s_ Qa <| s_ Qa <| s_ (YH 2 [_, _]) <| s_ Qe <| s_ Qc <| s_ Xp <| Qn (hc := hlay) ?_
  refine zC ?_
  refine cr <| s_ QQ <| s_ Qa <| zC ?_
  refine ⟨(n + 1, upA a n ⟨bd, bk, bj⟩, upA k n K2), ⟨by simp only; omega, fun j hj => ?_⟩, (by simp only []; omega), ⟨?_, eL⟩, ?_⟩
  ·simp only
   unfold upA
   by_cases hjn : j = n
   ·subst hjn; rw [if_pos rfl]; exact ⟨hL, hN⟩
   ·rw [if_neg hjn]; exact hk j (by simp only at hj; omega)
  ·apply Qh; (exact zG)
   exact Le.refl _
  ·simp only
   rw [T3]
   exact kR
 ·intro hge
  have hn5 : n = 5 := by omega
  subst hn5
  refine zC ?_
  refine cr <| s_ Qa <| s_ Qb <| s_ Qb <| zC ?_
  refine zR ?_
  have hke : ∀ i : Nat, i < 5 → (WR conf k).k i = k i := fun i hi => KA conf k hi
  refine rh kR ⟨b19, WR conf k, rfl, ⟨a, b17, [], 0, [], .slice none 0 0, ⟨Zu.nil _, fun i hi => ?_⟩, YE, ?_⟩, ?_, ?_, ?_, rfl⟩ (Le.refl _)
  ·have h : ∀ i : Fin 5, (WR conf k).aw.getD i.val false = false := by
    intro i
    match i with
    | 0 | 1 | 2 | 3 | 4 => rfl
   rw [h ⟨i, hi⟩]; rfl
  ·show _ = gH b19 conf a b17 [] 0 [] (.slice none 0 0) (WR conf k).k
   unfold gH
   rw [IX a k (WR conf k).k hke]
   rfl
  ·refine ⟨by simp [WR], rfl, fun i hi => ?_, fun i hi => ?_, fun i hi => ?_, by simp [WR], by simp [WR], ?_, Nat.le_refl _⟩
   ·rw [hke i hi]
    have hl := (hk i hi).1.live
    obtain ⟨so, rs, hc, hnn⟩ := hl.cont
    exact ⟨hl.dk, by omega, by have := hc.len; omega⟩
   ·rw [hke i hi, (hk i hi).2]; rfl
   ·rw [hke i hi, (hk i hi).2]; exact Kz (by omega) (by omega) (by omega) h2
   ·have : ((WR conf k).ks.map fun K => Go.Proofs.YtjbokbikkcfjjaaGreat.pot K.N) = (List.range 5).map fun i => 0 := by
     unfold WR
     rw [List.map_map]
     refine List.map_congr_left fun i hi => ?_
     have hi5 := List.mem_range.1 hi
     show Go.Proofs.YtjbokbikkcfjjaaGreat.pot (k i).N = 0
     rw [(hk i hi5).2]; rfl
    rw [this]; decide
  ·intro i hi
   rw [hke i hi]; exact (hk i hi).1
  ·unfold prG GM WR
   simp only [Gn.mk.injEq, and_true]
   rw [List.map_map]
   refine List.map_congr_left fun i hi => ?_
   exact (hk i (List.mem_range.1 hi)).2
end Go.Proofs.YtjbokbikkcfjjaaGreat
namespace Go.Cap
section
variable {P : Program} {t : Env} {H : Qd} {dst : Option Tmp} {tp : TypeId} {pos : String} {aft : Array Edge} {g : Option (Nat × Bool)} {ty ty' : TypeId} {x : Operand}
theorem D7 {e : TypeId} (w : World) {ty : TypeId} (hu : P.underlying ty = some (.pointer e)) (d : Nat) : (Op.equalIn (d + 1) ty (.pointer none) (.pointer none)).run P w = .ok true w := by
 simp [Op.equalIn, run_underlying hu]
theorem Gd {e : TypeId} (w : World) {ty : TypeId} (hu : P.underlying ty = some (.pointer e)) : (Op.equal ty (.pointer none) (.pointer none)).run P w = .ok true w := D7 w hu 9999
theorem K7 {e : TypeId} (hx : t.ev x = .v (.pointer none) := by exact zl) (hu : P.underlying ty = some (.pointer e) := by rfl) : POp P t H ⟨dst, .binOp .neq ty x (.const (.pointer none)) ty', tp, pos, aft, g⟩ (.v (.bool (decide False))) :=
 Xx hx rfl fun w => by
  have := Gd w hu
  simp [eqGuard, binOp, this]
end
end Go.Cap
namespace Go.Proofs.YtjbokbikkcfjjaaGreat
open Go.Cap
attribute [local irreducible] POp Qi SO EOp Sim FnH T.gp
theorem Ap (a : Int) {k : Int} (hk : 0 < k) : -k < a.tmod k ∧ a.tmod k < k := ⟨Int.lt_tmod_of_pos a hk, Int.tmod_lt_of_pos a hk⟩
theorem Ao (a : Int) {k : Int} (hk : 0 < k) : (if a.tmod k < 0 then a.tmod k + k else a.tmod k) = a % k := by
 have h := LN a k hk
 split
 ·rename_i h1; exact h.1 h1
 ·rename_i h1; exact h.2 h1
theorem Yu (a k : Int) (hk : 0 < k) (hk1 : k ≤ 4611686018427387904) : FnP Tryz.prog 13 [ei a, ei k] (fun r => r = ei (a % k)) := by
 have hb := Ap a hk
 have hf := Ao a hk
 refine fe Tryz.func13 fun S0 w0 => ?_
 show Sim _ _ [(0, ei a), (1, ei k)] _ _
 refine zC ?_
 refine cr <| s_ Qb <| zC ?_
 refine cr <| s_ Qa <| s_ Qa <| s_ WN <| s_ Qb <| zC ?_
 refine cr <| s_ Qa <| s_ QN <| zC ?_
 refine ci ?_ ?_
 ·intro hn
  rw [if_pos hn] at hf
  refine zC ?_
  refine cr <| s_ Qa <| s_ Qa <| s_ QQ <| s_ Qb <| zC ?_
  refine cr <| s_ Qa <| s_ Qb <| zC ?_
  refine zE ?_
  rw [hf]
  exact Le.refl _
 ·intro hn
  rw [if_neg hn] at hf
  refine zC ?_
  refine cr <| s_ Qa <| s_ Qb <| zC ?_
  refine zE ?_
  rw [hf]
  exact Le.refl _
theorem Rp : FnP Tryz.prog 9 [] (fun r => r = .v (.bool true)) := by
 have hN := EC PS 7 (by omega) (by omega)
 refine fe Tryz.func9 fun S0 w0 => ?_
 show Sim _ _ [] _ _
 refine zC ?_
 refine cr <| s_ Qb <| zC ?_
 apply cr
 refine Q1 (Hs := []) (Hr := []) hN (.refl _) (fun r H ⟨bg, g, hr, hG, hB, hL, hpr, hcf⟩ => ?_)
 subst hr
 rw [List.append_nil]
 refine s_ Qa <| s_ Qt <| s_ Qt <| s_ Qb <| s_ Qb <| zC ?_
 refine cr <| s_ Qa <| s_ XE <| s_ Qa <| gF (fun hg => Qa) ?_
 refine gF (p := ¬ (0 : Int) = 0) (fun hg => Sa (hx := u_ hg)) ?_
 refine s_ XC <| zC ?_
 refine ci ?_ ?_
 ·rintro (h | h)
  ·exact absurd rfl h
  ·exact h.elim
 intro _
 have hC := Mo Xj bg g H 30 30 (by omega) hB (by omega) hG
 obtain ⟨l1, hB1, _⟩ := hB.calm Xj.toPO 30 (by omega)
 obtain ⟨hL1, hpr1⟩ := hL.calm Xj hB 30 (by omega)
 obtain ⟨g1, hg1⟩ : ∃ g1, g1 = JC g 30 := ⟨_, rfl⟩
 rw [← hg1] at hC hB1 hL1 hpr1
 rw [hpr] at hpr1
 refine zC ?_
 refine cr <| s_ Qa ?_
 refine QY hC (fun r H' ⟨hr1, hG1⟩ => ?_)
 subst hr1
 have h0 : isI 0 := ⟨by omega, by omega⟩
 have h5 : ¬ isI 5 := fun h => absurd h.2 (by omega)
 have hK5 := TY bg g1 H' 5 h5 hG1
 obtain ⟨a, bm, em, clk, W, wv, hA, hO, rfl⟩ := hG1
 have hK0 := Dz bg g1 0 h0 (a := a) (bm := bm) (clk := clk) hA hO
 have hlen := (hB1.nb 0 (by omega)).len
 have hfv := hB1.five
 have hNo := UP (bg := bg) (g := g1) (a := a) (bm := bm) (es := em) (clk := clk) (W := W) (wv := wv) (i := 0) (by omega) (by omega)
 have hrole : (g1.k 0).N.role = 2 := by
  rw [← UL g1 0 (by rw [hB1.ks]; omega), hpr1]
  exact PY
 refine zC ?_
 refine cr <| s_ Qa ?_
 refine QY hK0 (fun r H' ⟨hr1, hr2⟩ => ?_)
 subst hr1 hr2
 refine s_ Sa <| s_ Qa <| gF (fun hg => Qa) ?_
 refine IY (p := False) (Hr := []) (fun h => h) hK5 (by rw [List.append_nil]) (fun r H' ⟨hr1, hr2⟩ => ?_) (ha' := Qu (u_ (fun h => h)) (Qu Mw Xh))
 subst hr1 hr2
 rw [List.append_nil]
 refine gF (p := False) (fun hg => K7) ?_
 refine s_ XC <| zC ?_
 refine ci ?_ ?_
 ·rintro (h | h)
  ·exact h.elim
  ·exact h.elim
 intro _
 refine zC ?_
 refine cr <| s_ Qa ?_
 refine QY hK0 (fun r H' ⟨hr1, hr2⟩ => ?_)
 subst hr1 hr2
 refine QY hNo (fun r H' ⟨hr1, hr2⟩ => ?_)
 subst hr1 hr2
 refine s_ K9 <| s_ Q5 <| s_ Qb <| zC ?_
 refine zE ?_
 exact Le.of_eq (by show T.v (.bool (decide ((g1.k 0).N.role = 2))) = _; rw [decide_eq_true hrole])
section
variable {P : Nat → En → Prop} {g : Gp} {τ l u : Nat}
theorem D0 {g : Gp} {k : Int} (h : YI g k) : g.way.getD k.toNat default ∈ g.way := by
 have hk := (UY h).1
 rw [List.getD_eq_getElem?_getD, List.getElem?_eq_getElem hk]; exact List.getElem_mem _
theorem GB.drop (h : GB P g τ l u) (k : Int) : GB P (J6 g k) τ l u ∧ (J6 g k).way.length = g.way.length - (if YI g k then 1 else 0) := by
 unfold J6
 split
 ·rename_i hk
  obtain ⟨h1, _⟩ := UY hk
  have hl : (WP g k).way.length = g.way.length - 1 := by show (g.way.eraseIdx k.toNat).length = _; rw [List.length_eraseIdx, if_pos h1]
  exact ⟨h.out (fun x hx => h.way x (List.mem_of_mem_eraseIdx hx)) (by show (WP g k).way.length ≤ _; have := h.many; omega), hl⟩
 ·exact ⟨h, rfl⟩
theorem GB.twice (h : GB P g τ l u) (k : Int) : GB P (Zw g k) τ l (u + 1) ∧ (Zw g k).way.length = g.way.length + (if YI g k ∧ g.way.length < 300 then 1 else 0) := by
 unfold Zw
 split
 ·rename_i hk
  refine ⟨(h.le (u' := u + 1) (by omega)).out (fun x hx => ?_) (by have := h.many; simp only [List.length_append, List.length_singleton]; omega), by simp⟩
  rcases List.mem_append.1 hx with hx | hx
  ·exact h.way x hx
  ·rw [List.mem_singleton.1 hx]; exact h.way _ (D0 hk.1)
 ·exact ⟨h.le (by omega), rfl⟩
theorem Au (g : Gp) (m : Ms) : g.way.length ≤ (Yy g m).way.length := by
 unfold Yy
 split
 ·unfold didG
  simp only [List.length_append]; omega
 ·exact Nat.le_refl _
theorem GB.deliver (hP : PO P) (h : GB P g τ l u) (ht : τ ≤ 100000) (k : Int) : ∃ l', GB P (Yc g k) τ l' u ∧ l ≤ l' ∧ (Yc g k).way.length + 5 * l ≤ g.way.length + 5 * l' ∧ g.way.length ≤ (Yc g k).way.length + 1 := by
 unfold Yc
 split
 ·rename_i hk
  obtain ⟨h1, _⟩ := UY hk
  have hl : (WP g k).way.length = g.way.length - 1 := by show (g.way.eraseIdx k.toNat).length = _; rw [List.length_eraseIdx, if_pos h1]
  have hb : GB P (WP g k) τ l u := h.out (fun x hx => h.way x (List.mem_of_mem_eraseIdx hx)) (by show (WP g k).way.length ≤ _; have := h.many; omega)
  obtain ⟨l', h2, h3, h4⟩ := hb.take hP ht (h.way _ (D0 hk)) (by have := h.many; omega)
  have := Au (WP g k) (g.way.getD k.toNat default)
  exact ⟨l', h2, h3, by omega, by omega⟩
 ·exact ⟨l, h, Nat.le_refl _, by omega, by omega⟩
end
end Go.Proofs.YtjbokbikkcfjjaaGreat
namespace Go.Proofs.YtjbokbikkcfjjaaGreat
open Go.Cap
section
variable {P : Nat → En → Prop} {g : Gp} {τ l u : Nat} {conf : Int}
theorem GL.drop (h : GL conf g) (k : Int) : GL conf (J6 g k) ∧ prG (J6 g k) = Ww (prG g) k := by
 have e : Y5 (prG g) k ↔ YI g k := Iff.rfl
 unfold J6 Ww
 by_cases hk : YI g k
 ·rw [if_pos hk, if_pos (e.2 hk)]
  exact ⟨h.out _, rfl⟩
 ·rw [if_neg hk, if_neg (fun h => hk (e.1 h))]
  exact ⟨h, rfl⟩
theorem GL.twice (h : GL conf g) (k : Int) : GL conf (Zw g k) ∧ prG (Zw g k) = Uf (prG g) k := by
 have e : (Y5 (prG g) k ∧ (prG g).way.length < 300) ↔ (YI g k ∧ g.way.length < 300) := Iff.rfl
 unfold Zw Uf
 by_cases hk : YI g k ∧ g.way.length < 300
 ·rw [if_pos hk, if_pos (e.2 hk)]
  exact ⟨h.out _, rfl⟩
 ·rw [if_neg hk, if_neg (fun h => hk (e.1 h))]
  exact ⟨h, rfl⟩
theorem GL.away (h : GL conf g) (i : Int) (b : Bool) : GL conf (J7 g i b) ∧ prG (J7 g i b) = WC (prG g) i b := by
 unfold J7 WC
 split
 ·exact ⟨h, rfl⟩
 ·exact ⟨h, rfl⟩
theorem GL.deliver (hP : PK P) (h : GL conf g) (hb : GB P g τ l u) (hu : u ≤ 25000) (k : Int) : GL conf (Yc g k) ∧ prG (Yc g k) = XQ (prG g) k := by
 have e : Y5 (prG g) k ↔ YI g k := Iff.rfl
 unfold Yc XQ
 by_cases hk : YI g k
 ·rw [if_pos hk, if_pos (e.2 hk)]
  obtain ⟨h1, _⟩ := UY hk
  have hl : (WP g k).way.length = g.way.length - 1 := by show (g.way.eraseIdx k.toNat).length = _; rw [List.length_eraseIdx, if_pos h1]
  have hb1 : GB P (WP g k) τ l u := hb.out (fun x hx => hb.way x (List.mem_of_mem_eraseIdx hx)) (by show (WP g k).way.length ≤ _; have := hb.many; omega)
  exact GL.take hP (h.out _) hb1 hu (hb.way _ (D0 hk))
 ·rw [if_neg hk, if_neg (fun h => hk (e.1 h))]
  exact ⟨h, rfl⟩
theorem GB.away (h : GB P g τ l u) (i : Int) (b : Bool) : GB P (J7 g i b) τ l u := by
 unfold J7
 split
 ·exact ⟨h.ks, by rw [List.length_set]; exact h.aw, h.ki, h.id, h.nb, h.way, h.many, h.fuel, h.tau⟩
 ·exact h
end
end Go.Proofs.YtjbokbikkcfjjaaGreat
namespace Go.Proofs.YtjbokbikkcfjjaaGreat
open Go.Cap
attribute [local irreducible] POp Qi SO EOp Sim FnH T.gp
theorem AS {n0 : Nd} {R : Nat} {d : Dk} {so : Option Nd} {rs : List (Nd × Nat)} {tl : List UInt8} {N : Nd} (bd : Nat) (id conf : Int) (hc : JN n0 R d so rs tl N) (hdk : DkR d) (hdead : d.dead = false) (h0 : d.left = 0) (hsy : d.synced = d.log.length)
  (hid : N.id = n0.id) (hn0 : FnP Tryz.prog 66 [ei id, ei conf] (fun r => r = nd n0)) (hw : QK n0 = n0) (hl0 : n0.log.length ≤ 10000) (hR : R ≤ 4000000)
  (hszw : Sz (QK N)) (hrw : (QD (QK N) 0).length ≤ R) :
  FnH Tryz.prog 34 [pW bd, ei id, ei conf] (DkH bd d) (fun r H => ∃ bk bj K2, r = .tup [pW bk, ei 0] ∧ H = KpH bk bj bd K2 ∧ U3 n0 R K2 ∧ K2.N = QK N ∧ K2.d.left = 0 ∧ K2.d.room = d.room) := by
 have ho := G2 bd d id conf n0 so rs tl hn0 hl0 hdk.ok hdead h0 hc.snap hc.log hc.stop (fun m hm => ⟨(hc.szs m hm).1, by have := (hc.szs m hm).2; omega⟩)
  (fun p hp => ⟨(hc.szr p hp).1, (hc.szr p hp).2.1, by have := (hc.szr p hp).2.2; omega⟩) (fun k => hc.lay k)
 refine FnH.mono ho ?_
 rintro r H ⟨bk, bj, rfl, rfl⟩
 have hN2 : Dm n0 so rs = QK N := by
  unfold Dm
  split
  ·rename_i hnn
   obtain ⟨rfl, rfl⟩ := hnn
   rw [hc.same]
   exact hw.symm
  ·exact hc.same.symm
 have hfit := hdk.fit
 have hlg := hc.log
 obtain ⟨d2, hd2⟩ : ∃ d2, d2 = JB d (rs.map JF) tl := ⟨_, rfl⟩
 rw [← hd2]
 have hlog2 : d2.log = (rs.map JF).flatMap QL := by
  rw [hd2]; unfold JB
  split
  ·rename_i ht; rw [hlg, ht, List.append_nil]
  ·rfl
 have hs2 : d2.snap = d.snap ∧ d2.dead = d.dead ∧ d2.left = d.left ∧ d2.room = d.room := by
  rw [hd2]; unfold JB
  split <;> exact ⟨rfl, rfl, rfl, rfl⟩
 have hsy2 : d2.synced = d2.log.length := by
  rw [hd2]; unfold JB
  split
  ·exact hsy
  ·rfl
 obtain ⟨q1, q2, q3, q4⟩ := hs2
 have hlen : d2.log.length ≤ d.log.length := by rw [hlog2, hlg, List.length_append]; omega
 refine ⟨bk, bj, ⟨rs.length, QK N, d2⟩, rfl, by rw [hN2], ⟨⟨so, rs, ?_, rfl⟩, hsy2, q2.trans hdead, ?_, hid, hszw, hrw⟩, rfl, q3.trans h0, q4⟩
 ·exact ⟨q1.trans hc.snap, by rw [List.append_nil]; exact hlog2, JU, hc.len, hc.szs, hc.szr, hc.lay, hc.same⟩
 ·exact ⟨by rw [show (⟨rs.length, QK N, d2⟩ : Kp).d = d2 from rfl, q3]; exact hdk.l0, by rw [show (⟨rs.length, QK N, d2⟩ : Kp).d = d2 from rfl, q3]; exact hdk.l1, by rw [show (⟨rs.length, QK N, d2⟩ : Kp).d = d2 from rfl, q4]; exact hdk.r0, by rw [show (⟨rs.length, QK N, d2⟩ : Kp).d = d2 from rfl, q4]; exact hdk.r1, by
   show ((d2.log.length + d2.snap.length : Nat) : Int) ≤ d2.room
   rw [q4, q1]; omega⟩
def H9 (n0 : Nd) (R : Nat) (K : Kp) (y : Nd) : Prop := (U3 n0 R K ∧ y = K.N) ∨ NW n0 R K.d K.N y
theorem Nz {d : Dk} (pick : Int) (h : DkR d) : DkR (Ur (V0 d 0) pick) := by
 refine ⟨Int.le_refl _, by show (0 : Int) ≤ _; omega, h.r0, h.r1, ?_⟩
 have := h.fit
 show (((d.log.take _).length + d.snap.length : Nat) : Int) ≤ d.room
 rw [List.length_take]
 omega
theorem OL {n0 : Nd} {R : Nat} {K : Kp} {y : Nd} (pick : Int) (h : H9 n0 R K y) : DkR K.d ∧ 0 ≤ K.d.synced ∧ K.d.synced ≤ K.d.log.length ∧ ∃ so rs tl, JN n0 R (Ur (V0 K.d 0) pick) so rs tl K.N ∨ JN n0 R (Ur (V0 K.d 0) pick) so rs tl y := by
 rcases h with ⟨hl, rfl⟩ | hg
 ·obtain ⟨⟨so, rs, hc, hk⟩, hsy, hdead, hdk, hNid, hNsz, hNr⟩ := hl
  refine ⟨hdk, by omega, by omega, so, rs, [], .inl ⟨hc.snap, ?_, hc.stop, hc.len, hc.szs, hc.szr, hc.lay, hc.same⟩⟩
  have hr := Jw (V0 K.d 0) pick (by show 0 ≤ K.d.synced; omega) (by show K.d.synced ≤ _; exact Int.le_of_eq hsy)
  have hlog := hc.log
  show K.d.log.take _ = _
  rw [← hlog]
  refine List.take_of_length_le ?_
  show K.d.log.length ≤ (K.d.synced + Jc (V0 K.d 0) pick).toNat
  omega
 ·obtain ⟨so, rs, tl, h⟩ := hg.cont pick
  exact ⟨hg.dk, hg.s0, hg.s1, so, rs, tl, h⟩
theorem Sl (conf : Int) (a : Nat → Ad) (bm : Nat) (wv : Value) {i : Int} (h : isI i) (bk bj : Nat) : Zc (gC conf a bm wv) (0 + 1 + i.toNat * 2 + 1) [pW bk] (gC conf (upA a i.toNat ⟨(a i.toNat).bd, bk, bj⟩) bm wv) := by
 rcases five h.1 h.2 with rfl | rfl | rfl | rfl | rfl
 all_goals show Zc _ _ _ _; unfold gC upA; exact zy
theorem Ti {x y p q : Nat × Blk} {W O M G : Qd} (h : (M ++ O).Perm G) : ((x :: y :: (W ++ (p :: q :: O))) ++ M).Perm (p :: q :: x :: y :: (W ++ G)) := by
 have h1 : (W ++ (p :: q :: O)).Perm (p :: q :: (W ++ O)) := (List.perm_middle (l₁ := W)).trans ((List.perm_middle (l₁ := W)).cons p)
 have h2 : ((x :: y :: (W ++ (p :: q :: O))) ++ M).Perm ((x :: y :: p :: q :: (W ++ O)) ++ M) := ((h1.cons y).cons x).append_right M
 refine h2.trans ?_
 have h3 : (x :: y :: p :: q :: (W ++ O ++ M)).Perm (p :: q :: x :: y :: (W ++ O ++ M)) := List.perm_append_comm_assoc [x, y] [p, q] (W ++ O ++ M)
 refine h3.trans ?_
 have h4 : (W ++ O ++ M).Perm (W ++ G) := by
  rw [List.append_assoc]
  exact (List.perm_append_comm.trans h).append_left W
 exact (((h4.cons y).cons x).cons q).cons p
theorem PG {x y : Nat × Blk} {W M A B : Qd} (h : M.Perm (A ++ B)) : (x :: y :: (W ++ M)).Perm (A ++ (x :: y :: (W ++ B))) := UO h
theorem Bn (bg : Nat) (g : Gp) (H : Qd) (i pick : Int) (y : Nd) (hi : isI i) (hks : g.ks.length = 5) (hc0 : 0 ≤ g.conf) (hc31 : g.conf ≤ 31) (hA : H9 (XG i g.conf) 524100 (g.k i.toNat) y) (hid : (g.k i.toNat).N.id = i) (hidy : y.id = i)
  (hz1 : Sz (QK (g.k i.toNat).N)) (hq1 : (QD (QK (g.k i.toNat).N) 0).length ≤ 524100) (hz2 : Sz (QK y)) (hq2 : (QD (QK y) 0).length ≤ 524100) (hG : IsG bg g H) :
  FnH Tryz.prog 24 [pW bg, ei i, ei pick] H (fun r H' => r = .v (.bool (decide (isI i))) ∧ ∃ K2, IsG bg { g with ks := g.ks.set i.toNat K2 } H' ∧ U3 (XG i g.conf) 524100 K2 ∧ (K2.N = QK (g.k i.toNat).N ∨ K2.N = QK y) ∧ K2.d.left = 0 ∧ K2.d.room = (g.k i.toNat).d.room) := by
 have hI := Un bg g H i hG
 rw [decide_eq_true hi]
 obtain ⟨h5, hin⟩ := Q7 hi
 have hi5 : 0 ≤ i ∧ i < 5 := hi
 obtain ⟨a, bm, em, clk, W, wv, hAw, hO, rfl⟩ := hG
 obtain ⟨hdk, hs0, hs1, so, rs, tl, hcont⟩ := OL pick hA
 obtain ⟨K, hK⟩ : ∃ K, K = g.k i.toNat := ⟨_, rfl⟩
 have hgk : ∀ K2 : Kp, ∀ j, j < 5 → Gp.k { g with ks := g.ks.set i.toNat K2 } j = upA g.k i.toNat K2 j := fun K2 j hj => by
  have := Gp.k_set (g := g) (i := i.toNat) (j := j) (K := K2) (w := g.way) (by rw [hks]; exact hj)
  rw [show Gp.k { g with ks := g.ks.set i.toNat K2 } j = _ from this]
  unfold upA
  by_cases hij : i.toNat = j
  ·rw [if_pos hij, if_pos hij.symm]
  ·rw [if_neg hij, if_neg (fun e => hij e.symm)]
 obtain ⟨bk, hbk⟩ : ∃ bk, bk = (a i.toNat).bk := ⟨_, rfl⟩
 obtain ⟨bj, hbj⟩ : ∃ bj, bj = (a i.toNat).bj := ⟨_, rfl⟩
 obtain ⟨bd, hbd⟩ : ∃ bd, bd = (a i.toNat).bd := ⟨_, rfl⟩
 have hcd := Sm (conf := g.conf) (a := a) (bm := bm) (wv := wv) hi
 have hst := fun bk' bj' => Sl g.conf a bm wv hi bk' bj'
 have hMat : (gM a g.k).Perm (DkH bd K.d ++ ((bk, ⟨tK, pW bj :: Qg K.N (.sl false (K.N.log.map een)), 23⟩) :: (bj, ⟨tJ, [pW bd, ei K.n], 2⟩) :: gO a g.k i.toNat)) := by
  have h1 := Lc a g.k h5
  have h2 : mH (a i.toNat) (g.k i.toNat) = [(bk, ⟨tK, pW bj :: Qg K.N (.sl false (K.N.log.map een)), 23⟩), (bj, ⟨tJ, [pW bd, ei K.n], 2⟩)] ++ DkH bd K.d := by rw [hbk, hbj, hbd, hK]; rfl
  rw [h2] at h1
  refine h1.trans ?_
  rw [List.append_assoc]
  exact (List.perm_append_comm_assoc _ _ _)
 have hp0 := PG (x := (bg, ⟨tG, gC g.conf a bm wv, 13⟩)) (y := (bm, ⟨.map em clk, [], 0⟩)) (W := W) hMat
 have hpU := fun bk' bj' (K2 : Kp) => (Og a (upA a i.toNat ⟨bd, bk', bj'⟩) g.k (upA g.k i.toNat K2) h5 (fun j _ hj => ⟨by unfold upA; rw [if_neg hj], by unfold upA; rw [if_neg hj]⟩))
 rw [← hbd] at hcd hst
 rw [← hK] at hcont hdk hs0 hs1 hid hz1 hq1 ⊢
 have hSt := N9 bd K.d 0
 have hdk0 : VV (V0 K.d 0) := ⟨Int.le_refl _, by show max (0 : Int) 0 ≤ _; omega, hdk.r0, hdk.r1, hdk.ok.used⟩
 have hCr := Ny bd (V0 K.d 0) pick hdk0 hs0 hs1
 have hcrd := Nz pick hdk
 obtain ⟨d2, hd2⟩ : ∃ d2, d2 = Ur (V0 K.d 0) pick := ⟨_, rfl⟩
 have hd2a : d2.dead = false ∧ d2.left = 0 ∧ d2.synced = d2.log.length ∧ d2.room = K.d.room := by rw [hd2]; exact ⟨rfl, rfl, rfl, rfl⟩
 rw [← hd2] at hcrd hcont hCr
 obtain ⟨z1, z2, z3, z4⟩ := hd2a
 have hNew := Tx i g.conf hi5.1 hi5.2 hc0 hc31
 have hOp : FnH Tryz.prog 34 [pW bd, ei i, ei g.conf] (DkH bd d2) (fun r H => ∃ bk bj K2, r = .tup [pW bk, ei 0] ∧ H = KpH bk bj bd K2 ∧ U3 (XG i g.conf) 524100 K2 ∧ (K2.N = QK K.N ∨ K2.N = QK y) ∧ K2.d.left = 0 ∧ K2.d.room = d2.room) := by
  rcases hcont with hc | hc
  ·exact FnH.mono (AS bd i g.conf hc hcrd z1 z2 z3 (by rw [hid]; rfl) hNew rfl (by simp [XG]) (by omega) hz1 hq1) (by
    rintro r H ⟨a, b, c, e1, e2, e3, e4, e5, e6⟩
    exact ⟨a, b, c, e1, e2, e3, .inl e4, e5, e6⟩)
  ·exact FnH.mono (AS bd i g.conf hc hcrd z1 z2 z3 (by rw [hidy]; rfl) hNew rfl (by simp [XG]) (by omega) hz2 hq2) (by
    rintro r H ⟨a, b, c, e1, e2, e3, e4, e5, e6⟩
    exact ⟨a, b, c, e1, e2, e3, .inr e4, e5, e6⟩)
 refine fe Tryz.func24 fun S0 w0 => ?_
 show Sim _ _ [(0, pW bg), (1, ei i), (2, ei pick)] ((bg, ⟨tG, gC g.conf a bm wv, 13⟩) :: (bm, ⟨.map em clk, [], 0⟩) :: (W ++ gM a g.k)) _
 refine zC ?_
 refine cr <| s_ Qb <| zC ?_
 refine cr <| s_ Qa <| s_ Qa ?_
 refine QY hI (fun r H' ⟨hr1, hr2⟩ => ?_)
 subst hr1 hr2
 refine s_ Yb <| zC ?_
 refine ci (p := ¬ isI i) (fun h => absurd hi h) (fun _ => ?_)
 show Sim _ _ _ ((bg, ⟨tG, gC g.conf a bm wv, 13⟩) :: (bm, ⟨.map em clk, [], 0⟩) :: (W ++ gM a g.k)) _
 refine zC ?_
 refine cr <| s_ Qa <| s_ Qa <| s_ Qe <| s_ Qc <| s_ Xp <| s_ Qb <| zC ?_
 refine cr <| s_ Qa <| s_ Qe <| s_ Qc <| s_ (Ql (hd := hcd)) <| s_ Qe ?_
 (first | refine s_ Uv ?_ | refine s_ Qc ?_)
 refine Q1 hSt hp0 (fun r H' ⟨hr1, hr2⟩ => ?_)
 subst hr1 hr2
 refine QV List.perm_append_comm ?_
 refine zC ?_
 refine cr <| s_ Qa <| s_ Qe <| s_ Qc <| s_ (Ql (hd := hcd)) <| s_ Qa ?_
 refine Q1 hCr List.perm_append_comm (fun r H' ⟨hr1, hr2⟩ => ?_)
 subst hr1 hr2
 refine QV List.perm_append_comm ?_
 refine zC ?_
 refine cm [9] (.yields 0 (.yields 1 (.yields 2 (.yields 3 (.yields 4 (.yields 5 (.yields 6 (.yields 7 (.yields 8 (.alt 9 (.yields 10 (.yields 11 (.yields 12 (.yields 13 (.yields 14 .done))))) .stop)))))))))) <| m_ (fun _ => Qa) <| m_ (fun _ => Qe) <| m_ (fun _ => Qc) <| PQ (hd := hcd) ?_
 refine m_ (fun _ => Qa) <| m_ (fun _ => Qa) <| m_ (fun _ => Qe) <| m_ (fun _ => Qc) <| PQ ?_
 refine ⟨?_, trivial⟩
 refine Ie hOp List.perm_append_comm (fun r H' ⟨bk', bj', K2, hr1, hr2, hL2, hN2, hlf, hrm⟩ => ⟨?_, ?_⟩)
 ·subst hr1 hr2; exact zd
 subst hr1 hr2
 refine m_ (fun _ => Qa) <| m_ (fun _ => Qt) <| m_ (fun _ => Qt) <| m_ (fun _ => Qb) <| m_ (fun _ => Qb) <| zC ?_
 refine Xr List.perm_append_comm ?_
 refine zC ?_
 refine cr <| s_ Qa <| s_ Q5 <| zC ?_
 refine ci ?_ ?_
 rotate_left
 ·intro h; exact absurd rfl h
 intro _
 refine zC ?_
 refine cr <| s_ Qa <| s_ Qa <| s_ Qe <| s_ Qc <| Qn (hc := hst bk' bj') ?_
 refine zC ?_
 refine cr <| s_ Qb <| zC ?_
 refine zR ?_
 refine rhp (Ti (G := gM (upA a i.toNat ⟨bd, bk', bj'⟩) (upA g.k i.toNat K2)) ?_) (.skip _ _ _ (.skip _ _ _ kR)) ⟨rfl, K2, ⟨upA a i.toNat ⟨bd, bk', bj'⟩, bm, em, clk, W, wv, hAw, hO, ?_⟩, hL2, hN2, hlf, hrm.trans z4⟩ (Le.refl _)
 ·have := hpU bk' bj' K2
  unfold upA at this ⊢
  simp only [if_pos] at this
  exact this
 ·show _ = gH bg g.conf _ bm em clk W wv (Gp.k { g with ks := g.ks.set i.toNat K2 })
  unfold gH
  rw [IX _ (upA g.k i.toNat K2) _ (fun j hj => hgk K2 j hj)]
def tSs : TypeId := 9
theorem es1 (l : List (List UInt8)) : ∀ x ∈ l.map es, x.cells.length = 1 := fun x hx => by
 obtain ⟨s, _, rfl⟩ := List.mem_map.1 hx; rfl
theorem Oo (l : List (List UInt8)) : ∀ x ∈ l.map es, x.solid := fun x hx => by
 obtain ⟨s, _, rfl⟩ := List.mem_map.1 hx; exact .inl rfl
theorem Cz (l : List (List UInt8)) (hl : l.length ≤ 1000000000) : FnP Tryz.prog 42 [.sl false (l.map es)] (fun r => r = .sl false (l.map es)) := by
 have hk := es1 l
 refine fe Tryz.func42 fun S0 w0 => ?_
 show Sim _ _ [(0, T.sl false (l.map es))] _ _
 refine zC ?_
 refine cr <| s_ Qb <| zC ?_
 refine cr <| s_ Qa ?_
 refine Zj 3 fun p c h1 _ => ?_
 refine s_ Kq <| zC ?_
 refine ci ?_ ?_
 ·intro hp
  have := h1 hp
  have : l = [] := by simpa using this
  subst this
  refine zC ?_
  refine cr <| s_ Qb <| zC ?_
  refine zE ?_
  exact Le.nil _
 ·intro hp
  refine zC ?_
  refine cr <| s_ XS <| s_ Qa <| s_ (CU (d := .v (.string .empty)) (xs := []) (ys := l.map es) (hky := hk)) <| s_ Qb <| zC ?_
  refine zE ?_
  exact Le.refl _
theorem KV (bg : Nat) (g : Gp) (H : Qd) (i : Int) (hi : ¬ isI i) (hG : IsG bg g H) : FnH Tryz.prog 19 [pW bg, ei i] H (fun r H' => r = .v (.slice none 0 0) ∧ H' = H) := by
 have hT := Un bg g H i hG
 refine fe Tryz.func19 fun S0 w0 => ?_
 show Sim _ _ [(0, pW bg), (1, ei i)] H _
 refine zC ?_
 refine cr <| s_ Qb <| zC ?_
 refine cr <| s_ Qa <| s_ Qa ?_
 refine QY hT (fun r H' ⟨hr1, hr2⟩ => ?_)
 subst hr1 hr2
 refine s_ Yb <| zC ?_
 refine ci (p := ¬ isI i) (fun _ => ?_) (fun h => absurd hi h)
 refine zC ?_
 refine cr <| s_ Qb <| zC ?_
 refine zR ?_
 exact rh kR ⟨rfl, rfl⟩ (Le.refl _)
theorem Rv (bg : Nat) (g : Gp) (H : Qd) (i n : Int) (hi : ¬ isI i) (hG : IsG bg g H) : FnH Tryz.prog 24 [pW bg, ei i, ei n] H (fun r H' => r = .v (.bool (decide False)) ∧ H' = H) := by
 have hT := Un bg g H i hG
 refine fe Tryz.func24 fun S0 w0 => ?_
 show Sim _ _ [(0, pW bg), (1, ei i), (2, ei n)] H _
 refine zC ?_
 refine cr <| s_ Qb <| zC ?_
 refine cr <| s_ Qa <| s_ Qa ?_
 refine QY hT (fun r H' ⟨hr1, hr2⟩ => ?_)
 subst hr1 hr2
 refine s_ Yb <| zC ?_
 refine ci (p := ¬ isI i) (fun _ => ?_) (fun h => absurd hi h)
 refine zC ?_
 refine cr <| s_ Qb <| zC ?_
 refine zR ?_
 exact rh kR ⟨rfl, rfl⟩ (Le.refl _)
def Zs (l : List En) : List (List UInt8) := (l.map (·.cmd)).filter (fun c => !c.isEmpty)
theorem DQ {l : List En} {k : Nat} (hk : k < l.length) : Zs (l.take (k + 1)) = Zs (l.take k) ++ (if l[k].cmd = [] then [] else [l[k].cmd]) := by
 unfold Zs
 rw [List.take_succ_eq_append_getElem hk, List.map_append, List.filter_append]
 congr 1
 by_cases h : l[k].cmd = []
 ·simp [h]
 ·rw [if_neg h]; simp [h]
theorem Wz (l : List En) : (Zs l).length ≤ l.length := by
 unfold Zs
 exact Nat.le_trans (List.length_filter_le _ _) (by simp)
theorem T1 (bg : Nat) (g : Gp) (H : Qd) (i : Int) (hi : isI i) (hl : (g.k i.toNat).N.log.length ≤ 1000000) (hb : (g.k i.toNat).N.base = 0) (hc0 : 0 ≤ (g.k i.toNat).N.commit) (hc1 : (g.k i.toNat).N.commit ≤ 1000000) (hG : IsG bg g H) : FnH Tryz.prog 19 [pW bg, ei i] H (fun r H' => r = .sl false ((Ld (g.k i.toNat).N).map es) ∧ H' = H) := by
 obtain ⟨h5, _⟩ := Q7 hi
 have hT := Un bg g H i hG
 obtain ⟨a, bm, em, clk, W, wv, hA, hO, rfl⟩ := hG
 have hno := UP (bg := bg) (g := g) (a := a) (bm := bm) (es := em) (clk := clk) (W := W) (wv := wv) h5 (by omega)
 have hck := Oh (conf := g.conf) (a := a) (bm := bm) (wv := wv) hi
 have hp5 : 0 ≤ i ∧ i < 5 := hi
 obtain ⟨n, hn⟩ : ∃ n, n = (g.k i.toNat).N := ⟨_, rfl⟩
 rw [← hn] at hno hl hb hc0 hc1 ⊢
 refine fe Tryz.func19 fun S0 w0 => ?_
 show Sim _ _ [(0, pW bg), (1, ei i)] ((bg, ⟨tG, gC g.conf a bm wv, 13⟩) :: (bm, ⟨.map em clk, [], 0⟩) :: (W ++ gM a g.k)) _
 refine zC ?_
 refine cr <| s_ Qb <| zC ?_
 refine cr <| s_ Qa <| s_ Qa ?_
 refine QY hT (fun r H' ⟨hr1, hr2⟩ => ?_)
 subst hr1 hr2
 refine s_ Yb <| zC ?_
 refine ci (p := ¬ isI i) (fun h => absurd hi h) (fun _ => ?_)
 show Sim _ _ _ ((bg, ⟨tG, gC g.conf a bm wv, 13⟩) :: (bm, ⟨.map em clk, [], 0⟩) :: (W ++ gM a g.k)) _
 refine zC ?_
 refine cr <| s_ Qb <| zC ?_
 refine cr <| s_ Qa <| s_ Qa <| s_ Qe <| s_ Qc <| s_ Xp <| s_ Qc <| s_ (Ql (hd := by first | rfl | assumption)) ?_
 refine QY hno (fun r H' ⟨hr1, hr2⟩ => ?_)
 subst hr1 hr2
 show Qi _ _ _ _ _ ((bg, ⟨tG, gC g.conf a bm wv, 13⟩) :: (bm, ⟨.map em clk, [], 0⟩) :: (W ++ gM a g.k)) _
 refine Xt fun b6 _ => ?_
 refine Qn ?_
 refine zC ?_
 obtain ⟨j, hj⟩ : ∃ j, j = max (min (n.commit - n.base) (n.log.length : Int)) 0 := ⟨_, rfl⟩
 have hj0 : 0 ≤ j ∧ j ≤ n.log.length := by omega
 refine zC ?_
 refine cr <| s_ Qc <| s_ Ql <| s_ Qc <| s_ Ql <| s_ Qc <| s_ Ql <| s_ Yr <| s_ Qc <| s_ Ql ?_
 (first | refine s_ QS ?_ | refine s_ QP ?_)
 refine s_ WO <| s_ VG ?_
 rw [show max (min (n.commit - n.base) (((n.log.map een).length : Nat) : Int)) 0 = j by rw [List.length_map]; exact hj.symm]
 refine s_ HL ?_
 have hdone : Ld n = Zs (n.log.take j.toNat) := by unfold Ld Zs; rw [← hj]
 rw [hdone]
 obtain ⟨l, hle⟩ : ∃ l, l = n.log.take j.toNat := ⟨_, rfl⟩
 have hll : l.length ≤ 1000000 := by rw [hle, List.length_take]; omega
 rw [← List.map_take, ← hle]
 (first | refine s_ QS ?_ | refine s_ QP ?_)
 refine s_ Qa <| zC ?_
 apply Qm (σ := Nat × Value × Qd) (ok := fun s => s.1 ≤ l.length ∧ OSl tSs 1 ((Zs (l.take s.1)).map es) s.2.1 s.2.2) (env := fun s => [(35, ei s.1), (34, ei l.length), (33, T.sl false (l.map een)), (5, .v s.2.1), (0, pW bg), (1, ei i)]) (heap := fun s => s.2.2 ++ gH bg g.conf a bm em clk W wv g.k) (μ := fun s => l.length - s.1) (s0 := (0, .slice none 0 0, []))
 ·exact ⟨Nat.zero_le _, YE⟩
 ·refine ⟨?_, ?_, eL⟩
  ·apply Qh; (exact zG)
   exact Le.refl _
  ·apply Qh; (exact zG)
   exact Le.of_eq (by rw [List.length_map]; rfl)
 ·exact .skip _ _ _ kR
 rintro ⟨k, v, Hs⟩ ⟨hk, ho⟩
 simp only at hk ho
 show Sim _ _ [(35, ei k), (34, ei l.length), (33, T.sl false (l.map een)), (5, .v v), (0, pW bg), (1, ei i)] (Hs ++ gH bg g.conf a bm em clk W wv g.k) _
 obtain ⟨p, c, rfl⟩ := OSl.len ho
 refine zC ?_
 refine cr <| s_ QN <| zC ?_
 refine ci ?_ ?_
 ·intro hlt
  have hix : k < l.length := by omega
  have hnx := DQ hix
  have hcl := Wz (l.take k)
  have htl : (l.take k).length ≤ 1000000 := by rw [List.length_take]; omega
  apply ck
  apply cq
  refine V4 (σ := Value × Qd) (ok := fun s => OSl tSs 1 ((Zs (l.take (k + 1))).map es) s.1 s.2) (env := fun s => [(35, ei k), (34, ei l.length), (33, T.sl false (l.map een)), (5, .v s.1), (0, pW bg), (1, ei i)]) (heap := fun s => s.2 ++ gH bg g.conf a bm em clk W wv g.k) ?_ (fun s hs => ?_)
  ·refine zC ?_
   apply cr
   (first | refine s_ (Q4 hix) ?_ | refine s_ (Q4 hix2) ?_ | refine s_ Yd ?_)
   refine s_ XN ?_
   refine Xt fun b8 _ => ?_
   refine Qn ?_
   refine zC ?_
   refine cr <| s_ Qc <| s_ Ql <| s_ Tk <| zC ?_
   refine ci ?_ ?_
   ·intro hne
    have hne' : ¬ l[k].cmd = [] := hne
    rw [if_neg hne'] at hnx
    refine zC ?_
    refine cr <| s_ Qa <| s_ Qc <| s_ Ql <| s_ XS ?_
    refine MG (ho := ho) (A := [_]) (B := gH bg g.conf a bm em clk W wv g.k) (ys := [es l[k].cmd]) (f := true) (es1 _) (fun v' Hs' ho' => ?_) (hb := by simp only [List.length_map, List.length_cons, List.length_nil]; omega) (hm := by simp only [List.length_map, List.length_cons, List.length_nil]; omega)
    refine s_ Qb <| zC ?_
    exact ⟨(v', Hs'), _, (by rw [hnx, List.map_append]; exact ho'), eL, .refl _, .skip _ _ _ kR⟩
   ·intro hne
    have hne' : l[k].cmd = [] := Classical.not_not.1 hne
    rw [if_pos hne', List.append_nil] at hnx
    refine zC ?_
    exact ⟨(_, Hs), _, (by rw [hnx]; exact ho), eL, .refl _, .skip _ _ _ kR⟩
  obtain ⟨v', Hs'⟩ := s
  simp only at hs
  show Sim _ _ [(35, ei k), (34, ei l.length), (33, T.sl false (l.map een)), (5, .v v'), (0, pW bg), (1, ei i)] (Hs' ++ gH bg g.conf a bm em clk W wv g.k) _
  refine zC ?_
  refine cr <| s_ QQ <| s_ Qa <| zC ?_
  refine ⟨(k + 1, v', Hs'), ⟨by simp only; omega, hs⟩, (by simp only []; omega), ⟨?_, eL⟩, kR⟩
  apply Qh; (exact zG)
  exact Le.refl _
 ·intro hge
  have hke : k = l.length := by omega
  subst hke
  rw [List.take_length] at ho
  have hcl := Cz (Zs l) (by have := Wz l; omega)
  have hlend : QJ Hs (.v (.slice p ((Zs (l.take l.length)).map es).length c)) (.sl false ((Zs l).map es)) := by
   rw [List.take_length]
   exact OSl.lend ho (fun _ h => h) (es1 _) (Oo _)
  refine zC ?_
  refine ZJ (G := Hs) (H1 := gH bg g.conf a bm em clk W wv g.k) [(5, .sl false ((Zs l).map es))] (.refl _) ⟨hlend, trivial⟩ ?_
  refine zC ?_
  refine cr <| s_ Qa <| s_ (Qr (hcl)) <| s_ Qb <| zC ?_
  refine zR ?_
  exact rh kR ⟨rfl, rfl⟩ (Le.refl _)
end Go.Proofs.YtjbokbikkcfjjaaGreat
namespace Go.Proofs.YtjbokbikkcfjjaaGreat
open Go.Cap Raft
attribute [local irreducible] POp Qi SO EOp Sim FnH T.gp
theorem M6 {N : Nat → Nd} {o : Nat → Bool} {v : T} {i : Int} (h0 : 0 ≤ i) (h5 : i < 5) : (xvC N o v)[0 + 0 + i.toNat * 22 + 8]? = some (ei (N i.toNat).commit) := by
 rcases (by omega : i = 0 ∨ i = 1 ∨ i = 2 ∨ i = 3 ∨ i = 4) with rfl | rfl | rfl | rfl | rfl <;> rfl
theorem Ka {N : Nat → Nd} {o : Nat → Bool} {v : T} {i : Int} (h0 : 0 ≤ i) (h5 : i < 5) : (xvC N o v)[0 + 0 + i.toNat * 22 + 7]? = some (XZ (N i.toNat).log) := by
 rcases (by omega : i = 0 ∨ i = 1 ∨ i = 2 ∨ i = 3 ∨ i = 4) with rfl | rfl | rfl | rfl | rfl <;> rfl
theorem Ac {b : Nat} {x : Gn} {H : Qd} (i : Int) (hi : isI i) (hb : (x.n i.toNat).base = 0) (hl : (x.n i.toNat).log.length ≤ 1000000) (hc1 : (x.n i.toNat).commit ≤ 1000000) (hX : IsX b x H) : FnH Tryz.prog 63 [pW b, ei i] H (fun r H' => r = .sl false ((Ld (x.n i.toNat)).map es) ∧ H' = H) := by
 have hI := WH i
 have hi5 : 0 ≤ i ∧ i < 5 := hi
 obtain ⟨hns, haw, v, Hm, h1, rfl⟩ := hX
 have hcm := M6 (N := x.n) (o := fun i => x.aw.getD i false) (v := .v v) hi5.1 hi5.2
 have hlg := Ka (N := x.n) (o := fun i => x.aw.getD i false) (v := .v v) hi5.1 hi5.2
 obtain ⟨n, hn⟩ : ∃ n, n = x.n i.toNat := ⟨_, rfl⟩
 rw [← hn] at hcm hlg hl hc1 hb ⊢
 refine fe Tryz.func63 fun S0 w0 => ?_
 show Sim _ _ [(0, pW b), (1, ei i)] _ _
 refine zC ?_
 refine cr <| s_ Qb <| zC ?_
 refine cr <| s_ Qb <| zC ?_
 refine cr <| s_ Qb <| zC ?_
 apply Qm (σ := Nat × Value × Qd) (ok := fun s => s.1 ≤ n.log.length ∧ (s.1 : Int) ≤ max n.commit 0 ∧ OSl tSs 1 ((Zs (n.log.take s.1)).map es) s.2.1 s.2.2) (env := fun s => [(6, ei s.1), (5, .v s.2.1), (0, pW b), (1, ei i)]) (heap := fun s => s.2.2 ++ ((b, ⟨tX, xvC x.n (fun i => x.aw.getD i false) (.v v), 116⟩) :: (Hm ++ []))) (μ := fun s => n.log.length - s.1) (s0 := (0, .slice none 0 0, []))
 ·exact ⟨Nat.zero_le _, by simp only; omega, YE⟩
 ·exact eL
 ·exact kR
 rintro ⟨k, w, Hs⟩ ⟨hk, hkc, ho⟩
 simp only at hk hkc ho
 show Sim _ _ [(6, ei k), (5, .v w), (0, pW b), (1, ei i)] (Hs ++ ((b, ⟨tX, xvC x.n (fun i => x.aw.getD i false) (.v v), 116⟩) :: (Hm ++ []))) _
 obtain ⟨p, c, rfl⟩ := OSl.len ho
 refine zC ?_
 refine cr <| s_ Qa <| s_ (Qr (hI)) <| s_ Qa <| gT (fun hg => Qa) ?_
 refine gT (fun hg => Qa) ?_
 refine gT (fun hg => Qa) ?_
 refine gT (fun hg => Qe (hx := u_ hg)) ?_
 refine gT (fun hg => Qc (hx := u_ hg)) ?_
 refine gT (fun hg => Xp (hx := u_ hg) (hy := u_ hg)) ?_
 refine gT (fun hg => Qc (hx := u_ hg)) ?_
 refine gT (fun hg => Ql (hx := u_ hg) (hd := by first | rfl | assumption)) ?_
 refine gT (fun hg => QN (hx := u_ hg) (hy := u_ hg)) ?_
 refine s_ Xv <| s_ Qa <| gT (fun hg => Qa) ?_
 refine gT (fun hg => Qa) ?_
 refine gT (fun hg => Qa) ?_
 refine gT (fun hg => Qe (hx := u_ hg)) ?_
 refine gT (fun hg => Qc (hx := u_ hg)) ?_
 refine gT (fun hg => Xp (hx := u_ hg) (hy := u_ hg)) ?_
 refine gT (fun hg => Qc (hx := u_ hg)) ?_
 refine gT (fun hg => Ql (hx := u_ hg) (hd := by first | rfl | assumption)) ?_
 (first | refine gT (fun hg => QS (hx := u_ hg)) ?_ | refine gT (fun hg => QP (hx := u_ hg)) ?_)
 refine gT (fun hg => QN (hx := u_ hg) (hy := u_ hg)) ?_
 refine s_ Xv <| zC ?_
 refine ci ?_ ?_
 ·intro hlt
  have hlt' : (k : Int) < n.commit ∧ k < n.log.length := by
   have h1 := hlt.1.2
   have h2 := hlt.2
   simp only [List.length_map] at h2
   omega
  clear hlt
  have hix : k < n.log.length := hlt'.2
  have hnx := DQ hix
  have hcl := Wz (n.log.take k)
  have htl : (n.log.take k).length ≤ 1000000 := by rw [List.length_take]; omega
  apply ck
  apply cq
  refine V4 (σ := Value × Qd) (ok := fun s => OSl tSs 1 ((Zs (n.log.take (k + 1))).map es) s.1 s.2) (env := fun s => [(6, ei k), (5, .v s.1), (0, pW b), (1, ei i)]) (heap := fun s => s.2 ++ ((b, ⟨tX, xvC x.n (fun i => x.aw.getD i false) (.v v), 116⟩) :: (Hm ++ []))) ?_ (fun s hs => ?_)
  ·refine zC ?_
   refine cr <| s_ Qa <| s_ Qa <| s_ Qe <| s_ Qc <| s_ Xp <| s_ Qc <| s_ (Ql (hd := by first | rfl | assumption)) <| s_ Qa ?_
   (first | refine s_ (Q4 hix) ?_ | refine s_ (Q4 hix2) ?_ | refine s_ Yd ?_ | refine s_ Ys ?_)
   refine s_ Qj <| s_ Qf <| s_ Tk <| zC ?_
   refine ci ?_ ?_
   ·intro hne
    have hne' : ¬ n.log[k].cmd = [] := hne
    rw [if_neg hne'] at hnx
    refine zC ?_
    refine cr <| s_ Qa <| s_ Qa <| s_ Qa <| s_ Qe <| s_ Qc <| s_ Xp <| s_ Qc <| s_ (Ql (hd := by first | rfl | assumption)) <| s_ Qa ?_
    (first | refine s_ (Q4 hix) ?_ | refine s_ (Q4 hix2) ?_ | refine s_ Yd ?_ | refine s_ Ys ?_)
    refine s_ Qj <| s_ Qf <| s_ XS ?_
    refine MG (ho := ho) (A := []) (B := (b, ⟨tX, xvC x.n (fun i => x.aw.getD i false) (.v v), 116⟩) :: (Hm ++ [])) (ys := [es n.log[k].cmd]) (f := true) (es1 _) (fun v' Hs' ho' => ?_) (hb := by simp only [List.length_map, List.length_cons, List.length_nil]; omega) (hm := by simp only [List.length_map, List.length_cons, List.length_nil]; omega)
    refine s_ Qb <| zC ?_
    exact ⟨(v', Hs'), _, (by rw [hnx, List.map_append]; exact ho'), eL, .refl _, kR⟩
   ·intro hne
    have hne' : n.log[k].cmd = [] := Classical.not_not.1 hne
    rw [if_pos hne', List.append_nil] at hnx
    refine zC ?_
    exact ⟨(_, Hs), _, (by rw [hnx]; exact ho), eL, .refl _, kR⟩
  obtain ⟨v', Hs'⟩ := s
  simp only at hs
  show Sim _ _ [(6, ei k), (5, .v v'), (0, pW b), (1, ei i)] (Hs' ++ ((b, ⟨tX, xvC x.n (fun i => x.aw.getD i false) (.v v), 116⟩) :: (Hm ++ []))) _
  refine zC ?_
  refine cr <| s_ Qa <| s_ QQ <| s_ Qb <| zC ?_
  refine ⟨(k + 1, v', Hs'), ⟨by simp only; omega, by simp only; omega, hs⟩, (by simp only []; omega), ⟨?_, eL⟩, kR⟩
  apply Qh; (exact zG)
  exact Le.refl _
 ·intro hge
  have hge' : ¬ ((k : Int) < n.commit ∧ k < n.log.length) := fun h => hge ⟨⟨hi, h.1⟩, by simp only [List.length_map]; omega⟩
  have hk' : (max (min (n.commit - n.base) n.log.length) 0).toNat = k := by rw [hb]; omega
  have hdone : Ld n = Zs (n.log.take k) := by unfold Ld Zs; rw [hk']
  rw [hdone]
  refine zC ?_
  refine ZJ (G := Hs) (H1 := (b, ⟨tX, xvC x.n (fun i => x.aw.getD i false) (.v v), 116⟩) :: (Hm ++ [])) [(5, .sl false ((Zs (n.log.take k)).map es))] (.refl _) ⟨OSl.lend ho (fun _ h => h) (es1 _) (Oo _), trivial⟩ ?_
  refine zC ?_
  refine cr <| s_ Qa <| s_ Qb <| zC ?_
  refine zR ?_
  exact rh kR ⟨rfl, rfl⟩ (Le.refl _)
theorem N8 {n : Nd} {index term : Int} (hb : n.base = 0) (h0 : 1 ≤ index) (ht : 0 ≤ term) : UF n index term = if ¬ Xm n index = term then 22 else 0 := by
 unfold UF Xm
 rw [hb, if_neg (show ¬ index = 0 by omega)]
 by_cases h : index < 0 ∨ 0 + (n.log.length : Int) < index
 ·rw [if_pos h, if_neg (by omega), if_pos (by omega)]
 ·rw [if_neg h]
  by_cases h2 : (n.log.getD (index - 0 - 1).toNat default).term = term
  ·rw [if_pos ⟨by omega, by omega, h2⟩, if_neg (fun h => h h2)]
  ·rw [if_neg (fun h => h2 h.2.2), if_pos h2]
section
variable {P : Nat → En → Prop} {x : Gn} {τ l u : Nat}
theorem XB.put (h : XB P x τ l u) {i : Nat} (hi : i < 5) {t : Nd} {e : Int} (hb : VA P (x.n i) t e) : ∃ l', XB P { x with ns := x.ns.set i t } τ l' (u + 5) := by
 obtain ⟨n1, n2⟩ := hb.nb (h.nb i hi)
 obtain ⟨l', h1, _⟩ := h.did hi (t := t) (out := []) (τ' := τ) (c := 5) (b := 0) (by rw [hb.id]; exact h.id i hi) (Nat.le_refl _) (by omega) ⟨1, n1, by omega, by simp, by simp⟩ (by have := h.many; omega)
 have e : M0 x i t [] = { x with ns := x.ns.set i t } := by unfold M0; rw [List.append_nil]
 rw [e] at h1
 exact ⟨l', h1⟩
theorem Pk (hB : XB PS x τ l u) (hu : u + 205 ≤ 25000) (i : Int) (cmd : List UInt8) (hc : cmd.length ≤ 61) (hi : isI i) : PS (x.n i.toNat).log.length ⟨(x.n i.toNat).term, 0, cmd⟩ := by
 have h := hB.nb i.toNat (Q7 hi).1
 have h1 := h.term0
 have h2 := h.term1
 have h3 := hB.tau
 exact ⟨h1, by simp only; omega, Int.le_refl _, by simp only; omega, hc⟩
theorem Pm (hB : XB PS x τ l u) (hu : u + 205 ≤ 25000) (i c : Int) (h0 : 1 ≤ c) (h31 : c ≤ 31) (hi : isI i) : PS (x.n i.toNat).log.length ⟨(x.n i.toNat).term, c, []⟩ := by
 have h := hB.nb i.toNat (Q7 hi).1
 have h1 := h.term0
 have h2 := h.term1
 have h3 := hB.tau
 exact ⟨h1, by simp only; omega, by simp only; omega, by simp only; omega, by simp⟩
end
section
variable {b : Nat} {x : Gn} {τ u : Nat} {H : Qd}
theorem EZ (i index : Int) (hi : isI i) (hu : u + 200 ≤ 25000) (hx0 : 1 ≤ index) (hx1 : index ≤ 1000000) (term : Int) (ht : 0 ≤ term) (htm : Xm (x.n i.toNat) index = term) (h : XI b x τ u H) :
  FnH Tryz.prog 85 [pW b, ei i, ei index] H (fun r H' => r = ei (Yh i.toNat index term 40 x).2 ∧ ∃ τ', XI b (Yh i.toNat index term 40 x).1 τ' (u + 200) H') := by
 have hi5 : 0 ≤ i ∧ i < 5 := hi
 obtain ⟨h5, _⟩ := Q7 hi
 have h0 := h
 obtain ⟨⟨hns, haw, v, Hm, h1, rfl⟩, hG, l, hB⟩ := h
 have hnb := hB.nb _ h5
 have hlen := hnb.len
 have hf := hB.five
 have hbase := hnb.base
 obtain ⟨n, hn⟩ : ∃ n, n = x.n i.toNat := ⟨_, rfl⟩
 have htk := ZT (N := x.n) (o := fun i => x.aw.getD i false) (v := .v v) hi5.1 hi5.2
 rw [← hn] at htk hlen hbase htm
 have hT := Zy n index (by omega) (by unfold big; omega) (by unfold big; omega) (by unfold big; omega) (by unfold big; omega)
 rw [htm] at hT
 refine fe Tryz.func85 fun S0 w0 => ?_
 show Sim _ _ [(0, pW b), (1, ei i), (2, ei index)] _ _
 refine zC ?_
 refine cr <| s_ Qb <| zC ?_
 refine cr <| s_ Qa <| s_ Qa <| s_ Qe <| s_ Qc <| s_ Xp <| s_ (Qw (hc := htk)) <| s_ Qa <| s_ (Qr (hT)) <| s_ Qb <| zC ?_
 refine cr <| s_ Qb <| zC ?_
 apply Qm (σ := Nat × Gn × Qd) (ok := fun s => s.1 ≤ 40 ∧ (∃ τ', XI b s.2.1 τ' (u + 5 * s.1) s.2.2) ∧ Yh i.toNat index term 40 x = Yh i.toNat index term (40 - s.1) s.2.1) (env := fun s => [(8, ei s.1), (7, ei term), (0, pW b), (1, ei i), (2, ei index)]) (heap := fun s => s.2.2) (μ := fun s => 40 - s.1) (s0 := (0, x, (b, ⟨tX, xvC x.n (fun i => x.aw.getD i false) (.v v), 116⟩) :: (Hm ++ [])))
 ·exact ⟨Nat.zero_le _, ⟨τ, h0⟩, rfl⟩
 ·exact eL
 ·exact kR
 clear h0 hns haw h1 hG hB hnb hlen hf hbase hn htk hT htm
 clear n
 rintro ⟨k, y, H1⟩ ⟨hk, ⟨τ1, h⟩, hW⟩
 simp only at hk h hW
 have h0 := h
 obtain ⟨⟨hns, haw, v, Hm, h1, rfl⟩, hG, l, hB⟩ := h
 have hnb := hB.nb _ h5
 have hlen := hnb.len
 have hf := hB.five
 have hbase := hnb.base
 have hcm := M6 (N := y.n) (o := fun i => y.aw.getD i false) (v := .v v) hi5.1 hi5.2
 have htk := ZT (N := y.n) (o := fun i => y.aw.getD i false) (v := .v v) hi5.1 hi5.2
 show Sim _ _ [(8, ei k), (7, ei term), (0, pW b), (1, ei i), (2, ei index)] ((b, ⟨tX, xvC y.n (fun i => y.aw.getD i false) (.v v), 116⟩) :: (Hm ++ [])) _
 refine zC ?_
 refine cr <| s_ Qa <| s_ QN <| s_ Qa <| gT (fun hg => Qa) ?_
 refine gT (fun hg => Qa) ?_
 refine gT (fun hg => Qe (hx := u_ hg)) ?_
 refine gT (fun hg => Qc (hx := u_ hg)) ?_
 refine gT (fun hg => Xp (hx := u_ hg) (hy := u_ hg)) ?_
 refine gT (fun hg => Qc (hx := u_ hg)) ?_
 refine gT (fun hg => Ql (hx := u_ hg) (hd := by first | rfl | assumption)) ?_
 refine gT (fun hg => Qa) ?_
 refine gT (fun hg => QN (hx := u_ hg) (hy := u_ hg)) ?_
 refine s_ Xv <| zC ?_
 refine ci ?_ ?_
 ·intro hlt
  have hk40 : k < 40 := by have : (k : Int) < 40 := hlt.1; omega
  have hcx : ¬ index ≤ (y.n i.toNat).commit := by have := hlt.2; omega
  have hD : FnH Tryz.prog 57 [pW b, ei 1] _ (fun r H' => r = .tup [] ∧ XI b (UK y) (τ1 + 5) (u + 5 * k + 5) H') := E4 1 (by omega) h0
  have hw1 : Yh i.toNat index term (40 - k) y = Yh i.toNat index term (40 - (k + 1)) (UK y) := by
   obtain ⟨f, hff⟩ : ∃ f, 40 - k = f + 1 := ⟨40 - k - 1, by omega⟩
   rw [hff, show 40 - (k + 1) = f by omega]
   conv => lhs; unfold Yh
   rw [if_neg hcx]
  apply ck
  apply cq
  refine zC ?_
  refine cr <| s_ Qa ?_
  refine QY hD (fun r H3 ⟨hr1, h3⟩ => ?_)
  subst hr1
  refine zC ?_
  refine cr <| s_ Qa <| s_ QQ <| s_ Qb <| zC ?_
  refine ⟨(k + 1, UK y, H3), ⟨by simp only; omega, ⟨_, by simp only; rw [show u + 5 * (k + 1) = u + 5 * k + 5 by omega]; exact h3⟩, by simp only; rw [hW, hw1]⟩, (by simp only []; omega), ⟨?_, eL⟩, kR⟩
  apply Qh; (exact zG)
  exact Le.refl _
 ·intro hge
  have hw1 : Yh i.toNat index term (40 - k) y = (y, if (y.n i.toNat).commit < index ∨ ¬ Xm (y.n i.toNat) index = term then 22 else 0) := by
   have hs := N8 (n := y.n i.toNat) hbase hx0 ht
   by_cases hc : index ≤ (y.n i.toNat).commit
   ·have e : UF (y.n i.toNat) index term = if (y.n i.toNat).commit < index ∨ ¬ Xm (y.n i.toNat) index = term then 22 else 0 := by
     rw [hs]
     by_cases h : Xm (y.n i.toNat) index = term
     ·rw [if_neg (fun h' => h' h), if_neg (by rintro (h' | h'); omega; exact h' h)]
     ·rw [if_pos h, if_pos (.inr h)]
    cases 40 - k with
    | zero => unfold Yh; rw [if_pos hc, e]
    | succ f => unfold Yh; rw [if_pos hc, e]
   ·have hk40 : k = 40 := by
     refine Classical.byContradiction fun hn => hge ⟨?_, by omega⟩
     show (k : Int) < 40
     omega
    subst hk40
    show Yh i.toNat index term 0 y = _
    unfold Yh
    rw [if_neg hc, if_pos (.inl (by omega))]
  obtain ⟨n, hn⟩ : ∃ n, n = y.n i.toNat := ⟨_, rfl⟩
  rw [← hn] at hcm htk hlen hbase hw1 hge
  have hT := Zy n index (by omega) (by unfold big; omega) (by unfold big; omega) (by unfold big; omega) (by unfold big; omega)
  rw [hW, hw1]
  have hfin : ∃ τ', XI b y τ' (u + 200) ((b, ⟨tX, xvC y.n (fun i => y.aw.getD i false) (.v v), 116⟩) :: (Hm ++ [])) := by
   obtain ⟨a1, a2, l2, a3⟩ := h0
   exact ⟨τ1, a1, a2, l2, a3.le (by omega)⟩
  refine zC ?_
  refine zC ?_
  refine cr <| s_ Qa <| s_ Qa <| s_ Qe <| s_ Qc <| s_ Xp <| s_ Qc <| s_ (Ql (hd := by first | rfl | assumption)) <| s_ Qa <| s_ QN <| s_ Qa <| gF (fun hg => Qa) ?_
  refine gF (fun hg => Qa) ?_
  refine gF (fun hg => Qe (hx := u_ hg)) ?_
  refine gF (fun hg => Qc (hx := u_ hg)) ?_
  refine gF (fun hg => Xp (hx := u_ hg) (hy := u_ hg)) ?_
  refine gF (fun hg => Qw (hx := u_ hg) (hc := by first | assumption | exact zt)) ?_
  refine gF (fun hg => Qa) ?_
  refine gF (fun hg => Qr (hT) (ha' := by apply Qu (u_ hg); apply Qu (u_ hg); exact Xh)) ?_
  refine gF (fun hg => Qa) ?_
  refine gF (fun hg => XE (hx := u_ hg) (hy := u_ hg)) ?_
  refine s_ XC <| zC ?_
  refine ci (p := n.commit < index ∨ ¬ Xm n index = term) ?_ ?_
  ·intro h
   refine zC ?_
   refine cr <| s_ Qb <| zC ?_
   refine zR ?_
   refine rh kR ⟨rfl, hfin⟩ ?_
   exact Le.of_eq (congrArg ei (by rw [if_pos h]))
  ·intro h
   refine zC ?_
   refine cr <| s_ Qb <| zC ?_
   refine zR ?_
   refine rh kR ⟨rfl, hfin⟩ ?_
   exact Le.of_eq (congrArg ei (by rw [if_neg h]))
end
end Go.Proofs.YtjbokbikkcfjjaaGreat
