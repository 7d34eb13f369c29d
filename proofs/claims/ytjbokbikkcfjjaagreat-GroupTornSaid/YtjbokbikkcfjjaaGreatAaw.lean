/-
  A committee and the one told relative to what all hold: ticks, messages, rounds, calm.
-/
import Derived.Test.YtjbokbikkcfjjaaGreatAav
set_option maxRecDepth 16000
set_option maxHeartbeats 8000000
set_option linter.all false
namespace Go.Proofs.YtjbokbikkcfjjaaGreat
open Go.Cap
section
variable {z : Bool} {fi : Nat} {pre : List En} {T : Int} {g : Gp} {s : Rs} {τ l u : Nat}
theorem Sg.tick (h : Sg fi pre T g s τ l u) (hu : u + 1 ≤ 25000) {i : Nat} (hi : i < 3) : ∃ s' ∈ VJ fi i s, s'.ok = true → ∃ l', l ≤ l' ∧ Sg fi pre T (X8 g (i : Int)) s' (τ + 1) l' (u + 1) := by
 have ht := h.gb.tau
 have hth := h.there hi
 unfold X8 VJ
 rw [hth]
 by_cases hc : thR fi s i = true
 ·rw [if_pos hc, if_pos hc, Int.toNat_natCast]
  by_cases hok : okT (s.n i)
  ·have hn := h.rn i hi
   have hnb := h.gb.nb i (by omega)
   have hte := hn.term
   have ht1 := hnb.term1
   obtain ⟨a1, a2⟩ := hn.tick h.F hok (by omega)
   obtain ⟨l', s', b1, b2, b3, _⟩ := (h.okb (s.ok && decide (okT (s.n i)))).did hi hc a1 a2 (τ' := τ + 1) (e := 1) (b := 5) (by omega) (Nat.le_refl _) (by omega) (VK _) (hnb.tick Xx.toPO (by omega)) (by have := h.gb.many; omega) hu
   exact ⟨s', b1, fun _ => ⟨l', b3, b2⟩⟩
  ·exact ⟨_, YJ _ _ _ _ _, fun e => by
    have e : (s.ok && decide (okT (s.n i))) = true := e
    rw [decide_eq_false hok, Bool.and_false] at e
    cases e⟩
 ·rw [if_neg hc, if_neg hc]
  obtain ⟨l', g1, g2⟩ := h.gb.tick Xx.toPO (by omega) (i : Int)
  unfold X8 at g1
  rw [hth, if_neg hc] at g1
  exact ⟨s, List.mem_cons_self, fun _ => ⟨l', g2, h.up g1 (by omega) g2⟩⟩
theorem Sg.take (h : Sg fi pre T g s τ l u) (hu : u ≤ 25000) {m q : Ms} (hm : MB PS m τ l) (hq : RM pre T m q) (hz : z = true → pre = []) (hb : g.way.length + 1 ≤ 5 * (u + l)) :
  ∃ s' ∈ MM z fi q s, s'.ok = true → ∃ l', l ≤ l' ∧ Sg fi pre T (XS g m) s' τ l' u ∧ (XS g m).way.length + 5 * l ≤ g.way.length + 5 * l' + 1 := by
 have ht := h.gb.tau
 unfold MM
 by_cases hto : 0 ≤ q.to ∧ q.to < 3
 ·obtain ⟨i, hi⟩ : ∃ i : Nat, q.to = i := ⟨q.to.toNat, by omega⟩
  have hi3 : i < 3 := by omega
  have hmt : m.to = i := hq.to.trans hi
  have hth := h.there hi3
  unfold XS
  rw [hmt, hth, hi, Int.toNat_natCast]
  by_cases hc : thR fi s i = true
  ·rw [if_pos hc, if_pos hc]
   by_cases hok : okK z (s.n i) q
   ·have hnb := h.gb.nb i (by omega)
    have hmt := hm.term1
    have hqt := hq.term
    obtain ⟨a1, a2⟩ := (h.rn i hi3).take h.F hq hz hok (by omega)
    obtain ⟨l', s', b1, b2, b3, b4, _⟩ := (h.okb (s.ok && decide ((0 ≤ (i : Int) ∧ (i : Int) < 3) ∧ okK z (s.n i) q))).did hi3 hc a1 a2 (τ' := τ) (e := 0) (b := 1) (Nat.le_refl _) (Nat.le_refl _) (by omega) (VL _ _) (hnb.take Xx.toPO hm (by omega)) (by have := hb; omega) hu
    exact ⟨s', b1, fun _ => ⟨l', b3, b2, b4⟩⟩
   ·exact ⟨_, YJ _ _ _ _ _, fun e => by
     have e : (s.ok && decide ((0 ≤ (i : Int) ∧ (i : Int) < 3) ∧ okK z (s.n i) q)) = true := e
     rw [decide_eq_false (fun e => hok e.2), Bool.and_false] at e
     cases e⟩
  ·rw [if_neg hc, if_neg hc]
   exact ⟨_, List.mem_cons_self, fun _ => ⟨l, Nat.le_refl _, h.okb _, by omega⟩⟩
 ·split
  ·exact ⟨_, YJ _ _ _ _ _, fun e => by
    have e : (s.ok && decide ((0 ≤ q.to ∧ q.to < 3) ∧ okK z (s.n q.to.toNat) q)) = true := e
    rw [decide_eq_false (fun e => hto e.1), Bool.and_false] at e
    cases e⟩
  ·exact ⟨_, List.mem_cons_self, fun e => by
    have e : (s.ok && decide (0 ≤ q.to ∧ q.to < 3)) = true := e
    rw [decide_eq_false hto, Bool.and_false] at e
    cases e⟩
theorem Sg.takes (hu : u ≤ 25000) (hz : z = true → pre = []) {ms qs : List Ms} (h2 : Yr (RM pre T) ms qs) : ∀ {g : Gp} {s : Rs} {l : Nat}, Sg fi pre T g s τ l u → (∀ m ∈ ms, MB PS m τ l) → g.way.length + ms.length ≤ 5 * (u + l) →
  ∃ s' ∈ LS z fi qs s, s'.ok = true → ∃ l', l ≤ l' ∧ Sg fi pre T (ms.foldl XS g) s' τ l' u := by
 induction h2 with
 | nil => exact fun {g s l} h _ _ => ⟨s, List.mem_cons_self, fun _ => ⟨l, Nat.le_refl _, h⟩⟩
 | @cons m q ms qs hq _ ih =>
  intro g s l h hm hb
  rw [List.length_cons] at hb
  refine JR (oa := Rs.ok) (ob := Rs.ok) (h.take hu (hm _ List.mem_cons_self) hq hz (by omega)) (fun s1 ⟨l1, a1, a2, a3⟩ => ?_) (UV qs)
  obtain ⟨s2, b1, b2⟩ := ih a2 (fun x hx => (hm x (List.mem_cons_of_mem _ hx)).le (Nat.le_refl _) a1) (by omega)
  exact ⟨s2, b1, fun e => (b2 e).elim fun l2 hl => ⟨l2, Nat.le_trans a1 hl.1, hl.2⟩⟩
theorem RD (i : Int) (h3 : i = 3 ∨ i = 4) : Xh (QV i 7) = (QV i 7, []) := by
 rcases h3 with rfl | rfl <;> decide +kernel
theorem Sg.tick3 (h : Sg fi pre T g s τ l u) (hu : u + 1 ≤ 25000) {i : Nat} (hi : i = 3 ∨ i = 4) : ∃ l', l ≤ l' ∧ Sg fi pre T (X8 g (i : Int)) s (τ + 1) l' (u + 1) := by
 have ht := h.gb.tau
 have hil : i < g.ks.length := by rw [h.gb.ks]; omega
 have e : X8 g (i : Int) = g := by
  unfold X8
  split
  ·rw [Int.toNat_natCast, h.nn i (by omega) (by omega), RD i (by omega)]
   have hk : Qw (g.k i) (QV i 7) 0 = (g.k i, 0) := by
    have hN := h.nn i (by omega) (by omega)
    unfold Qw
    rw [if_neg (by simp), if_pos (by rw [hN]), ← hN]
   unfold didG
   rw [hk]
   simp only [if_true, List.append_nil]
   exact R6 hil
  ·rfl
 obtain ⟨l', g1, g2⟩ := h.gb.tick Xx.toPO (by omega) (i : Int)
 rw [e] at g1 ⊢
 exact ⟨l', g2, h.up g1 (by omega) g2⟩
end
def SgE (fi : Nat) (pre : List En) (T : Int) (g : Gp) (s : Rs) (u : Nat) : Prop := ∃ τ l, Sg fi pre T g s τ l u
section
variable {z : Bool} {fi : Nat} {pre : List En} {T : Int} {g : Gp} {s : Rs} {u : Nat}
theorem SgE.le {u' : Nat} (h : SgE fi pre T g s u) (hu : u ≤ u') : SgE fi pre T g s u' := by
 obtain ⟨τ, l, h⟩ := h
 exact ⟨τ, l, h.up (h.gb.le hu) (Nat.le_refl _) (Nat.le_refl _)⟩
theorem SgE.round (h : SgE fi pre T g s u) (hz : z = true → pre = []) (hu : u + 5 ≤ 25000) : ∃ s' ∈ Jh z fi s, s'.ok = true → SgE fi pre T (XJ g) s' (u + 5) := by
 obtain ⟨τ, l, h⟩ := h
 have h0 : Sg fi pre T { g with way := [] } { s with way := [] } τ l u := ⟨h.f, h.F, h.cf, h.gb.out (by simp) (by simp), h.sl, h.rn, h.nn, .nil, h.aw, h.lv, h.al, h.gn, h.ro⟩
 refine JR (oa := Rs.ok) (ob := Rs.ok) (Sg.takes (by omega) hz h.rm h0 h.gb.way (by simpa using h.gb.many)) (fun s1 ⟨l1, _, a1⟩ => ?_) fun s h => X2 (oa := Rs.ok) (ob := Rs.ok) (Ys 0 s h) fun s h => X2 (oa := Rs.ok) (ob := Rs.ok) (Ys 1 s h) (Ys 2)
 obtain ⟨g1, hg1⟩ : ∃ g1, g1 = g.way.foldl XS { g with way := [] } := ⟨_, rfl⟩
 have er : XJ g = X8 (X8 (X8 (X8 (X8 g1 ((0 : Nat) : Int)) ((1 : Nat) : Int)) ((2 : Nat) : Int)) ((3 : Nat) : Int)) ((4 : Nat) : Int) := by rw [hg1]; rfl
 rw [er]
 rw [← hg1] at a1
 refine JR (oa := Rs.ok) (ob := Rs.ok) (a1.tick (by omega) (by omega)) (fun s2 ⟨l2, _, a2⟩ => ?_) fun s h => X2 (oa := Rs.ok) (ob := Rs.ok) (Ys 1 s h) (Ys 2)
 refine JR (oa := Rs.ok) (ob := Rs.ok) (a2.tick (by omega) (by omega)) (fun s3 ⟨l3, _, a3⟩ => ?_) (Ys 2)
 obtain ⟨s4, b1, b2⟩ := a3.tick (by omega) (show 2 < 3 by omega)
 refine ⟨s4, b1, fun e => ?_⟩
 obtain ⟨l4, _, a4⟩ := b2 e
 obtain ⟨l5, _, a5⟩ := a4.tick3 (by omega) (.inl rfl)
 obtain ⟨l6, _, a6⟩ := a5.tick3 (by omega) (.inr rfl)
 exact ⟨_, l6, a6⟩
theorem GV (g : Gp) : ∀ k, Yf g (k + 1) = Yf (XJ g) k
 | 0 => rfl
 | k + 1 => by
  show XJ (Yf g (k + 1)) = XJ (Yf (XJ g) k)
  rw [GV g k]
theorem SgE.calm (hz : z = true → pre = []) : ∀ (k : Nat) {g : Gp} {s : Rs} {u : Nat}, SgE fi pre T g s u → u + 5 * k ≤ 25000 → ∃ s' ∈ JN z fi k s, s'.ok = true → SgE fi pre T (Yf g k) s' (u + 5 * k)
 | 0, g, s, u, h, _ => ⟨s, List.mem_cons_self, fun _ => h⟩
 | k + 1, g, s, u, h, hu => by
  rw [GV]
  refine JR (oa := Rs.ok) (ob := Rs.ok) (h.round hz (by omega)) (fun s1 a1 => ?_) (DQ k)
  obtain ⟨s2, b1, b2⟩ := SgE.calm hz k a1 (by omega)
  exact ⟨s2, b1, fun e => by rw [show u + 5 * (k + 1) = u + 5 + 5 * k by omega]; exact b2 e⟩
theorem MN {n r : Nd} (h : RN pre T n r) {ix t : Int} (h1 : 1 ≤ ix) : Up n (ix + pre.length) (t + T) = 0 ↔ MO r ix t = true := by
 unfold Up MO
 rw [h.nb]
 have hl := h.len
 by_cases hx : ix - 1 < r.log.length
 ·have he : (n.log.getD (ix + pre.length - 0 - 1).toNat default).term = (r.log.getD (ix - 1).toNat default).term + T := by
   rw [show (ix + (pre.length : Int) - 0 - 1).toNat = pre.length + (ix - 1).toNat by omega, h.at (by omega)]
   rfl
  rw [he]
  by_cases ht : (r.log.getD (ix - 1).toNat default).term = t
  ·rw [if_pos ⟨by omega, by omega, by omega⟩, decide_eq_true ⟨by omega, hx, ht⟩]
   simp
  ·rw [if_neg (fun e => ht (by omega)), decide_eq_false (fun e => ht e.2.2)]
   simp
 ·rw [if_neg (fun e => by omega), decide_eq_false (fun e => hx e.2.1)]
  simp
theorem SgE.wait (hz : z = true → pre = []) {i : Nat} (hi : i < 3) {ix t : Int} (h1 : 1 ≤ ix) : ∀ (f : Nat) {g : Gp} {s : Rs} {u : Nat}, SgE fi pre T g s u → u + 5 * f ≤ 25000 →
  ∃ x ∈ W3 z fi i ix t f s, x.1.ok = true → SgE fi pre T (YB i (ix + pre.length) (t + T) f g).1 x.1 (u + 5 * f) ∧ ((YB i (ix + pre.length) (t + T) f g).2 = 0 ↔ x.2 = true)
 | 0, g, s, u, h, _ => by
  obtain ⟨τ, l, hs⟩ := id h
  have hn := hs.rn i hi
  have hc := hn.com
  refine ⟨_, List.mem_cons_self, fun _ => ⟨h, ?_⟩⟩
  show (if ix + (pre.length : Int) ≤ (g.k i).N.commit then Up (g.k i).N (ix + pre.length) (t + T) else 22) = 0 ↔ (decide (ix ≤ (s.n i).commit) && MO (s.n i) ix t) = true
  by_cases hle : ix ≤ (s.n i).commit
  ·rw [if_pos (by omega), decide_eq_true hle, Bool.true_and]
   exact MN hn h1
  ·rw [if_neg (by omega), decide_eq_false hle]
   simp
 | f + 1, g, s, u, h, hu => by
  obtain ⟨τ, l, hs⟩ := id h
  have hn := hs.rn i hi
  have hc := hn.com
  unfold YB W3
  by_cases hle : ix ≤ (s.n i).commit
  ·rw [if_pos hle, if_pos (by omega)]
   exact ⟨_, List.mem_cons_self, fun _ => ⟨h.le (by omega), MN hn h1⟩⟩
  ·rw [if_neg hle, if_neg (by omega)]
   refine JR (oa := Rs.ok) (ob := fun x : Rs × Bool => x.1.ok) (h.round hz (by omega)) (fun s1 a1 => ?_) (VF i ix t f)
   obtain ⟨x, b1, b2⟩ := SgE.wait hz hi h1 f a1 (by omega)
   exact ⟨x, b1, fun e => by rw [show u + 5 * (f + 1) = u + 5 + 5 * f by omega]; exact b2 e⟩
theorem SgE.do_ (h : SgE fi pre T g s u) (hz : z = true → pre = []) (hu : u + 205 ≤ 25000) {i : Nat} (hi : i < 3) (hrole : (g.k i).N.role = 2) :
  ∃ x ∈ doR z fi i [99] s, x.1.ok = true → SgE fi pre T (doG g (i : Int) [99]).1 x.1 (u + 205) ∧ ((doG g (i : Int) [99]).2 = 0 ↔ x.2 = true) := by
 obtain ⟨τ, l, hs⟩ := id h
 have hn := hs.rn i hi
 have hro : (s.n i).role = 2 := hn.role.symm.trans hrole
 have hth := hs.there hi
 have h0 : isI (i : Int) := ⟨by omega, by omega⟩
 unfold doG doR
 rw [if_pos hro]
 by_cases hc : thR fi s i = true
 ·rw [hc] at hth
  have ha : XM g (i : Int) = 0 := by
   unfold XM
   rw [if_neg (fun e => e h0), if_neg (fun e => e hth)]
  rw [if_pos hc, if_neg (fun e => e ha), Int.toNat_natCast]
  obtain ⟨p1, p2, p3⟩ := hn.prop hs.F [99]
  have q2 : (QT (s.n i) [99]).2.2 = 0 := by unfold QT; rw [if_neg (fun e => e hro), if_neg (by simp)]
  have q1 : 1 ≤ (QT (s.n i) [99]).2.1 := by
   unfold QT
   rw [if_neg (fun e => e hro), if_neg (by simp), hn.rb]
   show (1 : Int) ≤ 0 + (((s.n i).log.length : Nat) + 1)
   omega
  have r2 := p2.trans q2
  have r1 := p3 q2
  have hps := R8 hs.gb hu (i : Int) [99] (by simp) h0
  rw [Int.toNat_natCast] at hps
  have hby := Ge hps
  obtain ⟨n1, n2⟩ := hby.nb (hs.gb.nb i (by omega))
  obtain ⟨l', s', b1, b2, b3, b4, b5, b6⟩ := hs.did hi hc p1 (out := []) (outR := []) .nil (τ' := τ) (e := 5) (b := 0) (Nat.le_refl _) (by omega) (by omega) hby.id ⟨1, n1, by omega, by simp, by simp⟩ (by have := hs.gb.many; omega) (by omega)
  have eP : didG g i (QT (g.k i).N [99]).1 [] = Vm g i (QT (g.k i).N [99]).1 0 := by unfold didG Vm; simp
  rw [eP] at b2 b6
  unfold BQ
  rw [Int.toNat_natCast, r2, r1]
  rcases b6 with ⟨c1, c2, c3⟩ | ⟨c1, c2, c3⟩
  ·rw [if_neg (fun e => e c1), c3, p1.term]
   obtain ⟨x, d1, d2⟩ := SgE.wait (ix := (QT (s.n i) [99]).2.1) (t := (QT (s.n i) [99]).1.term) hz hi q1 40 ⟨_, _, b2⟩ (by omega)
   refine ⟨x, List.mem_flatMap.2 ⟨s', b1, ?_⟩, fun e => ?_⟩
   ·have hnd : (s'.dead && decide (i = fi)) = false := by
     rw [c2]
     unfold thR at hc
     cases hx : (s.dead && decide (i = fi)) with
     | false => rfl
     | true => rw [hx] at hc; cases hc
    rw [hnd]
    exact d1
   ·have := d2 e
    rw [show u + 5 + 5 * 40 = u + 205 by omega] at this
    exact this
  ·rw [if_pos (show ¬ (Qw (g.k i) (QT (g.k i).N [99]).1 0).2 = 0 by omega)]
   refine ⟨(s', false), List.mem_flatMap.2 ⟨s', b1, ?_⟩, fun _ => ⟨?_, ?_⟩⟩
   ·rw [c2, decide_eq_true c3]
    exact List.mem_cons_self
   ·exact SgE.le ⟨_, _, b2⟩ (by omega)
   ·show (Qw (g.k i) (QT (g.k i).N [99]).1 0).2 = 0 ↔ false = true
    rw [c1]; simp
 ·have ha : XM g (i : Int) = 22 := by
   unfold XM
   rw [if_neg (fun e => e h0), if_pos (by rw [hth]; exact hc)]
  rw [if_neg hc, if_pos (by rw [ha]; omega)]
  refine ⟨_, List.mem_cons_self, fun _ => ⟨h.le (by omega), ?_⟩⟩
  show XM g (i : Int) = 0 ↔ false = true
  rw [ha]; simp
end
theorem EA : DO.all (Y0 false 0) = true := by decide +kernel
theorem ED : EU.all (Y0 true 0) = true := by decide +kernel
theorem Ez : DO.all (Y0 false 1) = true := by decide +kernel
theorem EC : EU.all (Y0 true 1) = true := by decide +kernel
theorem Ey : DO.all (Y0 false 2) = true := by decide +kernel
theorem EB : EU.all (Y0 true 2) = true := by decide +kernel
def Uq (g : Gp) (i : Nat) (n : Int) : Gp := { g with ks := g.ks.set i { g.k i with d := XT (g.k i).d n } }
theorem Yz.wake {n n' : Nd} {τ l c b : Nat} (h : Yz PS n n' [] τ l c b) : Yz PS n (Qp n') [] τ l c b := by
 obtain ⟨d, h1, h2, _, _⟩ := h
 exact ⟨d, h1.wake, by have := Ia (n := n'); omega, by simp, by simp⟩
section
variable {z : Bool} {fi : Nat} {pre : List En} {T : Int} {g : Gp} {s : Rs} {τ l u : Nat}
theorem Sg.stop (h : Sg 9 pre T g s τ l u) (hd : s.dead = false) (hf : fi < 3) (n : Int) (hn : n ≤ 1000000000) : SgE fi pre T (Uq g fi n) s u := by
 have hi5 : fi < 5 := by omega
 have hki := h.gb.ki fi hi5
 have hlk := h.lv fi hi5 (by omega)
 have hdk : DkR (XT (g.k fi).d n) := ⟨by show 0 ≤ max n 0; omega, by show max n 0 ≤ 1000000000; omega, hki.d.r0, hki.d.r1, hki.d.fit⟩
 obtain ⟨l', g1, g2, _⟩ := h.gb.did hi5 (K' := { g.k fi with d := XT (g.k fi).d n }) (out := []) (τ' := τ) (c := 0) (b := 0) ⟨hdk, hki.n0, hki.n1⟩ (h.gb.id fi hi5) (Nat.le_refl _) (Nat.le_refl _) ⟨0, h.gb.nb fi hi5, by simp only; omega, by simp, by simp⟩ (by have := h.gb.many; omega)
 rw [List.append_nil] at g1
 have hks : ∀ j, j < 5 → (Uq g fi n).k j = if fi = j then { g.k fi with d := XT (g.k fi).d n } else g.k j := fun j hj => Gp.k_set (w := g.way) (by rw [h.gb.ks]; exact hj)
 have hkN : ∀ j, j < 5 → ((Uq g fi n).k j).N = (g.k j).N := fun j hj => by
  rw [hks j hj]
  split
  ·rename_i e; subst e; rfl
  ·rfl
 refine ⟨τ, l', .inl hf, h.F, h.cf, g1, h.sl, fun j hj => ?_, fun j h3 hj => ?_, h.rm, h.aw, fun j hj hne => ?_, fun _ _ => ?_, fun _ e => ?_, fun _ => ?_⟩
 ·rw [hkN j (by omega)]; exact h.rn j hj
 ·rw [hkN j hj]; exact h.nn j h3 hj
 ·rw [hks j hj, if_neg (fun e => hne e.symm)]; exact h.lv j hj (by omega)
 ·rw [hks fi hi5, if_pos rfl]; exact G7 n hlk.live hn
 ·rw [hd] at e; cases e
 ·rw [hks fi hi5, if_pos rfl]; exact hlk.room
theorem Sg.after (h : Sg fi pre T g s τ l u) (hf : fi < 3) : ∃ y, D2 (QV fi 7) 524100 (g.k fi) y ∧ y.id = fi ∧ Yz PS (g.k fi).N y [] τ l 6 0 ∧ (s.dead = false → y = (g.k fi).N) ∧ (s.dead = true → RN pre T y s.pd) := by
 cases hd : s.dead with
 | false => exact ⟨_, .inl ⟨h.al hf hd, rfl⟩, h.gb.id fi (by omega), ⟨0, h.gb.nb fi (by omega), by omega, by simp, by simp⟩, fun _ => rfl, fun e => by cases e⟩
 | true =>
  obtain ⟨y, h1, h2, h3, h4⟩ := h.gn hf hd
  exact ⟨y, .inr h1, h3, h4, (fun e => by cases e), fun _ => h2⟩
theorem Sg.crash (h : Sg fi pre T g s τ l u) (hf : fi < 3) {y : Nd} {K2 : Kp} (hyi : y.id = fi) (hw : Yz PS (g.k fi).N y [] τ l 6 0) (hy0 : s.dead = false → y = (g.k fi).N) (hy1 : s.dead = true → RN pre T y s.pd)
  (hl : Y1 (QV fi 7) 524100 K2) (hN : K2.N = Qp (g.k fi).N ∨ K2.N = Qp y) (h0 : K2.d.left = 0) (hr : K2.d.room = (g.k fi).d.room) : ∃ s' ∈ Wz fi s, SgE 9 pre T { g with ks := g.ks.set fi K2 } s' (u + 6) := by
 have hi5 : fi < 5 := by omega
 have hki2 : KI K2 := by
  obtain ⟨so, rs, hc, hnn⟩ := hl.cont
  exact ⟨hl.dk, by omega, by have := hc.len; omega⟩
 have hid := h.gb.id fi hi5
 have hw2 : Yz PS (g.k fi).N K2.N [] τ l 6 0 := by
  rcases hN with e | e
  ·rw [e]; exact Yz.wake ⟨0, h.gb.nb fi hi5, by omega, by simp, by simp⟩
  ·rw [e]; exact hw.wake
 obtain ⟨l', g1, g2, _⟩ := h.gb.did hi5 (K' := K2) (out := []) (τ' := τ) (c := 6) (b := 0) hki2 (by rcases hN with e | e <;> rw [e]; exact hid; exact hyi) (Nat.le_refl _) (by omega) hw2 (by have := h.gb.many; omega)
 rw [List.append_nil] at g1
 have hks : ∀ j, j < 5 → Gp.k { g with ks := g.ks.set fi K2 } j = if fi = j then K2 else g.k j := fun j hj => Gp.k_set (w := g.way) (by rw [h.gb.ks]; exact hj)
 have fin : ∀ r, RN pre T K2.N r → SgE 9 pre T { g with ks := g.ks.set fi K2 } { s with ns := s.ns.set fi r, dead := false } (u + 6) := by
  intro r hrn
  refine ⟨τ, l', .inr rfl, h.F, h.cf, g1, by rw [List.length_set]; exact h.sl, fun j hj => ?_, fun j h3 hj => ?_, h.rm, h.aw, fun j hj _ => ?_, fun e => absurd e (by omega), fun e => absurd e (by omega), fun e => absurd e (by omega)⟩
  ·rw [hks j (by omega), show Rs.n { s with ns := s.ns.set fi r, dead := false } j = if fi = j then r else s.n j from Rs.n_set (w := s.way) (by rw [h.sl]; exact hj)]
   split
   ·exact hrn
   ·exact h.rn j hj
  ·rw [hks j hj, if_neg (by omega)]; exact h.nn j h3 hj
  ·rw [hks j hj]
   split
   ·rename_i e; subst e; exact ⟨hl, h0, hr.trans (h.ro hf)⟩
   ·rename_i e; exact h.lv j hj (fun x => e x.symm)
 unfold Wz
 have first : K2.N = Qp (g.k fi).N → ∃ s' ∈ { s with ns := s.ns.set fi (Qp (s.n fi)), dead := false } :: (if s.dead then [{ s with ns := s.ns.set fi (Qp s.pd), dead := false }] else []), SgE 9 pre T { g with ks := g.ks.set fi K2 } s' (u + 6) := fun e => ⟨_, List.mem_cons_self, fin _ (by rw [e]; exact (h.rn fi hf).wake)⟩
 rcases hN with e | e
 ·exact first e
 ·cases hd : s.dead with
  | false =>
   rw [hd] at first
   exact first (by rw [e, hy0 hd])
  | true =>
   rw [if_pos rfl]
   exact ⟨_, List.mem_cons_of_mem _ List.mem_cons_self, fin _ (by rw [e]; exact (hy1 hd).wake)⟩
end
theorem Rh (l : List En) : ((l.map (·.cmd)).filter (fun c => !c.isEmpty)).length = Xy l := by
 unfold Xy
 rw [List.filter_map, List.length_map]
 rfl
theorem RN.done {pre : List En} {T : Int} {n r : Nd} (h : RN pre T n r) : (Ye n).length = Xy pre + JL r := by
 have hl := h.len
 have hc := h.com
 have h0 := h.com0
 unfold Ye JL
 rw [Rh, h.nb]
 have e : n.log.take (max (min (n.commit - 0) n.log.length) 0).toNat = pre ++ (r.log.take r.commit.toNat).map (shE T) := by
  by_cases hle : n.commit ≤ n.log.length
  ·rw [show (max (min (n.commit - 0) (n.log.length : Int)) 0).toNat = pre.length + r.commit.toNat by omega, h.log, List.take_append, List.take_of_length_le (by omega), Nat.add_sub_cancel_left, List.map_take]
  ·rw [List.take_of_length_le (l := n.log) (by omega), List.take_of_length_le (l := r.log) (by omega), h.log]
 rw [e, WD, WB (shE T) (fun _ => rfl)]
theorem RN.doneEq {pre : List En} {T : Int} {n r n' r' : Nd} (h : RN pre T n r) (h' : RN pre T n' r') (hl : r'.log = r.log) (hc : r'.commit = r.commit) : Ye n' = Ye n := by
 unfold Ye
 rw [h.nb, h'.nb, h.log, h'.log, h.com, h'.com, hl, hc]
def MH (z : Bool) (pre : List En) (s : Rs) : Prop := (z = true ∧ s ∈ EU ∧ pre = []) ∨ (z = false ∧ s ∈ DO)
theorem MH.z {z : Bool} {pre : List En} {s : Rs} (h : MH z pre s) : z = true → pre = [] := fun e => by
 rcases h with ⟨_, _, h⟩ | ⟨h, _⟩
 ·exact h
 ·rw [h] at e; cases e
theorem MH.good {z : Bool} {pre : List En} {s : Rs} (h : MH z pre s) {fi : Nat} (hf : fi < 3) : Vx z fi s = true := by
 rw [← EE]
 have : fi = 0 ∨ fi = 1 ∨ fi = 2 := by omega
 rcases h with ⟨rfl, h, _⟩ | ⟨rfl, h⟩ <;> rcases this with rfl | rfl | rfl
 ·exact List.all_eq_true.1 ED _ h
 ·exact List.all_eq_true.1 EC _ h
 ·exact List.all_eq_true.1 EB _ h
 ·exact List.all_eq_true.1 EA _ h
 ·exact List.all_eq_true.1 Ez _ h
 ·exact List.all_eq_true.1 Ey _ h
theorem MH.flat {z : Bool} {pre : List En} {s : Rs} (h : MH z pre s) : DB s = true := by
 rcases h with ⟨_, h, _⟩ | ⟨_, h⟩
 ·exact List.all_eq_true.1 IY _ h
 ·exact List.all_eq_true.1 IX _ h
def Rg (g : Gp) (u dn : Nat) : Prop := ∃ z pre T s, SgE 9 pre T g s u ∧ MH z pre s ∧ dn ≤ Xy pre + Xy (s.n 0).log
def Md (z : Bool) (fi : Nat) (pre : List En) (T : Int) (s0 : Rs) (g : Gp) (u j c : Nat) : Prop := ∃ s, SgE fi pre T g s u ∧ ∀ x ∈ DG z fi ([0, 1, 2].drop j) (s, c), YF z fi s0 x = true
section
variable {z : Bool} {fi : Nat} {pre : List En} {T : Int} {g : Gp} {s s0 : Rs} {u j c : Nat}
theorem Bu {x : Rs × Nat} (h : YF z fi s0 x = true) : x.1.ok = true := by
 unfold YF at h
 have := List.all_eq_true.1 h _ (show { x.1 with ns := x.1.ns.set fi (Qp (x.1.n fi)), dead := false } ∈ Wz fi x.1 from List.mem_cons_self)
 simp only [Bool.and_eq_true] at this
 exact this.1
theorem DF (hj : j < 3) (p : Rs × Nat) : DG z fi ([0, 1, 2].drop j) p = (doR z fi j [99] p.1).flatMap fun x => DG z fi ([0, 1, 2].drop (j + 1)) (x.1, if x.2 then p.2 + 1 else p.2) := by
 have : j = 0 ∨ j = 1 ∨ j = 2 := by omega
 rcases this with rfl | rfl | rfl <;> rfl
theorem Md.skip (h : Md z fi pre T s0 g u j c) (hj : j < 3) (hr : ¬ (g.k j).N.role = 2) : Md z fi pre T s0 g u (j + 1) c := by
 obtain ⟨s, hS, hx⟩ := h
 obtain ⟨τ, l, hs⟩ := id hS
 have hro : ¬ (s.n j).role = 2 := fun e => hr ((hs.rn j hj).role.trans e)
 refine ⟨s, hS, fun x hm => hx x ?_⟩
 rw [DF hj]
 refine List.mem_flatMap.2 ⟨(s, false), ?_, hm⟩
 unfold doR
 rw [if_neg hro]
 exact List.mem_cons_self
theorem Md.do_ (h : Md z fi pre T s0 g u j c) (hz : z = true → pre = []) (hu : u + 205 ≤ 25000) (hj : j < 3) (hr : (g.k j).N.role = 2) :
  Md z fi pre T s0 (doG g (j : Int) [99]).1 (u + 205) (j + 1) (if (doG g (j : Int) [99]).2 = 0 then c + 1 else c) := by
 obtain ⟨s, hS, hx⟩ := h
 obtain ⟨x, h1, h2⟩ := hS.do_ hz hu hj hr
 have hin : ∀ y ∈ DG z fi ([0, 1, 2].drop (j + 1)) (x.1, if x.2 then c + 1 else c), YF z fi s0 y = true := fun y hy => hx y (by
  rw [DF hj]
  exact List.mem_flatMap.2 ⟨x, h1, hy⟩)
 have hok : x.1.ok = true := by
  cases ho : x.1.ok with
  | true => rfl
  | false =>
   obtain ⟨y, hy, hyo⟩ := GQ (z := z) (fi := fi) ([0, 1, 2].drop (j + 1)) (x.1, if x.2 then c + 1 else c) ho
   have := Bu (hin y hy)
   rw [hyo] at this; cases this
 obtain ⟨a1, a2⟩ := h2 hok
 refine ⟨x.1, a1, ?_⟩
 have e : (if (doG g (j : Int) [99]).2 = 0 then c + 1 else c) = if x.2 then c + 1 else c := by
  by_cases h0 : (doG g (j : Int) [99]).2 = 0
  ·rw [if_pos h0, if_pos (a2.1 h0)]
  ·rw [if_neg h0, if_neg (fun e => h0 (a2.2 e))]
 rw [e]
 exact hin
theorem Rg.stop {dn : Nat} (h : Rg g u dn) (hf : fi < 3) (n : Int) (hn : n ≤ 1000000000) : ∃ z pre T s0, MH z pre s0 ∧ Md z fi pre T s0 (Uq g fi n) u 0 0 ∧ dn ≤ Xy pre + Xy (s0.n 0).log ∧ (Ye (g.k fi).N).length = Xy pre + JL (s0.n fi) := by
 obtain ⟨z, pre, T, s, ⟨τ, l, hS⟩, hR, hd⟩ := h
 have hfl := hR.flat
 unfold DB at hfl
 have hdead := (of_decide_eq_true hfl).1
 have hg := hR.good hf
 unfold Vx at hg
 exact ⟨z, pre, T, s, hR, ⟨s, hS.stop hdead hf n hn, fun x hx => List.all_eq_true.1 hg x hx⟩, hd, (hS.rn fi hf).done⟩
theorem Md.crash (h : Md z fi pre T s0 g u 3 c) (hf : fi < 3) : ∃ τ l y, GB PS g τ l u ∧ g.conf = 7 ∧ D2 (QV fi 7) 524100 (g.k fi) y ∧ y.id = fi ∧ Yz PS (g.k fi).N y [] τ l 6 0 ∧
  ∀ K2 : Kp, Y1 (QV fi 7) 524100 K2 → (K2.N = Qp (g.k fi).N ∨ K2.N = Qp y) → K2.d.left = 0 → K2.d.room = (g.k fi).d.room →
   ∃ s1, SgE 9 pre T { g with ks := g.ks.set fi K2 } s1 (u + 6) ∧ JL (s0.n fi) ≤ JL (s1.n fi) ∧ ∀ s2 ∈ JN z 9 60 s1, UI s0 c s2 = true := by
 obtain ⟨s, ⟨τ, l, hS⟩, hx⟩ := h
 obtain ⟨y, y1, y2, y3, y4, y5⟩ := hS.after hf
 refine ⟨τ, l, y, hS.gb, hS.cf, y1, y2, y3, fun K2 k1 k2 k3 k4 => ?_⟩
 obtain ⟨s1, h1, h2⟩ := hS.crash hf y2 y3 y4 y5 k1 k2 k3 k4
 have hg := hx (s, c) List.mem_cons_self
 unfold YF at hg
 have hg1 := List.all_eq_true.1 hg s1 h1
 simp only [Bool.and_eq_true, decide_eq_true_eq] at hg1
 exact ⟨s1, h2, hg1.2.1, fun s2 hs2 => List.all_eq_true.1 hg1.2.2 s2 hs2⟩
theorem Oi {dn : Nat} (h : SgE 9 pre T g s u) (hz : z = true → pre = []) (hu : u + 300 ≤ 25000) (hd : dn ≤ Xy pre + Xy (s0.n 0).log) (hg : ∀ s2 ∈ JN z 9 60 s, UI s0 c s2 = true) : Rg (Yf g 60) (u + 300) (dn + c) := by
 obtain ⟨s2, h1, h2⟩ := SgE.calm (z := z) hz 60 h (by omega)
 have hE := hg s2 h1
 unfold UI at hE
 simp only [Bool.and_eq_true, decide_eq_true_eq, List.all_eq_true] at hE
 obtain ⟨e1, e2, ⟨e3, e4⟩, e5, e6⟩ := hE
 obtain ⟨τ, l, hS⟩ := h2 e1
 obtain ⟨pre', T', f1, f2, f3, f4⟩ := BL hS.F hS.sl hS.rn hS.rm e3 e5 e2 (fun e he => by
  obtain ⟨k, hk⟩ := List.mem_iff_getElem?.1 he
  exact ((hS.gb.nb 0 (by omega)).ents k e hk).t0)
 refine ⟨false, pre', T', MC s2, ⟨τ, l, hS.f, f1, hS.cf, hS.gb, ?_, f2, hS.nn, f3, hS.aw, hS.lv, fun e => absurd e (by omega), fun e => absurd e (by omega), fun e => absurd e (by omega)⟩, .inr ⟨rfl, e2⟩, by omega⟩
 show ((s2.ns.map _).length = 3)
 rw [List.length_map]; exact hS.sl
theorem Rg.ends {dn : Nat} (h : Rg g u dn) : (Ye (g.k 1).N = Ye (g.k 0).N ∧ Ye (g.k 2).N = Ye (g.k 0).N) ∧ dn ≤ (Ye (g.k 0).N).length := by
 obtain ⟨z, pre, T, s, ⟨τ, l, hS⟩, hR, hd⟩ := h
 have hfl := hR.flat
 unfold DB at hfl
 obtain ⟨_, ⟨f1, f2⟩, f3, f4, f5⟩ := of_decide_eq_true hfl
 have r0 := hS.rn 0 (by omega)
 refine ⟨⟨r0.doneEq (hS.rn 1 (by omega)) f1 (by rw [f4, f3, f1]), r0.doneEq (hS.rn 2 (by omega)) f2 (by rw [f5, f3, f2])⟩, ?_⟩
 rw [r0.done]
 unfold JL
 rw [f3, Int.toNat_natCast, List.take_length]
 exact hd
theorem Rg.gb {dn : Nat} (h : Rg g u dn) : ∃ τ l, GB PS g τ l u := by
 obtain ⟨z, pre, T, s, ⟨τ, l, hS⟩, _⟩ := h
 exact ⟨τ, l, hS.gb⟩
theorem Md.gb (h : Md z fi pre T s0 g u j c) : ∃ τ l, GB PS g τ l u := by
 obtain ⟨s, ⟨τ, l, hS⟩, _⟩ := h
 exact ⟨τ, l, hS.gb⟩
theorem Md.le {u' : Nat} (h : Md z fi pre T s0 g u j c) (hu : u ≤ u') : Md z fi pre T s0 g u' j c := by
 obtain ⟨s, hS, hx⟩ := h
 exact ⟨s, hS.le hu, hx⟩
theorem Rg.le {u' dn : Nat} (h : Rg g u dn) (hu : u ≤ u') : Rg g u' dn := by
 obtain ⟨z, pre, T, s, hS, hx⟩ := h
 exact ⟨z, pre, T, s, hS.le hu, hx⟩
theorem Md.crash2 {dn was : Nat} (h : Md z fi pre T s0 g u 3 c) (hR : MH z pre s0) (hf : fi < 3) (hu : u + 306 ≤ 25000) (hd : dn ≤ Xy pre + Xy (s0.n 0).log) (hw : was = Xy pre + JL (s0.n fi)) :
  ∃ τ l y, GB PS g τ l u ∧ g.conf = 7 ∧ D2 (QV fi 7) 524100 (g.k fi) y ∧ y.id = fi ∧ Yz PS (g.k fi).N y [] τ l 6 0 ∧
   ∀ K2 : Kp, Y1 (QV fi 7) 524100 K2 → (K2.N = Qp (g.k fi).N ∨ K2.N = Qp y) → K2.d.left = 0 → K2.d.room = (g.k fi).d.room →
    was ≤ (Ye (Gp.k { g with ks := g.ks.set fi K2 } fi).N).length ∧ (∃ τ l, GB PS { g with ks := g.ks.set fi K2 } τ l (u + 6)) ∧ Rg (Yf { g with ks := g.ks.set fi K2 } 60) (u + 306) (dn + c) := by
 obtain ⟨τ, l, y, h1, h2, h3, h4, h5, h6⟩ := h.crash hf
 refine ⟨τ, l, y, h1, h2, h3, h4, h5, fun K2 k1 k2 k3 k4 => ?_⟩
 obtain ⟨s1, g1, g2, g3⟩ := h6 K2 k1 k2 k3 k4
 obtain ⟨τ', l', hS⟩ := id g1
 refine ⟨?_, ⟨τ', l', hS.gb⟩, Oi g1 hR.z (by omega) hd g3⟩
 rw [(hS.rn fi hf).done]
 omega
theorem Me (i : Int) (h0 : 0 ≤ i) (h3 : i < 3) : RN [] 0 (QV i 7) (QV i 7) where
 id := rfl
 id0 := h0
 id3 := h3
 term := rfl
 term0 := Int.le_refl _
 vote := rfl
 nb := rfl
 nbt := rfl
 nbc := rfl
 ns := rfl
 rb := rfl
 rbt := rfl
 rbc := rfl
 rs := rfl
 log := rfl
 conf := fun e he => by cases he
 com := rfl
 com0 := Int.le_refl _
 role := rfl
 wait := rfl
 votes := fun _ => rfl
 nxt := fun e => by cases e
 mt := fun e => by cases e
theorem Ao (hB : GB PS g 0 0 0) (hL : GL 7 g) (hpr : prG g = Bh 7) (hcf : g.conf = 7) : Rg (Yf g 30) 150 0 := by
 have hn : ∀ i : Nat, i < 5 → (g.k i).N = QV i 7 := fun i hi => by
  rw [← Gf g i (by rw [hB.ks]; exact hi), hpr]
  have : i = 0 ∨ i = 1 ∨ i = 2 ∨ i = 3 ∨ i = 4 := by omega
  rcases this with rfl | rfl | rfl | rfl | rfl <;> rfl
 have haw : g.aw = [false, false, false, false, false] := congrArg Gn.aw hpr
 have hway : g.way = [] := congrArg Gn.way hpr
 have hS : SgE 9 [] 0 g RK 0 := by
  refine ⟨0, 0, .inr rfl, ⟨(fun e he => by cases he), rfl, Int.le_refl _⟩, hcf, hB, rfl, fun i hi => ?_, fun i _ hi => hn i hi, by rw [hway]; exact .nil, fun i hi => ?_, fun i hi _ => hL i hi, fun e => absurd e (by omega), fun e => absurd e (by omega), fun e => absurd e (by omega)⟩
  ·rw [hn i (by omega)]
   have : i = 0 ∨ i = 1 ∨ i = 2 := by omega
   rcases this with rfl | rfl | rfl
   ·exact Me 0 (by omega) (by omega)
   ·exact Me 1 (by omega) (by omega)
   ·exact Me 2 (by omega) (by omega)
  ·rw [haw]
   have : i = 0 ∨ i = 1 ∨ i = 2 ∨ i = 3 ∨ i = 4 := by omega
   rcases this with rfl | rfl | rfl | rfl | rfl <;> rfl
 obtain ⟨s, h1, h2⟩ := SgE.calm (z := true) (fun _ => rfl) 30 hS (by omega)
 have hok : s.ok = true := by
  have := List.mem_map_of_mem (f := fun s : Rs => (s.ok, (s.n 0).role)) (show s ∈ EU from h1)
  rw [BN] at this
  simp only [List.mem_singleton, Prod.mk.injEq] at this
  exact this.1
 exact ⟨true, [], 0, s, h2 hok, .inl ⟨rfl, h1, rfl⟩, Nat.zero_le _⟩
end
end Go.Proofs.YtjbokbikkcfjjaaGreat
namespace Go.Cap
section
variable {P : Program} {t : Env} {H : Qc} {dst : Option Tmp} {tp : TypeId} {pos : String} {aft : Array Edge} {g : Option (Nat × Bool)} {ty ty' : TypeId} {x : Operand}
theorem LZ {e : TypeId} (w : World) {ty : TypeId} (hu : P.underlying ty = some (.pointer e)) (d : Nat) : (Op.equalIn (d + 1) ty (.pointer none) (.pointer none)).run P w = .ok true w := by
 simp [Op.equalIn, run_underlying hu]
theorem MQ {e : TypeId} (w : World) {ty : TypeId} (hu : P.underlying ty = some (.pointer e)) : (Op.equal ty (.pointer none) (.pointer none)).run P w = .ok true w := LZ w hu 9999
theorem Te {e : TypeId} (hx : t.ev x = .v (.pointer none) := by exact zl) (hu : P.underlying ty = some (.pointer e) := by rfl) : POp P t H ⟨dst, .binOp .neq ty x (.const (.pointer none)) ty', tp, pos, aft, g⟩ (.v (.bool (decide False))) :=
 Q8 hx rfl fun w => by
  have := MQ w hu
  simp [eqGuard, binOp, this]
end
end Go.Cap
namespace Go.Proofs.YtjbokbikkcfjjaaGreat
open Go.Cap
attribute [local irreducible] POp Qf TO EOp Sim FnH T.gp
theorem RC (a : Int) {k : Int} (hk : 0 < k) : -k < a.tmod k ∧ a.tmod k < k := ⟨Int.lt_tmod_of_pos a hk, Int.tmod_lt_of_pos a hk⟩
theorem RB (a : Int) {k : Int} (hk : 0 < k) : (if a.tmod k < 0 then a.tmod k + k else a.tmod k) = a % k := by
 have h := VH a k hk
 split
 ·rename_i h1; exact h.1 h1
 ·rename_i h1; exact h.2 h1
theorem Va (a k : Int) (hk : 0 < k) (hk1 : k ≤ 4611686018427387904) : FnP Tryz.prog 13 [ei a, ei k] (fun r => r = ei (a % k)) := by
 have hb := RC a hk
 have hf := RB a hk
 refine fe Tryz.func13 fun S0 w0 => ?_
 show Sim _ _ [(0, ei a), (1, ei k)] _ _
 refine zC ?_
 refine cr <| s_ Qb <| zC ?_
 refine cr <| s_ Qa <| s_ Qa <| s_ Ma <| s_ Qb <| zC ?_
 refine cr <| s_ Qa <| s_ QU <| zC ?_
 refine ci ?_ ?_
 ·intro hn
  rw [if_pos hn] at hf
  refine zC ?_
  refine cr <| s_ Qa <| s_ Qa <| s_ QY <| s_ Qb <| zC ?_
  refine cr <| s_ Qa <| s_ Qb <| zC ?_
  refine zE ?_
  rw [hf]
  exact Le.refl _
 ·intro hn
  rw [if_neg hn] at hf
  refine zC ?_
  refine cr <| s_ Qa <| s_ Qb <| zC ?_
  refine zE ?_
  rw [hf]
  exact Le.refl _
theorem Ev : FnP Tryz.prog 9 [] (fun r => r = .v (.bool true)) := by
 have hN := GG PS 7 (by omega) (by omega)
 refine fe Tryz.func9 fun S0 w0 => ?_
 show Sim _ _ [] _ _
 refine zC ?_
 refine cr <| s_ Qb <| zC ?_
 apply cr
 refine Q2 (Hs := []) (Hr := []) hN (.refl _) (fun r H ⟨bg, g, hr, hG, hB, hL, hpr, hcf⟩ => ?_)
 subst hr
 rw [List.append_nil]
 refine s_ Qa <| s_ QH <| s_ QH <| s_ Qb <| s_ Qb <| zC ?_
 refine cr <| s_ Qa <| s_ Yq <| s_ Qa <| gF (fun hg => Qa) ?_
 refine gF (p := ¬ (0 : Int) = 0) (fun hg => Ti (hx := u_ hg)) ?_
 refine s_ YW <| zC ?_
 refine ci ?_ ?_
 ·rintro (h | h)
  ·exact absurd rfl h
  ·exact h.elim
 intro _
 have hC := UJ Xx bg g H 30 30 (by omega) hB (by omega) hG
 obtain ⟨l1, hB1, _⟩ := hB.calm Xx.toPO 30 (by omega)
 obtain ⟨hL1, hpr1⟩ := hL.calm Xx hB 30 (by omega)
 obtain ⟨g1, hg1⟩ : ∃ g1, g1 = Yf g 30 := ⟨_, rfl⟩
 rw [← hg1] at hC hB1 hL1 hpr1
 rw [hpr] at hpr1
 refine zC ?_
 refine cr <| s_ Qa ?_
 refine QI hC (fun r H' ⟨hr1, hG1⟩ => ?_)
 subst hr1
 have h0 : isI 0 := ⟨by omega, by omega⟩
 have h5 : ¬ isI 5 := fun h => absurd h.2 (by omega)
 have hK5 := IP bg g1 H' 5 h5 hG1
 obtain ⟨a, bm, em, clk, W, wv, hA, hO, rfl⟩ := hG1
 have hK0 := Lt bg g1 0 h0 (a := a) (bm := bm) (clk := clk) hA hO
 have hlen := (hB1.nb 0 (by omega)).len
 have hfv := hB1.five
 have hNo := JH (bg := bg) (g := g1) (a := a) (bm := bm) (es := em) (clk := clk) (W := W) (wv := wv) (i := 0) (by omega) (by omega)
 have hrole : (g1.k 0).N.role = 2 := by
  rw [← Gf g1 0 (by rw [hB1.ks]; omega), hpr1]
  exact Bq
 refine zC ?_
 refine cr <| s_ Qa ?_
 refine QI hK0 (fun r H' ⟨hr1, hr2⟩ => ?_)
 subst hr1 hr2
 refine s_ Ti <| s_ Qa <| gF (fun hg => Qa) ?_
 refine GI (p := False) (Hr := []) (fun h => h) hK5 (by rw [List.append_nil]) (fun r H' ⟨hr1, hr2⟩ => ?_) (ha' := QK (u_ (fun h => h)) (QK Ue XE))
 subst hr1 hr2
 rw [List.append_nil]
 refine gF (p := False) (fun hg => Te) ?_
 refine s_ YW <| zC ?_
 refine ci ?_ ?_
 ·rintro (h | h)
  ·exact h.elim
  ·exact h.elim
 intro _
 refine zC ?_
 refine cr <| s_ Qa ?_
 refine QI hK0 (fun r H' ⟨hr1, hr2⟩ => ?_)
 subst hr1 hr2
 refine QI hNo (fun r H' ⟨hr1, hr2⟩ => ?_)
 subst hr1 hr2
 refine s_ Ax <| s_ XF <| s_ Qb <| zC ?_
 refine zE ?_
 exact Le.of_eq (by show T.v (.bool (decide ((g1.k 0).N.role = 2))) = _; rw [decide_eq_true hrole])
theorem Ty (conf : Int) (a : Nat → Ad) (bm : Nat) (wv : Value) {i : Int} (h : isI i) (bk bj : Nat) : ZB (gC conf a bm wv) (0 + 1 + i.toNat * 2 + 1) [pW bk] (gC conf (upA a i.toNat ⟨(a i.toNat).bd, bk, bj⟩) bm wv) := by
 rcases five h.1 h.2 with rfl | rfl | rfl | rfl | rfl
 all_goals show ZB _ _ _ _; unfold gC upA; exact zy
theorem Ih {x y p q : Nat × Blk} {W O M G : Qc} (h : (M ++ O).Perm G) : ((x :: y :: (W ++ (p :: q :: O))) ++ M).Perm (p :: q :: x :: y :: (W ++ G)) := by
 have h1 : (W ++ (p :: q :: O)).Perm (p :: q :: (W ++ O)) := (List.perm_middle (l₁ := W)).trans ((List.perm_middle (l₁ := W)).cons p)
 have h2 : ((x :: y :: (W ++ (p :: q :: O))) ++ M).Perm ((x :: y :: p :: q :: (W ++ O)) ++ M) := ((h1.cons y).cons x).append_right M
 refine h2.trans ?_
 have h3 : (x :: y :: p :: q :: (W ++ O ++ M)).Perm (p :: q :: x :: y :: (W ++ O ++ M)) := List.perm_append_comm_assoc [x, y] [p, q] (W ++ O ++ M)
 refine h3.trans ?_
 have h4 : (W ++ O ++ M).Perm (W ++ G) := by
  rw [List.append_assoc]
  exact (List.perm_append_comm.trans h).append_left W
 exact (((h4.cons y).cons x).cons q).cons p
theorem L9 {x y : Nat × Blk} {W M A B : Qc} (h : M.Perm (A ++ B)) : (x :: y :: (W ++ M)).Perm (A ++ (x :: y :: (W ++ B))) := UB h
theorem OX (bg : Nat) (g : Gp) (H : Qc) (i pick : Int) (y : Nd) (hi : isI i) (hks : g.ks.length = 5) (hc0 : 0 ≤ g.conf) (hc31 : g.conf ≤ 31) (hA : D2 (QV i g.conf) 524100 (g.k i.toNat) y) (hid : (g.k i.toNat).N.id = i) (hidy : y.id = i)
  (hz1 : Sz (Qp (g.k i.toNat).N)) (hq1 : (Qq (Qp (g.k i.toNat).N) 0).length ≤ 524100) (hz2 : Sz (Qp y)) (hq2 : (Qq (Qp y) 0).length ≤ 524100) (hG : IsG bg g H) :
  FnH Tryz.prog 24 [pW bg, ei i, ei pick] H (fun r H' => r = .v (.bool (decide (isI i))) ∧ ∃ K2, IsG bg { g with ks := g.ks.set i.toNat K2 } H' ∧ Y1 (QV i g.conf) 524100 K2 ∧ (K2.N = Qp (g.k i.toNat).N ∨ K2.N = Qp y) ∧ K2.d.left = 0 ∧ K2.d.room = (g.k i.toNat).d.room) := by
 have hI := JI bg g H i hG
 rw [decide_eq_true hi]
 obtain ⟨h5, hin⟩ := XC hi
 have hi5 : 0 ≤ i ∧ i < 5 := hi
 obtain ⟨a, bm, em, clk, W, wv, hAw, hO, rfl⟩ := hG
 obtain ⟨hdk, hs0, hs1, so, rs, tl, hcont⟩ := DX pick hA
 obtain ⟨K, hK⟩ : ∃ K, K = g.k i.toNat := ⟨_, rfl⟩
 have hgk : ∀ K2 : Kp, ∀ j, j < 5 → Gp.k { g with ks := g.ks.set i.toNat K2 } j = upA g.k i.toNat K2 j := fun K2 j hj => by
  have := Gp.k_set (g := g) (i := i.toNat) (j := j) (K := K2) (w := g.way) (by rw [hks]; exact hj)
  rw [show Gp.k { g with ks := g.ks.set i.toNat K2 } j = _ from this]
  unfold upA
  by_cases hij : i.toNat = j
  ·rw [if_pos hij, if_pos hij.symm]
  ·rw [if_neg hij, if_neg (fun e => hij e.symm)]
 obtain ⟨bk, hbk⟩ : ∃ bk, bk = (a i.toNat).bk := ⟨_, rfl⟩
 obtain ⟨bj, hbj⟩ : ∃ bj, bj = (a i.toNat).bj := ⟨_, rfl⟩
 obtain ⟨bd, hbd⟩ : ∃ bd, bd = (a i.toNat).bd := ⟨_, rfl⟩
 have hcd := AM (conf := g.conf) (a := a) (bm := bm) (wv := wv) hi
 have hst := fun bk' bj' => Ty g.conf a bm wv hi bk' bj'
 have hMat : (gM a g.k).Perm (DkH bd K.d ++ ((bk, ⟨tK, pW bj :: Qv K.N (.sl false (K.N.log.map een)), 23⟩) :: (bj, ⟨tJ, [pW bd, ei K.n], 2⟩) :: gO a g.k i.toNat)) := by
  have h1 := Vj a g.k h5
  have h2 : mH (a i.toNat) (g.k i.toNat) = [(bk, ⟨tK, pW bj :: Qv K.N (.sl false (K.N.log.map een)), 23⟩), (bj, ⟨tJ, [pW bd, ei K.n], 2⟩)] ++ DkH bd K.d := by rw [hbk, hbj, hbd, hK]; rfl
  rw [h2] at h1
  refine h1.trans ?_
  rw [List.append_assoc]
  exact (List.perm_append_comm_assoc _ _ _)
 have hp0 := L9 (x := (bg, ⟨tG, gC g.conf a bm wv, 13⟩)) (y := (bm, ⟨.map em clk, [], 0⟩)) (W := W) hMat
 have hpU := fun bk' bj' (K2 : Kp) => (Dv a (upA a i.toNat ⟨bd, bk', bj'⟩) g.k (upA g.k i.toNat K2) h5 (fun j _ hj => ⟨by unfold upA; rw [if_neg hj], by unfold upA; rw [if_neg hj]⟩))
 rw [← hbd] at hcd hst
 rw [← hK] at hcont hdk hs0 hs1 hid hz1 hq1 ⊢
 have hSt := E7 bd K.d 0
 have hdk0 : Um (XT K.d 0) := ⟨Int.le_refl _, by show max (0 : Int) 0 ≤ _; omega, hdk.r0, hdk.r1, hdk.ok.used⟩
 have hCr := Ci bd (XT K.d 0) pick hdk0 hs0 hs1
 have hcrd := Cj pick hdk
 obtain ⟨d2, hd2⟩ : ∃ d2, d2 = Jo (XT K.d 0) pick := ⟨_, rfl⟩
 have hd2a : d2.dead = false ∧ d2.left = 0 ∧ d2.synced = d2.log.length ∧ d2.room = K.d.room := by rw [hd2]; exact ⟨rfl, rfl, rfl, rfl⟩
 rw [← hd2] at hcrd hcont hCr
 obtain ⟨z1, z2, z3, z4⟩ := hd2a
 have hNew := Io i g.conf hi5.1 hi5.2 hc0 hc31
 have hOp : FnH Tryz.prog 34 [pW bd, ei i, ei g.conf] (DkH bd d2) (fun r H => ∃ bk bj K2, r = .tup [pW bk, ei 0] ∧ H = KpH bk bj bd K2 ∧ Y1 (QV i g.conf) 524100 K2 ∧ (K2.N = Qp K.N ∨ K2.N = Qp y) ∧ K2.d.left = 0 ∧ K2.d.room = d2.room) := by
  rcases hcont with hc | hc
  ·exact FnH.mono (R0 bd i g.conf hc hcrd z1 z2 z3 (by rw [hid]; rfl) hNew rfl (by simp [QV]) (by omega) hz1 hq1) (by
    rintro r H ⟨a, b, c, e1, e2, e3, e4, e5, e6⟩
    exact ⟨a, b, c, e1, e2, e3, .inl e4, e5, e6⟩)
  ·exact FnH.mono (R0 bd i g.conf hc hcrd z1 z2 z3 (by rw [hidy]; rfl) hNew rfl (by simp [QV]) (by omega) hz2 hq2) (by
    rintro r H ⟨a, b, c, e1, e2, e3, e4, e5, e6⟩
    exact ⟨a, b, c, e1, e2, e3, .inr e4, e5, e6⟩)
 refine fe Tryz.func24 fun S0 w0 => ?_
 show Sim _ _ [(0, pW bg), (1, ei i), (2, ei pick)] ((bg, ⟨tG, gC g.conf a bm wv, 13⟩) :: (bm, ⟨.map em clk, [], 0⟩) :: (W ++ gM a g.k)) _
 refine zC ?_
 refine cr <| s_ Qb <| zC ?_
 refine cr <| s_ Qa <| s_ Qa ?_
 refine QI hI (fun r H' ⟨hr1, hr2⟩ => ?_)
 subst hr1 hr2
 refine s_ YA <| zC ?_
 refine ci (p := ¬ isI i) (fun h => absurd hi h) (fun _ => ?_)
 show Sim _ _ _ ((bg, ⟨tG, gC g.conf a bm wv, 13⟩) :: (bm, ⟨.map em clk, [], 0⟩) :: (W ++ gM a g.k)) _
 refine zC ?_
 refine cr <| s_ Qa <| s_ Qa <| s_ Qe <| s_ Qd <| s_ YX <| s_ Qb <| zC ?_
 refine cr <| s_ Qa <| s_ Qe <| s_ Qd <| s_ (Ql (hd := hcd)) <| s_ Qe ?_
 (first | refine s_ Lh ?_ | refine s_ Qd ?_)
 refine Q2 hSt hp0 (fun r H' ⟨hr1, hr2⟩ => ?_)
 subst hr1 hr2
 refine QA List.perm_append_comm ?_
 refine zC ?_
 refine cr <| s_ Qa <| s_ Qe <| s_ Qd <| s_ (Ql (hd := hcd)) <| s_ Qa ?_
 refine Q2 hCr List.perm_append_comm (fun r H' ⟨hr1, hr2⟩ => ?_)
 subst hr1 hr2
 refine QA List.perm_append_comm ?_
 refine zC ?_
 refine cm [9] (.yields 0 (.yields 1 (.yields 2 (.yields 3 (.yields 4 (.yields 5 (.yields 6 (.yields 7 (.yields 8 (.alt 9 (.yields 10 (.yields 11 (.yields 12 (.yields 13 (.yields 14 .done))))) .stop)))))))))) <| m_ (fun _ => Qa) <| m_ (fun _ => Qe) <| m_ (fun _ => Qd) <| Bk (hd := hcd) ?_
 refine m_ (fun _ => Qa) <| m_ (fun _ => Qa) <| m_ (fun _ => Qe) <| m_ (fun _ => Qd) <| Bk ?_
 refine ⟨?_, trivial⟩
 refine BZ hOp List.perm_append_comm (fun r H' ⟨bk', bj', K2, hr1, hr2, hL2, hN2, hlf, hrm⟩ => ⟨?_, ?_⟩)
 ·subst hr1 hr2; exact zd
 subst hr1 hr2
 refine m_ (fun _ => Qa) <| m_ (fun _ => QH) <| m_ (fun _ => QH) <| m_ (fun _ => Qb) <| m_ (fun _ => Qb) <| zC ?_
 refine XV List.perm_append_comm ?_
 refine zC ?_
 refine cr <| s_ Qa <| s_ XF <| zC ?_
 refine ci ?_ ?_
 rotate_left
 ·intro h; exact absurd rfl h
 intro _
 refine zC ?_
 refine cr <| s_ Qa <| s_ Qa <| s_ Qe <| s_ Qd <| Qz (hc := hst bk' bj') ?_
 refine zC ?_
 refine cr <| s_ Qb <| zC ?_
 refine zR ?_
 refine rhp (Ih (G := gM (upA a i.toNat ⟨bd, bk', bj'⟩) (upA g.k i.toNat K2)) ?_) (.skip _ _ _ (.skip _ _ _ kR)) ⟨rfl, K2, ⟨upA a i.toNat ⟨bd, bk', bj'⟩, bm, em, clk, W, wv, hAw, hO, ?_⟩, hL2, hN2, hlf, hrm.trans z4⟩ (Le.refl _)
 ·have := hpU bk' bj' K2
  unfold upA at this ⊢
  simp only [if_pos] at this
  exact this
 ·show _ = gH bg g.conf _ bm em clk W wv (Gp.k { g with ks := g.ks.set i.toNat K2 })
  unfold gH
  rw [Dw _ (upA g.k i.toNat K2) _ (fun j hj => hgk K2 j hj)]
end Go.Proofs.YtjbokbikkcfjjaaGreat
